/-
  Parts of the proof, joined by a program of this work: KBridge, KOpens, KOpensF, KLawFilmDumps.
-/
import Derived.ChangeSame
import Derived.ReadAgain
import Derived.ChangeReads
import Derived.JoinedCond
import Derived.Carry
import Derived.ProofKit
import Derived.OpenShut
import Derived.Test.YtlolgojfeijjhaaGreatDoorQah
import Derived.Test.YtlolgojfeijjhaaGreatDoorQap
import Derived.Test.YtlolgojfeijjhaaGreatDoorQaj
set_option linter.unusedSimpArgs false
set_option linter.unusedVariables false
set_option maxHeartbeats 8000000
set_option maxRecDepth 20000
section
namespace Go.K
open Go Go.ChangeShapes
structure Bulk (H : Type) where
 f : DataW H → Nat
 el : ∀ elems spare d, d ∈ elems → f d ≤ f (.slice elems spare)
 ln : ∀ elems spare, elems.length ≤ f (.slice elems spare)
 pt : ∀ parts d, d ∈ parts → f d ≤ f (.agg parts)
def immW (w : World) : Nat → Prop := fun g => g < w.heap.size
section
variable {H : Type} (B : Bulk H) (enc : TypeId × Value → H) (P : Program) (w : World)
structure Opens (t : TypeId) (n : Nat) {α : Type} (cells : α → List D) (ok : Nat → α → Prop) : Prop where
 size : P.cellsOf t = n
 len : ∀ a, (cells a).length = n
 mono : ∀ b b' a, b ≤ b' → ok b a → ok b' a
 read : ∀ fuel cs d ps, DataW.trod enc P w 0 (fun _ => true) true fuel t cs = some (d, ps) →
  ∃ a, ok (B.f d) a ∧ cs.length = n ∧ ∀ j, j < n → RepC (immW w) w ((cells a).getD j .np) (cs.getD j undef)
variable {B enc P w}
theorem opens_bool {t : TypeId} (ht : P.underlying t = some .bool) (hc : P.cellsOf t = 1) : Opens B enc P w t 1 (fun b : Bool => [.b b]) (fun _ _ => True) := by
 refine ⟨hc, (by first | exact rfl | exact fun _ => rfl), fun _ _ _ _ h => h, fun fuel cs d ps h => ?_⟩
 cases fuel with
 | zero => simp [DataW.trod] at h
 | succ n =>
  unfold DataW.trod at h
  rw [ht] at h
  rcases cs with _ | ⟨v, _ | ⟨v2, r⟩⟩
  ·simp at h
  ·cases v <;> simp at h
   rename_i b
   obtain ⟨rfl, rfl⟩ := h
   refine ⟨b, trivial, rfl, fun j hj => ?_⟩
   obtain rfl : j = 0 := by omega
   exact .b _
  ·simp at h
theorem opens_u32 {t : TypeId} (ht : P.underlying t = some (.int .u32)) (hc : P.cellsOf t = 1) : Opens B enc P w t 1 (fun m : Nat => [.i .u32 (Ω .ci m)]) (fun _ m => m < 4294967296) := by
 refine ⟨hc, (by first | exact rfl | exact fun _ => rfl), fun _ _ _ _ h => h, fun fuel cs d ps h => ?_⟩
 cases fuel with
 | zero => simp [DataW.trod] at h
 | succ n =>
  unfold DataW.trod at h
  rw [ht] at h
  rcases cs with _ | ⟨v, _ | ⟨v2, r⟩⟩
  ·simp at h
  ·cases v <;> simp at h
   rename_i k' n'
   obtain ⟨⟨rfl, hw⟩, rfl, rfl⟩ := h
   simp [Lit.wf, IntKind.min, IntKind.max, IntKind.signed, IntKind.bits] at hw
   refine ⟨n'.toNat, by omega, rfl, fun j hj => ?_⟩
   obtain rfl : j = 0 := by omega
   have : Ω .ci n'.toNat = n' := by simp only [wz]; omega
   show RepC _ _ (.i .u32 (Ω .ci n'.toNat)) _
   rw [this]
   exact .i _ _
  ·simp at h
theorem opens_i64 {t : TypeId} (ht : P.underlying t = some (.int .i64)) (hc : P.cellsOf t = 1) : Opens B enc P w t 1 (fun m : Int => [.i .i64 m]) (fun _ m => -9223372036854775808 ≤ m ∧ m ≤ 9223372036854775807) := by
 refine ⟨hc, (by first | exact rfl | exact fun _ => rfl), fun _ _ _ _ h => h, fun fuel cs d ps h => ?_⟩
 cases fuel with
 | zero => simp [DataW.trod] at h
 | succ n =>
  unfold DataW.trod at h
  rw [ht] at h
  rcases cs with _ | ⟨v, _ | ⟨v2, r⟩⟩
  ·simp at h
  ·cases v <;> simp at h
   rename_i k' n'
   obtain ⟨⟨rfl, hw⟩, rfl, rfl⟩ := h
   simp [Lit.wf, IntKind.min, IntKind.max, IntKind.signed, IntKind.bits] at hw
   refine ⟨n', by omega, rfl, fun j hj => ?_⟩
   obtain rfl : j = 0 := by omega
   exact .i _ _
  ·simp at h
theorem add_block (a : Addr) (k : Nat) : (a.add k).block = a.block := by unfold Addr.add; split <;> rfl
theorem collect {α : Type} : ∀ (len : Nat) (p : Nat → α → Prop), (∀ i, i < len → ∃ x, p i x) → ∃ xs : List α, xs.length = len ∧ ∀ i (hi : i < len) (hx : i < xs.length), p i xs[i]
 | 0, _, _ => ⟨[], rfl, fun i hi => absurd hi (Nat.not_lt_zero _)⟩
 | len + 1, p, h => by
  obtain ⟨x, hx⟩ := h 0 (by omega)
  obtain ⟨xs, hl, hxs⟩ := collect len (fun i => p (i + 1)) (fun i hi => h (i + 1) (by omega))
  refine ⟨x :: xs, by simp [hl], fun i hi hx' => ?_⟩
  cases i with
  | zero => exact hx
  | succ i => exact hxs i (by omega) (by simpa using hx')
def el1 (agg : Bool) (cs : List D) : D := if agg then .agg cs else cs.headD .np
theorem opens_slice {t e : TypeId} {n : Nat} {α : Type} {cells : α → List D} {ok : Nat → α → Prop} (agg : Bool) (ht : P.underlying t = some (.slice e)) (hc : P.cellsOf t = 1) (he : Opens B enc P w e n cells ok) (hn : 0 < n)
  (hcells : ∀ a, (el1 agg (cells a)).cells = cells a) :
  Opens B enc P w t 1 (fun l : List α => [.sl (l.map fun a => el1 agg (cells a))]) (fun b l => l.length ≤ b ∧ ∀ a, a ∈ l → ok b a) := by
 refine ⟨hc, (by first | exact rfl | exact fun _ => rfl), fun b b' l hb h => ⟨Nat.le_trans h.1 hb, fun a ha => he.mono _ _ _ hb (h.2 a ha)⟩, fun fuel cs d ps h => ?_⟩
 cases fuel with
 | zero => simp [DataW.trod] at h
 | succ fuel =>
  unfold DataW.trod at h
  rw [ht] at h
  rcases cs with _ | ⟨v, _ | ⟨v2, r⟩⟩
  ·simp at h
  ·cases v with
   | slice base len cap =>
    cases base with
    | none =>
     have hl : len = 0 ∧ cap = 0 := by
      rcases len with _ | len
      ·rcases cap with _ | cap
       ·exact ⟨rfl, rfl⟩
       ·simp at h
      ·simp at h
     obtain ⟨rfl, rfl⟩ := hl
     refine ⟨[], ⟨Nat.zero_le _, fun a ha => by cases ha⟩, rfl, fun j hj => ?_⟩
     obtain rfl : j = 0 := by omega
     exact .sl0 _ _
    | some a =>
     simp only [he.size] at h
     split at h
     ·rename_i hcond
      obtain ⟨_, hlc, hcm⟩ := hcond
      rw [Option.bind_eq_some_iff] at h
      obtain ⟨elems, hel, h⟩ := h
      rw [Option.map_eq_some_iff] at h
      obtain ⟨rest, _, h⟩ := h
      cases h
      have hlen := mapM_some_length hel
      simp only [List.length_range] at hlen
      have hget := fun i (hi : i < len) => mapM_some_get hel i i (by simp [hi])
      have each : ∀ i, i < len → ∃ x, ok (B.f (.slice (elems.map (·.1)) (rest.map (·.1)))) x ∧ (0 < n → a.block < w.heap.size) ∧ ∀ j, j < n → ∃ u, w.cell? (a.add (i * n) |>.add j) = some u ∧ RepC (immW w) w ((cells x).getD j .np) u := fun i hi => by
       have h1 := hget i hi
       have hi' : i < elems.length := by omega
       rw [List.getElem?_eq_getElem hi', Option.bind_eq_some_iff] at h1
       obtain ⟨cs, hcs, hrd⟩ := h1
       obtain ⟨_, hcl, hcell⟩ := World.cells?_some hcs
       obtain ⟨x, hok, hxl, hrep⟩ := he.read fuel cs _ _ (show _ = some ((elems[i]).1, (elems[i]).2) from hrd)
       refine ⟨x, he.mono _ _ _ (B.el _ _ _ (List.mem_map_of_mem (List.getElem_mem hi'))) hok, fun hn => by have := World.cells?_block hcs hn; rwa [add_block] at this, fun j hj => ?_⟩
       have hj' : j < cs.length := by omega
       refine ⟨cs[j], by rw [hcell j hj, List.getElem?_eq_getElem hj'], ?_⟩
       have := hrep j hj
       rwa [show cs.getD j undef = cs[j] by simp [List.getD, hj']] at this
      obtain ⟨xs, hxl, hxs⟩ := collect len _ each
      refine ⟨xs, ⟨by rw [hxl, ← hlen]; have := B.ln (elems.map (·.1)) (rest.map (·.1)); simpa using this, fun x hx => ?_⟩, rfl, fun j hj => ?_⟩
      ·obtain ⟨i, hi, rfl⟩ := List.getElem_of_mem hx
       exact (hxs i (by omega) hi).1
      ·obtain rfl : j = 0 := by omega
       show RepC _ _ (.sl (xs.map fun a => el1 agg (cells a))) (.slice (some a) len cap)
       rcases Nat.eq_zero_or_pos len with h0 | h0
       ·subst h0
        have : xs = [] := List.eq_nil_of_length_eq_zero hxl
        subst this
        exact .sl0 _ _
       ·have h1 := hxs 0 h0 (by omega)
        obtain ⟨u, hu, _⟩ := h1.2.2 0 hn
        have hb := h1.2.1 hn
        rw [Nat.zero_mul] at hu
        have hu' : w.cell? a = some u := by simpa [Addr.add] using hu
        obtain ⟨bk, off, spot⟩ := a
        unfold World.cell? at hu'
        split at hu'
        ·rename_i c T fr hblk
         split at hu'
         ·cases hu'
         ·rename_i hsp
          have hspot : spot = none := by cases spot <;> simp_all
          subst hspot
          have hml : (xs.map fun a => el1 agg (cells a)).length = len := by simp [hxl]
          have key : ∀ i j, i < len → j < n → off + (i * n + j) < c.size ∧ ∃ u, c.getD (off + (i * n + j)) undef = u ∧ ∃ x, xs[i]? = some x ∧ RepC (immW w) w ((cells x).getD j .np) u := fun i j hi hj => by
           have hix : i < xs.length := by omega
           obtain ⟨u, hu, hr⟩ := (hxs i hi hix).2.2 j hj
           have e : ((⟨bk, off, none⟩ : Addr).add (i * n)).add j = ⟨bk, off + (i * n + j), none⟩ := by
            unfold Addr.add
            by_cases q1 : i * n = 0 <;> by_cases q2 : j = 0 <;> simp [q1, q2, Nat.add_assoc]
           rw [e] at hu
           have hblk' : w.heap[bk]? = some (.cells c T fr) := hblk
           simp only [World.cell?, hblk'] at hu
           have hu2 : c[off + (i * n + j)]? = some u := by simpa using hu
           obtain ⟨hlt, hval⟩ := Array.getElem?_eq_some_iff.1 hu2
           exact ⟨hlt, u, by simp [Array.getD, hlt, hval], xs[i], List.getElem?_eq_getElem hix, hr⟩
          have := RepC.sl (imm := immW w) (w := w) (xs.map fun a => el1 agg (cells a)) bk off cap n c T fr (fun q => by rw [q] at hml; simp at hml; omega) hb hblk (by rw [hml]; exact hlc)
           (fun x hx => by
            obtain ⟨a, _, rfl⟩ := List.mem_map.1 hx
            rw [hcells, he.len])
           (fun i j hi hj => (key i j (by omega) hj).1)
           (fun i j hi hj => by
            obtain ⟨_, u, hu, x, hx, hr⟩ := key i j (by omega) hj
            have e : (xs.map fun a => el1 agg (cells a)).getD i .np = el1 agg (cells x) := by
             simp [List.getD, hx]
            rw [e, hcells, hu]
            exact hr)
          rw [hml] at this
          exact this
        ·cases hu'
     ·cases h
   | _ => simp at h
  ·simp at h
theorem opens_map {t : TypeId} {n : Nat} {α β : Type} {cells : α → List D} {ok : Nat → α → Prop} (h : Opens B enc P w t n cells ok) (g : α → β) (cells' : β → List D) (ok' : Nat → β → Prop)
  (hc : ∀ a, cells' (g a) = cells a) (hl : ∀ b, (cells' b).length = n) (hm : ∀ b b' a, b ≤ b' → ok' b a → ok' b' a) (hok : ∀ b a, ok b a → ok' b (g a)) : Opens B enc P w t n cells' ok' :=
 ⟨h.size, hl, hm, fun fuel cs d ps q => by
  obtain ⟨a, h1, h2, h3⟩ := h.read fuel cs d ps q
  exact ⟨g a, hok _ _ h1, h2, by rw [hc]; exact h3⟩⟩
variable (B enc P w) in
structure OpensF (fs : List Field) (off n : Nat) {α : Type} (cells : α → List D) (ok : Nat → α → Prop) : Prop where
 len : ∀ a, (cells a).length = n
 mono : ∀ b b' a, b ≤ b' → ok b a → ok b' a
 read : ∀ (fuel : Nat) (cs : List Value) (ys : List (DataW H × List MemPlace)), (fs.mapM fun f => DataW.trod enc P w 0 (fun _ => true) true fuel f.type ((cs.drop f.offset).take (P.cellsOf f.type))) = some ys → ∀ b, (∀ y, y ∈ ys → B.f y.1 ≤ b) →
  ∃ a, ok b a ∧ ∀ j, j < n → RepC (immW w) w ((cells a).getD j .np) (cs.getD (off + j) undef)
theorem opensF_nil (off : Nat) : OpensF B enc P w [] off 0 (fun _ : Unit => []) (fun _ _ => True) :=
 ⟨(by first | exact rfl | exact fun _ => rfl), fun _ _ _ _ h => h, fun _ _ _ _ _ _ => ⟨(), trivial, fun j hj => absurd hj (Nat.not_lt_zero _)⟩⟩
theorem opensF_cons {f : Field} {fs : List Field} {off n1 n2 : Nat} {α β : Type} {c1 : α → List D} {c2 : β → List D} {ok1 : Nat → α → Prop} {ok2 : Nat → β → Prop} (ho : f.offset = off)
  (h1 : Opens B enc P w f.type n1 c1 ok1) (h2 : OpensF B enc P w fs (off + n1) n2 c2 ok2) : OpensF B enc P w (f :: fs) off (n1 + n2) (fun x : α × β => c1 x.1 ++ c2 x.2) (fun b x => ok1 b x.1 ∧ ok2 b x.2) := by
 refine ⟨fun x => by simp [h1.len, h2.len], fun b b' x hb h => ⟨h1.mono _ _ _ hb h.1, h2.mono _ _ _ hb h.2⟩, fun fuel cs ys h b hb => ?_⟩
 rw [List.mapM_cons] at h
 rw [show (do
       let r ← DataW.trod enc P w 0 (fun _ => true) true fuel f.type ((cs.drop f.offset).take (P.cellsOf f.type))
       let rs ← fs.mapM fun f => DataW.trod enc P w 0 (fun _ => true) true fuel f.type ((cs.drop f.offset).take (P.cellsOf f.type))
       pure (r :: rs)) = (DataW.trod enc P w 0 (fun _ => true) true fuel f.type ((cs.drop f.offset).take (P.cellsOf f.type))).bind fun r =>
       (fs.mapM fun f => DataW.trod enc P w 0 (fun _ => true) true fuel f.type ((cs.drop f.offset).take (P.cellsOf f.type))).bind fun rs => some (r :: rs) from rfl] at h
 rw [Option.bind_eq_some_iff] at h
 obtain ⟨r, hr, h⟩ := h
 rw [Option.bind_eq_some_iff] at h
 obtain ⟨rs, hrs, h⟩ := h
 cases h
 obtain ⟨a, k1, k2, k3⟩ := h1.read fuel _ r.1 r.2 hr
 obtain ⟨x, m1, m2⟩ := h2.read fuel cs rs hrs b (fun y hy => hb y (by simp [hy]))
 refine ⟨(a, x), ⟨h1.mono _ _ _ (hb r (by simp)) k1, m1⟩, fun j hj => ?_⟩
 rw [h1.size, ho] at k2 k3
 rcases Nat.lt_or_ge j n1 with q | q
 ·have := k3 j q
  rw [List.length_take, List.length_drop] at k2
  have e1 : ((cs.drop off).take n1).getD j undef = cs.getD (off + j) undef := by
   simp [List.getD, List.getElem?_take, q, List.getElem?_drop]
  have e2 : (c1 a ++ c2 x).getD j .np = (c1 a).getD j .np := by
   simp [List.getD, List.getElem?_append, h1.len, q]
  rw [e1] at this
  rw [e2]
  exact this
 ·have := m2 (j - n1) (by omega)
  have e2 : (c1 a ++ c2 x).getD j .np = (c2 x).getD (j - n1) .np := by
   have : ¬ j < n1 := by omega
   simp [List.getD, List.getElem?_append, h1.len, this]
  rw [e2]
  rwa [show off + n1 + (j - n1) = off + j by omega] at this
theorem opens_struct {t : TypeId} {fs : Array Field} {n : Nat} {α : Type} {cells : α → List D} {ok : Nat → α → Prop} (ht : P.underlying t = some (.struct fs)) (hc : P.cellsOf t = n)
  (h : OpensF B enc P w fs.toList 0 n cells ok) : Opens B enc P w t n cells ok := by
 refine ⟨hc, h.len, h.mono, fun fuel cs d ps q => ?_⟩
 cases fuel with
 | zero => simp [DataW.trod] at q
 | succ fuel =>
  unfold DataW.trod at q
  rw [ht] at q
  have q' : (if cs.length = P.cellsOf t then (fs.toList.mapM fun f => DataW.trod enc P w 0 (fun _ => true) true fuel f.type ((cs.drop f.offset).take (P.cellsOf f.type))).map fun xs => ((.agg (xs.map (·.1)) : DataW H), xs.flatMap (·.2)) else none) = some (d, ps) := by
   rcases cs with _ | ⟨v, _ | ⟨v2, r⟩⟩
   ·exact q
   ·cases v <;> exact q
   ·exact q
  split at q'
  ·rename_i hl
   rw [Option.map_eq_some_iff] at q'
   obtain ⟨ys, hys, e⟩ := q'
   cases e
   obtain ⟨a, k1, k2⟩ := h.read fuel cs ys hys (B.f (.agg (ys.map (·.1)))) (fun y hy => B.pt _ _ (List.mem_map_of_mem hy))
   refine ⟨a, k1, by omega, fun j hj => ?_⟩
   have := k2 j hj
   rwa [Nat.zero_add] at this
  ·cases q'
theorem repD_agg {t : TypeId} {n : Nat} {cs : List D} {v : Value} (hagg : (∃ fs, P.underlying t = some (.struct fs)) ∨ ∃ k e, P.underlying t = some (.array k e)) (hok : ∃ base, Value.okWide P w .any base t v) (hn : v.cells.toList.length = n) (hl : cs.length = n)
  (h : ∀ j, j < n → RepC (immW w) w (cs.getD j .np) (v.cells.toList.getD j undef)) : RepD (immW w) w (.agg cs) v := by
 obtain ⟨base, hok⟩ := hok
 have : ∃ vs, v = .agg vs := by
  unfold Value.okWide at hok
  rcases hagg with ⟨fs, e⟩ | ⟨k, e', e⟩ <;> rw [e] at hok <;> obtain ⟨vs, rfl, _⟩ := hok <;> exact ⟨vs, rfl⟩
 obtain ⟨vs, rfl⟩ := this
 refine ⟨vs, rfl, by rw [hl, ← hn]; simp [Value.cells], fun j hj => ?_⟩
 have := h j (by omega)
 have e : (Value.agg vs).cells.toList.getD j undef = vs.getD j undef := by
  simp [Value.cells, List.getD, Array.getD_eq_getD_getElem?]
 rwa [e] at this
end
end Go.K
namespace Go.K
open Go Go.ChangeShapes Go.RowKit
section
variable {H : Type} {enc : TypeId × Value → H} {P : Program}
theorem post_true {f : Func} {s : ChangeSpec} {apart fresh handsOn again : Bool} {W W' : World} {args : Array Value} {v : Value} {ds gs : List (DataW H)} {before pa pv : List MemPlace}
  (hW : DataW.Whole enc P f.params.toList s.vars apart W args.toList ds gs before)
  (hres : ∀ (b : Nat) (sp : Nat → Bool) (hd : Bool), DataW.TrodAll enc P W' b sp hd f.resultTypes.toList (v.resultList f.resultTypes.size) (s.fn H (ds ++ gs)).results [])
  (hargs : ∀ sp : Nat → Bool, (∀ p ∈ before, sp p.block = true) → DataW.TrodAll enc P W' 0 sp true f.params.toList args.toList (s.fn H (ds ++ gs)).args pa)
  (hvars : ∀ sp : Nat → Bool, (∀ p ∈ before, sp p.block = true) → DataW.TrodVars enc P W' sp s.vars (s.fn H (ds ++ gs)).vars pv)
  (hps : before = pa ++ pv) (hk : W.keptBut W' (· ∈ before)) (hfz : ∀ a : Addr, a.block < W.heap.size → W'.frozen? a = W.frozen? a)
  (hok : ∀ (j : Nat) (t : TypeId) (r : Value), f.resultTypes[j]? = some t → (v.resultList f.resultTypes.size)[j]? = some r → Value.okWide P W' .any 0 t r) :
  s.post enc P f apart fresh handsOn again W args v W' := by
 have hlt := hW.lt
 have hold : ∀ p ∈ before, (fun b => decide (b < W.heap.size)) p.block = true := fun p hp => by simpa using hlt p hp
 refine ⟨ds, gs, before, [], pa, pv, hW, hres _ _ _, hargs _ hold, hvars _ hold, World.keptBut_mono (fun p hp => ⟨hp, ?_⟩) hk, fun _ => ?_⟩
 ·rw [hps, List.mem_append] at hp
  exact Or.inr hp
 ·obtain ⟨_, _, _, _, _, hz, hn⟩ := hW
  refine ⟨hok, _, _, ([] ++ pa) ++ pv, ⟨[] ++ pa, pv, trodAll_append (hargs _ (fun _ _ => rfl)) (hres _ _ _), hvars _ (fun _ _ => rfl), rfl, ?_, ?_⟩, ?_⟩
  ·intro b off hp
   have hp' : MemPlace.cell b off ∈ before := by rw [hps]; simpa using hp
   rw [hfz ⟨b, off, none⟩ (hlt _ hp')]
   exact hz b off hp'
  ·intro ha
   have := hn ha
   rw [hps] at this
   simpa using this
  ·intro p hp _
   rw [hps]
   simpa using hp
theorem trodAll_stays (hl : laidOutB P = true) {W W' : World} (hb : Below W.heap.size W W') {sp : Nat → Bool} : ∀ {ts : List TypeId} {vs : List Value} {ds : List (DataW H)} {ps : List MemPlace},
  (∀ t, t ∈ ts → P.readableRec t = true ∧ t < P.types.size) → DataW.TrodAll enc P W 0 (fun _ => true) true ts vs ds ps → (∀ p, p ∈ ps → sp p.block = true) → (∀ p, p ∈ ps → p.block < W.heap.size) → DataW.TrodAll enc P W' 0 sp true ts vs ds ps
 | [], _, _, _, _, h, _, _ => by
  obtain ⟨rfl, rfl, rfl⟩ := trodAll_nil h
  exact rfl
 | t :: ts, _, _, _, ht, h, hs, hlt => by
  obtain ⟨v, vs1, d, ds1, a, b, rfl, rfl, rfl, h1, h2⟩ := trodAll_cons h
  exact ⟨a, b, WideElems.Trod_stays hl (ht t (by simp)).1 (ht t (by simp)).2 h1 (fun x hx => hb.same (hlt x (by simp [hx]))) (fun x hx => hs x (by simp [hx])),
   trodAll_stays hl hb (fun t h => ht t (by simp [h])) h2 (fun x hx => hs x (by simp [hx])) (fun x hx => hlt x (by simp [hx])), rfl⟩
theorem inv_start (w : World) : Inv (fun _ => none) (immW w) (mkH []) w :=
 ⟨fun id B h => (by rw [mkH_nil] at h; cases h), fun _ _ => rfl, fun g o => absurd o (not_owned_nil _ g), fun a b A B x y g h1 => (by rw [mkH_nil] at h1; cases h1), fun _ h => h⟩
theorem below_of_evo {w w' : World} {ι : Nat → Option Value} {imm imm' : Nat → Prop} (e : Evo (fun _ => none) imm (mkH []) w ι imm' (mkH []) w') : Below w.heap.size w w' :=
 ⟨e.os, e.tape, e.output, e.size, fun g hg => e.keep g hg (not_owned_nil _ g)⟩
theorem row_contract {f : FuncId} {fn : Func} {s : ChangeSpec} {apart : Bool} {avs : List V} {W : World} {args : Array Value} {ds gs : List (DataW H)} {before : List MemPlace}
  (hgood : GoodB P f avs [] (.d (.b true)) []) (hsz : args.size = avs.length) (hrep : ∀ j, j < avs.length → RepV (fun _ => none) (immW W) W (avs.getD j .junk) (args.getD j undef))
  (hW : DataW.Whole enc P fn.params.toList s.vars apart W args.toList ds gs before) (hv : s.vars = [])
  (hl : laidOutB P = true) (hread : ∀ t, t ∈ fn.params.toList → P.readableRec t = true ∧ t < P.types.size)
  (hres : (s.fn H (ds ++ gs)).results = [.lit (.bool true)]) (hargs : (s.fn H (ds ++ gs)).args = ds) (hvars : (s.fn H (ds ++ gs)).vars = [])
  {tb : TypeId} (hrt : fn.resultTypes = #[tb]) (htb : P.underlying tb = some .bool) :
  Calls P f args W fun e W' => ∃ v, e = .returned v ∧ s.post enc P fn apart true false false W args v W' := by
 have hW' := hW
 obtain ⟨p, q, hA, hV, rfl, hfz, hnd⟩ := hW
 rw [hv] at hV
 obtain ⟨rfl, rfl⟩ : gs = [] ∧ q = [] := by
  cases gs with
  | nil => exact ⟨rfl, hV⟩
  | cons g gs => exact hV.elim
 have hlt : ∀ x, x ∈ p → x.block < W.heap.size := fun x hx => hW'.lt x (by simp [hx])
 refine (hgood.2 _ _ W args (inv_start W) hsz hrep).mono fun e W' => ?_
 rintro ⟨v, ι', imm', he, ev, I, hr⟩
 have hvb : v = .bool true := by
  have : RepC imm' W' (.b true) v := hr
  cases this
  rfl
 subst hvb
 have hb := below_of_evo ev
 refine ⟨_, he, post_true (pa := p) (pv := []) hW' (fun b sp hd => ?_) (fun sp hsp => ?_) (fun sp _ => ?_) rfl (hb.frame _) (fun a ha => hb.frozen ha) ?_⟩
 ·rw [hres, hrt]
  exact trodAll_cons_mk (shut_bool htb _) trodAll_mk0
 ·rw [hargs]
  exact trodAll_stays hl hb hread hA (fun x hx => hsp x (by simp [hx])) hlt
 ·rw [hvars, hv]
  exact rfl
 ·exact ok_one hrt rfl (okWide_bool_mk htb _)
end
end Go.K
end
section
namespace Go.K
end Go.K
namespace Go.K.S
open Go Go.K
section
variable {H : Type} (B : Bulk H) (enc : TypeId × Value → H) (w : World)
theorem und_of {T : TypeId} {i : TInfo} {u : TypeDesc} (h : tt T = some i) (hu : i.und = u) : P.underlying T = some u := hu ▸ (ttOk T i h).und
theorem opens_limbs : Opens B enc P w T.L_uint32 1 (fun l : List Nat => [dN Ψ l]) (fun b l => lim l ∧ l.length ≤ b) :=
 opens_map (opens_slice (B := B) (enc := enc) (w := w) (t := T.L_uint32) false (und_of rfl rfl) (by kernel_rfl) (opens_u32 (B := B) (enc := enc) (w := w) (t := T.uint32) (und_of rfl rfl) (by kernel_rfl)) (by omega) (fun _ => rfl))
  (fun l => l) _ _ (fun l => rfl) (fun _ => rfl) (fun _ _ _ hb h => ⟨h.1, Nat.le_trans h.2 hb⟩) (fun b l h => ⟨h.2, h.1⟩)
theorem opens_rat : Opens B enc P w T.api_Rat 3 (dR Ψ) Rn :=
 opens_map (opens_struct (t := T.api_Rat) (und_of rfl rfl) (by kernel_rfl)
   (opensF_cons (f := { name := "Neg", type := T.bool, offset := 0, embedded := false, tag := "", pkgPath := "", byteOffset := 0 }) rfl (opens_bool (t := T.bool) (und_of rfl rfl) (by kernel_rfl))
    (opensF_cons (f := { name := "Num", type := T.L_uint32, offset := 1, embedded := false, tag := "", pkgPath := "", byteOffset := 8 }) rfl (opens_limbs B enc w)
     (opensF_cons (f := { name := "Den", type := T.L_uint32, offset := 2, embedded := false, tag := "", pkgPath := "", byteOffset := 32 }) rfl (opens_limbs B enc w) (opensF_nil _)))))
  (fun x => ⟨x.1, x.2.1, x.2.2.1⟩) _ _ (fun _ => rfl) (fun _ => rfl) (fun _ _ _ hb h => h.mono hb) (fun b x h => ⟨h.2.1.1, h.2.2.1.1, h.2.1.2, h.2.2.1.2⟩)
end
end Go.K.S
end
section
namespace Go.K
structure FL where
 W : Int
 H : Int
 n : Int
 A : List RL
 B : List RL
def dFl (ψ : (t : Sd) → STy t) (x : FL) : List D := [.i .i64 x.W, .i .i64 x.H, .i .i64 x.n, .sl (ψ .dRs x.A), .sl (ψ .dRs x.B)]
abbrev i64 (m : Int) : Prop := -9223372036854775808 ≤ m ∧ m ≤ 9223372036854775807
structure Fln (b : Nat) (x : FL) : Prop where
 W : i64 x.W
 H : i64 x.H
 n : i64 x.n
 A : x.A.length ≤ b ∧ ∀ v, v ∈ x.A → Rn b v
 B : x.B.length ≤ b ∧ ∀ v, v ∈ x.B → Rn b v
theorem Fln.mono {b b' : Nat} {x : FL} (h : Fln b x) (hb : b ≤ b') : Fln b' x := ⟨h.W, h.H, h.n, ⟨Nat.le_trans h.A.1 hb, fun v hv => (h.A.2 v hv).mono hb⟩, ⟨Nat.le_trans h.B.1 hb, fun v hv => (h.B.2 v hv).mono hb⟩⟩
end Go.K
namespace Go.K.S
open Go Go.K
section
variable {H : Type} (B : Bulk H) (enc : TypeId × Value → H) (w : World)
theorem opens_int : Opens B enc P w T.int 1 (fun m : Int => [.i .i64 m]) (fun _ m => -9223372036854775808 ≤ m ∧ m ≤ 9223372036854775807) := opens_i64 (t := T.int) (und_of rfl rfl) (by kernel_rfl)
theorem opens_rats : Opens B enc P w T.L_api_Rat 1 (fun l : List RL => [.sl (Ψ .dRs l)]) (fun b l => l.length ≤ b ∧ ∀ v, v ∈ l → Rn b v) :=
 opens_map (opens_slice (t := T.L_api_Rat) true (und_of rfl rfl) (by kernel_rfl) (opens_rat B enc w) (by omega) (fun _ => rfl))
  (fun l => l) _ _ (fun l => rfl) (fun _ => rfl) (fun _ _ _ hb h => ⟨Nat.le_trans h.1 hb, fun v hv => (h.2 v hv).mono hb⟩) (fun b l h => h)
theorem opens_film : Opens B enc P w T.api_Film 5 (fun x : FL => dFl Ψ x) Fln :=
 opens_map (opens_struct (t := T.api_Film) (und_of rfl rfl) (by kernel_rfl)
   (opensF_cons (f := { name := "W", type := T.int, offset := 0, embedded := false, tag := "", pkgPath := "", byteOffset := 0 }) rfl (opens_int B enc w)
    (opensF_cons (f := { name := "H", type := T.int, offset := 1, embedded := false, tag := "", pkgPath := "", byteOffset := 8 }) rfl (opens_int B enc w)
     (opensF_cons (f := { name := "Bins", type := T.int, offset := 2, embedded := false, tag := "", pkgPath := "", byteOffset := 16 }) rfl (opens_int B enc w)
      (opensF_cons (f := { name := "A", type := T.L_api_Rat, offset := 3, embedded := false, tag := "", pkgPath := "", byteOffset := 24 }) rfl (opens_rats B enc w)
       (opensF_cons (f := { name := "B", type := T.L_api_Rat, offset := 4, embedded := false, tag := "", pkgPath := "", byteOffset := 48 }) rfl (opens_rats B enc w) (opensF_nil _)))))))
  (fun x => ⟨x.1, x.2.1, x.2.2.1, x.2.2.2.1, x.2.2.2.2.1⟩) _ _ (fun _ => rfl) (fun _ => rfl) (fun _ _ _ hb h => h.mono hb)
  (fun b x h => ⟨h.1, h.2.1, h.2.2.1, h.2.2.2.1, h.2.2.2.2.1⟩)
end
end Go.K.S
end
section
namespace Go.K.S
open Go Go.K
theorem lng_Rn {r : RL} {k : Nat} (h : Rn k r) (hl : lng r = false) : Rn 200 r := by
 unfold lng at hl
 simp only [Bool.or_eq_false_iff, lt_false] at hl
 simp only [wz] at hl
 exact ⟨h.ln, h.ld, by omega, by omega⟩
theorem any_lng {l : List RL} {k : Nat} (h : ∀ r, r ∈ l → Rn k r) (hl : l.any lng = false) : ∀ r, r ∈ l → Rn 200 r := fun r hr =>
 lng_Rn (h r hr) (by
  cases q : lng r with
  | false => rfl
  | true => rw [List.any_eq_true.2 ⟨r, hr, q⟩] at hl; cases hl)
end Go.K.S
end
