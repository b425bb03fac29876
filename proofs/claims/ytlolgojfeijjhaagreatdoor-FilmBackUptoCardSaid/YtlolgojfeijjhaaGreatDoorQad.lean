/-
  Parts of the proof, joined by a program of this work: KByt, KOps4, KOps5, KOps6.
-/
import Derived.Test.YtlolgojfeijjhaaGreatDoorQab
import Derived.Lib.UnsafeStr
import Derived.Laws.IdiomStrings
import Derived.Laws.LoneSync
import Derived.Test.YtlolgojfeijjhaaGreatDoorQac
set_option linter.unusedSectionVars false
set_option linter.unusedSimpArgs false
set_option linter.unusedVariables false
section
namespace Go.K
open Go
theorem w_bcl (b : ByteArray) : Ω .bcl b = b.data.toList.map fun c => D.i .u8 (c.toNat : Int) := rfl
theorem w_dby (xs : List D) : Ω .dby xs = ⟨(xs.map fun x => match x with | .i _ n => UInt8.ofNat n.toNat | _ => 0).toArray⟩ := rfl
def bcs (l : List UInt8) : List D := l.map fun c => D.i .u8 (c.toNat : Int)
theorem byts_bcs (l : List UInt8) : Ω .byts (bcs l) := fun u hu => by
 obtain ⟨c, _, rfl⟩ := List.mem_map.1 hu
 exact ⟨c.toNat, c.toNat_lt, rfl⟩
theorem dby_bcs (l : List UInt8) : Ω .dby (bcs l) = ⟨l.toArray⟩ := by
 rw [w_dby, bcs, List.map_map]
 congr 2
 conv => rhs; rw [← List.map_id l]
 exact List.map_congr_left fun c _ => by simp
theorem byts_list : ∀ {xs : List D}, Ω .byts xs → ∃ l : List UInt8, xs = bcs l
 | [], _ => ⟨[], rfl⟩
 | x :: r, h => by
  obtain ⟨n, hn, rfl⟩ := h x List.mem_cons_self
  obtain ⟨l, rfl⟩ := byts_list (xs := r) fun u hu => h u (List.mem_cons_of_mem _ hu)
  refine ⟨UInt8.ofNat n :: l, ?_⟩
  have : (UInt8.ofNat n).toNat = n := by simp; omega
  simp [bcs, this]
theorem bcs_one (l : List UInt8) : ∀ u, u ∈ bcs l → u.cells.length = 1 := fun u hu => by
 obtain ⟨c, _, rfl⟩ := List.mem_map.1 hu; rfl
theorem bcs_get (l : List UInt8) (j : Nat) (x : UInt8) (h : l[j]? = some x) : ((bcs l).getD j .np).cells.getD 0 .np = .i .u8 (x.toNat : Int) := by
 simp [bcs, List.getD, h, D.cells]
theorem bcl_bcs (b : ByteArray) : Ω .bcl b = bcs b.data.toList := rfl
theorem rep_u8 {imm : Nat → Prop} {w : World} {n : Int} {v : Value} (h : RepC imm w (.i .u8 n) v) : v = .int .u8 n := by cases h; rfl
theorem bytes_cells {imm : Nat → Prop} {w : World} {l : List UInt8} {v : Value} (h : RepC imm w (.sl (bcs l)) v) (hne : l ≠ []) :
  ∃ a c, v = .slice (some a) l.length c ∧ ∀ (j : Nat) (x : UInt8), l[j]? = some x → w.cell? (a.add j) = some (.int .u8 (x.toNat : Int)) := by
 have hl : (bcs l).length = l.length := by simp [bcs]
 generalize hxs : bcs l = xs at h hl
 cases h with
 | sl0 => exact absurd (List.eq_nil_of_length_eq_zero (by simpa using hl.symm)) hne
 | sl _ g off cap sz cs T fr hx hi hg hc hu hb hr =>
  refine ⟨⟨g, off, none⟩, cap, by rw [hl], fun j x hj => ?_⟩
  have hjl : j < l.length := (List.getElem?_eq_some_iff.1 hj).1
  have hz : sz = 1 := by
   obtain ⟨u, hu'⟩ := List.exists_mem_of_ne_nil xs hx
   rw [← hu u hu']
   subst hxs
   exact bcs_one l u hu'
  subst hz
  have h1 := hr j 0 (by omega) (by omega)
  rw [← hxs, bcs_get l j x hj] at h1
  have h2 := rep_u8 h1
  have h3 := hb j 0 (by omega) (by omega)
  have e : off + (j * 1 + 0) = off + j := by omega
  rw [e] at h2 h3
  rw [addr_add, cell_of_row w g (off + j) cs T fr hg]
  simpa [Array.getD, h3] using h2
theorem flatD_ok : ∀ (cs : List V) (ds : List D), flatD cs = some ds → ds.length = cs.length ∧ ∀ j, j < cs.length → cs.getD j .junk = .d (ds.getD j .np) ∧ (ds.getD j .np).isAgg = false
 | [], ds, h => by cases h; exact ⟨rfl, fun j hj => absurd hj (Nat.not_lt_zero _)⟩
 | v :: r, ds, h => by
  cases v with
  | d x =>
   simp only [flatD] at h
   split at h
   ·cases h
   ·rename_i hx
    split at h
    ·rename_i l hl
     cases h
     obtain ⟨h1, h2⟩ := flatD_ok r l hl
     refine ⟨by simp [h1], fun j hj => ?_⟩
     cases j with
     | zero => exact ⟨rfl, by simpa using hx⟩
     | succ j => simpa using h2 j (by simpa using hj)
    ·cases h
  | _ => simp [flatD] at h
theorem cells_flat {x : D} (h : x.isAgg = false) : x.cells = [x] := by cases x <;> first | rfl | cases h
section
variable {P : Program} (w : World)
theorem run_append_room_thaw (t ty e : TypeId) (i : TypeInfo) (ht : P.underlying t = some (.slice e)) (hi : P.info? e = some i)
  (g sLen sCap : Nat) (cur : Array Value) (fz : Nat × Nat) (hg : w.heap[g]? = some (.cells cur e fz)) (hfz : thaw fz cur.size)
  (a : Addr) (m c : Nat) (news : List Value) (hl : news.length = m * i.size) (hnews : ∀ j u, news[j]? = some u → w.cell? (a.add j) = some u) (h1 : ∀ u ∈ news, u.oneCell' = true)
  (hroom : sLen + m ≤ sCap) (hfit : sLen * i.size + news.length ≤ cur.size) :
  (Builtin.append_ #[t, t] ty #[.slice (some ⟨g, 0, none⟩) sLen sCap, .slice (some a) m c]).run P w =
   .ok (.slice (some ⟨g, 0, none⟩) (sLen + m) sCap) (w.setRow g (cur.toList.take (sLen * i.size) ++ news ++ cur.toList.drop (sLen * i.size + news.length)).toArray) := by
 have hf := run_firstCells_some (P := P) w i.size m a m c news hl hnews
 have hst := run_storeCells_thaw P g (sLen * i.size) e fz news 0 cur w hg hfz (by simpa using hfit) h1
 simp only [Nat.add_zero] at hst
 simp [Builtin.append_, run_underlying ht, sizeOf, typeInfo, hi, Builtin.lenOf, hroom, hf, Addr.add_lit, hst]
theorem run_append_str_thaw (t u ty e : TypeId) (i : TypeInfo) (ht : P.underlying t = some (.slice e)) (hu : P.underlying u = some .string) (hi : P.info? e = some i) (hs1 : i.size = 1)
  (g sLen sCap : Nat) (cur : Array Value) (fz : Nat × Nat) (hg : w.heap[g]? = some (.cells cur e fz)) (hfz : thaw fz cur.size) (s : ByteArray)
  (hroom : sLen + s.size ≤ sCap) (hfit : sLen + s.size ≤ cur.size) :
  (Builtin.append_ #[t, u] ty #[.slice (some ⟨g, 0, none⟩) sLen sCap, .string s]).run P w =
   .ok (.slice (some ⟨g, 0, none⟩) (sLen + s.size) sCap) (w.setRow g (cur.toList.take sLen ++ Lib.strCells s ++ cur.toList.drop (sLen + s.size)).toArray) := by
 have hf := Lib.run_firstCells_string (P := P) w 1 s
 have hst := run_storeCells_thaw P g sLen e fz (Lib.strCells s) 0 cur w hg hfz (by simpa [Lib.strCells_length] using hfit) (Lib.strCells_oneCell s)
 simp only [Nat.add_zero, Lib.strCells_length] at hst
 simp [Builtin.append_, run_underlying ht, run_underlying hu, sizeOf, typeInfo, hi, hs1, Builtin.lenOf, hroom, hf, Addr.add_lit, hst]
theorem run_copy_row_thaw (dT sT ty elem : TypeId) (g o dLen dCap : Nat) (a : Addr) (sLen sCap : Nat) (cur : Array Value) (t : TypeId) (cs : List Value) (fz : Nat × Nat)
  (hu : P.underlying dT = some (.slice elem)) (hs : (P.info? elem).map (·.size) = some 1)
  (hg : w.heap[g]? = some (.cells cur t fz)) (hfz : thaw fz cur.size) (hn : cs.length = Nat.min sLen dLen)
  (hsrc : ∀ j v, cs[j]? = some v → w.cell? (a.add j) = some v) (hfit : o + cs.length ≤ cur.size) (h1 : ∀ v ∈ cs, v.oneCell' = true) :
  (Builtin.copy_ #[dT, sT] ty #[.slice (some ⟨g, o, none⟩) dLen dCap, .slice (some a) sLen sCap]).run P w =
   .ok (goInt cs.length) (w.setRow g (cur.toList.take o ++ cs ++ cur.toList.drop (o + cs.length)).toArray) := by
 have hl := run_loadCells_list (P := P) w a cs hsrc
 have hst := run_storeCells_thaw P g o t fz cs 0 cur w hg hfz (by simpa using hfit) h1
 cases hq : P.info? elem with
 | none => simp [hq] at hs
 | some i =>
  have hi : i.size = 1 := by simpa [hq] using hs
  simp [Builtin.copy_, run_underlying hu, Builtin.lenOf, Builtin.firstCells, sizeOf, typeInfo, hq, hi, ← hn, hl, hst]
end
end Go.K
end
section
namespace Go.K
open Go
section
variable {ι : Nat → Option Value} {imm : Nat → Prop} {h : Heap} {w : World} {K : Out → Prop}
variable {P : Program} {E : Env} {draw : Bool} {ev : Operand → V} {ρ : Operand → Value} {o : Oper} {id : Nat}
def bnd (x : Option Value) (dflt : Int) (n : Int) : Prop := (x = none ∧ n = dflt) ∨ ∃ k, x = some (.int k n)
theorem run_bounds {isSlice : Bool} {len cap : Nat} {lo hi mx : Option Value} {l u m : Int} (hl : bnd lo 0 l) (hu : bnd hi len u) (hm : bnd mx cap m) (hh : mx.isSome = true → hi.isSome = true)
  (h0 : 0 ≤ l) (h1 : l ≤ u) (h2 : u ≤ m) (h3 : m ≤ cap) (w : World) : (Instr.sliceBounds isSlice len cap lo hi mx).run P w = .ok (l.toNat, u.toNat, m.toNat) w := by
 have em : (m.toNat : Int) = m := Int.toNat_of_nonneg (by omega)
 have eu : (u.toNat : Int) = u := Int.toNat_of_nonneg (by omega)
 rcases hm with ⟨rfl, rfl⟩ | ⟨km, rfl⟩
 ·rcases hu with ⟨rfl, rfl⟩ | ⟨ku, rfl⟩
  ·rcases hl with ⟨rfl, rfl⟩ | ⟨kl, rfl⟩
   ·simp [Instr.sliceBounds]
   ·have := run_sliceBound (P := P) w kl l len .sliceB h0 h1
    simp [Instr.sliceBounds, this]
  ·have a := fun c => run_sliceBound (P := P) w ku u cap c (by omega) (by omega)
   rcases hl with ⟨rfl, rfl⟩ | ⟨kl, rfl⟩
   ·simp [Instr.sliceBounds, a]
   ·have b := run_sliceBound (P := P) w kl l u.toNat .sliceB h0 (by omega)
    simp [Instr.sliceBounds, a, b]
 ·rcases hu with ⟨rfl, rfl⟩ | ⟨ku, rfl⟩
  ·simp at hh
  ·have c := fun c => run_sliceBound (P := P) w km m cap c (by omega) h3
   have a := fun c => run_sliceBound (P := P) w ku u m.toNat c (by omega) (by omega)
   rcases hl with ⟨rfl, rfl⟩ | ⟨kl, rfl⟩
   ·simp [Instr.sliceBounds, a, c]
   ·have b := fun c => run_sliceBound (P := P) w kl l u.toNat c h0 (by omega)
    simp [Instr.sliceBounds, a, b, c]
theorem bnd_low {x : Option Operand} {l : Int} (he : ∀ x, RepV ι imm w (ev x) (ρ x)) (hl : lowOf (x.map ev) = some l) : bnd (x.map ρ) 0 l := by
 cases x with
 | none => cases hl; exact .inl ⟨rfl, rfl⟩
 | some x =>
  have h1 := he x
  simp only [Option.map_some] at hl ⊢
  generalize ev x = v at hl h1
  unfold lowOf at hl
  split at hl
  ·rename_i e; cases e
  ·rename_i k n e; cases e; cases hl
   exact .inr ⟨k, congrArg some (repI h1)⟩
  ·cases hl
theorem bnd_high {x : Option Operand} {len : Nat} {l : Int} (he : ∀ x, RepV ι imm w (ev x) (ρ x)) (hl : highOf Ω len (x.map ev) = some l) : bnd (x.map ρ) len l := by
 cases x with
 | none => cases hl; exact .inl ⟨rfl, rfl⟩
 | some x =>
  have h1 := he x
  simp only [Option.map_some] at hl ⊢
  generalize ev x = v at hl h1
  unfold highOf at hl
  split at hl
  ·rename_i e; cases e
  ·rename_i k n e; cases e; cases hl
   exact .inr ⟨k, congrArg some (repI h1)⟩
  ·cases hl
theorem bnd_max {x : Option Operand} {len cap : Nat} {m : Int} (he : ∀ x, RepV ι imm w (ev x) (ρ x)) (hl : highOf Ω len (x.map ev) = some m) (hc : len ≤ cap) : ∃ m' : Int, bnd (x.map ρ) cap m' ∧ m ≤ m' ∧ (m ≤ len → m' ≤ cap) := by
 cases x with
 | none => cases hl; exact ⟨cap, .inl ⟨rfl, rfl⟩, by simp only [w_ci]; omega, fun _ => Int.le_refl _⟩
 | some x =>
  have := bnd_high he hl
  rcases this with ⟨e, _⟩ | ⟨k, e⟩
  ·cases e
  ·exact ⟨m, .inr ⟨k, e⟩, Int.le_refl _, fun _ => by omega⟩
variable (I : Inv ι imm h w) (tt : TTok P E.tt) (he : ∀ x, RepV ι imm w (ev x) (ρ x))
include I tt he
theorem op_slice {T : TypeId} {x : Operand} {lo hi mx : Option Operand} (ho : o.op = .slice T x lo hi mx) (hK : opR Ω E draw ev h o.op id K) : Done ι imm h w K ((execOp ρ o).run P w) := by
 rw [ho] at hK
 have h1 := he x
 simp only [opR, w_slen, w_sget, w_ssub, w_sset, w_srep, w_scat, BrG_eq, DK_eq, w_ci, w_iand, w_ior, w_ixor, w_ishl, w_ishr, w_wrap, w_tmod, w_lt, w_le, w_eq, w_ne, w_ile, w_ilt, w_tn, w_nadd, w_nsub, w_nlt, w_leb, w_room, w_imax, w_imin, w_bget, w_bext, w_bcat, w_bsz, w_beqs] at hK
 split at hK
 ·rename_i sz by' z e ht
  have hT := tt _ _ ht
  have hu := hT.und
  have ee := elem_of hu
  have hu' : P.underlying T = some (.slice (P.elem T)) := by rw [ee]; exact hu
  split at hK
  ·rename_i i hi'
   have hj := tt _ _ hi'
   have run : ∀ (a : Option Addr) (len cap : Nat) (l u m : Int), bnd (lo.map ρ) 0 l → bnd (hi.map ρ) len u → bnd (mx.map ρ) cap m → (mx.isSome = true → hi.isSome = true) → 0 ≤ l → l ≤ u → u ≤ m → m ≤ cap →
     (Instr.sliceAt T (.slice a len cap) (lo.map ρ) (hi.map ρ) (mx.map ρ)).run P w = .ok (sliced a l.toNat u.toNat m.toNat i.size) w := fun a len cap l u m b1 b2 b3 hh h0 h1 h2 h3 => by
    rw [run_sliceAt_slice (h := hu'), run_slice_any (ht := hu'), run_bounds b1 b2 b3 (by simpa using hh) h0 h1 h2 h3, ee]
    simp only [Result.andThen_ok, hj.run_size]
   split at hK
   ·rename_i xs hx
    rw [hx] at h1
    obtain ⟨a, c, h2, h3⟩ := repSl h1
    split at hK
    ·rename_i l u m hl hu'' hm
     obtain ⟨h0, hlu, hum, hmx, hh, huni, hK⟩ := hK
     have hlc : xs.length ≤ c := by
      cases h3 with
      | sl0 => simp
      | sl => assumption
     obtain ⟨m', b3, hmm, hmc⟩ := bnd_max (cap := c) he hm hlc
     have hr := run a xs.length c l u m' (bnd_low he hl) (bnd_high he hu'') b3 hh h0 hlu (by omega) (hmc hmx)
     refine Done.val (v := sliced a l.toNat u.toNat m'.toNat i.size) I ?_ hK ?_
     ·simp only [execOp, ho, h2, Sem.run_bind, Sem.run_pure, Result.andThen_ok, hr]
     ·show RepC imm w (.sl _) _
      unfold sliced
      by_cases hz : u.toNat - l.toNat = 0
      ·rw [hz, List.take_zero]
       exact .sl0 _ _
      ·rw [if_neg (by omega)]
       have h3' := h3
       cases h3 with
       | sl0 => simp at hmx; omega
       | sl _ g off =>
        simp only [Option.map_some, addr_add]
        exact h3'.piece huni (by omega) (by omega)
    ·exact hK.elim
   ·rename_i j sz' hx
    rw [hx] at h1
    split at hK
    ·rename_i l' e' z' xs hj'
     split at hK
     ·rename_i hlm
      obtain ⟨rfl, hmx0⟩ := hlm
      split at hK
      ·rename_i ku u km m hu2 hm2
       obtain ⟨rfl, rfl, rfl, h0, hum, hmx, hid, hK⟩ := hK
       obtain ⟨v', h4, h6⟩ := I.blk j _ hj'
       obtain ⟨h7, h8⟩ := h1
       rw [h7] at h4; cases h4
       obtain ⟨cells, ho', hux, hcx⟩ := h6
       have b1 : bnd ((none : Option Operand).map ρ) 0 0 := .inl ⟨rfl, rfl⟩
       have b2 : ∀ len : Nat, bnd (hi.map ρ) len u := fun len => bnd_high (ι := ι) (imm := imm) (w := w) he (len := len) (by rw [hu2]; rfl)
       have b3 : ∀ cap : Nat, bnd (mx.map ρ) cap m := fun cap => bnd_high (ι := ι) (imm := imm) (w := w) he (len := cap) (by rw [hm2]; rfl)
       have hh : mx.isSome = true → hi.isSome = true := fun _ => by cases hi with
        | none => cases hu2
        | some _ => rfl
       have hne : j ≠ id := fun q => by subst q; rw [hid] at hj'; cases hj'
       rcases ho'.2 with ⟨h9, hn⟩ | ⟨g, cap, cur, fr, h9, hb0, hg, hth, hnc, hcm, hcs, htake⟩
       ·have hr := run none 0 0 0 u m b1 (b2 0) (b3 0) hh (Int.le_refl _) h0 hum (by omega)
        have g1 := I.giveUp hj'
        have hid2 : upd h j (some Blk.dead) id = none := by rw [upd_other _ _ _ _ (Ne.symm hne)]; exact hid
        have hxs : xs = [] := List.eq_nil_of_length_eq_zero hn
        subst hxs
        simp only [List.drop_zero, List.take_nil] at hK
        have st := g1.1.fresh hid2 (.slice none 0 0) (.row true e' i.size []) (w' := w) (Nat.le_refl _) (fun _ _ => rfl) rfl rfl rfl (fun g hg => by cases hg)
         ⟨[], rowOwn_nil w 0 e' i.size, fun _ q => absurd q List.not_mem_nil, fun _ _ q => absurd q (Nat.not_lt_zero _)⟩
        have hv : sliced none (0 : Int).toNat u.toNat m.toNat i.size = .slice none 0 0 := by
         have hm0 : m.toNat = 0 := by simp at hmx; omega
         have hu0 : u.toNat = 0 := by omega
         unfold sliced
         rw [hm0, hu0]
         split <;> rfl
        rw [hv] at hr
        refine ⟨_, .slice none 0 0, _, _, imm, .inl ?_, hK, g1.2.trans st.2, st.1, ⟨upd_same _ _ _, .inl rfl⟩⟩
        simp only [execOp, ho, h9, Sem.run_bind, Sem.run_pure, Result.andThen_ok, hr]
       ·have hr := run (some ⟨g, 0, none⟩) xs.length cap 0 u m b1 (b2 _) (b3 cap) hh (Int.le_refl _) h0 hum (by omega)
        have hv : sliced (some ⟨g, 0, none⟩) (0 : Int).toNat u.toNat m.toNat i.size = .slice (some ⟨g, 0, none⟩) u.toNat m.toNat := by
         unfold sliced
         by_cases hm0 : m.toNat = 0
         ·have hu0 : u.toNat = 0 := by omega
          simp [hm0, hu0]
         ·simp [hm0, addr_add]
        rw [hv] at hr
        rw [h9] at h7
        have st := I.moved hj' rfl h7 rfl hid (v := .slice (some ⟨g, 0, none⟩) u.toNat m.toNat) (B := .row true e' i.size ((xs.drop 0).take u.toNat)) (w' := w) (Nat.le_refl _) (fun _ _ _ => rfl) rfl rfl rfl rfl ?_
        ·refine ⟨_, .slice (some ⟨g, 0, none⟩) u.toNat m.toNat, _, _, imm, .inl ?_, hK, st.2, st.1, ⟨upd_same _ _ _, .inr ⟨_, _, _, rfl⟩⟩⟩
         simp only [execOp, ho, h9, Sem.run_bind, Sem.run_pure, Result.andThen_ok, hr]
        ·have hul : ((xs.drop 0).take u.toNat).length = u.toNat := by simp; omega
         have hle : u.toNat * i.size ≤ xs.length * i.size := Nat.mul_le_mul_right _ (by omega)
         have hcl : cells.length = xs.length * i.size := ho'.1
         refine ⟨cells.take (u.toNat * i.size), ⟨?_, .inr ⟨g, m.toNat, cur, fr, by rw [hul], Nat.zero_le _, hg, hth, by rw [hul]; omega, by omega, Nat.le_trans (Nat.mul_le_mul_right _ (by omega)) hcs, ?_⟩⟩, fun x hx => hux x (by simpa using List.mem_of_mem_take hx), fun a b ha hb => ?_⟩
         ·rw [hul, List.length_take]; omega
         ·rw [hul, ← htake, List.take_take, Nat.min_eq_left hle]
         ·rw [hul] at ha
          have hlt : a * i.size + b < u.toNat * i.size := by
           have := Nat.mul_le_mul_right i.size (Nat.succ_le_of_lt ha); rw [Nat.succ_mul] at this; omega
          have e1 : ((xs.drop 0).take u.toNat).getD a .np = xs.getD a .np := by simp [List.getD, ha]
          have e2 : (cells.take (u.toNat * i.size)).getD (a * i.size + b) undef = cells.getD (a * i.size + b) undef := by simp [List.getD, hlt]
          rw [e1, e2]
          exact hcx a b (by omega) hb
      ·exact hK.elim
     split at hK
     ·rename_i l u m hl hu'' hm
      obtain ⟨rfl, rfl, h0, hlu, hum, hmx, hh, hK⟩ := hK
      obtain ⟨v', h4, h6⟩ := I.blk j _ hj'
      obtain ⟨h7, h8⟩ := h1
      rw [h7] at h4; cases h4
      have hform : ρ x = .slice none 0 0 ∧ xs.length = 0 ∨ ∃ g cap, ρ x = .slice (some ⟨g, 0, none⟩) xs.length cap ∧ xs.length ≤ cap := by
       rcases h8 with h8 | ⟨g, n, cap, h8⟩
       ·left
        refine ⟨h8, ?_⟩
        rw [h8] at h6
        cases l' with
        | true =>
         obtain ⟨cells, ho', _⟩ := h6
         rcases ho'.2 with ⟨_, hn⟩ | ⟨g, cap, cur, fr, c, _⟩
         ·exact hn
         ·cases c
        | false => exact h6.1.len.symm
       ·right
        rw [h8] at h6
        cases l' with
        | true =>
         obtain ⟨cells, ho', _⟩ := h6
         rcases ho'.2 with ⟨c, _⟩ | ⟨g', cap', cur, fr, c, _, _, _, hc, _⟩
         ·cases c
         ·cases c; exact ⟨g, cap, h8, hc⟩
        | false =>
         have hn := h6.1.len
         subst hn
         refine ⟨g, cap, h8, ?_⟩
         cases h6.1 with
         | sl0 => simp
         | sl => assumption
      rcases hform with ⟨h9, hn⟩ | ⟨g, cap, h9, hc⟩
      ·obtain ⟨m', b3, hmm, hmc⟩ := bnd_max (cap := 0) he hm (by omega)
       have hu2 := bnd_high (ι := ι) (imm := imm) (w := w) he hu''
       rw [hn] at hu2
       have hr := run none 0 0 l u m' (bnd_low he hl) hu2 b3 hh h0 hlu (by omega) (hmc (by omega))
       refine Done.val (v := sliced none l.toNat u.toNat m'.toNat i.size) I ?_ hK (.inr ⟨⟨_, h7⟩, by omega, none, ?_⟩)
       ·simp only [execOp, ho, h9, Sem.run_bind, Sem.run_pure, Result.andThen_ok, hr]
       ·have hm0 := hmc (by omega)
        unfold sliced
        rw [show u.toNat - l.toNat = 0 by omega, show m'.toNat - l.toNat = 0 by omega]
        split <;> rfl
      ·obtain ⟨m', b3, hmm, hmc⟩ := bnd_max (cap := cap) he hm hc
       have hr := run (some ⟨g, 0, none⟩) xs.length cap l u m' (bnd_low he hl) (bnd_high he hu'') b3 hh h0 hlu (by omega) (hmc hmx)
       have hmc' := hmc hmx
       refine Done.val (v := sliced (some ⟨g, 0, none⟩) l.toNat u.toNat m'.toNat i.size) I ?_ hK ?_
       ·simp only [execOp, ho, h9, Sem.run_bind, Sem.run_pure, Result.andThen_ok, hr]
       ·unfold sliced
        by_cases hml : m'.toNat = l.toNat
        ·rw [if_pos hml]
         refine .inr ⟨⟨_, h7⟩, by omega, some ⟨g, 0, none⟩, ?_⟩
         rw [show u.toNat - l.toNat = 0 by omega, show m'.toNat - l.toNat = 0 by omega]
        ·rw [if_neg hml]
         refine .inl ⟨g, xs.length, cap, m'.toNat - l.toNat, h9 ▸ h7, ?_, by omega, by omega⟩
         simp only [Option.map_some, addr_add, Nat.zero_add]
     ·exact hK.elim
    ·exact hK.elim
   ·rename_i j sz' off len hx
    rw [hx] at h1
    split at hK
    ·rename_i l u m hl hu'' hm
     obtain ⟨rfl, h0, hlu, hum, hmx, hh, hK⟩ := hK
     rcases h1 with ⟨g, n, cap, c, h2, h3, h4, h5⟩ | ⟨⟨q, h2⟩, rfl, base, h3⟩
     ·obtain ⟨m', b3, hmm, hmc⟩ := bnd_max (cap := c) he hm h4
      have hmc' := hmc hmx
      have hr := run (some ⟨g, off * i.size, none⟩) len c l u m' (bnd_low he hl) (bnd_high he hu'') b3 hh h0 hlu (by omega) hmc'
      refine Done.val (v := sliced (some ⟨g, off * i.size, none⟩) l.toNat u.toNat m'.toNat i.size) I ?_ hK ?_
      ·simp only [execOp, ho, h3, Sem.run_bind, Sem.run_pure, Result.andThen_ok, hr]
      ·unfold sliced
       by_cases hml : m'.toNat = l.toNat
       ·rw [if_pos hml]
        refine .inr ⟨⟨_, h2⟩, by omega, some ⟨g, off * i.size, none⟩, ?_⟩
        rw [show u.toNat - l.toNat = 0 by omega, show m'.toNat - l.toNat = 0 by omega]
       ·rw [if_neg hml]
        refine .inl ⟨g, n, cap, m'.toNat - l.toNat, h2, ?_, by omega, by omega⟩
        simp only [Option.map_some, addr_add, Nat.add_mul]
     ·obtain ⟨m', b3, hmm, hmc⟩ := bnd_max (cap := 0) he hm (Nat.le_refl _)
      have hmc' := hmc hmx
      have hr := run base 0 0 l u m' (bnd_low he hl) (bnd_high he hu'') b3 hh h0 hlu (by omega) hmc'
      refine Done.val (v := sliced base l.toNat u.toNat m'.toNat i.size) I ?_ hK (.inr ⟨⟨_, h2⟩, by omega, if m'.toNat = l.toNat then base else base.map (·.add (l.toNat * i.size)), ?_⟩)
      ·simp only [execOp, ho, h3, Sem.run_bind, Sem.run_pure, Result.andThen_ok, hr]
      ·unfold sliced
       rw [show u.toNat - l.toNat = 0 by omega, show m'.toNat - l.toNat = 0 by omega]
    ·exact hK.elim
   ·exact hK.elim
  ·exact hK.elim
 ·rename_i sz by' z n e ht
  have hT := tt _ _ ht
  have hu := hT.und
  split at hK
  ·rename_i by2 z2 und2 j off hi' hx
   have hj := tt _ _ hi'
   rw [hx] at h1
   obtain ⟨g, h2, h3⟩ := h1
   split at hK
   ·rename_i cs vt hjv
    split at hK
    ·rename_i ds l u hds hl hu2
     obtain ⟨rfl, rfl, hn, h0, hlu, hun, hK⟩ := hK
     obtain ⟨v', h4, h5⟩ := I.blk j _ hjv
     have hv' := h4
     rw [h2] at h4; cases h4
     obtain ⟨g', vs, T', h6, h7, h8, h9⟩ := h5
     cases h6
     obtain ⟨f1, f2⟩ := flatD_ok _ _ hds
     have hr := run_bounds (P := P) (isSlice := false) (len := n) (cap := n) (mx := none) (m := n) (bnd_low he hl) (bnd_high he hu2) (.inl ⟨rfl, rfl⟩) (by simp) h0 hlu hun (Int.le_refl _) w
     have st := I.retire hjv rfl h2 rfl (w' := w) rfl (fun _ _ => rfl) rfl rfl rfl (B := .dead) rfl trivial
     have hcells : ∀ q, q < n → RepC (fun k => imm k ∨ k = g) w (ds.getD q .np) (vs.getD q undef) := fun q hq => by
      have := (h9 q (by omega)).1
      rw [(f2 q (by omega)).1] at this
      exact RepC.mono (fun k hk => ⟨.inl hk, rfl⟩) this
     refine ⟨_, .slice (some (if n = l.toNat then ⟨g, 0, none⟩ else (⟨g, 0, none⟩ : Addr).add (l.toNat * 1))) (u.toNat - l.toNat) (n - l.toNat), w, ι, _, .inl ?_, hK, st.2, st.1, ?_⟩
     ·simp only [execOp, ho, h3, Instr.sliceAt, Instr.sureAddr, Sem.run_bind, run_underlying hu, Sem.run_pure, Result.andThen_ok, Option.map_none, hr, hj.run_size, Int.toNat_natCast]
     ·show RepC _ w (.sl _) _
      by_cases hz : u.toNat - l.toNat = 0
      ·rw [hz, List.take_zero]; exact .sl0 _ _
      ·rw [if_neg (by omega), addr_add, Nat.mul_one, Nat.zero_add]
       have hlen : ((ds.drop l.toNat).take (u.toNat - l.toNat)).length = u.toNat - l.toNat := by rw [List.length_take, List.length_drop]; omega
       have hget : ∀ i, i < u.toNat - l.toNat → ((ds.drop l.toNat).take (u.toNat - l.toNat)).getD i .np = ds.getD (l.toNat + i) .np := fun i hi => by
        simp [List.getD_eq_getElem?_getD, List.getElem?_take, List.getElem?_drop, hi]
       have hmk := RepC.sl (imm := fun k => imm k ∨ k = g) (w := w) ((ds.drop l.toNat).take (u.toNat - l.toNat)) g l.toNat (n - l.toNat) 1 vs _ (0, 0) (fun q => by rw [q] at hlen; simp at hlen; omega) (.inr rfl) h7 (by rw [hlen]; omega)
        (fun x hx => by
         obtain ⟨i, hi, rfl⟩ := List.mem_iff_getElem.1 hx
         have hi' : i < u.toNat - l.toNat := by omega
         have e := hget i hi'
         rw [List.getD_eq_getElem?_getD, List.getElem?_eq_getElem hi, Option.getD_some] at e
         rw [e, cells_flat (f2 _ (by omega)).2]; rfl)
        (fun i q hi hq => by rw [hlen] at hi; omega)
        (fun i q hi hq => by
         rw [hlen] at hi
         obtain rfl : q = 0 := by omega
         have e2 : l.toNat + (i * 1 + 0) = l.toNat + i := by omega
         rw [hget i hi, cells_flat (f2 _ (by omega)).2, e2]
         exact hcells _ (by omega))
       rw [hlen] at hmk
       exact hmk
    ·exact hK.elim
   ·exact hK.elim
  ·exact hK.elim
 ·rename_i sz by' z ht
  have hT := tt _ _ ht
  have hu := hT.und
  split at hK
  ·rename_i b hx
   rw [hx] at h1
   have h2 := repS h1
   split at hK
   ·rename_i l u hl hu''
    obtain ⟨rfl, h0, hlu, hus, hK⟩ := hK
    have hr := run_bounds (P := P) (isSlice := false) (len := b.size) (cap := b.size) (mx := none) (m := b.size) (bnd_low he hl) (bnd_high he hu'') (.inl ⟨rfl, rfl⟩) (by simp) h0 hlu hus (Int.le_refl _) w
    refine Done.val (v := .string (b.extract l.toNat u.toNat)) I ?_ hK (.s _)
    simp only [execOp, ho, h2, Option.map_none]
    rw [show ∀ a b c d, (do let x ← Instr.sliceAt T a b c d; pure (Next.value x) : Sem Next) = (Instr.sliceAt T a b c d >>= fun x => pure (Next.value x)) from fun _ _ _ _ => rfl]
    rw [Sem.run_bind, run_sliceAt_string (h := hu)]
    simp only [Instr.slice, Sem.run_bind, run_underlying hu, Result.andThen_ok, Option.isSome_none, Bool.false_eq_true, if_false, hr, Sem.run_pure]
   ·exact hK.elim
  ·exact hK.elim
 ·exact hK.elim
theorem op_convert (la : ∀ T t, E.la T t = true → liesAt P P.depth T 1 0 t 1 = true) {S T : TypeId} {x : Operand} (ho : o.op = .convert S T x) (hK : opR Ω E draw ev h o.op id K) : Done ι imm h w K ((execOp ρ o).run P w) := by
 rw [ho] at hK
 have h1 := he x
 simp only [opR, w_slen, w_sget, w_ssub, w_sset, w_srep, w_scat, BrG_eq, DK_eq, w_ci, w_iand, w_ior, w_ixor, w_ishl, w_ishr, w_wrap, w_tmod, w_lt, w_le, w_eq, w_ne, w_ile, w_ilt, w_tn, w_nadd, w_nsub, w_nlt, w_leb, w_room, w_imax, w_imin, w_bget, w_bext, w_bcat, w_bsz, w_beqs] at hK
 split at hK
 ·rename_i i sz by' z k k' n hs ht hx
  have hS := (tt _ _ hs).und
  have hT := (tt _ _ ht).und
  rw [hx] at h1
  have h2 := repI h1
  refine Done.val (v := .int k (k.wrap n)) I ?_ hK (.i _ _)
  simp only [execOp, ho, h2, convert, Sem.run_bind, run_underlying hS, run_underlying hT, Result.andThen_ok, Conv.intToInt, Sem.run_pure]
 ·rename_i b hs ht hx
  have hS := (tt _ _ hs).und
  have hT := (tt _ _ ht).und
  rw [hx] at h1
  have h2 := repS h1
  refine Done.val (v := .string b) I ?_ hK (.s _)
  simp only [execOp, ho, h2, convert, Sem.run_bind, run_underlying hS, run_underlying hT, Result.andThen_ok, Sem.run_pure]
 ·-- the bytes of a text
  rename_i e b hs ht hx
  have hS := (tt _ _ hs).und
  have hT := (tt _ _ ht).und
  rw [hx] at h1
  have h2 := repS h1
  split at hK
  ·rename_i by2 z2 hte
   have hE := (tt _ _ hte).und
   obtain ⟨hid, ⟨_, hroom⟩, hK⟩ := hK
   have hr := run_bytes_of_string (P := P) w S T e b hS hT hE
   have hgc := grownCap_ge w b.size 0 e
   have hgm : grownCap w b.size 0 e ≤ maxLen := grownCap_le_maxLen w _ _ e (by simp only [maxLen]; omega)
   have hsz : (bytesRow b (grownCap w b.size 0 e)).size = grownCap w b.size 0 e := by
    simp only [bytesRow, Array.size_append, Array.size_map, Array.size_replicate]
    have : b.data.size = b.size := rfl
    omega
   have st := I.fresh hid (.slice (some ⟨w.heap.size, 0, none⟩) b.size (grownCap w b.size 0 e)) (.row true e 1 (Ω .bcl b))
    (w' := w.drew.alloc (.cells (bytesRow b (grownCap w b.size 0 e)) e ((bytesRow b (grownCap w b.size 0 e)).size, (bytesRow b (grownCap w b.size 0 e)).size + 1))) (by simp)
    (fun g hg => heap_alloc_old w.drew _ g hg) rfl rfl rfl (fun g hg => by cases hg; exact Nat.le_refl _) ?_
   ·refine ⟨_, _, _, _, imm, .inl ?_, hK, st.2, st.1, ⟨upd_same _ _ _, .inr ⟨_, _, _, rfl⟩⟩⟩
    simp only [execOp, ho, h2, Sem.run_bind, hr, Result.andThen_ok, Sem.run_pure]
   ·have hlen : (Ω .bcl b).length = b.size := by rw [w_bcl, List.length_map, Array.length_toList]; rfl
    refine ⟨b.data.toList.map fun c => Value.int .u8 c.toNat, ⟨by rw [hlen, List.length_map, Array.length_toList, Nat.mul_one]; rfl, .inr ⟨w.heap.size, _, _, _, ?_, Nat.zero_le _, heap_alloc_new w.drew _, .inr (Nat.le_refl _), ?_, hgm, ?_, ?_⟩⟩, bcs_one _, fun i q hi hq => ?_⟩
    ·rw [hlen]
    ·rw [hlen]; exact hgc
    ·rw [hsz, Nat.mul_one]; exact Nat.le_refl _
    ·rw [hlen, Nat.mul_one, bytesRow, Array.toList_append, Array.toList_map]
     have : b.size = (b.data.toList.map fun c => Value.int .u8 (c.toNat : Int)).length := by rw [List.length_map, Array.length_toList]; rfl
     rw [this]
     exact List.take_left
    ·obtain rfl : q = 0 := by omega
     have hi' : i < b.data.toList.length := by rw [hlen] at hi; rw [Array.length_toList]; exact hi
     have e1 := bcs_get b.data.toList i (b.data.toList[i]) (List.getElem?_eq_getElem hi')
     show RepC _ _ (((bcs b.data.toList).getD i .np).cells.getD 0 .np) _
     rw [e1]
     have e2 : (b.data.toList.map fun c => Value.int .u8 (c.toNat : Int)).getD (i * 1 + 0) undef = .int .u8 (b.data.toList[i].toNat : Int) := by
      rw [show i * 1 + 0 = i by omega, List.getD_eq_getElem?_getD, List.getElem?_map, List.getElem?_eq_getElem hi']; rfl
     rw [e2]
     exact .i _ _
  ·exact hK.elim
 ·-- a text of bytes
  rename_i e sz2 by3 z3 hs ht
  have hS := (tt _ _ hs).und
  have hT := (tt _ _ ht).und
  split at hK
  ·rename_i by2 z2 xs hte hx
   have hE := (tt _ _ hte).und
   obtain ⟨hb, hK⟩ := hK
   obtain ⟨l, rfl⟩ := byts_list hb
   obtain ⟨imm1, I1, E1⟩ := Inv.freezeL (idsOf (ev x)) I
   have hrep := toD_rep I1 (fun i hi l e z xs hx => freezeL_done h _ i hi l e z xs hx) (h1.evo I E1) hx
   have hval : ∃ a c, ρ x = .slice a l.length c := by
    have hrep' : RepV ι imm1 w (.d (.sl (bcs l))) (ρ x) := hrep
    obtain ⟨a, c, q1, _⟩ := repSl hrep'
    exact ⟨a, c, by rw [q1]; simp [bcs]⟩
   have hr : (convert S T (ρ x)).run P w = .ok (.string ⟨l.toArray⟩) w := by
    by_cases hne : l = []
    ·subst hne
     obtain ⟨a, c, q⟩ := hval
     rw [q, List.length_nil]
     cases a with
     | none => rw [run_convert_bytes_string w S T e none 0 c hS hE hT]; rfl
     | some a => exact run_convert_bytes_back w S T e a c [] hS hE hT (fun j hj => absurd hj (Nat.not_lt_zero _))
    ·obtain ⟨a, c, q1, q2⟩ := bytes_cells hrep hne
     rw [q1]
     exact run_convert_bytes_back w S T e a c l hS hE hT (fun j hj => q2 j _ (List.getElem?_eq_getElem hj))
   rw [dby_bcs] at hK
   refine ⟨_, _, _, _, imm1, .inl ?_, hK, E1, I1, .s _⟩
   simp only [execOp, ho, Sem.run_bind, hr, Result.andThen_ok, Sem.run_pure]
  ·exact hK.elim
 ·-- a pointer without its type
  rename_i t j off hs ht hx
  have hS := (tt _ _ hs).und
  have hT := (tt _ _ ht).und
  rw [hx] at h1
  obtain ⟨g, h2, h3⟩ := h1
  split at hK
  ·rename_i i cs vt hti hj
   obtain ⟨hpos, hoff, hK⟩ := hK
   obtain ⟨info, i1, i2, _, _⟩ := (tt _ _ hti).ok
   obtain ⟨v', h4, g', vs, T', h5, h6, h7, h8⟩ := I.blk j _ hj
   rw [h2] at h4; cases h4; cases h5
   have hc : w.cell? ⟨g, off, none⟩ = some (vs.getD off undef) := by
    have : off < vs.size := by omega
    rw [cell_of_row w g off vs _ (0, 0) h6]; simp [Array.getD, this]
   have hr := run_convert_to_unsafe (P := P) hS hT (by rw [i1]; simp; omega) hc
   refine Done.val (v := .pointer (some ⟨g, off, none⟩)) I ?_ hK ⟨g, h2, rfl⟩
   simp only [execOp, ho, h3, Sem.run_bind, hr, Result.andThen_ok, Sem.run_pure]
  ·exact hK.elim
 ·-- and with a type again
  rename_i t j off hs ht hx
  have hS := (tt _ _ hs).und
  have hT := (tt _ _ ht).und
  rw [hx] at h1
  obtain ⟨g, h2, h3⟩ := h1
  split at hK
  ·rename_i i cs T' hti hj
   split at hK
   ·rename_i i' hti'
    obtain ⟨hpos, rfl, hcs, hpos', hla, hK⟩ := hK
    obtain ⟨info, i1, i2, _, _⟩ := (tt _ _ hti).ok
    obtain ⟨info', i1', i2', _, _⟩ := (tt _ _ hti').ok
    obtain ⟨v', h4, g', vs, T2, h5, h6, h7, h8⟩ := I.blk j _ hj
    rw [h2] at h4; cases h4; cases h5
    have h6' : w.heap[g]? = some (.cells vs T' (0, 0)) := h6
    have hco : P.cellsOf T' = i'.size := by simp [Program.cellsOf, i1', i2']
    have hq : vs.size / P.cellsOf T' = 1 := by rw [hco, h7, hcs]; exact Nat.div_self hpos'
    have hz : ¬ info.size = 0 := by omega
    have hsh : w.shape? g = some (T', vs.size) := by simp [World.shape?, h6']
    have hr : (convert S T (.pointer (some ⟨g, 0, none⟩))).run P w = .ok (.pointer (some ⟨g, 0, none⟩)) w := by
     have hl := la _ _ hla
     simp [convert, Conv.unsafePointer, Conv.seenAt, viewAt, variablesAt, sizeOf, typeInfo, run_underlying hS, run_underlying hT, i1, hz, hsh, hq, hl, Result.andThen]
    refine Done.val (v := .pointer (some ⟨g, 0, none⟩)) I ?_ hK ⟨g, h2, rfl⟩
    simp only [execOp, ho, h3, Sem.run_bind, hr, Result.andThen_ok, Sem.run_pure]
   ·exact hK.elim
  ·exact hK.elim
 ·exact hK.elim
theorem op_makeInterface {T : TypeId} {x : Operand} (ho : o.op = .makeInterface T x) (hK : opR Ω E draw ev h o.op id K) : Done ι imm h w K ((execOp ρ o).run P w) := by
 rw [ho] at hK
 have h1 := he x
 simp only [opR, w_slen, w_sget, w_ssub, w_sset, w_srep, w_scat, BrG_eq, DK_eq, w_ci, w_iand, w_ior, w_ixor, w_ishl, w_ishr, w_wrap, w_tmod, w_lt, w_le, w_eq, w_ne, w_ile, w_ilt, w_tn, w_nadd, w_nsub, w_nlt, w_leb, w_room, w_imax, w_imin, w_bget, w_bext, w_bcat, w_bsz, w_beqs] at hK
 split at hK
 ·rename_i k n ht hx
  have hT := (tt _ _ ht).und
  rw [hx] at h1
  have h2 := repI h1
  refine Done.val (v := .iface T (.int k n)) I ?_ hK (.ifc _ _ _ (.i _ _))
  simp only [execOp, ho, h2, Instr.makeInterface, Sem.run_bind, run_underlying hT, Result.andThen_ok, Sem.run_pure]
 ·exact hK.elim
theorem op_unOp {op : UnOp} {T : TypeId} {x : Operand} (ho : o.op = .unOp op T x) (hK : opR Ω E draw ev h o.op id K) : Done ι imm h w K ((execOp ρ o).run P w) := by
 rw [ho] at hK
 have h1 := he x
 simp only [opR, w_slen, w_sget, w_ssub, w_sset, w_srep, w_scat, BrG_eq, DK_eq, w_ci, w_iand, w_ior, w_ixor, w_ishl, w_ishr, w_wrap, w_tmod, w_lt, w_le, w_eq, w_ne, w_ile, w_ilt, w_tn, w_nadd, w_nsub, w_nlt, w_leb, w_room, w_imax, w_imin, w_bget, w_bext, w_bcat, w_bsz, w_beqs] at hK
 split at hK
 ·rename_i t hx
  rw [hx] at h1
  have h2 := repB h1
  refine Done.val (v := .bool (!t)) I ?_ hK (.b _)
  simp only [execOp, ho, h2, Op.unary, Sem.run_bind, Result.andThen_ok, Sem.run_pure]
 ·rename_i k n hx
  rw [hx] at h1
  have h2 := repI h1
  refine Done.val (v := .int k (k.wrap (0 - n))) I ?_ hK (.i _ _)
  simp only [execOp, ho, h2, Op.unary, Op.intArith, Sem.run_bind, Result.andThen_ok, Sem.run_pure]
 ·rename_i k n hx
  rw [hx] at h1
  have h2 := repI h1
  refine Done.val (v := .int k _) I ?_ hK (.i _ _)
  simp only [execOp, ho, h2, Op.unary, Op.intBits, Sem.run_bind, Result.andThen_ok, Sem.run_pure]
 ·exact hK.elim
end
end Go.K
end
section
namespace Go.K
open Go
section
variable {ι : Nat → Option Value} {imm : Nat → Prop} {h : Heap} {w : World} {K : Out → Prop}
variable {P : Program} {E : Env} {draw : Bool} {ev : Operand → V} {ρ : Operand → Value} {o : Oper} {id : Nat}
theorem eqGuard_int (op : BinOp) (T : TypeId) (x y : Operand) (k k' : IntKind) (a c : Int) : (eqGuard op T x y (.int k a) (.int k' c)).run P w = .ok () w := by
 unfold eqGuard
 split <;> rfl
theorem eqGuard_bool (op : BinOp) (T : TypeId) (x y : Operand) (a c : Bool) : (eqGuard op T x y (.bool a) (.bool c)).run P w = .ok () w := by
 unfold eqGuard
 split <;> rfl
theorem eqGuard_slice (op : BinOp) (T : TypeId) (x y : Operand) (a a' : Option Addr) (n c n' c' : Nat) : (eqGuard op T x y (.slice a n c) (.slice a' n' c')).run P w = .ok () w := by
 unfold eqGuard
 split <;> rfl
theorem eqGuard_str (op : BinOp) (T : TypeId) (x y : Operand) (a c : ByteArray) : (eqGuard op T x y (.string a) (.string c)).run P w = .ok () w := by
 unfold eqGuard
 split <;> rfl
theorem run_equalIn_bool (d : Nat) (T : TypeId) (a c : Bool) (hu : P.underlying T = some .bool) : (Op.equalIn (d + 1) T (.bool a) (.bool c)).run P w = .ok (a == c) w := by
 simp [Op.equalIn, run_underlying hu]
theorem run_equal_bool (T : TypeId) (a c : Bool) (hu : P.underlying T = some .bool) : (Op.equal T (.bool a) (.bool c)).run P w = .ok (a == c) w := run_equalIn_bool 9999 T a c hu
theorem eqGuard_ptr (op : BinOp) (T : TypeId) (x y : Operand) (a c : Option Addr) : (eqGuard op T x y (.pointer a) (.pointer c)).run P w = .ok () w := by
 unfold eqGuard
 split <;> rfl
theorem ptrTy_ok (tt : TTok P E.tt) {T : TypeId} (h : ptrTy E.tt T) : ∃ t info, P.underlying T = some (.pointer t) ∧ P.info? t = some info ∧ info.size ≠ 0 := by
 unfold ptrTy at h
 split at h
 ·rename_i t ht
  split at h
  ·rename_i i hi
   obtain ⟨info, i1, i2, _, _⟩ := (tt _ _ hi).ok
   exact ⟨t, info, (tt _ _ ht).und, i1, by omega⟩
  ·exact h.elim
 ·exact h.elim
theorem run_equal_ptr (T t : TypeId) (info : TypeInfo) (hu : P.underlying T = some (.pointer t)) (hi : P.info? t = some info) (hz : info.size ≠ 0) (g a c : Nat) :
  (Op.equal T (.pointer (some ⟨g, a, none⟩)) (.pointer (some ⟨g, c, none⟩))).run P w = .ok (Nat.beq a c) w := by
 have e : ((⟨g, a, none⟩ : Addr) == ⟨g, c, none⟩) = Nat.beq a c := by
  by_cases q : a = c
  ·subst q; simp
  ·have : Nat.beq a c = false := by
    cases hh : Nat.beq a c with
    | false => rfl
    | true => exact absurd (Nat.eq_of_beq_eq_true hh) q
   rw [this, beq_eq_false_iff_ne]
   intro k; injection k with _ k2; exact q k2
 suffices hh : ∀ d : Nat, (Op.equalIn (d + 1) T (.pointer (some ⟨g, a, none⟩)) (.pointer (some ⟨g, c, none⟩))).run P w = .ok (Nat.beq a c) w from hh 9999
 intro d
 simp [Op.equalIn, run_underlying hu, sizeOf, typeInfo, hi, hz, sameAddr, e]
theorem run_equal_ptr_nil (T t : TypeId) (hu : P.underlying T = some (.pointer t)) (a : Addr) : (Op.equal T (.pointer (some a)) (.pointer none)).run P w = .ok false w := by
 suffices hh : ∀ d : Nat, (Op.equalIn (d + 1) T (.pointer (some a)) (.pointer none)).run P w = .ok false w from hh 9999
 intro d
 simp [Op.equalIn, run_underlying hu]
theorem run_equal_nils (T t : TypeId) (hu : P.underlying T = some (.pointer t)) : (Op.equal T (.pointer none) (.pointer none)).run P w = .ok true w := by
 suffices hh : ∀ d : Nat, (Op.equalIn (d + 1) T (.pointer none) (.pointer none)).run P w = .ok true w from hh 9999
 intro d
 simp [Op.equalIn, run_underlying hu]
theorem repNp {v : Value} (h : RepV ι imm w (.d .np) v) : v = .pointer none := by cases h; rfl
def toVal : D → Value
 | .b x => .bool x
 | .i k n => .int k n
 | .s x => .string x
 | _ => undef
theorem run_binD (tt : TTok P E.tt) {op : BinOp} {T : TypeId} {a c r : D} {va vc : Value} (hd : binD Ω op a c = some r) (ha : RepV ι imm w (.d a) va) (hc : RepV ι imm w (.d c) vc) (hb : eqTy E.tt T a)
  (x y : Operand) : ∃ v, (do eqGuard op T x y va vc; binOp op T va vc : Sem Value).run P w = .ok v w ∧ RepV ι imm w (.d r) v := by
 suffices hh : (do eqGuard op T x y va vc; binOp op T va vc : Sem Value).run P w = .ok (toVal r) w ∧ RepV ι imm w (.d r) (toVal r) from ⟨_, hh⟩
 cases a with
 | i k n =>
  cases c with
  | i k' m =>
   have e1 := repI ha
   have e2 := repI hc
   subst e1 e2
   by_cases hk : k = k'
   ·subst hk
    rw [Sem.run_bind, eqGuard_int]
    simp only [Result.andThen_ok]
    cases op <;> simp only [binD, if_true, Option.some.injEq, reduceCtorEq] at hd
    all_goals subst hd
    all_goals refine ⟨?_, (by first | exact RepC.i _ _ | exact RepC.b _)⟩
    all_goals simp [binOp, Op.intArith, Op.intCmp, toVal, w_wrap, w_lt, w_le, w_eq, w_ne]
   ·cases op <;> simp only [binD, if_neg hk] at hd <;> cases hd
  | _ => cases op <;> simp [binD] at hd
 | b t =>
  cases c with
  | b t' =>
   have e1 := repB ha
   have e2 := repB hc
   subst e1 e2
   have hu : P.underlying T = some .bool := by
    simp only [eqTy] at hb
    split at hb
    ·rename_i ht; exact (tt _ _ ht).und
    ·exact hb.elim
   rw [Sem.run_bind, eqGuard_bool]
   simp only [Result.andThen_ok]
   cases op <;> simp only [binD, Option.some.injEq, reduceCtorEq] at hd
   all_goals subst hd
   all_goals refine ⟨?_, (by first | exact RepC.i _ _ | exact RepC.b _)⟩
   all_goals simp only [binOp]
   all_goals simp [run_equal_bool (w := w) T _ _ hu, toVal]
  | _ => cases op <;> simp [binD] at hd
 | s t =>
  cases c with
  | s t' =>
   have e1 := repS ha
   have e2 := repS hc
   subst e1 e2
   rw [Sem.run_bind, eqGuard_str]
   simp only [Result.andThen_ok]
   cases op <;> simp only [binD, Option.some.injEq, reduceCtorEq] at hd
   all_goals subst hd
   all_goals refine ⟨?_, (by first | exact RepC.i _ _ | exact RepC.b _)⟩
   all_goals simp [binOp, Op.stringOp, toVal, w_beqs, w_bnes]
  | _ => cases op <;> simp [binD] at hd
 | np =>
  cases c with
  | np =>
   have e1 := repNp ha
   have e2 := repNp hc
   subst e1 e2
   obtain ⟨t, info, hu, _, _⟩ := ptrTy_ok (P := P) tt hb
   rw [Sem.run_bind, eqGuard_ptr]
   simp only [Result.andThen_ok]
   cases op <;> simp only [binD, Option.some.injEq, reduceCtorEq] at hd
   all_goals subst hd
   all_goals refine ⟨?_, (by first | exact RepC.i _ _ | exact RepC.b _)⟩
   all_goals simp only [binOp]
   all_goals simp [run_equal_nils (w := w) T t hu, toVal]
  | _ => cases op <;> simp [binD] at hd
 | _ => cases op <;> cases c <;> simp [binD] at hd
variable (I : Inv ι imm h w) (tt : TTok P E.tt) (he : ∀ x, RepV ι imm w (ev x) (ρ x))
include I tt he
theorem op_binOp {op : BinOp} {T U : TypeId} {x y : Operand} (ho : o.op = .binOp op T x y U) (hK : opR Ω E draw ev h o.op id K) : Done ι imm h w K ((execOp ρ o).run P w) := by
 rw [ho] at hK
 have h1 := he x
 have h1y := he y
 simp only [opR, w_slen, w_sget, w_ssub, w_sset, w_srep, w_scat, BrG_eq, DK_eq, w_ci, w_iand, w_ior, w_ixor, w_ishl, w_ishr, w_wrap, w_tmod, w_lt, w_le, w_eq, w_ne, w_ile, w_ilt, w_tn, w_nadd, w_nsub, w_nlt, w_leb, w_room, w_imax, w_imin, w_bget, w_bext, w_bcat, w_bsz, w_beqs] at hK
 have fin : ∀ v (r : D), (binOp op T (ρ x) (ρ y)).run P w = .ok v w → (eqGuard op T x y (ρ x) (ρ y)).run P w = .ok () w → RepV ι imm w (.d r) v → K { v := .d r } → Done ι imm h w K ((execOp ρ o).run P w) := fun v r hr hg hR hk => by
  refine Done.val (v := v) I ?_ hk hR
  simp only [execOp, ho, Sem.run_bind, hg, Result.andThen_ok, hr, Sem.run_pure]
 have finI : ∀ (k : IntKind) (n : Int), (binOp op T (ρ x) (ρ y)).run P w = .ok (.int k n) w → (eqGuard op T x y (ρ x) (ρ y)).run P w = .ok () w → K { v := .d (.i k n) } → Done ι imm h w K ((execOp ρ o).run P w) :=
  fun k n hr hg hk => fin (.int k n) (.i k n) hr hg (RepC.i k n) hk
 split at hK
 ·rename_i i a j c hx hy
  rw [hx] at h1
  rw [hy] at h1y
  obtain ⟨g, h2, h3⟩ := h1
  obtain ⟨g', h4, h5⟩ := h1y
  obtain ⟨rfl, hty, hK⟩ := hK
  rw [h2] at h4; cases h4
  obtain ⟨t, info, hu, hi, hz⟩ := ptrTy_ok (P := P) tt hty
  have hg : (eqGuard op T x y (ρ x) (ρ y)).run P w = .ok () w := by rw [h3, h5]; exact eqGuard_ptr _ _ _ _ _ _
  unfold cmpPtr at hK
  split at hK
  ·refine fin (.bool (Nat.beq a c)) (.b (Nat.beq a c)) ?_ hg (RepC.b _) hK
   rw [h3, h5]
   simp only [binOp]
   simp [run_equal_ptr (w := w) T t info hu hi hz g a c]
  ·refine fin (.bool (!Nat.beq a c)) (.b (!Nat.beq a c)) ?_ hg (RepC.b _) hK
   rw [h3, h5]
   simp only [binOp]
   simp [run_equal_ptr (w := w) T t info hu hi hz g a c]
  ·exact hK.elim
 ·rename_i i a hx hy
  rw [hx] at h1
  rw [hy] at h1y
  obtain ⟨g, h2, h3⟩ := h1
  have h5 : ρ y = .pointer none := repNp h1y
  obtain ⟨hty, hK⟩ := hK
  obtain ⟨t, info, hu, hi, hz⟩ := ptrTy_ok (P := P) tt hty
  have hg : (eqGuard op T x y (ρ x) (ρ y)).run P w = .ok () w := by rw [h3, h5]; exact eqGuard_ptr _ _ _ _ _ _
  unfold cmpPtr at hK
  split at hK
  ·refine fin (.bool false) (.b false) ?_ hg (RepC.b _) hK
   rw [h3, h5]
   simp only [binOp]
   simp [run_equal_ptr_nil (w := w) T t hu]
  ·refine fin (.bool true) (.b true) ?_ hg (RepC.b _) hK
   rw [h3, h5]
   simp only [binOp]
   simp [run_equal_ptr_nil (w := w) T t hu]
  ·exact hK.elim
 ·rename_i xs hx hy
  rw [hx] at h1
  rw [hy] at h1y
  obtain ⟨a, c, h2, h3⟩ := repSl h1
  have h4 : ρ y = .slice none 0 0 := h1y
  obtain ⟨_, rfl, hty, hK⟩ := hK
  have hu : ∃ e, P.underlying T = some (.slice e) := by
   split at hty
   ·rename_i ht; exact ⟨_, (tt _ _ ht).und⟩
   ·exact hty.elim
  obtain ⟨e, hu⟩ := hu
  refine fin (.bool a.isNone) (.b a.isNone) ?_ (by rw [h2, h4]; exact eqGuard_slice _ _ _ _ _ _ _ _ _ _) (RepC.b _) (hK a.isNone fun ha => ?_)
  ·rw [h2, h4]
   simp only [binOp]
   simp [run_equal_slice_nil w T e a xs.length c hu]
  ·cases h3 with
   | sl0 => rfl
   | sl => cases ha
 ·rename_i a c hx hy
  rw [hx] at h1
  rw [hy] at h1y
  split at hK
  ·rename_i r hd
   obtain ⟨hty, hK⟩ := hK
   obtain ⟨v, hr, hR⟩ := run_binD (ι := ι) (imm := imm) (w := w) tt hd h1 h1y hty x y
   refine Done.val (v := v) I ?_ hK hR
   simp only [execOp, ho, Sem.run_bind] at hr ⊢
   rw [hr]
   rfl
  ·split at hK
   ·rename_i a c _
    obtain ⟨hsz, hK⟩ := hK
    have h2 := repS h1
    have h3 := repS h1y
    refine fin (.string (a ++ c)) (.s (a ++ c)) ?_ (by rw [h2, h3]; exact eqGuard_str _ _ _ _ _ _) (RepC.s (a ++ c)) hK
    rw [h2, h3]
    have : ¬ (IntKind.i64.max < ((a.size + c.size : Nat) : Int)) := by
     simp only [IntKind.max, IntKind.signed, IntKind.bits, if_true]
     omega
    simp only [binOp, Op.stringOp, gt_iff_lt, this, if_false]
    rfl
   ·rename_i k n k' m _
    obtain ⟨rfl, hm, hK⟩ := hK
    have h2 := repI h1
    have h3 := repI h1y
    refine finI _ _ ?_ (by rw [h2, h3]; exact eqGuard_int _ _ _ _ _ _ _ _) hK
    rw [h2, h3]
    simp [binOp, Op.intDiv, hm]
   ·rename_i k n k' m _
    obtain ⟨rfl, hm, hK⟩ := hK
    have h2 := repI h1
    have h3 := repI h1y
    refine finI _ _ ?_ (by rw [h2, h3]; exact eqGuard_int _ _ _ _ _ _ _ _) hK
    rw [h2, h3]
    simp [binOp, Op.intDiv, hm]
   ·rename_i k n k' m _
    obtain ⟨hm, hK⟩ := hK
    have h2 := repI h1
    have h3 := repI h1y
    refine finI _ _ ?_ (by rw [h2, h3]; exact eqGuard_int _ _ _ _ _ _ _ _) hK
    rw [h2, h3]
    have : ¬ m < 0 := by omega
    simp [binOp, Op.shift, this]
   ·rename_i k n k' m _
    obtain ⟨hm, hK⟩ := hK
    have h2 := repI h1
    have h3 := repI h1y
    refine finI _ _ ?_ (by rw [h2, h3]; exact eqGuard_int _ _ _ _ _ _ _ _) hK
    rw [h2, h3]
    have : ¬ m < 0 := by omega
    simp [binOp, Op.shift, this]
   ·rename_i k n k' m _
    obtain ⟨rfl, hK⟩ := hK
    have h2 := repI h1
    have h3 := repI h1y
    refine finI _ _ ?_ (by rw [h2, h3]; exact eqGuard_int _ _ _ _ _ _ _ _) hK
    rw [h2, h3]
    simp only [binOp, ne_eq, not_true_eq_false, if_false, Op.intBits]
    rfl
   ·rename_i k n k' m _
    obtain ⟨rfl, hK⟩ := hK
    have h2 := repI h1
    have h3 := repI h1y
    refine finI _ _ ?_ (by rw [h2, h3]; exact eqGuard_int _ _ _ _ _ _ _ _) hK
    rw [h2, h3]
    simp only [binOp, ne_eq, not_true_eq_false, if_false, Op.intBits]
    rfl
   ·rename_i k n k' m _
    obtain ⟨rfl, hK⟩ := hK
    have h2 := repI h1
    have h3 := repI h1y
    refine finI _ _ ?_ (by rw [h2, h3]; exact eqGuard_int _ _ _ _ _ _ _ _) hK
    rw [h2, h3]
    simp only [binOp, ne_eq, not_true_eq_false, if_false, Op.intBits]
    rfl
   ·exact hK.elim
 ·exact hK.elim
end
end Go.K
end
section
namespace Go.K
open Go
section
variable {ι : Nat → Option Value} {imm : Nat → Prop} {h : Heap} {w : World} {K : Out → Prop}
variable {P : Program} {E : Env} {draw : Bool} {ev : Operand → V} {ρ : Operand → Value} {o : Oper} {id : Nat}
theorem args_one {args : Array Operand} {x : V} (h : args.toList.map ev = [x]) : ∃ a, args = #[a] ∧ ev a = x := by
 obtain ⟨l⟩ := args
 cases l with
 | nil => cases h
 | cons a r =>
  cases r with
  | nil => cases h; exact ⟨a, rfl, rfl⟩
  | cons b r => cases h
theorem args_two {args : Array Operand} {x y : V} (h : args.toList.map ev = [x, y]) : ∃ a b, args = #[a, b] ∧ ev a = x ∧ ev b = y := by
 obtain ⟨l⟩ := args
 cases l with
 | nil => cases h
 | cons a r =>
  cases r with
  | nil => cases h
  | cons b r =>
   cases r with
   | nil => cases h; exact ⟨a, b, rfl, rfl, rfl⟩
   | cons c r => cases h
theorem types_one {ts : Array TypeId} {x : TypeId} (h : ts.toList = [x]) : ts = #[x] := by
 obtain ⟨l⟩ := ts; cases h; rfl
theorem types_two {ts : Array TypeId} {x y : TypeId} (h : ts.toList = [x, y]) : ts = #[x, y] := by
 obtain ⟨l⟩ := ts; cases h; rfl
theorem own_form (I : Inv ι imm h w) {j : Nat} {l : Bool} {e z : Nat} {xs : List D} {sz : Nat} {v : Value} (hj : h j = some (.row l e z xs)) (hr : RepV ι imm w (.own j sz) v) :
  ι j = some v ∧ BlkRep ι imm w (.row l e z xs) v ∧ ((v = .slice none 0 0 ∧ xs = []) ∨ ∃ g cap, v = .slice (some ⟨g, 0, none⟩) xs.length cap ∧ xs.length ≤ cap) := by
 obtain ⟨v', h4, h6⟩ := I.blk j _ hj
 obtain ⟨h7, h8⟩ := hr
 rw [h7] at h4; cases h4
 refine ⟨h7, h6, ?_⟩
 rcases h8 with rfl | ⟨g, n, cap, rfl⟩
 ·left
  refine ⟨rfl, List.eq_nil_of_length_eq_zero ?_⟩
  cases l with
  | true =>
   obtain ⟨cells, ho', _⟩ := h6
   rcases ho'.2 with ⟨_, hn⟩ | ⟨g, cap, cur, fr, c, _⟩
   ·exact hn
   ·cases c
  | false => exact h6.1.len.symm
 ·right
  cases l with
  | true =>
   obtain ⟨cells, ho', _⟩ := h6
   rcases ho'.2 with ⟨c, _⟩ | ⟨g', cap', cur, fr, c, _, _, _, hc, _⟩
   ·cases c
   ·cases c; exact ⟨g, cap, rfl, hc⟩
  | false =>
   have hn := h6.1.len
   subst hn
   refine ⟨g, cap, rfl, ?_⟩
   cases h6.1 with
   | sl0 => simp
   | sl => assumption
variable (I : Inv ι imm h w) (tt : TTok P E.tt) (he : ∀ x, RepV ι imm w (ev x) (ρ x))
include I tt he
theorem op_len {args : Array Operand} {ts : Array TypeId} (ho : o.op = .call { callee := .builtin .len, args := args, argTypes := ts }) (hK : opR Ω E draw ev h o.op id K) : Done ι imm h w K ((execOp ρ o).run P w) := by
 rw [ho] at hK
 simp only [opR, w_slen, w_sget, w_ssub, w_sset, w_srep, w_scat, BrG_eq, DK_eq, w_ci, w_iand, w_ior, w_ixor, w_ishl, w_ishr, w_wrap, w_tmod, w_lt, w_le, w_eq, w_ne, w_ile, w_ilt, w_tn, w_nadd, w_nsub, w_nlt, w_leb, w_room, w_imax, w_imin, w_bget, w_bext, w_bcat, w_bsz, w_beqs] at hK
 split at hK
 ·rename_i x T _ ha hT
  obtain ⟨a, rfl, rfl⟩ := args_one ha
  obtain rfl := types_one hT
  have h1 := he a
  have fin : ∀ n : Int, (Builtin.len_ #[T] o.type #[ρ a]).run P w = .ok (goInt n) w → (∃ rd, K { v := .d (.i .i64 n), rd := rd }) → Done ι imm h w K ((execOp ρ o).run P w) := fun n hr ⟨rd, hk⟩ => by
   refine Done.val (v := goInt n) (rd := rd) I ?_ hk (RepC.i _ _)
   simp [execOp, ho, resolve, invoke, builtin, hr]
  split at hK
  ·rename_i xs ht hx
   have hu := (tt _ _ ht).und
   rw [hx] at h1
   obtain ⟨b, c, h2, _⟩ := repSl h1
   refine fin _ ?_ ⟨[], hK⟩
   rw [h2]; simp [Builtin.len_, run_underlying hu]
  ·rename_i ht hx
   have hu := (tt _ _ ht).und
   rw [hx] at h1
   have h2 : ρ a = .slice none 0 0 := h1
   refine fin _ ?_ ⟨[], hK⟩
   rw [h2]; simp [Builtin.len_, run_underlying hu]
  ·rename_i j sz ht hx
   have hu := (tt _ _ ht).und
   rw [hx] at h1
   split at hK
   ·rename_i l e z xs hj
    obtain ⟨_, _, h2⟩ := own_form I hj h1
    refine fin _ ?_ ⟨[j], hK⟩
    rcases h2 with ⟨h2, rfl⟩ | ⟨g, cap, h2, _⟩
    ·rw [h2]; simp [Builtin.len_, run_underlying hu]
    ·rw [h2]; simp [Builtin.len_, run_underlying hu]
   ·exact hK.elim
  ·rename_i j sz off len ht hx
   have hu := (tt _ _ ht).und
   rw [hx] at h1
   refine fin _ ?_ ⟨[], hK⟩
   rcases h1 with ⟨g, n, cap, c, _, h2, _⟩ | ⟨_, rfl, base, h2⟩
   ·rw [h2]; simp [Builtin.len_, run_underlying hu]
   ·rw [h2]; simp [Builtin.len_, run_underlying hu]
  ·rename_i b ht hx
   have hu := (tt _ _ ht).und
   rw [hx] at h1
   have h2 := repS h1
   refine fin _ ?_ ⟨[], hK⟩
   rw [h2]; simp [Builtin.len_, run_underlying hu]
  ·rename_i n e ht
   have hu := (tt _ _ ht).und
   refine fin _ ?_ ⟨[], hK⟩
   simp [Builtin.len_, run_underlying hu]
  ·exact hK.elim
 all_goals first | exact hK.elim | contradiction
theorem op_makeSlice {T : TypeId} {l c : Operand} (ho : o.op = .makeSlice T l c) (hK : opR Ω E draw ev h o.op id K) : Done ι imm h w K ((execOp ρ o).run P w) := by
 rw [ho] at hK
 have h1l := he l
 have h1c := he c
 simp only [opR, w_slen, w_sget, w_ssub, w_sset, w_srep, w_scat, BrG_eq, DK_eq, w_ci, w_iand, w_ior, w_ixor, w_ishl, w_ishr, w_wrap, w_tmod, w_lt, w_le, w_eq, w_ne, w_ile, w_ilt, w_tn, w_nadd, w_nsub, w_nlt, w_leb, w_room, w_imax, w_imin, w_bget, w_bext, w_bcat, w_bsz, w_beqs] at hK
 split at hK
 ·rename_i s1 s2 s3 e ht
  have hT := tt _ _ ht
  split at hK
  ·rename_i size bytes z und hte
   have hE := tt _ _ hte
   split at hK
   ·rename_i k n k' m hl hc
    rw [hl] at h1l
    rw [hc] at h1c
    have h2 := repI h1l
    have h3 := repI h1c
    split at hK
    ·rename_i x hx
     obtain ⟨hid, hn, hnm, hb, h63, hpos, hxs, hK⟩ := hK
     obtain ⟨info, i1, i2, i3, i4⟩ := hE.ok
     have hzs := (hE.zero z rfl).1
     have hr := run_make (P := P) w T e info z hT.und i1 i4 k k' n m hn hnm (by rw [i3]; exact hb) (by omega)
     have hzrep : RepD imm w x z := toD_rep (h := h) (h1 := h) I (fun i hi => by
      exfalso
      have : idsOf (constV z) = [] := by
       have one : ∀ y, ids1 (const1 y) = [] := fun y => by
        unfold const1; split <;> rfl
       unfold constV
       split
       ·split
        ·simp only [idsOf]
         rename_i cs _
         have : ∀ l : List Value, (l.map const1).flatMap ids1 = [] := fun l => by
          induction l with
          | nil => rfl
          | cons a r ih => simp only [List.map_cons, List.flatMap_cons, one, ih, List.append_nil]
         exact this _
        ·rfl
       ·rename_i v hv
        have h0 := one z
        generalize hq : const1 z = q at h0
        cases q with
        | agg cs => exfalso; unfold const1 at hq; split at hq <;> cases hq
        | _ => exact h0
      rw [this] at hi; cases hi) (constV_rep ι imm w z) hx
     obtain ⟨c1, c2⟩ := repD_cells hzrep
     have hsz : info.size = size := i2
     have hcells : ∀ i j, j < size → i * size + j < m.toNat * size → (madeCells z.cells (m.toNat * info.size)).getD (i * size + j) undef = z.cells.getD j undef := fun i j hj hk => by
      have e1 : (i * size + j) % z.cells.size = j := by
       rw [hzs]
       show (i * size + j) % size = j
       rw [Nat.mul_comm, Nat.mul_add_mod, Nat.mod_eq_of_lt hj]
      have hlt : j < z.cells.size := by rw [hzs]; exact hj
      simp only [madeCells, hsz, Array.getD_eq_getD_getElem?, Array.getElem?_map]
      have : (Array.range (m.toNat * size))[i * size + j]? = some (i * size + j) := by simp [hk]
      rw [this]
      simp only [Option.map_some, Option.getD_some, e1]
      rw [getElem!_pos z.cells j hlt]
      simp [hlt]
     have hlen : (List.replicate n.toNat x).length = n.toNat := by simp
     have st := I.fresh hid (.slice (some ⟨w.heap.size, 0, none⟩) n.toNat m.toNat) (.row true e size (List.replicate n.toNat x)) (w' := w.alloc (.cells (madeCells z.cells (m.toNat * info.size)) e)) (by simp)
      (fun g hg => heap_alloc_old w _ g hg) rfl rfl rfl (fun g hg => by cases hg; exact Nat.le_refl _) ?_
     ·refine ⟨_, _, _, _, imm, .inl ?_, hK, st.2, st.1, ⟨upd_same _ _ _, .inr ⟨_, _, _, rfl⟩⟩⟩
      simp [execOp, ho, h2, h3, hr]
     ·have hmn : n.toNat * size ≤ m.toNat * size := Nat.mul_le_mul_right _ (by omega)
      refine ⟨(madeCells z.cells (m.toNat * info.size)).toList.take (n.toNat * size), ⟨?_, .inr ⟨w.heap.size, m.toNat, madeCells z.cells (m.toNat * info.size), _, ?_, Nat.zero_le _, heap_alloc_new w _, .inl rfl, ?_, ?_, ?_, ?_⟩⟩, ?_, ?_⟩
      ·rw [List.length_take, Array.length_toList, size_madeCells, hlen, hsz]; omega
      ·rw [hlen]
      ·rw [hlen]; omega
      ·simp only [maxLen]; omega
      ·rw [size_madeCells, hsz]; exact Nat.le_refl _
      ·rw [hlen]
      ·intro y hy
       rw [List.eq_of_mem_replicate hy]; exact hxs
      ·intro i j hi hj
       rw [hlen] at hi
       have e1 : (List.replicate n.toNat x).getD i .np = x := by simp [List.getD, hi]
       have hk : i * size + j < n.toNat * size := by
        have := Nat.mul_le_mul_right size (Nat.succ_le_of_lt hi); rw [Nat.succ_mul] at this; omega
       have e2 : ((madeCells z.cells (m.toNat * info.size)).toList.take (n.toNat * size)).getD (i * size + j) undef = (madeCells z.cells (m.toNat * info.size)).getD (i * size + j) undef := by
        rw [List.getD_eq_getElem?_getD, List.getElem?_take, if_pos hk, Array.getD_eq_getD_getElem?, Array.getElem?_toList]
       rw [e1, e2, hcells i j hj (by omega)]
       exact (c2 j (by omega)).mono fun g hg => ⟨hg, heap_alloc_old w _ g (I.lt g hg)⟩
    ·exact hK.elim
   ·exact hK.elim
  ·exact hK.elim
 ·exact hK.elim
theorem op_max {args : Array Operand} {ts : Array TypeId} (ho : o.op = .call { callee := .builtin .max, args := args, argTypes := ts }) (hK : opR Ω E draw ev h o.op id K) : Done ι imm h w K ((execOp ρ o).run P w) := by
 rw [ho] at hK
 simp only [opR] at hK
 split at hK
 ·rename_i k n k' m ha
  obtain ⟨a, b, rfl, h1, h2⟩ := args_two ha
  obtain ⟨rfl, hK⟩ := hK
  have r1 := he a
  have r2 := he b
  rw [h1] at r1
  rw [h2] at r2
  have e1 := repI r1
  have e2 := repI r2
  refine Done.val (v := .int k (Ω .imax n m)) I ?_ hK (RepC.i _ _)
  simp [execOp, ho, resolve, invoke, builtin, Builtin.max_, Builtin.max2, e1, e2, w_imax]
 ·exact hK.elim
theorem op_min {args : Array Operand} {ts : Array TypeId} (ho : o.op = .call { callee := .builtin .min, args := args, argTypes := ts }) (hK : opR Ω E draw ev h o.op id K) : Done ι imm h w K ((execOp ρ o).run P w) := by
 rw [ho] at hK
 simp only [opR] at hK
 split at hK
 ·rename_i k n k' m ha
  obtain ⟨a, b, rfl, h1, h2⟩ := args_two ha
  obtain ⟨rfl, hK⟩ := hK
  have r1 := he a
  have r2 := he b
  rw [h1] at r1
  rw [h2] at r2
  have e1 := repI r1
  have e2 := repI r2
  refine Done.val (v := .int k (Ω .imin n m)) I ?_ hK (RepC.i _ _)
  simp [execOp, ho, resolve, invoke, builtin, Builtin.min_, Builtin.min2, e1, e2, w_imin]
 ·exact hK.elim
end
end Go.K
end
