/-
  Parts of the proof, joined by a program of this work: KStr, KTxt, KBld, KNatl, KNat4, KPrint, KFilm1, KFilm2.
-/
import Derived.Test.YtlolgojfeijjhaaGreatDoorQan
import Derived.Laws.Strings
import Derived.Test.YtlolgojfeijjhaaGreatDoorQal
import Derived.Test.YtlolgojfeijjhaaGreatDoorQam
set_option linter.unusedSimpArgs false
set_option linter.unusedVariables false
set_option maxHeartbeats 8000000
set_option maxRecDepth 20000
section
namespace Go.K
open Go
theorem tn_one : Ω .tn 1 = 1 := rfl
theorem tn_two : Ω .tn 2 = 2 := rfl
theorem rs {P Q : Prop} (q : Q) (h : Hid Q → P := by
 intro q; (generalize hΩ : Ω = ω, hΨ : Ψ = ψ; cbv <;> subst hΩ hΨ <;> try simp only [lits, true_and, Int.reduceAdd, Int.reduceSub, Int.reduceMul, not_u32, slen_nil, tn_ci, tn_zero, tn_one, tn_two, slen_lims, slen_dRs, slen_dVs, slen_dBs])
 (repeat (
  first
   | refine ⟨_, hC _ _ _ (by assumption), ?_⟩
   | refine ⟨_, _, hC2 _ _ _ _ _ (by assumption), ?_⟩
   | refine ⟨_, hC2 _ _ _ _ _ (by assumption), rfl, rfl, ?_⟩
   | refine ⟨ci_nonneg _, _, (by assumption), rfl, ?_⟩
   | refine ⟨_, (by assumption), rfl, ?_⟩
   | refine ⟨ci_nonneg _, (by simp only [wz, slen_scat]; omega), _, (by assumption), (by first | exact Nat.le_refl _ | (simp; done)), rfl, ?_⟩
   | refine ⟨(by first | exact fun u h => by rw [List.mem_singleton.1 h]; rfl | exact cells_dRs _ | assumption), (by simp only [wz, slen_scat]; omega), ?_⟩
   | refine ⟨ci_nonneg _, _, (by assumption), ?_⟩
   | refine ⟨_, (by assumption), ?_⟩
   | refine BrG.yes (by first | assumption | decide) ?_
   | refine BrG.no (by first | assumption | decide) ?_
   | refine ⟨(by simp only [wz]; omega), ?_⟩
  (generalize hΩ : Ω = ω, hΨ : Ψ = ψ; cbv <;> subst hΩ hΨ <;> try simp only [lits, true_and, Int.reduceAdd, Int.reduceSub, Int.reduceMul, not_u32, slen_nil, tn_ci, tn_zero, tn_one, tn_two, slen_lims, slen_dRs, slen_dVs, slen_dBs])))
 all_goals with_reducible exact q.out) : P := h ⟨q⟩
def byt (B : ByteArray) : List Nat := B.data.toList.map fun c => c.toNat
theorem bsz_byt (B : ByteArray) : Ω .bsz B = (byt B).length := by
 unfold byt; rw [w_bsz, List.length_map, Array.length_toList]; rfl
theorem bget_byt (B : ByteArray) (k : Nat) : Ω .bget B k = (byt B)[k]? := by
 unfold byt
 rw [w_bget, List.getElem?_map]
 congr 1
 by_cases h : k < B.size
 ·rw [getElem?_pos B k h, Array.getElem?_toList, getElem?_pos B.data k h]; rfl
 ·rw [getElem?_neg B k h, Array.getElem?_toList, getElem?_neg B.data k h]
theorem byt_bext (B : ByteArray) (i j : Nat) : byt (Ω .bext B i j) = ((byt B).drop i).take (j - i) := by
 unfold byt
 rw [w_bext, ByteArray.data_extract, Array.toList_extract, List.extract_eq_take_drop, List.map_take, List.map_drop]
theorem byt_bcat (A B : ByteArray) : byt (Ω .bcat A B) = byt A ++ byt B := by
 unfold byt
 rw [w_bcat, ByteArray.data_append, Array.toList_append, List.map_append]
theorem byt_inj {A B : ByteArray} (h : byt A = byt B) : A = B := by
 unfold byt at h
 have : A.data.toList = B.data.toList := List.map_inj_right (fun a b h => UInt8.toNat_inj.1 h) |>.1 h
 cases A; cases B
 congr 1
 exact Array.toList_inj.1 this
theorem beqs_byt (A B : ByteArray) : Ω .beqs A B = decide (byt A = byt B) := by
 rw [w_beqs, ByteArray.toList_eq, ByteArray.toList_eq]
 by_cases h : byt A = byt B
 ·rw [decide_eq_true h, byt_inj h]; simp
 ·rw [decide_eq_false h]
  refine beq_eq_false_iff_ne.2 (fun c => h ?_)
  unfold byt; rw [c]
theorem bnes_byt (A B : ByteArray) : Ω .bnes A B = !decide (byt A = byt B) := by
 rw [← beqs_byt, w_bnes, w_beqs]
def isDig (c : Nat) : Bool := decide (48 ≤ c) && decide (c ≤ 57)
def digS (l : List Nat) : Nat := (l.takeWhile isDig).length
def numS (l : List Nat) : Nat := l.foldl (fun a c => 10 * a + (c - 48)) 0
theorem numS_snoc (l : List Nat) (c : Nat) : numS (l ++ [c]) = 10 * numS l + (c - 48) := by simp [numS]
theorem numS_lt {l : List Nat} (h : ∀ c, c ∈ l → c ≤ 57) : numS l < 4294967296 ^ (l.length + 1) := by
 suffices hh : ∀ (l : List Nat), (∀ c, c ∈ l.reverse → c ≤ 57) → numS l.reverse < 4294967296 ^ (l.length + 1) by
  have := hh l.reverse (by rw [List.reverse_reverse]; exact h)
  rwa [List.reverse_reverse, List.length_reverse] at this
 intro l
 induction l with
 | nil => intro _; simp [numS]
 | cons a l ih =>
  intro h
  rw [List.reverse_cons, numS_snoc]
  have h1 := ih (fun c hc => h c (by rw [List.reverse_cons]; exact List.mem_append_left _ hc))
  have h2 := h a (by rw [List.reverse_cons]; exact List.mem_append_right _ (List.mem_singleton.2 rfl))
  rw [List.length_cons, Nat.pow_succ]
  generalize 4294967296 ^ (l.length + 1) = M at *
  omega
end Go.K
namespace Go.K.S
open Go Go.K
end Go.K.S
end
section
namespace Go.K
open Go
def chs (l : List Nat) : Prop := ∀ c, c ∈ l → c < 256
theorem chs_nil : chs [] := fun _ h => absurd h List.not_mem_nil
theorem chs_cons {c : Nat} {l : List Nat} (h : c < 256) (hl : chs l) : chs (c :: l) := fun x hx => by
 rcases List.mem_cons.1 hx with rfl | q
 ·exact h
 ·exact hl x q
theorem chs_app {a b : List Nat} (ha : chs a) (hb : chs b) : chs (a ++ b) := fun x hx => (List.mem_append.1 hx).elim (ha x) (hb x)
theorem chs_byt (B : ByteArray) : chs (byt B) := fun c hc => by
 unfold byt at hc
 obtain ⟨x, _, rfl⟩ := List.mem_map.1 hc
 exact x.toNat_lt
theorem chs_drop {l : List Nat} (h : chs l) (n : Nat) : chs (l.drop n) := fun c hc => h c (List.mem_of_mem_drop hc)
theorem p_str (l : List Nat) : Ψ .str l = ⟨(l.map UInt8.ofNat).toArray⟩ := rfl
theorem p_strs (l : List ByteArray) : Ψ .strs l = l.map D.s := rfl
theorem byt_str {l : List Nat} (h : chs l) : byt (Ψ .str l) = l := by
 rw [p_str]
 unfold byt
 simp only [List.map_map]
 conv => rhs; rw [← List.map_id l]
 exact List.map_congr_left fun c hc => by have := h c hc; simp; omega
theorem str_byt (B : ByteArray) : Ψ .str (byt B) = B := byt_inj (by rw [byt_str (chs_byt B)])
theorem str_of {B : ByteArray} {l : List Nat} (h : byt B = l) : B = Ψ .str l := by rw [← h, str_byt]
theorem bsz_str {l : List Nat} (h : chs l) : Ω .bsz (Ψ .str l) = l.length := by rw [bsz_byt, byt_str h]
theorem bcat_str {a b : List Nat} (ha : chs a) (hb : chs b) : Ω .bcat (Ψ .str a) (Ψ .str b) = Ψ .str (a ++ b) := str_of (by rw [byt_bcat, byt_str ha, byt_str hb])
theorem bext_str {l : List Nat} (h : chs l) (i j : Nat) : Ω .bext (Ψ .str l) i j = Ψ .str ((l.drop i).take (j - i)) := str_of (by rw [byt_bext, byt_str h])
theorem bget_str {l : List Nat} (h : chs l) (k : Nat) : Ω .bget (Ψ .str l) k = l[k]? := by rw [bget_byt, byt_str h]
theorem beqs_str {a b : List Nat} (ha : chs a) (hb : chs b) : Ω .beqs (Ψ .str a) (Ψ .str b) = decide (a = b) := by rw [beqs_byt, byt_str ha, byt_str hb]
theorem scat_bcl (A B : ByteArray) : Ω .scat (Ω .bcl A) (Ω .bcl B) = Ω .bcl (Ω .bcat A B) := by
 rw [w_scat, w_bcl, w_bcl, w_bcl, w_bcat, ByteArray.data_append, Array.toList_append, List.map_append]
theorem dby_bcl (B : ByteArray) : Ω .dby (Ω .bcl B) = B := by rw [bcl_bcs, dby_bcs]
theorem byts_bcl (B : ByteArray) : Ω .byts (Ω .bcl B) := by rw [bcl_bcs]; exact byts_bcs _
theorem slen_bcl (B : ByteArray) : Ω .slen (Ω .bcl B) = Ω .bsz B := by rw [w_slen, w_bcl, List.length_map, Array.length_toList]; rfl
theorem bsz_bcat (A B : ByteArray) : Ω .bsz (Ω .bcat A B) = Ω .bsz A + Ω .bsz B := by rw [bsz_byt, byt_bcat, List.length_append, bsz_byt, bsz_byt]
theorem bcl_str {l : List Nat} (h : chs l) : Ω .bcl (Ψ .str l) = l.map fun c => D.i .u8 (Ω .ci c) := by
 rw [w_bcl, p_str]
 simp only [List.map_map]
 exact List.map_congr_left fun c hc => by have := h c hc; simp [w_ci]; omega
theorem dby_map {l : List Nat} (h : chs l) : Ω .dby (l.map fun c => D.i .u8 (Ω .ci c)) = Ψ .str l := by rw [← bcl_str h, dby_bcl]
theorem byts_map {l : List Nat} (h : chs l) : Ω .byts (l.map fun c => D.i .u8 (Ω .ci c)) := by rw [← bcl_str h]; exact byts_bcl _
def decS (n : Nat) : List Nat := if n < 10 then [48 + n] else decS (n / 10) ++ [48 + n % 10]
 termination_by n
 decreasing_by omega
theorem decS_lt {n : Nat} (h : n < 10) : decS n = [48 + n] := by rw [decS, if_pos h]
theorem decS_ge {n : Nat} (h : ¬ n < 10) : decS n = decS (n / 10) ++ [48 + n % 10] := by rw [decS, if_neg h]
theorem chs_decS (n : Nat) : chs (decS n) := by
 induction n using Nat.strongRecOn with
 | ind n ih =>
  by_cases h : n < 10
  ·rw [decS_lt h]; exact chs_cons (by omega) chs_nil
  ·rw [decS_ge h]
   exact chs_app (ih (n / 10) (by omega)) (chs_cons (by omega) chs_nil)
theorem decS_isDig (n : Nat) : ∀ c, c ∈ decS n → 48 ≤ c ∧ c ≤ 57 := by
 induction n using Nat.strongRecOn with
 | ind n ih =>
  intro c hc
  by_cases h : n < 10
  ·rw [decS_lt h] at hc; simp at hc; omega
  ·rw [decS_ge h] at hc
   rcases List.mem_append.1 hc with q | q
   ·exact ih (n / 10) (by omega) c q
   ·simp at q; omega
def padS : Nat → Nat → List Nat
 | 0, _ => []
 | k + 1, n => padS k (n / 10) ++ [48 + n % 10]
theorem padS_len (k n : Nat) : (padS k n).length = k := by
 induction k generalizing n with
 | zero => rfl
 | succ k ih => simp [padS, ih]
theorem chs_padS (k n : Nat) : chs (padS k n) := by
 induction k generalizing n with
 | zero => exact chs_nil
 | succ k ih => exact chs_app (ih _) (chs_cons (by omega) chs_nil)
theorem padS_zero (k : Nat) : padS k 0 = List.replicate k 48 := by
 induction k with
 | zero => rfl
 | succ k ih => simp [padS, ih, List.replicate_succ']
theorem padS_add (j k n : Nat) : padS (j + k) n = padS j (n / 10 ^ k) ++ padS k n := by
 induction k generalizing n with
 | zero => simp [padS]
 | succ k ih =>
  show padS (j + k) (n / 10) ++ [48 + n % 10] = _
  rw [ih (n / 10), Nat.div_div_eq_div_mul, Nat.pow_succ, Nat.mul_comm 10, List.append_assoc]
  rfl
theorem padS_mod (k n : Nat) : padS k (n % 10 ^ k) = padS k n := by
 induction k generalizing n with
 | zero => rfl
 | succ k ih =>
  show padS k (n % 10 ^ (k + 1) / 10) ++ [48 + n % 10 ^ (k + 1) % 10] = _
  have h1 : n % 10 ^ (k + 1) / 10 = n / 10 % 10 ^ k := by
   rw [Nat.pow_succ, Nat.mul_comm, Nat.mod_mul_right_div_self]
  have h2 : n % 10 ^ (k + 1) % 10 = n % 10 := by
   rw [Nat.pow_succ]; exact Nat.mod_mul_left_mod _ _ _
  rw [h1, h2, ih]
  rfl
def trim0 (l : List Nat) : List Nat := l.dropWhile (· == 48)
theorem trim0_rep (k : Nat) (l : List Nat) : trim0 (List.replicate k 48 ++ l) = trim0 l := by
 induction k with
 | zero => rfl
 | succ k ih =>
  rw [List.replicate_succ]
  have : trim0 (48 :: (List.replicate k 48 ++ l)) = trim0 (List.replicate k 48 ++ l) := by simp [trim0]
  exact this.trans ih
theorem trim0_ne {c : Nat} (h : c ≠ 48) (l : List Nat) : trim0 (c :: l) = c :: l := by simp [trim0, h]
theorem decS_head {n : Nat} (h : n ≠ 0) : ∃ c r, decS n = c :: r ∧ c ≠ 48 := by
 induction n using Nat.strongRecOn with
 | ind n ih =>
  by_cases h1 : n < 10
  ·exact ⟨48 + n, [], decS_lt h1, by omega⟩
  ·obtain ⟨c, r, e, hc⟩ := ih (n / 10) (by omega) (by omega)
   exact ⟨c, r ++ [48 + n % 10], by rw [decS_ge h1, e]; rfl, hc⟩
theorem trim0_padS : ∀ (k n : Nat), n ≠ 0 → n < 10 ^ k → trim0 (padS k n) = decS n
 | 0, n, h, hk => by simp at hk; exact absurd hk h
 | k + 1, n, h, hk => by
  show trim0 (padS k (n / 10) ++ [48 + n % 10]) = _
  by_cases h1 : n < 10
  ·have : n / 10 = 0 := by omega
   rw [this, padS_zero, trim0_rep, decS_lt h1, trim0_ne (by omega)]
   congr 2; omega
  ·have h2 := trim0_padS k (n / 10) (by omega) (by rw [Nat.pow_succ] at hk; omega)
   rw [decS_ge h1, ← h2]
   obtain ⟨c, r, e, hc⟩ := decS_head (n := n / 10) (by omega)
   have : ∃ j, padS k (n / 10) = List.replicate j 48 ++ decS (n / 10) := by
    rw [← h2]
    generalize padS k (n / 10) = l
    induction l with
    | nil => exact ⟨0, rfl⟩
    | cons a l ih =>
     by_cases ha : a = 48
     ·subst ha
      obtain ⟨j, hj⟩ := ih
      refine ⟨j + 1, ?_⟩
      rw [List.replicate_succ, List.cons_append]
      have : trim0 (48 :: l) = trim0 l := by simp [trim0]
      rw [this, ← hj]
     ·exact ⟨0, by rw [trim0_ne ha]; rfl⟩
   obtain ⟨j, hj⟩ := this
   rw [hj, List.append_assoc, trim0_rep, trim0_rep, e, List.cons_append, trim0_ne hc, trim0_ne hc]
   rfl
end Go.K
end
section
namespace Go.K
open Go
abbrev bd0 (T : TypeId) : List Blk := [.var [.d .np, .nil] (some T)]
abbrev bd1 (T u8 : TypeId) (xs : List D) : List Blk := [.var [.ptr 0 0, .own 1 1] (some T), .row true u8 1 xs]
theorem room_bcl {b : ByteArray} (hb : Ω .bsz b ≤ 1099511627776) : Ω .room (Ω .bsz b) 1 := by simp only [wz]; omega
theorem small_one (n : Nat) (h : n < 10) : ((byt ⟨#[48, 49, 50, 51, 52, 53, 54, 55, 56, 57, 97, 98, 99, 100, 101, 102, 103, 104, 105, 106, 107, 108, 109, 110, 111, 112, 113, 114, 115, 116, 117, 118, 119, 120, 121, 122]⟩).drop n).take (n + 1 - n) = decS n := by
 rw [decS_lt h, show n + 1 - n = 1 by omega]
 have : n = 0 ∨ n = 1 ∨ n = 2 ∨ n = 3 ∨ n = 4 ∨ n = 5 ∨ n = 6 ∨ n = 7 ∨ n = 8 ∨ n = 9 := by omega
 rcases this with rfl | rfl | rfl | rfl | rfl | rfl | rfl | rfl | rfl | rfl <;> rfl
theorem small_two (n : Nat) (h : n < 100) (h2 : ¬ n < 10) : ((byt ⟨#[48, 48, 48, 49, 48, 50, 48, 51, 48, 52, 48, 53, 48, 54, 48, 55, 48, 56, 48, 57, 49, 48, 49, 49, 49, 50, 49, 51, 49, 52, 49, 53, 49, 54, 49, 55, 49, 56, 49, 57, 50, 48, 50, 49, 50, 50, 50, 51, 50, 52, 50, 53, 50, 54, 50, 55, 50, 56, 50, 57, 51, 48, 51, 49, 51, 50, 51, 51, 51, 52, 51, 53, 51, 54, 51, 55, 51, 56, 51, 57, 52, 48, 52, 49, 52, 50, 52, 51, 52, 52, 52, 53, 52, 54, 52, 55, 52, 56, 52, 57, 53, 48, 53, 49, 53, 50, 53, 51, 53, 52, 53, 53, 53, 54, 53, 55, 53, 56, 53, 57, 54, 48, 54, 49, 54, 50, 54, 51, 54, 52, 54, 53, 54, 54, 54, 55, 54, 56, 54, 57, 55, 48, 55, 49, 55, 50, 55, 51, 55, 52, 55, 53, 55, 54, 55, 55, 55, 56, 55, 57, 56, 48, 56, 49, 56, 50, 56, 51, 56, 52, 56, 53, 56, 54, 56, 55, 56, 56, 56, 57, 57, 48, 57, 49, 57, 50, 57, 51, 57, 52, 57, 53, 57, 54, 57, 55, 57, 56, 57, 57]⟩).drop (n * 2)).take (n * 2 + 2 - n * 2) = decS n := by
 rw [decS_ge h2, decS_lt (by omega), show n * 2 + 2 - n * 2 = 2 by omega]
 have key : ∀ m : Fin 100, ((byt ⟨#[48, 48, 48, 49, 48, 50, 48, 51, 48, 52, 48, 53, 48, 54, 48, 55, 48, 56, 48, 57, 49, 48, 49, 49, 49, 50, 49, 51, 49, 52, 49, 53, 49, 54, 49, 55, 49, 56, 49, 57, 50, 48, 50, 49, 50, 50, 50, 51, 50, 52, 50, 53, 50, 54, 50, 55, 50, 56, 50, 57, 51, 48, 51, 49, 51, 50, 51, 51, 51, 52, 51, 53, 51, 54, 51, 55, 51, 56, 51, 57, 52, 48, 52, 49, 52, 50, 52, 51, 52, 52, 52, 53, 52, 54, 52, 55, 52, 56, 52, 57, 53, 48, 53, 49, 53, 50, 53, 51, 53, 52, 53, 53, 53, 54, 53, 55, 53, 56, 53, 57, 54, 48, 54, 49, 54, 50, 54, 51, 54, 52, 54, 53, 54, 54, 54, 55, 54, 56, 54, 57, 55, 48, 55, 49, 55, 50, 55, 51, 55, 52, 55, 53, 55, 54, 55, 55, 55, 56, 55, 57, 56, 48, 56, 49, 56, 50, 56, 51, 56, 52, 56, 53, 56, 54, 56, 55, 56, 56, 56, 57, 57, 48, 57, 49, 57, 50, 57, 51, 57, 52, 57, 53, 57, 54, 57, 55, 57, 56, 57, 57]⟩).drop (m.1 * 2)).take 2 = [48 + m.1 / 10] ++ [48 + m.1 % 10] := of_decide_eq_true (by kernel_rfl)
 exact key ⟨n, h⟩
end Go.K
namespace Go.K.S
open Go Go.K
theorem check0_good : Good P F.P_strings_Builder_copyCheck [.ptr 0 0] (bd0 T.strings_Builder) (.tup []) [.var [.ptr 0 0, .nil] (some T.strings_Builder)] := by
 refine G.P_strings_Builder_copyCheck fun C C2 hC hC2 => ?_
 refine rq ?_
 exact ⟨[], rfl, rfl, rfl⟩
theorem check1_good (xs : List D) : Good P F.P_strings_Builder_copyCheck [.ptr 0 0] (bd1 T.strings_Builder T.uint8 xs) (.tup []) (bd1 T.strings_Builder T.uint8 xs) := by
 refine G.P_strings_Builder_copyCheck (hb := by simp) fun C C2 hC hC2 => ?_
 refine rq ?_
 exact ⟨[], rfl, rfl, rfl⟩
theorem write0_good (b : ByteArray) (hb : Ω .bsz b ≤ 1099511627776) : Good P F.P_strings_Builder_WriteString [.ptr 0 0, .d (.s b)] (bd0 T.strings_Builder) (.tup [.d (.i .i64 (Ω .ci (Ω .bsz b))), .d .nif]) (bd1 T.strings_Builder T.uint8 (Ω .bcl b)) := by
 refine G.P_strings_Builder_WriteString fun C C2 hC hC2 => ?_
 have g0 := check0_good
 have hr := room_bcl hb
 refine rq ?_
 exact ⟨hr, [1206], rfl, rfl, rfl⟩
theorem write1_good (A b : ByteArray) (hb : Ω .bsz A + Ω .bsz b ≤ 1099511627776) : Good P F.P_strings_Builder_WriteString [.ptr 0 0, .d (.s b)] (bd1 T.strings_Builder T.uint8 (Ω .bcl A)) (.tup [.d (.i .i64 (Ω .ci (Ω .bsz b))), .d .nif])
  [.var [.ptr 0 0, .own 2 1] (some T.strings_Builder), .dead, .row true T.uint8 1 (Ω .bcl (Ω .bcat A b))] := by
 refine G.P_strings_Builder_WriteString (hb := by simp) fun C C2 hC hC2 => ?_
 have g0 := check1_good (Ω .bcl A)
 have hr : Ω .room (Ω .nadd (Ω .slen (Ω .bcl A)) (Ω .bsz b)) 1 := by rw [slen_bcl]; simp only [wz]; omega
 rw [← scat_bcl]
 generalize Ω .bcl A = xs at *
 refine rq ?_
 exact ⟨hr, [1206], rfl, rfl, rfl⟩
theorem string0_good : Good P F.P_strings_Builder_String [.ptr 0 0] (bd0 T.strings_Builder) (.d (.s ⟨#[]⟩)) (bd0 T.strings_Builder) := by
 refine G.P_strings_Builder_String fun C C2 hC hC2 => ?_
 refine rq ?_
 exact ⟨[], rfl, rfl, rfl⟩
theorem string1_good (A : ByteArray) (h0 : 0 < Ω .bsz A) : Good P F.P_strings_Builder_String [.ptr 0 0] (bd1 T.strings_Builder T.uint8 (Ω .bcl A)) (.d (.s A)) [.var [.ptr 0 0, .own 1 1] (some T.strings_Builder), .row false T.uint8 1 (Ω .bcl A)] := by
 refine G.P_strings_Builder_String (hb := by simp) fun C C2 hC hC2 => ?_
 have h1 := byts_bcl A
 rw [← slen_bcl] at h0
 have h2 := dby_bcl A
 generalize Ω .bcl A = xs at *
 rw [← h2]
 refine rq ?_
 exact ⟨h1, [], rfl, rfl, rfl⟩
theorem trimb_good (l : List Nat) (hl : chs l) (hlen : l.length < 1099511627776) : Good P F.strings_trimLeftByte [.d (.s (Ψ .str l)), .d (.i .u8 48)] [] (.d (.s (Ψ .str (trim0 l)))) [] := by
 refine G.strings_trimLeftByte fun C C2 hC hC2 => ?_
 refine rs ?_
 refine LoopG.intro (σ := List Nat) [0, 1] [] (fun m => [.d (.s (Ψ .str m)), .d (.i .u8 48)]) (fun _ => []) (fun m => chs m ∧ trim0 m = trim0 l ∧ m.length ≤ l.length) (fun m => m.length) l [] ⟨hl, rfl, Nat.le_refl _⟩ ⟨rfl, rfl, rfl⟩ ?_
 rintro m ⟨hm, htr, hle⟩
 have hsz := bsz_str hm
 rw [← htr]
 cases m with
 | nil =>
  have q0 : Ω .lt 0 (Ω .ci (Ω .bsz (Ψ .str []))) = false := by rw [hsz]; simp only [wz]; simp
  exact rs trivial
 | cons c r =>
  have q0 : Ω .lt 0 (Ω .ci (Ω .bsz (Ψ .str (c :: r)))) = true := by rw [hsz, List.length_cons]; simp only [wz]; omega
  have hg : Ω .bget (Ψ .str (c :: r)) 0 = some c := by rw [bget_str hm]; rfl
  have hr : chs r := fun x hx => hm x (List.mem_cons_of_mem _ hx)
  by_cases hc : c = 48
  ·have q1 : Ω .eq (Ω .ci c) 48 = true := by subst hc; rfl
   have hx : Ω .bext (Ψ .str (c :: r)) 1 (Ω .bsz (Ψ .str (c :: r))) = Ψ .str r := by rw [bext_str hm, hsz]; simp
   have hle1 : Ω .ile 1 (Ω .ci (Ω .bsz (Ψ .str (c :: r)))) := by rw [hsz, List.length_cons]; simp only [wz]; omega
   have e1 : trim0 (c :: r) = trim0 r := by subst hc; simp [trim0]
   generalize Ψ .str (c :: r) = B at *
   refine rs ?_
   rw [hx]
   exact ⟨r, [], ⟨hr, e1.symm, by simp at hle; omega⟩, by simp, rfl, rfl, rfl⟩
  ·have q1 : Ω .eq (Ω .ci c) 48 = false := eq_false'.2 (by rw [w_ci]; omega)
   rw [trim0_ne hc]
   generalize Ψ .str (c :: r) = B at *
   exact rs trivial
theorem trimLeft_good (l : List Nat) (hl : chs l) (hlen : l.length < 1099511627776) : Good P F.strings_TrimLeft [.d (.s (Ψ .str l)), .d (.s ⟨#[48]⟩)] [] (.d (.s (Ψ .str (trim0 l)))) [] := by
 refine G.strings_TrimLeft fun C C2 hC hC2 => ?_
 have g0 := trimb_good l hl hlen
 have hz : Ω .bsz ⟨#[48]⟩ = 1 := rfl
 have hg : Ω .bget ⟨#[48]⟩ 0 = some 48 := rfl
 have e48 : Ω .ci 48 = 48 := rfl
 have q1 : Ω .beqs ⟨#[48]⟩ ⟨#[]⟩ = false := by
  rw [show (⟨#[48]⟩ : ByteArray) = Ψ .str [48] from rfl, show (⟨#[]⟩ : ByteArray) = Ψ .str [] from rfl, beqs_str (chs_cons (by omega) chs_nil) chs_nil]; rfl
 have q2 : Ω .eq (Ω .ci 1) 1 = true := rfl
 have q3 : Ω .lt (Ω .ci 48) 128 = true := rfl
 cases l with
 | nil =>
  have q0 : Ω .beqs (Ψ .str []) ⟨#[]⟩ = true := by rw [show (⟨#[]⟩ : ByteArray) = Ψ .str [] from rfl, beqs_str chs_nil chs_nil]; rfl
  rw [show trim0 [] = [] from rfl]
  generalize Ψ .str [] = B at *
  exact rs trivial
 | cons c r =>
  have q0 : Ω .beqs (Ψ .str (c :: r)) ⟨#[]⟩ = false := by
   rw [show (⟨#[]⟩ : ByteArray) = Ψ .str [] from rfl, beqs_str hl chs_nil]; rfl
  generalize Ψ .str (c :: r) = B at *
  generalize Ψ .str (trim0 (c :: r)) = R at *
  obtain ⟨Z, hZ⟩ : ∃ Z : ByteArray, Z = ⟨#[48]⟩ := ⟨_, rfl⟩
  rw [← hZ] at hz hg q1 ⊢
  rw [← hz] at q2
  exact rs trivial
theorem itoa2_good (n : Nat) (hn : n < 100) : Good P F.internal_strconv_small [.d (.i .i64 (Ω .ci n))] [] (.d (.s (Ψ .str (decS n)))) [] := by
 refine G.internal_strconv_small fun C C2 hC hC2 => ?_
 have w1 : Ω .wrap .i64 (Ω .ci n + 1) = Ω .ci (n + 1) := wrap_succ (by omega)
 have w2 : Ω .wrap .i64 (Ω .ci n * 2) = Ω .ci (n * 2) := by rw [wrap64] <;> simp only [wz] <;> omega
 have w3 : Ω .wrap .i64 (Ω .ci (n * 2) + 2) = Ω .ci (n * 2 + 2) := by rw [wrap64] <;> simp only [wz] <;> omega
 by_cases h : n < 10
 ·have q0 : Ω .lt (Ω .ci n) 10 = true := by simp only [wz]; omega
  refine rs ?_
  rw [w1]
  refine ⟨by simp only [wz]; omega, ?_, congrArg (fun b => V.d (D.s b)) (str_of ?_)⟩
  ·show (n + 1 : Int) ≤ 36
   omega
  ·rw [byt_bext]
   exact small_one n h
 ·have q0 : Ω .lt (Ω .ci n) 10 = false := by simp only [wz]; omega
  refine rs ?_
  rw [w2, w3]
  refine ⟨by simp only [wz]; omega, by simp only [wz]; omega, ?_, congrArg (fun b => V.d (D.s b)) (str_of ?_)⟩
  ·show (((n * 2 + 2 : Nat)) : Int) ≤ 200
   omega
  ·rw [byt_bext]
   exact small_two n hn h
theorem format2_good (n : Nat) (hn : n < 100) : Good P F.internal_strconv_FormatInt [.d (.i .i64 (Ω .ci n)), .d (.i .i64 10)] [] (.d (.s (Ψ .str (decS n)))) [] := by
 refine G.internal_strconv_FormatInt fun C C2 hC hC2 => ?_
 have g := itoa2_good n hn
 have q0 : Ω .eq 10 10 = true := rfl
 have q1 : Ω .le 0 (Ω .ci n) = true := by simp only [wz]; omega
 have q2 : Ω .lt (Ω .ci n) 100 = true := by simp only [wz]; omega
 generalize Ψ .str (decS n) = R at *
 exact rs trivial
theorem itoa_good (n : Nat) (hn : n < 100) : Good P F.strconv_Itoa [.d (.i .i64 (Ω .ci n))] [] (.d (.s (Ψ .str (decS n)))) [] := by
 have g1 : Good P F.internal_strconv_Itoa [.d (.i .i64 (Ω .ci n))] [] (.d (.s (Ψ .str (decS n)))) [] := by
  refine G.internal_strconv_Itoa fun C C2 hC hC2 => ?_
  have g := format2_good n hn
  generalize Ψ .str (decS n) = R at *
  exact rs trivial
 refine G.strconv_Itoa fun C C2 hC hC2 => ?_
 generalize Ψ .str (decS n) = R at *
 exact rs trivial
theorem backward_good (xs : List D) : Good P F.slices_Backward_L_string_string [.own 0 1] [.row true T.string 1 xs] (.clo F.slices_Backward_L_string_string_1 [] [some 1]) [.row true T.string 1 xs, .var [.own 0 1]] := by
 refine G.slices_Backward_L_string_string (hb := by simp) fun C C2 hC hC2 => ?_
 refine rs ?_
 exact ⟨[1000], rfl, rfl, rfl⟩
end Go.K.S
end
section
namespace Go.K
open Go
def grp (m : Nat) (i : Nat) : List ByteArray := (List.range i).map fun j => Ψ .str (padS 9 (m / 1000000000 ^ j))
theorem grp_succ (m i : Nat) : grp m (i + 1) = grp m i ++ [Ψ .str (padS 9 (m / 1000000000 ^ i))] := by simp [grp, List.range_succ]
theorem cn_one_limb {n : Nat} (h : n ≠ 0) (h2 : n < 4294967296) : Ψ .cn n = [n] := by
 rw [cn_pos (Nat.pos_of_ne_zero h), Nat.mod_eq_of_lt h2, Nat.div_eq_of_lt h2, cn_zero]
def qd (n : Nat) : Nat → Nat
 | 0 => n
 | i + 1 => qd n i / 10
def dgs (Z : Nat → Int) (i : Nat) : List V := (List.range 9).map fun k => V.d (D.i .u8 (if 8 - k < i then Z (8 - k) else 0))
theorem qd_lt {n : Nat} (h : n < 4294967296) (i : Nat) : qd n i < 4294967296 := by
 induction i with
 | zero => exact h
 | succ i ih => simp only [qd]; omega
theorem qd_ex (n : Nat) (h : n < 4294967296) : ∃ q : Nat → Nat, q 0 = n ∧ (∀ j, q (j + 1) = q j / 10) ∧ (∀ j, q j < 4294967296) ∧
  padS 9 n = [48 + q 8 % 10, 48 + q 7 % 10, 48 + q 6 % 10, 48 + q 5 % 10, 48 + q 4 % 10, 48 + q 3 % 10, 48 + q 2 % 10, 48 + q 1 % 10, 48 + q 0 % 10] :=
 ⟨qd n, rfl, fun _ => rfl, qd_lt h, rfl⟩
def nth (m : Nat) (i : Nat) : Nat := m / 1000000000 ^ i
theorem nth_ex (m : Nat) : ∃ A : Nat → Nat, A 0 = m ∧ (∀ i, A (i + 1) = A i / 1000000000) ∧ ∀ i, A i = m / 1000000000 ^ i :=
 ⟨nth m, by simp [nth], fun i => by simp only [nth]; rw [Nat.div_div_eq_div_mul, Nat.pow_succ], fun _ => rfl⟩
theorem grp_many {m L i : Nat} (hm : m < 4294967296 ^ L) (h : i = 0 ∨ 1000000000 ^ (i - 1) ≤ m) : i ≤ 2 * L := by
 rcases h with rfl | h
 ·omega
 ·rcases Nat.lt_or_ge (2 * L) i with q | q
  ·exfalso
   have h1 : (4294967296 : Nat) ^ L ≤ (1000000000 ^ 2) ^ L := Nat.pow_le_pow_left (by omega) L
   rw [← Nat.pow_mul] at h1
   have h2 : (1000000000 : Nat) ^ (2 * L) ≤ 1000000000 ^ (i - 1) := Nat.pow_le_pow_right (by omega) (by omega)
   omega
  ·exact q
theorem cat_step (m k j : Nat) : Ω .bcat (Ψ .str (padS (9 * j) (m / 1000000000 ^ (k + 1)))) (Ψ .str (padS 9 (m / 1000000000 ^ k))) = Ψ .str (padS (9 * (j + 1)) (m / 1000000000 ^ k)) := by
 have e : m / 1000000000 ^ (k + 1) = m / 1000000000 ^ k / 10 ^ 9 := by rw [Nat.div_div_eq_div_mul, Nat.pow_succ]
 rw [bcat_str (chs_padS _ _) (chs_padS _ _), e, ← padS_add, Nat.mul_succ]
theorem grp_get {m i k : Nat} (h : k < i) : (grp m i)[k]? = some (Ψ .str (padS 9 (m / 1000000000 ^ k))) := by simp [grp, h]
theorem grp_len (m i : Nat) : (grp m i).length = i := by simp [grp]
theorem bsz_pad (j x : Nat) : Ω .bsz (Ψ .str (padS j x)) = j := by rw [bsz_str (chs_padS _ _), padS_len]
theorem RangeL.intro {m : Nat} {p q : Tmp} {body : St → (X → St → Prop) → Prop} {xs : List D} {s : St} {Q : X → St → Prop} (ks ids : List Nat) (vs : List V) (bs : Nat → List Blk) (olds : List Nat)
  (hk : kept m ks ids olds s fun a b => a = vs ∧ b = bs 0)
  (hr : ∀ k x, k < xs.length → xs[k]? = some x → body ⟨upd (upd (lookL ks vs) p (.d (.i .i64 (Ω .ci k)))) q (.d x), lookH ids (bs (xs.length - 1 - k))⟩ fun e s' => match e with
   | .normal => ∃ olds, kept m ks ids olds ⟨lookL ks vs, s'.h⟩ fun a b => a = vs ∧ b = bs (xs.length - k)
   | _ => False)
  (hq : Q .normal (stOf ks vs ids (bs xs.length))) : RangeL Ω m p q body xs s Q := ⟨ks, ids, vs, bs, ⟨olds, hk⟩, hr, hq⟩
end Go.K
namespace Go.K.S
open Go Go.K
theorem natural_good (l : List Nat) (h : N l) (hlen : l.length < 1073741824) : Good P F.decimal_Natural [.d (dN Ψ l)] [] (.d (.s (Ψ .str (decS (nv l))))) [] := by
 refine G.decimal_Natural fun C C2 hC hC2 => ?_
 have gn := norm_good l h
 have go := of_good 1000000000 (by omega)
 rw [show Ω .ci 1000000000 = 1000000000 from rfl] at go
 have hm := nv_lt h.lim
 obtain ⟨m, hm0⟩ : ∃ m, m = nv l := ⟨_, rfl⟩
 rw [← hm0] at gn hm ⊢
 have hbn : nv (Ψ .cn 1000000000) = 1000000000 := nv_cn _
 have gd : ∀ n, n ≤ m → Good P F.nat_DivMod [.d (dN Ψ (Ψ .cn n)), .d (dN Ψ (Ψ .cn 1000000000))] [] (.tup [.d (dN Ψ (Ψ .cn (n / 1000000000))), .d (dN Ψ (Ψ .cn (n % 1000000000))), .d (.b true)]) [] := fun n hn => by
  have hln := len_cn.2 (Nat.lt_of_le_of_lt hn hm)
  have := divmod_good (Ψ .cn n) (Ψ .cn 1000000000) ⟨lim_cn _, by omega⟩ ⟨lim_cn _, by have := (len_cn (k := 1)).2 (show 1000000000 < 4294967296 ^ 1 by omega); omega⟩ (by omega) (by rw [hbn]; omega)
  rw [nv_cn, hbn] at this
  exact this
 clear hm0
 generalize Ψ .cn 1000000000 = BB at *
 obtain ⟨A, hA0, hAs, hAi⟩ := nth_ex m
 obtain ⟨R, hR⟩ : ∃ R, R = Ψ .str (decS m) := ⟨_, rfl⟩
 rw [← hR]
 obtain ⟨G, hG⟩ : ∃ G : Nat → List D, G = fun i => Ψ .strs (grp m i) := ⟨_, rfl⟩
 have hG0 : G 0 = [] := by rw [hG]; rfl
 have hGs : ∀ i, Ω .scat (G i) [.s (Ψ .str (padS 9 (A i)))] = G (i + 1) := fun i => by rw [hG]; simp only []; rw [grp_succ, p_strs, p_strs, w_scat, List.map_append, hAi]; rfl
 have hAm : ∀ i, A i ≤ m := fun i => by rw [hAi]; exact Nat.div_le_self _ _
 rw [show Ψ .cn m = Ψ .cn (A 0) by rw [hA0]] at gn
 refine rs ?_
 refine LoopG.introB (σ := Nat) [.slot 4 900001 T.string 1] [0, 3, 4] [1050] (fun i => [.d (dN Ψ (Ψ .cn (A i))), .d (dN Ψ BB), .own 1050 1]) (fun i => [.row true T.string 1 (G i)])
  (fun i => i = 0 ∨ 1000000000 ^ (i - 1) ≤ m) (fun i => A i) 0 [900001] (.inl rfl) ⟨rfl, rfl, (by rw [hG0]; rfl)⟩ ?_
 rintro i hi
 have hil := grp_many hm hi
 by_cases hz : A i = 0
 ·have q0 : Ω .lt 0 (Ω .ci (Ψ .cn (A i)).length) = false := by rw [hz, cn_zero]; simp only [wz]; simp
  have gb := backward_good (G i)
  refine rs ?_
  have hln : (G i).length = i := by rw [hG]; simp only []; rw [p_strs, List.length_map, grp_len]
  have hget : ∀ k, k < i → (G i)[k]? = some (D.s (Ψ .str (padS 9 (m / 1000000000 ^ k)))) := fun k hk => by rw [hG]; simp only []; rw [p_strs, List.getElem?_map, grp_get hk]; rfl
  refine ⟨?_, ?_, RangeL.intro [11] [1050, 1051] [.ptr 1050 0] (fun j => if j = 0 then bd0 T.strings_Builder ++ [.dead] else [.var [.ptr 1050 0, .own 1051 1] (some T.strings_Builder), .row true T.uint8 1 (Ω .bcl (Ψ .str (padS (9 * j) (m / 1000000000 ^ (i - j)))))])
   [2800, 1023208] ⟨rfl, rfl, rfl⟩ ?_ ?_⟩
  ·intro u hu
   obtain ⟨k, hk, rfl⟩ := List.mem_iff_getElem.1 hu
   have := hget k (by omega)
   rw [List.getElem?_eq_getElem hk] at this
   rw [Option.some.inj this]
   exact ⟨rfl, rfl⟩
  ·rw [w_slen, hln]; simp only [wz]; omega
  ·rw [hln]
   intro k x hk hx
   rw [hget k hk] at hx
   cases hx
   have hb9 := bsz_pad 9 (m / 1000000000 ^ k)
   rcases Nat.eq_or_lt_of_le (show 1 ≤ i - k by omega) with h1 | h1
   ·have gw := write0_good (Ψ .str (padS 9 (m / 1000000000 ^ k))) (by rw [hb9]; omega)
    rw [show i - 1 - k = 0 by omega, ← h1, if_pos rfl, if_neg (by omega), show i - 1 = k by omega, show 9 * 1 = 9 from rfl]
    generalize Ψ .str (padS 9 (m / 1000000000 ^ k)) = B at *
    refine rs ?_
    exact ⟨[1050, 1024808], rfl, rfl, rfl⟩
   ·have e1 := cat_step m k (i - 1 - k)
    rw [if_neg (by omega), if_neg (by omega), show i - (i - 1 - k) = k + 1 by omega, show i - (i - k) = k by omega, show i - k = i - 1 - k + 1 by omega, ← e1]
    have gw := write1_good (Ψ .str (padS (9 * (i - 1 - k)) (m / 1000000000 ^ (k + 1)))) (Ψ .str (padS 9 (m / 1000000000 ^ k))) (by rw [hb9, bsz_pad]; omega)
    generalize Ψ .str (padS 9 (m / 1000000000 ^ k)) = B at *
    generalize Ψ .str (padS (9 * (i - 1 - k)) (m / 1000000000 ^ (k + 1))) = B2 at *
    refine rs ?_
    exact ⟨[1050, 1024808], rfl, rfl, rfl⟩
  ·rw [hln]
   by_cases hi0 : i = 0
   ·have gs := string0_good
    have gt : Good P F.strings_TrimLeft [.d (.s ⟨#[]⟩), .d (.s ⟨#[48]⟩)] [] (.d (.s ⟨#[]⟩)) [] := trimLeft_good [] chs_nil (by simp)
    have q1 : Ω .beqs ⟨#[]⟩ ⟨#[]⟩ = true := by rw [show (⟨#[]⟩ : ByteArray) = Ψ .str [] from rfl, beqs_str chs_nil chs_nil]; rfl
    rw [if_pos hi0]
    have m0 : m = 0 := by rw [← hA0]; rw [hi0] at hz; exact hz
    have hR0 : R = ⟨#[48]⟩ := by rw [hR, m0, decS_lt (by omega)]; rfl
    obtain ⟨Z, hZ⟩ : ∃ Z : ByteArray, Z = ⟨#[48]⟩ := ⟨_, rfl⟩
    refine rs ?_
    rw [hR0]
   ·rw [if_neg hi0, show i - i = 0 by omega, show m / 1000000000 ^ 0 = m by simp]
    have gs := string1_good (Ψ .str (padS (9 * i) m)) (by rw [bsz_pad]; omega)
    have gt := trimLeft_good (padS (9 * i) m) (chs_padS _ _) (by rw [padS_len]; omega)
    have m0 : m ≠ 0 := by have : 0 < 1000000000 ^ (i - 1) := Nat.pow_pos (by omega); omega
    rw [trim0_padS (9 * i) m m0 (by
     rw [hAi, Nat.div_eq_zero_iff] at hz
     rw [Nat.pow_mul]
     rcases hz with hz | hz
     ·have : 0 < 1000000000 ^ i := Nat.pow_pos (by omega)
      omega
     ·exact hz), ← hR] at gt
    have q1 : Ω .beqs R ⟨#[]⟩ = false := by
     obtain ⟨c, r, e, hc⟩ := decS_head m0
     rw [hR, show (⟨#[]⟩ : ByteArray) = Ψ .str [] from rfl, beqs_str (chs_decS m) chs_nil, e]; rfl
    generalize Ψ .str (padS (9 * i) m) = B at *
    exact rs trivial
 ·have q0 : Ω .lt 0 (Ω .ci (Ψ .cn (A i)).length) = true := by
   rw [cn_pos (Nat.pos_of_ne_zero hz), List.length_cons]; simp only [wz]; omega
  have g1 := gd (A i) (hAm i)
  rw [← hAs i] at g1
  obtain ⟨n0, hn0⟩ : ∃ n0, n0 = A i % 1000000000 := ⟨_, rfl⟩
  rw [← hn0] at g1
  have hn0l : n0 < 4294967296 := by omega
  obtain ⟨q, hq0, hqs, hql, hqp⟩ := qd_ex n0 hn0l
  obtain ⟨Z, hZ⟩ : ∃ Z : Nat → Int, Z = fun j => Ω .ci (48 + q j % 10) := ⟨_, rfl⟩
  have hY : Ω .ssub [D.i .u8 (Z (8 - 0)), D.i .u8 (Z (8 - 1)), D.i .u8 (Z (8 - 2)), D.i .u8 (Z (8 - 3)), D.i .u8 (Z (8 - 4)), D.i .u8 (Z (8 - 5)), D.i .u8 (Z (8 - 6)), D.i .u8 (Z (8 - 7)), D.i .u8 (Z (8 - 8))] 0 (Ω .nsub 9 0) = (padS 9 n0).map fun c => D.i .u8 (Ω .ci c) := by
   rw [hqp, hZ]; rfl
  have hy1 := byts_map (chs_padS 9 n0)
  have hy2 := dby_map (chs_padS 9 n0)
  have hy3 : padS 9 n0 = padS 9 (A i) := by rw [hn0]; exact padS_mod 9 (A i)
  have ww : ∀ j, Ω .wrap .u8 (Ω .wrap .u32 (48 + Ω .tmod (Ω .ci (q j)) 10)) = Z j := fun j => by
   rw [hZ]
   have e : 48 + Ω .tmod (Ω .ci (q j)) 10 = Ω .ci (48 + q j % 10) := by
    rw [w_tmod, w_ci, w_ci, Int.tmod_eq_emod_of_nonneg (by omega)]; omega
   rw [e, wrapu32_ci, wrapu8_ci, Nat.mod_eq_of_lt (show 48 + q j % 10 < 4294967296 by omega), Nat.mod_eq_of_lt (show 48 + q j % 10 < 256 by omega)]
  have wq : ∀ j, Ω .wrap .u32 ((Ω .ci (q j)).tdiv 10) = Ω .ci (q (j + 1)) := fun j => by
   have := hql j
   rw [hqs, w_ci, Int.tdiv_eq_ediv_of_nonneg (by omega), show ((q j : Int)) / 10 = Ω .ci (q j / 10) by rw [w_ci]; omega, wrapu32_ci, Nat.mod_eq_of_lt (by omega)]
  by_cases hr : n0 = 0
  ·rw [hr, cn_zero] at g1
   have q1 : Ω .lt 0 (Ω .ci ([] : List Nat).length) = false := rfl
   have hq00 : q 0 = 0 := by rw [hq0, hr]
   refine rs ?_
   refine LoopG.intro (σ := Nat) [3, 4, 5, 8, 9, 34] [1050, 1900] (fun j => [.d (dN Ψ BB), .own 1050 1, .d (dN Ψ (Ψ .cn (A (i + 1)))), .d (.i .u32 (Ω .ci (q j))), .ptr 1900 0, .d (.i .i64 (Ω .ci j))])
    (fun j => [.row true T.string 1 (G i), .var (dgs Z j)]) (fun j => j ≤ 9) (fun j => 9 - j) 0 [1050, 1900] (by omega) ⟨rfl, by first | (rw [hq0]; rfl) | (rw [hq00]; rfl), rfl⟩ ?_
   intro j hj
   have hj' : j = 0 ∨ j = 1 ∨ j = 2 ∨ j = 3 ∨ j = 4 ∨ j = 5 ∨ j = 6 ∨ j = 7 ∨ j = 8 ∨ j = 9 := by omega
   rcases hj' with rfl | rfl | rfl | rfl | rfl | rfl | rfl | rfl | rfl | rfl
   ·refine rs ?_
    rw [show Ω .wrap .i64 (8 - Ω .ci 0) = 8 from rfl, show Ω .wrap .i64 (Ω .ci 0 + 1) = Ω .ci 1 from rfl, ww 0, wq 0]
    exact ⟨(show (0 : Int) ≤ 8 by decide), (show 9 ≤ 9 by decide), (show 9 ≤ 9 by decide), 1, [1050, 1900], by omega, by omega, rfl, rfl, rfl⟩
   ·refine rs ?_
    rw [show Ω .wrap .i64 (8 - Ω .ci 1) = 7 from rfl, show Ω .wrap .i64 (Ω .ci 1 + 1) = Ω .ci 2 from rfl, ww 1, wq 1]
    exact ⟨(show (0 : Int) ≤ 7 by decide), (show 8 ≤ 9 by decide), (show 8 ≤ 9 by decide), 2, [1050, 1900], by omega, by omega, rfl, rfl, rfl⟩
   ·refine rs ?_
    rw [show Ω .wrap .i64 (8 - Ω .ci 2) = 6 from rfl, show Ω .wrap .i64 (Ω .ci 2 + 1) = Ω .ci 3 from rfl, ww 2, wq 2]
    exact ⟨(show (0 : Int) ≤ 6 by decide), (show 7 ≤ 9 by decide), (show 7 ≤ 9 by decide), 3, [1050, 1900], by omega, by omega, rfl, rfl, rfl⟩
   ·refine rs ?_
    rw [show Ω .wrap .i64 (8 - Ω .ci 3) = 5 from rfl, show Ω .wrap .i64 (Ω .ci 3 + 1) = Ω .ci 4 from rfl, ww 3, wq 3]
    exact ⟨(show (0 : Int) ≤ 5 by decide), (show 6 ≤ 9 by decide), (show 6 ≤ 9 by decide), 4, [1050, 1900], by omega, by omega, rfl, rfl, rfl⟩
   ·refine rs ?_
    rw [show Ω .wrap .i64 (8 - Ω .ci 4) = 4 from rfl, show Ω .wrap .i64 (Ω .ci 4 + 1) = Ω .ci 5 from rfl, ww 4, wq 4]
    exact ⟨(show (0 : Int) ≤ 4 by decide), (show 5 ≤ 9 by decide), (show 5 ≤ 9 by decide), 5, [1050, 1900], by omega, by omega, rfl, rfl, rfl⟩
   ·refine rs ?_
    rw [show Ω .wrap .i64 (8 - Ω .ci 5) = 3 from rfl, show Ω .wrap .i64 (Ω .ci 5 + 1) = Ω .ci 6 from rfl, ww 5, wq 5]
    exact ⟨(show (0 : Int) ≤ 3 by decide), (show 4 ≤ 9 by decide), (show 4 ≤ 9 by decide), 6, [1050, 1900], by omega, by omega, rfl, rfl, rfl⟩
   ·refine rs ?_
    rw [show Ω .wrap .i64 (8 - Ω .ci 6) = 2 from rfl, show Ω .wrap .i64 (Ω .ci 6 + 1) = Ω .ci 7 from rfl, ww 6, wq 6]
    exact ⟨(show (0 : Int) ≤ 2 by decide), (show 3 ≤ 9 by decide), (show 3 ≤ 9 by decide), 7, [1050, 1900], by omega, by omega, rfl, rfl, rfl⟩
   ·refine rs ?_
    rw [show Ω .wrap .i64 (8 - Ω .ci 7) = 1 from rfl, show Ω .wrap .i64 (Ω .ci 7 + 1) = Ω .ci 8 from rfl, ww 7, wq 7]
    exact ⟨(show (0 : Int) ≤ 1 by decide), (show 2 ≤ 9 by decide), (show 2 ≤ 9 by decide), 8, [1050, 1900], by omega, by omega, rfl, rfl, rfl⟩
   ·refine rs ?_
    rw [show Ω .wrap .i64 (8 - Ω .ci 8) = 0 from rfl, show Ω .wrap .i64 (Ω .ci 8 + 1) = Ω .ci 9 from rfl, ww 8, wq 8]
    exact ⟨(show (0 : Int) ≤ 0 by decide), (show 1 ≤ 9 by decide), (show 1 ≤ 9 by decide), 9, [1050, 1900], by omega, by omega, rfl, rfl, rfl⟩
   ·refine rs ?_
    rw [hY, hy2, hy3, hGs]
    refine ⟨by rw [← hy3]; exact hy1, fun u h => by rw [List.mem_singleton.1 h]; rfl, ?_, i + 1, [2604], .inr ?_, ?_, rfl, rfl, rfl⟩
    ·have hln : Ω .slen (G i) = i := by rw [hG, w_slen]; simp only []; rw [p_strs, List.length_map, grp_len]
     rw [hln, slen_cons, slen_nil]; simp only [wz]; omega
    ·rw [Nat.add_sub_cancel]
     rcases Nat.lt_or_ge m (1000000000 ^ i) with h | h
     ·exact absurd (by rw [hAi]; exact Nat.div_eq_of_lt h) hz
     ·exact h
    ·rw [hAs]; omega
  ·rw [cn_one_limb hr hn0l] at g1
   have q1 : Ω .lt 0 (Ω .ci ([n0] : List Nat).length) = true := rfl
   have e1 : Ω .sget (Ψ .lims [n0]) 0 = some (.i .u32 (Ω .ci n0)) := rfl
   refine rs ?_
   refine LoopG.intro (σ := Nat) [3, 4, 5, 8, 9, 34] [1050, 1900] (fun j => [.d (dN Ψ BB), .own 1050 1, .d (dN Ψ (Ψ .cn (A (i + 1)))), .d (.i .u32 (Ω .ci (q j))), .ptr 1900 0, .d (.i .i64 (Ω .ci j))])
    (fun j => [.row true T.string 1 (G i), .var (dgs Z j)]) (fun j => j ≤ 9) (fun j => 9 - j) 0 [1050, 1900] (by omega) ⟨rfl, by first | (rw [hq0]; rfl) | (rw [hq00]; rfl), rfl⟩ ?_
   intro j hj
   have hj' : j = 0 ∨ j = 1 ∨ j = 2 ∨ j = 3 ∨ j = 4 ∨ j = 5 ∨ j = 6 ∨ j = 7 ∨ j = 8 ∨ j = 9 := by omega
   rcases hj' with rfl | rfl | rfl | rfl | rfl | rfl | rfl | rfl | rfl | rfl
   ·refine rs ?_
    rw [show Ω .wrap .i64 (8 - Ω .ci 0) = 8 from rfl, show Ω .wrap .i64 (Ω .ci 0 + 1) = Ω .ci 1 from rfl, ww 0, wq 0]
    exact ⟨(show (0 : Int) ≤ 8 by decide), (show 9 ≤ 9 by decide), (show 9 ≤ 9 by decide), 1, [1050, 1900], by omega, by omega, rfl, rfl, rfl⟩
   ·refine rs ?_
    rw [show Ω .wrap .i64 (8 - Ω .ci 1) = 7 from rfl, show Ω .wrap .i64 (Ω .ci 1 + 1) = Ω .ci 2 from rfl, ww 1, wq 1]
    exact ⟨(show (0 : Int) ≤ 7 by decide), (show 8 ≤ 9 by decide), (show 8 ≤ 9 by decide), 2, [1050, 1900], by omega, by omega, rfl, rfl, rfl⟩
   ·refine rs ?_
    rw [show Ω .wrap .i64 (8 - Ω .ci 2) = 6 from rfl, show Ω .wrap .i64 (Ω .ci 2 + 1) = Ω .ci 3 from rfl, ww 2, wq 2]
    exact ⟨(show (0 : Int) ≤ 6 by decide), (show 7 ≤ 9 by decide), (show 7 ≤ 9 by decide), 3, [1050, 1900], by omega, by omega, rfl, rfl, rfl⟩
   ·refine rs ?_
    rw [show Ω .wrap .i64 (8 - Ω .ci 3) = 5 from rfl, show Ω .wrap .i64 (Ω .ci 3 + 1) = Ω .ci 4 from rfl, ww 3, wq 3]
    exact ⟨(show (0 : Int) ≤ 5 by decide), (show 6 ≤ 9 by decide), (show 6 ≤ 9 by decide), 4, [1050, 1900], by omega, by omega, rfl, rfl, rfl⟩
   ·refine rs ?_
    rw [show Ω .wrap .i64 (8 - Ω .ci 4) = 4 from rfl, show Ω .wrap .i64 (Ω .ci 4 + 1) = Ω .ci 5 from rfl, ww 4, wq 4]
    exact ⟨(show (0 : Int) ≤ 4 by decide), (show 5 ≤ 9 by decide), (show 5 ≤ 9 by decide), 5, [1050, 1900], by omega, by omega, rfl, rfl, rfl⟩
   ·refine rs ?_
    rw [show Ω .wrap .i64 (8 - Ω .ci 5) = 3 from rfl, show Ω .wrap .i64 (Ω .ci 5 + 1) = Ω .ci 6 from rfl, ww 5, wq 5]
    exact ⟨(show (0 : Int) ≤ 3 by decide), (show 4 ≤ 9 by decide), (show 4 ≤ 9 by decide), 6, [1050, 1900], by omega, by omega, rfl, rfl, rfl⟩
   ·refine rs ?_
    rw [show Ω .wrap .i64 (8 - Ω .ci 6) = 2 from rfl, show Ω .wrap .i64 (Ω .ci 6 + 1) = Ω .ci 7 from rfl, ww 6, wq 6]
    exact ⟨(show (0 : Int) ≤ 2 by decide), (show 3 ≤ 9 by decide), (show 3 ≤ 9 by decide), 7, [1050, 1900], by omega, by omega, rfl, rfl, rfl⟩
   ·refine rs ?_
    rw [show Ω .wrap .i64 (8 - Ω .ci 7) = 1 from rfl, show Ω .wrap .i64 (Ω .ci 7 + 1) = Ω .ci 8 from rfl, ww 7, wq 7]
    exact ⟨(show (0 : Int) ≤ 1 by decide), (show 2 ≤ 9 by decide), (show 2 ≤ 9 by decide), 8, [1050, 1900], by omega, by omega, rfl, rfl, rfl⟩
   ·refine rs ?_
    rw [show Ω .wrap .i64 (8 - Ω .ci 8) = 0 from rfl, show Ω .wrap .i64 (Ω .ci 8 + 1) = Ω .ci 9 from rfl, ww 8, wq 8]
    exact ⟨(show (0 : Int) ≤ 0 by decide), (show 1 ≤ 9 by decide), (show 1 ≤ 9 by decide), 9, [1050, 1900], by omega, by omega, rfl, rfl, rfl⟩
   ·refine rs ?_
    rw [hY, hy2, hy3, hGs]
    refine ⟨by rw [← hy3]; exact hy1, fun u h => by rw [List.mem_singleton.1 h]; rfl, ?_, i + 1, [2604], .inr ?_, ?_, rfl, rfl, rfl⟩
    ·have hln : Ω .slen (G i) = i := by rw [hG, w_slen]; simp only []; rw [p_strs, List.length_map, grp_len]
     rw [hln, slen_cons, slen_nil]; simp only [wz]; omega
    ·rw [Nat.add_sub_cancel]
     rcases Nat.lt_or_ge m (1000000000 ^ i) with h | h
     ·exact absurd (by rw [hAi]; exact Nat.div_eq_of_lt h) hz
     ·exact h
    ·rw [hAs]; omega
end Go.K.S
end
section
namespace Go.K
open Go
theorem cn_sm {n : Nat} (h : n < 4294967296) : Ψ .cn n = if n = 0 then [] else [n] := by
 by_cases q : n = 0
 ·rw [if_pos q, q, cn_zero]
 ·rw [if_neg q, cn_one_limb q h]
def bys (l : List Nat) : List D := l.map fun c => D.i .u8 (Ω .ci c)
theorem bys_len (l : List Nat) : (bys l).length = l.length := by simp [bys]
end Go.K
namespace Go.K.S
open Go Go.K
end Go.K.S
end
section
namespace Go.K
open Go
def prS (q : Rat) : List Nat := (if q.num < 0 then [45] else []) ++ decS q.num.natAbs ++ (if q.den = 1 then [] else 47 :: decS q.den)
theorem decS_one {n : Nat} : decS n = [49] ↔ n = 1 := by
 constructor
 ·intro h
  by_cases q : n < 10
  ·rw [decS_lt q] at h; simp at h; omega
  ·rw [decS_ge q] at h
   have hl := congrArg List.length h
   rcases decS_head (n := n / 10) (by omega) with ⟨c, r, e, _⟩
   rw [e] at hl; simp at hl
 ·rintro rfl; rw [decS_lt (by omega)]
theorem chs_prS (q : Rat) : chs (prS q) := by
 intro c hc
 simp only [prS, List.mem_append] at hc
 rcases hc with (hc | hc) | hc
 ·split at hc <;> simp at hc; omega
 ·exact chs_decS _ c hc
 ·split at hc
  ·simp at hc
  ·rcases List.mem_cons.1 hc with rfl | hc
   ·omega
   ·exact chs_decS _ c hc
theorem decS_len : ∀ (j m : Nat), 0 < j → m < 10 ^ j → (decS m).length ≤ j
 | 0, _, h, _ => absurd h (by omega)
 | j + 1, m, _, h => by
  by_cases hm : m < 10
  ·rw [decS_lt hm]; simp
  ·rw [decS_ge hm, List.length_append]
   have hj : 0 < j := by
    rcases Nat.eq_zero_or_pos j with rfl | q
    ·simp at h; omega
    ·exact q
   have := decS_len j (m / 10) hj (by rw [Nat.pow_succ] at h; omega)
   simp only [List.length_singleton]; omega
theorem decS_len2 {m k : Nat} (hk : 0 < k) (h : m < 4294967296 ^ k) : (decS m).length ≤ 10 * k := by
 refine decS_len _ _ (by omega) ?_
 have h1 : (4294967296 : Nat) ^ k ≤ (10 ^ 10) ^ k := Nat.pow_le_pow_left (by omega) k
 rw [← Nat.pow_mul] at h1
 omega
theorem prS_len {q : Rat} {k : Nat} (hk : 0 < k) (h : Qn k q) : (prS q).length ≤ 20 * k + 2 := by
 have h1 := decS_len2 hk h.n
 have h2 := decS_len2 hk h.d
 unfold prS
 rw [List.length_append, List.length_append]
 split <;> split <;> simp <;> omega
end Go.K
namespace Go.K.S
open Go Go.K
theorem print_good (r : RL) {k : Nat} (h : Rn k r) (hk0 : 0 < k) (hk : k < 1073741824) : Good P F.decimal_Print [.d (.agg (dR Ψ r))] [] (.d (.s (Ψ .str (prS (rv r))))) [] := by
 refine G.decimal_Print fun C C2 hC hC2 => ?_
 have g1 := read_good r h (by omega)
 have hq := Qn_rv h hk0
 generalize rv r = q at *
 have hcr := Rn_cr.2 hq
 rw [p_cr] at g1 hcr
 have g2 := natural_good (Ψ .cn q.num.natAbs) ⟨hcr.ln, by have := hcr.kn; simp only [] at this; omega⟩ (by have := hcr.kn; simp only [] at this; omega)
 have g3 := natural_good (Ψ .cn q.den) ⟨hcr.ld, by have := hcr.kd; simp only [] at this; omega⟩ (by have := hcr.kd; simp only [] at this; omega)
 rw [nv_cn] at g2 g3
 have c2 := chs_decS q.num.natAbs
 have c3 := chs_decS q.den
 have q1 : Ω .bnes (Ψ .str (decS q.den)) ⟨⟨[49]⟩⟩ = !decide (q.den = 1) := by
  rw [show (⟨⟨[49]⟩⟩ : ByteArray) = Ψ .str [49] from rfl, bnes_byt, byt_str c3, byt_str (chs_cons (by omega) chs_nil)]
  simp only [decS_one]
 have b1 : ∀ l, chs l → Ω .bcat ⟨⟨[45]⟩⟩ (Ψ .str l) = Ψ .str (45 :: l) := fun l hl => by
  rw [show (⟨⟨[45]⟩⟩ : ByteArray) = Ψ .str [45] from rfl, bcat_str (chs_cons (by omega) chs_nil) hl]; rfl
 have b2 : ∀ l, chs l → Ω .bcat ⟨⟨[47]⟩⟩ (Ψ .str l) = Ψ .str (47 :: l) := fun l hl => by
  rw [show (⟨⟨[47]⟩⟩ : ByteArray) = Ψ .str [47] from rfl, bcat_str (chs_cons (by omega) chs_nil) hl]; rfl
 have b1' := b1 _ c2
 have b2' := b2 _ c3
 have b3 := bcat_str c2 (chs_cons (c := 47) (by omega) c3)
 have b4 := bcat_str (chs_cons (c := 45) (by omega) c2) (chs_cons (c := 47) (by omega) c3)
 have z0 : Ω .bsz ⟨⟨[]⟩⟩ = 0 := rfl
 have z1 : Ω .bsz ⟨⟨[45]⟩⟩ = 1 := rfl
 have z2 : Ω .bsz ⟨⟨[47]⟩⟩ = 1 := rfl
 have z3 : Ω .bsz (Ψ .str (decS q.num.natAbs)) ≤ 10737418240 := by rw [bsz_str c2]; have := decS_len2 hk0 hq.n; omega
 have z4 : Ω .bsz (Ψ .str (decS q.den)) ≤ 10737418240 := by rw [bsz_str c3]; have := decS_len2 hk0 hq.d; omega
 have z5 : Ω .bsz (Ω .bcat ⟨⟨[45]⟩⟩ (Ψ .str (decS q.num.natAbs))) = 1 + Ω .bsz (Ψ .str (decS q.num.natAbs)) := bsz_bcat _ _
 have z6 : Ω .bsz (Ω .bcat ⟨⟨[47]⟩⟩ (Ψ .str (decS q.den))) = 1 + Ω .bsz (Ψ .str (decS q.den)) := bsz_bcat _ _
 have z7 : Ω .bsz (Ω .bcat ⟨⟨[]⟩⟩ (Ψ .str (decS q.num.natAbs))) = 0 + Ω .bsz (Ψ .str (decS q.num.natAbs)) := bsz_bcat _ _
 clear b1 b2 hcr hq h
 unfold prS at ⊢
 generalize decS q.num.natAbs = sn at *
 generalize decS q.den = sd at *
 generalize Ψ .cn q.num.natAbs = cn1 at *
 generalize Ψ .cn q.den = cd1 at *
 by_cases hs : q.num < 0
 ·rw [decide_eq_true hs] at g1
  rw [if_pos hs]
  by_cases hd : q.den = 1
  ·rw [decide_eq_true hd] at q1
   rw [if_pos hd, List.append_nil]
   refine rs ?_
   rw [b1']; rfl
  ·rw [decide_eq_false hd] at q1
   rw [if_neg hd]
   refine rs ?_
   rw [b1', b2', b4]; rfl
 ·rw [decide_eq_false hs] at g1
  rw [if_neg hs]
  by_cases hd : q.den = 1
  ·rw [decide_eq_true hd] at q1
   rw [if_pos hd, List.append_nil]
   exact rs trivial
  ·rw [decide_eq_false hd] at q1
   rw [if_neg hd]
   refine rs ?_
   rw [b2', b3]; rfl
end Go.K.S
end
section
namespace Go.K
open Go
def szok (W H n : Int) : Bool := Ω .le 1 W && (Ω .le W 16 && (Ω .le 1 H && (Ω .le H 16 && (Ω .le 1 n && Ω .le n 8))))
def canR (r : RL) : Bool := decide (r = Ψ .cr (rv r))
def fok (W H n : Int) (A B : List RL) : Bool := szok W H n && (Ω .eq (Ω .ci A.length) (W * H * n) && (Ω .eq (Ω .ci B.length) (W * H * n) && (A.all canR && B.all canR)))
def dF (ψ : (t : Sd) → STy t) (W H n : Int) (A B : List RL) : D := .agg [.i .i64 W, .i .i64 H, .i .i64 n, .sl (ψ .dRs A), .sl (ψ .dRs B)]
theorem szok_iff {W H n : Int} : szok W H n = true ↔ (1 ≤ W ∧ W ≤ 16) ∧ (1 ≤ H ∧ H ≤ 16) ∧ 1 ≤ n ∧ n ≤ 8 := by
 simp only [szok, Bool.and_eq_true, le_true]; omega
theorem szok_mul {W H n : Int} (h : szok W H n = true) : Ω .wrap .i64 (Ω .wrap .i64 (W * H) * n) = W * H * n ∧ 1 ≤ W * H ∧ W * H ≤ 256 ∧ 1 ≤ W * H * n ∧ W * H * n ≤ 2048 := by
 obtain ⟨⟨a, b⟩, ⟨c, d⟩, e, f⟩ := szok_iff.1 h
 have h1 : 1 ≤ W * H := by have := Int.mul_le_mul a c (by omega) (by omega); omega
 have h2 : W * H ≤ 256 := by have := Int.mul_le_mul b d (by omega) (by omega); omega
 have h3 : 1 ≤ W * H * n := by have := Int.mul_le_mul h1 e (by omega) (by omega); omega
 have h4 : W * H * n ≤ 2048 := by have := Int.mul_le_mul h2 f (by omega) (by omega); omega
 refine ⟨?_, h1, h2, h3, h4⟩
 rw [wrap64 (n := W * H) (by omega) (by omega), wrap64 (by omega) (by omega)]
def oddI (l : List RL) : Int := if l.all canR then -1 else (l.findIdx (fun r => !canR r) : Nat)
theorem oddI_neg (l : List RL) : Ω .le 0 (oddI l) = !l.all canR := by
 unfold oddI
 cases l.all canR
 ·simp only [Bool.not_false]; rw [le_true]; simp
 ·rfl
theorem oddI_at {l : List RL} {i : Nat} {r : RL} (h : l[i]? = some r) (hb : (l.take i).all canR = true) (hr : canR r = false) : oddI l = (i : Int) := by
 unfold oddI
 have hi : i < l.length := (List.getElem?_eq_some_iff.1 h).1
 have e : l = l.take i ++ r :: l.drop (i + 1) := by
  have := (List.getElem?_eq_some_iff.1 h).2
  rw [← this, List.getElem_cons_drop, List.take_append_drop]
 have e1 : l.all canR = false := by rw [e, List.all_append, List.all_cons, hr]; simp
 have e2 : l.findIdx (fun r => !canR r) = i := by
  refine (List.findIdx_eq hi).2 ⟨?_, fun j hj => ?_⟩
  ·rw [(List.getElem?_eq_some_iff.1 h).2, hr]; rfl
  ·rw [List.all_eq_true] at hb
   rw [hb l[j] (List.mem_iff_getElem.2 ⟨j, by rw [List.length_take]; omega, by simp⟩)]; rfl
 rw [e1, e2]; rfl
theorem oddI_all {l : List RL} (h : l.all canR = true) : oddI l = -1 := by unfold oddI; rw [h]; rfl
theorem can_take_succ {l : List RL} {i : Nat} {r : RL} (h : l[i]? = some r) : (l.take (i + 1)).all canR = ((l.take i).all canR && canR r) := by
 rw [List.take_add_one, h, List.all_append]; simp
end Go.K
namespace Go.K.S
open Go Go.K
theorem sizes_good (W H n : Int) : Good P F.film_sizes [.d (.i .i64 W), .d (.i .i64 H), .d (.i .i64 n)] [] (.d (.b (szok W H n))) [] := by
 refine G.film_sizes fun C C2 hC hC2 => ?_
 unfold szok
 cases h1 : Ω .le 1 W with
 | false => exact rs trivial
 | true =>
  cases h2 : Ω .le W 16 with
  | false => exact rs trivial
  | true =>
   cases h3 : Ω .le 1 H with
   | false => exact rs trivial
   | true =>
    cases h4 : Ω .le H 16 with
    | false => exact rs trivial
    | true =>
     cases h5 : Ω .le 1 n with
     | false => exact rs trivial
     | true =>
      cases h6 : Ω .le n 8 with
      | false => exact rs trivial
      | true => exact rs trivial
theorem odd_good (r : RL) {k : Nat} (h : Rn k r) (hk0 : 0 < k) (hk : k < 137438953472) : Good P F.film_Check_1 [.d (.agg (dR Ψ r))] [] (.d (.b (!canR r))) [] := by
 refine G.film_Check_1 fun C C2 hC hC2 => ?_
 have g := rcheck_good r h hk0 (by omega)
 change Good P F.rat_Check [.d (.agg (dR Ψ r))] [] (.d (.b (canR r))) [] at g
 generalize canR r = b at *
 exact rs trivial
theorem indexf_good (l : List RL) {k : Nat} (h : ∀ r, r ∈ l → Rn k r) (hk0 : 0 < k) (hk : k < 137438953472) (hln : l.length < 9223372036854775808) :
  Good P F.slices_IndexFunc_L_api_Rat_api_Rat [.d (.sl (Ψ .dRs l)), .fn F.film_Check_1] [] (.d (.i .i64 (oddI l))) [] := by
 refine G.slices_IndexFunc_L_api_Rat_api_Rat fun C C2 hC hC2 => ?_
 obtain ⟨R, hR⟩ : ∃ R, R = oddI l := ⟨_, rfl⟩
 rw [← hR]
 refine rs ?_
 refine LoopG.intro (σ := Nat) [0, 1, 7, 8] [] (fun i => [.d (.sl (Ψ .dRs l)), .fn F.film_Check_1, .d (.i .i64 (Ω .ci l.length)), .d (.i .i64 (Ω .ci i))]) (fun _ => [])
  (fun i => i ≤ l.length ∧ (l.take i).all canR = true) (fun i => l.length - i) 0 [] ⟨by omega, by simp⟩ ⟨rfl, rfl, rfl⟩ ?_
 rintro i ⟨hi, ha⟩
 rcases Nat.eq_or_lt_of_le hi with hi1 | hi1
 ·have q0 : Ω .lt (Ω .ci i) (Ω .ci l.length) = false := by rw [lt_false]; simp only [wz]; omega
  have e : R = -1 := by rw [hR]; refine oddI_all ?_; rw [hi1, List.take_length] at ha; exact ha
  refine rs ?_
  rw [e]
  exact ⟨[], rfl, rfl, rfl⟩
 ·have q0 : Ω .lt (Ω .ci i) (Ω .ci l.length) = true := by rw [lt_true]; simp only [wz]; omega
  obtain ⟨r, hr⟩ : ∃ r, l[i]? = some r := ⟨_, List.getElem?_eq_getElem hi1⟩
  have e1 := hx_dRs hr
  have e2 : Ω .ilt (Ω .ci i) (Ω .ci l.length) := by simp only [wz]; omega
  have g := odd_good r (h r (List.mem_of_getElem? hr)) hk0 hk
  have ws := wrap_succ (n := i) (by omega)
  cases hc : canR r with
  | false =>
   rw [hc] at g
   have e : R = Ω .ci i := by rw [hR, oddI_at hr ha hc]; rfl
   refine rs ?_
   rw [e]
   exact ⟨[], rfl, rfl, rfl⟩
  | true =>
   rw [hc] at g
   have e : (l.take (i + 1)).all canR = true := by rw [can_take_succ hr, ha, hc]; rfl
   refine rs ?_
   rw [ws]
   exact ⟨i + 1, [], ⟨by omega, e⟩, by omega, rfl, rfl, rfl⟩
theorem contains_good (l : List RL) {k : Nat} (h : ∀ r, r ∈ l → Rn k r) (hk0 : 0 < k) (hk : k < 137438953472) (hln : l.length < 9223372036854775808) :
  Good P F.slices_ContainsFunc_L_api_Rat_api_Rat [.d (.sl (Ψ .dRs l)), .fn F.film_Check_1] [] (.d (.b (!l.all canR))) [] := by
 refine G.slices_ContainsFunc_L_api_Rat_api_Rat fun C C2 hC hC2 => ?_
 have g := indexf_good l h hk0 hk hln
 have e := oddI_neg l
 generalize (!l.all canR) = b at *
 generalize oddI l = R at *
 cases b with
 | false => refine rs ?_; exact ⟨[], rfl, rfl, rfl⟩
 | true => refine rs ?_; exact ⟨[], rfl, rfl, rfl⟩
theorem fcheck_good (W H n : Int) (A B : List RL) {k : Nat} (hA : ∀ r, r ∈ A → Rn k r) (hB : ∀ r, r ∈ B → Rn k r) (hk0 : 0 < k) (hk : k < 137438953472) (hla : A.length < 9223372036854775808) (hlb : B.length < 9223372036854775808) :
  Good P F.film_Check [.d (dF Ψ W H n A B)] [] (.d (.b (fok W H n A B))) [] := by
 refine G.film_Check fun C C2 hC hC2 => ?_
 have gs := sizes_good W H n
 have ga := contains_good A hA hk0 hk hla
 have gb := contains_good B hB hk0 hk hlb
 unfold fok
 cases hs : szok W H n with
 | false =>
  rw [hs] at gs
  exact rs trivial
 | true =>
  rw [hs] at gs
  rw [← (szok_mul hs).1]
  cases h1 : Ω .eq (Ω .ci A.length) (Ω .wrap .i64 (Ω .wrap .i64 (W * H) * n)) with
  | false => exact rs trivial
  | true =>
   cases h2 : Ω .eq (Ω .ci B.length) (Ω .wrap .i64 (Ω .wrap .i64 (W * H) * n)) with
   | false => exact rs trivial
   | true =>
    cases h3 : A.all canR with
    | false => rw [h3] at ga; exact rs trivial
    | true =>
     rw [h3] at ga
     cases h4 : B.all canR with
     | false => rw [h4] at gb; exact rs trivial
     | true => rw [h4] at gb; exact rs trivial
end Go.K.S
end
section
namespace Go.K
open Go
def rdR (r : RL) : RL := Ψ .cr (rv r)
theorem dRs_snoc (l : List RL) (r : RL) : Ω .scat (Ψ .dRs l) [.agg (dR Ψ r)] = Ψ .dRs (l ++ [r]) := by rw [p_dRs, p_dRs, w_scat, List.map_append]; rfl
theorem rd_ex (l : List RL) (f : RL → RL) : ∃ G : Nat → List D, G 0 = [] ∧ (∀ i r, l[i]? = some r → Ω .scat (G i) [.agg (dR Ψ (f r))] = G (i + 1)) ∧ (∀ i, i ≤ l.length → Ω .slen (G i) = i) ∧ G l.length = Ψ .dRs (l.map f) := by
 refine ⟨fun i => Ψ .dRs ((l.take i).map f), rfl, fun i r h => ?_, fun i hi => ?_, ?_⟩
 ·simp only []; rw [dRs_snoc, List.take_add_one, h, List.map_append]; rfl
 ·rw [slen_dRs, List.length_map, List.length_take]; omega
 ·simp only [List.take_length]
def zer (i : Nat) : List RL := List.replicate i (Ψ .cr 0)
theorem zer_ex : ∃ G : Nat → List D, G 0 = [] ∧ (∀ i, Ω .scat (G i) [.agg (dR Ψ (Ψ .cr 0))] = G (i + 1)) ∧ (∀ i, Ω .slen (G i) = i) ∧ ∀ i, G i = Ψ .dRs (zer i) := by
 refine ⟨fun i => Ψ .dRs (zer i), rfl, fun i => ?_, fun i => ?_, fun _ => rfl⟩
 ·simp only []; rw [dRs_snoc, zer, zer, ← List.replicate_succ']
 ·rw [slen_dRs, zer, List.length_replicate]
end Go.K
namespace Go.K.S
open Go Go.K
theorem each_good (l : List RL) {k : Nat} (h : ∀ r, r ∈ l → Rn k r) (hk : k < 137438953472) (hln : l.length < 1073741824) :
  Good P F.lists_Each_api_Rat_api_Rat [.d (.sl (Ψ .dRs l)), .fn F.rat_Read] [] (.own 0 3) [.row true T.api_Rat 3 (Ψ .dRs (l.map rdR))] := by
 refine G.lists_Each_api_Rat_api_Rat fun C C2 hC hC2 => ?_
 obtain ⟨X, hX0, hXs, hXl, hXe⟩ := rd_ex l rdR
 rw [← hXe]
 have hg : ∀ r, r ∈ l → Good P F.rat_Read [.d (.agg (dR Ψ r))] [] (.d (.agg (dR Ψ (rdR r)))) [] := fun r hr => read_good r (h r hr) (by omega)
 clear hXe
 generalize rdR = f at *
 refine rs ?_
 refine LoopG.introB (σ := Nat) [.slot 5 900001 T.api_Rat 3] [1, 5, 8, 9, 10] [1050] (fun i => [.fn F.rat_Read, .own 1050 3, .d (.sl (Ψ .dRs l)), .d (.i .i64 (Ω .ci l.length)), .d (.i .i64 (Ω .ci i))]) (fun i => [.row true T.api_Rat 3 (X i)])
  (fun i => i ≤ l.length) (fun i => l.length - i) 0 [900001] (by omega) ⟨rfl, rfl, by rw [hX0]; rfl⟩ ?_
 intro i hi
 rcases Nat.eq_or_lt_of_le hi with hi1 | hi1
 ·have q0 : Ω .lt (Ω .ci i) (Ω .ci l.length) = false := by rw [lt_false]; simp only [wz]; omega
  rw [hi1] at q0 ⊢
  refine rs ?_
  exact ⟨[1050], rfl, rfl, rfl⟩
 ·have q0 : Ω .lt (Ω .ci i) (Ω .ci l.length) = true := by rw [lt_true]; simp only [wz]; omega
  obtain ⟨r, hr⟩ : ∃ r, l[i]? = some r := ⟨_, List.getElem?_eq_getElem hi1⟩
  have e1 := hx_dRs hr
  have e2 : Ω .ilt (Ω .ci i) (Ω .ci l.length) := by simp only [wz]; omega
  have g := hg r (List.mem_of_getElem? hr)
  have ws := wrap_succ (n := i) (by omega)
  have e3 := hXs i r hr
  have e4 := hXl i (by omega)
  refine rs ?_
  rw [ws]
  exact ⟨i + 1, [1505], by omega, by omega, rfl, rfl, congrArg (fun x => [Blk.row true T.api_Rat 3 x]) e3⟩
theorem copied_good (W H n : Int) (A B : List RL) {k : Nat} (hA : ∀ r, r ∈ A → Rn k r) (hB : ∀ r, r ∈ B → Rn k r) (hk : k < 137438953472) (hla : A.length < 1073741824) (hlb : B.length < 1073741824) :
  Good P F.film_copied [.agg [.d (.i .i64 W), .d (.i .i64 H), .d (.i .i64 n), .d (.sl (Ψ .dRs A)), .d (.sl (Ψ .dRs B))]] [] (.agg [.d (.i .i64 W), .d (.i .i64 H), .d (.i .i64 n), .own 0 3, .own 1 3]) [.row true T.api_Rat 3 (Ψ .dRs (A.map rdR)), .row true T.api_Rat 3 (Ψ .dRs (B.map rdR))] := by
 refine G.film_copied fun C C2 hC hC2 => ?_
 have ga := each_good A hA hk hla
 have gb := each_good B hB hk hlb
 generalize A.map rdR = A' at *
 generalize B.map rdR = B' at *
 refine rs ?_
 exact ⟨[1008816, 1008840], rfl, rfl, rfl⟩
theorem new0_good (W H n : Int) (hs : szok W H n = false) : Good P F.film_New [.d (.i .i64 W), .d (.i .i64 H), .d (.i .i64 n)] [] (.tup [.agg [.d (.i .i64 0), .d (.i .i64 0), .d (.i .i64 0), .nil, .nil], .d (.b false)]) [] := by
 refine G.film_New fun C C2 hC hC2 => ?_
 have gs := sizes_good W H n
 rw [hs] at gs
 refine rs ?_
 exact ⟨[], rfl, rfl, rfl⟩
theorem new1_good (W H n : Int) (m : Nat) (hs : szok W H n = true) (hm : W * H * n = m) : Good P F.film_New [.d (.i .i64 W), .d (.i .i64 H), .d (.i .i64 n)] [] (.tup [.agg [.d (.i .i64 W), .d (.i .i64 H), .d (.i .i64 n), .own 0 3, .own 1 3], .d (.b true)])
  [.row true T.api_Rat 3 (Ψ .dRs (zer m)), .row true T.api_Rat 3 (Ψ .dRs (zer m))] := by
 refine G.film_New fun C C2 hC hC2 => ?_
 have gs := sizes_good W H n
 rw [hs] at gs
 obtain ⟨e0, _, _, h1, h2⟩ := szok_mul hs
 rw [hm] at e0
 have go := rof_good 0 1 (by omega) (by omega) (by omega) (by omega)
 rw [show ((0 : Int) : Rat) / ((1 : Int) : Rat) = 0 from by rw [show ((0 : Int) : Rat) = 0 from rfl, Rat.div_def, Rat.zero_mul]] at go
 obtain ⟨X, hX0, hXs, hXl, hXe⟩ := zer_ex
 rw [← hXe]
 clear hXe
 generalize Ψ .cr 0 = z at *
 refine rs ?_
 rw [e0]
 refine LoopG.introB (σ := Nat) [.cell 1304 3 900001 T.api_Rat 3, .cell 1304 4 900002 T.api_Rat 3] [6, 8, 23, 24] [1050, 1051, 1052, 1053] (fun i => [.ptr 1050 0, .ptr 1051 0, .d (.i .i64 (Ω .ci m)), .d (.i .i64 (Ω .ci i))])
  (fun i => [.var [.d (.i .i64 0), .d (.i .i64 0), .d (.i .i64 0), .nil, .nil], .var [.d (.i .i64 W), .d (.i .i64 H), .d (.i .i64 n), .own 1052 3, .own 1053 3], .row true T.api_Rat 3 (X i), .row true T.api_Rat 3 (X i)])
  (fun i => i ≤ m) (fun i => m - i) 0 [1000, 1304, 900001, 900002] (by omega) ⟨rfl, rfl, by rw [hX0]; rfl⟩ ?_
 intro i hi
 rcases Nat.eq_or_lt_of_le hi with hi1 | hi1
 ·have q0 : Ω .lt (Ω .ci i) (Ω .ci m) = false := by rw [lt_false]; simp only [wz]; omega
  rw [hi1] at q0 ⊢
  refine rs ?_
  exact ⟨[1052, 1053], rfl, rfl, rfl⟩
 ·have q0 : Ω .lt (Ω .ci i) (Ω .ci m) = true := by rw [lt_true]; simp only [wz]; omega
  have ws := wrap_succ (n := i) (by omega)
  have e3 := hXs i
  have e4 := hXl i
  refine rs ?_
  refine ⟨fun u h => by rw [List.mem_singleton.1 h]; rfl, by rw [e4, slen_cons, slen_nil]; simp only [wz]; omega, ?_⟩
  refine rs ?_
  refine ⟨fun u h => by rw [List.mem_singleton.1 h]; rfl, by rw [e4, slen_cons, slen_nil]; simp only [wz]; omega, ?_⟩
  refine rs ?_
  rw [ws]
  have e3' : Ω .scat (X i) [D.agg [D.b z.neg, D.sl (Ψ .lims z.num), D.sl (Ψ .lims z.den)]] = X (i + 1) := e3
  rw [e3']
  exact ⟨i + 1, [1050, 1051, 1604, 1704], by omega, by omega, rfl, rfl, rfl⟩
end Go.K.S
end
