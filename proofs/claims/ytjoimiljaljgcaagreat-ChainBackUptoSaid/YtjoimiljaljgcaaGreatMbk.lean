/-
  Parts of the proof, joined by a program of this work: KStr, KScene5, KScene3, KScene6, KRef9, KStr3, KStr2, KStr4, KRef9b, KRef9c.
-/
import Derived.Test.YtjoimiljaljgcaaGreatMbi
import Derived.Test.YtjoimiljaljgcaaGreatMbj
import Derived.Laws.Strings
set_option linter.unusedSimpArgs false
set_option linter.unusedVariables false
set_option maxHeartbeats 8000000
set_option maxRecDepth 20000
section
namespace Go.K
open Go
theorem tn_one : Ω .tn 1 = 1 := rfl
theorem tn_two : Ω .tn 2 = 2 := rfl
theorem rs {P Q : Prop} (q : Q) (h : Hid Q → P := by
 intro q; (generalize hΩ : Ω = ω, hΨ : Ψ = ψ; cbv <;> subst hΩ hΨ <;> try simp only [lits, true_and, Int.reduceAdd, Int.reduceSub, Int.reduceMul, not_u32, slen_nil, tn_ci, tn_zero, tn_one, tn_two, slen_lims, slen_dRs, slen_dVs, slen_dBs])
 (repeat (
  first
   | refine ⟨_, hC _ _ _ (by assumption), ?_⟩
   | refine ⟨_, _, hC2 _ _ _ _ _ (by assumption), ?_⟩
   | refine ⟨_, hC2 _ _ _ _ _ (by assumption), rfl, rfl, ?_⟩
   | refine ⟨ci_nonneg _, _, (by assumption), rfl, ?_⟩
   | refine ⟨_, (by assumption), rfl, ?_⟩
   | refine ⟨ci_nonneg _, (by simp only [wz, slen_scat]; omega), _, (by assumption), (by first | exact Nat.le_refl _ | (simp; done)), rfl, ?_⟩
   | refine ⟨(by first | exact fun u h => by rw [List.mem_singleton.1 h]; rfl | exact cells_dRs _ | assumption), (by simp only [wz, slen_scat]; omega), ?_⟩
   | refine ⟨ci_nonneg _, _, (by assumption), ?_⟩
   | refine ⟨_, (by assumption), ?_⟩
   | refine BrG.yes (by first | assumption | decide) ?_
   | refine BrG.no (by first | assumption | decide) ?_
   | refine ⟨(by simp only [wz]; omega), ?_⟩
  (generalize hΩ : Ω = ω, hΨ : Ψ = ψ; cbv <;> subst hΩ hΨ <;> try simp only [lits, true_and, Int.reduceAdd, Int.reduceSub, Int.reduceMul, not_u32, slen_nil, tn_ci, tn_zero, tn_one, tn_two, slen_lims, slen_dRs, slen_dVs, slen_dBs])))
 all_goals with_reducible exact q.out) : P := h ⟨q⟩
def byt (B : ByteArray) : List Nat := B.data.toList.map fun c => c.toNat
theorem bsz_byt (B : ByteArray) : Ω .bsz B = (byt B).length := by
 unfold byt; rw [w_bsz, List.length_map, Array.length_toList]; rfl
theorem bget_byt (B : ByteArray) (k : Nat) : Ω .bget B k = (byt B)[k]? := by
 unfold byt
 rw [w_bget, List.getElem?_map]
 congr 1
 by_cases h : k < B.size
 ·rw [getElem?_pos B k h, Array.getElem?_toList, getElem?_pos B.data k h]; rfl
 ·rw [getElem?_neg B k h, Array.getElem?_toList, getElem?_neg B.data k h]
theorem byt_bext (B : ByteArray) (i j : Nat) : byt (Ω .bext B i j) = ((byt B).drop i).take (j - i) := by
 unfold byt
 rw [w_bext, ByteArray.data_extract, Array.toList_extract, List.extract_eq_take_drop, List.map_take, List.map_drop]
theorem byt_bcat (A B : ByteArray) : byt (Ω .bcat A B) = byt A ++ byt B := by
 unfold byt
 rw [w_bcat, ByteArray.data_append, Array.toList_append, List.map_append]
theorem byt_inj {A B : ByteArray} (h : byt A = byt B) : A = B := by
 unfold byt at h
 have : A.data.toList = B.data.toList := List.map_inj_right (fun a b h => UInt8.toNat_inj.1 h) |>.1 h
 cases A; cases B
 congr 1
 exact Array.toList_inj.1 this
theorem beqs_byt (A B : ByteArray) : Ω .beqs A B = decide (byt A = byt B) := by
 rw [w_beqs, ByteArray.toList_eq, ByteArray.toList_eq]
 by_cases h : byt A = byt B
 ·rw [decide_eq_true h, byt_inj h]; simp
 ·rw [decide_eq_false h]
  refine beq_eq_false_iff_ne.2 (fun c => h ?_)
  unfold byt; rw [c]
theorem bnes_byt (A B : ByteArray) : Ω .bnes A B = !decide (byt A = byt B) := by
 rw [← beqs_byt, w_bnes, w_beqs]
theorem byt_lt {B : ByteArray} {k c : Nat} (h : (byt B)[k]? = some c) : c < 256 := by
 unfold byt at h
 rw [List.getElem?_map] at h
 obtain ⟨x, _, rfl⟩ := Option.map_eq_some_iff.1 h
 exact x.toNat_lt
def isDig (c : Nat) : Bool := decide (48 ≤ c) && decide (c ≤ 57)
def digS (l : List Nat) : Nat := (l.takeWhile isDig).length
def numS (l : List Nat) : Nat := l.foldl (fun a c => 10 * a + (c - 48)) 0
theorem digS_eq {l : List Nat} : ∀ {n : Nat}, n ≤ l.length → (l.take n).all isDig = true → (∀ c, l[n]? = some c → isDig c = false) → digS l = n := by
 unfold digS
 induction l with
 | nil => intro n h1 _ _; simp at h1; simp [h1]
 | cons a l ih =>
  intro n h1 h2 h3
  cases n with
  | zero =>
   have := h3 a rfl
   rw [List.takeWhile_cons, this]; rfl
  | succ n =>
   rw [List.take_succ_cons, List.all_cons, Bool.and_eq_true] at h2
   rw [List.takeWhile_cons, h2.1]
   simp only [if_true, List.length_cons]
   rw [ih (by simpa using h1) h2.2 (fun c h => h3 c (by simpa using h))]
theorem numS_snoc (l : List Nat) (c : Nat) : numS (l ++ [c]) = 10 * numS l + (c - 48) := by simp [numS]
theorem numS_lt {l : List Nat} (h : ∀ c, c ∈ l → c ≤ 57) : numS l < 4294967296 ^ (l.length + 1) := by
 suffices hh : ∀ (l : List Nat), (∀ c, c ∈ l.reverse → c ≤ 57) → numS l.reverse < 4294967296 ^ (l.length + 1) by
  have := hh l.reverse (by rw [List.reverse_reverse]; exact h)
  rwa [List.reverse_reverse, List.length_reverse] at this
 intro l
 induction l with
 | nil => intro _; simp [numS]
 | cons a l ih =>
  intro h
  rw [List.reverse_cons, numS_snoc]
  have h1 := ih (fun c hc => h c (by rw [List.reverse_cons]; exact List.mem_append_left _ hc))
  have h2 := h a (by rw [List.reverse_cons]; exact List.mem_append_right _ (List.mem_singleton.2 rfl))
  rw [List.length_cons, Nat.pow_succ]
  generalize 4294967296 ^ (l.length + 1) = M at *
  omega
end Go.K
namespace Go.K.S
open Go Go.K
theorem digits4_good (B : ByteArray) (hl : (byt B).length < 1099511627776) : Good P F.penumbraref04_Digits [.d (.s B)] [] (.d (.i .i64 (Ω .ci (digS (byt B))))) [] := by
 refine G.penumbraref04_Digits fun C C2 hC hC2 => ?_
 have hz := bsz_byt B
 have hg := bget_byt B
 have hd := @digS_eq (byt B)
 generalize byt B = l at *
 generalize hR : digS l = R at *
 refine rs ?_
 refine LoopG.intro (σ := Nat) [0, 3] [] (fun n => [.d (.s B), .d (.i .i64 (Ω .ci n))]) (fun _ => []) (fun n => n ≤ l.length ∧ (l.take n).all isDig = true) (fun n => l.length - n) 0 [] ⟨Nat.zero_le _, rfl⟩ ⟨rfl, rfl, rfl⟩ ?_
 rintro n ⟨hn, ha⟩
 have hw := wrap_succ (n := n) (by omega)
 rcases Nat.lt_or_ge n l.length with hlt | hge
 ·obtain ⟨c, hc⟩ : ∃ c, l[n]? = some c := ⟨_, List.getElem?_eq_getElem hlt⟩
  have hgc : Ω .bget B n = some c := by rw [hg, hc]
  have q0 : Ω .lt (Ω .ci n) (Ω .ci (Ω .bsz B)) = true := by rw [hz]; simp only [wz]; omega
  have hst := fun (h : isDig c = true) => (all_take_succ (p := isDig) hc).trans (by rw [ha, h, Bool.and_true])
  have hend := fun (h : isDig c = false) => hd (n := n) hn ha (fun c' h' => by rw [hc] at h'; cases h'; exact h)
  unfold isDig at hst hend
  by_cases h1 : 48 ≤ c
  ·have q1 : Ω .le 48 (Ω .ci c) = true := le_true.2 (by rw [w_ci]; omega)
   by_cases h2 : c ≤ 57
   ·have q2 : Ω .le (Ω .ci c) 57 = true := le_true.2 (by rw [w_ci]; omega)
    refine rs ?_
    rw [hw]
    exact ⟨n + 1, [], ⟨hlt, hst (by rw [decide_eq_true h1, decide_eq_true h2]; rfl)⟩, by omega, rfl, rfl, rfl⟩
   ·have q2 : Ω .le (Ω .ci c) 57 = false := le_false.2 (by rw [w_ci]; omega)
    have := hend (by rw [decide_eq_false h2, Bool.and_false])
    subst this
    exact rs trivial
  ·have q1 : Ω .le 48 (Ω .ci c) = false := le_false.2 (by rw [w_ci]; omega)
   have := hend (by rw [decide_eq_false h1, Bool.false_and])
   subst this
   exact rs trivial
 ·have q0 : Ω .lt (Ω .ci n) (Ω .ci (Ω .bsz B)) = false := by rw [hz]; simp only [wz]; omega
  have := hd (n := n) hn ha (fun c' h' => by rw [List.getElem?_eq_none hge] at h'; cases h')
  subst this
  exact rs trivial
theorem number4_good (B : ByteArray) (hl : (byt B).length < 1000000) (hd : ∀ c, c ∈ byt B → 48 ≤ c ∧ c ≤ 57) : Good P F.penumbraref04_Number [.d (.s B)] [] (.d (dN Ψ (Ψ .cn (numS (byt B))))) [] := by
 refine G.penumbraref04_Number fun C C2 hC hC2 => ?_
 have hz := bsz_byt B
 have hg := bget_byt B
 generalize byt B = l at *
 have hb : ∀ i, i ≤ l.length → numS (l.take i) < 4294967296 ^ (i + 1) := fun i hi => by
  have := numS_lt (l := l.take i) (fun c hc => (hd c (List.mem_of_mem_take hc)).2)
  rwa [List.length_take, Nat.min_eq_left hi] at this
 have hN : ∀ i, i ≤ l.length → N (Ψ .cn (numS (l.take i))) := fun i hi => ⟨lim_cn _, by have := len_cn.2 (hb i hi); omega⟩
 have hst : ∀ i c, l[i]? = some c → numS (l.take (i + 1)) = 10 * numS (l.take i) + (c - 48) := fun i c h => by rw [take_succ_of h, numS_snoc]
 have hNt : N [10] := ⟨by simp [lim_cons, lim_nil], by simp⟩
 have gm : ∀ i, i ≤ l.length → Good P F.penumbraref01_Mul [.d (dN Ψ (Ψ .cn (numS (l.take i)))), .d (dN Ψ [10])] [] (.d (dN Ψ (Ψ .cn (numS (l.take i) * 10)))) [] := fun i hi => by
  have := mul1_good (Ψ .cn (numS (l.take i))) [10] (hN i hi) hNt (by have := len_cn.2 (hb i hi); omega) (by simp)
  rw [nv_cn, show nv [10] = 10 by simp] at this
  exact this
 have ga : ∀ i c, l[i]? = some c → Good P F.penumbraref01_Add [.d (dN Ψ (Ψ .cn (numS (l.take i) * 10))), .d (dN Ψ [c - 48])] [] (.d (dN Ψ (Ψ .cn (numS (l.take (i + 1)))))) [] := fun i c h => by
  have hi : i < l.length := (List.getElem?_eq_some_iff.1 h).1
  have hc := hd c (List.mem_of_getElem? h)
  have hb1 : numS (l.take i) * 10 < 4294967296 ^ (i + 2) := by
   have := hb i (by omega)
   rw [Nat.pow_succ]
   generalize 4294967296 ^ (i + 1) = M at *
   omega
  have := add1_good (Ψ .cn (numS (l.take i) * 10)) [c - 48] ⟨lim_cn _, by have := len_cn.2 hb1; omega⟩ ⟨by simp [lim_cons, lim_nil]; omega, by simp⟩ (by have := len_cn.2 hb1; omega) (by simp)
  rw [nv_cn, show nv [c - 48] = c - 48 by simp, Nat.mul_comm, ← hst i c h] at this
  rw [Nat.mul_comm]
  exact this
 have gn := norm1_good (Ψ .cn (numS (l.take l.length))) (hN _ (Nat.le_refl _))
 rw [nv_cn] at gn
 have hend : numS (l.take l.length) = numS l := by rw [List.take_length]
 rw [← hend]
 clear hend
 have h0 : numS (l.take 0) = 0 := rfl
 obtain ⟨S, hS⟩ : ∃ S : Nat → Nat, S = fun i => numS (l.take i) := ⟨_, rfl⟩
 have eS : ∀ i, numS (l.take i) = S i := fun i => by rw [hS]
 simp only [eS] at gm ga gn h0 ⊢
 clear hb hN hst eS hS
 refine rs ?_
 refine LoopG.intro2 (σ := Bool × Nat) [0, 3, 4, 5] (fun s => if s.1 then [1050, 1051] else [1051])
  (fun s => [.d (.s B), if s.1 then .own 1050 1 else .d (dN Ψ (Ψ .cn (S s.2))), .own 1051 1, .d (.i .i64 (Ω .ci s.2))])
  (fun s => if s.1 then [.row true T.uint32 1 [], .row true T.uint32 1 [.i .u32 10]] else [.row false T.uint32 1 [.i .u32 10]])
  (fun s => s.2 ≤ l.length ∧ (s.1 = true → s.2 = 0)) (fun s => l.length - s.2) (true, 0) [1100, 1200] ⟨Nat.zero_le _, fun _ => rfl⟩ ⟨rfl, rfl, rfl⟩ ?_
 rintro ⟨fr, i⟩ ⟨hi, hfr⟩
 simp only at hi hfr
 have hw := wrap_succ (n := i) (by omega)
 rcases Nat.lt_or_ge i l.length with hlt | hge
 ·obtain ⟨c, hc⟩ : ∃ c, l[i]? = some c := ⟨_, List.getElem?_eq_getElem hlt⟩
  have hgc : Ω .bget B i = some c := by rw [hg, hc]
  have hcd := hd c (List.mem_of_getElem? hc)
  have q0 : Ω .lt (Ω .ci i) (Ω .ci (Ω .bsz B)) = true := by rw [hz]; simp only [wz]; omega
  have g1 := gm i hi
  have g2 := ga i c hc
  have ec : Ω .wrap .u32 (Ω .wrap .u32 (Ω .ci c) - 48) = Ω .ci (c - 48) := by
   rw [wrapu32_ci, Nat.mod_eq_of_lt (by omega), wrapu32]; simp only [wz]; omega
  cases fr with
  | false =>
   refine rs ?_
   rw [ec]
   refine ⟨_, hC _ _ _ g2, ?_⟩
   refine rs ?_
   rw [hw]
   exact ⟨(false, i + 1), [1051], ⟨hlt, fun h => nomatch h⟩, by simp only; omega, rfl, rfl, rfl⟩
  | true =>
   have hi0 := hfr rfl
   subst hi0
   rw [h0, Nat.zero_mul, cn_zero] at g1
   rw [h0, Nat.zero_mul, cn_zero] at g2
   refine rs ?_
   rw [ec]
   refine ⟨_, hC _ _ _ g2, ?_⟩
   refine rs ?_
   rw [hw]
   exact ⟨(false, 0 + 1), [1051], ⟨hlt, fun h => nomatch h⟩, by simp only; omega, rfl, rfl, rfl⟩
 ·obtain rfl : i = l.length := by omega
  have q0 : Ω .lt (Ω .ci l.length) (Ω .ci (Ω .bsz B)) = false := by rw [hz]; simp only [wz]; omega
  cases fr with
  | false => exact rs trivial
  | true =>
   have hi0 := hfr rfl
   have hs0 : S l.length = 0 := by rw [hi0]; exact h0
   rw [hs0, cn_zero] at gn ⊢
   exact rs trivial
end Go.K.S
end
section
namespace Go.K.S
open Go Go.K
theorem material_good (s : ScL) {MD FD : List D} (hD : ScD s MD FD) {i : Nat} {m : MatL} (hm : s.mats[i]? = some m) {k : Nat} (hv : ∀ r, r ∈ m.vals → Rn k r) (ha : Rn k m.a) (hb : Rn k m.b) (hwn : ∀ r, r ∈ s.waves → Rn k r) (hk : 0 < k) (hk2 : k < 16777216) (hl : s.waves.length < 1099511627776) :
  Good P F.scene_material [.d (.agg (dSc Ψ MD FD s)), .d (.i .i64 (Ω .ci i))] [] (.d (.b (matB s.waves m))) [] := by
 refine G.scene_material fun C C2 hC hC2 => ?_
 have hx1 := hD.m i m hm
 have g14 := of14_good
 have g11 := of11_good
 have gs := fun (r : RL) (h : Rn k r) => sign_good r h (by omega)
 have q4 : Qn 2 ((1 : Rat) / 4) := ⟨by decide +kernel, by decide +kernel⟩
 have gc4 := fun (r : RL) (h : Rn k r) => rcmp_good r (Ψ .cr (1 / 4)) (j := k) (k := 2) h (Rn_cr.2 q4) (by omega) (by omega)
 have gc1 := fun (r : RL) (h : Rn k r) => rcmp_good r (Ψ .cr 1) (j := k) (k := 1) h (Rn_cr.2 Qn_one') (by omega) (by omega)
 have ge : ∀ bin, bin < s.waves.length → _ := fun bin h => eta_good s hD hm (List.getElem?_eq_getElem h) ha hb (hwn _ (List.getElem_mem h)) hk (by omega)
 have gse : ∀ bin e, etaM s.waves m bin = some e → Good P F.rat_Sign [.d (.agg (dR Ψ (Ψ .cr e)))] [] (.d (.i .i64 (Ψ .sI e))) [] := fun bin e he => by
  have hq : Qn (6 * k) e := by
   unfold etaM at he
   cases hw : s.waves[bin]? with
   | none => rw [hw] at he; cases he
   | some w =>
    rw [hw] at he
    simp only at he
    split at he
    ·cases he
     have hwk := Qn_rv (hwn w (List.mem_of_getElem? hw)) hk
     exact (Qn_add (Qn_rv ha hk) (Qn_div (Qn_rv hb hk) (Qn_mul hwk hwk (by omega)) (by omega))).mono (by omega)
    ·cases he
  have := sign_good (Ψ .cr e) (Rn_cr.2 hq) (by omega)
  rw [rv_cr] at this
  exact this
 simp only [rv_cr] at gc4 gc1
 have gsa := gs m.a ha
 have gsb := gs m.b hb
 obtain ⟨R, hR⟩ : ∃ R, R = matB s.waves m := ⟨_, rfl⟩
 rw [← hR]
 unfold matB at hR
 by_cases h0 : 0 ≤ m.kind
 rotate_left
 ·have q1 : Ω .lt m.kind 0 = true := lt_true.2 (by omega)
  rw [decide_eq_false h0] at hR
  simp only [Bool.false_and] at hR
  subst hR
  clear ge gse
  exact rq trivial
 have q1 : Ω .lt m.kind 0 = false := lt_false.2 h0
 rw [decide_eq_true h0] at hR
 by_cases h1 : m.kind < 4
 rotate_left
 ·have q2 : Ω .le 4 m.kind = true := le_true.2 (by omega)
  rw [decide_eq_false h1] at hR
  simp only [Bool.and_false, Bool.false_and] at hR
  subst hR
  clear ge gse
  exact rq trivial
 have q2 : Ω .le 4 m.kind = false := le_false.2 h1
 rw [decide_eq_true h1] at hR
 by_cases hln : m.vals.length = s.waves.length
 rotate_left
 ·have q3 : Ω .ne (Ω .ci m.vals.length) (Ω .ci s.waves.length) = true := by simp only [wz]; omega
  rw [decide_eq_false hln] at hR
  simp only [Bool.and_false, Bool.false_and] at hR
  subst hR
  clear ge gse
  exact rq trivial
 have q3 : Ω .ne (Ω .ci m.vals.length) (Ω .ci s.waves.length) = false := by simp only [wz]; omega
 rw [decide_eq_true hln] at hR
 simp only [Bool.true_and] at hR
 have hzl : m.vals.zipIdx.length = m.vals.length := List.length_zipIdx
 have hz : ∀ j r, m.vals[j]? = some r → m.vals.zipIdx[j]? = some (r, j) := fun j r h => by rw [List.getElem?_zipIdx, h]; simp
 have hst : ∀ j r, m.vals[j]? = some r → valB s.waves m j r = true → (m.vals.zipIdx.take j).all (fun x => valB s.waves m x.2 x.1) = true → (m.vals.zipIdx.take (j + 1)).all (fun x => valB s.waves m x.2 x.1) = true := fun j r h h1 h2 => by
  rw [all_take_succ (hz j r h), h2, Bool.true_and]; exact h1
 have hbad : ∀ j r, m.vals[j]? = some r → valB s.waves m j r = false → R = false := fun j r h h1 => by
  have : valsB s.waves m = false := all_false_of (hz j r h) h1
  rw [hR, this]; rfl
 have hend : (m.vals.zipIdx.take m.vals.length).all (fun x => valB s.waves m x.2 x.1) = true → R = (decide (m.kind = 2) || (decide (rv m.a = 0) && decide (rv m.b = 0))) := fun h => by
  rw [← hzl, all_take_all] at h
  have : valsB s.waves m = true := h
  rw [hR, this]; rfl
 clear hR
 have hv0 : (m.vals.zipIdx.take 0).all (fun x => valB s.waves m x.2 x.1) = true := rfl
 obtain ⟨A, hA⟩ : ∃ A : Nat → Prop, A = fun j => (m.vals.zipIdx.take j).all (fun x => valB s.waves m x.2 x.1) = true := ⟨_, rfl⟩
 have hAe : ∀ j, ((m.vals.zipIdx.take j).all (fun x => valB s.waves m x.2 x.1) = true) = A j := fun j => by rw [hA]
 simp only [hAe] at hst hend hv0
 clear hAe hA
 refine rq ?_
 refine LoopG.intro (σ := Nat) [1, 2, 5, 33, 34, 35] [1050, 1051] (fun j => [.d (.i .i64 (Ω .ci i)), .ptr 1050 0, .ptr 1051 0, .d (.sl (Ψ .dRs m.vals)), .d (.i .i64 (Ω .ci m.vals.length)), .d (.i .i64 (Ω .ci j))])
  (fun _ => [.var ((dSc Ψ MD FD s).map V.d), .var ((dMat Ψ m).map V.d)]) (fun j => j ≤ m.vals.length ∧ A j) (fun j => m.vals.length - j) 0 [1000, 1105]
  ⟨Nat.zero_le _, hv0⟩ ⟨rfl, rfl, rfl⟩ ?_
 rintro j ⟨hj, hAj⟩
 have hw := wrap_succ (n := j) (by omega)
 rcases Nat.lt_or_ge j m.vals.length with hlt | hge
 ·obtain ⟨r, hr⟩ : ∃ r, m.vals[j]? = some r := ⟨_, List.getElem?_eq_getElem hlt⟩
  have hx2 := hx_dRs hr
  have hrn := hv r (List.mem_of_getElem? hr)
  have q0 : Ω .lt (Ω .ci j) (Ω .ci m.vals.length) = true := by simp only [wz]; omega
  have hs' := fun h => hst j r hr h hAj
  have hb' := hbad j r hr
  have gj := ge j (by omega)
  have gsj := gse j
  have g1 := gs r hrn
  have g2 := gc4 r hrn
  have g3 := gc1 r hrn
  have p1 := @qs_neg (rv r)
  have p2 := @qc_pos (rv r) (1 / 4)
  have p3 := @qc_pos (rv r) 1
  have ek : m.kind ≠ 2 → etaM s.waves m j = none := fun h => by
   rw [etaM_eq (List.getElem?_eq_getElem (show j < s.waves.length by omega)), if_neg (fun c => h c.1)]
  unfold valB at hs' hb'
  generalize etaM s.waves m j = et at *
  generalize decide (rv r < 0) = a1 at *
  generalize decide (1 / 4 < rv r) = d4 at *
  generalize decide (1 < rv r) = d1 at *
  generalize Ψ .sI (rv r) = s1 at *
  generalize Ψ .cI (rv r) (1 / 4) = s2 at *
  generalize Ψ .cI (rv r) 1 = s3 at *
  generalize Ψ .cr (1 / 4) = N4 at *
  generalize Ψ .cr 1 = N1 at *
  clear ge gse gs gc4 gc1 hst hbad hend hv hwn hz hzl hv0
  have k4 : m.kind = 0 ∨ m.kind = 1 ∨ m.kind = 2 ∨ m.kind = 3 := by omega
  cases a1 with
  | true =>
   have := hb' rfl
   subst this
   exact rq trivial
  | false =>
   rcases k4 with kk | kk | kk | kk
   ·rw [kk] at hs' hb'
    have r0 : Ω .eq m.kind 0 = true := by rw [q_eq, kk]; rfl
    have r1 : Ω .eq m.kind 1 = false := by rw [q_eq, kk]; rfl
    have r2 : Ω .eq m.kind 2 = false := by rw [q_eq, kk]; rfl
    have en := ek (by omega)
    subst en
    cases d4 with
    | true =>
     have := hb' rfl
     subst this
     exact rq trivial
    | false =>
     refine rq ?_
     rw [hw]
     exact ⟨j + 1, [1050, 1051], ⟨hlt, hs' rfl⟩, by omega, rfl, rfl, rfl⟩
   ·rw [kk] at hs' hb'
    have r0 : Ω .eq m.kind 0 = false := by rw [q_eq, kk]; rfl
    have r1 : Ω .eq m.kind 1 = true := by rw [q_eq, kk]; rfl
    have r2 : Ω .eq m.kind 2 = false := by rw [q_eq, kk]; rfl
    have en := ek (by omega)
    subst en
    cases d1 with
    | true =>
     have := hb' rfl
     subst this
     exact rq trivial
    | false =>
     refine rq ?_
     rw [hw]
     exact ⟨j + 1, [1050, 1051], ⟨hlt, hs' rfl⟩, by omega, rfl, rfl, rfl⟩
   ·rw [kk] at hs' hb'
    have r0 : Ω .eq m.kind 0 = false := by rw [q_eq, kk]; rfl
    have r1 : Ω .eq m.kind 1 = false := by rw [q_eq, kk]; rfl
    have r2 : Ω .eq m.kind 2 = true := by rw [q_eq, kk]; rfl
    cases d1 with
    | true =>
     have := hb' (by cases et <;> rfl)
     subst this
     exact rq trivial
    | false =>
     cases et with
     | none =>
      refine rq ?_
      rw [hw]
      exact ⟨j + 1, [1050, 1051], ⟨hlt, hs' rfl⟩, by omega, rfl, rfl, rfl⟩
     | some e =>
      have g4 := gsj e rfl
      have p4 := @qs_pos e
      simp only [Option.getD_some, Option.isSome_some] at gj
      simp only at hs' hb'
      generalize decide (0 < e) = t at *
      generalize Ψ .sI e = se at *
      generalize Ψ .cr e = E at *
      cases t with
      | true =>
       refine rq ?_
       rw [hw]
       exact ⟨j + 1, [1050, 1051], ⟨hlt, hs' rfl⟩, by omega, rfl, rfl, rfl⟩
      | false =>
       have := hb' rfl
       subst this
       exact rq trivial
   ·rw [kk] at hs' hb'
    have r0 : Ω .eq m.kind 0 = false := by rw [q_eq, kk]; rfl
    have r1 : Ω .eq m.kind 1 = false := by rw [q_eq, kk]; rfl
    have r2 : Ω .eq m.kind 2 = false := by rw [q_eq, kk]; rfl
    have en := ek (by omega)
    subst en
    refine rq ?_
    rw [hw]
    exact ⟨j + 1, [1050, 1051], ⟨hlt, hs' rfl⟩, by omega, rfl, rfl, rfl⟩
 ·obtain rfl : j = m.vals.length := by omega
  have q0 : Ω .lt (Ω .ci m.vals.length) (Ω .ci m.vals.length) = false := by simp only [wz]; omega
  rw [hend hAj]
  have z1 := @qs_zero (rv m.a)
  have z2 := @qs_zero (rv m.b)
  have z3 : Ω .eq m.kind 2 = decide (m.kind = 2) := q_eq
  generalize decide (rv m.a = 0) = t1 at *
  generalize decide (rv m.b = 0) = t2 at *
  generalize decide (m.kind = 2) = t3 at *
  generalize Ψ .sI (rv m.a) = s1 at *
  generalize Ψ .sI (rv m.b) = s2 at *
  clear ge gse gs gc4 gc1 hst hbad hend hv hwn hz hzl hv0
  cases t3 <;> cases t1 <;> cases t2
  all_goals exact rq trivial
end Go.K.S
end
section
namespace Go.K.S
open Go Go.K
theorem sizes_good (s : ScL) {MD FD : List D} (hD : ScD s MD FD) {k : Nat} (hs : Scn k s) (hk0 : 0 < k) (hk : k < 137438953472) :
  Good P F.scene_sizes [.d (.agg (dSc Ψ MD FD s))] [] (.d (.b (sizesS s))) [] := by
 refine G.scene_sizes fun C C2 hC hC2 => ?_
 have g1 := fits_good s.waves hs.wv hk0 hk (by have := hs.wl; omega)
 have g2 := fit_good [s.eye, s.look] (k := k) (fun r h => (mem2 h).elim (fun e => e ▸ hs.e) fun e => e ▸ hs.l) hk0 hk (by simp)
 have e2 : Ψ .dVs [s.eye, s.look] = [.agg (dV Ψ s.eye), .agg (dV Ψ s.look)] := rfl
 have e2' : [s.eye, s.look].all fitV = (fitV s.eye && fitV s.look) := by simp
 rw [e2, e2'] at g2
 have g3 := fits_good [s.half] (k := k) (fun r h => (List.mem_singleton.1 h) ▸ hs.hf) hk0 hk (by simp)
 have e3 : Ψ .dRs [s.half] = [.agg (dR Ψ s.half)] := rfl
 have e3' : [s.half].all fitR = fitR s.half := by simp
 rw [e3, e3'] at g3
 have eR : sizesS s = ((s.waves.all fitR && ((fitV s.eye && fitV s.look) && fitR s.half)) && (s.mats.all fitM && s.faces.all fitF)) := by
  unfold sizesS
  simp only [Bool.and_assoc]
 rw [eR]
 clear eR e2 e2' e3 e3'
 have hmD := hD.m
 have hml := hD.ml
 have hfD := hD.f
 have hfl := hD.fl
 have hmn := hs.ml
 have hfn := hs.fl
 have gM : ∀ i, i < s.mats.length → ∃ m, Ω .sget MD i = some (.agg (dMat Ψ m)) ∧ Good P F.scene_fits [.d (.sl (Ψ .dRs m.vals))] [] (.d (.b (m.vals.all fitR))) [] ∧ Good P F.scene_fits [.d (.sl [.agg (dR Ψ m.a), .agg (dR Ψ m.b)])] [] (.d (.b (fitR m.a && fitR m.b))) []
   ∧ (s.mats.take (i + 1)).all fitM = ((s.mats.take i).all fitM && (m.vals.all fitR && (fitR m.a && fitR m.b))) := fun i hi => by
  obtain ⟨m, hm⟩ : ∃ m, s.mats[i]? = some m := ⟨_, List.getElem?_eq_getElem hi⟩
  have hmm := hs.mv m (List.mem_of_getElem? hm)
  refine ⟨m, hmD i m hm, fits_good m.vals hmm.v hk0 hk (by have := hmm.l; omega), ?_, all_take_succ hm⟩
  have g := fits_good [m.a, m.b] (k := k) (fun r h => (mem2 h).elim (fun e => e ▸ hmm.a) fun e => e ▸ hmm.b) hk0 hk (by simp)
  have e : [m.a, m.b].all fitR = (fitR m.a && fitR m.b) := by simp
  rw [e] at g
  exact g
 have gF : ∀ i, i < s.faces.length → ∃ f, Ω .sget FD i = some (.agg (dFace Ψ f)) ∧ Good P F.scene_fit [.d (.sl [.agg (dV Ψ f.tri.a), .agg (dV Ψ f.tri.b), .agg (dV Ψ f.tri.c)])] [] (.d (.b (fitF f))) []
   ∧ (s.faces.take (i + 1)).all fitF = ((s.faces.take i).all fitF && fitF f) := fun i hi => by
  obtain ⟨m, hm⟩ : ∃ m, s.faces[i]? = some m := ⟨_, List.getElem?_eq_getElem hi⟩
  have hmm := hs.fv m (List.mem_of_getElem? hm)
  refine ⟨m, hfD i m hm, ?_, all_take_succ hm⟩
  have g := fit_good [m.tri.a, m.tri.b, m.tri.c] (k := k) (fun r h => (mem3 h).elim (fun e => e ▸ hmm.t.a) fun h => h.elim (fun e => e ▸ hmm.t.b) fun e => e ▸ hmm.t.c) hk0 hk (by simp)
  have e : [m.tri.a, m.tri.b, m.tri.c].all fitV = fitF m := by simp [fitF]
  rw [e] at g
  exact g
 have eM0 : (s.mats.take 0).all fitM = true := rfl
 have eF0 : (s.faces.take 0).all fitF = true := rfl
 have eM1 : (s.mats.take s.mats.length).all fitM = s.mats.all fitM := all_take_all
 have eF1 : (s.faces.take s.faces.length).all fitF = s.faces.all fitF := all_take_all
 obtain ⟨AM, hAM⟩ : ∃ AM : Nat → Bool, AM = fun i => (s.mats.take i).all fitM := ⟨_, rfl⟩
 obtain ⟨AF, hAF⟩ : ∃ AF : Nat → Bool, AF = fun i => (s.faces.take i).all fitF := ⟨_, rfl⟩
 have fM : ∀ i, (s.mats.take i).all fitM = AM i := fun i => by rw [hAM]
 have fF : ∀ i, (s.faces.take i).all fitF = AF i := fun i => by rw [hAF]
 simp only [fM] at gM eM0 eM1
 simp only [fF] at gF eF0 eF1
 rw [← eM1, ← eF1]
 clear fM fF hAM hAF eM1 eF1 hD hs hmD hfD
 generalize s.mats.length = nm at *
 generalize s.faces.length = nf at *
 generalize s.waves.all fitR = c1 at *
 generalize (fitV s.eye && fitV s.look) = c2 at *
 generalize fitR s.half = c3 at *
 obtain ⟨base, hbase⟩ : ∃ b, b = (c1 && (c2 && c3)) := ⟨_, rfl⟩
 rw [← hbase]
 cases c1 <;> cases c2 <;> cases c3
 all_goals
  refine rq ?_
  rw [hml]
  refine LoopG.intro (σ := Nat × Bool) [1, 3, 29, 30, 31] [1050] (fun i => [.ptr 1050 0, .d (.b i.2), .d (.sl MD), .d (.i .i64 (Ω .ci nm)), .d (.i .i64 (Ω .ci i.1))]) (fun _ => [.var ((dSc Ψ MD FD s).map V.d)]) (fun i => i.1 ≤ nm ∧ i.2 = (base && AM i.1)) (fun i => nm - i.1) (0, base) [1000]
   ⟨Nat.zero_le _, by simp [eM0]⟩ ⟨rfl, (by rw [hbase]; rfl), rfl⟩ ?_
  clear hbase g1 g2 g3
  rintro ⟨i, A⟩ ⟨hi, hA⟩
  simp only at hi hA
  rcases Nat.lt_or_ge i nm with hlt | hge
  ·obtain ⟨m, h1, h2, h3, h4⟩ := gM i hlt
   have q0 : Ω .lt (Ω .ci i) (Ω .ci nm) = true := by simp only [wz]; omega
   generalize m.vals.all fitR = d1 at *
   generalize (fitR m.a && fitR m.b) = d2 at *
   have hw := wrap_succ (n := i) (by omega)
   obtain ⟨N, hN⟩ : ∃ N, N = (A && (d1 && d2)) := ⟨_, rfl⟩
   have hN2 : N = (base && AM (i + 1)) := by rw [hN, hA, h4, Bool.and_assoc]
   clear h4 hA gM gF
   cases A <;> cases d1 <;> cases d2
   all_goals
    refine rq ?_
    rw [hw]
    exact ⟨(i + 1, N), [1050], ⟨hlt, hN2⟩, by simp only; omega, rfl, by rw [hN]; rfl, rfl⟩
  ·obtain rfl : i = nm := by omega
   have q0 : Ω .lt (Ω .ci i) (Ω .ci i) = false := by simp only [wz]; omega
   have fin' : (base && (AM i && AF nf)) = (A && AF nf) := by rw [hA, Bool.and_assoc]
   rw [fin']
   clear fin' hA gM
   refine rq ?_
   rw [hfl]
   refine LoopG.intro (σ := Nat × Bool) [1, 3, 51, 52, 53] [1050] (fun i => [.ptr 1050 0, .d (.b i.2), .d (.sl FD), .d (.i .i64 (Ω .ci nf)), .d (.i .i64 (Ω .ci i.1))]) (fun _ => [.var ((dSc Ψ MD FD s).map V.d)]) (fun i => i.1 ≤ nf ∧ i.2 = (A && AF i.1)) (fun i => nf - i.1) (0, A) [1050]
    ⟨Nat.zero_le _, by simp [eF0]⟩ ⟨rfl, rfl, rfl⟩ ?_
   rintro ⟨j, B⟩ ⟨hj, hB⟩
   simp only at hj hB
   rcases Nat.lt_or_ge j nf with hlt | hge
   ·obtain ⟨m, h1, h2, h4⟩ := gF j hlt
    have q0 : Ω .lt (Ω .ci j) (Ω .ci nf) = true := by simp only [wz]; omega
    generalize fitF m = d1 at *
    have hw := wrap_succ (n := j) (by omega)
    obtain ⟨N, hN⟩ : ∃ N, N = (B && d1) := ⟨_, rfl⟩
    have hN2 : N = (A && AF (j + 1)) := by rw [hN, hB, h4, Bool.and_assoc]
    clear h4 hB gF
    cases B <;> cases d1
    all_goals
     refine rq ?_
     rw [hw]
     exact ⟨(j + 1, N), [1050], ⟨hlt, hN2⟩, by simp only; omega, rfl, by rw [hN]; rfl, rfl⟩
   ·obtain rfl : j = nf := by omega
    have q0 : Ω .lt (Ω .ci j) (Ω .ci j) = false := by simp only [wz]; omega
    rw [← hB]
    exact rq trivial
end Go.K.S
end
section
namespace Go.K
open Go
theorem all_of {α : Type} {l : List α} {p : α → Bool} (h : l.all p = true) {x : α} (hx : x ∈ l) : p x = true := List.all_eq_true.1 h x hx
structure Sc2 (s : ScL) : Prop where
 wv : ∀ r, r ∈ s.waves → Rn 2 r
 mv : ∀ m, m ∈ s.mats → (∀ r, r ∈ m.vals → Rn 2 r) ∧ Rn 2 m.a ∧ Rn 2 m.b
 fv : ∀ f, f ∈ s.faces → Tn 2 f.tri
 e : Vn 2 s.eye
 l : Vn 2 s.look
 hf : Rn 2 s.half
theorem sc2_of {s : ScL} (h : sizesS s = true) : Sc2 s := by
 unfold sizesS at h
 simp only [Bool.and_eq_true] at h
 obtain ⟨⟨h1, h2, h3, h4⟩, h5, h6⟩ := h
 refine ⟨fun r hr => fitR_n (all_of h1 hr), fun m hm => ?_, fun f hf => fitF_n (all_of h6 hf), fitV_n h2, fitV_n h3, fitR_n h4⟩
 have := all_of h5 hm
 unfold fitM at this
 simp only [Bool.and_eq_true] at this
 exact ⟨fun r hr => fitR_n (all_of this.1 hr), fitR_n this.2.1, fitR_n this.2.2⟩
theorem q_lt' {a b : Int} : Ω .lt a b = decide (a < b) := rfl
theorem q_le' {a b : Int} : Ω .le a b = decide (a ≤ b) := rfl
end Go.K
namespace Go.K.S
open Go Go.K
theorem scheck_good (s : ScL) {MD FD : List D} (hD : ScD s MD FD) {k : Nat} (hs : Scn k s) (hk0 : 0 < k) (hk : k < 137438953472) :
  Good P F.scene_Check [.d (.agg (dSc Ψ MD FD s))] [] (.d (.i .i64 (checkS s))) [] := by
 refine G.scene_Check fun C C2 hC hC2 => ?_
 have g1 := sizes_good s hD hs hk0 hk
 have hml := hD.ml
 have hfl := hD.fl
 obtain ⟨R, hR⟩ : ∃ R, R = checkS s := ⟨_, rfl⟩
 rw [← hR]
 unfold checkS at hR
 by_cases hm : manyB s = false
 ·rw [if_pos hm] at hR
  subst hR
  clear g1
  unfold manyB at hm
  by_cases c1 : 1 ≤ s.waves.length
  rotate_left
  ·have q1 : Ω .lt (Ω .ci s.waves.length) 1 = true := by simp only [wz]; omega
   exact rq trivial
  have q1 : Ω .lt (Ω .ci s.waves.length) 1 = false := by simp only [wz]; omega
  by_cases c2 : s.waves.length ≤ 8
  rotate_left
  ·have q2 : Ω .lt 8 (Ω .ci s.waves.length) = true := by simp only [wz]; omega
   exact rq trivial
  have q2 : Ω .lt 8 (Ω .ci s.waves.length) = false := by simp only [wz]; omega
  by_cases c3 : s.mats.length ≤ 32
  rotate_left
  ·have q3 : Ω .lt 32 (Ω .ci (Ω .slen MD)) = true := by rw [hml]; simp only [wz]; omega
   exact rq trivial
  have q3 : Ω .lt 32 (Ω .ci (Ω .slen MD)) = false := by rw [hml]; simp only [wz]; omega
  by_cases c4 : 1 ≤ s.faces.length
  rotate_left
  ·have q4 : Ω .lt (Ω .ci (Ω .slen FD)) 1 = true := by rw [hfl]; simp only [wz]; omega
   exact rq trivial
  have q4 : Ω .lt (Ω .ci (Ω .slen FD)) 1 = false := by rw [hfl]; simp only [wz]; omega
  by_cases c5 : s.faces.length ≤ 64
  rotate_left
  ·have q5 : Ω .lt 64 (Ω .ci (Ω .slen FD)) = true := by rw [hfl]; simp only [wz]; omega
   exact rq trivial
  rw [decide_eq_true c1, decide_eq_true c2, decide_eq_true c3, decide_eq_true c4, decide_eq_true c5] at hm
  exact nomatch hm
 rw [if_neg hm] at hR
 have hm' : manyB s = true := by simpa using hm
 unfold manyB at hm'
 simp only [Bool.and_eq_true, decide_eq_true_eq] at hm'
 obtain ⟨c1, c2, c3, c4, c5⟩ := hm'
 have q1 : Ω .lt (Ω .ci s.waves.length) 1 = false := by simp only [wz]; omega
 have q2 : Ω .lt 8 (Ω .ci s.waves.length) = false := by simp only [wz]; omega
 have q3 : Ω .lt 32 (Ω .ci (Ω .slen MD)) = false := by rw [hml]; simp only [wz]; omega
 have q4 : Ω .lt (Ω .ci (Ω .slen FD)) 1 = false := by rw [hfl]; simp only [wz]; omega
 have q5 : Ω .lt 64 (Ω .ci (Ω .slen FD)) = false := by rw [hfl]; simp only [wz]; omega
 clear hm
 by_cases hz : sizesS s = false
 ·rw [if_pos hz] at hR
  subst hR
  rw [hz] at g1
  exact rq trivial
 rw [if_neg hz] at hR
 have hz' : sizesS s = true := by simpa using hz
 rw [hz'] at g1
 have h2 := sc2_of hz'
 clear hz hz'
 have gw : ∀ r, r ∈ s.waves → Good P F.rat_Sign [.d (.agg (dR Ψ r))] [] (.d (.i .i64 (Ψ .sI (rv r)))) [] := fun r hr => sign_good r (h2.wv r hr) (by omega)
 obtain ⟨AW, hAW⟩ : ∃ A : Nat → Prop, A = fun i => (s.waves.take i).all (fun x => decide (0 < rv x)) = true := ⟨_, rfl⟩
 have w0 : AW 0 := by rw [hAW]; rfl
 have w1 : ∀ i r, s.waves[i]? = some r → 0 < rv r → AW i → AW (i + 1) := fun i r h h1 h2 => by
  rw [hAW] at h2 ⊢
  simp only at h2 ⊢
  rw [all_take_succ h, h2, decide_eq_true h1]; rfl
 have w2 : ∀ i r, s.waves[i]? = some r → ¬ 0 < rv r → R = 98 := fun i r h h1 => by
  rw [hR, if_pos (all_false_of h (decide_eq_false h1))]
 have w3 : AW s.waves.length → (s.waves.all fun x => decide (0 < rv x)) = true := fun h => by
  rw [hAW] at h
  rw [← all_take_all]; exact h
 clear hAW
 refine rq ?_
 refine LoopG.intro (σ := Nat) [1, 43, 44, 45] [1050] (fun i => [.ptr 1050 0, .d (.sl (Ψ .dRs s.waves)), .d (.i .i64 (Ω .ci s.waves.length)), .d (.i .i64 (Ω .ci i))]) (fun _ => [.var ((dSc Ψ MD FD s).map V.d)]) (fun i => i ≤ s.waves.length ∧ AW i) (fun i => s.waves.length - i) 0 [1000]
  ⟨Nat.zero_le _, w0⟩ ⟨rfl, rfl, rfl⟩ ?_
 rintro i ⟨hi, hA⟩
 have hw := wrap_succ (n := i) (by omega)
 rcases Nat.lt_or_ge i s.waves.length with hlt | hge
 ·obtain ⟨r, hr⟩ : ∃ r, s.waves[i]? = some r := ⟨_, List.getElem?_eq_getElem hlt⟩
  have hx := hx_dRs hr
  have q0 : Ω .lt (Ω .ci i) (Ω .ci s.waves.length) = true := by simp only [wz]; omega
  have g := gw r (List.mem_of_getElem? hr)
  have p := @qs_pos (rv r)
  by_cases hp : 0 < rv r
  ·rw [decide_eq_true hp] at p
   have := w1 i r hr hp hA
   generalize Ψ .sI (rv r) = s1 at *
   clear w1 w2 w3 gw
   refine rq ?_
   rw [hw]
   exact ⟨i + 1, [1050], ⟨hlt, this⟩, by omega, rfl, rfl, rfl⟩
  ·rw [decide_eq_false hp] at p
   have := w2 i r hr hp
   subst this
   generalize Ψ .sI (rv r) = s1 at *
   clear w1 w2 w3 gw
   exact rq trivial
 obtain rfl : i = s.waves.length := by omega
 have q0 : Ω .lt (Ω .ci s.waves.length) (Ω .ci s.waves.length) = false := by simp only [wz]; omega
 rw [if_neg (by rw [w3 hA]; exact fun h => nomatch h)] at hR
 clear w0 w1 w2 w3 gw hw hi hA
 have gm : ∀ (j : Nat) (h : j < s.mats.length), Good P F.scene_material [.d (.agg (dSc Ψ MD FD s)), .d (.i .i64 (Ω .ci j))] [] (.d (.b (matB s.waves s.mats[j]))) [] := fun j h => by
  have hv := h2.mv _ (List.getElem_mem h)
  exact material_good s hD (List.getElem?_eq_getElem h) hv.1 hv.2.1 hv.2.2 h2.wv (by omega) (by omega) (by omega)
 obtain ⟨AM, hAM⟩ : ∃ A : Nat → Prop, A = fun i => (s.mats.take i).all (matB s.waves) = true := ⟨_, rfl⟩
 have w0 : AM 0 := by rw [hAM]; rfl
 have w1 : ∀ i (h : i < s.mats.length), matB s.waves s.mats[i] = true → AM i → AM (i + 1) := fun i h h1 h2 => by
  rw [hAM] at h2 ⊢
  simp only at h2 ⊢
  rw [all_take_succ (List.getElem?_eq_getElem h), h2, h1]; rfl
 have w2 : ∀ i (h : i < s.mats.length), matB s.waves s.mats[i] = false → R = 98 := fun i h h1 => by
  rw [hR, if_pos (all_false_of (List.getElem?_eq_getElem h) h1)]
 have w3 : AM s.mats.length → s.mats.all (matB s.waves) = true := fun h => by
  rw [hAM] at h
  rw [← all_take_all]; exact h
 clear hAM
 refine rq ?_
 rw [hml]
 refine LoopG.intro (σ := Nat) [1, 55, 56] [1050] (fun i => [.ptr 1050 0, .d (.i .i64 (Ω .ci s.mats.length)), .d (.i .i64 (Ω .ci i))]) (fun _ => [.var ((dSc Ψ MD FD s).map V.d)]) (fun i => i ≤ s.mats.length ∧ AM i) (fun i => s.mats.length - i) 0 [1050]
  ⟨Nat.zero_le _, w0⟩ ⟨rfl, rfl, rfl⟩ ?_
 rintro j ⟨hj, hA⟩
 have hw := wrap_succ (n := j) (by omega)
 rcases Nat.lt_or_ge j s.mats.length with hlt | hge
 ·have q0' : Ω .lt (Ω .ci j) (Ω .ci s.mats.length) = true := by simp only [wz]; omega
  have g := gm j hlt
  have v1 := fun h => w1 j hlt h hA
  have v2 := w2 j hlt
  generalize matB s.waves s.mats[j] = b at *
  clear w1 w2 w3 gm
  cases b with
  | true =>
   refine rq ?_
   rw [hw]
   exact ⟨j + 1, [1050], ⟨hlt, v1 rfl⟩, by omega, rfl, rfl, rfl⟩
  | false =>
   have := v2 rfl
   subst this
   exact rq trivial
 obtain rfl : j = s.mats.length := by omega
 have q0' : Ω .lt (Ω .ci s.mats.length) (Ω .ci s.mats.length) = false := by simp only [wz]; omega
 rw [if_neg (by rw [w3 hA]; exact fun h => nomatch h)] at hR
 clear w0 w1 w2 w3 gm hw hj hA
 obtain ⟨AF, hAF⟩ : ∃ A : Nat → Prop, A = fun i => (s.faces.take i).all (faceB s.mats.length) = true := ⟨_, rfl⟩
 have w0 : AF 0 := by rw [hAF]; rfl
 have w1 : ∀ i f, s.faces[i]? = some f → faceB s.mats.length f = true → AF i → AF (i + 1) := fun i f h h1 h2 => by
  rw [hAF] at h2 ⊢
  simp only at h2 ⊢
  rw [all_take_succ h, h2, h1]; rfl
 have w2 : ∀ i f, s.faces[i]? = some f → faceB s.mats.length f = false → R = 99 := fun i f h h1 => by
  rw [hR, if_pos (all_false_of h h1)]
 have w3 : AF s.faces.length → s.faces.all (faceB s.mats.length) = true := fun h => by
  rw [hAF] at h
  rw [← all_take_all]; exact h
 clear hAF
 refine rq ?_
 rw [hfl]
 refine LoopG.intro (σ := Nat) [1, 65, 66, 67] [1050] (fun i => [.ptr 1050 0, .d (.sl FD), .d (.i .i64 (Ω .ci s.faces.length)), .d (.i .i64 (Ω .ci i))]) (fun _ => [.var ((dSc Ψ MD FD s).map V.d)]) (fun i => i ≤ s.faces.length ∧ AF i) (fun i => s.faces.length - i) 0 [1050]
  ⟨Nat.zero_le _, w0⟩ ⟨rfl, rfl, rfl⟩ ?_
 rintro i ⟨hi, hA⟩
 have hw := wrap_succ (n := i) (by omega)
 rcases Nat.lt_or_ge i s.faces.length with hlt | hge
 ·obtain ⟨f, hf⟩ : ∃ f, s.faces[i]? = some f := ⟨_, List.getElem?_eq_getElem hlt⟩
  have hx := hD.f i f hf
  have q0 : Ω .lt (Ω .ci i) (Ω .ci s.faces.length) = true := by simp only [wz]; omega
  have g := tunit_good f.tri (h2.fv f (List.mem_of_getElem? hf)) (by omega) (by omega)
  have v1 := fun h => w1 i f hf h hA
  have v2 := w2 i f hf
  unfold faceB at v1 v2
  have r1 : Ω .lt f.mat 0 = !decide (0 ≤ f.mat) := by rw [q_lt']; by_cases h : 0 ≤ f.mat <;> simp [h] <;> omega
  have r2 : Ω .le (Ω .ci (Ω .slen MD)) f.mat = !decide (f.mat < (s.mats.length : Int)) := by rw [hml, q_le', w_ci]; by_cases h : f.mat < (s.mats.length : Int) <;> simp [h] <;> omega
  generalize Ψ .cV (unitR (normS (tv f.tri))).1 = U at *
  generalize Ψ .cr ((unitR (normS (tv f.tri))).2 * (1 / 2)) = L at *
  generalize (unitS (normS (tv f.tri))).isSome = ok at *
  generalize decide (0 ≤ f.mat) = t1 at *
  generalize decide (f.mat < (s.mats.length : Int)) = t2 at *
  clear w1 w2 w3
  cases ok with
  | false =>
   have := v2 rfl
   subst this
   exact rq trivial
  | true =>
   cases t1 with
   | false =>
    have := v2 rfl
    subst this
    exact rq trivial
   | true =>
    cases t2 with
    | false =>
     have := v2 rfl
     subst this
     exact rq trivial
    | true =>
     refine rq ?_
     rw [hw]
     exact ⟨i + 1, [1050], ⟨hlt, v1 rfl⟩, by omega, rfl, rfl, rfl⟩
 obtain rfl : i = s.faces.length := by omega
 have q0 : Ω .lt (Ω .ci s.faces.length) (Ω .ci s.faces.length) = false := by simp only [wz]; omega
 rw [if_neg (by rw [w3 hA]; exact fun h => nomatch h)] at hR
 clear w0 w1 w2 w3 hw hi hA
 have gd := vdot_good s.look s.look h2.l h2.l (by omega) (by omega)
 have qd := Qn_dot (Pn_vv h2.l (by omega)) (Pn_vv h2.l (by omega)) (by omega)
 have g11 := of11_good
 have gsm := rsame_good (Ψ .cr (vdot (vv s.look) (vv s.look))) (Ψ .cr 1) (Rn_cr.2 qd) (Rn_cr.2 Qn_one') (by omega) (by omega)
 rw [rv_cr, rv_cr] at gsm
 have gh := sign_good s.half h2.hf (by omega)
 have ph := @qs_pos (rv s.half)
 have p1 : Ω .lt s.w 1 = !decide (1 ≤ s.w) := by rw [q_lt']; by_cases h : 1 ≤ s.w <;> simp [h] <;> omega
 have p2 : Ω .lt 16 s.w = !decide (s.w ≤ 16) := by rw [q_lt']; by_cases h : s.w ≤ 16 <;> simp [h] <;> omega
 have p3 : Ω .lt s.h 1 = !decide (1 ≤ s.h) := by rw [q_lt']; by_cases h : 1 ≤ s.h <;> simp [h] <;> omega
 have p4 : Ω .lt 16 s.h = !decide (s.h ≤ 16) := by rw [q_lt']; by_cases h : s.h ≤ 16 <;> simp [h] <;> omega
 unfold viewB at hR
 generalize decide (vdot (vv s.look) (vv s.look) = 1) = b0 at *
 generalize decide (1 ≤ s.w) = b1 at *
 generalize decide (s.w ≤ 16) = b2 at *
 generalize decide (1 ≤ s.h) = b3 at *
 generalize decide (s.h ≤ 16) = b4 at *
 generalize decide (0 < rv s.half) = b5 at *
 generalize Ψ .sI (rv s.half) = sh at *
 generalize Ψ .cr (vdot (vv s.look) (vv s.look)) = dd at *
 generalize Ψ .cr 1 = N1 at *
 clear qd hD hs h2
 cases b0 with
 | false => simp only [Bool.false_and, if_true] at hR; subst hR; exact rq trivial
 | true =>
 cases b1 with
 | false => simp only [Bool.false_and, Bool.and_false, if_true] at hR; subst hR; exact rq trivial
 | true =>
 cases b2 with
 | false => simp only [Bool.false_and, Bool.and_false, if_true] at hR; subst hR; exact rq trivial
 | true =>
 cases b3 with
 | false => simp only [Bool.false_and, Bool.and_false, if_true] at hR; subst hR; exact rq trivial
 | true =>
 cases b4 with
 | false => simp only [Bool.false_and, Bool.and_false, if_true] at hR; subst hR; exact rq trivial
 | true =>
 cases b5 with
 | false => simp only [Bool.false_and, Bool.and_false, if_true] at hR; subst hR; exact rq trivial
 | true =>
  simp only [Bool.and_true, Bool.true_eq_false, if_false] at hR
  subst hR
  exact rq trivial
end Go.K.S
end
section
namespace Go.K
open Go
def nums3 (v : VL) : List RL := [v.x, v.y, v.z]
def allM (m : MatL) : List RL := m.vals ++ [m.a, m.b]
def allF (f : FaceL) : List RL := [f.tri.a.x, f.tri.a.y, f.tri.a.z, f.tri.b.x, f.tri.b.y, f.tri.b.z, f.tri.c.x, f.tri.c.y, f.tri.c.z]
def all1 (s : ScL) (i : Nat) : List RL := s.waves ++ [s.eye.x, s.eye.y, s.eye.z, s.look.x, s.look.y, s.look.z, s.half] ++ (s.mats.take i).flatMap allM
def all2 (s : ScL) (i : Nat) : List RL := all1 s s.mats.length ++ (s.faces.take i).flatMap allF
def allL (s : ScL) : List RL := all2 s s.faces.length
theorem cells_l {l : List D} {n : Nat} (h : l.all (fun u => Nat.beq u.cells.length n) = true) : ∀ u ∈ l, u.cells.length = n := fun u hu => Nat.eq_of_beq_eq_true (List.all_eq_true.1 h u hu)
theorem all1_succ {s : ScL} {i : Nat} {m : MatL} (h : s.mats[i]? = some m) : all1 s (i + 1) = all1 s i ++ m.vals ++ [m.a, m.b] := by
 unfold all1
 rw [take_succ_of h, List.flatMap_append]
 simp [allM, List.append_assoc]
theorem all2_succ {s : ScL} {i : Nat} {f : FaceL} (h : s.faces[i]? = some f) : all2 s (i + 1) = all2 s i ++ allF f := by
 unfold all2
 rw [take_succ_of h, List.flatMap_append]
 simp [List.append_assoc]
theorem all1_len {s : ScL} {k : Nat} (h : ∀ m, m ∈ s.mats → m.vals.length ≤ k) (i : Nat) (hi : i ≤ s.mats.length) : (all1 s i).length ≤ s.waves.length + 7 + i * (k + 2) := by
 induction i with
 | zero => simp [all1]
 | succ i ih =>
  obtain ⟨m, hm⟩ : ∃ m, s.mats[i]? = some m := ⟨_, List.getElem?_eq_getElem (by omega)⟩
  have h1 := h m (List.mem_of_getElem? hm)
  have := ih (by omega)
  rw [all1_succ hm, List.length_append, List.length_append, Nat.add_mul]
  simp only [List.length_cons, List.length_nil]
  omega
theorem all2_len {s : ScL} {n : Nat} (h : (all1 s s.mats.length).length ≤ n) (i : Nat) (hi : i ≤ s.faces.length) : (all2 s i).length ≤ n + i * 9 := by
 induction i with
 | zero => simp [all2]; omega
 | succ i ih =>
  obtain ⟨m, hm⟩ : ∃ m, s.faces[i]? = some m := ⟨_, List.getElem?_eq_getElem (by omega)⟩
  have := ih (by omega)
  rw [all2_succ hm, List.length_append]
  simp only [allF, List.length_cons, List.length_nil]
  omega
theorem allL_fit (s : ScL) : (allL s).all fitR = sizesS s := by
 unfold allL all2 all1 sizesS
 rw [List.take_length, List.take_length]
 simp only [List.all_append, List.all_flatMap]
 have e1 : (fun m => (allM m).all fitR) = fitM := by
  funext m
  simp [allM, fitM, List.all_append]
 have e2 : (fun m => (allF m).all fitR) = fitF := by
  funext m
  simp [allF, fitF, fitV, Bool.and_assoc]
 rw [e1, e2]
 simp [fitV, Bool.and_assoc]
theorem allL_n {s : ScL} {k : Nat} (h : Scn k s) : ∀ r, r ∈ allL s → Rn k r := by
 intro r hr
 unfold allL all2 all1 at hr
 rw [List.take_length, List.take_length] at hr
 simp only [List.mem_append, List.mem_flatMap, List.mem_cons, List.not_mem_nil, or_false] at hr
 rcases hr with ((hr | hr) | ⟨m, hm, hr⟩) | ⟨f, hf, hr⟩
 ·exact h.wv r hr
 ·rcases hr with rfl | rfl | rfl | rfl | rfl | rfl | rfl
  ·exact h.e.x
  ·exact h.e.y
  ·exact h.e.z
  ·exact h.l.x
  ·exact h.l.y
  ·exact h.l.z
  ·exact h.hf
 ·have := h.mv m hm
  simp only [allM, List.mem_append, List.mem_cons, List.not_mem_nil, or_false] at hr
  rcases hr with hr | rfl | rfl
  ·exact this.v r hr
  ·exact this.a
  ·exact this.b
 ·have := (h.fv f hf).t
  simp only [allF, List.mem_cons, List.not_mem_nil, or_false] at hr
  rcases hr with rfl | rfl | rfl | rfl | rfl | rfl | rfl | rfl | rfl
  ·exact this.a.x
  ·exact this.a.y
  ·exact this.a.z
  ·exact this.b.x
  ·exact this.b.y
  ·exact this.b.z
  ·exact this.c.x
  ·exact this.c.y
  ·exact this.c.z
end Go.K
namespace Go.K.S
open Go Go.K
theorem all9_good (s : ScL) {MD FD : List D} (hD : ScD s MD FD) {k : Nat} (hv : ∀ m, m ∈ s.mats → m.vals.length ≤ k) (hk : k < 134217728) (h1 : s.waves.length ≤ 8) (h2 : s.mats.length ≤ 32) (h3 : s.faces.length ≤ 64) :
  Good P F.penumbraref09_all [.d (.agg (dSc Ψ MD FD s))] [] (.d (.sl (Ψ .dRs (allL s)))) [] := by
 refine G.penumbraref09_all fun C C2 hC hC2 => ?_
 have hml := hD.ml
 have hfl := hD.fl
 have b1 := all1_len hv
 have b1' : ∀ i, i ≤ s.mats.length → (all1 s i).length ≤ 15 + 32 * 134217730 := fun i hi => by
  have := b1 i hi
  have h4 : i * (k + 2) ≤ 32 * 134217730 := Nat.mul_le_mul (by omega) (by omega)
  omega
 have b2 := all2_len (b1' s.mats.length (Nat.le_refl _))
 have hm : ∀ i, i < s.mats.length → ∃ m, Ω .sget MD i = some (.agg (dMat Ψ m)) ∧ m.vals.length ≤ k ∧ Ω .scat (Ω .scat (Ψ .dRs (all1 s i)) (Ψ .dRs m.vals)) [.agg (dR Ψ m.a), .agg (dR Ψ m.b)] = Ψ .dRs (all1 s (i + 1)) := fun i hi => by
  obtain ⟨m, hm⟩ : ∃ m, s.mats[i]? = some m := ⟨_, List.getElem?_eq_getElem hi⟩
  refine ⟨m, hD.m i m hm, hv m (List.mem_of_getElem? hm), ?_⟩
  rw [all1_succ hm, scat_dRs, ← scat_dRs (all1 s i ++ m.vals) [m.a, m.b]]; rfl
 have hf : ∀ i, i < s.faces.length → ∃ f, Ω .sget FD i = some (.agg (dFace Ψ f)) ∧ Ω .scat (Ψ .dRs (all2 s i)) ((allF f).map fun r => .agg (dR Ψ r)) = Ψ .dRs (all2 s (i + 1)) := fun i hi => by
  obtain ⟨f, hf⟩ : ∃ m, s.faces[i]? = some m := ⟨_, List.getElem?_eq_getElem hi⟩
  refine ⟨f, hD.f i f hf, ?_⟩
  rw [all2_succ hf, ← scat_dRs]; rfl
 have e0 : Ω .scat (Ω .scat [] (Ψ .dRs s.waves)) [.agg (dR Ψ s.eye.x), .agg (dR Ψ s.eye.y), .agg (dR Ψ s.eye.z), .agg (dR Ψ s.look.x), .agg (dR Ψ s.look.y), .agg (dR Ψ s.look.z), .agg (dR Ψ s.half)] = Ψ .dRs (all1 s 0) := by
  rw [show (Ω .scat [] (Ψ .dRs s.waves)) = Ψ .dRs s.waves from rfl]
  have : all1 s 0 = s.waves ++ [s.eye.x, s.eye.y, s.eye.z, s.look.x, s.look.y, s.look.z, s.half] := by simp [all1]
  rw [this, ← scat_dRs]; rfl
 have e1 : all2 s 0 = all1 s s.mats.length := by simp [all2]
 have e2 : all2 s s.faces.length = allL s := rfl
 rw [← e2]
 clear e2 hD b1
 generalize all1 s = L1 at *
 generalize all2 s = L2 at *
 generalize s.mats.length = nm at *
 generalize s.faces.length = nf at *
 refine rq ?_
 refine ⟨cells_l rfl, (by simp only [wz, slen_scat]; omega), ?_⟩
 refine LoopG.intro (σ := Nat) [1, 3, 4] [1050, 1051] (fun i => [.ptr 1050 0, .own 1051 3, .d (.i .i64 (Ω .ci i))]) (fun i => [.var ((dSc Ψ MD FD s).map V.d), .row true T.api_Rat 3 (Ψ .dRs (L1 i))]) (fun i => i ≤ nm) (fun i => nm - i) 0 [1000, 1229]
  (Nat.zero_le _) ⟨rfl, rfl, (by rw [← e0]; rfl)⟩ ?_
 intro i hi
 have hw := wrap_succ (n := i) (by omega)
 rcases Nat.lt_or_ge i nm with hlt | hge
 ·obtain ⟨m, h4, h5, h6⟩ := hm i hlt
  have q0 : Ω .lt (Ω .ci i) (Ω .ci (Ω .slen MD)) = true := by rw [hml]; simp only [wz]; omega
  have hb := b1' i hi
  clear hm hf b1' b2 e0 hml hfl
  refine rq ?_
  refine ⟨cells_l rfl, (by simp only [wz, slen_scat]; omega), ?_⟩
  refine ⟨i + 1, [1050, 1714], hlt, by omega, rfl, ?_, (by rw [← h6]; rfl)⟩
  refine Eq.trans (b := [.ptr 1050 0, .own 1051 3, .d (.i .i64 _)]) rfl ?_
  rw [hw]
 ·obtain rfl : i = nm := by omega
  have q0 : Ω .lt (Ω .ci i) (Ω .ci (Ω .slen MD)) = false := by rw [hml]; simp only [wz]; omega
  clear hm b1' e0
  refine rq ?_
  refine LoopG.intro (σ := Nat) [1, 3, 5] [1050, 1051] (fun j => [.ptr 1050 0, .own 1051 3, .d (.i .i64 (Ω .ci j))]) (fun j => [.var ((dSc Ψ MD FD s).map V.d), .row true T.api_Rat 3 (Ψ .dRs (L2 j))]) (fun j => j ≤ nf) (fun j => nf - j) 0 [1050, 1051]
   (Nat.zero_le _) ⟨rfl, rfl, (by rw [e1]; rfl)⟩ ?_
  intro j hj
  have hw' := wrap_succ (n := j) (by omega)
  rcases Nat.lt_or_ge j nf with hlt | hge
  ·obtain ⟨f, h4, h6⟩ := hf j hlt
   have q0' : Ω .lt (Ω .ci j) (Ω .ci (Ω .slen FD)) = true := by rw [hfl]; simp only [wz]; omega
   have hb := b2 j hj
   clear hf b2 hml hfl
   refine rq ?_
   refine ⟨cells_l rfl, (by simp only [wz, slen_scat]; omega), ?_⟩
   refine ⟨j + 1, [1050, 2238], hlt, by omega, rfl, ?_, (by rw [← h6]; rfl)⟩
   refine Eq.trans (b := [.ptr 1050 0, .own 1051 3, .d (.i .i64 _)]) rfl ?_
   rw [hw']
  ·obtain rfl : j = nf := by omega
   have q0' : Ω .lt (Ω .ci j) (Ω .ci (Ω .slen FD)) = false := by rw [hfl]; simp only [wz]; omega
   exact rq trivial
end Go.K.S
end
section
namespace Go.K
open Go
def ofB (l : List Nat) : ByteArray := ⟨(l.map UInt8.ofNat).toArray⟩
theorem byt_ofB {l : List Nat} (h : ∀ c, c ∈ l → c < 256) : byt (ofB l) = l := by
 unfold byt ofB
 simp only [List.map_map]
 rw [List.map_congr_left (g := id)]
 ·simp
 ·intro c hc
  have := h c hc
  simp
  omega
theorem byt_mem {B : ByteArray} {c : Nat} (h : c ∈ byt B) : c < 256 := by
 obtain ⟨k, hk⟩ := List.getElem?_of_mem h
 exact byt_lt hk
theorem ofB_byt (B : ByteArray) : ofB (byt B) = B := byt_inj (byt_ofB fun c h => byt_mem h)
theorem eq_ofB {B : ByteArray} {l : List Nat} (h : byt B = l) : B = ofB l := by rw [← h, ofB_byt]
def linesB : List Nat → List Nat → List (List Nat)
 | [], acc => [acc]
 | c :: l, acc => if c = 10 then acc :: linesB l [] else linesB l (acc ++ [c])
def blankB (c : Nat) : Bool := decide (c = 9) || (decide (c = 13) || decide (c = 32))
def wordsB : List Nat → List Nat → List (List Nat)
 | [], acc => if acc = [] then [] else [acc]
 | c :: l, acc => if c = 35 then (if acc = [] then [] else [acc]) else if blankB c then (if acc = [] then wordsB l [] else acc :: wordsB l []) else wordsB l (acc ++ [c])
def strsD (l : List (List Nat)) : List D := l.map fun x => .s (ofB x)
theorem strsD_snoc (l : List (List Nat)) (x : List Nat) : Ω .scat (strsD l) [.s (ofB x)] = strsD (l ++ [x]) := by simp [strsD, w_scat]
theorem slen_strsD (l : List (List Nat)) : Ω .slen (strsD l) = l.length := by simp [strsD, w_slen]
theorem sget_strsD {l : List (List Nat)} {i : Nat} {x : List Nat} (h : l[i]? = some x) : Ω .sget (strsD l) i = some (.s (ofB x)) := by simp [strsD, w_sget, h]
theorem drop_cons {α : Type} {l : List α} {i : Nat} {c : α} (h : l[i]? = some c) : l.drop i = c :: l.drop (i + 1) := by
 have hi : i < l.length := (List.getElem?_eq_some_iff.1 h).1
 rw [List.drop_eq_getElem_cons hi]
 congr 1
 exact (List.getElem?_eq_some_iff.1 h).2
theorem ext_snoc {l : List Nat} {f i c : Nat} (h : l[i]? = some c) (hf : f ≤ i) : ((l.drop f).take (i - f)) ++ [c] = (l.drop f).take (i + 1 - f) := by
 rw [show i + 1 - f = i - f + 1 by omega, List.take_add_one, List.getElem?_drop, show f + (i - f) = i by omega, h]; rfl
end Go.K
namespace Go.K.S
open Go Go.K
theorem lines9_good (B : ByteArray) (hl : (byt B).length < 1000000) : Good P F.penumbraref09_Lines [.d (.s B)] [] (.d (.sl (strsD (linesB (byt B) [])))) [] := by
 refine G.penumbraref09_Lines fun C C2 hC hC2 => ?_
 have hz := bsz_byt B
 have hg := bget_byt B
 have he := fun i j => byt_bext B i j
 obtain ⟨l, hlB⟩ : ∃ l, l = byt B := ⟨_, rfl⟩
 rw [← hlB] at hz hg he hl ⊢
 have ho : ∀ f i, Ω .bext B f i = ofB ((l.drop f).take (i - f)) := fun f i => eq_ofB (he f i)
 clear hlB he
 have hsn := strsD_snoc
 have hsl := slen_strsD
 have hs0 : strsD [] = [] := rfl
 generalize strsD = SD at *
 obtain ⟨R, hR⟩ : ∃ R, R = linesB l [] := ⟨_, rfl⟩
 rw [← hR]
 refine rs ?_
 refine LoopG.intro (σ := List (List Nat) × Nat × Nat) [0, 3, 4, 5] [1050] (fun s => [.d (.s B), .own 1050 1, .d (.i .i64 (Ω .ci s.2.1)), .d (.i .i64 (Ω .ci s.2.2))]) (fun s => [.row true T.string 1 (SD s.1)])
  (fun s => s.2.1 ≤ s.2.2 ∧ s.2.2 ≤ l.length ∧ s.1.length ≤ s.2.2 ∧ s.1 ++ linesB (l.drop s.2.2) ((l.drop s.2.1).take (s.2.2 - s.2.1)) = R) (fun s => l.length - s.2.2) ([], 0, 0) [1100] ⟨Nat.le_refl _, Nat.zero_le _, Nat.le_refl _, by simp [hR]⟩ ⟨rfl, rfl, (by rw [hs0]; rfl)⟩ ?_
 rintro ⟨out, f, i⟩ ⟨h1, h2, h3, h4⟩
 simp only at h1 h2 h3 h4
 have hw := wrap_succ (n := i) (by omega)
 have hlo := hsl out
 have hx := hsn out ((l.drop f).take (i - f))
 rcases Nat.lt_or_ge i l.length with hlt | hge
 ·obtain ⟨c, hc⟩ : ∃ c, l[i]? = some c := ⟨_, List.getElem?_eq_getElem hlt⟩
  have hgc : Ω .bget B i = some c := by rw [hg, hc]
  have q0 : Ω .lt (Ω .ci i) (Ω .ci (Ω .bsz B)) = true := by rw [hz]; simp only [wz]; omega
  rw [drop_cons hc, linesB] at h4
  by_cases h10 : c = 10
  ·have q1 : Ω .eq (Ω .ci c) 10 = true := eq_true'.2 (by rw [w_ci]; omega)
   rw [if_pos h10] at h4
   refine rs ?_
   rw [hw]
   refine ⟨(out ++ [(l.drop f).take (i - f)], i + 1, i + 1), [1706], ⟨Nat.le_refl _, hlt, by simp only [List.length_append, List.length_cons, List.length_nil]; omega, ?_⟩, by simp only; omega, rfl, rfl, (by simp only; rw [← hx, ← ho]; rfl)⟩
   simp only
   rw [← h4, List.append_assoc, Nat.sub_self, List.take_zero]; rfl
  ·have q1 : Ω .eq (Ω .ci c) 10 = false := eq_false'.2 (by rw [w_ci]; omega)
   rw [if_neg h10, ext_snoc hc h1] at h4
   refine rs ?_
   rw [hw]
   exact ⟨(out, f, i + 1), [1050], ⟨by simp only; omega, hlt, by simp only; omega, h4⟩, by simp only; omega, rfl, rfl, rfl⟩
 ·obtain rfl : i = l.length := by omega
  have q0 : Ω .lt (Ω .ci l.length) (Ω .ci (Ω .bsz B)) = false := by rw [hz]; simp only [wz]; omega
  rw [List.drop_length, linesB] at h4
  have hoE : Ω .bext B f (Ω .bsz B) = ofB ((l.drop f).take (l.length - f)) := by rw [hz]; exact ho f l.length
  rw [← h4, ← hx, ← hoE]
  exact rs trivial
theorem words9_good (B : ByteArray) (hl : (byt B).length < 1000000) : Good P F.penumbraref09_Words [.d (.s B)] [] (.d (.sl (strsD (wordsB (byt B) [])))) [] := by
 refine G.penumbraref09_Words fun C C2 hC hC2 => ?_
 have hz := bsz_byt B
 have hg := bget_byt B
 have he := fun i j => byt_bext B i j
 have hb256 : ∀ c, c ∈ byt B → c < 256 := fun c h => byt_mem h
 obtain ⟨l, hlB⟩ : ∃ l, l = byt B := ⟨_, rfl⟩
 rw [← hlB] at hz hg he hl hb256 ⊢
 have hcat : ∀ (acc : List Nat) (i c : Nat), (∀ x, x ∈ acc → x < 256) → l[i]? = some c → Ω .bcat (ofB acc) (Ω .bext B i (i + 1)) = ofB (acc ++ [c]) := fun acc i c ha hc => by
  refine eq_ofB ?_
  rw [byt_bcat, byt_ofB ha, he, drop_cons hc, show i + 1 - i = 1 by omega]; rfl
 have hsz : ∀ (acc : List Nat), (∀ x, x ∈ acc → x < 256) → Ω .bsz (ofB acc) = acc.length := fun acc ha => by rw [bsz_byt, byt_ofB ha]
 have hne : ∀ (acc : List Nat), (∀ x, x ∈ acc → x < 256) → Ω .bnes (ofB acc) ⟨#[]⟩ = !decide (acc = []) := fun acc ha => by rw [bnes_byt, byt_ofB ha]; rfl
 have hbz : ∀ i, i < l.length → Ω .bsz (Ω .bext B i (i + 1)) = 1 := fun i hi => by
  rw [bsz_byt, he, List.length_take, List.length_drop]; omega
 clear hlB he
 have hsn := strsD_snoc
 have hsl := slen_strsD
 have hs0 : strsD [] = [] := rfl
 have ho0 : ofB [] = ⟨#[]⟩ := rfl
 generalize strsD = SD at *
 generalize ofB = OB at *
 obtain ⟨R, hR⟩ : ∃ R, R = wordsB l [] := ⟨_, rfl⟩
 rw [← hR]
 have hfin : ∀ (out : List (List Nat)) (acc : List Nat), out ++ (if acc = [] then [] else [acc]) = R → acc = [] ∧ out = R ∨ acc ≠ [] ∧ out ++ [acc] = R := fun out acc h => by
  by_cases c : acc = []
  ·rw [if_pos c, List.append_nil] at h; exact .inl ⟨c, h⟩
  ·rw [if_neg c] at h; exact .inr ⟨c, h⟩
 refine rs ?_
 refine LoopG.intro (σ := List (List Nat) × List Nat × Nat) [0, 3, 4, 5] [1050] (fun s => [.d (.s B), .own 1050 1, .d (.s (OB s.2.1)), .d (.i .i64 (Ω .ci s.2.2))]) (fun s => [.row true T.string 1 (SD s.1)])
  (fun s => s.2.2 ≤ l.length ∧ s.1.length ≤ s.2.2 ∧ s.2.1.length ≤ s.2.2 ∧ (∀ x, x ∈ s.2.1 → x < 256) ∧ s.1 ++ wordsB (l.drop s.2.2) s.2.1 = R) (fun s => l.length - s.2.2) ([], [], 0) [1100]
   ⟨Nat.zero_le _, Nat.le_refl _, Nat.le_refl _, fun x h => (nomatch h), by simp [hR]⟩ ⟨rfl, (by simp only [ho0]; rfl), (by rw [hs0]; rfl)⟩ ?_
 rintro ⟨out, acc, i⟩ ⟨h1, h2, h2', h3, h4⟩
 simp only at h1 h2 h2' h3 h4
 have hw := wrap_succ (n := i) (by omega)
 have hlo := hsl out
 have hx := hsn out acc
 have hn := hne acc h3
 rcases Nat.lt_or_ge i l.length with hlt | hge
 ·obtain ⟨c, hc⟩ : ∃ c, l[i]? = some c := ⟨_, List.getElem?_eq_getElem hlt⟩
  have hgc : Ω .bget B i = some c := by rw [hg, hc]
  have q0 : Ω .lt (Ω .ci i) (Ω .ci (Ω .bsz B)) = true := by rw [hz]; simp only [wz]; omega
  rw [drop_cons hc, wordsB] at h4
  by_cases h35 : c = 35
  ·have q1 : Ω .ne (Ω .ci c) 35 = false := ne_false'.2 (by rw [w_ci]; omega)
   rw [if_pos h35] at h4
   rcases hfin out acc h4 with ⟨a1, a2⟩ | ⟨a1, a2⟩
   ·have qn : Ω .bnes (OB acc) ⟨#[]⟩ = false := by rw [hn, decide_eq_true a1]; rfl
    rw [← a2]
    exact rs trivial
   ·have qn : Ω .bnes (OB acc) ⟨#[]⟩ = true := by rw [hn, decide_eq_false a1]; rfl
    rw [← a2, ← hx]
    exact rs trivial
  have q1 : Ω .ne (Ω .ci c) 35 = true := ne_true'.2 (by rw [w_ci]; omega)
  rw [if_neg h35] at h4
  have b1 : Ω .eq (Ω .ci c) 9 = decide (c = 9) := by rw [q_eq, w_ci]; exact decide_eq_decide.2 (by omega)
  have b2 : Ω .eq (Ω .ci c) 13 = decide (c = 13) := by rw [q_eq, w_ci]; exact decide_eq_decide.2 (by omega)
  have b3 : Ω .eq (Ω .ci c) 32 = decide (c = 32) := by rw [q_eq, w_ci]; exact decide_eq_decide.2 (by omega)
  by_cases hb : blankB c = true
  ·rw [if_pos hb] at h4
   have hnext : ∃ out', (acc = [] ∧ out' = out ∨ acc ≠ [] ∧ out' = out ++ [acc]) ∧ out' ++ wordsB (l.drop (i + 1)) [] = R := by
    by_cases ca : acc = []
    ·rw [if_pos ca] at h4; exact ⟨out, .inl ⟨ca, rfl⟩, h4⟩
    ·rw [if_neg ca] at h4; exact ⟨out ++ [acc], .inr ⟨ca, rfl⟩, by rw [List.append_assoc]; exact h4⟩
   obtain ⟨out', ho', hR'⟩ := hnext
   unfold blankB at hb
   generalize decide (c = 9) = t1 at *
   generalize decide (c = 13) = t2 at *
   generalize decide (c = 32) = t3 at *
   rcases ho' with ⟨a1, a2⟩ | ⟨a1, a2⟩
   ·have qn : Ω .bnes (OB acc) ⟨#[]⟩ = false := by rw [hn, decide_eq_true a1]; rfl
    subst a2
    have fin : ∀ s : Unit, True := fun _ => trivial
    cases t1 with
    | true =>
     refine rs ?_
     rw [hw]
     exact ⟨(out', [], i + 1), [1050], ⟨hlt, by simp only; omega, Nat.zero_le _, fun x h => (nomatch h), hR'⟩, by simp only; omega, rfl, (by simp only [ho0]; rfl), rfl⟩
    | false =>
     cases t2 with
     | true =>
      refine rs ?_
      rw [hw]
      exact ⟨(out', [], i + 1), [1050], ⟨hlt, by simp only; omega, Nat.zero_le _, fun x h => (nomatch h), hR'⟩, by simp only; omega, rfl, (by simp only [ho0]; rfl), rfl⟩
     | false =>
      cases t3 with
      | false => exact nomatch hb
      | true =>
       refine rs ?_
       rw [hw]
       exact ⟨(out', [], i + 1), [1050], ⟨hlt, by simp only; omega, Nat.zero_le _, fun x h => (nomatch h), hR'⟩, by simp only; omega, rfl, (by simp only [ho0]; rfl), rfl⟩
   ·have qn : Ω .bnes (OB acc) ⟨#[]⟩ = true := by rw [hn, decide_eq_false a1]; rfl
    subst a2
    have hlo2 : (out ++ [acc]).length = out.length + 1 := by rw [List.length_append]; rfl
    cases t1 with
    | true =>
     refine rs ?_
     rw [hw]
     exact ⟨(out ++ [acc], [], i + 1), [1803], ⟨hlt, by simp only; omega, Nat.zero_le _, fun x h => (nomatch h), hR'⟩, by simp only; omega, rfl, (by simp only [ho0]; rfl), (by simp only; rw [← hx]; rfl)⟩
    | false =>
     cases t2 with
     | true =>
      refine rs ?_
      rw [hw]
      exact ⟨(out ++ [acc], [], i + 1), [1803], ⟨hlt, by simp only; omega, Nat.zero_le _, fun x h => (nomatch h), hR'⟩, by simp only; omega, rfl, (by simp only [ho0]; rfl), (by simp only; rw [← hx]; rfl)⟩
     | false =>
      cases t3 with
      | false => exact nomatch hb
      | true =>
       refine rs ?_
       rw [hw]
       exact ⟨(out ++ [acc], [], i + 1), [1803], ⟨hlt, by simp only; omega, Nat.zero_le _, fun x h => (nomatch h), hR'⟩, by simp only; omega, rfl, (by simp only [ho0]; rfl), (by simp only; rw [← hx]; rfl)⟩
  ·rw [if_neg hb] at h4
   unfold blankB at hb
   have d1 : c ≠ 9 := fun e => hb (by simp [e])
   have d2 : c ≠ 13 := fun e => hb (by simp [e])
   have d3 : c ≠ 32 := fun e => hb (by simp [e])
   rw [decide_eq_false d1] at b1
   rw [decide_eq_false d2] at b2
   rw [decide_eq_false d3] at b3
   have hcc := hcat acc i c h3 hc
   have hz1 := hsz acc h3
   have hz2 := hbz i hlt
   refine rs ?_
   rw [hw]
   refine rs ?_
   refine ⟨(out, acc ++ [c], i + 1), [1050], ⟨hlt, by simp only; omega, by simp only [List.length_append, List.length_cons, List.length_nil]; omega, fun x h => ?_, h4⟩, by simp only; omega, rfl, (by simp only; rw [← hcc]; rfl), rfl⟩
   simp only [List.mem_append, List.mem_singleton] at h
   rcases h with h | rfl
   ·exact h3 x h
   ·exact hb256 _ (List.mem_of_getElem? hc)
 ·obtain rfl : i = l.length := by omega
  have q0 : Ω .lt (Ω .ci l.length) (Ω .ci (Ω .bsz B)) = false := by rw [hz]; simp only [wz]; omega
  rw [List.drop_length, wordsB] at h4
  rcases hfin out acc h4 with ⟨a1, a2⟩ | ⟨a1, a2⟩
  ·have qn : Ω .bnes (OB acc) ⟨#[]⟩ = false := by rw [hn, decide_eq_true a1]; rfl
   rw [← a2]
   exact rs trivial
  ·have qn : Ω .bnes (OB acc) ⟨#[]⟩ = true := by rw [hn, decide_eq_false a1]; rfl
   rw [← a2, ← hx]
   exact rs trivial
end Go.K.S
end
section
namespace Go.K
open Go
def parseS (l : List Nat) : Option Rat :=
 let neg := decide (l.head? = some 45)
 let s := if neg then l.drop 1 else l
 let n := digS s
 if n = 0 then none
 else if n = s.length then some (mkRat (sg neg (numS (s.take n))) 1)
 else if s[n]? = some 47 ∧ digS (s.drop (n + 1)) ≠ 0 ∧ n + 1 + digS (s.drop (n + 1)) = s.length ∧ numS (s.drop (n + 1)) ≠ 0 then some (mkRat (sg neg (numS (s.take n))) (numS (s.drop (n + 1))))
 else none
theorem digS_take (l : List Nat) : l.take (digS l) = l.takeWhile isDig := by
 unfold digS
 exact List.prefix_iff_eq_take.1 (List.takeWhile_prefix isDig) |>.symm
theorem digS_le (l : List Nat) : digS l ≤ l.length := by
 unfold digS
 exact (List.takeWhile_prefix isDig).length_le
theorem dig_of {l : List Nat} {c : Nat} (h : c ∈ l.take (digS l)) : 48 ≤ c ∧ c ≤ 57 := by
 rw [digS_take] at h
 have : isDig c = true := by
  have := List.all_takeWhile (p := isDig) (l := l)
  exact List.all_eq_true.1 this c h
 unfold isDig at this
 simpa using this
end Go.K
namespace Go.K.S
open Go Go.K
theorem pnum {B : ByteArray} {l : List Nat} (hb : byt B = l) (hl : l.length ≤ 20000) :
  Good P F.penumbraref04_Digits [.d (.s B)] [] (.d (.i .i64 (Ω .ci (digS l)))) [] ∧ Good P F.penumbraref04_Number [.d (.s (Ω .bext B 0 (digS l)))] [] (.d (dN Ψ (Ψ .cn (numS (l.take (digS l)))))) [] := by
 subst hb
 refine ⟨digits4_good B (by omega), ?_⟩
 have e : byt (Ω .bext B 0 (digS (byt B))) = (byt B).take (digS (byt B)) := by rw [byt_bext, List.drop_zero, Nat.sub_zero]
 have := number4_good (Ω .bext B 0 (digS (byt B))) (by rw [e, List.length_take]; omega) (fun c hc => by rw [e] at hc; exact dig_of hc)
 rw [e] at this
 exact this
theorem read_frac (neg : Bool) (n d : Nat) {k : Nat} (hn : n < 4294967296 ^ k) (hd : d < 4294967296 ^ k) (hk : k < 1000000) :
  Good P F.penumbraref03_Read [.d (.agg (dR Ψ ⟨neg, Ψ .cn n, Ψ .cn d⟩))] [] (.d (.agg (dR Ψ (Ψ .cr (mkRat (sg neg n) d))))) [] := by
 have := read3_good ⟨neg, Ψ .cn n, Ψ .cn d⟩ (k := k) ⟨lim_cn _, lim_cn _, len_cn.2 hn, len_cn.2 hd⟩ (by omega)
 rw [rv_mk, nv_cn, nv_cn] at this
 exact this
theorem parse4_good (B : ByteArray) {q : Rat} (h : parseS (byt B) = some q) (hl : (byt B).length ≤ 20000) : Good P F.penumbraref04_Parse [.d (.s B)] [] (.tup [.d (.agg (dR Ψ (Ψ .cr q))), .d (.i .i64 0)]) [] := by
 refine G.penumbraref04_Parse fun C C2 hC hC2 => ?_
 have hz := bsz_byt B
 have q0 : Ω .lt 20000 (Ω .ci (Ω .bsz B)) = false := by rw [hz]; simp only [wz]; omega
 obtain ⟨c0, hc0⟩ : ∃ c, (byt B)[0]? = some c := by
  cases hb : byt B with
  | nil => rw [hb] at h; exact absurd h (fun c => nomatch (show (none : Option Rat) = some q from c))
  | cons a l => exact ⟨a, rfl⟩
 have hlen : 0 < (byt B).length := (List.getElem?_eq_some_iff.1 hc0).1
 have q1 : Ω .lt 0 (Ω .ci (Ω .bsz B)) = true := by rw [hz]; simp only [wz]; omega
 have hg0 : Ω .bget B 0 = some c0 := by rw [bget_byt]; exact hc0
 have hhead : (byt B).head? = some c0 := by rw [List.head?_eq_getElem?]; exact hc0
 have qn : Ω .eq (Ω .ci c0) 45 = decide (c0 = 45) := by rw [q_eq, w_ci]; exact decide_eq_decide.2 (by omega)
 unfold parseS at h
 rw [hhead] at h
 have hdn : decide (some c0 = some 45) = decide (c0 = 45) := decide_eq_decide.2 (by simp)
 rw [hdn] at h
 obtain ⟨B', hB'⟩ : ∃ B', B' = if decide (c0 = 45) then Ω .bext B 1 (Ω .bsz B) else B := ⟨_, rfl⟩
 obtain ⟨s, hs⟩ : ∃ s, s = if decide (c0 = 45) then (byt B).drop 1 else byt B := ⟨_, rfl⟩
 have hbs : byt B' = s := by
  rw [hB', hs]
  by_cases hc : c0 = 45
  ·rw [decide_eq_true hc, if_pos rfl, if_pos rfl, byt_bext, hz]
   exact List.take_of_length_le (by rw [List.length_drop]; omega)
  ·rw [decide_eq_false hc]; rfl
 have hsl : s.length ≤ 20000 := by rw [hs]; split <;> (try rw [List.length_drop]) <;> omega
 simp only at h
 rw [← hs] at h
 clear hs hdn hhead hc0
 have hz' := bsz_byt B'
 rw [hbs] at hz'
 have hle := digS_le s
 obtain ⟨g1, g2⟩ := pnum hbs hsl
 have g3 := zero3_good
 by_cases hn0 : digS s = 0
 ·rw [if_pos hn0] at h; cases h
 rw [if_neg hn0] at h
 have q2 : Ω .eq (Ω .ci (digS s)) 0 = false := by simp only [wz]; omega
 obtain ⟨m, hm, hm2⟩ : ∃ m, 20001 ≤ m ∧ m ≤ 20002 := ⟨20001, by omega, by omega⟩
 have hb1 : numS (s.take (digS s)) < 4294967296 ^ m := Nat.lt_of_lt_of_le (numS_lt fun c hc => (dig_of hc).2) (B_mono (by rw [List.length_take]; omega))
 by_cases hn1 : digS s = s.length
 ·rw [if_pos hn1] at h
  cases h
  have q3 : Ω .lt (Ω .ci (digS s)) (Ω .ci (Ω .bsz B')) = false := by rw [hz']; simp only [wz]; omega
  have gz := zero1_good [1] N_one
  rw [show decide (nv [1] = 0) = false from by simp] at gz
  have gr := read_frac (decide (c0 = 45)) (numS (s.take (digS s))) 1 hb1 (Nat.one_lt_pow (by omega) (by omega)) (by omega)
  rw [show Ψ .cn 1 = [1] from cn_one] at gr
  clear hb1 hm hm2
  generalize numS (s.take (digS s)) = num at *
  generalize Ψ .cr (mkRat (sg (decide (c0 = 45)) num) 1) = Q at *
  generalize digS s = n at *
  generalize decide (c0 = 45) = neg at *
  cases neg with
  | false =>
   simp only [Bool.false_eq_true, if_false] at hB'
   subst hB'
   exact rs trivial
  | true =>
   simp only [if_true] at hB'
   have hG : Hid _ := ⟨And.intro g1 g2⟩
   clear g1 g2
   refine rs ?_
   rw [← hB']
   clear hB'
   obtain ⟨g1, g2⟩ := hG.out
   exact rs trivial
 ·rw [if_neg hn1] at h
  split at h
  ·rename_i hh
   obtain ⟨x1, x2, x3, x4⟩ := hh
   cases h
   have q3 : Ω .lt (Ω .ci (digS s)) (Ω .ci (Ω .bsz B')) = true := by rw [hz']; simp only [wz]; omega
   have hb2 : byt (Ω .bext B' (digS s + 1) (Ω .bsz B')) = s.drop (digS s + 1) := by
    rw [byt_bext, hbs, hz']
    exact List.take_of_length_le (by rw [List.length_drop]; omega)
   have hl2 : (s.drop (digS s + 1)).length ≤ 20000 := by rw [List.length_drop]; omega
   have hk : digS (s.drop (digS s + 1)) = (s.drop (digS s + 1)).length := by rw [List.length_drop]; omega
   have gd := digits4_good (Ω .bext B' (digS s + 1) (Ω .bsz B')) (by rw [hb2]; omega)
   rw [hb2] at gd
   have gn := number4_good (Ω .bext B' (digS s + 1) (Ω .bsz B')) (by rw [hb2]; omega) (fun c hc => by
    rw [hb2] at hc
    exact dig_of (by rw [hk, List.take_length]; exact hc))
   rw [hb2] at gn
   have hb3 : numS (s.drop (digS s + 1)) < 4294967296 ^ m := Nat.lt_of_lt_of_le (numS_lt fun c hc => (dig_of (by rw [hk, List.take_length]; exact hc)).2) (B_mono (by omega))
   have gz := zero1_good (Ψ .cn (numS (s.drop (digS s + 1)))) ⟨lim_cn _, by have := len_cn.2 hb3; omega⟩
   rw [nv_cn, decide_eq_false x4] at gz
   have gr := read_frac (decide (c0 = 45)) (numS (s.take (digS s))) (numS (s.drop (digS s + 1))) hb1 hb3 (by omega)
   have hg47 : Ω .bget B' (digS s) = some 47 := by rw [bget_byt, hbs]; exact x1
   have q4 : Ω .eq (Ω .ci (digS (s.drop (digS s + 1)))) 0 = false := by simp only [wz]; omega
   have w1 : Ω .wrap .i64 (Ω .ci (digS s) + 1) = Ω .ci (digS s + 1) := wrap_succ (by omega)
   have w2 : Ω .wrap .i64 (Ω .ci (digS s + 1) + Ω .ci (digS (s.drop (digS s + 1)))) = Ω .ci (digS s + 1 + digS (s.drop (digS s + 1))) := wrap_add (by omega)
   have q5 : Ω .lt (Ω .ci (digS s + 1 + digS (s.drop (digS s + 1)))) (Ω .ci (Ω .bsz B')) = false := by rw [hz']; simp only [wz]; omega
   have q6 : Ω .ne (Ω .ci 47) 46 = true := by simp only [wz]; omega
   have q7 : Ω .ne (Ω .ci 47) 47 = false := by simp only [wz]; omega
   have q8 : Ω .eq (Ω .ci 47) 47 = true := by simp only [wz]; omega
   have hsl9 : digS s + 1 ≤ s.length := by omega
   clear hb1 hb2 hb3 hm hm2 hk x1 x2 x4
   generalize digS (s.drop (digS s + 1)) = kk at *
   generalize numS (s.take (digS s)) = num at *
   generalize numS (s.drop (digS s + 1)) = den at *
   generalize Ψ .cr (mkRat (sg (decide (c0 = 45)) num) den) = Q at *
   generalize digS s = n at *
   generalize decide (c0 = 45) = neg at *
   cases neg with
   | false =>
    simp only [Bool.false_eq_true, if_false] at hB'
    subst hB'
    refine rs ?_
    rw [w1]
    refine rs ?_
    rw [w1, w2]
    refine rs ?_
    rw [w1]
    exact rs trivial
   | true =>
    simp only [if_true] at hB'
    have hG : Hid _ := ⟨And.intro g1 (And.intro g2 (And.intro gd gn))⟩
    clear g1 g2 gd gn
    refine rs ?_
    rw [← hB']
    clear hB'
    obtain ⟨g1, g2, gd, gn⟩ := hG.out
    refine rs ?_
    rw [w1]
    refine rs ?_
    rw [w1, w2]
    refine rs ?_
    rw [w1]
    exact rs trivial
  ·cases h
end Go.K.S
end
section
namespace Go.K
open Go
def headsB : List (List Nat) := [[119, 97, 118, 101, 115], [101, 121, 101], [108, 111, 111, 107], [102, 105, 108, 109], [116, 114, 105], [100, 105, 102, 102, 117, 115, 101], [109, 105, 114, 114, 111, 114], [103, 108, 97, 115, 115], [108, 105, 103, 104, 116]]
def crsD (l : List Rat) : List D := Ψ .dRs (l.map (Ψ .cr))
theorem crsD_snoc (l : List Rat) (q : Rat) : Ω .scat (crsD l) [.agg (dR Ψ (Ψ .cr q))] = crsD (l ++ [q]) := by
 unfold crsD; rw [List.map_append, ← scat_dRs]; rfl
theorem slen_crsD (l : List Rat) : Ω .slen (crsD l) = l.length := by unfold crsD; rw [slen_dRs, List.length_map]
theorem cr_nat (n : Nat) : Ψ .cr (n : Rat) = ⟨false, Ψ .cn n, [1]⟩ := by
 have h1 : ((n : Rat)).num = (n : Int) := rfl
 have h2 : ((n : Rat)).den = 1 := rfl
 rw [p_cr, h1, h2, show Ψ .cn 1 = [1] from cn_one, Int.natAbs_natCast, decide_eq_false (by omega)]
end Go.K
namespace Go.K.S
open Go Go.K
theorem place9_good (w : List Nat) (i : Nat) (hw256 : ∀ c, c ∈ w → c < 256) (hi : headsB[i]? = some w) : Good P F.penumbraref09_place [.d (.s (ofB w))] [] (.d (.i .i64 (Ω .ci i))) [] := by
 refine G.penumbraref09_place fun C C2 hC hC2 => ?_
 have hi9 : i < 9 := (List.getElem?_eq_some_iff.1 hi).1
 have hb : ∀ j x, headsB[j]? = some x → Ω .beqs (ofB x) (ofB w) = decide (j = i) := fun j x hx => by
  have hx256 : ∀ c, c ∈ x → c < 256 := by
   have : ∀ x, x ∈ headsB → ∀ c, c ∈ x → c < 256 := by decide
   exact this x (List.mem_of_getElem? hx)
  rw [beqs_byt, byt_ofB hx256, byt_ofB hw256]
  refine decide_eq_decide.2 ⟨fun e => ?_, fun e => ?_⟩
  ·subst e
   have hnd : ∀ a b : Fin 9, headsB[a.val]? = headsB[b.val]? → a = b := by decide
   have hj9 : j < 9 := (List.getElem?_eq_some_iff.1 hx).1
   have := hnd ⟨j, hj9⟩ ⟨i, hi9⟩ (by simp only; rw [hx, hi])
   exact congrArg Fin.val this
  ·subst e
   rw [hi] at hx
   exact (Option.some.inj hx).symm
 have hrow : (headsB.map fun x => (D.s (ofB x) : D)) = strsD headsB := rfl
 have hg : ∀ j x, headsB[j]? = some x → Ω .sget (strsD headsB) j = some (.s (ofB x)) := fun j x h => sget_strsD h
 have hl : Ω .slen (strsD headsB) = 9 := by rw [slen_strsD]; rfl
 obtain ⟨LL, hLL⟩ : ∃ LL, LL = strsD headsB := ⟨_, rfl⟩
 rw [← hLL] at hg hl
 have hH : headsB.length = 9 := rfl
 generalize ofB w = W at *
 refine rs ?_
 refine LoopG.intro (σ := Nat) [0, 3, 4] [1050] (fun j => [.d (.s W), .own 1050 1, .d (.i .i64 (Ω .ci j))]) (fun _ => [.row true T.string 1 LL]) (fun j => j ≤ i) (fun j => i - j) 0 [1100] (Nat.zero_le _) ⟨rfl, rfl, (by rw [hLL]; rfl)⟩ ?_
 intro j hj
 have hwr := wrap_succ (n := j) (by omega)
 obtain ⟨x, hx⟩ : ∃ x, headsB[j]? = some x := ⟨_, List.getElem?_eq_getElem (by omega)⟩
 have hx1 := hg j x hx
 have hq := hb j x hx
 have q0 : Ω .lt (Ω .ci j) (Ω .ci (Ω .slen LL)) = true := by rw [hl]; simp only [wz]; omega
 clear hg hb hLL hrow hi
 generalize ofB x = X at *
 by_cases e : j = i
 ·subst e
  rw [decide_eq_true rfl] at hq
  exact rs trivial
 ·rw [decide_eq_false e] at hq
  refine rs ?_
  rw [hwr]
  exact ⟨j + 1, [1050], by omega, by omega, rfl, rfl, rfl⟩
theorem numbers9_good (ws : List (List Nat)) (qs : List Rat) (hln : ws.length = qs.length) (hl : ws.length < 1000) (h256 : ∀ w, w ∈ ws → (∀ c, c ∈ w → c < 256) ∧ w.length ≤ 20000)
  (h : ∀ (i : Nat) (w : List Nat) (q : Rat), ws[i]? = some w → qs[i]? = some q → parseS w = some q) :
  Good P F.penumbraref09_numbers [.d (.sl (strsD ws))] [] (.tup [.d (.sl (crsD qs)), .d (.b true)]) [] := by
 refine G.penumbraref09_numbers fun C C2 hC hC2 => ?_
 have hsl := slen_strsD ws
 have hel : ∀ i, i < ws.length → ∃ B q, Ω .sget (strsD ws) i = some (.s B) ∧ Good P F.penumbraref04_Parse [.d (.s B)] [] (.tup [.d (.agg (dR Ψ (Ψ .cr q))), .d (.i .i64 0)]) [] ∧ Ω .scat (crsD (qs.take i)) [.agg (dR Ψ (Ψ .cr q))] = crsD (qs.take (i + 1)) := fun i hi => by
  obtain ⟨w, hw⟩ : ∃ w, ws[i]? = some w := ⟨_, List.getElem?_eq_getElem hi⟩
  obtain ⟨q, hq⟩ : ∃ q, qs[i]? = some q := ⟨_, List.getElem?_eq_getElem (by omega)⟩
  have hm := h256 w (List.mem_of_getElem? hw)
  have e := byt_ofB hm.1
  exact ⟨ofB w, q, sget_strsD hw, parse4_good (ofB w) (by rw [e]; exact h i w q hw hq) (by rw [e]; exact hm.2), by rw [take_succ_of hq, crsD_snoc]⟩
 have hcl : ∀ i, i ≤ ws.length → Ω .slen (crsD (qs.take i)) = i := fun i hi => by rw [slen_crsD, List.length_take]; omega
 have h0 : crsD (qs.take 0) = [] := rfl
 have he : crsD qs = crsD (qs.take ws.length) := by rw [hln, List.take_length]
 rw [he]
 obtain ⟨S, hS⟩ : ∃ S : Nat → List D, S = fun i => crsD (qs.take i) := ⟨_, rfl⟩
 have eS : ∀ i, crsD (qs.take i) = S i := fun i => by rw [hS]
 simp only [eS] at hel hcl h0 ⊢
 clear eS hS he h h256
 generalize strsD ws = WD at *
 generalize ws.length = n at *
 refine rs ?_
 refine LoopG.intro (σ := Nat) [0, 4, 5] [1050] (fun i => [.d (.sl WD), .own 1050 3, .d (.i .i64 (Ω .ci i))]) (fun i => [.row true T.api_Rat 3 (S i)]) (fun i => i ≤ n) (fun i => n - i) 0 [1100] (Nat.zero_le _) ⟨rfl, rfl, (by rw [h0]; rfl)⟩ ?_
 intro i hi
 have hw := wrap_succ (n := i) (by omega)
 have hc := hcl i hi
 rcases Nat.lt_or_ge i n with hlt | hge
 ·obtain ⟨B, q, x1, x2, x3⟩ := hel i hlt
  have q0 : Ω .lt (Ω .ci i) (Ω .ci (Ω .slen WD)) = true := by rw [hsl]; simp only [wz]; omega
  generalize Ψ .cr q = Q at *
  clear hel hcl
  refine rs ?_
  rw [hw]
  exact ⟨i + 1, [1803], hlt, by omega, rfl, rfl, (by rw [← x3]; rfl)⟩
 ·obtain rfl : i = n := by omega
  have q0 : Ω .lt (Ω .ci i) (Ω .ci (Ω .slen WD)) = false := by rw [hsl]; simp only [wz]; omega
  clear hel hcl
  exact rs trivial
theorem whole9_good (n : Nat) (hn : n ≤ 1000000) : Good P F.penumbraref09_whole [.d (.agg (dR Ψ (Ψ .cr (n : Rat))))] [] (.d (.i .i64 (Ω .ci n))) [] := by
 refine G.penumbraref09_whole fun C C2 hC hC2 => ?_
 rw [cr_nat]
 have hb : n < 4294967296 ^ 1 := by omega
 have hl := len_cn.2 hb
 have g1 := same1_good [1] [1] (by simp) (by simp)
 rw [decide_eq_true rfl] at g1
 have g2 := cmp1_good (Ψ .cn n) [1000000] ⟨lim_cn _, by omega⟩ ⟨by simp [lim_cons, lim_nil], by simp⟩
 rw [nv_cn, show nv [1000000] = 1000000 by simp] at g2
 have hc := @cmpI_pos n 1000000
 have q1 : Ω .lt 0 (Ψ .cmpI n 1000000) = false := lt_false.2 (by have := mt hc.1 (by omega); omega)
 generalize Ψ .cmpI n 1000000 = c at *
 have hcn : Ψ .cn n = [] ∧ n = 0 ∨ Ψ .cn n = [n] ∧ n ≠ 0 := by
  by_cases h0 : n = 0
  ·exact .inl ⟨by rw [h0, cn_zero], h0⟩
  ·refine .inr ⟨?_, h0⟩
   have h1 := nv_cn n
   cases hx : Ψ .cn n with
   | nil => rw [hx] at h1; simp at h1; omega
   | cons a r =>
    rw [hx] at h1 hl
    have : r = [] := by cases r with | nil => rfl | cons b r => simp at hl
    subst this
    simp at h1
    rw [h1]
 rcases hcn with ⟨e, h0⟩ | ⟨e, h0⟩
 ·rw [e] at g2 ⊢
  subst h0
  refine rs ?_
  refine LoopG.intro (σ := Unit) [1, 3, 4] [1050] (fun _ => [.ptr 1050 0, .d (.i .i64 0), .d (.i .i64 0)]) (fun _ => [.var ((dR Ψ ⟨false, [], [1]⟩).map V.d)]) (fun _ => True) (fun _ => 0) () [1000] trivial ⟨rfl, rfl, rfl⟩ ?_
  intro _ _
  have q2 : Ω .lt 0 (Ω .ci ([] : List Nat).length) = false := by simp only [wz]; simp
  refine rs ?_
  rfl
 ·rw [e] at g2 ⊢
  refine rs ?_
  refine LoopG.intro (σ := Nat) [1, 3, 4] [1050] (fun i => [.ptr 1050 0, .d (.i .i64 (if i = 0 then 0 else Ω .ci n)), .d (.i .i64 (Ω .ci i))]) (fun _ => [.var ((dR Ψ ⟨false, [n], [1]⟩).map V.d)]) (fun i => i ≤ 1) (fun i => 1 - i) 0 [1000] (Nat.zero_le _) ⟨rfl, rfl, rfl⟩ ?_
  intro i hi
  have hx : Ω .sget (Ψ .lims [n]) 0 = some (.i .u32 (Ω .ci n)) := by rw [sget_lims]; rfl
  have hl1 : Ω .slen (Ψ .lims [n]) = 1 := by rw [slen_lims]; rfl
  rcases (show i = 0 ∨ i = 1 by omega) with rfl | rfl
  ·have q2 : Ω .lt (Ω .ci 0) (Ω .ci ([n] : List Nat).length) = true := by simp only [wz]; simp
   have q3 : Ω .lt (Ω .ci 0) (Ω .ci (0 + 1)) = true := by simp only [wz]; omega
   have hw : Ω .wrap .i64 (Ω .ci 0 + 1) = Ω .ci 1 := wrap_succ (by omega)
   have hw2 : Ω .wrap .i64 (Ω .ci n) = Ω .ci n := wrap_ci (by omega)
   refine rs ?_
   rw [hw, hw2]
   exact ⟨1, [1050], by omega, by omega, rfl, rfl, rfl⟩
  ·have q2 : Ω .lt (Ω .ci 1) (Ω .ci ([n] : List Nat).length) = false := by simp only [wz]; simp
   have q3 : Ω .lt (Ω .ci 1) (Ω .ci (0 + 1)) = false := by simp only [wz]; omega
   exact rs trivial
theorem vec9_good (XD : List D) (i : Nat) (k : Int) (hk : k = Ω .ci i) (hi : i < 1000) (x y z : RL) (hx : Ω .sget XD i = some (.agg (dR Ψ x))) (hy : Ω .sget XD (i + 1) = some (.agg (dR Ψ y))) (hz : Ω .sget XD (i + 2) = some (.agg (dR Ψ z))) :
  Good P F.penumbraref09_vec [.d (.sl XD), .d (.i .i64 k)] [] (.d (.agg (dV Ψ ⟨x, y, z⟩))) [] := by
 refine G.penumbraref09_vec fun C C2 hC hC2 => ?_
 subst hk
 have w1 : Ω .wrap .i64 (Ω .ci i + 1) = Ω .ci (i + 1) := wrap_succ (by omega)
 have w2 : Ω .wrap .i64 (Ω .ci i + 2) = Ω .ci (i + 2) := by
  rw [wrap64 (by simp only [wz]; omega) (by simp only [wz]; omega)]; simp only [wz]; omega
 refine rs ?_
 rw [w1]
 refine rs ?_
 rw [w2]
 exact rs trivial
end Go.K.S
end
section
namespace Go.K.S
open Go Go.K
theorem of314_good : Good P F.penumbraref03_Of [.d (.i .i64 1), .d (.i .i64 4)] [] (.d (.agg (dR Ψ (Ψ .cr (1 / 4))))) [] := by
 have g := of3_good 1 4 (by omega) (by omega) (by omega) (by omega)
 exact g
theorem eta9_good (s : ScL) {MD FD : List D} (hD : ScD s MD FD) {i bin : Nat} {m : MatL} {w : RL} (hm : s.mats[i]? = some m) (hw : s.waves[bin]? = some w) {k : Nat} (ha : Rn k m.a) (hb : Rn k m.b) (hwn : Rn k w) (hk : 0 < k) (hk2 : k < 268435456) :
  Good P F.penumbraref09_Eta [.d (.agg (dSc Ψ MD FD s)), .d (.i .i64 (Ω .ci i)), .d (.i .i64 (Ω .ci bin))] []
   (.tup [.d (.agg (dR Ψ (Ψ .cr ((etaM s.waves m bin).getD 0)))), .d (.b (etaM s.waves m bin).isSome)]) [] := by
 refine G.penumbraref09_Eta fun C C2 hC hC2 => ?_
 rw [etaM_eq hw]
 have hx1 := hD.m i m hm
 have hx2 := hx_dRs hw
 have hml := hD.ml
 have hi : i < s.mats.length := (List.getElem?_eq_some_iff.1 hm).1
 have hj : bin < s.waves.length := (List.getElem?_eq_some_iff.1 hw).1
 have q1 := q_neg i
 have q2 := q_ge hi
 have q3 := q_neg bin
 have q4 := q_ge hj
 rw [← hml] at q2
 have g1 := mul3_good w w hwn hwn (by omega) (by omega)
 have qw := (Qn_mul (Qn_rv hwn hk) (Qn_rv hwn hk) (by omega)).mono (show _ ≤ 2 * k by omega)
 have g2 := over3_good m.b (Ψ .cr (rv w * rv w)) hb (Rn_cr.2 qw) (by omega) (by omega)
 rw [rv_cr] at g2
 have qd := (Qn_div (Qn_rv hb hk) qw (by omega)).mono (show _ ≤ 3 * k by omega)
 have g3 := add3_good m.a (Ψ .cr (rv m.b / (rv w * rv w))) ha (Rn_cr.2 qd) (by omega) (by omega)
 rw [rv_cr] at g3
 have g0 := zero3_good
 have gs := sign3_good w hwn (by omega)
 have zs := @qs_zero (rv w)
 generalize Ψ .sI (rv w) = sw at *
 clear qd qw
 by_cases hk2 : m.kind = 2
 ·have q5 : Ω .ne m.kind 2 = false := by rw [q_ne, decide_eq_true hk2]; rfl
  by_cases hz : rv w = 0
  ·rw [if_neg (fun h => h.2 hz)]
   rw [decide_eq_true hz] at zs
   generalize Ψ .cr (rv m.b / (rv w * rv w)) = A at *
   generalize Ψ .cr (rv w * rv w) = B at *
   simp only [Option.getD_none, Option.isSome_none]
   exact rq trivial
  ·rw [if_pos ⟨hk2, hz⟩]
   rw [decide_eq_false hz] at zs
   simp only [Option.getD_some, Option.isSome_some]
   generalize Ψ .cr (rv m.a + rv m.b / (rv w * rv w)) = A2 at *
   generalize Ψ .cr (rv m.b / (rv w * rv w)) = A at *
   generalize Ψ .cr (rv w * rv w) = B at *
   exact rq trivial
 ·rw [if_neg (fun h => hk2 h.1)]
  have q5 : Ω .ne m.kind 2 = true := by rw [q_ne, decide_eq_false hk2]; rfl
  simp only [Option.getD_none, Option.isSome_none]
  exact rq trivial
theorem material9_good (s : ScL) {MD FD : List D} (hD : ScD s MD FD) {i : Nat} {m : MatL} (hm : s.mats[i]? = some m) {k : Nat} (hv : ∀ r, r ∈ m.vals → Rn k r) (ha : Rn k m.a) (hb : Rn k m.b) (hwn : ∀ r, r ∈ s.waves → Rn k r) (hk : 0 < k) (hk2 : k < 16777216) (hl : s.waves.length < 1099511627776) :
  Good P F.penumbraref09_material [.d (.agg (dSc Ψ MD FD s)), .d (.i .i64 (Ω .ci i))] [] (.d (.b (matB s.waves m))) [] := by
 refine G.penumbraref09_material fun C C2 hC hC2 => ?_
 have hx1 := hD.m i m hm
 have g14 := of314_good
 have g11 := one3_good
 have gs := fun (r : RL) (h : Rn k r) => sign3_good r h (by omega)
 have q4 : Qn 2 ((1 : Rat) / 4) := ⟨by decide +kernel, by decide +kernel⟩
 have gc4 := fun (r : RL) (h : Rn k r) => cmp3_good r (Ψ .cr (1 / 4)) (j := k) (k := 2) h (Rn_cr.2 q4) (by omega) (by omega) (by omega) (by omega)
 have gc1 := fun (r : RL) (h : Rn k r) => cmp3_good r (Ψ .cr 1) (j := k) (k := 1) h (Rn_cr.2 Qn_one') (by omega) (by omega) (by omega) (by omega)
 have ge : ∀ bin, bin < s.waves.length → _ := fun bin h => eta9_good s hD hm (List.getElem?_eq_getElem h) ha hb (hwn _ (List.getElem_mem h)) hk (by omega)
 have gse : ∀ bin e, etaM s.waves m bin = some e → Good P F.penumbraref03_Sign [.d (.agg (dR Ψ (Ψ .cr e)))] [] (.d (.i .i64 (Ψ .sI e))) [] := fun bin e he => by
  have hq : Qn (6 * k) e := by
   unfold etaM at he
   cases hw : s.waves[bin]? with
   | none => rw [hw] at he; cases he
   | some w =>
    rw [hw] at he
    simp only at he
    split at he
    ·cases he
     have hwk := Qn_rv (hwn w (List.mem_of_getElem? hw)) hk
     exact (Qn_add (Qn_rv ha hk) (Qn_div (Qn_rv hb hk) (Qn_mul hwk hwk (by omega)) (by omega))).mono (by omega)
    ·cases he
  have := sign3_good (Ψ .cr e) (Rn_cr.2 hq) (by omega)
  rw [rv_cr] at this
  exact this
 simp only [rv_cr] at gc4 gc1
 have gsa := gs m.a ha
 have gsb := gs m.b hb
 obtain ⟨R, hR⟩ : ∃ R, R = matB s.waves m := ⟨_, rfl⟩
 rw [← hR]
 unfold matB at hR
 by_cases h0 : 0 ≤ m.kind
 rotate_left
 ·have q1 : Ω .lt m.kind 0 = true := lt_true.2 (by omega)
  rw [decide_eq_false h0] at hR
  simp only [Bool.false_and] at hR
  subst hR
  clear ge gse
  generalize Ψ .cr (1 / 4) = N4 at *
  generalize Ψ .cr 1 = N1 at *
  exact rq trivial
 have q1 : Ω .lt m.kind 0 = false := lt_false.2 h0
 rw [decide_eq_true h0] at hR
 by_cases h1 : m.kind < 4
 rotate_left
 ·have q2 : Ω .lt 3 m.kind = true := lt_true.2 (by omega)
  rw [decide_eq_false h1] at hR
  simp only [Bool.and_false, Bool.false_and] at hR
  subst hR
  clear ge gse
  generalize Ψ .cr (1 / 4) = N4 at *
  generalize Ψ .cr 1 = N1 at *
  exact rq trivial
 have q2 : Ω .lt 3 m.kind = false := lt_false.2 (by omega)
 rw [decide_eq_true h1] at hR
 by_cases hln : m.vals.length = s.waves.length
 rotate_left
 ·have q3 : Ω .ne (Ω .ci m.vals.length) (Ω .ci s.waves.length) = true := by simp only [wz]; omega
  rw [decide_eq_false hln] at hR
  simp only [Bool.and_false, Bool.false_and] at hR
  subst hR
  clear ge gse
  generalize Ψ .cr (1 / 4) = N4 at *
  generalize Ψ .cr 1 = N1 at *
  exact rq trivial
 have q3 : Ω .ne (Ω .ci m.vals.length) (Ω .ci s.waves.length) = false := by simp only [wz]; omega
 rw [decide_eq_true hln] at hR
 simp only [Bool.true_and] at hR
 have hzl : m.vals.zipIdx.length = m.vals.length := List.length_zipIdx
 have hz : ∀ j r, m.vals[j]? = some r → m.vals.zipIdx[j]? = some (r, j) := fun j r h => by rw [List.getElem?_zipIdx, h]; simp
 have hst : ∀ j r, m.vals[j]? = some r → valB s.waves m j r = true → (m.vals.zipIdx.take j).all (fun x => valB s.waves m x.2 x.1) = true → (m.vals.zipIdx.take (j + 1)).all (fun x => valB s.waves m x.2 x.1) = true := fun j r h h1 h2 => by
  rw [all_take_succ (hz j r h), h2, Bool.true_and]; exact h1
 have hbad : ∀ j r, m.vals[j]? = some r → valB s.waves m j r = false → R = false := fun j r h h1 => by
  have : valsB s.waves m = false := all_false_of (hz j r h) h1
  rw [hR, this]; rfl
 have hend : (m.vals.zipIdx.take m.vals.length).all (fun x => valB s.waves m x.2 x.1) = true → R = (decide (m.kind = 2) || (decide (rv m.a = 0) && decide (rv m.b = 0))) := fun h => by
  rw [← hzl, all_take_all] at h
  have : valsB s.waves m = true := h
  rw [hR, this]; rfl
 clear hR
 have hv0 : (m.vals.zipIdx.take 0).all (fun x => valB s.waves m x.2 x.1) = true := rfl
 obtain ⟨A, hA⟩ : ∃ A : Nat → Prop, A = fun j => (m.vals.zipIdx.take j).all (fun x => valB s.waves m x.2 x.1) = true := ⟨_, rfl⟩
 have hAe : ∀ j, ((m.vals.zipIdx.take j).all (fun x => valB s.waves m x.2 x.1) = true) = A j := fun j => by rw [hA]
 simp only [hAe] at hst hend hv0
 clear hAe hA
 generalize Ψ .cr (1 / 4) = N4 at *
 generalize Ψ .cr 1 = N1 at *
 obtain ⟨kind, vals, ma, mb⟩ := m
 simp only at *
 refine rq ?_
 refine LoopG.intro (σ := Nat) [1, 2, 5, 6, 7] [1050, 1051, 1052] (fun j => [.d (.i .i64 (Ω .ci i)), .ptr 1050 0, .ptr 1051 0, .own 1052 3, .d (.i .i64 (Ω .ci j))])
  (fun _ => [.var ((dSc Ψ MD FD s).map V.d), .var ((dMat Ψ ⟨kind, vals, ma, mb⟩).map V.d), .row true T.api_Rat 3 [.agg (dR Ψ N4), .agg (dR Ψ N1), .agg (dR Ψ N1)]]) (fun j => j ≤ vals.length ∧ A j) (fun j => vals.length - j) 0 [1000, 1105, 1203]
  ⟨Nat.zero_le _, hv0⟩ ⟨rfl, rfl, rfl⟩ ?_
 rintro j ⟨hj, hAj⟩
 have hw := wrap_succ (n := j) (by omega)
 rcases Nat.lt_or_ge j vals.length with hlt | hge
 ·obtain ⟨r, hr⟩ : ∃ r, vals[j]? = some r := ⟨_, List.getElem?_eq_getElem hlt⟩
  have hx2 := hx_dRs hr
  have hrn := hv r (List.mem_of_getElem? hr)
  have q0 : Ω .lt (Ω .ci j) (Ω .ci vals.length) = true := by simp only [wz]; omega
  have hs' := fun h => hst j r hr h hAj
  have hb' := hbad j r hr
  have gj := ge j (by omega)
  have gsj := gse j
  have g1 := gs r hrn
  have g2 := gc4 r hrn
  have g3 := gc1 r hrn
  have p1 := @qs_neg (rv r)
  have p2 := @qc_pos (rv r) (1 / 4)
  have p3 := @qc_pos (rv r) 1
  have ek : kind ≠ 2 → etaM s.waves ⟨kind, vals, ma, mb⟩ j = none := fun h => by
   rw [etaM_eq (List.getElem?_eq_getElem (show j < s.waves.length by omega)), if_neg (fun c => h c.1)]
  unfold valB at hs' hb'
  generalize etaM s.waves ⟨kind, vals, ma, mb⟩ j = et at *
  generalize decide (rv r < 0) = a1 at *
  generalize decide (1 / 4 < rv r) = d4 at *
  generalize decide (1 < rv r) = d1 at *
  generalize Ψ .sI (rv r) = s1 at *
  generalize Ψ .cI (rv r) (1 / 4) = s2 at *
  generalize Ψ .cI (rv r) 1 = s3 at *
  simp only at hs' hb'
  clear ge gse gs gc4 gc1 hst hbad hend hv hwn hz hzl hv0
  have k4 : kind = 0 ∨ kind = 1 ∨ kind = 2 ∨ kind = 3 := by omega
  have f0 : Ω .sget [.agg (dR Ψ N4), .agg (dR Ψ N1), .agg (dR Ψ N1)] 0 = some (.agg (dR Ψ N4)) := rfl
  have f1 : Ω .sget [.agg (dR Ψ N4), .agg (dR Ψ N1), .agg (dR Ψ N1)] 1 = some (.agg (dR Ψ N1)) := rfl
  have f2 : Ω .sget [.agg (dR Ψ N4), .agg (dR Ψ N1), .agg (dR Ψ N1)] 2 = some (.agg (dR Ψ N1)) := rfl
  cases a1 with
  | true =>
   have := hb' rfl
   subst this
   exact rq trivial
  | false =>
   rcases k4 with rfl | rfl | rfl | rfl
   ·have en := ek (by omega)
    subst en
    cases d4 with
    | true =>
     have := hb' rfl
     subst this
     refine rq ?_
     refine ⟨(by simp only [wz]; omega), _, f0, Nat.le_refl _, rfl, ?_⟩
     exact rq trivial
    | false =>
     refine rq ?_
     refine ⟨(by simp only [wz]; omega), _, f0, Nat.le_refl _, rfl, ?_⟩
     refine rq ?_
     rw [hw]
     exact ⟨j + 1, [1050, 1051, 1052], ⟨hlt, hs' rfl⟩, by omega, rfl, rfl, rfl⟩
   ·have en := ek (by omega)
    subst en
    cases d1 with
    | true =>
     have := hb' rfl
     subst this
     refine rq ?_
     refine ⟨(by simp only [wz]; omega), _, f1, Nat.le_refl _, rfl, ?_⟩
     exact rq trivial
    | false =>
     refine rq ?_
     refine ⟨(by simp only [wz]; omega), _, f1, Nat.le_refl _, rfl, ?_⟩
     refine rq ?_
     rw [hw]
     exact ⟨j + 1, [1050, 1051, 1052], ⟨hlt, hs' rfl⟩, by omega, rfl, rfl, rfl⟩
   ·cases d1 with
    | true =>
     have := hb' (by cases et <;> rfl)
     subst this
     refine rq ?_
     refine ⟨(by simp only [wz]; omega), _, f2, Nat.le_refl _, rfl, ?_⟩
     exact rq trivial
    | false =>
     cases et with
     | none =>
      refine rq ?_
      refine ⟨(by simp only [wz]; omega), _, f2, Nat.le_refl _, rfl, ?_⟩
      refine rq ?_
      rw [hw]
      exact ⟨j + 1, [1050, 1051, 1052], ⟨hlt, hs' rfl⟩, by omega, rfl, rfl, rfl⟩
     | some e =>
      have g4 := gsj e rfl
      have p4 := @qs_pos e
      simp only [Option.getD_some, Option.isSome_some] at gj
      simp only at hs' hb'
      generalize decide (0 < e) = t at *
      generalize Ψ .sI e = se at *
      generalize Ψ .cr e = E at *
      cases t with
      | true =>
       refine rq ?_
       refine ⟨(by simp only [wz]; omega), _, f2, Nat.le_refl _, rfl, ?_⟩
       refine rq ?_
       rw [hw]
       exact ⟨j + 1, [1050, 1051, 1052], ⟨hlt, hs' rfl⟩, by omega, rfl, rfl, rfl⟩
      | false =>
       have := hb' rfl
       subst this
       refine rq ?_
       refine ⟨(by simp only [wz]; omega), _, f2, Nat.le_refl _, rfl, ?_⟩
       exact rq trivial
   ·have en := ek (by omega)
    subst en
    refine rq ?_
    rw [hw]
    exact ⟨j + 1, [1050, 1051, 1052], ⟨hlt, hs' rfl⟩, by omega, rfl, rfl, rfl⟩
 ·obtain rfl : j = vals.length := by omega
  have q0 : Ω .lt (Ω .ci vals.length) (Ω .ci vals.length) = false := by simp only [wz]; omega
  rw [hend hAj]
  have z1 := @qs_zero (rv ma)
  have z2 := @qs_zero (rv mb)
  have z3 : Ω .eq kind 2 = decide (kind = 2) := q_eq
  generalize decide (rv ma = 0) = t1 at *
  generalize decide (rv mb = 0) = t2 at *
  generalize decide (kind = 2) = t3 at *
  generalize Ψ .sI (rv ma) = s1 at *
  generalize Ψ .sI (rv mb) = s2 at *
  clear ge gse gs gc4 gc1 hst hbad hend hv hwn hz hzl hv0
  cases t3 <;> cases t1 <;> cases t2
  all_goals exact rq trivial
end Go.K.S
end
section
namespace Go.K.S
open Go Go.K
theorem check9_good (s : ScL) {MD FD : List D} (hD : ScD s MD FD) {k : Nat} (hs : Scn k s) (hk0 : 0 < k) (hk : k < 134217728) :
  Good P F.penumbraref09_Check [.d (.agg (dSc Ψ MD FD s))] [] (.d (.i .i64 (checkS s))) [] := by
 refine G.penumbraref09_Check fun C C2 hC hC2 => ?_
 have hml := hD.ml
 have hfl := hD.fl
 obtain ⟨R, hR⟩ : ∃ R, R = checkS s := ⟨_, rfl⟩
 rw [← hR]
 unfold checkS at hR
 by_cases hm : manyB s = false
 ·rw [if_pos hm] at hR
  subst hR
  unfold manyB at hm
  by_cases c1 : 1 ≤ s.waves.length
  rotate_left
  ·have q1 : Ω .lt (Ω .ci s.waves.length) 1 = true := by simp only [wz]; omega
   exact rq trivial
  have q1 : Ω .lt (Ω .ci s.waves.length) 1 = false := by simp only [wz]; omega
  by_cases c2 : s.waves.length ≤ 8
  rotate_left
  ·have q2 : Ω .lt 8 (Ω .ci s.waves.length) = true := by simp only [wz]; omega
   exact rq trivial
  have q2 : Ω .lt 8 (Ω .ci s.waves.length) = false := by simp only [wz]; omega
  by_cases c3 : s.mats.length ≤ 32
  rotate_left
  ·have q3 : Ω .lt 32 (Ω .ci (Ω .slen MD)) = true := by rw [hml]; simp only [wz]; omega
   exact rq trivial
  have q3 : Ω .lt 32 (Ω .ci (Ω .slen MD)) = false := by rw [hml]; simp only [wz]; omega
  by_cases c4 : 1 ≤ s.faces.length
  rotate_left
  ·have q4 : Ω .lt (Ω .ci (Ω .slen FD)) 1 = true := by rw [hfl]; simp only [wz]; omega
   exact rq trivial
  have q4 : Ω .lt (Ω .ci (Ω .slen FD)) 1 = false := by rw [hfl]; simp only [wz]; omega
  by_cases c5 : s.faces.length ≤ 64
  rotate_left
  ·have q5 : Ω .lt 64 (Ω .ci (Ω .slen FD)) = true := by rw [hfl]; simp only [wz]; omega
   exact rq trivial
  rw [decide_eq_true c1, decide_eq_true c2, decide_eq_true c3, decide_eq_true c4, decide_eq_true c5] at hm
  exact nomatch hm
 rw [if_neg hm] at hR
 have hm' : manyB s = true := by simpa using hm
 unfold manyB at hm'
 simp only [Bool.and_eq_true, decide_eq_true_eq] at hm'
 obtain ⟨c1, c2, c3, c4, c5⟩ := hm'
 have q1 : Ω .lt (Ω .ci s.waves.length) 1 = false := by simp only [wz]; omega
 have q2 : Ω .lt 8 (Ω .ci s.waves.length) = false := by simp only [wz]; omega
 have q3 : Ω .lt 32 (Ω .ci (Ω .slen MD)) = false := by rw [hml]; simp only [wz]; omega
 have q4 : Ω .lt (Ω .ci (Ω .slen FD)) 1 = false := by rw [hfl]; simp only [wz]; omega
 have q5 : Ω .lt 64 (Ω .ci (Ω .slen FD)) = false := by rw [hfl]; simp only [wz]; omega
 clear hm
 have hvl : ∀ m, m ∈ s.mats → m.vals.length ≤ k := fun m hm => (hs.mv m hm).l
 have g1 := all9_good s hD hvl hk c2 c3 c5
 have hall := allL_n hs
 have hfit := allL_fit s
 have hlen : (allL s).length < 1099511627776 := by
  have b1 := all1_len hvl s.mats.length (Nat.le_refl _)
  have h4 : s.mats.length * (k + 2) ≤ 32 * 134217730 := Nat.mul_le_mul (by omega) (by omega)
  have b2 := all2_len b1 s.faces.length (Nat.le_refl _)
  unfold allL
  omega
 generalize allL s = AL at *
 obtain ⟨AA, hAA⟩ : ∃ A : Nat → Prop, A = fun i => (AL.take i).all fitR = true := ⟨_, rfl⟩
 have w0 : AA 0 := by rw [hAA]; rfl
 have w1 : ∀ i r, AL[i]? = some r → fitR r = true → AA i → AA (i + 1) := fun i r h h1 h2 => by
  rw [hAA] at h2 ⊢
  simp only at h2 ⊢
  rw [all_take_succ h, h2, h1]; rfl
 have w2 : ∀ i r, AL[i]? = some r → fitR r = false → R = 97 := fun i r h h1 => by
  rw [hR, if_pos (by rw [← hfit]; exact all_false_of h h1)]
 have w3 : AA AL.length → sizesS s = true := fun h => by
  rw [hAA] at h
  rw [← hfit, ← all_take_all]; exact h
 clear hAA
 refine rq ?_
 refine LoopG.intro (σ := Nat) [1, 3, 4] [1050] (fun i => [.ptr 1050 0, .d (.sl (Ψ .dRs AL)), .d (.i .i64 (Ω .ci i))]) (fun _ => [.var ((dSc Ψ MD FD s).map V.d)]) (fun i => i ≤ AL.length ∧ AA i) (fun i => AL.length - i) 0 [1000]
  ⟨Nat.zero_le _, w0⟩ ⟨rfl, rfl, rfl⟩ ?_
 rintro i ⟨hi, hA⟩
 have hw := wrap_succ (n := i) (by omega)
 rcases Nat.lt_or_ge i AL.length with hlt | hge
 ·obtain ⟨r, hr⟩ : ∃ r, AL[i]? = some r := ⟨_, List.getElem?_eq_getElem hlt⟩
  have hx := hx_dRs hr
  have hrn := hall r (List.mem_of_getElem? hr)
  have q0 : Ω .lt (Ω .ci i) (Ω .ci AL.length) = true := by simp only [wz]; omega
  have g2 := check3_good r hrn hk0 (by omega)
  have g3 := bits1_good r.num (hrn.N1 (by omega))
  have g4 := bits1_good r.den (hrn.N2 (by omega))
  have hs' := fun h => w1 i r hr h hA
  have hb' := w2 i r hr
  unfold fitR at hs' hb'
  have e1 : decide (bl (nv r.num) ≤ 64) = !(Ω .lt 64 (Ω .ci (bl (nv r.num)))) := by
   by_cases h : bl (nv r.num) ≤ 64
   ·rw [decide_eq_true h, lt_false.2 (by simp only [wz]; omega)]; rfl
   ·rw [decide_eq_false h, lt_true.2 (by simp only [wz]; omega)]; rfl
  have e2 : decide (bl (nv r.den) ≤ 64) = !(Ω .lt 64 (Ω .ci (bl (nv r.den)))) := by
   by_cases h : bl (nv r.den) ≤ 64
   ·rw [decide_eq_true h, lt_false.2 (by simp only [wz]; omega)]; rfl
   ·rw [decide_eq_false h, lt_true.2 (by simp only [wz]; omega)]; rfl
  rw [e1, e2] at hs' hb'
  clear e1 e2 w0 w1 w2 w3 hall hs hD
  generalize decide (r = Ψ .cr (rv r)) = t1 at *
  generalize bl (nv r.num) = b1 at *
  generalize bl (nv r.den) = b2 at *
  cases t1 with
  | false =>
   have := hb' rfl
   subst this
   exact rq trivial
  | true =>
   cases r1 : Ω .lt 64 (Ω .ci b1) with
   | true =>
    rw [r1] at hb'
    have := hb' rfl
    subst this
    exact rq trivial
   | false =>
    cases r2 : Ω .lt 64 (Ω .ci b2) with
    | true =>
     rw [r1, r2] at hb'
     have := hb' rfl
     subst this
     exact rq trivial
    | false =>
     rw [r1, r2] at hs'
     refine rq ?_
     rw [hw]
     exact ⟨i + 1, [1050], ⟨hlt, hs' rfl⟩, by omega, rfl, rfl, rfl⟩
 obtain rfl : i = AL.length := by omega
 have q0a : Ω .lt (Ω .ci AL.length) (Ω .ci AL.length) = false := by simp only [wz]; omega
 have hz' := w3 hA
 rw [if_neg (by rw [hz']; exact fun h => nomatch h)] at hR
 have h2 := sc2_of hz'
 clear hz' hfit w0 w1 w2 w3 hw hi hA
 have gw : ∀ r, r ∈ s.waves → Good P F.penumbraref03_Sign [.d (.agg (dR Ψ r))] [] (.d (.i .i64 (Ψ .sI (rv r)))) [] := fun r hr => sign3_good r (h2.wv r hr) (by omega)
 obtain ⟨AW, hAW⟩ : ∃ A : Nat → Prop, A = fun i => (s.waves.take i).all (fun x => decide (0 < rv x)) = true := ⟨_, rfl⟩
 have w0 : AW 0 := by rw [hAW]; rfl
 have w1 : ∀ i r, s.waves[i]? = some r → 0 < rv r → AW i → AW (i + 1) := fun i r h h1 h2 => by
  rw [hAW] at h2 ⊢
  simp only at h2 ⊢
  rw [all_take_succ h, h2, decide_eq_true h1]; rfl
 have w2 : ∀ i r, s.waves[i]? = some r → ¬ 0 < rv r → R = 98 := fun i r h h1 => by
  rw [hR, if_pos (all_false_of h (decide_eq_false h1))]
 have w3 : AW s.waves.length → (s.waves.all fun x => decide (0 < rv x)) = true := fun h => by
  rw [hAW] at h
  rw [← all_take_all]; exact h
 clear hAW
 refine rq ?_
 refine LoopG.intro (σ := Nat) [1, 5] [1050] (fun i => [.ptr 1050 0, .d (.i .i64 (Ω .ci i))]) (fun _ => [.var ((dSc Ψ MD FD s).map V.d)]) (fun i => i ≤ s.waves.length ∧ AW i) (fun i => s.waves.length - i) 0 [1050]
  ⟨Nat.zero_le _, w0⟩ ⟨rfl, rfl, rfl⟩ ?_
 rintro i ⟨hi, hA⟩
 have hw := wrap_succ (n := i) (by omega)
 rcases Nat.lt_or_ge i s.waves.length with hlt | hge
 ·obtain ⟨r, hr⟩ : ∃ r, s.waves[i]? = some r := ⟨_, List.getElem?_eq_getElem hlt⟩
  have hx := hx_dRs hr
  have q0 : Ω .lt (Ω .ci i) (Ω .ci s.waves.length) = true := by simp only [wz]; omega
  have g := gw r (List.mem_of_getElem? hr)
  have p := @qs_pos (rv r)
  by_cases hp : 0 < rv r
  ·rw [decide_eq_true hp] at p
   have := w1 i r hr hp hA
   generalize Ψ .sI (rv r) = s1 at *
   clear w1 w2 w3 gw
   refine rq ?_
   rw [hw]
   exact ⟨i + 1, [1050], ⟨hlt, this⟩, by omega, rfl, rfl, rfl⟩
  ·rw [decide_eq_false hp] at p
   have := w2 i r hr hp
   subst this
   generalize Ψ .sI (rv r) = s1 at *
   clear w1 w2 w3 gw
   exact rq trivial
 obtain rfl : i = s.waves.length := by omega
 have q0 : Ω .lt (Ω .ci s.waves.length) (Ω .ci s.waves.length) = false := by simp only [wz]; omega
 rw [if_neg (by rw [w3 hA]; exact fun h => nomatch h)] at hR
 clear w0 w1 w2 w3 gw hw hi hA
 have gm : ∀ (j : Nat) (h : j < s.mats.length), Good P F.penumbraref09_material [.d (.agg (dSc Ψ MD FD s)), .d (.i .i64 (Ω .ci j))] [] (.d (.b (matB s.waves s.mats[j]))) [] := fun j h => by
  have hv := h2.mv _ (List.getElem_mem h)
  exact material9_good s hD (List.getElem?_eq_getElem h) hv.1 hv.2.1 hv.2.2 h2.wv (by omega) (by omega) (by omega)
 obtain ⟨AM, hAM⟩ : ∃ A : Nat → Prop, A = fun i => (s.mats.take i).all (matB s.waves) = true := ⟨_, rfl⟩
 have w0 : AM 0 := by rw [hAM]; rfl
 have w1 : ∀ i (h : i < s.mats.length), matB s.waves s.mats[i] = true → AM i → AM (i + 1) := fun i h h1 h2 => by
  rw [hAM] at h2 ⊢
  simp only at h2 ⊢
  rw [all_take_succ (List.getElem?_eq_getElem h), h2, h1]; rfl
 have w2 : ∀ i (h : i < s.mats.length), matB s.waves s.mats[i] = false → R = 98 := fun i h h1 => by
  rw [hR, if_pos (all_false_of (List.getElem?_eq_getElem h) h1)]
 have w3 : AM s.mats.length → s.mats.all (matB s.waves) = true := fun h => by
  rw [hAM] at h
  rw [← all_take_all]; exact h
 clear hAM
 refine rq ?_
 refine LoopG.intro (σ := Nat) [1, 6] [1050] (fun i => [.ptr 1050 0, .d (.i .i64 (Ω .ci i))]) (fun _ => [.var ((dSc Ψ MD FD s).map V.d)]) (fun i => i ≤ s.mats.length ∧ AM i) (fun i => s.mats.length - i) 0 [1050]
  ⟨Nat.zero_le _, w0⟩ ⟨rfl, rfl, rfl⟩ ?_
 rintro j ⟨hj, hA⟩
 have hw := wrap_succ (n := j) (by omega)
 rcases Nat.lt_or_ge j s.mats.length with hlt | hge
 ·have q0' : Ω .lt (Ω .ci j) (Ω .ci (Ω .slen MD)) = true := by rw [hml]; simp only [wz]; omega
  have g := gm j hlt
  have v1 := fun h => w1 j hlt h hA
  have v2 := w2 j hlt
  generalize matB s.waves s.mats[j] = b at *
  clear w1 w2 w3 gm
  cases b with
  | true =>
   refine rq ?_
   rw [hw]
   exact ⟨j + 1, [1050], ⟨hlt, v1 rfl⟩, by omega, rfl, rfl, rfl⟩
  | false =>
   have := v2 rfl
   subst this
   exact rq trivial
 obtain rfl : j = s.mats.length := by omega
 have q0' : Ω .lt (Ω .ci s.mats.length) (Ω .ci (Ω .slen MD)) = false := by rw [hml]; simp only [wz]; omega
 rw [if_neg (by rw [w3 hA]; exact fun h => nomatch h)] at hR
 clear w0 w1 w2 w3 gm hw hj hA
 obtain ⟨AF, hAF⟩ : ∃ A : Nat → Prop, A = fun i => (s.faces.take i).all (faceB s.mats.length) = true := ⟨_, rfl⟩
 have w0 : AF 0 := by rw [hAF]; rfl
 have w1 : ∀ i f, s.faces[i]? = some f → faceB s.mats.length f = true → AF i → AF (i + 1) := fun i f h h1 h2 => by
  rw [hAF] at h2 ⊢
  simp only at h2 ⊢
  rw [all_take_succ h, h2, h1]; rfl
 have w2 : ∀ i f, s.faces[i]? = some f → faceB s.mats.length f = false → R = 99 := fun i f h h1 => by
  rw [hR, if_pos (all_false_of h h1)]
 have w3 : AF s.faces.length → s.faces.all (faceB s.mats.length) = true := fun h => by
  rw [hAF] at h
  rw [← all_take_all]; exact h
 clear hAF
 refine rq ?_
 refine LoopG.intro (σ := Nat) [1, 7] [1050] (fun i => [.ptr 1050 0, .d (.i .i64 (Ω .ci i))]) (fun _ => [.var ((dSc Ψ MD FD s).map V.d)]) (fun i => i ≤ s.faces.length ∧ AF i) (fun i => s.faces.length - i) 0 [1050]
  ⟨Nat.zero_le _, w0⟩ ⟨rfl, rfl, rfl⟩ ?_
 rintro i ⟨hi, hA⟩
 have hw := wrap_succ (n := i) (by omega)
 rcases Nat.lt_or_ge i s.faces.length with hlt | hge
 ·obtain ⟨f, hf⟩ : ∃ f, s.faces[i]? = some f := ⟨_, List.getElem?_eq_getElem hlt⟩
  have hx := hD.f i f hf
  have q0 : Ω .lt (Ω .ci i) (Ω .ci (Ω .slen FD)) = true := by rw [hfl]; simp only [wz]; omega
  have g := unit8_good f.tri (h2.fv f (List.mem_of_getElem? hf)) (by omega) (by omega)
  have v1 := fun h => w1 i f hf h hA
  have v2 := w2 i f hf
  unfold faceB at v1 v2
  have r1 : Ω .lt f.mat 0 = !decide (0 ≤ f.mat) := by rw [q_lt']; by_cases h : 0 ≤ f.mat <;> simp [h] <;> omega
  have r2 : Ω .le (Ω .ci (Ω .slen MD)) f.mat = !decide (f.mat < (s.mats.length : Int)) := by rw [hml, q_le', w_ci]; by_cases h : f.mat < (s.mats.length : Int) <;> simp [h] <;> omega
  generalize Ψ .cV (unitR (normS (tv f.tri))).1 = U at *
  generalize Ψ .cr ((unitR (normS (tv f.tri))).2 * (1 / 2)) = L at *
  generalize (unitS (normS (tv f.tri))).isSome = ok at *
  generalize decide (0 ≤ f.mat) = t1 at *
  generalize decide (f.mat < (s.mats.length : Int)) = t2 at *
  clear w1 w2 w3
  cases ok with
  | false =>
   have := v2 rfl
   subst this
   exact rq trivial
  | true =>
   cases t1 with
   | false =>
    have := v2 rfl
    subst this
    exact rq trivial
   | true =>
    cases t2 with
    | false =>
     have := v2 rfl
     subst this
     exact rq trivial
    | true =>
     refine rq ?_
     rw [hw]
     exact ⟨i + 1, [1050], ⟨hlt, v1 rfl⟩, by omega, rfl, rfl, rfl⟩
 obtain rfl : i = s.faces.length := by omega
 have q0 : Ω .lt (Ω .ci s.faces.length) (Ω .ci (Ω .slen FD)) = false := by rw [hfl]; simp only [wz]; omega
 rw [if_neg (by rw [w3 hA]; exact fun h => nomatch h)] at hR
 clear w0 w1 w2 w3 hw hi hA
 have gd := dot5_good s.look s.look h2.l h2.l (by omega) (by omega) (by omega) (by omega)
 have qd := Qn_dot (Pn_vv h2.l (by omega)) (Pn_vv h2.l (by omega)) (by omega)
 have g11 := one3_good
 have gsm := is3_good (Ψ .cr (vdot (vv s.look) (vv s.look))) (Ψ .cr 1) (Rn_cr.2 qd) (Rn_cr.2 Qn_one') (by omega) (by omega)
 rw [show decide (Ψ .cr (vdot (vv s.look) (vv s.look)) = Ψ .cr 1) = decide (vdot (vv s.look) (vv s.look) = 1) from decide_eq_decide.2 cr_eq_iff] at gsm
 have gh := sign3_good s.half h2.hf (by omega)
 have ph := @qs_pos (rv s.half)
 have p1 : Ω .lt s.w 1 = !decide (1 ≤ s.w) := by rw [q_lt']; by_cases h : 1 ≤ s.w <;> simp [h] <;> omega
 have p2 : Ω .lt 16 s.w = !decide (s.w ≤ 16) := by rw [q_lt']; by_cases h : s.w ≤ 16 <;> simp [h] <;> omega
 have p3 : Ω .lt s.h 1 = !decide (1 ≤ s.h) := by rw [q_lt']; by_cases h : 1 ≤ s.h <;> simp [h] <;> omega
 have p4 : Ω .lt 16 s.h = !decide (s.h ≤ 16) := by rw [q_lt']; by_cases h : s.h ≤ 16 <;> simp [h] <;> omega
 unfold viewB at hR
 generalize decide (vdot (vv s.look) (vv s.look) = 1) = b0 at *
 generalize decide (1 ≤ s.w) = b1 at *
 generalize decide (s.w ≤ 16) = b2 at *
 generalize decide (1 ≤ s.h) = b3 at *
 generalize decide (s.h ≤ 16) = b4 at *
 generalize decide (0 < rv s.half) = b5 at *
 generalize Ψ .sI (rv s.half) = sh at *
 generalize Ψ .cr (vdot (vv s.look) (vv s.look)) = dd at *
 generalize Ψ .cr 1 = N1 at *
 clear qd hD hs h2
 cases b0 with
 | false => simp only [Bool.false_and, if_true] at hR; subst hR; exact rq trivial
 | true =>
 cases b1 with
 | false => simp only [Bool.false_and, Bool.and_false, if_true] at hR; subst hR; exact rq trivial
 | true =>
 cases b2 with
 | false => simp only [Bool.false_and, Bool.and_false, if_true] at hR; subst hR; exact rq trivial
 | true =>
 cases b3 with
 | false => simp only [Bool.false_and, Bool.and_false, if_true] at hR; subst hR; exact rq trivial
 | true =>
 cases b4 with
 | false => simp only [Bool.false_and, Bool.and_false, if_true] at hR; subst hR; exact rq trivial
 | true =>
 cases b5 with
 | false => simp only [Bool.false_and, Bool.and_false, if_true] at hR; subst hR; exact rq trivial
 | true =>
  simp only [Bool.and_true, Bool.true_eq_false, if_false] at hR
  subst hR
  exact rq trivial
end Go.K.S
end
