/-
  Parts of the proof, joined by a program of this work: KStr, KStr3, KStr2, KStr4, KRoom, KRoom2, KRoomS, KRoom3.
-/
import Derived.Test.YtjoimiljaljgcaaGreatMaj
import Derived.Test.YtjoimiljaljgcaaGreatMal
import Derived.Test.YtjoimiljaljgcaaGreatMam
import Derived.Laws.Strings
import Derived.Test.YtjoimiljaljgcaaGreatMan
import Derived.Test.YtjoimiljaljgcaaGreatMao
set_option linter.unusedSimpArgs false
set_option linter.unusedVariables false
section
namespace Go.K
open Go
theorem tn_one : Ω .tn 1 = 1 := rfl
theorem tn_two : Ω .tn 2 = 2 := rfl
theorem rs {P Q : Prop} (q : Q) (h : Hid Q → P := by
  intro q; (generalize hΩ : Ω = ω, hΨ : Ψ = ψ; cbv <;> subst hΩ hΨ <;> try simp only [lits, true_and, Int.reduceAdd, Int.reduceSub, Int.reduceMul, not_u32, slen_nil, tn_ci, tn_zero, tn_one, tn_two, slen_lims, slen_dRs, slen_dVs, slen_dBs])
  (repeat (
    first
      | refine ⟨_, hC _ _ _ (by assumption), ?_⟩
      | refine ⟨_, _, hC2 _ _ _ _ _ (by assumption), ?_⟩
      | refine ⟨_, hC2 _ _ _ _ _ (by assumption), rfl, rfl, ?_⟩
      | refine ⟨ci_nonneg _, _, (by assumption), rfl, ?_⟩
      | refine ⟨_, (by assumption), rfl, ?_⟩
      | refine ⟨ci_nonneg _, (by simp only [wz, slen_scat]; omega), _, (by assumption), (by first | exact Nat.le_refl _ | (simp; done)), rfl, ?_⟩
      | refine ⟨(by first | exact fun u h => by rw [List.mem_singleton.1 h]; rfl | exact cells_dRs _ | assumption), (by simp only [wz, slen_scat]; omega), ?_⟩
      | refine ⟨ci_nonneg _, _, (by assumption), ?_⟩
      | refine ⟨_, (by assumption), ?_⟩
      | refine BrG.yes (by first | assumption | decide) ?_
      | refine BrG.no (by first | assumption | decide) ?_
      | refine ⟨(by simp only [wz]; omega), ?_⟩
    (generalize hΩ : Ω = ω, hΨ : Ψ = ψ; cbv <;> subst hΩ hΨ <;> try simp only [lits, true_and, Int.reduceAdd, Int.reduceSub, Int.reduceMul, not_u32, slen_nil, tn_ci, tn_zero, tn_one, tn_two, slen_lims, slen_dRs, slen_dVs, slen_dBs])))
  all_goals with_reducible exact q.out) : P := h ⟨q⟩
def byt (B : ByteArray) : List Nat := B.data.toList.map fun c => c.toNat
theorem bsz_byt (B : ByteArray) : Ω .bsz B = (byt B).length := by
  unfold byt; rw [w_bsz, List.length_map, Array.length_toList]; rfl
theorem bget_byt (B : ByteArray) (k : Nat) : Ω .bget B k = (byt B)[k]? := by
  unfold byt
  rw [w_bget, List.getElem?_map]
  congr 1
  by_cases h : k < B.size
  · rw [getElem?_pos B k h, Array.getElem?_toList, getElem?_pos B.data k h]; rfl
  · rw [getElem?_neg B k h, Array.getElem?_toList, getElem?_neg B.data k h]
theorem byt_bext (B : ByteArray) (i j : Nat) : byt (Ω .bext B i j) = ((byt B).drop i).take (j - i) := by
  unfold byt
  rw [w_bext, ByteArray.data_extract, Array.toList_extract, List.extract_eq_take_drop, List.map_take, List.map_drop]
theorem byt_bcat (A B : ByteArray) : byt (Ω .bcat A B) = byt A ++ byt B := by
  unfold byt
  rw [w_bcat, ByteArray.data_append, Array.toList_append, List.map_append]
theorem byt_inj {A B : ByteArray} (h : byt A = byt B) : A = B := by
  unfold byt at h
  have : A.data.toList = B.data.toList := List.map_inj_right (fun a b h => UInt8.toNat_inj.1 h) |>.1 h
  cases A; cases B
  congr 1
  exact Array.toList_inj.1 this
theorem beqs_byt (A B : ByteArray) : Ω .beqs A B = decide (byt A = byt B) := by
  rw [w_beqs, ByteArray.toList_eq, ByteArray.toList_eq]
  by_cases h : byt A = byt B
  · rw [decide_eq_true h, byt_inj h]; simp
  · rw [decide_eq_false h]
    refine beq_eq_false_iff_ne.2 (fun c => h ?_)
    unfold byt; rw [c]
theorem bnes_byt (A B : ByteArray) : Ω .bnes A B = !decide (byt A = byt B) := by
  rw [← beqs_byt, w_bnes, w_beqs]
theorem byt_lt {B : ByteArray} {k c : Nat} (h : (byt B)[k]? = some c) : c < 256 := by
  unfold byt at h
  rw [List.getElem?_map] at h
  obtain ⟨x, _, rfl⟩ := Option.map_eq_some_iff.1 h
  exact x.toNat_lt
def isDig (c : Nat) : Bool := decide (48 ≤ c) && decide (c ≤ 57)
def digS (l : List Nat) : Nat := (l.takeWhile isDig).length
def numS (l : List Nat) : Nat := l.foldl (fun a c => 10 * a + (c - 48)) 0
theorem digS_eq {l : List Nat} : ∀ {n : Nat}, n ≤ l.length → (l.take n).all isDig = true → (∀ c, l[n]? = some c → isDig c = false) → digS l = n := by
  unfold digS
  induction l with
  | nil => intro n h1 _ _; simp at h1; simp [h1]
  | cons a l ih =>
    intro n h1 h2 h3
    cases n with
    | zero =>
      have := h3 a rfl
      rw [List.takeWhile_cons, this]; rfl
    | succ n =>
      rw [List.take_succ_cons, List.all_cons, Bool.and_eq_true] at h2
      rw [List.takeWhile_cons, h2.1]
      simp only [if_true, List.length_cons]
      rw [ih (by simpa using h1) h2.2 (fun c h => h3 c (by simpa using h))]
theorem numS_snoc (l : List Nat) (c : Nat) : numS (l ++ [c]) = 10 * numS l + (c - 48) := by simp [numS]
theorem numS_lt {l : List Nat} (h : ∀ c, c ∈ l → c ≤ 57) : numS l < 4294967296 ^ (l.length + 1) := by
  suffices hh : ∀ (l : List Nat), (∀ c, c ∈ l.reverse → c ≤ 57) → numS l.reverse < 4294967296 ^ (l.length + 1) by
    have := hh l.reverse (by rw [List.reverse_reverse]; exact h)
    rwa [List.reverse_reverse, List.length_reverse] at this
  intro l
  induction l with
  | nil => intro _; simp [numS]
  | cons a l ih =>
    intro h
    rw [List.reverse_cons, numS_snoc]
    have h1 := ih (fun c hc => h c (by rw [List.reverse_cons]; exact List.mem_append_left _ hc))
    have h2 := h a (by rw [List.reverse_cons]; exact List.mem_append_right _ (List.mem_singleton.2 rfl))
    rw [List.length_cons, Nat.pow_succ]
    generalize 4294967296 ^ (l.length + 1) = M at *
    omega
end Go.K
namespace Go.K.S
open Go Go.K
set_option maxHeartbeats 8000000
set_option maxRecDepth 20000
theorem digits4_good (B : ByteArray) (hl : (byt B).length < 1099511627776) : Good P F.penumbraref04_Digits [.d (.s B)] [] (.d (.i .i64 (Ω .ci (digS (byt B))))) [] := by
  refine G.penumbraref04_Digits fun C C2 hC hC2 => ?_
  have hz := bsz_byt B
  have hg := bget_byt B
  have hd := @digS_eq (byt B)
  generalize byt B = l at *
  generalize hR : digS l = R at *
  refine rs ?_
  refine LoopG.intro (σ := Nat) [0, 3] [] (fun n => [.d (.s B), .d (.i .i64 (Ω .ci n))]) (fun _ => []) (fun n => n ≤ l.length ∧ (l.take n).all isDig = true) (fun n => l.length - n) 0 [] ⟨Nat.zero_le _, rfl⟩ ⟨rfl, rfl, rfl⟩ ?_
  rintro n ⟨hn, ha⟩
  have hw := wrap_succ (n := n) (by omega)
  rcases Nat.lt_or_ge n l.length with hlt | hge
  · obtain ⟨c, hc⟩ : ∃ c, l[n]? = some c := ⟨_, List.getElem?_eq_getElem hlt⟩
    have hgc : Ω .bget B n = some c := by rw [hg, hc]
    have q0 : Ω .lt (Ω .ci n) (Ω .ci (Ω .bsz B)) = true := by rw [hz]; simp only [wz]; omega
    have hst := fun (h : isDig c = true) => (all_take_succ (p := isDig) hc).trans (by rw [ha, h, Bool.and_true])
    have hend := fun (h : isDig c = false) => hd (n := n) hn ha (fun c' h' => by rw [hc] at h'; cases h'; exact h)
    unfold isDig at hst hend
    by_cases h1 : 48 ≤ c
    · have q1 : Ω .le 48 (Ω .ci c) = true := le_true.2 (by rw [w_ci]; omega)
      by_cases h2 : c ≤ 57
      · have q2 : Ω .le (Ω .ci c) 57 = true := le_true.2 (by rw [w_ci]; omega)
        refine rs ?_
        rw [hw]
        exact ⟨n + 1, [], ⟨hlt, hst (by rw [decide_eq_true h1, decide_eq_true h2]; rfl)⟩, by omega, rfl, rfl, rfl⟩
      · have q2 : Ω .le (Ω .ci c) 57 = false := le_false.2 (by rw [w_ci]; omega)
        have := hend (by rw [decide_eq_false h2, Bool.and_false])
        subst this
        exact rs trivial
    · have q1 : Ω .le 48 (Ω .ci c) = false := le_false.2 (by rw [w_ci]; omega)
      have := hend (by rw [decide_eq_false h1, Bool.false_and])
      subst this
      exact rs trivial
  · have q0 : Ω .lt (Ω .ci n) (Ω .ci (Ω .bsz B)) = false := by rw [hz]; simp only [wz]; omega
    have := hd (n := n) hn ha (fun c' h' => by rw [List.getElem?_eq_none hge] at h'; cases h')
    subst this
    exact rs trivial
theorem number4_good (B : ByteArray) (hl : (byt B).length < 1000000) (hd : ∀ c, c ∈ byt B → 48 ≤ c ∧ c ≤ 57) : Good P F.penumbraref04_Number [.d (.s B)] [] (.d (dN Ψ (Ψ .cn (numS (byt B))))) [] := by
  refine G.penumbraref04_Number fun C C2 hC hC2 => ?_
  have hz := bsz_byt B
  have hg := bget_byt B
  generalize byt B = l at *
  have hb : ∀ i, i ≤ l.length → numS (l.take i) < 4294967296 ^ (i + 1) := fun i hi => by
    have := numS_lt (l := l.take i) (fun c hc => (hd c (List.mem_of_mem_take hc)).2)
    rwa [List.length_take, Nat.min_eq_left hi] at this
  have hN : ∀ i, i ≤ l.length → N (Ψ .cn (numS (l.take i))) := fun i hi => ⟨lim_cn _, by have := len_cn.2 (hb i hi); omega⟩
  have hst : ∀ i c, l[i]? = some c → numS (l.take (i + 1)) = 10 * numS (l.take i) + (c - 48) := fun i c h => by rw [take_succ_of h, numS_snoc]
  have hNt : N [10] := ⟨by simp [lim_cons, lim_nil], by simp⟩
  have gm : ∀ i, i ≤ l.length → Good P F.penumbraref01_Mul [.d (dN Ψ (Ψ .cn (numS (l.take i)))), .d (dN Ψ [10])] [] (.d (dN Ψ (Ψ .cn (numS (l.take i) * 10)))) [] := fun i hi => by
    have := mul1_good (Ψ .cn (numS (l.take i))) [10] (hN i hi) hNt (by have := len_cn.2 (hb i hi); omega) (by simp)
    rw [nv_cn, show nv [10] = 10 by simp] at this
    exact this
  have ga : ∀ i c, l[i]? = some c → Good P F.penumbraref01_Add [.d (dN Ψ (Ψ .cn (numS (l.take i) * 10))), .d (dN Ψ [c - 48])] [] (.d (dN Ψ (Ψ .cn (numS (l.take (i + 1)))))) [] := fun i c h => by
    have hi : i < l.length := (List.getElem?_eq_some_iff.1 h).1
    have hc := hd c (List.mem_of_getElem? h)
    have hb1 : numS (l.take i) * 10 < 4294967296 ^ (i + 2) := by
      have := hb i (by omega)
      rw [Nat.pow_succ]
      generalize 4294967296 ^ (i + 1) = M at *
      omega
    have := add1_good (Ψ .cn (numS (l.take i) * 10)) [c - 48] ⟨lim_cn _, by have := len_cn.2 hb1; omega⟩ ⟨by simp [lim_cons, lim_nil]; omega, by simp⟩ (by have := len_cn.2 hb1; omega) (by simp)
    rw [nv_cn, show nv [c - 48] = c - 48 by simp, Nat.mul_comm, ← hst i c h] at this
    rw [Nat.mul_comm]
    exact this
  have gn := norm1_good (Ψ .cn (numS (l.take l.length))) (hN _ (Nat.le_refl _))
  rw [nv_cn] at gn
  have hend : numS (l.take l.length) = numS l := by rw [List.take_length]
  rw [← hend]
  clear hend
  have h0 : numS (l.take 0) = 0 := rfl
  obtain ⟨S, hS⟩ : ∃ S : Nat → Nat, S = fun i => numS (l.take i) := ⟨_, rfl⟩
  have eS : ∀ i, numS (l.take i) = S i := fun i => by rw [hS]
  simp only [eS] at gm ga gn h0 ⊢
  clear hb hN hst eS hS
  refine rs ?_
  refine LoopG.intro2 (σ := Bool × Nat) [0, 3, 4, 5] (fun s => if s.1 then [1050, 1051] else [1051])
    (fun s => [.d (.s B), if s.1 then .own 1050 1 else .d (dN Ψ (Ψ .cn (S s.2))), .own 1051 1, .d (.i .i64 (Ω .ci s.2))])
    (fun s => if s.1 then [.row true T.uint32 1 [], .row true T.uint32 1 [.i .u32 10]] else [.row false T.uint32 1 [.i .u32 10]])
    (fun s => s.2 ≤ l.length ∧ (s.1 = true → s.2 = 0)) (fun s => l.length - s.2) (true, 0) [1100, 1200] ⟨Nat.zero_le _, fun _ => rfl⟩ ⟨rfl, rfl, rfl⟩ ?_
  rintro ⟨fr, i⟩ ⟨hi, hfr⟩
  simp only at hi hfr
  have hw := wrap_succ (n := i) (by omega)
  rcases Nat.lt_or_ge i l.length with hlt | hge
  · obtain ⟨c, hc⟩ : ∃ c, l[i]? = some c := ⟨_, List.getElem?_eq_getElem hlt⟩
    have hgc : Ω .bget B i = some c := by rw [hg, hc]
    have hcd := hd c (List.mem_of_getElem? hc)
    have q0 : Ω .lt (Ω .ci i) (Ω .ci (Ω .bsz B)) = true := by rw [hz]; simp only [wz]; omega
    have g1 := gm i hi
    have g2 := ga i c hc
    have ec : Ω .wrap .u32 (Ω .wrap .u32 (Ω .ci c) - 48) = Ω .ci (c - 48) := by
      rw [wrapu32_ci, Nat.mod_eq_of_lt (by omega), wrapu32]; simp only [wz]; omega
    cases fr with
    | false =>
      refine rs ?_
      rw [ec]
      refine ⟨_, hC _ _ _ g2, ?_⟩
      refine rs ?_
      rw [hw]
      exact ⟨(false, i + 1), [1051], ⟨hlt, fun h => nomatch h⟩, by simp only; omega, rfl, rfl, rfl⟩
    | true =>
      have hi0 := hfr rfl
      subst hi0
      rw [h0, Nat.zero_mul, cn_zero] at g1
      rw [h0, Nat.zero_mul, cn_zero] at g2
      refine rs ?_
      rw [ec]
      refine ⟨_, hC _ _ _ g2, ?_⟩
      refine rs ?_
      rw [hw]
      exact ⟨(false, 0 + 1), [1051], ⟨hlt, fun h => nomatch h⟩, by simp only; omega, rfl, rfl, rfl⟩
  · obtain rfl : i = l.length := by omega
    have q0 : Ω .lt (Ω .ci l.length) (Ω .ci (Ω .bsz B)) = false := by rw [hz]; simp only [wz]; omega
    cases fr with
    | false => exact rs trivial
    | true =>
      have hi0 := hfr rfl
      have hs0 : S l.length = 0 := by rw [hi0]; exact h0
      rw [hs0, cn_zero] at gn ⊢
      exact rs trivial
end Go.K.S
end
section
namespace Go.K
open Go
def ofB (l : List Nat) : ByteArray := ⟨(l.map UInt8.ofNat).toArray⟩
theorem byt_ofB {l : List Nat} (h : ∀ c, c ∈ l → c < 256) : byt (ofB l) = l := by
  unfold byt ofB
  simp only [List.map_map]
  rw [List.map_congr_left (g := id)]
  · simp
  · intro c hc
    have := h c hc
    simp
    omega
theorem byt_mem {B : ByteArray} {c : Nat} (h : c ∈ byt B) : c < 256 := by
  obtain ⟨k, hk⟩ := List.getElem?_of_mem h
  exact byt_lt hk
theorem ofB_byt (B : ByteArray) : ofB (byt B) = B := byt_inj (byt_ofB fun c h => byt_mem h)
theorem eq_ofB {B : ByteArray} {l : List Nat} (h : byt B = l) : B = ofB l := by rw [← h, ofB_byt]
def linesB : List Nat → List Nat → List (List Nat)
  | [], acc => [acc]
  | c :: l, acc => if c = 10 then acc :: linesB l [] else linesB l (acc ++ [c])
def blankB (c : Nat) : Bool := decide (c = 9) || (decide (c = 13) || decide (c = 32))
def wordsB : List Nat → List Nat → List (List Nat)
  | [], acc => if acc = [] then [] else [acc]
  | c :: l, acc => if c = 35 then (if acc = [] then [] else [acc]) else if blankB c then (if acc = [] then wordsB l [] else acc :: wordsB l []) else wordsB l (acc ++ [c])
def strsD (l : List (List Nat)) : List D := l.map fun x => .s (ofB x)
theorem strsD_snoc (l : List (List Nat)) (x : List Nat) : Ω .scat (strsD l) [.s (ofB x)] = strsD (l ++ [x]) := by simp [strsD, w_scat]
theorem slen_strsD (l : List (List Nat)) : Ω .slen (strsD l) = l.length := by simp [strsD, w_slen]
theorem sget_strsD {l : List (List Nat)} {i : Nat} {x : List Nat} (h : l[i]? = some x) : Ω .sget (strsD l) i = some (.s (ofB x)) := by simp [strsD, w_sget, h]
theorem drop_cons {α : Type} {l : List α} {i : Nat} {c : α} (h : l[i]? = some c) : l.drop i = c :: l.drop (i + 1) := by
  have hi : i < l.length := (List.getElem?_eq_some_iff.1 h).1
  rw [List.drop_eq_getElem_cons hi]
  congr 1
  exact (List.getElem?_eq_some_iff.1 h).2
theorem ext_snoc {l : List Nat} {f i c : Nat} (h : l[i]? = some c) (hf : f ≤ i) : ((l.drop f).take (i - f)) ++ [c] = (l.drop f).take (i + 1 - f) := by
  rw [show i + 1 - f = i - f + 1 by omega, List.take_add_one, List.getElem?_drop, show f + (i - f) = i by omega, h]; rfl
end Go.K
namespace Go.K.S
open Go Go.K
set_option maxHeartbeats 8000000
set_option maxRecDepth 20000
theorem lines9_good (B : ByteArray) (hl : (byt B).length < 1000000) : Good P F.penumbraref09_Lines [.d (.s B)] [] (.d (.sl (strsD (linesB (byt B) [])))) [] := by
  refine G.penumbraref09_Lines fun C C2 hC hC2 => ?_
  have hz := bsz_byt B
  have hg := bget_byt B
  have he := fun i j => byt_bext B i j
  obtain ⟨l, hlB⟩ : ∃ l, l = byt B := ⟨_, rfl⟩
  rw [← hlB] at hz hg he hl ⊢
  have ho : ∀ f i, Ω .bext B f i = ofB ((l.drop f).take (i - f)) := fun f i => eq_ofB (he f i)
  clear hlB he
  have hsn := strsD_snoc
  have hsl := slen_strsD
  have hs0 : strsD [] = [] := rfl
  generalize strsD = SD at *
  obtain ⟨R, hR⟩ : ∃ R, R = linesB l [] := ⟨_, rfl⟩
  rw [← hR]
  refine rs ?_
  refine LoopG.intro (σ := List (List Nat) × Nat × Nat) [0, 3, 4, 5] [1050] (fun s => [.d (.s B), .own 1050 1, .d (.i .i64 (Ω .ci s.2.1)), .d (.i .i64 (Ω .ci s.2.2))]) (fun s => [.row true T.string 1 (SD s.1)])
    (fun s => s.2.1 ≤ s.2.2 ∧ s.2.2 ≤ l.length ∧ s.1.length ≤ s.2.2 ∧ s.1 ++ linesB (l.drop s.2.2) ((l.drop s.2.1).take (s.2.2 - s.2.1)) = R) (fun s => l.length - s.2.2) ([], 0, 0) [1100] ⟨Nat.le_refl _, Nat.zero_le _, Nat.le_refl _, by simp [hR]⟩ ⟨rfl, rfl, (by rw [hs0]; rfl)⟩ ?_
  rintro ⟨out, f, i⟩ ⟨h1, h2, h3, h4⟩
  simp only at h1 h2 h3 h4
  have hw := wrap_succ (n := i) (by omega)
  have hlo := hsl out
  have hx := hsn out ((l.drop f).take (i - f))
  rcases Nat.lt_or_ge i l.length with hlt | hge
  · obtain ⟨c, hc⟩ : ∃ c, l[i]? = some c := ⟨_, List.getElem?_eq_getElem hlt⟩
    have hgc : Ω .bget B i = some c := by rw [hg, hc]
    have q0 : Ω .lt (Ω .ci i) (Ω .ci (Ω .bsz B)) = true := by rw [hz]; simp only [wz]; omega
    rw [drop_cons hc, linesB] at h4
    by_cases h10 : c = 10
    · have q1 : Ω .eq (Ω .ci c) 10 = true := eq_true'.2 (by rw [w_ci]; omega)
      rw [if_pos h10] at h4
      refine rs ?_
      rw [hw]
      refine ⟨(out ++ [(l.drop f).take (i - f)], i + 1, i + 1), [1706], ⟨Nat.le_refl _, hlt, by simp only [List.length_append, List.length_cons, List.length_nil]; omega, ?_⟩, by simp only; omega, rfl, rfl, (by simp only; rw [← hx, ← ho]; rfl)⟩
      simp only
      rw [← h4, List.append_assoc, Nat.sub_self, List.take_zero]; rfl
    · have q1 : Ω .eq (Ω .ci c) 10 = false := eq_false'.2 (by rw [w_ci]; omega)
      rw [if_neg h10, ext_snoc hc h1] at h4
      refine rs ?_
      rw [hw]
      exact ⟨(out, f, i + 1), [1050], ⟨by simp only; omega, hlt, by simp only; omega, h4⟩, by simp only; omega, rfl, rfl, rfl⟩
  · obtain rfl : i = l.length := by omega
    have q0 : Ω .lt (Ω .ci l.length) (Ω .ci (Ω .bsz B)) = false := by rw [hz]; simp only [wz]; omega
    rw [List.drop_length, linesB] at h4
    have hoE : Ω .bext B f (Ω .bsz B) = ofB ((l.drop f).take (l.length - f)) := by rw [hz]; exact ho f l.length
    rw [← h4, ← hx, ← hoE]
    exact rs trivial
theorem words9_good (B : ByteArray) (hl : (byt B).length < 1000000) : Good P F.penumbraref09_Words [.d (.s B)] [] (.d (.sl (strsD (wordsB (byt B) [])))) [] := by
  refine G.penumbraref09_Words fun C C2 hC hC2 => ?_
  have hz := bsz_byt B
  have hg := bget_byt B
  have he := fun i j => byt_bext B i j
  have hb256 : ∀ c, c ∈ byt B → c < 256 := fun c h => byt_mem h
  obtain ⟨l, hlB⟩ : ∃ l, l = byt B := ⟨_, rfl⟩
  rw [← hlB] at hz hg he hl hb256 ⊢
  have hcat : ∀ (acc : List Nat) (i c : Nat), (∀ x, x ∈ acc → x < 256) → l[i]? = some c → Ω .bcat (ofB acc) (Ω .bext B i (i + 1)) = ofB (acc ++ [c]) := fun acc i c ha hc => by
    refine eq_ofB ?_
    rw [byt_bcat, byt_ofB ha, he, drop_cons hc, show i + 1 - i = 1 by omega]; rfl
  have hsz : ∀ (acc : List Nat), (∀ x, x ∈ acc → x < 256) → Ω .bsz (ofB acc) = acc.length := fun acc ha => by rw [bsz_byt, byt_ofB ha]
  have hne : ∀ (acc : List Nat), (∀ x, x ∈ acc → x < 256) → Ω .bnes (ofB acc) ⟨#[]⟩ = !decide (acc = []) := fun acc ha => by rw [bnes_byt, byt_ofB ha]; rfl
  have hbz : ∀ i, i < l.length → Ω .bsz (Ω .bext B i (i + 1)) = 1 := fun i hi => by
    rw [bsz_byt, he, List.length_take, List.length_drop]; omega
  clear hlB he
  have hsn := strsD_snoc
  have hsl := slen_strsD
  have hs0 : strsD [] = [] := rfl
  have ho0 : ofB [] = ⟨#[]⟩ := rfl
  generalize strsD = SD at *
  generalize ofB = OB at *
  obtain ⟨R, hR⟩ : ∃ R, R = wordsB l [] := ⟨_, rfl⟩
  rw [← hR]
  have hfin : ∀ (out : List (List Nat)) (acc : List Nat), out ++ (if acc = [] then [] else [acc]) = R → acc = [] ∧ out = R ∨ acc ≠ [] ∧ out ++ [acc] = R := fun out acc h => by
    by_cases c : acc = []
    · rw [if_pos c, List.append_nil] at h; exact .inl ⟨c, h⟩
    · rw [if_neg c] at h; exact .inr ⟨c, h⟩
  refine rs ?_
  refine LoopG.intro (σ := List (List Nat) × List Nat × Nat) [0, 3, 4, 5] [1050] (fun s => [.d (.s B), .own 1050 1, .d (.s (OB s.2.1)), .d (.i .i64 (Ω .ci s.2.2))]) (fun s => [.row true T.string 1 (SD s.1)])
    (fun s => s.2.2 ≤ l.length ∧ s.1.length ≤ s.2.2 ∧ s.2.1.length ≤ s.2.2 ∧ (∀ x, x ∈ s.2.1 → x < 256) ∧ s.1 ++ wordsB (l.drop s.2.2) s.2.1 = R) (fun s => l.length - s.2.2) ([], [], 0) [1100]
      ⟨Nat.zero_le _, Nat.le_refl _, Nat.le_refl _, fun x h => (nomatch h), by simp [hR]⟩ ⟨rfl, (by simp only [ho0]; rfl), (by rw [hs0]; rfl)⟩ ?_
  rintro ⟨out, acc, i⟩ ⟨h1, h2, h2', h3, h4⟩
  simp only at h1 h2 h2' h3 h4
  have hw := wrap_succ (n := i) (by omega)
  have hlo := hsl out
  have hx := hsn out acc
  have hn := hne acc h3
  rcases Nat.lt_or_ge i l.length with hlt | hge
  · obtain ⟨c, hc⟩ : ∃ c, l[i]? = some c := ⟨_, List.getElem?_eq_getElem hlt⟩
    have hgc : Ω .bget B i = some c := by rw [hg, hc]
    have q0 : Ω .lt (Ω .ci i) (Ω .ci (Ω .bsz B)) = true := by rw [hz]; simp only [wz]; omega
    rw [drop_cons hc, wordsB] at h4
    by_cases h35 : c = 35
    · have q1 : Ω .ne (Ω .ci c) 35 = false := ne_false'.2 (by rw [w_ci]; omega)
      rw [if_pos h35] at h4
      rcases hfin out acc h4 with ⟨a1, a2⟩ | ⟨a1, a2⟩
      · have qn : Ω .bnes (OB acc) ⟨#[]⟩ = false := by rw [hn, decide_eq_true a1]; rfl
        rw [← a2]
        exact rs trivial
      · have qn : Ω .bnes (OB acc) ⟨#[]⟩ = true := by rw [hn, decide_eq_false a1]; rfl
        rw [← a2, ← hx]
        exact rs trivial
    have q1 : Ω .ne (Ω .ci c) 35 = true := ne_true'.2 (by rw [w_ci]; omega)
    rw [if_neg h35] at h4
    have b1 : Ω .eq (Ω .ci c) 9 = decide (c = 9) := by rw [q_eq, w_ci]; exact decide_eq_decide.2 (by omega)
    have b2 : Ω .eq (Ω .ci c) 13 = decide (c = 13) := by rw [q_eq, w_ci]; exact decide_eq_decide.2 (by omega)
    have b3 : Ω .eq (Ω .ci c) 32 = decide (c = 32) := by rw [q_eq, w_ci]; exact decide_eq_decide.2 (by omega)
    by_cases hb : blankB c = true
    · rw [if_pos hb] at h4
      have hnext : ∃ out', (acc = [] ∧ out' = out ∨ acc ≠ [] ∧ out' = out ++ [acc]) ∧ out' ++ wordsB (l.drop (i + 1)) [] = R := by
        by_cases ca : acc = []
        · rw [if_pos ca] at h4; exact ⟨out, .inl ⟨ca, rfl⟩, h4⟩
        · rw [if_neg ca] at h4; exact ⟨out ++ [acc], .inr ⟨ca, rfl⟩, by rw [List.append_assoc]; exact h4⟩
      obtain ⟨out', ho', hR'⟩ := hnext
      unfold blankB at hb
      generalize decide (c = 9) = t1 at *
      generalize decide (c = 13) = t2 at *
      generalize decide (c = 32) = t3 at *
      rcases ho' with ⟨a1, a2⟩ | ⟨a1, a2⟩
      · have qn : Ω .bnes (OB acc) ⟨#[]⟩ = false := by rw [hn, decide_eq_true a1]; rfl
        subst a2
        have fin : ∀ s : Unit, True := fun _ => trivial
        cases t1 with
        | true =>
          refine rs ?_
          rw [hw]
          exact ⟨(out', [], i + 1), [1050], ⟨hlt, by simp only; omega, Nat.zero_le _, fun x h => (nomatch h), hR'⟩, by simp only; omega, rfl, (by simp only [ho0]; rfl), rfl⟩
        | false =>
          cases t2 with
          | true =>
            refine rs ?_
            rw [hw]
            exact ⟨(out', [], i + 1), [1050], ⟨hlt, by simp only; omega, Nat.zero_le _, fun x h => (nomatch h), hR'⟩, by simp only; omega, rfl, (by simp only [ho0]; rfl), rfl⟩
          | false =>
            cases t3 with
            | false => exact nomatch hb
            | true =>
              refine rs ?_
              rw [hw]
              exact ⟨(out', [], i + 1), [1050], ⟨hlt, by simp only; omega, Nat.zero_le _, fun x h => (nomatch h), hR'⟩, by simp only; omega, rfl, (by simp only [ho0]; rfl), rfl⟩
      · have qn : Ω .bnes (OB acc) ⟨#[]⟩ = true := by rw [hn, decide_eq_false a1]; rfl
        subst a2
        have hlo2 : (out ++ [acc]).length = out.length + 1 := by rw [List.length_append]; rfl
        cases t1 with
        | true =>
          refine rs ?_
          rw [hw]
          exact ⟨(out ++ [acc], [], i + 1), [1803], ⟨hlt, by simp only; omega, Nat.zero_le _, fun x h => (nomatch h), hR'⟩, by simp only; omega, rfl, (by simp only [ho0]; rfl), (by simp only; rw [← hx]; rfl)⟩
        | false =>
          cases t2 with
          | true =>
            refine rs ?_
            rw [hw]
            exact ⟨(out ++ [acc], [], i + 1), [1803], ⟨hlt, by simp only; omega, Nat.zero_le _, fun x h => (nomatch h), hR'⟩, by simp only; omega, rfl, (by simp only [ho0]; rfl), (by simp only; rw [← hx]; rfl)⟩
          | false =>
            cases t3 with
            | false => exact nomatch hb
            | true =>
              refine rs ?_
              rw [hw]
              exact ⟨(out ++ [acc], [], i + 1), [1803], ⟨hlt, by simp only; omega, Nat.zero_le _, fun x h => (nomatch h), hR'⟩, by simp only; omega, rfl, (by simp only [ho0]; rfl), (by simp only; rw [← hx]; rfl)⟩
    · rw [if_neg hb] at h4
      unfold blankB at hb
      have d1 : c ≠ 9 := fun e => hb (by simp [e])
      have d2 : c ≠ 13 := fun e => hb (by simp [e])
      have d3 : c ≠ 32 := fun e => hb (by simp [e])
      rw [decide_eq_false d1] at b1
      rw [decide_eq_false d2] at b2
      rw [decide_eq_false d3] at b3
      have hcc := hcat acc i c h3 hc
      have hz1 := hsz acc h3
      have hz2 := hbz i hlt
      refine rs ?_
      rw [hw]
      refine rs ?_
      refine ⟨(out, acc ++ [c], i + 1), [1050], ⟨hlt, by simp only; omega, by simp only [List.length_append, List.length_cons, List.length_nil]; omega, fun x h => ?_, h4⟩, by simp only; omega, rfl, (by simp only; rw [← hcc]; rfl), rfl⟩
      simp only [List.mem_append, List.mem_singleton] at h
      rcases h with h | rfl
      · exact h3 x h
      · exact hb256 _ (List.mem_of_getElem? hc)
  · obtain rfl : i = l.length := by omega
    have q0 : Ω .lt (Ω .ci l.length) (Ω .ci (Ω .bsz B)) = false := by rw [hz]; simp only [wz]; omega
    rw [List.drop_length, wordsB] at h4
    rcases hfin out acc h4 with ⟨a1, a2⟩ | ⟨a1, a2⟩
    · have qn : Ω .bnes (OB acc) ⟨#[]⟩ = false := by rw [hn, decide_eq_true a1]; rfl
      rw [← a2]
      exact rs trivial
    · have qn : Ω .bnes (OB acc) ⟨#[]⟩ = true := by rw [hn, decide_eq_false a1]; rfl
      rw [← a2, ← hx]
      exact rs trivial
end Go.K.S
end
section
namespace Go.K
open Go
def parseS (l : List Nat) : Option Rat :=
  let neg := decide (l.head? = some 45)
  let s := if neg then l.drop 1 else l
  let n := digS s
  if n = 0 then none
  else if n = s.length then some (mkRat (sg neg (numS (s.take n))) 1)
  else if s[n]? = some 47 ∧ digS (s.drop (n + 1)) ≠ 0 ∧ n + 1 + digS (s.drop (n + 1)) = s.length ∧ numS (s.drop (n + 1)) ≠ 0 then some (mkRat (sg neg (numS (s.take n))) (numS (s.drop (n + 1))))
  else none
theorem digS_take (l : List Nat) : l.take (digS l) = l.takeWhile isDig := by
  unfold digS
  exact List.prefix_iff_eq_take.1 (List.takeWhile_prefix isDig) |>.symm
theorem digS_le (l : List Nat) : digS l ≤ l.length := by
  unfold digS
  exact (List.takeWhile_prefix isDig).length_le
theorem dig_of {l : List Nat} {c : Nat} (h : c ∈ l.take (digS l)) : 48 ≤ c ∧ c ≤ 57 := by
  rw [digS_take] at h
  have : isDig c = true := by
    have := List.all_takeWhile (p := isDig) (l := l)
    exact List.all_eq_true.1 this c h
  unfold isDig at this
  simpa using this
end Go.K
namespace Go.K.S
open Go Go.K
set_option maxHeartbeats 8000000
set_option maxRecDepth 20000
theorem pnum {B : ByteArray} {l : List Nat} (hb : byt B = l) (hl : l.length ≤ 20000) :
    Good P F.penumbraref04_Digits [.d (.s B)] [] (.d (.i .i64 (Ω .ci (digS l)))) [] ∧ Good P F.penumbraref04_Number [.d (.s (Ω .bext B 0 (digS l)))] [] (.d (dN Ψ (Ψ .cn (numS (l.take (digS l)))))) [] := by
  subst hb
  refine ⟨digits4_good B (by omega), ?_⟩
  have e : byt (Ω .bext B 0 (digS (byt B))) = (byt B).take (digS (byt B)) := by rw [byt_bext, List.drop_zero, Nat.sub_zero]
  have := number4_good (Ω .bext B 0 (digS (byt B))) (by rw [e, List.length_take]; omega) (fun c hc => by rw [e] at hc; exact dig_of hc)
  rw [e] at this
  exact this
theorem read_frac (neg : Bool) (n d : Nat) {k : Nat} (hn : n < 4294967296 ^ k) (hd : d < 4294967296 ^ k) (hk : k < 1000000) :
    Good P F.penumbraref03_Read [.d (.agg (dR Ψ ⟨neg, Ψ .cn n, Ψ .cn d⟩))] [] (.d (.agg (dR Ψ (Ψ .cr (mkRat (sg neg n) d))))) [] := by
  have := read3_good ⟨neg, Ψ .cn n, Ψ .cn d⟩ (k := k) ⟨lim_cn _, lim_cn _, len_cn.2 hn, len_cn.2 hd⟩ (by omega)
  rw [rv_mk, nv_cn, nv_cn] at this
  exact this
theorem parse4_good (B : ByteArray) {q : Rat} (h : parseS (byt B) = some q) (hl : (byt B).length ≤ 20000) : Good P F.penumbraref04_Parse [.d (.s B)] [] (.tup [.d (.agg (dR Ψ (Ψ .cr q))), .d (.i .i64 0)]) [] := by
  refine G.penumbraref04_Parse fun C C2 hC hC2 => ?_
  have hz := bsz_byt B
  have q0 : Ω .lt 20000 (Ω .ci (Ω .bsz B)) = false := by rw [hz]; simp only [wz]; omega
  obtain ⟨c0, hc0⟩ : ∃ c, (byt B)[0]? = some c := by
    cases hb : byt B with
    | nil => rw [hb] at h; exact absurd h (fun c => nomatch (show (none : Option Rat) = some q from c))
    | cons a l => exact ⟨a, rfl⟩
  have hlen : 0 < (byt B).length := (List.getElem?_eq_some_iff.1 hc0).1
  have q1 : Ω .lt 0 (Ω .ci (Ω .bsz B)) = true := by rw [hz]; simp only [wz]; omega
  have hg0 : Ω .bget B 0 = some c0 := by rw [bget_byt]; exact hc0
  have hhead : (byt B).head? = some c0 := by rw [List.head?_eq_getElem?]; exact hc0
  have qn : Ω .eq (Ω .ci c0) 45 = decide (c0 = 45) := by rw [q_eq, w_ci]; exact decide_eq_decide.2 (by omega)
  unfold parseS at h
  rw [hhead] at h
  have hdn : decide (some c0 = some 45) = decide (c0 = 45) := decide_eq_decide.2 (by simp)
  rw [hdn] at h
  obtain ⟨B', hB'⟩ : ∃ B', B' = if decide (c0 = 45) then Ω .bext B 1 (Ω .bsz B) else B := ⟨_, rfl⟩
  obtain ⟨s, hs⟩ : ∃ s, s = if decide (c0 = 45) then (byt B).drop 1 else byt B := ⟨_, rfl⟩
  have hbs : byt B' = s := by
    rw [hB', hs]
    by_cases hc : c0 = 45
    · rw [decide_eq_true hc, if_pos rfl, if_pos rfl, byt_bext, hz]
      exact List.take_of_length_le (by rw [List.length_drop]; omega)
    · rw [decide_eq_false hc]; rfl
  have hsl : s.length ≤ 20000 := by rw [hs]; split <;> (try rw [List.length_drop]) <;> omega
  simp only at h
  rw [← hs] at h
  clear hs hdn hhead hc0
  have hz' := bsz_byt B'
  rw [hbs] at hz'
  have hle := digS_le s
  obtain ⟨g1, g2⟩ := pnum hbs hsl
  have g3 := zero3_good
  by_cases hn0 : digS s = 0
  · rw [if_pos hn0] at h; cases h
  rw [if_neg hn0] at h
  have q2 : Ω .eq (Ω .ci (digS s)) 0 = false := by simp only [wz]; omega
  obtain ⟨m, hm, hm2⟩ : ∃ m, 20001 ≤ m ∧ m ≤ 20002 := ⟨20001, by omega, by omega⟩
  have hb1 : numS (s.take (digS s)) < 4294967296 ^ m := Nat.lt_of_lt_of_le (numS_lt fun c hc => (dig_of hc).2) (B_mono (by rw [List.length_take]; omega))
  by_cases hn1 : digS s = s.length
  · rw [if_pos hn1] at h
    cases h
    have q3 : Ω .lt (Ω .ci (digS s)) (Ω .ci (Ω .bsz B')) = false := by rw [hz']; simp only [wz]; omega
    have gz := zero1_good [1] N_one
    rw [show decide (nv [1] = 0) = false from by simp] at gz
    have gr := read_frac (decide (c0 = 45)) (numS (s.take (digS s))) 1 hb1 (Nat.one_lt_pow (by omega) (by omega)) (by omega)
    rw [show Ψ .cn 1 = [1] from cn_one] at gr
    clear hb1 hm hm2
    generalize numS (s.take (digS s)) = num at *
    generalize Ψ .cr (mkRat (sg (decide (c0 = 45)) num) 1) = Q at *
    generalize digS s = n at *
    generalize decide (c0 = 45) = neg at *
    cases neg with
    | false =>
      simp only [Bool.false_eq_true, if_false] at hB'
      subst hB'
      exact rs trivial
    | true =>
      simp only [if_true] at hB'
      have hG : Hid _ := ⟨And.intro g1 g2⟩
      clear g1 g2
      refine rs ?_
      rw [← hB']
      clear hB'
      obtain ⟨g1, g2⟩ := hG.out
      exact rs trivial
  · rw [if_neg hn1] at h
    split at h
    · rename_i hh
      obtain ⟨x1, x2, x3, x4⟩ := hh
      cases h
      have q3 : Ω .lt (Ω .ci (digS s)) (Ω .ci (Ω .bsz B')) = true := by rw [hz']; simp only [wz]; omega
      have hb2 : byt (Ω .bext B' (digS s + 1) (Ω .bsz B')) = s.drop (digS s + 1) := by
        rw [byt_bext, hbs, hz']
        exact List.take_of_length_le (by rw [List.length_drop]; omega)
      have hl2 : (s.drop (digS s + 1)).length ≤ 20000 := by rw [List.length_drop]; omega
      have hk : digS (s.drop (digS s + 1)) = (s.drop (digS s + 1)).length := by rw [List.length_drop]; omega
      have gd := digits4_good (Ω .bext B' (digS s + 1) (Ω .bsz B')) (by rw [hb2]; omega)
      rw [hb2] at gd
      have gn := number4_good (Ω .bext B' (digS s + 1) (Ω .bsz B')) (by rw [hb2]; omega) (fun c hc => by
        rw [hb2] at hc
        exact dig_of (by rw [hk, List.take_length]; exact hc))
      rw [hb2] at gn
      have hb3 : numS (s.drop (digS s + 1)) < 4294967296 ^ m := Nat.lt_of_lt_of_le (numS_lt fun c hc => (dig_of (by rw [hk, List.take_length]; exact hc)).2) (B_mono (by omega))
      have gz := zero1_good (Ψ .cn (numS (s.drop (digS s + 1)))) ⟨lim_cn _, by have := len_cn.2 hb3; omega⟩
      rw [nv_cn, decide_eq_false x4] at gz
      have gr := read_frac (decide (c0 = 45)) (numS (s.take (digS s))) (numS (s.drop (digS s + 1))) hb1 hb3 (by omega)
      have hg47 : Ω .bget B' (digS s) = some 47 := by rw [bget_byt, hbs]; exact x1
      have q4 : Ω .eq (Ω .ci (digS (s.drop (digS s + 1)))) 0 = false := by simp only [wz]; omega
      have w1 : Ω .wrap .i64 (Ω .ci (digS s) + 1) = Ω .ci (digS s + 1) := wrap_succ (by omega)
      have w2 : Ω .wrap .i64 (Ω .ci (digS s + 1) + Ω .ci (digS (s.drop (digS s + 1)))) = Ω .ci (digS s + 1 + digS (s.drop (digS s + 1))) := wrap_add (by omega)
      have q5 : Ω .lt (Ω .ci (digS s + 1 + digS (s.drop (digS s + 1)))) (Ω .ci (Ω .bsz B')) = false := by rw [hz']; simp only [wz]; omega
      have q6 : Ω .ne (Ω .ci 47) 46 = true := by simp only [wz]; omega
      have q7 : Ω .ne (Ω .ci 47) 47 = false := by simp only [wz]; omega
      have q8 : Ω .eq (Ω .ci 47) 47 = true := by simp only [wz]; omega
      have hsl9 : digS s + 1 ≤ s.length := by omega
      clear hb1 hb2 hb3 hm hm2 hk x1 x2 x4
      generalize digS (s.drop (digS s + 1)) = kk at *
      generalize numS (s.take (digS s)) = num at *
      generalize numS (s.drop (digS s + 1)) = den at *
      generalize Ψ .cr (mkRat (sg (decide (c0 = 45)) num) den) = Q at *
      generalize digS s = n at *
      generalize decide (c0 = 45) = neg at *
      cases neg with
      | false =>
        simp only [Bool.false_eq_true, if_false] at hB'
        subst hB'
        refine rs ?_
        rw [w1]
        refine rs ?_
        rw [w1, w2]
        refine rs ?_
        rw [w1]
        exact rs trivial
      | true =>
        simp only [if_true] at hB'
        have hG : Hid _ := ⟨And.intro g1 (And.intro g2 (And.intro gd gn))⟩
        clear g1 g2 gd gn
        refine rs ?_
        rw [← hB']
        clear hB'
        obtain ⟨g1, g2, gd, gn⟩ := hG.out
        refine rs ?_
        rw [w1]
        refine rs ?_
        rw [w1, w2]
        refine rs ?_
        rw [w1]
        exact rs trivial
    · cases h
end Go.K.S
end
section
namespace Go.K
open Go
def headsB : List (List Nat) := [[119, 97, 118, 101, 115], [101, 121, 101], [108, 111, 111, 107], [102, 105, 108, 109], [116, 114, 105], [100, 105, 102, 102, 117, 115, 101], [109, 105, 114, 114, 111, 114], [103, 108, 97, 115, 115], [108, 105, 103, 104, 116]]
def crsD (l : List Rat) : List D := Ψ .dRs (l.map (Ψ .cr))
theorem crsD_snoc (l : List Rat) (q : Rat) : Ω .scat (crsD l) [.agg (dR Ψ (Ψ .cr q))] = crsD (l ++ [q]) := by
  unfold crsD; rw [List.map_append, ← scat_dRs]; rfl
theorem slen_crsD (l : List Rat) : Ω .slen (crsD l) = l.length := by unfold crsD; rw [slen_dRs, List.length_map]
theorem cr_nat (n : Nat) : Ψ .cr (n : Rat) = ⟨false, Ψ .cn n, [1]⟩ := by
  have h1 : ((n : Rat)).num = (n : Int) := rfl
  have h2 : ((n : Rat)).den = 1 := rfl
  rw [p_cr, h1, h2, show Ψ .cn 1 = [1] from cn_one, Int.natAbs_natCast, decide_eq_false (by omega)]
end Go.K
namespace Go.K.S
open Go Go.K
set_option maxHeartbeats 8000000
set_option maxRecDepth 20000
theorem place9_good (w : List Nat) (i : Nat) (hw256 : ∀ c, c ∈ w → c < 256) (hi : headsB[i]? = some w) : Good P F.penumbraref09_place [.d (.s (ofB w))] [] (.d (.i .i64 (Ω .ci i))) [] := by
  refine G.penumbraref09_place fun C C2 hC hC2 => ?_
  have hi9 : i < 9 := (List.getElem?_eq_some_iff.1 hi).1
  have hb : ∀ j x, headsB[j]? = some x → Ω .beqs (ofB x) (ofB w) = decide (j = i) := fun j x hx => by
    have hx256 : ∀ c, c ∈ x → c < 256 := by
      have : ∀ x, x ∈ headsB → ∀ c, c ∈ x → c < 256 := by decide
      exact this x (List.mem_of_getElem? hx)
    rw [beqs_byt, byt_ofB hx256, byt_ofB hw256]
    refine decide_eq_decide.2 ⟨fun e => ?_, fun e => ?_⟩
    · subst e
      have hnd : ∀ a b : Fin 9, headsB[a.val]? = headsB[b.val]? → a = b := by decide
      have hj9 : j < 9 := (List.getElem?_eq_some_iff.1 hx).1
      have := hnd ⟨j, hj9⟩ ⟨i, hi9⟩ (by simp only; rw [hx, hi])
      exact congrArg Fin.val this
    · subst e
      rw [hi] at hx
      exact (Option.some.inj hx).symm
  have hrow : (headsB.map fun x => (D.s (ofB x) : D)) = strsD headsB := rfl
  have hg : ∀ j x, headsB[j]? = some x → Ω .sget (strsD headsB) j = some (.s (ofB x)) := fun j x h => sget_strsD h
  have hl : Ω .slen (strsD headsB) = 9 := by rw [slen_strsD]; rfl
  obtain ⟨LL, hLL⟩ : ∃ LL, LL = strsD headsB := ⟨_, rfl⟩
  rw [← hLL] at hg hl
  have hH : headsB.length = 9 := rfl
  generalize ofB w = W at *
  refine rs ?_
  refine LoopG.intro (σ := Nat) [0, 3, 4] [1050] (fun j => [.d (.s W), .own 1050 1, .d (.i .i64 (Ω .ci j))]) (fun _ => [.row true T.string 1 LL]) (fun j => j ≤ i) (fun j => i - j) 0 [1100] (Nat.zero_le _) ⟨rfl, rfl, (by rw [hLL]; rfl)⟩ ?_
  intro j hj
  have hwr := wrap_succ (n := j) (by omega)
  obtain ⟨x, hx⟩ : ∃ x, headsB[j]? = some x := ⟨_, List.getElem?_eq_getElem (by omega)⟩
  have hx1 := hg j x hx
  have hq := hb j x hx
  have q0 : Ω .lt (Ω .ci j) (Ω .ci (Ω .slen LL)) = true := by rw [hl]; simp only [wz]; omega
  clear hg hb hLL hrow hi
  generalize ofB x = X at *
  by_cases e : j = i
  · subst e
    rw [decide_eq_true rfl] at hq
    exact rs trivial
  · rw [decide_eq_false e] at hq
    refine rs ?_
    rw [hwr]
    exact ⟨j + 1, [1050], by omega, by omega, rfl, rfl, rfl⟩
theorem numbers9_good (ws : List (List Nat)) (qs : List Rat) (hln : ws.length = qs.length) (hl : ws.length < 1000) (h256 : ∀ w, w ∈ ws → (∀ c, c ∈ w → c < 256) ∧ w.length ≤ 20000)
    (h : ∀ (i : Nat) (w : List Nat) (q : Rat), ws[i]? = some w → qs[i]? = some q → parseS w = some q) :
    Good P F.penumbraref09_numbers [.d (.sl (strsD ws))] [] (.tup [.d (.sl (crsD qs)), .d (.b true)]) [] := by
  refine G.penumbraref09_numbers fun C C2 hC hC2 => ?_
  have hsl := slen_strsD ws
  have hel : ∀ i, i < ws.length → ∃ B q, Ω .sget (strsD ws) i = some (.s B) ∧ Good P F.penumbraref04_Parse [.d (.s B)] [] (.tup [.d (.agg (dR Ψ (Ψ .cr q))), .d (.i .i64 0)]) [] ∧ Ω .scat (crsD (qs.take i)) [.agg (dR Ψ (Ψ .cr q))] = crsD (qs.take (i + 1)) := fun i hi => by
    obtain ⟨w, hw⟩ : ∃ w, ws[i]? = some w := ⟨_, List.getElem?_eq_getElem hi⟩
    obtain ⟨q, hq⟩ : ∃ q, qs[i]? = some q := ⟨_, List.getElem?_eq_getElem (by omega)⟩
    have hm := h256 w (List.mem_of_getElem? hw)
    have e := byt_ofB hm.1
    exact ⟨ofB w, q, sget_strsD hw, parse4_good (ofB w) (by rw [e]; exact h i w q hw hq) (by rw [e]; exact hm.2), by rw [take_succ_of hq, crsD_snoc]⟩
  have hcl : ∀ i, i ≤ ws.length → Ω .slen (crsD (qs.take i)) = i := fun i hi => by rw [slen_crsD, List.length_take]; omega
  have h0 : crsD (qs.take 0) = [] := rfl
  have he : crsD qs = crsD (qs.take ws.length) := by rw [hln, List.take_length]
  rw [he]
  obtain ⟨S, hS⟩ : ∃ S : Nat → List D, S = fun i => crsD (qs.take i) := ⟨_, rfl⟩
  have eS : ∀ i, crsD (qs.take i) = S i := fun i => by rw [hS]
  simp only [eS] at hel hcl h0 ⊢
  clear eS hS he h h256
  generalize strsD ws = WD at *
  generalize ws.length = n at *
  refine rs ?_
  refine LoopG.intro (σ := Nat) [0, 4, 5] [1050] (fun i => [.d (.sl WD), .own 1050 3, .d (.i .i64 (Ω .ci i))]) (fun i => [.row true T.api_Rat 3 (S i)]) (fun i => i ≤ n) (fun i => n - i) 0 [1100] (Nat.zero_le _) ⟨rfl, rfl, (by rw [h0]; rfl)⟩ ?_
  intro i hi
  have hw := wrap_succ (n := i) (by omega)
  have hc := hcl i hi
  rcases Nat.lt_or_ge i n with hlt | hge
  · obtain ⟨B, q, x1, x2, x3⟩ := hel i hlt
    have q0 : Ω .lt (Ω .ci i) (Ω .ci (Ω .slen WD)) = true := by rw [hsl]; simp only [wz]; omega
    generalize Ψ .cr q = Q at *
    clear hel hcl
    refine rs ?_
    rw [hw]
    exact ⟨i + 1, [1803], hlt, by omega, rfl, rfl, (by rw [← x3]; rfl)⟩
  · obtain rfl : i = n := by omega
    have q0 : Ω .lt (Ω .ci i) (Ω .ci (Ω .slen WD)) = false := by rw [hsl]; simp only [wz]; omega
    clear hel hcl
    exact rs trivial
theorem whole9_good (n : Nat) (hn : n ≤ 1000000) : Good P F.penumbraref09_whole [.d (.agg (dR Ψ (Ψ .cr (n : Rat))))] [] (.d (.i .i64 (Ω .ci n))) [] := by
  refine G.penumbraref09_whole fun C C2 hC hC2 => ?_
  rw [cr_nat]
  have hb : n < 4294967296 ^ 1 := by omega
  have hl := len_cn.2 hb
  have g1 := same1_good [1] [1] (by simp) (by simp)
  rw [decide_eq_true rfl] at g1
  have g2 := cmp1_good (Ψ .cn n) [1000000] ⟨lim_cn _, by omega⟩ ⟨by simp [lim_cons, lim_nil], by simp⟩
  rw [nv_cn, show nv [1000000] = 1000000 by simp] at g2
  have hc := @cmpI_pos n 1000000
  have q1 : Ω .lt 0 (Ψ .cmpI n 1000000) = false := lt_false.2 (by have := mt hc.1 (by omega); omega)
  generalize Ψ .cmpI n 1000000 = c at *
  have hcn : Ψ .cn n = [] ∧ n = 0 ∨ Ψ .cn n = [n] ∧ n ≠ 0 := by
    by_cases h0 : n = 0
    · exact .inl ⟨by rw [h0, cn_zero], h0⟩
    · refine .inr ⟨?_, h0⟩
      have h1 := nv_cn n
      cases hx : Ψ .cn n with
      | nil => rw [hx] at h1; simp at h1; omega
      | cons a r =>
        rw [hx] at h1 hl
        have : r = [] := by cases r with | nil => rfl | cons b r => simp at hl
        subst this
        simp at h1
        rw [h1]
  rcases hcn with ⟨e, h0⟩ | ⟨e, h0⟩
  · rw [e] at g2 ⊢
    subst h0
    refine rs ?_
    refine LoopG.intro (σ := Unit) [1, 3, 4] [1050] (fun _ => [.ptr 1050 0, .d (.i .i64 0), .d (.i .i64 0)]) (fun _ => [.var ((dR Ψ ⟨false, [], [1]⟩).map V.d)]) (fun _ => True) (fun _ => 0) () [1000] trivial ⟨rfl, rfl, rfl⟩ ?_
    intro _ _
    have q2 : Ω .lt 0 (Ω .ci ([] : List Nat).length) = false := by simp only [wz]; simp
    refine rs ?_
    rfl
  · rw [e] at g2 ⊢
    refine rs ?_
    refine LoopG.intro (σ := Nat) [1, 3, 4] [1050] (fun i => [.ptr 1050 0, .d (.i .i64 (if i = 0 then 0 else Ω .ci n)), .d (.i .i64 (Ω .ci i))]) (fun _ => [.var ((dR Ψ ⟨false, [n], [1]⟩).map V.d)]) (fun i => i ≤ 1) (fun i => 1 - i) 0 [1000] (Nat.zero_le _) ⟨rfl, rfl, rfl⟩ ?_
    intro i hi
    have hx : Ω .sget (Ψ .lims [n]) 0 = some (.i .u32 (Ω .ci n)) := by rw [sget_lims]; rfl
    have hl1 : Ω .slen (Ψ .lims [n]) = 1 := by rw [slen_lims]; rfl
    rcases (show i = 0 ∨ i = 1 by omega) with rfl | rfl
    · have q2 : Ω .lt (Ω .ci 0) (Ω .ci ([n] : List Nat).length) = true := by simp only [wz]; simp
      have q3 : Ω .lt (Ω .ci 0) (Ω .ci (0 + 1)) = true := by simp only [wz]; omega
      have hw : Ω .wrap .i64 (Ω .ci 0 + 1) = Ω .ci 1 := wrap_succ (by omega)
      have hw2 : Ω .wrap .i64 (Ω .ci n) = Ω .ci n := wrap_ci (by omega)
      refine rs ?_
      rw [hw, hw2]
      exact ⟨1, [1050], by omega, by omega, rfl, rfl, rfl⟩
    · have q2 : Ω .lt (Ω .ci 1) (Ω .ci ([n] : List Nat).length) = false := by simp only [wz]; simp
      have q3 : Ω .lt (Ω .ci 1) (Ω .ci (0 + 1)) = false := by simp only [wz]; omega
      exact rs trivial
theorem vec9_good (XD : List D) (i : Nat) (k : Int) (hk : k = Ω .ci i) (hi : i < 1000) (x y z : RL) (hx : Ω .sget XD i = some (.agg (dR Ψ x))) (hy : Ω .sget XD (i + 1) = some (.agg (dR Ψ y))) (hz : Ω .sget XD (i + 2) = some (.agg (dR Ψ z))) :
    Good P F.penumbraref09_vec [.d (.sl XD), .d (.i .i64 k)] [] (.d (.agg (dV Ψ ⟨x, y, z⟩))) [] := by
  refine G.penumbraref09_vec fun C C2 hC hC2 => ?_
  subst hk
  have w1 : Ω .wrap .i64 (Ω .ci i + 1) = Ω .ci (i + 1) := wrap_succ (by omega)
  have w2 : Ω .wrap .i64 (Ω .ci i + 2) = Ω .ci (i + 2) := by
    rw [wrap64 (by simp only [wz]; omega) (by simp only [wz]; omega)]; simp only [wz]; omega
  refine rs ?_
  rw [w1]
  refine rs ?_
  rw [w2]
  exact rs trivial
end Go.K.S
end
section
namespace Go.K
open Go
def roomT : List Nat := [119, 97, 118, 101, 115, 32, 49, 10, 101, 121, 101, 32, 48, 32, 48, 32, 49, 10, 108, 111, 111, 107, 32, 48, 32, 48, 32, 49, 10, 102, 105, 108, 109, 32, 49, 32, 49, 32, 49, 10, 100, 105, 102, 102, 117, 115, 101, 32, 49, 47, 56, 10, 109, 105, 114, 114, 111, 114, 32, 49, 47, 50, 10, 116, 114, 105, 32, 48, 32, 45, 57, 32, 45, 57, 32, 48, 32, 49, 56, 32, 45, 57, 32, 48, 32, 45, 57, 32, 49, 56, 32, 48, 10, 116, 114, 105, 32, 49, 32, 45, 57, 32, 45, 57, 32, 50, 32, 45, 57, 32, 49, 56, 32, 50, 32, 49, 56, 32, 45, 57, 32, 50, 10]
def roomLs : List (List Nat) := [[119, 97, 118, 101, 115, 32, 49], [101, 121, 101, 32, 48, 32, 48, 32, 49], [108, 111, 111, 107, 32, 48, 32, 48, 32, 49], [102, 105, 108, 109, 32, 49, 32, 49, 32, 49], [100, 105, 102, 102, 117, 115, 101, 32, 49, 47, 56], [109, 105, 114, 114, 111, 114, 32, 49, 47, 50], [116, 114, 105, 32, 48, 32, 45, 57, 32, 45, 57, 32, 48, 32, 49, 56, 32, 45, 57, 32, 48, 32, 45, 57, 32, 49, 56, 32, 48], [116, 114, 105, 32, 49, 32, 45, 57, 32, 45, 57, 32, 50, 32, 45, 57, 32, 49, 56, 32, 50, 32, 49, 56, 32, 45, 57, 32, 50], []]
def roomW0 : List (List Nat) := [[119, 97, 118, 101, 115], [49]]
def roomW1 : List (List Nat) := [[101, 121, 101], [48], [48], [49]]
def roomW2 : List (List Nat) := [[108, 111, 111, 107], [48], [48], [49]]
def roomW3 : List (List Nat) := [[102, 105, 108, 109], [49], [49], [49]]
def roomW4 : List (List Nat) := [[100, 105, 102, 102, 117, 115, 101], [49, 47, 56]]
def roomW5 : List (List Nat) := [[109, 105, 114, 114, 111, 114], [49, 47, 50]]
def roomW6 : List (List Nat) := [[116, 114, 105], [48], [45, 57], [45, 57], [48], [49, 56], [45, 57], [48], [45, 57], [49, 56], [48]]
def roomW7 : List (List Nat) := [[116, 114, 105], [49], [45, 57], [45, 57], [50], [45, 57], [49, 56], [50], [49, 56], [45, 57], [50]]
def roomW8 : List (List Nat) := []
def roomW : Nat → List (List Nat)
  | 0 => roomW0
  | 1 => roomW1
  | 2 => roomW2
  | 3 => roomW3
  | 4 => roomW4
  | 5 => roomW5
  | 6 => roomW6
  | 7 => roomW7
  | 8 => roomW8
  | _ => []
theorem room_lines : linesB roomT [] = roomLs := by decide +kernel
theorem room_words : ∀ j, j < 9 → ∀ l, roomLs[j]? = some l → wordsB l [] = roomW j := by decide +kernel
def rMat0 : MatL := ⟨0, [Ψ .cr (mkRat 1 8)], Ψ .cr 0, Ψ .cr 0⟩
def rMat1 : MatL := ⟨1, [Ψ .cr (mkRat 1 2)], Ψ .cr 0, Ψ .cr 0⟩
def rv3 (a b c : Int) : VL := ⟨Ψ .cr (mkRat a 1), Ψ .cr (mkRat b 1), Ψ .cr (mkRat c 1)⟩
def rFace0 : FaceL := ⟨⟨rv3 (-9) (-9) 0, rv3 18 (-9) 0, rv3 (-9) 18 0⟩, 0⟩
def rFace1 : FaceL := ⟨⟨rv3 (-9) (-9) 2, rv3 (-9) 18 2, rv3 18 (-9) 2⟩, 1⟩
def roomS : ScL := ⟨[Ψ .cr (mkRat 1 1)], [rMat0, rMat1], [rFace0, rFace1], rv3 0 0 1, rv3 0 0 1, 1, 1, Ψ .cr (mkRat 1 1)⟩
def z3c : List V := [.d (.b false), .nil, .nil]
def stf (wv ma fa : V) (e l : List V) (w h : Int) (hf : List V) (b0 b1 b2 b3 : Bool) : List V :=
  wv :: ma :: fa :: (e ++ l ++ .d (.i .i64 w) :: .d (.i .i64 h) :: (hf ++ [.d (.b b0), .d (.b b1), .d (.b b2), .d (.b b3)]))
def z9c : List V := z3c ++ z3c ++ z3c
end Go.K
namespace Go.K.S
open Go Go.K
set_option maxHeartbeats 8000000
set_option maxRecDepth 20000
theorem nums0 : Good P F.penumbraref09_numbers [.d (.sl (strsD [[49]]))] [] (.tup [.d (.sl (crsD [mkRat 1 1])), .d (.b true)]) [] :=
  numbers9_good _ _ rfl (by decide) (by decide) (fun i w q h1 h2 => by
    have key : ∀ i, i < 1 → ∀ w, ([[49]] : List (List Nat))[i]? = some w → ∀ q, ([mkRat 1 1] : List Rat)[i]? = some q → parseS w = some q := by decide +kernel
    exact key i (List.getElem?_eq_some_iff.1 h1).1 w h1 q h2)
theorem nums1 : Good P F.penumbraref09_numbers [.d (.sl (strsD [[48], [48], [49]]))] [] (.tup [.d (.sl (crsD [mkRat 0 1, mkRat 0 1, mkRat 1 1])), .d (.b true)]) [] :=
  numbers9_good _ _ rfl (by decide) (by decide) (fun i w q h1 h2 => by
    have key : ∀ i, i < 3 → ∀ w, ([[48], [48], [49]] : List (List Nat))[i]? = some w → ∀ q, ([mkRat 0 1, mkRat 0 1, mkRat 1 1] : List Rat)[i]? = some q → parseS w = some q := by decide +kernel
    exact key i (List.getElem?_eq_some_iff.1 h1).1 w h1 q h2)
theorem nums2 : Good P F.penumbraref09_numbers [.d (.sl (strsD [[48], [48], [49]]))] [] (.tup [.d (.sl (crsD [mkRat 0 1, mkRat 0 1, mkRat 1 1])), .d (.b true)]) [] :=
  numbers9_good _ _ rfl (by decide) (by decide) (fun i w q h1 h2 => by
    have key : ∀ i, i < 3 → ∀ w, ([[48], [48], [49]] : List (List Nat))[i]? = some w → ∀ q, ([mkRat 0 1, mkRat 0 1, mkRat 1 1] : List Rat)[i]? = some q → parseS w = some q := by decide +kernel
    exact key i (List.getElem?_eq_some_iff.1 h1).1 w h1 q h2)
theorem nums3 : Good P F.penumbraref09_numbers [.d (.sl (strsD [[49], [49], [49]]))] [] (.tup [.d (.sl (crsD [mkRat 1 1, mkRat 1 1, mkRat 1 1])), .d (.b true)]) [] :=
  numbers9_good _ _ rfl (by decide) (by decide) (fun i w q h1 h2 => by
    have key : ∀ i, i < 3 → ∀ w, ([[49], [49], [49]] : List (List Nat))[i]? = some w → ∀ q, ([mkRat 1 1, mkRat 1 1, mkRat 1 1] : List Rat)[i]? = some q → parseS w = some q := by decide +kernel
    exact key i (List.getElem?_eq_some_iff.1 h1).1 w h1 q h2)
theorem nums4 : Good P F.penumbraref09_numbers [.d (.sl (strsD [[49, 47, 56]]))] [] (.tup [.d (.sl (crsD [mkRat 1 8])), .d (.b true)]) [] :=
  numbers9_good _ _ rfl (by decide) (by decide) (fun i w q h1 h2 => by
    have key : ∀ i, i < 1 → ∀ w, ([[49, 47, 56]] : List (List Nat))[i]? = some w → ∀ q, ([mkRat 1 8] : List Rat)[i]? = some q → parseS w = some q := by decide +kernel
    exact key i (List.getElem?_eq_some_iff.1 h1).1 w h1 q h2)
theorem nums5 : Good P F.penumbraref09_numbers [.d (.sl (strsD [[49, 47, 50]]))] [] (.tup [.d (.sl (crsD [mkRat 1 2])), .d (.b true)]) [] :=
  numbers9_good _ _ rfl (by decide) (by decide) (fun i w q h1 h2 => by
    have key : ∀ i, i < 1 → ∀ w, ([[49, 47, 50]] : List (List Nat))[i]? = some w → ∀ q, ([mkRat 1 2] : List Rat)[i]? = some q → parseS w = some q := by decide +kernel
    exact key i (List.getElem?_eq_some_iff.1 h1).1 w h1 q h2)
theorem nums6 : Good P F.penumbraref09_numbers [.d (.sl (strsD [[48], [45, 57], [45, 57], [48], [49, 56], [45, 57], [48], [45, 57], [49, 56], [48]]))] [] (.tup [.d (.sl (crsD [mkRat 0 1, mkRat (-9) 1, mkRat (-9) 1, mkRat 0 1, mkRat 18 1, mkRat (-9) 1, mkRat 0 1, mkRat (-9) 1, mkRat 18 1, mkRat 0 1])), .d (.b true)]) [] :=
  numbers9_good _ _ rfl (by decide) (by decide) (fun i w q h1 h2 => by
    have key : ∀ i, i < 10 → ∀ w, ([[48], [45, 57], [45, 57], [48], [49, 56], [45, 57], [48], [45, 57], [49, 56], [48]] : List (List Nat))[i]? = some w → ∀ q, ([mkRat 0 1, mkRat (-9) 1, mkRat (-9) 1, mkRat 0 1, mkRat 18 1, mkRat (-9) 1, mkRat 0 1, mkRat (-9) 1, mkRat 18 1, mkRat 0 1] : List Rat)[i]? = some q → parseS w = some q := by decide +kernel
    exact key i (List.getElem?_eq_some_iff.1 h1).1 w h1 q h2)
theorem nums7 : Good P F.penumbraref09_numbers [.d (.sl (strsD [[49], [45, 57], [45, 57], [50], [45, 57], [49, 56], [50], [49, 56], [45, 57], [50]]))] [] (.tup [.d (.sl (crsD [mkRat 1 1, mkRat (-9) 1, mkRat (-9) 1, mkRat 2 1, mkRat (-9) 1, mkRat 18 1, mkRat 2 1, mkRat 18 1, mkRat (-9) 1, mkRat 2 1])), .d (.b true)]) [] :=
  numbers9_good _ _ rfl (by decide) (by decide) (fun i w q h1 h2 => by
    have key : ∀ i, i < 10 → ∀ w, ([[49], [45, 57], [45, 57], [50], [45, 57], [49, 56], [50], [49, 56], [45, 57], [50]] : List (List Nat))[i]? = some w → ∀ q, ([mkRat 1 1, mkRat (-9) 1, mkRat (-9) 1, mkRat 2 1, mkRat (-9) 1, mkRat 18 1, mkRat 2 1, mkRat 18 1, mkRat (-9) 1, mkRat 2 1] : List Rat)[i]? = some q → parseS w = some q := by decide +kernel
    exact key i (List.getElem?_eq_some_iff.1 h1).1 w h1 q h2)
end Go.K.S
end
section
namespace Go.K
open Go
theorem rt {P Q : Prop} (q : Q) (h : Hid Q → P := by
  intro q; (generalize hΩ : Ω = ω, hΨ : Ψ = ψ; cbv <;> subst hΩ hΨ <;> try simp only [lits, true_and, Int.reduceAdd, Int.reduceSub, Int.reduceMul, not_u32, slen_nil, tn_ci, tn_zero, tn_one, tn_two, slen_lims, slen_dRs, slen_dVs, slen_dBs])
  (repeat (
    first
      | refine ⟨_, hC _ _ _ (by assumption), ?_⟩
      | refine ⟨_, _, hC2 _ _ _ _ _ (by assumption), ?_⟩
      | refine ⟨_, hC2 _ _ _ _ _ (by assumption), rfl, rfl, ?_⟩
      | refine ⟨ci_nonneg _, _, (by assumption), rfl, ?_⟩
      | refine ⟨_, (by assumption), rfl, ?_⟩
      | refine ⟨ci_nonneg _, (by simp only [wz, slen_scat]; omega), _, (by assumption), (by first | exact Nat.le_refl _ | (simp; done)), rfl, ?_⟩
      | refine ⟨(by first | exact fun u h => by rw [List.mem_singleton.1 h]; rfl | exact cells_dRs _ | assumption), (by simp only [wz, slen_scat]; omega), ?_⟩
      | refine ⟨(by simp only [wz]; omega), _, (by assumption), (by first | exact Nat.le_refl _ | (simp; done)), rfl, ?_⟩
      | refine ⟨ci_nonneg _, _, (by assumption), ?_⟩
      | refine ⟨_, (by assumption), (by first | exact Nat.le_refl _ | (simp; done)), rfl, ?_⟩
      | refine ⟨_, (by assumption), ?_⟩
      | refine BrG.yes (by first | assumption | decide) ?_
      | refine BrG.no (by first | assumption | decide) ?_
      | refine ⟨(by simp only [wz]; omega), ?_⟩
      | refine ⟨(fun h => nomatch h), (by assumption), ?_⟩
      | refine ⟨(by assumption), ?_⟩
    (generalize hΩ : Ω = ω, hΨ : Ψ = ψ; cbv <;> subst hΩ hΨ <;> try simp only [lits, true_and, Int.reduceAdd, Int.reduceSub, Int.reduceMul, not_u32, slen_nil, tn_ci, tn_zero, tn_one, tn_two, slen_lims, slen_dRs, slen_dVs, slen_dBs])))
  all_goals with_reducible exact q.out) : P := h ⟨q⟩
theorem strs_cells (l : List (List Nat)) : ∀ x, x ∈ strsD l → x.cells.length = 1 := fun x h => by
  unfold strsD at h
  obtain ⟨a, _, rfl⟩ := List.mem_map.1 h
  rfl
theorem strs_tail (x : List Nat) (l : List (List Nat)) : Ω .ssub (strsD (x :: l)) 1 (Ω .nsub (Ω .slen (strsD (x :: l))) 1) = strsD l := by
  rw [slen_strsD, w_nsub, w_ssub]
  simp only [strsD, List.length_cons, List.map_cons, List.drop_succ_cons, List.drop_zero]
  exact List.take_of_length_le (by simp)
theorem sget_crsD {l : List Rat} {i : Nat} {q : Rat} (h : l[i]? = some q) : Ω .sget (crsD l) i = some (.agg (dR Ψ (Ψ .cr q))) := by
  unfold crsD
  rw [sget_dRs, List.getElem?_map, h]; rfl
end Go.K
namespace Go.K.S
open Go Go.K
set_option maxHeartbeats 8000000
set_option maxRecDepth 20000
theorem w1_good : Good P F.penumbraref09_whole [.d (.agg (dR Ψ (Ψ .cr (mkRat 1 1))))] [] (.d (.i .i64 1)) [] := by
  have := whole9_good 1 (by omega)
  rw [show ((1 : Nat) : Rat) = mkRat 1 1 by decide +kernel] at this
  exact this
theorem w0_good : Good P F.penumbraref09_whole [.d (.agg (dR Ψ (Ψ .cr (mkRat 0 1))))] [] (.d (.i .i64 0)) [] := by
  have := whole9_good 0 (by omega)
  rw [show ((0 : Nat) : Rat) = mkRat 0 1 by decide +kernel] at this
  exact this
theorem line0 : Good P F.penumbraref09_line [.agg (stf .nil (.own 0 8) (.own 1 28) z9c z9c 0 0 z3c false false false false), .d (.sl (strsD roomW0))] [.row true T.api_Mat 8 [], .row true T.api_Face 28 []]
    (.tup [.agg (stf (.d (.sl (crsD [mkRat 1 1]))) (.own 0 8) (.own 1 28) z9c z9c 0 0 z3c true false false false), .d (.i .i64 0)]) [.row true T.api_Mat 8 [], .row true T.api_Face 28 []] := by
  refine G.penumbraref09_line (hb := of_decide_eq_true rfl) fun C C2 hC hC2 => ?_
  have x0 : Ω .sget (strsD roomW0) 0 = some (.s (ofB [119, 97, 118, 101, 115])) := rfl
  have gp : Good P F.penumbraref09_place [.d (.s (ofB [119, 97, 118, 101, 115]))] [] (.d (.i .i64 0)) [] := place9_good _ 0 (by decide) rfl
  have gn := nums0
  have hl : Ω .slen (strsD roomW0) = 2 := rfl
  have ht : Ω .ssub (strsD roomW0) 1 (Ω .nsub (Ω .slen (strsD roomW0)) 1) = strsD [[49]] := strs_tail _ _
  rw [← ht] at gn
  have hc := strs_cells roomW0
  have gz := zero3_good
  have w1 : Ω .wrap .i64 (Ω .ci (Ω .slen (strsD roomW0)) - 1) = 1 := by rw [hl]; rfl
  have xL : Ω .sget ([.i .i64 1, .i .i64 3, .i .i64 3, .i .i64 3, .i .i64 10, .i .i64 1, .i .i64 1, .i .i64 3, .i .i64 1] : List D) 0 = some (.i .i64 1) := rfl
  have qa : Ω .lt (Ω .wrap .i64 (Ω .ci (Ω .slen (strsD roomW0)) - 1)) 1 = false := by rw [w1]; rfl
  have qb : Ω .lt 1 (Ω .wrap .i64 (Ω .ci (Ω .slen (strsD roomW0)) - 1)) = false := by rw [w1]; rfl
  have hlx : Ω .slen (crsD [mkRat 1 1]) = 1 := rfl
  have y0 : Ω .sget (crsD [mkRat 1 1]) 0 = some (.agg (dR Ψ (Ψ .cr (mkRat 1 1)))) := sget_crsD rfl
  generalize strsD roomW0 = WD at *
  generalize ofB [119, 97, 118, 101, 115] = HB at *
  generalize crsD [mkRat 1 1] = XD at *
  generalize rv3 0 0 1 = E001 at *
  refine rt ?_
  exact ⟨[], rfl, rfl, rfl⟩
theorem line1 : Good P F.penumbraref09_line [.agg (stf (.d (.sl (crsD [mkRat 1 1]))) (.own 0 8) (.own 1 28) z9c z9c 0 0 z3c true false false false), .d (.sl (strsD roomW1))] [.row true T.api_Mat 8 [], .row true T.api_Face 28 []]
    (.tup [.agg (stf (.d (.sl (crsD [mkRat 1 1]))) (.own 0 8) (.own 1 28) ((dV Ψ (rv3 0 0 1)).map V.d) z9c 0 0 z3c true true false false), .d (.i .i64 0)]) [.row true T.api_Mat 8 [], .row true T.api_Face 28 []] := by
  refine G.penumbraref09_line (hb := of_decide_eq_true rfl) fun C C2 hC hC2 => ?_
  have x0 : Ω .sget (strsD roomW1) 0 = some (.s (ofB [101, 121, 101])) := rfl
  have gp : Good P F.penumbraref09_place [.d (.s (ofB [101, 121, 101]))] [] (.d (.i .i64 1)) [] := place9_good _ 1 (by decide) rfl
  have gn := nums1
  have hl : Ω .slen (strsD roomW1) = 4 := rfl
  have ht : Ω .ssub (strsD roomW1) 1 (Ω .nsub (Ω .slen (strsD roomW1)) 1) = strsD [[48], [48], [49]] := strs_tail _ _
  rw [← ht] at gn
  have hc := strs_cells roomW1
  have gz := zero3_good
  have w1 : Ω .wrap .i64 (Ω .ci (Ω .slen (strsD roomW1)) - 1) = 3 := by rw [hl]; rfl
  have xL : Ω .sget ([.i .i64 1, .i .i64 3, .i .i64 3, .i .i64 3, .i .i64 10, .i .i64 1, .i .i64 1, .i .i64 3, .i .i64 1] : List D) 1 = some (.i .i64 3) := rfl
  have qa : Ω .lt (Ω .wrap .i64 (Ω .ci (Ω .slen (strsD roomW1)) - 1)) 3 = false := by rw [w1]; rfl
  have qb : Ω .lt 3 (Ω .wrap .i64 (Ω .ci (Ω .slen (strsD roomW1)) - 1)) = false := by rw [w1]; rfl
  have hlx : Ω .slen (crsD [mkRat 0 1, mkRat 0 1, mkRat 1 1]) = 3 := rfl
  have y0 : Ω .sget (crsD [mkRat 0 1, mkRat 0 1, mkRat 1 1]) 0 = some (.agg (dR Ψ (Ψ .cr (mkRat 0 1)))) := sget_crsD rfl
  have y1 : Ω .sget (crsD [mkRat 0 1, mkRat 0 1, mkRat 1 1]) 1 = some (.agg (dR Ψ (Ψ .cr (mkRat 0 1)))) := sget_crsD rfl
  have y2 : Ω .sget (crsD [mkRat 0 1, mkRat 0 1, mkRat 1 1]) 2 = some (.agg (dR Ψ (Ψ .cr (mkRat 1 1)))) := sget_crsD rfl
  have gv : Good P F.penumbraref09_vec [.d (.sl (crsD [mkRat 0 1, mkRat 0 1, mkRat 1 1])), .d (.i .i64 0)] [] (.d (.agg (dV Ψ (rv3 0 0 1)))) [] := vec9_good (crsD [mkRat 0 1, mkRat 0 1, mkRat 1 1]) 0 0 rfl (by omega) _ _ _ y0 y1 y2
  generalize strsD roomW1 = WD at *
  generalize ofB [101, 121, 101] = HB at *
  generalize crsD [mkRat 0 1, mkRat 0 1, mkRat 1 1] = XD at *
  generalize crsD [mkRat 1 1] = WV at *
  generalize rv3 0 0 1 = E001 at *
  refine rt ?_
  exact ⟨[], rfl, rfl, rfl⟩
theorem line2 : Good P F.penumbraref09_line [.agg (stf (.d (.sl (crsD [mkRat 1 1]))) (.own 0 8) (.own 1 28) ((dV Ψ (rv3 0 0 1)).map V.d) z9c 0 0 z3c true true false false), .d (.sl (strsD roomW2))] [.row true T.api_Mat 8 [], .row true T.api_Face 28 []]
    (.tup [.agg (stf (.d (.sl (crsD [mkRat 1 1]))) (.own 0 8) (.own 1 28) ((dV Ψ (rv3 0 0 1)).map V.d) ((dV Ψ (rv3 0 0 1)).map V.d) 0 0 z3c true true true false), .d (.i .i64 0)]) [.row true T.api_Mat 8 [], .row true T.api_Face 28 []] := by
  refine G.penumbraref09_line (hb := of_decide_eq_true rfl) fun C C2 hC hC2 => ?_
  have x0 : Ω .sget (strsD roomW2) 0 = some (.s (ofB [108, 111, 111, 107])) := rfl
  have gp : Good P F.penumbraref09_place [.d (.s (ofB [108, 111, 111, 107]))] [] (.d (.i .i64 2)) [] := place9_good _ 2 (by decide) rfl
  have gn := nums2
  have hl : Ω .slen (strsD roomW2) = 4 := rfl
  have ht : Ω .ssub (strsD roomW2) 1 (Ω .nsub (Ω .slen (strsD roomW2)) 1) = strsD [[48], [48], [49]] := strs_tail _ _
  rw [← ht] at gn
  have hc := strs_cells roomW2
  have gz := zero3_good
  have w1 : Ω .wrap .i64 (Ω .ci (Ω .slen (strsD roomW2)) - 1) = 3 := by rw [hl]; rfl
  have xL : Ω .sget ([.i .i64 1, .i .i64 3, .i .i64 3, .i .i64 3, .i .i64 10, .i .i64 1, .i .i64 1, .i .i64 3, .i .i64 1] : List D) 2 = some (.i .i64 3) := rfl
  have qa : Ω .lt (Ω .wrap .i64 (Ω .ci (Ω .slen (strsD roomW2)) - 1)) 3 = false := by rw [w1]; rfl
  have qb : Ω .lt 3 (Ω .wrap .i64 (Ω .ci (Ω .slen (strsD roomW2)) - 1)) = false := by rw [w1]; rfl
  have hlx : Ω .slen (crsD [mkRat 0 1, mkRat 0 1, mkRat 1 1]) = 3 := rfl
  have y0 : Ω .sget (crsD [mkRat 0 1, mkRat 0 1, mkRat 1 1]) 0 = some (.agg (dR Ψ (Ψ .cr (mkRat 0 1)))) := sget_crsD rfl
  have y1 : Ω .sget (crsD [mkRat 0 1, mkRat 0 1, mkRat 1 1]) 1 = some (.agg (dR Ψ (Ψ .cr (mkRat 0 1)))) := sget_crsD rfl
  have y2 : Ω .sget (crsD [mkRat 0 1, mkRat 0 1, mkRat 1 1]) 2 = some (.agg (dR Ψ (Ψ .cr (mkRat 1 1)))) := sget_crsD rfl
  have gv : Good P F.penumbraref09_vec [.d (.sl (crsD [mkRat 0 1, mkRat 0 1, mkRat 1 1])), .d (.i .i64 0)] [] (.d (.agg (dV Ψ (rv3 0 0 1)))) [] := vec9_good (crsD [mkRat 0 1, mkRat 0 1, mkRat 1 1]) 0 0 rfl (by omega) _ _ _ y0 y1 y2
  generalize strsD roomW2 = WD at *
  generalize ofB [108, 111, 111, 107] = HB at *
  generalize crsD [mkRat 0 1, mkRat 0 1, mkRat 1 1] = XD at *
  generalize crsD [mkRat 1 1] = WV at *
  generalize rv3 0 0 1 = E001 at *
  refine rt ?_
  exact ⟨[], rfl, rfl, rfl⟩
theorem line3 : Good P F.penumbraref09_line [.agg (stf (.d (.sl (crsD [mkRat 1 1]))) (.own 0 8) (.own 1 28) ((dV Ψ (rv3 0 0 1)).map V.d) ((dV Ψ (rv3 0 0 1)).map V.d) 0 0 z3c true true true false), .d (.sl (strsD roomW3))] [.row true T.api_Mat 8 [], .row true T.api_Face 28 []]
    (.tup [.agg (stf (.d (.sl (crsD [mkRat 1 1]))) (.own 0 8) (.own 1 28) ((dV Ψ (rv3 0 0 1)).map V.d) ((dV Ψ (rv3 0 0 1)).map V.d) 1 1 ((dR Ψ (Ψ .cr (mkRat 1 1))).map V.d) true true true true), .d (.i .i64 0)]) [.row true T.api_Mat 8 [], .row true T.api_Face 28 []] := by
  refine G.penumbraref09_line (hb := of_decide_eq_true rfl) fun C C2 hC hC2 => ?_
  have x0 : Ω .sget (strsD roomW3) 0 = some (.s (ofB [102, 105, 108, 109])) := rfl
  have gp : Good P F.penumbraref09_place [.d (.s (ofB [102, 105, 108, 109]))] [] (.d (.i .i64 3)) [] := place9_good _ 3 (by decide) rfl
  have gn := nums3
  have hl : Ω .slen (strsD roomW3) = 4 := rfl
  have ht : Ω .ssub (strsD roomW3) 1 (Ω .nsub (Ω .slen (strsD roomW3)) 1) = strsD [[49], [49], [49]] := strs_tail _ _
  rw [← ht] at gn
  have hc := strs_cells roomW3
  have gz := zero3_good
  have w1 : Ω .wrap .i64 (Ω .ci (Ω .slen (strsD roomW3)) - 1) = 3 := by rw [hl]; rfl
  have xL : Ω .sget ([.i .i64 1, .i .i64 3, .i .i64 3, .i .i64 3, .i .i64 10, .i .i64 1, .i .i64 1, .i .i64 3, .i .i64 1] : List D) 3 = some (.i .i64 3) := rfl
  have qa : Ω .lt (Ω .wrap .i64 (Ω .ci (Ω .slen (strsD roomW3)) - 1)) 3 = false := by rw [w1]; rfl
  have qb : Ω .lt 3 (Ω .wrap .i64 (Ω .ci (Ω .slen (strsD roomW3)) - 1)) = false := by rw [w1]; rfl
  have hlx : Ω .slen (crsD [mkRat 1 1, mkRat 1 1, mkRat 1 1]) = 3 := rfl
  have y0 : Ω .sget (crsD [mkRat 1 1, mkRat 1 1, mkRat 1 1]) 0 = some (.agg (dR Ψ (Ψ .cr (mkRat 1 1)))) := sget_crsD rfl
  have y1 : Ω .sget (crsD [mkRat 1 1, mkRat 1 1, mkRat 1 1]) 1 = some (.agg (dR Ψ (Ψ .cr (mkRat 1 1)))) := sget_crsD rfl
  have y2 : Ω .sget (crsD [mkRat 1 1, mkRat 1 1, mkRat 1 1]) 2 = some (.agg (dR Ψ (Ψ .cr (mkRat 1 1)))) := sget_crsD rfl
  have gw := w1_good
  generalize strsD roomW3 = WD at *
  generalize ofB [102, 105, 108, 109] = HB at *
  generalize crsD [mkRat 1 1, mkRat 1 1, mkRat 1 1] = XD at *
  generalize crsD [mkRat 1 1] = WV at *
  generalize rv3 0 0 1 = E001 at *
  refine rt ?_
  exact ⟨[], rfl, rfl, rfl⟩
theorem line4 : Good P F.penumbraref09_line [.agg (stf (.d (.sl (crsD [mkRat 1 1]))) (.own 0 8) (.own 1 28) ((dV Ψ (rv3 0 0 1)).map V.d) ((dV Ψ (rv3 0 0 1)).map V.d) 1 1 ((dR Ψ (Ψ .cr (mkRat 1 1))).map V.d) true true true true), .d (.sl (strsD roomW4))] [.row true T.api_Mat 8 [], .row true T.api_Face 28 []]
    (.tup [.agg (stf (.d (.sl (crsD [mkRat 1 1]))) (.own 2 8) (.own 1 28) ((dV Ψ (rv3 0 0 1)).map V.d) ((dV Ψ (rv3 0 0 1)).map V.d) 1 1 ((dR Ψ (Ψ .cr (mkRat 1 1))).map V.d) true true true true), .d (.i .i64 0)]) [.dead, .row true T.api_Face 28 [], .row true T.api_Mat 8 (matsD [rMat0])] := by
  refine G.penumbraref09_line (hb := of_decide_eq_true rfl) fun C C2 hC hC2 => ?_
  rw [show matsD [rMat0] = [(.agg (.i .i64 0 :: .sl (crsD [mkRat 1 8]) :: (dR Ψ (Ψ .cr 0) ++ dR Ψ (Ψ .cr 0))) : D)] from rfl]
  have x0 : Ω .sget (strsD roomW4) 0 = some (.s (ofB [100, 105, 102, 102, 117, 115, 101])) := rfl
  have gp : Good P F.penumbraref09_place [.d (.s (ofB [100, 105, 102, 102, 117, 115, 101]))] [] (.d (.i .i64 5)) [] := place9_good _ 5 (by decide) rfl
  have gn := nums4
  have hl : Ω .slen (strsD roomW4) = 2 := rfl
  have ht : Ω .ssub (strsD roomW4) 1 (Ω .nsub (Ω .slen (strsD roomW4)) 1) = strsD [[49, 47, 56]] := strs_tail _ _
  rw [← ht] at gn
  have hc := strs_cells roomW4
  have gz := zero3_good
  have w1 : Ω .wrap .i64 (Ω .ci (Ω .slen (strsD roomW4)) - 1) = 1 := by rw [hl]; rfl
  have xL : Ω .sget ([.i .i64 1, .i .i64 3, .i .i64 3, .i .i64 3, .i .i64 10, .i .i64 1, .i .i64 1, .i .i64 3, .i .i64 1] : List D) 5 = some (.i .i64 1) := rfl
  have qa : Ω .lt (Ω .wrap .i64 (Ω .ci (Ω .slen (strsD roomW4)) - 1)) 1 = false := by rw [w1]; rfl
  have qb : Ω .lt 1 (Ω .wrap .i64 (Ω .ci (Ω .slen (strsD roomW4)) - 1)) = false := by rw [w1]; rfl
  have hlx : Ω .slen (crsD [mkRat 1 8]) = 1 := rfl
  have y0 : Ω .sget (crsD [mkRat 1 8]) 0 = some (.agg (dR Ψ (Ψ .cr (mkRat 1 8)))) := sget_crsD rfl
  generalize strsD roomW4 = WD at *
  generalize ofB [100, 105, 102, 102, 117, 115, 101] = HB at *
  generalize crsD [mkRat 1 8] = XD at *
  generalize crsD [mkRat 1 1] = WV at *
  generalize rv3 0 0 1 = E001 at *
  refine rt ?_
  exact ⟨[2805], rfl, rfl, rfl⟩
theorem line5 : Good P F.penumbraref09_line [.agg (stf (.d (.sl (crsD [mkRat 1 1]))) (.own 0 8) (.own 1 28) ((dV Ψ (rv3 0 0 1)).map V.d) ((dV Ψ (rv3 0 0 1)).map V.d) 1 1 ((dR Ψ (Ψ .cr (mkRat 1 1))).map V.d) true true true true), .d (.sl (strsD roomW5))] [.row true T.api_Mat 8 (matsD [rMat0]), .row true T.api_Face 28 []]
    (.tup [.agg (stf (.d (.sl (crsD [mkRat 1 1]))) (.own 2 8) (.own 1 28) ((dV Ψ (rv3 0 0 1)).map V.d) ((dV Ψ (rv3 0 0 1)).map V.d) 1 1 ((dR Ψ (Ψ .cr (mkRat 1 1))).map V.d) true true true true), .d (.i .i64 0)]) [.dead, .row true T.api_Face 28 [], .row true T.api_Mat 8 (matsD [rMat0, rMat1])] := by
  refine G.penumbraref09_line (hb := of_decide_eq_true rfl) fun C C2 hC hC2 => ?_
  rw [show matsD [rMat0, rMat1] = [(.agg (.i .i64 0 :: .sl (crsD [mkRat 1 8]) :: (dR Ψ (Ψ .cr 0) ++ dR Ψ (Ψ .cr 0))) : D), (.agg (.i .i64 1 :: .sl (crsD [mkRat 1 2]) :: (dR Ψ (Ψ .cr 0) ++ dR Ψ (Ψ .cr 0))) : D)] from rfl]
  rw [show matsD [rMat0] = [(.agg (.i .i64 0 :: .sl (crsD [mkRat 1 8]) :: (dR Ψ (Ψ .cr 0) ++ dR Ψ (Ψ .cr 0))) : D)] from rfl]
  have x0 : Ω .sget (strsD roomW5) 0 = some (.s (ofB [109, 105, 114, 114, 111, 114])) := rfl
  have gp : Good P F.penumbraref09_place [.d (.s (ofB [109, 105, 114, 114, 111, 114]))] [] (.d (.i .i64 6)) [] := place9_good _ 6 (by decide) rfl
  have gn := nums5
  have hl : Ω .slen (strsD roomW5) = 2 := rfl
  have ht : Ω .ssub (strsD roomW5) 1 (Ω .nsub (Ω .slen (strsD roomW5)) 1) = strsD [[49, 47, 50]] := strs_tail _ _
  rw [← ht] at gn
  have hc := strs_cells roomW5
  have gz := zero3_good
  have w1 : Ω .wrap .i64 (Ω .ci (Ω .slen (strsD roomW5)) - 1) = 1 := by rw [hl]; rfl
  have xL : Ω .sget ([.i .i64 1, .i .i64 3, .i .i64 3, .i .i64 3, .i .i64 10, .i .i64 1, .i .i64 1, .i .i64 3, .i .i64 1] : List D) 6 = some (.i .i64 1) := rfl
  have qa : Ω .lt (Ω .wrap .i64 (Ω .ci (Ω .slen (strsD roomW5)) - 1)) 1 = false := by rw [w1]; rfl
  have qb : Ω .lt 1 (Ω .wrap .i64 (Ω .ci (Ω .slen (strsD roomW5)) - 1)) = false := by rw [w1]; rfl
  have hlx : Ω .slen (crsD [mkRat 1 2]) = 1 := rfl
  have y0 : Ω .sget (crsD [mkRat 1 2]) 0 = some (.agg (dR Ψ (Ψ .cr (mkRat 1 2)))) := sget_crsD rfl
  generalize strsD roomW5 = WD at *
  generalize ofB [109, 105, 114, 114, 111, 114] = HB at *
  generalize crsD [mkRat 1 2] = XD at *
  generalize crsD [mkRat 1 1] = WV at *
  generalize crsD [mkRat 1 8] = X8 at *
  generalize rv3 0 0 1 = E001 at *
  refine rt ?_
  exact ⟨[2805], rfl, rfl, rfl⟩
theorem line6 : Good P F.penumbraref09_line [.agg (stf (.d (.sl (crsD [mkRat 1 1]))) (.own 0 8) (.own 1 28) ((dV Ψ (rv3 0 0 1)).map V.d) ((dV Ψ (rv3 0 0 1)).map V.d) 1 1 ((dR Ψ (Ψ .cr (mkRat 1 1))).map V.d) true true true true), .d (.sl (strsD roomW6))] [.row true T.api_Mat 8 (matsD [rMat0, rMat1]), .row true T.api_Face 28 []]
    (.tup [.agg (stf (.d (.sl (crsD [mkRat 1 1]))) (.own 0 8) (.own 2 28) ((dV Ψ (rv3 0 0 1)).map V.d) ((dV Ψ (rv3 0 0 1)).map V.d) 1 1 ((dR Ψ (Ψ .cr (mkRat 1 1))).map V.d) true true true true), .d (.i .i64 0)]) [.row true T.api_Mat 8 (matsD [rMat0, rMat1]), .dead, .row true T.api_Face 28 (facesD [rFace0])] := by
  refine G.penumbraref09_line (hb := of_decide_eq_true rfl) fun C C2 hC hC2 => ?_
  rw [show facesD [rFace0] = [(.agg (dV Ψ (rv3 (-9) (-9) 0) ++ dV Ψ (rv3 18 (-9) 0) ++ dV Ψ (rv3 (-9) 18 0) ++ [.i .i64 0]) : D)] from rfl]
  have x0 : Ω .sget (strsD roomW6) 0 = some (.s (ofB [116, 114, 105])) := rfl
  have gp : Good P F.penumbraref09_place [.d (.s (ofB [116, 114, 105]))] [] (.d (.i .i64 4)) [] := place9_good _ 4 (by decide) rfl
  have gn := nums6
  have hl : Ω .slen (strsD roomW6) = 11 := rfl
  have ht : Ω .ssub (strsD roomW6) 1 (Ω .nsub (Ω .slen (strsD roomW6)) 1) = strsD [[48], [45, 57], [45, 57], [48], [49, 56], [45, 57], [48], [45, 57], [49, 56], [48]] := strs_tail _ _
  rw [← ht] at gn
  have hc := strs_cells roomW6
  have gz := zero3_good
  have w1 : Ω .wrap .i64 (Ω .ci (Ω .slen (strsD roomW6)) - 1) = 10 := by rw [hl]; rfl
  have xL : Ω .sget ([.i .i64 1, .i .i64 3, .i .i64 3, .i .i64 3, .i .i64 10, .i .i64 1, .i .i64 1, .i .i64 3, .i .i64 1] : List D) 4 = some (.i .i64 10) := rfl
  have qa : Ω .lt (Ω .wrap .i64 (Ω .ci (Ω .slen (strsD roomW6)) - 1)) 10 = false := by rw [w1]; rfl
  have qb : Ω .lt 10 (Ω .wrap .i64 (Ω .ci (Ω .slen (strsD roomW6)) - 1)) = false := by rw [w1]; rfl
  have hlx : Ω .slen (crsD [mkRat 0 1, mkRat (-9) 1, mkRat (-9) 1, mkRat 0 1, mkRat 18 1, mkRat (-9) 1, mkRat 0 1, mkRat (-9) 1, mkRat 18 1, mkRat 0 1]) = 10 := rfl
  have y0 : Ω .sget (crsD [mkRat 0 1, mkRat (-9) 1, mkRat (-9) 1, mkRat 0 1, mkRat 18 1, mkRat (-9) 1, mkRat 0 1, mkRat (-9) 1, mkRat 18 1, mkRat 0 1]) 0 = some (.agg (dR Ψ (Ψ .cr (mkRat 0 1)))) := sget_crsD rfl
  have y1 : Ω .sget (crsD [mkRat 0 1, mkRat (-9) 1, mkRat (-9) 1, mkRat 0 1, mkRat 18 1, mkRat (-9) 1, mkRat 0 1, mkRat (-9) 1, mkRat 18 1, mkRat 0 1]) 1 = some (.agg (dR Ψ (Ψ .cr (mkRat (-9) 1)))) := sget_crsD rfl
  have y2 : Ω .sget (crsD [mkRat 0 1, mkRat (-9) 1, mkRat (-9) 1, mkRat 0 1, mkRat 18 1, mkRat (-9) 1, mkRat 0 1, mkRat (-9) 1, mkRat 18 1, mkRat 0 1]) 2 = some (.agg (dR Ψ (Ψ .cr (mkRat (-9) 1)))) := sget_crsD rfl
  have y3 : Ω .sget (crsD [mkRat 0 1, mkRat (-9) 1, mkRat (-9) 1, mkRat 0 1, mkRat 18 1, mkRat (-9) 1, mkRat 0 1, mkRat (-9) 1, mkRat 18 1, mkRat 0 1]) 3 = some (.agg (dR Ψ (Ψ .cr (mkRat 0 1)))) := sget_crsD rfl
  have y4 : Ω .sget (crsD [mkRat 0 1, mkRat (-9) 1, mkRat (-9) 1, mkRat 0 1, mkRat 18 1, mkRat (-9) 1, mkRat 0 1, mkRat (-9) 1, mkRat 18 1, mkRat 0 1]) 4 = some (.agg (dR Ψ (Ψ .cr (mkRat 18 1)))) := sget_crsD rfl
  have y5 : Ω .sget (crsD [mkRat 0 1, mkRat (-9) 1, mkRat (-9) 1, mkRat 0 1, mkRat 18 1, mkRat (-9) 1, mkRat 0 1, mkRat (-9) 1, mkRat 18 1, mkRat 0 1]) 5 = some (.agg (dR Ψ (Ψ .cr (mkRat (-9) 1)))) := sget_crsD rfl
  have y6 : Ω .sget (crsD [mkRat 0 1, mkRat (-9) 1, mkRat (-9) 1, mkRat 0 1, mkRat 18 1, mkRat (-9) 1, mkRat 0 1, mkRat (-9) 1, mkRat 18 1, mkRat 0 1]) 6 = some (.agg (dR Ψ (Ψ .cr (mkRat 0 1)))) := sget_crsD rfl
  have y7 : Ω .sget (crsD [mkRat 0 1, mkRat (-9) 1, mkRat (-9) 1, mkRat 0 1, mkRat 18 1, mkRat (-9) 1, mkRat 0 1, mkRat (-9) 1, mkRat 18 1, mkRat 0 1]) 7 = some (.agg (dR Ψ (Ψ .cr (mkRat (-9) 1)))) := sget_crsD rfl
  have y8 : Ω .sget (crsD [mkRat 0 1, mkRat (-9) 1, mkRat (-9) 1, mkRat 0 1, mkRat 18 1, mkRat (-9) 1, mkRat 0 1, mkRat (-9) 1, mkRat 18 1, mkRat 0 1]) 8 = some (.agg (dR Ψ (Ψ .cr (mkRat 18 1)))) := sget_crsD rfl
  have y9 : Ω .sget (crsD [mkRat 0 1, mkRat (-9) 1, mkRat (-9) 1, mkRat 0 1, mkRat 18 1, mkRat (-9) 1, mkRat 0 1, mkRat (-9) 1, mkRat 18 1, mkRat 0 1]) 9 = some (.agg (dR Ψ (Ψ .cr (mkRat 0 1)))) := sget_crsD rfl
  have gw := w0_good
  have gv1 : Good P F.penumbraref09_vec [.d (.sl (crsD [mkRat 0 1, mkRat (-9) 1, mkRat (-9) 1, mkRat 0 1, mkRat 18 1, mkRat (-9) 1, mkRat 0 1, mkRat (-9) 1, mkRat 18 1, mkRat 0 1])), .d (.i .i64 1)] [] (.d (.agg (dV Ψ (rv3 (-9) (-9) 0)))) [] := vec9_good (crsD [mkRat 0 1, mkRat (-9) 1, mkRat (-9) 1, mkRat 0 1, mkRat 18 1, mkRat (-9) 1, mkRat 0 1, mkRat (-9) 1, mkRat 18 1, mkRat 0 1]) 1 1 rfl (by omega) _ _ _ y1 y2 y3
  have gv4 : Good P F.penumbraref09_vec [.d (.sl (crsD [mkRat 0 1, mkRat (-9) 1, mkRat (-9) 1, mkRat 0 1, mkRat 18 1, mkRat (-9) 1, mkRat 0 1, mkRat (-9) 1, mkRat 18 1, mkRat 0 1])), .d (.i .i64 4)] [] (.d (.agg (dV Ψ (rv3 18 (-9) 0)))) [] := vec9_good (crsD [mkRat 0 1, mkRat (-9) 1, mkRat (-9) 1, mkRat 0 1, mkRat 18 1, mkRat (-9) 1, mkRat 0 1, mkRat (-9) 1, mkRat 18 1, mkRat 0 1]) 4 4 rfl (by omega) _ _ _ y4 y5 y6
  have gv7 : Good P F.penumbraref09_vec [.d (.sl (crsD [mkRat 0 1, mkRat (-9) 1, mkRat (-9) 1, mkRat 0 1, mkRat 18 1, mkRat (-9) 1, mkRat 0 1, mkRat (-9) 1, mkRat 18 1, mkRat 0 1])), .d (.i .i64 7)] [] (.d (.agg (dV Ψ (rv3 (-9) 18 0)))) [] := vec9_good (crsD [mkRat 0 1, mkRat (-9) 1, mkRat (-9) 1, mkRat 0 1, mkRat 18 1, mkRat (-9) 1, mkRat 0 1, mkRat (-9) 1, mkRat 18 1, mkRat 0 1]) 7 7 rfl (by omega) _ _ _ y7 y8 y9
  generalize strsD roomW6 = WD at *
  generalize ofB [116, 114, 105] = HB at *
  generalize crsD [mkRat 0 1, mkRat (-9) 1, mkRat (-9) 1, mkRat 0 1, mkRat 18 1, mkRat (-9) 1, mkRat 0 1, mkRat (-9) 1, mkRat 18 1, mkRat 0 1] = XD at *
  generalize crsD [mkRat 1 1] = WV at *
  generalize rv3 0 0 1 = E001 at *
  generalize matsD [rMat0, rMat1] = MM at *
  generalize rv3 (-9) (-9) 0 = Vm_m_0 at *
  generalize rv3 18 (-9) 0 = V18_m_0 at *
  generalize rv3 (-9) 18 0 = Vm_18_0 at *
  generalize rv3 (-9) (-9) 2 = Vm_m_2 at *
  generalize rv3 (-9) 18 2 = Vm_18_2 at *
  generalize rv3 18 (-9) 2 = V18_m_2 at *
  refine rt ?_
  exact ⟨[4405], rfl, rfl, rfl⟩
theorem line7 : Good P F.penumbraref09_line [.agg (stf (.d (.sl (crsD [mkRat 1 1]))) (.own 0 8) (.own 1 28) ((dV Ψ (rv3 0 0 1)).map V.d) ((dV Ψ (rv3 0 0 1)).map V.d) 1 1 ((dR Ψ (Ψ .cr (mkRat 1 1))).map V.d) true true true true), .d (.sl (strsD roomW7))] [.row true T.api_Mat 8 (matsD [rMat0, rMat1]), .row true T.api_Face 28 (facesD [rFace0])]
    (.tup [.agg (stf (.d (.sl (crsD [mkRat 1 1]))) (.own 0 8) (.own 2 28) ((dV Ψ (rv3 0 0 1)).map V.d) ((dV Ψ (rv3 0 0 1)).map V.d) 1 1 ((dR Ψ (Ψ .cr (mkRat 1 1))).map V.d) true true true true), .d (.i .i64 0)]) [.row true T.api_Mat 8 (matsD [rMat0, rMat1]), .dead, .row true T.api_Face 28 (facesD [rFace0, rFace1])] := by
  refine G.penumbraref09_line (hb := of_decide_eq_true rfl) fun C C2 hC hC2 => ?_
  rw [show facesD [rFace0, rFace1] = [(.agg (dV Ψ (rv3 (-9) (-9) 0) ++ dV Ψ (rv3 18 (-9) 0) ++ dV Ψ (rv3 (-9) 18 0) ++ [.i .i64 0]) : D), (.agg (dV Ψ (rv3 (-9) (-9) 2) ++ dV Ψ (rv3 (-9) 18 2) ++ dV Ψ (rv3 18 (-9) 2) ++ [.i .i64 1]) : D)] from rfl]
  rw [show facesD [rFace0] = [(.agg (dV Ψ (rv3 (-9) (-9) 0) ++ dV Ψ (rv3 18 (-9) 0) ++ dV Ψ (rv3 (-9) 18 0) ++ [.i .i64 0]) : D)] from rfl]
  have x0 : Ω .sget (strsD roomW7) 0 = some (.s (ofB [116, 114, 105])) := rfl
  have gp : Good P F.penumbraref09_place [.d (.s (ofB [116, 114, 105]))] [] (.d (.i .i64 4)) [] := place9_good _ 4 (by decide) rfl
  have gn := nums7
  have hl : Ω .slen (strsD roomW7) = 11 := rfl
  have ht : Ω .ssub (strsD roomW7) 1 (Ω .nsub (Ω .slen (strsD roomW7)) 1) = strsD [[49], [45, 57], [45, 57], [50], [45, 57], [49, 56], [50], [49, 56], [45, 57], [50]] := strs_tail _ _
  rw [← ht] at gn
  have hc := strs_cells roomW7
  have gz := zero3_good
  have w1 : Ω .wrap .i64 (Ω .ci (Ω .slen (strsD roomW7)) - 1) = 10 := by rw [hl]; rfl
  have xL : Ω .sget ([.i .i64 1, .i .i64 3, .i .i64 3, .i .i64 3, .i .i64 10, .i .i64 1, .i .i64 1, .i .i64 3, .i .i64 1] : List D) 4 = some (.i .i64 10) := rfl
  have qa : Ω .lt (Ω .wrap .i64 (Ω .ci (Ω .slen (strsD roomW7)) - 1)) 10 = false := by rw [w1]; rfl
  have qb : Ω .lt 10 (Ω .wrap .i64 (Ω .ci (Ω .slen (strsD roomW7)) - 1)) = false := by rw [w1]; rfl
  have hlx : Ω .slen (crsD [mkRat 1 1, mkRat (-9) 1, mkRat (-9) 1, mkRat 2 1, mkRat (-9) 1, mkRat 18 1, mkRat 2 1, mkRat 18 1, mkRat (-9) 1, mkRat 2 1]) = 10 := rfl
  have y0 : Ω .sget (crsD [mkRat 1 1, mkRat (-9) 1, mkRat (-9) 1, mkRat 2 1, mkRat (-9) 1, mkRat 18 1, mkRat 2 1, mkRat 18 1, mkRat (-9) 1, mkRat 2 1]) 0 = some (.agg (dR Ψ (Ψ .cr (mkRat 1 1)))) := sget_crsD rfl
  have y1 : Ω .sget (crsD [mkRat 1 1, mkRat (-9) 1, mkRat (-9) 1, mkRat 2 1, mkRat (-9) 1, mkRat 18 1, mkRat 2 1, mkRat 18 1, mkRat (-9) 1, mkRat 2 1]) 1 = some (.agg (dR Ψ (Ψ .cr (mkRat (-9) 1)))) := sget_crsD rfl
  have y2 : Ω .sget (crsD [mkRat 1 1, mkRat (-9) 1, mkRat (-9) 1, mkRat 2 1, mkRat (-9) 1, mkRat 18 1, mkRat 2 1, mkRat 18 1, mkRat (-9) 1, mkRat 2 1]) 2 = some (.agg (dR Ψ (Ψ .cr (mkRat (-9) 1)))) := sget_crsD rfl
  have y3 : Ω .sget (crsD [mkRat 1 1, mkRat (-9) 1, mkRat (-9) 1, mkRat 2 1, mkRat (-9) 1, mkRat 18 1, mkRat 2 1, mkRat 18 1, mkRat (-9) 1, mkRat 2 1]) 3 = some (.agg (dR Ψ (Ψ .cr (mkRat 2 1)))) := sget_crsD rfl
  have y4 : Ω .sget (crsD [mkRat 1 1, mkRat (-9) 1, mkRat (-9) 1, mkRat 2 1, mkRat (-9) 1, mkRat 18 1, mkRat 2 1, mkRat 18 1, mkRat (-9) 1, mkRat 2 1]) 4 = some (.agg (dR Ψ (Ψ .cr (mkRat (-9) 1)))) := sget_crsD rfl
  have y5 : Ω .sget (crsD [mkRat 1 1, mkRat (-9) 1, mkRat (-9) 1, mkRat 2 1, mkRat (-9) 1, mkRat 18 1, mkRat 2 1, mkRat 18 1, mkRat (-9) 1, mkRat 2 1]) 5 = some (.agg (dR Ψ (Ψ .cr (mkRat 18 1)))) := sget_crsD rfl
  have y6 : Ω .sget (crsD [mkRat 1 1, mkRat (-9) 1, mkRat (-9) 1, mkRat 2 1, mkRat (-9) 1, mkRat 18 1, mkRat 2 1, mkRat 18 1, mkRat (-9) 1, mkRat 2 1]) 6 = some (.agg (dR Ψ (Ψ .cr (mkRat 2 1)))) := sget_crsD rfl
  have y7 : Ω .sget (crsD [mkRat 1 1, mkRat (-9) 1, mkRat (-9) 1, mkRat 2 1, mkRat (-9) 1, mkRat 18 1, mkRat 2 1, mkRat 18 1, mkRat (-9) 1, mkRat 2 1]) 7 = some (.agg (dR Ψ (Ψ .cr (mkRat 18 1)))) := sget_crsD rfl
  have y8 : Ω .sget (crsD [mkRat 1 1, mkRat (-9) 1, mkRat (-9) 1, mkRat 2 1, mkRat (-9) 1, mkRat 18 1, mkRat 2 1, mkRat 18 1, mkRat (-9) 1, mkRat 2 1]) 8 = some (.agg (dR Ψ (Ψ .cr (mkRat (-9) 1)))) := sget_crsD rfl
  have y9 : Ω .sget (crsD [mkRat 1 1, mkRat (-9) 1, mkRat (-9) 1, mkRat 2 1, mkRat (-9) 1, mkRat 18 1, mkRat 2 1, mkRat 18 1, mkRat (-9) 1, mkRat 2 1]) 9 = some (.agg (dR Ψ (Ψ .cr (mkRat 2 1)))) := sget_crsD rfl
  have gw := w1_good
  have gv1 : Good P F.penumbraref09_vec [.d (.sl (crsD [mkRat 1 1, mkRat (-9) 1, mkRat (-9) 1, mkRat 2 1, mkRat (-9) 1, mkRat 18 1, mkRat 2 1, mkRat 18 1, mkRat (-9) 1, mkRat 2 1])), .d (.i .i64 1)] [] (.d (.agg (dV Ψ (rv3 (-9) (-9) 2)))) [] := vec9_good (crsD [mkRat 1 1, mkRat (-9) 1, mkRat (-9) 1, mkRat 2 1, mkRat (-9) 1, mkRat 18 1, mkRat 2 1, mkRat 18 1, mkRat (-9) 1, mkRat 2 1]) 1 1 rfl (by omega) _ _ _ y1 y2 y3
  have gv4 : Good P F.penumbraref09_vec [.d (.sl (crsD [mkRat 1 1, mkRat (-9) 1, mkRat (-9) 1, mkRat 2 1, mkRat (-9) 1, mkRat 18 1, mkRat 2 1, mkRat 18 1, mkRat (-9) 1, mkRat 2 1])), .d (.i .i64 4)] [] (.d (.agg (dV Ψ (rv3 (-9) 18 2)))) [] := vec9_good (crsD [mkRat 1 1, mkRat (-9) 1, mkRat (-9) 1, mkRat 2 1, mkRat (-9) 1, mkRat 18 1, mkRat 2 1, mkRat 18 1, mkRat (-9) 1, mkRat 2 1]) 4 4 rfl (by omega) _ _ _ y4 y5 y6
  have gv7 : Good P F.penumbraref09_vec [.d (.sl (crsD [mkRat 1 1, mkRat (-9) 1, mkRat (-9) 1, mkRat 2 1, mkRat (-9) 1, mkRat 18 1, mkRat 2 1, mkRat 18 1, mkRat (-9) 1, mkRat 2 1])), .d (.i .i64 7)] [] (.d (.agg (dV Ψ (rv3 18 (-9) 2)))) [] := vec9_good (crsD [mkRat 1 1, mkRat (-9) 1, mkRat (-9) 1, mkRat 2 1, mkRat (-9) 1, mkRat 18 1, mkRat 2 1, mkRat 18 1, mkRat (-9) 1, mkRat 2 1]) 7 7 rfl (by omega) _ _ _ y7 y8 y9
  generalize strsD roomW7 = WD at *
  generalize ofB [116, 114, 105] = HB at *
  generalize crsD [mkRat 1 1, mkRat (-9) 1, mkRat (-9) 1, mkRat 2 1, mkRat (-9) 1, mkRat 18 1, mkRat 2 1, mkRat 18 1, mkRat (-9) 1, mkRat 2 1] = XD at *
  generalize crsD [mkRat 1 1] = WV at *
  generalize rv3 0 0 1 = E001 at *
  generalize matsD [rMat0, rMat1] = MM at *
  generalize rv3 (-9) (-9) 0 = Vm_m_0 at *
  generalize rv3 18 (-9) 0 = V18_m_0 at *
  generalize rv3 (-9) 18 0 = Vm_18_0 at *
  generalize rv3 (-9) (-9) 2 = Vm_m_2 at *
  generalize rv3 (-9) 18 2 = Vm_18_2 at *
  generalize rv3 18 (-9) 2 = V18_m_2 at *
  refine rt ?_
  exact ⟨[4405], rfl, rfl, rfl⟩
end Go.K.S
end
section
namespace Go.K
open Go
set_option maxRecDepth 20000
theorem fit_cr (q : Rat) (h : decide (q.num.natAbs < 18446744073709551616 ∧ q.den < 18446744073709551616) = true) : fitR (Ψ .cr q) = true := by
  obtain ⟨h1, h2⟩ := of_decide_eq_true h
  unfold fitR
  rw [rv_cr, decide_eq_true rfl, Bool.true_and]
  have e1 : nv (Ψ .cr q).num = q.num.natAbs := nv_cn _
  have e2 : nv (Ψ .cr q).den = q.den := nv_cn _
  rw [e1, e2, decide_eq_true (bl_le.2 h1), decide_eq_true (bl_le.2 h2)]
  rfl
theorem rsq_nat (x : Nat) : rsq (((x * x : Nat)) : Rat) = some (x : Rat) := by
  have h1 : (((x * x : Nat)) : Rat).num = ((x * x : Nat) : Int) := rfl
  have h2 : (((x * x : Nat)) : Rat).den = 1 := rfl
  unfold rsq
  rw [h1, h2, Int.natAbs_natCast, sq_self, show sq 1 = 1 from rfl]
  rw [if_neg (by
    rw [← Rat.not_le]
    intro c
    apply c
    rw [← Rat.num_nonneg, h1]
    omega), if_pos ⟨rfl, rfl⟩, Rat.mkRat_one]
  rfl
theorem unitS_of (x : Nat) (hx : x ≠ 0) (v n : V3) (h : vdot v v = ((x * x : Nat) : Rat)) (hn : vmul (1 / (x : Rat)) v = n) : unitS v = some (n, (x : Rat)) := by
  unfold unitS
  rw [h, rsq_nat]
  simp only
  rw [if_neg (fun c => hx (by
    have h2 : ((x : Rat)).num = 0 := by rw [c]; rfl
    have h3 : ((x : Rat)).num = (x : Int) := rfl
    omega)), hn]
theorem room_u0 : unitS ⟨0, 0, 729⟩ = some (⟨0, 0, 1⟩, ((729 : Nat) : Rat)) := unitS_of 729 (by omega) _ _ (by decide +kernel) (by decide +kernel)
theorem room_u1 : unitS ⟨0, 0, -729⟩ = some (⟨0, 0, -1⟩, ((729 : Nat) : Rat)) := unitS_of 729 (by omega) _ _ (by decide +kernel) (by decide +kernel)
theorem vv_rv3 (a b c : Int) : vv (rv3 a b c) = ⟨mkRat a 1, mkRat b 1, mkRat c 1⟩ := by unfold vv rv3; simp only [rv_cr]
theorem room_t0 : tv rFace0.tri = ⟨⟨-9, -9, 0⟩, ⟨18, -9, 0⟩, ⟨-9, 18, 0⟩⟩ := by
  unfold tv rFace0; simp only [vv_rv3]
  have e : ∀ a b c : V3, ∀ a' b' c' : V3, a = a' → b = b' → c = c' → (⟨a, b, c⟩ : T3) = ⟨a', b', c'⟩ := fun a b c a' b' c' h1 h2 h3 => by rw [h1, h2, h3]
  exact e _ _ _ _ _ _ (by decide +kernel) (by decide +kernel) (by decide +kernel)
theorem room_t1 : tv rFace1.tri = ⟨⟨-9, -9, 2⟩, ⟨-9, 18, 2⟩, ⟨18, -9, 2⟩⟩ := by
  unfold tv rFace1; simp only [vv_rv3]
  have e : ∀ a b c : V3, ∀ a' b' c' : V3, a = a' → b = b' → c = c' → (⟨a, b, c⟩ : T3) = ⟨a', b', c'⟩ := fun a b c a' b' c' h1 h2 h3 => by rw [h1, h2, h3]
  exact e _ _ _ _ _ _ (by decide +kernel) (by decide +kernel) (by decide +kernel)
theorem room_n0 : unitS (normS (tv rFace0.tri)) = some (⟨0, 0, 1⟩, ((729 : Nat) : Rat)) := by
  rw [room_t0, show normS ⟨⟨-9, -9, 0⟩, ⟨18, -9, 0⟩, ⟨-9, 18, 0⟩⟩ = ⟨0, 0, 729⟩ by decide +kernel]; exact room_u0
theorem room_n1 : unitS (normS (tv rFace1.tri)) = some (⟨0, 0, -1⟩, ((729 : Nat) : Rat)) := by
  rw [room_t1, show normS ⟨⟨-9, -9, 2⟩, ⟨-9, 18, 2⟩, ⟨18, -9, 2⟩⟩ = ⟨0, 0, -729⟩ by decide +kernel]; exact room_u1
theorem room_many : manyB roomS = true := by decide +kernel
theorem room_sizes : sizesS roomS = true := by
  have f1 := fit_cr (mkRat 1 1) (by decide +kernel)
  have f0 := fit_cr (mkRat 0 1) (by decide +kernel)
  have f2 := fit_cr (mkRat 2 1) (by decide +kernel)
  have f9 := fit_cr (mkRat (-9) 1) (by decide +kernel)
  have f18 := fit_cr (mkRat 18 1) (by decide +kernel)
  have f8 := fit_cr (mkRat 1 8) (by decide +kernel)
  have fh := fit_cr (mkRat 1 2) (by decide +kernel)
  have fz := fit_cr 0 (by decide +kernel)
  unfold sizesS
  simp only [roomS, rMat0, rMat1, rFace0, rFace1, rv3, fitM, fitF, fitV, List.all_cons, List.all_nil, f1, f0, f2, f9, f18, f8, fh, fz, Bool.and_true]
theorem room_waves : (roomS.waves.all fun x => decide (0 < rv x)) = true := by
  simp only [roomS, List.all_cons, List.all_nil, rv_cr, Bool.and_true]
  decide +kernel
theorem room_mats : roomS.mats.all (matB roomS.waves) = true := by
  simp only [roomS, rMat0, rMat1, List.all_cons, List.all_nil, matB, valsB, valB, etaM, List.zipIdx_cons, List.zipIdx_nil, rv_cr, List.length_cons, List.length_nil]
  simp
  decide +kernel
theorem room_face0 : faceB 2 rFace0 = true := by
  unfold faceB
  rw [room_n0]
  decide +kernel
theorem room_face1 : faceB 2 rFace1 = true := by
  unfold faceB
  rw [room_n1]
  decide +kernel
theorem room_faces : roomS.faces.all (faceB roomS.mats.length) = true := by
  show ([rFace0, rFace1] : List FaceL).all (faceB 2) = true
  rw [List.all_cons, List.all_cons, List.all_nil, room_face0, room_face1]
  rfl
theorem room_view : viewB roomS = true := by
  unfold viewB
  simp only [roomS, vv_rv3, rv_cr]
  decide +kernel
theorem check_of {s : ScL} (h1 : manyB s = true) (h2 : sizesS s = true) (h3 : (s.waves.all fun x => decide (0 < rv x)) = true) (h4 : s.mats.all (matB s.waves) = true) (h5 : s.faces.all (faceB s.mats.length) = true) (h6 : viewB s = true) : checkS s = 0 := by
  unfold checkS
  rw [h1, h2, h3, h4, h5, h6]
  rfl
theorem room_check : checkS roomS = 0 := check_of room_many room_sizes room_waves room_mats room_faces room_view
theorem room_tri0 : triF roomS 0 = ⟨⟨-9, -9, 0⟩, ⟨18, -9, 0⟩, ⟨-9, 18, 0⟩⟩ := room_t0
theorem room_tri1 : triF roomS 1 = ⟨⟨-9, -9, 2⟩, ⟨-9, 18, 2⟩, ⟨18, -9, 2⟩⟩ := room_t1
theorem unitF_face {s : ScL} {f : Nat} {fc : FaceL} (h : s.faces[f]? = some fc) : unitF s f = (unitR (normS (tv fc.tri))).1 := by
  unfold unitF; rw [h]
theorem unitR_of {v n : V3} {l : Rat} (h : unitS v = some (n, l)) : (unitR v).1 = n := by
  unfold unitR; rw [h]; rfl
theorem room_unit1 : unitF roomS 1 = ⟨0, 0, -1⟩ := (unitF_face (fc := rFace1) rfl).trans (unitR_of room_n1)
theorem room_scn : Scn 2 roomS := by
  have h := sc2_of room_sizes
  refine ⟨by decide, by decide, by decide, by decide, by decide, h.wv, by decide, fun m hm => ?_, by decide, fun f hf => ?_, h.e, h.l, h.hf⟩
  · have hv := h.mv m hm
    have hm' : m = rMat0 ∨ m = rMat1 := by simpa [roomS] using hm
    rcases hm' with rfl | rfl
    · exact ⟨by decide, by decide, by decide, hv.1, hv.2.1, hv.2.2⟩
    · exact ⟨by decide, by decide, by decide, hv.1, hv.2.1, hv.2.2⟩
  · have hv := h.fv f hf
    have hf' : f = rFace0 ∨ f = rFace1 := by simpa [roomS] using hf
    rcases hf' with rfl | rfl
    · exact ⟨by decide, by decide, hv⟩
    · exact ⟨by decide, by decide, hv⟩
theorem near_of {s : ScL} {bin : Nat} {o d : V3} {f : Nat} {m : M3} (hf : f < s.faces.length) (hm : hitS o d (triF s f) = some m) (hu : ∀ j, j < s.faces.length → j ≠ f → hitS o d (triF s j) = none) : (fcsOf s bin).near o d = some (f, m.s) :=
  near_is (near_F s bin) hf hm fun j m' hj hm' => by
    by_cases e : j = f
    · exact .inr e
    · rw [hu j hj e] at hm'; cases hm'
theorem near_no {s : ScL} {bin : Nat} {o d : V3} (hu : ∀ j, j < s.faces.length → hitS o d (triF s j) = none) : (fcsOf s bin).near o d = none := by
  cases h : (fcsOf s bin).near o d with
  | none => rfl
  | some x =>
    obtain ⟨f, t⟩ := x
    obtain ⟨hf, m, h1, _⟩ := (near_F s bin).some _ _ _ _ h
    rw [hu f hf] at h1; cases h1
theorem room2 {p : Nat → Prop} (h0 : p 0) (h1 : p 1) : ∀ j, j < roomS.faces.length → p j := fun j hj => by
  have : j < 2 := hj
  rcases (show j = 0 ∨ j = 1 by omega) with rfl | rfl <;> assumption
instance : DecidableEq M3 := fun _ _ => decidable_of_iff _ M3.ext_iff'.symm
def roomL : Lk := ⟨⟨3, 0, 0⟩, ⟨1, 0, -1⟩, [1], thenS (stretchS ⟨1, 0, 2⟩ ⟨0, 0, -1⟩ (1 / -1)) idM, 1 * mkRat 1 2⟩
theorem room_ray : followR roomS ⟨0, 0, 1⟩ ⟨1, 0, 1⟩ 0 = some (0, roomL) := by
  unfold followR
  rw [if_pos ⟨room_check, by omega, by decide⟩]
  show followS (fcsOf roomS 0) 8 (lk0 ⟨0, 0, 1⟩ ⟨1, 0, 1⟩) = _
  have n1 : (fcsOf roomS 0).near (lk0 ⟨0, 0, 1⟩ ⟨1, 0, 1⟩).p (lk0 ⟨0, 0, 1⟩ ⟨1, 0, 1⟩).dir = some (1, 1) := by
    have h1 : hitS ⟨0, 0, 1⟩ ⟨1, 0, 1⟩ (triF roomS 1) = some ⟨1, 10 / 27 - 1 / 27, 10 / 27⟩ := by rw [room_tri1]; decide +kernel
    have := near_of (s := roomS) (bin := 0) (f := 1) (by decide) h1 (room2 (p := fun j => j ≠ 1 → hitS ⟨0, 0, 1⟩ ⟨1, 0, 1⟩ (triF roomS j) = none) (fun _ => by rw [room_tri0]; decide +kernel) (fun h => absurd rfl h))
    exact this
  have b1 : (fcsOf roomS 0).bend 1 (lk0 ⟨0, 0, 1⟩ ⟨1, 0, 1⟩).dir = some (-1) := rfl
  rw [followS, n1]
  simp only
  rw [b1]
  simp only
  have e1 : hopS (fcsOf roomS 0) (lk0 ⟨0, 0, 1⟩ ⟨1, 0, 1⟩) 1 1 (-1) = ⟨⟨1, 0, 2⟩, ⟨1, 0, -1⟩, [1], thenS (stretchS ⟨1, 0, 2⟩ ⟨0, 0, -1⟩ (1 / -1)) idM, 1 * mkRat 1 2⟩ := by
    unfold hopS
    have p1 : vadd (lk0 ⟨0, 0, 1⟩ ⟨1, 0, 1⟩).p (vmul 1 (lk0 ⟨0, 0, 1⟩ ⟨1, 0, 1⟩).dir) = ⟨1, 0, 2⟩ := by decide +kernel
    have u1 : (fcsOf roomS 0).unit 1 = ⟨0, 0, -1⟩ := room_unit1
    have v1 : (fcsOf roomS 0).val 1 = mkRat 1 2 := rv_cr _
    rw [p1, u1, v1]
    have d1 : turnS (stretchS ⟨1, 0, 2⟩ ⟨0, 0, -1⟩ (-1)) (lk0 ⟨0, 0, 1⟩ ⟨1, 0, 1⟩).dir = ⟨1, 0, -1⟩ := by decide +kernel
    rw [d1]
    rfl
  rw [e1]
  have n2 : (fcsOf roomS 0).near ⟨1, 0, 2⟩ ⟨1, 0, -1⟩ = some (0, 2) := by
    have h1 : hitS ⟨1, 0, 2⟩ ⟨1, 0, -1⟩ (triF roomS 0) = some ⟨2, 12 / 27, 9 / 27⟩ := by rw [room_tri0]; decide +kernel
    exact near_of (s := roomS) (bin := 0) (f := 0) (by decide) h1 (room2 (p := fun j => j ≠ 0 → hitS ⟨1, 0, 2⟩ ⟨1, 0, -1⟩ (triF roomS j) = none) (fun h => absurd rfl h) (fun _ => by rw [room_tri1]; decide +kernel))
  have b2 : (fcsOf roomS 0).bend 0 ⟨1, 0, -1⟩ = none := rfl
  rw [followS]
  simp only
  rw [n2]
  simp only
  rw [b2]
  have p2 : vadd ⟨1, 0, 2⟩ (vmul 2 ⟨1, 0, -1⟩) = (⟨3, 0, 0⟩ : V3) := by decide +kernel
  simp only
  rw [p2]
  rfl
theorem room_no : followR roomS ⟨0, 0, 3⟩ ⟨0, 0, 1⟩ 0 = none := by
  unfold followR
  rw [if_pos ⟨room_check, by omega, by decide⟩]
  show followS (fcsOf roomS 0) 8 (lk0 ⟨0, 0, 3⟩ ⟨0, 0, 1⟩) = _
  rw [followS, near_no (s := roomS) (room2 (p := fun j => hitS (lk0 ⟨0, 0, 3⟩ ⟨0, 0, 1⟩).p (lk0 ⟨0, 0, 3⟩ ⟨0, 0, 1⟩).dir (triF roomS j) = none) (by rw [room_tri0]; decide +kernel) (by rw [room_tri1]; decide +kernel))]
theorem roomL_apply : applyS roomL.map roomL.p = ⟨3, 0, 4⟩ := by decide +kernel
theorem roomL_gain : roomL.gain = mkRat 1 2 := by decide +kernel
end Go.K
end
section
namespace Go.K
open Go
def rmC (ma fa : V) : Nat → List V
  | 0 => stf .nil ma fa z9c z9c 0 0 z3c false false false false
  | 1 => stf (.d (.sl (crsD [mkRat 1 1]))) ma fa z9c z9c 0 0 z3c true false false false
  | 2 => stf (.d (.sl (crsD [mkRat 1 1]))) ma fa ((dV Ψ (rv3 0 0 1)).map V.d) z9c 0 0 z3c true true false false
  | 3 => stf (.d (.sl (crsD [mkRat 1 1]))) ma fa ((dV Ψ (rv3 0 0 1)).map V.d) ((dV Ψ (rv3 0 0 1)).map V.d) 0 0 z3c true true true false
  | _ => stf (.d (.sl (crsD [mkRat 1 1]))) ma fa ((dV Ψ (rv3 0 0 1)).map V.d) ((dV Ψ (rv3 0 0 1)).map V.d) 1 1 ((dR Ψ (Ψ .cr (mkRat 1 1))).map V.d) true true true true
def rmM : Nat → List D
  | 0 => [] | 1 => [] | 2 => [] | 3 => [] | 4 => []
  | 5 => matsD [rMat0]
  | _ => matsD [rMat0, rMat1]
def rmF : Nat → List D
  | 0 => [] | 1 => [] | 2 => [] | 3 => [] | 4 => [] | 5 => [] | 6 => []
  | 7 => facesD [rFace0]
  | _ => facesD [rFace0, rFace1]
def rmZ : List V := .nil :: .nil :: .nil :: (z9c ++ z9c ++ .d (.i .i64 0) :: .d (.i .i64 0) :: z3c)
theorem roomT_lt : ∀ c, c ∈ roomT → c < 256 := by decide +kernel
theorem roomLs_lt : ∀ l, l ∈ roomLs → ∀ c, c ∈ l → c < 256 := by decide +kernel
end Go.K
namespace Go.K.S
open Go Go.K
set_option maxHeartbeats 8000000
set_option maxRecDepth 20000
theorem parse9_room : Good P F.penumbraref09_Parse [.d (.s (ofB roomT))] [] (.tup [.d (.agg (dSc Ψ (matsD roomS.mats) (facesD roomS.faces) roomS)), .d (.i .i64 0), .d (.i .i64 0)]) [] := by
  refine G.penumbraref09_Parse fun C C2 hC hC2 => ?_
  have hb := byt_ofB roomT_lt
  have hT : roomT.length < 1000 := by decide
  have hz : Ω .bsz (ofB roomT) = roomT.length := by rw [bsz_byt, hb]
  have q0 : Ω .lt 65536 (Ω .ci (Ω .bsz (ofB roomT))) = false := by rw [hz]; simp only [wz]; omega
  have gl := lines9_good (ofB roomT) (by rw [hb]; decide)
  rw [hb, room_lines] at gl
  have gw : ∀ j, j < 9 → ∃ B, Ω .sget (strsD roomLs) j = some (.s B) ∧ Good P F.penumbraref09_Words [.d (.s B)] [] (.d (.sl (strsD (roomW j)))) [] := fun j hj => by
    obtain ⟨l, hl⟩ : ∃ l, roomLs[j]? = some l := ⟨_, List.getElem?_eq_getElem hj⟩
    have hbl := byt_ofB (roomLs_lt l (List.mem_of_getElem? hl))
    have := words9_good (ofB l) (by
      rw [hbl]
      have : ∀ l, l ∈ roomLs → l.length < 1000000 := by decide +kernel
      exact this l (List.mem_of_getElem? hl))
    rw [hbl, room_words j hj l hl] at this
    exact ⟨ofB l, sget_strsD hl, this⟩
  have hll : Ω .slen (strsD roomLs) = 9 := by rw [slen_strsD]; rfl
  have gck := check9_good roomS (scD_of roomS) room_scn (by omega) (by omega)
  rw [room_check] at gck
  have gck' : Good P F.penumbraref09_Check [.d (.agg (.sl (crsD [mkRat 1 1]) :: .sl (matsD [rMat0, rMat1]) :: .sl (facesD [rFace0, rFace1]) :: (dV Ψ (rv3 0 0 1) ++ dV Ψ (rv3 0 0 1) ++ (.i .i64 1 :: .i .i64 1 :: dR Ψ (Ψ .cr (mkRat 1 1))))))] [] (.d (.i .i64 0)) [] := gck
  rw [show dSc Ψ (matsD roomS.mats) (facesD roomS.faces) roomS = (.sl (crsD [mkRat 1 1]) :: .sl (matsD [rMat0, rMat1]) :: .sl (facesD [rFace0, rFace1]) :: (dV Ψ (rv3 0 0 1) ++ dV Ψ (rv3 0 0 1) ++ (.i .i64 1 :: .i .i64 1 :: dR Ψ (Ψ .cr (mkRat 1 1))))) from rfl]
  clear gck
  have wl : ∀ j, Ω .slen (strsD (roomW j)) = (roomW j).length := fun j => slen_strsD _
  have wne : ∀ j, j < 8 → Ω .eq (Ω .ci (Ω .slen (strsD (roomW j)))) 0 = false := fun j hj => by
    rw [wl, q_eq]
    refine decide_eq_false ?_
    have : ∀ j, j < 8 → (roomW j).length ≠ 0 := by decide
    rw [w_ci]
    have := this j hj
    omega
  have w8 : Ω .eq (Ω .ci (Ω .slen (strsD (roomW 8)))) 0 = true := rfl
  have G0 := line0
  have G1 := line1
  have G2 := line2
  have G3 := line3
  have G4 := line4
  have G5 := line5
  have G6 := line6
  have G7 := line7
  generalize ofB roomT = RT at *
  generalize strsD roomLs = LD at *
  refine rt ?_
  refine LoopG.introB (σ := Nat) [.cell 1301 1 900001 T.api_Mat 8, .cell 1301 2 900002 T.api_Face 28] [2, 5, 6, 8] [1050, 1051, 1052, 1053]
    (fun i => [.ptr 1050 0, .ptr 1051 0, .d (.sl LD), .d (.i .i64 (Ω .ci i))])
    (fun i => [.var rmZ, .var (rmC (.own 1052 8) (.own 1053 28) i), .row true T.api_Mat 8 (rmM i), .row true T.api_Face 28 (rmF i)])
    (fun i => i ≤ 9) (fun i => 9 - i) 0 [1000, 1301, 900001, 900002] (Nat.zero_le _) ⟨rfl, rfl, rfl⟩ ?_
  intro j hj
  have hw := wrap_succ (n := j) (by omega)
  rcases Nat.lt_or_ge j 9 with hlt | hge
  · obtain ⟨B, x1, x2⟩ := gw j hlt
    have q0 : Ω .lt (Ω .ci j) (Ω .ci (Ω .slen LD)) = true := by rw [hll]; simp only [wz]; omega
    have wn := wne j
    have gck := gck'
    clear gw wne gck'
    rcases (show j = 0 ∨ j = 1 ∨ j = 2 ∨ j = 3 ∨ j = 4 ∨ j = 5 ∨ j = 6 ∨ j = 7 ∨ j = 8 by omega) with rfl | rfl | rfl | rfl | rfl | rfl | rfl | rfl | rfl
    · clear G1 G2 G3 G4 G5 G6 G7 gck
      simp only [rmC, rmM, rmF]
      have qw := wn (by omega)
      have x3 : Good P F.penumbraref09_Words [.d (.s B)] [] (.d (.sl (strsD roomW0))) [] := x2
      have qw' : Ω .eq (Ω .ci (Ω .slen (strsD roomW0))) 0 = false := qw
      clear x2 qw wn w8 wl
      generalize hWV : crsD [mkRat 1 1] = WV at *
      generalize hE : rv3 0 0 1 = E at *
      generalize hM1 : matsD [rMat0] = M1 at *
      generalize hM2 : matsD [rMat0, rMat1] = M2 at *
      generalize hF1 : facesD [rFace0] = F1 at *
      generalize hF2 : facesD [rFace0, rFace1] = F2 at *
      generalize strsD roomW0 = WD at *
      refine rt ?_
      rw [hw]
      subst hWV hE hM1 hM2 hF1 hF2
      exact ⟨1, [1050, 1051, 1052, 1053], by omega, by omega, rfl, rfl, rfl⟩
    · clear G0 G2 G3 G4 G5 G6 G7 gck
      simp only [rmC, rmM, rmF]
      have qw := wn (by omega)
      have x3 : Good P F.penumbraref09_Words [.d (.s B)] [] (.d (.sl (strsD roomW1))) [] := x2
      have qw' : Ω .eq (Ω .ci (Ω .slen (strsD roomW1))) 0 = false := qw
      clear x2 qw wn w8 wl
      generalize hWV : crsD [mkRat 1 1] = WV at *
      generalize hE : rv3 0 0 1 = E at *
      generalize hM1 : matsD [rMat0] = M1 at *
      generalize hM2 : matsD [rMat0, rMat1] = M2 at *
      generalize hF1 : facesD [rFace0] = F1 at *
      generalize hF2 : facesD [rFace0, rFace1] = F2 at *
      generalize strsD roomW1 = WD at *
      refine rt ?_
      rw [hw]
      subst hWV hE hM1 hM2 hF1 hF2
      exact ⟨2, [1050, 1051, 1052, 1053], by omega, by omega, rfl, rfl, rfl⟩
    · clear G0 G1 G3 G4 G5 G6 G7 gck
      simp only [rmC, rmM, rmF]
      have qw := wn (by omega)
      have x3 : Good P F.penumbraref09_Words [.d (.s B)] [] (.d (.sl (strsD roomW2))) [] := x2
      have qw' : Ω .eq (Ω .ci (Ω .slen (strsD roomW2))) 0 = false := qw
      clear x2 qw wn w8 wl
      generalize hWV : crsD [mkRat 1 1] = WV at *
      generalize hE : rv3 0 0 1 = E at *
      generalize hM1 : matsD [rMat0] = M1 at *
      generalize hM2 : matsD [rMat0, rMat1] = M2 at *
      generalize hF1 : facesD [rFace0] = F1 at *
      generalize hF2 : facesD [rFace0, rFace1] = F2 at *
      generalize strsD roomW2 = WD at *
      refine rt ?_
      rw [hw]
      subst hWV hE hM1 hM2 hF1 hF2
      exact ⟨3, [1050, 1051, 1052, 1053], by omega, by omega, rfl, rfl, rfl⟩
    · clear G0 G1 G2 G4 G5 G6 G7 gck
      simp only [rmC, rmM, rmF]
      have qw := wn (by omega)
      have x3 : Good P F.penumbraref09_Words [.d (.s B)] [] (.d (.sl (strsD roomW3))) [] := x2
      have qw' : Ω .eq (Ω .ci (Ω .slen (strsD roomW3))) 0 = false := qw
      clear x2 qw wn w8 wl
      generalize hWV : crsD [mkRat 1 1] = WV at *
      generalize hE : rv3 0 0 1 = E at *
      generalize hM1 : matsD [rMat0] = M1 at *
      generalize hM2 : matsD [rMat0, rMat1] = M2 at *
      generalize hF1 : facesD [rFace0] = F1 at *
      generalize hF2 : facesD [rFace0, rFace1] = F2 at *
      generalize strsD roomW3 = WD at *
      refine rt ?_
      rw [hw]
      subst hWV hE hM1 hM2 hF1 hF2
      exact ⟨4, [1050, 1051, 1052, 1053], by omega, by omega, rfl, rfl, rfl⟩
    · clear G0 G1 G2 G3 G5 G6 G7 gck
      simp only [rmC, rmM, rmF]
      have qw := wn (by omega)
      have x3 : Good P F.penumbraref09_Words [.d (.s B)] [] (.d (.sl (strsD roomW4))) [] := x2
      have qw' : Ω .eq (Ω .ci (Ω .slen (strsD roomW4))) 0 = false := qw
      clear x2 qw wn w8 wl
      generalize hWV : crsD [mkRat 1 1] = WV at *
      generalize hE : rv3 0 0 1 = E at *
      generalize hM1 : matsD [rMat0] = M1 at *
      generalize hM2 : matsD [rMat0, rMat1] = M2 at *
      generalize hF1 : facesD [rFace0] = F1 at *
      generalize hF2 : facesD [rFace0, rFace1] = F2 at *
      generalize strsD roomW4 = WD at *
      refine rt ?_
      rw [hw]
      subst hWV hE hM1 hM2 hF1 hF2
      exact ⟨5, [1050, 1051, 1016816, 1053], by omega, by omega, rfl, rfl, rfl⟩
    · clear G0 G1 G2 G3 G4 G6 G7 gck
      simp only [rmC, rmM, rmF]
      have qw := wn (by omega)
      have x3 : Good P F.penumbraref09_Words [.d (.s B)] [] (.d (.sl (strsD roomW5))) [] := x2
      have qw' : Ω .eq (Ω .ci (Ω .slen (strsD roomW5))) 0 = false := qw
      clear x2 qw wn w8 wl
      generalize hWV : crsD [mkRat 1 1] = WV at *
      generalize hE : rv3 0 0 1 = E at *
      generalize hM1 : matsD [rMat0] = M1 at *
      generalize hM2 : matsD [rMat0, rMat1] = M2 at *
      generalize hF1 : facesD [rFace0] = F1 at *
      generalize hF2 : facesD [rFace0, rFace1] = F2 at *
      generalize strsD roomW5 = WD at *
      refine rt ?_
      rw [hw]
      subst hWV hE hM1 hM2 hF1 hF2
      exact ⟨6, [1050, 1051, 1016816, 1053], by omega, by omega, rfl, rfl, rfl⟩
    · clear G0 G1 G2 G3 G4 G5 G7 gck
      simp only [rmC, rmM, rmF]
      have qw := wn (by omega)
      have x3 : Good P F.penumbraref09_Words [.d (.s B)] [] (.d (.sl (strsD roomW6))) [] := x2
      have qw' : Ω .eq (Ω .ci (Ω .slen (strsD roomW6))) 0 = false := qw
      clear x2 qw wn w8 wl
      generalize hWV : crsD [mkRat 1 1] = WV at *
      generalize hE : rv3 0 0 1 = E at *
      generalize hM1 : matsD [rMat0] = M1 at *
      generalize hM2 : matsD [rMat0, rMat1] = M2 at *
      generalize hF1 : facesD [rFace0] = F1 at *
      generalize hF2 : facesD [rFace0, rFace1] = F2 at *
      generalize strsD roomW6 = WD at *
      refine rt ?_
      rw [hw]
      subst hWV hE hM1 hM2 hF1 hF2
      exact ⟨7, [1050, 1051, 1052, 1016816], by omega, by omega, rfl, rfl, rfl⟩
    · clear G0 G1 G2 G3 G4 G5 G6 gck
      simp only [rmC, rmM, rmF]
      have qw := wn (by omega)
      have x3 : Good P F.penumbraref09_Words [.d (.s B)] [] (.d (.sl (strsD roomW7))) [] := x2
      have qw' : Ω .eq (Ω .ci (Ω .slen (strsD roomW7))) 0 = false := qw
      clear x2 qw wn w8 wl
      generalize hWV : crsD [mkRat 1 1] = WV at *
      generalize hE : rv3 0 0 1 = E at *
      generalize hM1 : matsD [rMat0] = M1 at *
      generalize hM2 : matsD [rMat0, rMat1] = M2 at *
      generalize hF1 : facesD [rFace0] = F1 at *
      generalize hF2 : facesD [rFace0, rFace1] = F2 at *
      generalize strsD roomW7 = WD at *
      refine rt ?_
      rw [hw]
      subst hWV hE hM1 hM2 hF1 hF2
      exact ⟨8, [1050, 1051, 1052, 1016816], by omega, by omega, rfl, rfl, rfl⟩
    · clear G0 G1 G2 G3 G4 G5 G6 G7 gck
      simp only [rmC, rmM, rmF]
      have qw := w8
      have x3 : Good P F.penumbraref09_Words [.d (.s B)] [] (.d (.sl (strsD roomW8))) [] := x2
      have qw' : Ω .eq (Ω .ci (Ω .slen (strsD roomW8))) 0 = true := qw
      clear x2 qw wn w8 wl
      generalize hWV : crsD [mkRat 1 1] = WV at *
      generalize hE : rv3 0 0 1 = E at *
      generalize hM1 : matsD [rMat0] = M1 at *
      generalize hM2 : matsD [rMat0, rMat1] = M2 at *
      generalize hF1 : facesD [rFace0] = F1 at *
      generalize hF2 : facesD [rFace0, rFace1] = F2 at *
      generalize strsD roomW8 = WD at *
      refine rt ?_
      rw [hw]
      subst hWV hE hM1 hM2 hF1 hF2
      exact ⟨9, [1050, 1051, 1052, 1053], by omega, by omega, rfl, rfl, rfl⟩
  · obtain rfl : j = 9 := by omega
    have q0 : Ω .lt (Ω .ci 9) (Ω .ci (Ω .slen LD)) = false := by rw [hll]; rfl
    have q1 : Ω .ne 0 0 = false := rfl
    clear gw wne w8 wl G0 G1 G2 G3 G4 G5 G6 G7
    simp only [rmC, rmM, rmF]
    generalize hWV : crsD [mkRat 1 1] = WV at *
    generalize hE : rv3 0 0 1 = E at *
    generalize hM1 : matsD [rMat0] = M1 at *
    generalize hM2 : matsD [rMat0, rMat1] = M2 at *
    generalize hF1 : facesD [rFace0] = F1 at *
    generalize hF2 : facesD [rFace0, rFace1] = F2 at *
    exact rt trivial
end Go.K.S
end
