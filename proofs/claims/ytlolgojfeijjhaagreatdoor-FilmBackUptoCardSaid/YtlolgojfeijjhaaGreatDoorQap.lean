/-
  Parts of the proof, joined by a program of this work: KCode, KFilm3, KPpm, KFilm4, KFix20, KBoxs.
-/
import Derived.Test.YtlolgojfeijjhaaGreatDoorQao
import Derived.Test.YtlolgojfeijjhaaGreatDoorQam
set_option linter.unusedSimpArgs false
set_option linter.unusedVariables false
set_option maxHeartbeats 8000000
set_option maxRecDepth 20000
section
namespace Go.K
open Go
def flN (q : Rat) : Nat := q.num.natAbs / q.den
theorem mkRat_one (n : Nat) : mkRat (sg false n) 1 = (n : Rat) := by
 rw [show sg false n = (n : Int) from rfl, Rat.mkRat_one]; rfl
theorem flN_lt {q : Rat} {n : Nat} (h0 : 0 ≤ q.num) (h : q < (n : Rat)) : flN q < n := by
 rw [Rat.lt_iff, Rat.num_natCast, Rat.den_natCast] at h
 unfold flN
 refine Nat.div_lt_of_lt_mul ?_
 have e : (q.num.natAbs : Int) = q.num := by omega
 have : ((q.num.natAbs : Nat) : Int) < ((q.den * n : Nat) : Int) := by rw [e]; push_cast; rw [Int.mul_comm]; omega
 omega
def codeN (q : Rat) : Nat := if q ≤ 0 then 0 else if 1 ≤ q then 65535 else flN (65535 * q + 1 / 2)
theorem codeN_lt (q : Rat) : codeN q < 65536 := by
 unfold codeN
 split
 ·omega
 ·split
  ·omega
  ·refine flN_lt ?_ ?_
   ·rw [Rat.num_nonneg]; grind
   ·have : q < 1 := by grind
    have : 65535 * q < 65535 := by grind
    have e : ((65536 : Nat) : Rat) = 65536 := rfl
    rw [e]; grind
end Go.K
namespace Go.K.S
open Go Go.K
theorem floor_good (r : RL) {k : Nat} (h : Rn k r) (hk0 : 0 < k) (hk : k < 137438953472) (h0 : 0 ≤ (rv r).num) : Good P F.rat_Floor [.d (.agg (dR Ψ r))] [] (.d (.agg (dR Ψ (Ψ .cr (flN (rv r) : Rat))))) [] := by
 refine G.rat_Floor fun C C2 hC hC2 => ?_
 have g1 := read_good r h (by omega)
 have hq := Qn_rv h hk0
 generalize rv r = q at *
 have hcr := Rn_cr.2 hq
 rw [p_cr, decide_eq_false (by omega)] at g1 hcr
 have g2 := divmod_good (Ψ .cn q.num.natAbs) (Ψ .cn q.den) ⟨hcr.ln, by have := hcr.kn; simp only [] at this; omega⟩ ⟨hcr.ld, by have := hcr.kd; simp only [] at this; omega⟩ (by have := hcr.kn; simp only [] at this; omega) (by rw [nv_cn]; exact q.den_nz)
 rw [nv_cn, nv_cn] at g2
 have hl : (Ψ .cn (q.num.natAbs / q.den)).length ≤ k := len_cn.2 (Nat.lt_of_le_of_lt (Nat.div_le_self _ _) hq.n)
 have g3 := made_good false (Ψ .cn (flN q)) [1] ⟨lim_cn _, by unfold flN; omega⟩ ⟨lim_cons.2 ⟨by omega, lim_nil⟩, by simp⟩ (by unfold flN; omega) (by simp)
 rw [nv_cn, show nv [1] = 1 from rfl, mkRat_one] at g3
 have g4 := one_good
 change Good P F.nat_DivMod [.d (dN Ψ (Ψ .cn q.num.natAbs)), .d (dN Ψ (Ψ .cn q.den))] [] (.tup [.d (dN Ψ (Ψ .cn (flN q))), .d (dN Ψ (Ψ .cn (q.num.natAbs % q.den))), .d (.b true)]) [] at g2
 generalize Ψ .cr (flN q : Rat) = R at *
 generalize Ψ .cn (flN q) = f1 at *
 generalize Ψ .cn (q.num.natAbs % q.den) = f2 at *
 generalize Ψ .cn q.num.natAbs = f3 at *
 generalize Ψ .cn q.den = f4 at *
 exact rs trivial
theorem code_good (a b : RL) {k : Nat} (ha : Rn k a) (hb : Rn k b) (hk0 : 0 < k) (hk : k < 268435456) : Good P F.film_code [.d (.agg (dR Ψ a)), .d (.agg (dR Ψ b))] [] (.d (.i .i64 (Ω .ci (codeN (rv a + 113 / 355 * rv b))))) [] := by
 refine G.film_code fun C C2 hC hC2 => ?_
 have o1 := rof_good 113 355 (by omega) (by omega) (by omega) (by omega)
 have o2 := rof_good 1 1 (by omega) (by omega) (by omega) (by omega)
 have o3 := rof_good 65535 1 (by omega) (by omega) (by omega) (by omega)
 have o4 := rof_good 1 2 (by omega) (by omega) (by omega) (by omega)
 rw [show ((113 : Int) : Rat) / ((355 : Int) : Rat) = 113 / 355 from rfl] at o1
 rw [show ((1 : Int) : Rat) / ((1 : Int) : Rat) = 1 by kernel_rfl] at o2
 rw [show ((65535 : Int) : Rat) / ((1 : Int) : Rat) = 65535 by kernel_rfl] at o3
 rw [show ((1 : Int) : Rat) / ((2 : Int) : Rat) = 1 / 2 from rfl] at o4
 have r1 : Rn k (Ψ .cr (113 / 355)) := Rn_cr.2 ((show Qn 1 (113 / 355) from ⟨of_decide_eq_true (by kernel_rfl), of_decide_eq_true (by kernel_rfl)⟩).mono (by omega))
 have p1 := prod2_good (Ψ .cr (113 / 355)) b r1 hb hk0 (by omega)
 rw [rv_cr] at p1
 have q1 := Qn_mul (Rn_cr.1 r1) (Qn_rv hb hk0) (by omega)
 have p2 := sum2_good a (Ψ .cr (113 / 355 * rv b)) (k := k + k) (ha.mono (by omega)) (Rn_cr.2 q1) (by omega) (by omega)
 rw [rv_cr] at p2
 have q2 := Qn_add (Qn_rv ha hk0) q1
 generalize rv a + 113 / 355 * rv b = v at *
 generalize hw : Ψ .cr (113 / 355 * rv b) = w at *
 clear hw q1
 have s1 := sign_good (Ψ .cr v) (Rn_cr.2 q2) (by omega)
 have s2 := rcmp_good (Ψ .cr v) (Ψ .cr 1) (j := k + (k + k) + 1) (k := 1) (Rn_cr.2 q2) (Rn_cr.2 (Qn_one (by omega))) (by omega) (by omega)
 rw [rv_cr] at s1 s2
 rw [rv_cr] at s2
 have p3 := prod2_good (Ψ .cr 65535) (Ψ .cr v) (k := k + (k + k) + 1) (Rn_cr.2 ((show Qn 1 (65535) from ⟨of_decide_eq_true (by kernel_rfl), of_decide_eq_true (by kernel_rfl)⟩).mono (by omega))) (Rn_cr.2 q2) (by omega) (by omega)
 rw [rv_cr, rv_cr] at p3
 have q3 := Qn_mul (show Qn 1 (65535) from ⟨of_decide_eq_true (by kernel_rfl), of_decide_eq_true (by kernel_rfl)⟩) q2 (by omega)
 have q4 : Qn 1 (1 / 2) := ⟨of_decide_eq_true (by kernel_rfl), of_decide_eq_true (by kernel_rfl)⟩
 have p4 := sum2_good (Ψ .cr (65535 * v)) (Ψ .cr (1 / 2)) (k := 1 + (k + (k + k) + 1)) (Rn_cr.2 q3) (Rn_cr.2 (q4.mono (by omega))) (by omega) (by omega)
 rw [rv_cr, rv_cr] at p4
 have q5 := Qn_add q3 q4
 have hN := codeN_lt v
 obtain ⟨M, hM⟩ : ∃ M, M = codeN v := ⟨_, rfl⟩
 rw [← hM] at hN ⊢
 unfold codeN at hM
 generalize Ψ .cr (113 / 355) = c1 at *
 generalize Ψ .cr 65535 = c2 at *
 generalize Ψ .cr (1 / 2) = c3 at *
 by_cases h0 : v ≤ 0
 ·rw [if_pos h0] at hM
  have b1 : Ω .le (Ψ .sI v) 0 = true := by
   rw [le_true, p_sI]
   by_cases h1 : v < 0
   ·rw [if_pos h1]; omega
   ·rw [if_neg h1, if_neg (by grind)]; omega
  rw [hM]
  refine rs ?_
  rfl
 ·rw [if_neg h0] at hM
  have b1 : Ω .le (Ψ .sI v) 0 = false := by rw [le_false, p_sI, if_neg (by grind), if_pos (by grind)]; omega
  by_cases h1 : 1 ≤ v
  ·rw [if_pos h1] at hM
   have b2 : Ω .le 0 (Ψ .cI v 1) = true := by
    rw [le_true, p_cI, if_neg (by grind)]
    by_cases h2 : 1 < v
    ·rw [if_pos h2]; omega
    ·rw [if_neg h2]; omega
   generalize Ψ .cI v 1 = c at *
   rw [hM]
   refine rs ?_
   rfl
  ·rw [if_neg h1] at hM
   have b2 : Ω .le 0 (Ψ .cI v 1) = false := by rw [le_false, p_cI, if_pos (by grind)]; omega
   have g5 := floor_good (Ψ .cr (65535 * v + 1 / 2)) (Rn_cr.2 q5) (by omega) (by omega) (by rw [rv_cr, Rat.num_nonneg]; grind)
   rw [rv_cr, ← hM, p_cr (M : Rat), Rat.num_natCast, Rat.den_natCast, decide_eq_false (by omega), Int.natAbs_natCast, cn_sm (n := M) (by omega), cn_sm (n := 1) (by omega)] at g5
   generalize Ψ .cI v 1 = c at *
   have wM : Ω .wrap .i64 (Ω .ci M) = Ω .ci M := wrap_ci (by omega)
   by_cases hM0 : M = 0
   ·rw [if_pos hM0] at g5
    have e0 : Ω .eq (Ω .ci ([] : List Nat).length) 0 = true := rfl
    rw [hM0]
    refine rs ?_
    rfl
   ·rw [if_neg hM0] at g5
    have e0 : Ω .eq (Ω .ci ([M] : List Nat).length) 0 = false := rfl
    have e1 : Ω .sget (Ψ .lims [M]) 0 = some (.i .u32 (Ω .ci M)) := rfl
    refine rs ?_
    rw [wM]
end Go.K.S
end
section
namespace Go.K
open Go
theorem bsz_lit (l : List UInt8) : Ω .bsz ⟨⟨l⟩⟩ = l.length := rfl
theorem rt {P Q : Prop} (q : Q) (h : Hid Q → P := by
 intro q; (generalize hΩ : Ω = ω, hΨ : Ψ = ψ; cbv <;> subst hΩ hΨ <;> try simp only [lits, true_and, Int.reduceAdd, Int.reduceSub, Int.reduceMul, not_u32, slen_nil, tn_ci, tn_zero, tn_one, tn_two, slen_lims, slen_dRs, slen_dVs, slen_dBs])
 (repeat (
  first
   | refine ⟨_, hC _ _ _ (by assumption), ?_⟩
   | refine ⟨_, _, hC2 _ _ _ _ _ (by assumption), ?_⟩
   | refine ⟨_, hC2 _ _ _ _ _ (by assumption), rfl, rfl, ?_⟩
   | refine ⟨ci_nonneg _, _, (by assumption), rfl, ?_⟩
   | refine ⟨_, (by assumption), rfl, ?_⟩
   | refine ⟨ci_nonneg _, (by simp only [wz, slen_scat]; omega), _, (by assumption), (by first | exact Nat.le_refl _ | (simp; done)), rfl, ?_⟩
   | refine ⟨(by first | exact fun u h => by rw [List.mem_singleton.1 h]; rfl | exact cells_dRs _ | assumption), (by simp only [wz, slen_scat, slen_cons, slen_nil, slen_bcl]; omega), ?_⟩
   | refine ⟨ci_nonneg _, _, (by assumption), ?_⟩
   | refine ⟨_, (by assumption), ?_⟩
   | refine BrG.yes (by first | assumption | decide) ?_
   | refine BrG.no (by first | assumption | decide) ?_
   | refine ⟨(by simp only [wz]; omega), ?_⟩
   | refine ⟨(by simp only [wz, bsz_bcat, bsz_lit, slen_cons, slen_nil, slen_bcl, List.length_cons, List.length_nil]; omega), ?_⟩
  (generalize hΩ : Ω = ω, hΨ : Ψ = ψ; cbv <;> subst hΩ hΨ <;> try simp only [lits, true_and, Int.reduceAdd, Int.reduceSub, Int.reduceMul, not_u32, slen_nil, tn_ci, tn_zero, tn_one, tn_two, slen_lims, slen_dRs, slen_dVs, slen_dBs])))
 all_goals with_reducible exact q.out) : P := h ⟨q⟩
def headS (w h n : Nat) : List Nat := [102, 105, 108, 109, 32] ++ decS w ++ [32] ++ decS h ++ [32] ++ decS n ++ [10]
def lineS (ab : RL × RL) : List Nat := prS (rv ab.1) ++ [32] ++ prS (rv ab.2) ++ [10]
def dumpS (w h n : Nat) (A B : List RL) : List Nat := headS w h n ++ ((A.zip B).flatMap lineS)
theorem chs_lit {l : List Nat} (h : l.all (· < 256) = true) : chs l := fun c hc => by simpa using List.all_eq_true.1 h c hc
theorem chs_headS (w h n : Nat) : chs (headS w h n) :=
 chs_app (chs_app (chs_app (chs_app (chs_app (chs_app (chs_lit rfl) (chs_decS w)) (chs_lit rfl)) (chs_decS h)) (chs_lit rfl)) (chs_decS n)) (chs_lit rfl)
theorem chs_lineS (ab : RL × RL) : chs (lineS ab) := chs_app (chs_app (chs_app (chs_prS _) (chs_lit rfl)) (chs_prS _)) (chs_lit rfl)
theorem chs_flat (l : List (RL × RL)) : chs (l.flatMap lineS) := fun c h => by
 obtain ⟨x, _, hx⟩ := List.mem_flatMap.1 h
 exact chs_lineS x c hx
theorem chs_dumpS (w h n : Nat) (A B : List RL) : chs (dumpS w h n A B) := chs_app (chs_headS w h n) (chs_flat _)
theorem byt_lit (l : List UInt8) : byt ⟨⟨l⟩⟩ = l.map fun c => c.toNat := rfl
theorem decS_small {n : Nat} (h : n < 100) : (decS n).length ≤ 2 := decS_len 2 n (by omega) (by omega)
theorem dump_ex (w h n : Nat) (A B : List RL) (hAB : B.length = A.length) {k : Nat} (hA : ∀ r, r ∈ A → Rn k r) (hB : ∀ r, r ∈ B → Rn k r) (hk0 : 0 < k) (hw : w < 100) (hh : h < 100) (hn : n < 100) :
  ∃ T : Nat → List Nat, T 0 = headS w h n ∧ (∀ i a b, A[i]? = some a → B[i]? = some b → T (i + 1) = T i ++ lineS (a, b)) ∧ (∀ i, chs (T i)) ∧ (∀ i, i ≤ A.length → (T i).length ≤ 15 + i * (40 * k + 6)) ∧ T A.length = dumpS w h n A B := by
 refine ⟨fun i => headS w h n ++ ((A.zip B).take i).flatMap lineS, by simp, fun i a b ha hb => ?_, fun i => chs_app (chs_headS w h n) (chs_flat _), fun i hi => ?_, ?_⟩
 ·have e : (A.zip B)[i]? = some (a, b) := by rw [List.getElem?_zip_eq_some]; exact ⟨ha, hb⟩
  simp only [List.take_add_one, e, List.flatMap_append]
  simp
 ·have h1 : (headS w h n).length ≤ 15 := by
   have a1 := decS_small hw; have a2 := decS_small hh; have a3 := decS_small hn
   unfold headS; simp; omega
  have h2 : ∀ i, i ≤ A.length → (((A.zip B).take i).flatMap lineS).length ≤ i * (40 * k + 6) := fun i => by
   induction i with
   | zero => intro _; simp
   | succ i ih =>
    intro hi
    have e : (A.zip B)[i]? = some (A[i]'(by omega), B[i]'(by omega)) := by rw [List.getElem?_zip_eq_some]; exact ⟨List.getElem?_eq_getElem _, List.getElem?_eq_getElem _⟩
    rw [List.take_add_one, e, List.flatMap_append, List.length_append]
    have l1 := prS_len hk0 (Qn_rv (hA (A[i]'(by omega)) (List.getElem_mem _)) hk0)
    have l2 := prS_len hk0 (Qn_rv (hB (B[i]'(by omega)) (List.getElem_mem _)) hk0)
    have := ih (by omega)
    rw [Nat.succ_mul]
    simp only [Option.toList, List.flatMap_cons, List.flatMap_nil, List.append_nil, lineS, List.length_append, List.length_cons, List.length_nil] at *
    omega
  have := h2 i hi
  rw [List.length_append]; omega
 ·simp only [dumpS]
  rw [List.take_of_length_le (by rw [List.length_zip]; omega)]
end Go.K
namespace Go.K
theorem fok_parts {w h n : Nat} {A B : List RL} (hok : fok (Ω .ci w) (Ω .ci h) (Ω .ci n) A B = true) : (1 ≤ w ∧ w ≤ 16) ∧ (1 ≤ h ∧ h ≤ 16) ∧ (1 ≤ n ∧ n ≤ 8) ∧ A.length = w * h * n ∧ B.length = A.length ∧ w * h * n ≤ 2048 ∧ 1 ≤ w * h * n ∧ A.all canR = true ∧ B.all canR = true := by
 simp only [fok, Bool.and_eq_true] at hok
 obtain ⟨hs, ha, hb, ca, cb⟩ := hok
 have h1 := szok_iff.1 hs
 have h2 := szok_mul hs
 rw [eq_true'] at ha hb
 simp only [wz] at *
 have e : ((w * h * n : Nat) : Int) = (w : Int) * h * n := by push_cast; rfl
 refine ⟨⟨by omega, by omega⟩, ⟨by omega, by omega⟩, ⟨by omega, by omega⟩, by omega, by omega, by omega, by omega, ca, cb⟩
end Go.K
namespace Go.K.S
open Go Go.K
theorem dump0_good (W H n : Int) (A B : List RL) {k : Nat} (hA : ∀ r, r ∈ A → Rn k r) (hB : ∀ r, r ∈ B → Rn k r) (hk0 : 0 < k) (hk : k < 137438953472) (hla : A.length < 9223372036854775808) (hlb : B.length < 9223372036854775808)
  (hok : fok W H n A B = false) : Good P F.film_Dump [.d (dF Ψ W H n A B)] [] (.tup [.d (.s ⟨#[]⟩), .d (.b false)]) [] := by
 refine G.film_Dump fun C C2 hC hC2 => ?_
 have g := fcheck_good W H n A B hA hB hk0 hk hla hlb
 rw [hok] at g
 exact rs trivial
theorem dump1_good (w h n : Nat) (A B : List RL) {k : Nat} (hA : ∀ r, r ∈ A → Rn k r) (hB : ∀ r, r ∈ B → Rn k r) (hk0 : 0 < k) (hk : k < 4000000)
  (hok : fok (Ω .ci w) (Ω .ci h) (Ω .ci n) A B = true) : Good P F.film_Dump [.d (dF Ψ (Ω .ci w) (Ω .ci h) (Ω .ci n) A B)] [] (.tup [.d (.s (Ψ .str (dumpS w h n A B))), .d (.b true)]) [] := by
 refine G.film_Dump fun C C2 hC hC2 => ?_
 obtain ⟨⟨w1, w2⟩, ⟨h1, h2⟩, ⟨n1, n2⟩, hla, hlb, hm1, hm2, _, _⟩ := fok_parts hok
 have g := fcheck_good (Ω .ci w) (Ω .ci h) (Ω .ci n) A B hA hB hk0 (by omega) (by omega) (by omega)
 rw [hok] at g
 obtain ⟨X, hT0, hTs, hTc, hTl, hTe⟩ := dump_ex w h n A B hlb hA hB hk0 (by omega) (by omega) (by omega)
 have g1 := itoa_good w (by omega)
 have g2 := itoa_good h (by omega)
 have g3 := itoa_good n (by omega)
 have c1 := chs_decS w
 have c2 := chs_decS h
 have c3 := chs_decS n
 have z1 : Ω .bsz (Ψ .str (decS w)) ≤ 2 := by rw [bsz_str c1]; exact decS_small (by omega)
 have z2 : Ω .bsz (Ψ .str (decS h)) ≤ 2 := by rw [bsz_str c2]; exact decS_small (by omega)
 have z3 : Ω .bsz (Ψ .str (decS n)) ≤ 2 := by rw [bsz_str c3]; exact decS_small (by omega)
 have hT0c := hTc 0
 have hT0l := hTl 0 (by omega)
 rw [← hTe]
 obtain ⟨hd, hhd⟩ : ∃ b : ByteArray, b = Ω .bcat (Ω .bcat (Ω .bcat (Ω .bcat (Ω .bcat (Ω .bcat ⟨⟨[102, 105, 108, 109, 32]⟩⟩ (Ψ .str (decS w))) ⟨⟨[32]⟩⟩) (Ψ .str (decS h))) ⟨⟨[32]⟩⟩) (Ψ .str (decS n))) ⟨⟨[10]⟩⟩ := ⟨_, rfl⟩
 have hhe : hd = Ψ .str (X 0) := by
  rw [hhd]
  refine byt_inj ?_
  rw [byt_str hT0c, hT0]
  simp only [byt_bcat, byt_lit, byt_str c1, byt_str c2, byt_str c3]
  rfl
 have gw := write0_good hd (by rw [hhe, bsz_str hT0c]; omega)
 rw [hhd] at gw
 have hhd' := hhd
 rw [hhe] at hhd'
 clear hhd hhe
 generalize Ψ .str (decS w) = B1 at *
 generalize Ψ .str (decS h) = B2 at *
 generalize Ψ .str (decS n) = B3 at *
 refine rt ?_
 rw [← hhd']
 refine LoopG.intro (σ := Nat) [1, 4, 27, 28] [1050, 1051, 1052] (fun i => [.ptr 1050 0, .ptr 1051 0, .d (.i .i64 (Ω .ci A.length)), .d (.i .i64 (Ω .ci i))])
  (fun i => [.var [.d (.i .i64 (Ω .ci w)), .d (.i .i64 (Ω .ci h)), .d (.i .i64 (Ω .ci n)), .d (.sl (Ψ .dRs A)), .d (.sl (Ψ .dRs B))], .var [.ptr 1051 0, .own 1052 1] (some T.strings_Builder), .row true T.uint8 1 (Ω .bcl (Ψ .str (X i)))])
  (fun i => i ≤ A.length) (fun i => A.length - i) 0 [1000, 1300, 1011320] (by omega) ⟨rfl, rfl, rfl⟩ ?_
 intro i hi
 have hTc' := hTc i
 have hTl' := hTl i hi
 have hib : i * (40 * k + 6) ≤ 2048 * 160000000 := Nat.mul_le_mul (by omega) (by omega)
 rcases Nat.eq_or_lt_of_le hi with hi1 | hi1
 ·have q0 : Ω .lt (Ω .ci i) (Ω .ci A.length) = false := by rw [lt_false]; simp only [wz]; omega
  rw [hi1] at q0 hTc' hTl' ⊢
  have gs := string1_good (Ψ .str (X A.length)) (by rw [bsz_str hTc', hTe]; unfold dumpS headS; simp)
  exact rs trivial
 ·have q0 : Ω .lt (Ω .ci i) (Ω .ci A.length) = true := by rw [lt_true]; simp only [wz]; omega
  obtain ⟨a, har⟩ : ∃ r, A[i]? = some r := ⟨_, List.getElem?_eq_getElem hi1⟩
  obtain ⟨b, hbr⟩ : ∃ r, B[i]? = some r := ⟨_, List.getElem?_eq_getElem (by omega)⟩
  have ea := hx_dRs har
  have eb := hx_dRs hbr
  have e3 : Ω .ilt (Ω .ci i) (Ω .ci A.length) := by simp only [wz]; omega
  have e4 : Ω .ilt (Ω .ci i) (Ω .ci B.length) := by simp only [wz]; omega
  have ra := hA a (List.mem_of_getElem? har)
  have rb := hB b (List.mem_of_getElem? hbr)
  have p1 := print_good a ra hk0 (by omega)
  have p2 := print_good b rb hk0 (by omega)
  have ws := wrap_succ (n := i) (by omega)
  have d1 := chs_prS (rv a)
  have d2 := chs_prS (rv b)
  have l1 := prS_len hk0 (Qn_rv ra hk0)
  have l2 := prS_len hk0 (Qn_rv rb hk0)
  have y1 : Ω .bsz (Ψ .str (prS (rv a))) ≤ 20 * k + 2 := by rw [bsz_str d1]; exact l1
  have y2 : Ω .bsz (Ψ .str (prS (rv b))) ≤ 20 * k + 2 := by rw [bsz_str d2]; exact l2
  have hst := hTs i a b har hbr
  have hTc2 := hTc (i + 1)
  obtain ⟨ln, hln⟩ : ∃ x : ByteArray, x = Ω .bcat (Ω .bcat (Ω .bcat (Ψ .str (prS (rv a))) ⟨⟨[32]⟩⟩) (Ψ .str (prS (rv b)))) ⟨⟨[10]⟩⟩ := ⟨_, rfl⟩
  have hlc : Ω .bcat (Ψ .str (X i)) ln = Ψ .str (X (i + 1)) := by
   rw [hln]
   refine byt_inj ?_
   rw [byt_str hTc2, hst]
   simp only [byt_bcat, byt_lit, byt_str d1, byt_str d2, byt_str hTc']
   rfl
  have gw := write1_good (Ψ .str (X i)) ln (by rw [hln, bsz_str hTc']; simp only [bsz_bcat, bsz_lit, List.length_cons, List.length_nil]; omega)
  rw [hlc, hln] at gw
  clear hlc hln
  generalize Ψ .str (prS (rv a)) = B1 at *
  generalize Ψ .str (prS (rv b)) = B2 at *
  refine rt ?_
  rw [ws]
  exact ⟨i + 1, [1050, 1051, 1014520], by omega, by omega, rfl, rfl, rfl⟩
end Go.K.S
end
section
namespace Go.K
open Go
def cds (A B : List RL) (i : Nat) : Nat := codeN (rv (A.getD i ⟨false, [], []⟩) + 113 / 355 * rv (B.getD i ⟨false, [], []⟩))
def bn (n : Nat) : Nat → Nat
 | 0 => 0
 | 1 => n / 2
 | _ => n - 1
def byS (c : Nat) : List Nat := [c / 256, c % 256]
def pxS (n : Nat) (A B : List RL) (p : Nat) : List Nat := [0, 1, 2].flatMap fun j => byS (cds A B (p * n + bn n j))
def ppH (w h : Nat) : List Nat := [80, 54, 10] ++ decS w ++ [32] ++ decS h ++ [10, 54, 53, 53, 51, 53, 10]
def ppB (w h n : Nat) (A B : List RL) : List Nat := (List.range (w * h)).flatMap (pxS n A B)
theorem chs_byS {c : Nat} (h : c < 65536) : chs (byS c) := chs_cons (by omega) (chs_cons (by omega) chs_nil)
theorem chs_pxS (n : Nat) (A B : List RL) (p : Nat) : chs (pxS n A B p) := fun c h => by
 obtain ⟨j, _, hj⟩ := List.mem_flatMap.1 h
 exact chs_byS (codeN_lt _) c hj
theorem chs_ppB (w h n : Nat) (A B : List RL) : chs (ppB w h n A B) := fun c h => by
 obtain ⟨j, _, hj⟩ := List.mem_flatMap.1 h
 exact chs_pxS n A B j c hj
theorem chs_ppH (w h : Nat) : chs (ppH w h) := chs_app (chs_app (chs_app (chs_app (chs_lit rfl) (chs_decS w)) (chs_lit rfl)) (chs_decS h)) (chs_lit rfl)
theorem ppm_ex (H : List Nat) (n m : Nat) (A B : List RL) : ∃ Y : Nat → Nat → List D, Y 0 0 = bys H ∧ (∀ p, Y p 3 = Y (p + 1) 0) ∧
  (∀ p j, j < 3 → Ω .scat (Y p j) [.i .u8 (Ω .ci (cds A B (p * n + bn n j) / 256)), .i .u8 (Ω .ci (cds A B (p * n + bn n j) % 256))] = Y p (j + 1)) ∧
  (∀ p j, Ω .slen (Y p j) ≤ H.length + p * 6 + j * 2) ∧ Y m 0 = bys (H ++ (List.range m).flatMap (pxS n A B)) := by
 refine ⟨fun p j => bys (H ++ (List.range p).flatMap (pxS n A B) ++ (pxS n A B p).take (j * 2)), by simp, fun p => ?_, fun p j hj => ?_, fun p j => ?_, by simp⟩
 ·simp only [List.range_succ, List.flatMap_append]
  simp [pxS, byS]
 ·have : j = 0 ∨ j = 1 ∨ j = 2 := by omega
  rw [w_scat]
  rcases this with rfl | rfl | rfl <;> simp [bys, pxS, byS]
 ·have hl : ∀ p, ((List.range p).flatMap (pxS n A B)).length = p * 6 := fun p => by
   induction p with
   | zero => simp
   | succ p ih => rw [List.range_succ, List.flatMap_append, List.length_append, ih, Nat.succ_mul]; rfl
  rw [w_slen, bys_len, List.length_append, List.length_append, hl, List.length_take]
  omega
theorem ppm_at {w h n p j : Nat} {A B : List RL} {k : Nat} (hla : A.length = w * h * n) (hlb : B.length = A.length) (hp : p < w * h) (hn : 1 ≤ n) (hj : j < 3) (hA : ∀ r, r ∈ A → Rn k r) (hB : ∀ r, r ∈ B → Rn k r) :
  ∃ a b, Ω .sget (Ψ .dRs A) (p * n + bn n j) = some (.agg (dR Ψ a)) ∧ Ω .sget (Ψ .dRs B) (p * n + bn n j) = some (.agg (dR Ψ b)) ∧ Rn k a ∧ Rn k b ∧ cds A B (p * n + bn n j) = codeN (rv a + 113 / 355 * rv b) ∧
   Ω .ilt (Ω .ci (p * n + bn n j)) (Ω .ci A.length) ∧ Ω .ilt (Ω .ci (p * n + bn n j)) (Ω .ci B.length) := by
 have hb : bn n j < n := by
  have : j = 0 ∨ j = 1 ∨ j = 2 := by omega
  rcases this with rfl | rfl | rfl <;> simp only [bn] <;> omega
 have h1 : p * n + bn n j < A.length := by
  have := Nat.mul_le_mul_right n (show p + 1 ≤ w * h by omega)
  rw [Nat.add_mul] at this
  omega
 have ea : A[p * n + bn n j]? = some (A[p * n + bn n j]'h1) := List.getElem?_eq_getElem h1
 have eb : B[p * n + bn n j]? = some (B[p * n + bn n j]'(by omega)) := List.getElem?_eq_getElem (by omega)
 refine ⟨_, _, by rw [sget_dRs, ea]; rfl, by rw [sget_dRs, eb]; rfl, hA _ (List.getElem_mem _), hB _ (List.getElem_mem _), ?_, by simp only [wz]; omega, by simp only [wz]; omega⟩
 rw [cds, List.getD_eq_getElem?_getD, List.getD_eq_getElem?_getD, ea, eb]
 rfl
theorem ppm_wrap {p n b : Nat} (hp : p < 256) (hn : n ≤ 8) (hb : b ≤ 8) : Ω .wrap .i64 (Ω .wrap .i64 (Ω .ci p * Ω .ci n) + Ω .ci b) = Ω .ci (p * n + b) := by
 have : p * n ≤ 256 * 8 := Nat.mul_le_mul (by omega) hn
 rw [show Ω .ci p * Ω .ci n = Ω .ci (p * n) by simp only [wz]; push_cast; rfl, wrap_ci (by omega), wrap_add (by omega)]
theorem ppm_shr {c : Nat} (h : c < 65536) : Ω .wrap .u8 (Ω .ishr .i64 (Ω .ci c) 8) = Ω .ci (c / 256) := by
 rw [w_ishr, show (2 : Int) ^ (min (Int.toNat 8) IntKind.i64.bits) = 256 from rfl, w_ci, Int.fdiv_eq_ediv_of_nonneg _ (by omega), show ((c : Int)) / 256 = Ω .ci (c / 256) by rw [w_ci]; omega, wrapu8_ci, Nat.mod_eq_of_lt (by omega)]
theorem two_cells {x y : D} (hx : x.cells.length = 1) (hy : y.cells.length = 1) : ∀ u, u ∈ [x, y] → u.cells.length = 1 := fun u h => by
 rcases List.mem_cons.1 h with rfl | h
 ·exact hx
 ·rw [List.mem_singleton.1 h]; exact hy
end Go.K
namespace Go.K.S
open Go Go.K
theorem ppm1_good (w h n : Nat) (A B : List RL) {k : Nat} (hA : ∀ r, r ∈ A → Rn k r) (hB : ∀ r, r ∈ B → Rn k r) (hk0 : 0 < k) (hk : k < 4000000)
  (hok : fok (Ω .ci w) (Ω .ci h) (Ω .ci n) A B = true) : Good P F.film_Ppm [.d (dF Ψ (Ω .ci w) (Ω .ci h) (Ω .ci n) A B)] [] (.tup [.d (.s (Ψ .str (ppH w h ++ ppB w h n A B))), .d (.b true)]) [] := by
 refine G.film_Ppm fun C C2 hC hC2 => ?_
 obtain ⟨⟨w1, w2⟩, ⟨h1, h2⟩, ⟨n1, n2⟩, hla, hlb, hm1, hm2, _, _⟩ := fok_parts hok
 have g := fcheck_good (Ω .ci w) (Ω .ci h) (Ω .ci n) A B hA hB hk0 (by omega) (by omega) (by omega)
 rw [hok] at g
 have g1 := itoa_good w (by omega)
 have g2 := itoa_good h (by omega)
 have c1 := chs_decS w
 have c2 := chs_decS h
 have z1 : Ω .bsz (Ψ .str (decS w)) ≤ 2 := by rw [bsz_str c1]; exact decS_small (by omega)
 have z2 : Ω .bsz (Ψ .str (decS h)) ≤ 2 := by rw [bsz_str c2]; exact decS_small (by omega)
 have hwh : w * h ≤ 256 := Nat.mul_le_mul (show w ≤ 16 by omega) (show h ≤ 16 by omega)
 obtain ⟨Y, hY0, hYn, hYs, hYl, hYe⟩ := ppm_ex (ppH w h) n (w * h) A B
 change Y (w * h) 0 = bys (ppH w h ++ ppB w h n A B) at hYe
 have cH := chs_ppH w h
 have cR := chs_app cH (chs_ppB w h n A B)
 have by1 := byts_map cR
 have by2 := dby_map cR
 change Ω .byts (bys (ppH w h ++ ppB w h n A B)) at by1
 change Ω .dby (bys (ppH w h ++ ppB w h n A B)) = _ at by2
 rw [← hYe] at by1 by2
 generalize Ψ .str (ppH w h ++ ppB w h n A B) = R at *
 have hHl : (ppH w h).length ≤ 20 := by
  have a1 := decS_small (n := w) (by omega); have a2 := decS_small (n := h) (by omega)
  unfold ppH; simp; omega
 have hhd : Ω .bcl (Ω .bcat (Ω .bcat (Ω .bcat (Ω .bcat ⟨⟨[80, 54, 10]⟩⟩ (Ψ .str (decS w))) ⟨⟨[32]⟩⟩) (Ψ .str (decS h))) ⟨⟨[10, 54, 53, 53, 51, 53, 10]⟩⟩) = Y 0 0 := by
  rw [hY0]
  have e : Ω .bcl (Ψ .str (ppH w h)) = bys (ppH w h) := bcl_str cH
  rw [← e]
  refine congrArg (Ω .bcl) (byt_inj ?_)
  rw [byt_str cH]
  simp only [byt_bcat, byt_lit, byt_str c1, byt_str c2]
  rfl
 have hbz : Ω .bsz (Ψ .str (decS w)) + Ω .bsz (Ψ .str (decS h)) ≤ 4 := by omega
 have wm : Ω .wrap .i64 (Ω .ci w * Ω .ci h) = Ω .ci (w * h) := by
  rw [show Ω .ci w * Ω .ci h = ((w * h : Nat) : Int) by simp only [wz]; push_cast; rfl, wrap64 (by omega) (by omega)]; rfl
 have wq : Ω .wrap .i64 ((Ω .ci n).tdiv 2) = Ω .ci (n / 2) := by
  rw [w_ci, Int.tdiv_eq_ediv_of_nonneg (by omega), wrap64 (by omega) (by omega), w_ci]; omega
 have wr : Ω .wrap .i64 (Ω .ci n - 1) = Ω .ci (n - 1) := wrap_pred (by omega) (by omega)
 generalize Ψ .str (decS w) = B1 at *
 generalize Ψ .str (decS h) = B2 at *
 refine rt ?_
 rw [hhd, wm]
 refine LoopG.intro (σ := Nat) [1, 4, 28, 29] [1050, 1051] (fun p => [.ptr 1050 0, .own 1051 1, .d (.i .i64 (Ω .ci (w * h))), .d (.i .i64 (Ω .ci p))])
  (fun p => [.var [.d (.i .i64 (Ω .ci w)), .d (.i .i64 (Ω .ci h)), .d (.i .i64 (Ω .ci n)), .d (.sl (Ψ .dRs A)), .d (.sl (Ψ .dRs B))], .row true T.uint8 1 (Y p 0)])
  (fun p => p ≤ w * h) (fun p => w * h - p) 0 [1000, 1310] (by omega) ⟨rfl, rfl, rfl⟩ ?_
 intro p hp
 rcases Nat.eq_or_lt_of_le hp with hp1 | hp1
 ·have q0 : Ω .lt (Ω .ci p) (Ω .ci (w * h)) = false := by rw [lt_false]; simp only [wz]; omega
  rw [hp1] at q0 ⊢
  refine rs ?_
  exact ⟨by1, by rw [by2]⟩
 ·have q0 : Ω .lt (Ω .ci p) (Ω .ci (w * h)) = true := by rw [lt_true]; simp only [wz]; omega
  have wsp := wrap_succ (n := p) (by omega)
  refine rs ?_
  rw [wq, wr]
  refine LoopG.intro (σ := Nat) [1, 4, 5, 28, 29, 38, 39] [1050, 1051] (fun j => [.ptr 1050 0, .own 1051 1, .d (.i .i64 (Ω .ci p)), .d (.i .i64 (Ω .ci (w * h))), .d (.i .i64 (Ω .ci p)), .agg [.d (.i .i64 0), .d (.i .i64 (Ω .ci (n / 2))), .d (.i .i64 (Ω .ci (n - 1)))], .d (.i .i64 (Ω .ci j))])
   (fun j => [.var [.d (.i .i64 (Ω .ci w)), .d (.i .i64 (Ω .ci h)), .d (.i .i64 (Ω .ci n)), .d (.sl (Ψ .dRs A)), .d (.sl (Ψ .dRs B))], .row true T.uint8 1 (Y p j)])
   (fun j => j ≤ 3) (fun j => 3 - j) 0 [1050, 1051] (by omega) ⟨rfl, rfl, rfl⟩ ?_
  intro j hj
  have hjc : j = 3 ∨ j = 0 ∨ j = 1 ∨ j = 2 := by omega
  rcases hjc with hj3 | hj3
  ·subst hj3
   have e := hYn p
   refine rs ?_
   rw [wsp, e]
   exact ⟨p + 1, [1050, 1051], by omega, by omega, rfl, rfl, rfl⟩
  ·obtain ⟨a, b, ea, eb, ra, rb, ec, el, el2⟩ := ppm_at hla hlb hp1 n1 (show j < 3 by omega) hA hB
   have gc := code_good a b ra rb hk0 (by omega)
   rw [← ec] at gc
   have hc := codeN_lt (rv a + 113 / 355 * rv b)
   rw [← ec] at hc
   have es := hYs p j (by omega)
   have hl := hYl p j
   clear ec
   generalize cds A B (p * n + bn n j) = c at *
   have sh := ppm_shr hc
   have sm := wrapu8_ci c
   rcases hj3 with rfl | rfl | rfl
   ·have wat : Ω .wrap .i64 (Ω .wrap .i64 (Ω .ci p * Ω .ci n) + 0) = Ω .ci (p * n + bn n 0) := ppm_wrap (b := 0) (by omega) n2 (by omega)
    simp only [show Ω .ci 0 = (0 : Int) from rfl]
    generalize p * n + bn n 0 = ix at *
    refine rs ?_
    rw [wat]
    refine rs ?_
    rw [sh, sm, es]
    refine ⟨two_cells rfl rfl, ?_, 1, [1050, 2207], by omega, by omega, rfl, rfl, rfl⟩
    rw [slen_cons, slen_cons, slen_nil]; simp only [wz]; omega
   ·have wat : Ω .wrap .i64 (Ω .wrap .i64 (Ω .ci p * Ω .ci n) + Ω .ci (n / 2)) = Ω .ci (p * n + bn n 1) := ppm_wrap (b := n / 2) (by omega) n2 (by omega)
    simp only [show Ω .ci 1 = (1 : Int) from rfl]
    generalize p * n + bn n 1 = ix at *
    refine rs ?_
    rw [wat]
    refine rs ?_
    rw [sh, sm, es]
    refine ⟨two_cells rfl rfl, ?_, 2, [1050, 2207], by omega, by omega, rfl, rfl, rfl⟩
    rw [slen_cons, slen_cons, slen_nil]; simp only [wz]; omega
   ·have wat : Ω .wrap .i64 (Ω .wrap .i64 (Ω .ci p * Ω .ci n) + Ω .ci (n - 1)) = Ω .ci (p * n + bn n 2) := ppm_wrap (b := n - 1) (by omega) n2 (by omega)
    simp only [show Ω .ci 2 = (2 : Int) from rfl]
    generalize p * n + bn n 2 = ix at *
    refine rs ?_
    rw [wat]
    refine rs ?_
    rw [sh, sm, es]
    refine ⟨two_cells rfl rfl, ?_, 3, [1050, 2207], by omega, by omega, rfl, rfl, rfl⟩
    rw [slen_cons, slen_cons, slen_nil]; simp only [wz]; omega
end Go.K.S
end
section
namespace Go.K
open Go
theorem sset_dRs (l : List RL) (i : Nat) (r : RL) : Ω .sset (Ψ .dRs l) i (.agg (dR Ψ r)) = Ψ .dRs (l.set i r) := by rw [p_dRs, p_dRs, w_sset, List.map_set]
def adOk (W H n : Int) (A B : List RL) (px bin : Int) : Bool := fok W H n A B && (!(Ω .lt px 0) && (!(Ω .le (W * H) px) && (!(Ω .lt bin 0) && !(Ω .le n bin))))
def adS (l : List RL) (i : Nat) (a : RL) : List RL := (l.map rdR).set i (Ψ .cr (rv (l.getD i ⟨false, [], []⟩) + rv a))
theorem rv_rdR (r : RL) : rv (rdR r) = rv r := rv_cr _
theorem fok_szok {W H n : Int} {A B : List RL} (h : fok W H n A B = true) : szok W H n = true := by
 simp only [fok, Bool.and_eq_true] at h; exact h.1
end Go.K
namespace Go.K.S
open Go Go.K
theorem fadd1_good (W H n px bin : Int) (A B : List RL) (a b : RL) (i : Nat) {k : Nat} (hA : ∀ r, r ∈ A → Rn k r) (hB : ∀ r, r ∈ B → Rn k r) (ha : Rn k a) (hb : Rn k b) (hk0 : 0 < k) (hk : k < 4000000)
  (hok : adOk W H n A B px bin = true) (hi : (i : Int) = px * n + bin) : Good P F.film_Add [.d (dF Ψ W H n A B), .d (.i .i64 px), .d (.i .i64 bin), .d (.agg (dR Ψ a)), .d (.agg (dR Ψ b))] [] (.tup [.d (dF Ψ W H n (adS A i a) (adS B i b)), .d (.b true)]) [] := by
 refine G.film_Add fun C C2 hC hC2 => ?_
 unfold adOk at hok
 simp only [Bool.and_eq_true, Bool.not_eq_true'] at hok
 obtain ⟨h0, h1, h2, h3, h4⟩ := hok
 obtain ⟨_, a1, a2, a3, a4⟩ := szok_mul (fok_szok h0)
 obtain ⟨_, _, n1, n2⟩ := szok_iff.1 (fok_szok h0)
 have wm : Ω .wrap .i64 (W * H) = W * H := wrap64 (by omega) (by omega)
 rw [← wm] at h2
 have hla : (A.length : Int) = W * H * n ∧ (B.length : Int) = W * H * n := by
  simp only [fok, Bool.and_eq_true, eq_true'] at h0
  exact ⟨h0.2.1, h0.2.2.1⟩
 have g := fcheck_good W H n A B hA hB hk0 (by omega) (by omega) (by omega)
 rw [h0] at g
 have gc := copied_good W H n A B hA hB (by omega) (by omega) (by omega)
 rw [lt_false] at h1 h3
 rw [le_false] at h2 h4
 have hpn : px * n ≤ (W * H - 1) * n := Int.mul_le_mul_of_nonneg_right (by omega) (by omega)
 rw [Int.sub_mul] at hpn
 have hpn0 : 0 ≤ px * n := Int.mul_nonneg h1 (by omega)
 have hil : i < A.length := by omega
 have wat : Ω .wrap .i64 (Ω .wrap .i64 (px * n) + bin) = Ω .ci i := by
  rw [wrap64 (n := px * n) (by omega) (by omega), ← hi, ← w_ci, wrap_ci (by omega)]
 rw [← lt_false] at h1 h3
 rw [← le_false] at h2 h4
 have ea : (A.map rdR)[i]? = some (rdR A[i]) := by rw [List.getElem?_map, List.getElem?_eq_getElem hil]; rfl
 have eb : (B.map rdR)[i]? = some (rdR (B[i]'(by omega))) := by rw [List.getElem?_map, List.getElem?_eq_getElem (by omega)]; rfl
 have ra := hA A[i] (List.getElem_mem _)
 have rb := hB (B[i]'(by omega)) (List.getElem_mem _)
 have s1 := sum2_good (rdR A[i]) a (k := k) (Rn_cr.2 (Qn_rv ra hk0)) ha hk0 (by omega)
 have s2 := sum2_good (rdR (B[i]'(by omega))) b (k := k) (Rn_cr.2 (Qn_rv rb hk0)) hb hk0 (by omega)
 rw [rv_rdR] at s1 s2
 have eA : adS A i a = (A.map rdR).set i (Ψ .cr (rv A[i] + rv a)) := by rw [adS, List.getD_eq_getElem?_getD, List.getElem?_eq_getElem hil]; rfl
 have eB : adS B i b = (B.map rdR).set i (Ψ .cr (rv (B[i]'(by omega)) + rv b)) := by rw [adS, List.getD_eq_getElem?_getD, List.getElem?_eq_getElem (by omega)]; rfl
 rw [eA, eB]
 unfold dF
 rw [← sset_dRs, ← sset_dRs]
 have e1 := hx_dRs ea
 have e2 := hx_dRs eb
 have j1 : i < (A.map rdR).length := by rw [List.length_map]; omega
 have j2 : i < (B.map rdR).length := by rw [List.length_map]; omega
 have i1 : Ω .ilt (Ω .ci i) (Ω .ci (A.map rdR).length) := by rw [List.length_map]; simp only [wz]; omega
 have i2 : Ω .ilt (Ω .ci i) (Ω .ci (B.map rdR).length) := by rw [List.length_map]; simp only [wz]; omega
 clear eA eB ea eb
 generalize A.map rdR = A' at *
 generalize B.map rdR = B' at *
 generalize rdR A[i] = x at *
 generalize rdR (B[i]'(by omega)) = y at *
 generalize Ψ .cr (rv A[i] + rv a) = u at *
 generalize Ψ .cr (rv (B[i]'(by omega)) + rv b) = v at *
 refine rs ?_
 rw [wat, tn_ci]
 refine ⟨ci_nonneg _, i1, _, e1, Nat.le_refl _, rfl, ?_⟩
 exact rs trivial
end Go.K.S
end
section
namespace Go.K
open Go
def lng (r : RL) : Bool := Ω .lt 200 (Ω .ci r.num.length) || Ω .lt 200 (Ω .ci r.den.length)
theorem any_take_succ {l : List RL} {i : Nat} {r : RL} (h : l[i]? = some r) : (l.take (i + 1)).any lng = ((l.take i).any lng || lng r) := by
 rw [List.take_add_one, h, List.any_append]; simp
theorem canR_cr (q : Rat) : canR (Ψ .cr q) = true := by unfold canR; rw [rv_cr]; exact decide_eq_true rfl
theorem all_zer (m : Nat) : (zer m).all canR = true := by
 rw [List.all_eq_true]; intro r hr
 rw [zer] at hr
 rw [(List.mem_replicate.1 hr).2]; exact canR_cr 0
theorem Rn_zer {m : Nat} : ∀ r, r ∈ zer m → Rn 1 r := fun r hr => by
 rw [zer] at hr
 rw [(List.mem_replicate.1 hr).2]; exact Rn_cr.2 (Qn_zero (by omega))
theorem prS_zero : prS 0 = [48] := by
 show (if (0 : Rat).num < 0 then [45] else []) ++ decS (0 : Rat).num.natAbs ++ (if (0 : Rat).den = 1 then [] else 47 :: decS (0 : Rat).den) = _
 rw [show (0 : Rat).num = 0 from rfl, show (0 : Rat).den = 1 from rfl, if_neg (by omega), if_pos rfl]
 show [] ++ decS 0 ++ [] = _
 rw [decS_lt (by omega)]; rfl
theorem dumpS_one : dumpS 1 1 1 (zer 1) (zer 1) = [102, 105, 108, 109, 32, 49, 32, 49, 32, 49, 10, 48, 32, 48, 10] := by
 show headS 1 1 1 ++ (lineS (Ψ .cr 0, Ψ .cr 0) ++ []) = _
 unfold lineS headS
 simp only [rv_cr, prS_zero]
 rw [decS_lt (by omega)]; rfl
theorem codeN_half : codeN (1 / 2) = 32768 := of_decide_eq_true (by kernel_rfl)
end Go.K
namespace Go.K.S
open Go Go.K
theorem long20_good (W H n : Int) (A B : List RL) (hla : A.length < 9223372036854775808) (hlb : B.length < 9223372036854775808) : Good P F.penumbraref20_Long [.d (dF Ψ W H n A B)] [] (.d (.b (A.any lng || B.any lng))) [] := by
 refine G.penumbraref20_Long fun C C2 hC hC2 => ?_
 obtain ⟨R, hR⟩ : ∃ R, R = (A.any lng || B.any lng) := ⟨_, rfl⟩
 rw [← hR]
 refine rs ?_
 refine LoopG.intro (σ := Nat) [1, 3] [1050] (fun i => [.ptr 1050 0, .d (.i .i64 (Ω .ci i))]) (fun i => [.var [.d (.i .i64 W), .d (.i .i64 H), .d (.i .i64 n), .d (.sl (Ψ .dRs A)), .d (.sl (Ψ .dRs B))]])
  (fun i => i ≤ A.length ∧ (A.take i).any lng = false) (fun i => A.length - i) 0 [1000] ⟨by omega, by simp⟩ ⟨rfl, rfl, rfl⟩ ?_
 rintro i ⟨hi, ha⟩
 rcases Nat.eq_or_lt_of_le hi with hi1 | hi1
 ·have q0 : Ω .lt (Ω .ci i) (Ω .ci A.length) = false := by rw [lt_false]; simp only [wz]; omega
  rw [hi1, List.take_length] at ha
  rw [ha, Bool.false_or] at hR
  refine rs ?_
  refine LoopG.intro (σ := Nat) [1, 4] [1050] (fun i => [.ptr 1050 0, .d (.i .i64 (Ω .ci i))]) (fun i => [.var [.d (.i .i64 W), .d (.i .i64 H), .d (.i .i64 n), .d (.sl (Ψ .dRs A)), .d (.sl (Ψ .dRs B))]])
   (fun i => i ≤ B.length ∧ (B.take i).any lng = false) (fun i => B.length - i) 0 [1050] ⟨by omega, by simp⟩ ⟨rfl, rfl, rfl⟩ ?_
  clear q0 hi1 hi i
  rintro i ⟨hi, hb⟩
  rcases Nat.eq_or_lt_of_le hi with hi1 | hi1
  ·have q0 : Ω .lt (Ω .ci i) (Ω .ci B.length) = false := by rw [lt_false]; simp only [wz]; omega
   rw [hi1, List.take_length] at hb
   rw [hb] at hR
   refine rs ?_
   rw [hR]
  ·have q0 : Ω .lt (Ω .ci i) (Ω .ci B.length) = true := by rw [lt_true]; simp only [wz]; omega
   obtain ⟨a, har⟩ : ∃ r, B[i]? = some r := ⟨_, List.getElem?_eq_getElem hi1⟩
   have ea := hx_dRs har
   have e3 : Ω .ilt (Ω .ci i) (Ω .ci B.length) := by simp only [wz]; omega
   have ws := wrap_succ (n := i) (by omega)
   have hsa := any_take_succ har
   have hta : lng a = true → B.any lng = true := fun h => List.any_eq_true.2 ⟨a, List.mem_of_getElem? har, h⟩
   cases h1 : Ω .lt 200 (Ω .ci a.num.length) with
   | true =>
    have e : R = true := by rw [hR]; exact hta (by unfold lng; rw [h1]; rfl)
    refine rs ?_
    rw [e]
   | false =>
    cases h2 : Ω .lt 200 (Ω .ci a.den.length) with
    | true =>
     have e : R = true := by rw [hR]; exact hta (by unfold lng; rw [h1, h2]; rfl)
     refine rs ?_
     rw [e]
    | false =>
     refine rs ?_
     rw [ws]
     exact ⟨i + 1, [1050], ⟨by omega, by rw [hsa, hb]; unfold lng; rw [h1, h2]; rfl⟩, by omega, rfl, rfl, rfl⟩
 ·have q0 : Ω .lt (Ω .ci i) (Ω .ci A.length) = true := by rw [lt_true]; simp only [wz]; omega
  obtain ⟨a, har⟩ : ∃ r, A[i]? = some r := ⟨_, List.getElem?_eq_getElem hi1⟩
  have ea := hx_dRs har
  have e3 : Ω .ilt (Ω .ci i) (Ω .ci A.length) := by simp only [wz]; omega
  have ws := wrap_succ (n := i) (by omega)
  have hsa := any_take_succ har
  have hta : lng a = true → A.any lng = true := fun h => List.any_eq_true.2 ⟨a, List.mem_of_getElem? har, h⟩
  cases h1 : Ω .lt 200 (Ω .ci a.num.length) with
  | true =>
   have e : R = true := by rw [hR, hta (by unfold lng; rw [h1]; rfl)]; rfl
   refine rs ?_
   rw [e]
  | false =>
   cases h2 : Ω .lt 200 (Ω .ci a.den.length) with
   | true =>
    have e : R = true := by rw [hR, hta (by unfold lng; rw [h1, h2]; rfl)]; rfl
    refine rs ?_
    rw [e]
   | false =>
    refine rs ?_
    rw [ws]
    exact ⟨i + 1, [1050], ⟨by omega, by rw [hsa, ha]; unfold lng; rw [h1, h2]; rfl⟩, by omega, rfl, rfl, rfl⟩
theorem fixed20_good : Good P F.penumbralaw20_fixed [] [] (.d (.b true)) [] := by
 refine G.penumbralaw20_fixed fun C C2 hC hC2 => ?_
 have g1 := new1_good 1 1 1 1 (by rfl) (by omega)
 have g2 := new0_good 1 17 1 (by rfl)
 have hf : fok (Ω .ci 1) (Ω .ci 1) (Ω .ci 1) (zer 1) (zer 1) = true := by unfold fok; rw [all_zer]; rfl
 have g3 := dump1_good 1 1 1 (zer 1) (zer 1) (k := 1) Rn_zer Rn_zer (by omega) (by omega) hf
 have o1 := rof_good 1 2 (by omega) (by omega) (by omega) (by omega)
 have o2 := rof_good 0 1 (by omega) (by omega) (by omega) (by omega)
 rw [show ((0 : Int) : Rat) / ((1 : Int) : Rat) = 0 by kernel_rfl] at o2
 rw [show ((1 : Int) : Rat) / ((2 : Int) : Rat) = 1 / 2 from rfl] at o1
 have g4 := fadd1_good 1 1 1 0 0 (zer 1) (zer 1) (Ψ .cr (1 / 2)) (Ψ .cr 0) 0 (k := 1) Rn_zer Rn_zer (Rn_cr.2 ⟨of_decide_eq_true (by kernel_rfl), of_decide_eq_true (by kernel_rfl)⟩) (Rn_cr.2 (Qn_zero (by omega))) (by omega) (by omega) (by unfold adOk; rw [show fok 1 1 1 (zer 1) (zer 1) = true from hf]; rfl) (by omega)
 have a1 : adS (zer 1) 0 (Ψ .cr (1 / 2)) = [Ψ .cr (1 / 2)] := by
  show [Ψ .cr (rv (Ψ .cr 0) + rv (Ψ .cr (1 / 2)))] = _
  rw [rv_cr, rv_cr, Rat.zero_add]
 have a2 : adS (zer 1) 0 (Ψ .cr 0) = [Ψ .cr 0] := by
  show [Ψ .cr (rv (Ψ .cr 0) + rv (Ψ .cr 0))] = _
  rw [rv_cr, Rat.zero_add]
 rw [a1, a2] at g4
 have hf2 : fok (Ω .ci 1) (Ω .ci 1) (Ω .ci 1) [Ψ .cr (1 / 2)] [Ψ .cr 0] = true := by
  unfold fok
  rw [show [Ψ .cr (1 / 2)].all canR = true by rw [List.all_cons, canR_cr]; rfl, show [Ψ .cr 0].all canR = true by rw [List.all_cons, canR_cr]; rfl]; rfl
 have g5 := ppm1_good 1 1 1 [Ψ .cr (1 / 2)] [Ψ .cr 0] (k := 1) (fun r h => by rw [List.mem_singleton.1 h]; exact Rn_cr.2 ⟨of_decide_eq_true (by kernel_rfl), of_decide_eq_true (by kernel_rfl)⟩) (fun r h => by rw [List.mem_singleton.1 h]; exact Rn_cr.2 (Qn_zero (by omega))) (by omega) (by omega) hf2
 have c1 : ppH 1 1 ++ ppB 1 1 1 [Ψ .cr (1 / 2)] [Ψ .cr 0] = [80, 54, 10, 49, 32, 49, 10, 54, 53, 53, 51, 53, 10, 128, 0, 128, 0, 128, 0] := by
  have e : cds [Ψ .cr (1 / 2)] [Ψ .cr 0] 0 = 32768 := by
   show codeN (rv (Ψ .cr (1 / 2)) + 113 / 355 * rv (Ψ .cr 0)) = _
   rw [rv_cr, rv_cr, Rat.mul_zero, Rat.add_zero, codeN_half]
  show ppH 1 1 ++ ((byS (cds [Ψ .cr (1 / 2)] [Ψ .cr 0] 0) ++ (byS (cds [Ψ .cr (1 / 2)] [Ψ .cr 0] 0) ++ (byS (cds [Ψ .cr (1 / 2)] [Ψ .cr 0] 0) ++ []))) ++ []) = _
  rw [e, ppH, decS_lt (by omega)]; rfl
 rw [c1] at g5
 rw [dumpS_one] at g3
 have b1 : Ω .beqs (Ψ .str [102, 105, 108, 109, 32, 49, 32, 49, 32, 49, 10, 48, 32, 48, 10]) ⟨⟨[102, 105, 108, 109, 32, 49, 32, 49, 32, 49, 10, 48, 32, 48, 10]⟩⟩ = true := by rw [beqs_byt, byt_str (chs_lit rfl), byt_lit]; rfl
 have b2 : Ω .beqs (Ψ .str [80, 54, 10, 49, 32, 49, 10, 54, 53, 53, 51, 53, 10, 128, 0, 128, 0, 128, 0]) ⟨⟨[80, 54, 10, 49, 32, 49, 10, 54, 53, 53, 51, 53, 10, 128, 0, 128, 0, 128, 0]⟩⟩ = true := by rw [beqs_byt, byt_str (chs_lit rfl), byt_lit]; rfl
 rw [show Ω .ci 1 = 1 from rfl] at g3 g5
 generalize Ψ .str [102, 105, 108, 109, 32, 49, 32, 49, 32, 49, 10, 48, 32, 48, 10] = S1 at *
 generalize Ψ .str [80, 54, 10, 49, 32, 49, 10, 54, 53, 53, 51, 53, 10, 128, 0, 128, 0, 128, 0] = S2 at *
 generalize Ψ .cr (1 / 2) = C1 at *
 generalize Ψ .cr 0 = C0 at *
 generalize zer 1 = Z at *
 clear hf hf2 a1 a2 c1
 exact rs trivial
end Go.K.S
end
section
namespace Go.K
open Go
structure Bn (k : Nat) (b : BL) : Prop where
 lo : Vn k b.lo
 hi : Vn k b.hi
structure Bq (k : Nat) (p : B3) : Prop where
 lo : Pn k p.lo
 hi : Pn k p.hi
theorem BL.ext_iff' {a b : BL} : a = b ↔ a.lo = b.lo ∧ a.hi = b.hi := by
 cases a; cases b; simp
instance : DecidableEq BL := fun _ _ => decidable_of_iff _ BL.ext_iff'.symm
theorem B3.ext_iff' {a b : B3} : a = b ↔ a.lo = b.lo ∧ a.hi = b.hi := by
 cases a; cases b; simp
instance : DecidableEq B3 := fun _ _ => decidable_of_iff _ B3.ext_iff'.symm
structure S3 where
 from' : Rat
 to' : Rat
 op : Bool
structure SL where
 from' : RL
 to' : RL
 op : Bool
theorem SL.ext_iff' {a b : SL} : a = b ↔ a.from' = b.from' ∧ a.to' = b.to' ∧ a.op = b.op := by
 cases a; cases b; simp
instance : DecidableEq SL := fun _ _ => decidable_of_iff _ SL.ext_iff'.symm
theorem S3.ext_iff' {a b : S3} : a = b ↔ a.from' = b.from' ∧ a.to' = b.to' ∧ a.op = b.op := by
 cases a; cases b; simp
instance : DecidableEq S3 := fun _ _ => decidable_of_iff _ S3.ext_iff'.symm
def btw (x lo hi : Rat) : Prop := lo ≤ x ∧ x ≤ hi
instance (x lo hi : Rat) : Decidable (btw x lo hi) := by unfold btw; infer_instance
def holds (b : B3) (p : V3) : Prop := btw p.x b.lo.x b.hi.x ∧ btw p.y b.lo.y b.hi.y ∧ btw p.z b.lo.z b.hi.z
instance (b : B3) (p : V3) : Decidable (holds b p) := by unfold holds; infer_instance
end Go.K
namespace Go.K
open Go
structure Sn (k : Nat) (s : S3) : Prop where
 f : Qn k s.from'
 t : Qn k s.to'
end Go.K
end
