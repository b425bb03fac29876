/-
  Parts of the proof, joined by a program of this work: KNat, KTrim, KBits, KLow, KMul, KDiv, KShift, KShr, KLess, KBack, KOwn, KLessOwn, KKnuth.
-/
import Derived.Test.YtlolgojfeijjhaaGreatDoorQaj
set_option linter.unusedSimpArgs false
set_option linter.unusedVariables false
set_option maxHeartbeats 1000000
set_option maxRecDepth 20000
section
namespace Go.K
open Go
def lim (l : List Nat) : Prop := ∀ x ∈ l, x < 4294967296
@[simp] theorem nv_nil : nv [] = 0 := rfl
@[simp] theorem nv_cons (x : Nat) (l : List Nat) : nv (x :: l) = x + 4294967296 * nv l := rfl
theorem lim_nil : lim [] := fun _ h => by cases h
theorem lim_cons {x : Nat} {l : List Nat} : lim (x :: l) ↔ x < 4294967296 ∧ lim l := by simp [lim]
theorem lim_append {a b : List Nat} : lim (a ++ b) ↔ lim a ∧ lim b := by
 simp only [lim, List.mem_append]
 exact ⟨fun h => ⟨fun x q => h x (.inl q), fun x q => h x (.inr q)⟩, fun h x q => q.elim (h.1 x) (h.2 x)⟩
theorem lim_take {l : List Nat} (h : lim l) (n : Nat) : lim (l.take n) := fun x q => h x (List.mem_of_mem_take q)
theorem lim_drop {l : List Nat} (h : lim l) (n : Nat) : lim (l.drop n) := fun x q => h x (List.mem_of_mem_drop q)
theorem lim_get {l : List Nat} (h : lim l) {k x : Nat} (hx : l[k]? = some x) : x < 4294967296 := h x (List.mem_of_getElem? hx)
theorem lim_getElem {l : List Nat} (h : lim l) {k : Nat} (hk : k < l.length) : l[k] < 4294967296 := h _ (List.getElem_mem hk)
theorem lim_set {l : List Nat} (h : lim l) (k : Nat) {x : Nat} (hx : x < 4294967296) : lim (l.set k x) := fun y q => by
 rcases List.mem_or_eq_of_mem_set q with q | q
 ·exact h y q
 ·omega
theorem lim_rep (n : Nat) : lim (List.replicate n 0) := fun x q => by rw [(List.mem_replicate.1 q).2]; omega
theorem nv_append (a b : List Nat) : nv (a ++ b) = nv a + 4294967296 ^ a.length * nv b := by
 induction a with
 | nil => simp
 | cons x a ih =>
  simp only [List.cons_append, nv_cons, List.length_cons, ih, Nat.mul_add, Nat.pow_succ]
  rw [Nat.add_assoc]
  congr 2
  rw [Nat.mul_comm (4294967296 ^ a.length) 4294967296, Nat.mul_assoc]
theorem nv_rep (n : Nat) : nv (List.replicate n 0) = 0 := by
 induction n with
 | zero => rfl
 | succ n ih => rw [List.replicate_succ, nv_cons, ih]
theorem nv_lt {l : List Nat} (h : lim l) : nv l < 4294967296 ^ l.length := by
 induction l with
 | nil => simp
 | cons x l ih =>
  rw [lim_cons] at h
  have := ih h.2
  rw [nv_cons, List.length_cons, Nat.pow_succ]
  omega
theorem nv_snoc (l : List Nat) (x : Nat) : nv (l ++ [x]) = nv l + 4294967296 ^ l.length * x := by rw [nv_append]; simp
theorem nv_take_succ {l : List Nat} {k x : Nat} (h : l[k]? = some x) : nv (l.take (k + 1)) = nv (l.take k) + 4294967296 ^ k * x := by
 have hk := (List.getElem?_eq_some_iff.1 h).1
 rw [List.take_add_one, h, Option.toList_some, nv_snoc, List.length_take, Nat.min_eq_left (by omega)]
theorem cn_zero : Ψ .cn 0 = [] := by rw [p_cn]; unfold cn; rfl
theorem cn_pos {n : Nat} (h : 0 < n) : Ψ .cn n = n % 4294967296 :: Ψ .cn (n / 4294967296) := by
 rw [p_cn, cn]; rw [dif_neg (by omega)]; rfl
theorem nv_cn (n : Nat) : nv (Ψ .cn n) = n := by
 induction n using Nat.strongRecOn with
 | ind n ih =>
  rcases Nat.eq_zero_or_pos n with h | h
  ·subst h; rw [cn_zero]; rfl
  ·rw [cn_pos h, nv_cons, ih _ (by omega)]; omega
theorem lim_cn (n : Nat) : lim (Ψ .cn n) := by
 induction n using Nat.strongRecOn with
 | ind n ih =>
  rcases Nat.eq_zero_or_pos n with h | h
  ·subst h; rw [cn_zero]; exact lim_nil
  ·rw [cn_pos h, lim_cons]; exact ⟨by omega, ih _ (by omega)⟩
theorem cn_eq_nil {n : Nat} : Ψ .cn n = [] ↔ n = 0 := by
 constructor
 ·intro h; rw [← nv_cn n, h]; rfl
 ·rintro rfl; exact cn_zero
def cano (l : List Nat) : Prop := ∀ x, l.getLast? = some x → x ≠ 0
theorem cano_nil : cano [] := fun x h => by cases h
theorem cano_cons {x y : Nat} {l : List Nat} : cano (x :: y :: l) ↔ cano (y :: l) := by simp [cano]
theorem cn_cano : ∀ (l : List Nat), lim l → cano l → Ψ .cn (nv l) = l
 | [], _, _ => cn_zero
 | [x], h, c => by
  have h0 := c x rfl
  rw [lim_cons] at h
  rw [nv_cons, nv_nil, cn_pos (by omega)]
  have : (x + 4294967296 * 0) / 4294967296 = 0 := by omega
  rw [this, cn_zero]
  congr 1; omega
 | x :: y :: l, h, c => by
  rw [cano_cons] at c
  rw [lim_cons] at h
  have ih := cn_cano (y :: l) h.2 c
  have hp : 0 < nv (y :: l) := by
   rcases Nat.eq_zero_or_pos (nv (y :: l)) with q | q
   ·rw [q, cn_zero] at ih; cases ih
   ·exact q
  generalize y :: l = r at *
  rw [nv_cons, cn_pos (by omega)]
  have h1 : (x + 4294967296 * nv r) % 4294967296 = x := by omega
  have h2 : (x + 4294967296 * nv r) / 4294967296 = nv r := by omega
  rw [h1, h2, ih]
theorem cano_cn (n : Nat) : cano (Ψ .cn n) := by
 induction n using Nat.strongRecOn with
 | ind n ih =>
  rcases Nat.eq_zero_or_pos n with h | h
  ·subst h; rw [cn_zero]; exact cano_nil
  ·rw [cn_pos h]
   have := ih (n / 4294967296) (by omega)
   cases hc : Ψ .cn (n / 4294967296) with
   | nil =>
    have := cn_eq_nil.1 hc
    intro x hx
    have hx' : n % 4294967296 = x := by simpa [wz] using hx
    omega
   | cons y l => rw [cano_cons, ← hc]; exact this
theorem len_cn {n k : Nat} : (Ψ .cn n).length ≤ k ↔ n < 4294967296 ^ k := by
 induction k generalizing n with
 | zero => rw [Nat.pow_zero, Nat.le_zero, List.length_eq_zero_iff, cn_eq_nil]; omega
 | succ k ih =>
  rcases Nat.eq_zero_or_pos n with h | h
  ·subst h
   rw [cn_zero]
   have : 0 < 4294967296 ^ (k + 1) := Nat.pow_pos (by omega)
   simp [this]
  ·rw [cn_pos h, List.length_cons, Nat.add_le_add_iff_right, ih, Nat.pow_succ]
   exact Nat.div_lt_iff_lt_mul (by omega)
theorem len_cn_nv {l : List Nat} (h : lim l) : (Ψ .cn (nv l)).length ≤ l.length := len_cn.2 (nv_lt h)
theorem cn_lt {n : Nat} : n < 4294967296 ^ (Ψ .cn n).length := len_cn.1 (Nat.le_refl _)
theorem sget_lims (l : List Nat) (k : Nat) : Ω .sget (Ψ .lims l) k = (l[k]?).map fun (x : Nat) => (D.i .u32 (Ω .ci x) : D) := by simp [w_sget, p_lims, w_ci]
theorem ssub_lims (l : List Nat) (a n : Nat) : Ω .ssub (Ψ .lims l) a (Ω .nsub n a) = Ψ .lims ((l.drop a).take (n - a)) := by simp [w_ssub, p_lims, w_ci, w_nsub, List.map_drop, List.map_take]
theorem ssub_lims' (l : List Nat) (a n : Nat) : Ω .ssub (Ψ .lims l) a n = Ψ .lims ((l.drop a).take n) := by simp [w_ssub, p_lims, w_ci, List.map_drop, List.map_take]
theorem sset_lims (l : List Nat) (k x : Nat) : Ω .sset (Ψ .lims l) k (.i .u32 (Ω .ci x)) = Ψ .lims (l.set k x) := by simp [w_sset, p_lims, w_ci, List.map_set]
theorem srep_lims (n : Nat) : Ω .srep n (.i .u32 0) = Ψ .lims (List.replicate n 0) := by simp [w_srep, p_lims, w_ci, wz]
theorem lims_cells (l : List Nat) : ∀ x ∈ Ψ .lims l, x.cells.length = 1 := by
 intro x h
 simp only [p_lims, w_ci, List.mem_map] at h
 obtain ⟨a, _, rfl⟩ := h
 rfl
theorem wrap64 {n : Int} (h : -9223372036854775808 ≤ n) (h' : n ≤ 9223372036854775807) : Ω .wrap .i64 n = n := by
 have e : Ω .wrap .i64 n = if decide (n % 18446744073709551616 ≥ 9223372036854775808) = true then n % 18446744073709551616 - 18446744073709551616 else n % 18446744073709551616 := rfl
 rw [e]
 by_cases c : n % 18446744073709551616 ≥ 9223372036854775808
 ·rw [if_pos (by simpa using c)]; omega
 ·rw [if_neg (by simpa using c)]; omega
theorem wrapu32 (n : Int) : Ω .wrap .u32 n = n % 4294967296 := by
 rw [w_wrap]
 simp only [IntKind.wrap, IntKind.bits, IntKind.signed, Bool.false_and]
 rfl
theorem wrapu64 (n : Int) : Ω .wrap .u64 n = n % 18446744073709551616 := by
 rw [w_wrap]
 simp only [IntKind.wrap, IntKind.bits, IntKind.signed, Bool.false_and]
 rfl
theorem wrapu32_nat (n : Nat) : Ω .wrap .u32 (n : Int) = ((n % 4294967296 : Nat) : Int) := by rw [wrapu32]; omega
theorem wrapu64_nat (n : Nat) : Ω .wrap .u64 (n : Int) = ((n % 18446744073709551616 : Nat) : Int) := by rw [wrapu64]; omega
theorem ci_nonneg (a : Nat) : 0 ≤ Ω .ci a := by simp only [wz]; omega
theorem toNat_ci (n : Nat) : (Ω .ci n).toNat = n := rfl
theorem wrap_ci {n : Nat} (h : n ≤ 9223372036854775807) : Ω .wrap .i64 (Ω .ci n) = Ω .ci n := wrap64 (by simp only [wz]; omega) (by simp only [wz]; omega)
theorem wrap_pred {n : Nat} (h0 : 0 < n) (h : n ≤ 9223372036854775807) : Ω .wrap .i64 (Ω .ci n - 1) = Ω .ci (n - 1) := by
 rw [wrap64 (by simp only [wz]; omega) (by simp only [wz]; omega)]; simp only [wz]; omega
theorem wrap_succ {n : Nat} (h : n < 9223372036854775807) : Ω .wrap .i64 (Ω .ci n + 1) = Ω .ci (n + 1) := by
 rw [wrap64 (by simp only [wz]; omega) (by simp only [wz]; omega)]; simp only [wz]; omega
theorem wrap_add {a b : Nat} (h : a + b ≤ 9223372036854775807) : Ω .wrap .i64 (Ω .ci a + Ω .ci b) = Ω .ci (a + b) := by
 rw [wrap64 (by simp only [wz]; omega) (by simp only [wz]; omega)]; simp only [wz]; omega
theorem wrap_sub {a b : Nat} (hb : b ≤ a) (h : a ≤ 9223372036854775807) : Ω .wrap .i64 (Ω .ci a - Ω .ci b) = Ω .ci (a - b) := by
 rw [wrap64 (by simp only [wz]; omega) (by simp only [wz]; omega)]; simp only [wz]; omega
theorem idx_lims {l : List Nat} {k : Int} {sz : Nat} {R : D → Prop} (kn v : Nat) (hk : k = Ω .ci kn) (hv : l[kn]? = some v) (hsz : 1 = sz) (h : R (.i .u32 (Ω .ci v))) :
  Ω .ile 0 k ∧ ∃ x, Ω .sget (Ψ .lims l) (Ω .tn k) = some x ∧ x.cells.length = sz ∧ R x := by
 subst hk
 refine ⟨by simp only [wz]; omega, .i .u32 (Ω .ci v), ?_, hsz, h⟩
 rw [tn_ci, sget_lims, hv]; rfl
theorem cano_take {l : List Nat} {n v : Nat} (hv : l[n]? = some v) (h0 : v ≠ 0) : cano (l.take (n + 1)) := by
 intro x hx
 rw [List.take_add_one, hv, Option.toList_some, List.getLast?_concat] at hx
 cases hx; exact h0
end Go.K
namespace Go.K
open Go
structure N (l : List Nat) : Prop where
 lim : lim l
 len : l.length < 1099511627776
theorem N.cn {l : List Nat} (h : N l) : N (Ψ .cn (nv l)) := ⟨lim_cn _, Nat.lt_of_le_of_lt (len_cn_nv h.lim) h.len⟩
theorem nv_split (l : List Nat) (k : Nat) (hk : k ≤ l.length) : nv l = nv (l.take k) + 4294967296 ^ k * nv (l.drop k) := by
 have := nv_append (l.take k) (l.drop k)
 rw [List.take_append_drop, List.length_take, Nat.min_eq_left hk] at this
 exact this
theorem nv_drop {l : List Nat} {k v : Nat} (h : l[k]? = some v) : nv (l.drop k) = v + 4294967296 * nv (l.drop (k + 1)) := by
 obtain ⟨hk, rfl⟩ := List.getElem?_eq_some_iff.1 h
 rw [List.drop_eq_getElem_cons hk, nv_cons]
theorem nv_lt_of {x y : List Nat} {k u v : Nat} (hx : lim x) (hu : x[k]? = some u) (hv : y[k]? = some v) (hd : x.drop (k + 1) = y.drop (k + 1)) (h : u < v) : nv x < nv y := by
 have kx := (List.getElem?_eq_some_iff.1 hu).1
 have ky := (List.getElem?_eq_some_iff.1 hv).1
 rw [nv_split x k (by omega), nv_split y k (by omega), nv_drop hu, nv_drop hv, hd]
 have h1 : nv (x.take k) < 4294967296 ^ k := by
  have := nv_lt (lim_take hx k)
  rw [List.length_take, Nat.min_eq_left (by omega)] at this
  exact this
 generalize 4294967296 ^ k = M at *
 generalize nv (y.drop (k + 1)) = d
 have h2 := Nat.mul_le_mul_left M (show u + 4294967296 * d + 1 ≤ v + 4294967296 * d by omega)
 rw [Nat.mul_add, Nat.mul_one] at h2
 omega
theorem cn_len_lt {m n : Nat} (h : (Ψ .cn m).length < (Ψ .cn n).length) : m < n := by
 rcases Nat.lt_or_ge m n with q | q
 ·exact q
 ·have h1 : n < 4294967296 ^ (Ψ .cn m).length := Nat.lt_of_le_of_lt q cn_lt
  have := len_cn.2 h1
  omega
end Go.K
namespace Go.K
open Go
theorem nv_take_succ' (l : List Nat) (k : Nat) : nv (l.take (k + 1)) = nv (l.take k) + 4294967296 ^ k * l.getD k 0 := by
 rcases Nat.lt_or_ge k l.length with h | h
 ·rw [nv_take_succ (List.getElem?_eq_getElem h)]; simp [List.getD, h]
 ·rw [List.take_of_length_le h, List.take_of_length_le (by omega)]; simp [List.getD, h]
theorem getD_lt {l : List Nat} (h : lim l) (k : Nat) : l.getD k 0 < 4294967296 := by
 rcases Nat.lt_or_ge k l.length with q | q
 ·simp only [List.getD, List.getElem?_eq_getElem q, Option.getD_some]; exact lim_getElem h q
 ·simp [List.getD, q]
theorem add_step {M zv c X Y x y : Nat} (h : zv + M * c = X + Y) : zv + M * ((x + y + c) % 4294967296) + M * 4294967296 * ((x + y + c) / 4294967296) = (X + M * x) + (Y + M * y) := by
 have h1 := Nat.mod_add_div (x + y + c) 4294967296
 have h2 : M * ((x + y + c) % 4294967296) + M * 4294967296 * ((x + y + c) / 4294967296) = M * (x + y + c) := by
  rw [Nat.mul_assoc, ← Nat.mul_add, h1]
 rw [Nat.add_assoc, h2, Nat.mul_add, Nat.mul_add]
 omega
end Go.K
namespace Go.K
open Go
theorem scat_snoc (z : List Nat) (v : Nat) : Ω .scat (Ψ .lims z) [.i .u32 (Ω .ci v)] = Ψ .lims (z ++ [v]) := by simp [w_scat, p_lims, w_ci]
theorem cells_one (k : IntKind) (n : Int) : ∀ u, u ∈ [D.i k n] → u.cells.length = 1 := fun u h => by
 rw [List.mem_singleton.1 h]; rfl
end Go.K
namespace Go.K
open Go
theorem cmpI_neg {m n : Nat} : Ψ .cmpI m n < 0 ↔ m < n := by simp only [p_cmpI]; split <;> (try split) <;> omega
theorem sub_step {M zv c X Y x y d c' : Nat} (h : zv + Y = X + M * c) (hd : d + y + c = x + 4294967296 * c') : zv + M * d + (Y + M * y) + 0 = X + M * x + M * 4294967296 * c' := by
 have h2 : M * (d + y + c) = M * (x + 4294967296 * c') := by rw [hd]
 rw [Nat.mul_add, Nat.mul_add, Nat.mul_add, ← Nat.mul_assoc] at h2
 omega
end Go.K
namespace Go.K
open Go
theorem nv_set {l : List Nat} {k u : Nat} (h : l[k]? = some u) (v : Nat) : nv (l.set k v) + 4294967296 ^ k * u = nv l + 4294967296 ^ k * v := by
 have hk := (List.getElem?_eq_some_iff.1 h).1
 have e1 := nv_split (l.set k v) k (by simp; omega)
 have e2 := nv_split l k (by omega)
 have e3 : (l.set k v)[k]? = some v := by simp [hk]
 rw [List.take_set_of_le (Nat.le_refl k), nv_drop e3, List.drop_set_of_lt (by omega : k < k + 1)] at e1
 rw [nv_drop h] at e2
 rw [e1, e2, Nat.mul_add, Nat.mul_add]
 omega
theorem own_lims {z : List Nat} {K : Int} {sz : Nat} {p : Prop} {R : D → Prop} (kn v : Nat) (hk : K = Ω .ci kn) (hv : z[kn]? = some v) (hsz : sz ≤ 1) (hp : p) (h : R (.i .u32 (Ω .ci v))) :
  Ω .ile 0 K ∧ Ω .ilt K (Ω .ci z.length) ∧ ∃ x, Ω .sget (Ψ .lims z) (Ω .tn K) = some x ∧ sz ≤ x.cells.length ∧ p ∧ R x := by
 subst hk
 have := (List.getElem?_eq_some_iff.1 hv).1
 refine ⟨ci_nonneg _, (by simp only [wz]; omega), .i .u32 (Ω .ci v), ?_, hsz, hp, h⟩
 rw [tn_ci, sget_lims, hv]; rfl
end Go.K
namespace Go.K
open Go
theorem nv_set_drop {l : List Nat} {k : Nat} (hk : k < l.length) (v : Nat) : nv ((l.set k v).drop k) = v + 4294967296 * nv (l.drop (k + 1)) := by
 have e3 : (l.set k v)[k]? = some v := by simp [hk]
 rw [nv_drop e3, List.drop_set_of_lt (by omega : k < k + 1)]
theorem small_step {Q b r u X : Nat} (h : Q * b + r = X) : ((r * 4294967296 + u) / b + 4294967296 * Q) * b + (r * 4294967296 + u) % b = u + 4294967296 * X := by
 have h1 := Nat.div_add_mod (r * 4294967296 + u) b
 rw [← h, Nat.add_mul, Nat.mul_add, Nat.mul_assoc, Nat.mul_comm _ b]
 omega
theorem divmod_unique {Q b r X : Nat} (h : Q * b + r = X) (hr : r < b) : X / b = Q ∧ X % b = r := by
 subst h
 refine ⟨?_, ?_⟩
 ·rw [Nat.mul_comm, Nat.mul_add_div (by omega), Nat.div_eq_of_lt hr, Nat.add_zero]
 ·rw [Nat.mul_comm, Nat.mul_add_mod, Nat.mod_eq_of_lt hr]
end Go.K
end
section
namespace Go.K.S
open Go Go.K
theorem trim_good (l : List Nat) (hl : lim l) (hb : l.length < 1099511627776) : Good P F.nat_trim [.d (dN Ψ l)] [] (.d (dN Ψ (Ψ .cn (nv l)))) [] := by
 refine G.nat_trim fun C C2 hC hC2 => ?_
 (generalize hΩ : Ω = ω, hΨ : Ψ = ψ; cbv <;> subst hΩ hΨ <;> try simp only [lits, true_and, not_u32, slen_nil, tn_ci, tn_zero, slen_lims, slen_dRs, slen_dVs, slen_dBs])
 refine LoopG.intro (σ := Nat) [0, 3] [] (fun n => [.d (dN Ψ l), .d (.i .i64 (Ω .ci n))]) (fun _ => []) (fun n => n ≤ l.length ∧ nv (l.take n) = nv l) (fun n => n) l.length [] ⟨Nat.le_refl _, by simp⟩ ⟨rfl, rfl, rfl⟩ ?_
 rintro n ⟨hn, he⟩
 (generalize hΩ : Ω = ω, hΨ : Ψ = ψ; cbv <;> subst hΩ hΨ <;> try simp only [lits, true_and, not_u32, slen_nil, tn_ci, tn_zero, slen_lims, slen_dRs, slen_dVs, slen_dBs])
 refine BrG.split (fun h => ?_) (fun h => ?_)
 ·(generalize hΩ : Ω = ω, hΨ : Ψ = ψ; cbv <;> subst hΩ hΨ <;> try simp only [lits, true_and, not_u32, slen_nil, tn_ci, tn_zero, slen_lims, slen_dRs, slen_dVs, slen_dBs])
  simp [wz] at h
  obtain ⟨v, hv⟩ : ∃ v, l[n - 1]? = some v := ⟨_, List.getElem?_eq_getElem (by omega)⟩
  refine idx_lims (n - 1) v (wrap_pred h (by omega)) hv rfl ?_
  (generalize hΩ : Ω = ω, hΨ : Ψ = ψ; cbv <;> subst hΩ hΨ <;> try simp only [lits, true_and, not_u32, slen_nil, tn_ci, tn_zero, slen_lims, slen_dRs, slen_dVs, slen_dBs])
  have hs := nv_take_succ hv
  have hn1 : n - 1 + 1 = n := by omega
  rw [hn1] at hs
  refine BrG.split (fun h => ?_) (fun h => ?_)
  ·(generalize hΩ : Ω = ω, hΨ : Ψ = ψ; cbv <;> subst hΩ hΨ <;> try simp only [lits, true_and, not_u32, slen_nil, tn_ci, tn_zero, slen_lims, slen_dRs, slen_dVs, slen_dBs])
   simp [wz] at h
   refine ⟨n - 1, [], ⟨by omega, by rw [h] at hs; omega⟩, by omega, rfl, ?_, rfl⟩
   rw [← wrap_pred (by omega) (by omega)]; rfl
  ·(generalize hΩ : Ω = ω, hΨ : Ψ = ψ; cbv <;> subst hΩ hΨ <;> try simp only [lits, true_and, not_u32, slen_nil, tn_ci, tn_zero, slen_lims, slen_dRs, slen_dVs, slen_dBs])
   simp [wz] at h
   have hc := cn_cano _ (lim_take hl n) (by rw [← hn1]; exact cano_take hv h)
   rw [he] at hc
   refine ⟨by simp only [wz]; omega, Int.le_refl _, by simp only [wz]; omega, fun _ => rfl, lims_cells l, ?_⟩
   rw [ssub_lims, List.drop_zero, Nat.sub_zero, hc]
 ·(generalize hΩ : Ω = ω, hΨ : Ψ = ψ; cbv <;> subst hΩ hΨ <;> try simp only [lits, true_and, not_u32, slen_nil, tn_ci, tn_zero, slen_lims, slen_dRs, slen_dVs, slen_dBs])
  simp [wz] at h
  subst h
  have h0 : nv l = 0 := by rw [← he]; rfl
  refine ⟨by simp only [wz]; omega, Int.le_refl _, by simp only [wz]; omega, fun _ => rfl, lims_cells l, ?_⟩
  rw [ssub_lims, h0, cn_zero]; rfl
end Go.K.S
end
section
namespace Go.K
open Go
theorem wrapu32_ci (n : Nat) : Ω .wrap .u32 (Ω .ci n) = Ω .ci (n % 4294967296) := by simp only [wz]; exact wrapu32_nat n
theorem wrapu64_ci (n : Nat) : Ω .wrap .u64 (Ω .ci n) = Ω .ci (n % 18446744073709551616) := by simp only [wz]; exact wrapu64_nat n
theorem wrapu8_ci (n : Nat) : Ω .wrap .u8 (Ω .ci n) = Ω .ci (n % 256) := by
 have e : ∀ n : Int, Ω .wrap .u8 n = n % 256 := fun n => by
  rw [w_wrap]
  simp only [IntKind.wrap, IntKind.bits, IntKind.signed, Bool.false_and]; rfl
 rw [e]; simp only [wz]; omega
theorem ci_add (a b : Nat) : Ω .ci a + Ω .ci b = Ω .ci (a + b) := by simp only [wz]; omega
theorem ci_mul (a b : Nat) : Ω .ci a * Ω .ci b = Ω .ci (a * b) := by simp only [wz]; exact (Int.natCast_mul a b).symm
theorem ci_sub {a b : Nat} (h : b ≤ a) : Ω .ci a - Ω .ci b = Ω .ci (a - b) := by simp only [wz]; omega
theorem ishr_ci (k : IntKind) (n m : Nat) (h : m ≤ k.bits) : Ω .ishr k (Ω .ci n) (Ω .ci m) = Ω .ci (n / 2 ^ m) := by
 simp only [w_ishr, toNat_ci, Nat.min_eq_left h]
 simp only [wz]
 rw [Int.fdiv_eq_ediv_of_nonneg _ (by exact Int.le_of_lt (Int.pow_pos (by omega)))]
 simp
theorem ishr_lit (k : IntKind) (n m : Nat) (h : m ≤ k.bits) : Ω .ishr k (Ω .ci n) (OfNat.ofNat m) = Ω .ci (n / 2 ^ m) := ishr_ci k n m h
theorem ishl_lit (k : IntKind) (n m : Nat) (h : m ≤ k.bits) : Ω .ishl k (Ω .ci n) (OfNat.ofNat m) = Ω .wrap k (Ω .ci (n * 2 ^ m)) := by
 rw [w_wrap]
 have : Ω .ishl k (Ω .ci n) (OfNat.ofNat m) = Ω .ishl k (Ω .ci n) (Ω .ci m) := rfl
 rw [this]
 simp only [w_ishl, toNat_ci, Nat.min_eq_left h]
 simp only [wz]
 congr 1
theorem ishl_ci (k : IntKind) (n m : Nat) (h : m ≤ k.bits) : Ω .ishl k (Ω .ci n) (Ω .ci m) = Ω .wrap k (Ω .ci (n * 2 ^ m)) := ishl_lit k n m h
theorem ishr8 (n : Nat) : Ω .ishr .u32 (Ω .ci n) 8 = Ω .ci (n / 256) := ishr_lit _ _ _ (by decide)
theorem ishr16 (n : Nat) : Ω .ishr .u32 (Ω .ci n) 16 = Ω .ci (n / 65536) := ishr_lit _ _ _ (by decide)
theorem ishr31 (n : Nat) : Ω .ishr .u32 (Ω .ci n) 31 = Ω .ci (n / 2147483648) := ishr_lit _ _ _ (by decide)
theorem ishr32 (n : Nat) : Ω .ishr .u64 (Ω .ci n) 32 = Ω .ci (n / 4294967296) := ishr_lit _ _ _ (by decide)
def bl (n : Nat) : Nat := if n = 0 then 0 else Nat.log2 n + 1
theorem bl_le {n k : Nat} : bl n ≤ k ↔ n < 2 ^ k := by
 unfold bl
 split
 ·rename_i h
  subst h
  have : 0 < 2 ^ k := Nat.pow_pos (by omega)
  simp [this]
 ·rename_i h
  rw [Nat.add_one_le_iff, Nat.log2_lt h]
theorem bl_lt (n : Nat) : n < 2 ^ bl n := bl_le.1 (Nat.le_refl _)
theorem bl_eq_zero {n : Nat} : bl n = 0 ↔ n = 0 := by
 unfold bl
 split <;> simp_all
theorem bl_div {n k : Nat} (h : 2 ^ k ≤ n) : bl n = k + bl (n / 2 ^ k) := by
 have e : ∀ j, bl n ≤ j ↔ k + bl (n / 2 ^ k) ≤ j := fun j => by
  rw [bl_le]
  rcases Nat.lt_or_ge j k with q | q
  ·have : 2 ^ j ≤ 2 ^ k := Nat.pow_le_pow_right (by omega) (Nat.le_of_lt q)
   exact ⟨fun c => by omega, fun c => by omega⟩
  ·obtain ⟨d, rfl⟩ := Nat.exists_eq_add_of_le q
   rw [Nat.add_le_add_iff_left, bl_le, Nat.div_lt_iff_lt_mul (Nat.pow_pos (by omega)), Nat.pow_add, Nat.mul_comm]
 have h1 := (e (bl n)).1 (Nat.le_refl _)
 have h2 := (e (k + bl (n / 2 ^ k))).2 (Nat.le_refl _)
 omega
theorem bl8 {n : Nat} (h : n < 256) : (UInt8.ofNat (bl n)).toNat = bl n := by
 have : bl n ≤ 8 := bl_le.2 h
 simp; omega
theorem tab_idx {b : ByteArray} {k : Int} {R : Nat → Prop} (n : Nat) (hk : k = Ω .ci n) (hb : (List.range 256).all (fun n => b[n]? == some (UInt8.ofNat (bl n))) = true) (hn : n < 256) (h : R (bl n)) :
  Ω .ile 0 k ∧ ∃ c, Ω .bget b (Ω .tn k) = some c ∧ R c := by
 subst hk
 refine ⟨ci_nonneg _, _, ?_, h⟩
 rw [tn_ci, w_bget]
 have h1 := List.all_eq_true.1 hb n (List.mem_range.2 hn)
 have h2 : b[n]? = some (UInt8.ofNat (bl n)) := by simpa using h1
 rw [h2, Option.map_some, bl8 hn]
theorem sub32_bit {x y c : Nat} (hx : x < 4294967296) (hy : y < 4294967296) (hc : c ≤ 1) :
  ((4294967295 ^^^ x) &&& y ||| (4294967295 ^^^ (x ^^^ y)) &&& ((4294967296 + x - y - c) % 4294967296)) / 2147483648 = if x < y + c then 1 else 0 := by
 have lt : ∀ a b, a < 4294967296 → b < 4294967296 → a ^^^ b < 4294967296 := fun a b ha hb => Nat.xor_lt_two_pow (n := 32) ha hb
 generalize hz : (4294967295 ^^^ x) &&& y ||| (4294967295 ^^^ (x ^^^ y)) &&& ((4294967296 + x - y - c) % 4294967296) = z
 have hzl : z < 4294967296 := by
  rw [← hz]
  refine Nat.or_lt_two_pow (n := 32) ?_ ?_
  ·exact Nat.lt_of_le_of_lt Nat.and_le_right hy
  ·refine Nat.lt_of_le_of_lt Nat.and_le_right (Nat.mod_lt _ (by omega))
 have top : ∀ a, a < 4294967296 → (a.testBit 31 = true ↔ 2147483648 ≤ a) := fun a ha => by
  rw [Nat.testBit_eq_decide_div_mod_eq]
  simp only [decide_eq_true_eq]
  omega
 have hb : z.testBit 31 = ((!x.testBit 31 && y.testBit 31) || (!(x.testBit 31 != y.testBit 31) && ((4294967296 + x - y - c) % 4294967296).testBit 31)) := by
  rw [← hz, Nat.testBit_or, Nat.testBit_and, Nat.testBit_and, Nat.testBit_xor, Nat.testBit_xor, Nat.testBit_xor]
  have : (4294967295 : Nat).testBit 31 = true := by decide
  rw [this]
  cases x.testBit 31 <;> cases y.testBit 31 <;> simp
 have t1 := top x hx
 have t2 := top y hy
 have t3 := top _ (Nat.mod_lt (4294967296 + x - y - c) (show 0 < 4294967296 by omega))
 have t4 := top z hzl
 have hd : (4294967296 + x - y - c) % 4294967296 = if x < y + c then 4294967296 + x - y - c else x - y - c := by
  split <;> omega
 rw [hd] at t3 hb
 clear hd
 have e : z / 2147483648 = if z.testBit 31 then 1 else 0 := by
  by_cases q : z.testBit 31 = true
  ·rw [if_pos q]; have := t4.1 q; omega
  ·rw [if_neg q]; have := mt t4.2 q; omega
 rw [e, hb]
 generalize x.testBit 31 = bx at *
 generalize y.testBit 31 = bY at *
 generalize (if x < y + c then 4294967296 + x - y - c else x - y - c).testBit 31 = bd at *
 by_cases q : x < y + c
 ·rw [if_pos q] at t3 ⊢
  cases bx <;> cases bY <;> cases bd <;> simp at t1 t2 t3 ⊢ <;> omega
 ·rw [if_neg q] at t3 ⊢
  cases bx <;> cases bY <;> cases bd <;> simp at t1 t2 t3 ⊢ <;> omega
theorem iand_ci {a b : Nat} (ha : a < 4294967296) (hb : b < 4294967296) : Ω .iand .u32 (Ω .ci a) (Ω .ci b) = Ω .ci (a &&& b) := by
 have e : ∀ n, n < 4294967296 → (BitVec.ofInt 32 (Ω .ci n)).toNat = n := fun n hn => by
  simp only [wz, BitVec.ofInt_natCast, BitVec.toNat_ofNat]; omega
 have : Ω .iand .u32 (Ω .ci a) (Ω .ci b) = Ω .wrap .u32 (Ω .ci (BitVec.ofInt 32 (Ω .ci a) &&& BitVec.ofInt 32 (Ω .ci b)).toNat) := rfl
 rw [this, BitVec.toNat_and, e a ha, e b hb, wrapu32_ci, Nat.mod_eq_of_lt]
 exact Nat.lt_of_le_of_lt Nat.and_le_right hb
theorem ior_ci {a b : Nat} (ha : a < 4294967296) (hb : b < 4294967296) : Ω .ior .u32 (Ω .ci a) (Ω .ci b) = Ω .ci (a ||| b) := by
 have e : ∀ n, n < 4294967296 → (BitVec.ofInt 32 (Ω .ci n)).toNat = n := fun n hn => by
  simp only [wz, BitVec.ofInt_natCast, BitVec.toNat_ofNat]; omega
 have : Ω .ior .u32 (Ω .ci a) (Ω .ci b) = Ω .wrap .u32 (Ω .ci (BitVec.ofInt 32 (Ω .ci a) ||| BitVec.ofInt 32 (Ω .ci b)).toNat) := rfl
 rw [this, BitVec.toNat_or, e a ha, e b hb, wrapu32_ci, Nat.mod_eq_of_lt]
 exact Nat.or_lt_two_pow (n := 32) ha hb
theorem ixor_ci {a b : Nat} (ha : a < 4294967296) (hb : b < 4294967296) : Ω .ixor .u32 (Ω .ci a) (Ω .ci b) = Ω .ci (a ^^^ b) := by
 have e : ∀ n, n < 4294967296 → (BitVec.ofInt 32 (Ω .ci n)).toNat = n := fun n hn => by
  simp only [wz, BitVec.ofInt_natCast, BitVec.toNat_ofNat]; omega
 have : Ω .ixor .u32 (Ω .ci a) (Ω .ci b) = Ω .wrap .u32 (Ω .ci (BitVec.ofInt 32 (Ω .ci a) ^^^ BitVec.ofInt 32 (Ω .ci b)).toNat) := rfl
 rw [this, BitVec.toNat_xor, e a ha, e b hb, wrapu32_ci, Nat.mod_eq_of_lt]
 exact Nat.xor_lt_two_pow (n := 32) ha hb
theorem ior64_ci {a b : Nat} (ha : a < 18446744073709551616) (hb : b < 18446744073709551616) : Ω .ior .u64 (Ω .ci a) (Ω .ci b) = Ω .ci (a ||| b) := by
 have e : ∀ n, n < 18446744073709551616 → (BitVec.ofInt 64 (Ω .ci n)).toNat = n := fun n hn => by
  simp only [wz, BitVec.ofInt_natCast, BitVec.toNat_ofNat]; omega
 have : Ω .ior .u64 (Ω .ci a) (Ω .ci b) = Ω .wrap .u64 (Ω .ci (BitVec.ofInt 64 (Ω .ci a) ||| BitVec.ofInt 64 (Ω .ci b)).toNat) := rfl
 rw [this, BitVec.toNat_or, e a ha, e b hb, wrapu64_ci, Nat.mod_eq_of_lt]
 exact Nat.or_lt_two_pow (n := 64) ha hb
theorem sub32_diff {x y c : Nat} (hx : x < 4294967296) (hy : y < 4294967296) (hc : c ≤ 1) :
  Ω .wrap .u32 (Ω .wrap .u32 (Ω .ci x - Ω .ci y) - Ω .ci c) = Ω .ci ((4294967296 + x - y - c) % 4294967296) := by
 rw [wrapu32, wrapu32]; simp only [wz]; omega
end Go.K
namespace Go.K
open Go
theorem tdiv_ci (a b : Nat) : (Ω .ci a).tdiv (Ω .ci b) = Ω .ci (a / b) := by simp only [wz]; rw [Int.tdiv_eq_ediv_of_nonneg (by omega)]; exact (Int.natCast_ediv a b).symm
theorem tmod_ci (a b : Nat) : Ω .tmod (Ω .ci a) (Ω .ci b) = Ω .ci (a % b) := by simp only [wz, w_tmod]; rw [Int.tmod_eq_emod_of_nonneg (by omega)]; exact (Int.natCast_emod a b).symm
theorem ishl32 (n : Nat) : Ω .ishl .u64 (Ω .ci n) 32 = Ω .wrap .u64 (Ω .ci (n * 4294967296)) := ishl_lit _ _ _ (by decide)
theorem or_shl (h : Nat) {l : Nat} (hl : l < 4294967296) : h * 4294967296 ||| l = h * 4294967296 + l := by
 have := Nat.two_pow_add_eq_or_of_lt (i := 32) hl h
 rw [Nat.mul_comm h]
 exact this.symm
theorem or_shl' {r a c : Nat} (hc : c < 2 ^ r) : 2 ^ r * a ||| c = 2 ^ r * a + c := (Nat.two_pow_add_eq_or_of_lt hc a).symm
end Go.K
end
section
namespace Go.K.S
open Go Go.K
theorem clone_good (l : List Nat) (hb : l.length ≤ 1099511627776) : Good P F.slices_Clone_L_uint32_uint32 [.d (dN Ψ l)] [] (.d (dN Ψ l)) [] := by
 refine G.slices_Clone_L_uint32_uint32 fun C C2 hC hC2 => ?_
 refine nx ?_
 intro t ht
 cases t
 ·refine nx ?_
  refine ⟨lims_cells l, ⟨by omega, by omega⟩, ?_⟩
  rfl
 ·refine nx ?_
  rw [ht rfl]
theorem add32_good (x y c : Nat) (hx : x < 4294967296) (hy : y < 4294967296) (hc : c ≤ 1) :
  Good P F.math_bits_Add32 [.d (.i .u32 (Ω .ci x)), .d (.i .u32 (Ω .ci y)), .d (.i .u32 (Ω .ci c))] []
   (.tup [.d (.i .u32 (Ω .ci ((x + y + c) % 4294967296))), .d (.i .u32 (Ω .ci ((x + y + c) / 4294967296)))]) [] := by
 refine G.math_bits_Add32 fun C C2 hC hC2 => ?_
 refine nx ?_
 rw [wrapu64_ci, wrapu64_ci, wrapu64_ci, ci_add, wrapu64_ci, ci_add, wrapu64_ci, wrapu32_ci, ishr32, wrapu32_ci]
 have e : ((x % 18446744073709551616 + y % 18446744073709551616) % 18446744073709551616 + c % 18446744073709551616) % 18446744073709551616 = x + y + c := by omega
 rw [e, show (x + y + c) / 4294967296 % 4294967296 = (x + y + c) / 4294967296 by omega]
theorem sub32_good (x y c : Nat) (hx : x < 4294967296) (hy : y < 4294967296) (hc : c ≤ 1) :
  Good P F.math_bits_Sub32 [.d (.i .u32 (Ω .ci x)), .d (.i .u32 (Ω .ci y)), .d (.i .u32 (Ω .ci c))] []
   (.tup [.d (.i .u32 (Ω .ci ((4294967296 + x - y - c) % 4294967296))), .d (.i .u32 (Ω .ci (if x < y + c then 1 else 0)))]) [] := by
 refine G.math_bits_Sub32 fun C C2 hC hC2 => ?_
 refine nx ?_
 have h1 : (4294967296 + x - y - c) % 4294967296 < 4294967296 := Nat.mod_lt _ (by omega)
 have lt : ∀ a b, a < 4294967296 → b < 4294967296 → a ^^^ b < 4294967296 := fun a b ha hb => Nat.xor_lt_two_pow (n := 32) ha hb
 have e1 : Ω .ixor IntKind.u32 4294967295 (Ω .ci x) = Ω .ci (4294967295 ^^^ x) := ixor_ci (a := 4294967295) (by omega) hx
 have e2 : Ω .ixor IntKind.u32 4294967295 (Ω .ci (x ^^^ y)) = Ω .ci (4294967295 ^^^ (x ^^^ y)) := ixor_ci (a := 4294967295) (by omega) (lt _ _ hx hy)
 rw [sub32_diff hx hy hc, e1, ixor_ci hx hy, e2, iand_ci (lt _ _ (by omega) hx) hy, iand_ci (lt _ _ (by omega) (lt _ _ hx hy)) h1,
  ior_ci (Nat.lt_of_le_of_lt Nat.and_le_right hy) (Nat.lt_of_le_of_lt Nat.and_le_right h1), ishr31, sub32_bit hx hy hc]
theorem len32_good (x : Nat) (hx : x < 4294967296) : Good P F.math_bits_Len32 [.d (.i .u32 (Ω .ci x))] [] (.d (.i .i64 (Ω .ci (bl x)))) [] := by
 refine G.math_bits_Len32 fun C C2 hC hC2 => ?_
 have w : ∀ n : Nat, n ≤ 100 → Ω .wrap .i64 (Ω .ci n) = Ω .ci n := fun n h => wrap_ci (by omega)
 have b8 : ∀ n, n < 256 → bl n ≤ 8 := fun n h => bl_le.2 h
 refine nx ?_
 refine BrG.split (fun h => ?_) (fun h => ?_)
 ·have h0 : 65536 ≤ x := by have := h; simp only [wz] at this; omega
  have hd : bl x = 16 + bl (x / 65536) := bl_div (n := x) (k := 16) h0
  refine nx ?_
  rw [ishr16]
  refine BrG.split (fun h => ?_) (fun h => ?_)
  ·have h1 : 256 ≤ x / 65536 := by have := h; simp only [wz] at this; omega
   have hd2 : bl (x / 65536) = 8 + bl (x / 65536 / 256) := bl_div (n := x / 65536) (k := 8) h1
   have hl := b8 (x / 65536 / 256) (by omega)
   refine nx ?_
   rw [ishr8]
   refine tab_idx (x / 65536 / 256) (by rw [wrapu8_ci, Nat.mod_eq_of_lt (by omega)]) (by kernel_rfl) (by omega) ?_
   refine nx ?_
   rw [w _ (by omega), show (24 : Int) = Ω .ci 24 from rfl, w _ (by omega), ci_add, w _ (by omega), hd, hd2, ← Nat.add_assoc]
  ·have h1 : x / 65536 < 256 := by have := h; simp only [wz] at this; omega
   have hl := b8 (x / 65536) h1
   refine nx ?_
   refine tab_idx (x / 65536) (by rw [wrapu8_ci, Nat.mod_eq_of_lt (by omega)]) (by kernel_rfl) (by omega) ?_
   refine nx ?_
   rw [w _ (by omega), show (16 : Int) = Ω .ci 16 from rfl, ci_add, w _ (by omega), hd]
 ·have h0 : x < 65536 := by have := h; simp only [wz] at this; omega
  refine nx ?_
  refine BrG.split (fun h => ?_) (fun h => ?_)
  ·have h1 : 256 ≤ x := by have := h; simp only [wz] at this; omega
   have hd2 : bl x = 8 + bl (x / 256) := bl_div (n := x) (k := 8) h1
   have hl := b8 (x / 256) (by omega)
   refine nx ?_
   rw [ishr8]
   refine tab_idx (x / 256) (by rw [wrapu8_ci, Nat.mod_eq_of_lt (by omega)]) (by kernel_rfl) (by omega) ?_
   refine nx ?_
   rw [w _ (by omega), show (8 : Int) = Ω .ci 8 from rfl, w _ (by omega), ci_add, w _ (by omega), hd2]
  ·have h1 : x < 256 := by have := h; simp only [wz] at this; omega
   have hl := b8 x h1
   refine nx ?_
   refine tab_idx x (by rw [wrapu8_ci, Nat.mod_eq_of_lt (by omega)]) (by kernel_rfl) (by omega) ?_
   refine nx ?_
   rw [w _ (by omega), show (0 : Int) = Ω .ci 0 from rfl, ci_add, w _ (by omega), Nat.zero_add]
theorem lead32_good (x : Nat) (hx : x < 4294967296) : Good P F.math_bits_LeadingZeros32 [.d (.i .u32 (Ω .ci x))] [] (.d (.i .i64 (Ω .ci (32 - bl x)))) [] := by
 refine G.math_bits_LeadingZeros32 fun C C2 hC hC2 => ?_
 have hl : bl x ≤ 32 := bl_le.2 hx
 refine nx ?_
 refine ⟨_, hC _ _ _ (len32_good x hx), ?_⟩
 refine nx ?_
 rw [show (32 : Int) = Ω .ci 32 from rfl, wrap_sub hl (by omega)]
end Go.K.S
namespace Go.K.S
open Go Go.K
theorem norm_good (l : List Nat) (h : N l) : Good P F.nat_Norm [.d (dN Ψ l)] [] (.d (dN Ψ (Ψ .cn (nv l)))) [] := by
 refine G.nat_Norm fun C C2 hC hC2 => ?_
 refine nx ?_
 refine ⟨_, hC _ _ _ (trim_good l h.lim h.len), ?_⟩
 refine nx ?_
 refine ⟨_, hC _ _ _ (clone_good _ (Nat.le_of_lt h.cn.len)), ?_⟩
 exact nx trivial
theorem of_good (n : Nat) (h : n < 18446744073709551616) : Good P F.nat_Of [.d (.i .u64 (Ω .ci n))] [] (.d (dN Ψ (Ψ .cn n))) [] := by
 refine G.nat_Of fun C C2 hC hC2 => ?_
 have hl : lim [n % 4294967296, n / 4294967296] := by simp [lim_cons, lim_nil]; omega
 have hv : nv [n % 4294967296, n / 4294967296] = n := by simp; omega
 have hg := norm_good [n % 4294967296, n / 4294967296] ⟨hl, by simp⟩
 rw [hv] at hg
 refine nx ?_
 rw [ishr32, wrapu32_ci, wrapu32_ci, show n / 4294967296 % 4294967296 = n / 4294967296 by omega]
 refine ⟨_, hC _ _ _ hg, ?_⟩
 exact nx trivial
theorem bits_good (l : List Nat) (h : N l) : Good P F.nat_Bits [.d (dN Ψ l)] [] (.d (.i .i64 (Ω .ci (bl (nv l))))) [] := by
 refine G.nat_Bits fun C C2 hC hC2 => ?_
 have hn := h.cn
 refine nx ?_
 refine ⟨_, hC _ _ _ (trim_good l h.lim h.len), ?_⟩
 have hc := cano_cn (nv l)
 have hv := nv_cn (nv l)
 generalize Ψ .cn (nv l) = z at *
 have hz := hn.len
 refine nx ?_
 refine BrG.split (fun h => ?_) (fun h => ?_)
 ·have h0 : z.length = 0 := by simpa [wz] using h
  have : z = [] := List.eq_nil_of_length_eq_zero h0
  subst this
  refine nx ?_
  rw [← hv]
  rfl
 ·have h0 : z.length ≠ 0 := by simpa [wz] using h
  obtain ⟨v, hg⟩ : ∃ v, z[z.length - 1]? = some v := ⟨_, List.getElem?_eq_getElem (by omega)⟩
  refine nx ?_
  refine idx_lims (z.length - 1) v (wrap_pred (by omega) (by omega)) hg rfl ?_
  refine nx ?_
  have hlt := lim_get hn.lim hg
  refine ⟨_, hC _ _ _ (lead32_good v hlt), ?_⟩
  refine nx ?_
  have hv0 : v ≠ 0 := hc v (by rw [List.getLast?_eq_getElem?]; exact hg)
  have hb : bl v ≤ 32 := bl_le.2 hlt
  rw [show (32 : Int) = Ω .ci 32 from rfl, ci_mul, wrap_ci (by omega), wrap_sub (by omega) (by omega)]
  have hs := nv_take_succ hg
  rw [show z.length - 1 + 1 = z.length by omega, List.take_length, hv] at hs
  have h1 : nv (z.take (z.length - 1)) < 4294967296 ^ (z.length - 1) := by
   have := nv_lt (lim_take hn.lim (z.length - 1))
   rwa [List.length_take, Nat.min_eq_left (by omega)] at this
  have hM : 4294967296 ^ (z.length - 1) = 2 ^ (32 * (z.length - 1)) := by rw [Nat.pow_mul]
  rw [hM] at hs h1
  have hdiv : nv l / 2 ^ (32 * (z.length - 1)) = v := by
   rw [hs, Nat.add_mul_div_left _ _ (Nat.pow_pos (by omega)), Nat.div_eq_of_lt h1, Nat.zero_add]
  have hge : 2 ^ (32 * (z.length - 1)) ≤ nv l := by
   rw [hs]
   have := Nat.mul_le_mul_left (2 ^ (32 * (z.length - 1))) (show 1 ≤ v by omega)
   omega
  rw [bl_div hge, hdiv]
  refine congrArg (fun n => V.d (D.i .i64 (Ω .ci n))) ?_
  omega
end Go.K.S
end
section
namespace Go.K
theorem mul_step {M X zv zk c t b yk Yk Z0 : Nat} (ht : t = X * yk + zk + c) (h : zv + M * c = Z0 + b * X * Yk) {nz : Nat} (hz : nz + M * zk = zv + M * (t % 4294967296)) (hM : ∃ B', M = b * B') {B' : Nat} (hB : M = b * B') :
  nz + M * 4294967296 * (t / 4294967296) = Z0 + b * X * (Yk + B' * yk) := by
 have h1 := Nat.mod_add_div t 4294967296
 have h2 : M * (t % 4294967296) + M * 4294967296 * (t / 4294967296) = M * t := by
  rw [Nat.mul_assoc, ← Nat.mul_add, h1]
 have h3 : M * t = M * (X * yk) + M * zk + M * c := by rw [ht, Nat.mul_add, Nat.mul_add]
 have h4 : b * X * (Yk + B' * yk) = b * X * Yk + M * (X * yk) := by
  rw [Nat.mul_add, hB]
  congr 1
  rw [Nat.mul_assoc, Nat.mul_assoc]
  congr 1
  rw [← Nat.mul_assoc, ← Nat.mul_assoc, Nat.mul_comm X B']
 rw [h4]
 omega
theorem mul_fits {x y z c : Nat} (hx : x < 4294967296) (hy : y < 4294967296) (hz : z < 4294967296) (hc : c < 4294967296) : x * y + z + c < 18446744073709551616 := by
 have := Nat.mul_le_mul (show x ≤ 4294967295 by omega) (show y ≤ 4294967295 by omega)
 omega
end Go.K
namespace Go.K.S
open Go Go.K
theorem mul_good (a b : List Nat) (ha : N a) (hb : N b) (hal : a.length < 274877906944) (hbl : b.length < 274877906944) : Good P F.nat_Mul [.d (dN Ψ a), .d (dN Ψ b)] [] (.d (dN Ψ (Ψ .cn (nv a * nv b)))) [] := by
 refine G.nat_Mul fun C C2 hC hC2 => ?_
 refine nx ?_
 refine ⟨_, hC _ _ _ (trim_good a ha.lim ha.len), ?_⟩
 refine nx ?_
 refine ⟨_, hC _ _ _ (trim_good b hb.lim hb.len), ?_⟩
 have hpn := ha.cn.lim
 have hqn := hb.cn.lim
 have hpl := Nat.lt_of_le_of_lt (len_cn_nv ha.lim) hal
 have hql := Nat.lt_of_le_of_lt (len_cn_nv hb.lim) hbl
 have hva := nv_cn (nv a)
 have hvb := nv_cn (nv b)
 generalize Ψ .cn (nv a) = p at *
 generalize Ψ .cn (nv b) = q at *
 refine nx ?_
 rw [wrap_add (by omega)]
 refine ⟨ci_nonneg _, Int.le_refl _, by simp only [wz]; omega, by simp only [wz]; omega, ?_⟩
 refine LoopG.intro (σ := Nat × List Nat) [1, 5, 22, 23, 24] [1050]
  (fun s => [.d (dN Ψ q), .own 1050 1, .d (dN Ψ p), .d (.i .i64 (Ω .ci p.length)), .d (.i .i64 (Ω .ci s.1))])
  (fun s => [.row true T.uint32 1 (Ψ .lims s.2)])
  (fun s => s.1 ≤ p.length ∧ s.2.length = p.length + q.length ∧ lim s.2 ∧ nv (s.2.take (s.1 + q.length)) = nv (p.take s.1) * nv q)
  (fun s => p.length - s.1) (0, List.replicate (p.length + q.length) 0) [1205] ⟨Nat.zero_le _, by simp, lim_rep _, by simp [nv_rep]⟩ ⟨rfl, rfl, ?_⟩ ?_
 ·refine Eq.trans (b := [.row true T.uint32 1 _]) rfl ?_
  rw [← srep_lims]
  rfl
 rintro ⟨i, z⟩ ⟨hi, hzl, hzn, he⟩
 simp only at hi hzl hzn he
 refine nx ?_
 refine BrG.split (fun h => ?_) (fun h => ?_)
 ·have hi2 : i < p.length := by have := h; simp only [wz] at this; omega
  obtain ⟨u, hu⟩ : ∃ u, p[i]? = some u := ⟨_, List.getElem?_eq_getElem hi2⟩
  have hul := lim_get hpn hu
  refine nx ?_
  refine idx_lims i u rfl hu rfl ?_
  refine nx ?_
  refine LoopG.intro (σ := Nat × List Nat × Nat) [1, 5, 6, 7, 8, 22, 23, 24, 29, 30, 31] [1051]
   (fun s => [.d (dN Ψ q), .own 1051 1, .d (.i .i64 (Ω .ci i)), .d (.i .u32 (Ω .ci u)), .d (.i .u64 (Ω .ci s.2.2)), .d (dN Ψ p), .d (.i .i64 (Ω .ci p.length)), .d (.i .i64 (Ω .ci i)), .d (dN Ψ q), .d (.i .i64 (Ω .ci q.length)), .d (.i .i64 (Ω .ci s.1))])
   (fun s => [.row true T.uint32 1 (Ψ .lims s.2.1)])
   (fun s => s.1 ≤ q.length ∧ s.2.1.length = p.length + q.length ∧ lim s.2.1 ∧ s.2.2 < 4294967296 ∧ nv (s.2.1.take (i + q.length)) + 4294967296 ^ (i + s.1) * s.2.2 = nv (z.take (i + q.length)) + 4294967296 ^ i * u * nv (q.take s.1))
   (fun s => q.length - s.1) (0, z, 0) [1050] ⟨Nat.zero_le _, hzl, hzn, by simp only; omega, by simp⟩ ⟨rfl, rfl, rfl⟩ ?_
  rintro ⟨k, w, c⟩ ⟨hk, hwl, hwn, hc, hw⟩
  simp only at hk hwl hwn hc hw
  refine nx ?_
  refine BrG.split (fun h => ?_) (fun h => ?_)
  ·have hk2 : k < q.length := by have := h; simp only [wz] at this; omega
   obtain ⟨v, hv⟩ : ∃ v, q[k]? = some v := ⟨_, List.getElem?_eq_getElem hk2⟩
   obtain ⟨o, ho⟩ : ∃ o, w[i + k]? = some o := ⟨_, List.getElem?_eq_getElem (by omega)⟩
   have hvl := lim_get hqn hv
   have hol := lim_get hwn ho
   refine nx ?_
   refine idx_lims k v rfl hv rfl ?_
   refine nx ?_
   have hix : Ω .wrap .i64 (Ω .ci i + Ω .ci k) = Ω .ci (i + k) := wrap_add (by omega)
   refine own_lims (i + k) o hix ho ?_ ?_ ?_
   ·exact Nat.le_refl _
   ·exact rfl
   refine nx ?_
   rw [hix, wrapu64_ci, wrapu64_ci, wrapu64_ci, ci_mul, wrapu64_ci, ci_add, wrapu64_ci, ci_add, wrapu64_ci]
   have hfit := mul_fits hul hvl hol hc
   have ht : ((u % 18446744073709551616 * (v % 18446744073709551616) % 18446744073709551616 + o % 18446744073709551616) % 18446744073709551616 + c) % 18446744073709551616 = u * v + o + c := by
    rw [Nat.mod_eq_of_lt (show u < 18446744073709551616 by omega), Nat.mod_eq_of_lt (show v < 18446744073709551616 by omega)]
    omega
   rw [ht]
   refine ⟨ci_nonneg _, by simp only [wz]; omega, by simp only [wz]; omega, (k + 1, w.set (i + k) ((u * v + o + c) % 4294967296), (u * v + o + c) / 4294967296), [1051], ⟨hk2, by simp [hwl], lim_set hwn _ (by omega), by simp only; omega, ?_⟩, by simp only; omega, rfl, ?_, ?_⟩
   ·simp only
    rw [List.take_set, nv_take_succ hv]
    have ho' : (w.take (i + q.length))[i + k]? = some o := by rw [List.getElem?_take, if_pos (by omega)]; exact ho
    have hz := nv_set ho' ((u * v + o + c) % 4294967296)
    have := mul_step (b := 4294967296 ^ i) (B' := 4294967296 ^ k) (M := 4294967296 ^ (i + k)) rfl hw hz ⟨_, Nat.pow_add _ _ _⟩ (Nat.pow_add _ _ _)
    rw [show i + (k + 1) = (i + k) + 1 by omega, Nat.pow_succ]
    exact this
   ·refine Eq.trans (b := [.d (dN Ψ q), .own 1051 1, .d (.i .i64 (Ω .ci i)), .d (.i .u32 (Ω .ci u)), .d (.i .u64 _), .d (dN Ψ p), .d (.i .i64 (Ω .ci p.length)), .d (.i .i64 (Ω .ci i)), .d (dN Ψ q), .d (.i .i64 (Ω .ci q.length)), .d (.i .i64 _)]) rfl ?_
    rw [wrap_succ (by omega), ishr32]
   ·refine Eq.trans (b := [.row true T.uint32 1 _]) rfl ?_
    rw [tn_ci, wrapu32_ci, sset_lims]
  ·have hk2 : k = q.length := by have := h; simp only [wz] at this; omega
   subst hk2
   refine nx ?_
   rw [wrap_add (by omega)]
   rw [List.take_length] at hw
   obtain ⟨o, ho⟩ : ∃ o, w[i + q.length]? = some o := ⟨_, List.getElem?_eq_getElem (by omega)⟩
   refine ⟨ci_nonneg _, by simp only [wz]; omega, by simp only [wz]; omega, (i + 1, w.set (i + q.length) c), [1051], ⟨hi2, by simp [hwl], lim_set hwn _ hc, ?_⟩, by simp only; omega, rfl, ?_, ?_⟩
   ·simp only
    have ho' : (w.set (i + q.length) c)[i + q.length]? = some c := by
     have := (List.getElem?_eq_some_iff.1 ho).1
     simp [this]
    rw [show i + 1 + q.length = (i + q.length) + 1 by omega, nv_take_succ ho', List.take_set_of_le (Nat.le_refl _), hw, he, nv_take_succ hu, Nat.add_mul]
   ·refine Eq.trans (b := [.d (dN Ψ q), .own 1050 1, .d (dN Ψ p), .d (.i .i64 (Ω .ci p.length)), .d (.i .i64 _)]) rfl ?_
    rw [wrap_succ (by omega)]
   ·refine Eq.trans (b := [.row true T.uint32 1 _]) rfl ?_
    rw [tn_ci, wrapu32_ci, Nat.mod_eq_of_lt hc, sset_lims]
 ·have hi2 : i = p.length := by have := h; simp only [wz] at this; omega
  subst hi2
  rw [List.take_length, List.take_of_length_le (by omega)] at he
  have hg := trim_good z hzn (by omega)
  rw [he, hva, hvb] at hg
  refine nx ?_
  refine ⟨_, hC _ _ _ hg, ?_⟩
  exact nx trivial
end Go.K.S
end
section
namespace Go.K.S
open Go Go.K
theorem div32_good (hi lo y : Nat) (h : hi < y) (hy : y < 4294967296) (hl : lo < 4294967296) :
  Good P F.math_bits_Div32 [.d (.i .u32 (Ω .ci hi)), .d (.i .u32 (Ω .ci lo)), .d (.i .u32 (Ω .ci y))] []
   (.tup [.d (.i .u32 (Ω .ci ((hi * 4294967296 + lo) / y))), .d (.i .u32 (Ω .ci ((hi * 4294967296 + lo) % y)))]) [] := by
 refine G.math_bits_Div32 fun C C2 hC hC2 => ?_
 refine nx ?_
 refine BrG.split (fun g => ?_) (fun g => ?_)
 ·refine nx ?_
  refine BrG.split (fun g => ?_) (fun g => ?_)
  ·have := g; simp only [wz] at this; omega
  ·refine nx ?_
   have e : Ω .ior .u64 (Ω .ishl .u64 (Ω .wrap .u64 (Ω .ci hi)) 32) (Ω .wrap .u64 (Ω .ci lo)) = Ω .ci (hi * 4294967296 + lo) := by
    rw [wrapu64_ci, wrapu64_ci, Nat.mod_eq_of_lt (by omega), Nat.mod_eq_of_lt (by omega), ishl32, wrapu64_ci, Nat.mod_eq_of_lt (by omega), ior64_ci (by omega) (by omega), or_shl _ hl]
   have ey : Ω .wrap .u64 (Ω .ci y) = Ω .ci y := by rw [wrapu64_ci, Nat.mod_eq_of_lt (by omega)]
   have hq : (hi * 4294967296 + lo) / y < 4294967296 := by
    rw [Nat.div_lt_iff_lt_mul (by omega)]
    have := Nat.mul_le_mul_right 4294967296 (show hi + 1 ≤ y by omega)
    rw [Nat.add_mul, Nat.mul_comm y] at this
    omega
   have hr : (hi * 4294967296 + lo) % y < y := Nat.mod_lt _ (by omega)
   rw [e, ey]
   refine ⟨by simp only [wz]; omega, ?_⟩
   rw [tdiv_ci, tmod_ci, wrapu64_ci, Nat.mod_eq_of_lt (by omega), wrapu32_ci, Nat.mod_eq_of_lt hq, wrapu32_ci, Nat.mod_eq_of_lt (a := (hi * 4294967296 + lo) % y) (by omega)]
   exact ⟨by simp only [wz]; omega, rfl⟩
 ·have : Ω .ci y = 0 := by have := g; simp only [wz] at this ⊢; omega
  simp only [wz] at this; omega
theorem small_good (x : List Nat) (b : Nat) (hx : N x) (hb0 : 0 < b) (hb : b < 4294967296) : Good P F.nat_small [.d (dN Ψ x), .d (.i .u32 (Ω .ci b))] [] (.tup [.d (dN Ψ (Ψ .cn (nv x / b))), .d (dN Ψ (Ψ .cn (nv x % b)))]) [] := by
 refine G.nat_small fun C C2 hC hC2 => ?_
 have hxl := hx.len
 refine nx ?_
 refine ⟨ci_nonneg _, Int.le_refl _, by simp only [wz]; omega, by simp only [wz]; omega, ?_⟩
 refine LoopG.intro (σ := Nat × List Nat × Nat) [0, 1, 6, 7, 8] [1050]
  (fun s => [.d (dN Ψ x), .d (.i .u32 (Ω .ci b)), .own 1050 1, .d (.i .u32 (Ω .ci s.2.2)), .d (.i .i64 (Ω .wrap .i64 (Ω .ci s.1 - 1)))])
  (fun s => [.row true T.uint32 1 (Ψ .lims s.2.1)])
  (fun s => s.1 ≤ x.length ∧ s.2.1.length = x.length ∧ lim s.2.1 ∧ s.2.2 < b ∧ nv (s.2.1.drop s.1) * b + s.2.2 = nv (x.drop s.1))
  (fun s => s.1) (x.length, List.replicate x.length 0, 0) [1102] ⟨Nat.le_refl _, by simp, lim_rep _, hb0, by simp⟩ ⟨rfl, ?_, ?_⟩ ?_
 ·refine Eq.trans (b := [.d (dN Ψ x), .d (.i .u32 (Ω .ci b)), .own 1050 1, .d (.i .u32 0), .d (.i .i64 _)]) rfl ?_
  rfl
 ·refine Eq.trans (b := [.row true T.uint32 1 _]) rfl ?_
  rw [← srep_lims]
 rintro ⟨k, z, r⟩ ⟨hk, hzl, hzn, hr, he⟩
 simp only at hk hzl hzn hr he
 refine nx ?_
 refine BrG.split (fun h => ?_) (fun h => ?_)
 ·rw [wrap64 (by simp only [wz]; omega) (by simp only [wz]; omega)] at h
  have hk0 : 0 < k := by have := h; simp only [wz] at this; omega
  have hk1 : Ω .wrap .i64 (Ω .ci k - 1) = Ω .ci (k - 1) := wrap_pred hk0 (by omega)
  obtain ⟨u, hu⟩ : ∃ u, x[k - 1]? = some u := ⟨_, List.getElem?_eq_getElem (by omega)⟩
  have hul := lim_get hx.lim hu
  refine nx ?_
  refine idx_lims (k - 1) u hk1 hu rfl ?_
  refine nx ?_
  refine ⟨_, hC _ _ _ (div32_good r u b hr hb hul), ?_⟩
  refine nx ?_
  have hqq : (r * 4294967296 + u) / b < 4294967296 := by
   rw [Nat.div_lt_iff_lt_mul (by omega)]
   have := Nat.mul_le_mul_right 4294967296 (show r + 1 ≤ b by omega)
   rw [Nat.add_mul, Nat.mul_comm b] at this
   omega
  rw [hk1]
  refine ⟨ci_nonneg _, by simp only [wz]; omega, by simp only [wz]; omega, (k - 1, z.set (k - 1) ((r * 4294967296 + u) / b), (r * 4294967296 + u) % b), [1050], ⟨by simp only; omega, by simp [hzl], lim_set hzn _ hqq, Nat.mod_lt _ hb0, ?_⟩, by simp only; omega, rfl, ?_, ?_⟩
  ·simp only
   rw [nv_set_drop (by omega), nv_drop hu, show k - 1 + 1 = k by omega]
   exact small_step he
  ·refine Eq.trans (b := [.d (dN Ψ x), .d (.i .u32 (Ω .ci b)), .own 1050 1, .d (.i .u32 (Ω .ci _)), .d (.i .i64 _)]) rfl ?_
   rfl
  ·refine Eq.trans (b := [.row true T.uint32 1 _]) rfl ?_
   rw [tn_ci, sset_lims]
 ·rw [wrap64 (by simp only [wz]; omega) (by simp only [wz]; omega)] at h
  have hk0 : k = 0 := by have := h; simp only [wz] at this; omega
  subst hk0
  rw [List.drop_zero, List.drop_zero] at he
  obtain ⟨e1, e2⟩ := divmod_unique he hr
  have g1 := trim_good z hzn (by omega)
  have g2 := trim_good [r] (by simp [lim_cons, lim_nil]; omega) (by simp)
  rw [← e1] at g1
  rw [show nv [r] = nv x % b by simp; exact e2.symm] at g2
  refine nx ?_
  refine ⟨_, hC _ _ _ g1, ?_⟩
  refine nx ?_
  refine ⟨_, hC _ _ _ g2, ?_⟩
  exact nx trivial
end Go.K.S
end
section
namespace Go.K
open Go
theorem tmod32 (n : Nat) : Ω .tmod (Ω .ci n) 32 = Ω .ci (n % 32) := tmod_ci n 32
theorem tdiv32 (n : Nat) : (Ω .ci n).tdiv 32 = Ω .ci (n / 32) := tdiv_ci n 32
theorem shl_limb {t r c : Nat} (ht : t < 4294967296) (hr : r < 32) (hc : c < 2 ^ r) :
  ((t * 2 ^ r) % 4294967296 ||| c) + 4294967296 * (t / 2 ^ (32 - r)) = t * 2 ^ r + c ∧ ((t * 2 ^ r) % 4294967296 ||| c) < 4294967296 ∧ t / 2 ^ (32 - r) < 2 ^ r := by
 have hB : 4294967296 = 2 ^ r * 2 ^ (32 - r) := by rw [← Nat.pow_add, show r + (32 - r) = 32 by omega]
 have h2 : (t * 2 ^ r) % 4294967296 = 2 ^ r * (t % 2 ^ (32 - r)) := by rw [hB, Nat.mul_comm t, Nat.mul_mod_mul_left]
 have hd := Nat.mod_add_div t (2 ^ (32 - r))
 have hm : t % 2 ^ (32 - r) < 2 ^ (32 - r) := Nat.mod_lt _ (Nat.pow_pos (by omega))
 rw [h2, or_shl' hc]
 refine ⟨?_, ?_, ?_⟩
 ·have : t * 2 ^ r = 2 ^ r * (t % 2 ^ (32 - r)) + 4294967296 * (t / 2 ^ (32 - r)) := by
   rw [hB, Nat.mul_assoc, ← Nat.mul_add, hd, Nat.mul_comm]
  rw [this]; omega
 ·have := Nat.mul_le_mul_left (2 ^ r) (show t % 2 ^ (32 - r) + 1 ≤ 2 ^ (32 - r) by omega)
  rw [Nat.mul_add, ← hB] at this
  omega
 ·rw [Nat.div_lt_iff_lt_mul (Nat.pow_pos (by omega)), ← hB]; exact ht
theorem shl_step {zv W M c X t s c' R : Nat} (h : zv + W * M * c = X * (W * R)) (hs : s + 4294967296 * c' = t * R + c) : zv + W * M * s + W * M * 4294967296 * c' = (X + M * t) * (W * R) := by
 have h2 : W * M * (s + 4294967296 * c') = W * M * (t * R + c) := by rw [hs]
 rw [Nat.mul_add, Nat.mul_add, ← Nat.mul_assoc] at h2
 have h3 : (X + M * t) * (W * R) = X * (W * R) + W * M * (t * R) := by
  rw [Nat.add_mul]; congr 1
  rw [Nat.mul_comm M t]; ac_rfl
 rw [h3]
 omega
end Go.K
namespace Go.K.S
open Go Go.K
end Go.K.S
end
section
namespace Go.K
open Go
theorem shr_limb {x : List Nat} {i u : Nat} (hx : lim x) (hu : x[i]? = some u) {n : Nat} (hn : n < 32) :
  (x.getD (i + 1) 0 * 4294967296 + u) / 2 ^ n % 4294967296 = nv x / 2 ^ n / 4294967296 ^ i % 4294967296 := by
 have hi := (List.getElem?_eq_some_iff.1 hu).1
 have h1 : nv x / 4294967296 ^ i = nv (x.drop i) := by
  rw [nv_split x i (by omega), Nat.add_mul_div_left _ _ (Nat.pow_pos (by omega)), Nat.div_eq_of_lt, Nat.zero_add]
  have := nv_lt (lim_take hx i)
  rwa [List.length_take, Nat.min_eq_left (by omega)] at this
 have h2 : nv (x.drop (i + 1)) = x.getD (i + 1) 0 + 4294967296 * nv (x.drop (i + 2)) := by
  rcases Nat.lt_or_ge (i + 1) x.length with q | q
  ·have : x[i + 1]? = some x[i + 1] := List.getElem?_eq_getElem q
   rw [nv_drop this]; simp [List.getD, q]
  ·rw [List.drop_of_length_le q, List.drop_of_length_le (by omega)]; simp [List.getD, q]
 rw [Nat.div_div_eq_div_mul, Nat.mul_comm (2 ^ n), ← Nat.div_div_eq_div_mul, h1, nv_drop hu, h2]
 generalize x.getD (i + 1) 0 = v
 generalize nv (x.drop (i + 2)) = H
 have e : u + 4294967296 * (v + 4294967296 * H) = (v * 4294967296 + u) + 2 ^ n * (4294967296 * (2 ^ (32 - n) * H)) := by
  have : 2 ^ n * (4294967296 * (2 ^ (32 - n) * H)) = 4294967296 * (4294967296 * H) := by
   rw [Nat.mul_left_comm, ← Nat.mul_assoc (2 ^ n), ← Nat.pow_add, show n + (32 - n) = 32 by omega]
  rw [this]; omega
 rw [e, Nat.add_mul_div_left _ _ (Nat.pow_pos (by omega)), Nat.add_mul_mod_self_left]
end Go.K
namespace Go.K.S
open Go Go.K
theorem shr_good (x : List Nat) (n : Nat) (hx : N x) (hn : n < 32) : Good P F.nat_shr [.d (dN Ψ x), .d (.i .i64 (Ω .ci n))] [] (.d (dN Ψ (Ψ .cn (nv x / 2 ^ n)))) [] := by
 refine G.nat_shr fun C C2 hC hC2 => ?_
 have hxl := hx.len
 refine nx ?_
 refine ⟨ci_nonneg _, Int.le_refl _, by simp only [wz]; omega, by simp only [wz]; omega, ?_⟩
 refine LoopG.intro (σ := Nat × List Nat) [0, 1, 5, 12, 13, 14] [1050]
  (fun s => [.d (dN Ψ x), .d (.i .i64 (Ω .ci n)), .own 1050 1, .d (dN Ψ x), .d (.i .i64 (Ω .ci x.length)), .d (.i .i64 (Ω .ci s.1))])
  (fun s => [.row true T.uint32 1 (Ψ .lims s.2)])
  (fun s => s.1 ≤ x.length ∧ s.2.length = x.length ∧ lim s.2 ∧ nv (s.2.take s.1) = nv x / 2 ^ n % 4294967296 ^ s.1)
  (fun s => x.length - s.1) (0, List.replicate x.length 0) [1102] ⟨Nat.zero_le _, by simp, lim_rep _, by simp [Nat.mod_one]⟩ ⟨rfl, rfl, ?_⟩ ?_
 ·refine Eq.trans (b := [.row true T.uint32 1 _]) rfl ?_
  rw [← srep_lims]
 rintro ⟨i, z⟩ ⟨hi, hzl, hzn, he⟩
 simp only at hi hzl hzn he
 refine nx ?_
 refine BrG.split (fun h => ?_) (fun h => ?_)
 ·have hi2 : i < x.length := by have := h; simp only [wz] at this; omega
  obtain ⟨u, hu⟩ : ∃ u, x[i]? = some u := ⟨_, List.getElem?_eq_getElem hi2⟩
  have hul := lim_get hx.lim hu
  have hd := shr_limb hx.lim hu hn
  have hgl := getD_lt hx.lim (i + 1)
  have fin : ∀ v, v = x.getD (i + 1) 0 → Ω .wrap .u32 (Ω .ishr .u64 (Ω .ior .u64 (Ω .ishl .u64 (Ω .wrap .u64 (Ω .ci v)) 32) (Ω .wrap .u64 (Ω .ci u))) (Ω .ci n)) = Ω .ci ((v * 4294967296 + u) / 2 ^ n % 4294967296) ∧
    ((i + 1 ≤ x.length ∧ (z.set i ((v * 4294967296 + u) / 2 ^ n % 4294967296)).length = x.length ∧ lim (z.set i ((v * 4294967296 + u) / 2 ^ n % 4294967296)) ∧ nv ((z.set i ((v * 4294967296 + u) / 2 ^ n % 4294967296)).take (i + 1)) = nv x / 2 ^ n % 4294967296 ^ (i + 1))) := fun v hv => by
   have hvl : v < 4294967296 := hv ▸ hgl
   refine ⟨?_, hi2, by simp [hzl], lim_set hzn _ (Nat.mod_lt _ (by omega)), ?_⟩
   ·rw [wrapu64_ci, wrapu64_ci, Nat.mod_eq_of_lt (by omega), Nat.mod_eq_of_lt (by omega), ishl32, wrapu64_ci, Nat.mod_eq_of_lt (by omega), ior64_ci (by omega) (by omega), or_shl _ hul, ishr_ci _ _ _ (by show n ≤ 64; omega), wrapu32_ci]
   ·have e3 : (z.set i ((v * 4294967296 + u) / 2 ^ n % 4294967296))[i]? = some ((v * 4294967296 + u) / 2 ^ n % 4294967296) := by simp [hzl, hi2]
    rw [nv_take_succ e3, List.take_set_of_le (Nat.le_refl _), he, hv, hd, Nat.pow_succ, Nat.mod_mul]
  refine nx ?_
  refine idx_lims i u rfl hu rfl ?_
  refine nx ?_
  refine BrG.split (fun h => ?_) (fun h => ?_)
  ·rw [wrap_succ (by omega)] at h
   have hi3 : i + 1 < x.length := by have := h; simp only [wz] at this; omega
   obtain ⟨v, hv⟩ : ∃ v, x[i + 1]? = some v := ⟨_, List.getElem?_eq_getElem hi3⟩
   obtain ⟨f1, f2⟩ := fin v (by simp [List.getD, hv])
   refine nx ?_
   refine idx_lims (i + 1) v (wrap_succ (by omega)) hv rfl ?_
   refine nx ?_
   refine ⟨ci_nonneg _, ci_nonneg _, by simp only [wz, List.length_set]; omega, by simp only [wz, List.length_set]; omega, (i + 1, z.set i ((v * 4294967296 + u) / 2 ^ n % 4294967296)), [1050], f2, by simp only; omega, rfl, ?_, ?_⟩
   ·refine Eq.trans (b := [.d (dN Ψ x), .d (.i .i64 (Ω .ci n)), .own 1050 1, .d (dN Ψ x), .d (.i .i64 (Ω .ci x.length)), .d (.i .i64 _)]) rfl ?_
    rw [wrap_succ (by omega)]
   ·refine Eq.trans (b := [.row true T.uint32 1 _]) rfl ?_
    rw [f1, sset_lims]
  ·rw [wrap_succ (by omega)] at h
   have hi3 : x.length ≤ i + 1 := by have := h; simp only [wz] at this; omega
   obtain ⟨f1, f2⟩ := fin 0 (by simp [List.getD, hi3])
   refine nx ?_
   refine ⟨ci_nonneg _, ci_nonneg _, by simp only [wz, List.length_set]; omega, by simp only [wz, List.length_set]; omega, (i + 1, z.set i ((0 * 4294967296 + u) / 2 ^ n % 4294967296)), [1050], f2, by simp only; omega, rfl, ?_, ?_⟩
   ·refine Eq.trans (b := [.d (dN Ψ x), .d (.i .i64 (Ω .ci n)), .own 1050 1, .d (dN Ψ x), .d (.i .i64 (Ω .ci x.length)), .d (.i .i64 _)]) rfl ?_
    rw [wrap_succ (by omega)]
   ·refine Eq.trans (b := [.row true T.uint32 1 _]) rfl ?_
    rw [show Ω .wrap .u64 0 = Ω .wrap .u64 (Ω .ci 0) from rfl, f1, sset_lims]
 ·have hi2 : i = x.length := by have := h; simp only [wz] at this; omega
  subst hi2
  rw [List.take_of_length_le (by omega), Nat.mod_eq_of_lt (Nat.lt_of_le_of_lt (Nat.div_le_self _ _) (nv_lt hx.lim))] at he
  have hg := trim_good z hzn (by omega)
  rw [he] at hg
  refine nx ?_
  refine ⟨_, hC _ _ _ hg, ?_⟩
  exact nx trivial
end Go.K.S
end
section
namespace Go.K
open Go
def ln : Nat → Nat → List Nat
 | 0, _ => []
 | k + 1, n => n % 4294967296 :: ln k (n / 4294967296)
theorem ln_eq : ∀ (s : List Nat), lim s → s = ln s.length (nv s)
 | [], _ => rfl
 | x :: s, h => by
  rw [lim_cons] at h
  have ih := ln_eq s h.2
  rw [List.length_cons, nv_cons, ln]
  have e1 : (x + 4294967296 * nv s) % 4294967296 = x := by omega
  have e2 : (x + 4294967296 * nv s) / 4294967296 = nv s := by omega
  rw [e1, e2, ← ih]
theorem len_ln (k n : Nat) : (ln k n).length = k := by
 induction k generalizing n with
 | zero => rfl
 | succ k ih => rw [ln, List.length_cons, ih]
theorem lim_ln (k n : Nat) : lim (ln k n) := by
 induction k generalizing n with
 | zero => exact lim_nil
 | succ k ih => rw [ln, lim_cons]; exact ⟨Nat.mod_lt _ (by omega), ih _⟩
theorem nv_ln {k n : Nat} (h : n < 4294967296 ^ k) : nv (ln k n) = n := by
 induction k generalizing n with
 | zero => simp at h; subst h; rfl
 | succ k ih =>
  rw [ln, nv_cons, ih (by rw [Nat.div_lt_iff_lt_mul (by omega), ← Nat.pow_succ]; exact h)]
  omega
theorem get_mid (P R : List Nat) (a : Nat) {k : Nat} (hk : k = P.length) : (P ++ a :: R)[k]? = some a := by subst hk; simp
theorem set_mid (P R : List Nat) (a x : Nat) {k : Nat} (hk : k = P.length) : (P ++ a :: R).set k x = P ++ x :: R := by subst hk; simp
theorem less_step {M sv t Vk X c bo tt lo c' s W bo' v : Nat} (h : sv + t * Vk = X + M * (c + bo)) (h1 : t * v + c = tt) (h2 : lo + 4294967296 * c' = tt) (h3 : s + lo + bo = W + 4294967296 * bo') :
  sv + M * s + t * (Vk + M * v) = X + M * W + M * 4294967296 * (c' + bo') := by
 have e1 : t * (Vk + M * v) = t * Vk + M * (t * v) := by rw [Nat.mul_add, Nat.mul_left_comm]
 have e2 : M * (s + t * v + c + bo) = M * (W + 4294967296 * (c' + bo')) := by congr 1; omega
 have e3 : M * (s + t * v + c + bo) = M * s + M * (t * v) + M * (c + bo) := by rw [← Nat.mul_add, ← Nat.mul_add]; congr 1; omega
 have e4 : M * (W + 4294967296 * (c' + bo')) = M * W + M * 4294967296 * (c' + bo') := by rw [Nat.mul_add, Nat.mul_assoc]
 rw [e1]
 omega
end Go.K
namespace Go.K.S
open Go Go.K
end Go.K.S
end
section
namespace Go.K.S
open Go Go.K
end Go.K.S
end
section
namespace Go.K.S
open Go Go.K
theorem trim_own (l : List Nat) (hl : lim l) (hb : l.length < 1099511627776) : Good P F.nat_trim [.own 0 1] [.row true T.uint32 1 (Ψ .lims l)] (.own 1 1) [.dead, .row true T.uint32 1 (Ψ .lims (Ψ .cn (nv l)))] := by
 refine G2.nat_trim md (fun C C2 hC hC2 => ?_) (hb := by simp)
 refine nx ?_
 refine LoopG.intro (σ := Nat) [0, 3] [0] (fun n => [.own 0 1, .d (.i .i64 (Ω .ci n))]) (fun _ => [.row true T.uint32 1 (Ψ .lims l)]) (fun n => n ≤ l.length ∧ nv (l.take n) = nv l) (fun n => n) l.length [0] ⟨Nat.le_refl _, by simp⟩ ⟨rfl, rfl, rfl⟩ ?_
 rintro n ⟨hn, he⟩
 refine nx ?_
 refine BrG.split (fun h => ?_) (fun h => ?_)
 ·refine nx ?_
  simp [wz] at h
  obtain ⟨v, hv⟩ : ∃ v, l[n - 1]? = some v := ⟨_, List.getElem?_eq_getElem (by omega)⟩
  refine own_lims (n - 1) v (wrap_pred h (by omega)) hv ?_ ?_ ?_
  ·exact Nat.le_refl _
  ·exact rfl
  refine nx ?_
  have hs := nv_take_succ hv
  have hn1 : n - 1 + 1 = n := by omega
  rw [hn1] at hs
  refine BrG.split (fun h => ?_) (fun h => ?_)
  ·refine nx ?_
   simp [wz] at h
   refine ⟨n - 1, [0], ⟨by omega, by rw [h] at hs; omega⟩, by omega, rfl, ?_, rfl⟩
   rw [← wrap_pred (by omega) (by omega)]; rfl
  ·refine nx ?_
   simp [wz] at h
   have hc := cn_cano _ (lim_take hl n) (by rw [← hn1]; exact cano_take hv h)
   rw [he] at hc
   refine ⟨ci_nonneg _, Int.le_refl _, by simp only [wz]; omega, [1403], rfl, rfl, ?_⟩
   refine Eq.trans (b := [.dead, .row true T.uint32 1 _]) rfl ?_
   rw [ssub_lims', List.drop_zero, hc]
 ·refine nx ?_
  simp [wz] at h
  subst h
  have h0 : nv l = 0 := by rw [← he]; rfl
  refine ⟨ci_nonneg _, Int.le_refl _, by simp only [wz]; omega, [1403], rfl, rfl, ?_⟩
  refine Eq.trans (b := [.dead, .row true T.uint32 1 _]) rfl ?_
  rw [ssub_lims', h0, cn_zero]; rfl
def mdShl : FuncId → Bool := fun g => g == F.nat_trim
theorem shl_own (x : List Nat) (n : Nat) (hx : N x) (hxs : x.length < 549755813888) (hn : n ≤ 65536) : Good P F.nat_Shl [.d (dN Ψ x), .d (.i .i64 (Ω .ci n))] [] (.tup [.own 0 1, .d (.b true)]) [.row true T.uint32 1 (Ψ .lims (Ψ .cn (nv x * 2 ^ n)))] := by
 refine G2.nat_Shl mdShl (fun C C2 hC hC2 => ?_)
 have hr : n % 32 < 32 := Nat.mod_lt _ (by omega)
 have hpow : 2 ^ n = 4294967296 ^ (n / 32) * 2 ^ (n % 32) := by
  rw [show 4294967296 = 2 ^ 32 from rfl, ← Nat.pow_mul, ← Nat.pow_add]
  congr 1; omega
 generalize hres : nv x * 2 ^ n = res
 refine nx ?_
 refine BrG.split (fun g => ?_) (fun g => ?_)
 ·have := g; simp only [wz] at this; omega
 refine nx ?_
 refine BrG.split (fun g => ?_) (fun g => ?_)
 ·have := g; simp only [wz] at this; omega
 refine nx ?_
 rw [tdiv32, wrap_ci (by omega)]
 refine ⟨ci_nonneg _, Int.le_refl _, by simp only [wz]; omega, by simp only [wz]; omega, ?_⟩
 have h0 := trim_good x hx.lim hx.len
 have hpn := hx.cn.lim
 have hpl := Nat.lt_of_le_of_lt (len_cn_nv hx.lim) hxs
 have hv := nv_cn (nv x)
 generalize Ψ .cn (nv x) = p at *
 refine ⟨_, [], hC2 _ _ _ _ _ h0, ?_⟩
 refine nx ?_
 refine LoopG.intro (σ := Nat × List Nat × Nat) [1, 6, 7, 20, 21, 22] [1050]
  (fun s => [.d (.i .i64 (Ω .ci n)), .own 1050 1, .d (.i .u32 (Ω .ci s.2.2)), .d (dN Ψ p), .d (.i .i64 (Ω .ci p.length)), .d (.i .i64 (Ω .ci s.1))])
  (fun s => [.row true T.uint32 1 (Ψ .lims s.2.1)])
  (fun s => s.1 ≤ p.length ∧ s.2.1.length = n / 32 + s.1 ∧ lim s.2.1 ∧ s.2.2 < 2 ^ (n % 32) ∧ nv s.2.1 + 4294967296 ^ (n / 32) * 4294967296 ^ s.1 * s.2.2 = nv (p.take s.1) * (4294967296 ^ (n / 32) * 2 ^ (n % 32)))
  (fun s => p.length - s.1) (0, List.replicate (n / 32) 0, 0) [1302] ⟨Nat.zero_le _, by simp, lim_rep _, Nat.pow_pos (by omega), by simp [nv_rep]⟩ ⟨rfl, rfl, ?_⟩ ?_
 ·refine Eq.trans (b := [.row true T.uint32 1 _]) rfl ?_
  rw [← srep_lims]
 rintro ⟨i, z, c⟩ ⟨hi, hzl, hzn, hc, he⟩
 simp only at hi hzl hzn hc he
 refine nx ?_
 refine BrG.split (fun h => ?_) (fun h => ?_)
 ·have hi2 : i < p.length := by have := h; simp only [wz] at this; omega
  obtain ⟨t, ht⟩ : ∃ t, p[i]? = some t := ⟨_, List.getElem?_eq_getElem hi2⟩
  have htl := lim_get hpn ht
  refine nx ?_
  refine idx_lims i t rfl ht rfl ?_
  refine nx ?_
  rw [tmod32]
  obtain ⟨q1, q2, q3⟩ := shl_limb htl hr hc
  have hcl : 2 ^ (n % 32) ≤ 4294967296 := Nat.pow_le_pow_right (n := 2) (by omega) (show n % 32 ≤ 32 by omega)
  have e1 : Ω .ior .u32 (Ω .ishl .u32 (Ω .ci t) (Ω .ci (n % 32))) (Ω .ci c) = Ω .ci ((t * 2 ^ (n % 32)) % 4294967296 ||| c) := by
   rw [ishl_ci _ _ _ (by show n % 32 ≤ 32; omega), wrapu32_ci, ior_ci (Nat.mod_lt _ (by omega)) (by omega)]
  have e2 : Ω .wrap .i64 (32 - Ω .ci (n % 32)) = Ω .ci (32 - n % 32) := wrap_sub (a := 32) (by omega) (by omega)
  have e3 : Ω .wrap .u32 (Ω .ishr .u64 (Ω .wrap .u64 (Ω .ci t)) (Ω .ci (32 - n % 32))) = Ω .ci (t / 2 ^ (32 - n % 32)) := by
   rw [wrapu64_ci, Nat.mod_eq_of_lt (by omega), ishr_ci _ _ _ (by show 32 - n % 32 ≤ 64; omega), wrapu32_ci, Nat.mod_eq_of_lt]
   exact Nat.lt_of_lt_of_le q3 hcl
  rw [e1, e2]
  refine ⟨ci_nonneg _, cells_one _ _, (by simp only [wz]; omega), ci_nonneg _, (i + 1, z ++ [(t * 2 ^ (n % 32)) % 4294967296 ||| c], t / 2 ^ (32 - n % 32)), [1808], ⟨hi2, by simp [hzl]; omega, lim_append.2 ⟨hzn, by simp [lim_cons, lim_nil]; exact q2⟩, q3, ?_⟩, by simp only; omega, rfl, ?_, ?_⟩
  ·simp only
   rw [nv_snoc, hzl, nv_take_succ ht, Nat.pow_succ, Nat.pow_add, ← Nat.mul_assoc]
   exact shl_step he q1
  ·refine Eq.trans (b := [.d (.i .i64 (Ω .ci n)), .own 1050 1, .d (.i .u32 _), .d (dN Ψ p), .d (.i .i64 (Ω .ci p.length)), .d (.i .i64 _)]) rfl ?_
   rw [wrap_succ (by omega), e3]
  ·refine Eq.trans (b := [.row true T.uint32 1 _]) rfl ?_
   rw [scat_snoc]
 ·have hi2 : i = p.length := by have := h; simp only [wz] at this; omega
  subst hi2
  have hcl : 2 ^ (n % 32) ≤ 4294967296 := Nat.pow_le_pow_right (n := 2) (by omega) (show n % 32 ≤ 32 by omega)
  rw [List.take_length, ← hpow, hv, ← Nat.pow_add, ← hzl, ← nv_snoc, hres] at he
  have hg := trim_own (z ++ [c]) (lim_append.2 ⟨hzn, by simp [lim_cons, lim_nil]; omega⟩) (by simp; omega)
  rw [he] at hg
  refine nx ?_
  refine ⟨cells_one _ _, (by simp only [wz]; omega), ?_⟩
  rw [scat_snoc]
  refine nx ?_
  refine ⟨_, _, hC2 _ _ _ _ _ hg, ?_⟩
  refine nx ?_
  exact ⟨[1016832], rfl, rfl, rfl⟩
end Go.K.S
end
section
namespace Go.K.S
open Go Go.K
theorem less_own (A W Z v : List Nat) (t : Nat) (hW : lim W) (hv : lim v) (hl : (A ++ W ++ Z).length < 1099511627776) (hWl : W.length = v.length + 1) (ht : t < 4294967296) :
   Good P F.nat_less [.ref 0 1 A.length W.length, .own 1 1, .d (.i .u64 (Ω .ci t))] [.row true T.uint32 1 (Ψ .lims (A ++ W ++ Z)), .row true T.uint32 1 (Ψ .lims v)] (.d (.b (decide (nv W < t * nv v))))
    [.row true T.uint32 1 (Ψ .lims (A ++ ln W.length (nv W + (if nv W < t * nv v then 4294967296 ^ W.length else 0) - t * nv v) ++ Z)), .row true T.uint32 1 (Ψ .lims v)] := by
 obtain ⟨L0, hL0⟩ : ∃ L, L = A ++ W ++ Z := ⟨_, rfl⟩
 have hLl : L0.length = A.length + W.length + Z.length := by rw [hL0]; simp; omega
 rw [← hL0] at hl ⊢
 obtain ⟨n, hn⟩ : ∃ n, n = A.length := ⟨_, rfl⟩
 obtain ⟨m, hm⟩ : ∃ m, m = W.length := ⟨_, rfl⟩
 rw [← hn, ← hm]
 refine G.nat_less (fun C C2 hC hC2 => ?_) (hb := by simp)
 generalize hR : Ψ .lims (A ++ ln m (nv W + (if nv W < t * nv v then 4294967296 ^ m else 0) - t * nv v) ++ Z) = R
 generalize hB : decide (nv W < t * nv v) = B
 refine nx ?_
 refine LoopG.intro (σ := Nat × List Nat × List Nat × Nat × Nat) [0, 1, 2, 7, 8, 12, 13, 14] [0, 1]
  (fun s => [.ref 0 1 n m, .own 1 1, .d (.i .u64 (Ω .ci t)), .d (.i .u64 (Ω .ci s.2.2.2.1)), .d (.i .u32 (Ω .ci s.2.2.2.2)), .own 1 1, .d (.i .i64 (Ω .ci v.length)), .d (.i .i64 (Ω .ci s.1))])
  (fun s => [.row true T.uint32 1 (Ψ .lims s.2.1), .row true T.uint32 1 (Ψ .lims v)])
  (fun s => s.1 ≤ v.length ∧ s.2.1 = A ++ s.2.2.1 ++ (W.drop s.1 ++ Z) ∧ s.2.2.1.length = s.1 ∧ lim s.2.2.1 ∧ s.2.2.2.1 < 4294967296 ∧ s.2.2.2.2 ≤ 1 ∧
   nv s.2.2.1 + t * nv (v.take s.1) = nv (W.take s.1) + 4294967296 ^ s.1 * (s.2.2.2.1 + s.2.2.2.2))
  (fun s => v.length - s.1) (0, L0, [], 0, 0) [0, 1] ⟨Nat.zero_le _, by simp [hL0], rfl, lim_nil, by simp only; omega, by simp only; omega, by simp⟩ ⟨rfl, rfl, rfl⟩ ?_
 rintro ⟨i, L, s, c, o⟩ ⟨hi, hL, hsl, hsn, hc, ho, he⟩
 simp only at hi hL hsl hsn hc ho he
 have hLL : L.length = n + m + Z.length := by rw [hL]; simp [hsl]; omega
 have hiW : i < W.length := by omega
 obtain ⟨w, hw⟩ : ∃ w, W[i]? = some w := ⟨_, List.getElem?_eq_getElem hiW⟩
 have hwl := lim_get hW hw
 have hdrop : W.drop i = w :: W.drop (i + 1) := by
  obtain ⟨q, rfl⟩ := List.getElem?_eq_some_iff.1 hw
  exact List.drop_eq_getElem_cons q
 have hL' : L = (A ++ s) ++ w :: (W.drop (i + 1) ++ Z) := by rw [hL, hdrop]; simp
 have hat : L[n + i]? = some w := by rw [hL']; exact get_mid _ _ _ (by simp [hsl, hn])
 have hset : ∀ x, L.set (n + i) x = A ++ (s ++ [x]) ++ (W.drop (i + 1) ++ Z) := fun x => by
  rw [hL', set_mid _ _ _ _ (by simp [hsl, hn])]; simp
 refine nx ?_
 refine BrG.split (fun h => ?_) (fun h => ?_)
 ·have hi2 : i < v.length := by have := h; simp only [wz] at this; omega
  obtain ⟨u, hu⟩ : ∃ u, v[i]? = some u := ⟨_, List.getElem?_eq_getElem hi2⟩
  have hul := lim_get hv hu
  have hfit := mul_fits ht hul (show 0 < 4294967296 by omega) hc
  refine nx ?_
  refine own_lims i u rfl hu ?_ ?_ ?_
  ·exact Nat.le_refl _
  ·exact rfl
  refine nx ?_
  refine ⟨ci_nonneg _, by simp only [wz]; omega, .i .u32 (Ω .ci w), by rw [w_nadd, sget_lims, hat]; rfl, Nat.le_refl _, (by first | exact rfl | exact fun _ => rfl), ?_⟩
  refine nx ?_
  have ht2 : Ω .wrap .u64 (Ω .wrap .u64 (Ω .ci t * Ω .wrap .u64 (Ω .ci u)) + Ω .ci c) = Ω .ci (t * u + c) := by
   rw [wrapu64_ci, Nat.mod_eq_of_lt (a := u) (by omega), ci_mul, wrapu64_ci, Nat.mod_eq_of_lt (by omega), ci_add, wrapu64_ci, Nat.mod_eq_of_lt (by omega)]
  rw [ht2, wrapu32_ci]
  refine ⟨_, hC _ _ _ (sub32_good w ((t * u + c) % 4294967296) o hwl (Nat.mod_lt _ (by omega)) ho), ?_⟩
  have hx : (4294967296 + w - (t * u + c) % 4294967296 - o) % 4294967296 < 4294967296 := Nat.mod_lt _ (by omega)
  have hb : (4294967296 + w - (t * u + c) % 4294967296 - o) % 4294967296 + (t * u + c) % 4294967296 + o = w + 4294967296 * (if w < (t * u + c) % 4294967296 + o then 1 else 0) := by
   split <;> omega
  have hb1 : (if w < (t * u + c) % 4294967296 + o then 1 else 0) ≤ 1 := by split <;> omega
  generalize (4294967296 + w - (t * u + c) % 4294967296 - o) % 4294967296 = x at *
  generalize (if w < (t * u + c) % 4294967296 + o then 1 else 0) = o' at *
  refine nx ?_
  refine ⟨ci_nonneg _, by simp only [wz]; omega, by simp only [wz, List.length_set]; omega, (i + 1, L.set (n + i) x, s ++ [x], (t * u + c) / 4294967296, o'), [0, 1], ⟨hi2, hset x, by simp [hsl], lim_append.2 ⟨hsn, by simp [lim_cons, lim_nil]; exact hx⟩, by simp only; omega, hb1, ?_⟩, by simp only; omega, rfl, ?_, ?_⟩
  ·simp only
   rw [nv_snoc, hsl, nv_take_succ hu, nv_take_succ hw, Nat.pow_succ]
   exact less_step he rfl (Nat.mod_add_div _ _) hb
  ·refine Eq.trans (b := [.ref 0 1 n m, .own 1 1, .d (.i .u64 (Ω .ci t)), .d (.i .u64 _), .d (.i .u32 (Ω .ci _)), .own 1 1, .d (.i .i64 (Ω .ci v.length)), .d (.i .i64 _)]) rfl ?_
   rw [wrap_succ (by omega), ishr32]
  ·refine Eq.trans (b := [.row true T.uint32 1 _, .row true T.uint32 1 (Ψ .lims v)]) rfl ?_
   (try rw [w_nadd])
   rw [sset_lims]
 ·have hi2 : i = v.length := by have := h; simp only [wz] at this; omega
  subst hi2
  refine nx ?_
  refine ⟨ci_nonneg _, by simp only [wz]; omega, .i .u32 (Ω .ci w), by rw [w_nadd, sget_lims, hat]; rfl, Nat.le_refl _, (by first | exact rfl | exact fun _ => rfl), ?_⟩
  refine nx ?_
  rw [wrapu32_ci, Nat.mod_eq_of_lt hc]
  refine ⟨_, hC _ _ _ (sub32_good w c o hwl hc ho), ?_⟩
  have hx : (4294967296 + w - c - o) % 4294967296 < 4294967296 := Nat.mod_lt _ (by omega)
  have hb : (4294967296 + w - c - o) % 4294967296 + c + o = w + 4294967296 * (if w < c + o then 1 else 0) := by
   split <;> omega
  have hb1 : (if w < c + o then 1 else 0) ≤ 1 := by split <;> omega
  generalize (4294967296 + w - c - o) % 4294967296 = x at *
  generalize (if w < c + o then 1 else 0) = o' at *
  have hWt : nv W = nv (W.take v.length) + 4294967296 ^ v.length * w := by
   have := nv_take_succ hw
   rw [← hWl, List.take_length] at this
   exact this
  have hfin : nv (s ++ [x]) + t * nv v = nv W + 4294967296 ^ m * o' := by
   rw [List.take_length] at he
   rw [nv_snoc, hsl, hWt, hm, hWl, Nat.pow_succ, Nat.mul_assoc]
   have e : 4294967296 ^ v.length * (x + c + o) = 4294967296 ^ v.length * (w + 4294967296 * o') := by rw [hb]
   rw [Nat.mul_add, Nat.mul_add, Nat.mul_add] at e
   rw [Nat.mul_add] at he
   omega
  have hsx : lim (s ++ [x]) := lim_append.2 ⟨hsn, by simp [lim_cons, lim_nil]; exact hx⟩
  have hsxl : (s ++ [x]).length = m := by simp [hsl]; omega
  have hlt := nv_lt hsx
  rw [hsxl] at hlt
  refine nx ?_
  have hRx : (o' = if nv W < t * nv v then 1 else 0) → Ψ .lims (L.set (n + v.length) x) = R := fun ho' => by
   rw [← hR, hset x]
   have e1 : s ++ [x] = ln m (nv (s ++ [x])) := by have := ln_eq _ hsx; rwa [hsxl] at this
   have e2 : nv (s ++ [x]) = nv W + (if nv W < t * nv v then 4294967296 ^ m else 0) - t * nv v := by
    rw [ho'] at hfin
    split at hfin <;> rename_i q <;> simp only [q, if_true, if_false] <;> omega
   rw [e1, e2, List.drop_of_length_le (by omega), List.nil_append]
  refine ⟨ci_nonneg _, by simp only [wz]; omega, by simp only [wz, List.length_set]; omega, BrG.split (fun h => ?_) (fun h => ?_)⟩
  ·have : o' = 1 := by
             have : ¬ Ω .ci o' = 0 := by have := h; simp only [wz] at this ⊢; omega
             simp only [wz] at this; omega
   subst this
   have hlt2 : nv W < t * nv v := by omega
   have := hRx (by rw [if_pos hlt2])
   have hB' : B = true := by rw [← hB]; exact decide_eq_true hlt2
   subst hB'
   refine nx ?_
   refine ⟨[], rfl, rfl, ?_⟩
   refine Eq.trans (b := [.row true T.uint32 1 _, .row true T.uint32 1 (Ψ .lims v)]) rfl ?_
   rw [w_nadd, sset_lims, this]
  ·have : o' = 0 := by
             have : Ω .ci o' = 0 := by have := h; simp only [wz] at this ⊢; omega
             simp only [wz] at this; omega
   subst this
   have hlt2 : ¬ nv W < t * nv v := by omega
   have := hRx (by rw [if_neg hlt2])
   have hB' : B = false := by rw [← hB]; exact decide_eq_false hlt2
   subst hB'
   refine nx ?_
   refine ⟨[], rfl, rfl, ?_⟩
   refine Eq.trans (b := [.row true T.uint32 1 _, .row true T.uint32 1 (Ψ .lims v)]) rfl ?_
   rw [w_nadd, sset_lims, this]
end Go.K.S
namespace Go.K.S
open Go Go.K
theorem back_own (A W Z v : List Nat) (hW : lim W) (hv : lim v) (hl : (A ++ W ++ Z).length < 1099511627776) (hWl : W.length = v.length + 1) :
   Good P F.nat_back [.ref 0 1 A.length W.length, .own 1 1] [.row true T.uint32 1 (Ψ .lims (A ++ W ++ Z)), .row true T.uint32 1 (Ψ .lims v)] (.tup [])
    [.row true T.uint32 1 (Ψ .lims (A ++ ln W.length ((nv W + nv v) % 4294967296 ^ W.length) ++ Z)), .row true T.uint32 1 (Ψ .lims v)] := by
 obtain ⟨L0, hL0⟩ : ∃ L, L = A ++ W ++ Z := ⟨_, rfl⟩
 have hLl : L0.length = A.length + W.length + Z.length := by rw [hL0]; simp; omega
 rw [← hL0] at hl ⊢
 obtain ⟨n, hn⟩ : ∃ n, n = A.length := ⟨_, rfl⟩
 obtain ⟨m, hm⟩ : ∃ m, m = W.length := ⟨_, rfl⟩
 rw [← hn, ← hm]
 refine G.nat_back (fun C C2 hC hC2 => ?_) (hb := by simp)
 generalize hR : Ψ .lims (A ++ ln m ((nv W + nv v) % 4294967296 ^ m) ++ Z) = R
 refine nx ?_
 refine LoopG.intro (σ := Nat × List Nat × List Nat × Nat) [0, 1, 4, 7, 8, 9] [0, 1]
  (fun s => [.ref 0 1 n m, .own 1 1, .d (.i .u32 (Ω .ci s.2.2.2)), .own 1 1, .d (.i .i64 (Ω .ci v.length)), .d (.i .i64 (Ω .ci s.1))])
  (fun s => [.row true T.uint32 1 (Ψ .lims s.2.1), .row true T.uint32 1 (Ψ .lims v)])
  (fun s => s.1 ≤ v.length ∧ s.2.1 = A ++ s.2.2.1 ++ (W.drop s.1 ++ Z) ∧ s.2.2.1.length = s.1 ∧ lim s.2.2.1 ∧ s.2.2.2 ≤ 1 ∧
   nv s.2.2.1 + 4294967296 ^ s.1 * s.2.2.2 = nv (W.take s.1) + nv (v.take s.1))
  (fun s => v.length - s.1) (0, L0, [], 0) [0, 1] ⟨Nat.zero_le _, by simp [hL0], rfl, lim_nil, by simp only; omega, by simp⟩ ⟨rfl, rfl, rfl⟩ ?_
 rintro ⟨i, L, s, c⟩ ⟨hi, hL, hsl, hsn, hc, he⟩
 simp only at hi hL hsl hsn hc he
 have hLL : L.length = n + m + Z.length := by rw [hL]; simp [hsl]; omega
 have hiW : i < W.length := by omega
 obtain ⟨w, hw⟩ : ∃ w, W[i]? = some w := ⟨_, List.getElem?_eq_getElem hiW⟩
 have hwl := lim_get hW hw
 have hdrop : W.drop i = w :: W.drop (i + 1) := by
  obtain ⟨q, rfl⟩ := List.getElem?_eq_some_iff.1 hw
  exact List.drop_eq_getElem_cons q
 have hL' : L = (A ++ s) ++ w :: (W.drop (i + 1) ++ Z) := by rw [hL, hdrop]; simp
 have hat : L[n + i]? = some w := by rw [hL']; exact get_mid _ _ _ (by simp [hsl, hn])
 have hset : ∀ x, L.set (n + i) x = A ++ (s ++ [x]) ++ (W.drop (i + 1) ++ Z) := fun x => by
  rw [hL', set_mid _ _ _ _ (by simp [hsl, hn])]; simp
 refine nx ?_
 refine BrG.split (fun h => ?_) (fun h => ?_)
 ·have hi2 : i < v.length := by have := h; simp only [wz] at this; omega
  obtain ⟨u, hu⟩ : ∃ u, v[i]? = some u := ⟨_, List.getElem?_eq_getElem hi2⟩
  have hul := lim_get hv hu
  refine nx ?_
  refine own_lims i u rfl hu ?_ ?_ ?_
  ·exact Nat.le_refl _
  ·exact rfl
  refine nx ?_
  refine ⟨ci_nonneg _, by simp only [wz]; omega, .i .u32 (Ω .ci w), by rw [w_nadd, sget_lims, hat]; rfl, Nat.le_refl _, (by first | exact rfl | exact fun _ => rfl), ?_⟩
  refine nx ?_
  refine ⟨_, hC _ _ _ (add32_good w u c hwl hul hc), ?_⟩
  have hstep := add_step (x := w) (y := u) he
  have hx : (w + u + c) % 4294967296 < 4294967296 := Nat.mod_lt _ (by omega)
  have hb1 : (w + u + c) / 4294967296 ≤ 1 := by omega
  generalize (w + u + c) % 4294967296 = x at *
  generalize (w + u + c) / 4294967296 = o' at *
  refine nx ?_
  refine ⟨ci_nonneg _, by simp only [wz]; omega, by simp only [wz, List.length_set]; omega, (i + 1, L.set (n + i) x, s ++ [x], o'), [0, 1], ⟨hi2, hset x, by simp [hsl], lim_append.2 ⟨hsn, by simp [lim_cons, lim_nil]; exact hx⟩, hb1, ?_⟩, by simp only; omega, rfl, ?_, ?_⟩
  ·simp only
   rw [nv_snoc, hsl, nv_take_succ hu, nv_take_succ hw, Nat.pow_succ]
   exact hstep
  ·refine Eq.trans (b := [.ref 0 1 n m, .own 1 1, .d (.i .u32 (Ω .ci _)), .own 1 1, .d (.i .i64 (Ω .ci v.length)), .d (.i .i64 _)]) rfl ?_
   rw [wrap_succ (by omega)]
  ·refine Eq.trans (b := [.row true T.uint32 1 _, .row true T.uint32 1 (Ψ .lims v)]) rfl ?_
   (try rw [w_nadd])
   rw [sset_lims]
 ·have hi2 : i = v.length := by have := h; simp only [wz] at this; omega
  subst hi2
  refine nx ?_
  refine ⟨ci_nonneg _, by simp only [wz]; omega, .i .u32 (Ω .ci w), by rw [w_nadd, sget_lims, hat]; rfl, Nat.le_refl _, (by first | exact rfl | exact fun _ => rfl), ?_⟩
  have hWt : nv W = nv (W.take v.length) + 4294967296 ^ v.length * w := by
   have := nv_take_succ hw
   rw [← hWl, List.take_length] at this
   exact this
  have hsx : lim (s ++ [(w + c) % 4294967296]) := lim_append.2 ⟨hsn, by simp [lim_cons, lim_nil]; exact Nat.mod_lt _ (by omega)⟩
  have hsxl : (s ++ [(w + c) % 4294967296]).length = m := by simp [hsl]; omega
  have hlt := nv_lt hsx
  rw [hsxl] at hlt
  have hfin : nv (s ++ [(w + c) % 4294967296]) + 4294967296 ^ m * ((w + c) / 4294967296) = nv W + nv v := by
   rw [List.take_length] at he
   rw [nv_snoc, hsl, hWt, hm, hWl, Nat.pow_succ, Nat.mul_assoc, Nat.add_assoc, ← Nat.mul_add, Nat.mod_add_div, Nat.mul_add]
   omega
  have hRx : Ψ .lims (L.set (n + v.length) ((w + c) % 4294967296)) = R := by
   rw [← hR, hset]
   have e1 := ln_eq _ hsx
   rw [hsxl] at e1
   have e2 : nv (s ++ [(w + c) % 4294967296]) = (nv W + nv v) % 4294967296 ^ m := by
    rw [← hfin, Nat.add_mul_mod_self_left, Nat.mod_eq_of_lt hlt]
   rw [e1, e2, List.drop_of_length_le (by omega), List.nil_append]
  refine nx ?_
  rw [ci_add, wrapu32_ci]
  refine ⟨ci_nonneg _, by simp only [wz]; omega, by simp only [wz, List.length_set]; omega, [], rfl, rfl, ?_⟩
  refine Eq.trans (b := [.row true T.uint32 1 _, .row true T.uint32 1 (Ψ .lims v)]) rfl ?_
  rw [w_nadd, sset_lims, hRx]
end Go.K.S
end
section
namespace Go.K
theorem kn_e (B x M : Nat) : B * x * B * M = B * (x * B * M) := by rw [Nat.mul_assoc B x B, Nat.mul_assoc B]
section
variable {R T W2 lo V v1 v2 lo' M g r : Nat}
structure Kn (R T W2 lo V v1 v2 lo' M : Nat) : Prop where
 hR : R = (T * 4294967296 + W2) * M + lo
 hlo : lo < M
 hV : V = (v1 * 4294967296 + v2) * M + lo'
 hlo' : lo' < M
 hW2 : W2 < 4294967296
 hv2 : v2 < 4294967296
 hv1 : 2147483648 ≤ v1
 hv1' : v1 < 4294967296
 hRV : R < 4294967296 * V
theorem Kn.bound (K : Kn R T W2 lo V v1 v2 lo' M) : T < 4294967296 * (v1 + 1) := by
 obtain ⟨hR, hlo, hV, hlo', hW2, hv2, hv1, hv1', hRV⟩ := K
 rcases Nat.lt_or_ge T (4294967296 * (v1 + 1)) with q | q
 ·exact q
 exfalso
 have h0 : 4294967296 * (v1 + 1) * 4294967296 ≤ T * 4294967296 := Nat.mul_le_mul_right _ q
 have h1 := Nat.mul_le_mul_right M (Nat.le_trans h0 (Nat.le_add_right _ W2))
 have h2 := Nat.mul_le_mul_right M (show v1 * 4294967296 + v2 + 1 ≤ (v1 + 1) * 4294967296 by omega)
 rw [kn_e] at h1
 rw [Nat.add_mul _ 1] at h2
 omega
theorem Kn.first (K : Kn R T W2 lo V v1 v2 lo' M) : R / V ≤ T / v1 := by
 obtain ⟨hR, hlo, hV, hlo', hW2, hv2, hv1, hv1', hRV⟩ := K
 rw [Nat.le_div_iff_mul_le (by omega)]
 have h1 := Nat.div_mul_le_self R V
 generalize R / V = q at *
 rcases Nat.lt_or_ge T (q * v1) with c | c
 ·exfalso
  have h2 : q * V = q * v1 * 4294967296 * M + q * (v2 * M + lo') := by
   rw [hV, Nat.add_mul, Nat.add_assoc, Nat.mul_add]; congr 1; ac_rfl
  have h3 := Nat.mul_le_mul_right (4294967296 * M) (show T + 1 ≤ q * v1 by omega)
  rw [Nat.add_mul, ← Nat.mul_assoc T, ← Nat.mul_assoc (q * v1)] at h3
  have h4 : R = T * 4294967296 * M + W2 * M + lo := by rw [hR, Nat.add_mul]
  have h5 := Nat.mul_le_mul_right M (show W2 + 1 ≤ 4294967296 by omega)
  rw [Nat.add_mul] at h5
  omega
 ·exact c
theorem Kn.down (K : Kn R T W2 lo V v1 v2 lo' M) (h : g * v1 + r = T) (hg : r * 4294967296 + W2 < g * v2) : R < g * V := by
 obtain ⟨hR, hlo, hV, hlo', hW2, hv2, hv1, hv1', hRV⟩ := K
 have h2 : g * V = g * v1 * 4294967296 * M + g * v2 * M + g * lo' := by
  rw [hV, Nat.mul_add, Nat.add_mul, Nat.mul_add]; congr 1; congr 1 <;> ac_rfl
 have h3 := Nat.mul_le_mul_right M (show r * 4294967296 + W2 + 1 ≤ g * v2 by omega)
 rw [Nat.add_mul, Nat.add_mul] at h3
 have h4 : R = g * v1 * 4294967296 * M + r * 4294967296 * M + W2 * M + lo := by rw [hR, ← h, Nat.add_mul, Nat.add_mul, Nat.add_mul]
 omega
theorem Kn.big (K : Kn R T W2 lo V v1 v2 lo' M) : 4294967296 * M ≤ V := by
 obtain ⟨hR, hlo, hV, hlo', hW2, hv2, hv1, hv1', hRV⟩ := K
 have := Nat.mul_le_mul_right M (show 4294967296 ≤ v1 * 4294967296 + v2 by omega)
 omega
theorem Kn.last (K : Kn R T W2 lo V v1 v2 lo' M) (h : g * v1 + r = T) (hg : g < 4294967296) (hq : g * v2 ≤ r * 4294967296 + W2) : g * V < R + V := by
 have hb := K.big
 obtain ⟨hR, hlo, hV, hlo', hW2, hv2, hv1, hv1', hRV⟩ := K
 have h2 : g * V = g * v1 * 4294967296 * M + g * v2 * M + g * lo' := by
  rw [hV, Nat.mul_add, Nat.add_mul, Nat.mul_add]; congr 1; congr 1 <;> ac_rfl
 have h3 := Nat.mul_le_mul_right M hq
 rw [Nat.add_mul] at h3
 have h4 : R = g * v1 * 4294967296 * M + r * 4294967296 * M + W2 * M + lo := by rw [hR, ← h, Nat.add_mul, Nat.add_mul, Nat.add_mul]
 have h5 : g * lo' < 4294967296 * M := by
  have := Nat.mul_le_mul (show g + 1 ≤ 4294967296 by omega) (show lo' + 1 ≤ M by omega)
  rw [Nat.add_mul, Nat.mul_add] at this
  omega
 omega
theorem Kn.broke (K : Kn R T W2 lo V v1 v2 lo' M) (h : g * v1 + r = T) (hr : 4294967296 ≤ r) : g < 4294967296 ∧ g * V < R + V := by
 have hT := K.bound
 have hb := K.big
 obtain ⟨hR, hlo, hV, hlo', hW2, hv2, hv1, hv1', hRV⟩ := K
 have hg : g < 4294967296 := by
  rcases Nat.lt_or_ge g 4294967296 with q | q
  ·exact q
  ·have := Nat.mul_le_mul_right v1 q
   rw [Nat.mul_add] at hT
   omega
 refine ⟨hg, ?_⟩
 have h2 : g * V = g * v1 * 4294967296 * M + g * (v2 * M + lo') := by
  rw [hV, Nat.add_mul, Nat.add_assoc, Nat.mul_add]; congr 1; ac_rfl
 have h3 : g * (v2 * M + lo') ≤ 4294967296 * (4294967296 * M) := by
  refine Nat.mul_le_mul (by omega) ?_
  have := Nat.mul_le_mul_right M (show v2 + 1 ≤ 4294967296 by omega)
  rw [Nat.add_mul] at this
  omega
 have h4 : R = g * v1 * 4294967296 * M + r * 4294967296 * M + W2 * M + lo := by rw [hR, ← h, Nat.add_mul, Nat.add_mul, Nat.add_mul]
 have h5 := Nat.mul_le_mul_right (4294967296 * M) hr
 rw [← Nat.mul_assoc r] at h5
 omega
end
end Go.K
end
