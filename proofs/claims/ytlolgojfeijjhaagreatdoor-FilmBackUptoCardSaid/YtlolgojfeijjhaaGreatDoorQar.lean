/-
  Contracts: films that are the same; a film multiplied; the document's Add.
-/
import Derived.Test.YtlolgojfeijjhaaGreatDoorQap
namespace Go.K
open Go
set_option linter.unusedVariables false
theorem sset_ex (A : List RL) (f : Nat → RL → RL) (g : RL → RL) : ∃ X : Nat → List D, X 0 = Ψ .dRs (A.map g) ∧ (∀ i r, A[i]? = some r → Ω .sget (X i) i = some (.agg (dR Ψ (g r))) ∧ Ω .sset (X i) i (.agg (dR Ψ (f i r))) = X (i + 1)) ∧
  (∀ i, Ω .slen (X i) = A.length) ∧ X A.length = Ψ .dRs (A.mapIdx f) := by
 refine ⟨fun i => Ψ .dRs ((A.mapIdx f).take i ++ (A.map g).drop i), by simp, fun i r h => ⟨?_, ?_⟩, fun i => ?_, ?_⟩
 ·have hi := (List.getElem?_eq_some_iff.1 h).1
  rw [sget_dRs, List.getElem?_append_right (by simp; omega), List.getElem?_drop]
  simp only [List.length_take, List.length_mapIdx, show min i A.length = i by omega, Nat.sub_self, Nat.add_zero, List.getElem?_map, h]
  rfl
 ·have hi := (List.getElem?_eq_some_iff.1 h).1
  simp only [sset_dRs]
  refine congrArg (Ψ .dRs) (List.ext_getElem? fun j => ?_)
  rw [List.getElem?_set]
  by_cases q : i = j
  ·subst q
   rw [if_pos rfl, if_pos (by simp; omega), List.getElem?_append_left (by simp; omega), List.getElem?_take, if_pos (by omega), List.getElem?_mapIdx, h]; rfl
  ·rw [if_neg q]
   rcases Nat.lt_or_gt_of_ne q with q | q
   ·rw [List.getElem?_append_right (by simp; omega), List.getElem?_append_right (by simp; omega), List.getElem?_drop, List.getElem?_drop]
    congr 1; simp; omega
   ·rw [List.getElem?_append_left (by simp; omega), List.getElem?_append_left (by simp; omega), List.getElem?_take, List.getElem?_take, if_pos q, if_pos (by omega)]
 ·rw [slen_dRs, List.length_append, List.length_take, List.length_drop, List.length_mapIdx, List.length_map]; omega
 ·simp only []
  rw [List.take_of_length_le (by simp), List.drop_eq_nil_of_le (by simp), List.append_nil]
theorem zer_map (A : List RL) : zer A.length = A.map fun _ => Ψ .cr 0 := by rw [zer]; simp [List.map_const']
end Go.K
namespace Go.K.S
open Go Go.K
set_option maxHeartbeats 8000000
set_option maxRecDepth 20000
set_option linter.unusedVariables false
set_option linter.unusedSimpArgs false
theorem same9_good (l : List RL) {k : Nat} (h : ∀ r, r ∈ l → Rn k r) (hk : k < 1099511627776) (hln : l.length < 9223372036854775808) : Good P F.penumbraref09_Same [.d (.sl (Ψ .dRs l)), .d (.sl (Ψ .dRs l))] [] (.d (.b true)) [] := by
 refine G.penumbraref09_Same fun C C2 hC hC2 => ?_
 have q1 : Ω .ne (Ω .ci l.length) (Ω .ci l.length) = false := ne_false'.2 rfl
 refine rs ?_
 refine LoopG.intro (σ := Nat) [0, 1, 5] [] (fun i => [.d (.sl (Ψ .dRs l)), .d (.sl (Ψ .dRs l)), .d (.i .i64 (Ω .ci i))]) (fun _ => []) (fun i => i ≤ l.length) (fun i => l.length - i) 0 [] (by omega) ⟨rfl, rfl, rfl⟩ ?_
 intro i hi
 rcases Nat.eq_or_lt_of_le hi with hi1 | hi1
 ·have q0 : Ω .lt (Ω .ci i) (Ω .ci l.length) = false := by rw [lt_false]; simp only [wz]; omega
  exact rs trivial
 ·have q0 : Ω .lt (Ω .ci i) (Ω .ci l.length) = true := by rw [lt_true]; simp only [wz]; omega
  obtain ⟨r, hr⟩ : ∃ r, l[i]? = some r := ⟨_, List.getElem?_eq_getElem hi1⟩
  have e1 := hx_dRs hr
  have e2 : Ω .ilt (Ω .ci i) (Ω .ci l.length) := by simp only [wz]; omega
  have rr := h r (List.mem_of_getElem? hr)
  have g := is3_good r r rr rr hk hk
  rw [decide_eq_true rfl] at g
  have ws := wrap_succ (n := i) (by omega)
  refine rs ?_
  rw [ws]
  exact ⟨i + 1, [], by omega, by omega, rfl, rfl, rfl⟩
theorem is20_good (W H n : Int) (A B : List RL) {k : Nat} (hA : ∀ r, r ∈ A → Rn k r) (hB : ∀ r, r ∈ B → Rn k r) (hk : k < 1099511627776) (hla : A.length < 9223372036854775808) (hlb : B.length < 9223372036854775808) :
  Good P F.penumbraref20_Is [.d (dF Ψ W H n A B), .d (dF Ψ W H n A B)] [] (.d (.b true)) [] := by
 refine G.penumbraref20_Is fun C C2 hC hC2 => ?_
 have g1 := same9_good A hA hk hla
 have g2 := same9_good B hB hk hlb
 have e1 : Ω .eq W W = true := eq_true'.2 rfl
 have e2 : Ω .eq H H = true := eq_true'.2 rfl
 have e3 : Ω .eq n n = true := eq_true'.2 rfl
 exact rs trivial
end Go.K.S
