/-
  slices.Backward's function value, over texts: it hands places and texts to the loop, from the end.
-/
import Derived.RangeFuncBox
import Derived.RangeFuncLeaves
import Derived.Shelf.Abstract
import Derived.WalkKit
import Derived.OwnWalkIn
import Derived.TacticsInMore
import Derived.LoopNIn
import Derived.LoopIn
import Derived.Test.YtlolgojfeijjhaaGreatDoorQah
import Derived.Test.YtlolgojfeijjhaaGreatDoorProg
namespace Go.K.S
open Go Go.RowKit Go.Shelf Go.Proofs
attribute [local go_sem] Oper.semAt_some
set_option maxRecDepth 100000 in
set_option maxHeartbeats 2000000 in
theorem back_in (l Bs len cap : Nat) (base : Option Addr) (val : Nat → Value) (J : Nat → World → Prop) (W : World) (hl : len ≤ 4611686018427387904)
  (hY : ∀ k W1, k < len → J (len - 1 - k) W1 → YieldAt Fence.wide 0 Tryz.prog l #[.int .i64 (k : Int), val k] W1 fun e W' => e = .returned (.bool true) ∧ J (len - k) W')
  (hJ : ∀ i W1, i ≤ len → J i W1 → W1.cell? ⟨Bs, 0, none⟩ = some (.slice base len cap) ∧ ∀ k, k < len → ∃ a, base = some a ∧ W1.cell? (a.add k) = some (val k)) (h0 : J 0 W) :
  CallsIn Fence.wide 1 Tryz.prog 137 #[.func (.yield l) #[] #[], .pointer (some ⟨Bs, 0, none⟩)] W fun e W' => (∃ v, e = .returned v) ∧ J len W' := by
 refine callsIn_of_wp Tryz.func137 rfl trivial ?_ rfl
 simp only [Tryz.ntmps137, List.size_toArray, List.length_cons, List.length_nil, Nat.reduceAdd, Nat.reduceSub, Array.replicate_succ, Array.replicate_zero, List.push_toArray, List.append_toArray, List.nil_append, List.cons_append]
 have hB0 := (hJ 0 W (Nat.zero_le _) h0).1
 gi_wp2
 gi_loopw [3] (fun i wr => ∃ (r : Nat) (z : Int), r ≤ len ∧ z + 1 = r ∧ i = .int .i64 z ∧ J (len - r) wr) (fun i _ => ((intOf i) + 1).toNat)
 case atStart => exact ⟨len, (len : Int) - 1, Nat.le_refl _, by omega, rfl, by simpa using h0⟩
 case round =>
  obtain ⟨r, z, hr, hz, rfl, hJs⟩ := hrel
  cases r with
  | zero =>
   have hneg : ¬ (0 ≤ z) := by omega
   gi_wp2
   go_end0
   exact ⟨⟨_, rfl⟩, by simpa using hJs⟩
  | succ k =>
   obtain rfl : z = (k : Int) := by omega
   have ek : len - (k + 1) = len - 1 - k := by omega
   obtain ⟨fn, tmps, assign, body, hy, hR⟩ := hY k wr (by omega) (by rw [← ek]; exact hJs)
   obtain ⟨hBr, hcr⟩ := hJ _ wr (Nat.sub_le _ _) hJs
   obtain ⟨ad, hb, hv⟩ := hcr k (by omega)
   subst hb
   gi_wp2
   refine hR.mono ?_
   rintro e W3 ⟨rfl, hJ3⟩
   gi_wp2
   go_roundw
   case rel => exact ⟨k, (k : Int) - 1, by omega, by omega, by simp, hJ3⟩
   case measure => simp [intOf]
end Go.K.S
