/-
  Parts of the proof, joined by a program of this work: KExtraSums, KFilm5, KFilm6, KLawFilmSums.
-/
import Derived.Test.YtlolgojfeijjhaaGreatDoorNaq
import Derived.Test.YtlolgojfeijjhaaGreatDoorNap
set_option linter.unusedSimpArgs false
set_option linter.unusedVariables false
set_option maxHeartbeats 8000000
set_option maxRecDepth 100000
section
section
namespace Go.K
open Go Go.ChangeShapes
section
variable {H : Type} (B : Bulk H) (enc : TypeId × Value → H) (P : Program) (w : World)
variable {B enc P w}
theorem repD_one {t : TypeId} {x : D} {v : Value} (hx : x.isAgg = false) (hnagg : ∀ u, P.underlying t = some u → isAggT u = false) (hok : ∃ base, Value.okWide P w .any base t v)
  (h : RepC (immW w) w x (v.cells.toList.getD 0 undef)) : RepD (immW w) w x v := by
 obtain ⟨base, hok⟩ := hok
 have hv : v.cells = #[v] := by
  cases v with
  | agg cs =>
   exfalso
   unfold Value.okWide at hok
   cases hu : P.underlying t with
   | none => rw [hu] at hok; simp [Cell.okWide, Cell.ok, hu] at hok
   | some u =>
    have hn := hnagg u hu
    rw [hu] at hok
    cases u <;> simp_all [isAggT, Cell.okWide, Cell.ok]
  | _ => rfl
 rw [hv] at h
 have h' : RepC (immW w) w x v := h
 cases x <;> first | exact h' | (cases hx)
end
end Go.K
end
section
open Go
namespace Go.K.S
namespace T
abbrev L_api_Film : TypeId := 49
end T
end Go.K.S
end
section
open Go
namespace Go.K.S
namespace F
abbrev penumbralaw20_FilmSums : FuncId := 6
abbrev penumbraref20_New : FuncId := 19
abbrev penumbraref20_Is : FuncId := 22
abbrev film_Sum : FuncId := 34
abbrev penumbraref20_Sum : FuncId := 35
abbrev penumbraref09_Same : FuncId := 56
end F
end Go.K.S
end
section
open Go
namespace Go.K.S
namespace B
noncomputable abbrev penumbralaw20_FilmSums : Func := Go.Proofs.Tryz.f6
noncomputable abbrev penumbraref20_New : Func := Go.Proofs.Tryz.f19
noncomputable abbrev penumbraref20_Is : Func := Go.Proofs.Tryz.f22
noncomputable abbrev film_Sum : Func := Go.Proofs.Tryz.f34
noncomputable abbrev penumbraref20_Sum : Func := Go.Proofs.Tryz.f35
noncomputable abbrev penumbraref09_Same : Func := Go.Proofs.Tryz.f56
end B
end Go.K.S
end
section
open Go
namespace Go.K.S
namespace G
theorem penumbralaw20_FilmSums {args : List V} {r : V} (h : ∀ C C2, CC C → CC2 C2 → wpF Ω ⟨tt, C, C2, md, 0, ro, ty, la, ne, bw⟩ B.penumbralaw20_FilmSums args (fun x => x = r)) (ha : args.length ≤ (B.penumbralaw20_FilmSums).ntmps := by exact of_decide_eq_true rfl) : Good P F.penumbralaw20_FilmSums args [] r [] := goodOf Go.Proofs.Tryz.func6 (by kernel_rfl) (by kernel_rfl) md ha h
theorem penumbraref20_New {args : List V} {bs bs' : List Blk} {r : V} (h : ∀ C C2, CC C → CC2 C2 → wpF2 Ω ⟨tt, C, C2, md, bs.length, ro, ty, la, ne, bw⟩ B.penumbraref20_New args bs (fun x b => x = r ∧ b = bs')) (hb : bs.length ≤ 1000 := by decide) (ha : args.length ≤ (B.penumbraref20_New).ntmps := by exact of_decide_eq_true rfl) : Good P F.penumbraref20_New args bs r bs' := goodOf2 Go.Proofs.Tryz.func19 (by kernel_rfl) (by kernel_rfl) md hb ha h
theorem penumbraref20_Is {args : List V} {r : V} (h : ∀ C C2, CC C → CC2 C2 → wpF Ω ⟨tt, C, C2, md, 0, ro, ty, la, ne, bw⟩ B.penumbraref20_Is args (fun x => x = r)) (ha : args.length ≤ (B.penumbraref20_Is).ntmps := by exact of_decide_eq_true rfl) : Good P F.penumbraref20_Is args [] r [] := goodOf Go.Proofs.Tryz.func22 (by kernel_rfl) (by kernel_rfl) md ha h
theorem film_Sum {args : List V} {r : V} (h : ∀ C C2, CC C → CC2 C2 → wpF Ω ⟨tt, C, C2, md, 0, ro, ty, la, ne, bw⟩ B.film_Sum args (fun x => x = r)) (ha : args.length ≤ (B.film_Sum).ntmps := by exact of_decide_eq_true rfl) : Good P F.film_Sum args [] r [] := goodOf Go.Proofs.Tryz.func34 (by kernel_rfl) (by kernel_rfl) md ha h
theorem penumbraref20_Sum {args : List V} {r : V} (h : ∀ C C2, CC C → CC2 C2 → wpF Ω ⟨tt, C, C2, md, 0, ro, ty, la, ne, bw⟩ B.penumbraref20_Sum args (fun x => x = r)) (ha : args.length ≤ (B.penumbraref20_Sum).ntmps := by exact of_decide_eq_true rfl) : Good P F.penumbraref20_Sum args [] r [] := goodOf Go.Proofs.Tryz.func35 (by kernel_rfl) (by kernel_rfl) md ha h
theorem penumbraref09_Same {args : List V} {r : V} (h : ∀ C C2, CC C → CC2 C2 → wpF Ω ⟨tt, C, C2, md, 0, ro, ty, la, ne, bw⟩ B.penumbraref09_Same args (fun x => x = r)) (ha : args.length ≤ (B.penumbraref09_Same).ntmps := by exact of_decide_eq_true rfl) : Good P F.penumbraref09_Same args [] r [] := goodOf Go.Proofs.Tryz.func56 (by kernel_rfl) (by kernel_rfl) md ha h
end G
end Go.K.S
end
section
namespace Go.K.S
open Go Go.K
theorem new200_good (W H n : Int) (hs : szok W H n = false) : Good P F.penumbraref20_New [.d (.i .i64 W), .d (.i .i64 H), .d (.i .i64 n)] [] (.tup [.agg [.d (.i .i64 0), .d (.i .i64 0), .d (.i .i64 0), .nil, .nil], .d (.b false)]) [] := by
 refine G.penumbraref20_New fun C C2 hC hC2 => ?_
 have gs := sizes20_good W H n
 rw [hs] at gs
 refine rs ?_
 exact ⟨[], rfl, rfl, rfl⟩
theorem new201_good (W H n : Int) (m : Nat) (hs : szok W H n = true) (hm : W * H * n = m) : Good P F.penumbraref20_New [.d (.i .i64 W), .d (.i .i64 H), .d (.i .i64 n)] [] (.tup [.agg [.d (.i .i64 W), .d (.i .i64 H), .d (.i .i64 n), .own 0 3, .own 1 3], .d (.b true)])
  [.row true T.api_Rat 3 (Ψ .dRs (zer m)), .row true T.api_Rat 3 (Ψ .dRs (zer m))] := by
 refine G.penumbraref20_New fun C C2 hC hC2 => ?_
 have gs := sizes20_good W H n
 rw [hs] at gs
 obtain ⟨e0, _, _, h1, h2⟩ := szok_mul hs
 rw [hm] at e0
 have go := zero3_good
 obtain ⟨X, hX0, hXs, hXl, hXe⟩ := zer_ex
 rw [← hXe]
 clear hXe
 generalize Ψ .cr 0 = z at *
 refine rs ?_
 refine LoopG.introB (σ := Nat) [.cell 1304 3 900001 T.api_Rat 3, .cell 1304 4 900002 T.api_Rat 3] [0, 1, 2, 6, 8, 9] [1050, 1051, 1052, 1053] (fun i => [.d (.i .i64 W), .d (.i .i64 H), .d (.i .i64 n), .ptr 1050 0, .ptr 1051 0, .d (.i .i64 (Ω .ci i))])
  (fun i => [.var [.d (.i .i64 0), .d (.i .i64 0), .d (.i .i64 0), .nil, .nil], .var [.d (.i .i64 W), .d (.i .i64 H), .d (.i .i64 n), .own 1052 3, .own 1053 3], .row true T.api_Rat 3 (X i), .row true T.api_Rat 3 (X i)])
  (fun i => i ≤ m) (fun i => m - i) 0 [1000, 1304, 900001, 900002] (by omega) ⟨rfl, rfl, by rw [hX0]; rfl⟩ ?_
 intro i hi
 rcases Nat.eq_or_lt_of_le hi with hi1 | hi1
 ·have q0 : Ω .lt (Ω .ci i) (Ω .wrap .i64 (Ω .wrap .i64 (W * H) * n)) = false := by rw [e0, lt_false]; simp only [wz]; omega
  rw [hi1] at q0 ⊢
  refine rs ?_
  exact ⟨[1052, 1053], rfl, rfl, rfl⟩
 ·have q0 : Ω .lt (Ω .ci i) (Ω .wrap .i64 (Ω .wrap .i64 (W * H) * n)) = true := by rw [e0, lt_true]; simp only [wz]; omega
  have ws := wrap_succ (n := i) (by omega)
  have e3 := hXs i
  have e4 := hXl i
  refine rs ?_
  refine ⟨fun u h => by rw [List.mem_singleton.1 h]; rfl, by rw [e4, slen_cons, slen_nil]; simp only [wz]; omega, ?_⟩
  refine rs ?_
  refine ⟨fun u h => by rw [List.mem_singleton.1 h]; rfl, by rw [e4, slen_cons, slen_nil]; simp only [wz]; omega, ?_⟩
  refine rs ?_
  rw [ws]
  have e3' : Ω .scat (X i) [D.agg [D.b z.neg, D.sl (Ψ .lims z.num), D.sl (Ψ .lims z.den)]] = X (i + 1) := e3
  rw [e3']
  exact ⟨i + 1, [1050, 1051, 1704, 1804], by omega, by omega, rfl, rfl, rfl⟩
end Go.K.S
end
end
section
namespace Go.K
open Go
theorem sset_ex (A : List RL) (f : Nat → RL → RL) (g : RL → RL) : ∃ X : Nat → List D, X 0 = Ψ .dRs (A.map g) ∧ (∀ i r, A[i]? = some r → Ω .sget (X i) i = some (.agg (dR Ψ (g r))) ∧ Ω .sset (X i) i (.agg (dR Ψ (f i r))) = X (i + 1)) ∧
  (∀ i, Ω .slen (X i) = A.length) ∧ X A.length = Ψ .dRs (A.mapIdx f) := by
 refine ⟨fun i => Ψ .dRs ((A.mapIdx f).take i ++ (A.map g).drop i), by simp, fun i r h => ⟨?_, ?_⟩, fun i => ?_, ?_⟩
 ·have hi := (List.getElem?_eq_some_iff.1 h).1
  rw [sget_dRs, List.getElem?_append_right (by simp; omega), List.getElem?_drop]
  simp only [List.length_take, List.length_mapIdx, show min i A.length = i by omega, Nat.sub_self, Nat.add_zero, List.getElem?_map, h]
  rfl
 ·have hi := (List.getElem?_eq_some_iff.1 h).1
  simp only [sset_dRs]
  refine congrArg (Ψ .dRs) (List.ext_getElem? fun j => ?_)
  rw [List.getElem?_set]
  by_cases q : i = j
  ·subst q
   rw [if_pos rfl, if_pos (by simp; omega), List.getElem?_append_left (by simp; omega), List.getElem?_take, if_pos (by omega), List.getElem?_mapIdx, h]; rfl
  ·rw [if_neg q]
   rcases Nat.lt_or_gt_of_ne q with q | q
   ·rw [List.getElem?_append_right (by simp; omega), List.getElem?_append_right (by simp; omega), List.getElem?_drop, List.getElem?_drop]
    congr 1; simp; omega
   ·rw [List.getElem?_append_left (by simp; omega), List.getElem?_append_left (by simp; omega), List.getElem?_take, List.getElem?_take, if_pos q, if_pos (by omega)]
 ·rw [slen_dRs, List.length_append, List.length_take, List.length_drop, List.length_mapIdx, List.length_map]; omega
 ·simp only []
  rw [List.take_of_length_le (by simp), List.drop_eq_nil_of_le (by simp), List.append_nil]
end Go.K
namespace Go.K.S
open Go Go.K
theorem same9_good (l : List RL) {k : Nat} (h : ∀ r, r ∈ l → Rn k r) (hk : k < 1099511627776) (hln : l.length < 68719476736) : Good P F.penumbraref09_Same [.d (.sl (Ψ .dRs l)), .d (.sl (Ψ .dRs l))] [] (.d (.b true)) [] := by
 refine G.penumbraref09_Same fun C C2 hC hC2 => ?_
 have q1 : Ω .ne (Ω .ci l.length) (Ω .ci l.length) = false := ne_false'.2 rfl
 refine rs ?_
 refine LoopG.intro (σ := Nat) [0, 1, 5] [] (fun i => [.d (.sl (Ψ .dRs l)), .d (.sl (Ψ .dRs l)), .d (.i .i64 (Ω .ci i))]) (fun _ => []) (fun i => i ≤ l.length) (fun i => l.length - i) 0 [] (by omega) ⟨rfl, rfl, rfl⟩ ?_
 intro i hi
 rcases Nat.eq_or_lt_of_le hi with hi1 | hi1
 ·have q0 : Ω .lt (Ω .ci i) (Ω .ci l.length) = false := by rw [lt_false]; simp only [wz]; omega
  exact rs trivial
 ·have q0 : Ω .lt (Ω .ci i) (Ω .ci l.length) = true := by rw [lt_true]; simp only [wz]; omega
  obtain ⟨r, hr⟩ : ∃ r, l[i]? = some r := ⟨_, List.getElem?_eq_getElem hi1⟩
  have e1 := hx_dRs hr
  have e2 : Ω .ilt (Ω .ci i) (Ω .ci l.length) := by simp only [wz]; omega
  have rr := h r (List.mem_of_getElem? hr)
  have g := is3_good r r rr rr hk hk
  rw [decide_eq_true rfl] at g
  have ws := wrap_succ (n := i) (by omega)
  refine rs ?_
  rw [ws]
  exact ⟨i + 1, [], by omega, by omega, rfl, rfl, rfl⟩
theorem is20_good (W H n : Int) (A B : List RL) {k : Nat} (hA : ∀ r, r ∈ A → Rn k r) (hB : ∀ r, r ∈ B → Rn k r) (hk : k < 1099511627776) (hla : A.length < 68719476736) (hlb : B.length < 68719476736) :
  Good P F.penumbraref20_Is [.d (dF Ψ W H n A B), .d (dF Ψ W H n A B)] [] (.d (.b true)) [] := by
 refine G.penumbraref20_Is fun C C2 hC hC2 => ?_
 have g1 := same9_good A hA hk hla
 have g2 := same9_good B hB hk hlb
 have e1 : Ω .eq W W = true := eq_true'.2 rfl
 have e2 : Ω .eq H H = true := eq_true'.2 rfl
 have e3 : Ω .eq n n = true := eq_true'.2 rfl
 exact rs trivial
end Go.K.S
end
section
namespace Go.K
open Go
def r0 : RL := ⟨false, [], []⟩
def qsum (l : List Rat) : Rat := l.foldr (· + ·) 0
theorem qsum_append (a b : List Rat) : qsum (a ++ b) = qsum a + qsum b := by
 induction a with
 | nil => simp [qsum, Rat.zero_add]
 | cons x a ih =>
  have : qsum (x :: (a ++ b)) = x + qsum (a ++ b) := rfl
  rw [List.cons_append, this, ih]
  show _ = x + qsum a + qsum b
  rw [Rat.add_assoc]
def accS (m : Nat) (l : List (List RL)) : List RL := (List.range m).map fun i => Ψ .cr (qsum (l.map fun x => rv (x.getD i r0)))
theorem accS_len (m : Nat) (l : List (List RL)) : (accS m l).length = m := by simp [accS]
theorem accS_get {m i : Nat} (l : List (List RL)) (h : i < m) : (accS m l)[i]? = some (Ψ .cr (qsum (l.map fun x => rv (x.getD i r0)))) := by
 rw [accS, List.getElem?_map, List.getElem?_range h]; rfl
theorem accS_nil (m : Nat) : accS m [] = zer m := by
 rw [accS, zer]
 refine List.ext_getElem? fun i => ?_
 simp [List.getElem?_replicate, qsum]
 by_cases h : i < m
 ·simp [h]
 ·simp [h]
theorem accS_one {m : Nat} {x : List RL} (h : x.length = m) : accS m [x] = x.map rdR := by
 refine List.ext_getElem? fun i => ?_
 rw [accS, List.getElem?_map, List.getElem?_map]
 by_cases q : i < m
 ·rw [List.getElem?_range q, List.getElem?_eq_getElem (by omega)]
  simp only [Option.map_some, List.map_cons, List.map_nil]
  rw [List.getD_eq_getElem?_getD, List.getElem?_eq_getElem (by omega)]
  show some (Ψ .cr (rv x[i] + 0)) = _
  rw [Rat.add_zero]; rfl
 ·rw [List.getElem?_eq_none (by simp; omega), List.getElem?_eq_none (by omega)]; rfl
theorem accS_swap (m : Nat) (a b : List (List RL)) : accS m (b ++ a) = accS m (a ++ b) := by
 unfold accS
 congr 1; funext i
 rw [List.map_append, List.map_append, qsum_append, qsum_append, Rat.add_comm]
theorem sset2_ex (P P' : List RL) (h : P'.length = P.length) : ∃ X : Nat → List D, X 0 = Ψ .dRs P ∧ (∀ i r r', P[i]? = some r → P'[i]? = some r' → Ω .sget (X i) i = some (.agg (dR Ψ r)) ∧ Ω .sset (X i) i (.agg (dR Ψ r')) = X (i + 1)) ∧
  (∀ i, Ω .slen (X i) = P.length) ∧ X P.length = Ψ .dRs P' := by
 obtain ⟨X, h0, h1, h2, h3⟩ := sset_ex P (fun i _ => P'.getD i r0) id
 refine ⟨X, by rw [h0, List.map_id], fun i r r' hr hr' => ?_, h2, ?_⟩
 ·have := h1 i r hr
  rw [List.getD_eq_getElem?_getD, hr'] at this
  exact this
 ·rw [h3]
  refine congrArg (Ψ .dRs) (List.ext_getElem? fun i => ?_)
  rw [List.getElem?_mapIdx]
  by_cases q : i < P.length
  ·rw [List.getElem?_eq_getElem q, List.getElem?_eq_getElem (by omega)]
   simp [List.getD_eq_getElem?_getD, List.getElem?_eq_getElem (show i < P'.length by omega)]
  ·rw [List.getElem?_eq_none (by omega), List.getElem?_eq_none (by omega)]; rfl
theorem qsum_Qn {k : Nat} : ∀ (l : List Rat), (∀ q, q ∈ l → Qn k q) → Qn (l.length * (k + 1) + 1) (qsum l)
 | [], _ => Qn_zero (by omega)
 | q :: l, h => by
  have h1 := qsum_Qn l fun x hx => h x (List.mem_cons_of_mem _ hx)
  have h2 := Qn_add (h q (List.mem_cons_self ..)) h1
  refine Qn.mono (show Qn _ (qsum (q :: l)) from h2) ?_
  rw [List.length_cons, Nat.succ_mul]; omega
theorem getD_Rn {k : Nat} {l : List RL} (h : ∀ r, r ∈ l → Rn k r) (i : Nat) : Rn k (l.getD i r0) := by
 rw [List.getD_eq_getElem?_getD]
 cases q : l[i]? with
 | none => exact ⟨lim_nil, lim_nil, by simp [r0], by simp [r0]⟩
 | some r => exact h r (List.mem_of_getElem? q)
theorem acc_step {k m j t : Nat} (l : List (List RL)) (x : List RL) (hl : ∀ y, y ∈ l → ∀ r, r ∈ y → Rn k r) (hx : ∀ r, r ∈ x → Rn k r) (hk0 : 0 < k) (hn : l.length ≤ 8) (ht : t < m) (hxm : x.length = m) :
  ∃ (s : Rat) (a : RL), (accS m l)[t]? = some (Ψ .cr s) ∧ x[t]? = some a ∧ Rn k a ∧ Qn (8 * (k + 1) + 1) s ∧ (accS m (l ++ [x]))[t]? = some (Ψ .cr (s + rv a)) := by
 refine ⟨_, _, accS_get l ht, List.getElem?_eq_getElem (by omega), hx _ (List.getElem_mem _), ?_, ?_⟩
 ·refine (qsum_Qn (k := k) _ fun q hq => ?_).mono ?_
  ·obtain ⟨z, hz, rfl⟩ := List.mem_map.1 hq
   exact Qn_rv (getD_Rn (hl z hz) t) hk0
  ·rw [List.length_map]
   have := Nat.mul_le_mul_right (k + 1) hn
   omega
 ·rw [accS_get _ ht, List.map_append, qsum_append]
  simp only [List.map_cons, List.map_nil]
  rw [List.getD_eq_getElem?_getD, List.getElem?_eq_getElem (show t < x.length by omega)]
  show some (Ψ .cr (_ + (rv x[t] + 0))) = _
  rw [Rat.add_zero]
def flD (l : List FL) : List D := l.map fun x => .agg (dFl Ψ x)
theorem flD_get {l : List FL} {i : Nat} {x : FL} (h : l[i]? = some x) : Ω .sget (flD l) i = some (.agg [.i .i64 x.W, .i .i64 x.H, .i .i64 x.n, .sl (Ψ .dRs x.A), .sl (Ψ .dRs x.B)]) := by
 rw [flD, w_sget, List.getElem?_map, h]; rfl
theorem flD_len (l : List FL) : Ω .slen (flD l) = l.length := by rw [flD, w_slen, List.length_map]
def fits (y x : FL) : Bool := fok x.W x.H x.n x.A x.B && (Ω .eq x.W y.W && (Ω .eq x.H y.H && Ω .eq x.n y.n))
def okL : List FL → Bool
 | [] => false
 | y :: r => (y :: r).all (fits y)
theorem fok_len {x : FL} {y : FL} (h : fits y x = true) (hy : fok y.W y.H y.n y.A y.B = true) : x.A.length = y.A.length ∧ x.B.length = y.A.length := by
 simp only [fits, fok, Bool.and_eq_true, eq_true'] at h hy
 obtain ⟨⟨_, a1, a2, _⟩, b1, b2, b3⟩ := h
 obtain ⟨_, c1, c2, _⟩ := hy
 rw [b1, b2, b3] at a1 a2
 simp only [wz] at *
 omega
end Go.K
namespace Go.K.S
open Go Go.K
theorem sum0_good : Good P F.film_Sum [.d (.sl [])] [] (.tup [.d (dF Ψ 0 0 0 [] []), .d (.b false)]) [] := by
 refine G.film_Sum fun C C2 hC hC2 => ?_
 refine rs ?_
 refine LoopG.intro (σ := Nat) [0, 2, 4, 9, 10] [1050, 1051] (fun _ => [.d (.sl []), .ptr 1050 0, .ptr 1051 0, .d (.i .i64 (Ω .ci 0)), .d (.i .i64 0)])
  (fun _ => [.var [.d (.i .i64 0), .d (.i .i64 0), .d (.i .i64 0), .nil, .nil], .var [.d (.i .i64 0), .d (.i .i64 0), .d (.i .i64 0), .nil, .nil]]) (fun _ => True) (fun _ => 0) 0 [1000, 1100] trivial ⟨rfl, rfl, rfl⟩ ?_
 intro i _
 have q0 : Ω .lt 0 (Ω .ci 0) = false := rfl
 refine rs ?_
 rfl
theorem sum1_good (y : FL) (r : List FL) {k : Nat} (hl : ∀ x, x ∈ y :: r → Fln k x) (hk0 : 0 < k) (hk : k < 4000000) (hn : (y :: r).length ≤ 8) :
  Good P F.film_Sum [.d (.sl (flD (y :: r)))] [] (if okL (y :: r) then .tup [.d (dF Ψ y.W y.H y.n (accS y.A.length ((y :: r).map (·.A))) (accS y.A.length ((y :: r).map (·.B)))), .d (.b true)] else .tup [.d (dF Ψ 0 0 0 [] []), .d (.b false)]) [] := by
 refine G.film_Sum fun C C2 hC hC2 => ?_
 obtain ⟨l, hle⟩ : ∃ l, l = y :: r := ⟨_, rfl⟩
 rw [← hle] at hl hn ⊢
 have hget : ∀ i x, l[i]? = some x → Ω .sget (flD l) i = some (.agg [.i .i64 x.W, .i .i64 x.H, .i .i64 x.n, .sl (Ψ .dRs x.A), .sl (Ψ .dRs x.B)]) := fun i x h => flD_get h
 have hln := flD_len l
 have hl0 : l[0]? = some y := by rw [hle]; rfl
 have hlp : 0 < l.length := by rw [hle]; simp
 have hokl : okL l = l.all (fits y) := by rw [hle]; rfl
 obtain ⟨Wf, hW0, hWs⟩ : ∃ f : Nat → Int, f 0 = 0 ∧ ∀ i, f (i + 1) = y.W := ⟨fun | 0 => 0 | _ + 1 => y.W, rfl, fun _ => rfl⟩
 obtain ⟨Hf, hH0, hHs⟩ : ∃ f : Nat → Int, f 0 = 0 ∧ ∀ i, f (i + 1) = y.H := ⟨fun | 0 => 0 | _ + 1 => y.H, rfl, fun _ => rfl⟩
 obtain ⟨nf, hn0, hns⟩ : ∃ f : Nat → Int, f 0 = 0 ∧ ∀ i, f (i + 1) = y.n := ⟨fun | 0 => 0 | _ + 1 => y.n, rfl, fun _ => rfl⟩
 obtain ⟨XA, hA0, hAs⟩ : ∃ f : Nat → List D, f 0 = [] ∧ ∀ i, f (i + 1) = Ψ .dRs (accS y.A.length ((l.take (i + 1)).map (·.A))) := ⟨fun | 0 => [] | i + 1 => Ψ .dRs (accS y.A.length ((l.take (i + 1)).map (·.A))), rfl, fun _ => rfl⟩
 obtain ⟨XB, hB0, hBs⟩ : ∃ f : Nat → List D, f 0 = [] ∧ ∀ i, f (i + 1) = Ψ .dRs (accS y.A.length ((l.take (i + 1)).map (·.B))) := ⟨fun | 0 => [] | i + 1 => Ψ .dRs (accS y.A.length ((l.take (i + 1)).map (·.B))), rfl, fun _ => rfl⟩
 obtain ⟨FD, hFD⟩ : ∃ FD, FD = flD l := ⟨_, rfl⟩
 rw [← hFD] at hget hln ⊢
 obtain ⟨RES, hRES⟩ : ∃ R : V, R = if okL l then V.tup [.d (dF Ψ y.W y.H y.n (accS y.A.length (l.map (·.A))) (accS y.A.length (l.map (·.B)))), .d (.b true)] else V.tup [.d (dF Ψ 0 0 0 [] []), .d (.b false)] := ⟨_, rfl⟩
 rw [← hRES]
 clear hFD
 refine rs ?_
 rw [hln]
 refine LoopG.introB (σ := Nat) [.cell 1100 3 900001 T.api_Rat 3, .cell 1100 4 900002 T.api_Rat 3] [0, 2, 4, 8, 9, 10] [1050, 1051, 1052, 1053] (fun i => [.d (.sl FD), .ptr 1050 0, .ptr 1051 0, .d (.sl FD), .d (.i .i64 (Ω .ci l.length)), .d (.i .i64 (Ω .ci i))])
  (fun i => [.var [.d (.i .i64 0), .d (.i .i64 0), .d (.i .i64 0), .nil, .nil], .var [.d (.i .i64 (Wf i)), .d (.i .i64 (Hf i)), .d (.i .i64 (nf i)), .own 1052 3, .own 1053 3], .row true T.api_Rat 3 (XA i), .row true T.api_Rat 3 (XB i)])
  (fun i => i ≤ l.length ∧ (l.take i).all (fits y) = true) (fun i => l.length - i) 0 [1000, 1100, 900001, 900002] ⟨by omega, by simp⟩ ⟨rfl, rfl, by rw [hW0, hH0, hn0, hA0, hB0]; rfl⟩ ?_
 rintro i ⟨hi, hall⟩
 rcases Nat.eq_or_lt_of_le hi with hi1 | hi1
 ·have q0 : Ω .lt (Ω .ci i) (Ω .ci l.length) = false := by rw [lt_false]; simp only [wz]; omega
  have q1 : Ω .lt 0 (Ω .ci (Ω .slen FD)) = true := by rw [hln, lt_true]; simp only [wz]; omega
  obtain ⟨j, rfl⟩ : ∃ j, i = j + 1 := ⟨i - 1, by omega⟩
  have htk : l.take (j + 1) = l := List.take_of_length_le (by omega)
  have hr : RES = .tup [.d (.agg [.i .i64 y.W, .i .i64 y.H, .i .i64 y.n, .sl (XA (j + 1)), .sl (XB (j + 1))]), .d (.b true)] := by
   rw [hRES, hokl, hAs, hBs, htk]
   rw [htk] at hall
   rw [if_pos hall]; rfl
  simp only [hWs, hHs, hns]
  refine rs ?_
  rw [hr]
 ·have q0 : Ω .lt (Ω .ci i) (Ω .ci l.length) = true := by rw [lt_true]; simp only [wz]; omega
  obtain ⟨x, hx⟩ : ∃ x, l[i]? = some x := ⟨_, List.getElem?_eq_getElem hi1⟩
  have hxl := hl x (List.mem_of_getElem? hx)
  have e1 := hget i x hx
  have e2 : Ω .ilt (Ω .ci i) (Ω .ci (Ω .slen FD)) := by rw [hln]; simp only [wz]; omega
  have ws := wrap_succ (n := i) (by omega)
  have gx := fcheck_good x.W x.H x.n x.A x.B hxl.A.2 hxl.B.2 hk0 (by omega) (by have := hxl.A.1; omega) (by have := hxl.B.1; omega)
  cases hf : fok x.W x.H x.n x.A x.B with
  | false =>
   rw [hf] at gx
   have hr : RES = .tup [.d (.agg [.i .i64 0, .i .i64 0, .i .i64 0, .sl [], .sl []]), .d (.b false)] := by
    rw [hRES, hokl, if_neg]; · rfl
    intro c
    have := List.all_eq_true.1 c x (List.mem_of_getElem? hx)
    rw [fits, hf] at this; cases this
   refine rs ?_
   rw [hr]
  | true =>
   rw [hf] at gx
   cases i with
   | zero =>
    rw [hl0] at hx
    cases hx
    have gc := copied_good y.W y.H y.n y.A y.B hxl.A.2 hxl.B.2 (by omega) (by have := hxl.A.1; omega) (by have := hxl.B.1; omega)
    have hyl := fok_len (x := y) (y := y) (by rw [fits, hf, eq_true'.2 rfl, eq_true'.2 rfl, eq_true'.2 rfl]; rfl) hf
    have ht1 : l.take 1 = [y] := by rw [hle]; rfl
    rw [← accS_one (m := y.A.length) rfl, ← accS_one (m := y.A.length) hyl.2] at gc
    have a1 := hAs 0
    have b1 := hBs 0
    rw [ht1] at a1 b1
    change XA 1 = Ψ .dRs (accS y.A.length [y.A]) at a1
    change XB 1 = Ψ .dRs (accS y.A.length [y.B]) at b1
    rw [← a1, ← b1] at gc
    have w1 := hWs 0
    have w2 := hHs 0
    have w3 := hns 0
    simp only [hW0, hH0, hn0, hA0, hB0, show Ω .ci 0 = (0 : Int) from rfl]
    refine rs ?_
    refine ⟨1, [1050, 1051, 1014408, 1014409], ⟨by omega, by rw [ht1]; simp [fits, hf, eq_true'.2]⟩, by omega, rfl, ?_⟩
    rw [w1, w2, w3]
    exact ⟨rfl, rfl⟩
   | succ j =>
    simp only [hWs, hHs, hns]
    have p0 : Ω .lt 0 (Ω .ci (j + 1)) = true := by rw [lt_true]; simp only [wz]; omega
    have p1 : Ω .eq (Ω .ci (j + 1)) 0 = false := by refine eq_false'.2 ?_; simp only [wz]; omega
    have hbad : fits y x = false → RES = .tup [.d (.agg [.i .i64 0, .i .i64 0, .i .i64 0, .sl [], .sl []]), .d (.b false)] := fun c => by
     rw [hRES, hokl, if_neg]; · rfl
     intro c2
     have := List.all_eq_true.1 c2 x (List.mem_of_getElem? hx)
     rw [c] at this; cases this
    cases c1 : Ω .eq x.W y.W with
    | false =>
     have d1 : Ω .ne x.W y.W = true := by rw [ne_true']; exact eq_false'.1 c1
     have hr := hbad (by rw [fits, c1]; simp)
     refine rs ?_
     rw [hr]
    | true =>
     have d1 : Ω .ne x.W y.W = false := by rw [ne_false']; exact eq_true'.1 c1
     cases c2 : Ω .eq x.H y.H with
     | false =>
      have d2 : Ω .ne x.H y.H = true := by rw [ne_true']; exact eq_false'.1 c2
      have hr := hbad (by rw [fits, c2]; simp)
      refine rs ?_
      rw [hr]
     | true =>
      have d2 : Ω .ne x.H y.H = false := by rw [ne_false']; exact eq_true'.1 c2
      cases c3 : Ω .eq x.n y.n with
      | false =>
       have d3 : Ω .ne x.n y.n = true := by rw [ne_true']; exact eq_false'.1 c3
       have hr := hbad (by rw [fits, c3]; simp)
       refine rs ?_
       rw [hr]
      | true =>
       have d3 : Ω .ne x.n y.n = false := by rw [ne_false']; exact eq_true'.1 c3
       have hfit : fits y x = true := by rw [fits, hf, c1, c2, c3]; rfl
       obtain ⟨hxa, hxb⟩ := fok_len hfit (by
        have := List.all_eq_true.1 hall y (List.mem_of_getElem? (i := 0) (by rw [List.getElem?_take, if_pos (by omega), hl0]))
        simp only [fits, Bool.and_eq_true] at this
        exact this.1)
       have htk : l.take (j + 1 + 1) = l.take (j + 1) ++ [x] := by rw [List.take_add_one, hx]; rfl
       have hA1 := hAs (j + 1)
       have hB1 := hBs (j + 1)
       rw [htk, List.map_append] at hA1 hB1
       change XA (j + 1 + 1) = Ψ .dRs (accS y.A.length (_ ++ [x.A])) at hA1
       change XB (j + 1 + 1) = Ψ .dRs (accS y.A.length (_ ++ [x.B])) at hB1
       have hA2 := hAs j
       have hB2 := hBs j
       have hlA : ∀ z, z ∈ (l.take (j + 1)).map (·.A) → ∀ r, r ∈ z → Rn k r := fun z hz => by
        obtain ⟨w, hw, rfl⟩ := List.mem_map.1 hz
        exact (hl w (List.mem_of_mem_take hw)).A.2
       have hlB : ∀ z, z ∈ (l.take (j + 1)).map (·.B) → ∀ r, r ∈ z → Rn k r := fun z hz => by
        obtain ⟨w, hw, rfl⟩ := List.mem_map.1 hz
        exact (hl w (List.mem_of_mem_take hw)).B.2
       have hcA : ((l.take (j + 1)).map (·.A)).length ≤ 8 := by rw [List.length_map, List.length_take]; omega
       have hcB : ((l.take (j + 1)).map (·.B)).length ≤ 8 := by rw [List.length_map, List.length_take]; omega
       generalize (l.take (j + 1)).map (·.A) = LA at *
       generalize (l.take (j + 1)).map (·.B) = LB at *
       obtain ⟨X, hX0, hXs, hXl, hXe⟩ := sset2_ex (accS y.A.length LA) (accS y.A.length (LA ++ [x.A])) (by rw [accS_len, accS_len])
       obtain ⟨Y, hY0, hYs, hYl, hYe⟩ := sset2_ex (accS y.A.length LB) (accS y.A.length (LB ++ [x.B])) (by rw [accS_len, accS_len])
       rw [← hA2] at hX0
       rw [← hB2] at hY0
       rw [← hA1, accS_len] at hXe
       rw [← hB1, accS_len] at hYe
       simp only [accS_len] at hXl hYl
       obtain ⟨m, hm⟩ : ∃ m, m = y.A.length := ⟨_, rfl⟩
       rw [← hm] at hXs hYs hXl hYl hXe hYe hxa hxb
       have hm9 : m < 68719476736 := by
        have := (hl y (List.mem_of_getElem? hl0)).A.1
        omega
       have w1 := hWs (j + 1)
       have w2 := hHs (j + 1)
       have w3 := hns (j + 1)
       rw [← hX0, ← hY0]
       clear hA1 hB1 hA2 hB2 hX0 hY0
       refine rs ?_
       rw [hXl]
       refine LoopG.intro (σ := Nat) [0, 2, 4, 6, 8, 9, 10, 50, 51] [1050, 1051, 1052, 1053, 1054] (fun t => [.d (.sl FD), .ptr 1050 0, .ptr 1051 0, .ptr 1054 0, .d (.sl FD), .d (.i .i64 (Ω .ci l.length)), .d (.i .i64 (Ω .ci (j + 1))), .d (.i .i64 (Ω .ci m)), .d (.i .i64 (Ω .ci t))])
        (fun t => [.var [.d (.i .i64 0), .d (.i .i64 0), .d (.i .i64 0), .nil, .nil], .var [.d (.i .i64 y.W), .d (.i .i64 y.H), .d (.i .i64 y.n), .own 1052 3, .own 1053 3], .row true T.api_Rat 3 (X t), .row true T.api_Rat 3 (Y t), .var [.d (.i .i64 x.W), .d (.i .i64 x.H), .d (.i .i64 x.n), .d (.sl (Ψ .dRs x.A)), .d (.sl (Ψ .dRs x.B))]])
        (fun t => t ≤ m) (fun t => m - t) 0 [1050, 1051, 1052, 1053, 1403] (by omega) ⟨rfl, rfl, rfl⟩ ?_
       intro t ht
       rcases Nat.eq_or_lt_of_le ht with ht1 | ht1
       ·have q4 : Ω .lt (Ω .ci t) (Ω .ci m) = false := by rw [lt_false]; simp only [wz]; omega
        rw [ht1] at q4 ⊢
        rw [hXe, hYe]
        refine rs ?_
        rw [ws]
        refine ⟨j + 1 + 1, [1050, 1051, 1052, 1053], ⟨by omega, by rw [htk, List.all_append, hall]; simp [hfit]⟩, by omega, rfl, ?_⟩
        rw [w1, w2, w3]
        exact ⟨rfl, rfl⟩
       ·have q4 : Ω .lt (Ω .ci t) (Ω .ci m) = true := by rw [lt_true]; simp only [wz]; omega
        obtain ⟨s1, a1, u1, u2, u3, u4, u5⟩ := acc_step (j := 0) LA x.A hlA hxl.A.2 hk0 hcA ht1 hxa
        obtain ⟨s2, a2, v1, v2, v3, v4, v5⟩ := acc_step (j := 0) LB x.B hlB hxl.B.2 hk0 hcB ht1 hxb
        obtain ⟨f1, f2⟩ := hXs t _ _ u1 u5
        obtain ⟨f3, f4⟩ := hYs t _ _ v1 v5
        have h1 := hx_dRs u2
        have h2 := hx_dRs v2
        have g1 := sum2_good (Ψ .cr s1) a1 (k := 8 * (k + 1) + 1) (Rn_cr.2 u4) (u3.mono (by omega)) (by omega) (by omega)
        have g2 := sum2_good (Ψ .cr s2) a2 (k := 8 * (k + 1) + 1) (Rn_cr.2 v4) (v3.mono (by omega)) (by omega) (by omega)
        rw [rv_cr] at g1 g2
        have l1 := hXl t
        have l2 := hYl t
        have wt := wrap_succ (n := t) (by omega)
        generalize Ψ .cr (s1 + rv a1) = R1 at *
        generalize Ψ .cr (s2 + rv a2) = R2 at *
        generalize Ψ .cr s1 = S1 at *
        generalize Ψ .cr s2 = S2 at *
        have i1 : Ω .ilt (Ω .ci t) (Ω .ci (Ω .slen (X t))) := by rw [l1]; simp only [wz]; omega
        have i2 : Ω .ilt (Ω .ci t) (Ω .ci (Ω .slen (Y t))) := by rw [l2]; simp only [wz]; omega
        have i3 : Ω .ilt (Ω .ci t) (Ω .ci x.A.length) := by simp only [wz]; omega
        have i4 : Ω .ilt (Ω .ci t) (Ω .ci x.B.length) := by simp only [wz]; omega
        have f2' : Ω .sset (X t) t (D.agg [D.b R1.neg, D.sl (Ψ .lims R1.num), D.sl (Ψ .lims R1.den)]) = X (t + 1) := f2
        have f4' : Ω .sset (Y t) t (D.agg [D.b R2.neg, D.sl (Ψ .lims R2.num), D.sl (Ψ .lims R2.den)]) = Y (t + 1) := f4
        refine rs ?_
        rw [f2', f4', wt]
        exact ⟨t + 1, [1050, 1051, 1052, 1053, 1054], by omega, by omega, rfl, rfl, rfl⟩
theorem sum201_good (y : FL) (r : List FL) {k : Nat} (hl : ∀ x, x ∈ y :: r → Fln k x) (hk0 : 0 < k) (hk : k < 4000000) (hn : (y :: r).length ≤ 8) :
  Good P F.penumbraref20_Sum [.d (.sl (flD (y :: r)))] [] (if okL (y :: r) then .tup [.d (dF Ψ y.W y.H y.n (accS y.A.length ((y :: r).map (·.A))) (accS y.A.length ((y :: r).map (·.B)))), .d (.b true)] else .tup [.d (dF Ψ 0 0 0 [] []), .d (.b false)]) [] := by
 refine G.penumbraref20_Sum fun C C2 hC hC2 => ?_
 obtain ⟨l, hle⟩ : ∃ l, l = y :: r := ⟨_, rfl⟩
 rw [← hle] at hl hn ⊢
 have hget : ∀ i x, l[i]? = some x → Ω .sget (flD l) i = some (.agg [.i .i64 x.W, .i .i64 x.H, .i .i64 x.n, .sl (Ψ .dRs x.A), .sl (Ψ .dRs x.B)]) := fun i x h => flD_get h
 have hln := flD_len l
 have hl0 : l[0]? = some y := by rw [hle]; rfl
 have hlp : 0 < l.length := by rw [hle]; simp
 have hokl : okL l = l.all (fits y) := by rw [hle]; rfl
 obtain ⟨XA, hAs⟩ : ∃ f : Nat → List D, ∀ i, f i = Ψ .dRs (accS y.A.length ((l.take i).map (·.A))) := ⟨_, fun _ => rfl⟩
 obtain ⟨XB, hBs⟩ : ∃ f : Nat → List D, ∀ i, f i = Ψ .dRs (accS y.A.length ((l.take i).map (·.B))) := ⟨_, fun _ => rfl⟩
 obtain ⟨FD, hFD⟩ : ∃ FD, FD = flD l := ⟨_, rfl⟩
 rw [← hFD] at hget hln ⊢
 obtain ⟨RES, hRES⟩ : ∃ R : V, R = if okL l then V.tup [.d (dF Ψ y.W y.H y.n (accS y.A.length (l.map (·.A))) (accS y.A.length (l.map (·.B)))), .d (.b true)] else V.tup [.d (dF Ψ 0 0 0 [] []), .d (.b false)] := ⟨_, rfl⟩
 rw [← hRES]
 clear hFD
 have hyl := hl y (List.mem_of_getElem? hl0)
 have e0 := hget 0 y hl0
 have ei0 : Ω .ilt 0 (Ω .ci (Ω .slen FD)) := by rw [hln]; simp only [wz]; omega
 have q9 : Ω .eq (Ω .ci (Ω .slen FD)) 0 = false := by rw [hln]; refine eq_false'.2 ?_; simp only [wz]; omega
 have q8 : Ω .lt 0 (Ω .ci (Ω .slen FD)) = true := by rw [hln, lt_true]; simp only [wz]; omega
 cases hfy : fok y.W y.H y.n y.A y.B with
 | false =>
  have gy := fcheck20_good y.W y.H y.n y.A y.B hyl.A.2 hyl.B.2 hk0 (by omega) (by have := hyl.A.1; omega) (by have := hyl.B.1; omega)
  rw [hfy] at gy
  have hr : RES = .tup [.d (.agg [.i .i64 0, .i .i64 0, .i .i64 0, .sl [], .sl []]), .d (.b false)] := by
   rw [hRES, hokl, if_neg]; · rfl
   intro c
   have := List.all_eq_true.1 c y (List.mem_of_getElem? hl0)
   rw [fits, hfy] at this; cases this
  cases hs : szok y.W y.H y.n with
  | false =>
   have gn := new200_good y.W y.H y.n hs
   refine rs ?_
   refine LoopG.intro (σ := Nat) [0, 2, 4, 6] [1050, 1051] (fun i => [.d (.sl FD), .ptr 1050 0, .ptr 1051 0, .d (.i .i64 0)]) (fun i => [.var [.d (.i .i64 0), .d (.i .i64 0), .d (.i .i64 0), .nil, .nil], .var [.d (.i .i64 0), .d (.i .i64 0), .d (.i .i64 0), .nil, .nil]])
    (fun _ => True) (fun _ => 0) 0 [1000, 1316] trivial ⟨rfl, rfl, rfl⟩ ?_
   intro i _
   refine rs ?_
   rw [hr]
  | true =>
   obtain ⟨_, _, _, m3, m4⟩ := szok_mul hs
   have gn := new201_good y.W y.H y.n (y.W * y.H * y.n).toNat hs (by omega)
   generalize zer (y.W * y.H * y.n).toNat = Z at *
   refine rs ?_
   refine LoopG.intro (σ := Nat) [0, 2, 4, 6] [1050, 1051, 1052, 1053] (fun i => [.d (.sl FD), .ptr 1050 0, .ptr 1051 0, .d (.i .i64 0)]) (fun i => [.var [.d (.i .i64 0), .d (.i .i64 0), .d (.i .i64 0), .nil, .nil], .var [.d (.i .i64 y.W), .d (.i .i64 y.H), .d (.i .i64 y.n), .own 1052 3, .own 1053 3], .row true T.api_Rat 3 (Ψ .dRs Z), .row true T.api_Rat 3 (Ψ .dRs Z)])
    (fun _ => True) (fun _ => 0) 0 [1000, 1316, 1010496, 1010497] trivial ⟨rfl, rfl, rfl⟩ ?_
   intro i _
   refine rs ?_
   rw [hr]
 | true =>
  have hfyy : fits y y = true := by rw [fits, hfy, eq_true'.2 rfl, eq_true'.2 rfl, eq_true'.2 rfl]; rfl
  have hmy : y.W * y.H * y.n = (y.A.length : Int) := by
   have h0' := hfy
   simp only [fok, Bool.and_eq_true, eq_true'] at h0'
   have := h0'.2.1
   simp only [wz] at this; omega
  have gn := new201_good y.W y.H y.n y.A.length (fok_szok hfy) hmy
  have hA0 := hAs 0
  have hB0 := hBs 0
  change XA 0 = Ψ .dRs (accS y.A.length []) at hA0
  change XB 0 = Ψ .dRs (accS y.A.length []) at hB0
  rw [accS_nil] at hA0 hB0
  have gn' : Good P F.penumbraref20_New [.d (.i .i64 y.W), .d (.i .i64 y.H), .d (.i .i64 y.n)] [] (.tup [.agg [.d (.i .i64 y.W), .d (.i .i64 y.H), .d (.i .i64 y.n), .own 0 3, .own 1 3], .d (.b true)]) [.row true T.api_Rat 3 (XA 0), .row true T.api_Rat 3 (XB 0)] := by rw [hA0, hB0]; exact gn
  clear gn hA0 hB0
  refine rs ?_
  refine LoopG.intro (σ := Nat) [0, 2, 4, 6] [1050, 1051, 1052, 1053] (fun i => [.d (.sl FD), .ptr 1050 0, .ptr 1051 0, .d (.i .i64 (Ω .ci i))]) (fun i => [.var [.d (.i .i64 0), .d (.i .i64 0), .d (.i .i64 0), .nil, .nil], .var [.d (.i .i64 y.W), .d (.i .i64 y.H), .d (.i .i64 y.n), .own 1052 3, .own 1053 3], .row true T.api_Rat 3 (XA i), .row true T.api_Rat 3 (XB i)])
   (fun i => i ≤ l.length ∧ (l.take i).all (fits y) = true) (fun i => l.length - i) 0 [1000, 1316, 1010496, 1010497] ⟨by omega, by simp⟩ ⟨rfl, rfl, rfl⟩ ?_
  rintro i ⟨hi, hall⟩
  rcases Nat.eq_or_lt_of_le hi with hi1 | hi1
  ·have q0 : Ω .lt (Ω .ci i) (Ω .ci (Ω .slen FD)) = false := by rw [hln, lt_false]; simp only [wz]; omega
   have htk : l.take i = l := List.take_of_length_le (by omega)
   have hr : RES = .tup [.d (.agg [.i .i64 y.W, .i .i64 y.H, .i .i64 y.n, .sl (XA i), .sl (XB i)]), .d (.b true)] := by
    rw [hRES, hokl, hAs, hBs, htk]
    rw [htk] at hall
    rw [if_pos hall]; rfl
   refine rs ?_
   rw [hr]
  ·have q0 : Ω .lt (Ω .ci i) (Ω .ci (Ω .slen FD)) = true := by rw [hln, lt_true]; simp only [wz]; omega
   obtain ⟨x, hx⟩ : ∃ x, l[i]? = some x := ⟨_, List.getElem?_eq_getElem hi1⟩
   have hxl := hl x (List.mem_of_getElem? hx)
   have e1 := hget i x hx
   have e2 : Ω .ilt (Ω .ci i) (Ω .ci (Ω .slen FD)) := by rw [hln]; simp only [wz]; omega
   have ws := wrap_succ (n := i) (by omega)
   have gx := fcheck20_good x.W x.H x.n x.A x.B hxl.A.2 hxl.B.2 hk0 (by omega) (by have := hxl.A.1; omega) (by have := hxl.B.1; omega)
   have hbad : fits y x = false → RES = .tup [.d (.agg [.i .i64 0, .i .i64 0, .i .i64 0, .sl [], .sl []]), .d (.b false)] := fun c => by
    rw [hRES, hokl, if_neg]; · rfl
    intro c2
    have := List.all_eq_true.1 c2 x (List.mem_of_getElem? hx)
    rw [c] at this; cases this
   cases hf : fok x.W x.H x.n x.A x.B with
   | false =>
    rw [hf] at gx
    have hr := hbad (by rw [fits, hf]; rfl)
    refine rs ?_
    rw [hr]
   | true =>
    rw [hf] at gx
    cases c1 : Ω .eq x.W y.W with
    | false =>
     have d1 : Ω .ne x.W y.W = true := by rw [ne_true']; exact eq_false'.1 c1
     have hr := hbad (by rw [fits, c1]; simp)
     refine rs ?_
     rw [hr]
    | true =>
     have d1 : Ω .ne x.W y.W = false := by rw [ne_false']; exact eq_true'.1 c1
     cases c2 : Ω .eq x.H y.H with
     | false =>
      have d2 : Ω .ne x.H y.H = true := by rw [ne_true']; exact eq_false'.1 c2
      have hr := hbad (by rw [fits, c2]; simp)
      refine rs ?_
      rw [hr]
     | true =>
      have d2 : Ω .ne x.H y.H = false := by rw [ne_false']; exact eq_true'.1 c2
      cases c3 : Ω .eq x.n y.n with
      | false =>
       have d3 : Ω .ne x.n y.n = true := by rw [ne_true']; exact eq_false'.1 c3
       have hr := hbad (by rw [fits, c3]; simp)
       refine rs ?_
       rw [hr]
      | true =>
       have d3 : Ω .ne x.n y.n = false := by rw [ne_false']; exact eq_true'.1 c3
       have hfit : fits y x = true := by rw [fits, hf, c1, c2, c3]; rfl
       obtain ⟨hxa, hxb⟩ := fok_len hfit hfy
       have htk : l.take (i + 1) = l.take i ++ [x] := by rw [List.take_add_one, hx]; rfl
       have hA1 := hAs (i + 1)
       have hB1 := hBs (i + 1)
       rw [htk, List.map_append] at hA1 hB1
       change XA (i + 1) = Ψ .dRs (accS y.A.length (_ ++ [x.A])) at hA1
       change XB (i + 1) = Ψ .dRs (accS y.A.length (_ ++ [x.B])) at hB1
       have hA2 := hAs i
       have hB2 := hBs i
       have hlA : ∀ z, z ∈ (l.take i).map (·.A) → ∀ r, r ∈ z → Rn k r := fun z hz => by
        obtain ⟨w, hw, rfl⟩ := List.mem_map.1 hz
        exact (hl w (List.mem_of_mem_take hw)).A.2
       have hlB : ∀ z, z ∈ (l.take i).map (·.B) → ∀ r, r ∈ z → Rn k r := fun z hz => by
        obtain ⟨w, hw, rfl⟩ := List.mem_map.1 hz
        exact (hl w (List.mem_of_mem_take hw)).B.2
       have hcA : ((l.take i).map (·.A)).length ≤ 8 := by rw [List.length_map, List.length_take]; omega
       have hcB : ((l.take i).map (·.B)).length ≤ 8 := by rw [List.length_map, List.length_take]; omega
       generalize (l.take i).map (·.A) = LA at *
       generalize (l.take i).map (·.B) = LB at *
       obtain ⟨X, hX0, hXs, hXl, hXe⟩ := sset2_ex (accS y.A.length LA) (accS y.A.length (LA ++ [x.A])) (by rw [accS_len, accS_len])
       obtain ⟨Y, hY0, hYs, hYl, hYe⟩ := sset2_ex (accS y.A.length LB) (accS y.A.length (LB ++ [x.B])) (by rw [accS_len, accS_len])
       rw [← hA2] at hX0
       rw [← hB2] at hY0
       rw [← hA1, accS_len] at hXe
       rw [← hB1, accS_len] at hYe
       simp only [accS_len] at hXl hYl
       obtain ⟨m, hm⟩ : ∃ m, m = y.A.length := ⟨_, rfl⟩
       rw [← hm] at hXs hYs hXl hYl hXe hYe hxa hxb
       have hm9 : m < 68719476736 := by
        have := hyl.A.1
        omega
       rw [← hX0, ← hY0]
       clear hA1 hB1 hA2 hB2 hX0 hY0
       refine rs ?_
       refine LoopG.intro (σ := Nat) [0, 2, 4, 6, 7] [1050, 1051, 1052, 1053] (fun t => [.d (.sl FD), .ptr 1050 0, .ptr 1051 0, .d (.i .i64 (Ω .ci i)), .d (.i .i64 (Ω .ci t))])
        (fun t => [.var [.d (.i .i64 0), .d (.i .i64 0), .d (.i .i64 0), .nil, .nil], .var [.d (.i .i64 y.W), .d (.i .i64 y.H), .d (.i .i64 y.n), .own 1052 3, .own 1053 3], .row true T.api_Rat 3 (X t), .row true T.api_Rat 3 (Y t)])
        (fun t => t ≤ m) (fun t => m - t) 0 [1050, 1051, 1052, 1053] (by omega) ⟨rfl, rfl, rfl⟩ ?_
       intro t ht
       have l1 := hXl t
       have l2 := hYl t
       rcases Nat.eq_or_lt_of_le ht with ht1 | ht1
       ·have q4 : Ω .lt (Ω .ci t) (Ω .ci (Ω .slen (X t))) = false := by rw [l1, lt_false]; simp only [wz]; omega
        rw [ht1] at q4 ⊢
        rw [hXe] at q4 ⊢
        rw [hYe]
        refine rs ?_
        rw [ws]
        exact ⟨i + 1, [1050, 1051, 1052, 1053], ⟨by omega, by rw [htk, List.all_append, hall]; simp [hfit]⟩, by omega, rfl, rfl, rfl⟩
       ·have q4 : Ω .lt (Ω .ci t) (Ω .ci (Ω .slen (X t))) = true := by rw [l1, lt_true]; simp only [wz]; omega
        obtain ⟨s1, a1, u1, u2, u3, u4, u5⟩ := acc_step (j := 0) LA x.A hlA hxl.A.2 hk0 hcA ht1 hxa
        obtain ⟨s2, a2, v1, v2, v3, v4, v5⟩ := acc_step (j := 0) LB x.B hlB hxl.B.2 hk0 hcB ht1 hxb
        obtain ⟨f1, f2⟩ := hXs t _ _ u1 u5
        obtain ⟨f3, f4⟩ := hYs t _ _ v1 v5
        have h1 := hx_dRs u2
        have h2 := hx_dRs v2
        have g1 := add3_good (Ψ .cr s1) a1 (Rn_cr.2 u4) u3 (by omega) (by omega)
        have g2 := add3_good (Ψ .cr s2) a2 (Rn_cr.2 v4) v3 (by omega) (by omega)
        rw [rv_cr] at g1 g2
        have wt := wrap_succ (n := t) (by omega)
        generalize Ψ .cr (s1 + rv a1) = R1 at *
        generalize Ψ .cr (s2 + rv a2) = R2 at *
        generalize Ψ .cr s1 = S1 at *
        generalize Ψ .cr s2 = S2 at *
        have i1 : Ω .ilt (Ω .ci t) (Ω .ci (Ω .slen (X t))) := by rw [l1]; simp only [wz]; omega
        have i2 : Ω .ilt (Ω .ci t) (Ω .ci (Ω .slen (Y t))) := by rw [l2]; simp only [wz]; omega
        have i3 : Ω .ilt (Ω .ci t) (Ω .ci x.A.length) := by simp only [wz]; omega
        have i4 : Ω .ilt (Ω .ci t) (Ω .ci x.B.length) := by simp only [wz]; omega
        have f2' : Ω .sset (X t) t (D.agg [D.b R1.neg, D.sl (Ψ .lims R1.num), D.sl (Ψ .lims R1.den)]) = X (t + 1) := f2
        have f4' : Ω .sset (Y t) t (D.agg [D.b R2.neg, D.sl (Ψ .lims R2.num), D.sl (Ψ .lims R2.den)]) = Y (t + 1) := f4
        refine rs ?_
        rw [f2', f4', wt]
        exact ⟨t + 1, [1050, 1051, 1052, 1053], by omega, by omega, rfl, rfl, rfl⟩
theorem sum200_good : Good P F.penumbraref20_Sum [.d (.sl [])] [] (.tup [.d (dF Ψ 0 0 0 [] []), .d (.b false)]) [] := by
 refine G.penumbraref20_Sum fun C C2 hC hC2 => ?_
 have q0 : Ω .eq (Ω .ci 0) 0 = true := rfl
 refine rs ?_
 rfl
end Go.K.S
end
section
namespace Go.K
open Go
def turn (l : List FL) (r : Nat) : List FL := l.drop r ++ l.take r
theorem turn_get {l : List FL} {r i : Nat} (hr : r < l.length) (hi : i < l.length) : (turn l r)[i]? = l[(i + r) % l.length]? := by
 unfold turn
 by_cases h : i + r < l.length
 ·rw [List.getElem?_append_left (by rw [List.length_drop]; omega), List.getElem?_drop, Nat.mod_eq_of_lt h, Nat.add_comm]
 ·rw [List.getElem?_append_right (by rw [List.length_drop]; omega), List.length_drop, List.getElem?_take, if_pos (by omega)]
  congr 1
  rw [Nat.mod_eq_sub_mod (by omega), Nat.mod_eq_of_lt (by omega)]; omega
theorem turn_len (l : List FL) (r : Nat) : (turn l r).length = l.length := by unfold turn; rw [List.length_append, List.length_drop, List.length_take]; omega
theorem fits_trans {x y z : FL} (h : fits y x = true) (h2 : fits y z = true) : fits x z = true := by
 simp only [fits, Bool.and_eq_true, eq_true'] at *
 exact ⟨h2.1, by rw [h2.2.1, h.2.1], by rw [h2.2.2.1, h.2.2.1], by rw [h2.2.2.2, h.2.2.2]⟩
theorem ok_any {y z : FL} {l l' : List FL} (hz : z ∈ l) (hsub : ∀ x, x ∈ l' → x ∈ l) (h : l.all (fits y) = true) : l'.all (fits z) = true := by
 rw [List.all_eq_true] at *
 exact fun x hx => fits_trans (h z hz) (h x (hsub x hx))
theorem mem_turn {l : List FL} {r : Nat} {x : FL} : x ∈ turn l r ↔ x ∈ l := by
 unfold turn
 rw [List.mem_append]
 constructor
 ·rintro (h | h)
  ·exact List.mem_of_mem_drop h
  ·exact List.mem_of_mem_take h
 ·intro h
  rw [← List.take_append_drop r l, List.mem_append] at h
  exact h.symm
def sumV (l : List FL) : V := match l with
 | [] => .tup [.d (dF Ψ 0 0 0 [] []), .d (.b false)]
 | y :: r => if okL (y :: r) then .tup [.d (dF Ψ y.W y.H y.n (accS y.A.length ((y :: r).map (·.A))) (accS y.A.length ((y :: r).map (·.B)))), .d (.b true)] else .tup [.d (dF Ψ 0 0 0 [] []), .d (.b false)]
theorem sumV_turn (l : List FL) (r : Nat) : sumV (turn l r) = sumV l := by
 cases l with
 | nil => simp [turn]
 | cons y t =>
  cases h : turn (y :: t) r with
  | nil => have := turn_len (y :: t) r; rw [h] at this; simp at this
  | cons z u =>
   have hz : z ∈ y :: t := mem_turn.1 (by rw [h]; exact List.mem_cons_self ..)
   have hy : y ∈ z :: u := by rw [← h]; exact mem_turn.2 (List.mem_cons_self ..)
   have hsub : ∀ x, x ∈ z :: u ↔ x ∈ y :: t := fun x => by rw [← h]; exact mem_turn
   simp only [sumV]
   by_cases q : (y :: t).all (fits y) = true
   ·have q2 : (z :: u).all (fits z) = true := ok_any hz (fun x hx => (hsub x).1 hx) q
    rw [if_pos (show okL (y :: t) = true from q), if_pos (show okL (z :: u) = true from q2)]
    have hfz := List.all_eq_true.1 q z hz
    have hfy := List.all_eq_true.1 q y (List.mem_cons_self ..)
    have hyf : fok y.W y.H y.n y.A y.B = true := by simp only [fits, Bool.and_eq_true] at hfy; exact hfy.1
    have hlen := (fok_len hfz hyf).1
    have e : ∀ (f : FL → List RL), accS y.A.length ((z :: u).map f) = accS y.A.length ((y :: t).map f) := fun f => by
     rw [← h, turn, List.map_append, accS_swap, ← List.map_append, List.take_append_drop]
    simp only [fits, Bool.and_eq_true, eq_true'] at hfz
    rw [hlen, e, e, hfz.2.1, hfz.2.2.1, hfz.2.2.2]
   ·have q2 : ¬ (z :: u).all (fits z) = true := fun c => q (ok_any hy (fun x hx => (hsub x).2 hx) c)
    rw [if_neg (show ¬ okL (y :: t) = true from q), if_neg (show ¬ okL (z :: u) = true from q2)]
end Go.K
namespace Go.K.S
open Go Go.K
section
variable {H : Type} (B : Bulk H) (enc : TypeId × Value → H) (w : World)
theorem opens_films : Opens B enc P w T.L_api_Film 1 (fun l : List FL => [.sl (flD l)]) (fun b l => l.length ≤ b ∧ ∀ v, v ∈ l → Fln b v) :=
 opens_map (opens_slice (t := T.L_api_Film) true (und_of rfl rfl) (by kernel_rfl) (opens_film B enc w) (by omega) (fun _ => rfl))
  (fun l => l) _ _ (fun l => rfl) (fun _ => rfl) (fun _ _ _ hb h => ⟨Nat.le_trans h.1 hb, fun v hv => (h.2 v hv).mono hb⟩) (fun b l h => h)
end
theorem sumF_good (l : List FL) {k : Nat} (hl : ∀ x, x ∈ l → Fln k x) (hk0 : 0 < k) (hk : k < 4000000) (hn : l.length ≤ 8) : Good P F.film_Sum [.d (.sl (flD l))] [] (sumV l) [] := by
 cases l with
 | nil => exact sum0_good
 | cons y r => exact sum1_good y r hl hk0 hk hn
theorem sumR_good (l : List FL) {k : Nat} (hl : ∀ x, x ∈ l → Fln k x) (hk0 : 0 < k) (hk : k < 4000000) (hn : l.length ≤ 8) : Good P F.penumbraref20_Sum [.d (.sl (flD l))] [] (sumV l) [] := by
 cases l with
 | nil => exact sum200_good
 | cons y r => exact sum201_good y r hl hk0 hk hn
theorem accS_Rn {k m : Nat} (l : List (List RL)) (hl : ∀ y, y ∈ l → ∀ r, r ∈ y → Rn k r) (hk0 : 0 < k) (hn : l.length ≤ 8) : ∀ r, r ∈ accS m l → Rn (8 * (k + 1) + 1) r := fun r hr => by
 unfold accS at hr
 obtain ⟨i, _, rfl⟩ := List.mem_map.1 hr
 refine Rn_cr.2 ((qsum_Qn (k := k) _ fun q hq => ?_).mono ?_)
 ·obtain ⟨z, hz, rfl⟩ := List.mem_map.1 hq
  exact Qn_rv (getD_Rn (hl z hz) i) hk0
 ·rw [List.length_map]
  have := Nat.mul_le_mul_right (k + 1) hn
  omega
theorem sumV_is (l : List FL) {k : Nat} (hl : ∀ x, x ∈ l → Fln k x) (hk0 : 0 < k) (hk : k < 4000000) (hn : l.length ≤ 8) : ∃ (W' H' n' : Int) (A' B' : List RL) (t : Bool), sumV l = .tup [.d (dF Ψ W' H' n' A' B'), .d (.b t)] ∧ Good P F.penumbraref20_Is [.d (dF Ψ W' H' n' A' B'), .d (dF Ψ W' H' n' A' B')] [] (.d (.b true)) [] := by
 have hz : Good P F.penumbraref20_Is [.d (dF Ψ 0 0 0 [] []), .d (dF Ψ 0 0 0 [] [])] [] (.d (.b true)) [] := is20_good 0 0 0 [] [] (k := 1) (fun r h => by cases h) (fun r h => by cases h) (by omega) (by simp) (by simp)
 cases l with
 | nil => exact ⟨0, 0, 0, [], [], false, rfl, hz⟩
 | cons y t =>
  by_cases q : okL (y :: t) = true
  ·have hA := (hl y (List.mem_cons_self ..)).A.1
   refine ⟨y.W, y.H, y.n, _, _, true, by simp only [sumV]; rw [if_pos q], is20_good y.W y.H y.n _ _ (k := 8 * (k + 1) + 1) (accS_Rn _ (fun z hz => ?_) hk0 (by rw [List.length_map]; exact hn)) (accS_Rn _ (fun z hz => ?_) hk0 (by rw [List.length_map]; exact hn)) (by omega) (by rw [accS_len]; omega) (by rw [accS_len]; omega)⟩
   ·obtain ⟨w, hw, rfl⟩ := List.mem_map.1 hz
    exact (hl w hw).A.2
   ·obtain ⟨w, hw, rfl⟩ := List.mem_map.1 hz
    exact (hl w hw).B.2
  ·exact ⟨0, 0, 0, [], [], false, by simp only [sumV]; rw [if_neg q], hz⟩
theorem idx_eq {i n : Nat} {b : Int} (hi : i < n) (hn : n ≤ 8) : ∃ r : Nat, r < n ∧ ∀ i : Nat, i < n → Ω .tmod (Ω .wrap .i64 (Ω .wrap .i64 (Ω .ci i + Ω .tmod b (Ω .ci n)) + Ω .ci n)) (Ω .ci n) = Ω .ci ((i + r) % n) := by
 have h1 : b.tmod n < n := Int.tmod_lt_of_pos b (by omega)
 have h2 : -(n : Int) < b.tmod n := by
  have := Int.lt_tmod_of_pos b (show (0 : Int) < n by omega)
  omega
 refine ⟨(b.tmod n + n).toNat % n, Nat.mod_lt _ (by omega), fun i hi => ?_⟩
 simp only [w_tmod, w_ci]
 generalize b.tmod n = c at *
 rw [wrap64 (n := (i : Int) + c) (by omega) (by omega), wrap64 (by omega) (by omega), Int.tmod_eq_emod_of_nonneg (by omega)]
 have e : (i : Int) + c + n = ((i + (c + n).toNat : Nat) : Int) := by omega
 rw [e, ← Int.natCast_emod]
 congr 1
 rw [Nat.add_mod, Nat.add_mod i ((c + ↑n).toNat % n), Nat.mod_mod]
theorem filmSums_num (l : List FL) (b : Int) {k : Nat} (hl : ∀ x, x ∈ l → Fln k x) (hk0 : 0 < k) (hk : k < 4000000) (hll : l.length < 68719476736) :
  Good P F.penumbralaw20_FilmSums [.d (.sl (flD l)), .d (.i .i64 b)] [] (.d (.b true)) [] := by
 refine G.penumbralaw20_FilmSums fun C C2 hC hC2 => ?_
 have gf := fixed20_good
 have hln := flD_len l
 by_cases h8 : 8 < l.length
 ·have q0 : Ω .lt 8 (Ω .ci (Ω .slen (flD l))) = true := by rw [hln, lt_true]; simp only [wz]; omega
  generalize flD l = FD at *
  exact rs trivial
 have q0 : Ω .lt 8 (Ω .ci (Ω .slen (flD l))) = false := by rw [hln, lt_false]; simp only [wz]; omega
 obtain ⟨W', H', n', A', B', t, hv, gi⟩ := sumV_is l hl hk0 hk (by omega)
 have g1 := sumF_good l hl hk0 hk (by omega)
 have g2 := sumR_good l hl hk0 hk (by omega)
 rw [hv] at g1 g2
 obtain ⟨rr, hrr, hidx⟩ : ∃ r : Nat, (0 < l.length → r < l.length) ∧ ∀ i : Nat, i < l.length → Ω .tmod (Ω .wrap .i64 (Ω .wrap .i64 (Ω .ci i + Ω .tmod b (Ω .ci l.length)) + Ω .ci l.length)) (Ω .ci l.length) = Ω .ci ((i + r) % l.length) := by
  by_cases h0 : 0 < l.length
  ·obtain ⟨r, h1, h2⟩ := idx_eq (b := b) h0 (by omega)
   exact ⟨r, fun _ => h1, h2⟩
  ·exact ⟨0, fun h => absurd h h0, fun i hi => by omega⟩
 have g3 := sumF_good (turn l rr) (fun x hx => hl x (mem_turn.1 hx)) hk0 hk (by rw [turn_len]; omega)
 rw [sumV_turn, hv] at g3
 obtain ⟨X, hX0, hXs, hXl, hXe⟩ : ∃ X : Nat → List D, X 0 = [] ∧ (∀ i x, i < l.length → l[(i + rr) % l.length]? = some x → Ω .scat (X i) [.agg [.i .i64 x.W, .i .i64 x.H, .i .i64 x.n, .sl (Ψ .dRs x.A), .sl (Ψ .dRs x.B)]] = X (i + 1)) ∧ (∀ i, i ≤ l.length → Ω .slen (X i) = i) ∧ X l.length = flD (turn l rr) := by
  refine ⟨fun i => flD ((turn l rr).take i), rfl, fun i x hi hx => ?_, fun i hi => ?_, ?_⟩
  ·rw [← turn_get (hrr (by omega)) hi] at hx
   simp only []
   rw [List.take_add_one, hx, flD, flD, List.map_append, w_scat]; rfl
  ·rw [flD_len, List.length_take, turn_len]; omega
  ·simp only []
   rw [List.take_of_length_le (by rw [turn_len]; omega)]
 rw [← hXe] at g3
 have hget : ∀ i x, l[i]? = some x → Ω .sget (flD l) i = some (.agg [.i .i64 x.W, .i .i64 x.H, .i .i64 x.n, .sl (Ψ .dRs x.A), .sl (Ψ .dRs x.B)]) := fun i x h => flD_get h
 generalize flD l = FD at *
 refine rs ?_
 rw [hln]
 refine LoopG.intro (σ := Nat) [0, 1, 5, 6, 7] [1050] (fun i => [.d (.sl FD), .d (.i .i64 b), .d (.i .i64 (Ω .ci l.length)), .own 1050 5, .d (.i .i64 (Ω .ci i))]) (fun i => [.row true T.api_Film 5 (X i)]) (fun i => i ≤ l.length) (fun i => l.length - i) 0 [1400] (by omega) ⟨rfl, rfl, by rw [hX0]; rfl⟩ ?_
 intro i hi
 rcases Nat.eq_or_lt_of_le hi with hi1 | hi1
 ·have q1 : Ω .lt (Ω .ci i) (Ω .ci l.length) = false := by rw [lt_false]; simp only [wz]; omega
  rw [hi1] at q1 ⊢
  cases t
  ·exact rs trivial
  ·exact rs trivial
 ·have q1 : Ω .lt (Ω .ci i) (Ω .ci l.length) = true := by rw [lt_true]; simp only [wz]; omega
  have hm : (i + rr) % l.length < l.length := Nat.mod_lt _ (by omega)
  obtain ⟨x, hx⟩ : ∃ x, l[(i + rr) % l.length]? = some x := ⟨_, List.getElem?_eq_getElem hm⟩
  have e1 := hget _ x hx
  have e2 := hXs i x hi1 hx
  have ei : Ω .ilt (Ω .ci ((i + rr) % l.length)) (Ω .ci (Ω .slen FD)) := by rw [hln]; simp only [wz]; omega
  have ws := wrap_succ (n := i) (by omega)
  have wi := hidx i hi1
  have l1 := hXl i (by omega)
  generalize (i + rr) % l.length = ix at *
  refine rs ?_
  rw [wi, tn_ci]
  refine ⟨ci_nonneg _, _, e1, rfl, ?_⟩
  refine rs ?_
  rw [e2, ws]
  exact ⟨i + 1, [1814], by omega, by omega, rfl, rfl, rfl⟩
theorem filmSums_good (l : List FL) (b : Int) (hl : l.length ≤ 1048576 ∧ ∀ x, x ∈ l → Fln 1048576 x) (hb : i64 b) : Good P F.penumbralaw20_FilmSums [.d (.sl (flD l)), .d (.i .i64 b)] [] (.d (.b true)) [] :=
 filmSums_num l b hl.2 (by omega) (by omega) (by omega)
end Go.K.S
end
