/-
  Parts of the proof, joined by a program of this work: KExtraAdds, KFilm5, KLawFilmAdds.
-/
import Derived.Test.YtlolgojfeijjhaaGreatDoorNaq
import Derived.Test.YtlolgojfeijjhaaGreatDoorNap
set_option linter.unusedSimpArgs false
set_option linter.unusedVariables false
set_option maxHeartbeats 8000000
set_option maxRecDepth 100000
section
section
namespace Go.K
open Go Go.ChangeShapes
section
variable {H : Type} (B : Bulk H) (enc : TypeId × Value → H) (P : Program) (w : World)
variable {B enc P w}
theorem opens_array2 {t e : TypeId} {n : Nat} {α : Type} {cells : α → List D} {ok : Nat → α → Prop} (ht : P.underlying t = some (.array 2 e)) (hc : P.cellsOf t = n + n)
  (h : Opens B enc P w e n cells ok) : Opens B enc P w t (n + n) (fun x : α × α => cells x.1 ++ cells x.2) (fun b x => ok b x.1 ∧ ok b x.2) := by
 refine ⟨hc, fun x => by simp [h.len], fun b b' x hb q => ⟨h.mono _ _ _ hb q.1, h.mono _ _ _ hb q.2⟩, fun fuel cs d ps q => ?_⟩
 cases fuel with
 | zero => simp [DataW.trod] at q
 | succ fuel =>
  unfold DataW.trod at q
  rw [ht] at q
  have q' : (if cs.length = P.cellsOf t then ((List.range 2).mapM fun i => DataW.trod enc P w 0 (fun _ => true) true fuel e ((cs.drop (i * P.cellsOf e)).take (P.cellsOf e))).map fun xs => ((.agg (xs.map (·.1)) : DataW H), xs.flatMap (·.2)) else none) = some (d, ps) := by
   rcases cs with _ | ⟨v, _ | ⟨v2, r⟩⟩
   ·exact q
   ·cases v <;> exact q
   ·exact q
  split at q'
  ·rename_i hl
   rw [Option.map_eq_some_iff] at q'
   obtain ⟨ys, hys, e'⟩ := q'
   cases e'
   have hyl := mapM_some_length hys
   have h0 := mapM_some_get hys 0 0 rfl
   have h1 := mapM_some_get hys 1 1 rfl
   have hyl' : ys.length = 2 := hyl
   obtain ⟨y0, y1, rfl⟩ : ∃ y0 y1, ys = [y0, y1] := by
    rcases ys with _ | ⟨y0, _ | ⟨y1, _ | ⟨y2, r⟩⟩⟩ <;> simp at hyl'
    exact ⟨y0, y1, rfl⟩
   obtain ⟨a0, k1, k2, k3⟩ := h.read fuel _ y0.1 y0.2 h0
   obtain ⟨a1, m1, m2, m3⟩ := h.read fuel _ y1.1 y1.2 h1
   rw [h.size] at k3 m3
   refine ⟨(a0, a1), ⟨h.mono _ _ _ (B.pt _ _ (by simp)) k1, h.mono _ _ _ (B.pt _ _ (by simp)) m1⟩, by omega, fun j hj => ?_⟩
   rcases Nat.lt_or_ge j n with q | q
   ·have := k3 j q
    have e1 : ((cs.drop (0 * n)).take n).getD j undef = cs.getD j undef := by
     simp [List.getD, List.getElem?_take, q]
    have e2 : (cells a0 ++ cells a1).getD j .np = (cells a0).getD j .np := by
     simp [List.getD, List.getElem?_append, h.len, q]
    rw [e1] at this
    rw [e2]
    exact this
   ·have := m3 (j - n) (by omega)
    have q2 : j - n < n := by omega
    have e1 : ((cs.drop (1 * n)).take n).getD (j - n) undef = cs.getD j undef := by
     simp [List.getD, List.getElem?_take, q2, List.getElem?_drop]
     rw [show n + (j - n) = j by omega]
    have e2 : (cells a0 ++ cells a1).getD j .np = (cells a1).getD (j - n) .np := by
     have : ¬ j < n := by omega
     simp [List.getD, List.getElem?_append, h.len, this]
    rw [e1] at this
    rw [e2]
    exact this
  ·cases q'
end
end Go.K
end
section
open Go
namespace Go.K.S
namespace T
abbrev A2_int : TypeId := 29
abbrev A2_api_Rat : TypeId := 33
end T
end Go.K.S
end
section
open Go
namespace Go.K.S
namespace F
abbrev penumbralaw20_FilmAdds : FuncId := 4
abbrev penumbraref20_Add : FuncId := 15
abbrev film_Scale : FuncId := 16
abbrev penumbraref20_Scale : FuncId := 17
abbrev penumbraref20_New : FuncId := 19
abbrev penumbraref20_Is : FuncId := 22
abbrev penumbraref09_Same : FuncId := 56
end F
end Go.K.S
end
section
open Go
namespace Go.K.S
namespace B
noncomputable abbrev penumbralaw20_FilmAdds : Func := Go.Proofs.Tryz.f4
noncomputable abbrev penumbraref20_Add : Func := Go.Proofs.Tryz.f15
noncomputable abbrev film_Scale : Func := Go.Proofs.Tryz.f16
noncomputable abbrev penumbraref20_Scale : Func := Go.Proofs.Tryz.f17
noncomputable abbrev penumbraref20_New : Func := Go.Proofs.Tryz.f19
noncomputable abbrev penumbraref20_Is : Func := Go.Proofs.Tryz.f22
noncomputable abbrev penumbraref09_Same : Func := Go.Proofs.Tryz.f56
end B
end Go.K.S
end
section
open Go
namespace Go.K.S
namespace G
theorem penumbralaw20_FilmAdds {args : List V} {r : V} (h : ∀ C C2, CC C → CC2 C2 → wpF Ω ⟨tt, C, C2, md, 0, ro, ty, la, ne, bw⟩ B.penumbralaw20_FilmAdds args (fun x => x = r)) (ha : args.length ≤ (B.penumbralaw20_FilmAdds).ntmps := by exact of_decide_eq_true rfl) : Good P F.penumbralaw20_FilmAdds args [] r [] := goodOf Go.Proofs.Tryz.func4 (by kernel_rfl) (by kernel_rfl) md ha h
theorem penumbraref20_Add {args : List V} {r : V} (h : ∀ C C2, CC C → CC2 C2 → wpF Ω ⟨tt, C, C2, md, 0, ro, ty, la, ne, bw⟩ B.penumbraref20_Add args (fun x => x = r)) (ha : args.length ≤ (B.penumbraref20_Add).ntmps := by exact of_decide_eq_true rfl) : Good P F.penumbraref20_Add args [] r [] := goodOf Go.Proofs.Tryz.func15 (by kernel_rfl) (by kernel_rfl) md ha h
theorem film_Scale {args : List V} {r : V} (h : ∀ C C2, CC C → CC2 C2 → wpF Ω ⟨tt, C, C2, md, 0, ro, ty, la, ne, bw⟩ B.film_Scale args (fun x => x = r)) (ha : args.length ≤ (B.film_Scale).ntmps := by exact of_decide_eq_true rfl) : Good P F.film_Scale args [] r [] := goodOf Go.Proofs.Tryz.func16 (by kernel_rfl) (by kernel_rfl) md ha h
theorem penumbraref20_Scale {args : List V} {r : V} (h : ∀ C C2, CC C → CC2 C2 → wpF Ω ⟨tt, C, C2, md, 0, ro, ty, la, ne, bw⟩ B.penumbraref20_Scale args (fun x => x = r)) (ha : args.length ≤ (B.penumbraref20_Scale).ntmps := by exact of_decide_eq_true rfl) : Good P F.penumbraref20_Scale args [] r [] := goodOf Go.Proofs.Tryz.func17 (by kernel_rfl) (by kernel_rfl) md ha h
theorem penumbraref20_New {args : List V} {bs bs' : List Blk} {r : V} (h : ∀ C C2, CC C → CC2 C2 → wpF2 Ω ⟨tt, C, C2, md, bs.length, ro, ty, la, ne, bw⟩ B.penumbraref20_New args bs (fun x b => x = r ∧ b = bs')) (hb : bs.length ≤ 1000 := by decide) (ha : args.length ≤ (B.penumbraref20_New).ntmps := by exact of_decide_eq_true rfl) : Good P F.penumbraref20_New args bs r bs' := goodOf2 Go.Proofs.Tryz.func19 (by kernel_rfl) (by kernel_rfl) md hb ha h
theorem penumbraref20_Is {args : List V} {r : V} (h : ∀ C C2, CC C → CC2 C2 → wpF Ω ⟨tt, C, C2, md, 0, ro, ty, la, ne, bw⟩ B.penumbraref20_Is args (fun x => x = r)) (ha : args.length ≤ (B.penumbraref20_Is).ntmps := by exact of_decide_eq_true rfl) : Good P F.penumbraref20_Is args [] r [] := goodOf Go.Proofs.Tryz.func22 (by kernel_rfl) (by kernel_rfl) md ha h
theorem penumbraref09_Same {args : List V} {r : V} (h : ∀ C C2, CC C → CC2 C2 → wpF Ω ⟨tt, C, C2, md, 0, ro, ty, la, ne, bw⟩ B.penumbraref09_Same args (fun x => x = r)) (ha : args.length ≤ (B.penumbraref09_Same).ntmps := by exact of_decide_eq_true rfl) : Good P F.penumbraref09_Same args [] r [] := goodOf Go.Proofs.Tryz.func56 (by kernel_rfl) (by kernel_rfl) md ha h
end G
end Go.K.S
end
section
namespace Go.K.S
open Go Go.K
theorem new200_good (W H n : Int) (hs : szok W H n = false) : Good P F.penumbraref20_New [.d (.i .i64 W), .d (.i .i64 H), .d (.i .i64 n)] [] (.tup [.agg [.d (.i .i64 0), .d (.i .i64 0), .d (.i .i64 0), .nil, .nil], .d (.b false)]) [] := by
 refine G.penumbraref20_New fun C C2 hC hC2 => ?_
 have gs := sizes20_good W H n
 rw [hs] at gs
 refine rs ?_
 exact ⟨[], rfl, rfl, rfl⟩
theorem new201_good (W H n : Int) (m : Nat) (hs : szok W H n = true) (hm : W * H * n = m) : Good P F.penumbraref20_New [.d (.i .i64 W), .d (.i .i64 H), .d (.i .i64 n)] [] (.tup [.agg [.d (.i .i64 W), .d (.i .i64 H), .d (.i .i64 n), .own 0 3, .own 1 3], .d (.b true)])
  [.row true T.api_Rat 3 (Ψ .dRs (zer m)), .row true T.api_Rat 3 (Ψ .dRs (zer m))] := by
 refine G.penumbraref20_New fun C C2 hC hC2 => ?_
 have gs := sizes20_good W H n
 rw [hs] at gs
 obtain ⟨e0, _, _, h1, h2⟩ := szok_mul hs
 rw [hm] at e0
 have go := zero3_good
 obtain ⟨X, hX0, hXs, hXl, hXe⟩ := zer_ex
 rw [← hXe]
 clear hXe
 generalize Ψ .cr 0 = z at *
 refine rs ?_
 refine LoopG.introB (σ := Nat) [.cell 1304 3 900001 T.api_Rat 3, .cell 1304 4 900002 T.api_Rat 3] [0, 1, 2, 6, 8, 9] [1050, 1051, 1052, 1053] (fun i => [.d (.i .i64 W), .d (.i .i64 H), .d (.i .i64 n), .ptr 1050 0, .ptr 1051 0, .d (.i .i64 (Ω .ci i))])
  (fun i => [.var [.d (.i .i64 0), .d (.i .i64 0), .d (.i .i64 0), .nil, .nil], .var [.d (.i .i64 W), .d (.i .i64 H), .d (.i .i64 n), .own 1052 3, .own 1053 3], .row true T.api_Rat 3 (X i), .row true T.api_Rat 3 (X i)])
  (fun i => i ≤ m) (fun i => m - i) 0 [1000, 1304, 900001, 900002] (by omega) ⟨rfl, rfl, by rw [hX0]; rfl⟩ ?_
 intro i hi
 rcases Nat.eq_or_lt_of_le hi with hi1 | hi1
 ·have q0 : Ω .lt (Ω .ci i) (Ω .wrap .i64 (Ω .wrap .i64 (W * H) * n)) = false := by rw [e0, lt_false]; simp only [wz]; omega
  rw [hi1] at q0 ⊢
  refine rs ?_
  exact ⟨[1052, 1053], rfl, rfl, rfl⟩
 ·have q0 : Ω .lt (Ω .ci i) (Ω .wrap .i64 (Ω .wrap .i64 (W * H) * n)) = true := by rw [e0, lt_true]; simp only [wz]; omega
  have ws := wrap_succ (n := i) (by omega)
  have e3 := hXs i
  have e4 := hXl i
  refine rs ?_
  refine ⟨fun u h => by rw [List.mem_singleton.1 h]; rfl, by rw [e4, slen_cons, slen_nil]; simp only [wz]; omega, ?_⟩
  refine rs ?_
  refine ⟨fun u h => by rw [List.mem_singleton.1 h]; rfl, by rw [e4, slen_cons, slen_nil]; simp only [wz]; omega, ?_⟩
  refine rs ?_
  rw [ws]
  have e3' : Ω .scat (X i) [D.agg [D.b z.neg, D.sl (Ψ .lims z.num), D.sl (Ψ .lims z.den)]] = X (i + 1) := e3
  rw [e3']
  exact ⟨i + 1, [1050, 1051, 1704, 1804], by omega, by omega, rfl, rfl, rfl⟩
end Go.K.S
end
section
namespace Go.K.S
open Go Go.K
theorem fadd0_good (W H n px bin : Int) (A B : List RL) (a b : RL) {k : Nat} (hA : ∀ r, r ∈ A → Rn k r) (hB : ∀ r, r ∈ B → Rn k r) (hk0 : 0 < k) (hk : k < 137438953472) (hla : A.length < 68719476736) (hlb : B.length < 68719476736)
  (hok : adOk W H n A B px bin = false) : Good P F.film_Add [.d (dF Ψ W H n A B), .d (.i .i64 px), .d (.i .i64 bin), .d (.agg (dR Ψ a)), .d (.agg (dR Ψ b))] [] (.tup [.d (dF Ψ 0 0 0 [] []), .d (.b false)]) [] := by
 refine G.film_Add fun C C2 hC hC2 => ?_
 have g := fcheck_good W H n A B hA hB hk0 hk hla hlb
 unfold adOk at hok
 cases h0 : fok W H n A B with
 | false => rw [h0] at g; (refine rs ?_; rfl)
 | true =>
  rw [h0] at g hok
  have wm : Ω .wrap .i64 (W * H) = W * H := by obtain ⟨_, a1, a2, _⟩ := szok_mul (fok_szok h0); exact wrap64 (by omega) (by omega)
  rw [← wm] at hok
  cases h1 : Ω .lt px 0 with
  | true => (refine rs ?_; rfl)
  | false =>
   cases h2 : Ω .le (Ω .wrap .i64 (W * H)) px with
   | true => (refine rs ?_; rfl)
   | false =>
    cases h3 : Ω .lt bin 0 with
    | true => (refine rs ?_; rfl)
    | false =>
     cases h4 : Ω .le n bin with
     | true => (refine rs ?_; rfl)
     | false => rw [h1, h2, h3, h4] at hok; cases hok
end Go.K.S
end
end
section
namespace Go.K
open Go
theorem sset_ex (A : List RL) (f : Nat → RL → RL) (g : RL → RL) : ∃ X : Nat → List D, X 0 = Ψ .dRs (A.map g) ∧ (∀ i r, A[i]? = some r → Ω .sget (X i) i = some (.agg (dR Ψ (g r))) ∧ Ω .sset (X i) i (.agg (dR Ψ (f i r))) = X (i + 1)) ∧
  (∀ i, Ω .slen (X i) = A.length) ∧ X A.length = Ψ .dRs (A.mapIdx f) := by
 refine ⟨fun i => Ψ .dRs ((A.mapIdx f).take i ++ (A.map g).drop i), by simp, fun i r h => ⟨?_, ?_⟩, fun i => ?_, ?_⟩
 ·have hi := (List.getElem?_eq_some_iff.1 h).1
  rw [sget_dRs, List.getElem?_append_right (by simp; omega), List.getElem?_drop]
  simp only [List.length_take, List.length_mapIdx, show min i A.length = i by omega, Nat.sub_self, Nat.add_zero, List.getElem?_map, h]
  rfl
 ·have hi := (List.getElem?_eq_some_iff.1 h).1
  simp only [sset_dRs]
  refine congrArg (Ψ .dRs) (List.ext_getElem? fun j => ?_)
  rw [List.getElem?_set]
  by_cases q : i = j
  ·subst q
   rw [if_pos rfl, if_pos (by simp; omega), List.getElem?_append_left (by simp; omega), List.getElem?_take, if_pos (by omega), List.getElem?_mapIdx, h]; rfl
  ·rw [if_neg q]
   rcases Nat.lt_or_gt_of_ne q with q | q
   ·rw [List.getElem?_append_right (by simp; omega), List.getElem?_append_right (by simp; omega), List.getElem?_drop, List.getElem?_drop]
    congr 1; simp; omega
   ·rw [List.getElem?_append_left (by simp; omega), List.getElem?_append_left (by simp; omega), List.getElem?_take, List.getElem?_take, if_pos q, if_pos (by omega)]
 ·rw [slen_dRs, List.length_append, List.length_take, List.length_drop, List.length_mapIdx, List.length_map]; omega
 ·simp only []
  rw [List.take_of_length_le (by simp), List.drop_eq_nil_of_le (by simp), List.append_nil]
theorem sset_twice (X : List D) (i : Nat) (u v : D) : Ω .sset (Ω .sset X i u) i v = Ω .sset X i v := by rw [w_sset, w_sset, w_sset, List.set_set]
theorem slen_sset (X : List D) (i : Nat) (u : D) : Ω .slen (Ω .sset X i u) = Ω .slen X := by rw [w_sset, w_slen, w_slen, List.length_set]
theorem adS_eq (A : List RL) (i : Nat) (a : RL) : A.mapIdx (fun j r => if j = i then Ψ .cr (rv r + rv a) else rdR r) = adS A i a := by
 refine List.ext_getElem? fun j => ?_
 rw [adS, List.getElem?_set, List.getElem?_mapIdx, List.length_map]
 by_cases q : i = j
 ·subst q
  rw [if_pos rfl]
  cases h : A[i]? with
  | none =>
   rw [if_neg (by rw [List.getElem?_eq_none_iff] at h; omega)]; rfl
  | some r =>
   rw [if_pos (List.getElem?_eq_some_iff.1 h).1]
   simp [List.getD_eq_getElem?_getD, h]
 ·rw [if_neg q, List.getElem?_map]
  cases h : A[j]? with
  | none => rfl
  | some r => simp [Ne.symm q]
def scS (A : List RL) (k : RL) : List RL := A.map fun r => Ψ .cr (rv k * rv r)
theorem scS_eq (A : List RL) (k : RL) : A.mapIdx (fun _ r => Ψ .cr (rv k * rv r)) = scS A k := by
 refine List.ext_getElem? fun j => ?_
 rw [scS, List.getElem?_mapIdx, List.getElem?_map]
theorem zer_map (A : List RL) : zer A.length = A.map fun _ => Ψ .cr 0 := by rw [zer]; simp [List.map_const']
end Go.K
namespace Go.K.S
open Go Go.K
theorem same9_good (l : List RL) {k : Nat} (h : ∀ r, r ∈ l → Rn k r) (hk : k < 1099511627776) (hln : l.length < 68719476736) : Good P F.penumbraref09_Same [.d (.sl (Ψ .dRs l)), .d (.sl (Ψ .dRs l))] [] (.d (.b true)) [] := by
 refine G.penumbraref09_Same fun C C2 hC hC2 => ?_
 have q1 : Ω .ne (Ω .ci l.length) (Ω .ci l.length) = false := ne_false'.2 rfl
 refine rs ?_
 refine LoopG.intro (σ := Nat) [0, 1, 5] [] (fun i => [.d (.sl (Ψ .dRs l)), .d (.sl (Ψ .dRs l)), .d (.i .i64 (Ω .ci i))]) (fun _ => []) (fun i => i ≤ l.length) (fun i => l.length - i) 0 [] (by omega) ⟨rfl, rfl, rfl⟩ ?_
 intro i hi
 rcases Nat.eq_or_lt_of_le hi with hi1 | hi1
 ·have q0 : Ω .lt (Ω .ci i) (Ω .ci l.length) = false := by rw [lt_false]; simp only [wz]; omega
  exact rs trivial
 ·have q0 : Ω .lt (Ω .ci i) (Ω .ci l.length) = true := by rw [lt_true]; simp only [wz]; omega
  obtain ⟨r, hr⟩ : ∃ r, l[i]? = some r := ⟨_, List.getElem?_eq_getElem hi1⟩
  have e1 := hx_dRs hr
  have e2 : Ω .ilt (Ω .ci i) (Ω .ci l.length) := by simp only [wz]; omega
  have rr := h r (List.mem_of_getElem? hr)
  have g := is3_good r r rr rr hk hk
  rw [decide_eq_true rfl] at g
  have ws := wrap_succ (n := i) (by omega)
  refine rs ?_
  rw [ws]
  exact ⟨i + 1, [], by omega, by omega, rfl, rfl, rfl⟩
theorem is20_good (W H n : Int) (A B : List RL) {k : Nat} (hA : ∀ r, r ∈ A → Rn k r) (hB : ∀ r, r ∈ B → Rn k r) (hk : k < 1099511627776) (hla : A.length < 68719476736) (hlb : B.length < 68719476736) :
  Good P F.penumbraref20_Is [.d (dF Ψ W H n A B), .d (dF Ψ W H n A B)] [] (.d (.b true)) [] := by
 refine G.penumbraref20_Is fun C C2 hC hC2 => ?_
 have g1 := same9_good A hA hk hla
 have g2 := same9_good B hB hk hlb
 have e1 : Ω .eq W W = true := eq_true'.2 rfl
 have e2 : Ω .eq H H = true := eq_true'.2 rfl
 have e3 : Ω .eq n n = true := eq_true'.2 rfl
 exact rs trivial
theorem scale0_good (r : RL) (W H n : Int) (A B : List RL) {k : Nat} (hA : ∀ r, r ∈ A → Rn k r) (hB : ∀ r, r ∈ B → Rn k r) (hk0 : 0 < k) (hk : k < 137438953472) (hla : A.length < 68719476736) (hlb : B.length < 68719476736)
  (hok : fok W H n A B = false) : Good P F.film_Scale [.d (.agg (dR Ψ r)), .d (dF Ψ W H n A B)] [] (.tup [.d (dF Ψ 0 0 0 [] []), .d (.b false)]) [] := by
 refine G.film_Scale fun C C2 hC hC2 => ?_
 have g := fcheck_good W H n A B hA hB hk0 hk hla hlb
 rw [hok] at g
 refine rs ?_
 rfl
theorem scale200_good (r : RL) (W H n : Int) (A B : List RL) {k : Nat} (hA : ∀ r, r ∈ A → Rn k r) (hB : ∀ r, r ∈ B → Rn k r) (hk0 : 0 < k) (hk : k < 137438953472) (hla : A.length < 68719476736) (hlb : B.length < 68719476736)
  (hok : fok W H n A B = false) : Good P F.penumbraref20_Scale [.d (.agg (dR Ψ r)), .d (dF Ψ W H n A B)] [] (.tup [.d (dF Ψ 0 0 0 [] []), .d (.b false)]) [] := by
 refine G.penumbraref20_Scale fun C C2 hC hC2 => ?_
 have g := fcheck20_good W H n A B hA hB hk0 hk hla hlb
 rw [hok] at g
 refine rs ?_
 rfl
theorem scale1_good (q : RL) (W H n : Int) (A B : List RL) {k : Nat} (hq : Rn k q) (hA : ∀ r, r ∈ A → Rn k r) (hB : ∀ r, r ∈ B → Rn k r) (hk0 : 0 < k) (hk : k < 4000000)
  (hok : fok W H n A B = true) : Good P F.film_Scale [.d (.agg (dR Ψ q)), .d (dF Ψ W H n A B)] [] (.tup [.d (dF Ψ W H n (scS A q) (scS B q)), .d (.b true)]) [] := by
 refine G.film_Scale fun C C2 hC hC2 => ?_
 obtain ⟨_, a1, a2, a3, a4⟩ := szok_mul (fok_szok hok)
 have hla : (A.length : Int) = W * H * n ∧ (B.length : Int) = W * H * n := by
  have h0 := hok
  simp only [fok, Bool.and_eq_true, eq_true'] at h0
  exact ⟨h0.2.1, h0.2.2.1⟩
 have g := fcheck_good W H n A B hA hB hk0 (by omega) (by omega) (by omega)
 rw [hok] at g
 have gc := copied_good W H n A B hA hB (by omega) (by omega) (by omega)
 obtain ⟨X, hX0, hXs, hXl, hXe⟩ := sset_ex A (fun _ r => Ψ .cr (rv q * rv r)) rdR
 obtain ⟨Y, hY0, hYs, hYl, hYe⟩ := sset_ex B (fun _ r => Ψ .cr (rv q * rv r)) rdR
 rw [scS_eq] at hXe hYe
 rw [← hX0, ← hY0] at gc
 unfold dF
 rw [← hXe, ← hYe]
 have hXl0 := hXl 0
 have hg : ∀ r, Rn k r → Good P F.rat_Product [.d (.sl [.agg (dR Ψ q), .agg (dR Ψ (rdR r))])] [] (.d (.agg (dR Ψ (Ψ .cr (rv q * rv r))))) [] := fun r hr => by
  have := prod2_good q (rdR r) hq (Rn_cr.2 (Qn_rv hr hk0)) hk0 (by omega)
  rw [rv_rdR] at this
  exact this
 clear hX0 hY0 hXe hYe
 have hex : ∃ f : RL → RL, f = fun r => Ψ .cr (rv q * rv r) := ⟨_, rfl⟩
 obtain ⟨f, hf⟩ := hex
 have hfe : ∀ r, Ψ .cr (rv q * rv r) = f r := fun r => by rw [hf]
 simp only [hfe] at hg hXs hYs
 generalize rdR = rd at *
 refine rs ?_
 rw [hXl0]
 refine LoopG.intro (σ := Nat) [2, 3, 4, 15, 16] [1050, 1051, 1052, 1053, 1054] (fun i => [.ptr 1050 0, .ptr 1051 0, .ptr 1052 0, .d (.i .i64 (Ω .ci A.length)), .d (.i .i64 (Ω .ci i))])
  (fun i => [.var [.d (.b q.neg), .d (.sl (Ψ .lims q.num)), .d (.sl (Ψ .lims q.den))], .var [.d (.i .i64 W), .d (.i .i64 H), .d (.i .i64 n), .own 1053 3, .own 1054 3], .var [.d (.i .i64 0), .d (.i .i64 0), .d (.i .i64 0), .nil, .nil], .row true T.api_Rat 3 (X i), .row true T.api_Rat 3 (Y i)])
  (fun i => i ≤ A.length) (fun i => A.length - i) 0 [1000, 1001, 1002, 1010408, 1010409] (by omega) ⟨rfl, rfl, rfl⟩ ?_
 intro i hi
 rcases Nat.eq_or_lt_of_le hi with hi1 | hi1
 ·have q0 : Ω .lt (Ω .ci i) (Ω .ci A.length) = false := by rw [lt_false]; simp only [wz]; omega
  rw [hi1] at q0 ⊢
  rw [show B.length = A.length by omega]
  exact rs trivial
 ·have q0 : Ω .lt (Ω .ci i) (Ω .ci A.length) = true := by rw [lt_true]; simp only [wz]; omega
  obtain ⟨a, har⟩ : ∃ r, A[i]? = some r := ⟨_, List.getElem?_eq_getElem hi1⟩
  obtain ⟨b, hbr⟩ : ∃ r, B[i]? = some r := ⟨_, List.getElem?_eq_getElem (by omega)⟩
  obtain ⟨e1, e2⟩ := hXs i a har
  obtain ⟨e3, e4⟩ := hYs i b hbr
  have l1 := hXl i
  have l2 := hYl i
  have p1 := hg a (hA a (List.mem_of_getElem? har))
  have p2 := hg b (hB b (List.mem_of_getElem? hbr))
  have i1 : Ω .ilt (Ω .ci i) (Ω .ci (Ω .slen (X i))) := by rw [l1]; simp only [wz]; omega
  have i2 : Ω .ilt (Ω .ci i) (Ω .ci (Ω .slen (Y i))) := by rw [l2]; simp only [wz]; omega
  have ws := wrap_succ (n := i) (by omega)
  refine rs ?_
  refine ⟨i2, _, e3, Nat.le_refl _, rfl, ?_⟩
  have e2' : Ω .sset (X i) i (D.agg [D.b (f a).neg, D.sl (Ψ .lims (f a).num), D.sl (Ψ .lims (f a).den)]) = X (i + 1) := e2
  have e4' : Ω .sset (Y i) i (D.agg [D.b (f b).neg, D.sl (Ψ .lims (f b).num), D.sl (Ψ .lims (f b).den)]) = Y (i + 1) := e4
  refine rs ?_
  rw [e2', e4', ws]
  exact ⟨i2, by rw [l2]; simp only [wz]; omega, i + 1, [1050, 1051, 1052, 1053, 1054], by omega, by omega, rfl, rfl, rfl⟩
theorem scale201_good (q : RL) (W H n : Int) (A B : List RL) {k : Nat} (hq : Rn k q) (hA : ∀ r, r ∈ A → Rn k r) (hB : ∀ r, r ∈ B → Rn k r) (hk0 : 0 < k) (hk : k < 4000000)
  (hok : fok W H n A B = true) : Good P F.penumbraref20_Scale [.d (.agg (dR Ψ q)), .d (dF Ψ W H n A B)] [] (.tup [.d (dF Ψ W H n (scS A q) (scS B q)), .d (.b true)]) [] := by
 refine G.penumbraref20_Scale fun C C2 hC hC2 => ?_
 obtain ⟨_, a1, a2, a3, a4⟩ := szok_mul (fok_szok hok)
 have hla : (A.length : Int) = W * H * n ∧ (B.length : Int) = W * H * n := by
  have h0 := hok
  simp only [fok, Bool.and_eq_true, eq_true'] at h0
  exact ⟨h0.2.1, h0.2.2.1⟩
 have g := fcheck20_good W H n A B hA hB hk0 (by omega) (by omega) (by omega)
 rw [hok] at g
 have gc := new201_good W H n A.length (fok_szok hok) (by omega)
 obtain ⟨X, hX0, hXs, hXl, hXe⟩ := sset_ex A (fun _ r => Ψ .cr (rv q * rv r)) (fun _ => Ψ .cr 0)
 obtain ⟨Y, hY0, hYs, hYl, hYe⟩ := sset_ex B (fun _ r => Ψ .cr (rv q * rv r)) (fun _ => Ψ .cr 0)
 rw [scS_eq] at hXe hYe
 rw [← zer_map] at hX0 hY0
 rw [show B.length = A.length by omega] at hY0
 have gc' : Good P F.penumbraref20_New [.d (.i .i64 W), .d (.i .i64 H), .d (.i .i64 n)] [] (.tup [.agg [.d (.i .i64 W), .d (.i .i64 H), .d (.i .i64 n), .own 0 3, .own 1 3], .d (.b true)]) [.row true T.api_Rat 3 (X 0), .row true T.api_Rat 3 (Y 0)] := by rw [hX0, hY0]; exact gc
 unfold dF
 rw [← hXe, ← hYe]
 have hg : ∀ r, Rn k r → Good P F.penumbraref03_Mul [.d (.agg (dR Ψ q)), .d (.agg (dR Ψ r))] [] (.d (.agg (dR Ψ (Ψ .cr (rv q * rv r))))) [] := fun r hr => mul3_good q r hq hr (by omega) (by omega)
 clear hX0 hY0 hXe hYe gc
 have hex : ∃ f : RL → RL, f = fun r => Ψ .cr (rv q * rv r) := ⟨_, rfl⟩
 obtain ⟨f, hf⟩ := hex
 have hfe : ∀ r, Ψ .cr (rv q * rv r) = f r := fun r => by rw [hf]
 simp only [hfe] at hg hXs hYs
 generalize Ψ .cr 0 = z at *
 refine rs ?_
 refine LoopG.intro (σ := Nat) [2, 3, 4, 6, 8] [1050, 1051, 1052, 1053, 1054, 1055] (fun i => [.ptr 1050 0, .ptr 1051 0, .ptr 1052 0, .ptr 1053 0, .d (.i .i64 (Ω .ci i))])
  (fun i => [.var [.d (.b q.neg), .d (.sl (Ψ .lims q.num)), .d (.sl (Ψ .lims q.den))], .var [.d (.i .i64 W), .d (.i .i64 H), .d (.i .i64 n), .d (.sl (Ψ .dRs A)), .d (.sl (Ψ .dRs B))], .var [.d (.i .i64 0), .d (.i .i64 0), .d (.i .i64 0), .nil, .nil], .var [.d (.i .i64 W), .d (.i .i64 H), .d (.i .i64 n), .own 1054 3, .own 1055 3], .row true T.api_Rat 3 (X i), .row true T.api_Rat 3 (Y i)])
  (fun i => i ≤ A.length) (fun i => A.length - i) 0 [1000, 1001, 1002, 1310, 1010448, 1010449] (by omega) ⟨rfl, rfl, rfl⟩ ?_
 intro i hi
 rcases Nat.eq_or_lt_of_le hi with hi1 | hi1
 ·have q0 : Ω .lt (Ω .ci i) (Ω .ci A.length) = false := by rw [lt_false]; simp only [wz]; omega
  rw [hi1] at q0 ⊢
  rw [show B.length = A.length by omega]
  exact rs trivial
 ·have q0 : Ω .lt (Ω .ci i) (Ω .ci A.length) = true := by rw [lt_true]; simp only [wz]; omega
  obtain ⟨a, har⟩ : ∃ r, A[i]? = some r := ⟨_, List.getElem?_eq_getElem hi1⟩
  obtain ⟨b, hbr⟩ : ∃ r, B[i]? = some r := ⟨_, List.getElem?_eq_getElem (by omega)⟩
  have h1 := hx_dRs har
  have h2 := hx_dRs hbr
  obtain ⟨e1, e2⟩ := hXs i a har
  obtain ⟨e3, e4⟩ := hYs i b hbr
  have l1 := hXl i
  have l2 := hYl i
  have p1 := hg a (hA a (List.mem_of_getElem? har))
  have p2 := hg b (hB b (List.mem_of_getElem? hbr))
  have j1 : Ω .ilt (Ω .ci i) (Ω .ci A.length) := by simp only [wz]; omega
  have j2 : Ω .ilt (Ω .ci i) (Ω .ci B.length) := by simp only [wz]; omega
  have i1 : Ω .ilt (Ω .ci i) (Ω .ci (Ω .slen (X i))) := by rw [l1]; simp only [wz]; omega
  have i2 : Ω .ilt (Ω .ci i) (Ω .ci (Ω .slen (Y i))) := by rw [l2]; simp only [wz]; omega
  have ws := wrap_succ (n := i) (by omega)
  have e2' : Ω .sset (X i) i (D.agg [D.b (f a).neg, D.sl (Ψ .lims (f a).num), D.sl (Ψ .lims (f a).den)]) = X (i + 1) := e2
  have e4' : Ω .sset (Y i) i (D.agg [D.b (f b).neg, D.sl (Ψ .lims (f b).num), D.sl (Ψ .lims (f b).den)]) = Y (i + 1) := e4
  refine rs ?_
  rw [e2', e4', ws]
  exact ⟨i2, by rw [l2]; simp only [wz]; omega, i + 1, [1050, 1051, 1052, 1053, 1054, 1055], by omega, by omega, rfl, rfl, rfl⟩
theorem fadd200_good (W H n px bin : Int) (A B : List RL) (a b : RL) {k : Nat} (hA : ∀ r, r ∈ A → Rn k r) (hB : ∀ r, r ∈ B → Rn k r) (hk0 : 0 < k) (hk : k < 137438953472) (hla : A.length < 68719476736) (hlb : B.length < 68719476736)
  (hok : adOk W H n A B px bin = false) : Good P F.penumbraref20_Add [.d (dF Ψ W H n A B), .d (.i .i64 px), .d (.i .i64 bin), .d (.agg (dR Ψ a)), .d (.agg (dR Ψ b))] [] (.tup [.d (dF Ψ 0 0 0 [] []), .d (.b false)]) [] := by
 refine G.penumbraref20_Add fun C C2 hC hC2 => ?_
 have g := fcheck20_good W H n A B hA hB hk0 hk hla hlb
 unfold adOk at hok
 cases h0 : fok W H n A B with
 | false => rw [h0] at g; (refine rs ?_; rfl)
 | true =>
  rw [h0] at g hok
  have wm : Ω .wrap .i64 (W * H) = W * H := by obtain ⟨_, a1, a2, _⟩ := szok_mul (fok_szok h0); exact wrap64 (by omega) (by omega)
  rw [← wm] at hok
  cases h1 : Ω .lt px 0 with
  | true => (refine rs ?_; rfl)
  | false =>
   cases h2 : Ω .le (Ω .wrap .i64 (W * H)) px with
   | true => (refine rs ?_; rfl)
   | false =>
    cases h3 : Ω .lt bin 0 with
    | true => (refine rs ?_; rfl)
    | false =>
     cases h4 : Ω .le n bin with
     | true => (refine rs ?_; rfl)
     | false => rw [h1, h2, h3, h4] at hok; cases hok
theorem fadd201_good (W H n px bin : Int) (A B : List RL) (a b : RL) (at0 : Nat) {k : Nat} (hA : ∀ r, r ∈ A → Rn k r) (hB : ∀ r, r ∈ B → Rn k r) (ha : Rn k a) (hb : Rn k b) (hk0 : 0 < k) (hk : k < 4000000)
  (hok : adOk W H n A B px bin = true) (hi : (at0 : Int) = px * n + bin) : Good P F.penumbraref20_Add [.d (dF Ψ W H n A B), .d (.i .i64 px), .d (.i .i64 bin), .d (.agg (dR Ψ a)), .d (.agg (dR Ψ b))] [] (.tup [.d (dF Ψ W H n (adS A at0 a) (adS B at0 b)), .d (.b true)]) [] := by
 refine G.penumbraref20_Add fun C C2 hC hC2 => ?_
 unfold adOk at hok
 simp only [Bool.and_eq_true, Bool.not_eq_true'] at hok
 obtain ⟨h0, h1, h2, h3, h4⟩ := hok
 obtain ⟨_, a1, a2, a3, a4⟩ := szok_mul (fok_szok h0)
 obtain ⟨_, _, n1, n2⟩ := szok_iff.1 (fok_szok h0)
 have wm : Ω .wrap .i64 (W * H) = W * H := wrap64 (by omega) (by omega)
 rw [← wm] at h2
 have hla : (A.length : Int) = W * H * n ∧ (B.length : Int) = W * H * n := by
  have h0' := h0
  simp only [fok, Bool.and_eq_true, eq_true'] at h0'
  exact ⟨h0'.2.1, h0'.2.2.1⟩
 have g := fcheck20_good W H n A B hA hB hk0 (by omega) (by omega) (by omega)
 rw [h0] at g
 have gc := new201_good W H n A.length (fok_szok h0) (by omega)
 have h1' := lt_false.1 h1
 have h2' := le_false.1 h2
 have h3' := lt_false.1 h3
 have h4' := le_false.1 h4
 have hpn : px * n ≤ (W * H - 1) * n := Int.mul_le_mul_of_nonneg_right (by omega) (by omega)
 rw [Int.sub_mul] at hpn
 have hpn0 : 0 ≤ px * n := Int.mul_nonneg h1' (by omega)
 have wat : Ω .wrap .i64 (Ω .wrap .i64 (px * n) + bin) = Ω .ci at0 := by
  rw [wrap64 (n := px * n) (by omega) (by omega), ← hi, ← w_ci, wrap_ci (by omega)]
 obtain ⟨X, hX0, hXs, hXl, hXe⟩ := sset_ex A (fun j r => if j = at0 then Ψ .cr (rv r + rv a) else rdR r) (fun _ => Ψ .cr 0)
 obtain ⟨Y, hY0, hYs, hYl, hYe⟩ := sset_ex B (fun j r => if j = at0 then Ψ .cr (rv r + rv b) else rdR r) (fun _ => Ψ .cr 0)
 rw [adS_eq] at hXe hYe
 rw [← zer_map] at hX0 hY0
 rw [show B.length = A.length by omega] at hY0
 have gc' : Good P F.penumbraref20_New [.d (.i .i64 W), .d (.i .i64 H), .d (.i .i64 n)] [] (.tup [.agg [.d (.i .i64 W), .d (.i .i64 H), .d (.i .i64 n), .own 0 3, .own 1 3], .d (.b true)]) [.row true T.api_Rat 3 (X 0), .row true T.api_Rat 3 (Y 0)] := by rw [hX0, hY0]; exact gc
 unfold dF
 rw [← hXe, ← hYe]
 have hga : ∀ r, Rn k r → Good P F.penumbraref03_Add [.d (.agg (dR Ψ r)), .d (.agg (dR Ψ a))] [] (.d (.agg (dR Ψ (Ψ .cr (rv r + rv a))))) [] := fun r hr => add3_good r a hr ha (by omega) (by omega)
 have hgb : ∀ r, Rn k r → Good P F.penumbraref03_Add [.d (.agg (dR Ψ r)), .d (.agg (dR Ψ b))] [] (.d (.agg (dR Ψ (Ψ .cr (rv r + rv b))))) [] := fun r hr => add3_good r b hr hb (by omega) (by omega)
 have hrd : ∀ r, Rn k r → Good P F.penumbraref03_Read [.d (.agg (dR Ψ r))] [] (.d (.agg (dR Ψ (rdR r)))) [] := fun r hr => read3_good r hr (by omega)
 clear hX0 hY0 hXe hYe gc
 obtain ⟨fa, hfa⟩ : ∃ f : RL → RL, f = fun r => Ψ .cr (rv r + rv a) := ⟨_, rfl⟩
 obtain ⟨fb, hfb⟩ : ∃ f : RL → RL, f = fun r => Ψ .cr (rv r + rv b) := ⟨_, rfl⟩
 have hfae : ∀ r, Ψ .cr (rv r + rv a) = fa r := fun r => by rw [hfa]
 have hfbe : ∀ r, Ψ .cr (rv r + rv b) = fb r := fun r => by rw [hfb]
 simp only [hfae, hfbe] at hga hgb hXs hYs
 generalize rdR = rd at *
 generalize Ψ .cr 0 = z at *
 refine rs ?_
 refine LoopG.intro (σ := Nat) [1, 2, 5, 8, 9, 10, 12, 14] [1050, 1051, 1052, 1053, 1054, 1055, 1056] (fun i => [.d (.i .i64 px), .d (.i .i64 bin), .ptr 1050 0, .ptr 1051 0, .ptr 1052 0, .ptr 1053 0, .ptr 1054 0, .d (.i .i64 (Ω .ci i))])
  (fun i => [.var [.d (.i .i64 W), .d (.i .i64 H), .d (.i .i64 n), .d (.sl (Ψ .dRs A)), .d (.sl (Ψ .dRs B))], .var [.d (.b a.neg), .d (.sl (Ψ .lims a.num)), .d (.sl (Ψ .lims a.den))], .var [.d (.b b.neg), .d (.sl (Ψ .lims b.num)), .d (.sl (Ψ .lims b.den))], .var [.d (.i .i64 0), .d (.i .i64 0), .d (.i .i64 0), .nil, .nil], .var [.d (.i .i64 W), .d (.i .i64 H), .d (.i .i64 n), .own 1055 3, .own 1056 3], .row true T.api_Rat 3 (X i), .row true T.api_Rat 3 (Y i)])
  (fun i => i ≤ A.length) (fun i => A.length - i) 0 [1000, 1001, 1002, 1003, 1310, 1010448, 1010449] (by omega) ⟨rfl, rfl, rfl⟩ ?_
 intro i hi
 rcases Nat.eq_or_lt_of_le hi with hi1 | hi1
 ·have q0 : Ω .lt (Ω .ci i) (Ω .ci A.length) = false := by rw [lt_false]; simp only [wz]; omega
  rw [hi1] at q0 ⊢
  rw [show B.length = A.length by omega]
  exact rs trivial
 ·have q0 : Ω .lt (Ω .ci i) (Ω .ci A.length) = true := by rw [lt_true]; simp only [wz]; omega
  obtain ⟨x, har⟩ : ∃ r, A[i]? = some r := ⟨_, List.getElem?_eq_getElem hi1⟩
  obtain ⟨y, hbr⟩ : ∃ r, B[i]? = some r := ⟨_, List.getElem?_eq_getElem (by omega)⟩
  have h1 := hx_dRs har
  have h2 := hx_dRs hbr
  obtain ⟨e1, e2⟩ := hXs i x har
  obtain ⟨e3, e4⟩ := hYs i y hbr
  have l1 := hXl i
  have l2 := hYl i
  have rx := hA x (List.mem_of_getElem? har)
  have ry := hB y (List.mem_of_getElem? hbr)
  have p1 := hrd x rx
  have p2 := hrd y ry
  have j1 : Ω .ilt (Ω .ci i) (Ω .ci A.length) := by simp only [wz]; omega
  have j2 : Ω .ilt (Ω .ci i) (Ω .ci B.length) := by simp only [wz]; omega
  have ws := wrap_succ (n := i) (by omega)
  by_cases hq : i = at0
  ·rw [if_pos hq] at e2 e4
   have p3 := hga x rx
   have p4 := hgb y ry
   have qe : Ω .eq (Ω .ci i) (Ω .wrap .i64 (Ω .wrap .i64 (px * n) + bin)) = true := by rw [wat, hq]; exact eq_true'.2 rfl
   obtain ⟨X', hX'⟩ : ∃ X', X' = Ω .sset (X i) i (.agg (dR Ψ (rd x))) := ⟨_, rfl⟩
   obtain ⟨Y', hY'⟩ : ∃ Y', Y' = Ω .sset (Y i) i (.agg (dR Ψ (rd y))) := ⟨_, rfl⟩
   have m1 : Ω .slen X' = A.length := by rw [hX', slen_sset, l1]
   have m2 : Ω .slen Y' = B.length := by rw [hY', slen_sset, l2]
   have e2' : Ω .sset X' i (D.agg [D.b (fa x).neg, D.sl (Ψ .lims (fa x).num), D.sl (Ψ .lims (fa x).den)]) = X (i + 1) := by rw [hX', sset_twice]; exact e2
   have e4' : Ω .sset Y' i (D.agg [D.b (fb y).neg, D.sl (Ψ .lims (fb y).num), D.sl (Ψ .lims (fb y).den)]) = Y (i + 1) := by rw [hY', sset_twice]; exact e4
   have s1 : Ω .sset (X i) i (D.agg [D.b (rd x).neg, D.sl (Ψ .lims (rd x).num), D.sl (Ψ .lims (rd x).den)]) = X' := hX'.symm
   have s2 : Ω .sset (Y i) i (D.agg [D.b (rd y).neg, D.sl (Ψ .lims (rd y).num), D.sl (Ψ .lims (rd y).den)]) = Y' := hY'.symm
   clear hX' hY' e2 e4
   refine rs ?_
   rw [s1, s2]
   refine ⟨by rw [l2]; simp only [wz]; omega, by rw [l2]; simp only [wz]; omega, ?_⟩
   refine rs ?_
   rw [e2', e4', ws]
   exact ⟨by rw [m2]; simp only [wz]; omega, by rw [m2]; simp only [wz]; omega, i + 1, [1050, 1051, 1052, 1053, 1054, 1055, 1056], by omega, by omega, rfl, rfl, rfl⟩
  ·rw [if_neg hq] at e2 e4
   have qe : Ω .eq (Ω .ci i) (Ω .wrap .i64 (Ω .wrap .i64 (px * n) + bin)) = false := by rw [wat]; refine eq_false'.2 ?_; simp only [wz]; omega
   have s1 : Ω .sset (X i) i (D.agg [D.b (rd x).neg, D.sl (Ψ .lims (rd x).num), D.sl (Ψ .lims (rd x).den)]) = X (i + 1) := e2
   have s2 : Ω .sset (Y i) i (D.agg [D.b (rd y).neg, D.sl (Ψ .lims (rd y).num), D.sl (Ψ .lims (rd y).den)]) = Y (i + 1) := e4
   refine rs ?_
   rw [s1, s2]
   refine ⟨by rw [l2]; simp only [wz]; omega, by rw [l2]; simp only [wz]; omega, ?_⟩
   refine rs ?_
   rw [ws]
   exact ⟨i + 1, [1050, 1051, 1052, 1053, 1054, 1055, 1056], by omega, by omega, rfl, rfl, rfl⟩
end Go.K.S
end
section
namespace Go.K.S
open Go Go.K
section
variable {H : Type} (B : Bulk H) (enc : TypeId × Value → H) (w : World)
theorem opens_int2 : Opens B enc P w T.A2_int 2 (fun x : Int × Int => [.i .i64 x.1, .i .i64 x.2]) (fun _ x => i64 x.1 ∧ i64 x.2) := opens_array2 (t := T.A2_int) (e := T.int) (n := 1) (und_of rfl rfl) (by kernel_rfl) (opens_int B enc w)
theorem opens_rat2 : Opens B enc P w T.A2_api_Rat 6 (fun x : RL × RL => dR Ψ x.1 ++ dR Ψ x.2) (fun b x => Rn b x.1 ∧ Rn b x.2) := opens_array2 (t := T.A2_api_Rat) (e := T.api_Rat) (n := 3) (und_of rfl rfl) (by kernel_rfl) (opens_rat B enc w)
end
theorem Rn_adS {l : List RL} {i : Nat} {a : RL} {k : Nat} (h : ∀ r, r ∈ l → Rn k r) (ha : Rn k a) (hk0 : 0 < k) (hi : i < l.length) : ∀ r, r ∈ adS l i a → Rn (k + k + 1) r := fun r hr => by
 unfold adS at hr
 rcases List.mem_or_eq_of_mem_set hr with hr | rfl
 ·obtain ⟨x, hx, rfl⟩ := List.mem_map.1 hr
  exact Rn_cr.2 ((Qn_rv (h x hx) hk0).mono (by omega))
 ·rw [List.getD_eq_getElem?_getD, List.getElem?_eq_getElem hi]
  exact Rn_cr.2 (Qn_add (Qn_rv (h _ (List.getElem_mem _)) hk0) (Qn_rv ha hk0))
theorem Rn_scS {l : List RL} {a : RL} {k : Nat} (h : ∀ r, r ∈ l → Rn k r) (ha : Rn k a) (hk0 : 0 < k) : ∀ r, r ∈ scS l a → Rn (k + k) r := fun r hr => by
 unfold scS at hr
 obtain ⟨x, hx, rfl⟩ := List.mem_map.1 hr
 exact Rn_cr.2 (Qn_mul (Qn_rv ha hk0) (Qn_rv (h x hx) hk0) (by omega))
theorem is0_good : Good P F.penumbraref20_Is [.d (dF Ψ 0 0 0 [] []), .d (dF Ψ 0 0 0 [] [])] [] (.d (.b true)) [] := is20_good 0 0 0 [] [] (k := 1) (fun r h => by cases h) (fun r h => by cases h) (by omega) (by simp) (by simp)
theorem adds_ex (W H n px bin : Int) (A B : List RL) (a b : RL) {k : Nat} (hA : ∀ r, r ∈ A → Rn k r) (hB : ∀ r, r ∈ B → Rn k r) (ha : Rn k a) (hb : Rn k b) (hk0 : 0 < k) (hk : k < 4000000) (hla : A.length < 68719476736) (hlb : B.length < 68719476736) :
  ∃ (W' H' n' : Int) (A' B' : List RL) (t : Bool), Good P F.film_Add [.d (dF Ψ W H n A B), .d (.i .i64 px), .d (.i .i64 bin), .d (.agg (dR Ψ a)), .d (.agg (dR Ψ b))] [] (.tup [.d (dF Ψ W' H' n' A' B'), .d (.b t)]) [] ∧
   Good P F.penumbraref20_Add [.d (dF Ψ W H n A B), .d (.i .i64 px), .d (.i .i64 bin), .d (.agg (dR Ψ a)), .d (.agg (dR Ψ b))] [] (.tup [.d (dF Ψ W' H' n' A' B'), .d (.b t)]) [] ∧
   Good P F.penumbraref20_Is [.d (dF Ψ W' H' n' A' B'), .d (dF Ψ W' H' n' A' B')] [] (.d (.b true)) [] := by
 cases hok : adOk W H n A B px bin with
 | false =>
  exact ⟨0, 0, 0, [], [], false, fadd0_good W H n px bin A B a b hA hB hk0 (by omega) hla hlb hok, fadd200_good W H n px bin A B a b hA hB hk0 (by omega) hla hlb hok, is0_good⟩
 | true =>
  have hok' := hok
  unfold adOk at hok'
  simp only [Bool.and_eq_true, Bool.not_eq_true'] at hok'
  obtain ⟨h0, h1, h2, h3, h4⟩ := hok'
  obtain ⟨_, a1, a2, a3, a4⟩ := szok_mul (fok_szok h0)
  obtain ⟨_, _, n1, n2⟩ := szok_iff.1 (fok_szok h0)
  have hl : (A.length : Int) = W * H * n ∧ (B.length : Int) = W * H * n := by
   have h0' := h0
   simp only [fok, Bool.and_eq_true, eq_true'] at h0'
   exact ⟨h0'.2.1, h0'.2.2.1⟩
  rw [lt_false] at h1 h3
  rw [le_false] at h2 h4
  have hpn : px * n ≤ (W * H - 1) * n := Int.mul_le_mul_of_nonneg_right (by omega) (by omega)
  rw [Int.sub_mul] at hpn
  have hpn0 : 0 ≤ px * n := Int.mul_nonneg h1 (by omega)
  have hi : ((px * n + bin).toNat : Int) = px * n + bin := by omega
  have hia : (px * n + bin).toNat < A.length := by omega
  have hib : (px * n + bin).toNat < B.length := by omega
  exact ⟨W, H, n, _, _, true, fadd1_good W H n px bin A B a b _ hA hB ha hb hk0 hk hok hi, fadd201_good W H n px bin A B a b _ hA hB ha hb hk0 hk hok hi,
   is20_good W H n _ _ (k := k + k + 1) (Rn_adS hA ha hk0 hia) (Rn_adS hB hb hk0 hib) (by omega) (by rw [adS, List.length_set, List.length_map]; exact hla) (by rw [adS, List.length_set, List.length_map]; exact hlb)⟩
theorem scales_ex (W H n : Int) (A B : List RL) (a : RL) {k : Nat} (hA : ∀ r, r ∈ A → Rn k r) (hB : ∀ r, r ∈ B → Rn k r) (ha : Rn k a) (hk0 : 0 < k) (hk : k < 4000000) (hla : A.length < 68719476736) (hlb : B.length < 68719476736) :
  ∃ (W' H' n' : Int) (A' B' : List RL) (t : Bool), Good P F.film_Scale [.d (.agg (dR Ψ a)), .d (dF Ψ W H n A B)] [] (.tup [.d (dF Ψ W' H' n' A' B'), .d (.b t)]) [] ∧
   Good P F.penumbraref20_Scale [.d (.agg (dR Ψ a)), .d (dF Ψ W H n A B)] [] (.tup [.d (dF Ψ W' H' n' A' B'), .d (.b t)]) [] ∧
   Good P F.penumbraref20_Is [.d (dF Ψ W' H' n' A' B'), .d (dF Ψ W' H' n' A' B')] [] (.d (.b true)) [] := by
 cases hok : fok W H n A B with
 | false => exact ⟨0, 0, 0, [], [], false, scale0_good a W H n A B hA hB hk0 (by omega) hla hlb hok, scale200_good a W H n A B hA hB hk0 (by omega) hla hlb hok, is0_good⟩
 | true =>
  exact ⟨W, H, n, _, _, true, scale1_good a W H n A B ha hA hB hk0 hk hok, scale201_good a W H n A B ha hA hB hk0 hk hok,
   is20_good W H n _ _ (k := k + k) (Rn_scS hA ha hk0) (Rn_scS hB ha hk0) (by omega) (by rw [scS, List.length_map]; exact hla) (by rw [scS, List.length_map]; exact hlb)⟩
theorem filmAdds_num (W H n px bin : Int) (A B : List RL) (a b : RL) {k : Nat} (hA : ∀ r, r ∈ A → Rn k r) (hB : ∀ r, r ∈ B → Rn k r) (ha : Rn k a) (hb : Rn k b) (hk0 : 0 < k) (hk : k < 4000000) (hla : A.length < 68719476736) (hlb : B.length < 68719476736) :
  Good P F.penumbralaw20_FilmAdds [.d (dF Ψ W H n A B), .d (.agg [.i .i64 px, .i .i64 bin]), .d (.agg (dR Ψ a ++ dR Ψ b))] [] (.d (.b true)) [] := by
 refine G.penumbralaw20_FilmAdds fun C C2 hC hC2 => ?_
 have gf := fixed20_good
 obtain ⟨W1, H1, m1, A1, B1, t1, f1, f2, f3⟩ := adds_ex W H n px bin A B a b hA hB ha hb hk0 hk hla hlb
 obtain ⟨W2, H2, m2, A2, B2, t2, r1, r2, r3⟩ := scales_ex W H n A B a hA hB ha hk0 hk hla hlb
 have c1 := fcheck_good W H n A B hA hB hk0 (by omega) hla hlb
 have c2 := fcheck20_good W H n A B hA hB hk0 (by omega) hla hlb
 generalize fok W H n A B = t3 at *
 cases hs : szok W H n with
 | false =>
  have n1 := new0_good W H n hs
  have n2 := new200_good W H n hs
  have n3 := is0_good
  cases t1 <;> cases t2 <;> cases t3 <;> exact rs trivial
 | true =>
  obtain ⟨_, _, _, m3, m4⟩ := szok_mul hs
  have hmm : W * H * n = ((W * H * n).toNat : Int) := by omega
  have n1 := new1_good W H n _ hs hmm
  have n2 := new201_good W H n _ hs hmm
  have n3 := is20_good W H n (zer (W * H * n).toNat) (zer (W * H * n).toNat) (k := 1) Rn_zer Rn_zer (by omega) (by rw [zer, List.length_replicate]; omega) (by rw [zer, List.length_replicate]; omega)
  generalize zer (W * H * n).toNat = Z at *
  cases t1 <;> cases t2 <;> cases t3 <;> exact rs trivial
theorem filmAdds_good (x : FL) (y : Int × Int) (z : RL × RL) (hx : Fln 1048576 x) (hy : i64 y.1 ∧ i64 y.2) (hz : Rn 1048576 z.1 ∧ Rn 1048576 z.2) :
  Good P F.penumbralaw20_FilmAdds [.d (.agg (dFl Ψ x)), .d (.agg [.i .i64 y.1, .i .i64 y.2]), .d (.agg (dR Ψ z.1 ++ dR Ψ z.2))] [] (.d (.b true)) [] :=
 filmAdds_num x.W x.H x.n y.1 y.2 x.A x.B z.1 z.2 hx.A.2 hx.B.2 hz.1 hz.2 (by omega) (by omega) (by have := hx.A.1; omega) (by have := hx.B.1; omega)
end Go.K.S
end
