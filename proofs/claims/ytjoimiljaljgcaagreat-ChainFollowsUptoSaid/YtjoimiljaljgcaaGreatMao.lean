/-
  Parts of the proof, joined by a program of this work: KCd2, KFollow, KSize, KBack2, KBack3, KBack4, KBack5, KChainS, KChain, KChain2, KRef15, KRef15b, KLkN.
-/
import Derived.Test.YtjoimiljaljgcaaGreatMam
import Derived.Test.YtjoimiljaljgcaaGreatMaj
import Derived.Test.YtjoimiljaljgcaaGreatMan
set_option linter.unusedSimpArgs false
set_option linter.unusedVariables false
section
namespace Go.K
open Go
def Cn (k : Nat) (v : V3) : Prop := ∃ D : Nat, 0 < D ∧ D ≤ 4294967296 ^ k ∧ CV D (4294967296 ^ k) v
def Cs (k : Nat) (q : Rat) : Prop := ∃ D : Nat, 0 < D ∧ D ≤ 4294967296 ^ k ∧ CD D (4294967296 ^ k) q
theorem Cn.mono {j k : Nat} {v : V3} (h : Cn j v) (hjk : j ≤ k) : Cn k v := by
  obtain ⟨D, h1, h2, h3⟩ := h
  exact ⟨D, h1, Nat.le_trans h2 (B_mono hjk), h3.mono (B_mono hjk)⟩
theorem Cs.mono {j k : Nat} {v : Rat} (h : Cs j v) (hjk : j ≤ k) : Cs k v := by
  obtain ⟨D, h1, h2, h3⟩ := h
  exact ⟨D, h1, Nat.le_trans h2 (B_mono hjk), h3.mono (B_mono hjk)⟩
theorem Cn.of {k : Nat} {v : V3} (h : Pn k v) : Cn (3 * k) v := CV.of h
theorem Cs.of {k : Nat} {q : Rat} (h : Qn k q) : Cs k q := CD.of h
theorem B_lt (k : Nat) : 4294967296 ^ k < 4294967296 ^ (k + 1) := Nat.pow_lt_pow_right (by omega) (by omega)
theorem Cn.size {k : Nat} {v : V3} (h : Cn k v) : Pn (k + 1) v := by
  obtain ⟨D, h1, h2, h3⟩ := h
  have := B_lt k
  exact ⟨h3.x.size h1 (by omega) this (by omega), h3.y.size h1 (by omega) this (by omega), h3.z.size h1 (by omega) this (by omega)⟩
theorem Cs.size {k : Nat} {q : Rat} (h : Cs k q) : Qn (k + 1) q := by
  obtain ⟨D, h1, h2, h3⟩ := h
  have := B_lt k
  exact h3.size h1 (by omega) this (by omega)
theorem B_mul {a b j k : Nat} (ha : a ≤ 4294967296 ^ j) (hb : b ≤ 4294967296 ^ k) : a * b ≤ 4294967296 ^ (j + k) := by
  rw [Nat.pow_add]; exact Nat.mul_le_mul ha hb
theorem B_few {a c k : Nat} (ha : a ≤ 4294967296 ^ k) (hc : c ≤ 4294967296) : c * a ≤ 4294967296 ^ (k + 1) := by
  rw [Nat.pow_succ, Nat.mul_comm]; exact Nat.mul_le_mul ha hc
theorem Cn.add {j k : Nat} {u v : V3} (hu : Cn j u) (hv : Cn k v) : Cn (j + k + 1) (vadd u v) := by
  obtain ⟨D, d1, d2, d3⟩ := hu
  obtain ⟨E, e1, e2, e3⟩ := hv
  refine ⟨D * E, Nat.mul_pos d1 e1, Nat.le_trans (B_mul d2 e2) (B_mono (by omega)), ((d3.up E).add (e3.up' D)).mono ?_⟩
  have h1 := B_mul (Nat.le_refl (4294967296 ^ j)) e2
  have h2 := B_mul d2 (Nat.le_refl (4294967296 ^ k))
  have h3 := B_few (c := 2) (Nat.le_refl (4294967296 ^ (j + k))) (by omega)
  omega
theorem Cn.sub {j k : Nat} {u v : V3} (hu : Cn j u) (hv : Cn k v) : Cn (j + k + 1) (vsub u v) := by
  obtain ⟨D, d1, d2, d3⟩ := hu
  obtain ⟨E, e1, e2, e3⟩ := hv
  refine ⟨D * E, Nat.mul_pos d1 e1, Nat.le_trans (B_mul d2 e2) (B_mono (by omega)), ((d3.up E).sub (e3.up' D)).mono ?_⟩
  have h1 := B_mul (Nat.le_refl (4294967296 ^ j)) e2
  have h2 := B_mul d2 (Nat.le_refl (4294967296 ^ k))
  have h3 := B_few (c := 2) (Nat.le_refl (4294967296 ^ (j + k))) (by omega)
  omega
theorem Cn.smul {j k : Nat} {s : Rat} {v : V3} (hs : Cs j s) (hv : Cn k v) : Cn (j + k) (vmul s v) := by
  obtain ⟨D, d1, d2, d3⟩ := hs
  obtain ⟨E, e1, e2, e3⟩ := hv
  exact ⟨D * E, Nat.mul_pos d1 e1, B_mul d2 e2, (CV.smul d3 e3).mono (B_mul (Nat.le_refl _) (Nat.le_refl _))⟩
theorem Cn.dot {j k : Nat} {u v : V3} (hu : Cn j u) (hv : Cn k v) : Cs (j + k + 1) (vdot u v) := by
  obtain ⟨D, d1, d2, d3⟩ := hu
  obtain ⟨E, e1, e2, e3⟩ := hv
  exact ⟨D * E, Nat.mul_pos d1 e1, Nat.le_trans (B_mul d2 e2) (B_mono (by omega)), (d3.dot e3).mono (B_few (B_mul (Nat.le_refl _) (Nat.le_refl _)) (by omega))⟩
theorem Cn.cross {j k : Nat} {u v : V3} (hu : Cn j u) (hv : Cn k v) : Cn (j + k + 1) (vcross u v) := by
  obtain ⟨D, d1, d2, d3⟩ := hu
  obtain ⟨E, e1, e2, e3⟩ := hv
  exact ⟨D * E, Nat.mul_pos d1 e1, Nat.le_trans (B_mul d2 e2) (B_mono (by omega)), (d3.cross e3).mono (B_few (B_mul (Nat.le_refl _) (Nat.le_refl _)) (by omega))⟩
theorem Cs.mul {j k : Nat} {p q : Rat} (hp : Cs j p) (hq : Cs k q) : Cs (j + k) (p * q) := by
  obtain ⟨D, d1, d2, d3⟩ := hp
  obtain ⟨E, e1, e2, e3⟩ := hq
  exact ⟨D * E, Nat.mul_pos d1 e1, B_mul d2 e2, (d3.mul e3).mono (B_mul (Nat.le_refl _) (Nat.le_refl _))⟩
theorem Cs.inv {k : Nat} {q : Rat} (h : Cs k q) (hq : q ≠ 0) : Cs k (1 / q) := by
  obtain ⟨D, d1, d2, d3⟩ := h
  obtain ⟨E, e1, e2, e3⟩ := d3.inv hq d1
  exact ⟨E, e1, e2, e3.mono d2⟩
theorem Cn.meet {p e w : Nat} {o d a b c : V3} (ho : Cn p o) (hd : Cn e d) (ha : Cn w a) (hb : Cn w b) (hc : Cn w c) (h0 : vdot b (vcross d c) ≠ 0) :
    Cn (p + 2 * e + 5 * w + 2) (vadd o (vmul (1 / vdot b (vcross d c) * vdot c (vcross (vsub o a) b)) d)) := by
  obtain ⟨Do, o1, o2, o3⟩ := ho
  obtain ⟨Dd, d1, d2, d3⟩ := hd
  obtain ⟨Da, a1, a2, a3⟩ := ha
  obtain ⟨Db, b1, b2, b3⟩ := hb
  obtain ⟨Dc, c1, c2, c3⟩ := hc
  have hdet := b3.dot (d3.cross c3)
  obtain ⟨E, E1, E2, E3⟩ := hdet.inv h0 (Nat.mul_pos b1 (Nat.mul_pos d1 c1))
  have hE : E ≤ 4294967296 ^ (e + 2 * w + 1) := by
    refine Nat.le_trans E2 ?_
    have h1 := B_mul (Nat.le_refl (4294967296 ^ w)) (B_mul (Nat.le_refl (4294967296 ^ e)) (Nat.le_refl (4294967296 ^ w)))
    have h2 := B_few (c := 6) h1 (by omega)
    rw [show w + (e + w) + 1 = e + 2 * w + 1 by omega] at h2
    refine Nat.le_trans (Nat.le_of_eq ?_) h2
    rw [← Nat.mul_assoc (4294967296 ^ w) 2, Nat.mul_comm (4294967296 ^ w) 2, Nat.mul_assoc 2, ← Nat.mul_assoc 3 2]
  have hnum := c3.dot (((o3.up Da).sub (a3.up' Do)).cross b3)
  have hN : 3 * (4294967296 ^ w * (2 * ((4294967296 ^ p * Da + Do * 4294967296 ^ w) * 4294967296 ^ w))) ≤ 4294967296 ^ (p + 3 * w + 1) := by
    have h1 : 4294967296 ^ p * Da + Do * 4294967296 ^ w ≤ 2 * 4294967296 ^ (p + w) := by
      have h1 := B_mul (Nat.le_refl (4294967296 ^ p)) a2
      have h2 := B_mul o2 (Nat.le_refl (4294967296 ^ w))
      omega
    have h2 : (4294967296 ^ p * Da + Do * 4294967296 ^ w) * 4294967296 ^ w ≤ 2 * 4294967296 ^ (p + w) * 4294967296 ^ w := Nat.mul_le_mul_right _ h1
    have h3 : 4294967296 ^ w * (2 * ((4294967296 ^ p * Da + Do * 4294967296 ^ w) * 4294967296 ^ w)) ≤ 4294967296 ^ w * (2 * (2 * 4294967296 ^ (p + w) * 4294967296 ^ w)) := Nat.mul_le_mul_left _ (Nat.mul_le_mul_left _ h2)
    have h4 : 4294967296 ^ w * (2 * (2 * 4294967296 ^ (p + w) * 4294967296 ^ w)) = 4 * 4294967296 ^ (p + 3 * w) := by
      have : 4294967296 ^ (p + 3 * w) = 4294967296 ^ w * (4294967296 ^ (p + w) * 4294967296 ^ w) := by rw [← Nat.pow_add, ← Nat.pow_add]; congr 1; omega
      rw [this]
      generalize 4294967296 ^ w = A
      generalize 4294967296 ^ (p + w) = C
      grind
    have h5 := B_few (c := 12) (Nat.le_refl (4294967296 ^ (p + 3 * w))) (by omega)
    omega
  have hs := E3.mul hnum
  have hsd := CV.smul hs d3
  have eD : E * (Dc * (Do * Da * Db)) * Dd = Do * (E * Dc * Da * Db * Dd) := by grind
  rw [eD] at hsd
  have ho' := o3.up (E * Dc * Da * Db * Dd)
  have hF : E * Dc * Da * Db * Dd ≤ 4294967296 ^ (2 * e + 5 * w + 1) := by
    have := B_mul (B_mul (B_mul (B_mul hE c2) a2) b2) d2
    exact Nat.le_trans this (B_mono (by omega))
  have hn2 : Db * (Dd * Dc) * (3 * (4294967296 ^ w * (2 * ((4294967296 ^ p * Da + Do * 4294967296 ^ w) * 4294967296 ^ w)))) * 4294967296 ^ e ≤ 4294967296 ^ (p + 2 * e + 5 * w + 1) := by
    have := B_mul (B_mul (B_mul b2 (B_mul d2 c2)) hN) (Nat.le_refl (4294967296 ^ e))
    exact Nat.le_trans this (B_mono (by omega))
  have hn1 : 4294967296 ^ p * (E * Dc * Da * Db * Dd) ≤ 4294967296 ^ (p + 2 * e + 5 * w + 1) := by
    have := B_mul (Nat.le_refl (4294967296 ^ p)) hF
    exact Nat.le_trans this (B_mono (by omega))
  refine ⟨Do * (E * Dc * Da * Db * Dd), Nat.mul_pos o1 (Nat.mul_pos (Nat.mul_pos (Nat.mul_pos (Nat.mul_pos E1 c1) a1) b1) d1), ?_, (ho'.add hsd).mono ?_⟩
  · exact Nat.le_trans (B_mul o2 hF) (B_mono (by omega))
  · have h9 : 2 * 4294967296 ^ (p + 2 * e + 5 * w + 1) ≤ 4294967296 ^ (p + 2 * e + 5 * w + 2) := B_few (Nat.le_refl _) (by omega)
    refine Nat.le_trans (Nat.add_le_add hn1 hn2) (Nat.le_trans (Nat.le_of_eq ?_) h9)
    exact (Nat.two_mul _).symm
end Go.K
end
section
namespace Go.K
open Go
structure Lk where
  p : V3
  dir : V3
  hops : List Nat
  map : M4
  gain : Rat
structure Fcs where
  near : V3 → V3 → Option (Nat × Rat)
  bend : Nat → V3 → Option Rat
  unit : Nat → V3
  val : Nat → Rat
def hopS (F : Fcs) (l : Lk) (f : Nat) (s k : Rat) : Lk :=
  ⟨vadd l.p (vmul s l.dir), turnS (stretchS (vadd l.p (vmul s l.dir)) (F.unit f) k) l.dir, l.hops ++ [f], thenS (stretchS (vadd l.p (vmul s l.dir)) (F.unit f) (1 / k)) l.map, l.gain * F.val f⟩
def followS (F : Fcs) : Nat → Lk → Option (Nat × Lk)
  | n, l => match F.near l.p l.dir with
    | none => none
    | some (f, s) => match F.bend f l.dir with
      | none => some (f, { l with p := vadd l.p (vmul s l.dir) })
      | some k => match n with
        | 0 => none
        | n + 1 => followS F n (hopS F l f s k)
def lk0 (o d : V3) : Lk := ⟨o, d, [], idM, 1⟩
structure Fcs.Ok (F : Fcs) : Prop where
  pos : ∀ o d f s, F.near o d = some (f, s) → 0 < s
  unit : ∀ o d f s k, F.near o d = some (f, s) → F.bend f d = some k → vdot (F.unit f) (F.unit f) = 1 ∧ k ≠ 0
end Go.K
namespace Go.K
end Go.K
end
section
namespace Go.K
open Go
theorem Cs.neg {k : Nat} {q : Rat} (h : Cs k q) : Cs k (-q) := by
  obtain ⟨D, h1, h2, h3⟩ := h
  exact ⟨D, h1, h2, h3.neg⟩
theorem Cs.sub {j k : Nat} {p q : Rat} (hp : Cs j p) (hq : Cs k q) : Cs (j + k + 1) (p - q) := by
  obtain ⟨D, d1, d2, d3⟩ := hp
  obtain ⟨E, e1, e2, e3⟩ := hq
  refine ⟨D * E, Nat.mul_pos d1 e1, Nat.le_trans (B_mul d2 e2) (B_mono (by omega)), ((d3.up E).sub (e3.up' D)).mono ?_⟩
  have h1 := B_mul (Nat.le_refl (4294967296 ^ j)) e2
  have h2 := B_mul d2 (Nat.le_refl (4294967296 ^ k))
  have h3 := B_few (c := 2) (Nat.le_refl (4294967296 ^ (j + k))) (by omega)
  omega
theorem CD.zero (D N : Nat) : CD D N 0 := ⟨0, by grind, by simp⟩
theorem CD.one (D : Nat) : CD D D 1 := ⟨(D : Int), by rw [Rat.one_mul]; rfl, by simp⟩
theorem Cs.zero {k : Nat} : Cs k 0 := ⟨1, by omega, Nat.one_le_pow _ _ (by omega), CD.zero _ _⟩
theorem Cs.one {k : Nat} : Cs k 1 := ⟨1, by omega, Nat.one_le_pow _ _ (by omega), (CD.one 1).mono (Nat.one_le_pow _ _ (by omega))⟩
theorem Cs.inv' {k : Nat} {q : Rat} (h : Cs k q) : Cs k (1 / q) := by
  by_cases hq : q = 0
  · rw [hq, Rat.div_def, Rat.inv_zero, Rat.mul_zero]; exact Cs.zero
  · exact h.inv hq
theorem Cn.zero {k : Nat} : Cn k v0 := ⟨1, by omega, Nat.one_le_pow _ _ (by omega), ⟨CD.zero _ _, CD.zero _ _, CD.zero _ _⟩⟩
def CM (k : Nat) (m : M4) : Prop := ∃ D : Nat, 0 < D ∧ D ≤ 4294967296 ^ k ∧ CV D (4294967296 ^ k) m.x ∧ CV D (4294967296 ^ k) m.y ∧ CV D (4294967296 ^ k) m.z
theorem CM.mono {j k : Nat} {m : M4} (h : CM j m) (hjk : j ≤ k) : CM k m := by
  obtain ⟨D, h1, h2, h3, h4, h5⟩ := h
  exact ⟨D, h1, Nat.le_trans h2 (B_mono hjk), h3.mono (B_mono hjk), h4.mono (B_mono hjk), h5.mono (B_mono hjk)⟩
theorem CM.x {k : Nat} {m : M4} (h : CM k m) : Cn k m.x := by obtain ⟨D, h1, h2, h3, h4, h5⟩ := h; exact ⟨D, h1, h2, h3⟩
theorem CM.y {k : Nat} {m : M4} (h : CM k m) : Cn k m.y := by obtain ⟨D, h1, h2, h3, h4, h5⟩ := h; exact ⟨D, h1, h2, h4⟩
theorem CM.z {k : Nat} {m : M4} (h : CM k m) : Cn k m.z := by obtain ⟨D, h1, h2, h3, h4, h5⟩ := h; exact ⟨D, h1, h2, h5⟩
theorem CM.id {k : Nat} : CM k idM := by
  have h1 : 1 ≤ 4294967296 ^ k := Nat.one_le_pow _ _ (by omega)
  exact ⟨1, by omega, h1, ⟨(CD.one 1).mono h1, CD.zero _ _, CD.zero _ _⟩, ⟨CD.zero _ _, (CD.one 1).mono h1, CD.zero _ _⟩, ⟨CD.zero _ _, CD.zero _ _, (CD.one 1).mono h1⟩⟩
theorem CM.turn {j k : Nat} {m : M4} {d : V3} (hm : CM j m) (hd : Cn k d) : Cn (j + k + 1) (turnS m d) := by
  obtain ⟨D, d1, d2, d3, d4, d5⟩ := hm
  obtain ⟨E, e1, e2, e3⟩ := hd
  have h := B_few (B_mul (Nat.le_refl (4294967296 ^ j)) (Nat.le_refl (4294967296 ^ k))) (show 3 ≤ 4294967296 by omega)
  exact ⟨D * E, Nat.mul_pos d1 e1, Nat.le_trans (B_mul d2 e2) (B_mono (by omega)), ⟨(d3.dot e3).mono h, (d4.dot e3).mono h, (d5.dot e3).mono h⟩⟩
theorem CM.thenS {j k : Nat} {a b : M4} (ha : CM j a) (hb : CM k b) : CM (j + k + 1) (thenS a b) := by
  obtain ⟨D, d1, d2, d3, d4, d5⟩ := ha
  obtain ⟨E, e1, e2, e3, e4, e5⟩ := hb
  have h := B_few (B_mul (Nat.le_refl (4294967296 ^ k)) (Nat.le_refl (4294967296 ^ j))) (show 3 ≤ 4294967296 by omega)
  rw [Nat.add_comm k j] at h
  have row : ∀ r : V3, CV E (4294967296 ^ k) r → CV (E * D) (4294967296 ^ (j + k + 1)) (rowS a r) := fun r hr =>
    ⟨(hr.dot (v := ⟨a.x.x, a.y.x, a.z.x⟩) ⟨d3.x, d4.x, d5.x⟩).mono h, (hr.dot (v := ⟨a.x.y, a.y.y, a.z.y⟩) ⟨d3.y, d4.y, d5.y⟩).mono h, (hr.dot (v := ⟨a.x.z, a.y.z, a.z.z⟩) ⟨d3.z, d4.z, d5.z⟩).mono h⟩
  exact ⟨E * D, Nat.mul_pos e1 d1, Nat.le_trans (B_mul e2 d2) (B_mono (by omega)), row _ e3, row _ e4, row _ e5⟩
theorem CM.stretch {j w : Nat} {p n : V3} {s : Rat} (hs : Cs j (s - 1)) (hn : Cn w n) : CM (j + 2 * w + 1) (stretchS p n s) := by
  obtain ⟨D, d1, d2, d3⟩ := hs
  obtain ⟨E, e1, e2, e3⟩ := hn
  have hD := B_mul (B_mul d2 e2) e2
  have hN : 4294967296 ^ j * 4294967296 ^ w * 4294967296 ^ w = 4294967296 ^ (j + 2 * w) := by rw [← Nat.pow_add, ← Nat.pow_add]; congr 1; omega
  rw [show j + w + w = j + 2 * w by omega] at hD
  have h2 := B_few (c := 2) (Nat.le_refl (4294967296 ^ (j + 2 * w))) (by omega)
  have row : ∀ (e : V3) (x : Rat), CV (D * E * E) (D * E * E) e → CD E (4294967296 ^ w) x → CV (D * E * E) (4294967296 ^ (j + 2 * w + 1)) (vadd e (vmul ((s - 1) * x) n)) := fun e x he hx => by
    have h := he.add (CV.smul (d3.mul hx) e3)
    refine h.mono ?_
    rw [hN]
    omega
  refine ⟨D * E * E, Nat.mul_pos (Nat.mul_pos d1 e1) e1, Nat.le_trans hD (B_mono (by omega)), ?_, ?_, ?_⟩
  · exact row ⟨1, 0, 0⟩ n.x ⟨CD.one _, CD.zero _ _, CD.zero _ _⟩ e3.x
  · exact row ⟨0, 1, 0⟩ n.y ⟨CD.zero _ _, CD.one _, CD.zero _ _⟩ e3.y
  · exact row ⟨0, 0, 1⟩ n.z ⟨CD.zero _ _, CD.zero _ _, CD.one _⟩ e3.z
theorem Cn.move {j w p : Nat} {o n : V3} {s : Rat} (hs : Cs j (s - 1)) (hn : Cn w n) (ho : Cn p o) : Cn (j + p + 2 * w + 1) (stretchS o n s).move :=
  (Cn.smul (hs.mul (ho.dot hn)).neg hn).mono (by omega)
def mvB (p0 G : Nat) : Nat → Nat
  | 0 => 0
  | i + 1 => mvB p0 G i + (p0 + (i + 1) * G) + 10000
structure LkN (p0 e0 G i : Nat) (l : Lk) : Prop where
  p : Cn (p0 + i * G) l.p
  d : Cn (e0 + 930 * i) l.dir
  m : CM (930 * i + 1) l.map
  v : Cn (mvB p0 G i) l.map.move
  g : Qn (2 * i + 1) l.gain
structure Fcs.N (F : Fcs) : Prop where
  unit : ∀ f, Cn 450 (F.unit f)
  val : ∀ f, Qn 2 (F.val f)
  bend : ∀ f d k, F.bend f d = some k → Cs 12 k
  len : ∀ o d f s p e, F.near o d = some (f, s) → Cn p o → Cn e d → Cs (p + e + 70) s
  meet : ∀ o d f s p e, F.near o d = some (f, s) → Cn p o → Cn e d → Cn (p + 2 * e + 67) (vadd o (vmul s d))
theorem LkN.start {p0 e0 G : Nat} {o d : V3} (ho : Cn p0 o) (hd : Cn e0 d) : LkN p0 e0 G 0 (lk0 o d) :=
  ⟨ho.mono (by omega), hd, CM.id, Cn.zero, Qn_one (by omega)⟩
theorem LkN.at {F : Fcs} (hF : F.N) {p0 e0 G i : Nat} (hG : 2 * e0 + 20000 ≤ G) {l : Lk} (h : LkN p0 e0 G i l) (hi : i < 9) {f : Nat} {s : Rat} (hn : F.near l.p l.dir = some (f, s)) : Cn (p0 + (i + 1) * G) (vadd l.p (vmul s l.dir)) :=
  (hF.meet _ _ _ _ _ _ hn h.p h.d).mono (by rw [Nat.add_mul i 1]; omega)
theorem bend_cs {F : Fcs} (hF : F.N) {f : Nat} {d : V3} {k : Rat} (hb : F.bend f d = some k) : Cs 14 (k - 1) ∧ Cs 14 (1 / k - 1) :=
  ⟨((hF.bend _ _ _ hb).sub (Cs.one (k := 1))).mono (by omega), ((hF.bend _ _ _ hb).inv'.sub (Cs.one (k := 1))).mono (by omega)⟩
theorem LkN.hop {F : Fcs} (hF : F.N) {p0 e0 G i : Nat} (hG : 2 * e0 + 20000 ≤ G) {l : Lk} (h : LkN p0 e0 G i l) (hi : i < 8) {f : Nat} {s k : Rat} (hn : F.near l.p l.dir = some (f, s)) (hb : F.bend f l.dir = some k) : LkN p0 e0 G (i + 1) (hopS F l f s k) := by
  obtain ⟨b1, b2⟩ := bend_cs hF hb
  have hp := h.at hF hG (by omega) hn
  have hu := hF.unit f
  refine ⟨hp, ?_, ?_, ?_, ?_⟩
  · exact ((CM.stretch b1 hu).turn h.d).mono (by omega)
  · exact ((CM.stretch b2 hu).thenS h.m).mono (by omega)
  · show Cn _ (vadd (turnS l.map _) l.map.move)
    have h1 := Cn.move b2 hu hp
    have h2 := (h.m.turn h1).add h.v
    refine h2.mono ?_
    rw [mvB]
    omega
  · exact (Qn_mul h.g (hF.val f) (by omega)).mono (by omega)
end Go.K
end
section
namespace Go.K
open Go
def rawS (o d : V3) (t : T3) : Option M3 :=
  if vdot (vsub t.b t.a) (vcross d (vsub t.c t.a)) = 0 then none
  else some ⟨1 / vdot (vsub t.b t.a) (vcross d (vsub t.c t.a)) * vdot (vsub t.c t.a) (vcross (vsub o t.a) (vsub t.b t.a)), 1 / vdot (vsub t.b t.a) (vcross d (vsub t.c t.a)) * vdot (vsub o t.a) (vcross d (vsub t.c t.a)),
      1 / vdot (vsub t.b t.a) (vcross d (vsub t.c t.a)) * vdot d (vcross (vsub o t.a) (vsub t.b t.a))⟩
def inS (m : M3) : Prop := 0 ≤ m.u ∧ 0 ≤ m.v ∧ m.u + m.v ≤ 1
theorem hit_raw {o d : V3} {t : T3} {m : M3} : hitS o d t = some m ↔ rawS o d t = some m ∧ 0 < m.s ∧ inS m := by
  unfold hitS rawS inS
  split
  · constructor
    · intro h; cases h
    · intro h; cases h.1
  · generalize 1 / vdot (vsub t.b t.a) (vcross d (vsub t.c t.a)) * vdot (vsub t.c t.a) (vcross (vsub o t.a) (vsub t.b t.a)) = s
    generalize 1 / vdot (vsub t.b t.a) (vcross d (vsub t.c t.a)) * vdot (vsub o t.a) (vcross d (vsub t.c t.a)) = u
    generalize 1 / vdot (vsub t.b t.a) (vcross d (vsub t.c t.a)) * vdot d (vcross (vsub o t.a) (vsub t.b t.a)) = v
    split
    · constructor
      · intro h; cases h
      · rintro ⟨h, h1, h2, h3, h4⟩
        cases h
        simp only at h2
        grind
    · split
      · constructor
        · intro h; cases h
        · rintro ⟨h, h1, h2, h3, h4⟩
          cases h
          simp only at *
          grind
      · constructor
        · intro h
          cases h
          refine ⟨rfl, ?_, ?_, ?_, ?_⟩ <;> simp only <;> grind
        · intro h; exact h.1
end Go.K
end
section
namespace Go.K
open Go
structure Fcs.Near (F : Fcs) (tri : Nat → T3) (N : Nat) : Prop where
  some : ∀ o d f s, F.near o d = some (f, s) → f < N ∧ ∃ m, hitS o d (tri f) = some m ∧ m.s = s ∧ ∀ j m', j < N → hitS o d (tri j) = some m' → s < m'.s ∨ (s = m'.s ∧ f ≤ j)
  none : ∀ o d, F.near o d = none → ∀ j, j < N → hitS o d (tri j) = none
theorem near_is {F : Fcs} {tri : Nat → T3} {N : Nat} (h : F.Near tri N) {o d : V3} {f : Nat} {m : M3} (hf : f < N) (hm : hitS o d (tri f) = some m) (hu : ∀ j m', j < N → hitS o d (tri j) = some m' → m.s < m'.s ∨ j = f) : F.near o d = some (f, m.s) := by
  cases hn : F.near o d with
  | none => rw [h.none o d hn f hf] at hm; cases hm
  | some x =>
    obtain ⟨g, s⟩ := x
    obtain ⟨hg, m2, h1, h2, h3⟩ := h.some o d g s hn
    have h4 := h3 f m hf hm
    have h5 := hu g m2 hg h1
    have hgf : g = f := by
      rcases h5 with h5 | h5
      · exfalso; rw [h2] at h5
        rcases h4 with h4 | h4
        · grind
        · grind
      · exact h5
    subst hgf
    rw [h1] at hm
    cases hm
    rw [h2]
end Go.K
end
section
namespace Go.K
open Go
inductive Way (F : Fcs) (l0 : Lk) (g0 : Nat) : Lk → Nat → Nat → Prop where
  | start : Way F l0 g0 l0 g0 0
  | hop {l : Lk} {g n f : Nat} {s k : Rat} : Way F l0 g0 l g n → F.near l.p l.dir = some (f, s) → F.bend f l.dir = some k → Way F l0 g0 (hopS F l f s k) f (n + 1)
structure Fcs.Geo (F : Fcs) (tri : Nat → T3) (N : Nat) : Prop where
  normal : ∀ f, f < N → ∃ v : Rat, vcross (vsub (tri f).b (tri f).a) (vsub (tri f).c (tri f).a) = vmul v (F.unit f)
  rev : ∀ f d k p, F.bend f d = some k → vdot d (F.unit f) ≠ 0 → F.bend f (vmul (-1) (turnS (stretchS p (F.unit f) k) d)) = some (1 / k)
end Go.K
end
section
namespace Go.K
open Go
end Go.K
end
section
namespace Go.K
open Go
def matF (s : ScL) (f : Nat) : Option MatL := match s.faces[f]? with
  | some fc => s.mats[fc.mat.toNat]?
  | none => none
def unitF (s : ScL) (f : Nat) : V3 := match s.faces[f]? with
  | some fc => (unitR (normS (tv fc.tri))).1
  | none => v0
def trisA (s : ScL) : List TL := trisL s s.faces.length
def nearF (s : ScL) (o d : V3) : Option (Nat × Rat) :=
  if 0 ≤ (firstS (Ψ .cV o) (Ψ .cV d) (trisA s)).best then some ((firstS (Ψ .cV o) (Ψ .cV d) (trisA s)).best.toNat, (firstS (Ψ .cV o) (Ψ .cV d) (trisA s)).m.s) else none
def fcsOf (s : ScL) (bin : Nat) : Fcs where
  near := nearF s
  bend f d := match matF s f with
    | some m => bendM s.waves m bin (decide (vdot d (unitF s f) < 0))
    | none => none
  unit := unitF s
  val f := match matF s f with
    | some m => match m.vals[bin]? with
      | some r => rv r
      | none => 0
    | none => 0
theorem trisA_get (s : ScL) (i : Nat) : (trisA s)[i]? = (s.faces[i]?).map fun f => f.tri := by
  unfold trisA trisL
  rw [List.take_length, List.getElem?_map]
theorem trisA_len (s : ScL) : (trisA s).length = s.faces.length := by
  unfold trisA trisL
  rw [List.take_length, List.length_map]
def triF (s : ScL) (f : Nat) : T3 := match s.faces[f]? with
  | some fc => tv fc.tri
  | none => ⟨v0, v0, v0⟩
theorem hitAt_tri {s : ScL} {o d : V3} {i : Nat} (h : i < s.faces.length) : hitAt (Ψ .cV o) (Ψ .cV d) (trisA s) i = hitS o d (triF s i) := by
  unfold hitAt triF
  rw [trisA_get, List.getElem?_eq_getElem h, vv_cV, vv_cV]
  rfl
theorem near_F (s : ScL) (bin : Nat) : (fcsOf s bin).Near (triF s) s.faces.length where
  some := fun o d f t h => by
    have h' : nearF s o d = some (f, t) := h
    unfold nearF at h'
    have hb := first_best (Ψ .cV o) (Ψ .cV d) (trisA s)
    rw [trisA_len] at hb
    split at h'
    · rename_i h0
      cases h'
      rcases hb with ⟨e, _⟩ | ⟨i, h1, h2, h3, h4⟩
      · rw [e] at h0; exact absurd h0 (by decide)
      · have e1 : (firstS (Ψ .cV o) (Ψ .cV d) (trisA s)).best.toNat = i := by omega
        rw [e1]
        refine ⟨h2, _, by rw [← hitAt_tri h2]; exact h3, rfl, fun j m' hj hm => ?_⟩
        exact h4 j m' hj (by rw [hitAt_tri hj]; exact hm)
    · cases h'
  none := fun o d h j hj => by
    have h' : nearF s o d = none := h
    unfold nearF at h'
    have hb := first_best (Ψ .cV o) (Ψ .cV d) (trisA s)
    rw [trisA_len] at hb
    split at h'
    · cases h'
    · rename_i h0
      rcases hb with ⟨e, hn⟩ | ⟨i, h1, h2, h3, h4⟩
      · rw [← hitAt_tri hj]; exact hn j hj
      · omega
theorem matF_some {s : ScL} (ok : ScOk s) {f : Nat} (h : f < s.faces.length) : ∃ fc m, s.faces[f]? = some fc ∧ s.mats[fc.mat.toNat]? = some m ∧ fc.mat = Ω .ci fc.mat.toNat ∧ matF s f = some m := by
  obtain ⟨fc, hfc⟩ : ∃ fc, s.faces[f]? = some fc := ⟨_, List.getElem?_eq_getElem h⟩
  have h2 := (ok.fb fc (List.mem_of_getElem? hfc)).2
  obtain ⟨m, hm⟩ : ∃ m, s.mats[fc.mat.toNat]? = some m := ⟨_, List.getElem?_eq_getElem (by omega)⟩
  exact ⟨fc, m, hfc, hm, by rw [w_ci]; omega, by unfold matF; rw [hfc]; exact hm⟩
theorem triF_n {s : ScL} (ok : ScOk s) {f : Nat} (h : f < s.faces.length) : Pn 2 (triF s f).a ∧ Pn 2 (triF s f).b ∧ Pn 2 (triF s f).c := by
  have hfc : s.faces[f]? = some s.faces[f] := List.getElem?_eq_getElem h
  have e2 : triF s f = tv (s.faces[f]).tri := by unfold triF; rw [hfc]
  rw [e2]
  exact T3n (ok.n.fv _ (List.getElem_mem h)) (by omega)
theorem unitF_n {s : ScL} (ok : ScOk s) (f : Nat) : Pn 150 (unitF s f) := by
  unfold unitF
  cases h : s.faces[f]? with
  | none => exact Pn_v0 (by omega)
  | some fc => exact (unit_n (Pn_norm (T3n (ok.n.fv _ (List.mem_of_getElem? h)) (by omega)) (by omega)) (by omega)).1
theorem etaM_n {s : ScL} (ok : ScOk s) {m : MatL} (hm : m ∈ s.mats) (bin : Nat) : Qn 12 ((etaM s.waves m bin).getD 0) := by
  have hv := ok.n.mv m hm
  unfold etaM
  cases h : s.waves[bin]? with
  | none => exact Qn_zero (by omega)
  | some w =>
    have hwk := Qn_rv (ok.n.wv w (List.mem_of_getElem? h)) (by omega)
    simp only
    split
    · exact (Qn_add (Qn_rv hv.2.1 (by omega)) (Qn_div (Qn_rv hv.2.2 (by omega)) (Qn_mul hwk hwk (by omega)) (by omega))).mono (by omega)
    · exact Qn_zero (by omega)
theorem bendM_cs {s : ScL} (ok : ScOk s) {m : MatL} (hm : m ∈ s.mats) {bin : Nat} {fr : Bool} {k : Rat} (h : bendM s.waves m bin fr = some k) : Cs 12 k := by
  have he := Cs.of (etaM_n ok hm bin)
  unfold bendM at h
  split at h
  · cases h; exact Cs.neg Cs.one
  · split at h
    · cases fr with
      | true => cases h; exact he
      | false => cases h; exact he.inv'
    · cases h
theorem matF_mem {s : ScL} {f : Nat} {m : MatL} (h : matF s f = some m) : m ∈ s.mats := by
  unfold matF at h
  split at h
  · exact List.mem_of_getElem? h
  · cases h
theorem n_F {s : ScL} (ok : ScOk s) (bin : Nat) : (fcsOf s bin).N where
  unit := fun f => Cn.of (unitF_n ok f)
  val := fun f => by
    show Qn 2 (match matF s f with | some m => (match m.vals[bin]? with | some r => rv r | none => 0) | none => 0)
    cases h : matF s f with
    | none => exact Qn_zero (by omega)
    | some m =>
      simp only
      cases h2 : m.vals[bin]? with
      | none => exact Qn_zero (by omega)
      | some r => exact Qn_rv ((ok.n.mv m (matF_mem h)).1 r (List.mem_of_getElem? h2)) (by omega)
  bend := fun f d k h => by
    have h' : (match matF s f with | some m => bendM s.waves m bin (decide (vdot d (unitF s f) < 0)) | none => none) = some k := h
    cases hm : matF s f with
    | none => rw [hm] at h'; cases h'
    | some m => rw [hm] at h'; exact bendM_cs ok (matF_mem hm) h'
  len := fun o d f t p e h ho hd => by
    obtain ⟨hf, m, h1, h2, _⟩ := (near_F s bin).some o d f t h
    obtain ⟨a, b, c⟩ := triF_n ok hf
    have r := (hit_raw.1 h1).1
    unfold rawS at r
    split at r
    · cases r
    · cases r
      rw [← h2]
      have cb := (Cn.sub (Cn.of b) (Cn.of a)).mono (show _ ≤ 13 by omega)
      have cc := (Cn.sub (Cn.of c) (Cn.of a)).mono (show _ ≤ 13 by omega)
      exact (Cs.mul (Cs.inv' (Cn.dot cb (Cn.cross hd cc))) (Cn.dot cc (Cn.cross (Cn.sub ho (Cn.of a)) cb))).mono (by omega)
  meet := fun o d f t p e h ho hd => by
    obtain ⟨hf, m, h1, h2, _⟩ := (near_F s bin).some o d f t h
    obtain ⟨a, b, c⟩ := triF_n ok hf
    have r := (hit_raw.1 h1).1
    unfold rawS at r
    split at r
    · cases r
    · rename_i h0
      cases r
      rw [← h2]
      have ca := (Cn.of a).mono (show _ ≤ 13 by omega)
      have cb := (Cn.sub (Cn.of b) (Cn.of a)).mono (show _ ≤ 13 by omega)
      have cc := (Cn.sub (Cn.of c) (Cn.of a)).mono (show _ ≤ 13 by omega)
      exact (Cn.meet ho hd ca cb cc h0).mono (by omega)
end Go.K
end
section
namespace Go.K
open Go
def zR : RL := ⟨false, [], []⟩
def zV : VL := ⟨zR, zR, zR⟩
def zM : MapL := ⟨zV, zV, zV, zV⟩
def lkC (Ψ : (t : Sd) → STy t) (face : Int) (own : V) (p dir : VL) (map : MapL) (gain : RL) : List V :=
  .d (.i .i64 face) :: ((dV Ψ p).map V.d ++ (dV Ψ dir).map V.d ++ own :: ((dMap Ψ map).map V.d ++ (dR Ψ gain).map V.d))
def z3 : List V := [.d (.b false), .nil, .nil]
def lkZ : List V := .d (.i .i64 0) :: (z3 ++ z3 ++ z3 ++ (z3 ++ z3 ++ z3) ++ .nil :: (z3 ++ z3 ++ z3 ++ (z3 ++ z3 ++ z3) ++ (z3 ++ z3 ++ z3) ++ (z3 ++ z3 ++ z3) ++ z3))
def lkV (Ψ : (t : Sd) → STy t) (face : Int) (own : V) (l : Lk) : List V := lkC Ψ face own (Ψ .cV l.p) (Ψ .cV l.dir) (cMap Ψ l.map) (Ψ .cr l.gain)
theorem nearF_none {s : ScL} {o d : V3} (h : nearF s o d = none) : ¬ 0 ≤ (firstS (Ψ .cV o) (Ψ .cV d) (trisA s)).best := fun c => by
  unfold nearF at h
  rw [if_pos c] at h
  cases h
theorem nearF_some {s : ScL} {o d : V3} {f : Nat} {t : Rat} (h : nearF s o d = some (f, t)) : 0 ≤ (firstS (Ψ .cV o) (Ψ .cV d) (trisA s)).best ∧ (firstS (Ψ .cV o) (Ψ .cV d) (trisA s)).best = Ω .ci f ∧ (firstS (Ψ .cV o) (Ψ .cV d) (trisA s)).m.s = t := by
  unfold nearF at h
  split at h
  · rename_i c
    cases h
    exact ⟨c, by rw [w_ci]; omega, rfl⟩
  · cases h
end Go.K
namespace Go.K.S
open Go Go.K
set_option maxHeartbeats 16000000
set_option maxRecDepth 20000
def rB (MD FD : List D) (s : ScL) : List Blk := rblks Ψ MD FD (nodesD (buildS (trisA s)).nodes) (oD (buildS (trisA s)).order) (trisD (trisA s)) (Ψ .dVs (unitsL s s.faces.length)) (Ψ .dRs (areasL s s.faces.length)) (oD (lightsL s s.faces.length)) s T.api_Tri T.api_Vec T.api_Rat T.int
def fromV (r : Option (Nat × Lk)) : V := match r with
  | none => .tup [.agg lkZ, .d (.b false)]
  | some (f, l) => .tup [.agg (lkV Ψ (Ω .ci f) (.own 5 1) l), .d (.b true)]
def fromB (r : Option (Nat × Lk)) : List Blk := match r with
  | none => []
  | some (_, l) => [.row true T.int 1 (oD l.hops)]
theorem from_good (s : ScL) {MD FD : List D} (hD : ScD s MD FD) (ok : ScOk s) (o d : VL) {K p0 e0 gr bin : Nat} (hG : 2 * e0 + 20000 ≤ gr) (ho : Vn K o) (hd : Vn K d) (hK : K < 549755813888) (cp : Cn p0 (vv o)) (ce : Cn e0 (vv d)) (hb : bin < s.waves.length)
    (hp0 : p0 + 9 * gr < 134000000) (hm0 : mvB p0 gr 7 < 714000000) :
    Good P F.chain_From [.ptr 0 0, .agg ((dV Ψ o).map V.d), .agg ((dV Ψ d).map V.d), .d (.i .i64 (Ω .ci bin))] (rB MD FD s)
      (fromV (followS (fcsOf s bin) 8 (lk0 (vv o) (vv d)))) (rB MD FD s ++ fromB (followS (fcsOf s bin) 8 (lk0 (vv o) (vv d)))) := by
  refine G.chain_From (hb := of_decide_eq_true rfl) fun C C2 hC hC2 => ?_
  have f2 := ok.f2
  have H := triH_map (tris := trisA s) (by rw [trisA_len]; omega)
  have htn : ∀ t, t ∈ trisA s → Tn 2 t := fun t ht => by
    obtain ⟨f, hf, rfl⟩ := List.mem_map.1 ht
    exact ok.n.fv f (List.mem_of_mem_take hf)
  have g1 := vread_good o ho hK
  have g2 := vread_good d hd hK
  have g3 := ident_good
  have g4 := of11_good
  have nF := n_F ok bin
  obtain ⟨M7, hM7⟩ : ∃ M, M = mvB p0 gr 7 := ⟨_, rfl⟩
  have hmvB : ∀ i, i ≤ 7 → mvB p0 gr i ≤ M7 := fun i hi => by
    rw [hM7]
    rcases (show i = 0 ∨ i = 1 ∨ i = 2 ∨ i = 3 ∨ i = 4 ∨ i = 5 ∨ i = 6 ∨ i = 7 by omega) with rfl | rfl | rfl | rfl | rfl | rfl | rfl | rfl <;> simp only [mvB] <;> omega
  rw [← hM7] at hm0
  clear hM7
  have hfin : ∀ r : Option (Nat × Lk), r = followS (fcsOf s bin) 8 (lk0 (vv o) (vv d)) → True := fun _ _ => trivial
  obtain ⟨R, hR⟩ : ∃ R, R = followS (fcsOf s bin) 8 (lk0 (vv o) (vv d)) := ⟨_, rfl⟩
  rw [← hR]
  have hround : ∀ (i : Nat) (l : Lk), i ≤ 8 → LkN p0 e0 gr i l → True := fun _ _ _ _ => trivial
  have e1 : Ψ .cV (vv o) = Ψ .cV (lk0 (vv o) (vv d)).p := rfl
  have e2 : Ψ .cV (vv d) = Ψ .cV (lk0 (vv o) (vv d)).dir := rfl
  have e3 : cMap Ψ idM = cMap Ψ (lk0 (vv o) (vv d)).map := rfl
  have e4 : Ψ .cr 1 = Ψ .cr (lk0 (vv o) (vv d)).gain := rfl
  have e5 : oD (lk0 (vv o) (vv d)).hops = [] := rfl
  have hN0 : LkN p0 e0 gr 0 (lk0 (vv o) (vv d)) := LkN.start cp ce
  have hl0 : (lk0 (vv o) (vv d)).hops.length = 0 := rfl
  rw [e1] at g1
  rw [e2] at g2
  rw [e3] at g3
  have g4' := g4
  rw [e4] at g4'
  clear e1 e2 e3 e4 hfin hround cp ce
  generalize lk0 (vv o) (vv d) = l0 at *
  have hul : (unitsL s s.faces.length).length = s.faces.length := by unfold unitsL; rw [List.length_map, List.length_take]; omega
  have hug : ∀ f fc, s.faces[f]? = some fc → Ω .sget (Ψ .dVs (unitsL s s.faces.length)) f = some (.agg (dV Ψ (faceU fc))) := fun f fc h => by
    rw [sget_dVs]; unfold unitsL; rw [List.take_length, List.getElem?_map, h]; rfl
  have gN : ∀ (i : Nat) (l : Lk), i ≤ 8 → LkN p0 e0 gr i l → Good P F.trace_Nearest [.d (.agg [.sl (nodesD (buildS (trisA s)).nodes), .sl (oD (buildS (trisA s)).order)]), .d (.sl (trisD (trisA s))), .d (.agg (dV Ψ (Ψ .cV l.p))), .d (.agg (dV Ψ (Ψ .cV l.dir)))] []
        (.tup [.d (.i .i64 (firstS (Ψ .cV l.p) (Ψ .cV l.dir) (trisA s)).best), .d (.agg (dM Ψ (Ψ .cM (firstS (Ψ .cV l.p) (Ψ .cV l.dir) (trisA s)).m))), .d (.b (decide (0 ≤ (firstS (Ψ .cV l.p) (Ψ .cV l.dir) (trisA s)).best)))]) [] := fun i l hi hN => by
    have hpi : i * gr ≤ 8 * gr := Nat.mul_le_mul_right _ hi
    exact nearest_build H (Ψ .cV l.p) (Ψ .cV l.dir) (k := p0 + 9 * gr) (Vn_cV (hN.p.size.mono (by omega))) (Vn_cV (hN.d.size.mono (by omega))) (fun t ht => (htn t ht).mono (by omega)) (by omega) (by omega) (by rw [trisA_len]; omega)
  have gM : ∀ (i : Nat) (l : Lk) (f : Nat) (t : Rat), i ≤ 8 → LkN p0 e0 gr i l → nearF s l.p l.dir = some (f, t) → ∃ fc m, s.faces[f]? = some fc ∧ Ω .sget (Ψ .dVs (unitsL s s.faces.length)) f = some (.agg (dV Ψ (faceU fc))) ∧ f < s.faces.length ∧ matF s f = some m ∧
      Good P F.tri_At [.d (.agg (dV Ψ (Ψ .cV l.p))), .d (.agg (dV Ψ (Ψ .cV l.dir))), .d (.agg (dR Ψ (Ψ .cr t)))] [] (.d (.agg (dV Ψ (Ψ .cV (vadd l.p (vmul t l.dir)))))) [] ∧
      Good P F.vec_Dot [.d (.agg (dV Ψ (Ψ .cV l.dir))), .d (.agg (dV Ψ (faceU fc)))] [] (.d (.agg (dR Ψ (Ψ .cr (vdot l.dir (unitF s f)))))) [] ∧
      Good P F.rat_Sign [.d (.agg (dR Ψ (Ψ .cr (vdot l.dir (unitF s f)))))] [] (.d (.i .i64 (Ψ .sI (vdot l.dir (unitF s f))))) [] ∧
      (∀ front, Good P F.P_ready_Scene_Bend [.ptr 0 0, .d (.i .i64 (Ω .ci f)), .d (.i .i64 (Ω .ci bin)), .d (.b front)] (rB MD FD s) (.tup [.agg ((dR Ψ (Ψ .cr ((bendM s.waves m bin front).getD 0))).map V.d), .d (.b (bendM s.waves m bin front).isSome)]) (rB MD FD s)) ∧
      Good P F.P_ready_Scene_Mat [.ptr 0 0, .d (.i .i64 (Ω .ci f))] (rB MD FD s) (.agg ((dMat Ψ m).map V.d)) (rB MD FD s) ∧ m ∈ s.mats := fun i l f t hi hN hn => by
    have hpi : i * gr ≤ 8 * gr := Nat.mul_le_mul_right _ hi
    obtain ⟨hf, _⟩ := (near_F s bin).some _ _ _ _ hn
    obtain ⟨fc, m, h1, h2, h3, h4⟩ := matF_some ok hf
    have ct := (nF.len _ _ _ _ _ _ hn hN.p hN.d).size
    have pp := hN.p.size
    have pd := hN.d.size
    have ga := at_good (Ψ .cV l.p) (Ψ .cV l.dir) (Ψ .cr t) (k := 2 * (p0 + 9 * gr)) (Vn_cV (pp.mono (by omega))) (Vn_cV (pd.mono (by omega))) (Rn_cr.2 (ct.mono (by omega))) (by omega) (by omega)
    rw [vv_cV, vv_cV, rv_cr] at ga
    have eu : vv (faceU fc) = unitF s f := by unfold unitF faceU; rw [h1, vv_cV]
    have pu : Vn 150 (faceU fc) := by
      have := unitF_n ok f
      rw [← eu] at this
      unfold faceU at this ⊢
      rw [vv_cV] at this
      exact Vn_cV this
    have gd := vdot_good (Ψ .cV l.dir) (faceU fc) (k := p0 + 9 * gr) (Vn_cV (pd.mono (by omega))) (pu.mono (by omega)) (by omega) (by omega)
    rw [vv_cV, eu] at gd
    have qd := Qn_dot (pd.mono (show _ ≤ p0 + 9 * gr by omega)) ((unitF_n ok f).mono (show 150 ≤ p0 + 9 * gr by omega)) (by omega)
    have gs := sign_good (Ψ .cr (vdot l.dir (unitF s f))) (Rn_cr.2 qd) (by omega)
    rw [rv_cr] at gs
    have hv := ok.n.mv m (List.mem_of_getElem? h2)
    exact ⟨fc, m, h1, hug f fc h1, hf, h4, ga, gd, gs, fun front => bend_good s hD h1 h2 h3 hb hv.2.1 hv.2.2 ok.n.wv front, mat_good s hD h1 h2 h3, List.mem_of_getElem? h2⟩
  have gH : ∀ (i : Nat) (l : Lk) (f : Nat) (t k : Rat) (fc : FaceL) (m : MatL), i ≤ 7 → LkN p0 e0 gr i l → nearF s l.p l.dir = some (f, t) → s.faces[f]? = some fc → matF s f = some m → bendM s.waves m bin (decide (vdot l.dir (unitF s f) < 0)) = some k →
      LkN p0 e0 gr (i + 1) (hopS (fcsOf s bin) l f t k) ∧ (∃ r, Ω .sget (Ψ .dRs m.vals) bin = some (.agg (dR Ψ r)) ∧ Good P F.rat_Product [.d (.sl [.agg (dR Ψ (Ψ .cr l.gain)), .agg (dR Ψ r)])] [] (.d (.agg (dR Ψ (Ψ .cr (hopS (fcsOf s bin) l f t k).gain)))) []) ∧
      Good P F.rat_Div [.d (.agg (dR Ψ (Ψ .cr 1))), .d (.agg (dR Ψ (Ψ .cr k)))] [] (.tup [.d (.agg (dR Ψ (Ψ .cr (1 / k)))), .d (.b (decide (k ≠ 0)))]) [] ∧
      (∃ A, Good P F.affine_Stretch [.d (.agg (dV Ψ (Ψ .cV (vadd l.p (vmul t l.dir))))), .d (.agg (dV Ψ (faceU fc))), .d (.agg (dR Ψ (Ψ .cr k)))] [] (.d (.agg (dMap Ψ A))) [] ∧ Good P F.affine_Turn [.d (.agg (dMap Ψ A)), .d (.agg (dV Ψ (Ψ .cV l.dir)))] [] (.d (.agg (dV Ψ (Ψ .cV (hopS (fcsOf s bin) l f t k).dir)))) []) ∧
      (∃ A, Good P F.affine_Stretch [.d (.agg (dV Ψ (Ψ .cV (vadd l.p (vmul t l.dir))))), .d (.agg (dV Ψ (faceU fc))), .d (.agg (dR Ψ (Ψ .cr (1 / k))))] [] (.d (.agg (dMap Ψ A))) [] ∧ Good P F.affine_Then [.d (.agg (dMap Ψ A)), .d (.agg (dMap Ψ (cMap Ψ l.map)))] [] (.d (.agg (dMap Ψ (cMap Ψ (hopS (fcsOf s bin) l f t k).map)))) []) := by
    intro i l f t k fc m hi hN hn hfc hm hbk
    have hpi : (i + 1) * gr ≤ 8 * gr := Nat.mul_le_mul_right _ (by omega)
    have hb' : (fcsOf s bin).bend f l.dir = some k := by
      show (match matF s f with | some m => bendM s.waves m bin (decide (vdot l.dir (unitF s f) < 0)) | none => none) = some k
      rw [hm]; exact hbk
    have hmm := matF_mem hm
    have hvl : m.vals.length = s.waves.length := by
      have h := ok.mb m hmm
      unfold matB at h
      simp only [Bool.and_eq_true, decide_eq_true_eq] at h
      exact h.1.2
    have hr : m.vals[bin]? = some (m.vals[bin]'(by omega)) := List.getElem?_eq_getElem (by omega)
    have hrn := (ok.n.mv m hmm).1 _ (List.mem_of_getElem? hr)
    have eu : vv (faceU fc) = unitF s f := by unfold unitF faceU; rw [hfc, vv_cV]
    have pu : Vn 150 (faceU fc) := by
      have := unitF_n ok f
      rw [← eu] at this
      unfold faceU at this ⊢
      rw [vv_cV] at this
      exact Vn_cV this
    obtain ⟨b1, b2⟩ := bend_cs nF hb'
    have ck := nF.bend _ _ _ hb'
    have qk := ck.size
    have qk' := ck.inv'.size
    have cu := nF.unit f
    have hp' := hN.at nF hG (by omega) hn
    have pp' := hp'.size
    have hat : ∀ (r : Rat), Qn 13 r → Cs 14 (r - 1) → ∃ A, A = cMap Ψ (stretchS (vadd l.p (vmul t l.dir)) (unitF s f) r) ∧ Mpn (p0 + 9 * gr) A ∧
        Good P F.affine_Stretch [.d (.agg (dV Ψ (Ψ .cV (vadd l.p (vmul t l.dir))))), .d (.agg (dV Ψ (faceU fc))), .d (.agg (dR Ψ (Ψ .cr r)))] [] (.d (.agg (dMap Ψ A))) [] := fun r hr hr2 => by
      have g := stretch_good (Ψ .cV (vadd l.p (vmul t l.dir))) (faceU fc) (Ψ .cr r) (k := p0 + 9 * gr) (Vn_cV (pp'.mono (by omega))) (pu.mono (by omega)) (Rn_cr.2 (hr.mono (by omega))) (by omega) (by omega)
      rw [vv_cV, rv_cr, eu] at g
      have c1 := CM.stretch (p := vadd l.p (vmul t l.dir)) hr2 cu
      have c2 := Cn.move hr2 cu hp'
      exact ⟨_, rfl, Mpn_c ⟨c1.x.size.mono (by omega), c1.y.size.mono (by omega), c1.z.size.mono (by omega), c2.size.mono (by omega)⟩, g⟩
    obtain ⟨A1, eA1, nA1, gA1⟩ := hat k qk b1
    obtain ⟨A2, eA2, nA2, gA2⟩ := hat (1 / k) qk' b2
    have hmv := hmvB i hi
    refine ⟨hN.hop nF hG (by omega) hn hb', ⟨_, hx_dRs hr, ?_⟩, ?_, ⟨A1, gA1, ?_⟩, ⟨A2, gA2, ?_⟩⟩
    · have g := prod2_good (Ψ .cr l.gain) (m.vals[bin]'(by omega)) (k := 2 * i + 2) (Rn_cr.2 (hN.g.mono (by omega))) (hrn.mono (by omega)) (by omega) (by omega)
      rw [rv_cr] at g
      have e : (hopS (fcsOf s bin) l f t k).gain = l.gain * rv (m.vals[bin]'(by omega)) := by
        show l.gain * (match matF s f with | some m => (match m.vals[bin]? with | some r => rv r | none => 0) | none => 0) = _
        rw [hm]
        simp only
        rw [hr]
      rw [e]
      exact g
    · have g := rdiv_good (Ψ .cr 1) (Ψ .cr k) (Rn_cr.2 Qn_one') (Rn_cr.2 qk) (by omega) (by omega) (by omega) (by omega)
      rw [rv_cr, rv_cr] at g
      exact g
    · have g := turn_good A1 (Ψ .cV l.dir) nA1 (Vn_cV (hN.d.size.mono (by omega))) (by omega) (by omega)
      rw [vv_cV, eA1, mv_cMap, ← eA1] at g
      exact g
    · have nM : Mpn 714000001 (cMap Ψ l.map) := Mpn_c ⟨hN.m.x.size.mono (by omega), hN.m.y.size.mono (by omega), hN.m.z.size.mono (by omega), hN.v.size.mono (by omega)⟩
      have g := then_good A2 (cMap Ψ l.map) (nA2.mono (by omega)) nM (by omega) (by omega)
      rw [mv_cMap, eA2, mv_cMap, ← eA2] at g
      exact g
  have g4h : Hid _ := ⟨g4⟩
  clear H htn hmvB nF g4
  have hO := oD_ok
  unfold rB at gM ⊢
  unfold fromV fromB
  unfold rblks at gM ⊢
  generalize nodesD (buildS (trisA s)).nodes = ND at *
  generalize oD (buildS (trisA s)).order = OD at *
  generalize trisD (trisA s) = TD at *
  generalize oD (lightsL s s.faces.length) = LD at *
  generalize Ψ .dRs (areasL s s.faces.length) = AD at *
  have hus : Ω .slen (Ψ .dVs (unitsL s s.faces.length)) = s.faces.length := by rw [slen_dVs, hul]
  generalize Ψ .dVs (unitsL s s.faces.length) = UD at *
  generalize oD = OO at *
  refine rq ?_
  refine LoopG.introB (σ := Lk) [.cell 1107 19 900001 T.int 1] [0, 3, 8, 10] [0, 1, 2, 3, 4, 1055, 1056, 1057]
    (fun l => [.ptr 0 0, .d (.i .i64 (Ω .ci bin)), .ptr 1055 0, .ptr 1056 0])
    (fun l => [.var (rcell Ψ MD FD s (.own 1 27) (.d (.sl ND)) (.d (.sl OD)) (.own 2 9) (.own 3 3) (.own 4 1)), .row false T.api_Tri 27 TD, .row true T.api_Vec 9 UD, .row true T.api_Rat 3 AD, .row true T.int 1 LD, .var lkZ, .var (lkV Ψ 0 (.own 1057 1) l), .row true T.int 1 (OO l.hops)])
    (fun l => l.hops.length ≤ 8 ∧ LkN p0 e0 gr l.hops.length l ∧ R = followS (fcsOf s bin) (8 - l.hops.length) l)
    (fun l => 8 - l.hops.length) l0 [0, 1, 2, 3, 4, 1002, 1107, 900001] ⟨by omega, by rw [hl0]; exact hN0, by rw [hl0]; exact hR⟩ ⟨rfl, rfl, (by rw [e5]; rfl)⟩ ?_
  rintro l ⟨hi, hN, hRl⟩
  have g4 := g4h.out
  have gn := gN l.hops.length l hi hN
  have gm := fun f t => gM l.hops.length l f t hi hN
  have gh := fun f t k fc m (h : l.hops.length ≤ 7) => gH l.hops.length l f t k fc m h hN
  rw [followS] at hRl
  have hnear : (fcsOf s bin).near l.p l.dir = nearF s l.p l.dir := rfl
  rw [hnear] at hRl
  clear hnear
  have hol := hO.len l.hops
  have hoc := hO.cat l.hops
  clear g1 g2 g3 g4' hR hN0 hl0 hul gH gM gN hO ho hd e5 g4h
  cases hn : nearF s l.p l.dir with
  | none =>
    have h0 := nearF_none hn
    rw [hn] at hRl
    simp only at hRl
    subst hRl
    rw [decide_eq_false h0] at gn
    generalize (firstS (Ψ .cV l.p) (Ψ .cV l.dir) (trisA s)).best = b at *
    generalize Ψ .cM (firstS (Ψ .cV l.p) (Ψ .cV l.dir) (trisA s)).m = M at *
    clear gm gh
    refine rq ?_
    exact ⟨[], rfl, rfl, rfl⟩
  | some x =>
  obtain ⟨f, t⟩ := x
  obtain ⟨h0, h1, h2⟩ := nearF_some hn
  rw [hn] at hRl
  simp only at hRl
  rw [decide_eq_true h0, h1] at gn
  obtain ⟨fc, m, m1, m2, m3, m4, ga, gd, gs, gb, gmat, m5⟩ := gm f t hn
  have qf := @qs_neg (vdot l.dir (unitF s f))
  have gb := gb (decide (vdot l.dir (unitF s f) < 0))
  have hbd : (fcsOf s bin).bend f l.dir = bendM s.waves m bin (decide (vdot l.dir (unitF s f) < 0)) := by
    show (match matF s f with | some m => bendM s.waves m bin (decide (vdot l.dir (unitF s f) < 0)) | none => none) = _
    rw [m4]
  rw [hbd] at hRl
  have gk := fun k h h2 => gh f t k fc m h hn m1 m4 h2
  clear gh
  have gn' : Good P F.trace_Nearest [.d (.agg [.sl ND, .sl OD]), .d (.sl TD), .d (.agg (dV Ψ (Ψ .cV l.p))), .d (.agg (dV Ψ (Ψ .cV l.dir)))] []
      (.tup [.d (.i .i64 (Ω .ci f)), .d (.agg (dM Ψ ⟨Ψ .cr t, (Ψ .cM (firstS (Ψ .cV l.p) (Ψ .cV l.dir) (trisA s)).m).u, (Ψ .cM (firstS (Ψ .cV l.p) (Ψ .cV l.dir) (trisA s)).m).v⟩)), .d (.b true)]) [] := by
    rw [← h2]; exact gn
  clear gn hbd h0 h1 h2 gm hn m1 m4
  generalize (Ψ .cM (firstS (Ψ .cV l.p) (Ψ .cV l.dir) (trisA s)).m).u = mu at *
  generalize (Ψ .cM (firstS (Ψ .cV l.p) (Ψ .cV l.dir) (trisA s)).m).v = mw at *
  generalize decide (vdot l.dir (unitF s f) < 0) = fr at *
  generalize Ψ .sI (vdot l.dir (unitF s f)) = sg at *
  generalize Ψ .cr (vdot l.dir (unitF s f)) = dd at *
  generalize faceU fc = U at *
  have m3' : f < Ω .slen UD := by rw [hus]; exact m3
  cases hbb : bendM s.waves m bin fr with
  | none =>
    rw [hbb] at gb hRl
    simp only [Option.getD_none, Option.isSome_none] at gb
    simp only at hRl
    subst hRl
    clear gk
    generalize Ψ .cr 0 = N0 at *
    generalize Ψ .cr t = Tt at *
    have el : lkV Ψ (Ω .ci f) (.own 5 1) ⟨vadd l.p (vmul t l.dir), l.dir, l.hops, l.map, l.gain⟩ = lkC Ψ (Ω .ci f) (.own 5 1) (Ψ .cV (vadd l.p (vmul t l.dir))) (Ψ .cV l.dir) (cMap Ψ l.map) (Ψ .cr l.gain) := rfl
    simp only
    rw [el]
    clear el
    generalize Ψ .cV (vadd l.p (vmul t l.dir)) = P2 at *
    generalize OO l.hops = HD at *
    cases fr
    all_goals
      refine rq ?_
      exact ⟨[1057], rfl, rfl, rfl⟩
  | some k =>
    rw [hbb] at gb hRl
    simp only [Option.getD_some, Option.isSome_some] at gb
    simp only at hRl
    rcases Nat.lt_or_ge l.hops.length 8 with h8 | h8
    · have q8 : Ω .eq (Ω .ci (Ω .slen (OO l.hops))) 8 = false := by rw [hol, q_eq]; exact decide_eq_false (by rw [w_ci]; omega)
      obtain ⟨hN', ⟨r, r1, r2⟩, gdiv, ⟨A1, a1, a2⟩, ⟨A2, b1, b2⟩⟩ := gk k (by omega) hbb
      have hh : (hopS (fcsOf s bin) l f t k).hops = l.hops ++ [f] := rfl
      have hhl : (hopS (fcsOf s bin) l f t k).hops.length = l.hops.length + 1 := by rw [hh, List.length_append]; rfl
      have hRn : R = followS (fcsOf s bin) (8 - (hopS (fcsOf s bin) l f t k).hops.length) (hopS (fcsOf s bin) l f t k) := by
        rw [hRl, hhl]
        obtain ⟨n, hn⟩ : ∃ n, 8 - l.hops.length = n + 1 := ⟨7 - l.hops.length, by omega⟩
        rw [hn, show 8 - (l.hops.length + 1) = n by omega]
      have hoc := hoc f
      rw [← hh] at hoc
      have ep : vadd l.p (vmul t l.dir) = (hopS (fcsOf s bin) l f t k).p := rfl
      rw [ep] at ga a1 b1
      clear gk hRl ep
      generalize hopS (fcsOf s bin) l f t k = l' at *
      have h56 : Ω .slen (OO l.hops) + 1 ≤ 100 := by rw [hol]; omega
      generalize Ψ .cr k = Kk at *
      generalize Ψ .cr (1 / k) = Kj at *
      generalize Ψ .cr t = Tt at *
      generalize decide (k ≠ 0) = kz at *
      have el : ∀ (fa : Int) (ow : V) (l : Lk), lkV Ψ fa ow l = lkC Ψ fa ow (Ψ .cV l.p) (Ψ .cV l.dir) (cMap Ψ l.map) (Ψ .cr l.gain) := fun _ _ _ => rfl
      cases fr
      all_goals
        refine rq ?_
        exact ⟨l', [0, 1, 2, 3, 4, 1055, 1056, 2404], ⟨by omega, by rw [hhl]; exact hN', hRn⟩, by omega, rfl, rfl, (by rw [← hoc]; rfl)⟩
    · have q8 : Ω .eq (Ω .ci (Ω .slen (OO l.hops))) 8 = true := by rw [hol, q_eq]; exact decide_eq_true (by rw [w_ci]; omega)
      rw [show 8 - l.hops.length = 0 by omega] at hRl
      simp only at hRl
      subst hRl
      clear gk
      generalize Ψ .cr k = Kk at *
      generalize Ψ .cr t = Tt at *
      cases fr
      all_goals
        refine rq ?_
        exact ⟨[], rfl, rfl, rfl⟩
end Go.K.S
end
section
namespace Go.K
open Go
def dLk (Ψ : (t : Sd) → STy t) (face : Int) (HD : List D) (p dir : VL) (map : MapL) (gain : RL) : List D := .i .i64 face :: (dV Ψ p ++ dV Ψ dir ++ .sl HD :: (dMap Ψ map ++ dR Ψ gain))
def followR (s : ScL) (o d : V3) (bin : Int) : Option (Nat × Lk) := if checkS s = 0 ∧ 0 ≤ bin ∧ bin < s.waves.length then followS (fcsOf s bin.toNat) 8 (lk0 o d) else none
def lkD (r : Option (Nat × Lk)) : D := match r with
  | none => .agg (dLk Ψ 0 [] zV zV zM zR)
  | some (f, l) => .agg (dLk Ψ (Ω .ci f) (oD l.hops) (Ψ .cV l.p) (Ψ .cV l.dir) (cMap Ψ l.map) (Ψ .cr l.gain))
end Go.K
namespace Go.K.S
open Go Go.K
set_option maxHeartbeats 16000000
set_option maxRecDepth 20000
theorem follow_good (s : ScL) {MD FD : List D} (hD : ScD s MD FD) {k : Nat} (hs : Scn k s) (hk0 : 0 < k) (hk : k < 137438953472) (o d : VL) {K p0 e0 gr : Nat} (hG : 2 * e0 + 20000 ≤ gr) (ho : Vn K o) (hd : Vn K d) (hK : K < 549755813888) (cp : Cn p0 (vv o)) (ce : Cn e0 (vv d))
    (bin : Int) (hp0 : p0 + 9 * gr < 134000000) (hm0 : mvB p0 gr 7 < 714000000) :
    Good P F.chain_Follow [.d (.agg (dSc Ψ MD FD s)), .d (.agg (dV Ψ o)), .d (.agg (dV Ψ d)), .d (.i .i64 bin)] []
      (.tup [.d (lkD (followR s (vv o) (vv d) bin)), .d (.b (followR s (vv o) (vv d) bin).isSome)]) [] := by
  refine G.chain_Follow fun C C2 hC hC2 => ?_
  by_cases hc : checkS s = 0
  rotate_left
  · have g := new_bad s hD hs hk0 hk hc
    have e : followR s (vv o) (vv d) bin = none := by unfold followR; rw [if_neg (fun h => hc h.1)]
    rw [e]
    clear hc e
    first | exact rq (Q := True) trivial | (refine rq ?_; rfl)
  have gn : Good P F.ready_New [.agg ((dSc Ψ MD FD s).map V.d)] [] (.tup [.ptr 0 0, .d (.b true)]) (rB MD FD s) := new_good s hD hs hk0 hk hc
  have ok := scOk_of hc
  by_cases h0 : 0 ≤ bin
  rotate_left
  · have e : followR s (vv o) (vv d) bin = none := by unfold followR; rw [if_neg (fun h => h0 h.2.1)]
    rw [e]
    have q : Ω .lt bin 0 = true := lt_true.2 (by omega)
    unfold rB rblks at gn
    generalize nodesD (buildS (trisA s)).nodes = ND at *
    generalize oD (buildS (trisA s)).order = OD at *
    generalize trisD (trisA s) = TD at *
    generalize oD (lightsL s s.faces.length) = LD at *
    generalize Ψ .dRs (areasL s s.faces.length) = AD at *
    generalize Ψ .dVs (unitsL s s.faces.length) = UD at *
    first | exact rq (Q := True) trivial | (refine rq ?_; rfl)
  have q1 : Ω .lt bin 0 = false := lt_false.2 h0
  by_cases h1 : bin < s.waves.length
  rotate_left
  · have e : followR s (vv o) (vv d) bin = none := by unfold followR; rw [if_neg (fun h => h1 h.2.2)]
    rw [e]
    have q : Ω .le (Ω .ci s.waves.length) bin = true := le_true.2 (by rw [w_ci]; omega)
    unfold rB rblks at gn
    generalize nodesD (buildS (trisA s)).nodes = ND at *
    generalize oD (buildS (trisA s)).order = OD at *
    generalize trisD (trisA s) = TD at *
    generalize oD (lightsL s s.faces.length) = LD at *
    generalize Ψ .dRs (areasL s s.faces.length) = AD at *
    generalize Ψ .dVs (unitsL s s.faces.length) = UD at *
    first | exact rq (Q := True) trivial | (refine rq ?_; rfl)
  have q2 : Ω .le (Ω .ci s.waves.length) bin = false := le_false.2 (by rw [w_ci]; omega)
  have e : followR s (vv o) (vv d) bin = followS (fcsOf s bin.toNat) 8 (lk0 (vv o) (vv d)) := by unfold followR; rw [if_pos ⟨hc, h0, h1⟩]
  rw [e]
  have gf := from_good s hD ok o d (bin := bin.toNat) hG ho hd hK cp ce (by omega) hp0 hm0
  have hbn : Ω .ci bin.toNat = bin := by rw [w_ci]; omega
  rw [hbn] at gf
  generalize followS (fcsOf s bin.toNat) 8 (lk0 (vv o) (vv d)) = R at *
  unfold rB rblks at gn gf
  generalize nodesD (buildS (trisA s)).nodes = ND at *
  generalize oD (buildS (trisA s)).order = OD at *
  generalize trisD (trisA s) = TD at *
  generalize oD (lightsL s s.faces.length) = LD at *
  generalize Ψ .dRs (areasL s s.faces.length) = AD at *
  generalize Ψ .dVs (unitsL s s.faces.length) = UD at *
  clear e hbn hc cp ce hp0 hm0 ho hd hs
  cases R with
  | none =>
    simp only [fromV, fromB, List.append_nil] at gf
    simp only [Option.isSome_none]
    first | exact rq (Q := True) trivial | (refine rq ?_; rfl)
  | some x =>
    obtain ⟨f, l⟩ := x
    simp only [fromV, fromB] at gf
    simp only [Option.isSome_some, lkD]
    unfold lkV at gf
    generalize Ψ .cV l.p = P1 at *
    generalize Ψ .cV l.dir = D1 at *
    generalize cMap Ψ l.map = M1 at *
    generalize Ψ .cr l.gain = G1 at *
    generalize oD l.hops = HD at *
    first | exact rq (Q := True) trivial | (refine rq ?_; rfl)
end Go.K.S
end
section
namespace Go.K
open Go
structure LkL where
  face : Int
  p : VL
  dir : VL
  hops : List Nat
  map : MapL
  gain : RL
def dL (Ψ : (t : Sd) → STy t) (l : LkL) : List D := dLk Ψ l.face (oD l.hops) l.p l.dir l.map l.gain
def lkL (r : Option (Nat × Lk)) : LkL := match r with
  | none => ⟨0, zV, zV, [], zM, zR⟩
  | some (f, l) => ⟨Ω .ci f, Ψ .cV l.p, Ψ .cV l.dir, l.hops, cMap Ψ l.map, Ψ .cr l.gain⟩
theorem lkD_dL (r : Option (Nat × Lk)) : lkD r = .agg (dL Ψ (lkL r)) := by
  cases r with
  | none => rfl
  | some x => rfl
structure Lkn (k : Nat) (l : LkL) : Prop where
  p : Vn k l.p
  d : Vn k l.dir
  h : l.hops.length ≤ 100
  m : Mpn k l.map
  g : Rn k l.gain
theorem LkL.ext_iff' {a b : LkL} : a = b ↔ a.face = b.face ∧ a.p = b.p ∧ a.dir = b.dir ∧ a.hops = b.hops ∧ a.map = b.map ∧ a.gain = b.gain := by
  cases a; cases b; simp
instance : DecidableEq LkL := fun _ _ => decidable_of_iff _ LkL.ext_iff'.symm
end Go.K
namespace Go.K.S
open Go Go.K
set_option maxHeartbeats 8000000
set_option maxRecDepth 20000
theorem ints_good (a b : List Nat) (hal : a.length < 1099511627776) (hbl : b.length < 1099511627776) : Good P F.penumbraref15_Ints [.d (.sl (oD a)), .d (.sl (oD b))] [] (.d (.b (decide (a = b)))) [] := by
  refine G.penumbraref15_Ints fun C C2 hC hC2 => ?_
  generalize hr : decide (a = b) = r
  have la := oD_ok.len a
  have lb := oD_ok.len b
  have xa := oD_ok.get a
  have xb := oD_ok.get b
  generalize oD a = A at *
  generalize oD b = B at *
  by_cases he : a.length = b.length
  rotate_left
  · have q : Ω .ne (Ω .ci (Ω .slen A)) (Ω .ci (Ω .slen B)) = true := by rw [la, lb]; simp only [wz]; omega
    have : r = false := by rw [← hr]; exact decide_eq_false (fun q => he (by rw [q]))
    subst this
    exact rq trivial
  have q : Ω .ne (Ω .ci (Ω .slen A)) (Ω .ci (Ω .slen B)) = false := by rw [la, lb]; simp only [wz]; omega
  refine rq ?_
  refine LoopG.intro (σ := Nat) [0, 1, 5] [] (fun k => [.d (.sl A), .d (.sl B), .d (.i .i64 (Ω .ci k))]) (fun _ => []) (fun k => k ≤ a.length ∧ a.take k = b.take k) (fun k => a.length - k) 0 []
    ⟨Nat.zero_le _, rfl⟩ ⟨rfl, rfl, rfl⟩ ?_
  rintro k ⟨hk, hd⟩
  have hw := wrap_succ (n := k) (by omega)
  rcases Nat.lt_or_ge k a.length with hlt | hge
  · have q0 : Ω .lt (Ω .ci k) (Ω .ci (Ω .slen A)) = true := by rw [la]; simp only [wz]; omega
    obtain ⟨u, hu⟩ : ∃ u, a[k]? = some u := ⟨_, List.getElem?_eq_getElem (by omega)⟩
    obtain ⟨v, hv⟩ : ∃ v, b[k]? = some v := ⟨_, List.getElem?_eq_getElem (by omega)⟩
    have x1 := xa k u hu
    have x2 := xb k v hv
    by_cases huv : u = v
    · subst huv
      have q1 : Ω .ne (Ω .ci u) (Ω .ci u) = false := ne_false'.2 rfl
      refine rq ?_
      rw [hw]
      exact ⟨k + 1, [], ⟨hlt, by rw [List.take_add_one, List.take_add_one, hd, hu, hv]⟩, by omega, rfl, rfl, rfl⟩
    · have q1 : Ω .ne (Ω .ci u) (Ω .ci v) = true := ne_true'.2 (by rw [w_ci, w_ci]; omega)
      have : r = false := by
        rw [← hr]
        refine decide_eq_false (fun q => huv ?_)
        rw [q, hv] at hu
        exact (Option.some.inj hu).symm
      subst this
      exact rq trivial
  · obtain rfl : k = a.length := by omega
    have q0 : Ω .lt (Ω .ci a.length) (Ω .ci (Ω .slen A)) = false := by rw [la]; simp only [wz]; omega
    have : r = true := by
      rw [← hr]
      refine decide_eq_true ?_
      rw [List.take_length, he, List.take_length] at hd
      exact hd
    subst this
    exact rq trivial
theorem is15_good (a b : LkL) {j k : Nat} (ha : Lkn j a) (hb : Lkn k b) (hj : j < 1099511627776) (hk : k < 1099511627776) :
    Good P F.penumbraref15_Is [.d (.agg (dL Ψ a)), .d (.agg (dL Ψ b))] [] (.d (.b (decide (a = b)))) [] := by
  refine G.penumbraref15_Is fun C C2 hC hC2 => ?_
  have g1 := is5_good a.p b.p ha.p hb.p hj hk
  have g2 := is5_good a.dir b.dir ha.d hb.d hj hk
  have g3 := ints_good a.hops b.hops (by have := ha.h; omega) (by have := hb.h; omega)
  have g4 := is7_good a.map b.map ha.m hb.m hj hk
  have g5 := is3_good a.gain b.gain ha.g hb.g hj hk
  have hR2 : decide (a = b) = (decide (a.face = b.face) && (decide (a.p = b.p) && (decide (a.dir = b.dir) && (decide (a.hops = b.hops) && (decide (a.map = b.map) && decide (a.gain = b.gain)))))) := by
    rw [← Bool.decide_and, ← Bool.decide_and, ← Bool.decide_and, ← Bool.decide_and, ← Bool.decide_and]
    exact decide_eq_decide.2 LkL.ext_iff'
  rw [hR2]
  clear hR2
  have qf : Ω .eq a.face b.face = decide (a.face = b.face) := q_eq
  unfold dL
  generalize oD a.hops = HA at *
  generalize oD b.hops = HB at *
  generalize decide (a.face = b.face) = t0 at *
  generalize decide (a.p = b.p) = t1 at *
  generalize decide (a.dir = b.dir) = t2 at *
  generalize decide (a.hops = b.hops) = t3 at *
  generalize decide (a.map = b.map) = t4 at *
  generalize decide (a.gain = b.gain) = t5 at *
  cases t0
  · exact rq trivial
  cases t1
  · exact rq trivial
  cases t2
  · exact rq trivial
  cases t3
  · exact rq trivial
  cases t4
  · exact rq trivial
  cases t5
  all_goals exact rq trivial
theorem tris15_good (s : ScL) {MD FD : List D} (hD : ScD s MD FD) (hl : s.faces.length ≤ 64) : Good P F.penumbraref15_Tris [.d (.agg (dSc Ψ MD FD s))] [] (.d (.sl (trisD (trisA s)))) [] := by
  refine G.penumbraref15_Tris fun C C2 hC hC2 => ?_
  have hfl := hD.fl
  have hx : ∀ i, i < s.faces.length → ∃ f, Ω .sget FD i = some (.agg (dFace Ψ f)) ∧ Ω .scat (trisD (trisL s i)) [.agg (dT Ψ f.tri)] = trisD (trisL s (i + 1)) := fun i hi => by
    obtain ⟨f, hf⟩ : ∃ f, s.faces[i]? = some f := ⟨_, List.getElem?_eq_getElem hi⟩
    exact ⟨f, hD.f i f hf, by rw [tl_succ hf, trisD_snoc]⟩
  have hz : trisD (trisL s 0) = [] := rfl
  have hln : ∀ i, i ≤ s.faces.length → Ω .slen (trisD (trisL s i)) = i := fun i hi => by
    rw [slen_trisD]; unfold trisL; rw [List.length_map, List.length_take]; omega
  have he : trisD (trisA s) = trisD (trisL s s.faces.length) := rfl
  rw [he]
  obtain ⟨TT, hTT⟩ : ∃ T : Nat → List D, T = fun i => trisD (trisL s i) := ⟨_, rfl⟩
  have eT : ∀ i, trisD (trisL s i) = TT i := fun i => by rw [hTT]
  simp only [eT] at hx hz hln ⊢
  clear eT hTT he
  generalize s.faces.length = nf at *
  refine rq ?_
  refine LoopG.intro (σ := Nat) [1, 3, 4] [1050, 1051] (fun i => [.ptr 1050 0, .own 1051 27, .d (.i .i64 (Ω .ci i))]) (fun i => [.var ((dSc Ψ MD FD s).map V.d), .row true T.api_Tri 27 (TT i)]) (fun i => i ≤ nf) (fun i => nf - i) 0 [1000, 1100]
    (Nat.zero_le _) ⟨rfl, rfl, (by rw [hz]; rfl)⟩ ?_
  intro i hi
  have hw := wrap_succ (n := i) (by omega)
  have hl' := hln i hi
  rcases Nat.lt_or_ge i nf with hlt | hge
  · obtain ⟨f, x1, x2⟩ := hx i hlt
    have q0 : Ω .lt (Ω .ci i) (Ω .ci (Ω .slen FD)) = true := by rw [hfl]; simp only [wz]; omega
    clear hx
    refine rq ?_
    rw [hw]
    exact ⟨i + 1, [1050, 1508], hlt, by omega, rfl, rfl, (by rw [← x2]; rfl)⟩
  · obtain rfl : i = nf := by omega
    have q0 : Ω .lt (Ω .ci i) (Ω .ci (Ω .slen FD)) = false := by rw [hfl]; simp only [wz]; omega
    clear hx
    exact rq trivial
theorem normal15_good (s : ScL) {MD FD : List D} (hD : ScD s MD FD) {face : Nat} {f : FaceL} (hf : s.faces[face]? = some f) (hn : Tn 2 f.tri) :
    Good P F.penumbraref15_Normal [.d (.agg (dSc Ψ MD FD s)), .d (.i .i64 (Ω .ci face))] [] (.d (.agg (dV Ψ (faceU f)))) [] := by
  refine G.penumbraref15_Normal fun C C2 hC hC2 => ?_
  have x1 := hD.f face f hf
  have g := unit8_good f.tri hn (by omega) (by omega)
  have e : Ψ .cV (unitR (normS (tv f.tri))).1 = faceU f := rfl
  rw [e] at g
  generalize faceU f = U at *
  generalize Ψ .cr ((unitR (normS (tv f.tri))).2 * (1 / 2)) = A at *
  generalize (unitS (normS (tv f.tri))).isSome = ok at *
  exact rq trivial
theorem mat15_good (s : ScL) {MD FD : List D} (hD : ScD s MD FD) {face mi : Nat} {f : FaceL} {m : MatL} (hf : s.faces[face]? = some f) (hm : s.mats[mi]? = some m) (hfm : f.mat = Ω .ci mi) :
    Good P F.penumbraref15_Mat [.d (.agg (dSc Ψ MD FD s)), .d (.i .i64 (Ω .ci face))] [] (.d (.agg (dMat Ψ m))) [] := by
  refine G.penumbraref15_Mat fun C C2 hC hC2 => ?_
  have x1 := hD.f face f hf
  have x2 := hD.m mi m hm
  obtain ⟨ft, fm⟩ := f
  simp only at hfm
  subst hfm
  exact rq trivial
theorem ofm13_good : Good P F.penumbraref03_Of [.d (.i .i64 (-1)), .d (.i .i64 1)] [] (.d (.agg (dR Ψ (Ψ .cr (-1))))) [] := by
  have g := of3_good (-1) 1 (by omega) (by omega) (by omega) (by omega)
  have e1 : ((-1 : Int) : Rat) / ((1 : Int) : Rat) = -1 := by
    have h1 : ((1 : Int) : Rat) = 1 := rfl
    have h2 : ((-1 : Int) : Rat) = -1 := rfl
    rw [h1, h2]; grind
  rw [e1] at g
  exact g
theorem bend15_good (s : ScL) {MD FD : List D} (hD : ScD s MD FD) {face mi bin : Nat} {f : FaceL} {m : MatL} (hf : s.faces[face]? = some f) (hm : s.mats[mi]? = some m) (hfm : f.mat = Ω .ci mi) (hbin : bin < s.waves.length)
    (ha : Rn 2 m.a) (hb : Rn 2 m.b) (hw : ∀ r, r ∈ s.waves → Rn 2 r) (hn : Tn 2 f.tri) (d : VL) {k : Nat} (hd : Vn k d) (hk0 : 0 < k) (hk : k < 8589934590) :
    Good P F.penumbraref15_Bend [.d (.agg (dSc Ψ MD FD s)), .d (.i .i64 (Ω .ci face)), .d (.i .i64 (Ω .ci bin)), .d (.agg (dV Ψ d))] []
      (.tup [.d (.agg (dR Ψ (Ψ .cr ((bendM s.waves m bin (decide (vdot (vv d) (vv (faceU f)) < 0))).getD 0)))), .d (.b (bendM s.waves m bin (decide (vdot (vv d) (vv (faceU f)) < 0))).isSome)]) [] := by
  refine G.penumbraref15_Bend fun C C2 hC hC2 => ?_
  have g0 := mat15_good s hD hf hm hfm
  have gN := normal15_good s hD hf hn
  have x1 := hD.f face f hf
  have ge := eta9_good s hD hm (List.getElem?_eq_getElem hbin) ha hb (hw _ (List.getElem_mem hbin)) (by omega) (by omega)
  have qe := eta_n (s := s) (m := m) (bin := bin) ha hb hw (by omega)
  have g1 := ofm13_good
  have g2 := one3_good
  have g3 := zero3_good
  have pu : Pn 150 (vv (faceU f)) := by
    unfold faceU
    rw [vv_cV]
    exact (unit_n (Pn_norm (T3n hn (by omega)) (by omega)) (by omega)).1
  have gdot := dot5_good d (faceU f) hd (k := 150) (by unfold faceU at pu ⊢; rw [vv_cV] at pu; exact Vn_cV pu) hk0 (by omega) hk (by omega)
  have qd := Qn_dot (Pn_vv hd hk0) pu (by omega)
  have gs := sign3_good (Ψ .cr (vdot (vv d) (vv (faceU f)))) (Rn_cr.2 qd) (by omega)
  rw [rv_cr] at gs
  have qf := @qs_neg (vdot (vv d) (vv (faceU f)))
  have gd := over3_good (Ψ .cr 1) (Ψ .cr ((etaM s.waves m bin).getD 0)) (Rn_cr.2 Qn_one') (Rn_cr.2 qe) (by omega) (by omega)
  rw [rv_cr, rv_cr] at gd
  unfold bendM
  generalize (etaM s.waves m bin).getD 0 = e at *
  generalize (etaM s.waves m bin).isSome = eo at *
  generalize decide (vdot (vv d) (vv (faceU f)) < 0) = front at *
  generalize Ψ .sI (vdot (vv d) (vv (faceU f))) = sg at *
  generalize Ψ .cr (vdot (vv d) (vv (faceU f))) = dd at *
  clear qe hD qd pu
  generalize faceU f = U at *
  obtain ⟨ft, fm⟩ := f
  simp only at hfm
  subst hfm
  by_cases h1 : m.kind = 1
  · rw [if_pos h1]
    have q1 : Ω .eq m.kind 1 = true := eq_true'.2 h1
    simp only [Option.getD_some, Option.isSome_some]
    generalize Ψ .cr (-1) = M1 at *
    exact rq trivial
  rw [if_neg h1]
  have q1 : Ω .eq m.kind 1 = false := eq_false'.2 h1
  by_cases h2 : m.kind = 2
  · rw [if_pos h2]
    have q2 : Ω .ne m.kind 2 = false := ne_false'.2 h2
    simp only [Option.getD_some, Option.isSome_some]
    cases front with
    | true =>
      simp only [if_true]
      generalize Ψ .cr e = E at *
      exact rq trivial
    | false =>
      simp only [Bool.false_eq_true, if_false]
      generalize Ψ .cr (1 / e) = E1 at *
      generalize Ψ .cr e = E at *
      generalize Ψ .cr 1 = N1 at *
      exact rq trivial
  · rw [if_neg h2]
    have q2 : Ω .ne m.kind 2 = true := ne_true'.2 h2
    simp only [Option.getD_none, Option.isSome_none]
    generalize Ψ .cr 0 = N0 at *
    exact rq trivial
end Go.K.S
end
section
namespace Go.K
open Go
def wayS (F : Fcs) : Nat → Lk → List V3 → List V3
  | n, l, ps => match F.near l.p l.dir with
    | none => ps
    | some (f, s) => match F.bend f l.dir with
      | none => ps ++ [vadd l.p (vmul s l.dir)]
      | some k => match n with
        | 0 => ps
        | n + 1 => wayS F n (hopS F l f s k) (ps ++ [vadd l.p (vmul s l.dir)])
def ptsD (l : List V3) : List D := Ψ .dVs (l.map (Ψ .cV))
theorem ptsD_snoc (l : List V3) (p : V3) : Ω .scat (ptsD l) [.agg (dV Ψ (Ψ .cV p))] = ptsD (l ++ [p]) := by
  unfold ptsD
  rw [List.map_append, ← scat_dVs']; rfl
theorem slen_ptsD (l : List V3) : Ω .slen (ptsD l) = l.length := by unfold ptsD; rw [slen_dVs, List.length_map]
def ptsR (s : ScL) (o d : V3) (bin : Int) : List V3 := match followR s o d bin with
  | none => []
  | some _ => wayS (fcsOf s bin.toNat) 8 (lk0 o d) [o]
end Go.K
namespace Go.K.S
open Go Go.K
set_option maxHeartbeats 16000000
set_option maxRecDepth 20000
theorem follow15_good (s : ScL) {MD FD : List D} (hD : ScD s MD FD) {k : Nat} (hs : Scn k s) (hk0 : 0 < k) (hk : k < 134217728) (o d : VL) {K p0 e0 gr : Nat} (hG : 2 * e0 + 20000 ≤ gr) (ho : Vn K o) (hd : Vn K d) (hK : K < 137438953472) (cp : Cn p0 (vv o)) (ce : Cn e0 (vv d))
    (bin : Int) (hp0 : p0 + 9 * gr < 67000000) (hm0 : mvB p0 gr 7 < 530000000) :
    Good P F.penumbraref15_Follow [.d (.agg (dSc Ψ MD FD s)), .d (.agg (dV Ψ o)), .d (.agg (dV Ψ d)), .d (.i .i64 bin)] []
      (.tup [.d (.agg (dL Ψ (lkL (followR s (vv o) (vv d) bin)))), .d (.sl (ptsD (ptsR s (vv o) (vv d) bin))), .d (.b (followR s (vv o) (vv d) bin).isSome)]) [] := by
  refine G.penumbraref15_Follow fun C C2 hC hC2 => ?_
  have gck := check9_good s hD hs hk0 hk
  by_cases hc : checkS s = 0
  rotate_left
  · have e : followR s (vv o) (vv d) bin = none := by unfold followR; rw [if_neg (fun h => hc h.1)]
    have e2 : ptsR s (vv o) (vv d) bin = [] := by unfold ptsR; rw [e]
    rw [e, e2]
    have q : Ω .ne (checkS s) 0 = true := ne_true'.2 hc
    generalize checkS s = c at *
    first | exact rq (Q := True) trivial | (refine rq ?_; rfl)
  rw [hc] at gck
  have qc : Ω .ne 0 0 = false := rfl
  have ok := scOk_of hc
  by_cases h0 : 0 ≤ bin
  rotate_left
  · have e : followR s (vv o) (vv d) bin = none := by unfold followR; rw [if_neg (fun h => h0 h.2.1)]
    have e2 : ptsR s (vv o) (vv d) bin = [] := by unfold ptsR; rw [e]
    rw [e, e2]
    have q : Ω .lt bin 0 = true := lt_true.2 (by omega)
    first | exact rq (Q := True) trivial | (refine rq ?_; rfl)
  have q1 : Ω .lt bin 0 = false := lt_false.2 h0
  by_cases h1 : bin < s.waves.length
  rotate_left
  · have e : followR s (vv o) (vv d) bin = none := by unfold followR; rw [if_neg (fun h => h1 h.2.2)]
    have e2 : ptsR s (vv o) (vv d) bin = [] := by unfold ptsR; rw [e]
    rw [e, e2]
    have q : Ω .le (Ω .ci s.waves.length) bin = true := le_true.2 (by rw [w_ci]; omega)
    first | exact rq (Q := True) trivial | (refine rq ?_; rfl)
  have q2 : Ω .le (Ω .ci s.waves.length) bin = false := le_false.2 (by rw [w_ci]; omega)
  have e : followR s (vv o) (vv d) bin = followS (fcsOf s bin.toNat) 8 (lk0 (vv o) (vv d)) := by unfold followR; rw [if_pos ⟨hc, h0, h1⟩]
  have e' : ptsR s (vv o) (vv d) bin = match followS (fcsOf s bin.toNat) 8 (lk0 (vv o) (vv d)) with | none => [] | some _ => wayS (fcsOf s bin.toNat) 8 (lk0 (vv o) (vv d)) [vv o] := by unfold ptsR; rw [e]
  rw [e', e]
  obtain ⟨bn, rfl⟩ : ∃ bn : Nat, bin = Ω .ci bn := ⟨bin.toNat, by rw [w_ci]; omega⟩
  have hb : bn < s.waves.length := by rw [w_ci] at h1; omega
  have hbn : (Ω .ci bn).toNat = bn := by rw [w_ci]; omega
  rw [hbn]
  clear e e' hbn h0 h1 hc
  have f2 := ok.f2
  have gt := tris15_good s hD f2
  have H : TriH (trisA s) (trisD (trisA s)) := triH_map (by rw [trisA_len]; omega)
  have htn : ∀ t, t ∈ trisA s → Tn 2 t := fun t ht => by
    obtain ⟨f, hf, rfl⟩ := List.mem_map.1 ht
    exact ok.n.fv f (List.mem_of_mem_take hf)
  have g1 := read5_good o ho hK
  have g2 := read5_good d hd hK
  have g3 := ident7_good
  have g4 := one3_good
  have nF := n_F ok bn
  obtain ⟨M7, hM7⟩ : ∃ M, M = mvB p0 gr 7 := ⟨_, rfl⟩
  have hmvB : ∀ i, i ≤ 7 → mvB p0 gr i ≤ M7 := fun i hi => by
    rw [hM7]
    rcases (show i = 0 ∨ i = 1 ∨ i = 2 ∨ i = 3 ∨ i = 4 ∨ i = 5 ∨ i = 6 ∨ i = 7 by omega) with rfl | rfl | rfl | rfl | rfl | rfl | rfl | rfl <;> simp only [mvB] <;> omega
  rw [← hM7] at hm0
  clear hM7
  obtain ⟨R, hR⟩ : ∃ R, R = followS (fcsOf s bn) 8 (lk0 (vv o) (vv d)) := ⟨_, rfl⟩
  obtain ⟨W, hW⟩ : ∃ W, W = wayS (fcsOf s bn) 8 (lk0 (vv o) (vv d)) [vv o] := ⟨_, rfl⟩
  rw [← hR, ← hW]
  have e1 : Ψ .cV (vv o) = Ψ .cV (lk0 (vv o) (vv d)).p := rfl
  have e2 : Ψ .cV (vv d) = Ψ .cV (lk0 (vv o) (vv d)).dir := rfl
  have e3 : cMap Ψ idM = cMap Ψ (lk0 (vv o) (vv d)).map := rfl
  have e4 : Ψ .cr 1 = Ψ .cr (lk0 (vv o) (vv d)).gain := rfl
  have e5 : oD (lk0 (vv o) (vv d)).hops = [] := rfl
  have e6 : ptsD [vv o] = [.agg (dV Ψ (Ψ .cV (lk0 (vv o) (vv d)).p))] := rfl
  have hN0 : LkN p0 e0 gr 0 (lk0 (vv o) (vv d)) := LkN.start cp ce
  have hl0 : (lk0 (vv o) (vv d)).hops.length = 0 := rfl
  rw [e1] at g1
  rw [e2] at g2
  rw [e3] at g3
  have g4' := g4
  rw [e4] at g4'
  clear e1 e2 e3 e4 cp ce
  have hpl : [vv o].length = 1 := rfl
  generalize [vv o] = ps0 at *
  generalize lk0 (vv o) (vv d) = l0 at *
  have gN : ∀ (i : Nat) (l : Lk), i ≤ 8 → LkN p0 e0 gr i l → Good P F.penumbraref12_Nearest [.d (.sl (trisD (trisA s))), .d (.agg (dV Ψ (Ψ .cV l.p))), .d (.agg (dV Ψ (Ψ .cV l.dir)))] []
        (.tup [.d (.i .i64 (firstS (Ψ .cV l.p) (Ψ .cV l.dir) (trisA s)).best), .d (.agg (dM Ψ (Ψ .cM (firstS (Ψ .cV l.p) (Ψ .cV l.dir) (trisA s)).m))), .d (.b (decide (0 ≤ (firstS (Ψ .cV l.p) (Ψ .cV l.dir) (trisA s)).best)))]) [] := fun i l hi hN => by
    have hpi : i * gr ≤ 8 * gr := Nat.mul_le_mul_right _ hi
    exact nearest12_good H (Ψ .cV l.p) (Ψ .cV l.dir) (k := p0 + 9 * gr) (Vn_cV (hN.p.size.mono (by omega))) (Vn_cV (hN.d.size.mono (by omega))) (fun t ht => (htn t ht).mono (by omega)) (by omega) (by omega)
  have gM : ∀ (i : Nat) (l : Lk) (f : Nat) (t : Rat), i ≤ 8 → LkN p0 e0 gr i l → nearF s l.p l.dir = some (f, t) → ∃ fc m, s.faces[f]? = some fc ∧ f < s.faces.length ∧ matF s f = some m ∧
      Good P F.penumbraref08_At [.d (.agg (dV Ψ (Ψ .cV l.p))), .d (.agg (dV Ψ (Ψ .cV l.dir))), .d (.agg (dR Ψ (Ψ .cr t)))] [] (.d (.agg (dV Ψ (Ψ .cV (vadd l.p (vmul t l.dir)))))) [] ∧
      Good P F.penumbraref15_Bend [.d (.agg (dSc Ψ MD FD s)), .d (.i .i64 (Ω .ci f)), .d (.i .i64 (Ω .ci bn)), .d (.agg (dV Ψ (Ψ .cV l.dir)))] []
        (.tup [.d (.agg (dR Ψ (Ψ .cr ((bendM s.waves m bn (decide (vdot l.dir (unitF s f) < 0))).getD 0)))), .d (.b (bendM s.waves m bn (decide (vdot l.dir (unitF s f) < 0))).isSome)]) [] ∧
      Good P F.penumbraref15_Normal [.d (.agg (dSc Ψ MD FD s)), .d (.i .i64 (Ω .ci f))] [] (.d (.agg (dV Ψ (faceU fc)))) [] ∧
      Good P F.penumbraref15_Mat [.d (.agg (dSc Ψ MD FD s)), .d (.i .i64 (Ω .ci f))] [] (.d (.agg (dMat Ψ m))) [] := fun i l f t hi hN hn => by
    have hpi : i * gr ≤ 8 * gr := Nat.mul_le_mul_right _ hi
    obtain ⟨hf, _⟩ := (near_F s bn).some _ _ _ _ hn
    obtain ⟨fc, m, h1, h2, h3, h4⟩ := matF_some ok hf
    have ct := (nF.len _ _ _ _ _ _ hn hN.p hN.d).size
    have pp := hN.p.size
    have pd := hN.d.size
    have ga := at8_good (Ψ .cV l.p) (Ψ .cV l.dir) (Ψ .cr t) (k := 2 * (p0 + 9 * gr)) (Vn_cV (pp.mono (by omega))) (Vn_cV (pd.mono (by omega))) (Rn_cr.2 (ct.mono (by omega))) (by omega) (by omega)
    rw [vv_cV, vv_cV, rv_cr] at ga
    have eu : vv (faceU fc) = unitF s f := by unfold unitF faceU; rw [h1, vv_cV]
    have hv := ok.n.mv m (List.mem_of_getElem? h2)
    have htf := ok.n.fv fc (List.mem_of_getElem? h1)
    have gb := bend15_good s hD h1 h2 h3 hb hv.2.1 hv.2.2 ok.n.wv htf (Ψ .cV l.dir) (Vn_cV pd) (by omega) (by omega)
    rw [vv_cV, eu] at gb
    exact ⟨fc, m, h1, hf, h4, ga, gb, normal15_good s hD h1 htf, mat15_good s hD h1 h2 h3⟩
  have gH : ∀ (i : Nat) (l : Lk) (f : Nat) (t k : Rat) (fc : FaceL) (m : MatL), i ≤ 7 → LkN p0 e0 gr i l → nearF s l.p l.dir = some (f, t) → s.faces[f]? = some fc → matF s f = some m → bendM s.waves m bn (decide (vdot l.dir (unitF s f) < 0)) = some k →
      LkN p0 e0 gr (i + 1) (hopS (fcsOf s bn) l f t k) ∧ (∃ r, Ω .sget (Ψ .dRs m.vals) bn = some (.agg (dR Ψ r)) ∧ Good P F.penumbraref03_Mul [.d (.agg (dR Ψ (Ψ .cr l.gain))), .d (.agg (dR Ψ r))] [] (.d (.agg (dR Ψ (Ψ .cr (hopS (fcsOf s bn) l f t k).gain)))) []) ∧
      Good P F.penumbraref03_Over [.d (.agg (dR Ψ (Ψ .cr 1))), .d (.agg (dR Ψ (Ψ .cr k)))] [] (.d (.agg (dR Ψ (Ψ .cr (1 / k))))) [] ∧
      (∃ A, Good P F.penumbraref07_Stretch [.d (.agg (dV Ψ (Ψ .cV (vadd l.p (vmul t l.dir))))), .d (.agg (dV Ψ (faceU fc))), .d (.agg (dR Ψ (Ψ .cr k)))] [] (.d (.agg (dMap Ψ A))) [] ∧ Good P F.penumbraref07_Turn [.d (.agg (dMap Ψ A)), .d (.agg (dV Ψ (Ψ .cV l.dir)))] [] (.d (.agg (dV Ψ (Ψ .cV (hopS (fcsOf s bn) l f t k).dir)))) []) ∧
      (∃ A, Good P F.penumbraref07_Stretch [.d (.agg (dV Ψ (Ψ .cV (vadd l.p (vmul t l.dir))))), .d (.agg (dV Ψ (faceU fc))), .d (.agg (dR Ψ (Ψ .cr (1 / k))))] [] (.d (.agg (dMap Ψ A))) [] ∧ Good P F.penumbraref07_Then [.d (.agg (dMap Ψ A)), .d (.agg (dMap Ψ (cMap Ψ l.map)))] [] (.d (.agg (dMap Ψ (cMap Ψ (hopS (fcsOf s bn) l f t k).map)))) []) := by
    intro i l f t k fc m hi hN hn hfc hm hbk
    have hpi : (i + 1) * gr ≤ 8 * gr := Nat.mul_le_mul_right _ (by omega)
    have hb' : (fcsOf s bn).bend f l.dir = some k := by
      show (match matF s f with | some m => bendM s.waves m bn (decide (vdot l.dir (unitF s f) < 0)) | none => none) = some k
      rw [hm]; exact hbk
    have hmm := matF_mem hm
    have hvl : m.vals.length = s.waves.length := by
      have h := ok.mb m hmm
      unfold matB at h
      simp only [Bool.and_eq_true, decide_eq_true_eq] at h
      exact h.1.2
    have hr : m.vals[bn]? = some (m.vals[bn]'(by omega)) := List.getElem?_eq_getElem (by omega)
    have hrn := (ok.n.mv m hmm).1 _ (List.mem_of_getElem? hr)
    have eu : vv (faceU fc) = unitF s f := by unfold unitF faceU; rw [hfc, vv_cV]
    have pu : Vn 150 (faceU fc) := by
      have := unitF_n ok f
      rw [← eu] at this
      unfold faceU at this ⊢
      rw [vv_cV] at this
      exact Vn_cV this
    obtain ⟨b1, b2⟩ := bend_cs nF hb'
    have ck := nF.bend _ _ _ hb'
    have qk := ck.size
    have qk' := ck.inv'.size
    have cu := nF.unit f
    have hp' := hN.at nF hG (by omega) hn
    have pp' := hp'.size
    have hat : ∀ (r : Rat), Qn 13 r → Cs 14 (r - 1) → ∃ A, A = cMap Ψ (stretchS (vadd l.p (vmul t l.dir)) (unitF s f) r) ∧ Mpn (p0 + 9 * gr) A ∧
        Good P F.penumbraref07_Stretch [.d (.agg (dV Ψ (Ψ .cV (vadd l.p (vmul t l.dir))))), .d (.agg (dV Ψ (faceU fc))), .d (.agg (dR Ψ (Ψ .cr r)))] [] (.d (.agg (dMap Ψ A))) [] := fun r hr hr2 => by
      have g := stretch7_good (Ψ .cV (vadd l.p (vmul t l.dir))) (faceU fc) (Ψ .cr r) (k := p0 + 9 * gr) (Vn_cV (pp'.mono (by omega))) (pu.mono (by omega)) (Rn_cr.2 (hr.mono (by omega))) (by omega) (by omega)
      rw [vv_cV, rv_cr, eu] at g
      have c1 := CM.stretch (p := vadd l.p (vmul t l.dir)) hr2 cu
      have c2 := Cn.move hr2 cu hp'
      exact ⟨_, rfl, Mpn_c ⟨c1.x.size.mono (by omega), c1.y.size.mono (by omega), c1.z.size.mono (by omega), c2.size.mono (by omega)⟩, g⟩
    obtain ⟨A1, eA1, nA1, gA1⟩ := hat k qk b1
    obtain ⟨A2, eA2, nA2, gA2⟩ := hat (1 / k) qk' b2
    have hmv := hmvB i hi
    refine ⟨hN.hop nF hG (by omega) hn hb', ⟨_, hx_dRs hr, ?_⟩, ?_, ⟨A1, gA1, ?_⟩, ⟨A2, gA2, ?_⟩⟩
    · have g := mul3_good (Ψ .cr l.gain) (m.vals[bn]'(by omega)) (j := 2 * i + 2) (k := 2) (Rn_cr.2 (hN.g.mono (by omega))) hrn (by omega) (by omega)
      rw [rv_cr] at g
      have e : (hopS (fcsOf s bn) l f t k).gain = l.gain * rv (m.vals[bn]'(by omega)) := by
        show l.gain * (match matF s f with | some m => (match m.vals[bn]? with | some r => rv r | none => 0) | none => 0) = _
        rw [hm]
        simp only
        rw [hr]
      rw [e]
      exact g
    · have g := over3_good (Ψ .cr 1) (Ψ .cr k) (Rn_cr.2 Qn_one') (Rn_cr.2 qk) (by omega) (by omega)
      rw [rv_cr, rv_cr] at g
      exact g
    · have g := turn7_good A1 (Ψ .cV l.dir) nA1 (Vn_cV (hN.d.size.mono (by omega))) (by omega) (by omega)
      rw [vv_cV, eA1, mv_cMap, ← eA1] at g
      exact g
    · have nM : Mpn 530000001 (cMap Ψ l.map) := Mpn_c ⟨hN.m.x.size.mono (by omega), hN.m.y.size.mono (by omega), hN.m.z.size.mono (by omega), hN.v.size.mono (by omega)⟩
      have g := then7_good A2 (cMap Ψ l.map) (nA2.mono (by omega)) nM (by omega) (by omega)
      rw [mv_cMap, eA2, mv_cMap, ← eA2] at g
      exact g
  have g4h : Hid _ := ⟨g4⟩
  clear H htn hmvB nF g4 ok
  have hO := oD_ok
  have hP := ptsD_snoc
  have hPl := slen_ptsD
  have hps0 : ptsD [] = [] := rfl
  generalize trisD (trisA s) = TD at *
  unfold dL
  generalize oD = OO at *
  have hO0 : OO [] = [] := hO.nil
  generalize ptsD = PP at *
  refine rq ?_
  refine LoopG.introB (σ := Lk × List V3) [.cell 1407 19 900001 T.int 1] [3, 4, 8, 11, 12, 13] [1050, 1055, 1056, 1057, 1058]
    (fun l => [.d (.i .i64 (Ω .ci bn)), .ptr 1050 0, .ptr 1055 0, .d (.sl TD), .ptr 1056 0, .own 1058 9])
    (fun l => [.var ((dSc Ψ MD FD s).map V.d), .var lkZ, .var (lkV Ψ 0 (.own 1057 1) l.1), .row true T.int 1 (OO l.1.hops), .row true T.api_Vec 9 (PP l.2)])
    (fun l => l.1.hops.length ≤ 8 ∧ LkN p0 e0 gr l.1.hops.length l.1 ∧ R = followS (fcsOf s bn) (8 - l.1.hops.length) l.1 ∧ W = wayS (fcsOf s bn) (8 - l.1.hops.length) l.1 l.2 ∧ l.2.length ≤ l.1.hops.length + 1)
    (fun l => 8 - l.1.hops.length) (l0, ps0) [1000, 1003, 1407, 900001, 1502] ⟨by simp only; omega, by simp only; rw [hl0]; exact hN0, by simp only; rw [hl0]; exact hR, by simp only; rw [hl0]; exact hW, by simp only; omega⟩ ⟨rfl, rfl, (by simp only; rw [e5, e6]; rfl)⟩ ?_
  rintro ⟨l, ps⟩ ⟨hi, hN, hRl, hWl, hpsl⟩
  simp only at hi hN hRl hWl hpsl
  have g4 := g4h.out
  have gn := gN l.hops.length l hi hN
  have gm := fun f t => gM l.hops.length l f t hi hN
  have gh := fun f t k fc m (h : l.hops.length ≤ 7) => gH l.hops.length l f t k fc m h hN
  rw [followS] at hRl
  rw [wayS] at hWl
  have hnear : (fcsOf s bn).near l.p l.dir = nearF s l.p l.dir := rfl
  rw [hnear] at hRl hWl
  clear hnear
  have hol := hO.len l.hops
  have hoc := hO.cat l.hops
  have hpl' := hPl ps
  have hpc := hP ps
  clear g1 g2 g3 g4' hR hW hN0 hl0 gH gM gN hO ho hd e5 e6 g4h hP hPl hpl
  cases hn : nearF s l.p l.dir with
  | none =>
    have h0 := nearF_none hn
    rw [hn] at hRl
    simp only at hRl
    subst hRl
    rw [decide_eq_false h0] at gn
    generalize (firstS (Ψ .cV l.p) (Ψ .cV l.dir) (trisA s)).best = b at *
    generalize Ψ .cM (firstS (Ψ .cV l.p) (Ψ .cV l.dir) (trisA s)).m = M at *
    clear gm gh
    simp only [lkL, Option.isSome_none]
    rw [hO0, hps0]
    first | exact rq (Q := True) trivial | (refine rq ?_; rfl)
  | some x =>
  obtain ⟨f, t⟩ := x
  obtain ⟨h0, h1, h2⟩ := nearF_some hn
  rw [hn] at hRl hWl
  simp only at hRl hWl
  rw [decide_eq_true h0, h1] at gn
  obtain ⟨fc, m, m1, m3, m4, ga, gb, gnm, gmat⟩ := gm f t hn
  have hbd : (fcsOf s bn).bend f l.dir = bendM s.waves m bn (decide (vdot l.dir (unitF s f) < 0)) := by
    show (match matF s f with | some m => bendM s.waves m bn (decide (vdot l.dir (unitF s f) < 0)) | none => none) = _
    rw [m4]
  rw [hbd] at hRl hWl
  have gk := fun k h h2 => gh f t k fc m h hn m1 m4 h2
  have gn' : Good P F.penumbraref12_Nearest [.d (.sl TD), .d (.agg (dV Ψ (Ψ .cV l.p))), .d (.agg (dV Ψ (Ψ .cV l.dir)))] []
      (.tup [.d (.i .i64 (Ω .ci f)), .d (.agg (dM Ψ ⟨Ψ .cr t, (Ψ .cM (firstS (Ψ .cV l.p) (Ψ .cV l.dir) (trisA s)).m).u, (Ψ .cM (firstS (Ψ .cV l.p) (Ψ .cV l.dir) (trisA s)).m).v⟩)), .d (.b true)]) [] := by
    rw [← h2]; exact gn
  clear gn hbd h0 h1 h2 gm gh hn m1 m4
  generalize (Ψ .cM (firstS (Ψ .cV l.p) (Ψ .cV l.dir) (trisA s)).m).u = mu at *
  generalize (Ψ .cM (firstS (Ψ .cV l.p) (Ψ .cV l.dir) (trisA s)).m).v = mw at *
  generalize decide (vdot l.dir (unitF s f) < 0) = fr at *
  generalize faceU fc = U at *
  have hpc' := hpc (vadd l.p (vmul t l.dir))
  have hps2 : (ps ++ [vadd l.p (vmul t l.dir)]).length = ps.length + 1 := by rw [List.length_append]; rfl
  cases hbb : bendM s.waves m bn fr with
  | none =>
    rw [hbb] at gb hRl hWl
    simp only [Option.getD_none, Option.isSome_none] at gb
    simp only at hRl hWl
    subst hRl
    clear gk
    generalize Ψ .cr 0 = N0 at *
    generalize Ψ .cr t = Tt at *
    simp only [lkL, Option.isSome_some]
    rw [hWl, ← hpc']
    clear hpc hpc' hWl
    generalize Ψ .cV (vadd l.p (vmul t l.dir)) = P2 at *
    generalize OO l.hops = HD at *
    generalize PP ps = PD at *
    first | exact rq (Q := True) trivial | (refine rq ?_; rfl)
  | some k =>
    rw [hbb] at gb hRl hWl
    simp only [Option.getD_some, Option.isSome_some] at gb
    simp only at hRl hWl
    rcases Nat.lt_or_ge l.hops.length 8 with h8 | h8
    · have q8 : Ω .eq (Ω .ci (Ω .slen (OO l.hops))) 8 = false := by rw [hol, q_eq]; exact decide_eq_false (by rw [w_ci]; omega)
      obtain ⟨hN', ⟨r, r1, r2⟩, gdiv, ⟨A1, a1, a2⟩, ⟨A2, b1, b2⟩⟩ := gk k (by omega) hbb
      have hh : (hopS (fcsOf s bn) l f t k).hops = l.hops ++ [f] := rfl
      have hhl : (hopS (fcsOf s bn) l f t k).hops.length = l.hops.length + 1 := by rw [hh, List.length_append]; rfl
      have hRn : R = followS (fcsOf s bn) (8 - (hopS (fcsOf s bn) l f t k).hops.length) (hopS (fcsOf s bn) l f t k) ∧ W = wayS (fcsOf s bn) (8 - (hopS (fcsOf s bn) l f t k).hops.length) (hopS (fcsOf s bn) l f t k) (ps ++ [vadd l.p (vmul t l.dir)]) := by
        rw [hRl, hWl, hhl]
        obtain ⟨n, hn⟩ : ∃ n, 8 - l.hops.length = n + 1 := ⟨7 - l.hops.length, by omega⟩
        rw [hn, show 8 - (l.hops.length + 1) = n by omega]
        exact ⟨rfl, rfl⟩
      have hoc := hoc f
      rw [← hh] at hoc
      have ep : vadd l.p (vmul t l.dir) = (hopS (fcsOf s bn) l f t k).p := rfl
      rw [ep] at ga a1 b1 hpc' hps2 hRn
      clear gk hRl hWl ep hpc
      generalize hopS (fcsOf s bn) l f t k = l' at *
      have h56 : Ω .slen (OO l.hops) + 1 ≤ 100 := by rw [hol]; omega
      have h57 : Ω .slen (PP ps) + 1 ≤ 100 := by rw [hpl']; omega
      generalize Ψ .cr k = Kk at *
      generalize Ψ .cr (1 / k) = Kj at *
      generalize Ψ .cr t = Tt at *
      refine rq ?_
      exact ⟨(l', ps ++ [l'.p]), [1050, 1055, 1056, 2904, 2003], ⟨by simp only; omega, by simp only; rw [hhl]; exact hN', hRn.1, hRn.2, by simp only; omega⟩, by simp only; omega, rfl, rfl, (by simp only; rw [← hoc, ← hpc']; rfl)⟩
    · have q8 : Ω .eq (Ω .ci (Ω .slen (OO l.hops))) 8 = true := by rw [hol, q_eq]; exact decide_eq_true (by rw [w_ci]; omega)
      rw [show 8 - l.hops.length = 0 by omega] at hRl
      simp only at hRl
      subst hRl
      clear gk
      generalize Ψ .cr k = Kk at *
      generalize Ψ .cr t = Tt at *
      simp only [lkL, Option.isSome_none]
      rw [hO0, hps0]
      have h57 : Ω .slen (PP ps) + 1 ≤ 100 := by rw [hpl']; omega
      first | exact rq (Q := True) trivial | (refine rq ?_; rfl)
end Go.K.S
end
section
namespace Go.K
open Go
structure LkE (p0 e0 G : Nat) (l : Lk) : Prop where
  p : Cn (p0 + 9 * G) l.p
  d : Cn (e0 + 7440) l.dir
  m : CM 7441 l.map
  v : Cn (mvB p0 G 8) l.map.move
  g : Qn 17 l.gain
  h : l.hops.length ≤ 8
theorem mvB_le (p0 G i : Nat) : mvB p0 G i ≤ mvB p0 G (i + 1) := by rw [mvB]; omega
theorem mvB_8 (p0 G i : Nat) (h : i ≤ 8) : mvB p0 G i ≤ mvB p0 G 8 := by
  have h0 : mvB p0 G 0 ≤ mvB p0 G 1 := mvB_le p0 G 0
  have h1 : mvB p0 G 1 ≤ mvB p0 G 2 := mvB_le p0 G 1
  have h2 : mvB p0 G 2 ≤ mvB p0 G 3 := mvB_le p0 G 2
  have h3 : mvB p0 G 3 ≤ mvB p0 G 4 := mvB_le p0 G 3
  have h4 : mvB p0 G 4 ≤ mvB p0 G 5 := mvB_le p0 G 4
  have h5 : mvB p0 G 5 ≤ mvB p0 G 6 := mvB_le p0 G 5
  have h6 : mvB p0 G 6 ≤ mvB p0 G 7 := mvB_le p0 G 6
  have h7 : mvB p0 G 7 ≤ mvB p0 G 8 := mvB_le p0 G 7
  rcases (show i = 0 ∨ i = 1 ∨ i = 2 ∨ i = 3 ∨ i = 4 ∨ i = 5 ∨ i = 6 ∨ i = 7 ∨ i = 8 by omega) with rfl | rfl | rfl | rfl | rfl | rfl | rfl | rfl | rfl <;> omega
theorem follow_n {F : Fcs} (hF : F.N) {p0 e0 G : Nat} (hG : 2 * e0 + 20000 ≤ G) : ∀ (n i : Nat) (l : Lk) (f : Nat) (l' : Lk), i + n = 8 → l.hops.length = i → LkN p0 e0 G i l → followS F n l = some (f, l') → LkE p0 e0 G l'
  | n, i, l, f, l', hi, hh, h, hf => by
    rw [followS] at hf
    cases hn : F.near l.p l.dir with
    | none => rw [hn] at hf; cases hf
    | some x =>
      obtain ⟨g, s⟩ := x
      rw [hn] at hf
      simp only at hf
      cases hb : F.bend g l.dir with
      | none =>
        rw [hb] at hf
        simp only at hf
        cases hf
        have hp := h.at hF hG (by omega) hn
        have hiG : (i + 1) * G ≤ 9 * G := Nat.mul_le_mul_right _ (by omega)
        exact ⟨hp.mono (by omega), h.d.mono (by omega), h.m.mono (by omega), h.v.mono (mvB_8 _ _ _ (by omega)), h.g.mono (by omega), by show l.hops.length ≤ 8; omega⟩
      | some k =>
        rw [hb] at hf
        simp only at hf
        cases n with
        | zero => cases hf
        | succ n =>
          simp only at hf
          exact follow_n hF hG n (i + 1) _ f l' (by omega) (by show (l.hops ++ [g]).length = _; rw [List.length_append, hh]; rfl) (h.hop hF hG (by omega) hn hb) hf
theorem LkE.n {p0 e0 G k : Nat} {l : Lk} (h : LkE p0 e0 G l) (f : Nat) (h1 : p0 + 9 * G < k) (h2 : e0 + 7441 < k) (h3 : mvB p0 G 8 < k) : Lkn k (lkL (some (f, l))) where
  p := Vn_cV (h.p.size.mono (by omega))
  d := Vn_cV (h.d.size.mono (by omega))
  h := by have := h.h; show l.hops.length ≤ 100; omega
  m := Mpn_c ⟨h.m.x.size.mono (by omega), h.m.y.size.mono (by omega), h.m.z.size.mono (by omega), h.v.size.mono (by omega)⟩
  g := Rn_cr.2 (h.g.mono (by omega))
theorem followR_n {s : ScL} {o d : V3} {bin : Int} {p0 e0 G : Nat} (hG : 2 * e0 + 20000 ≤ G) (ho : Cn p0 o) (hd : Cn e0 d) {f : Nat} {l : Lk} (h : followR s o d bin = some (f, l)) : LkE p0 e0 G l := by
  unfold followR at h
  split at h
  · rename_i hc
    exact follow_n (n_F (scOk_of hc.1) _) hG 8 0 _ f l (by omega) rfl (LkN.start ho hd) h
  · cases h
theorem Rn_zR {k : Nat} : Rn k zR := ⟨fun _ h => (List.not_mem_nil h).elim, fun _ h => (List.not_mem_nil h).elim, Nat.zero_le _, Nat.zero_le _⟩
theorem Vn_zV {k : Nat} : Vn k zV := ⟨Rn_zR, Rn_zR, Rn_zR⟩
theorem lk_n {s : ScL} {o d : V3} {bin : Int} {p0 e0 G k : Nat} (hG : 2 * e0 + 20000 ≤ G) (ho : Cn p0 o) (hd : Cn e0 d) (h1 : p0 + 9 * G < k) (h2 : e0 + 7441 < k) (h3 : mvB p0 G 8 < k) : Lkn k (lkL (followR s o d bin)) := by
  cases h : followR s o d bin with
  | none => exact ⟨Vn_zV, Vn_zV, Nat.zero_le _, ⟨Vn_zV, Vn_zV, Vn_zV, Vn_zV⟩, Rn_zR⟩
  | some x =>
    obtain ⟨f, l⟩ := x
    exact (followR_n hG ho hd h).n f h1 h2 h3
end Go.K
end
