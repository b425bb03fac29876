/-
  Parts of the proof, joined by a program of this work: KWords, KDefs, KInst, KRep, KInv, KRun, KOps.
-/
import Derived.Orders
import Derived.KernelRfl
import Derived.Laws.MakeOwn
import Derived.Laws.Slices
import Derived.Laws.CopyOwn
set_option linter.unusedSectionVars false
set_option linter.unusedSimpArgs false
set_option linter.unusedVariables false
section
namespace Go.K
inductive D where
 | b (x : Bool)
 | i (k : IntKind) (n : Int)
 | s (x : ByteArray)
 | np
 | nif
 | ifc (t : TypeId) (x : D)
 | sl (xs : List D)
 | agg (cs : List D)
 deriving Inhabited
def D.cells : D → List D
 | .agg cs => cs
 | x => [x]
def D.isAgg : D → Bool
 | .agg _ => true
 | _ => false
inductive Wd where
 | ci | wrap | imax | imin | iand | ior | ixor | ishl | ishr | tmod | lt | le | eq | ne | ile | ilt | slen | sget | ssub | sset | srep | scat | tn | nadd | nsub | nlt | leb | room | scpy | bget | bext | bcat | bsz | beqs | bnes
@[reducible] def WTy : Wd → Type
 | .ci => Nat → Int
 | .wrap => IntKind → Int → Int
 | .imax | .imin | .tmod => Int → Int → Int
 | .iand | .ior | .ixor | .ishl | .ishr => IntKind → Int → Int → Int
 | .lt | .le | .eq | .ne => Int → Int → Bool
 | .ile | .ilt => Int → Int → Prop
 | .slen => List D → Nat
 | .sget => List D → Nat → Option D
 | .ssub => List D → Nat → Nat → List D
 | .sset => List D → Nat → D → List D
 | .srep => Nat → D → List D
 | .scat => List D → List D → List D
 | .tn => Int → Nat
 | .nadd | .nsub => Nat → Nat → Nat
 | .nlt | .room => Nat → Nat → Prop
 | .leb => Nat → Nat → Bool
 | .scpy => List D → Nat → List D → List D
 | .bget => ByteArray → Nat → Option Nat
 | .bext => ByteArray → Nat → Nat → ByteArray
 | .bcat => ByteArray → ByteArray → ByteArray
 | .bsz => ByteArray → Nat
 | .beqs | .bnes => ByteArray → ByteArray → Bool
def Ω : (t : Wd) → WTy t
 | .ci => fun (n : Nat) => (n : Int)
 | .wrap => fun k n => k.wrap n
 | .imax => fun (n m : Int) => if m > n then m else n
 | .imin => fun (n m : Int) => if m < n then m else n
 | .tmod => fun (n m : Int) => n.tmod m
 | .iand => fun (k : IntKind) (n m : Int) => k.wrap (BitVec.ofInt k.bits n &&& BitVec.ofInt k.bits m).toNat
 | .ior => fun (k : IntKind) (n m : Int) => k.wrap (BitVec.ofInt k.bits n ||| BitVec.ofInt k.bits m).toNat
 | .ixor => fun (k : IntKind) (n m : Int) => k.wrap (BitVec.ofInt k.bits n ^^^ BitVec.ofInt k.bits m).toNat
 | .ishl => fun (k : IntKind) (n m : Int) => k.wrap (n * 2 ^ (min m.toNat k.bits))
 | .ishr => fun (k : IntKind) (n m : Int) => n.fdiv (2 ^ (min m.toNat k.bits))
 | .lt => fun (n m : Int) => decide (n < m)
 | .le => fun (n m : Int) => decide (n ≤ m)
 | .eq => fun (n m : Int) => n == m
 | .ne => fun (n m : Int) => n != m
 | .ile => fun (n m : Int) => n ≤ m
 | .ilt => fun (n m : Int) => n < m
 | .slen => fun (xs : List D) => xs.length
 | .sget => fun (xs : List D) (k : Nat) => xs[k]?
 | .ssub => fun (xs : List D) (a n : Nat) => (xs.drop a).take n
 | .sset => fun (xs : List D) (k : Nat) (y : D) => xs.set k y
 | .srep => fun (n : Nat) (x : D) => List.replicate n x
 | .scat => fun (xs ys : List D) => xs ++ ys
 | .tn => fun (n : Int) => n.toNat
 | .nadd => fun (a b : Nat) => a + b
 | .nsub => fun (a b : Nat) => a - b
 | .nlt => fun (a b : Nat) => a < b
 | .leb => fun (a b : Nat) => decide (a ≤ b)
 | .scpy => fun (xs : List D) (a : Nat) (zs : List D) => xs.take a ++ zs ++ xs.drop (a + zs.length)
 | .room => fun (n b : Nat) => n * b ≤ 140737488355328 ∧ n ≤ 1099511627776
 | .bget => fun (b : ByteArray) (k : Nat) => (b[k]?).map fun c => c.toNat
 | .bext => fun (b : ByteArray) (i j : Nat) => b.extract i j
 | .bcat => fun (a b : ByteArray) => a ++ b
 | .bsz => fun (b : ByteArray) => b.size
 | .beqs => fun (a b : ByteArray) => a.toList == b.toList
 | .bnes => fun (a b : ByteArray) => !(a.toList == b.toList)
def nv : List Nat → Nat
 | [] => 0
 | x :: l => x + 4294967296 * nv l
def cn (n : Nat) : List Nat := if h : n = 0 then [] else n % 4294967296 :: cn (n / 4294967296)
 termination_by n
 decreasing_by omega
structure RL where
 neg : Bool
 num : List Nat
 den : List Nat
structure VL where
 x : RL
 y : RL
 z : RL
structure V3 where
 x : Rat
 y : Rat
 z : Rat
structure M3 where
 s : Rat
 u : Rat
 v : Rat
structure ML where
 s : RL
 u : RL
 v : RL
structure BL where
 lo : VL
 hi : VL
structure B3 where
 lo : V3
 hi : V3
def limsR (l : List Nat) : List D := l.map fun (x : Nat) => D.i .u32 (x : Int)
def crR (q : Rat) : RL := ⟨decide (q.num < 0), cn q.num.natAbs, cn q.den⟩
def cVR (p : V3) : VL := ⟨crR p.x, crR p.y, crR p.z⟩
def dRR (r : RL) : List D := [.b r.neg, .sl (limsR r.num), .sl (limsR r.den)]
def dVR (v : VL) : List D := [.b v.x.neg, .sl (limsR v.x.num), .sl (limsR v.x.den), .b v.y.neg, .sl (limsR v.y.num), .sl (limsR v.y.den), .b v.z.neg, .sl (limsR v.z.num), .sl (limsR v.z.den)]
inductive Sd where
 | lims | cr | cI | sI | cmpI | dRs | dVs | dBs | cV | cB | cM | hb | cn
@[reducible] def STy : Sd → Type
 | .lims => List Nat → List D
 | .cr => Rat → RL
 | .cI => Rat → Rat → Int
 | .sI => Rat → Int
 | .cmpI => Nat → Nat → Int
 | .dRs => List RL → List D
 | .dVs => List VL → List D
 | .dBs => List BL → List D
 | .cV => V3 → VL
 | .cB => B3 → BL
 | .cM => M3 → ML
 | .hb => Bool → Bool
 | .cn => Nat → List Nat
def Ψ : (t : Sd) → STy t
 | .lims => limsR
 | .cr => crR
 | .cI => fun (p q : Rat) => if p < q then (-1 : Int) else if q < p then 1 else 0
 | .sI => fun (q : Rat) => if q < 0 then (-1 : Int) else if 0 < q then 1 else 0
 | .cmpI => fun (m n : Nat) => if m < n then (-1 : Int) else if n < m then 1 else 0
 | .dRs => fun (l : List RL) => l.map fun r => D.agg (dRR r)
 | .dVs => fun (l : List VL) => l.map fun r => D.agg (dVR r)
 | .dBs => fun (l : List BL) => l.map fun b => D.agg (dVR b.lo ++ dVR b.hi)
 | .cV => cVR
 | .cB => fun (p : B3) => ⟨cVR p.lo, cVR p.hi⟩
 | .cM => fun (m : M3) => ⟨crR m.s, crR m.u, crR m.v⟩
 | .hb => fun (b : Bool) => b
 | .cn => cn
section
variable (Ψ : (t : Sd) → STy t)
def dN (l : List Nat) : D := .sl (Ψ .lims l)
def dR (r : RL) : List D := [.b r.neg, dN Ψ r.num, dN Ψ r.den]
def dV (v : VL) : List D := [.b v.x.neg, dN Ψ v.x.num, dN Ψ v.x.den, .b v.y.neg, dN Ψ v.y.num, dN Ψ v.y.den, .b v.z.neg, dN Ψ v.z.num, dN Ψ v.z.den]
def dM (v : ML) : List D := [.b v.s.neg, dN Ψ v.s.num, dN Ψ v.s.den, .b v.u.neg, dN Ψ v.u.num, dN Ψ v.u.den, .b v.v.neg, dN Ψ v.v.num, dN Ψ v.v.den]
def dB (b : BL) : List D := [.b b.lo.x.neg, dN Ψ b.lo.x.num, dN Ψ b.lo.x.den, .b b.lo.y.neg, dN Ψ b.lo.y.num, dN Ψ b.lo.y.den, .b b.lo.z.neg, dN Ψ b.lo.z.num, dN Ψ b.lo.z.den,
 .b b.hi.x.neg, dN Ψ b.hi.x.num, dN Ψ b.hi.x.den, .b b.hi.y.neg, dN Ψ b.hi.y.num, dN Ψ b.hi.y.den, .b b.hi.z.neg, dN Ψ b.hi.z.num, dN Ψ b.hi.z.den]
end
end Go.K
end
section
namespace Go.K
variable (Ω : (t : Wd) → WTy t)
inductive V where
 | d (x : D)
 | agg (cs : List V)
 | tup (cs : List V)
 | ptr (id off : Nat)
 | ept (id sz i off : Nat)
 | ip (x : D) (off : Nat)
 | own (id sz : Nat)
 | ref (id sz off len : Nat)
 | nil
 | fn (f : FuncId)
 | clo (f : FuncId) (first caps : List (Option Nat))
 | junk
 deriving Inhabited
def V.cells : V → List V
 | .d x => x.cells.map V.d
 | .agg cs => cs
 | v => [v]
def V.cellsO : V → Option (List V)
 | .junk => none
 | .tup _ => none
 | v => some v.cells
inductive Blk where
 | row (live : Bool) (e sz : Nat) (xs : List D)
 | var (cs : List V)
 | dead
 deriving Inhabited
abbrev Heap := Nat → Option Blk
structure TInfo where
 size : Nat
 bytes : Nat
 zero : Option Value
 und : TypeDesc
def upd {α : Type} (s : Nat → α) (t : Nat) (v : α) : Nat → α := fun x => if x = t then v else s x
structure St where
 sl : Nat → V
 h : Heap
def const1 : Value → V
 | .bool x => .d (.b x)
 | .int k n => .d (.i k n)
 | .string x => .d (.s x)
 | .pointer none => .d .np
 | .nilIface => .d .nif
 | .slice none 0 0 => .nil
 | _ => .junk
def constV : Value → V
 | .agg cs => if cs.toList.all Value.oneCell' then .agg (cs.toList.map const1) else .junk
 | v => const1 v
def capV : Option Nat → V
 | some i => .ptr i 0
 | none => .d .np
def capOf : V → Option (Option Nat)
 | .ptr i 0 => some (some i)
 | .d .np => some none
 | _ => none
def capsOf : List V → Option (List (Option Nat))
 | [] => some []
 | v :: r => match capOf v, capsOf r with
  | some a, some l => some (a :: l)
  | _, _ => none
def fnOf (f : V) (as : List V) : Option (FuncId × List V) :=
 match f with
 | .fn g => some (g, as)
 | .clo g a b => some (g, a.map capV ++ as ++ b.map capV)
 | _ => none
def ev (s : Nat → V) : Operand → V
 | .tmp t => s t
 | .const v => constV v
 | .global _ => .junk
 | .func f => .fn f
def BrG (t : Bool) (K : Bool → Prop) : Prop := (cond t (fun (_ : Unit) => K true) (fun (_ : Unit) => K false)) ()
def DK (r : D) (K : D → Prop) : Prop :=
 match r with
 | .b t => BrG t fun t => K (.b t)
 | r => K r
def toD1 (h : Heap) : V → Option D
 | .d x => some x
 | .nil => some (.sl [])
 | .own id _ => match h id with
  | some (.row _ _ _ xs) => some (.sl xs)
  | _ => none
 | .ref id sz off len => match h id with
  | some (.row _ _ z xs) => if z = sz then cond (Ω .leb (Ω .nadd off len) (Ω .slen xs)) (some (.sl (Ω .ssub xs off len))) none else none
  | _ => none
 | _ => none
def allD (h : Heap) : List V → Option (List D)
 | [] => some []
 | v :: r => match toD1 Ω h v, allD h r with
  | some x, some l => some (x :: l)
  | _, _ => none
def toD (h : Heap) : V → Option D
 | .agg cs => match allD Ω h cs with
  | some l => some (.agg l)
  | none => none
 | v => toD1 Ω h v
def toDs (h : Heap) : List V → Option (List D)
 | [] => some []
 | v :: r => match toD Ω h v, toDs h r with
  | some x, some l => some (x :: l)
  | _, _ => none
def ids1 : V → List Nat
 | .own id _ => [id]
 | .ref id _ _ _ => [id]
 | _ => []
def idsOf : V → List Nat
 | .agg cs => cs.flatMap ids1
 | v => ids1 v
structure Out where
 v : V
 upd : List (Nat × Blk) := []
 rd : List Nat := []
def ups (h : Heap) : List (Nat × Blk) → Heap
 | [] => h
 | (i, b) :: r => upd (ups h r) i (some b)
def loadD (x : D) (off n : Nat) (agg : Bool) : D :=
 if agg then (if x.isAgg && off == 0 && n == x.cells.length then x else .agg ((x.cells.drop off).take n)) else x.cells.getD off .np
def isAggT : TypeDesc → Bool
 | .struct _ | .array _ _ => true
 | _ => false
def OneT (u : TypeDesc) (n : Nat) : Prop := (isAggT u || Nat.beq n 1) = true
def freezeL (h : Heap) : List Nat → List (Nat × Blk)
 | [] => []
 | i :: r => match h i with
  | some (.row _ e z xs) => (i, .row false e z xs) :: freezeL h r
  | _ => freezeL h r
def binD (op : BinOp) (x y : D) : Option D :=
 match op, x, y with
 | .add, .i k a, .i k' c => if k = k' then some (.i k (Ω .wrap k (a + c))) else none
 | .sub, .i k a, .i k' c => if k = k' then some (.i k (Ω .wrap k (a - c))) else none
 | .mul, .i k a, .i k' c => if k = k' then some (.i k (Ω .wrap k (a * c))) else none
 | .eql, .i k a, .i k' c => if k = k' then some (.b (Ω .eq a c)) else none
 | .neq, .i k a, .i k' c => if k = k' then some (.b (Ω .ne a c)) else none
 | .lss, .i k a, .i k' c => if k = k' then some (.b (Ω .lt a c)) else none
 | .leq, .i k a, .i k' c => if k = k' then some (.b (Ω .le a c)) else none
 | .gtr, .i k a, .i k' c => if k = k' then some (.b (Ω .lt c a)) else none
 | .geq, .i k a, .i k' c => if k = k' then some (.b (Ω .le c a)) else none
 | .eql, .b a, .b c => some (.b (a == c))
 | .neq, .b a, .b c => some (.b (!(a == c)))
 | .eql, .s a, .s c => some (.b (Ω .beqs a c))
 | .neq, .s a, .s c => some (.b (Ω .bnes a c))
 | _, _, _ => none
def eqTy (tt : TypeId → Option TInfo) (T : TypeId) : D → Prop
 | .b _ => match tt T with
  | some { und := .bool, .. } => True
  | _ => False
 | _ => True
def renC (f : Nat → Option Nat) : List (Option Nat) → Option (List (Option Nat))
 | [] => some []
 | none :: r => match renC f r with
  | some l => some (none :: l)
  | none => none
 | some i :: r => match f i, renC f r with
  | some j, some l => some (some j :: l)
  | _, _ => none
def ren1 (f : Nat → Option Nat) : V → V
 | .ptr id off => match f id with | some j => .ptr j off | none => .junk
 | .ept id sz i off => match f id with | some j => .ept j sz i off | none => .junk
 | .own id sz => match f id with | some j => .own j sz | none => .junk
 | .ref id sz off len => match f id with | some j => .ref j sz off len | none => .junk
 | .agg _ => .junk
 | .tup _ => .junk
 | .clo g a b => match renC f a, renC f b with
  | some a', some b' => .clo g a' b'
  | _, _ => .junk
 | v => v
def ren0 (f : Nat → Option Nat) : V → V
 | .agg cs => .agg (cs.map (ren1 f))
 | v => ren1 f v
def ren (f : Nat → Option Nat) : V → V
 | .tup cs => .tup (cs.map (ren0 f))
 | v => ren0 f v
def renB (f : Nat → Option Nat) : Blk → Blk
 | .var cs => .var (cs.map (ren1 f))
 | b => b
def mkH (bs : List Blk) : Heap := fun id => bs[id]?
def vid1 : V → List Nat
 | .ptr id _ => [id]
 | .ept id _ _ _ => [id]
 | .own id _ => [id]
 | .ref id _ _ _ => [id]
 | .clo _ a b => (a ++ b).filterMap id
 | _ => []
def vids : V → List Nat
 | .agg cs => cs.flatMap vid1
 | v => vid1 v
def reach (h : Heap) : Nat → List Nat → List Nat → List Nat
 | 0, _, acc => acc
 | _ + 1, [], acc => acc
 | n + 1, id :: r, acc => if acc.contains id then reach h n r acc else match h id with
  | some (.var cs) => reach h n (cs.flatMap vid1 ++ r) (acc ++ [id])
  | _ => reach h n r (acc ++ [id])
def getAll (h : Heap) : List Nat → Option (List Blk)
 | [] => some []
 | i :: r => match h i, getAll h r with
  | some b, some l => some (b :: l)
  | _, _ => none
def allNew (h : Heap) : List Nat → Prop
 | [] => True
 | i :: r => h i = none ∧ allNew h r
def back (s : List Nat) (k : Nat) : Option Nat := s[k]?
def fore (s : List Nat) (id : Nat) : Option Nat := s.idxOf? id
structure Env where
 tt : TypeId → Option TInfo
 C : FuncId → List D → V → Prop
 C2 : FuncId → List V → List Blk → V → List Blk → Prop
 md : FuncId → Bool
 m : Nat
 /-- functions that are handed blocks and write none of them -/
 ro : FuncId → Bool
def nodupB : List Nat → Bool
 | [] => true
 | a :: r => !r.contains a && nodupB r
def newIds (id : Nat) (n : Nat) : List Nat := (List.range n).map fun k => 1000000 + id * 8 + k
def shapeV (agg : Bool) (cs : List V) : V :=
 if agg then .agg cs else cs.headD .junk
def fillV (place : Nat → Option (Nat × Nat)) (cells : List V) : List (Nat × V) → Option (List V)
 | [] => some cells
 | (i, v) :: rest => match place i with
  | none => none
  | some (off, size) => match v.cellsO with
   | some l => if l.length = size ∧ off + l.length ≤ cells.length
    then fillV place (cells.take off ++ l ++ cells.drop (off + l.length)) rest else none
   | none => none
def places (tt : TypeId → Option TInfo) : List Field → Option (List (Nat × Nat))
 | [] => some []
 | f :: r => match tt f.type, places tt r with
  | some i, some l => some ((f.offset, i.size) :: l)
  | _, _ => none
def lowOf : Option V → Option Int
 | none => some 0
 | some (.d (.i _ n)) => some n
 | _ => none
def highOf (len : Nat) : Option V → Option Int
 | none => some (Ω .ci len)
 | some (.d (.i _ n)) => some n
 | _ => none
def partsD (h : Heap) : List (Nat × V) → Option (List (Nat × D))
 | [] => some []
 | (i, v) :: r => match toD Ω h v, partsD h r with
  | some x, some l => some ((i, x) :: l)
  | _, _ => none
def dense (sz : Nat) : Nat → List (Nat × D) → Option (List D)
 | _, [] => some []
 | k, (i, x) :: r => if i = k ∧ x.cells.length = sz then (match dense sz (k + 1) r with | some l => some (x :: l) | none => none) else none
def opR (E : Env) (draw : Bool) (ev : Operand → V) (h : Heap) (o : Op) (id : Nat) (K : Out → Prop) : Prop :=
 match o with
 | .move x | .assign x => K { v := ev x }
 | .pick c a b => match ev c with
  | .d (.b t) => BrG t fun t => K { v := if t then ev a else ev b }
  | _ => False
 | .nilCheck x => match ev x with
  | .ptr j off => K { v := .ptr j off }
  | .ept j sz i off => K { v := .ept j sz i off }
  | .ip x off => K { v := .ip x off }
  | .fn f => K { v := .fn f }
  | .clo f a b => K { v := .clo f a b }
  | _ => False
 | .makeFunc fn first captured => match fn, capsOf (first.toList.map ev), capsOf (captured.toList.map ev) with
  | .func g, some [], some [] => K { v := .fn g }
  | .func g, some a, some b => K { v := .clo g a b }
  | _, _, _ => False
 | .alloc T => match E.tt T with
  | some { zero := some z, .. } => match (constV z).cellsO with
   | some l => h id = none ∧ K { v := .ptr id 0, upd := [(id, .var l)], rd := [id] }
   | none => False
  | _ => False
 | .box _ x => match (ev x).cellsO with
  | some l => h id = none ∧ K { v := .ptr id 0, upd := [(id, .var l)], rd := [id] }
  | none => False
 | .store T x y => match E.tt T, ev x with
  | some i, .ptr j off => match h j with
   | some (.var cs) => match (ev y).cellsO with
    | some l => l.length = i.size ∧ off + i.size ≤ cs.length ∧
     K { v := .junk, upd := [(j, .var (cs.take off ++ l ++ cs.drop (off + i.size)))], rd := [j] }
    | none => False
   | _ => False
  | some i, .ept j sz k off => match h j with
   | some (.row true e z xs) => match toD Ω h (ev y) with
    | some y' => z = sz ∧ (idsOf (ev y)).contains j = false ∧ Ω .nlt k (Ω .slen xs) ∧ y'.cells.length = i.size ∧
      (if off = 0 ∧ i.size = sz then K { v := .junk, upd := (j, .row true e z (Ω .sset xs k y')) :: freezeL h (idsOf (ev y)), rd := j :: idsOf (ev y) }
      else off + i.size ≤ sz ∧ ∃ x0, Ω .sget xs k = some x0 ∧
       K { v := .junk, upd := (j, .row true e z (Ω .sset xs k (.agg (x0.cells.take off ++ y'.cells ++ x0.cells.drop (off + i.size))))) :: freezeL h (idsOf (ev y)), rd := j :: idsOf (ev y) })
    | none => False
   | _ => False
  | _, _ => False
 | .load T x => match E.tt T, ev x with
  | some i, .ptr j off => match h j with
   | some (.var cs) => off + i.size ≤ cs.length ∧ OneT i.und i.size ∧ K { v := shapeV (isAggT i.und) ((cs.drop off).take i.size), rd := [j] }
   | _ => False
  | some i, .ept j sz k off => match h j with
   | some (.row _ _ z xs) => z = sz ∧ ∃ x, Ω .sget xs k = some x ∧ off + i.size ≤ x.cells.length ∧ OneT i.und i.size ∧ K { v := .d (loadD x off i.size (isAggT i.und)), rd := [j] }
   | _ => False
  | some i, .ip x off => 0 < i.size ∧ off + i.size ≤ x.cells.length ∧ OneT i.und i.size ∧ K { v := .d (loadD x off i.size (isAggT i.und)) }
  | _, _ => False
 | .fieldAddr T x f => match E.tt T with
  | some { und := .struct fs, .. } => match fs[f]? with
   | some g => match E.tt g.type with
    | some i => 0 < i.size ∧ (match ev x with
     | .ptr j off => K { v := .ptr j (off + g.offset) }
     | .ept j sz k off => K { v := .ept j sz k (off + g.offset) }
     | .ip x off => K { v := .ip x (off + g.offset) }
     | _ => False)
    | none => False
   | none => False
  | _ => False
 | .field T x f => match E.tt T with
  | some { und := .struct fs, .. } => match fs[f]? with
   | some g => match E.tt g.type with
    | some i => match ev x with
     | .agg cs => g.offset + i.size ≤ cs.length ∧ OneT i.und i.size ∧ K { v := shapeV (isAggT i.und) ((cs.drop g.offset).take i.size) }
     | .d (.agg cs) => g.offset + i.size ≤ cs.length ∧ OneT i.und i.size ∧ K { v := .d (loadD (.agg cs) g.offset i.size (isAggT i.und)) }
     | _ => False
    | none => False
   | none => False
  | _ => False
 | .index T x y => match E.tt T with
  | some { und := .array n e, .. } => match E.tt e with
   | some i => match ev x, ev y with
    | .agg cs, .d (.i _ k) => 0 ≤ k ∧ k.toNat < n ∧ k.toNat * i.size + i.size ≤ cs.length ∧ OneT i.und i.size ∧ K { v := shapeV (isAggT i.und) ((cs.drop (k.toNat * i.size)).take i.size) }
    | .d (.agg cs), .d (.i _ k) => 0 ≤ k ∧ k.toNat < n ∧ k.toNat * i.size + i.size ≤ cs.length ∧ OneT i.und i.size ∧ K { v := .d (loadD (.agg cs) (k.toNat * i.size) i.size (isAggT i.und)) }
    | _, _ => False
   | none => False
  | some { und := .string, .. } => match ev x, ev y with
   | .d (.s b), .d (.i _ k) => Ω .ile 0 k ∧ ∃ c, Ω .bget b (Ω .tn k) = some c ∧ K { v := .d (.i .u8 (Ω .ci c)) }
   | _, _ => False
  | _ => False
 | .indexAddr T x y => match E.tt T with
  | some { und := .array n e, .. } => match E.tt e with
   | some i => match ev x, ev y with
    | .ptr j off, .d (.i _ k) => 0 ≤ k ∧ k.toNat < n ∧ K { v := .ptr j (off + k.toNat * i.size) }
    | .ept j sz l off, .d (.i _ k) => 0 ≤ k ∧ k.toNat < n ∧ K { v := .ept j sz l (off + k.toNat * i.size) }
    | .ip x off, .d (.i _ k) => 0 ≤ k ∧ k.toNat < n ∧ K { v := .ip x (off + k.toNat * i.size) }
    | _, _ => False
   | none => False
  | some { und := .slice e, .. } => match E.tt e with
   | some i => match ev x, ev y with
    | .d (.sl xs), .d (.i _ k) => Ω .ile 0 k ∧ ∃ x, Ω .sget xs (Ω .tn k) = some x ∧ x.cells.length = i.size ∧ K { v := .ip x 0 }
    | .own j sz, .d (.i _ k) => match h j with
     | some (.row _ _ z xs) => z = sz ∧ sz = i.size ∧ Ω .ile 0 k ∧ Ω .ilt k (Ω .ci (Ω .slen xs)) ∧ K { v := .ept j sz (Ω .tn k) 0, rd := [j] }
     | _ => False
    | .ref j sz off len, .d (.i _ k) => sz = i.size ∧ Ω .ile 0 k ∧ Ω .ilt k (Ω .ci len) ∧ K { v := .ept j sz (Ω .nadd off (Ω .tn k)) 0 }
    | _, _ => False
   | none => False
  | _ => False
 | .slice T x lo hi mx => match E.tt T with
  | some { und := .slice e, .. } => match E.tt e with
   | some i => match ev x with
    | .d (.sl xs) => match lowOf (lo.map ev), highOf Ω (Ω .slen xs) (hi.map ev), highOf Ω (Ω .slen xs) (mx.map ev) with
     | some l, some u, some m => Ω .ile 0 l ∧ Ω .ile l u ∧ Ω .ile u m ∧ Ω .ile m (Ω .ci (Ω .slen xs)) ∧ (mx.isSome → hi.isSome) ∧ (∀ x ∈ xs, x.cells.length = i.size) ∧ K { v := .d (.sl (Ω .ssub xs (Ω .tn l) (Ω .nsub (Ω .tn u) (Ω .tn l)))) }
     | _, _, _ => False
    | .own j sz => match h j with
     | some (.row lv e' z xs) => if lo = none ∧ mx.isSome = true
      then (match hi.map ev, mx.map ev with
       | some (.d (.i _ u)), some (.d (.i _ m)) => lv = true ∧ z = sz ∧ sz = i.size ∧ Ω .ile 0 u ∧ Ω .ile u m ∧ Ω .ile m (Ω .ci (Ω .slen xs)) ∧ h id = none ∧
         K { v := .own id sz, upd := [(id, .row true e' z (Ω .ssub xs 0 (Ω .tn u))), (j, .dead)], rd := [id, j] }
       | _, _ => False)
      else (match lowOf (lo.map ev), highOf Ω (Ω .slen xs) (hi.map ev), highOf Ω (Ω .slen xs) (mx.map ev) with
       | some l, some u, some m => z = sz ∧ sz = i.size ∧ Ω .ile 0 l ∧ Ω .ile l u ∧ Ω .ile u m ∧ Ω .ile m (Ω .ci (Ω .slen xs)) ∧ (mx.isSome → hi.isSome) ∧ K { v := .ref j sz (Ω .tn l) (Ω .nsub (Ω .tn u) (Ω .tn l)), rd := [j] }
       | _, _, _ => False)
     | _ => False
    | .ref j sz off len => match lowOf (lo.map ev), highOf Ω len (hi.map ev), highOf Ω len (mx.map ev) with
     | some l, some u, some m => sz = i.size ∧ Ω .ile 0 l ∧ Ω .ile l u ∧ Ω .ile u m ∧ Ω .ile m (Ω .ci len) ∧ (mx.isSome → hi.isSome) ∧ K { v := .ref j sz (Ω .nadd off (Ω .tn l)) (Ω .nsub (Ω .tn u) (Ω .tn l)) }
     | _, _, _ => False
    | _ => False
   | none => False
  | some { und := .string, .. } => match ev x with
   | .d (.s b) => match lowOf (lo.map ev), highOf Ω (Ω .bsz b) (hi.map ev) with
    | some l, some u => mx = none ∧ Ω .ile 0 l ∧ Ω .ile l u ∧ Ω .ile u (Ω .ci (Ω .bsz b)) ∧ K { v := .d (.s (Ω .bext b (Ω .tn l) (Ω .tn u))) }
    | _, _ => False
   | _ => False
  | _ => False
 | .build T parts => match E.tt T with
  | some { und := .struct fs, zero := some z, .. } => match places E.tt fs.toList, (constV z).cellsO with
   | some pl, some l => match fillV (fun i => pl[i]?) l (parts.toList.map fun p => (p.1, ev p.2)) with
    | some cs => K { v := .agg cs }
    | none => False
   | _, _ => False
  | some { und := .array _ e, zero := some z, .. } => match E.tt e, (constV z).cellsO with
   | some i, some l => match fillV (fun k => some (k * i.size, i.size)) l (parts.toList.map fun p => (p.1, ev p.2)) with
    | some cs => K { v := .agg cs }
    | none => False
   | _, _ => False
  | _ => False
 | .buildSlice T len parts => match E.tt T with
  | some { und := .slice e, .. } => match E.tt e with
   | some i => match partsD Ω h (parts.toList.map fun p => (p.1, ev p.2)) with
    | some ps => match dense i.size 0 ps with
     | some xs => xs.length = len ∧ len * i.size ≤ 16777216 ∧ 0 < i.size ∧ i.zero.isSome = true ∧
       (if (draw && !Nat.beq len 0) then K { v := .d (.sl xs), upd := freezeL h ((parts.toList.map fun p => ev p.2).flatMap idsOf), rd := (parts.toList.map fun p => ev p.2).flatMap idsOf }
       else h id = none ∧ K { v := .own id i.size, upd := (id, .row true e i.size xs) :: freezeL h ((parts.toList.map fun p => ev p.2).flatMap idsOf), rd := id :: (parts.toList.map fun p => ev p.2).flatMap idsOf })
     | none => False
    | none => False
   | none => False
  | _ => False
 | .makeSlice T l c => match E.tt T with
  | some { und := .slice e, .. } => match E.tt e with
   | some { size, bytes, zero := some z, .. } => match ev l, ev c with
    | .d (.i _ n), .d (.i _ m) => match toD Ω h (constV z) with
     | some x => h id = none ∧ Ω .ile 0 n ∧ Ω .ile n m ∧ Ω .ile (Ω .ci bytes * m) 281474976710656 ∧ Ω .ile m 4611686018427387904 ∧ 0 < size ∧ x.cells.length = size ∧
       K { v := .own id size, upd := [(id, .row true e size (Ω .srep (Ω .tn n) x))], rd := [id] }
     | none => False
    | _, _ => False
   | _ => False
  | _ => False
 | .binOp op T x y _ => match ev x, ev y with
  | .d (.sl xs), .nil => draw = false ∧ op = .eql ∧ (match E.tt T with | some { und := .slice _, .. } => True | _ => False) ∧ ∀ t : Bool, (t = true → xs = []) → K { v := .d (.b t) }
  | .d a, .d c => match binD Ω op a c with
   | some r => eqTy E.tt T a ∧ DK r fun r => K { v := .d r }
   | none => match op, a, c with
    | .add, .s a, .s c => Ω .room (Ω .nadd (Ω .bsz a) (Ω .bsz c)) 1 ∧ K { v := .d (.s (Ω .bcat a c)) }
    | .quo, .i k n, .i k' m => k = k' ∧ m ≠ 0 ∧ K { v := .d (.i k (Ω .wrap k (n.tdiv m))) }
    | .rem, .i k n, .i k' m => k = k' ∧ m ≠ 0 ∧ K { v := .d (.i k (Ω .tmod n m)) }
    | .shl, .i k n, .i _ m => Ω .ile 0 m ∧ K { v := .d (.i k (Ω .ishl k n m)) }
    | .shr, .i k n, .i _ m => Ω .ile 0 m ∧ K { v := .d (.i k (Ω .ishr k n m)) }
    | .and, .i k n, .i k' m => k = k' ∧ K { v := .d (.i k (Ω .iand k n m)) }
    | .or, .i k n, .i k' m => k = k' ∧ K { v := .d (.i k (Ω .ior k n m)) }
    | .xor, .i k n, .i k' m => k = k' ∧ K { v := .d (.i k (Ω .ixor k n m)) }
    | _, _, _ => False
  | _, _ => False
 | .unOp op _ x => match op, ev x with
  | .not, .d (.b t) => K { v := .d (.b (!t)) }
  | .neg, .d (.i k n) => K { v := .d (.i k (Ω .wrap k (0 - n))) }
  | .xor, .d (.i k n) => K { v := .d (.i k (Ω .ixor k (if k.signed then -1 else k.max) n)) }
  | _, _ => False
 | .convert S T x => match E.tt S, E.tt T, ev x with
  | some _, some { und := .int k, .. }, .d (.i _ n) => K { v := .d (.i k (Ω .wrap k n)) }
  | some { und := .string, .. }, some { und := .string, .. }, .d (.s b) => K { v := .d (.s b) }
  | _, _, _ => False
 | .extract x k => match ev x with
  | .tup cs => match cs[k]? with
   | some v => K { v }
   | none => False
  | _ => False
 | .makeInterface T x => match E.tt T, ev x with
  | some { und := .int _, .. }, .d (.i k n) => K { v := .d (.ifc T (.i k n)) }
  | _, _ => False
 | .call { callee := .value f, args, .. } => match fnOf (ev f) (args.toList.map ev) with
  | some (g, as) => if E.md g then
    if E.ro g then
    (match getAll h (reach h 40 (as.flatMap vids) []) with
    | some bs => ∃ r, E.C2 g (as.map (ren (fore (reach h 40 (as.flatMap vids) [])))) (bs.map (renB (fore (reach h 40 (as.flatMap vids) [])))) r (bs.map (renB (fore (reach h 40 (as.flatMap vids) [])))) ∧
      nodupB (reach h 40 (as.flatMap vids) []) = true ∧
      (bs.map (renB (fore (reach h 40 (as.flatMap vids) [])))).map (renB (back (reach h 40 (as.flatMap vids) []))) = bs ∧
      K { v := ren (back (reach h 40 (as.flatMap vids) [])) r, rd := reach h 40 (as.flatMap vids) [] }
    | none => False)
    else
    (match getAll h (reach h 40 (as.flatMap vids) []) with
    | some bs => ∃ r bs', E.C2 g (as.map (ren (fore (reach h 40 (as.flatMap vids) [])))) (bs.map (renB (fore (reach h 40 (as.flatMap vids) [])))) r bs' ∧
      allNew h (newIds id (bs'.length - bs.length)) ∧ bs.length ≤ bs'.length ∧ nodupB (reach h 40 (as.flatMap vids) []) = true ∧
      K {
        v := ren (back (reach h 40 (as.flatMap vids) [] ++ newIds id (bs'.length - bs.length))) r,
        upd := (reach h 40 (as.flatMap vids) [] ++ newIds id (bs'.length - bs.length)).zip (bs'.map (renB (back (reach h 40 (as.flatMap vids) [] ++ newIds id (bs'.length - bs.length))))),
        rd := reach h 40 (as.flatMap vids) [] ++ newIds id (bs'.length - bs.length) }
    | none => False)
   else match toDs Ω h as with
   | some ds => ∃ r, E.C g ds r ∧ K { v := r, upd := freezeL h (as.flatMap idsOf), rd := as.flatMap idsOf }
   | none => False
  | none => False
 | .call { callee := .builtin .max, args, .. } => match args.toList.map ev with
  | [.d (.i k n), .d (.i k' m)] => k = k' ∧ K { v := .d (.i k (Ω .imax n m)) }
  | _ => False
 | .call { callee := .builtin .min, args, .. } => match args.toList.map ev with
  | [.d (.i k n), .d (.i k' m)] => k = k' ∧ K { v := .d (.i k (Ω .imin n m)) }
  | _ => False
 | .call { callee := .builtin .copy, args, argTypes } => draw = false ∧ match args.toList.map ev, argTypes.toList with
  | [.ref j sz off len, y], [T, _] => match E.tt T, h j, toD Ω h y with
   | some { und := .slice e, .. }, some (.row true e' z xs), some (.sl ys) => match E.tt e with
    | some i => i.size = 1 ∧ z = 1 ∧ sz = 1 ∧ (∀ u ∈ ys, u.cells.length = 1) ∧ (idsOf y).contains j = false ∧ Ω .leb (Ω .nadd off len) (Ω .slen xs) = true ∧
      K { v := .d (.i .i64 (Ω .imin (Ω .ci len) (Ω .ci (Ω .slen ys)))), upd := (j, .row true e' z (Ω .scpy xs off (Ω .ssub ys 0 len))) :: freezeL h (idsOf y), rd := j :: idsOf y }
    | none => False
   | _, _, _ => False
  | _, _ => False
 | .call { callee := .builtin b, args, argTypes } => match b, args.toList.map ev, argTypes.toList with
  | .len, [x], [T] => match E.tt T, x with
   | some { und := .slice _, .. }, .d (.sl xs) => K { v := .d (.i .i64 (Ω .ci (Ω .slen xs))) }
   | some { und := .slice _, .. }, .nil => K { v := .d (.i .i64 0) }
   | some { und := .slice _, .. }, .own j _ => match h j with
    | some (.row _ _ _ xs) => K { v := .d (.i .i64 (Ω .ci (Ω .slen xs))), rd := [j] }
    | _ => False
   | some { und := .slice _, .. }, .ref _ _ _ len => K { v := .d (.i .i64 (Ω .ci len)) }
   | some { und := .string, .. }, .d (.s b) => K { v := .d (.i .i64 (Ω .ci (Ω .bsz b))) }
   | some { und := .array n _, .. }, _ => K { v := .d (.i .i64 (Ω .ci n)) }
   | _, _ => False
  | .append, [x, y], [T, U] => match E.tt T with
   | some { und := .slice e, .. } => match E.tt e with
    | some { size, bytes, zero := some z, .. } => T = U ∧ (constV z).cells.length = size ∧ 0 < size ∧ (match toD Ω h y with
     | some (.sl ys) => h id = none ∧ (∀ u ∈ ys, u.cells.length = size) ∧ (match x with
      | .nil => (Ω .room (Ω .slen ys) bytes ∧
        K { v := .own id size, upd := (id, .row true e size ys) :: freezeL h (idsOf y), rd := id :: idsOf y })
      | .own j _ => (match h j with
       | some (.row true e' z' xs) => e' = e ∧ z' = size ∧ Ω .room (Ω .slen xs + Ω .slen ys) bytes ∧ (idsOf y).contains j = false ∧
         K { v := .own id size, upd := (id, .row true e size (Ω .scat xs ys)) :: (j, .dead) :: freezeL h (idsOf y), rd := id :: j :: idsOf y }
       | _ => False)
      | _ => False)
     | _ => False)
    | _ => False
   | _ => False
  | _, _, _ => False
 | _ => False
def put (s : Nat → V) (d : Option Tmp) (v : V) : Nat → V :=
 match d with
 | some t => upd s t v
 | none => s
structure Foot where
 n : Nat
 rd : List Nat
 wr : List Nat
def step (s : St) (d : Option Tmp) (out : Out) : St := ⟨put s.sl d out.v, ups s.h out.upd⟩
def wpl (E : Env) (draw : Bool) (base : Nat) (ops : Array Oper) : List Oper → Nat → List Foot → St → (List Foot → St → Prop) → Prop
 | [], _, log, s, K => K log s
 | o :: r, n, log, s, K => match o.guard with
  | none => opR Ω E draw (ev s.sl) s.h o.op (base + n) fun out => wpl E draw base ops r (n + 1) (⟨n, out.upd.map Prod.fst ++ out.rd, out.upd.map Prod.fst⟩ :: log) (step s o.dst out) K
  | some (j, want) => match (ops[j]?).bind (·.dst) with
   | some t => match s.sl t with
    | .d (.b x) => BrG x fun x => if x = want then opR Ω E draw (ev s.sl) s.h o.op (base + n) fun out => wpl E draw base ops r (n + 1) (⟨n, out.upd.map Prod.fst ++ out.rd, out.upd.map Prod.fst⟩ :: log) (step s o.dst out) K
     else wpl E draw base ops r (n + 1) (⟨n, [], []⟩ :: log) (step s o.dst { v := .tup [] }) K
    | .tup [] => wpl E draw base ops r (n + 1) (⟨n, [], []⟩ :: log) (step s o.dst { v := .tup [] }) K
    | _ => False
   | none => False
inductive X where
 | normal
 | exit (id : Nat)
 | ret
 deriving DecidableEq
def anc (ops : List Oper) : List (List Nat) :=
 ops.foldl (fun acc o => acc ++ [(o.after.toList.filter (Region.binds .any)).flatMap fun e => e.on :: acc.getD e.on []]) []
def ancM (ops : List Oper) : List Nat :=
 ops.foldl (fun acc o => acc ++ [(o.after.toList.filter (Region.binds .any)).foldl (fun m e => m ||| (1 <<< e.on ||| acc.getD e.on 0)) 0]) []
def meets (a b : List Nat) : Bool := a.any b.contains
def logOk (an : List Nat) (log : List Foot) : Bool :=
 log.all fun x => x.wr.isEmpty || log.all fun y => x.n == y.n || !meets x.wr y.rd || (an.getD y.n 0).testBit x.n || (an.getD x.n 0).testBit y.n
def lookL (ks : List Nat) (vs : List V) (t : Nat) : V :=
 match ks, vs with
 | k :: kr, v :: vr => if t = k then v else lookL kr vr t
 | _, _ => .junk
def lookH (ids : List Nat) (bs : List Blk) (t : Nat) : Option Blk :=
 match ids, bs with
 | k :: kr, v :: vr => if t = k then some v else lookH kr vr t
 | _, _ => none
def stOf (ks : List Nat) (vs : List V) (ids : List Nat) (bs : List Blk) : St := ⟨lookL ks vs, lookH ids bs⟩
def forth (ids olds : List Nat) (id : Nat) : Option Nat :=
 match ids, olds with
 | k :: kr, o :: or => if id = o then some k else forth kr or id
 | _, _ => none
def renOk (m : Nat) (ids olds : List Nat) : Bool :=
 ids.length == olds.length && nodupB olds && nodupB ids && ((ids.zip olds).all fun p => p.1 == p.2 || (1000 ≤ p.1 && 1000 ≤ p.2)) && (List.range m).all fun i => ids.contains i
def kept (m : Nat) (ks ids olds : List Nat) (s : St) (I : List V → List Blk → Prop) : Prop :=
 renOk m ids olds = true ∧ match getAll s.h olds with
  | some bs => I (ks.map fun t => ren (forth ids olds) (s.sl t)) (bs.map (renB (forth ids olds)))
  | none => False
inductive Bth where
 | slot (t id : Nat) (e : TypeId) (sz : Nat)
 | cell (j c id : Nat) (e : TypeId) (sz : Nat)
def bear1 (s : St) : Bth → Option St
 | .slot t id e sz => match s.sl t, s.h id with
  | .nil, none => some ⟨upd s.sl t (.own id sz), upd s.h id (some (.row true e sz []))⟩
  | _, _ => none
 | .cell j c id e sz => match s.h j, s.h id with
  | some (.var cs), none => match cs[c]? with
   | some .nil => some ⟨s.sl, upd (upd s.h id (some (.row true e sz []))) j (some (.var (cs.set c (.own id sz))))⟩
   | _ => none
  | _, _ => none
def bear (s : St) : List Bth → Option St
 | [] => some s
 | b :: r => match bear1 s b with
  | some s' => bear s' r
  | none => none
def keptB (bl : List Bth) (m : Nat) (ks ids olds : List Nat) (s : St) (I : List V → List Blk → Prop) : Prop :=
 match bear s bl with
 | some s' => kept m ks ids olds s' I
 | none => False
structure LoopG (m : Nat) (body : St → (X → St → Prop) → Prop) (s : St) (Q : X → St → Prop) : Prop where
 out : ∃ (σ : Type) (ks : List Nat) (ids : σ → List Nat) (vs : σ → List V) (bs : σ → List Blk) (I : σ → Prop) (μ : σ → Nat),
  (∃ bl x olds, I x ∧ keptB bl m ks (ids x) olds s fun a b => a = vs x ∧ b = bs x) ∧
   ∀ x, I x → body (stOf ks (vs x) (ids x) (bs x)) fun e s' => match e with
    | .normal => ∃ y olds, I y ∧ μ y < μ x ∧ kept m ks (ids y) olds s' fun a b => a = vs y ∧ b = bs y
    | e => Q e s'
def wp (E : Env) : Code → St → (X → St → Prop) → Prop
 | .skip, s, Q => Q .normal s
 | .region id ops draw, s, Q => wpl Ω E draw (1000 + 100 * id) ops ops.toList 0 [] s fun log s' => (if draw then logOk (ancM ops.toList) log = true else True) ∧ Q .normal s'
 | .seq a b, s, Q => wp E a s fun e s' => match e with
  | .normal => wp E b s' Q
  | e => Q e s'
 | .cond c a b, s, Q => match ev s.sl c with
  | .d (.b t) => BrG t fun t => match t with
   | true => wp E a s Q
   | false => wp E b s Q
  | _ => False
 | .block id b, s, Q => wp E b s fun e s' => match e with
  | .exit j => if j = id then Q .normal s' else Q (.exit j) s'
  | e => Q e s'
 | .exit id, s, Q => Q (.exit id) s
 | .ret, s, Q => Q .ret s
 | .loop b, s, Q => LoopG E.m (fun s' Q' => wp E b s' Q') s Q
 | _, _, _ => False
def resOne (tt : TypeId → Option TInfo) (s : St) : ResultVar → Option V
 | .tmp t => match s.sl t with
  | .tup _ => none
  | v => some v
 | .cell a T => match tt T, s.sl a with
  | some i, .ptr j off => match s.h j with
   | some (.var cs) => if off + i.size ≤ cs.length ∧ (isAggT i.und = true ∨ i.size = 1) then some (shapeV (isAggT i.und) ((cs.drop off).take i.size)) else none
   | _ => none
  | _, _ => none
def resList (tt : TypeId → Option TInfo) (s : St) : List ResultVar → Option (List V)
 | [] => some []
 | r :: l => match resOne tt s r, resList tt s l with
  | some v, some vs => some (v :: vs)
  | _, _ => none
def resOf (tt : TypeId → Option TInfo) (s : St) (l : List ResultVar) : Option V :=
 match resList tt s l with
 | some [v] => some v
 | some vs => some (.tup vs)
 | none => none
def finV (h : Heap) : V → Option V
 | .tup cs => match toDs Ω h cs with
  | some ds => some (.tup (ds.map V.d))
  | none => none
 | v => match toD Ω h v with
  | some d => some (.d d)
  | none => none
def argS (args : List V) (t : Nat) : V := args.getD t .junk
def wpF (E : Env) (fn : Func) (args : List V) (Q : V → Prop) : Prop :=
 match fn.body with
 | some c => wp Ω E c ⟨argS args, fun _ => none⟩ fun e s => match e with
  | .exit _ => False
  | _ => match resOf E.tt s fn.results.toList with
   | some r => match finV Ω s.h r with
    | some r' => Q r'
    | none => False
   | none => False
 | none => False
def wpF2 (E : Env) (fn : Func) (args : List V) (bs : List Blk) (Q : V → List Blk → Prop) : Prop :=
 match fn.body with
 | some c => wp Ω E c ⟨argS args, mkH bs⟩ fun e s => match e with
  | .exit _ => False
  | _ => match resOf E.tt s fn.results.toList with
   | some r => ∃ news, nodupB (List.range bs.length ++ news) = true ∧ match getAll s.h (List.range bs.length ++ news) with
    | some bs' => Q (ren (fore (List.range bs.length ++ news)) r) (bs'.map (renB (fore (List.range bs.length ++ news))))
    | none => False
   | none => False
 | none => False
end Go.K
end
section
namespace Go.K
open Go
theorem w_ci (n : Nat) : Ω .ci n = (n : Int) := rfl
theorem w_wrap (k : IntKind) (n : Int) : Ω .wrap k n = k.wrap n := rfl
theorem w_imax (n m : Int) : Ω .imax n m = if m > n then m else n := rfl
theorem w_imin (n m : Int) : Ω .imin n m = if m < n then m else n := rfl
theorem w_tmod (n m : Int) : Ω .tmod n m = n.tmod m := rfl
theorem w_iand (k : IntKind) (n m : Int) : Ω .iand k n m = k.wrap (BitVec.ofInt k.bits n &&& BitVec.ofInt k.bits m).toNat := rfl
theorem w_ior (k : IntKind) (n m : Int) : Ω .ior k n m = k.wrap (BitVec.ofInt k.bits n ||| BitVec.ofInt k.bits m).toNat := rfl
theorem w_ixor (k : IntKind) (n m : Int) : Ω .ixor k n m = k.wrap (BitVec.ofInt k.bits n ^^^ BitVec.ofInt k.bits m).toNat := rfl
theorem w_ishl (k : IntKind) (n m : Int) : Ω .ishl k n m = k.wrap (n * 2 ^ (min m.toNat k.bits)) := rfl
theorem w_ishr (k : IntKind) (n m : Int) : Ω .ishr k n m = n.fdiv (2 ^ (min m.toNat k.bits)) := rfl
theorem w_lt (n m : Int) : Ω .lt n m = decide (n < m) := rfl
theorem w_le (n m : Int) : Ω .le n m = decide (n ≤ m) := rfl
theorem w_eq (n m : Int) : Ω .eq n m = (n == m) := rfl
theorem w_ne (n m : Int) : Ω .ne n m = (n != m) := rfl
theorem w_ile (n m : Int) : Ω .ile n m = (n ≤ m) := rfl
theorem w_ilt (n m : Int) : Ω .ilt n m = (n < m) := rfl
theorem w_slen (xs : List D) : Ω .slen xs = xs.length := rfl
theorem w_sget (xs : List D) (k : Nat) : Ω .sget xs k = xs[k]? := rfl
theorem w_ssub (xs : List D) (a n : Nat) : Ω .ssub xs a n = (xs.drop a).take n := rfl
theorem w_sset (xs : List D) (k : Nat) (y : D) : Ω .sset xs k y = xs.set k y := rfl
theorem w_srep (n : Nat) (x : D) : Ω .srep n x = List.replicate n x := rfl
theorem w_scat (xs ys : List D) : Ω .scat xs ys = xs ++ ys := rfl
theorem w_tn (n : Int) : Ω .tn n = n.toNat := rfl
theorem w_nadd (a b : Nat) : Ω .nadd a b = a + b := rfl
theorem w_nsub (a b : Nat) : Ω .nsub a b = a - b := rfl
theorem w_nlt (a b : Nat) : Ω .nlt a b = (a < b) := rfl
theorem w_leb (a b : Nat) : Ω .leb a b = decide (a ≤ b) := rfl
theorem w_scpy (xs : List D) (a : Nat) (zs : List D) : Ω .scpy xs a zs = xs.take a ++ zs ++ xs.drop (a + zs.length) := rfl
theorem w_bget (b : ByteArray) (k : Nat) : Ω .bget b k = (b[k]?).map fun c => c.toNat := rfl
theorem w_bext (b : ByteArray) (i j : Nat) : Ω .bext b i j = b.extract i j := rfl
theorem w_bcat (a b : ByteArray) : Ω .bcat a b = a ++ b := rfl
theorem w_bsz (b : ByteArray) : Ω .bsz b = b.size := rfl
theorem w_beqs (a b : ByteArray) : Ω .beqs a b = (a.toList == b.toList) := rfl
theorem w_bnes (a b : ByteArray) : Ω .bnes a b = !(a.toList == b.toList) := rfl
theorem w_room (n b : Nat) : Ω .room n b = (n * b ≤ 140737488355328 ∧ n ≤ 1099511627776) := rfl
theorem p_lims (l : List Nat) : Ψ .lims l = l.map fun (x : Nat) => D.i .u32 (x : Int) := rfl
theorem p_cr (q : Rat) : Ψ .cr q = ⟨decide (q.num < 0), Ψ .cn q.num.natAbs, Ψ .cn q.den⟩ := rfl
theorem p_cI (p q : Rat) : Ψ .cI p q = if p < q then (-1 : Int) else if q < p then 1 else 0 := rfl
theorem p_sI (q : Rat) : Ψ .sI q = if q < 0 then (-1 : Int) else if 0 < q then 1 else 0 := rfl
theorem p_cmpI (m n : Nat) : Ψ .cmpI m n = if m < n then (-1 : Int) else if n < m then 1 else 0 := rfl
theorem p_dRs (l : List RL) : Ψ .dRs l = l.map fun r => D.agg (dR Ψ r) := rfl
theorem p_dVs (l : List VL) : Ψ .dVs l = l.map fun r => D.agg (dV Ψ r) := rfl
theorem p_dBs (l : List BL) : Ψ .dBs l = l.map fun b => D.agg (dB Ψ b) := rfl
theorem p_cV (p : V3) : Ψ .cV p = ⟨Ψ .cr p.x, Ψ .cr p.y, Ψ .cr p.z⟩ := rfl
theorem p_cB (p : B3) : Ψ .cB p = ⟨Ψ .cV p.lo, Ψ .cV p.hi⟩ := rfl
theorem p_cn (n : Nat) : Ψ .cn n = cn n := rfl
theorem slen_lims (l : List Nat) : Ω .slen (Ψ .lims l) = l.length := by simp [w_slen, p_lims]
theorem slen_dRs (l : List RL) : Ω .slen (Ψ .dRs l) = l.length := by simp [w_slen, p_dRs]
theorem slen_dVs (l : List VL) : Ω .slen (Ψ .dVs l) = l.length := by simp [w_slen, p_dVs]
theorem slen_dBs (l : List BL) : Ω .slen (Ψ .dBs l) = l.length := by simp [w_slen, p_dBs]
theorem tn_ci (n : Nat) : Ω .tn (Ω .ci n) = n := rfl
theorem tn_zero : Ω .tn 0 = 0 := rfl
theorem not_u32 : (if IntKind.u32.signed = true then (-1 : Int) else IntKind.u32.max) = 4294967295 := rfl
theorem lits : Ω .ile 0 0 ∧ Ω .ile 0 1 ∧ Ω .ile 0 2 ∧ Ω .ile 0 3 ∧ Ω .ile 0 7 ∧ Ω .ile 0 8 ∧ Ω .ile 0 16 ∧ Ω .ile 0 24 ∧ Ω .ile 0 31 ∧ Ω .ile 0 32 ∧ Ω .ile 0 63 ∧ Ω .ile 0 64 :=
 ⟨(by show (0 : Int) ≤ _; omega), (by show (0 : Int) ≤ _; omega), (by show (0 : Int) ≤ _; omega), (by show (0 : Int) ≤ _; omega), (by show (0 : Int) ≤ _; omega), (by show (0 : Int) ≤ _; omega), (by show (0 : Int) ≤ _; omega), (by show (0 : Int) ≤ _; omega), (by show (0 : Int) ≤ _; omega), (by show (0 : Int) ≤ _; omega), (by show (0 : Int) ≤ _; omega), (by show (0 : Int) ≤ _; omega)⟩
theorem slen_nil : Ω .slen [] = 0 := rfl
theorem slen_cons (a : D) (l : List D) : Ω .slen (a :: l) = Ω .slen l + 1 := rfl
theorem lt_true {a b : Int} : Ω .lt a b = true ↔ a < b := by rw [w_lt, decide_eq_true_eq]
theorem lt_false {a b : Int} : Ω .lt a b = false ↔ b ≤ a := by rw [w_lt, decide_eq_false_iff_not]; omega
theorem le_true {a b : Int} : Ω .le a b = true ↔ a ≤ b := by rw [w_le, decide_eq_true_eq]
theorem le_false {a b : Int} : Ω .le a b = false ↔ b < a := by rw [w_le, decide_eq_false_iff_not]; omega
theorem eq_true' {a b : Int} : Ω .eq a b = true ↔ a = b := by rw [w_eq, beq_iff_eq]
theorem eq_false' {a b : Int} : Ω .eq a b = false ↔ a ≠ b := by rw [w_eq, beq_eq_false_iff_ne]
theorem ne_true' {a b : Int} : Ω .ne a b = true ↔ a ≠ b := by rw [w_ne, bne_iff_ne]
theorem ne_false' {a b : Int} : Ω .ne a b = false ↔ a = b := by rw [w_ne, bne_eq_false_iff_eq]
theorem wz : (∀ n : Nat, Ω .ci n = (n : Int)) ∧ (∀ a b : Int, Ω .ile a b ↔ a ≤ b) ∧ (∀ a b : Int, Ω .ilt a b ↔ a < b) ∧ (∀ a b : Nat, Ω .nlt a b ↔ a < b)
  ∧ (∀ a b : Nat, Ω .room a b ↔ (a * b ≤ 140737488355328 ∧ a ≤ 1099511627776))
  ∧ (∀ a b : Int, Ω .lt a b = true ↔ a < b) ∧ (∀ a b : Int, Ω .lt a b = false ↔ b ≤ a) ∧ (∀ a b : Int, Ω .le a b = true ↔ a ≤ b) ∧ (∀ a b : Int, Ω .le a b = false ↔ b < a)
  ∧ (∀ a b : Int, Ω .eq a b = true ↔ a = b) ∧ (∀ a b : Int, Ω .eq a b = false ↔ a ≠ b) ∧ (∀ a b : Int, Ω .ne a b = true ↔ a ≠ b) ∧ (∀ a b : Int, Ω .ne a b = false ↔ a = b)
  ∧ (∀ n : Int, Ω .tn n = n.toNat) ∧ (∀ n : Nat, ((n : Int)).toNat = n)
  ∧ (∀ l : List Nat, Ω .slen (Ψ .lims l) = l.length) ∧ (∀ l : List RL, Ω .slen (Ψ .dRs l) = l.length) ∧ (∀ l : List VL, Ω .slen (Ψ .dVs l) = l.length) ∧ (∀ l : List BL, Ω .slen (Ψ .dBs l) = l.length)
  ∧ (Ω .slen [] = 0) ∧ (∀ (a : D) (l : List D), Ω .slen (a :: l) = Ω .slen l + 1) ∧ (∀ a b : Nat, Ω .nadd a b = a + b) ∧ (∀ a b : Nat, Ω .nsub a b = a - b) :=
 ⟨w_ci, fun _ _ => Iff.rfl, fun _ _ => Iff.rfl, fun _ _ => Iff.rfl, fun _ _ => Iff.rfl, fun _ _ => lt_true, fun _ _ => lt_false, fun _ _ => le_true, fun _ _ => le_false, fun _ _ => eq_true', fun _ _ => eq_false', fun _ _ => ne_true', fun _ _ => ne_false',
  w_tn, fun _ => rfl, slen_lims, slen_dRs, slen_dVs, slen_dBs, slen_nil, slen_cons, w_nadd, w_nsub⟩
theorem BrG.split {t : Bool} {A B : Unit → Prop} (h1 : t = true → A ()) (h2 : t = false → B ()) : (cond t A B) () := by
 cases t
 ·exact h2 rfl
 ·exact h1 rfl
theorem BrG.yes {t : Bool} {A B : Unit → Prop} (ht : t = true) (h : A ()) : (cond t A B) () := by subst ht; exact h
theorem BrG.no {t : Bool} {A B : Unit → Prop} (ht : t = false) (h : B ()) : (cond t A B) () := by subst ht; exact h
theorem nx {P Q : Prop} (q : Q) (h : Q → P := by intro q; (generalize hΩ : Ω = ω, hΨ : Ψ = ψ; cbv <;> subst hΩ hΨ <;> try simp only [lits, true_and, Int.reduceAdd, Int.reduceSub, Int.reduceMul, not_u32, slen_nil, tn_ci, tn_zero, slen_lims, slen_dRs, slen_dVs, slen_dBs]); all_goals with_reducible exact q) : P := h q
theorem run {P Q : Prop} (q : Q) (h : Q → P := by
 intro q; (generalize hΩ : Ω = ω, hΨ : Ψ = ψ; cbv <;> subst hΩ hΨ <;> try simp only [lits, true_and, Int.reduceAdd, Int.reduceSub, Int.reduceMul, not_u32, slen_nil, tn_ci, tn_zero, slen_lims, slen_dRs, slen_dVs, slen_dBs])
 (repeat
  first
   | (refine ⟨_, hC _ _ _ (by assumption), ?_⟩; (generalize hΩ : Ω = ω, hΨ : Ψ = ψ; cbv <;> subst hΩ hΨ <;> try simp only [lits, true_and, Int.reduceAdd, Int.reduceSub, Int.reduceMul, not_u32, slen_nil, tn_ci, tn_zero, slen_lims, slen_dRs, slen_dVs, slen_dBs]))
   | (refine BrG.yes (by first | assumption | decide) ?_; (generalize hΩ : Ω = ω, hΨ : Ψ = ψ; cbv <;> subst hΩ hΨ <;> try simp only [lits, true_and, Int.reduceAdd, Int.reduceSub, Int.reduceMul, not_u32, slen_nil, tn_ci, tn_zero, slen_lims, slen_dRs, slen_dVs, slen_dBs]))
   | (refine BrG.no (by first | assumption | decide) ?_; (generalize hΩ : Ω = ω, hΨ : Ψ = ψ; cbv <;> subst hΩ hΨ <;> try simp only [lits, true_and, Int.reduceAdd, Int.reduceSub, Int.reduceMul, not_u32, slen_nil, tn_ci, tn_zero, slen_lims, slen_dRs, slen_dVs, slen_dBs])))
 all_goals with_reducible exact q) : P := h q
def il : Nat → Int
 | 0 => 0
 | 1 => 1
 | 2 => 2
 | 3 => 3
 | 4 => 4
 | n => Ω .ci n
theorem BrG_eq (t : Bool) (K : Bool → Prop) : BrG t K = K t := by cases t <;> rfl
theorem DK_eq (r : D) (K : D → Prop) : DK r K = K r := by
 cases r with
 | b t => exact BrG_eq t fun t => K (.b t)
 | _ => rfl
theorem OneT.one {u : TypeDesc} {n : Nat} (h : OneT u n) : isAggT u = false → n = 1 := fun q => by
 unfold OneT at h
 rw [q, Bool.false_or] at h
 exact Nat.eq_of_beq_eq_true h
end Go.K
end
section
namespace Go.K
inductive RepC (imm : Nat → Prop) (w : World) : D → Value → Prop where
 | b (x : Bool) : RepC imm w (.b x) (.bool x)
 | i (k : IntKind) (n : Int) : RepC imm w (.i k n) (.int k n)
 | s (x : ByteArray) : RepC imm w (.s x) (.string x)
 | np : RepC imm w .np (.pointer none)
 | nif : RepC imm w .nif .nilIface
 | ifc (t : TypeId) (x : D) (v : Value) : RepC imm w x v → RepC imm w (.ifc t x) (.iface t v)
 | sl0 (base : Option Addr) (cap : Nat) : RepC imm w (.sl []) (.slice base 0 cap)
 | sl (xs : List D) (g off cap sz : Nat) (cs : Array Value) (T : TypeId) (fr : Nat × Nat) : xs ≠ [] → imm g → w.heap[g]? = some (.cells cs T fr) → xs.length ≤ cap →
   (∀ x, x ∈ xs → x.cells.length = sz) → (∀ i j, i < xs.length → j < sz → off + (i * sz + j) < cs.size) →
   (∀ i j, i < xs.length → j < sz → RepC imm w ((xs.getD i .np).cells.getD j .np) (cs.getD (off + (i * sz + j)) undef)) →
   RepC imm w (.sl xs) (.slice (some ⟨g, off, none⟩) xs.length cap)
def RepD (imm : Nat → Prop) (w : World) (x : D) (v : Value) : Prop :=
 match x with
 | .agg cs => ∃ vs : Array Value, v = .agg vs ∧ vs.size = cs.length ∧ ∀ j, j < cs.length → RepC imm w (cs.getD j .np) (vs.getD j undef)
 | x => RepC imm w x v
def RepCap (ι : Nat → Option Value) (c : Option Nat) (v : Value) : Prop :=
 match c with
 | some id => ∃ g, ι id = some (.pointer (some ⟨g, 0, none⟩)) ∧ v = .pointer (some ⟨g, 0, none⟩)
 | none => v = .pointer none
def RepCaps (ι : Nat → Option Value) (l : List (Option Nat)) (vs : Array Value) : Prop :=
 vs.size = l.length ∧ ∀ j, j < l.length → RepCap ι (l.getD j none) (vs.getD j undef)
theorem RepCaps.mono {ι ι' : Nat → Option Value} (hi : ∀ id v, ι id = some v → ι' id = some v) {l : List (Option Nat)} {vs : Array Value} (h : RepCaps ι l vs) : RepCaps ι' l vs :=
 ⟨h.1, fun j hj => by
  have := h.2 j hj
  unfold RepCap at this ⊢
  split
  ·rename_i id e; rw [e] at this; obtain ⟨g, h1, h2⟩ := this; exact ⟨g, hi _ _ h1, h2⟩
  ·rename_i e; rw [e] at this; exact this⟩
def RepV1 (ι : Nat → Option Value) (imm : Nat → Prop) (w : World) (x : V) (v : Value) : Prop :=
 match x with
 | .d x => RepC imm w x v
 | .ptr id off => ∃ g, ι id = some (.pointer (some ⟨g, 0, none⟩)) ∧ v = .pointer (some ⟨g, off, none⟩)
 | .ept id sz i off => ∃ g n cap, ι id = some (.slice (some ⟨g, 0, none⟩) n cap) ∧ v = .pointer (some ⟨g, i * sz + off, none⟩)
 | .ip x off => ∃ g o cs T fr, imm g ∧ w.heap[g]? = some (.cells cs T fr) ∧ v = .pointer (some ⟨g, o + off, none⟩) ∧
   ∀ j, j < x.cells.length → o + j < cs.size ∧ RepC imm w (x.cells.getD j .np) (cs.getD (o + j) undef)
 | .own id _ => ι id = some v ∧ (v = .slice none 0 0 ∨ ∃ g n cap, v = .slice (some ⟨g, 0, none⟩) n cap)
 | .ref id sz off len => (∃ g n cap c, ι id = some (.slice (some ⟨g, 0, none⟩) n cap) ∧ v = .slice (some ⟨g, off * sz, none⟩) len c ∧ len ≤ c ∧ off + c ≤ cap) ∨
   ((∃ u, ι id = some u) ∧ len = 0 ∧ ∃ base, v = .slice base 0 0)
 | .nil => v = .slice none 0 0
 | .fn f => v = .func (.func f) #[] #[]
 | .clo f a b => ∃ fs vs, v = .func (.func f) fs vs ∧ RepCaps ι a fs ∧ RepCaps ι b vs
 | .junk => True
 | .agg _ => False
 | .tup _ => False
def RepV0 (ι : Nat → Option Value) (imm : Nat → Prop) (w : World) (x : V) (v : Value) : Prop :=
 match x with
 | .agg cs => ∃ vs : Array Value, v = .agg vs ∧ vs.size = cs.length ∧ ∀ j, j < cs.length → RepV1 ι imm w (cs.getD j .junk) (vs.getD j undef) ∧ (vs.getD j undef).oneCell' = true
 | .d x => RepD imm w x v
 | x => RepV1 ι imm w x v
def RepV (ι : Nat → Option Value) (imm : Nat → Prop) (w : World) (x : V) (v : Value) : Prop :=
 match x with
 | .tup cs => ∃ vs : Array Value, v = .tuple vs ∧ vs.size = cs.length ∧ ∀ j, j < cs.length → RepV0 ι imm w (cs.getD j .junk) (vs.getD j undef)
 | x => RepV0 ι imm w x v
def headed (v : Value) : Prop := v = .slice none 0 0 ∨ ∃ g n cap, v = .slice (some ⟨g, 0, none⟩) n cap
def rowOwn (w : World) (base : Nat) (e : TypeId) (size : Nat) (v : Value) (n : Nat) (xs : List Value) : Prop :=
 xs.length = n * size ∧
 ((v = .slice none 0 0 ∧ n = 0) ∨
 ∃ g cap cur, v = .slice (some ⟨g, 0, none⟩) n cap ∧ base ≤ g ∧ w.heap[g]? = some (.cells cur e (0, 0)) ∧ n ≤ cap ∧ cap ≤ maxLen ∧ cap * size ≤ cur.size ∧ cur.toList.take (n * size) = xs)
theorem rowOwn_nil (w : World) (base : Nat) (e : TypeId) (size : Nat) : rowOwn w base e size (.slice none 0 0) 0 [] := ⟨by simp, .inl ⟨rfl, rfl⟩⟩
def BlkRep (ι : Nat → Option Value) (imm : Nat → Prop) (w : World) (B : Blk) (v : Value) : Prop :=
 match B with
 | .row true e sz xs => ∃ cells, rowOwn w 0 e sz v xs.length cells ∧ (∀ x, x ∈ xs → x.cells.length = sz) ∧
   ∀ i j, i < xs.length → j < sz → RepC imm w ((xs.getD i .np).cells.getD j .np) (cells.getD (i * sz + j) undef)
 | .row false _ sz xs => RepC imm w (.sl xs) v ∧ (∀ x, x ∈ xs → x.cells.length = sz) ∧ headed v
 | .var cs => ∃ g vs T, v = .pointer (some ⟨g, 0, none⟩) ∧ w.heap[g]? = some (.cells vs T (0, 0)) ∧ vs.size = cs.length ∧
   ∀ j, j < cs.length → RepV1 ι imm w (cs.getD j .junk) (vs.getD j undef) ∧ (vs.getD j undef).oneCell' = true
 | .dead => True
def live : Blk → Bool
 | .row l _ _ _ => l
 | .var _ => true
 | .dead => false
def blockOf : Value → Option Nat
 | .pointer (some a) => some a.block
 | .slice (some a) _ _ => some a.block
 | _ => none
def Owned (ι : Nat → Option Value) (h : Heap) (g : Nat) : Prop := ∃ id B v, h id = some B ∧ live B = true ∧ ι id = some v ∧ blockOf v = some g
structure Inv (ι : Nat → Option Value) (imm : Nat → Prop) (h : Heap) (w : World) : Prop where
 blk : ∀ id B, h id = some B → ∃ v, ι id = some v ∧ BlkRep ι imm w B v
 non : ∀ id, h id = none → ι id = none
 own : ∀ g, Owned ι h g → ¬ imm g
 inj : ∀ id1 id2 B1 B2 v1 v2 g, h id1 = some B1 → h id2 = some B2 → live B1 = true → live B2 = true → ι id1 = some v1 → ι id2 = some v2 →
  blockOf v1 = some g → blockOf v2 = some g → id1 = id2
 lt : ∀ g, imm g → g < w.heap.size
structure Evo (ι : Nat → Option Value) (imm : Nat → Prop) (h : Heap) (w : World) (ι' : Nat → Option Value) (imm' : Nat → Prop) (h' : Heap) (w' : World) : Prop where
 ids : ∀ id v, ι id = some v → ι' id = some v
 immS : ∀ g, imm g → imm' g
 immR : ∀ g, imm' g → imm g ∨ w.heap.size ≤ g ∨ Owned ι h g
 own' : ∀ g, Owned ι' h' g → Owned ι h g ∨ w.heap.size ≤ g
 keep : ∀ g, g < w.heap.size → ¬ Owned ι h g → w'.heap[g]? = w.heap[g]?
 size : w.heap.size ≤ w'.heap.size
 os : w'.os = w.os
 tape : w'.tape = w.tape
 output : w'.output = w.output
theorem Evo.refl (ι : Nat → Option Value) (imm : Nat → Prop) (h : Heap) (w : World) : Evo ι imm h w ι imm h w :=
 ⟨fun _ _ e => e, fun _ e => e, fun _ e => .inl e, fun _ e => .inl e, fun _ _ _ => rfl, Nat.le_refl _, rfl, rfl, rfl⟩
theorem Evo.trans {ι1 ι2 ι3 : Nat → Option Value} {m1 m2 m3 : Nat → Prop} {h1 h2 h3 : Heap} {w1 w2 w3 : World}
  (a : Evo ι1 m1 h1 w1 ι2 m2 h2 w2) (b : Evo ι2 m2 h2 w2 ι3 m3 h3 w3) : Evo ι1 m1 h1 w1 ι3 m3 h3 w3 where
 ids := fun id v e => b.ids id v (a.ids id v e)
 immS := fun g e => b.immS g (a.immS g e)
 immR := fun g e => by
  rcases b.immR g e with e | e | e
  ·exact a.immR g e
  ·exact .inr (.inl (Nat.le_trans a.size e))
  ·rcases a.own' g e with e | e
   ·exact .inr (.inr e)
   ·exact .inr (.inl e)
 own' := fun g e => by
  rcases b.own' g e with e | e
  ·exact a.own' g e
  ·exact .inr (Nat.le_trans a.size e)
 keep := fun g hg hn => by
  rw [b.keep g (Nat.lt_of_lt_of_le hg a.size) (fun o => by
   rcases a.own' g o with o | o
   ·exact hn o
   ·omega)]
  exact a.keep g hg hn
 size := Nat.le_trans a.size b.size
 os := b.os.trans a.os
 tape := b.tape.trans a.tape
 output := b.output.trans a.output
theorem RepC.mono {imm imm' : Nat → Prop} {w w' : World} (hm : ∀ g, imm g → imm' g ∧ w'.heap[g]? = w.heap[g]?) {x : D} {v : Value} (h : RepC imm w x v) : RepC imm' w' x v := by
 induction h with
 | b x => exact .b x
 | i k n => exact .i k n
 | s x => exact .s x
 | np => exact .np
 | nif => exact .nif
 | ifc t x v _ ih => exact .ifc t x v ih
 | sl0 base cap => exact .sl0 base cap
 | sl xs g off cap sz cs T fr hne hi hg hc hs hb _ ih => exact .sl xs g off cap sz cs T fr hne (hm g hi).1 ((hm g hi).2.trans hg) hc hs hb ih
theorem RepD.mono {imm imm' : Nat → Prop} {w w' : World} (hm : ∀ g, imm g → imm' g ∧ w'.heap[g]? = w.heap[g]?) {x : D} {v : Value} (h : RepD imm w x v) : RepD imm' w' x v := by
 cases x <;> first
  | exact RepC.mono hm h
  | (obtain ⟨vs, hv, hs, hc⟩ := h; exact ⟨vs, hv, hs, fun j hj => (hc j hj).mono hm⟩)
theorem RepV1.mono {ι ι' : Nat → Option Value} {imm imm' : Nat → Prop} {w w' : World} (hi : ∀ id v, ι id = some v → ι' id = some v) (hm : ∀ g, imm g → imm' g ∧ w'.heap[g]? = w.heap[g]?)
  {x : V} {v : Value} (h : RepV1 ι imm w x v) : RepV1 ι' imm' w' x v := by
 cases x with
 | d x => exact RepC.mono hm h
 | agg cs => exact h
 | tup cs => exact h
 | ptr id off => obtain ⟨g, h1, h2⟩ := h; exact ⟨g, hi _ _ h1, h2⟩
 | ept id sz i off => obtain ⟨g, n, cap, h1, h2⟩ := h; exact ⟨g, n, cap, hi _ _ h1, h2⟩
 | ip x off => obtain ⟨g, o, cs, T, fr, h1, h2, h3, h4⟩ := h; exact ⟨g, o, cs, T, fr, (hm g h1).1, (hm g h1).2.trans h2, h3, fun j hj => ⟨(h4 j hj).1, (h4 j hj).2.mono hm⟩⟩
 | own id sz => exact ⟨hi _ _ h.1, h.2⟩
 | ref id sz off len =>
  rcases h with ⟨g, n, cap, c, h1, h2, h3, h4⟩ | ⟨h1, h2, h3⟩
  ·exact .inl ⟨g, n, cap, c, hi _ _ h1, h2, h3, h4⟩
  ·obtain ⟨u, h1⟩ := h1; exact .inr ⟨⟨u, hi _ _ h1⟩, h2, h3⟩
 | nil => exact h
 | fn f => exact h
 | clo f a b => obtain ⟨fs, vs, h1, h2, h3⟩ := h; exact ⟨fs, vs, h1, h2.mono hi, h3.mono hi⟩
 | junk => trivial
theorem RepV0.mono {ι ι' : Nat → Option Value} {imm imm' : Nat → Prop} {w w' : World} (hi : ∀ id v, ι id = some v → ι' id = some v) (hm : ∀ g, imm g → imm' g ∧ w'.heap[g]? = w.heap[g]?)
  {x : V} {v : Value} (h : RepV0 ι imm w x v) : RepV0 ι' imm' w' x v := by
 cases x with
 | d x => exact RepD.mono hm h
 | agg cs => obtain ⟨vs, hv, hs, hc⟩ := h; exact ⟨vs, hv, hs, fun j hj => ⟨(hc j hj).1.mono hi hm, (hc j hj).2⟩⟩
 | tup cs => exact h
 | ptr a b => exact RepV1.mono (x := .ptr a b) hi hm h
 | ept a b c d => exact RepV1.mono (x := .ept a b c d) hi hm h
 | ip a b => exact RepV1.mono (x := .ip a b) hi hm h
 | own a b => exact RepV1.mono (x := .own a b) hi hm h
 | ref a b c d => exact RepV1.mono (x := .ref a b c d) hi hm h
 | nil => exact h
 | fn f => exact h
 | clo f a b => exact RepV1.mono (x := .clo f a b) hi hm h
 | junk => trivial
theorem RepV.mono {ι ι' : Nat → Option Value} {imm imm' : Nat → Prop} {w w' : World} (hi : ∀ id v, ι id = some v → ι' id = some v) (hm : ∀ g, imm g → imm' g ∧ w'.heap[g]? = w.heap[g]?)
  {x : V} {v : Value} (h : RepV ι imm w x v) : RepV ι' imm' w' x v := by
 cases x with
 | tup cs => obtain ⟨vs, hv, hs, hc⟩ := h; exact ⟨vs, hv, hs, fun j hj => (hc j hj).mono hi hm⟩
 | d x => exact RepV0.mono (x := .d x) hi hm h
 | agg cs => exact RepV0.mono (x := .agg cs) hi hm h
 | ptr a b => exact RepV0.mono (x := .ptr a b) hi hm h
 | ept a b c d => exact RepV0.mono (x := .ept a b c d) hi hm h
 | ip a b => exact RepV0.mono (x := .ip a b) hi hm h
 | own a b => exact RepV0.mono (x := .own a b) hi hm h
 | ref a b c d => exact RepV0.mono (x := .ref a b c d) hi hm h
 | nil => exact h
 | fn f => exact h
 | clo f a b => exact RepV0.mono (x := .clo f a b) hi hm h
 | junk => trivial
theorem Evo.immKeep {ι ι' : Nat → Option Value} {imm imm' : Nat → Prop} {h h' : Heap} {w w' : World} (I : Inv ι imm h w) (e : Evo ι imm h w ι' imm' h' w') :
  ∀ g, imm g → imm' g ∧ w'.heap[g]? = w.heap[g]? := fun g hg =>
 ⟨e.immS g hg, e.keep g (I.lt g hg) fun o => I.own g o hg⟩
theorem RepV.evo {ι ι' : Nat → Option Value} {imm imm' : Nat → Prop} {h h' : Heap} {w w' : World} (I : Inv ι imm h w) (e : Evo ι imm h w ι' imm' h' w')
  {x : V} {v : Value} (r : RepV ι imm w x v) : RepV ι' imm' w' x v := r.mono e.ids (e.immKeep I)
theorem RepC.one {imm : Nat → Prop} {w : World} {x : D} {v : Value} (h : RepC imm w x v) : v.oneCell' = true := by cases h <;> rfl
theorem cells_rep {ι : Nat → Option Value} {imm : Nat → Prop} {w : World} {x : V} {v : Value} {l : List V} (h : RepV ι imm w x v) (hl : x.cellsO = some l) :
  v.cells.size = l.length ∧ ∀ j, j < l.length → RepV1 ι imm w (l.getD j .junk) (v.cells.getD j undef) ∧ (v.cells.getD j undef).oneCell' = true := by
 have one : ∀ (y : V), RepV1 ι imm w y v → v.oneCell' = true → y.cells = [y] → v.cells.size = y.cells.length ∧ ∀ j, j < y.cells.length → RepV1 ι imm w (y.cells.getD j .junk) (v.cells.getD j undef) ∧ (v.cells.getD j undef).oneCell' = true := by
  intro y hy h1 hc
  have hv : v.cells = #[v] := by cases v <;> first | rfl | simp [Value.oneCell'] at h1
  rw [hc, hv]
  refine ⟨rfl, fun j hj => ?_⟩
  have : j = 0 := by simp at hj; omega
  subst this
  exact ⟨hy, h1⟩
 cases x with
 | junk => cases hl
 | tup cs => cases hl
 | agg cs =>
  cases hl
  obtain ⟨vs, rfl, hs, hc⟩ := h
  exact ⟨hs, hc⟩
 | d x =>
  cases hl
  cases x with
  | agg cs =>
   obtain ⟨vs, rfl, hs, hc⟩ := h
   refine ⟨by simpa [V.cells, D.cells, Value.cells] using hs, fun j hj => ?_⟩
   have hj' : j < cs.length := by simpa [V.cells, D.cells] using hj
   have := hc j hj'
   refine ⟨?_, this.one⟩
   have e : (V.cells (.d (.agg cs))).getD j .junk = .d (cs.getD j .np) := by simp [V.cells, D.cells, List.getD, hj']
   rw [e]; exact this
  | b x => exact one (.d (.b x)) h (RepC.one h) rfl
  | i k n => exact one (.d (.i k n)) h (RepC.one h) rfl
  | s x => exact one (.d (.s x)) h (RepC.one h) rfl
  | np => exact one (.d .np) h (RepC.one h) rfl
  | nif => exact one (.d .nif) h (RepC.one h) rfl
  | ifc t x => exact one (.d (.ifc t x)) h (RepC.one h) rfl
  | sl xs => exact one (.d (.sl xs)) h (RepC.one h) rfl
 | ptr id off => cases hl; obtain ⟨g, h1, rfl⟩ := h; exact one (.ptr id off) ⟨g, h1, rfl⟩ rfl rfl
 | ept id sz i off => cases hl; obtain ⟨g, n, cap, h1, rfl⟩ := h; exact one (.ept id sz i off) ⟨g, n, cap, h1, rfl⟩ rfl rfl
 | ip x off => cases hl; have h' := h; obtain ⟨g, o, cs, T, fr, h1, h2, rfl, h4⟩ := h; exact one (.ip x off) h' rfl rfl
 | own id sz =>
  cases hl
  have h' := h
  obtain ⟨h1, rfl | ⟨g, n, cap, rfl⟩⟩ := h
  ·exact one (.own id sz) h' rfl rfl
  ·exact one (.own id sz) h' rfl rfl
 | ref id sz off len =>
  cases hl
  have h' := h
  rcases h with ⟨g, n, cap, c, h1, rfl, h3⟩ | ⟨h1, h2, base, rfl⟩
  ·exact one (.ref id sz off len) h' rfl rfl
  ·exact one (.ref id sz off len) h' rfl rfl
 | nil => cases hl; obtain rfl : v = _ := h; exact one .nil rfl rfl rfl
 | fn f => cases hl; obtain rfl : v = _ := h; exact one (.fn f) rfl rfl rfl
 | clo f a b => cases hl; have h' := h; obtain ⟨fs, vs, rfl, h2, h3⟩ := h; exact one (.clo f a b) h' rfl rfl
theorem shape_rep {ι : Nat → Option Value} {imm : Nat → Prop} {w : World} {l : List V} {vs : Array Value} (hs : vs.size = l.length)
  (h : ∀ j, j < l.length → RepV1 ι imm w (l.getD j .junk) (vs.getD j undef) ∧ (vs.getD j undef).oneCell' = true) : RepV ι imm w (.agg l) (.agg vs) :=
 ⟨vs, rfl, hs, h⟩
theorem V0_of_V1 {ι : Nat → Option Value} {imm : Nat → Prop} {w : World} {x : V} {v : Value} (h : RepV1 ι imm w x v) : RepV ι imm w x v := by
 cases x with
 | agg cs => exact h.elim
 | tup cs => exact h.elim
 | d x => cases x with
  | agg cs => cases h
  | b x => exact h
  | i k n => exact h
  | s x => exact h
  | np => exact h
  | nif => exact h
  | ifc t x => exact h
  | sl xs => exact h
 | ptr a b => exact h
 | ept a b c d => exact h
 | ip a b => exact h
 | own a b => exact h
 | ref a b c d => exact h
 | nil => exact h
 | fn f => exact h
 | clo f a b => exact h
 | junk => exact h
theorem const1_rep (ι : Nat → Option Value) (imm : Nat → Prop) (w : World) (z : Value) : RepV1 ι imm w (const1 z) z := by
 cases z with
 | bool x => exact .b x
 | int k n => exact .i k n
 | string s => exact .s s
 | pointer a => cases a with
  | none => exact .np
  | some a => trivial
 | slice a n c => cases a with
  | some a => trivial
  | none => cases n with
   | succ n => trivial
   | zero => cases c with
    | succ n => trivial
    | zero => exact rfl
 | nilIface => exact .nif
 | _ => trivial
theorem constV_rep (ι : Nat → Option Value) (imm : Nat → Prop) (w : World) (z : Value) : RepV ι imm w (constV z) z := by
 by_cases hz : ∃ cs, z = .agg cs
 ·obtain ⟨cs, rfl⟩ := hz
  by_cases h : cs.toList.all Value.oneCell' = true
  ·rw [show constV (.agg cs) = .agg (cs.toList.map const1) from if_pos h]
   refine ⟨cs, rfl, by simp, fun j hj => ?_⟩
   have hj' : j < cs.size := by simpa using hj
   have e : (cs.toList.map const1).getD j .junk = const1 (cs.getD j undef) := by simp [List.getD, hj', Array.getD]
   rw [e]
   refine ⟨const1_rep _ _ _ _, ?_⟩
   rw [List.all_eq_true] at h
   have : cs.getD j undef = cs[j] := by simp [Array.getD, hj']
   rw [this]
   exact h _ (by simp)
  ·rw [show constV (.agg cs) = .junk from if_neg h]
   trivial
 ·have e : constV z = const1 z := by cases z <;> first | rfl | exact absurd ⟨_, rfl⟩ hz
  rw [e]
  exact V0_of_V1 (const1_rep ι imm w z)
structure TOk (P : Program) (T : TypeId) (i : TInfo) : Prop where
 ok : ∃ info, P.info? T = some info ∧ info.size = i.size ∧ info.bytes = i.bytes ∧ info.zero = i.zero
 und : P.underlying T = some i.und
 zero : ∀ z, i.zero = some z → z.cells.size = i.size ∧ z.cells.toList.all Value.oneCell' = true
def TTok (P : Program) (tt : TypeId → Option TInfo) : Prop := ∀ T i, tt T = some i → TOk P T i
end Go.K
end
section
namespace Go.K
open Go
theorem BlkRep.lt {ι : Nat → Option Value} {imm : Nat → Prop} {w : World} {B : Blk} {v : Value} {g : Nat} (h : BlkRep ι imm w B v) (hl : live B = true) (hg : blockOf v = some g) :
  g < w.heap.size := by
 cases B with
 | dead => cases hl
 | var cs =>
  obtain ⟨g', vs, T, rfl, h2, _⟩ := h
  cases hg
  exact (Array.getElem?_eq_some_iff.1 h2).1
 | row l e sz xs =>
  cases l with
  | false => cases hl
  | true =>
   obtain ⟨cells, ho, _⟩ := h
   rcases ho.2 with ⟨rfl, _⟩ | ⟨g', cap, cur, rfl, _, h2, _⟩
   ·cases hg
   ·cases hg
    exact (Array.getElem?_eq_some_iff.1 h2).1
theorem BlkRep.mono {ι ι' : Nat → Option Value} {imm imm' : Nat → Prop} {w w' : World} {B : Blk} {v : Value} (hi : ∀ id v, ι id = some v → ι' id = some v)
  (hm : ∀ g, imm g → imm' g ∧ w'.heap[g]? = w.heap[g]?) (hb : ∀ g, live B = true → blockOf v = some g → w'.heap[g]? = w.heap[g]?)
  (h : BlkRep ι imm w B v) : BlkRep ι' imm' w' B v := by
 cases B with
 | dead => trivial
 | var cs =>
  obtain ⟨g', vs, T, rfl, h2, h3, h4⟩ := h
  exact ⟨g', vs, T, rfl, (hb g' rfl rfl).trans h2, h3, fun j hj => ⟨(h4 j hj).1.mono hi hm, (h4 j hj).2⟩⟩
 | row l e sz xs =>
  cases l with
  | false => exact ⟨h.1.mono hm, h.2.1, h.2.2⟩
  | true =>
   obtain ⟨cells, ho, h2, h3⟩ := h
   refine ⟨cells, ⟨ho.1, ?_⟩, h2, fun i j a b => (h3 i j a b).mono hm⟩
   rcases ho.2 with hn | ⟨g', cap, cur, rfl, a, h4, h5⟩
   ·exact .inl hn
   ·exact .inr ⟨g', cap, cur, rfl, a, (hb g' rfl rfl).trans h4, h5⟩
theorem Inv.owned_lt {ι : Nat → Option Value} {imm : Nat → Prop} {h : Heap} {w : World} (I : Inv ι imm h w) {g : Nat} (o : Owned ι h g) : g < w.heap.size := by
 obtain ⟨id, B, v, h1, h2, h3, h4⟩ := o
 obtain ⟨v', h5, h6⟩ := I.blk id B h1
 rw [h3] at h5; cases h5
 exact h6.lt h2 h4
theorem upd_same {α : Type} (s : Nat → α) (t : Nat) (v : α) : upd s t v t = v := by simp [upd]
theorem upd_other {α : Type} (s : Nat → α) (t x : Nat) (v : α) (h : x ≠ t) : upd s t v x = s x := by simp [upd, h]
theorem Inv.fresh {ι : Nat → Option Value} {imm : Nat → Prop} {h : Heap} {w w' : World} (I : Inv ι imm h w) {id : Nat} (hid : h id = none) (v : Value) (B : Blk)
  (hsize : w.heap.size ≤ w'.heap.size) (hkeep : ∀ g, g < w.heap.size → w'.heap[g]? = w.heap[g]?) (hos : w'.os = w.os) (ht : w'.tape = w.tape) (ho : w'.output = w.output)
  (hv : ∀ g, blockOf v = some g → w.heap.size ≤ g)
  (hB : BlkRep (upd ι id (some v)) imm w' B v) :
  Inv (upd ι id (some v)) imm (upd h id (some B)) w' ∧ Evo ι imm h w (upd ι id (some v)) imm (upd h id (some B)) w' := by
 have hι : ι id = none := I.non id hid
 have hi : ∀ j v', ι j = some v' → upd ι id (some v) j = some v' := fun j v' e => by
  by_cases c : j = id
  ·subst c; rw [hι] at e; cases e
  ·rw [upd_other _ _ _ _ c]; exact e
 have hm : ∀ g, imm g → imm g ∧ w'.heap[g]? = w.heap[g]? := fun g e => ⟨e, hkeep g (I.lt g e)⟩
 have own : ∀ g, Owned (upd ι id (some v)) (upd h id (some B)) g → Owned ι h g ∨ w.heap.size ≤ g := by
  rintro g ⟨j, B', v', h1, h2, h3, h4⟩
  by_cases c : j = id
  ·subst c
   rw [upd_same] at h3; cases h3
   exact .inr (hv g h4)
  ·rw [upd_other _ _ _ _ c] at h1 h3
   exact .inl ⟨j, B', v', h1, h2, h3, h4⟩
 refine ⟨⟨?_, ?_, ?_, ?_, fun g e => Nat.lt_of_lt_of_le (I.lt g e) hsize⟩, ⟨hi, fun _ e => e, fun _ e => .inl e, own, fun g hg _ => hkeep g hg, hsize, hos, ht, ho⟩⟩
 ·intro j B' hj
  by_cases c : j = id
  ·subst c
   rw [upd_same] at hj; cases hj
   exact ⟨v, upd_same _ _ _, hB⟩
  ·rw [upd_other _ _ _ _ c] at hj
   obtain ⟨v', h1, h2⟩ := I.blk j B' hj
   exact ⟨v', hi j v' h1, h2.mono hi hm fun g a b => hkeep g (h2.lt a b)⟩
 ·intro j hj
  by_cases c : j = id
  ·subst c; rw [upd_same] at hj; cases hj
  ·rw [upd_other _ _ _ _ c] at hj ⊢
   exact I.non j hj
 ·intro g o e
  rcases own g o with o | o
  ·exact I.own g o e
  ·have := I.lt g e; omega
 ·intro a b A' B' x y g h1 h2 h3 h4 h5 h6 h7 h8
  by_cases ca : a = id
  ·subst ca
   by_cases cb : b = a
   ·exact cb.symm
   ·rw [upd_other _ _ _ _ cb] at h2 h6
    rw [upd_same] at h5; cases h5
    have l1 := hv g h7
    have l2 := I.owned_lt ⟨b, B', y, h2, h4, h6, h8⟩
    omega
  ·rw [upd_other _ _ _ _ ca] at h1 h5
   by_cases cb : b = id
   ·subst cb
    rw [upd_same] at h6; cases h6
    have l1 := hv g h8
    have l2 := I.owned_lt ⟨a, A', x, h1, h3, h5, h7⟩
    omega
   ·rw [upd_other _ _ _ _ cb] at h2 h6
    exact I.inj a b A' B' x y g h1 h2 h3 h4 h5 h6 h7 h8
theorem Inv.wrote {ι : Nat → Option Value} {imm : Nat → Prop} {h : Heap} {w w' : World} (I : Inv ι imm h w) {id : Nat} {B0 B : Blk} {v : Value} (hid : h id = some B0) (hl0 : live B0 = true)
  (hv : ι id = some v) (hsize : w'.heap.size = w.heap.size) (hkeep : ∀ g, blockOf v ≠ some g → w'.heap[g]? = w.heap[g]?) (hos : w'.os = w.os) (ht : w'.tape = w.tape) (ho : w'.output = w.output)
  (hB : BlkRep ι imm w' B v) :
  Inv ι imm (upd h id (some B)) w' ∧ Evo ι imm h w ι imm (upd h id (some B)) w' := by
 have nimm : ∀ g, imm g → blockOf v ≠ some g := fun g e c => I.own g ⟨id, B0, v, hid, hl0, hv, c⟩ e
 have hm : ∀ g, imm g → imm g ∧ w'.heap[g]? = w.heap[g]? := fun g e => ⟨e, hkeep g (nimm g e)⟩
 have own : ∀ g, Owned ι (upd h id (some B)) g → Owned ι h g := by
  rintro g ⟨j, B', v', h1, h2, h3, h4⟩
  by_cases c : j = id
  ·subst c
   exact ⟨j, B0, v', hid, hl0, h3, h4⟩
  ·rw [upd_other _ _ _ _ c] at h1
   exact ⟨j, B', v', h1, h2, h3, h4⟩
 refine ⟨⟨?_, ?_, fun g o => I.own g (own g o), ?_, fun g e => by rw [hsize]; exact I.lt g e⟩,
  ⟨fun _ _ e => e, fun _ e => e, fun _ e => .inl e, fun g o => .inl (own g o), fun g hg hn => hkeep g (fun c => hn ⟨id, B0, v, hid, hl0, hv, c⟩), by omega, hos, ht, ho⟩⟩
 ·intro j B' hj
  by_cases c : j = id
  ·subst c
   rw [upd_same] at hj; cases hj
   exact ⟨v, hv, hB⟩
  ·rw [upd_other _ _ _ _ c] at hj
   obtain ⟨v', h1, h2⟩ := I.blk j B' hj
   refine ⟨v', h1, h2.mono (fun _ _ e => e) hm fun g a b => hkeep g fun e => c (I.inj j id B' B0 v' v g hj hid a hl0 h1 hv b e)⟩
 ·intro j hj
  by_cases c : j = id
  ·subst c; rw [upd_same] at hj; cases hj
  ·rw [upd_other _ _ _ _ c] at hj
   exact I.non j hj
 ·intro a b A' B' x y g h1 h2 h3 h4 h5 h6 h7 h8
  have f : ∀ k C, upd h id (some B) k = some C → live C = true → ∃ C', h k = some C' ∧ live C' = true := fun k C e l => by
   by_cases c : k = id
   ·subst c; exact ⟨B0, hid, hl0⟩
   ·rw [upd_other _ _ _ _ c] at e; exact ⟨C, e, l⟩
  obtain ⟨A1, a1, a2⟩ := f a A' h1 h3
  obtain ⟨B1, b1, b2⟩ := f b B' h2 h4
  exact I.inj a b A1 B1 x y g a1 b1 a2 b2 h5 h6 h7 h8
theorem Inv.newImm {ι : Nat → Option Value} {imm : Nat → Prop} {h : Heap} {w : World} (I : Inv ι imm h w) (ob : Obj) :
  Inv ι (fun g => imm g ∨ g = w.heap.size) h (w.alloc ob) ∧ Evo ι imm h w ι (fun g => imm g ∨ g = w.heap.size) h (w.alloc ob) := by
 have hm : ∀ g, imm g → (imm g ∨ g = w.heap.size) ∧ (w.alloc ob).heap[g]? = w.heap[g]? := fun g e => ⟨.inl e, heap_alloc_old w _ g (I.lt g e)⟩
 refine ⟨⟨fun id B hid => ?_, I.non, fun g o e => ?_, I.inj, fun g e => ?_⟩,
  ⟨fun _ _ e => e, fun _ e => .inl e, fun g e => ?_, fun g o => .inl o, fun g hg _ => heap_alloc_old w _ g hg, by simp, rfl, rfl, rfl⟩⟩
 ·obtain ⟨v, h1, h2⟩ := I.blk id B hid
  exact ⟨v, h1, h2.mono (fun _ _ e => e) hm fun g a b => heap_alloc_old w _ g (h2.lt a b)⟩
 ·rcases e with e | e
  ·exact I.own g o e
  ·have := I.owned_lt o; omega
 ·rcases e with e | e
  ·have := I.lt g e; simp; omega
  ·simp; omega
 ·rcases e with e | e
  ·exact .inl e
  ·exact .inr (.inl (by omega))
theorem Inv.moved {ι : Nat → Option Value} {imm : Nat → Prop} {h : Heap} {w w' : World} (I : Inv ι imm h w) {j id : Nat} {B0 B : Blk} {v0 v : Value} {g : Nat} (hj : h j = some B0) (hl0 : live B0 = true)
  (hv0 : ι j = some v0) (hg0 : blockOf v0 = some g) (hid : h id = none) (hsize : w.heap.size ≤ w'.heap.size) (hkeep : ∀ k, k < w.heap.size → k ≠ g → w'.heap[k]? = w.heap[k]?)
  (hos : w'.os = w.os) (ht : w'.tape = w.tape) (ho : w'.output = w.output) (hg : blockOf v = some g) (hB : BlkRep (upd ι id (some v)) imm w' B v) :
  Inv (upd ι id (some v)) imm (upd (upd h j (some .dead)) id (some B)) w' ∧ Evo ι imm h w (upd ι id (some v)) imm (upd (upd h j (some .dead)) id (some B)) w' := by
 have hne : id ≠ j := fun e => by subst e; rw [hid] at hj; cases hj
 have hι : ι id = none := I.non id hid
 have og : Owned ι h g := ⟨j, B0, v0, hj, hl0, hv0, hg0⟩
 have hi : ∀ k v', ι k = some v' → upd ι id (some v) k = some v' := fun k v' e => by
  by_cases c : k = id
  ·subst c; rw [hι] at e; cases e
  ·rw [upd_other _ _ _ _ c]; exact e
 have nimm : ∀ k, imm k → k ≠ g := fun k e c => by subst c; exact I.own k og e
 have hm : ∀ k, imm k → imm k ∧ w'.heap[k]? = w.heap[k]? := fun k e => ⟨e, hkeep k (I.lt k e) (nimm k e)⟩
 have hget : ∀ k C, upd (upd h j (some .dead)) id (some B) k = some C → live C = true → (k = id ∧ C = B) ∨ (k ≠ id ∧ k ≠ j ∧ h k = some C) := fun k C e l => by
  by_cases c : k = id
  ·subst c; rw [upd_same] at e; cases e; exact .inl ⟨rfl, rfl⟩
  ·rw [upd_other _ _ _ _ c] at e
   by_cases d : k = j
   ·subst d; rw [upd_same] at e; cases e; cases l
   ·rw [upd_other _ _ _ _ d] at e; exact .inr ⟨c, d, e⟩
 have own : ∀ k, Owned (upd ι id (some v)) (upd (upd h j (some .dead)) id (some B)) k → Owned ι h k := by
  rintro k ⟨a, B', v', h1, h2, h3, h4⟩
  rcases hget a B' h1 h2 with ⟨rfl, rfl⟩ | ⟨c, d, e⟩
  ·rw [upd_same] at h3; cases h3
   rw [hg] at h4; cases h4
   exact og
  ·rw [upd_other _ _ _ _ c] at h3
   exact ⟨a, B', v', e, h2, h3, h4⟩
 refine ⟨⟨?_, ?_, fun k o => I.own k (own k o), ?_, fun k e => Nat.lt_of_lt_of_le (I.lt k e) hsize⟩,
  ⟨hi, fun _ e => e, fun _ e => .inl e, fun k o => .inl (own k o), fun k hk hn => hkeep k hk (fun c => by subst c; exact hn og), hsize, hos, ht, ho⟩⟩
 ·intro k B' hk
  by_cases c : k = id
  ·subst c; rw [upd_same] at hk; cases hk; exact ⟨v, upd_same _ _ _, hB⟩
  ·rw [upd_other _ _ _ _ c] at hk
   by_cases d : k = j
   ·subst d; rw [upd_same] at hk; cases hk; exact ⟨v0, hi _ _ hv0, trivial⟩
   ·rw [upd_other _ _ _ _ d] at hk
    obtain ⟨v', h1, h2⟩ := I.blk k B' hk
    refine ⟨v', hi _ _ h1, h2.mono hi hm fun a l b => hkeep a (h2.lt l b) fun e => ?_⟩
    subst e
    exact d (I.inj k j B' B0 v' v0 a hk hj l hl0 h1 hv0 b hg0)
 ·intro k hk
  by_cases c : k = id
  ·subst c; rw [upd_same] at hk; cases hk
  ·rw [upd_other _ _ _ _ c] at hk ⊢
   by_cases d : k = j
   ·subst d; rw [upd_same] at hk; cases hk
   ·rw [upd_other _ _ _ _ d] at hk; exact I.non k hk
 ·intro a b A' B' x y k h1 h2 h3 h4 h5 h6 h7 h8
  rcases hget a A' h1 h3 with ⟨rfl, rfl⟩ | ⟨c, d, e⟩
  ·rcases hget b B' h2 h4 with ⟨rfl, rfl⟩ | ⟨c', d', e'⟩
   ·rfl
   ·exfalso
    rw [upd_same] at h5; cases h5
    rw [upd_other _ _ _ _ c'] at h6
    rw [hg] at h7; cases h7
    exact d' (I.inj b j B' B0 y v0 g e' hj h4 hl0 h6 hv0 h8 hg0)
  ·rcases hget b B' h2 h4 with ⟨rfl, rfl⟩ | ⟨c', d', e'⟩
   ·exfalso
    rw [upd_same] at h6; cases h6
    rw [upd_other _ _ _ _ c] at h5
    rw [hg] at h8; cases h8
    exact d (I.inj a j A' B0 x v0 g e hj h3 hl0 h5 hv0 h7 hg0)
   ·rw [upd_other _ _ _ _ c] at h5
    rw [upd_other _ _ _ _ c'] at h6
    exact I.inj a b A' B' x y k e e' h3 h4 h5 h6 h7 h8
theorem Inv.giveUp {ι : Nat → Option Value} {imm : Nat → Prop} {h : Heap} {w : World} (I : Inv ι imm h w) {id : Nat} {B0 : Blk} (hid : h id = some B0) :
  Inv ι imm (upd h id (some .dead)) w ∧ Evo ι imm h w ι imm (upd h id (some .dead)) w := by
 obtain ⟨v, hv, _⟩ := I.blk id B0 hid
 have own : ∀ g, Owned ι (upd h id (some .dead)) g → Owned ι h g := by
  rintro g ⟨j, B', v', h1, h2, h3, h4⟩
  by_cases c : j = id
  ·subst c; rw [upd_same] at h1; cases h1; cases h2
  ·rw [upd_other _ _ _ _ c] at h1
   exact ⟨j, B', v', h1, h2, h3, h4⟩
 refine ⟨⟨?_, ?_, fun g o => I.own g (own g o), ?_, I.lt⟩, ⟨fun _ _ e => e, fun _ e => e, fun _ e => .inl e, fun g o => .inl (own g o), fun _ _ _ => rfl, Nat.le_refl _, rfl, rfl, rfl⟩⟩
 ·intro j B' hj
  by_cases c : j = id
  ·subst c; rw [upd_same] at hj; cases hj; exact ⟨v, hv, trivial⟩
  ·rw [upd_other _ _ _ _ c] at hj; exact I.blk j B' hj
 ·intro j hj
  by_cases c : j = id
  ·subst c; rw [upd_same] at hj; cases hj
  ·rw [upd_other _ _ _ _ c] at hj; exact I.non j hj
 ·intro a b A' B' x y g h1 h2 h3 h4 h5 h6 h7 h8
  have f : ∀ k C, upd h id (some .dead) k = some C → live C = true → h k = some C := fun k C e l => by
   by_cases c : k = id
   ·subst c; rw [upd_same] at e; cases e; cases l
   ·rw [upd_other _ _ _ _ c] at e; exact e
  exact I.inj a b A' B' x y g (f a A' h1 h3) (f b B' h2 h4) h3 h4 h5 h6 h7 h8
theorem Inv.freeze1 {ι : Nat → Option Value} {imm : Nat → Prop} {h : Heap} {w : World} (I : Inv ι imm h w) {id : Nat} {l : Bool} {e sz : Nat} {xs : List D} (hid : h id = some (.row l e sz xs)) :
  ∃ imm', Inv ι imm' (upd h id (some (.row false e sz xs))) w ∧ Evo ι imm h w ι imm' (upd h id (some (.row false e sz xs))) w := by
 obtain ⟨v, hv, hr⟩ := I.blk id _ hid
 cases l with
 | false =>
  have : upd h id (some (.row false e sz xs)) = h := by
   funext k
   by_cases c : k = id
   ·subst c; rw [upd_same, hid]
   ·rw [upd_other _ _ _ _ c]
  rw [this]
  exact ⟨imm, I, .refl _ _ _ _⟩
 | true =>
  refine ⟨fun g => imm g ∨ blockOf v = some g, ?_⟩
  have hm : ∀ g, imm g → (imm g ∨ blockOf v = some g) ∧ w.heap[g]? = w.heap[g]? := fun g a => ⟨.inl a, rfl⟩
  have own : ∀ g, Owned ι (upd h id (some (.row false e sz xs))) g → Owned ι h g ∧ blockOf v ≠ some g := by
   rintro g ⟨j, B', v', h1, h2, h3, h4⟩
   by_cases c : j = id
   ·subst c; rw [upd_same] at h1; cases h1; cases h2
   ·rw [upd_other _ _ _ _ c] at h1
    exact ⟨⟨j, B', v', h1, h2, h3, h4⟩, fun b => c (I.inj j id B' _ v' v g h1 hid h2 rfl h3 hv h4 b)⟩
  refine ⟨⟨?_, ?_, ?_, ?_, ?_⟩, ⟨fun _ _ e => e, fun _ e => .inl e, ?_, fun g o => .inl (own g o).1, fun _ _ _ => rfl, Nat.le_refl _, rfl, rfl, rfl⟩⟩
  ·intro j B' hj
   by_cases c : j = id
   ·subst c
    rw [upd_same] at hj; cases hj
    refine ⟨v, hv, ?_⟩
    obtain ⟨cells, ho, hu, hc⟩ := hr
    have hhead : headed v := by
     rcases ho.2 with ⟨rfl, _⟩ | ⟨g, cap, cur, rfl, _⟩
     ·exact .inl rfl
     ·exact .inr ⟨g, _, _, rfl⟩
    refine ⟨?_, hu, hhead⟩
    by_cases hx : xs = []
    ·subst hx
     rcases ho.2 with ⟨rfl, _⟩ | ⟨g, cap, cur, rfl, _⟩
     ·exact .sl0 _ _
     ·exact .sl0 _ _
    ·rcases ho.2 with ⟨rfl, hn⟩ | ⟨g, cap, cur, rfl, _, hg, hcap, _, hsz, htake⟩
     ·exact absurd (List.eq_nil_of_length_eq_zero hn) hx
     ·have hlen : xs.length * sz ≤ cur.size := Nat.le_trans (Nat.mul_le_mul_right _ hcap) hsz
      have hlt : ∀ i j, i < xs.length → j < sz → i * sz + j < xs.length * sz := fun i j a b => by
       have h1 : (i + 1) * sz ≤ xs.length * sz := Nat.mul_le_mul_right _ a
       rw [Nat.add_mul] at h1; omega
      refine .sl xs g 0 cap sz cur e (0, 0) hx (.inr rfl) hg hcap hu (fun i j a b => by have := hlt i j a b; omega) fun i j a b => ?_
      have hc' := (hc i j a b).mono (imm' := fun g' => imm g' ∨ blockOf (.slice (some ⟨g, 0, none⟩) xs.length cap) = some g') (w' := w) (fun g a => ⟨.inl a, rfl⟩)
      have hk := hlt i j a b
      have : cells.getD (i * sz + j) undef = cur.getD (0 + (i * sz + j)) undef := by
       rw [← htake]
       have h2 : i * sz + j < cur.size := by omega
       simp [List.getD, hk, Array.getD, h2]
      rw [← this]
      exact hc'
   ·rw [upd_other _ _ _ _ c] at hj
    obtain ⟨v', h1, h2⟩ := I.blk j B' hj
    exact ⟨v', h1, h2.mono (fun _ _ e => e) hm fun _ _ _ => rfl⟩
  ·intro j hj
   by_cases c : j = id
   ·subst c; rw [upd_same] at hj; cases hj
   ·rw [upd_other _ _ _ _ c] at hj; exact I.non j hj
  ·intro g o c
   obtain ⟨o1, o2⟩ := own g o
   exact c.elim (I.own g o1) o2
  ·intro a b A' B' x y g h1 h2 h3 h4 h5 h6 h7 h8
   have f : ∀ k C, upd h id (some (.row false e sz xs)) k = some C → live C = true → h k = some C := fun k C e l => by
    by_cases c : k = id
    ·subst c; rw [upd_same] at e; cases e; cases l
    ·rw [upd_other _ _ _ _ c] at e; exact e
   exact I.inj a b A' B' x y g (f a A' h1 h3) (f b B' h2 h4) h3 h4 h5 h6 h7 h8
  ·intro g c
   rcases c with c | c
   ·exact I.lt g c
   ·exact hr.lt rfl c
  ·intro g c
   rcases c with c | c
   ·exact .inl c
   ·exact .inr (.inr ⟨id, _, v, hid, rfl, hv, c⟩)
def SameC (h h1 : Heap) : Prop := ∀ i, h1 i = h i ∨ ∃ l e z xs, h i = some (.row l e z xs) ∧ h1 i = some (.row false e z xs)
theorem SameC.refl (h : Heap) : SameC h h := fun _ => .inl rfl
theorem freezeL_same (h : Heap) : ∀ L, SameC h (ups h (freezeL h L))
 | [] => SameC.refl h
 | i :: r => by
  have ih := freezeL_same h r
  unfold freezeL
  split
  ·rename_i l e z xs hi
   intro k
   simp only [ups]
   by_cases c : k = i
   ·subst c; rw [upd_same]; exact .inr ⟨_, _, _, _, hi, rfl⟩
   ·rw [upd_other _ _ _ _ c]; exact ih k
  ·exact ih
theorem freezeL_done (h : Heap) (L : List Nat) (i : Nat) (hi : i ∈ L) (l : Bool) (e z : Nat) (xs : List D) (hx : h i = some (.row l e z xs)) :
  ups h (freezeL h L) i = some (.row false e z xs) := by
 induction L with
 | nil => cases hi
 | cons k r ih =>
  unfold freezeL
  by_cases c : i = k
  ·subst c
   rw [hx]
   simp only [ups]
   rw [upd_same]
  ·have := ih (by cases hi with | head => exact absurd rfl c | tail _ m => exact m)
   split
   ·simp only [ups]; rw [upd_other _ _ _ _ c]; exact this
   ·exact this
theorem freezeL_other (h : Heap) (L : List Nat) (i : Nat) (hi : L.contains i = false) : ups h (freezeL h L) i = h i := by
 induction L with
 | nil => rfl
 | cons k r ih =>
  simp only [List.contains_cons, Bool.or_eq_false_iff, beq_eq_false_iff_ne, ne_eq] at hi
  unfold freezeL
  split
  ·simp only [ups]; rw [upd_other _ _ _ _ hi.1]; exact ih hi.2
  ·exact ih hi.2
theorem Inv.freezeL {ι : Nat → Option Value} {h : Heap} {w : World} : ∀ (L : List Nat) {imm : Nat → Prop}, Inv ι imm h w →
  ∃ imm', Inv ι imm' (ups h (freezeL h L)) w ∧ Evo ι imm h w ι imm' (ups h (freezeL h L)) w
 | [], imm, I => ⟨imm, I, .refl _ _ _ _⟩
 | i :: r, imm, I => by
  obtain ⟨imm1, I1, E1⟩ := Inv.freezeL r I
  unfold K.freezeL
  split
  ·rename_i l e z xs hi
   simp only [ups]
   have hs : ∃ l', ups h (K.freezeL h r) i = some (.row l' e z xs) := by
    rcases freezeL_same h r i with c | ⟨l', e', z', xs', c1, c2⟩
    ·exact ⟨l, c.trans hi⟩
    ·rw [hi] at c1; cases c1; exact ⟨false, c2⟩
   obtain ⟨l', hs⟩ := hs
   obtain ⟨imm2, I2, E2⟩ := I1.freeze1 hs
   exact ⟨imm2, I2, E1.trans E2⟩
  ·exact ⟨imm1, I1, E1⟩
theorem RepC.piece {imm : Nat → Prop} {w : World} {xs : List D} {g o n cap off len c sz : Nat} (h : RepC imm w (.sl xs) (.slice (some ⟨g, o, none⟩) n cap)) (hu : ∀ x, x ∈ xs → x.cells.length = sz)
  (hl : off + len ≤ xs.length) (hc : len ≤ c) : RepC imm w (.sl ((xs.drop off).take len)) (.slice (some ⟨g, o + off * sz, none⟩) len c) := by
 have hlen : ((xs.drop off).take len).length = len := by simp; omega
 by_cases hz : len = 0
 ·subst hz
  simp only [List.take_zero]
  exact .sl0 _ _
 ·cases h with
  | sl0 base cap => simp at hl; omega
  | sl _ _ _ _ sz' cs T fr hne hi hg hc' hs hb hr =>
   have hsz : sz' = sz := by
    cases xs with
    | nil => exact absurd rfl hne
    | cons a r => exact (hs a (by simp)).symm.trans (hu a (by simp))
   subst hsz
   have := RepC.sl (imm := imm) (w := w) ((xs.drop off).take len) g (o + off * sz') c sz' cs T fr (by intro e; rw [e] at hlen; simp at hlen; omega) hi hg (by omega)
    (fun x hx => hs x (List.mem_of_mem_drop (List.mem_of_mem_take hx))) (fun i j a b => by
     have := hb (off + i) j (by omega) b
     rw [Nat.add_mul] at this; omega) (fun i j a b => by
     have := hr (off + i) j (by omega) b
     have e1 : ((xs.drop off).take len).getD i .np = xs.getD (off + i) .np := by
      have : i < len := by omega
      simp [List.getD, this]
     have e2 : o + off * sz' + (i * sz' + j) = o + ((off + i) * sz' + j) := by rw [Nat.add_mul]; omega
     rw [e1, e2]; exact this)
   rw [hlen] at this
   exact this
theorem RepC.len {imm : Nat → Prop} {w : World} {xs : List D} {a : Option Addr} {n c : Nat} (h : RepC imm w (.sl xs) (.slice a n c)) : n = xs.length := by
 cases h <;> rfl
theorem toD1_rep {ι : Nat → Option Value} {imm : Nat → Prop} {h h1 : Heap} {w : World} (I : Inv ι imm h1 w) {x : V} {v : Value} {d : D}
  (hf : ∀ i, i ∈ ids1 x → ∀ l e z xs, h i = some (.row l e z xs) → h1 i = some (.row false e z xs)) (hr : RepV1 ι imm w x v) (hd : toD1 Ω h x = some d) : RepC imm w d v := by
 cases x with
 | d x => cases hd; exact hr
 | nil => cases hd; obtain rfl : v = _ := hr; exact .sl0 _ _
 | own id sz =>
  simp only [toD1] at hd
  split at hd
  ·rename_i l e z xs hid
   cases hd
   have hid1 := hf id (by simp [ids1]) _ _ _ _ hid
   obtain ⟨v', h2, h3⟩ := I.blk id _ hid1
   rw [hr.1] at h2; cases h2
   exact h3.1
  ·cases hd
 | ref id sz off len =>
  simp only [toD1] at hd
  split at hd
  ·rename_i l e z xs hid
   split at hd
   ·rename_i hz
    subst hz
    simp only [w_leb, w_nadd, w_slen, w_ssub] at hd
    by_cases hl : off + len ≤ xs.length
    rotate_left
    ·rw [decide_eq_false hl] at hd; cases hd
    rw [decide_eq_true hl] at hd
    cases hd
    have hid1 := hf id (by simp [ids1]) _ _ _ _ hid
    obtain ⟨v', h2, h3⟩ := I.blk id _ hid1
    rcases hr with ⟨g, n, cap, c, h4, rfl, h5, h6⟩ | ⟨h4, rfl, base, rfl⟩
    ·rw [h4] at h2; cases h2
     have := h3.1.piece (off := off) (len := len) (c := c) h3.2.1 hl h5
     rw [Nat.zero_add] at this
     exact this
    ·show RepC _ _ (.sl ((List.drop off xs).take 0)) _
     simp only [List.take_zero]
     exact .sl0 _ _
   ·cases hd
  ·cases hd
 | _ => cases hd
theorem toD_rep {ι : Nat → Option Value} {imm : Nat → Prop} {h h1 : Heap} {w : World} (I : Inv ι imm h1 w) {x : V} {v : Value} {d : D}
  (hf : ∀ i, i ∈ idsOf x → ∀ l e z xs, h i = some (.row l e z xs) → h1 i = some (.row false e z xs)) (hr : RepV ι imm w x v) (hd : toD Ω h x = some d) : RepD imm w d v := by
 have one : ∀ y : V, RepV1 ι imm w y v → toD1 Ω h y = some d → (∀ i, i ∈ ids1 y → ∀ l e z xs, h i = some (.row l e z xs) → h1 i = some (.row false e z xs)) → RepD imm w d v := fun y hy hdy hfy => by
  have := toD1_rep I hfy hy hdy
  cases d <;> first | exact this | cases this
 cases x with
 | agg cs =>
  obtain ⟨vs, rfl, hsz, hc⟩ := hr
  simp only [toD] at hd
  split at hd
  ·rename_i l hl
   cases hd
   have key : ∀ (cs : List V) (l : List D), allD Ω h cs = some l → l.length = cs.length ∧ ∀ j, j < cs.length → toD1 Ω h (cs.getD j .junk) = some (l.getD j .np) := by
    intro cs
    induction cs with
    | nil => intro l e; cases e; exact ⟨rfl, fun j hj => absurd hj (by simp)⟩
    | cons a r ih =>
     intro l e
     unfold allD at e
     split at e
     ·rename_i x l' ha hr'
      cases e
      obtain ⟨i1, i2⟩ := ih l' hr'
      refine ⟨by simp [i1], fun j hj => ?_⟩
      cases j with
      | zero => exact ha
      | succ j => exact i2 j (by simpa using hj)
     ·cases e
   obtain ⟨k1, k2⟩ := key cs l hl
   refine ⟨vs, rfl, by omega, fun j hj => ?_⟩
   refine toD1_rep I (fun i hi => hf i ?_) (hc j (by omega)).1 (k2 j (by omega))
   simp only [idsOf, List.mem_flatMap]
   refine ⟨cs.getD j .junk, ?_, hi⟩
   have hj' : j < cs.length := by omega
   simp [List.getD, hj']
  ·cases hd
 | d x => cases hd; exact hr
 | tup cs => cases hd
 | nil => exact one .nil hr hd hf
 | own a b => exact one (.own a b) hr hd hf
 | ref a b c e => exact one (.ref a b c e) hr hd hf
 | ptr a b => cases hd
 | ept a b c e => cases hd
 | ip a b => cases hd
 | fn f => cases hd
 | clo f a b => cases hd
 | junk => cases hd
end Go.K
end
section
namespace Go.K
open Go
theorem addr_add (g o n : Nat) : (⟨g, o, none⟩ : Addr).add n = ⟨g, o + n, none⟩ := by
 unfold Addr.add; split <;> simp_all
section
variable {P : Program} {T : TypeId} {i : TInfo}
theorem TOk.run_size (h : TOk P T i) (w : World) : (sizeOf T).run P w = .ok i.size w := by
 obtain ⟨info, h1, h2, _⟩ := h.ok
 simp [sizeOf, typeInfo, h1, h2]
theorem TOk.run_isAgg (h : TOk P T i) (w : World) : (isAgg T).run P w = .ok (isAggT i.und) w := by
 have := h.und
 cases hu : i.und <;> rw [hu] at this <;> simp [isAgg, run_underlying this, isAggT]
theorem TOk.run_zero (h : TOk P T i) {z : Value} (hz : i.zero = some z) (w : World) : (zeroValue T).run P w = .ok z w := by
 obtain ⟨info, h1, _, _, h4⟩ := h.ok
 simp [zeroValue, typeInfo, h1, h4.trans hz]
theorem run_loadVar_at (h : TOk P T i) (w : World) {g off : Nat} {vs : Array Value} {T' : TypeId} {fr : Nat × Nat} (hg : w.heap[g]? = some (.cells vs T' fr)) (hfit : off + i.size ≤ vs.size)
  (h1 : isAggT i.und = false → i.size = 1) :
  (loadVar T ⟨g, off, none⟩).run P w = .ok (if isAggT i.und then .agg ((List.range i.size).map fun j => vs.getD (off + j) undef).toArray else vs.getD off undef) w := by
 have hc : ∀ j, off + j < vs.size → w.cell? ⟨g, off + j, none⟩ = some (vs.getD (off + j) undef) := fun j hj => by
  simp [World.cell?, hg, Array.getD, hj]
 unfold loadVar
 rw [Sem.run_bind, h.run_isAgg]
 cases ha : isAggT i.und with
 | true =>
  have := run_loadCells (P := P) w ⟨g, off, none⟩ i.size (fun j => vs.getD (off + j) undef) (fun j hj => by rw [addr_add]; exact hc j (by omega))
  simp [h.run_size, this]
 | false =>
  have h1' := h1 ha
  have := hc 0 (by omega)
  simp only [Nat.add_zero] at this
  simp [this]
theorem run_storeVar_at (h : TOk P T i) (w : World) {g off : Nat} {cur : Array Value} {T' : TypeId} (hg : w.heap[g]? = some (.cells cur T' (0, 0))) {v : Value} (hs : v.cells.size = i.size)
  (hfit : off + i.size ≤ cur.size) (h1 : ∀ j, j < i.size → (v.cells.getD j undef).oneCell' = true) :
  (storeVar T ⟨g, off, none⟩ v).run P w = .ok () (w.setRow g (cur.toList.take off ++ v.cells.toList ++ cur.toList.drop (off + i.size)).toArray) := by
 have := run_storeCells_at P g off T' v.cells.toList 0 cur w hg (by simpa [hs] using hfit) (fun x hx => by
  obtain ⟨j, hj, rfl⟩ := List.mem_iff_getElem.1 hx
  have hj' : j < v.cells.size := by simpa using hj
  have := h1 j (by omega)
  simpa [Array.getD, hj'] using this)
 unfold storeVar
 simp only [Sem.run_bind, h.run_size, Result.andThen_ok, hs, ne_eq, not_true_eq_false, if_false]
 simpa [hs] using this
end
theorem run_fieldAt {P : Program} {T : TypeId} {i : TInfo} (h : TOk P T i) {fs : Array Field} (hu : i.und = .struct fs) {f : Nat} {fd : Field} (hf : fs[f]? = some fd) {j : TInfo} (hj : TOk P fd.type j) (hs : 0 < j.size)
  (w : World) (g off : Nat) : (Instr.fieldAt T (.pointer (some ⟨g, off, none⟩)) f).run P w = .ok (.pointer (some ⟨g, off + fd.offset, none⟩)) w := by
 have := h.und
 rw [hu] at this
 have hne : ¬ j.size = 0 := by omega
 simp [Instr.fieldAt, run_underlying this, hf, Instr.sureAddr, fieldPlace, hj.run_size, hne, addr_add]
end Go.K
end
section
namespace Go.K
open Go
def Done (ι : Nat → Option Value) (imm : Nat → Prop) (h : Heap) (w : World) (K : Out → Prop) (r : Result Next) : Prop :=
 ∃ out v w' ι' imm', (r = .ok (.value v) w' ∨ (r = .ok .skip w' ∧ v = undef)) ∧ K out ∧ Evo ι imm h w ι' imm' (ups h out.upd) w' ∧ Inv ι' imm' (ups h out.upd) w' ∧ RepV ι' imm' w' out.v v
section
variable {ι : Nat → Option Value} {imm : Nat → Prop} {h : Heap} {w : World} {K : Out → Prop}
theorem Done.val {r : Result Next} {x : V} {v : Value} {rd : List Nat} (I : Inv ι imm h w) (hr : r = .ok (.value v) w) (hK : K { v := x, rd := rd }) (hR : RepV ι imm w x v) : Done ι imm h w K r :=
 ⟨_, v, w, ι, imm, .inl hr, hK, .refl _ _ _ _, I, hR⟩
theorem Done.drew {r : Result Next} {x : V} {v : Value} {rd : List Nat} (I : Inv ι imm h w) (hr : r = .ok (.value v) w) (hK : K { v := x, rd := rd }) (hR : RepV ι imm w x v) : Done ι imm h w K r := Done.val I hr hK hR
variable {P : Program} {E : Env} {draw : Bool} {ev : Operand → V} {ρ : Operand → Value} {o : Oper} {id : Nat}
theorem repB {t : Bool} {v : Value} (h : RepV ι imm w (.d (.b t)) v) : v = .bool t := by cases h; rfl
theorem repI {k : IntKind} {n : Int} {v : Value} (h : RepV ι imm w (.d (.i k n)) v) : v = .int k n := by cases h; rfl
theorem repS {b : ByteArray} {v : Value} (h : RepV ι imm w (.d (.s b)) v) : v = .string b := by cases h; rfl
theorem repSl {xs : List D} {v : Value} (h : RepV ι imm w (.d (.sl xs)) v) : ∃ a c, v = .slice a xs.length c ∧ RepC imm w (.sl xs) (.slice a xs.length c) := by
 have h' : RepC imm w (.sl xs) v := h
 cases h with
 | sl0 base cap => exact ⟨base, cap, rfl, h'⟩
 | sl _ g off cap => exact ⟨_, cap, rfl, h'⟩
theorem repFn {f : FuncId} {v : Value} (h : RepV ι imm w (.fn f) v) : v = .func (.func f) #[] #[] := h
theorem shape_take {agg : Bool} {n off : Nat} {cs : List V} {vs : Array Value} (hs : vs.size = cs.length) (hc : ∀ j, j < cs.length → RepV1 ι imm w (cs.getD j .junk) (vs.getD j undef) ∧ (vs.getD j undef).oneCell' = true)
  (hfit : off + n ≤ cs.length) (h1 : agg = false → n = 1) :
  RepV ι imm w (shapeV agg ((cs.drop off).take n)) (if agg then .agg ((List.range n).map fun j => vs.getD (off + j) undef).toArray else vs.getD off undef) := by
 have e : ∀ j, j < n → ((cs.drop off).take n).getD j .junk = cs.getD (off + j) .junk := fun j hj => by simp [List.getD, hj]
 cases agg with
 | true =>
  refine shape_rep (by simp; omega) fun j hj => ?_
  have hj' : j < n := by simp at hj; omega
  rw [e j hj']
  have : ((List.range n).map fun j => vs.getD (off + j) undef).toArray.getD j undef = vs.getD (off + j) undef := by simp [Array.getD, hj']
  rw [this]
  exact hc (off + j) (by omega)
 | false =>
  have hn := h1 rfl
  subst hn
  have := e 0 (by omega)
  have h2 : shapeV false ((cs.drop off).take 1) = cs.getD off .junk := by
   have hlt : off < cs.length := by omega
   simp [shapeV, List.headD, List.getD, hlt, List.take_one, List.head?_drop]
  rw [h2]
  exact V0_of_V1 (hc off (by omega)).1
theorem load_D {x : D} {n off : Nat} {agg : Bool} {vs : Array Value} {b : Nat} (hc : ∀ j, j < x.cells.length → RepC imm w (x.cells.getD j .np) (vs.getD (b + j) undef))
  (hfit : off + n ≤ x.cells.length) (h1 : agg = false → n = 1) :
  RepV ι imm w (.d (loadD x off n agg)) (if agg then .agg ((List.range n).map fun j => vs.getD (b + off + j) undef).toArray else vs.getD (b + off) undef) := by
 cases agg with
 | false =>
  have := hc off (by have := h1 rfl; omega)
  simp only [loadD, Bool.false_eq_true, if_false]
  exact V0_of_V1 (x := .d _) this
 | true =>
  simp only [loadD, if_true]
  have key : ∀ cs : List D, cs = (x.cells.drop off).take n → RepV ι imm w (.d (.agg cs)) (.agg ((List.range n).map fun j => vs.getD (b + off + j) undef).toArray) := by
   rintro cs rfl
   refine ⟨_, rfl, by simp; omega, fun j hj => ?_⟩
   have hj' : j < n := by simp at hj; omega
   have e : ((x.cells.drop off).take n).getD j .np = x.cells.getD (off + j) .np := by simp [List.getD, hj']
   rw [e]
   have : ((List.range n).map fun j => vs.getD (b + off + j) undef).toArray.getD j undef = vs.getD (b + (off + j)) undef := by simp [Array.getD, hj', Nat.add_assoc]
   rw [this]
   exact hc (off + j) (by omega)
  split
  ·rename_i hx
   simp only [Bool.and_eq_true, beq_iff_eq] at hx
   obtain ⟨⟨a1, a2⟩, a3⟩ := hx
   cases x <;> first | cases a1 | skip
   rename_i cs
   refine key cs ?_
   simp only [D.cells] at a3 ⊢
   subst a2
   rw [List.drop_zero, List.take_of_length_le (by omega)]
  ·exact key _ rfl
section
variable (I : Inv ι imm h w) (tt : TTok P E.tt) (he : ∀ x, RepV ι imm w (ev x) (ρ x))
include I he
theorem op_move {x : Operand} (ho : o.op = .move x) (hK : opR Ω E draw ev h o.op id K) : Done ι imm h w K ((execOp ρ o).run P w) := by
 rw [ho] at hK
 exact Done.val I (by simp [execOp, ho]) hK (he x)
theorem op_assign {x : Operand} (ho : o.op = .assign x) (hK : opR Ω E draw ev h o.op id K) : Done ι imm h w K ((execOp ρ o).run P w) := by
 rw [ho] at hK
 exact Done.val I (by simp [execOp, ho]) hK (he x)
theorem op_pick {c a b : Operand} (ho : o.op = .pick c a b) (hK : opR Ω E draw ev h o.op id K) : Done ι imm h w K ((execOp ρ o).run P w) := by
 rw [ho] at hK
 simp only [opR, w_slen, w_sget, w_ssub, w_sset, w_srep, w_scat, BrG_eq, DK_eq, w_ci, w_iand, w_ior, w_ixor, w_ishl, w_ishr, w_wrap, w_tmod, w_lt, w_le, w_eq, w_ne, w_ile, w_ilt, w_tn, w_nadd, w_nsub, w_nlt, w_leb, w_room, w_imax, w_imin, w_bget, w_bext, w_bcat, w_bsz, w_beqs] at hK
 split at hK
 ·rename_i t hc
  have h1 := he c
  rw [hc] at h1
  have h2 := repB h1
  refine Done.val (v := if t then ρ a else ρ b) I (by simp [execOp, ho, h2, asBool]) hK ?_
  cases t
  ·exact he b
  ·exact he a
 ·exact hK.elim
theorem op_nilCheck {x : Operand} (ho : o.op = .nilCheck x) (hK : opR Ω E draw ev h o.op id K) : Done ι imm h w K ((execOp ρ o).run P w) := by
 rw [ho] at hK
 have h1 := he x
 simp only [opR, w_slen, w_sget, w_ssub, w_sset, w_srep, w_scat, BrG_eq, DK_eq, w_ci, w_iand, w_ior, w_ixor, w_ishl, w_ishr, w_wrap, w_tmod, w_lt, w_le, w_eq, w_ne, w_ile, w_ilt, w_tn, w_nadd, w_nsub, w_nlt, w_leb, w_room, w_imax, w_imin, w_bget, w_bext, w_bcat, w_bsz, w_beqs] at hK
 split at hK
 ·rename_i j off hc
  rw [hc] at h1
  obtain ⟨g, h2, h3⟩ := h1
  exact Done.val (v := ρ x) I (by simp [execOp, ho, h3]) hK ⟨g, h2, h3⟩
 ·rename_i j sz i off hc
  rw [hc] at h1
  obtain ⟨g, n, cap, h2, h3⟩ := h1
  exact Done.val (v := ρ x) I (by simp [execOp, ho, h3]) hK ⟨g, n, cap, h2, h3⟩
 ·rename_i y off hc
  rw [hc] at h1
  have h1' := h1
  obtain ⟨g, n, cs, T, fr, h2, h3, h4, h5⟩ := h1
  exact Done.val (v := ρ x) I (by simp [execOp, ho, h4]) hK h1'
 ·rename_i f hc
  rw [hc] at h1
  have h3 := repFn h1
  exact Done.val (v := ρ x) I (by simp [execOp, ho, h3]) hK h1
 ·rename_i f a b hc
  rw [hc] at h1
  have h1' := h1
  obtain ⟨fs, vs, h3, _, _⟩ := h1
  exact Done.val (v := ρ x) I (by simp [execOp, ho, h3]) hK h1'
 ·exact hK.elim
theorem op_box {T : TypeId} {x : Operand} (ho : o.op = .box T x) (hK : opR Ω E draw ev h o.op id K) : Done ι imm h w K ((execOp ρ o).run P w) := by
 rw [ho] at hK
 simp only [opR, w_slen, w_sget, w_ssub, w_sset, w_srep, w_scat, BrG_eq, DK_eq, w_ci, w_iand, w_ior, w_ixor, w_ishl, w_ishr, w_wrap, w_tmod, w_lt, w_le, w_eq, w_ne, w_ile, w_ilt, w_tn, w_nadd, w_nsub, w_nlt, w_leb, w_room, w_imax, w_imin, w_bget, w_bext, w_bcat, w_bsz, w_beqs] at hK
 split at hK
 ·rename_i l hl
  obtain ⟨hid, hK⟩ := hK
  have hi : ∀ j v', ι j = some v' → upd ι id (some (.pointer (some ⟨w.heap.size, 0, none⟩))) j = some v' := fun j v' e => by
   by_cases c : j = id
   ·subst c; rw [I.non j hid] at e; cases e
   ·rw [upd_other _ _ _ _ c]; exact e
  have hrep : RepV (upd ι id (some (.pointer (some ⟨w.heap.size, 0, none⟩)))) imm (w.alloc (.cells (ρ x).cells T)) (ev x) (ρ x) :=
   (he x).mono hi (fun g e => ⟨e, heap_alloc_old w _ g (I.lt g e)⟩)
  obtain ⟨c1, c2⟩ := cells_rep hrep hl
  have st := I.fresh hid (.pointer (some ⟨w.heap.size, 0, none⟩)) (.var l) (w' := w.alloc (.cells (ρ x).cells T)) (by simp) (fun g hg => heap_alloc_old w _ g hg) rfl rfl rfl
   (fun g hg => by cases hg; exact Nat.le_refl _) ⟨w.heap.size, (ρ x).cells, T, rfl, heap_alloc_new w _, c1, c2⟩
  refine ⟨_, .pointer (some ⟨w.heap.size, 0, none⟩), w.alloc (.cells (ρ x).cells T), _, imm, .inl ?_, hK, st.2, st.1, ⟨w.heap.size, upd_same _ _ _, rfl⟩⟩
  simp [execOp, ho, Instr.box, newVar, newRow]
 ·exact hK.elim
theorem op_extract {x : Operand} {k : Nat} (ho : o.op = .extract x k) (hK : opR Ω E draw ev h o.op id K) : Done ι imm h w K ((execOp ρ o).run P w) := by
 rw [ho] at hK
 have h1 := he x
 simp only [opR, w_slen, w_sget, w_ssub, w_sset, w_srep, w_scat, BrG_eq, DK_eq, w_ci, w_iand, w_ior, w_ixor, w_ishl, w_ishr, w_wrap, w_tmod, w_lt, w_le, w_eq, w_ne, w_ile, w_ilt, w_tn, w_nadd, w_nsub, w_nlt, w_leb, w_room, w_imax, w_imin, w_bget, w_bext, w_bcat, w_bsz, w_beqs] at hK
 split at hK
 ·rename_i cs hc
  split at hK
  ·rename_i v hv
   rw [hc] at h1
   obtain ⟨vs, h2, h3, h4⟩ := h1
   have hk : k < cs.length := (List.getElem?_eq_some_iff.1 hv).1
   have h5 := h4 k hk
   have e : cs.getD k .junk = v := by simp [List.getD, hv]
   rw [e] at h5
   have hr : (Instr.extract (ρ x) k).run P w = .ok (vs.getD k undef) w := by
    have : vs[k]? = some (vs.getD k undef) := by
     have : k < vs.size := by omega
     simp [Array.getD, this]
    rw [h2]
    simp only [Instr.extract]
    rw [this]
    rfl
   refine Done.val (v := vs.getD k undef) I (by simp [execOp, ho, hr]) hK ?_
   cases v <;> first | exact h5 | exact h5.elim
  ·exact hK.elim
 ·exact hK.elim
include tt
theorem op_alloc {T : TypeId} (ho : o.op = .alloc T) (hK : opR Ω E draw ev h o.op id K) : Done ι imm h w K ((execOp ρ o).run P w) := by
 rw [ho] at hK
 simp only [opR, w_slen, w_sget, w_ssub, w_sset, w_srep, w_scat, BrG_eq, DK_eq, w_ci, w_iand, w_ior, w_ixor, w_ishl, w_ishr, w_wrap, w_tmod, w_lt, w_le, w_eq, w_ne, w_ile, w_ilt, w_tn, w_nadd, w_nsub, w_nlt, w_leb, w_room, w_imax, w_imin, w_bget, w_bext, w_bcat, w_bsz, w_beqs] at hK
 split at hK
 ·rename_i sz by' z und ht
  have hT := tt _ _ ht
  split at hK
  ·rename_i l hl
   obtain ⟨hid, hK⟩ := hK
   have hrep := constV_rep (upd ι id (some (.pointer (some ⟨w.heap.size, 0, none⟩)))) imm (w.alloc (.cells z.cells T)) z
   obtain ⟨c1, c2⟩ := cells_rep hrep hl
   have st := I.fresh hid (.pointer (some ⟨w.heap.size, 0, none⟩)) (.var l) (w' := w.alloc (.cells z.cells T)) (by simp) (fun g hg => heap_alloc_old w _ g hg) rfl rfl rfl
    (fun g hg => by cases hg; exact Nat.le_refl _) ⟨w.heap.size, z.cells, T, rfl, heap_alloc_new w _, c1, c2⟩
   refine ⟨_, .pointer (some ⟨w.heap.size, 0, none⟩), w.alloc (.cells z.cells T), _, imm, .inl ?_, hK, st.2, st.1, ⟨w.heap.size, upd_same _ _ _, rfl⟩⟩
   simp [execOp, ho, Instr.alloc, hT.run_zero rfl, newVar, newRow]
  ·exact hK.elim
 ·exact hK.elim
theorem op_load {T : TypeId} {x : Operand} (ho : o.op = .load T x) (hK : opR Ω E draw ev h o.op id K) : Done ι imm h w K ((execOp ρ o).run P w) := by
 rw [ho] at hK
 have h1 := he x
 simp only [opR, w_slen, w_sget, w_ssub, w_sset, w_srep, w_scat, BrG_eq, DK_eq, w_ci, w_iand, w_ior, w_ixor, w_ishl, w_ishr, w_wrap, w_tmod, w_lt, w_le, w_eq, w_ne, w_ile, w_ilt, w_tn, w_nadd, w_nsub, w_nlt, w_leb, w_room, w_imax, w_imin, w_bget, w_bext, w_bcat, w_bsz, w_beqs] at hK
 split at hK
 ·rename_i i j off ht hx
  have hT := tt _ _ ht
  rw [hx] at h1
  obtain ⟨g, h2, h3⟩ := h1
  split at hK
  ·rename_i cs hj
   obtain ⟨hfit, hone, hK⟩ := hK
   obtain ⟨v', h4, g', vs, T', h5, h6, h7, h8⟩ := I.blk j _ hj
   rw [h2] at h4; cases h4; cases h5
   have hr := run_loadVar_at hT w (off := off) h6 (by omega) hone.one
   refine Done.val I ?_ hK (shape_take h7 h8 hfit hone.one)
   simp only [execOp, ho, h3, Instr.loadAt, Instr.sureAddr, Sem.run_bind, Sem.run_pure, Result.andThen_ok, hr]
  ·exact hK.elim
 ·rename_i i j sz k off ht hx
  have hT := tt _ _ ht
  rw [hx] at h1
  obtain ⟨g, n, cap, h2, h3⟩ := h1
  split at hK
  ·rename_i l e z xs hj
   obtain ⟨rfl, y, hy, hfit, hone, hK⟩ := hK
   obtain ⟨v', h4, h5⟩ := I.blk j _ hj
   rw [h2] at h4; cases h4
   have hk : k < xs.length := (List.getElem?_eq_some_iff.1 hy).1
   have ey : xs.getD k .np = y := by simp [List.getD, hy]
   have hym : y ∈ xs := List.mem_of_getElem? hy
   have hrow : ∃ vs T' fr, w.heap[g]? = some (.cells vs T' fr) ∧ y.cells.length = z ∧ k * z + z ≤ vs.size ∧ ∀ m, m < y.cells.length → RepC imm w (y.cells.getD m .np) (vs.getD (k * z + m) undef) := by
    have hmul : k * z + z ≤ xs.length * z := by
     have := Nat.mul_le_mul_right z (Nat.succ_le_of_lt hk)
     rw [Nat.succ_mul] at this; exact this
    cases l with
    | true =>
     obtain ⟨cells, ho', h6, h7⟩ := h5
     rcases ho'.2 with ⟨c, _⟩ | ⟨g', cap', cur, c, _, h8, h9, _, h10, h11⟩
     ·cases c
     ·cases c
      have hcs : xs.length * z ≤ cur.size := Nat.le_trans (Nat.mul_le_mul_right _ h9) h10
      refine ⟨cur, e, (0, 0), h8, h6 y hym, by omega, fun m hm => ?_⟩
      rw [h6 y hym] at hm
      have := h7 k m hk hm
      rw [ey] at this
      have e2 : cells.getD (k * z + m) undef = cur.getD (k * z + m) undef := by
       rw [← h11]
       have h12 : k * z + m < xs.length * z := by omega
       have h13 : k * z + m < cur.size := by omega
       simp [List.getD, h12, Array.getD, h13]
      rw [← e2]; exact this
    | false =>
     obtain ⟨h6, h7, _⟩ := h5
     cases h6 with
     | sl0 base cap => simp at hk
     | sl _ _ _ _ sz' cs T' fr hne hi hg hc' hs hb hr =>
      have hsz : sz' = z := (hs y hym).symm.trans (h7 y hym)
      subst hsz
      refine ⟨cs, T', fr, hg, h7 y hym, ?_, fun m hm => ?_⟩
      ·by_cases hz : sz' = 0
       ·subst hz; simp
       ·have := hb k (sz' - 1) hk (by omega); omega
      ·rw [h7 y hym] at hm
       have := hr k m hk hm
       rw [ey] at this
       rw [Nat.zero_add] at this
       exact this
   obtain ⟨vs, T', fr, h6, h7, h8, h9⟩ := hrow
   have := load_D (ι := ι) (b := k * z) (off := off) (n := i.size) (agg := isAggT i.und) h9 hfit hone.one
   have hr := run_loadVar_at hT w (off := k * z + off) h6 (by omega) hone.one
   refine Done.val I ?_ hK this
   simp only [execOp, ho, h3, Instr.loadAt, Instr.sureAddr, Sem.run_bind, Sem.run_pure, Result.andThen_ok, hr]
  ·exact hK.elim
 ·rename_i i y off ht hx
  have hT := tt _ _ ht
  rw [hx] at h1
  obtain ⟨g, b, cs, T', fr, h2, h3, h4, h5⟩ := h1
  obtain ⟨hpos, hfit, hone, hK⟩ := hK
  have hb : b + off + i.size ≤ cs.size := by
   have := (h5 (off + i.size - 1) (by omega)).1; omega
  have hr := run_loadVar_at hT w (off := b + off) h3 hb hone.one
  have := load_D (ι := ι) (b := b) (off := off) (n := i.size) (agg := isAggT i.und) (fun j hj => (h5 j hj).2) hfit hone.one
  refine Done.val I ?_ hK this
  simp only [execOp, ho, h4, Instr.loadAt, Instr.sureAddr, Sem.run_bind, Sem.run_pure, Result.andThen_ok, hr]
 ·exact hK.elim
end
end
end Go.K
end
