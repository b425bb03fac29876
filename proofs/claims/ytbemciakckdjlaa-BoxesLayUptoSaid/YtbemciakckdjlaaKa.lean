/-
  Parts of the proof, joined by a program of this work: KWords, KDefs, KInst, KRep, KInv, KRun, KOps, KOps2, KOps3, KOps4, KOps5, KOps6, KOps7, KOps8, KOps9, KCall.
-/
import Derived.Orders
import Derived.KernelRfl
import Derived.Laws.MakeOwn
import Derived.Laws.Slices
import Derived.Laws.CopyOwn
import Derived.Laws.Cover3
section
/-
  K, part 0: data, and the words that a reckoning leaves as they stand: they are the values of two functions (Ω, Ψ), given by an instance, which a reckoning hides. No macro, syntax, notation, axiom, sorry.
-/
namespace Go.K

/-- data: what a value reads as -/
inductive D where
  | b (x : Bool)
  | i (k : IntKind) (n : Int)
  | s (x : ByteArray)
  | np
  | nif
  | ifc (t : TypeId) (x : D)
  | sl (xs : List D)
  | agg (cs : List D)
  deriving Inhabited

def D.cells : D → List D
  | .agg cs => cs
  | x => [x]
def D.isAgg : D → Bool
  | .agg _ => true
  | _ => false

/-! words that a reckoning leaves as they stand: they are the values of one function (`Ω`), which is hidden from a reckoning -/
inductive Wd where
  | ci | wrap | imax | imin | iand | ior | ixor | ishl | ishr | tmod | lt | le | eq | ne | ile | ilt | slen | sget | ssub | sset | srep | scat | tn | nadd | nsub | nlt | leb | room
@[reducible] def WTy : Wd → Type
  | .ci => Nat → Int
  | .wrap => IntKind → Int → Int
  | .imax | .imin | .tmod => Int → Int → Int
  | .iand | .ior | .ixor | .ishl | .ishr => IntKind → Int → Int → Int
  | .lt | .le | .eq | .ne => Int → Int → Bool
  | .ile | .ilt => Int → Int → Prop
  | .slen => List D → Nat
  | .sget => List D → Nat → Option D
  | .ssub => List D → Nat → Nat → List D
  | .sset => List D → Nat → D → List D
  | .srep => Nat → D → List D
  | .scat => List D → List D → List D
  | .tn => Int → Nat
  | .nadd | .nsub => Nat → Nat → Nat
  | .nlt | .room => Nat → Nat → Prop
  | .leb => Nat → Nat → Bool
def Ω : (t : Wd) → WTy t
  | .ci => fun (n : Nat) => (n : Int)
  | .wrap => fun k n => k.wrap n
  | .imax => fun (n m : Int) => if m > n then m else n
  | .imin => fun (n m : Int) => if m < n then m else n
  | .tmod => fun (n m : Int) => n.tmod m
  | .iand => fun (k : IntKind) (n m : Int) => k.wrap (BitVec.ofInt k.bits n &&& BitVec.ofInt k.bits m).toNat
  | .ior => fun (k : IntKind) (n m : Int) => k.wrap (BitVec.ofInt k.bits n ||| BitVec.ofInt k.bits m).toNat
  | .ixor => fun (k : IntKind) (n m : Int) => k.wrap (BitVec.ofInt k.bits n ^^^ BitVec.ofInt k.bits m).toNat
  | .ishl => fun (k : IntKind) (n m : Int) => k.wrap (n * 2 ^ (min m.toNat k.bits))
  | .ishr => fun (k : IntKind) (n m : Int) => n.fdiv (2 ^ (min m.toNat k.bits))
  | .lt => fun (n m : Int) => decide (n < m)
  | .le => fun (n m : Int) => decide (n ≤ m)
  | .eq => fun (n m : Int) => n == m
  | .ne => fun (n m : Int) => n != m
  | .ile => fun (n m : Int) => n ≤ m
  | .ilt => fun (n m : Int) => n < m
  | .slen => fun (xs : List D) => xs.length
  | .sget => fun (xs : List D) (k : Nat) => xs[k]?
  | .ssub => fun (xs : List D) (a n : Nat) => (xs.drop a).take n
  | .sset => fun (xs : List D) (k : Nat) (y : D) => xs.set k y
  | .srep => fun (n : Nat) (x : D) => List.replicate n x
  | .scat => fun (xs ys : List D) => xs ++ ys
  | .tn => fun (n : Int) => n.toNat
  | .nadd => fun (a b : Nat) => a + b
  | .nsub => fun (a b : Nat) => a - b
  | .nlt => fun (a b : Nat) => a < b
  | .leb => fun (a b : Nat) => decide (a ≤ b)
  | .room => fun (n b : Nat) => n * b ≤ 140737488355328 ∧ n ≤ 1099511627776
/-- what a list of limbs says -/
def nv : List Nat → Nat
  | [] => 0
  | x :: l => x + 4294967296 * nv l
/-- the limbs of a number, none of them 0 at the end -/
def cn (n : Nat) : List Nat := if h : n = 0 then [] else n % 4294967296 :: cn (n / 4294967296)
  termination_by n
  decreasing_by omega
/-- a number's fields -/
structure RL where
  neg : Bool
  num : List Nat
  den : List Nat
/-- a point's fields -/
structure VL where
  x : RL
  y : RL
  z : RL
/-- a point -/
structure V3 where
  x : Rat
  y : Rat
  z : Rat
/-- where a ray meets a triangle -/
structure M3 where
  s : Rat
  u : Rat
  v : Rat
structure ML where
  s : RL
  u : RL
  v : RL
structure BL where
  lo : VL
  hi : VL
structure B3 where
  lo : V3
  hi : V3
def limsR (l : List Nat) : List D := l.map fun (x : Nat) => D.i .u32 (x : Int)
def crR (q : Rat) : RL := ⟨decide (q.num < 0), cn q.num.natAbs, cn q.den⟩
def cVR (p : V3) : VL := ⟨crR p.x, crR p.y, crR p.z⟩
def dRR (r : RL) : List D := [.b r.neg, .sl (limsR r.num), .sl (limsR r.den)]
def dVR (v : VL) : List D := [.b v.x.neg, .sl (limsR v.x.num), .sl (limsR v.x.den), .b v.y.neg, .sl (limsR v.y.num), .sl (limsR v.y.den), .b v.z.neg, .sl (limsR v.z.num), .sl (limsR v.z.den)]
inductive Sd where
  | lims | cr | cI | sI | cmpI | dRs | dVs | dBs | cV | cB | cM | hb | cn
@[reducible] def STy : Sd → Type
  | .lims => List Nat → List D
  | .cr => Rat → RL
  | .cI => Rat → Rat → Int
  | .sI => Rat → Int
  | .cmpI => Nat → Nat → Int
  | .dRs => List RL → List D
  | .dVs => List VL → List D
  | .dBs => List BL → List D
  | .cV => V3 → VL
  | .cB => B3 → BL
  | .cM => M3 → ML
  | .hb => Bool → Bool
  | .cn => Nat → List Nat
def Ψ : (t : Sd) → STy t
  | .lims => limsR
  | .cr => crR
  | .cI => fun (p q : Rat) => if p < q then (-1 : Int) else if q < p then 1 else 0
  | .sI => fun (q : Rat) => if q < 0 then (-1 : Int) else if 0 < q then 1 else 0
  | .cmpI => fun (m n : Nat) => if m < n then (-1 : Int) else if n < m then 1 else 0
  | .dRs => fun (l : List RL) => l.map fun r => D.agg (dRR r)
  | .dVs => fun (l : List VL) => l.map fun r => D.agg (dVR r)
  | .dBs => fun (l : List BL) => l.map fun b => D.agg (dVR b.lo ++ dVR b.hi)
  | .cV => cVR
  | .cB => fun (p : B3) => ⟨cVR p.lo, cVR p.hi⟩
  | .cM => fun (m : M3) => ⟨crR m.s, crR m.u, crR m.v⟩
  | .hb => fun (b : Bool) => b
  | .cn => cn
section
variable (Ψ : (t : Sd) → STy t)
def dN (l : List Nat) : D := .sl (Ψ .lims l)
def dR (r : RL) : List D := [.b r.neg, dN Ψ r.num, dN Ψ r.den]
def dV (v : VL) : List D := [.b v.x.neg, dN Ψ v.x.num, dN Ψ v.x.den, .b v.y.neg, dN Ψ v.y.num, dN Ψ v.y.den, .b v.z.neg, dN Ψ v.z.num, dN Ψ v.z.den]
def dM (v : ML) : List D := [.b v.s.neg, dN Ψ v.s.num, dN Ψ v.s.den, .b v.u.neg, dN Ψ v.u.num, dN Ψ v.u.den, .b v.v.neg, dN Ψ v.v.num, dN Ψ v.v.den]
def dB (b : BL) : List D := [.b b.lo.x.neg, dN Ψ b.lo.x.num, dN Ψ b.lo.x.den, .b b.lo.y.neg, dN Ψ b.lo.y.num, dN Ψ b.lo.y.den, .b b.lo.z.neg, dN Ψ b.lo.z.num, dN Ψ b.lo.z.den,
  .b b.hi.x.neg, dN Ψ b.hi.x.num, dN Ψ b.hi.x.den, .b b.hi.y.neg, dN Ψ b.hi.y.num, dN Ψ b.hi.y.den, .b b.hi.z.neg, dN Ψ b.hi.z.num, dN Ψ b.hi.z.den]
end
end Go.K
end
section
/-
  K, part 1: the abstract values and the weakest precondition that is reckoned from a function's code. No macro, syntax, notation, axiom, sorry.
-/
namespace Go.K
variable (Ω : (t : Wd) → WTy t)

/-- values of the local abstract heap -/
inductive V where
  | d (x : D)
  | agg (cs : List V)
  | tup (cs : List V)
  | ptr (id off : Nat)
  | ept (id sz i off : Nat)
  | ip (x : D) (off : Nat)
  | own (id sz : Nat)
  | ref (id sz off len : Nat)
  | nil
  | fn (f : FuncId)
  | junk
  deriving Inhabited

def V.cells : V → List V
  | .d x => x.cells.map V.d
  | .agg cs => cs
  | v => [v]

/-- the cells of a value, where they are known -/
def V.cellsO : V → Option (List V)
  | .junk => none
  | .tup _ => none
  | v => some v.cells

inductive Blk where
  | row (live : Bool) (e sz : Nat) (xs : List D)
  | var (cs : List V)
  | dead
  deriving Inhabited

abbrev Heap := Nat → Option Blk

structure TInfo where
  size : Nat
  bytes : Nat
  zero : Option Value
  und : TypeDesc

def upd {α : Type} (s : Nat → α) (t : Nat) (v : α) : Nat → α := fun x => if x = t then v else s x

structure St where
  sl : Nat → V
  h : Heap

def const1 : Value → V
  | .bool x => .d (.b x)
  | .int k n => .d (.i k n)
  | .string x => .d (.s x)
  | .pointer none => .d .np
  | .nilIface => .d .nif
  | .slice none 0 0 => .nil
  | _ => .junk
def constV : Value → V
  | .agg cs => if cs.toList.all Value.oneCell' then .agg (cs.toList.map const1) else .junk
  | v => const1 v

def ev (s : Nat → V) : Operand → V
  | .tmp t => s t
  | .const v => constV v
  | .global _ => .junk
  | .func f => .fn f

/-- a question's answer, from which all goes on: where it is known a reckoning goes on by itself -/
def BrG (t : Bool) (K : Bool → Prop) : Prop := (cond t (fun (_ : Unit) => K true) (fun (_ : Unit) => K false)) ()
def DK (r : D) (K : D → Prop) : Prop :=
  match r with
  | .b t => BrG t fun t => K (.b t)
  | r => K r

def toD1 (h : Heap) : V → Option D
  | .d x => some x
  | .nil => some (.sl [])
  | .own id _ => match h id with
    | some (.row _ _ _ xs) => some (.sl xs)
    | _ => none
  | .ref id sz off len => match h id with
    | some (.row _ _ z xs) => if z = sz then cond (Ω .leb (Ω .nadd off len) (Ω .slen xs)) (some (.sl (Ω .ssub xs off len))) none else none
    | _ => none
  | _ => none
def allD (h : Heap) : List V → Option (List D)
  | [] => some []
  | v :: r => match toD1 Ω h v, allD h r with
    | some x, some l => some (x :: l)
    | _, _ => none
def toD (h : Heap) : V → Option D
  | .agg cs => match allD Ω h cs with
    | some l => some (.agg l)
    | none => none
  | v => toD1 Ω h v
def toDs (h : Heap) : List V → Option (List D)
  | [] => some []
  | v :: r => match toD Ω h v, toDs h r with
    | some x, some l => some (x :: l)
    | _, _ => none
def ids1 : V → List Nat
  | .own id _ => [id]
  | .ref id _ _ _ => [id]
  | _ => []
def idsOf : V → List Nat
  | .agg cs => cs.flatMap ids1
  | v => ids1 v

/-- what an operation leaves: its value, the blocks that it writes, the blocks that it looks at -/
structure Out where
  v : V
  upd : List (Nat × Blk) := []
  rd : List Nat := []

def ups (h : Heap) : List (Nat × Blk) → Heap
  | [] => h
  | (i, b) :: r => upd (ups h r) i (some b)

def loadD (x : D) (off n : Nat) (agg : Bool) : D :=
  if agg then (if x.isAgg && off == 0 && n == x.cells.length then x else .agg ((x.cells.drop off).take n)) else x.cells.getD off .np

def isAggT : TypeDesc → Bool
  | .struct _ | .array _ _ => true
  | _ => false

/-- what is loaded is one cell, or a struct, an array -/
def OneT (u : TypeDesc) (n : Nat) : Prop := (isAggT u || Nat.beq n 1) = true

def freezeL (h : Heap) : List Nat → List (Nat × Blk)
  | [] => []
  | i :: r => match h i with
    | some (.row _ e z xs) => (i, .row false e z xs) :: freezeL h r
    | _ => freezeL h r

/-- operations of two operands -/
def binD (op : BinOp) (x y : D) : Option D :=
  match op, x, y with
  | .add, .i k a, .i k' c => if k = k' then some (.i k (Ω .wrap k (a + c))) else none
  | .sub, .i k a, .i k' c => if k = k' then some (.i k (Ω .wrap k (a - c))) else none
  | .mul, .i k a, .i k' c => if k = k' then some (.i k (Ω .wrap k (a * c))) else none
  | .eql, .i k a, .i k' c => if k = k' then some (.b (Ω .eq a c)) else none
  | .neq, .i k a, .i k' c => if k = k' then some (.b (Ω .ne a c)) else none
  | .lss, .i k a, .i k' c => if k = k' then some (.b (Ω .lt a c)) else none
  | .leq, .i k a, .i k' c => if k = k' then some (.b (Ω .le a c)) else none
  | .gtr, .i k a, .i k' c => if k = k' then some (.b (Ω .lt c a)) else none
  | .geq, .i k a, .i k' c => if k = k' then some (.b (Ω .le c a)) else none
  | .eql, .b a, .b c => some (.b (a == c))
  | .neq, .b a, .b c => some (.b (!(a == c)))
  | .eql, .s a, .s c => some (.b (a.toList == c.toList))
  | .neq, .s a, .s c => some (.b (!(a.toList == c.toList)))
  | _, _, _ => none
/-- bools are compared at a type of bools -/
def eqTy (tt : TypeId → Option TInfo) (T : TypeId) : D → Prop
  | .b _ => match tt T with
    | some { und := .bool, .. } => True
    | _ => False
  | _ => True


/-! ### renaming of the local heap's numbers -/
def ren1 (f : Nat → Option Nat) : V → V
  | .ptr id off => match f id with | some j => .ptr j off | none => .junk
  | .ept id sz i off => match f id with | some j => .ept j sz i off | none => .junk
  | .own id sz => match f id with | some j => .own j sz | none => .junk
  | .ref id sz off len => match f id with | some j => .ref j sz off len | none => .junk
  | .agg _ => .junk
  | .tup _ => .junk
  | v => v
def ren0 (f : Nat → Option Nat) : V → V
  | .agg cs => .agg (cs.map (ren1 f))
  | v => ren1 f v
def ren (f : Nat → Option Nat) : V → V
  | .tup cs => .tup (cs.map (ren0 f))
  | v => ren0 f v
def renB (f : Nat → Option Nat) : Blk → Blk
  | .var cs => .var (cs.map (ren1 f))
  | b => b

def mkH (bs : List Blk) : Heap := fun id => bs[id]?

def vid1 : V → List Nat
  | .ptr id _ => [id]
  | .ept id _ _ _ => [id]
  | .own id _ => [id]
  | .ref id _ _ _ => [id]
  | _ => []
def vids : V → List Nat
  | .agg cs => cs.flatMap vid1
  | v => vid1 v
def reach (h : Heap) : Nat → List Nat → List Nat → List Nat
  | 0, _, acc => acc
  | _ + 1, [], acc => acc
  | n + 1, id :: r, acc => if acc.contains id then reach h n r acc else match h id with
    | some (.var cs) => reach h n (cs.flatMap vid1 ++ r) (acc ++ [id])
    | _ => reach h n r (acc ++ [id])

def getAll (h : Heap) : List Nat → Option (List Blk)
  | [] => some []
  | i :: r => match h i, getAll h r with
    | some b, some l => some (b :: l)
    | _, _ => none
/-- all of them are not there yet -/
def allNew (h : Heap) : List Nat → Prop
  | [] => True
  | i :: r => h i = none ∧ allNew h r
def back (s : List Nat) (k : Nat) : Option Nat := s[k]?
def fore (s : List Nat) (id : Nat) : Option Nat := s.idxOf? id

/-- what is assumed of the functions that are called: pure ones by data; others by the blocks that they come to -/
structure Env where
  tt : TypeId → Option TInfo
  C : FuncId → List D → V → Prop
  C2 : FuncId → List V → List Blk → V → List Blk → Prop
  md : FuncId → Bool
  m : Nat

def nodupB : List Nat → Bool
  | [] => true
  | a :: r => !r.contains a && nodupB r
def newIds (id : Nat) (n : Nat) : List Nat := (List.range n).map fun k => 1000000 + id * 8 + k

/-- a value of type T, by its cells -/
def shapeV (agg : Bool) (cs : List V) : V :=
  if agg then .agg cs else cs.headD .junk

def fillV (place : Nat → Option (Nat × Nat)) (cells : List V) : List (Nat × V) → Option (List V)
  | [] => some cells
  | (i, v) :: rest => match place i with
    | none => none
    | some (off, size) => match v.cellsO with
      | some l => if l.length = size ∧ off + l.length ≤ cells.length
        then fillV place (cells.take off ++ l ++ cells.drop (off + l.length)) rest else none
      | none => none

def places (tt : TypeId → Option TInfo) : List Field → Option (List (Nat × Nat))
  | [] => some []
  | f :: r => match tt f.type, places tt r with
    | some i, some l => some ((f.offset, i.size) :: l)
    | _, _ => none

/-- the bounds of a slice expression -/
def lowOf : Option V → Option Int
  | none => some 0
  | some (.d (.i _ n)) => some n
  | _ => none
def highOf (len : Nat) : Option V → Option Int
  | none => some (Ω .ci len)
  | some (.d (.i _ n)) => some n
  | _ => none

def partsD (h : Heap) : List (Nat × V) → Option (List (Nat × D))
  | [] => some []
  | (i, v) :: r => match toD Ω h v, partsD h r with
    | some x, some l => some ((i, x) :: l)
    | _, _ => none
/-- the elements of a slice literal whose places are filled one by one -/
def dense (sz : Nat) : Nat → List (Nat × D) → Option (List D)
  | _, [] => some []
  | k, (i, x) :: r => if i = k ∧ x.cells.length = sz then (match dense sz (k + 1) r with | some l => some (x :: l) | none => none) else none

def opR (E : Env) (draw : Bool) (ev : Operand → V) (h : Heap) (o : Op) (id : Nat) (K : Out → Prop) : Prop :=
  match o with
  | .move x | .assign x => K { v := ev x }
  | .pick c a b => match ev c with
    | .d (.b t) => BrG t fun t => K { v := if t then ev a else ev b }
    | _ => False
  | .nilCheck x => match ev x with
    | .ptr j off => K { v := .ptr j off }
    | .ept j sz i off => K { v := .ept j sz i off }
    | .ip x off => K { v := .ip x off }
    | .fn f => K { v := .fn f }
    | _ => False
  | .alloc T => match E.tt T with
    | some { zero := some z, .. } => match (constV z).cellsO with
      | some l => h id = none ∧ K { v := .ptr id 0, upd := [(id, .var l)], rd := [id] }
      | none => False
    | _ => False
  | .box _ x => match (ev x).cellsO with
    | some l => h id = none ∧ K { v := .ptr id 0, upd := [(id, .var l)], rd := [id] }
    | none => False
  | .store T x y => match E.tt T, ev x with
    | some i, .ptr j off => match h j with
      | some (.var cs) => match (ev y).cellsO with
        | some l => l.length = i.size ∧ off + i.size ≤ cs.length ∧
          K { v := .junk, upd := [(j, .var (cs.take off ++ l ++ cs.drop (off + i.size)))], rd := [j] }
        | none => False
      | _ => False
    | some i, .ept j sz k off => match h j with
      | some (.row true e z xs) => match toD Ω h (ev y) with
        | some y' => z = sz ∧ (idsOf (ev y)).contains j = false ∧ Ω .nlt k (Ω .slen xs) ∧ y'.cells.length = i.size ∧ off = 0 ∧ i.size = sz ∧
            K { v := .junk, upd := (j, .row true e z (Ω .sset xs k y')) :: freezeL h (idsOf (ev y)), rd := j :: idsOf (ev y) }
        | none => False
      | _ => False
    | _, _ => False
  | .load T x => match E.tt T, ev x with
    | some i, .ptr j off => match h j with
      | some (.var cs) => off + i.size ≤ cs.length ∧ OneT i.und i.size ∧ K { v := shapeV (isAggT i.und) ((cs.drop off).take i.size), rd := [j] }
      | _ => False
    | some i, .ept j sz k off => match h j with
      | some (.row _ _ z xs) => z = sz ∧ ∃ x, Ω .sget xs k = some x ∧ off + i.size ≤ x.cells.length ∧ OneT i.und i.size ∧ K { v := .d (loadD x off i.size (isAggT i.und)), rd := [j] }
      | _ => False
    | some i, .ip x off => 0 < i.size ∧ off + i.size ≤ x.cells.length ∧ OneT i.und i.size ∧ K { v := .d (loadD x off i.size (isAggT i.und)) }
    | _, _ => False
  | .fieldAddr T x f => match E.tt T with
    | some { und := .struct fs, .. } => match fs[f]? with
      | some g => match E.tt g.type with
        | some i => 0 < i.size ∧ (match ev x with
          | .ptr j off => K { v := .ptr j (off + g.offset) }
          | .ept j sz k off => K { v := .ept j sz k (off + g.offset) }
          | .ip x off => K { v := .ip x (off + g.offset) }
          | _ => False)
        | none => False
      | none => False
    | _ => False
  | .field T x f => match E.tt T with
    | some { und := .struct fs, .. } => match fs[f]? with
      | some g => match E.tt g.type with
        | some i => match ev x with
          | .agg cs => g.offset + i.size ≤ cs.length ∧ OneT i.und i.size ∧ K { v := shapeV (isAggT i.und) ((cs.drop g.offset).take i.size) }
          | .d (.agg cs) => g.offset + i.size ≤ cs.length ∧ OneT i.und i.size ∧ K { v := .d (loadD (.agg cs) g.offset i.size (isAggT i.und)) }
          | _ => False
        | none => False
      | none => False
    | _ => False
  | .index T x y => match E.tt T with
    | some { und := .array n e, .. } => match E.tt e with
      | some i => match ev x, ev y with
        | .agg cs, .d (.i _ k) => 0 ≤ k ∧ k.toNat < n ∧ k.toNat * i.size + i.size ≤ cs.length ∧ OneT i.und i.size ∧ K { v := shapeV (isAggT i.und) ((cs.drop (k.toNat * i.size)).take i.size) }
        | .d (.agg cs), .d (.i _ k) => 0 ≤ k ∧ k.toNat < n ∧ k.toNat * i.size + i.size ≤ cs.length ∧ OneT i.und i.size ∧ K { v := .d (loadD (.agg cs) (k.toNat * i.size) i.size (isAggT i.und)) }
        | _, _ => False
      | none => False
    | some { und := .string, .. } => match ev x, ev y with
      | .d (.s b), .d (.i _ k) => Ω .ile 0 k ∧ ∃ c, b[Ω .tn k]? = some c ∧ K { v := .d (.i .u8 (Ω .ci c.toNat)) }
      | _, _ => False
    | _ => False
  | .indexAddr T x y => match E.tt T with
    | some { und := .array n e, .. } => match E.tt e with
      | some i => match ev x, ev y with
        | .ptr j off, .d (.i _ k) => 0 ≤ k ∧ k.toNat < n ∧ K { v := .ptr j (off + k.toNat * i.size) }
        | .ept j sz l off, .d (.i _ k) => 0 ≤ k ∧ k.toNat < n ∧ K { v := .ept j sz l (off + k.toNat * i.size) }
        | .ip x off, .d (.i _ k) => 0 ≤ k ∧ k.toNat < n ∧ K { v := .ip x (off + k.toNat * i.size) }
        | _, _ => False
      | none => False
    | some { und := .slice e, .. } => match E.tt e with
      | some i => match ev x, ev y with
        | .d (.sl xs), .d (.i _ k) => Ω .ile 0 k ∧ ∃ x, Ω .sget xs (Ω .tn k) = some x ∧ x.cells.length = i.size ∧ K { v := .ip x 0 }
        | .own j sz, .d (.i _ k) => match h j with
          | some (.row _ _ z xs) => z = sz ∧ sz = i.size ∧ Ω .ile 0 k ∧ Ω .ilt k (Ω .ci (Ω .slen xs)) ∧ K { v := .ept j sz (Ω .tn k) 0, rd := [j] }
          | _ => False
        | .ref j sz off len, .d (.i _ k) => sz = i.size ∧ Ω .ile 0 k ∧ Ω .ilt k (Ω .ci len) ∧ K { v := .ept j sz (Ω .nadd off (Ω .tn k)) 0 }
        | _, _ => False
      | none => False
    | _ => False
  | .slice T x lo hi mx => match E.tt T with
    | some { und := .slice e, .. } => match E.tt e with
      | some i => match ev x with
        | .d (.sl xs) => match lowOf (lo.map ev), highOf Ω (Ω .slen xs) (hi.map ev), highOf Ω (Ω .slen xs) (mx.map ev) with
          | some l, some u, some m => Ω .ile 0 l ∧ Ω .ile l u ∧ Ω .ile u m ∧ Ω .ile m (Ω .ci (Ω .slen xs)) ∧ (mx.isSome → hi.isSome) ∧ (∀ x ∈ xs, x.cells.length = i.size) ∧ K { v := .d (.sl (Ω .ssub xs (Ω .tn l) (Ω .nsub (Ω .tn u) (Ω .tn l)))) }
          | _, _, _ => False
        | .own j sz => match h j with
          | some (.row lv e' z xs) => if lo = none ∧ mx.isSome = true
            then (match hi.map ev, mx.map ev with
              | some (.d (.i _ u)), some (.d (.i _ m)) => lv = true ∧ z = sz ∧ sz = i.size ∧ Ω .ile 0 u ∧ Ω .ile u m ∧ Ω .ile m (Ω .ci (Ω .slen xs)) ∧ h id = none ∧
                  K { v := .own id sz, upd := [(id, .row true e' z (Ω .ssub xs 0 (Ω .tn u))), (j, .dead)], rd := [id, j] }
              | _, _ => False)
            else (match lowOf (lo.map ev), highOf Ω (Ω .slen xs) (hi.map ev), highOf Ω (Ω .slen xs) (mx.map ev) with
              | some l, some u, some m => z = sz ∧ sz = i.size ∧ Ω .ile 0 l ∧ Ω .ile l u ∧ Ω .ile u m ∧ Ω .ile m (Ω .ci (Ω .slen xs)) ∧ (mx.isSome → hi.isSome) ∧ K { v := .ref j sz (Ω .tn l) (Ω .nsub (Ω .tn u) (Ω .tn l)), rd := [j] }
              | _, _, _ => False)
          | _ => False
        | .ref j sz off len => match lowOf (lo.map ev), highOf Ω len (hi.map ev), highOf Ω len (mx.map ev) with
          | some l, some u, some m => sz = i.size ∧ Ω .ile 0 l ∧ Ω .ile l u ∧ Ω .ile u m ∧ Ω .ile m (Ω .ci len) ∧ (mx.isSome → hi.isSome) ∧ K { v := .ref j sz (Ω .nadd off (Ω .tn l)) (Ω .nsub (Ω .tn u) (Ω .tn l)) }
          | _, _, _ => False
        | _ => False
      | none => False
    | some { und := .string, .. } => match ev x with
      | .d (.s b) => match lowOf (lo.map ev), highOf Ω b.size (hi.map ev) with
        | some l, some u => mx = none ∧ Ω .ile 0 l ∧ Ω .ile l u ∧ Ω .ile u (Ω .ci b.size) ∧ K { v := .d (.s (b.extract (Ω .tn l) (Ω .tn u))) }
        | _, _ => False
      | _ => False
    | _ => False
  | .build T parts => match E.tt T with
    | some { und := .struct fs, zero := some z, .. } => match places E.tt fs.toList, (constV z).cellsO with
      | some pl, some l => match fillV (fun i => pl[i]?) l (parts.toList.map fun p => (p.1, ev p.2)) with
        | some cs => K { v := .agg cs }
        | none => False
      | _, _ => False
    | some { und := .array _ e, zero := some z, .. } => match E.tt e, (constV z).cellsO with
      | some i, some l => match fillV (fun k => some (k * i.size, i.size)) l (parts.toList.map fun p => (p.1, ev p.2)) with
        | some cs => K { v := .agg cs }
        | none => False
      | _, _ => False
    | _ => False
  | .buildSlice T len parts => match E.tt T with
    | some { und := .slice e, .. } => match E.tt e with
      | some i => match partsD Ω h (parts.toList.map fun p => (p.1, ev p.2)) with
        | some ps => match dense i.size 0 ps with
          | some xs => xs.length = len ∧ len * i.size ≤ 16777216 ∧ 0 < i.size ∧ i.zero.isSome = true ∧
              (if draw then K { v := .d (.sl xs), upd := freezeL h ((parts.toList.map fun p => ev p.2).flatMap idsOf), rd := (parts.toList.map fun p => ev p.2).flatMap idsOf }
               else h id = none ∧ K { v := .own id i.size, upd := (id, .row true e i.size xs) :: freezeL h ((parts.toList.map fun p => ev p.2).flatMap idsOf), rd := id :: (parts.toList.map fun p => ev p.2).flatMap idsOf })
          | none => False
        | none => False
      | none => False
    | _ => False
  | .makeSlice T l c => match E.tt T with
    | some { und := .slice e, .. } => match E.tt e with
      | some { size, bytes, zero := some z, .. } => match ev l, ev c with
        | .d (.i _ n), .d (.i _ m) => match toD Ω h (constV z) with
          | some x => h id = none ∧ Ω .ile 0 n ∧ Ω .ile n m ∧ Ω .ile (Ω .ci bytes * m) 281474976710656 ∧ Ω .ile m 4611686018427387904 ∧ 0 < size ∧ x.cells.length = size ∧
              K { v := .own id size, upd := [(id, .row true e size (Ω .srep (Ω .tn n) x))], rd := [id] }
          | none => False
        | _, _ => False
      | _ => False
    | _ => False
  | .binOp op T x y _ => match ev x, ev y with
    | .d (.sl xs), .nil => draw = false ∧ op = .eql ∧ (match E.tt T with | some { und := .slice _, .. } => True | _ => False) ∧ ∀ t : Bool, (t = true → xs = []) → K { v := .d (.b t) }
    | .d a, .d c => match binD Ω op a c with
      | some r => eqTy E.tt T a ∧ DK r fun r => K { v := .d r }
      | none => match op, a, c with
        | .add, .s a, .s c => a.size + c.size ≤ 9223372036854775807 ∧ K { v := .d (.s (a ++ c)) }
        | .quo, .i k n, .i k' m => k = k' ∧ m ≠ 0 ∧ K { v := .d (.i k (Ω .wrap k (n.tdiv m))) }
        | .rem, .i k n, .i k' m => k = k' ∧ m ≠ 0 ∧ K { v := .d (.i k (Ω .tmod n m)) }
        | .shl, .i k n, .i _ m => Ω .ile 0 m ∧ K { v := .d (.i k (Ω .ishl k n m)) }
        | .shr, .i k n, .i _ m => Ω .ile 0 m ∧ K { v := .d (.i k (Ω .ishr k n m)) }
        | .and, .i k n, .i k' m => k = k' ∧ K { v := .d (.i k (Ω .iand k n m)) }
        | .or, .i k n, .i k' m => k = k' ∧ K { v := .d (.i k (Ω .ior k n m)) }
        | .xor, .i k n, .i k' m => k = k' ∧ K { v := .d (.i k (Ω .ixor k n m)) }
        | _, _, _ => False
    | _, _ => False
  | .unOp op _ x => match op, ev x with
    | .not, .d (.b t) => K { v := .d (.b (!t)) }
    | .neg, .d (.i k n) => K { v := .d (.i k (Ω .wrap k (0 - n))) }
    | .xor, .d (.i k n) => K { v := .d (.i k (Ω .ixor k (if k.signed then -1 else k.max) n)) }
    | _, _ => False
  | .convert S T x => match E.tt S, E.tt T, ev x with
    | some _, some { und := .int k, .. }, .d (.i _ n) => K { v := .d (.i k (Ω .wrap k n)) }
    | some { und := .string, .. }, some { und := .string, .. }, .d (.s b) => K { v := .d (.s b) }
    | _, _, _ => False
  | .extract x k => match ev x with
    | .tup cs => match cs[k]? with
      | some v => K { v }
      | none => False
    | _ => False
  | .makeInterface T x => match E.tt T, ev x with
    | some { und := .int _, .. }, .d (.i k n) => K { v := .d (.ifc T (.i k n)) }
    | _, _ => False
  | .call { callee := .value f, args, .. } => match ev f with
    | .fn g => if E.md g then
        (match getAll h (reach h 40 ((args.toList.map ev).flatMap vids) []) with
        | some bs => ∃ r bs', E.C2 g ((args.toList.map ev).map (ren (fore (reach h 40 ((args.toList.map ev).flatMap vids) [])))) (bs.map (renB (fore (reach h 40 ((args.toList.map ev).flatMap vids) [])))) r bs' ∧
            allNew h (newIds id (bs'.length - bs.length)) ∧ bs.length ≤ bs'.length ∧ nodupB (reach h 40 ((args.toList.map ev).flatMap vids) []) = true ∧
            K { v := ren (back (reach h 40 ((args.toList.map ev).flatMap vids) [] ++ newIds id (bs'.length - bs.length))) r,
                upd := (reach h 40 ((args.toList.map ev).flatMap vids) [] ++ newIds id (bs'.length - bs.length)).zip (bs'.map (renB (back (reach h 40 ((args.toList.map ev).flatMap vids) [] ++ newIds id (bs'.length - bs.length))))),
                rd := reach h 40 ((args.toList.map ev).flatMap vids) [] ++ newIds id (bs'.length - bs.length) }
        | none => False)
      else match toDs Ω h (args.toList.map ev) with
      | some ds => ∃ r, E.C g ds r ∧ K { v := r, upd := freezeL h ((args.toList.map ev).flatMap idsOf), rd := (args.toList.map ev).flatMap idsOf }
      | none => False
    | _ => False
  | .call { callee := .builtin .max, args, .. } => match args.toList.map ev with
    | [.d (.i k n), .d (.i k' m)] => k = k' ∧ K { v := .d (.i k (Ω .imax n m)) }
    | _ => False
  | .call { callee := .builtin .min, args, .. } => match args.toList.map ev with
    | [.d (.i k n), .d (.i k' m)] => k = k' ∧ K { v := .d (.i k (Ω .imin n m)) }
    | _ => False
  | .call { callee := .builtin b, args, argTypes } => match b, args.toList.map ev, argTypes.toList with
    | .len, [x], [T] => match E.tt T, x with
      | some { und := .slice _, .. }, .d (.sl xs) => K { v := .d (.i .i64 (Ω .ci (Ω .slen xs))) }
      | some { und := .slice _, .. }, .nil => K { v := .d (.i .i64 0) }
      | some { und := .slice _, .. }, .own j _ => match h j with
        | some (.row _ _ _ xs) => K { v := .d (.i .i64 (Ω .ci (Ω .slen xs))), rd := [j] }
        | _ => False
      | some { und := .slice _, .. }, .ref _ _ _ len => K { v := .d (.i .i64 (Ω .ci len)) }
      | some { und := .string, .. }, .d (.s b) => K { v := .d (.i .i64 (Ω .ci b.size)) }
      | some { und := .array n _, .. }, _ => K { v := .d (.i .i64 (Ω .ci n)) }
      | _, _ => False
    | .append, [x, y], [T, U] => match E.tt T with
      | some { und := .slice e, .. } => match E.tt e with
        | some { size, bytes, zero := some z, .. } => T = U ∧ (constV z).cells.length = size ∧ 0 < size ∧ (match toD Ω h y with
          | some (.sl ys) => h id = none ∧ (∀ u ∈ ys, u.cells.length = size) ∧ (match x with
            | .nil => (Ω .room (Ω .slen ys) bytes ∧
                K { v := .own id size, upd := (id, .row true e size ys) :: freezeL h (idsOf y), rd := id :: idsOf y })
            | .own j _ => (match h j with
              | some (.row true e' z' xs) => e' = e ∧ z' = size ∧ Ω .room (Ω .slen xs + Ω .slen ys) bytes ∧ (idsOf y).contains j = false ∧
                  K { v := .own id size, upd := (id, .row true e size (Ω .scat xs ys)) :: (j, .dead) :: freezeL h (idsOf y), rd := id :: j :: idsOf y }
              | _ => False)
            | _ => False)
          | _ => False)
        | _ => False
      | _ => False
    | _, _, _ => False
  | _ => False

def put (s : Nat → V) (d : Option Tmp) (v : V) : Nat → V :=
  match d with
  | some t => upd s t v
  | none => s

/-- what an operation of a region looked at, and wrote -/
structure Foot where
  n : Nat
  rd : List Nat
  wr : List Nat

def step (s : St) (d : Option Tmp) (out : Out) : St := ⟨put s.sl d out.v, ups s.h out.upd⟩

def wpl (E : Env) (draw : Bool) (base : Nat) (ops : Array Oper) : List Oper → Nat → List Foot → St → (List Foot → St → Prop) → Prop
  | [], _, log, s, K => K log s
  | o :: r, n, log, s, K => match o.guard with
    | none => opR Ω E draw (ev s.sl) s.h o.op (base + n) fun out => wpl E draw base ops r (n + 1) (⟨n, out.upd.map Prod.fst ++ out.rd, out.upd.map Prod.fst⟩ :: log) (step s o.dst out) K
    | some (j, want) => match (ops[j]?).bind (·.dst) with
      | some t => match s.sl t with
        | .d (.b x) => BrG x fun x => if x = want then opR Ω E draw (ev s.sl) s.h o.op (base + n) fun out => wpl E draw base ops r (n + 1) (⟨n, out.upd.map Prod.fst ++ out.rd, out.upd.map Prod.fst⟩ :: log) (step s o.dst out) K
          else wpl E draw base ops r (n + 1) (⟨n, [], []⟩ :: log) (step s o.dst { v := .tup [] }) K
        | .tup [] => wpl E draw base ops r (n + 1) (⟨n, [], []⟩ :: log) (step s o.dst { v := .tup [] }) K
        | _ => False
      | none => False

inductive X where
  | normal
  | exit (id : Nat)
  | ret
  deriving DecidableEq

/-- the ways by which operation j waits for operation i -/
def anc (ops : List Oper) : List (List Nat) :=
  ops.foldl (fun acc o => acc ++ [(o.after.toList.filter (Region.binds .any)).flatMap fun e => e.on :: acc.getD e.on []]) []

/-- the same as sets of bits -/
def ancM (ops : List Oper) : List Nat :=
  ops.foldl (fun acc o => acc ++ [(o.after.toList.filter (Region.binds .any)).foldl (fun m e => m ||| (1 <<< e.on ||| acc.getD e.on 0)) 0]) []

def meets (a b : List Nat) : Bool := a.any b.contains

/-- of two operations that wait for one another in no way neither writes what the other one looks at -/
def logOk (an : List Nat) (log : List Foot) : Bool :=
  log.all fun x => x.wr.isEmpty || log.all fun y => x.n == y.n || !meets x.wr y.rd || (an.getD y.n 0).testBit x.n || (an.getD x.n 0).testBit y.n

def lookL (ks : List Nat) (vs : List V) (t : Nat) : V :=
  match ks, vs with
  | k :: kr, v :: vr => if t = k then v else lookL kr vr t
  | _, _ => .junk
def lookH (ids : List Nat) (bs : List Blk) (t : Nat) : Option Blk :=
  match ids, bs with
  | k :: kr, v :: vr => if t = k then some v else lookH kr vr t
  | _, _ => none
/-- the state at a loop's head: the slots and the blocks that are kept -/
def stOf (ks : List Nat) (vs : List V) (ids : List Nat) (bs : List Blk) : St := ⟨lookL ks vs, lookH ids bs⟩

/-- a renaming: the old number of each block that is kept; those below 1000 stay -/
def forth (ids olds : List Nat) (id : Nat) : Option Nat :=
  match ids, olds with
  | k :: kr, o :: or => if id = o then some k else forth kr or id
  | _, _ => none
def renOk (m : Nat) (ids olds : List Nat) : Bool :=
  ids.length == olds.length && nodupB olds && nodupB ids && ((ids.zip olds).all fun p => p.1 == p.2 || (1000 ≤ p.1 && 1000 ≤ p.2)) && (List.range m).all fun i => ids.contains i

/-- the state, forgotten down to what is kept, is such a one -/
def kept (m : Nat) (ks ids olds : List Nat) (s : St) (I : List V → List Blk → Prop) : Prop :=
  renOk m ids olds = true ∧ match getAll s.h olds with
    | some bs => I (ks.map fun t => ren (forth ids olds) (s.sl t)) (bs.map (renB (forth ids olds)))
    | none => False

/-- what is to be shown at a loop: an invariant holds, each round keeps it, and something falls -/
structure LoopG (m : Nat) (body : St → (X → St → Prop) → Prop) (s : St) (Q : X → St → Prop) : Prop where
  out : ∃ (σ : Type) (ks : List Nat) (ids : σ → List Nat) (vs : σ → List V) (bs : σ → List Blk) (I : σ → Prop) (μ : σ → Nat),
    (∃ x olds, I x ∧ kept m ks (ids x) olds s fun a b => a = vs x ∧ b = bs x) ∧
      ∀ x, I x → body (stOf ks (vs x) (ids x) (bs x)) fun e s' => match e with
        | .normal => ∃ y olds, I y ∧ μ y < μ x ∧ kept m ks (ids y) olds s' fun a b => a = vs y ∧ b = bs y
        | e => Q e s'

def wp (E : Env) : Code → St → (X → St → Prop) → Prop
  | .skip, s, Q => Q .normal s
  | .region id ops draw, s, Q => wpl Ω E draw (1000 + 100 * id) ops ops.toList 0 [] s fun log s' => (if draw then logOk (ancM ops.toList) log = true else True) ∧ Q .normal s'
  | .seq a b, s, Q => wp E a s fun e s' => match e with
    | .normal => wp E b s' Q
    | e => Q e s'
  | .cond c a b, s, Q => match ev s.sl c with
    | .d (.b t) => BrG t fun t => match t with
      | true => wp E a s Q
      | false => wp E b s Q
    | _ => False
  | .block id b, s, Q => wp E b s fun e s' => match e with
    | .exit j => if j = id then Q .normal s' else Q (.exit j) s'
    | e => Q e s'
  | .exit id, s, Q => Q (.exit id) s
  | .ret, s, Q => Q .ret s
  | .loop b, s, Q => LoopG E.m (fun s' Q' => wp E b s' Q') s Q
  | _, _, _ => False


/-- a result of a function, in its last state -/
def resOne (tt : TypeId → Option TInfo) (s : St) : ResultVar → Option V
  | .tmp t => match s.sl t with
    | .tup _ => none
    | v => some v
  | .cell a T => match tt T, s.sl a with
    | some i, .ptr j off => match s.h j with
      | some (.var cs) => if off + i.size ≤ cs.length ∧ (isAggT i.und = true ∨ i.size = 1) then some (shapeV (isAggT i.und) ((cs.drop off).take i.size)) else none
      | _ => none
    | _, _ => none
def resList (tt : TypeId → Option TInfo) (s : St) : List ResultVar → Option (List V)
  | [] => some []
  | r :: l => match resOne tt s r, resList tt s l with
    | some v, some vs => some (v :: vs)
    | _, _ => none
def resOf (tt : TypeId → Option TInfo) (s : St) (l : List ResultVar) : Option V :=
  match resList tt s l with
  | some [v] => some v
  | some vs => some (.tup vs)
  | none => none
/-- a result as data -/
def finV (h : Heap) : V → Option V
  | .tup cs => match toDs Ω h cs with
    | some ds => some (.tup (ds.map V.d))
    | none => none
  | v => match toD Ω h v with
    | some d => some (.d d)
    | none => none

def argS (args : List V) (t : Nat) : V := args.getD t .junk

/-- what is to be shown of a function that only reckons -/
def wpF (E : Env) (fn : Func) (args : List V) (Q : V → Prop) : Prop :=
  match fn.body with
  | some c => wp Ω E c ⟨argS args, fun _ => none⟩ fun e s => match e with
    | .exit _ => False
    | _ => match resOf E.tt s fn.results.toList with
      | some r => match finV Ω s.h r with
        | some r' => Q r'
        | none => False
      | none => False
  | none => False

/-- what is to be shown of a function that is handed blocks -/
def wpF2 (E : Env) (fn : Func) (args : List V) (bs : List Blk) (Q : V → List Blk → Prop) : Prop :=
  match fn.body with
  | some c => wp Ω E c ⟨argS args, mkH bs⟩ fun e s => match e with
    | .exit _ => False
    | _ => match resOf E.tt s fn.results.toList with
      | some r => ∃ news, nodupB (List.range bs.length ++ news) = true ∧ match getAll s.h (List.range bs.length ++ news) with
        | some bs' => Q (ren (fore (List.range bs.length ++ news)) r) (bs'.map (renB (fore (List.range bs.length ++ news))))
        | none => False
      | none => False
  | none => False

end Go.K
end
section
/-
  K, part 1b: the instance of the words; what each word says. No macro, syntax, notation, axiom, sorry.
-/
namespace Go.K
open Go
theorem w_ci (n : Nat) : Ω .ci n = (n : Int) := rfl
theorem w_wrap (k : IntKind) (n : Int) : Ω .wrap k n = k.wrap n := rfl
theorem w_imax (n m : Int) : Ω .imax n m = if m > n then m else n := rfl
theorem w_imin (n m : Int) : Ω .imin n m = if m < n then m else n := rfl
theorem w_tmod (n m : Int) : Ω .tmod n m = n.tmod m := rfl
theorem w_iand (k : IntKind) (n m : Int) : Ω .iand k n m = k.wrap (BitVec.ofInt k.bits n &&& BitVec.ofInt k.bits m).toNat := rfl
theorem w_ior (k : IntKind) (n m : Int) : Ω .ior k n m = k.wrap (BitVec.ofInt k.bits n ||| BitVec.ofInt k.bits m).toNat := rfl
theorem w_ixor (k : IntKind) (n m : Int) : Ω .ixor k n m = k.wrap (BitVec.ofInt k.bits n ^^^ BitVec.ofInt k.bits m).toNat := rfl
theorem w_ishl (k : IntKind) (n m : Int) : Ω .ishl k n m = k.wrap (n * 2 ^ (min m.toNat k.bits)) := rfl
theorem w_ishr (k : IntKind) (n m : Int) : Ω .ishr k n m = n.fdiv (2 ^ (min m.toNat k.bits)) := rfl
theorem w_lt (n m : Int) : Ω .lt n m = decide (n < m) := rfl
theorem w_le (n m : Int) : Ω .le n m = decide (n ≤ m) := rfl
theorem w_eq (n m : Int) : Ω .eq n m = (n == m) := rfl
theorem w_ne (n m : Int) : Ω .ne n m = (n != m) := rfl
theorem w_ile (n m : Int) : Ω .ile n m = (n ≤ m) := rfl
theorem w_ilt (n m : Int) : Ω .ilt n m = (n < m) := rfl
theorem w_slen (xs : List D) : Ω .slen xs = xs.length := rfl
theorem w_sget (xs : List D) (k : Nat) : Ω .sget xs k = xs[k]? := rfl
theorem w_ssub (xs : List D) (a n : Nat) : Ω .ssub xs a n = (xs.drop a).take n := rfl
theorem w_sset (xs : List D) (k : Nat) (y : D) : Ω .sset xs k y = xs.set k y := rfl
theorem w_srep (n : Nat) (x : D) : Ω .srep n x = List.replicate n x := rfl
theorem w_scat (xs ys : List D) : Ω .scat xs ys = xs ++ ys := rfl
theorem w_tn (n : Int) : Ω .tn n = n.toNat := rfl
theorem w_nadd (a b : Nat) : Ω .nadd a b = a + b := rfl
theorem w_nsub (a b : Nat) : Ω .nsub a b = a - b := rfl
theorem w_nlt (a b : Nat) : Ω .nlt a b = (a < b) := rfl
theorem w_leb (a b : Nat) : Ω .leb a b = decide (a ≤ b) := rfl
theorem w_room (n b : Nat) : Ω .room n b = (n * b ≤ 140737488355328 ∧ n ≤ 1099511627776) := rfl

theorem p_lims (l : List Nat) : Ψ .lims l = l.map fun (x : Nat) => D.i .u32 (x : Int) := rfl
theorem p_cr (q : Rat) : Ψ .cr q = ⟨decide (q.num < 0), Ψ .cn q.num.natAbs, Ψ .cn q.den⟩ := rfl
theorem p_cI (p q : Rat) : Ψ .cI p q = if p < q then (-1 : Int) else if q < p then 1 else 0 := rfl
theorem p_sI (q : Rat) : Ψ .sI q = if q < 0 then (-1 : Int) else if 0 < q then 1 else 0 := rfl
theorem p_cmpI (m n : Nat) : Ψ .cmpI m n = if m < n then (-1 : Int) else if n < m then 1 else 0 := rfl
theorem p_dRs (l : List RL) : Ψ .dRs l = l.map fun r => D.agg (dR Ψ r) := rfl
theorem p_dVs (l : List VL) : Ψ .dVs l = l.map fun r => D.agg (dV Ψ r) := rfl
theorem p_dBs (l : List BL) : Ψ .dBs l = l.map fun b => D.agg (dB Ψ b) := rfl
theorem p_cV (p : V3) : Ψ .cV p = ⟨Ψ .cr p.x, Ψ .cr p.y, Ψ .cr p.z⟩ := rfl
theorem p_cB (p : B3) : Ψ .cB p = ⟨Ψ .cV p.lo, Ψ .cV p.hi⟩ := rfl
theorem p_cM (m : M3) : Ψ .cM m = ⟨Ψ .cr m.s, Ψ .cr m.u, Ψ .cr m.v⟩ := rfl
theorem p_hb (b : Bool) : Ψ .hb b = b := rfl
theorem p_cn (n : Nat) : Ψ .cn n = cn n := rfl
theorem slen_lims (l : List Nat) : Ω .slen (Ψ .lims l) = l.length := by simp [w_slen, p_lims]
theorem slen_dRs (l : List RL) : Ω .slen (Ψ .dRs l) = l.length := by simp [w_slen, p_dRs]
theorem slen_dVs (l : List VL) : Ω .slen (Ψ .dVs l) = l.length := by simp [w_slen, p_dVs]
theorem slen_dBs (l : List BL) : Ω .slen (Ψ .dBs l) = l.length := by simp [w_slen, p_dBs]
theorem tn_ci (n : Nat) : Ω .tn (Ω .ci n) = n := rfl
theorem tn_zero : Ω .tn 0 = 0 := rfl
theorem not_u32 : (if IntKind.u32.signed = true then (-1 : Int) else IntKind.u32.max) = 4294967295 := rfl
theorem lits : Ω .ile 0 0 ∧ Ω .ile 0 1 ∧ Ω .ile 0 2 ∧ Ω .ile 0 3 ∧ Ω .ile 0 7 ∧ Ω .ile 0 8 ∧ Ω .ile 0 16 ∧ Ω .ile 0 24 ∧ Ω .ile 0 31 ∧ Ω .ile 0 32 ∧ Ω .ile 0 63 ∧ Ω .ile 0 64 :=
  ⟨(by show (0 : Int) ≤ _; omega), (by show (0 : Int) ≤ _; omega), (by show (0 : Int) ≤ _; omega), (by show (0 : Int) ≤ _; omega), (by show (0 : Int) ≤ _; omega), (by show (0 : Int) ≤ _; omega), (by show (0 : Int) ≤ _; omega), (by show (0 : Int) ≤ _; omega), (by show (0 : Int) ≤ _; omega), (by show (0 : Int) ≤ _; omega), (by show (0 : Int) ≤ _; omega), (by show (0 : Int) ≤ _; omega)⟩
theorem slen_nil : Ω .slen [] = 0 := rfl
theorem slen_cons (a : D) (l : List D) : Ω .slen (a :: l) = Ω .slen l + 1 := rfl
theorem ile_iff {a b : Int} : Ω .ile a b ↔ a ≤ b := Iff.rfl
theorem ilt_iff {a b : Int} : Ω .ilt a b ↔ a < b := Iff.rfl
theorem nlt_iff {a b : Nat} : Ω .nlt a b ↔ a < b := Iff.rfl
theorem room_iff {a b : Nat} : Ω .room a b ↔ (a * b ≤ 140737488355328 ∧ a ≤ 1099511627776) := Iff.rfl
theorem lt_true {a b : Int} : Ω .lt a b = true ↔ a < b := by rw [w_lt, decide_eq_true_eq]
theorem lt_false {a b : Int} : Ω .lt a b = false ↔ b ≤ a := by rw [w_lt, decide_eq_false_iff_not]; omega
theorem le_true {a b : Int} : Ω .le a b = true ↔ a ≤ b := by rw [w_le, decide_eq_true_eq]
theorem le_false {a b : Int} : Ω .le a b = false ↔ b < a := by rw [w_le, decide_eq_false_iff_not]; omega
theorem eq_true' {a b : Int} : Ω .eq a b = true ↔ a = b := by rw [w_eq, beq_iff_eq]
theorem eq_false' {a b : Int} : Ω .eq a b = false ↔ a ≠ b := by rw [w_eq, beq_eq_false_iff_ne]
theorem ne_true' {a b : Int} : Ω .ne a b = true ↔ a ≠ b := by rw [w_ne, bne_iff_ne]
theorem ne_false' {a b : Int} : Ω .ne a b = false ↔ a = b := by rw [w_ne, bne_eq_false_iff_eq]
/-- what the words of a question say -/
theorem wz : (∀ n : Nat, Ω .ci n = (n : Int)) ∧ (∀ a b : Int, Ω .ile a b ↔ a ≤ b) ∧ (∀ a b : Int, Ω .ilt a b ↔ a < b) ∧ (∀ a b : Nat, Ω .nlt a b ↔ a < b)
    ∧ (∀ a b : Nat, Ω .room a b ↔ (a * b ≤ 140737488355328 ∧ a ≤ 1099511627776))
    ∧ (∀ a b : Int, Ω .lt a b = true ↔ a < b) ∧ (∀ a b : Int, Ω .lt a b = false ↔ b ≤ a) ∧ (∀ a b : Int, Ω .le a b = true ↔ a ≤ b) ∧ (∀ a b : Int, Ω .le a b = false ↔ b < a)
    ∧ (∀ a b : Int, Ω .eq a b = true ↔ a = b) ∧ (∀ a b : Int, Ω .eq a b = false ↔ a ≠ b) ∧ (∀ a b : Int, Ω .ne a b = true ↔ a ≠ b) ∧ (∀ a b : Int, Ω .ne a b = false ↔ a = b)
    ∧ (∀ n : Int, Ω .tn n = n.toNat) ∧ (∀ n : Nat, ((n : Int)).toNat = n)
    ∧ (∀ l : List Nat, Ω .slen (Ψ .lims l) = l.length) ∧ (∀ l : List RL, Ω .slen (Ψ .dRs l) = l.length) ∧ (∀ l : List VL, Ω .slen (Ψ .dVs l) = l.length) ∧ (∀ l : List BL, Ω .slen (Ψ .dBs l) = l.length)
    ∧ (Ω .slen [] = 0) ∧ (∀ (a : D) (l : List D), Ω .slen (a :: l) = Ω .slen l + 1) ∧ (∀ a b : Nat, Ω .nadd a b = a + b) ∧ (∀ a b : Nat, Ω .nsub a b = a - b) :=
  ⟨w_ci, fun _ _ => Iff.rfl, fun _ _ => Iff.rfl, fun _ _ => Iff.rfl, fun _ _ => Iff.rfl, fun _ _ => lt_true, fun _ _ => lt_false, fun _ _ => le_true, fun _ _ => le_false, fun _ _ => eq_true', fun _ _ => eq_false', fun _ _ => ne_true', fun _ _ => ne_false',
    w_tn, fun _ => rfl, slen_lims, slen_dRs, slen_dVs, slen_dBs, slen_nil, slen_cons, w_nadd, w_nsub⟩
theorem BrG.split {t : Bool} {A B : Unit → Prop} (h1 : t = true → A ()) (h2 : t = false → B ()) : (cond t A B) () := by
  cases t
  · exact h2 rfl
  · exact h1 rfl
theorem BrG.yes {t : Bool} {A B : Unit → Prop} (ht : t = true) (h : A ()) : (cond t A B) () := by subst ht; exact h
theorem BrG.no {t : Bool} {A B : Unit → Prop} (ht : t = false) (h : B ()) : (cond t A B) () := by subst ht; exact h
/-- a small count, written out -/
def il : Nat → Int
  | 0 => 0
  | 1 => 1
  | 2 => 2
  | 3 => 3
  | 4 => 4
  | n => Ω .ci n
theorem BrG_eq (t : Bool) (K : Bool → Prop) : BrG t K = K t := by cases t <;> rfl
theorem DK_eq (r : D) (K : D → Prop) : DK r K = K r := by
  cases r with
  | b t => exact BrG_eq t fun t => K (.b t)
  | _ => rfl
theorem OneT.one {u : TypeDesc} {n : Nat} (h : OneT u n) : isAggT u = false → n = 1 := fun q => by
  unfold OneT at h
  rw [q, Bool.false_or] at h
  exact Nat.eq_of_beq_eq_true h
end Go.K
end
section
/-
  K, part 2: what the abstract values say of the machine's. No macro, syntax, notation, axiom, sorry.
-/
namespace Go.K

inductive RepC (imm : Nat → Prop) (w : World) : D → Value → Prop where
  | b (x : Bool) : RepC imm w (.b x) (.bool x)
  | i (k : IntKind) (n : Int) : RepC imm w (.i k n) (.int k n)
  | s (x : ByteArray) : RepC imm w (.s x) (.string x)
  | np : RepC imm w .np (.pointer none)
  | nif : RepC imm w .nif .nilIface
  | ifc (t : TypeId) (x : D) (v : Value) : RepC imm w x v → RepC imm w (.ifc t x) (.iface t v)
  | sl0 (base : Option Addr) (cap : Nat) : RepC imm w (.sl []) (.slice base 0 cap)
  | sl (xs : List D) (g off cap sz : Nat) (cs : Array Value) (T : TypeId) (fr : Nat × Nat) : xs ≠ [] → imm g → w.heap[g]? = some (.cells cs T fr) → xs.length ≤ cap →
      (∀ x, x ∈ xs → x.cells.length = sz) → (∀ i j, i < xs.length → j < sz → off + (i * sz + j) < cs.size) →
      (∀ i j, i < xs.length → j < sz → RepC imm w ((xs.getD i .np).cells.getD j .np) (cs.getD (off + (i * sz + j)) undef)) →
      RepC imm w (.sl xs) (.slice (some ⟨g, off, none⟩) xs.length cap)

def RepD (imm : Nat → Prop) (w : World) (x : D) (v : Value) : Prop :=
  match x with
  | .agg cs => ∃ vs : Array Value, v = .agg vs ∧ vs.size = cs.length ∧ ∀ j, j < cs.length → RepC imm w (cs.getD j .np) (vs.getD j undef)
  | x => RepC imm w x v

def RepV1 (ι : Nat → Option Value) (imm : Nat → Prop) (w : World) (x : V) (v : Value) : Prop :=
  match x with
  | .d x => RepC imm w x v
  | .ptr id off => ∃ g, ι id = some (.pointer (some ⟨g, 0, none⟩)) ∧ v = .pointer (some ⟨g, off, none⟩)
  | .ept id sz i off => ∃ g n cap, ι id = some (.slice (some ⟨g, 0, none⟩) n cap) ∧ v = .pointer (some ⟨g, i * sz + off, none⟩)
  | .ip x off => ∃ g o cs T fr, imm g ∧ w.heap[g]? = some (.cells cs T fr) ∧ v = .pointer (some ⟨g, o + off, none⟩) ∧
      ∀ j, j < x.cells.length → o + j < cs.size ∧ RepC imm w (x.cells.getD j .np) (cs.getD (o + j) undef)
  | .own id _ => ι id = some v ∧ (v = .slice none 0 0 ∨ ∃ g n cap, v = .slice (some ⟨g, 0, none⟩) n cap)
  | .ref id sz off len => (∃ g n cap c, ι id = some (.slice (some ⟨g, 0, none⟩) n cap) ∧ v = .slice (some ⟨g, off * sz, none⟩) len c ∧ len ≤ c ∧ off + c ≤ cap) ∨
      ((∃ u, ι id = some u) ∧ len = 0 ∧ ∃ base, v = .slice base 0 0)
  | .nil => v = .slice none 0 0
  | .fn f => v = .func (.func f) #[] #[]
  | .junk => True
  | .agg _ => False
  | .tup _ => False

def RepV0 (ι : Nat → Option Value) (imm : Nat → Prop) (w : World) (x : V) (v : Value) : Prop :=
  match x with
  | .agg cs => ∃ vs : Array Value, v = .agg vs ∧ vs.size = cs.length ∧ ∀ j, j < cs.length → RepV1 ι imm w (cs.getD j .junk) (vs.getD j undef) ∧ (vs.getD j undef).oneCell' = true
  | .d x => RepD imm w x v
  | x => RepV1 ι imm w x v

def RepV (ι : Nat → Option Value) (imm : Nat → Prop) (w : World) (x : V) (v : Value) : Prop :=
  match x with
  | .tup cs => ∃ vs : Array Value, v = .tuple vs ∧ vs.size = cs.length ∧ ∀ j, j < cs.length → RepV0 ι imm w (cs.getD j .junk) (vs.getD j undef)
  | x => RepV0 ι imm w x v

def headed (v : Value) : Prop := v = .slice none 0 0 ∨ ∃ g n cap, v = .slice (some ⟨g, 0, none⟩) n cap

/-- a row that the function owns: its value may reach no farther than its capacity, which the block at least has -/
def rowOwn (w : World) (base : Nat) (e : TypeId) (size : Nat) (v : Value) (n : Nat) (xs : List Value) : Prop :=
  xs.length = n * size ∧
  ((v = .slice none 0 0 ∧ n = 0) ∨
   ∃ g cap cur, v = .slice (some ⟨g, 0, none⟩) n cap ∧ base ≤ g ∧ w.heap[g]? = some (.cells cur e (0, 0)) ∧ n ≤ cap ∧ cap ≤ maxLen ∧ cap * size ≤ cur.size ∧ cur.toList.take (n * size) = xs)
theorem rowOwn_nil (w : World) (base : Nat) (e : TypeId) (size : Nat) : rowOwn w base e size (.slice none 0 0) 0 [] := ⟨by simp, .inl ⟨rfl, rfl⟩⟩

def BlkRep (ι : Nat → Option Value) (imm : Nat → Prop) (w : World) (B : Blk) (v : Value) : Prop :=
  match B with
  | .row true e sz xs => ∃ cells, rowOwn w 0 e sz v xs.length cells ∧ (∀ x, x ∈ xs → x.cells.length = sz) ∧
      ∀ i j, i < xs.length → j < sz → RepC imm w ((xs.getD i .np).cells.getD j .np) (cells.getD (i * sz + j) undef)
  | .row false _ sz xs => RepC imm w (.sl xs) v ∧ (∀ x, x ∈ xs → x.cells.length = sz) ∧ headed v
  | .var cs => ∃ g vs T, v = .pointer (some ⟨g, 0, none⟩) ∧ w.heap[g]? = some (.cells vs T (0, 0)) ∧ vs.size = cs.length ∧
      ∀ j, j < cs.length → RepV1 ι imm w (cs.getD j .junk) (vs.getD j undef) ∧ (vs.getD j undef).oneCell' = true
  | .dead => True

def live : Blk → Bool
  | .row l _ _ _ => l
  | .var _ => true
  | .dead => false
def blockOf : Value → Option Nat
  | .pointer (some a) => some a.block
  | .slice (some a) _ _ => some a.block
  | _ => none

def Owned (ι : Nat → Option Value) (h : Heap) (g : Nat) : Prop := ∃ id B v, h id = some B ∧ live B = true ∧ ι id = some v ∧ blockOf v = some g

structure Inv (ι : Nat → Option Value) (imm : Nat → Prop) (h : Heap) (w : World) : Prop where
  blk : ∀ id B, h id = some B → ∃ v, ι id = some v ∧ BlkRep ι imm w B v
  non : ∀ id, h id = none → ι id = none
  own : ∀ g, Owned ι h g → ¬ imm g
  inj : ∀ id1 id2 B1 B2 v1 v2 g, h id1 = some B1 → h id2 = some B2 → live B1 = true → live B2 = true → ι id1 = some v1 → ι id2 = some v2 →
    blockOf v1 = some g → blockOf v2 = some g → id1 = id2
  lt : ∀ g, imm g → g < w.heap.size

structure Evo (ι : Nat → Option Value) (imm : Nat → Prop) (h : Heap) (w : World) (ι' : Nat → Option Value) (imm' : Nat → Prop) (h' : Heap) (w' : World) : Prop where
  ids : ∀ id v, ι id = some v → ι' id = some v
  immS : ∀ g, imm g → imm' g
  immR : ∀ g, imm' g → imm g ∨ w.heap.size ≤ g ∨ Owned ι h g
  own' : ∀ g, Owned ι' h' g → Owned ι h g ∨ w.heap.size ≤ g
  keep : ∀ g, g < w.heap.size → ¬ Owned ι h g → w'.heap[g]? = w.heap[g]?
  size : w.heap.size ≤ w'.heap.size
  os : w'.os = w.os
  tape : w'.tape = w.tape
  output : w'.output = w.output

theorem Evo.refl (ι : Nat → Option Value) (imm : Nat → Prop) (h : Heap) (w : World) : Evo ι imm h w ι imm h w :=
  ⟨fun _ _ e => e, fun _ e => e, fun _ e => .inl e, fun _ e => .inl e, fun _ _ _ => rfl, Nat.le_refl _, rfl, rfl, rfl⟩

theorem Evo.trans {ι1 ι2 ι3 : Nat → Option Value} {m1 m2 m3 : Nat → Prop} {h1 h2 h3 : Heap} {w1 w2 w3 : World}
    (a : Evo ι1 m1 h1 w1 ι2 m2 h2 w2) (b : Evo ι2 m2 h2 w2 ι3 m3 h3 w3) : Evo ι1 m1 h1 w1 ι3 m3 h3 w3 where
  ids := fun id v e => b.ids id v (a.ids id v e)
  immS := fun g e => b.immS g (a.immS g e)
  immR := fun g e => by
    rcases b.immR g e with e | e | e
    · exact a.immR g e
    · exact .inr (.inl (Nat.le_trans a.size e))
    · rcases a.own' g e with e | e
      · exact .inr (.inr e)
      · exact .inr (.inl e)
  own' := fun g e => by
    rcases b.own' g e with e | e
    · exact a.own' g e
    · exact .inr (Nat.le_trans a.size e)
  keep := fun g hg hn => by
    rw [b.keep g (Nat.lt_of_lt_of_le hg a.size) (fun o => by
      rcases a.own' g o with o | o
      · exact hn o
      · omega)]
    exact a.keep g hg hn
  size := Nat.le_trans a.size b.size
  os := b.os.trans a.os
  tape := b.tape.trans a.tape
  output := b.output.trans a.output

theorem RepC.mono {imm imm' : Nat → Prop} {w w' : World} (hm : ∀ g, imm g → imm' g ∧ w'.heap[g]? = w.heap[g]?) {x : D} {v : Value} (h : RepC imm w x v) : RepC imm' w' x v := by
  induction h with
  | b x => exact .b x
  | i k n => exact .i k n
  | s x => exact .s x
  | np => exact .np
  | nif => exact .nif
  | ifc t x v _ ih => exact .ifc t x v ih
  | sl0 base cap => exact .sl0 base cap
  | sl xs g off cap sz cs T fr hne hi hg hc hs hb _ ih => exact .sl xs g off cap sz cs T fr hne (hm g hi).1 ((hm g hi).2.trans hg) hc hs hb ih

theorem RepD.mono {imm imm' : Nat → Prop} {w w' : World} (hm : ∀ g, imm g → imm' g ∧ w'.heap[g]? = w.heap[g]?) {x : D} {v : Value} (h : RepD imm w x v) : RepD imm' w' x v := by
  cases x <;> first
    | exact RepC.mono hm h
    | (obtain ⟨vs, hv, hs, hc⟩ := h; exact ⟨vs, hv, hs, fun j hj => (hc j hj).mono hm⟩)

theorem RepV1.mono {ι ι' : Nat → Option Value} {imm imm' : Nat → Prop} {w w' : World} (hi : ∀ id v, ι id = some v → ι' id = some v) (hm : ∀ g, imm g → imm' g ∧ w'.heap[g]? = w.heap[g]?)
    {x : V} {v : Value} (h : RepV1 ι imm w x v) : RepV1 ι' imm' w' x v := by
  cases x with
  | d x => exact RepC.mono hm h
  | agg cs => exact h
  | tup cs => exact h
  | ptr id off => obtain ⟨g, h1, h2⟩ := h; exact ⟨g, hi _ _ h1, h2⟩
  | ept id sz i off => obtain ⟨g, n, cap, h1, h2⟩ := h; exact ⟨g, n, cap, hi _ _ h1, h2⟩
  | ip x off => obtain ⟨g, o, cs, T, fr, h1, h2, h3, h4⟩ := h; exact ⟨g, o, cs, T, fr, (hm g h1).1, (hm g h1).2.trans h2, h3, fun j hj => ⟨(h4 j hj).1, (h4 j hj).2.mono hm⟩⟩
  | own id sz => exact ⟨hi _ _ h.1, h.2⟩
  | ref id sz off len =>
    rcases h with ⟨g, n, cap, c, h1, h2, h3, h4⟩ | ⟨h1, h2, h3⟩
    · exact .inl ⟨g, n, cap, c, hi _ _ h1, h2, h3, h4⟩
    · obtain ⟨u, h1⟩ := h1; exact .inr ⟨⟨u, hi _ _ h1⟩, h2, h3⟩
  | nil => exact h
  | fn f => exact h
  | junk => trivial

theorem RepV0.mono {ι ι' : Nat → Option Value} {imm imm' : Nat → Prop} {w w' : World} (hi : ∀ id v, ι id = some v → ι' id = some v) (hm : ∀ g, imm g → imm' g ∧ w'.heap[g]? = w.heap[g]?)
    {x : V} {v : Value} (h : RepV0 ι imm w x v) : RepV0 ι' imm' w' x v := by
  cases x with
  | d x => exact RepD.mono hm h
  | agg cs => obtain ⟨vs, hv, hs, hc⟩ := h; exact ⟨vs, hv, hs, fun j hj => ⟨(hc j hj).1.mono hi hm, (hc j hj).2⟩⟩
  | tup cs => exact h
  | ptr a b => exact RepV1.mono (x := .ptr a b) hi hm h
  | ept a b c d => exact RepV1.mono (x := .ept a b c d) hi hm h
  | ip a b => exact RepV1.mono (x := .ip a b) hi hm h
  | own a b => exact RepV1.mono (x := .own a b) hi hm h
  | ref a b c d => exact RepV1.mono (x := .ref a b c d) hi hm h
  | nil => exact h
  | fn f => exact h
  | junk => trivial

theorem RepV.mono {ι ι' : Nat → Option Value} {imm imm' : Nat → Prop} {w w' : World} (hi : ∀ id v, ι id = some v → ι' id = some v) (hm : ∀ g, imm g → imm' g ∧ w'.heap[g]? = w.heap[g]?)
    {x : V} {v : Value} (h : RepV ι imm w x v) : RepV ι' imm' w' x v := by
  cases x with
  | tup cs => obtain ⟨vs, hv, hs, hc⟩ := h; exact ⟨vs, hv, hs, fun j hj => (hc j hj).mono hi hm⟩
  | d x => exact RepV0.mono (x := .d x) hi hm h
  | agg cs => exact RepV0.mono (x := .agg cs) hi hm h
  | ptr a b => exact RepV0.mono (x := .ptr a b) hi hm h
  | ept a b c d => exact RepV0.mono (x := .ept a b c d) hi hm h
  | ip a b => exact RepV0.mono (x := .ip a b) hi hm h
  | own a b => exact RepV0.mono (x := .own a b) hi hm h
  | ref a b c d => exact RepV0.mono (x := .ref a b c d) hi hm h
  | nil => exact h
  | fn f => exact h
  | junk => trivial

theorem Evo.immKeep {ι ι' : Nat → Option Value} {imm imm' : Nat → Prop} {h h' : Heap} {w w' : World} (I : Inv ι imm h w) (e : Evo ι imm h w ι' imm' h' w') :
    ∀ g, imm g → imm' g ∧ w'.heap[g]? = w.heap[g]? := fun g hg =>
  ⟨e.immS g hg, e.keep g (I.lt g hg) fun o => I.own g o hg⟩

theorem RepV.evo {ι ι' : Nat → Option Value} {imm imm' : Nat → Prop} {h h' : Heap} {w w' : World} (I : Inv ι imm h w) (e : Evo ι imm h w ι' imm' h' w')
    {x : V} {v : Value} (r : RepV ι imm w x v) : RepV ι' imm' w' x v := r.mono e.ids (e.immKeep I)

theorem RepC.one {imm : Nat → Prop} {w : World} {x : D} {v : Value} (h : RepC imm w x v) : v.oneCell' = true := by cases h <;> rfl

/-- the cells of a value that is represented -/
theorem cells_rep {ι : Nat → Option Value} {imm : Nat → Prop} {w : World} {x : V} {v : Value} {l : List V} (h : RepV ι imm w x v) (hl : x.cellsO = some l) :
    v.cells.size = l.length ∧ ∀ j, j < l.length → RepV1 ι imm w (l.getD j .junk) (v.cells.getD j undef) ∧ (v.cells.getD j undef).oneCell' = true := by
  have one : ∀ (y : V), RepV1 ι imm w y v → v.oneCell' = true → y.cells = [y] → v.cells.size = y.cells.length ∧ ∀ j, j < y.cells.length → RepV1 ι imm w (y.cells.getD j .junk) (v.cells.getD j undef) ∧ (v.cells.getD j undef).oneCell' = true := by
    intro y hy h1 hc
    have hv : v.cells = #[v] := by cases v <;> first | rfl | simp [Value.oneCell'] at h1
    rw [hc, hv]
    refine ⟨rfl, fun j hj => ?_⟩
    have : j = 0 := by simp at hj; omega
    subst this
    exact ⟨hy, h1⟩
  cases x with
  | junk => cases hl
  | tup cs => cases hl
  | agg cs =>
    cases hl
    obtain ⟨vs, rfl, hs, hc⟩ := h
    exact ⟨hs, hc⟩
  | d x =>
    cases hl
    cases x with
    | agg cs =>
      obtain ⟨vs, rfl, hs, hc⟩ := h
      refine ⟨by simpa [V.cells, D.cells, Value.cells] using hs, fun j hj => ?_⟩
      have hj' : j < cs.length := by simpa [V.cells, D.cells] using hj
      have := hc j hj'
      refine ⟨?_, this.one⟩
      have e : (V.cells (.d (.agg cs))).getD j .junk = .d (cs.getD j .np) := by simp [V.cells, D.cells, List.getD, hj']
      rw [e]; exact this
    | b x => exact one (.d (.b x)) h (RepC.one h) rfl
    | i k n => exact one (.d (.i k n)) h (RepC.one h) rfl
    | s x => exact one (.d (.s x)) h (RepC.one h) rfl
    | np => exact one (.d .np) h (RepC.one h) rfl
    | nif => exact one (.d .nif) h (RepC.one h) rfl
    | ifc t x => exact one (.d (.ifc t x)) h (RepC.one h) rfl
    | sl xs => exact one (.d (.sl xs)) h (RepC.one h) rfl
  | ptr id off => cases hl; obtain ⟨g, h1, rfl⟩ := h; exact one (.ptr id off) ⟨g, h1, rfl⟩ rfl rfl
  | ept id sz i off => cases hl; obtain ⟨g, n, cap, h1, rfl⟩ := h; exact one (.ept id sz i off) ⟨g, n, cap, h1, rfl⟩ rfl rfl
  | ip x off => cases hl; have h' := h; obtain ⟨g, o, cs, T, fr, h1, h2, rfl, h4⟩ := h; exact one (.ip x off) h' rfl rfl
  | own id sz =>
    cases hl
    have h' := h
    obtain ⟨h1, rfl | ⟨g, n, cap, rfl⟩⟩ := h
    · exact one (.own id sz) h' rfl rfl
    · exact one (.own id sz) h' rfl rfl
  | ref id sz off len =>
    cases hl
    have h' := h
    rcases h with ⟨g, n, cap, c, h1, rfl, h3⟩ | ⟨h1, h2, base, rfl⟩
    · exact one (.ref id sz off len) h' rfl rfl
    · exact one (.ref id sz off len) h' rfl rfl
  | nil => cases hl; obtain rfl : v = _ := h; exact one .nil rfl rfl rfl
  | fn f => cases hl; obtain rfl : v = _ := h; exact one (.fn f) rfl rfl rfl

/-- cells that are represented make a value -/
theorem shape_rep {ι : Nat → Option Value} {imm : Nat → Prop} {w : World} {l : List V} {vs : Array Value} (hs : vs.size = l.length)
    (h : ∀ j, j < l.length → RepV1 ι imm w (l.getD j .junk) (vs.getD j undef) ∧ (vs.getD j undef).oneCell' = true) : RepV ι imm w (.agg l) (.agg vs) :=
  ⟨vs, rfl, hs, h⟩

theorem V0_of_V1 {ι : Nat → Option Value} {imm : Nat → Prop} {w : World} {x : V} {v : Value} (h : RepV1 ι imm w x v) : RepV ι imm w x v := by
  cases x with
  | agg cs => exact h.elim
  | tup cs => exact h.elim
  | d x => cases x with
    | agg cs => cases h
    | b x => exact h
    | i k n => exact h
    | s x => exact h
    | np => exact h
    | nif => exact h
    | ifc t x => exact h
    | sl xs => exact h
  | ptr a b => exact h
  | ept a b c d => exact h
  | ip a b => exact h
  | own a b => exact h
  | ref a b c d => exact h
  | nil => exact h
  | fn f => exact h
  | junk => exact h

theorem const1_rep (ι : Nat → Option Value) (imm : Nat → Prop) (w : World) (z : Value) : RepV1 ι imm w (const1 z) z := by
  cases z with
  | bool x => exact .b x
  | int k n => exact .i k n
  | string s => exact .s s
  | pointer a => cases a with
    | none => exact .np
    | some a => trivial
  | slice a n c => cases a with
    | some a => trivial
    | none => cases n with
      | succ n => trivial
      | zero => cases c with
        | succ n => trivial
        | zero => exact rfl
  | nilIface => exact .nif
  | _ => trivial

theorem constV_rep (ι : Nat → Option Value) (imm : Nat → Prop) (w : World) (z : Value) : RepV ι imm w (constV z) z := by
  by_cases hz : ∃ cs, z = .agg cs
  · obtain ⟨cs, rfl⟩ := hz
    by_cases h : cs.toList.all Value.oneCell' = true
    · rw [show constV (.agg cs) = .agg (cs.toList.map const1) from if_pos h]
      refine ⟨cs, rfl, by simp, fun j hj => ?_⟩
      have hj' : j < cs.size := by simpa using hj
      have e : (cs.toList.map const1).getD j .junk = const1 (cs.getD j undef) := by simp [List.getD, hj', Array.getD]
      rw [e]
      refine ⟨const1_rep _ _ _ _, ?_⟩
      rw [List.all_eq_true] at h
      have : cs.getD j undef = cs[j] := by simp [Array.getD, hj']
      rw [this]
      exact h _ (by simp)
    · rw [show constV (.agg cs) = .junk from if_neg h]
      trivial
  · have e : constV z = const1 z := by cases z <;> first | rfl | exact absurd ⟨_, rfl⟩ hz
    rw [e]
    exact V0_of_V1 (const1_rep ι imm w z)

/-! ### the table of types is the program's -/
structure TOk (P : Program) (T : TypeId) (i : TInfo) : Prop where
  ok : ∃ info, P.info? T = some info ∧ info.size = i.size ∧ info.bytes = i.bytes ∧ info.zero = i.zero
  und : P.underlying T = some i.und
  zero : ∀ z, i.zero = some z → z.cells.size = i.size ∧ z.cells.toList.all Value.oneCell' = true

def TTok (P : Program) (tt : TypeId → Option TInfo) : Prop := ∀ T i, tt T = some i → TOk P T i

end Go.K
end
section
/-
  K, part 3: how the abstract heap's relation to the machine's is kept. No macro, syntax, notation, axiom, sorry.
-/
namespace Go.K
open Go

theorem live_ne_dead {B : Blk} (h : live B = true) : B ≠ .dead := by intro e; subst e; cases h

/-- the block of a live one is in the heap -/
theorem BlkRep.lt {ι : Nat → Option Value} {imm : Nat → Prop} {w : World} {B : Blk} {v : Value} {g : Nat} (h : BlkRep ι imm w B v) (hl : live B = true) (hg : blockOf v = some g) :
    g < w.heap.size := by
  cases B with
  | dead => cases hl
  | var cs =>
    obtain ⟨g', vs, T, rfl, h2, _⟩ := h
    cases hg
    exact (Array.getElem?_eq_some_iff.1 h2).1
  | row l e sz xs =>
    cases l with
    | false => cases hl
    | true =>
      obtain ⟨cells, ho, _⟩ := h
      rcases ho.2 with ⟨rfl, _⟩ | ⟨g', cap, cur, rfl, _, h2, _⟩
      · cases hg
      · cases hg
        exact (Array.getElem?_eq_some_iff.1 h2).1

theorem BlkRep.mono {ι ι' : Nat → Option Value} {imm imm' : Nat → Prop} {w w' : World} {B : Blk} {v : Value} (hi : ∀ id v, ι id = some v → ι' id = some v)
    (hm : ∀ g, imm g → imm' g ∧ w'.heap[g]? = w.heap[g]?) (hb : ∀ g, live B = true → blockOf v = some g → w'.heap[g]? = w.heap[g]?)
    (h : BlkRep ι imm w B v) : BlkRep ι' imm' w' B v := by
  cases B with
  | dead => trivial
  | var cs =>
    obtain ⟨g', vs, T, rfl, h2, h3, h4⟩ := h
    exact ⟨g', vs, T, rfl, (hb g' rfl rfl).trans h2, h3, fun j hj => ⟨(h4 j hj).1.mono hi hm, (h4 j hj).2⟩⟩
  | row l e sz xs =>
    cases l with
    | false => exact ⟨h.1.mono hm, h.2.1, h.2.2⟩
    | true =>
      obtain ⟨cells, ho, h2, h3⟩ := h
      refine ⟨cells, ⟨ho.1, ?_⟩, h2, fun i j a b => (h3 i j a b).mono hm⟩
      rcases ho.2 with hn | ⟨g', cap, cur, rfl, a, h4, h5⟩
      · exact .inl hn
      · exact .inr ⟨g', cap, cur, rfl, a, (hb g' rfl rfl).trans h4, h5⟩

theorem Inv.owned_lt {ι : Nat → Option Value} {imm : Nat → Prop} {h : Heap} {w : World} (I : Inv ι imm h w) {g : Nat} (o : Owned ι h g) : g < w.heap.size := by
  obtain ⟨id, B, v, h1, h2, h3, h4⟩ := o
  obtain ⟨v', h5, h6⟩ := I.blk id B h1
  rw [h3] at h5; cases h5
  exact h6.lt h2 h4

theorem upd_same {α : Type} (s : Nat → α) (t : Nat) (v : α) : upd s t v t = v := by simp [upd]
theorem upd_other {α : Type} (s : Nat → α) (t x : Nat) (v : α) (h : x ≠ t) : upd s t v x = s x := by simp [upd, h]

/-- a block is laid anew -/
theorem Inv.fresh {ι : Nat → Option Value} {imm : Nat → Prop} {h : Heap} {w w' : World} (I : Inv ι imm h w) {id : Nat} (hid : h id = none) (v : Value) (B : Blk)
    (hsize : w.heap.size ≤ w'.heap.size) (hkeep : ∀ g, g < w.heap.size → w'.heap[g]? = w.heap[g]?) (hos : w'.os = w.os) (ht : w'.tape = w.tape) (ho : w'.output = w.output)
    (hv : ∀ g, blockOf v = some g → w.heap.size ≤ g)
    (hB : BlkRep (upd ι id (some v)) imm w' B v) :
    Inv (upd ι id (some v)) imm (upd h id (some B)) w' ∧ Evo ι imm h w (upd ι id (some v)) imm (upd h id (some B)) w' := by
  have hι : ι id = none := I.non id hid
  have hi : ∀ j v', ι j = some v' → upd ι id (some v) j = some v' := fun j v' e => by
    by_cases c : j = id
    · subst c; rw [hι] at e; cases e
    · rw [upd_other _ _ _ _ c]; exact e
  have hm : ∀ g, imm g → imm g ∧ w'.heap[g]? = w.heap[g]? := fun g e => ⟨e, hkeep g (I.lt g e)⟩
  have own : ∀ g, Owned (upd ι id (some v)) (upd h id (some B)) g → Owned ι h g ∨ w.heap.size ≤ g := by
    rintro g ⟨j, B', v', h1, h2, h3, h4⟩
    by_cases c : j = id
    · subst c
      rw [upd_same] at h3; cases h3
      exact .inr (hv g h4)
    · rw [upd_other _ _ _ _ c] at h1 h3
      exact .inl ⟨j, B', v', h1, h2, h3, h4⟩
  refine ⟨⟨?_, ?_, ?_, ?_, fun g e => Nat.lt_of_lt_of_le (I.lt g e) hsize⟩, ⟨hi, fun _ e => e, fun _ e => .inl e, own, fun g hg _ => hkeep g hg, hsize, hos, ht, ho⟩⟩
  · intro j B' hj
    by_cases c : j = id
    · subst c
      rw [upd_same] at hj; cases hj
      exact ⟨v, upd_same _ _ _, hB⟩
    · rw [upd_other _ _ _ _ c] at hj
      obtain ⟨v', h1, h2⟩ := I.blk j B' hj
      exact ⟨v', hi j v' h1, h2.mono hi hm fun g a b => hkeep g (h2.lt a b)⟩
  · intro j hj
    by_cases c : j = id
    · subst c; rw [upd_same] at hj; cases hj
    · rw [upd_other _ _ _ _ c] at hj ⊢
      exact I.non j hj
  · intro g o e
    rcases own g o with o | o
    · exact I.own g o e
    · have := I.lt g e; omega
  · intro a b A' B' x y g h1 h2 h3 h4 h5 h6 h7 h8
    by_cases ca : a = id
    · subst ca
      by_cases cb : b = a
      · exact cb.symm
      · rw [upd_other _ _ _ _ cb] at h2 h6
        rw [upd_same] at h5; cases h5
        have l1 := hv g h7
        have l2 := I.owned_lt ⟨b, B', y, h2, h4, h6, h8⟩
        omega
    · rw [upd_other _ _ _ _ ca] at h1 h5
      by_cases cb : b = id
      · subst cb
        rw [upd_same] at h6; cases h6
        have l1 := hv g h8
        have l2 := I.owned_lt ⟨a, A', x, h1, h3, h5, h7⟩
        omega
      · rw [upd_other _ _ _ _ cb] at h2 h6
        exact I.inj a b A' B' x y g h1 h2 h3 h4 h5 h6 h7 h8

/-- one block of the call's own is written -/
theorem Inv.wrote {ι : Nat → Option Value} {imm : Nat → Prop} {h : Heap} {w w' : World} (I : Inv ι imm h w) {id : Nat} {B0 B : Blk} {v : Value} (hid : h id = some B0) (hl0 : live B0 = true)
    (hv : ι id = some v) (hsize : w'.heap.size = w.heap.size) (hkeep : ∀ g, blockOf v ≠ some g → w'.heap[g]? = w.heap[g]?) (hos : w'.os = w.os) (ht : w'.tape = w.tape) (ho : w'.output = w.output)
    (hB : BlkRep ι imm w' B v) :
    Inv ι imm (upd h id (some B)) w' ∧ Evo ι imm h w ι imm (upd h id (some B)) w' := by
  have nimm : ∀ g, imm g → blockOf v ≠ some g := fun g e c => I.own g ⟨id, B0, v, hid, hl0, hv, c⟩ e
  have hm : ∀ g, imm g → imm g ∧ w'.heap[g]? = w.heap[g]? := fun g e => ⟨e, hkeep g (nimm g e)⟩
  have own : ∀ g, Owned ι (upd h id (some B)) g → Owned ι h g := by
    rintro g ⟨j, B', v', h1, h2, h3, h4⟩
    by_cases c : j = id
    · subst c
      exact ⟨j, B0, v', hid, hl0, h3, h4⟩
    · rw [upd_other _ _ _ _ c] at h1
      exact ⟨j, B', v', h1, h2, h3, h4⟩
  refine ⟨⟨?_, ?_, fun g o => I.own g (own g o), ?_, fun g e => by rw [hsize]; exact I.lt g e⟩,
    ⟨fun _ _ e => e, fun _ e => e, fun _ e => .inl e, fun g o => .inl (own g o), fun g hg hn => hkeep g (fun c => hn ⟨id, B0, v, hid, hl0, hv, c⟩), by omega, hos, ht, ho⟩⟩
  · intro j B' hj
    by_cases c : j = id
    · subst c
      rw [upd_same] at hj; cases hj
      exact ⟨v, hv, hB⟩
    · rw [upd_other _ _ _ _ c] at hj
      obtain ⟨v', h1, h2⟩ := I.blk j B' hj
      refine ⟨v', h1, h2.mono (fun _ _ e => e) hm fun g a b => hkeep g fun e => c (I.inj j id B' B0 v' v g hj hid a hl0 h1 hv b e)⟩
  · intro j hj
    by_cases c : j = id
    · subst c; rw [upd_same] at hj; cases hj
    · rw [upd_other _ _ _ _ c] at hj
      exact I.non j hj
  · intro a b A' B' x y g h1 h2 h3 h4 h5 h6 h7 h8
    have f : ∀ k C, upd h id (some B) k = some C → live C = true → ∃ C', h k = some C' ∧ live C' = true := fun k C e l => by
      by_cases c : k = id
      · subst c; exact ⟨B0, hid, hl0⟩
      · rw [upd_other _ _ _ _ c] at e; exact ⟨C, e, l⟩
    obtain ⟨A1, a1, a2⟩ := f a A' h1 h3
    obtain ⟨B1, b1, b2⟩ := f b B' h2 h4
    exact I.inj a b A1 B1 x y g a1 b1 a2 b2 h5 h6 h7 h8

/-- new memory that nobody will write -/
theorem Inv.newImm {ι : Nat → Option Value} {imm : Nat → Prop} {h : Heap} {w : World} (I : Inv ι imm h w) (ob : Obj) :
    Inv ι (fun g => imm g ∨ g = w.heap.size) h (w.alloc ob) ∧ Evo ι imm h w ι (fun g => imm g ∨ g = w.heap.size) h (w.alloc ob) := by
  have hm : ∀ g, imm g → (imm g ∨ g = w.heap.size) ∧ (w.alloc ob).heap[g]? = w.heap[g]? := fun g e => ⟨.inl e, heap_alloc_old w _ g (I.lt g e)⟩
  refine ⟨⟨fun id B hid => ?_, I.non, fun g o e => ?_, I.inj, fun g e => ?_⟩,
    ⟨fun _ _ e => e, fun _ e => .inl e, fun g e => ?_, fun g o => .inl o, fun g hg _ => heap_alloc_old w _ g hg, by simp, rfl, rfl, rfl⟩⟩
  · obtain ⟨v, h1, h2⟩ := I.blk id B hid
    exact ⟨v, h1, h2.mono (fun _ _ e => e) hm fun g a b => heap_alloc_old w _ g (h2.lt a b)⟩
  · rcases e with e | e
    · exact I.own g o e
    · have := I.owned_lt o; omega
  · rcases e with e | e
    · have := I.lt g e; simp; omega
    · simp; omega
  · rcases e with e | e
    · exact .inl e
    · exact .inr (.inl (by omega))

/-- a row goes on under a new number, in the same block of memory -/
theorem Inv.moved {ι : Nat → Option Value} {imm : Nat → Prop} {h : Heap} {w w' : World} (I : Inv ι imm h w) {j id : Nat} {B0 B : Blk} {v0 v : Value} {g : Nat} (hj : h j = some B0) (hl0 : live B0 = true)
    (hv0 : ι j = some v0) (hg0 : blockOf v0 = some g) (hid : h id = none) (hsize : w.heap.size ≤ w'.heap.size) (hkeep : ∀ k, k < w.heap.size → k ≠ g → w'.heap[k]? = w.heap[k]?)
    (hos : w'.os = w.os) (ht : w'.tape = w.tape) (ho : w'.output = w.output) (hg : blockOf v = some g) (hB : BlkRep (upd ι id (some v)) imm w' B v) :
    Inv (upd ι id (some v)) imm (upd (upd h j (some .dead)) id (some B)) w' ∧ Evo ι imm h w (upd ι id (some v)) imm (upd (upd h j (some .dead)) id (some B)) w' := by
  have hne : id ≠ j := fun e => by subst e; rw [hid] at hj; cases hj
  have hι : ι id = none := I.non id hid
  have og : Owned ι h g := ⟨j, B0, v0, hj, hl0, hv0, hg0⟩
  have hi : ∀ k v', ι k = some v' → upd ι id (some v) k = some v' := fun k v' e => by
    by_cases c : k = id
    · subst c; rw [hι] at e; cases e
    · rw [upd_other _ _ _ _ c]; exact e
  have nimm : ∀ k, imm k → k ≠ g := fun k e c => by subst c; exact I.own k og e
  have hm : ∀ k, imm k → imm k ∧ w'.heap[k]? = w.heap[k]? := fun k e => ⟨e, hkeep k (I.lt k e) (nimm k e)⟩
  have hget : ∀ k C, upd (upd h j (some .dead)) id (some B) k = some C → live C = true → (k = id ∧ C = B) ∨ (k ≠ id ∧ k ≠ j ∧ h k = some C) := fun k C e l => by
    by_cases c : k = id
    · subst c; rw [upd_same] at e; cases e; exact .inl ⟨rfl, rfl⟩
    · rw [upd_other _ _ _ _ c] at e
      by_cases d : k = j
      · subst d; rw [upd_same] at e; cases e; cases l
      · rw [upd_other _ _ _ _ d] at e; exact .inr ⟨c, d, e⟩
  have own : ∀ k, Owned (upd ι id (some v)) (upd (upd h j (some .dead)) id (some B)) k → Owned ι h k := by
    rintro k ⟨a, B', v', h1, h2, h3, h4⟩
    rcases hget a B' h1 h2 with ⟨rfl, rfl⟩ | ⟨c, d, e⟩
    · rw [upd_same] at h3; cases h3
      rw [hg] at h4; cases h4
      exact og
    · rw [upd_other _ _ _ _ c] at h3
      exact ⟨a, B', v', e, h2, h3, h4⟩
  refine ⟨⟨?_, ?_, fun k o => I.own k (own k o), ?_, fun k e => Nat.lt_of_lt_of_le (I.lt k e) hsize⟩,
    ⟨hi, fun _ e => e, fun _ e => .inl e, fun k o => .inl (own k o), fun k hk hn => hkeep k hk (fun c => by subst c; exact hn og), hsize, hos, ht, ho⟩⟩
  · intro k B' hk
    by_cases c : k = id
    · subst c; rw [upd_same] at hk; cases hk; exact ⟨v, upd_same _ _ _, hB⟩
    · rw [upd_other _ _ _ _ c] at hk
      by_cases d : k = j
      · subst d; rw [upd_same] at hk; cases hk; exact ⟨v0, hi _ _ hv0, trivial⟩
      · rw [upd_other _ _ _ _ d] at hk
        obtain ⟨v', h1, h2⟩ := I.blk k B' hk
        refine ⟨v', hi _ _ h1, h2.mono hi hm fun a l b => hkeep a (h2.lt l b) fun e => ?_⟩
        subst e
        exact d (I.inj k j B' B0 v' v0 a hk hj l hl0 h1 hv0 b hg0)
  · intro k hk
    by_cases c : k = id
    · subst c; rw [upd_same] at hk; cases hk
    · rw [upd_other _ _ _ _ c] at hk ⊢
      by_cases d : k = j
      · subst d; rw [upd_same] at hk; cases hk
      · rw [upd_other _ _ _ _ d] at hk; exact I.non k hk
  · intro a b A' B' x y k h1 h2 h3 h4 h5 h6 h7 h8
    rcases hget a A' h1 h3 with ⟨rfl, rfl⟩ | ⟨c, d, e⟩
    · rcases hget b B' h2 h4 with ⟨rfl, rfl⟩ | ⟨c', d', e'⟩
      · rfl
      · exfalso
        rw [upd_same] at h5; cases h5
        rw [upd_other _ _ _ _ c'] at h6
        rw [hg] at h7; cases h7
        exact d' (I.inj b j B' B0 y v0 g e' hj h4 hl0 h6 hv0 h8 hg0)
    · rcases hget b B' h2 h4 with ⟨rfl, rfl⟩ | ⟨c', d', e'⟩
      · exfalso
        rw [upd_same] at h6; cases h6
        rw [upd_other _ _ _ _ c] at h5
        rw [hg] at h8; cases h8
        exact d (I.inj a j A' B0 x v0 g e hj h3 hl0 h5 hv0 h7 hg0)
      · rw [upd_other _ _ _ _ c] at h5
        rw [upd_other _ _ _ _ c'] at h6
        exact I.inj a b A' B' x y k e e' h3 h4 h5 h6 h7 h8

/-- blocks are given up: nobody writes them any more -/
theorem Inv.giveUp {ι : Nat → Option Value} {imm : Nat → Prop} {h : Heap} {w : World} (I : Inv ι imm h w) {id : Nat} {B0 : Blk} (hid : h id = some B0) :
    Inv ι imm (upd h id (some .dead)) w ∧ Evo ι imm h w ι imm (upd h id (some .dead)) w := by
  obtain ⟨v, hv, _⟩ := I.blk id B0 hid
  have own : ∀ g, Owned ι (upd h id (some .dead)) g → Owned ι h g := by
    rintro g ⟨j, B', v', h1, h2, h3, h4⟩
    by_cases c : j = id
    · subst c; rw [upd_same] at h1; cases h1; cases h2
    · rw [upd_other _ _ _ _ c] at h1
      exact ⟨j, B', v', h1, h2, h3, h4⟩
  refine ⟨⟨?_, ?_, fun g o => I.own g (own g o), ?_, I.lt⟩, ⟨fun _ _ e => e, fun _ e => e, fun _ e => .inl e, fun g o => .inl (own g o), fun _ _ _ => rfl, Nat.le_refl _, rfl, rfl, rfl⟩⟩
  · intro j B' hj
    by_cases c : j = id
    · subst c; rw [upd_same] at hj; cases hj; exact ⟨v, hv, trivial⟩
    · rw [upd_other _ _ _ _ c] at hj; exact I.blk j B' hj
  · intro j hj
    by_cases c : j = id
    · subst c; rw [upd_same] at hj; cases hj
    · rw [upd_other _ _ _ _ c] at hj; exact I.non j hj
  · intro a b A' B' x y g h1 h2 h3 h4 h5 h6 h7 h8
    have f : ∀ k C, upd h id (some .dead) k = some C → live C = true → h k = some C := fun k C e l => by
      by_cases c : k = id
      · subst c; rw [upd_same] at e; cases e; cases l
      · rw [upd_other _ _ _ _ c] at e; exact e
    exact I.inj a b A' B' x y g (f a A' h1 h3) (f b B' h2 h4) h3 h4 h5 h6 h7 h8

/-- a row of the call's own is frozen: from now on it is data -/
theorem Inv.freeze1 {ι : Nat → Option Value} {imm : Nat → Prop} {h : Heap} {w : World} (I : Inv ι imm h w) {id : Nat} {l : Bool} {e sz : Nat} {xs : List D} (hid : h id = some (.row l e sz xs)) :
    ∃ imm', Inv ι imm' (upd h id (some (.row false e sz xs))) w ∧ Evo ι imm h w ι imm' (upd h id (some (.row false e sz xs))) w := by
  obtain ⟨v, hv, hr⟩ := I.blk id _ hid
  cases l with
  | false =>
    have : upd h id (some (.row false e sz xs)) = h := by
      funext k
      by_cases c : k = id
      · subst c; rw [upd_same, hid]
      · rw [upd_other _ _ _ _ c]
    rw [this]
    exact ⟨imm, I, .refl _ _ _ _⟩
  | true =>
    refine ⟨fun g => imm g ∨ blockOf v = some g, ?_⟩
    have hm : ∀ g, imm g → (imm g ∨ blockOf v = some g) ∧ w.heap[g]? = w.heap[g]? := fun g a => ⟨.inl a, rfl⟩
    have own : ∀ g, Owned ι (upd h id (some (.row false e sz xs))) g → Owned ι h g ∧ blockOf v ≠ some g := by
      rintro g ⟨j, B', v', h1, h2, h3, h4⟩
      by_cases c : j = id
      · subst c; rw [upd_same] at h1; cases h1; cases h2
      · rw [upd_other _ _ _ _ c] at h1
        exact ⟨⟨j, B', v', h1, h2, h3, h4⟩, fun b => c (I.inj j id B' _ v' v g h1 hid h2 rfl h3 hv h4 b)⟩
    refine ⟨⟨?_, ?_, ?_, ?_, ?_⟩, ⟨fun _ _ e => e, fun _ e => .inl e, ?_, fun g o => .inl (own g o).1, fun _ _ _ => rfl, Nat.le_refl _, rfl, rfl, rfl⟩⟩
    · intro j B' hj
      by_cases c : j = id
      · subst c
        rw [upd_same] at hj; cases hj
        refine ⟨v, hv, ?_⟩
        obtain ⟨cells, ho, hu, hc⟩ := hr
        have hhead : headed v := by
          rcases ho.2 with ⟨rfl, _⟩ | ⟨g, cap, cur, rfl, _⟩
          · exact .inl rfl
          · exact .inr ⟨g, _, _, rfl⟩
        refine ⟨?_, hu, hhead⟩
        by_cases hx : xs = []
        · subst hx
          rcases ho.2 with ⟨rfl, _⟩ | ⟨g, cap, cur, rfl, _⟩
          · exact .sl0 _ _
          · exact .sl0 _ _
        · rcases ho.2 with ⟨rfl, hn⟩ | ⟨g, cap, cur, rfl, _, hg, hcap, _, hsz, htake⟩
          · exact absurd (List.eq_nil_of_length_eq_zero hn) hx
          · have hlen : xs.length * sz ≤ cur.size := Nat.le_trans (Nat.mul_le_mul_right _ hcap) hsz
            have hlt : ∀ i j, i < xs.length → j < sz → i * sz + j < xs.length * sz := fun i j a b => by
              have h1 : (i + 1) * sz ≤ xs.length * sz := Nat.mul_le_mul_right _ a
              rw [Nat.add_mul] at h1; omega
            refine .sl xs g 0 cap sz cur e (0, 0) hx (.inr rfl) hg hcap hu (fun i j a b => by have := hlt i j a b; omega) fun i j a b => ?_
            have hc' := (hc i j a b).mono (imm' := fun g' => imm g' ∨ blockOf (.slice (some ⟨g, 0, none⟩) xs.length cap) = some g') (w' := w) (fun g a => ⟨.inl a, rfl⟩)
            have hk := hlt i j a b
            have : cells.getD (i * sz + j) undef = cur.getD (0 + (i * sz + j)) undef := by
              rw [← htake]
              have h2 : i * sz + j < cur.size := by omega
              simp [List.getD, hk, Array.getD, h2]
            rw [← this]
            exact hc'
      · rw [upd_other _ _ _ _ c] at hj
        obtain ⟨v', h1, h2⟩ := I.blk j B' hj
        exact ⟨v', h1, h2.mono (fun _ _ e => e) hm fun _ _ _ => rfl⟩
    · intro j hj
      by_cases c : j = id
      · subst c; rw [upd_same] at hj; cases hj
      · rw [upd_other _ _ _ _ c] at hj; exact I.non j hj
    · intro g o c
      obtain ⟨o1, o2⟩ := own g o
      exact c.elim (I.own g o1) o2
    · intro a b A' B' x y g h1 h2 h3 h4 h5 h6 h7 h8
      have f : ∀ k C, upd h id (some (.row false e sz xs)) k = some C → live C = true → h k = some C := fun k C e l => by
        by_cases c : k = id
        · subst c; rw [upd_same] at e; cases e; cases l
        · rw [upd_other _ _ _ _ c] at e; exact e
      exact I.inj a b A' B' x y g (f a A' h1 h3) (f b B' h2 h4) h3 h4 h5 h6 h7 h8
    · intro g c
      rcases c with c | c
      · exact I.lt g c
      · exact hr.lt rfl c
    · intro g c
      rcases c with c | c
      · exact .inl c
      · exact .inr (.inr ⟨id, _, v, hid, rfl, hv, c⟩)

/-- the same blocks, some of them frozen -/
def SameC (h h1 : Heap) : Prop := ∀ i, h1 i = h i ∨ ∃ l e z xs, h i = some (.row l e z xs) ∧ h1 i = some (.row false e z xs)

theorem SameC.refl (h : Heap) : SameC h h := fun _ => .inl rfl

theorem freezeL_same (h : Heap) : ∀ L, SameC h (ups h (freezeL h L))
  | [] => SameC.refl h
  | i :: r => by
    have ih := freezeL_same h r
    unfold freezeL
    split
    · rename_i l e z xs hi
      intro k
      simp only [ups]
      by_cases c : k = i
      · subst c; rw [upd_same]; exact .inr ⟨_, _, _, _, hi, rfl⟩
      · rw [upd_other _ _ _ _ c]; exact ih k
    · exact ih

theorem freezeL_done (h : Heap) (L : List Nat) (i : Nat) (hi : i ∈ L) (l : Bool) (e z : Nat) (xs : List D) (hx : h i = some (.row l e z xs)) :
    ups h (freezeL h L) i = some (.row false e z xs) := by
  induction L with
  | nil => cases hi
  | cons k r ih =>
    unfold freezeL
    by_cases c : i = k
    · subst c
      rw [hx]
      simp only [ups]
      rw [upd_same]
    · have := ih (by cases hi with | head => exact absurd rfl c | tail _ m => exact m)
      split
      · simp only [ups]; rw [upd_other _ _ _ _ c]; exact this
      · exact this

theorem freezeL_other (h : Heap) (L : List Nat) (i : Nat) (hi : L.contains i = false) : ups h (freezeL h L) i = h i := by
  induction L with
  | nil => rfl
  | cons k r ih =>
    simp only [List.contains_cons, Bool.or_eq_false_iff, beq_eq_false_iff_ne, ne_eq] at hi
    unfold freezeL
    split
    · simp only [ups]; rw [upd_other _ _ _ _ hi.1]; exact ih hi.2
    · exact ih hi.2

theorem Inv.freezeL {ι : Nat → Option Value} {h : Heap} {w : World} : ∀ (L : List Nat) {imm : Nat → Prop}, Inv ι imm h w →
    ∃ imm', Inv ι imm' (ups h (freezeL h L)) w ∧ Evo ι imm h w ι imm' (ups h (freezeL h L)) w
  | [], imm, I => ⟨imm, I, .refl _ _ _ _⟩
  | i :: r, imm, I => by
    obtain ⟨imm1, I1, E1⟩ := Inv.freezeL r I
    unfold K.freezeL
    split
    · rename_i l e z xs hi
      simp only [ups]
      have hs : ∃ l', ups h (K.freezeL h r) i = some (.row l' e z xs) := by
        rcases freezeL_same h r i with c | ⟨l', e', z', xs', c1, c2⟩
        · exact ⟨l, c.trans hi⟩
        · rw [hi] at c1; cases c1; exact ⟨false, c2⟩
      obtain ⟨l', hs⟩ := hs
      obtain ⟨imm2, I2, E2⟩ := I1.freeze1 hs
      exact ⟨imm2, I2, E1.trans E2⟩
    · exact ⟨imm1, I1, E1⟩

/-- a piece of a row that is data -/
theorem RepC.piece {imm : Nat → Prop} {w : World} {xs : List D} {g o n cap off len c sz : Nat} (h : RepC imm w (.sl xs) (.slice (some ⟨g, o, none⟩) n cap)) (hu : ∀ x, x ∈ xs → x.cells.length = sz)
    (hl : off + len ≤ xs.length) (hc : len ≤ c) : RepC imm w (.sl ((xs.drop off).take len)) (.slice (some ⟨g, o + off * sz, none⟩) len c) := by
  have hlen : ((xs.drop off).take len).length = len := by simp; omega
  by_cases hz : len = 0
  · subst hz
    simp only [List.take_zero]
    exact .sl0 _ _
  · cases h with
    | sl0 base cap => simp at hl; omega
    | sl _ _ _ _ sz' cs T fr hne hi hg hc' hs hb hr =>
      have hsz : sz' = sz := by
        cases xs with
        | nil => exact absurd rfl hne
        | cons a r => exact (hs a (by simp)).symm.trans (hu a (by simp))
      subst hsz
      have := RepC.sl (imm := imm) (w := w) ((xs.drop off).take len) g (o + off * sz') c sz' cs T fr (by intro e; rw [e] at hlen; simp at hlen; omega) hi hg (by omega)
        (fun x hx => hs x (List.mem_of_mem_drop (List.mem_of_mem_take hx))) (fun i j a b => by
          have := hb (off + i) j (by omega) b
          rw [Nat.add_mul] at this; omega) (fun i j a b => by
          have := hr (off + i) j (by omega) b
          have e1 : ((xs.drop off).take len).getD i .np = xs.getD (off + i) .np := by
            have : i < len := by omega
            simp [List.getD, this]
          have e2 : o + off * sz' + (i * sz' + j) = o + ((off + i) * sz' + j) := by rw [Nat.add_mul]; omega
          rw [e1, e2]; exact this)
      rw [hlen] at this
      exact this

theorem RepC.len {imm : Nat → Prop} {w : World} {xs : List D} {a : Option Addr} {n c : Nat} (h : RepC imm w (.sl xs) (.slice a n c)) : n = xs.length := by
  cases h <;> rfl

/-- frozen rows are data -/
theorem toD1_rep {ι : Nat → Option Value} {imm : Nat → Prop} {h h1 : Heap} {w : World} (I : Inv ι imm h1 w) {x : V} {v : Value} {d : D}
    (hf : ∀ i, i ∈ ids1 x → ∀ l e z xs, h i = some (.row l e z xs) → h1 i = some (.row false e z xs)) (hr : RepV1 ι imm w x v) (hd : toD1 Ω h x = some d) : RepC imm w d v := by
  cases x with
  | d x => cases hd; exact hr
  | nil => cases hd; obtain rfl : v = _ := hr; exact .sl0 _ _
  | own id sz =>
    simp only [toD1] at hd
    split at hd
    · rename_i l e z xs hid
      cases hd
      have hid1 := hf id (by simp [ids1]) _ _ _ _ hid
      obtain ⟨v', h2, h3⟩ := I.blk id _ hid1
      rw [hr.1] at h2; cases h2
      exact h3.1
    · cases hd
  | ref id sz off len =>
    simp only [toD1] at hd
    split at hd
    · rename_i l e z xs hid
      split at hd
      · rename_i hz
        subst hz
        simp only [w_leb, w_nadd, w_slen, w_ssub] at hd
        by_cases hl : off + len ≤ xs.length
        rotate_left
        · rw [decide_eq_false hl] at hd; cases hd
        rw [decide_eq_true hl] at hd
        cases hd
        have hid1 := hf id (by simp [ids1]) _ _ _ _ hid
        obtain ⟨v', h2, h3⟩ := I.blk id _ hid1
        rcases hr with ⟨g, n, cap, c, h4, rfl, h5, h6⟩ | ⟨h4, rfl, base, rfl⟩
        · rw [h4] at h2; cases h2
          have := h3.1.piece (off := off) (len := len) (c := c) h3.2.1 hl h5
          rw [Nat.zero_add] at this
          exact this
        · show RepC _ _ (.sl ((List.drop off xs).take 0)) _
          simp only [List.take_zero]
          exact .sl0 _ _
      · cases hd
    · cases hd
  | _ => cases hd

theorem toD_rep {ι : Nat → Option Value} {imm : Nat → Prop} {h h1 : Heap} {w : World} (I : Inv ι imm h1 w) {x : V} {v : Value} {d : D}
    (hf : ∀ i, i ∈ idsOf x → ∀ l e z xs, h i = some (.row l e z xs) → h1 i = some (.row false e z xs)) (hr : RepV ι imm w x v) (hd : toD Ω h x = some d) : RepD imm w d v := by
  have one : ∀ y : V, RepV1 ι imm w y v → toD1 Ω h y = some d → (∀ i, i ∈ ids1 y → ∀ l e z xs, h i = some (.row l e z xs) → h1 i = some (.row false e z xs)) → RepD imm w d v := fun y hy hdy hfy => by
    have := toD1_rep I hfy hy hdy
    cases d <;> first | exact this | cases this
  cases x with
  | agg cs =>
    obtain ⟨vs, rfl, hsz, hc⟩ := hr
    simp only [toD] at hd
    split at hd
    · rename_i l hl
      cases hd
      have key : ∀ (cs : List V) (l : List D), allD Ω h cs = some l → l.length = cs.length ∧ ∀ j, j < cs.length → toD1 Ω h (cs.getD j .junk) = some (l.getD j .np) := by
        intro cs
        induction cs with
        | nil => intro l e; cases e; exact ⟨rfl, fun j hj => absurd hj (by simp)⟩
        | cons a r ih =>
          intro l e
          unfold allD at e
          split at e
          · rename_i x l' ha hr'
            cases e
            obtain ⟨i1, i2⟩ := ih l' hr'
            refine ⟨by simp [i1], fun j hj => ?_⟩
            cases j with
            | zero => exact ha
            | succ j => exact i2 j (by simpa using hj)
          · cases e
      obtain ⟨k1, k2⟩ := key cs l hl
      refine ⟨vs, rfl, by omega, fun j hj => ?_⟩
      refine toD1_rep I (fun i hi => hf i ?_) (hc j (by omega)).1 (k2 j (by omega))
      simp only [idsOf, List.mem_flatMap]
      refine ⟨cs.getD j .junk, ?_, hi⟩
      have hj' : j < cs.length := by omega
      simp [List.getD, hj']
    · cases hd
  | d x => cases hd; exact hr
  | tup cs => cases hd
  | nil => exact one .nil hr hd hf
  | own a b => exact one (.own a b) hr hd hf
  | ref a b c e => exact one (.ref a b c e) hr hd hf
  | ptr a b => cases hd
  | ept a b c e => cases hd
  | ip a b => cases hd
  | fn f => cases hd
  | junk => cases hd

end Go.K
end
section
/-
  K, part 4: the machine's operations over what is represented. No macro, syntax, notation, axiom, sorry.
-/
namespace Go.K
open Go

theorem addr_add (g o n : Nat) : (⟨g, o, none⟩ : Addr).add n = ⟨g, o + n, none⟩ := by
  unfold Addr.add; split <;> simp_all

section
variable {P : Program} {T : TypeId} {i : TInfo}

theorem TOk.run_size (h : TOk P T i) (w : World) : (sizeOf T).run P w = .ok i.size w := by
  obtain ⟨info, h1, h2, _⟩ := h.ok
  simp [sizeOf, typeInfo, h1, h2]
theorem TOk.run_isAgg (h : TOk P T i) (w : World) : (isAgg T).run P w = .ok (isAggT i.und) w := by
  have := h.und
  cases hu : i.und <;> rw [hu] at this <;> simp [isAgg, run_underlying this, isAggT]
theorem TOk.run_zero (h : TOk P T i) {z : Value} (hz : i.zero = some z) (w : World) : (zeroValue T).run P w = .ok z w := by
  obtain ⟨info, h1, _, _, h4⟩ := h.ok
  simp [zeroValue, typeInfo, h1, h4.trans hz]

theorem run_loadVar_at (h : TOk P T i) (w : World) {g off : Nat} {vs : Array Value} {T' : TypeId} {fr : Nat × Nat} (hg : w.heap[g]? = some (.cells vs T' fr)) (hfit : off + i.size ≤ vs.size)
    (h1 : isAggT i.und = false → i.size = 1) :
    (loadVar T ⟨g, off, none⟩).run P w = .ok (if isAggT i.und then .agg ((List.range i.size).map fun j => vs.getD (off + j) undef).toArray else vs.getD off undef) w := by
  have hc : ∀ j, off + j < vs.size → w.cell? ⟨g, off + j, none⟩ = some (vs.getD (off + j) undef) := fun j hj => by
    simp [World.cell?, hg, Array.getD, hj]
  unfold loadVar
  rw [Sem.run_bind, h.run_isAgg]
  cases ha : isAggT i.und with
  | true =>
    have := run_loadCells (P := P) w ⟨g, off, none⟩ i.size (fun j => vs.getD (off + j) undef) (fun j hj => by rw [addr_add]; exact hc j (by omega))
    simp [h.run_size, this]
  | false =>
    have h1' := h1 ha
    have := hc 0 (by omega)
    simp only [Nat.add_zero] at this
    simp [this]

theorem run_storeVar_at (h : TOk P T i) (w : World) {g off : Nat} {cur : Array Value} {T' : TypeId} (hg : w.heap[g]? = some (.cells cur T' (0, 0))) {v : Value} (hs : v.cells.size = i.size)
    (hfit : off + i.size ≤ cur.size) (h1 : ∀ j, j < i.size → (v.cells.getD j undef).oneCell' = true) :
    (storeVar T ⟨g, off, none⟩ v).run P w = .ok () (w.setRow g (cur.toList.take off ++ v.cells.toList ++ cur.toList.drop (off + i.size)).toArray) := by
  have := run_storeCells_at P g off T' v.cells.toList 0 cur w hg (by simpa [hs] using hfit) (fun x hx => by
    obtain ⟨j, hj, rfl⟩ := List.mem_iff_getElem.1 hx
    have hj' : j < v.cells.size := by simpa using hj
    have := h1 j (by omega)
    simpa [Array.getD, hj'] using this)
  unfold storeVar
  simp only [Sem.run_bind, h.run_size, Result.andThen_ok, hs, ne_eq, not_true_eq_false, if_false]
  simpa [hs] using this

end

/-- a field's place, where the field has cells -/
theorem run_fieldAt {P : Program} {T : TypeId} {i : TInfo} (h : TOk P T i) {fs : Array Field} (hu : i.und = .struct fs) {f : Nat} {fd : Field} (hf : fs[f]? = some fd) {j : TInfo} (hj : TOk P fd.type j) (hs : 0 < j.size)
    (w : World) (g off : Nat) : (Instr.fieldAt T (.pointer (some ⟨g, off, none⟩)) f).run P w = .ok (.pointer (some ⟨g, off + fd.offset, none⟩)) w := by
  have := h.und
  rw [hu] at this
  have hne : ¬ j.size = 0 := by omega
  simp [Instr.fieldAt, run_underlying this, hf, Instr.sureAddr, fieldPlace, hj.run_size, hne, addr_add]

end Go.K
end
section
/-
  K, part 5: each operation does what 'opR' says. No macro, syntax, notation, axiom, sorry.
-/
namespace Go.K
open Go
set_option linter.unusedSectionVars false
set_option linter.unusedVariables false
set_option linter.unusedSimpArgs false

/-- an operation ended well: its value is represented, the invariants are kept -/
def Done (ι : Nat → Option Value) (imm : Nat → Prop) (h : Heap) (w : World) (K : Out → Prop) (r : Result Next) : Prop :=
  ∃ out v w' ι' imm', (r = .ok (.value v) w' ∨ (r = .ok .skip w' ∧ v = undef)) ∧ K out ∧ Evo ι imm h w ι' imm' (ups h out.upd) w' ∧ Inv ι' imm' (ups h out.upd) w' ∧ RepV ι' imm' w' out.v v

section
variable {ι : Nat → Option Value} {imm : Nat → Prop} {h : Heap} {w : World} {K : Out → Prop}

theorem Done.val {r : Result Next} {x : V} {v : Value} {rd : List Nat} (I : Inv ι imm h w) (hr : r = .ok (.value v) w) (hK : K { v := x, rd := rd }) (hR : RepV ι imm w x v) : Done ι imm h w K r :=
  ⟨_, v, w, ι, imm, .inl hr, hK, .refl _ _ _ _, I, hR⟩

theorem Done.drew {r : Result Next} {x : V} {v : Value} {rd : List Nat} (I : Inv ι imm h w) (hr : r = .ok (.value v) w) (hK : K { v := x, rd := rd }) (hR : RepV ι imm w x v) : Done ι imm h w K r := Done.val I hr hK hR

variable {P : Program} {E : Env} {draw : Bool} {ev : Operand → V} {ρ : Operand → Value} {o : Oper} {id : Nat}

theorem repB {t : Bool} {v : Value} (h : RepV ι imm w (.d (.b t)) v) : v = .bool t := by cases h; rfl
theorem repI {k : IntKind} {n : Int} {v : Value} (h : RepV ι imm w (.d (.i k n)) v) : v = .int k n := by cases h; rfl
theorem repS {b : ByteArray} {v : Value} (h : RepV ι imm w (.d (.s b)) v) : v = .string b := by cases h; rfl
theorem repSl {xs : List D} {v : Value} (h : RepV ι imm w (.d (.sl xs)) v) : ∃ a c, v = .slice a xs.length c ∧ RepC imm w (.sl xs) (.slice a xs.length c) := by
  have h' : RepC imm w (.sl xs) v := h
  cases h with
  | sl0 base cap => exact ⟨base, cap, rfl, h'⟩
  | sl _ g off cap => exact ⟨_, cap, rfl, h'⟩
theorem repFn {f : FuncId} {v : Value} (h : RepV ι imm w (.fn f) v) : v = .func (.func f) #[] #[] := h

/-- cells of a variable, taken out -/
theorem shape_take {agg : Bool} {n off : Nat} {cs : List V} {vs : Array Value} (hs : vs.size = cs.length) (hc : ∀ j, j < cs.length → RepV1 ι imm w (cs.getD j .junk) (vs.getD j undef) ∧ (vs.getD j undef).oneCell' = true)
    (hfit : off + n ≤ cs.length) (h1 : agg = false → n = 1) :
    RepV ι imm w (shapeV agg ((cs.drop off).take n)) (if agg then .agg ((List.range n).map fun j => vs.getD (off + j) undef).toArray else vs.getD off undef) := by
  have e : ∀ j, j < n → ((cs.drop off).take n).getD j .junk = cs.getD (off + j) .junk := fun j hj => by simp [List.getD, hj]
  cases agg with
  | true =>
    refine shape_rep (by simp; omega) fun j hj => ?_
    have hj' : j < n := by simp at hj; omega
    rw [e j hj']
    have : ((List.range n).map fun j => vs.getD (off + j) undef).toArray.getD j undef = vs.getD (off + j) undef := by simp [Array.getD, hj']
    rw [this]
    exact hc (off + j) (by omega)
  | false =>
    have hn := h1 rfl
    subst hn
    have := e 0 (by omega)
    have h2 : shapeV false ((cs.drop off).take 1) = cs.getD off .junk := by
      have hlt : off < cs.length := by omega
      simp [shapeV, List.headD, List.getD, hlt, List.take_one, List.head?_drop]
    rw [h2]
    exact V0_of_V1 (hc off (by omega)).1

theorem load_D {x : D} {n off : Nat} {agg : Bool} {vs : Array Value} {b : Nat} (hc : ∀ j, j < x.cells.length → RepC imm w (x.cells.getD j .np) (vs.getD (b + j) undef))
    (hfit : off + n ≤ x.cells.length) (h1 : agg = false → n = 1) :
    RepV ι imm w (.d (loadD x off n agg)) (if agg then .agg ((List.range n).map fun j => vs.getD (b + off + j) undef).toArray else vs.getD (b + off) undef) := by
  cases agg with
  | false =>
    have := hc off (by have := h1 rfl; omega)
    simp only [loadD, Bool.false_eq_true, if_false]
    exact V0_of_V1 (x := .d _) this
  | true =>
    simp only [loadD, if_true]
    have key : ∀ cs : List D, cs = (x.cells.drop off).take n → RepV ι imm w (.d (.agg cs)) (.agg ((List.range n).map fun j => vs.getD (b + off + j) undef).toArray) := by
      rintro cs rfl
      refine ⟨_, rfl, by simp; omega, fun j hj => ?_⟩
      have hj' : j < n := by simp at hj; omega
      have e : ((x.cells.drop off).take n).getD j .np = x.cells.getD (off + j) .np := by simp [List.getD, hj']
      rw [e]
      have : ((List.range n).map fun j => vs.getD (b + off + j) undef).toArray.getD j undef = vs.getD (b + (off + j)) undef := by simp [Array.getD, hj', Nat.add_assoc]
      rw [this]
      exact hc (off + j) (by omega)
    split
    · rename_i hx
      simp only [Bool.and_eq_true, beq_iff_eq] at hx
      obtain ⟨⟨a1, a2⟩, a3⟩ := hx
      cases x <;> first | cases a1 | skip
      rename_i cs
      refine key cs ?_
      simp only [D.cells] at a3 ⊢
      subst a2
      rw [List.drop_zero, List.take_of_length_le (by omega)]
    · exact key _ rfl

section
variable (I : Inv ι imm h w) (tt : TTok P E.tt) (he : ∀ x, RepV ι imm w (ev x) (ρ x))
include I he

theorem op_move {x : Operand} (ho : o.op = .move x) (hK : opR Ω E draw ev h o.op id K) : Done ι imm h w K ((execOp ρ o).run P w) := by
  rw [ho] at hK
  exact Done.val I (by simp [execOp, ho]) hK (he x)
theorem op_assign {x : Operand} (ho : o.op = .assign x) (hK : opR Ω E draw ev h o.op id K) : Done ι imm h w K ((execOp ρ o).run P w) := by
  rw [ho] at hK
  exact Done.val I (by simp [execOp, ho]) hK (he x)
theorem op_pick {c a b : Operand} (ho : o.op = .pick c a b) (hK : opR Ω E draw ev h o.op id K) : Done ι imm h w K ((execOp ρ o).run P w) := by
  rw [ho] at hK
  simp only [opR, w_slen, w_sget, w_ssub, w_sset, w_srep, w_scat, BrG_eq, DK_eq, w_ci, w_iand, w_ior, w_ixor, w_ishl, w_ishr, w_wrap, w_tmod, w_lt, w_le, w_eq, w_ne, w_ile, w_ilt, w_tn, w_nadd, w_nsub, w_nlt, w_leb, w_room, w_imax, w_imin] at hK
  split at hK
  · rename_i t hc
    have h1 := he c
    rw [hc] at h1
    have h2 := repB h1
    refine Done.val (v := if t then ρ a else ρ b) I (by simp [execOp, ho, h2, asBool]) hK ?_
    cases t
    · exact he b
    · exact he a
  · exact hK.elim
theorem op_nilCheck {x : Operand} (ho : o.op = .nilCheck x) (hK : opR Ω E draw ev h o.op id K) : Done ι imm h w K ((execOp ρ o).run P w) := by
  rw [ho] at hK
  have h1 := he x
  simp only [opR, w_slen, w_sget, w_ssub, w_sset, w_srep, w_scat, BrG_eq, DK_eq, w_ci, w_iand, w_ior, w_ixor, w_ishl, w_ishr, w_wrap, w_tmod, w_lt, w_le, w_eq, w_ne, w_ile, w_ilt, w_tn, w_nadd, w_nsub, w_nlt, w_leb, w_room, w_imax, w_imin] at hK
  split at hK
  · rename_i j off hc
    rw [hc] at h1
    obtain ⟨g, h2, h3⟩ := h1
    exact Done.val (v := ρ x) I (by simp [execOp, ho, h3]) hK ⟨g, h2, h3⟩
  · rename_i j sz i off hc
    rw [hc] at h1
    obtain ⟨g, n, cap, h2, h3⟩ := h1
    exact Done.val (v := ρ x) I (by simp [execOp, ho, h3]) hK ⟨g, n, cap, h2, h3⟩
  · rename_i y off hc
    rw [hc] at h1
    have h1' := h1
    obtain ⟨g, n, cs, T, fr, h2, h3, h4, h5⟩ := h1
    exact Done.val (v := ρ x) I (by simp [execOp, ho, h4]) hK h1'
  · rename_i f hc
    rw [hc] at h1
    have h3 := repFn h1
    exact Done.val (v := ρ x) I (by simp [execOp, ho, h3]) hK h1
  · exact hK.elim

theorem op_box {T : TypeId} {x : Operand} (ho : o.op = .box T x) (hK : opR Ω E draw ev h o.op id K) : Done ι imm h w K ((execOp ρ o).run P w) := by
  rw [ho] at hK
  simp only [opR, w_slen, w_sget, w_ssub, w_sset, w_srep, w_scat, BrG_eq, DK_eq, w_ci, w_iand, w_ior, w_ixor, w_ishl, w_ishr, w_wrap, w_tmod, w_lt, w_le, w_eq, w_ne, w_ile, w_ilt, w_tn, w_nadd, w_nsub, w_nlt, w_leb, w_room, w_imax, w_imin] at hK
  split at hK
  · rename_i l hl
    obtain ⟨hid, hK⟩ := hK
    have hi : ∀ j v', ι j = some v' → upd ι id (some (.pointer (some ⟨w.heap.size, 0, none⟩))) j = some v' := fun j v' e => by
      by_cases c : j = id
      · subst c; rw [I.non j hid] at e; cases e
      · rw [upd_other _ _ _ _ c]; exact e
    have hrep : RepV (upd ι id (some (.pointer (some ⟨w.heap.size, 0, none⟩)))) imm (w.alloc (.cells (ρ x).cells T)) (ev x) (ρ x) :=
      (he x).mono hi (fun g e => ⟨e, heap_alloc_old w _ g (I.lt g e)⟩)
    obtain ⟨c1, c2⟩ := cells_rep hrep hl
    have st := I.fresh hid (.pointer (some ⟨w.heap.size, 0, none⟩)) (.var l) (w' := w.alloc (.cells (ρ x).cells T)) (by simp) (fun g hg => heap_alloc_old w _ g hg) rfl rfl rfl
      (fun g hg => by cases hg; exact Nat.le_refl _) ⟨w.heap.size, (ρ x).cells, T, rfl, heap_alloc_new w _, c1, c2⟩
    refine ⟨_, .pointer (some ⟨w.heap.size, 0, none⟩), w.alloc (.cells (ρ x).cells T), _, imm, .inl ?_, hK, st.2, st.1, ⟨w.heap.size, upd_same _ _ _, rfl⟩⟩
    simp [execOp, ho, Instr.box, newVar, newRow]
  · exact hK.elim

theorem op_extract {x : Operand} {k : Nat} (ho : o.op = .extract x k) (hK : opR Ω E draw ev h o.op id K) : Done ι imm h w K ((execOp ρ o).run P w) := by
  rw [ho] at hK
  have h1 := he x
  simp only [opR, w_slen, w_sget, w_ssub, w_sset, w_srep, w_scat, BrG_eq, DK_eq, w_ci, w_iand, w_ior, w_ixor, w_ishl, w_ishr, w_wrap, w_tmod, w_lt, w_le, w_eq, w_ne, w_ile, w_ilt, w_tn, w_nadd, w_nsub, w_nlt, w_leb, w_room, w_imax, w_imin] at hK
  split at hK
  · rename_i cs hc
    split at hK
    · rename_i v hv
      rw [hc] at h1
      obtain ⟨vs, h2, h3, h4⟩ := h1
      have hk : k < cs.length := (List.getElem?_eq_some_iff.1 hv).1
      have h5 := h4 k hk
      have e : cs.getD k .junk = v := by simp [List.getD, hv]
      rw [e] at h5
      have hr : (Instr.extract (ρ x) k).run P w = .ok (vs.getD k undef) w := by
        have : vs[k]? = some (vs.getD k undef) := by
          have : k < vs.size := by omega
          simp [Array.getD, this]
        rw [h2]
        simp only [Instr.extract]
        rw [this]
        rfl
      refine Done.val (v := vs.getD k undef) I (by simp [execOp, ho, hr]) hK ?_
      cases v <;> first | exact h5 | exact h5.elim
    · exact hK.elim
  · exact hK.elim

include tt
theorem op_alloc {T : TypeId} (ho : o.op = .alloc T) (hK : opR Ω E draw ev h o.op id K) : Done ι imm h w K ((execOp ρ o).run P w) := by
  rw [ho] at hK
  simp only [opR, w_slen, w_sget, w_ssub, w_sset, w_srep, w_scat, BrG_eq, DK_eq, w_ci, w_iand, w_ior, w_ixor, w_ishl, w_ishr, w_wrap, w_tmod, w_lt, w_le, w_eq, w_ne, w_ile, w_ilt, w_tn, w_nadd, w_nsub, w_nlt, w_leb, w_room, w_imax, w_imin] at hK
  split at hK
  · rename_i sz by' z und ht
    have hT := tt _ _ ht
    split at hK
    · rename_i l hl
      obtain ⟨hid, hK⟩ := hK
      have hrep := constV_rep (upd ι id (some (.pointer (some ⟨w.heap.size, 0, none⟩)))) imm (w.alloc (.cells z.cells T)) z
      obtain ⟨c1, c2⟩ := cells_rep hrep hl
      have st := I.fresh hid (.pointer (some ⟨w.heap.size, 0, none⟩)) (.var l) (w' := w.alloc (.cells z.cells T)) (by simp) (fun g hg => heap_alloc_old w _ g hg) rfl rfl rfl
        (fun g hg => by cases hg; exact Nat.le_refl _) ⟨w.heap.size, z.cells, T, rfl, heap_alloc_new w _, c1, c2⟩
      refine ⟨_, .pointer (some ⟨w.heap.size, 0, none⟩), w.alloc (.cells z.cells T), _, imm, .inl ?_, hK, st.2, st.1, ⟨w.heap.size, upd_same _ _ _, rfl⟩⟩
      simp [execOp, ho, Instr.alloc, hT.run_zero rfl, newVar, newRow]
    · exact hK.elim
  · exact hK.elim

theorem op_load {T : TypeId} {x : Operand} (ho : o.op = .load T x) (hK : opR Ω E draw ev h o.op id K) : Done ι imm h w K ((execOp ρ o).run P w) := by
  rw [ho] at hK
  have h1 := he x
  simp only [opR, w_slen, w_sget, w_ssub, w_sset, w_srep, w_scat, BrG_eq, DK_eq, w_ci, w_iand, w_ior, w_ixor, w_ishl, w_ishr, w_wrap, w_tmod, w_lt, w_le, w_eq, w_ne, w_ile, w_ilt, w_tn, w_nadd, w_nsub, w_nlt, w_leb, w_room, w_imax, w_imin] at hK
  split at hK
  · rename_i i j off ht hx
    have hT := tt _ _ ht
    rw [hx] at h1
    obtain ⟨g, h2, h3⟩ := h1
    split at hK
    · rename_i cs hj
      obtain ⟨hfit, hone, hK⟩ := hK
      obtain ⟨v', h4, g', vs, T', h5, h6, h7, h8⟩ := I.blk j _ hj
      rw [h2] at h4; cases h4; cases h5
      have hr := run_loadVar_at hT w (off := off) h6 (by omega) hone.one
      refine Done.val I ?_ hK (shape_take h7 h8 hfit hone.one)
      simp only [execOp, ho, h3, Instr.loadAt, Instr.sureAddr, Sem.run_bind, Sem.run_pure, Result.andThen_ok, hr]
    · exact hK.elim
  · rename_i i j sz k off ht hx
    have hT := tt _ _ ht
    rw [hx] at h1
    obtain ⟨g, n, cap, h2, h3⟩ := h1
    split at hK
    · rename_i l e z xs hj
      obtain ⟨rfl, y, hy, hfit, hone, hK⟩ := hK
      obtain ⟨v', h4, h5⟩ := I.blk j _ hj
      rw [h2] at h4; cases h4
      have hk : k < xs.length := (List.getElem?_eq_some_iff.1 hy).1
      have ey : xs.getD k .np = y := by simp [List.getD, hy]
      have hym : y ∈ xs := List.mem_of_getElem? hy
      have hrow : ∃ vs T' fr, w.heap[g]? = some (.cells vs T' fr) ∧ y.cells.length = z ∧ k * z + z ≤ vs.size ∧ ∀ m, m < y.cells.length → RepC imm w (y.cells.getD m .np) (vs.getD (k * z + m) undef) := by
        have hmul : k * z + z ≤ xs.length * z := by
          have := Nat.mul_le_mul_right z (Nat.succ_le_of_lt hk)
          rw [Nat.succ_mul] at this; exact this
        cases l with
        | true =>
          obtain ⟨cells, ho', h6, h7⟩ := h5
          rcases ho'.2 with ⟨c, _⟩ | ⟨g', cap', cur, c, _, h8, h9, _, h10, h11⟩
          · cases c
          · cases c
            have hcs : xs.length * z ≤ cur.size := Nat.le_trans (Nat.mul_le_mul_right _ h9) h10
            refine ⟨cur, e, (0, 0), h8, h6 y hym, by omega, fun m hm => ?_⟩
            rw [h6 y hym] at hm
            have := h7 k m hk hm
            rw [ey] at this
            have e2 : cells.getD (k * z + m) undef = cur.getD (k * z + m) undef := by
              rw [← h11]
              have h12 : k * z + m < xs.length * z := by omega
              have h13 : k * z + m < cur.size := by omega
              simp [List.getD, h12, Array.getD, h13]
            rw [← e2]; exact this
        | false =>
          obtain ⟨h6, h7, _⟩ := h5
          cases h6 with
          | sl0 base cap => simp at hk
          | sl _ _ _ _ sz' cs T' fr hne hi hg hc' hs hb hr =>
            have hsz : sz' = z := (hs y hym).symm.trans (h7 y hym)
            subst hsz
            refine ⟨cs, T', fr, hg, h7 y hym, ?_, fun m hm => ?_⟩
            · by_cases hz : sz' = 0
              · subst hz; simp
              · have := hb k (sz' - 1) hk (by omega); omega
            · rw [h7 y hym] at hm
              have := hr k m hk hm
              rw [ey] at this
              rw [Nat.zero_add] at this
              exact this
      obtain ⟨vs, T', fr, h6, h7, h8, h9⟩ := hrow
      have := load_D (ι := ι) (b := k * z) (off := off) (n := i.size) (agg := isAggT i.und) h9 hfit hone.one
      have hr := run_loadVar_at hT w (off := k * z + off) h6 (by omega) hone.one
      refine Done.val I ?_ hK this
      simp only [execOp, ho, h3, Instr.loadAt, Instr.sureAddr, Sem.run_bind, Sem.run_pure, Result.andThen_ok, hr]
    · exact hK.elim
  · rename_i i y off ht hx
    have hT := tt _ _ ht
    rw [hx] at h1
    obtain ⟨g, b, cs, T', fr, h2, h3, h4, h5⟩ := h1
    obtain ⟨hpos, hfit, hone, hK⟩ := hK
    have hb : b + off + i.size ≤ cs.size := by
      have := (h5 (off + i.size - 1) (by omega)).1; omega
    have hr := run_loadVar_at hT w (off := b + off) h3 hb hone.one
    have := load_D (ι := ι) (b := b) (off := off) (n := i.size) (agg := isAggT i.und) (fun j hj => (h5 j hj).2) hfit hone.one
    refine Done.val I ?_ hK this
    simp only [execOp, ho, h4, Instr.loadAt, Instr.sureAddr, Sem.run_bind, Sem.run_pure, Result.andThen_ok, hr]
  · exact hK.elim

end
end
end Go.K
end
section
/-
  K, part 6: each operation does what 'opR' says, continued. No macro, syntax, notation, axiom, sorry.
-/
namespace Go.K
open Go
set_option linter.unusedSectionVars false
set_option linter.unusedVariables false
set_option linter.unusedSimpArgs false

/-- a row's cells, one element of which is another -/
theorem row_set {imm : Nat → Prop} {w : World} {xs : List D} {sz k : Nat} {cur : Array Value} {y : D} {vs : Array Value} (hu : ∀ x, x ∈ xs → x.cells.length = sz) (hk : k < xs.length) (hy : y.cells.length = sz)
    (hfit : xs.length * sz ≤ cur.size) (hvs : vs.size = sz) (hc : ∀ i j, i < xs.length → j < sz → RepC imm w ((xs.getD i .np).cells.getD j .np) (cur.getD (i * sz + j) undef))
    (hv : ∀ j, j < sz → RepC imm w (y.cells.getD j .np) (vs.getD j undef)) :
    ∀ i j, i < (xs.set k y).length → j < sz → RepC imm w (((xs.set k y).getD i .np).cells.getD j .np) ((cur.toList.take (k * sz) ++ vs.toList ++ cur.toList.drop (k * sz + sz)).toArray.getD (i * sz + j) undef) := by
  intro i j hi hj
  have hi' : i < xs.length := by simpa using hi
  have hmul : ∀ a b, a < b → b ≤ xs.length → a * sz + sz ≤ b * sz := fun a b h _ => by
    have := Nat.mul_le_mul_right sz (Nat.succ_le_of_lt h); rw [Nat.succ_mul] at this; exact this
  have hkk := hmul k xs.length hk (Nat.le_refl _)
  have hii := hmul i xs.length hi' (Nat.le_refl _)
  have hlen : (cur.toList.take (k * sz)).length = k * sz := by simp; omega
  have hlen2 : vs.toList.length = sz := by simp [hvs]
  have hget : ∀ m, (cur.toList.take (k * sz) ++ vs.toList ++ cur.toList.drop (k * sz + sz)).toArray.getD m undef =
      if m < k * sz then cur.getD m undef else if m < k * sz + sz then vs.getD (m - k * sz) undef else cur.getD m undef := by
    intro m
    simp only [Array.getD_eq_getD_getElem?, List.getElem?_toArray, List.getElem?_append, hlen, List.length_append, hlen2, List.getElem?_take, List.getElem?_drop]
    by_cases h1 : m < k * sz
    · have h2 : m < k * sz + sz := by omega
      simp [h1, h2]
    · by_cases h2 : m < k * sz + sz
      · simp [h1, h2]
      · have e : k * sz + sz + (m - (k * sz + sz)) = m := by omega
        simp [h1, h2, e]
  rw [hget]
  by_cases hik : i = k
  · subst hik
    have e : (xs.set i y).getD i .np = y := by simp [List.getD, hi']
    rw [e, if_neg (by omega), if_pos (by omega), show i * sz + j - i * sz = j by omega]
    exact hv j hj
  · have e : (xs.set k y).getD i .np = xs.getD i .np := by simp [List.getD, List.getElem?_set_ne (Ne.symm hik)]
    rw [e]
    have : ¬ (k * sz ≤ i * sz + j ∧ i * sz + j < k * sz + sz) := by
      intro ⟨a, b⟩
      rcases Nat.lt_or_ge i k with h | h
      · have := hmul i k h (by omega); omega
      · have := hmul k i (by omega) (by omega); omega
    by_cases h1 : i * sz + j < k * sz
    · rw [if_pos h1]; exact hc i j hi' hj
    · rw [if_neg h1, if_neg (by omega)]; exact hc i j hi' hj

section
variable {ι : Nat → Option Value} {imm : Nat → Prop} {h : Heap} {w : World} {K : Out → Prop}
variable {P : Program} {E : Env} {draw : Bool} {ev : Operand → V} {ρ : Operand → Value} {o : Oper} {id : Nat}

/-- the representation of data by its cells -/
theorem repD_cells {x : D} {v : Value} (hr : RepD imm w x v) : v.cells.size = x.cells.length ∧ ∀ j, j < x.cells.length → RepC imm w (x.cells.getD j .np) (v.cells.getD j undef) := by
  have h0 : RepV (fun _ => none) imm w (.d x) v := hr
  obtain ⟨h1, h2⟩ := cells_rep (l := x.cells.map V.d) h0 rfl
  refine ⟨by simpa using h1, fun j hj => ?_⟩
  have := (h2 j (by simpa using hj)).1
  have e : (x.cells.map V.d).getD j .junk = .d (x.cells.getD j .np) := by simp [List.getD, hj]
  rw [e] at this
  exact this

variable (I : Inv ι imm h w) (tt : TTok P E.tt) (he : ∀ x, RepV ι imm w (ev x) (ρ x))
include I tt he

theorem op_store {T : TypeId} {x y : Operand} (ho : o.op = .store T x y) (hK : opR Ω E draw ev h o.op id K) : Done ι imm h w K ((execOp ρ o).run P w) := by
  rw [ho] at hK
  have h1 := he x
  simp only [opR, w_slen, w_sget, w_ssub, w_sset, w_srep, w_scat, BrG_eq, DK_eq, w_ci, w_iand, w_ior, w_ixor, w_ishl, w_ishr, w_wrap, w_tmod, w_lt, w_le, w_eq, w_ne, w_ile, w_ilt, w_tn, w_nadd, w_nsub, w_nlt, w_leb, w_room, w_imax, w_imin] at hK
  split at hK
  · rename_i i j off ht hx
    have hT := tt _ _ ht
    rw [hx] at h1
    obtain ⟨g, h2, h3⟩ := h1
    split at hK
    · rename_i cs hj
      split at hK
      · rename_i l hl
        obtain ⟨hlen, hfit, hK⟩ := hK
        obtain ⟨v', h4, g', vs, T', h5, h6, h7, h8⟩ := I.blk j _ hj
        have hv' := h4
        rw [h2] at h4; cases h4; cases h5
        obtain ⟨c1, c2⟩ := cells_rep (he y) hl
        have hs : (ρ y).cells.size = i.size := by omega
        have hr := run_storeVar_at hT w (off := off) h6 hs (by omega) (fun m hm => (c2 m (by omega)).2)
        have hmono : ∀ g', imm g' → imm g' ∧ (w.setRow g (vs.toList.take off ++ (ρ y).cells.toList ++ vs.toList.drop (off + i.size)).toArray).heap[g']? = w.heap[g']? := fun g' hg' =>
          ⟨hg', setRow_other w g g' _ (fun e => by subst e; exact I.own g' ⟨j, _, _, hj, rfl, h2, rfl⟩ hg')⟩
        have st := I.wrote hj rfl h2 (B := .var (cs.take off ++ l ++ cs.drop (off + i.size))) (w' := w.setRow g (vs.toList.take off ++ (ρ y).cells.toList ++ vs.toList.drop (off + i.size)).toArray) (by simp)
          (fun g' hg' => setRow_other w g g' _ (fun e => by subst e; exact hg' rfl)) rfl rfl rfl ?_
        · refine ⟨_, undef, _, ι, imm, .inr ⟨?_, rfl⟩, hK, st.2, st.1, trivial⟩
          simp only [execOp, ho, h3, Instr.storeAt, Instr.sureAddr, Sem.run_bind, Sem.run_pure, Result.andThen_ok, hr]
        · refine ⟨g, _, T', rfl, setRow_heap w g vs _ T' _ h6, by simp; omega, fun m hm => ?_⟩
          have l1 : (cs.take off).length = off := by simp; omega
          have l2 : (vs.toList.take off).length = off := by simp; omega
          have l3 : (ρ y).cells.toList.length = l.length := by simpa using c1
          have ea : (cs.take off ++ l ++ cs.drop (off + i.size)).getD m .junk = if m < off then cs.getD m .junk else if m < off + i.size then l.getD (m - off) .junk else cs.getD m .junk := by
            simp only [List.getD_eq_getElem?_getD, List.getElem?_append, l1, List.length_append, hlen, List.getElem?_take, List.getElem?_drop]
            by_cases a : m < off
            · have : m < off + i.size := by omega
              simp [a, this]
            · by_cases b : m < off + i.size
              · simp [a, b]
              · have e : off + i.size + (m - (off + i.size)) = m := by omega
                simp [a, b, e]
          have eb : (vs.toList.take off ++ (ρ y).cells.toList ++ vs.toList.drop (off + i.size)).toArray.getD m undef = if m < off then vs.getD m undef else if m < off + i.size then (ρ y).cells.getD (m - off) undef else vs.getD m undef := by
            simp only [Array.getD_eq_getD_getElem?, List.getElem?_toArray, List.getElem?_append, l2, List.length_append, l3, hlen, List.getElem?_take, List.getElem?_drop]
            by_cases a : m < off
            · have : m < off + i.size := by omega
              simp [a, this]
            · by_cases b : m < off + i.size
              · simp [a, b]
              · have e : off + i.size + (m - (off + i.size)) = m := by omega
                simp [a, b, e]
          have hm' : m < cs.length := by simp at hm; omega
          rw [ea, eb]
          by_cases a : m < off
          · rw [if_pos a, if_pos a]; exact ⟨(h8 m hm').1.mono (fun _ _ e => e) hmono, (h8 m hm').2⟩
          · rw [if_neg a, if_neg a]
            by_cases b : m < off + i.size
            · rw [if_pos b, if_pos b]; exact ⟨(c2 (m - off) (by omega)).1.mono (fun _ _ e => e) hmono, (c2 (m - off) (by omega)).2⟩
            · rw [if_neg b, if_neg b]; exact ⟨(h8 m hm').1.mono (fun _ _ e => e) hmono, (h8 m hm').2⟩
      · exact hK.elim
    · exact hK.elim
  · rename_i i j sz k off ht hx
    have hT := tt _ _ ht
    rw [hx] at h1
    obtain ⟨g, n, cap, h2, h3⟩ := h1
    split at hK
    · rename_i e z xs hj
      split at hK
      · rename_i y' hy
        obtain ⟨rfl, hnj, hk, hlen, rfl, hsz, hK⟩ := hK
        obtain ⟨imm1, I1, E1⟩ := Inv.freezeL (idsOf (ev y)) I
        have hrep := toD_rep I1 (fun i hi l e z xs hx => freezeL_done h _ i hi l e z xs hx) ((he y).evo I E1) hy
        obtain ⟨c1, c2⟩ := repD_cells hrep
        have hj1 : ups h (freezeL h (idsOf (ev y))) j = some (.row true e z xs) := (freezeL_other h _ j hnj).trans hj
        obtain ⟨v', h4, cells, ho', h6, h7⟩ := I1.blk j _ hj1
        have h2' := E1.ids _ _ h2
        rw [h2'] at h4; cases h4
        rcases ho'.2 with ⟨c, _⟩ | ⟨g', cap', cur, c, hb0, h8, h9, hcm, h10, h11⟩
        · cases c
        · cases c
          have hcs : xs.length * z ≤ cur.size := Nat.le_trans (Nat.mul_le_mul_right _ h9) h10
          have hmul : k * z + z ≤ xs.length * z := by
            have := Nat.mul_le_mul_right z (Nat.succ_le_of_lt hk); rw [Nat.succ_mul] at this; exact this
          have hcell : ∀ i j, i < xs.length → j < z → RepC imm1 w ((xs.getD i .np).cells.getD j .np) (cur.getD (i * z + j) undef) := fun i j a b => by
            have := h7 i j a b
            have hm : i * z + j < xs.length * z := by
              have := Nat.mul_le_mul_right z (Nat.succ_le_of_lt a); rw [Nat.succ_mul] at this; omega
            have e2 : cells.getD (i * z + j) undef = cur.getD (i * z + j) undef := by
              rw [← h11]
              have h13 : i * z + j < cur.size := by omega
              simp [List.getD, hm, Array.getD, h13]
            rw [← e2]; exact this
          have hs : (ρ y).cells.size = i.size := by omega
          have hr := run_storeVar_at hT w (off := k * z + 0) h8 hs (by omega) (fun m hm => (c2 m (by omega)).one)
          rw [Nat.add_zero, hsz] at hr
          have hmono : ∀ g', imm1 g' → imm1 g' ∧ (w.setRow g (cur.toList.take (k * z) ++ (ρ y).cells.toList ++ cur.toList.drop (k * z + z)).toArray).heap[g']? = w.heap[g']? := fun g' hg' =>
            ⟨hg', setRow_other w g g' _ (fun e' => by subst e'; exact I1.own g' ⟨j, _, _, hj1, rfl, h2', rfl⟩ hg')⟩
          have st := I1.wrote hj1 rfl h2' (B := .row true e z (xs.set k y')) (w' := w.setRow g (cur.toList.take (k * z) ++ (ρ y).cells.toList ++ cur.toList.drop (k * z + z)).toArray) (by simp)
            (fun g' hg' => setRow_other w g g' _ (fun e' => by subst e'; exact hg' rfl)) rfl rfl rfl ?_
          · refine ⟨_, undef, _, ι, imm1, .inr ⟨?_, rfl⟩, hK, E1.trans st.2, st.1, trivial⟩
            simp only [execOp, ho, h3, Instr.storeAt, Instr.sureAddr, Sem.run_bind, Sem.run_pure, Result.andThen_ok, Nat.add_zero, hr]
          · have hl : (xs.set k y').length = xs.length := by simp
            have hnew := row_set (imm := imm1) (w := w) h6 hk (by omega) hcs (vs := (ρ y).cells) (by omega) hcell (fun m hm => c2 m (by omega))
            refine ⟨((cur.toList.take (k * z) ++ (ρ y).cells.toList ++ cur.toList.drop (k * z + z)).take (xs.length * z)), ⟨?_, .inr ⟨g, cap, _, ?_, Nat.zero_le _, setRow_heap w g cur _ e _ h8, ?_, hcm, ?_, ?_⟩⟩, ?_, ?_⟩
            · simp; omega
            · rw [hl]
            · rw [hl]; exact h9
            · simp; omega
            · simp
            · intro x hx
              rcases List.mem_or_eq_of_mem_set hx with hx | hx
              · exact h6 x hx
              · subst hx; omega
            · intro a b ha hb
              have := (hnew a b ha hb).mono hmono
              have hm : a * z + b < xs.length * z := by
                rw [hl] at ha
                have := Nat.mul_le_mul_right z (Nat.succ_le_of_lt ha); rw [Nat.succ_mul] at this; omega
              have e3 : ((cur.toList.take (k * z) ++ (ρ y).cells.toList ++ cur.toList.drop (k * z + z)).take (xs.length * z)).getD (a * z + b) undef = (cur.toList.take (k * z) ++ (ρ y).cells.toList ++ cur.toList.drop (k * z + z)).toArray.getD (a * z + b) undef := by
                rw [List.getD_eq_getElem?_getD, List.getElem?_take, if_pos hm, Array.getD_eq_getD_getElem?, List.getElem?_toArray]
              rw [e3]
              exact this
      · exact hK.elim
    · exact hK.elim
  · exact hK.elim

end
end Go.K
end
section
/-
  K, part 7: each operation does what 'opR' says, continued. No macro, syntax, notation, axiom, sorry.
-/
namespace Go.K
open Go
set_option linter.unusedSectionVars false
set_option linter.unusedVariables false
set_option linter.unusedSimpArgs false

section
variable {ι : Nat → Option Value} {imm : Nat → Prop} {h : Heap} {w : World} {K : Out → Prop}
variable {P : Program} {E : Env} {draw : Bool} {ev : Operand → V} {ρ : Operand → Value} {o : Oper} {id : Nat}

theorem arrayLen_of {T e : TypeId} {n : Nat} (hu : P.underlying T = some (.array n e)) : P.arrayLen T = n ∧ P.elem T = e := by
  simp [Program.arrayLen, Program.elem, hu]
theorem elem_of {T e : TypeId} (hu : P.underlying T = some (.slice e)) : P.elem T = e := by
  simp [Program.elem, hu]

/-- a part of an aggregate value -/
theorem run_part {T : TypeId} {i : TInfo} (hT : TOk P T i) (w : World) {cs : Array Value} {off : Nat} (hfit : off + i.size ≤ cs.size) (h1 : isAggT i.und = false → i.size = 1) :
    (part T cs off).run P w = .ok (if isAggT i.und then .agg ((List.range i.size).map fun j => cs.getD (off + j) undef).toArray else cs.getD off undef) w := by
  unfold part
  rw [Sem.run_bind, hT.run_isAgg]
  cases ha : isAggT i.und with
  | true =>
    have e : cs.extract off (off + i.size) = ((List.range i.size).map fun j => cs.getD (off + j) undef).toArray := by
      apply Array.ext
      · simp; omega
      · intro k h1 h2
        have hk : k < i.size := by simpa using h2
        have : off + k < cs.size := by omega
        simp [Array.getD, this]
    simp [hT.run_size, e]
  | false =>
    have := h1 ha
    have hlt : off < cs.size := by omega
    have : cs[off]? = some (cs.getD off undef) := by simp [Array.getD, hlt]
    simp only [Result.andThen_ok, Bool.false_eq_true, if_false, this]
    rfl

variable (I : Inv ι imm h w) (tt : TTok P E.tt) (he : ∀ x, RepV ι imm w (ev x) (ρ x))
include I tt he

theorem op_fieldAddr {T : TypeId} {x : Operand} {f : Nat} (ho : o.op = .fieldAddr T x f) (hK : opR Ω E draw ev h o.op id K) : Done ι imm h w K ((execOp ρ o).run P w) := by
  rw [ho] at hK
  have h1 := he x
  simp only [opR, w_slen, w_sget, w_ssub, w_sset, w_srep, w_scat, BrG_eq, DK_eq, w_ci, w_iand, w_ior, w_ixor, w_ishl, w_ishr, w_wrap, w_tmod, w_lt, w_le, w_eq, w_ne, w_ile, w_ilt, w_tn, w_nadd, w_nsub, w_nlt, w_leb, w_room, w_imax, w_imin] at hK
  split at hK
  · rename_i sz by' z fs ht
    have hT := tt _ _ ht
    split at hK
    · rename_i fd hf
      split at hK
      · rename_i i hi
        have hj := tt _ _ hi
        obtain ⟨hpos, hK⟩ := hK
        split at hK
        · rename_i j off hx
          rw [hx] at h1
          obtain ⟨g, h2, h3⟩ := h1
          refine Done.val I ?_ hK ⟨g, h2, rfl⟩
          simp only [execOp, ho, h3, Sem.run_bind, Sem.run_pure, Result.andThen_ok, run_fieldAt hT rfl hf hj hpos]
        · rename_i j sz k off hx
          rw [hx] at h1
          obtain ⟨g, n, cap, h2, h3⟩ := h1
          refine Done.val I ?_ hK ⟨g, n, cap, h2, rfl⟩
          simp only [execOp, ho, h3, Sem.run_bind, Sem.run_pure, Result.andThen_ok, run_fieldAt hT rfl hf hj hpos, Nat.add_assoc]
        · rename_i y off hx
          rw [hx] at h1
          obtain ⟨g, b, cs, T', fr, h2, h3, h4, h5⟩ := h1
          refine Done.val I ?_ hK ⟨g, b, cs, T', fr, h2, h3, rfl, h5⟩
          simp only [execOp, ho, h4, Sem.run_bind, Sem.run_pure, Result.andThen_ok, run_fieldAt hT rfl hf hj hpos, Nat.add_assoc]
        · exact hK.elim
      · exact hK.elim
    · exact hK.elim
  · exact hK.elim

theorem op_field {T : TypeId} {x : Operand} {f : Nat} (ho : o.op = .field T x f) (hK : opR Ω E draw ev h o.op id K) : Done ι imm h w K ((execOp ρ o).run P w) := by
  rw [ho] at hK
  have h1 := he x
  simp only [opR, w_slen, w_sget, w_ssub, w_sset, w_srep, w_scat, BrG_eq, DK_eq, w_ci, w_iand, w_ior, w_ixor, w_ishl, w_ishr, w_wrap, w_tmod, w_lt, w_le, w_eq, w_ne, w_ile, w_ilt, w_tn, w_nadd, w_nsub, w_nlt, w_leb, w_room, w_imax, w_imin] at hK
  split at hK
  · rename_i sz by' z fs ht
    have hT := tt _ _ ht
    split at hK
    · rename_i fd hf
      split at hK
      · rename_i i hi
        have hj := tt _ _ hi
        have hu := hT.und
        split at hK
        · rename_i cs hx
          rw [hx] at h1
          obtain ⟨vs, h2, h3, h4⟩ := h1
          obtain ⟨hfit, hone, hK⟩ := hK
          have hp := run_part hj w (cs := vs) (off := fd.offset) (by omega) hone.one
          refine Done.val I ?_ hK (shape_take h3 h4 hfit hone.one)
          simp only [execOp, ho, h2, Instr.field, Sem.run_bind, run_underlying hu, Sem.run_pure, Result.andThen_ok, hf, asAgg, hp]
        · rename_i cs hx
          rw [hx] at h1
          obtain ⟨vs, h2, h3, h4⟩ := h1
          obtain ⟨hfit, hone, hK⟩ := hK
          have hp := run_part hj w (cs := vs) (off := fd.offset) (by omega) hone.one
          have := load_D (ι := ι) (x := .agg cs) (b := 0) (off := fd.offset) (n := i.size) (agg := isAggT i.und) (vs := vs) (fun j hj => by rw [Nat.zero_add]; exact h4 j hj) hfit hone.one
          rw [Nat.zero_add] at this
          refine Done.val I ?_ hK this
          simp only [execOp, ho, h2, Instr.field, Sem.run_bind, run_underlying hu, Sem.run_pure, Result.andThen_ok, hf, asAgg, hp]
        · exact hK.elim
      · exact hK.elim
    · exact hK.elim
  · exact hK.elim

theorem op_index {T : TypeId} {x y : Operand} (ho : o.op = .index T x y) (hK : opR Ω E draw ev h o.op id K) : Done ι imm h w K ((execOp ρ o).run P w) := by
  rw [ho] at hK
  have h1 := he x
  have h1y := he y
  simp only [opR, w_slen, w_sget, w_ssub, w_sset, w_srep, w_scat, BrG_eq, DK_eq, w_ci, w_iand, w_ior, w_ixor, w_ishl, w_ishr, w_wrap, w_tmod, w_lt, w_le, w_eq, w_ne, w_ile, w_ilt, w_tn, w_nadd, w_nsub, w_nlt, w_leb, w_room, w_imax, w_imin] at hK
  split at hK
  · rename_i sz by' z n e ht
    have hT := tt _ _ ht
    have hu := hT.und
    split at hK
    · rename_i i hi
      have hj := tt _ _ hi
      split at hK
      · rename_i cs kk k hx hy
        rw [hx] at h1
        rw [hy] at h1y
        obtain ⟨vs, h2, h3, h4⟩ := h1
        have h5 := repI h1y
        obtain ⟨k0, k1, hfit, hone, hK⟩ := hK
        have k1 : k < (n : Int) := by omega
        have hp := run_part hj w (cs := vs) (off := k.toNat * i.size) (by omega) hone.one
        refine Done.val I ?_ hK (shape_take h3 h4 hfit hone.one)
        simp only [execOp, ho, h2, h5, Instr.index, asIntOf, Sem.run_bind, run_underlying hu, Sem.run_pure, Result.andThen_ok, k0, k1, and_self, if_true, hj.run_size, hp]
      · rename_i cs kk k hx hy
        rw [hx] at h1
        rw [hy] at h1y
        obtain ⟨vs, h2, h3, h4⟩ := h1
        have h5 := repI h1y
        obtain ⟨k0, k1, hfit, hone, hK⟩ := hK
        have k1 : k < (n : Int) := by omega
        have hp := run_part hj w (cs := vs) (off := k.toNat * i.size) (by omega) hone.one
        have := load_D (ι := ι) (x := .agg cs) (b := 0) (off := k.toNat * i.size) (n := i.size) (agg := isAggT i.und) (vs := vs) (fun j hj => by rw [Nat.zero_add]; exact h4 j hj) hfit hone.one
        rw [Nat.zero_add] at this
        refine Done.val I ?_ hK this
        simp only [execOp, ho, h2, h5, Instr.index, asIntOf, Sem.run_bind, run_underlying hu, Sem.run_pure, Result.andThen_ok, k0, k1, and_self, if_true, hj.run_size, hp]
      · exact hK.elim
    · exact hK.elim
  · rename_i sz by' z ht
    have hT := tt _ _ ht
    have hu := hT.und
    split at hK
    · rename_i b kk k hx hy
      rw [hx] at h1
      rw [hy] at h1y
      have h2 := repS h1
      have h5 := repI h1y
      obtain ⟨k0, c, hc, hK⟩ := hK
      refine Done.val I ?_ hK (.i _ _)
      simp only [execOp, ho, h2, h5, Instr.index, asIntOf, Sem.run_bind, run_underlying hu, Sem.run_pure, Result.andThen_ok, k0, if_true, hc]
    · exact hK.elim
  · exact hK.elim

theorem op_indexAddr {T : TypeId} {x y : Operand} (ho : o.op = .indexAddr T x y) (hK : opR Ω E draw ev h o.op id K) : Done ι imm h w K ((execOp ρ o).run P w) := by
  rw [ho] at hK
  have h1 := he x
  have h1y := he y
  simp only [opR, w_slen, w_sget, w_ssub, w_sset, w_srep, w_scat, BrG_eq, DK_eq, w_ci, w_iand, w_ior, w_ixor, w_ishl, w_ishr, w_wrap, w_tmod, w_lt, w_le, w_eq, w_ne, w_ile, w_ilt, w_tn, w_nadd, w_nsub, w_nlt, w_leb, w_room, w_imax, w_imin] at hK
  split at hK
  · rename_i sz by' z n e ht
    have hT := tt _ _ ht
    have hu := hT.und
    obtain ⟨ea, ee⟩ := arrayLen_of hu
    have hu' : P.underlying T = some (.array (P.arrayLen T) (P.elem T)) := by rw [ea, ee]; exact hu
    split at hK
    · rename_i i hi
      have hj := tt _ _ hi
      have run : ∀ (g off : Nat) (kk : IntKind) (k : Int), 0 ≤ k → k < n → (Instr.indexAt T (.pointer (some ⟨g, off, none⟩)) (.int kk k)).run P w = .ok (.pointer (some ⟨g, off + k.toNat * i.size, none⟩)) w := fun g off kk k k0 k1 => by
        rw [run_indexAt_array (h := hu'), if_pos ⟨k0, by rw [ea]; exact k1⟩, ee, hj.run_size]
        simp only [Result.andThen_ok, addr_add]
      split at hK
      · rename_i j off kk k hx hy
        rw [hx] at h1
        rw [hy] at h1y
        obtain ⟨g, h2, h3⟩ := h1
        have h5 := repI h1y
        obtain ⟨k0, k1, hK⟩ := hK
        have k1 : k < (n : Int) := by omega
        refine Done.val I ?_ hK ⟨g, h2, rfl⟩
        simp only [execOp, ho, h3, h5, Sem.run_bind, Sem.run_pure, Result.andThen_ok, run g off kk k k0 k1]
      · rename_i j sz l off kk k hx hy
        rw [hx] at h1
        rw [hy] at h1y
        obtain ⟨g, m, cap, h2, h3⟩ := h1
        have h5 := repI h1y
        obtain ⟨k0, k1, hK⟩ := hK
        have k1 : k < (n : Int) := by omega
        refine Done.val I ?_ hK ⟨g, m, cap, h2, rfl⟩
        simp only [execOp, ho, h3, h5, Sem.run_bind, Sem.run_pure, Result.andThen_ok, run _ _ kk k k0 k1, Nat.add_assoc]
      · rename_i y' off kk k hx hy
        rw [hx] at h1
        rw [hy] at h1y
        obtain ⟨g, b, cs, T', fr, h2, h3, h4, h5'⟩ := h1
        have h5 := repI h1y
        obtain ⟨k0, k1, hK⟩ := hK
        have k1 : k < (n : Int) := by omega
        refine Done.val I ?_ hK ⟨g, b, cs, T', fr, h2, h3, rfl, h5'⟩
        simp only [execOp, ho, h4, h5, Sem.run_bind, Sem.run_pure, Result.andThen_ok, run _ _ kk k k0 k1, Nat.add_assoc]
      · exact hK.elim
    · exact hK.elim
  · rename_i sz by' z e ht
    have hT := tt _ _ ht
    have hu := hT.und
    have ee := elem_of hu
    have hu' : P.underlying T = some (.slice (P.elem T)) := by rw [ee]; exact hu
    split at hK
    · rename_i i hi
      have hj := tt _ _ hi
      have run : ∀ (g off len cap : Nat) (kk : IntKind) (k : Int), 0 ≤ k → k < len → (Instr.indexAt T (.slice (some ⟨g, off, none⟩) len cap) (.int kk k)).run P w = .ok (.pointer (some ⟨g, off + k.toNat * i.size, none⟩)) w := fun g off len cap kk k k0 k1 => by
        rw [run_indexAt_slice (h := hu'), if_pos ⟨k0, k1⟩, ee, hj.run_size]
        simp only [Result.andThen_ok, addr_add]
      split at hK
      · rename_i xs kk k hx hy
        rw [hx] at h1
        rw [hy] at h1y
        have h5 := repI h1y
        obtain ⟨k0, y', hy', hsz, hK⟩ := hK
        have hk : k.toNat < xs.length := (List.getElem?_eq_some_iff.1 hy').1
        have hmem : y' ∈ xs := List.mem_of_getElem? hy'
        have ey : xs.getD k.toNat .np = y' := by simp [List.getD, hy']
        obtain ⟨a, c, h2, h3⟩ := repSl h1
        cases h3 with
        | sl0 => simp at hk
        | sl _ g off cap sz' cs T' fr hne him hg hcap hs hb hr =>
          have hsz' : sz' = i.size := (hs y' hmem).symm.trans hsz
          subst hsz'
          refine Done.val I ?_ hK ⟨g, off + k.toNat * i.size, cs, T', fr, him, hg, rfl, fun j hj' => ?_⟩
          · simp only [execOp, ho, h2, h5, Sem.run_bind, Sem.run_pure, Result.andThen_ok, run g off xs.length c kk k k0 (by omega), Nat.add_zero]
          · rw [hsz] at hj'
            refine ⟨by have := hb k.toNat j hk hj'; omega, ?_⟩
            have := hr k.toNat j hk hj'
            rw [ey] at this
            rw [Nat.add_assoc]
            exact this
      · rename_i j sz kk k hx hy
        rw [hx] at h1
        rw [hy] at h1y
        have h5 := repI h1y
        split at hK
        · rename_i l e' z' xs hj'
          obtain ⟨rfl, rfl, k0, k1, hK⟩ := hK
          obtain ⟨v', h4, h6⟩ := I.blk j _ hj'
          obtain ⟨h7, h8⟩ := h1
          rw [h7] at h4; cases h4
          have hform : ∃ g cap, ρ x = .slice (some ⟨g, 0, none⟩) xs.length cap := by
            rcases h8 with h8 | ⟨g, n, cap, h8⟩
            · exfalso
              rw [h8] at h6
              cases l with
              | true =>
                obtain ⟨cells, ho', _⟩ := h6
                rcases ho'.2 with ⟨_, hn⟩ | ⟨g, cap, cur, c, _⟩
                · omega
                · cases c
              | false => have := h6.1.len; omega
            · rw [h8] at h6
              have hn : n = xs.length := by
                cases l with
                | true =>
                  obtain ⟨cells, ho', _⟩ := h6
                  rcases ho'.2 with ⟨c, _⟩ | ⟨g, cap, cur, c, _⟩
                  · cases c
                  · cases c; rfl
                | false => exact h6.1.len
              subst hn
              exact ⟨g, cap, h8⟩
          obtain ⟨g, cap, h9⟩ := hform
          refine Done.val I ?_ hK ⟨g, xs.length, cap, h9 ▸ h7, rfl⟩
          simp only [execOp, ho, h9, h5, Sem.run_bind, Sem.run_pure, Result.andThen_ok, run g 0 _ cap kk k k0 k1, Nat.add_zero, Nat.zero_add]
        · exact hK.elim
      · rename_i j sz off len kk k hx hy
        rw [hx] at h1
        rw [hy] at h1y
        have h5 := repI h1y
        obtain ⟨rfl, k0, k1, hK⟩ := hK
        rcases h1 with ⟨g, n, cap, c, h2, h3, h4⟩ | ⟨_, h3, _⟩
        · refine Done.val I ?_ hK ⟨g, n, cap, h2, rfl⟩
          simp only [execOp, ho, h3, h5, Sem.run_bind, Sem.run_pure, Result.andThen_ok, run _ _ _ c kk k k0 k1, Nat.add_zero, Nat.add_mul]
        · omega
      · exact hK.elim
    · exact hK.elim
  · exact hK.elim

end
end Go.K
end
section
/-
  K, part 8: each operation does what 'opR' says, continued. No macro, syntax, notation, axiom, sorry.
-/
namespace Go.K
open Go
set_option linter.unusedSectionVars false
set_option linter.unusedVariables false
set_option linter.unusedSimpArgs false

section
variable {ι : Nat → Option Value} {imm : Nat → Prop} {h : Heap} {w : World} {K : Out → Prop}
variable {P : Program} {E : Env} {draw : Bool} {ev : Operand → V} {ρ : Operand → Value} {o : Oper} {id : Nat}

/-- the value of a bound that may be left out -/
def bnd (x : Option Value) (dflt : Int) (n : Int) : Prop := (x = none ∧ n = dflt) ∨ ∃ k, x = some (.int k n)

theorem run_bounds {isSlice : Bool} {len cap : Nat} {lo hi mx : Option Value} {l u m : Int} (hl : bnd lo 0 l) (hu : bnd hi len u) (hm : bnd mx cap m) (hh : mx.isSome = true → hi.isSome = true)
    (h0 : 0 ≤ l) (h1 : l ≤ u) (h2 : u ≤ m) (h3 : m ≤ cap) (w : World) : (Instr.sliceBounds isSlice len cap lo hi mx).run P w = .ok (l.toNat, u.toNat, m.toNat) w := by
  have em : (m.toNat : Int) = m := Int.toNat_of_nonneg (by omega)
  have eu : (u.toNat : Int) = u := Int.toNat_of_nonneg (by omega)
  rcases hm with ⟨rfl, rfl⟩ | ⟨km, rfl⟩
  · rcases hu with ⟨rfl, rfl⟩ | ⟨ku, rfl⟩
    · rcases hl with ⟨rfl, rfl⟩ | ⟨kl, rfl⟩
      · simp [Instr.sliceBounds]
      · have := run_sliceBound (P := P) w kl l len .sliceB h0 h1
        simp [Instr.sliceBounds, this]
    · have a := fun c => run_sliceBound (P := P) w ku u cap c (by omega) (by omega)
      rcases hl with ⟨rfl, rfl⟩ | ⟨kl, rfl⟩
      · simp [Instr.sliceBounds, a]
      · have b := run_sliceBound (P := P) w kl l u.toNat .sliceB h0 (by omega)
        simp [Instr.sliceBounds, a, b]
  · rcases hu with ⟨rfl, rfl⟩ | ⟨ku, rfl⟩
    · simp at hh
    · have c := fun c => run_sliceBound (P := P) w km m cap c (by omega) h3
      have a := fun c => run_sliceBound (P := P) w ku u m.toNat c (by omega) (by omega)
      rcases hl with ⟨rfl, rfl⟩ | ⟨kl, rfl⟩
      · simp [Instr.sliceBounds, a, c]
      · have b := fun c => run_sliceBound (P := P) w kl l u.toNat c h0 (by omega)
        simp [Instr.sliceBounds, a, b, c]

theorem bnd_low {x : Option Operand} {l : Int} (he : ∀ x, RepV ι imm w (ev x) (ρ x)) (hl : lowOf (x.map ev) = some l) : bnd (x.map ρ) 0 l := by
  cases x with
  | none => cases hl; exact .inl ⟨rfl, rfl⟩
  | some x =>
    have h1 := he x
    simp only [Option.map_some] at hl ⊢
    generalize ev x = v at hl h1
    unfold lowOf at hl
    split at hl
    · rename_i e; cases e
    · rename_i k n e; cases e; cases hl
      exact .inr ⟨k, congrArg some (repI h1)⟩
    · cases hl
theorem bnd_high {x : Option Operand} {len : Nat} {l : Int} (he : ∀ x, RepV ι imm w (ev x) (ρ x)) (hl : highOf Ω len (x.map ev) = some l) : bnd (x.map ρ) len l := by
  cases x with
  | none => cases hl; exact .inl ⟨rfl, rfl⟩
  | some x =>
    have h1 := he x
    simp only [Option.map_some] at hl ⊢
    generalize ev x = v at hl h1
    unfold highOf at hl
    split at hl
    · rename_i e; cases e
    · rename_i k n e; cases e; cases hl
      exact .inr ⟨k, congrArg some (repI h1)⟩
    · cases hl
/-- the third bound: where it is left out it is the capacity -/
theorem bnd_max {x : Option Operand} {len cap : Nat} {m : Int} (he : ∀ x, RepV ι imm w (ev x) (ρ x)) (hl : highOf Ω len (x.map ev) = some m) (hc : len ≤ cap) : ∃ m' : Int, bnd (x.map ρ) cap m' ∧ m ≤ m' ∧ (m ≤ len → m' ≤ cap) := by
  cases x with
  | none => cases hl; exact ⟨cap, .inl ⟨rfl, rfl⟩, by simp only [w_ci]; omega, fun _ => Int.le_refl _⟩
  | some x =>
    have := bnd_high he hl
    rcases this with ⟨e, _⟩ | ⟨k, e⟩
    · cases e
    · exact ⟨m, .inr ⟨k, e⟩, Int.le_refl _, fun _ => by omega⟩

variable (I : Inv ι imm h w) (tt : TTok P E.tt) (he : ∀ x, RepV ι imm w (ev x) (ρ x))
include I tt he

theorem op_slice {T : TypeId} {x : Operand} {lo hi mx : Option Operand} (ho : o.op = .slice T x lo hi mx) (hK : opR Ω E draw ev h o.op id K) : Done ι imm h w K ((execOp ρ o).run P w) := by
  rw [ho] at hK
  have h1 := he x
  simp only [opR, w_slen, w_sget, w_ssub, w_sset, w_srep, w_scat, BrG_eq, DK_eq, w_ci, w_iand, w_ior, w_ixor, w_ishl, w_ishr, w_wrap, w_tmod, w_lt, w_le, w_eq, w_ne, w_ile, w_ilt, w_tn, w_nadd, w_nsub, w_nlt, w_leb, w_room, w_imax, w_imin] at hK
  split at hK
  · rename_i sz by' z e ht
    have hT := tt _ _ ht
    have hu := hT.und
    have ee := elem_of hu
    have hu' : P.underlying T = some (.slice (P.elem T)) := by rw [ee]; exact hu
    split at hK
    · rename_i i hi'
      have hj := tt _ _ hi'
      have run : ∀ (a : Option Addr) (len cap : Nat) (l u m : Int), bnd (lo.map ρ) 0 l → bnd (hi.map ρ) len u → bnd (mx.map ρ) cap m → (mx.isSome = true → hi.isSome = true) → 0 ≤ l → l ≤ u → u ≤ m → m ≤ cap →
          (Instr.sliceAt T (.slice a len cap) (lo.map ρ) (hi.map ρ) (mx.map ρ)).run P w = .ok (sliced a l.toNat u.toNat m.toNat i.size) w := fun a len cap l u m b1 b2 b3 hh h0 h1 h2 h3 => by
        rw [run_sliceAt_slice (h := hu'), run_slice_any (ht := hu'), run_bounds b1 b2 b3 (by simpa using hh) h0 h1 h2 h3, ee]
        simp only [Result.andThen_ok, hj.run_size]
      split at hK
      · rename_i xs hx
        rw [hx] at h1
        obtain ⟨a, c, h2, h3⟩ := repSl h1
        split at hK
        · rename_i l u m hl hu'' hm
          obtain ⟨h0, hlu, hum, hmx, hh, huni, hK⟩ := hK
          have hlc : xs.length ≤ c := by
            cases h3 with
            | sl0 => simp
            | sl => assumption
          obtain ⟨m', b3, hmm, hmc⟩ := bnd_max (cap := c) he hm hlc
          have hr := run a xs.length c l u m' (bnd_low he hl) (bnd_high he hu'') b3 hh h0 hlu (by omega) (hmc hmx)
          refine Done.val (v := sliced a l.toNat u.toNat m'.toNat i.size) I ?_ hK ?_
          · simp only [execOp, ho, h2, Sem.run_bind, Sem.run_pure, Result.andThen_ok, hr]
          · show RepC imm w (.sl _) _
            unfold sliced
            by_cases hz : u.toNat - l.toNat = 0
            · rw [hz, List.take_zero]
              exact .sl0 _ _
            · rw [if_neg (by omega)]
              have h3' := h3
              cases h3 with
              | sl0 => simp at hmx; omega
              | sl _ g off =>
                simp only [Option.map_some, addr_add]
                exact h3'.piece huni (by omega) (by omega)
        · exact hK.elim
      · rename_i j sz' hx
        rw [hx] at h1
        split at hK
        · rename_i l' e' z' xs hj'
          split at hK
          · rename_i hlm
            obtain ⟨rfl, hmx0⟩ := hlm
            split at hK
            · rename_i ku u km m hu2 hm2
              obtain ⟨rfl, rfl, rfl, h0, hum, hmx, hid, hK⟩ := hK
              obtain ⟨v', h4, h6⟩ := I.blk j _ hj'
              obtain ⟨h7, h8⟩ := h1
              rw [h7] at h4; cases h4
              obtain ⟨cells, ho', hux, hcx⟩ := h6
              have b1 : bnd ((none : Option Operand).map ρ) 0 0 := .inl ⟨rfl, rfl⟩
              have b2 : ∀ len : Nat, bnd (hi.map ρ) len u := fun len => bnd_high (ι := ι) (imm := imm) (w := w) he (len := len) (by rw [hu2]; rfl)
              have b3 : ∀ cap : Nat, bnd (mx.map ρ) cap m := fun cap => bnd_high (ι := ι) (imm := imm) (w := w) he (len := cap) (by rw [hm2]; rfl)
              have hh : mx.isSome = true → hi.isSome = true := fun _ => by cases hi with
                | none => cases hu2
                | some _ => rfl
              have hne : j ≠ id := fun q => by subst q; rw [hid] at hj'; cases hj'
              rcases ho'.2 with ⟨h9, hn⟩ | ⟨g, cap, cur, h9, hb0, hg, hnc, hcm, hcs, htake⟩
              · have hr := run none 0 0 0 u m b1 (b2 0) (b3 0) hh (Int.le_refl _) h0 hum (by omega)
                have g1 := I.giveUp hj'
                have hid2 : upd h j (some Blk.dead) id = none := by rw [upd_other _ _ _ _ (Ne.symm hne)]; exact hid
                have hxs : xs = [] := List.eq_nil_of_length_eq_zero hn
                subst hxs
                simp only [List.drop_zero, List.take_nil] at hK
                have st := g1.1.fresh hid2 (.slice none 0 0) (.row true e' i.size []) (w' := w) (Nat.le_refl _) (fun _ _ => rfl) rfl rfl rfl (fun g hg => by cases hg)
                  ⟨[], rowOwn_nil w 0 e' i.size, fun _ q => absurd q List.not_mem_nil, fun _ _ q => absurd q (Nat.not_lt_zero _)⟩
                have hv : sliced none (0 : Int).toNat u.toNat m.toNat i.size = .slice none 0 0 := by
                  have hm0 : m.toNat = 0 := by simp at hmx; omega
                  have hu0 : u.toNat = 0 := by omega
                  unfold sliced
                  rw [hm0, hu0]
                  split <;> rfl
                rw [hv] at hr
                refine ⟨_, .slice none 0 0, _, _, imm, .inl ?_, hK, g1.2.trans st.2, st.1, ⟨upd_same _ _ _, .inl rfl⟩⟩
                simp only [execOp, ho, h9, Sem.run_bind, Sem.run_pure, Result.andThen_ok, hr]
              · have hr := run (some ⟨g, 0, none⟩) xs.length cap 0 u m b1 (b2 _) (b3 cap) hh (Int.le_refl _) h0 hum (by omega)
                have hv : sliced (some ⟨g, 0, none⟩) (0 : Int).toNat u.toNat m.toNat i.size = .slice (some ⟨g, 0, none⟩) u.toNat m.toNat := by
                  unfold sliced
                  by_cases hm0 : m.toNat = 0
                  · have hu0 : u.toNat = 0 := by omega
                    simp [hm0, hu0]
                  · simp [hm0, addr_add]
                rw [hv] at hr
                rw [h9] at h7
                have st := I.moved hj' rfl h7 rfl hid (v := .slice (some ⟨g, 0, none⟩) u.toNat m.toNat) (B := .row true e' i.size ((xs.drop 0).take u.toNat)) (w' := w) (Nat.le_refl _) (fun _ _ _ => rfl) rfl rfl rfl rfl ?_
                · refine ⟨_, .slice (some ⟨g, 0, none⟩) u.toNat m.toNat, _, _, imm, .inl ?_, hK, st.2, st.1, ⟨upd_same _ _ _, .inr ⟨_, _, _, rfl⟩⟩⟩
                  simp only [execOp, ho, h9, Sem.run_bind, Sem.run_pure, Result.andThen_ok, hr]
                · have hul : ((xs.drop 0).take u.toNat).length = u.toNat := by simp; omega
                  have hle : u.toNat * i.size ≤ xs.length * i.size := Nat.mul_le_mul_right _ (by omega)
                  have hcl : cells.length = xs.length * i.size := ho'.1
                  refine ⟨cells.take (u.toNat * i.size), ⟨?_, .inr ⟨g, m.toNat, cur, by rw [hul], Nat.zero_le _, hg, by rw [hul]; omega, by omega, Nat.le_trans (Nat.mul_le_mul_right _ (by omega)) hcs, ?_⟩⟩, fun x hx => hux x (by simpa using List.mem_of_mem_take hx), fun a b ha hb => ?_⟩
                  · rw [hul, List.length_take]; omega
                  · rw [hul, ← htake, List.take_take, Nat.min_eq_left hle]
                  · rw [hul] at ha
                    have hlt : a * i.size + b < u.toNat * i.size := by
                      have := Nat.mul_le_mul_right i.size (Nat.succ_le_of_lt ha); rw [Nat.succ_mul] at this; omega
                    have e1 : ((xs.drop 0).take u.toNat).getD a .np = xs.getD a .np := by simp [List.getD, ha]
                    have e2 : (cells.take (u.toNat * i.size)).getD (a * i.size + b) undef = cells.getD (a * i.size + b) undef := by simp [List.getD, hlt]
                    rw [e1, e2]
                    exact hcx a b (by omega) hb
            · exact hK.elim
          split at hK
          · rename_i l u m hl hu'' hm
            obtain ⟨rfl, rfl, h0, hlu, hum, hmx, hh, hK⟩ := hK
            obtain ⟨v', h4, h6⟩ := I.blk j _ hj'
            obtain ⟨h7, h8⟩ := h1
            rw [h7] at h4; cases h4
            have hform : ρ x = .slice none 0 0 ∧ xs.length = 0 ∨ ∃ g cap, ρ x = .slice (some ⟨g, 0, none⟩) xs.length cap ∧ xs.length ≤ cap := by
              rcases h8 with h8 | ⟨g, n, cap, h8⟩
              · left
                refine ⟨h8, ?_⟩
                rw [h8] at h6
                cases l' with
                | true =>
                  obtain ⟨cells, ho', _⟩ := h6
                  rcases ho'.2 with ⟨_, hn⟩ | ⟨g, cap, cur, c, _⟩
                  · exact hn
                  · cases c
                | false => exact h6.1.len.symm
              · right
                rw [h8] at h6
                cases l' with
                | true =>
                  obtain ⟨cells, ho', _⟩ := h6
                  rcases ho'.2 with ⟨c, _⟩ | ⟨g', cap', cur, c, _, _, hc, _⟩
                  · cases c
                  · cases c; exact ⟨g, cap, h8, hc⟩
                | false =>
                  have hn := h6.1.len
                  subst hn
                  refine ⟨g, cap, h8, ?_⟩
                  cases h6.1 with
                  | sl0 => simp
                  | sl => assumption
            rcases hform with ⟨h9, hn⟩ | ⟨g, cap, h9, hc⟩
            · obtain ⟨m', b3, hmm, hmc⟩ := bnd_max (cap := 0) he hm (by omega)
              have hu2 := bnd_high (ι := ι) (imm := imm) (w := w) he hu''
              rw [hn] at hu2
              have hr := run none 0 0 l u m' (bnd_low he hl) hu2 b3 hh h0 hlu (by omega) (hmc (by omega))
              refine Done.val (v := sliced none l.toNat u.toNat m'.toNat i.size) I ?_ hK (.inr ⟨⟨_, h7⟩, by omega, none, ?_⟩)
              · simp only [execOp, ho, h9, Sem.run_bind, Sem.run_pure, Result.andThen_ok, hr]
              · have hm0 := hmc (by omega)
                unfold sliced
                rw [show u.toNat - l.toNat = 0 by omega, show m'.toNat - l.toNat = 0 by omega]
                split <;> rfl
            · obtain ⟨m', b3, hmm, hmc⟩ := bnd_max (cap := cap) he hm hc
              have hr := run (some ⟨g, 0, none⟩) xs.length cap l u m' (bnd_low he hl) (bnd_high he hu'') b3 hh h0 hlu (by omega) (hmc hmx)
              have hmc' := hmc hmx
              refine Done.val (v := sliced (some ⟨g, 0, none⟩) l.toNat u.toNat m'.toNat i.size) I ?_ hK ?_
              · simp only [execOp, ho, h9, Sem.run_bind, Sem.run_pure, Result.andThen_ok, hr]
              · unfold sliced
                by_cases hml : m'.toNat = l.toNat
                · rw [if_pos hml]
                  refine .inr ⟨⟨_, h7⟩, by omega, some ⟨g, 0, none⟩, ?_⟩
                  rw [show u.toNat - l.toNat = 0 by omega, show m'.toNat - l.toNat = 0 by omega]
                · rw [if_neg hml]
                  refine .inl ⟨g, xs.length, cap, m'.toNat - l.toNat, h9 ▸ h7, ?_, by omega, by omega⟩
                  simp only [Option.map_some, addr_add, Nat.zero_add]
          · exact hK.elim
        · exact hK.elim
      · rename_i j sz' off len hx
        rw [hx] at h1
        split at hK
        · rename_i l u m hl hu'' hm
          obtain ⟨rfl, h0, hlu, hum, hmx, hh, hK⟩ := hK
          rcases h1 with ⟨g, n, cap, c, h2, h3, h4, h5⟩ | ⟨⟨q, h2⟩, rfl, base, h3⟩
          · obtain ⟨m', b3, hmm, hmc⟩ := bnd_max (cap := c) he hm h4
            have hmc' := hmc hmx
            have hr := run (some ⟨g, off * i.size, none⟩) len c l u m' (bnd_low he hl) (bnd_high he hu'') b3 hh h0 hlu (by omega) hmc'
            refine Done.val (v := sliced (some ⟨g, off * i.size, none⟩) l.toNat u.toNat m'.toNat i.size) I ?_ hK ?_
            · simp only [execOp, ho, h3, Sem.run_bind, Sem.run_pure, Result.andThen_ok, hr]
            · unfold sliced
              by_cases hml : m'.toNat = l.toNat
              · rw [if_pos hml]
                refine .inr ⟨⟨_, h2⟩, by omega, some ⟨g, off * i.size, none⟩, ?_⟩
                rw [show u.toNat - l.toNat = 0 by omega, show m'.toNat - l.toNat = 0 by omega]
              · rw [if_neg hml]
                refine .inl ⟨g, n, cap, m'.toNat - l.toNat, h2, ?_, by omega, by omega⟩
                simp only [Option.map_some, addr_add, Nat.add_mul]
          · obtain ⟨m', b3, hmm, hmc⟩ := bnd_max (cap := 0) he hm (Nat.le_refl _)
            have hmc' := hmc hmx
            have hr := run base 0 0 l u m' (bnd_low he hl) (bnd_high he hu'') b3 hh h0 hlu (by omega) hmc'
            refine Done.val (v := sliced base l.toNat u.toNat m'.toNat i.size) I ?_ hK (.inr ⟨⟨_, h2⟩, by omega, if m'.toNat = l.toNat then base else base.map (·.add (l.toNat * i.size)), ?_⟩)
            · simp only [execOp, ho, h3, Sem.run_bind, Sem.run_pure, Result.andThen_ok, hr]
            · unfold sliced
              rw [show u.toNat - l.toNat = 0 by omega, show m'.toNat - l.toNat = 0 by omega]
        · exact hK.elim
      · exact hK.elim
    · exact hK.elim
  · rename_i sz by' z ht
    have hT := tt _ _ ht
    have hu := hT.und
    split at hK
    · rename_i b hx
      rw [hx] at h1
      have h2 := repS h1
      split at hK
      · rename_i l u hl hu''
        obtain ⟨rfl, h0, hlu, hus, hK⟩ := hK
        have hr := run_bounds (P := P) (isSlice := false) (len := b.size) (cap := b.size) (mx := none) (m := b.size) (bnd_low he hl) (bnd_high he hu'') (.inl ⟨rfl, rfl⟩) (by simp) h0 hlu hus (Int.le_refl _) w
        refine Done.val (v := .string (b.extract l.toNat u.toNat)) I ?_ hK (.s _)
        simp only [execOp, ho, h2, Option.map_none]
        rw [show ∀ a b c d, (do let x ← Instr.sliceAt T a b c d; pure (Next.value x) : Sem Next) = (Instr.sliceAt T a b c d >>= fun x => pure (Next.value x)) from fun _ _ _ _ => rfl]
        rw [Sem.run_bind, run_sliceAt_string (h := hu)]
        simp only [Instr.slice, Sem.run_bind, run_underlying hu, Result.andThen_ok, Option.isSome_none, Bool.false_eq_true, if_false, hr, Sem.run_pure]
      · exact hK.elim
    · exact hK.elim
  · exact hK.elim

theorem op_convert {S T : TypeId} {x : Operand} (ho : o.op = .convert S T x) (hK : opR Ω E draw ev h o.op id K) : Done ι imm h w K ((execOp ρ o).run P w) := by
  rw [ho] at hK
  have h1 := he x
  simp only [opR, w_slen, w_sget, w_ssub, w_sset, w_srep, w_scat, BrG_eq, DK_eq, w_ci, w_iand, w_ior, w_ixor, w_ishl, w_ishr, w_wrap, w_tmod, w_lt, w_le, w_eq, w_ne, w_ile, w_ilt, w_tn, w_nadd, w_nsub, w_nlt, w_leb, w_room, w_imax, w_imin] at hK
  split at hK
  · rename_i i sz by' z k k' n hs ht hx
    have hS := (tt _ _ hs).und
    have hT := (tt _ _ ht).und
    rw [hx] at h1
    have h2 := repI h1
    refine Done.val (v := .int k (k.wrap n)) I ?_ hK (.i _ _)
    simp only [execOp, ho, h2, convert, Sem.run_bind, run_underlying hS, run_underlying hT, Result.andThen_ok, Conv.intToInt, Sem.run_pure]
  · rename_i b hs ht hx
    have hS := (tt _ _ hs).und
    have hT := (tt _ _ ht).und
    rw [hx] at h1
    have h2 := repS h1
    refine Done.val (v := .string b) I ?_ hK (.s _)
    simp only [execOp, ho, h2, convert, Sem.run_bind, run_underlying hS, run_underlying hT, Result.andThen_ok, Sem.run_pure]
  · exact hK.elim

theorem op_makeInterface {T : TypeId} {x : Operand} (ho : o.op = .makeInterface T x) (hK : opR Ω E draw ev h o.op id K) : Done ι imm h w K ((execOp ρ o).run P w) := by
  rw [ho] at hK
  have h1 := he x
  simp only [opR, w_slen, w_sget, w_ssub, w_sset, w_srep, w_scat, BrG_eq, DK_eq, w_ci, w_iand, w_ior, w_ixor, w_ishl, w_ishr, w_wrap, w_tmod, w_lt, w_le, w_eq, w_ne, w_ile, w_ilt, w_tn, w_nadd, w_nsub, w_nlt, w_leb, w_room, w_imax, w_imin] at hK
  split at hK
  · rename_i k n ht hx
    have hT := (tt _ _ ht).und
    rw [hx] at h1
    have h2 := repI h1
    refine Done.val (v := .iface T (.int k n)) I ?_ hK (.ifc _ _ _ (.i _ _))
    simp only [execOp, ho, h2, Instr.makeInterface, Sem.run_bind, run_underlying hT, Result.andThen_ok, Sem.run_pure]
  · exact hK.elim

theorem op_unOp {op : UnOp} {T : TypeId} {x : Operand} (ho : o.op = .unOp op T x) (hK : opR Ω E draw ev h o.op id K) : Done ι imm h w K ((execOp ρ o).run P w) := by
  rw [ho] at hK
  have h1 := he x
  simp only [opR, w_slen, w_sget, w_ssub, w_sset, w_srep, w_scat, BrG_eq, DK_eq, w_ci, w_iand, w_ior, w_ixor, w_ishl, w_ishr, w_wrap, w_tmod, w_lt, w_le, w_eq, w_ne, w_ile, w_ilt, w_tn, w_nadd, w_nsub, w_nlt, w_leb, w_room, w_imax, w_imin] at hK
  split at hK
  · rename_i t hx
    rw [hx] at h1
    have h2 := repB h1
    refine Done.val (v := .bool (!t)) I ?_ hK (.b _)
    simp only [execOp, ho, h2, Op.unary, Sem.run_bind, Result.andThen_ok, Sem.run_pure]
  · rename_i k n hx
    rw [hx] at h1
    have h2 := repI h1
    refine Done.val (v := .int k (k.wrap (0 - n))) I ?_ hK (.i _ _)
    simp only [execOp, ho, h2, Op.unary, Op.intArith, Sem.run_bind, Result.andThen_ok, Sem.run_pure]
  · rename_i k n hx
    rw [hx] at h1
    have h2 := repI h1
    refine Done.val (v := .int k _) I ?_ hK (.i _ _)
    simp only [execOp, ho, h2, Op.unary, Op.intBits, Sem.run_bind, Result.andThen_ok, Sem.run_pure]
  · exact hK.elim

end
end Go.K
end
section
/-
  K, part 9: each operation does what 'opR' says, continued. No macro, syntax, notation, axiom, sorry.
-/
namespace Go.K
open Go
set_option linter.unusedSectionVars false
set_option linter.unusedVariables false
set_option linter.unusedSimpArgs false

section
variable {ι : Nat → Option Value} {imm : Nat → Prop} {h : Heap} {w : World} {K : Out → Prop}
variable {P : Program} {E : Env} {draw : Bool} {ev : Operand → V} {ρ : Operand → Value} {o : Oper} {id : Nat}

theorem eqGuard_int (op : BinOp) (T : TypeId) (x y : Operand) (k k' : IntKind) (a c : Int) : (eqGuard op T x y (.int k a) (.int k' c)).run P w = .ok () w := by
  unfold eqGuard
  split <;> rfl
theorem eqGuard_bool (op : BinOp) (T : TypeId) (x y : Operand) (a c : Bool) : (eqGuard op T x y (.bool a) (.bool c)).run P w = .ok () w := by
  unfold eqGuard
  split <;> rfl
theorem eqGuard_slice (op : BinOp) (T : TypeId) (x y : Operand) (a a' : Option Addr) (n c n' c' : Nat) : (eqGuard op T x y (.slice a n c) (.slice a' n' c')).run P w = .ok () w := by
  unfold eqGuard
  split <;> rfl

theorem eqGuard_str (op : BinOp) (T : TypeId) (x y : Operand) (a c : ByteArray) : (eqGuard op T x y (.string a) (.string c)).run P w = .ok () w := by
  unfold eqGuard
  split <;> rfl

theorem run_equalIn_bool (d : Nat) (T : TypeId) (a c : Bool) (hu : P.underlying T = some .bool) : (Op.equalIn (d + 1) T (.bool a) (.bool c)).run P w = .ok (a == c) w := by
  simp [Op.equalIn, run_underlying hu]
theorem run_equal_bool (T : TypeId) (a c : Bool) (hu : P.underlying T = some .bool) : (Op.equal T (.bool a) (.bool c)).run P w = .ok (a == c) w := run_equalIn_bool 9999 T a c hu

def toVal : D → Value
  | .b x => .bool x
  | .i k n => .int k n
  | .s x => .string x
  | _ => undef
theorem run_binD (tt : TTok P E.tt) {op : BinOp} {T : TypeId} {a c r : D} {va vc : Value} (hd : binD Ω op a c = some r) (ha : RepV ι imm w (.d a) va) (hc : RepV ι imm w (.d c) vc) (hb : eqTy E.tt T a)
    (x y : Operand) : ∃ v, (do eqGuard op T x y va vc; binOp op T va vc : Sem Value).run P w = .ok v w ∧ RepV ι imm w (.d r) v := by
  suffices hh : (do eqGuard op T x y va vc; binOp op T va vc : Sem Value).run P w = .ok (toVal r) w ∧ RepV ι imm w (.d r) (toVal r) from ⟨_, hh⟩
  cases a with
  | i k n =>
    cases c with
    | i k' m =>
      have e1 := repI ha
      have e2 := repI hc
      subst e1 e2
      by_cases hk : k = k'
      · subst hk
        rw [Sem.run_bind, eqGuard_int]
        simp only [Result.andThen_ok]
        cases op <;> simp only [binD, if_true, Option.some.injEq, reduceCtorEq] at hd
        all_goals subst hd
        all_goals refine ⟨?_, (by first | exact RepC.i _ _ | exact RepC.b _)⟩
        all_goals simp [binOp, Op.intArith, Op.intCmp, toVal, w_wrap, w_lt, w_le, w_eq, w_ne]
      · cases op <;> simp only [binD, if_neg hk] at hd <;> cases hd
    | _ => cases op <;> simp [binD] at hd
  | b t =>
    cases c with
    | b t' =>
      have e1 := repB ha
      have e2 := repB hc
      subst e1 e2
      have hu : P.underlying T = some .bool := by
        simp only [eqTy] at hb
        split at hb
        · rename_i ht; exact (tt _ _ ht).und
        · exact hb.elim
      rw [Sem.run_bind, eqGuard_bool]
      simp only [Result.andThen_ok]
      cases op <;> simp only [binD, Option.some.injEq, reduceCtorEq] at hd
      all_goals subst hd
      all_goals refine ⟨?_, (by first | exact RepC.i _ _ | exact RepC.b _)⟩
      all_goals simp only [binOp]
      all_goals simp [run_equal_bool (w := w) T _ _ hu, toVal]
    | _ => cases op <;> simp [binD] at hd
  | s t =>
    cases c with
    | s t' =>
      have e1 := repS ha
      have e2 := repS hc
      subst e1 e2
      rw [Sem.run_bind, eqGuard_str]
      simp only [Result.andThen_ok]
      cases op <;> simp only [binD, Option.some.injEq, reduceCtorEq] at hd
      all_goals subst hd
      all_goals refine ⟨?_, (by first | exact RepC.i _ _ | exact RepC.b _)⟩
      all_goals simp [binOp, Op.stringOp, toVal]
    | _ => cases op <;> simp [binD] at hd
  | _ => cases op <;> cases c <;> simp [binD] at hd

variable (I : Inv ι imm h w) (tt : TTok P E.tt) (he : ∀ x, RepV ι imm w (ev x) (ρ x))
include I tt he

theorem op_binOp {op : BinOp} {T U : TypeId} {x y : Operand} (ho : o.op = .binOp op T x y U) (hK : opR Ω E draw ev h o.op id K) : Done ι imm h w K ((execOp ρ o).run P w) := by
  rw [ho] at hK
  have h1 := he x
  have h1y := he y
  simp only [opR, w_slen, w_sget, w_ssub, w_sset, w_srep, w_scat, BrG_eq, DK_eq, w_ci, w_iand, w_ior, w_ixor, w_ishl, w_ishr, w_wrap, w_tmod, w_lt, w_le, w_eq, w_ne, w_ile, w_ilt, w_tn, w_nadd, w_nsub, w_nlt, w_leb, w_room, w_imax, w_imin] at hK
  have fin : ∀ v (r : D), (binOp op T (ρ x) (ρ y)).run P w = .ok v w → (eqGuard op T x y (ρ x) (ρ y)).run P w = .ok () w → RepV ι imm w (.d r) v → K { v := .d r } → Done ι imm h w K ((execOp ρ o).run P w) := fun v r hr hg hR hk => by
    refine Done.val (v := v) I ?_ hk hR
    simp only [execOp, ho, Sem.run_bind, hg, Result.andThen_ok, hr, Sem.run_pure]
  have finI : ∀ (k : IntKind) (n : Int), (binOp op T (ρ x) (ρ y)).run P w = .ok (.int k n) w → (eqGuard op T x y (ρ x) (ρ y)).run P w = .ok () w → K { v := .d (.i k n) } → Done ι imm h w K ((execOp ρ o).run P w) :=
    fun k n hr hg hk => fin (.int k n) (.i k n) hr hg (RepC.i k n) hk
  split at hK
  · rename_i xs hx hy
    rw [hx] at h1
    rw [hy] at h1y
    obtain ⟨a, c, h2, h3⟩ := repSl h1
    have h4 : ρ y = .slice none 0 0 := h1y
    obtain ⟨_, rfl, hty, hK⟩ := hK
    have hu : ∃ e, P.underlying T = some (.slice e) := by
      split at hty
      · rename_i ht; exact ⟨_, (tt _ _ ht).und⟩
      · exact hty.elim
    obtain ⟨e, hu⟩ := hu
    refine fin (.bool a.isNone) (.b a.isNone) ?_ (by rw [h2, h4]; exact eqGuard_slice _ _ _ _ _ _ _ _ _ _) (RepC.b _) (hK a.isNone fun ha => ?_)
    · rw [h2, h4]
      simp only [binOp]
      simp [run_equal_slice_nil w T e a xs.length c hu]
    · cases h3 with
      | sl0 => rfl
      | sl => cases ha
  · rename_i a c hx hy
    rw [hx] at h1
    rw [hy] at h1y
    split at hK
    · rename_i r hd
      obtain ⟨hty, hK⟩ := hK
      obtain ⟨v, hr, hR⟩ := run_binD (ι := ι) (imm := imm) (w := w) tt hd h1 h1y hty x y
      refine Done.val (v := v) I ?_ hK hR
      simp only [execOp, ho, Sem.run_bind] at hr ⊢
      rw [hr]
      rfl
    · split at hK
      · rename_i a c _
        obtain ⟨hsz, hK⟩ := hK
        have h2 := repS h1
        have h3 := repS h1y
        refine fin (.string (a ++ c)) (.s (a ++ c)) ?_ (by rw [h2, h3]; exact eqGuard_str _ _ _ _ _ _) (RepC.s (a ++ c)) hK
        rw [h2, h3]
        have : ¬ (IntKind.i64.max < ((a.size + c.size : Nat) : Int)) := by
          simp only [IntKind.max, IntKind.signed, IntKind.bits, if_true]
          omega
        simp only [binOp, Op.stringOp, gt_iff_lt, this, if_false]
        rfl
      · rename_i k n k' m _
        obtain ⟨rfl, hm, hK⟩ := hK
        have h2 := repI h1
        have h3 := repI h1y
        refine finI _ _ ?_ (by rw [h2, h3]; exact eqGuard_int _ _ _ _ _ _ _ _) hK
        rw [h2, h3]
        simp [binOp, Op.intDiv, hm]
      · rename_i k n k' m _
        obtain ⟨rfl, hm, hK⟩ := hK
        have h2 := repI h1
        have h3 := repI h1y
        refine finI _ _ ?_ (by rw [h2, h3]; exact eqGuard_int _ _ _ _ _ _ _ _) hK
        rw [h2, h3]
        simp [binOp, Op.intDiv, hm]
      · rename_i k n k' m _
        obtain ⟨hm, hK⟩ := hK
        have h2 := repI h1
        have h3 := repI h1y
        refine finI _ _ ?_ (by rw [h2, h3]; exact eqGuard_int _ _ _ _ _ _ _ _) hK
        rw [h2, h3]
        have : ¬ m < 0 := by omega
        simp [binOp, Op.shift, this]
      · rename_i k n k' m _
        obtain ⟨hm, hK⟩ := hK
        have h2 := repI h1
        have h3 := repI h1y
        refine finI _ _ ?_ (by rw [h2, h3]; exact eqGuard_int _ _ _ _ _ _ _ _) hK
        rw [h2, h3]
        have : ¬ m < 0 := by omega
        simp [binOp, Op.shift, this]
      · rename_i k n k' m _
        obtain ⟨rfl, hK⟩ := hK
        have h2 := repI h1
        have h3 := repI h1y
        refine finI _ _ ?_ (by rw [h2, h3]; exact eqGuard_int _ _ _ _ _ _ _ _) hK
        rw [h2, h3]
        simp only [binOp, ne_eq, not_true_eq_false, if_false, Op.intBits]
        rfl
      · rename_i k n k' m _
        obtain ⟨rfl, hK⟩ := hK
        have h2 := repI h1
        have h3 := repI h1y
        refine finI _ _ ?_ (by rw [h2, h3]; exact eqGuard_int _ _ _ _ _ _ _ _) hK
        rw [h2, h3]
        simp only [binOp, ne_eq, not_true_eq_false, if_false, Op.intBits]
        rfl
      · rename_i k n k' m _
        obtain ⟨rfl, hK⟩ := hK
        have h2 := repI h1
        have h3 := repI h1y
        refine finI _ _ ?_ (by rw [h2, h3]; exact eqGuard_int _ _ _ _ _ _ _ _) hK
        rw [h2, h3]
        simp only [binOp, ne_eq, not_true_eq_false, if_false, Op.intBits]
        rfl
      · exact hK.elim
  · exact hK.elim

end
end Go.K
end
section
/-
  K, part 10: the built-ins, and what is built. No macro, syntax, notation, axiom, sorry.
-/
namespace Go.K
open Go
set_option linter.unusedSectionVars false
set_option linter.unusedVariables false
set_option linter.unusedSimpArgs false

section
variable {ι : Nat → Option Value} {imm : Nat → Prop} {h : Heap} {w : World} {K : Out → Prop}
variable {P : Program} {E : Env} {draw : Bool} {ev : Operand → V} {ρ : Operand → Value} {o : Oper} {id : Nat}

theorem args_one {args : Array Operand} {x : V} (h : args.toList.map ev = [x]) : ∃ a, args = #[a] ∧ ev a = x := by
  obtain ⟨l⟩ := args
  cases l with
  | nil => cases h
  | cons a r =>
    cases r with
    | nil => cases h; exact ⟨a, rfl, rfl⟩
    | cons b r => cases h
theorem args_two {args : Array Operand} {x y : V} (h : args.toList.map ev = [x, y]) : ∃ a b, args = #[a, b] ∧ ev a = x ∧ ev b = y := by
  obtain ⟨l⟩ := args
  cases l with
  | nil => cases h
  | cons a r =>
    cases r with
    | nil => cases h
    | cons b r =>
      cases r with
      | nil => cases h; exact ⟨a, b, rfl, rfl, rfl⟩
      | cons c r => cases h
theorem types_one {ts : Array TypeId} {x : TypeId} (h : ts.toList = [x]) : ts = #[x] := by
  obtain ⟨l⟩ := ts; cases h; rfl
theorem types_two {ts : Array TypeId} {x y : TypeId} (h : ts.toList = [x, y]) : ts = #[x, y] := by
  obtain ⟨l⟩ := ts; cases h; rfl

/-- what an owned slice's value looks like -/
theorem own_form (I : Inv ι imm h w) {j : Nat} {l : Bool} {e z : Nat} {xs : List D} {sz : Nat} {v : Value} (hj : h j = some (.row l e z xs)) (hr : RepV ι imm w (.own j sz) v) :
    ι j = some v ∧ BlkRep ι imm w (.row l e z xs) v ∧ ((v = .slice none 0 0 ∧ xs = []) ∨ ∃ g cap, v = .slice (some ⟨g, 0, none⟩) xs.length cap ∧ xs.length ≤ cap) := by
  obtain ⟨v', h4, h6⟩ := I.blk j _ hj
  obtain ⟨h7, h8⟩ := hr
  rw [h7] at h4; cases h4
  refine ⟨h7, h6, ?_⟩
  rcases h8 with rfl | ⟨g, n, cap, rfl⟩
  · left
    refine ⟨rfl, List.eq_nil_of_length_eq_zero ?_⟩
    cases l with
    | true =>
      obtain ⟨cells, ho', _⟩ := h6
      rcases ho'.2 with ⟨_, hn⟩ | ⟨g, cap, cur, c, _⟩
      · exact hn
      · cases c
    | false => exact h6.1.len.symm
  · right
    cases l with
    | true =>
      obtain ⟨cells, ho', _⟩ := h6
      rcases ho'.2 with ⟨c, _⟩ | ⟨g', cap', cur, c, _, _, hc, _⟩
      · cases c
      · cases c; exact ⟨g, cap, rfl, hc⟩
    | false =>
      have hn := h6.1.len
      subst hn
      refine ⟨g, cap, rfl, ?_⟩
      cases h6.1 with
      | sl0 => simp
      | sl => assumption

variable (I : Inv ι imm h w) (tt : TTok P E.tt) (he : ∀ x, RepV ι imm w (ev x) (ρ x))
include I tt he

theorem op_len {args : Array Operand} {ts : Array TypeId} (ho : o.op = .call { callee := .builtin .len, args := args, argTypes := ts }) (hK : opR Ω E draw ev h o.op id K) : Done ι imm h w K ((execOp ρ o).run P w) := by
  rw [ho] at hK
  simp only [opR, w_slen, w_sget, w_ssub, w_sset, w_srep, w_scat, BrG_eq, DK_eq, w_ci, w_iand, w_ior, w_ixor, w_ishl, w_ishr, w_wrap, w_tmod, w_lt, w_le, w_eq, w_ne, w_ile, w_ilt, w_tn, w_nadd, w_nsub, w_nlt, w_leb, w_room, w_imax, w_imin] at hK
  split at hK
  · rename_i x T _ ha hT
    obtain ⟨a, rfl, rfl⟩ := args_one ha
    obtain rfl := types_one hT
    have h1 := he a
    have fin : ∀ n : Int, (Builtin.len_ #[T] o.type #[ρ a]).run P w = .ok (goInt n) w → (∃ rd, K { v := .d (.i .i64 n), rd := rd }) → Done ι imm h w K ((execOp ρ o).run P w) := fun n hr ⟨rd, hk⟩ => by
      refine Done.val (v := goInt n) (rd := rd) I ?_ hk (RepC.i _ _)
      simp [execOp, ho, resolve, invoke, builtin, hr]
    split at hK
    · rename_i xs ht hx
      have hu := (tt _ _ ht).und
      rw [hx] at h1
      obtain ⟨b, c, h2, _⟩ := repSl h1
      refine fin _ ?_ ⟨[], hK⟩
      rw [h2]; simp [Builtin.len_, run_underlying hu]
    · rename_i ht hx
      have hu := (tt _ _ ht).und
      rw [hx] at h1
      have h2 : ρ a = .slice none 0 0 := h1
      refine fin _ ?_ ⟨[], hK⟩
      rw [h2]; simp [Builtin.len_, run_underlying hu]
    · rename_i j sz ht hx
      have hu := (tt _ _ ht).und
      rw [hx] at h1
      split at hK
      · rename_i l e z xs hj
        obtain ⟨_, _, h2⟩ := own_form I hj h1
        refine fin _ ?_ ⟨[j], hK⟩
        rcases h2 with ⟨h2, rfl⟩ | ⟨g, cap, h2, _⟩
        · rw [h2]; simp [Builtin.len_, run_underlying hu]
        · rw [h2]; simp [Builtin.len_, run_underlying hu]
      · exact hK.elim
    · rename_i j sz off len ht hx
      have hu := (tt _ _ ht).und
      rw [hx] at h1
      refine fin _ ?_ ⟨[], hK⟩
      rcases h1 with ⟨g, n, cap, c, _, h2, _⟩ | ⟨_, rfl, base, h2⟩
      · rw [h2]; simp [Builtin.len_, run_underlying hu]
      · rw [h2]; simp [Builtin.len_, run_underlying hu]
    · rename_i b ht hx
      have hu := (tt _ _ ht).und
      rw [hx] at h1
      have h2 := repS h1
      refine fin _ ?_ ⟨[], hK⟩
      rw [h2]; simp [Builtin.len_, run_underlying hu]
    · rename_i n e ht
      have hu := (tt _ _ ht).und
      refine fin _ ?_ ⟨[], hK⟩
      simp [Builtin.len_, run_underlying hu]
    · exact hK.elim
  · rename_i hb _ _; cases hb
  · exact hK.elim

/-- 'make' -/
theorem op_makeSlice {T : TypeId} {l c : Operand} (ho : o.op = .makeSlice T l c) (hK : opR Ω E draw ev h o.op id K) : Done ι imm h w K ((execOp ρ o).run P w) := by
  rw [ho] at hK
  have h1l := he l
  have h1c := he c
  simp only [opR, w_slen, w_sget, w_ssub, w_sset, w_srep, w_scat, BrG_eq, DK_eq, w_ci, w_iand, w_ior, w_ixor, w_ishl, w_ishr, w_wrap, w_tmod, w_lt, w_le, w_eq, w_ne, w_ile, w_ilt, w_tn, w_nadd, w_nsub, w_nlt, w_leb, w_room, w_imax, w_imin] at hK
  split at hK
  · rename_i s1 s2 s3 e ht
    have hT := tt _ _ ht
    split at hK
    · rename_i size bytes z und hte
      have hE := tt _ _ hte
      split at hK
      · rename_i k n k' m hl hc
        rw [hl] at h1l
        rw [hc] at h1c
        have h2 := repI h1l
        have h3 := repI h1c
        split at hK
        · rename_i x hx
          obtain ⟨hid, hn, hnm, hb, h63, hpos, hxs, hK⟩ := hK
          obtain ⟨info, i1, i2, i3, i4⟩ := hE.ok
          have hzs := (hE.zero z rfl).1
          have hr := run_make (P := P) w T e info z hT.und i1 i4 k k' n m hn hnm (by rw [i3]; exact hb) (by omega)
          have hzrep : RepD imm w x z := toD_rep (h := h) (h1 := h) I (fun i hi => by
            exfalso
            have : idsOf (constV z) = [] := by
              have one : ∀ y, ids1 (const1 y) = [] := fun y => by
                unfold const1; split <;> rfl
              unfold constV
              split
              · split
                · simp only [idsOf]
                  rename_i cs _
                  have : ∀ l : List Value, (l.map const1).flatMap ids1 = [] := fun l => by
                    induction l with
                    | nil => rfl
                    | cons a r ih => simp only [List.map_cons, List.flatMap_cons, one, ih, List.append_nil]
                  exact this _
                · rfl
              · rename_i v hv
                have h0 := one z
                generalize hq : const1 z = q at h0
                cases q with
                | agg cs => exfalso; unfold const1 at hq; split at hq <;> cases hq
                | _ => exact h0
            rw [this] at hi; cases hi) (constV_rep ι imm w z) hx
          obtain ⟨c1, c2⟩ := repD_cells hzrep
          have hsz : info.size = size := i2
          have hcells : ∀ i j, j < size → i * size + j < m.toNat * size → (madeCells z.cells (m.toNat * info.size)).getD (i * size + j) undef = z.cells.getD j undef := fun i j hj hk => by
            have e1 : (i * size + j) % z.cells.size = j := by
              rw [hzs]
              show (i * size + j) % size = j
              rw [Nat.mul_comm, Nat.mul_add_mod, Nat.mod_eq_of_lt hj]
            have hlt : j < z.cells.size := by rw [hzs]; exact hj
            simp only [madeCells, hsz, Array.getD_eq_getD_getElem?, Array.getElem?_map]
            have : (Array.range (m.toNat * size))[i * size + j]? = some (i * size + j) := by simp [hk]
            rw [this]
            simp only [Option.map_some, Option.getD_some, e1]
            rw [getElem!_pos z.cells j hlt]
            simp [hlt]
          have hlen : (List.replicate n.toNat x).length = n.toNat := by simp
          have st := I.fresh hid (.slice (some ⟨w.heap.size, 0, none⟩) n.toNat m.toNat) (.row true e size (List.replicate n.toNat x)) (w' := w.alloc (.cells (madeCells z.cells (m.toNat * info.size)) e)) (by simp)
            (fun g hg => heap_alloc_old w _ g hg) rfl rfl rfl (fun g hg => by cases hg; exact Nat.le_refl _) ?_
          · refine ⟨_, _, _, _, imm, .inl ?_, hK, st.2, st.1, ⟨upd_same _ _ _, .inr ⟨_, _, _, rfl⟩⟩⟩
            simp [execOp, ho, h2, h3, hr]
          · have hmn : n.toNat * size ≤ m.toNat * size := Nat.mul_le_mul_right _ (by omega)
            refine ⟨(madeCells z.cells (m.toNat * info.size)).toList.take (n.toNat * size), ⟨?_, .inr ⟨w.heap.size, m.toNat, madeCells z.cells (m.toNat * info.size), ?_, Nat.zero_le _, heap_alloc_new w _, ?_, ?_, ?_, ?_⟩⟩, ?_, ?_⟩
            · rw [List.length_take, Array.length_toList, size_madeCells, hlen, hsz]; omega
            · rw [hlen]
            · rw [hlen]; omega
            · simp only [maxLen]; omega
            · rw [size_madeCells, hsz]; exact Nat.le_refl _
            · rw [hlen]
            · intro y hy
              rw [List.eq_of_mem_replicate hy]; exact hxs
            · intro i j hi hj
              rw [hlen] at hi
              have e1 : (List.replicate n.toNat x).getD i .np = x := by simp [List.getD, hi]
              have hk : i * size + j < n.toNat * size := by
                have := Nat.mul_le_mul_right size (Nat.succ_le_of_lt hi); rw [Nat.succ_mul] at this; omega
              have e2 : ((madeCells z.cells (m.toNat * info.size)).toList.take (n.toNat * size)).getD (i * size + j) undef = (madeCells z.cells (m.toNat * info.size)).getD (i * size + j) undef := by
                rw [List.getD_eq_getElem?_getD, List.getElem?_take, if_pos hk, Array.getD_eq_getD_getElem?, Array.getElem?_toList]
              rw [e1, e2, hcells i j hj (by omega)]
              exact (c2 j (by omega)).mono fun g hg => ⟨hg, heap_alloc_old w _ g (I.lt g hg)⟩
        · exact hK.elim
      · exact hK.elim
    · exact hK.elim
  · exact hK.elim

theorem op_max {args : Array Operand} {ts : Array TypeId} (ho : o.op = .call { callee := .builtin .max, args := args, argTypes := ts }) (hK : opR Ω E draw ev h o.op id K) : Done ι imm h w K ((execOp ρ o).run P w) := by
  rw [ho] at hK
  simp only [opR] at hK
  split at hK
  · rename_i k n k' m ha
    obtain ⟨a, b, rfl, h1, h2⟩ := args_two ha
    obtain ⟨rfl, hK⟩ := hK
    have r1 := he a
    have r2 := he b
    rw [h1] at r1
    rw [h2] at r2
    have e1 := repI r1
    have e2 := repI r2
    refine Done.val (v := .int k (Ω .imax n m)) I ?_ hK (RepC.i _ _)
    simp [execOp, ho, resolve, invoke, builtin, Builtin.max_, Builtin.max2, e1, e2, w_imax]
  · exact hK.elim
theorem op_min {args : Array Operand} {ts : Array TypeId} (ho : o.op = .call { callee := .builtin .min, args := args, argTypes := ts }) (hK : opR Ω E draw ev h o.op id K) : Done ι imm h w K ((execOp ρ o).run P w) := by
  rw [ho] at hK
  simp only [opR] at hK
  split at hK
  · rename_i k n k' m ha
    obtain ⟨a, b, rfl, h1, h2⟩ := args_two ha
    obtain ⟨rfl, hK⟩ := hK
    have r1 := he a
    have r2 := he b
    rw [h1] at r1
    rw [h2] at r2
    have e1 := repI r1
    have e2 := repI r2
    refine Done.val (v := .int k (Ω .imin n m)) I ?_ hK (RepC.i _ _)
    simp [execOp, ho, resolve, invoke, builtin, Builtin.min_, Builtin.min2, e1, e2, w_imin]
  · exact hK.elim

end
end Go.K
end
section
/-
  K, part 11: append, and what is built. No macro, syntax, notation, axiom, sorry.
-/
namespace Go.K
open Go
set_option linter.unusedSectionVars false
set_option linter.unusedVariables false
set_option linter.unusedSimpArgs false

section
variable {ι : Nat → Option Value} {imm : Nat → Prop} {h : Heap} {w : World} {K : Out → Prop}
variable {P : Program} {E : Env} {draw : Bool} {ev : Operand → V} {ρ : Operand → Value} {o : Oper} {id : Nat}

theorem split_ix {k n size : Nat} (hs : 0 < size) (h : k < n * size) : k / size < n ∧ k % size < size ∧ (k / size) * size + k % size = k :=
  ⟨(Nat.div_lt_iff_lt_mul hs).2 h, Nat.mod_lt _ hs, by rw [Nat.mul_comm]; exact Nat.div_add_mod k size⟩

theorem src_cells {ys : List D} {a : Option Addr} {n c size : Nat} (hr : RepC imm w (.sl ys) (.slice a n c)) (hu : ∀ u, u ∈ ys → u.cells.length = size) (hs : 0 < size) (hne : ys ≠ []) :
    ∃ (ad : Addr) (news : List Value), a = some ad ∧ n = ys.length ∧ news.length = ys.length * size ∧ (∀ j v, news[j]? = some v → w.cell? (ad.add j) = some v) ∧ (∀ u, u ∈ news → u.oneCell' = true) ∧
      ∀ i j, i < ys.length → j < size → RepC imm w ((ys.getD i .np).cells.getD j .np) (news.getD (i * size + j) undef) := by
  cases hr with
  | sl0 => exact absurd rfl hne
  | sl _ g off cap sz cs T fr _ hi hg hc hs' hb hr =>
    have hsz : sz = size := by
      cases ys with
      | nil => exact absurd rfl hne
      | cons a r => exact (hs' a (by simp)).symm.trans (hu a (by simp))
    subst hsz
    refine ⟨⟨g, off, none⟩, (List.range (ys.length * sz)).map fun k => cs.getD (off + k) undef, rfl, rfl, by simp, ?_, ?_, ?_⟩
    · intro j v hj
      have hlt : j < ys.length * sz := by
        have := (List.getElem?_eq_some_iff.1 hj).1; simpa using this
      obtain ⟨a1, a2, a3⟩ := split_ix hs hlt
      have hb' := hb _ _ a1 a2
      rw [a3] at hb'
      rw [addr_add]
      simp only [List.getElem?_map, List.getElem?_range hlt, Option.map_some, Option.some.injEq] at hj
      subst hj
      simp [World.cell?, hg, Array.getD, hb']
    · intro u hm
      simp only [List.mem_map, List.mem_range] at hm
      obtain ⟨k, hk, rfl⟩ := hm
      obtain ⟨a1, a2, a3⟩ := split_ix hs hk
      have := (hr _ _ a1 a2).one
      rw [a3] at this
      exact this
    · intro i j hi' hj
      have hk : i * sz + j < ys.length * sz := by
        have := Nat.mul_le_mul_right sz (Nat.succ_le_of_lt hi'); rw [Nat.succ_mul] at this; omega
      have e : ((List.range (ys.length * sz)).map fun k => cs.getD (off + k) undef).getD (i * sz + j) undef = cs.getD (off + (i * sz + j)) undef := by
        rw [List.getD_eq_getElem?_getD, List.getElem?_map, List.getElem?_range hk]; rfl
      rw [e]
      exact hr i j hi' hj

/-- cells of two rows, one behind the other -/
theorem cells_append {xs ys : List D} {cx cy : List Value} {size : Nat} (hx : cx.length = xs.length * size)
    (h1 : ∀ i j, i < xs.length → j < size → RepC imm w ((xs.getD i .np).cells.getD j .np) (cx.getD (i * size + j) undef))
    (h2 : ∀ i j, i < ys.length → j < size → RepC imm w ((ys.getD i .np).cells.getD j .np) (cy.getD (i * size + j) undef)) :
    ∀ i j, i < (xs ++ ys).length → j < size → RepC imm w (((xs ++ ys).getD i .np).cells.getD j .np) ((cx ++ cy).getD (i * size + j) undef) := by
  intro i j hi hj
  by_cases c : i < xs.length
  · have e1 : (xs ++ ys).getD i .np = xs.getD i .np := by simp [List.getD, List.getElem?_append, c]
    have hk : i * size + j < cx.length := by
      have := Nat.mul_le_mul_right size (Nat.succ_le_of_lt c); rw [Nat.succ_mul] at this; omega
    have e2 : (cx ++ cy).getD (i * size + j) undef = cx.getD (i * size + j) undef := by simp [List.getD, List.getElem?_append, hk]
    rw [e1, e2]; exact h1 i j c hj
  · have hi' : i - xs.length < ys.length := by simp at hi; omega
    have e1 : (xs ++ ys).getD i .np = ys.getD (i - xs.length) .np := by simp [List.getD, List.getElem?_append, c]
    have hm : i * size = xs.length * size + (i - xs.length) * size := by rw [← Nat.add_mul]; congr 1; omega
    have hk : ¬ i * size + j < cx.length := by rw [hx, hm]; omega
    have e2 : (cx ++ cy).getD (i * size + j) undef = cy.getD ((i - xs.length) * size + j) undef := by
      have : i * size + j - cx.length = (i - xs.length) * size + j := by rw [hx, hm]; omega
      simp [List.getD, List.getElem?_append, hk, this]
    rw [e1, e2]; exact h2 _ j hi' hj

/-- nothing is appended -/
theorem run_append_nothing {T ty e : TypeId} {info : TypeInfo} (hu : P.underlying T = some (.slice e)) (hi : P.info? e = some info) (base b : Option Addr) (n cap c : Nat) (hc : n ≤ cap) :
    (Builtin.append_ #[T, T] ty #[.slice base n cap, .slice b 0 c]).run P w = .ok (.slice base n cap) w := by
  have hf : (Builtin.firstCells info.size 0 (.slice b 0 c)).run P w = .ok #[] w := by
    cases b with
    | none => simp [Builtin.firstCells]
    | some b => simp [Builtin.firstCells, loadCells, loadCellsFrom]
  cases base with
  | none => simp [Builtin.append_, run_underlying hu, sizeOf, typeInfo, hi, Builtin.lenOf, hc, hf]
  | some a => simp [Builtin.append_, run_underlying hu, sizeOf, typeInfo, hi, Builtin.lenOf, hc, hf, storeCells]

variable (I : Inv ι imm h w) (tt : TTok P E.tt) (he : ∀ x, RepV ι imm w (ev x) (ρ x))
include I tt he

theorem op_append {args : Array Operand} {ts : Array TypeId} (ho : o.op = .call { callee := .builtin .append, args := args, argTypes := ts }) (hK : opR Ω E draw ev h o.op id K) : Done ι imm h w K ((execOp ρ o).run P w) := by
  rw [ho] at hK
  simp only [opR, w_slen, w_sget, w_ssub, w_sset, w_srep, w_scat, BrG_eq, DK_eq, w_ci, w_iand, w_ior, w_ixor, w_ishl, w_ishr, w_wrap, w_tmod, w_lt, w_le, w_eq, w_ne, w_ile, w_ilt, w_tn, w_nadd, w_nsub, w_nlt, w_leb, w_room, w_imax, w_imin] at hK
  split at hK
  · rename_i hb _ _; cases hb
  · rename_i x y T U _ ha hts
    obtain ⟨a, b, rfl, rfl, rfl⟩ := args_two ha
    obtain rfl := types_two hts
    have h1 := he a
    have h1b := he b
    split at hK
    · rename_i s1 s2 s3 e ht
      have hT := tt _ _ ht
      split at hK
      · rename_i size bytes z und hte
        have hE := tt _ _ hte
        obtain ⟨rfl, hzl, hpos, hK⟩ := hK
        split at hK
        · rename_i ys hy
          obtain ⟨hid, huy, hK⟩ := hK
          obtain ⟨info, i1, i2, i3, i4⟩ := hE.ok
          have hzs := (hE.zero z rfl).1
          have hsz : info.size = size := i2
          have hby : info.bytes = bytes := i3
          obtain ⟨imm1, I1, E1⟩ := Inv.freezeL (idsOf (ev b)) I
          have hrep := toD_rep I1 (fun i hi l e z xs hx => freezeL_done h _ i hi l e z xs hx) (h1b.evo I E1) hy
          have hbv : ∃ ba c, ρ b = .slice ba ys.length c ∧ RepC imm1 w (.sl ys) (.slice ba ys.length c) := by
            have hrep' : RepV ι imm1 w (.d (.sl ys)) (ρ b) := hrep
            obtain ⟨ba, c, q1, q2⟩ := repSl hrep'
            exact ⟨ba, c, q1, q2⟩
          obtain ⟨ba, c, hb1, hb2⟩ := hbv
          have hid1 : ups h (freezeL h (idsOf (ev b))) id = none := by
            rcases freezeL_same h (idsOf (ev b)) id with q | ⟨l', e', z', xs', q1, q2⟩
            · exact q.trans hid
            · rw [hid] at q1; cases q1
          have fin : ∀ v, (Builtin.append_ #[T, T] o.type #[ρ a, ρ b]).run P w = .ok v w → (execOp ρ o).run P w = .ok (.value v) w := fun v hr => by
            simp [execOp, ho, resolve, invoke, builtin, hr]
          have fin' : ∀ v w', (Builtin.append_ #[T, T] o.type #[ρ a, ρ b]).run P w = .ok v w' → (execOp ρ o).run P w = .ok (.value v) w' := fun v w' hr => by
            simp [execOp, ho, resolve, invoke, builtin, hr]
          split at hK
          · -- onto nil
            rename_i hx
            rw [hx] at h1
            have h2 : ρ a = .slice none 0 0 := h1
            obtain ⟨⟨hbytes, hlen⟩, hK⟩ := hK
            have hbytes' := hbytes
            by_cases hne : ys = []
            · subst hne
              have hr := run_append_nothing (w := w) (ty := o.type) hT.und i1 none ba 0 0 c (Nat.le_refl _)
              have st := I1.fresh hid1 (.slice none 0 0) (.row true e size []) (w' := w) (Nat.le_refl _) (fun _ _ => rfl) rfl rfl rfl (fun g hg => by cases hg)
                ⟨[], rowOwn_nil w 0 e size, fun _ q => absurd q List.not_mem_nil, fun _ _ q => absurd q (Nat.not_lt_zero _)⟩
              refine ⟨_, _, _, _, imm1, .inl (fin _ (by rw [h2, hb1]; exact hr)), hK, E1.trans st.2, st.1, ⟨upd_same _ _ _, .inl rfl⟩⟩
            · obtain ⟨ad, news, rfl, _, hnl, hnews, hone, hcell⟩ := src_cells hb2 huy hpos hne
              have hpl : 0 < ys.length := List.length_pos_iff.2 hne
              have hr := run_append_nil (P := P) w T o.type e info z hT.und i1 i4 ad ys.length c news (by rw [hsz]; exact hnl) hnews hpl (by omega) (by rw [hby]; omega)
              have hgc := grownCap_ge w ys.length 0 e
              have hgm : grownCap w ys.length 0 e ≤ maxLen := grownCap_le_maxLen w _ _ e (by simp only [maxLen]; omega)
              have st := I1.fresh hid1 (.slice (some ⟨w.heap.size, 0, none⟩) ys.length (grownCap w ys.length 0 e)) (.row true e size ys)
                (w' := w.drew.alloc (.cells (news.toArray ++ Builtin.zeroCells z.cells (grownCap w ys.length 0 e - ys.length)) e)) (by simp)
                (fun g hg => heap_alloc_old w.drew _ g hg) rfl rfl rfl (fun g hg => by cases hg; exact Nat.le_refl _) ?_
              · exact ⟨_, _, _, _, imm1, .inl (fin' _ _ (by rw [h2, hb1]; exact hr)), hK, E1.trans st.2, st.1, ⟨upd_same _ _ _, .inr ⟨_, _, _, rfl⟩⟩⟩
              · refine ⟨news, ⟨hnl, .inr ⟨w.heap.size, _, _, rfl, Nat.zero_le _, heap_alloc_new w.drew _, hgc, hgm, ?_, ?_⟩⟩, huy, fun i j hi hj => RepC.mono (w := w) (fun g hg => ⟨hg, heap_alloc_old w.drew _ g (I1.lt g hg)⟩) (hcell i j hi hj)⟩
                · refine Nat.le_of_eq (Eq.symm ?_)
                  rw [Array.size_append, List.size_toArray, size_zeroCells, hnl, hzs, ← Nat.add_mul]
                  congr 1; omega
                · rw [Array.toList_append, ← hnl]; exact List.take_left
          · -- onto the call's own
            rename_i j sz hx
            rw [hx] at h1
            split at hK
            · rename_i e' z' xs hj
              obtain ⟨rfl, rfl, ⟨hbytes, hlen⟩, hnj, hK⟩ := hK
              have hj1 : ups h (freezeL h (idsOf (ev b))) j = some (.row true e' z' xs) := (freezeL_other h _ j hnj).trans hj
              have h1' : RepV ι imm1 w (.own j sz) (ρ a) := h1.evo I E1
              obtain ⟨hιj, hblk, hform⟩ := own_form I1 hj1 h1'
              obtain ⟨cells, ho', hux, hcx⟩ := hblk
              have hinv : BlkRep ι imm1 w (.row true e' z' xs) (ρ a) := ⟨cells, ho', hux, hcx⟩
              -- the new row's value, wherever it lies
              rcases hform with ⟨h2, hxs⟩ | ⟨g, cap, h2, hcap⟩
              · -- it was nil
                subst hxs
                simp only [List.nil_append] at hK
                have g1 := I1.giveUp hj1
                have hid2 : upd (ups h (freezeL h (idsOf (ev b)))) j (some Blk.dead) id = none := by
                  rw [upd_other _ _ _ _ (fun q => by subst q; rw [hid1] at hj1; cases hj1)]; exact hid1
                by_cases hne : ys = []
                · subst hne
                  have hr := run_append_nothing (w := w) (ty := o.type) hT.und i1 none ba 0 0 c (Nat.le_refl _)
                  have st := g1.1.fresh hid2 (.slice none 0 0) (.row true e' z' []) (w' := w) (Nat.le_refl _) (fun _ _ => rfl) rfl rfl rfl (fun g hg => by cases hg)
                    ⟨[], rowOwn_nil w 0 e' z', fun _ q => absurd q List.not_mem_nil, fun _ _ q => absurd q (Nat.not_lt_zero _)⟩
                  refine ⟨_, _, _, _, imm1, .inl (fin _ (by rw [h2, hb1]; exact hr)), hK, E1.trans (g1.2.trans st.2), st.1, ⟨upd_same _ _ _, .inl rfl⟩⟩
                · obtain ⟨ad, news, rfl, _, hnl, hnews, hone, hcell⟩ := src_cells hb2 huy hpos hne
                  have hpl : 0 < ys.length := List.length_pos_iff.2 hne
                  have hr := run_append_nil (P := P) w T o.type e' info z hT.und i1 i4 ad ys.length c news (by rw [hsz]; exact hnl) hnews hpl (by simp at hlen; omega) (by rw [hby]; simp at hbytes; omega)
                  have hgc := grownCap_ge w ys.length 0 e'
                  have hgm : grownCap w ys.length 0 e' ≤ maxLen := grownCap_le_maxLen w _ _ e' (by simp only [maxLen]; simp at hlen; omega)
                  have st := g1.1.fresh hid2 (.slice (some ⟨w.heap.size, 0, none⟩) ys.length (grownCap w ys.length 0 e')) (.row true e' z' ys)
                    (w' := w.drew.alloc (.cells (news.toArray ++ Builtin.zeroCells z.cells (grownCap w ys.length 0 e' - ys.length)) e')) (by simp)
                    (fun g hg => heap_alloc_old w.drew _ g hg) rfl rfl rfl (fun g hg => by cases hg; exact Nat.le_refl _) ?_
                  · exact ⟨_, _, _, _, imm1, .inl (fin' _ _ (by rw [h2, hb1]; exact hr)), hK, E1.trans (g1.2.trans st.2), st.1, ⟨upd_same _ _ _, .inr ⟨_, _, _, rfl⟩⟩⟩
                  · refine ⟨news, ⟨hnl, .inr ⟨w.heap.size, _, _, rfl, Nat.zero_le _, heap_alloc_new w.drew _, hgc, hgm, ?_, ?_⟩⟩, huy, fun i j hi hj => RepC.mono (w := w) (fun g hg => ⟨hg, heap_alloc_old w.drew _ g (I1.lt g hg)⟩) (hcell i j hi hj)⟩
                    · refine Nat.le_of_eq (Eq.symm ?_)
                      rw [Array.size_append, List.size_toArray, size_zeroCells, hnl, hzs, ← Nat.add_mul]
                      congr 1; omega
                    · rw [Array.toList_append, ← hnl]; exact List.take_left
              · rw [h2] at hιj ho'
                have hhere : ∃ cur, w.heap[g]? = some (.cells cur e' (0, 0)) ∧ cap ≤ maxLen ∧ cap * z' ≤ cur.size ∧ cur.toList.take (xs.length * z') = cells := by
                  rcases ho'.2 with ⟨q, _⟩ | ⟨g', cap', cur, q, _, q2, _, q4, q5, q6⟩
                  · cases q
                  · cases q; exact ⟨cur, q2, q4, q5, q6⟩
                obtain ⟨cur, hg, hcm, hcs, htake⟩ := hhere
                have hcl : cells.length = xs.length * z' := ho'.1
                have hux' : ∀ u, u ∈ xs ++ ys → u.cells.length = z' := fun u hu => by
                  rcases List.mem_append.1 hu with q | q
                  · exact hux u q
                  · exact huy u q
                -- the source's cells, none if there are no elements
                have hsrc : ∃ (ad : Addr) (news : List Value), (ys ≠ [] → ba = some ad) ∧ news.length = ys.length * z' ∧ (∀ j v, news[j]? = some v → w.cell? (ad.add j) = some v) ∧ (∀ u, u ∈ news → u.oneCell' = true) ∧
                    ∀ i j, i < ys.length → j < z' → RepC imm1 w ((ys.getD i .np).cells.getD j .np) (news.getD (i * z' + j) undef) := by
                  by_cases hne : ys = []
                  · subst hne
                    exact ⟨⟨0, 0, none⟩, [], fun q => absurd rfl q, by simp, fun j v q => by simp at q, fun _ q => absurd q List.not_mem_nil, fun _ _ q => absurd q (Nat.not_lt_zero _)⟩
                  · obtain ⟨ad, news, q1, _, q3, q4, q5, q6⟩ := src_cells hb2 huy hpos hne
                    exact ⟨ad, news, fun _ => q1, q3, q4, q5, q6⟩
                obtain ⟨ad, news, hba, hnl, hnews, hone, hcell⟩ := hsrc
                have hall := cells_append (w := w) (imm := imm1) hcl hcx hcell
                by_cases hroom : xs.length + ys.length ≤ cap
                · -- there is room
                  have hfit : xs.length * z' + news.length ≤ cur.size := by rw [hnl, ← Nat.add_mul]; exact Nat.le_trans (Nat.mul_le_mul_right _ hroom) hcs
                  have hr : (Builtin.append_ #[T, T] o.type #[.slice (some ⟨g, 0, none⟩) xs.length cap, .slice ba ys.length c]).run P w =
                      .ok (.slice (some ⟨g, 0, none⟩) (xs.length + ys.length) cap) (w.setRow g (cur.toList.take (xs.length * z') ++ news ++ cur.toList.drop (xs.length * z' + news.length)).toArray) := by
                    by_cases hne : ys = []
                    · subst hne
                      have hn0 : news = [] := List.eq_nil_of_length_eq_zero (by simpa using hnl)
                      subst hn0
                      rw [List.length_nil, run_append_nothing (w := w) hT.und i1 _ ba _ cap c hcap]
                      simp only [List.append_nil, List.length_nil, Nat.add_zero, List.take_append_drop, Array.toArray_toList]
                      rw [setRow_self w g cur e' (0, 0) hg]
                    · rw [hba hne]
                      have := run_append_room (P := P) w T o.type e' info hT.und i1 g xs.length cap cur hg ad ys.length c news (by rw [hsz]; exact hnl) hnews hone hroom (by rw [hsz]; exact hfit)
                      rw [hsz] at this
                      exact this
                  have hmono : ∀ g', imm1 g' → imm1 g' ∧ (w.setRow g (cur.toList.take (xs.length * z') ++ news ++ cur.toList.drop (xs.length * z' + news.length)).toArray).heap[g']? = w.heap[g']? := fun g' hg' =>
                    ⟨hg', setRow_other w g g' _ (fun q => by subst q; exact I1.own g' ⟨j, _, _, hj1, rfl, hιj, rfl⟩ hg')⟩
                  have st := I1.moved hj1 rfl hιj rfl hid1 (v := .slice (some ⟨g, 0, none⟩) (xs.length + ys.length) cap) (B := .row true e' z' (xs ++ ys))
                    (w' := w.setRow g (cur.toList.take (xs.length * z') ++ news ++ cur.toList.drop (xs.length * z' + news.length)).toArray) (by simp)
                    (fun k _ hk => setRow_other w g k _ (fun q => by subst q; exact hk rfl)) rfl rfl rfl rfl ?_
                  · exact ⟨_, _, _, _, imm1, .inl (fin' _ _ (by rw [h2, hb1]; exact hr)), hK, E1.trans st.2, st.1, ⟨upd_same _ _ _, .inr ⟨_, _, _, rfl⟩⟩⟩
                  · refine ⟨cells ++ news, ⟨?_, .inr ⟨g, cap, _, ?_, Nat.zero_le _, setRow_heap w g cur _ e' _ hg, ?_, hcm, ?_, ?_⟩⟩, hux', fun i k hi hk => (hall i k hi hk).mono hmono⟩
                    · rw [List.length_append, hcl, hnl, List.length_append, Nat.add_mul]
                    · rw [List.length_append]
                    · rw [List.length_append]; exact hroom
                    · simp only [List.size_toArray, List.length_append, List.length_take, List.length_drop, Array.length_toList]; omega
                    · rw [htake, List.length_append, Nat.add_mul, ← hcl, ← hnl, ← List.length_append]
                      exact List.take_left
                · -- it grows
                  have hne : ys ≠ [] := fun q => by subst q; simp at hroom; omega
                  have holds : ∀ j v, cells[j]? = some v → w.cell? ((⟨g, 0, none⟩ : Addr).add j) = some v := fun k v q => by
                    rw [addr_add, Nat.zero_add]
                    rw [← htake, List.getElem?_take] at q
                    split at q
                    · rw [cell_of_row w g k cur e' (0, 0) hg]; simpa using q
                    · cases q
                  have hr := run_append_grow (P := P) w T o.type e' info z hT.und i1 i4 ⟨g, 0, none⟩ xs.length cap cells (by rw [hsz]; exact hcl) holds ad ys.length c news (by rw [hsz]; exact hnl) hnews (by omega) (by omega)
                    (growslice_fits (by omega) (by rw [hby]; exact hbytes))
                  have hgc := grownCap_ge w (xs.length + ys.length) cap e'
                  have hgm : grownCap w (xs.length + ys.length) cap e' ≤ maxLen := grownCap_le_maxLen w _ _ e' (by simp only [maxLen]; omega)
                  have g1 := I1.giveUp hj1
                  have hid2 : upd (ups h (freezeL h (idsOf (ev b)))) j (some Blk.dead) id = none := by
                    rw [upd_other _ _ _ _ (fun q => by subst q; rw [hid1] at hj1; cases hj1)]; exact hid1
                  have st := g1.1.fresh hid2 (.slice (some ⟨w.heap.size, 0, none⟩) (xs.length + ys.length) (grownCap w (xs.length + ys.length) cap e')) (.row true e' z' (xs ++ ys))
                    (w' := w.drew.alloc (.cells (cells.toArray ++ news.toArray ++ Builtin.zeroCells z.cells (grownCap w (xs.length + ys.length) cap e' - (xs.length + ys.length))) e')) (by simp)
                    (fun g hg => heap_alloc_old w.drew _ g hg) rfl rfl rfl (fun g hg => by cases hg; exact Nat.le_refl _) ?_
                  · exact ⟨_, _, _, _, imm1, .inl (fin' _ _ (by rw [h2, hb1, hba hne]; exact hr)), hK, E1.trans (g1.2.trans st.2), st.1, ⟨upd_same _ _ _, .inr ⟨_, _, _, rfl⟩⟩⟩
                  · refine ⟨cells ++ news, ⟨?_, .inr ⟨w.heap.size, _, _, ?_, Nat.zero_le _, heap_alloc_new w.drew _, ?_, hgm, ?_, ?_⟩⟩, hux', fun i k hi hk => RepC.mono (w := w) (fun g hg => ⟨hg, heap_alloc_old w.drew _ g (I1.lt g hg)⟩) (hall i k hi hk)⟩
                    · rw [List.length_append, hcl, hnl, List.length_append, Nat.add_mul]
                    · rw [List.length_append]
                    · rw [List.length_append]; exact hgc
                    · refine Nat.le_of_eq (Eq.symm ?_)
                      rw [Array.size_append, Array.size_append, List.size_toArray, List.size_toArray, size_zeroCells, hcl, hnl, hzs, ← Nat.add_mul]
                      show _ * z' + _ * z' = _
                      rw [← Nat.add_mul]
                      congr 1; omega
                    · rw [Array.toList_append, Array.toList_append, List.length_append, Nat.add_mul, ← hcl, ← hnl, ← List.length_append]
                      exact List.take_left
            · exact hK.elim
          · exact hK.elim
        · exact hK.elim
      · exact hK.elim
    · exact hK.elim
  · exact hK.elim

end
end Go.K
end
section
/-
  K, part 12: what is built. No macro, syntax, notation, axiom, sorry.
-/
namespace Go.K
open Go
set_option linter.unusedSectionVars false
set_option linter.unusedVariables false
set_option linter.unusedSimpArgs false

theorem foldl_set_list (off : Nat) : ∀ (l : List Value) (k : Nat) (cs : Array Value),
    ((l.zipIdx k).foldl (fun cs (x : Value × Nat) => cs.setIfInBounds (off + x.2) x.1) cs).size = cs.size ∧
    ∀ m, ((l.zipIdx k).foldl (fun cs (x : Value × Nat) => cs.setIfInBounds (off + x.2) x.1) cs).getD m undef =
      if off + k ≤ m ∧ m < off + k + l.length ∧ m < cs.size then l.getD (m - (off + k)) undef else cs.getD m undef
  | [], k, cs => by
    refine ⟨rfl, fun m => ?_⟩
    rw [if_neg (by simp; omega)]
    rfl
  | a :: r, k, cs => by
    obtain ⟨h1, h2⟩ := foldl_set_list off r (k + 1) (cs.setIfInBounds (off + k) a)
    simp only [List.zipIdx_cons, List.foldl_cons]
    refine ⟨by rw [h1]; simp, fun m => ?_⟩
    rw [h2]
    have hs : (cs.setIfInBounds (off + k) a).size = cs.size := by simp
    rw [hs]
    by_cases c : off + (k + 1) ≤ m ∧ m < off + (k + 1) + r.length ∧ m < cs.size
    · rw [if_pos c, if_pos ⟨by omega, by simp; omega, by omega⟩]
      have : m - (off + k) = (m - (off + (k + 1))) + 1 := by omega
      rw [this]; rfl
    · rw [if_neg c]
      by_cases d : m = off + k ∧ m < cs.size
      · obtain ⟨rfl, d⟩ := d
        rw [if_pos ⟨Nat.le_refl _, by simp, d⟩, Nat.sub_self]
        simp [Array.getD, d]
      · rw [if_neg (by simp; omega)]
        simp only [Array.getD_eq_getD_getElem?, Array.getElem?_setIfInBounds]
        by_cases q : off + k = m
        · subst q
          have : ¬ off + k < cs.size := fun x => d ⟨rfl, x⟩
          simp [this]
        · simp [q]

theorem foldl_set (off : Nat) (vs : Array Value) (cs : Array Value) :
    (vs.zipIdx.foldl (fun cs (x : Value × Nat) => cs.setIfInBounds (off + x.2) x.1) cs).size = cs.size ∧
    ∀ m, (vs.zipIdx.foldl (fun cs (x : Value × Nat) => cs.setIfInBounds (off + x.2) x.1) cs).getD m undef =
      if off ≤ m ∧ m < off + vs.size ∧ m < cs.size then vs.getD (m - off) undef else cs.getD m undef := by
  have e : vs.zipIdx.foldl (fun cs (x : Value × Nat) => cs.setIfInBounds (off + x.2) x.1) cs = (vs.toList.zipIdx 0).foldl (fun cs (x : Value × Nat) => cs.setIfInBounds (off + x.2) x.1) cs := by
    rw [← Array.foldl_toList, Array.toList_zipIdx]
  obtain ⟨h1, h2⟩ := foldl_set_list off vs.toList 0 cs
  rw [e]
  refine ⟨h1, fun m => ?_⟩
  rw [h2]
  simp only [Nat.add_zero, Array.length_toList]
  have : vs.toList.getD (m - off) undef = vs.getD (m - off) undef := by simp [List.getD, Array.getD_eq_getD_getElem?]
  rw [this]

section
variable {ι : Nat → Option Value} {imm : Nat → Prop} {h : Heap} {w : World} {K : Out → Prop}
variable {P : Program} {E : Env} {draw : Bool} {ev : Operand → V} {ρ : Operand → Value} {o : Oper} {id : Nat}

theorem fill_rep (he : ∀ x, RepV ι imm w (ev x) (ρ x)) (place : Nat → Option (Nat × Nat)) : ∀ (ps : List (Nat × Operand)) (cv : List V) (cw : Array Value) (out : List V), cw.size = cv.length →
    (∀ j, j < cv.length → RepV1 ι imm w (cv.getD j .junk) (cw.getD j undef) ∧ (cw.getD j undef).oneCell' = true) → fillV place cv (ps.map fun p => (p.1, ev p.2)) = some out →
    ∃ cw', Instr.fill place cw (ps.map fun p => (p.1, ρ p.2)) = some cw' ∧ cw'.size = out.length ∧ ∀ j, j < out.length → RepV1 ι imm w (out.getD j .junk) (cw'.getD j undef) ∧ (cw'.getD j undef).oneCell' = true
  | [], cv, cw, out, hs, hc, ho => by
    cases ho
    exact ⟨cw, rfl, hs, hc⟩
  | (i, x) :: r, cv, cw, out, hs, hc, ho => by
    simp only [List.map_cons, fillV] at ho
    split at ho
    · cases ho
    · rename_i off size hp
      split at ho
      · rename_i l hl
        split at ho
        · rename_i hfit
          obtain ⟨c1, c2⟩ := cells_rep (he x) hl
          obtain ⟨f1, f2⟩ := foldl_set off (ρ x).cells cw
          have hlen : (cv.take off ++ l ++ cv.drop (off + l.length)).length = cv.length := by simp; omega
          have key := fill_rep he place r (cv.take off ++ l ++ cv.drop (off + l.length)) _ out (f1.trans (hs.trans hlen.symm)) (fun j hj => ?_) ho
          · obtain ⟨cw', k1, k2⟩ := key
            refine ⟨cw', ?_, k2⟩
            simp only [List.map_cons, Instr.fill, hp]
            have hcond : ¬ ((decide ((ρ x).cells.size ≠ size) || decide (off + (ρ x).cells.size > cw.size)) = true) := by
              have e1 : (ρ x).cells.size = size := by omega
              have e2 : ¬ off + (ρ x).cells.size > cw.size := by omega
              simp [e1]; omega
            rw [if_neg hcond]
            exact k1
          · rw [hlen] at hj
            rw [f2]
            have l1 : (cv.take off).length = off := by simp; omega
            have ea : (cv.take off ++ l ++ cv.drop (off + l.length)).getD j .junk = if j < off then cv.getD j .junk else if j < off + l.length then l.getD (j - off) .junk else cv.getD j .junk := by
              simp only [List.getD_eq_getElem?_getD, List.getElem?_append, l1, List.length_append, List.getElem?_take, List.getElem?_drop]
              by_cases a : j < off
              · have : j < off + l.length := by omega
                simp [a, this]
              · by_cases b : j < off + l.length
                · simp [a, b]
                · have e : off + l.length + (j - (off + l.length)) = j := by omega
                  simp [a, b, e]
            rw [ea]
            by_cases a : j < off
            · rw [if_pos a, if_neg (by omega)]; exact hc j hj
            · rw [if_neg a]
              by_cases b : j < off + l.length
              · rw [if_pos b, if_pos ⟨by omega, by omega, by omega⟩]; exact c2 (j - off) (by omega)
              · rw [if_neg b, if_neg (by omega)]; exact hc j hj
        · cases ho
      · cases ho

variable (I : Inv ι imm h w) (tt : TTok P E.tt) (he : ∀ x, RepV ι imm w (ev x) (ρ x))

theorem places_ok (tt : TTok P E.tt) : ∀ (fs : List Field) (pl : List (Nat × Nat)), places E.tt fs = some pl → fs.mapM (fun f => (P.info? f.type).map fun i => (f.offset, i.size)) = some pl
  | [], pl, h => by cases h; rfl
  | f :: r, pl, h => by
    simp only [places] at h
    split at h
    · rename_i i l hi hl
      cases h
      obtain ⟨info, h1, h2, _⟩ := (tt _ _ hi).ok
      have ih := places_ok tt r l hl
      simp [List.mapM_cons, h1, h2, ih]
    · cases h

include I tt he
theorem op_build {T : TypeId} {parts : Array (Nat × Operand)} (ho : o.op = .build T parts) (hK : opR Ω E draw ev h o.op id K) : Done ι imm h w K ((execOp ρ o).run P w) := by
  rw [ho] at hK
  simp only [opR, w_slen, w_sget, w_ssub, w_sset, w_srep, w_scat, BrG_eq, DK_eq, w_ci, w_iand, w_ior, w_ixor, w_ishl, w_ishr, w_wrap, w_tmod, w_lt, w_le, w_eq, w_ne, w_ile, w_ilt, w_tn, w_nadd, w_nsub, w_nlt, w_leb, w_room, w_imax, w_imin] at hK
  have fin : ∀ cells : Array Value, P.built T (parts.toList.map fun p => (p.1, ρ p.2)) = some cells → (execOp ρ o).run P w = .ok (.value (.agg cells)) w := fun cells hb => by
    have := run_build (P := P) w T (parts.map fun (i, x) => (i, ρ x)) cells (by simpa using hb)
    simp only [execOp, ho, Sem.run_bind, this, Result.andThen_ok, Sem.run_pure]
  split at hK
  · rename_i sz by' z fs ht
    have hT := tt _ _ ht
    split at hK
    · rename_i pl l hpl hl
      split at hK
      · rename_i cs hcs
        obtain ⟨c1, c2⟩ := cells_rep (constV_rep ι imm w z) hl
        obtain ⟨cw', k1, k2, k3⟩ := fill_rep he _ _ l z.cells cs c1 c2 hcs
        obtain ⟨info, i1, _, _, i4⟩ := hT.ok
        refine Done.val I (fin cw' ?_) hK (shape_rep k2 k3)
        have hu := hT.und
        simp only [Program.built, i1, hu, i4, places_ok tt _ _ hpl]
        have : (fun (x : Nat) => pl.toArray[x]?) = fun (i : Nat) => pl[i]? := by funext i; simp
        rw [this]
        exact k1
      · exact hK.elim
    · exact hK.elim
  · rename_i sz by' z n e ht
    have hT := tt _ _ ht
    split at hK
    · rename_i i l hi hl
      have hj := tt _ _ hi
      split at hK
      · rename_i cs hcs
        obtain ⟨c1, c2⟩ := cells_rep (constV_rep ι imm w z) hl
        obtain ⟨cw', k1, k2, k3⟩ := fill_rep he _ _ l z.cells cs c1 c2 hcs
        obtain ⟨info, i1, _, _, i4⟩ := hT.ok
        obtain ⟨infoe, j1, j2, _, _⟩ := hj.ok
        refine Done.val I (fin cw' ?_) hK (shape_rep k2 k3)
        have hu := hT.und
        simp only [Program.built, i1, hu, i4, j1, j2]
        exact k1
      · exact hK.elim
    · exact hK.elim
  · exact hK.elim

end
end Go.K
end
section
/-
  K, part 13: slice literals. No macro, syntax, notation, axiom, sorry.
-/
namespace Go.K
open Go
set_option linter.unusedSectionVars false
set_option linter.unusedVariables false
set_option linter.unusedSimpArgs false

section
variable {ι : Nat → Option Value} {imm : Nat → Prop} {h : Heap} {w : World} {K : Out → Prop}
variable {P : Program} {E : Env} {draw : Bool} {ev : Operand → V} {ρ : Operand → Value} {o : Oper} {id : Nat}

/-- a slice literal's places, filled one by one -/
theorem fill_dense {size : Nat} : ∀ (ps : List (Nat × Operand)) (xs : List D) (k : Nat) (cw : Array Value), ps.length = xs.length → (∀ i, i < ps.length → (ps.getD i (0, .const undef)).1 = k + i) →
    (∀ i, i < ps.length → RepD imm w (xs.getD i .np) (ρ (ps.getD i (0, .const undef)).2) ∧ (xs.getD i .np).cells.length = size) → (k + ps.length) * size ≤ cw.size →
    ∃ cw', Instr.fill (fun i => some (i * size, size)) cw (ps.map fun p => (p.1, ρ p.2)) = some cw' ∧ cw'.size = cw.size ∧ (∀ m, m < k * size → cw'.getD m undef = cw.getD m undef) ∧
      ∀ i j, i < xs.length → j < size → RepC imm w ((xs.getD i .np).cells.getD j .np) (cw'.getD ((k + i) * size + j) undef)
  | [], xs, k, cw, hl, _, _, _ => by
    have : xs = [] := List.eq_nil_of_length_eq_zero hl.symm
    subst this
    exact ⟨cw, rfl, rfl, fun _ _ => rfl, fun i j hi => absurd hi (Nat.not_lt_zero _)⟩
  | (i, x) :: r, [], k, cw, hl, _, _, _ => by cases hl
  | (i, x) :: r, y :: ys, k, cw, hl, hk, hr, hfit => by
    have hi : i = k := by simpa using hk 0 (by simp)
    subst hi
    obtain ⟨h1, h2⟩ := hr 0 (by simp)
    have h1' : RepD imm w y (ρ x) := h1
    have h2' : y.cells.length = size := h2
    obtain ⟨c1, c2⟩ := repD_cells h1'
    obtain ⟨f1, f2⟩ := foldl_set (i * size) (ρ x).cells cw
    have hmul : (i + 1) * size = i * size + size := by rw [Nat.add_mul, Nat.one_mul]
    have hfit' : (i + 1 + r.length) * size ≤ cw.size := by simpa [Nat.add_assoc, Nat.add_comm 1] using hfit
    have hge : (i + 1) * size ≤ cw.size := Nat.le_trans (Nat.mul_le_mul_right _ (by omega)) hfit'
    obtain ⟨cw', k1, k2, k3, k4⟩ := fill_dense r ys (i + 1) ((ρ x).cells.zipIdx.foldl (fun cs (x : Value × Nat) => cs.setIfInBounds (i * size + x.2) x.1) cw) (by simpa using hl)
      (fun j hj => by have := hk (j + 1) (by simpa using hj); simpa [Nat.add_assoc, Nat.add_comm 1] using this) (fun j hj => by simpa using hr (j + 1) (by simpa using hj)) (by rw [f1]; exact hfit')
    refine ⟨cw', ?_, k2.trans f1, fun m hm => ?_, fun a b ha hb => ?_⟩
    · simp only [List.map_cons, Instr.fill]
      have hcond : ¬ ((decide ((ρ x).cells.size ≠ size) || decide (i * size + (ρ x).cells.size > cw.size)) = true) := by
        have e1 : (ρ x).cells.size = size := by omega
        have e2 : ¬ i * size + size > cw.size := by omega
        simp [e1]; omega
      rw [if_neg hcond]
      exact k1
    · rw [k3 m (by omega), f2, if_neg (by omega)]
    · cases a with
      | zero =>
        have hb' : b < y.cells.length := by omega
        rw [Nat.add_zero, k3 _ (by omega), f2, if_pos ⟨by omega, by omega, by omega⟩, show i * size + b - i * size = b by omega]
        exact c2 b hb'
      | succ a =>
        have := k4 a b (by simpa using ha) hb
        rw [show i + 1 + a = i + (a + 1) by omega] at this
        exact this

theorem partsD_ok : ∀ (ps : List (Nat × Operand)) (l : List (Nat × D)), partsD Ω h (ps.map fun p => (p.1, ev p.2)) = some l → l.length = ps.length ∧
    ∀ i, i < ps.length → (l.getD i (0, .np)).1 = (ps.getD i (0, .const undef)).1 ∧ toD Ω h (ev (ps.getD i (0, .const undef)).2) = some (l.getD i (0, .np)).2
  | [], l, hl => by cases hl; exact ⟨rfl, fun i hi => absurd hi (Nat.not_lt_zero _)⟩
  | (i, x) :: r, l, hl => by
    simp only [List.map_cons, partsD] at hl
    split at hl
    · rename_i d l' hd hl'
      cases hl
      obtain ⟨h1, h2⟩ := partsD_ok r l' hl'
      refine ⟨by simp [h1], fun j hj => ?_⟩
      cases j with
      | zero => exact ⟨rfl, hd⟩
      | succ j => exact h2 j (by simpa using hj)
    · cases hl

theorem dense_ok {size : Nat} : ∀ (l : List (Nat × D)) (k : Nat) (xs : List D), dense size k l = some xs → xs.length = l.length ∧
    ∀ i, i < l.length → (l.getD i (0, .np)).1 = k + i ∧ xs.getD i .np = (l.getD i (0, .np)).2 ∧ (xs.getD i .np).cells.length = size
  | [], k, xs, hx => by cases hx; exact ⟨rfl, fun i hi => absurd hi (Nat.not_lt_zero _)⟩
  | (i, x) :: r, k, xs, hx => by
    simp only [dense] at hx
    split at hx
    · rename_i hc
      split at hx
      · rename_i l hl
        cases hx
        obtain ⟨h1, h2⟩ := dense_ok r (k + 1) l hl
        refine ⟨by simp [h1], fun j hj => ?_⟩
        cases j with
        | zero => exact ⟨by simp [hc.1], rfl, hc.2⟩
        | succ j =>
          obtain ⟨a, b, c⟩ := h2 j (by simpa using hj)
          exact ⟨by rw [show k + (j + 1) = k + 1 + j by omega]; exact a, b, c⟩
      · cases hx
    · cases hx

variable (I : Inv ι imm h w) (tt : TTok P E.tt) (he : ∀ x, RepV ι imm w (ev x) (ρ x))
include I tt he

theorem op_buildSlice {T : TypeId} {len : Nat} {parts : Array (Nat × Operand)} (ho : o.op = .buildSlice T len parts) (hK : opR Ω E draw ev h o.op id K) : Done ι imm h w K ((execOp ρ o).run P w) := by
  rw [ho] at hK
  simp only [opR, w_slen, w_sget, w_ssub, w_sset, w_srep, w_scat, BrG_eq, DK_eq, w_ci, w_iand, w_ior, w_ixor, w_ishl, w_ishr, w_wrap, w_tmod, w_lt, w_le, w_eq, w_ne, w_ile, w_ilt, w_tn, w_nadd, w_nsub, w_nlt, w_leb, w_room, w_imax, w_imin] at hK
  split at hK
  · rename_i s1 s2 s3 e ht
    have hT := tt _ _ ht
    split at hK
    · rename_i i hi
      have hj := tt _ _ hi
      split at hK
      · rename_i l hl
        split at hK
        · rename_i xs hxs
          obtain ⟨hlen, hbig, hpos, hzero, hK⟩ := hK
          obtain ⟨z, hz⟩ := Option.isSome_iff_exists.1 hzero
          obtain ⟨p1, p2⟩ := partsD_ok _ _ hl
          obtain ⟨d1, d2⟩ := dense_ok _ _ _ hxs
          obtain ⟨imm1, I1, E1⟩ := Inv.freezeL ((parts.toList.map fun p => ev p.2).flatMap idsOf) I
          have hparts : ∀ k, k < parts.toList.length → RepD imm1 w (xs.getD k .np) (ρ (parts.toList.getD k (0, .const undef)).2) ∧ (xs.getD k .np).cells.length = i.size := fun k hk => by
            obtain ⟨a1, a2⟩ := p2 k hk
            obtain ⟨b1, b2, b3⟩ := d2 k (by omega)
            refine ⟨?_, b3⟩
            rw [b2]
            refine toD_rep I1 (fun j hj l e z xs hx => freezeL_done h _ j ?_ l e z xs hx) ((he _).evo I E1) a2
            refine List.mem_flatMap.2 ⟨ev (parts.toList.getD k (0, .const undef)).2, List.mem_map.2 ⟨parts.toList.getD k (0, .const undef), ?_, rfl⟩, hj⟩
            rw [List.getD_eq_getElem?_getD, List.getElem?_eq_getElem hk]
            exact List.getElem_mem hk
          have hpl : parts.toList.length = xs.length := by omega
          obtain ⟨cw', f1, f2, _, f4⟩ := fill_dense (size := i.size) parts.toList xs 0 ((Array.range (len * i.size)).map ((if len * i.size = 0 then #[] else z.cells)[· % (if len * i.size = 0 then #[] else z.cells).size]!)) hpl
            (fun k hk => by rw [← (p2 k hk).1, (d2 k (by omega)).1]) hparts (by simp; rw [show parts.size = len by simpa using hpl.trans hlen]; exact Nat.le_refl _)
          have hsize : cw'.size = len * i.size := by rw [f2]; simp
          have hr : (Instr.buildSlice T len (parts.map fun (i, x) => (i, ρ x))).run P w = .ok (.slice (some ⟨w.heap.size, 0, none⟩) len len) (w.alloc (.cells cw' e)) := by
            have hn : ¬ len * i.size > 2 ^ 24 := by omega
            have hmap : (parts.map fun (x : Nat × Operand) => match x with | (i, x) => (i, ρ x)).toList = parts.toList.map fun p => (p.1, ρ p.2) := by simp
            by_cases hq : len * i.size = 0
            · simp only [if_pos hq] at f1
              simp only [Instr.buildSlice, Sem.run_bind, run_underlying hT.und, Result.andThen_ok, hj.run_size, if_neg hn, if_pos hq, hmap, f1, newRow, run_newObj, Sem.run_pure]
              rfl
            · simp only [if_neg hq] at f1
              simp only [Instr.buildSlice, Sem.run_bind, run_underlying hT.und, Result.andThen_ok, hj.run_size, if_neg hn, if_neg hq, hj.run_zero hz, hmap, f1, newRow, run_newObj, Sem.run_pure]
              rfl
          have hexec : (execOp ρ o).run P w = .ok (.value (.slice (some ⟨w.heap.size, 0, none⟩) len len)) (w.alloc (.cells cw' e)) := by
            simp only [execOp, ho, Sem.run_bind, hr, Result.andThen_ok, Sem.run_pure]
          have hux : ∀ x, x ∈ xs → x.cells.length = i.size := fun x hx => by
            obtain ⟨k, hk, rfl⟩ := List.mem_iff_getElem.1 hx
            have := (d2 k (by omega)).2.2
            simpa [List.getD, hk] using this
          subst hlen
          cases draw with
          | true =>
            simp only [if_true] at hK
            have st := I1.newImm (.cells cw' e)
            refine ⟨_, _, _, ι, _, .inl hexec, hK, E1.trans st.2, st.1, ?_⟩
            show RepC _ _ (.sl xs) _
            by_cases hx : xs = []
            · subst hx; exact .sl0 _ _
            · refine .sl xs w.heap.size 0 xs.length i.size cw' e (0, 0) hx (.inr rfl) (heap_alloc_new w _) (Nat.le_refl _) hux (fun a b ha hb => ?_) fun a b ha hb => ?_
              · have := Nat.mul_le_mul_right i.size (Nat.succ_le_of_lt ha); rw [Nat.succ_mul] at this; omega
              · have := f4 a b ha hb
                rw [Nat.zero_add] at this ⊢
                exact RepC.mono (w := w) (fun g hg => ⟨.inl hg, heap_alloc_old w _ g (I1.lt g hg)⟩) this
          | false =>
            simp only [Bool.false_eq_true, if_false] at hK
            obtain ⟨hid, hK⟩ := hK
            have hid1 : ups h (freezeL h ((parts.toList.map fun p => ev p.2).flatMap idsOf)) id = none := by
              rcases freezeL_same h ((parts.toList.map fun p => ev p.2).flatMap idsOf) id with q | ⟨l', e', z', xs', q1, q2⟩
              · exact q.trans hid
              · rw [hid] at q1; cases q1
            have st := I1.fresh hid1 (.slice (some ⟨w.heap.size, 0, none⟩) xs.length xs.length) (.row true e i.size xs) (w' := w.alloc (.cells cw' e)) (by simp)
              (fun g hg => heap_alloc_old w _ g hg) rfl rfl rfl (fun g hg => by cases hg; exact Nat.le_refl _) ?_
            · exact ⟨_, _, _, _, imm1, .inl hexec, hK, E1.trans st.2, st.1, ⟨upd_same _ _ _, .inr ⟨_, _, _, rfl⟩⟩⟩
            · refine ⟨cw'.toList, ⟨by simp [hsize], .inr ⟨w.heap.size, _, cw', rfl, Nat.zero_le _, heap_alloc_new w _, Nat.le_refl _, ?_, Nat.le_of_eq hsize.symm, ?_⟩⟩, hux, fun a b ha hb => ?_⟩
              · have : xs.length * 1 ≤ xs.length * i.size := Nat.mul_le_mul_left _ hpos
                simp only [maxLen]; omega
              · rw [List.take_of_length_le]; simp [hsize]
              · have := f4 a b ha hb
                rw [Nat.zero_add] at this
                have e2 : cw'.toList.getD (a * i.size + b) undef = cw'.getD (a * i.size + b) undef := by
                  rw [List.getD_eq_getElem?_getD, Array.getElem?_toList, Array.getD_eq_getD_getElem?]
                rw [e2]
                exact RepC.mono (w := w) (fun g hg => ⟨hg, heap_alloc_old w _ g (I1.lt g hg)⟩) this
        · exact hK.elim
      · exact hK.elim
    · exact hK.elim
  · exact hK.elim

end
end Go.K
end
section
/-
  K, part 14: calls of Go functions. No macro, syntax, notation, axiom, sorry.
-/
namespace Go.K
open Go
set_option linter.unusedSectionVars false
set_option linter.unusedVariables false
set_option linter.unusedSimpArgs false

/-- there is such a function, with a body -/
def Callable (P : Program) (f : FuncId) : Prop := ∃ fn, P.funcs[f]? = some fn ∧ (fn.name == "runtime.NumGoroutine") = false ∧ fn.body.isNone = false

/-- WHAT IS SHOWN OF A FUNCTION: called with values that read as 'args', where the blocks 'bs' are, it returns 'r', and the blocks are 'bs''; nothing else that was there is written. -/
def Good (P : Program) (f : FuncId) (args : List V) (bs : List Blk) (r : V) (bs' : List Blk) : Prop :=
  Callable P f ∧ ∀ (ι : Nat → Option Value) (imm : Nat → Prop) (w : World) (vs : Array Value), Inv ι imm (mkH bs) w → vs.size = args.length → (∀ j, j < args.length → RepV ι imm w (args.getD j .junk) (vs.getD j undef)) →
    Calls P f vs w fun e w' => ∃ v ι' imm', e = .returned v ∧ Evo ι imm (mkH bs) w ι' imm' (mkH bs') w' ∧ Inv ι' imm' (mkH bs') w' ∧ RepV ι' imm' w' r v

structure EnvOk (P : Program) (E : Env) : Prop where
  tt : TTok P E.tt
  C : ∀ g ds r, E.C g ds r → Good P g (ds.map V.d) [] r []
  C2 : ∀ g args bs r bs', E.C2 g args bs r bs' → Good P g args bs r bs'

/-- an operation ended well, a call too -/
def OpDone (P : Program) (ι : Nat → Option Value) (imm : Nat → Prop) (h : Heap) (w : World) (K : Out → Prop) (r : Result Next) : Prop :=
  Done ι imm h w K r ∨ ∃ g vs, r = .ok (.enter g vs) w ∧ Calls P g vs w fun e w' => ∃ v out ι' imm', e = .returned v ∧ K out ∧ Evo ι imm h w ι' imm' (ups h out.upd) w' ∧ Inv ι' imm' (ups h out.upd) w' ∧ RepV ι' imm' w' out.v v

section
variable {ι : Nat → Option Value} {imm : Nat → Prop} {h : Heap} {w : World} {K : Out → Prop}
variable {P : Program} {E : Env} {draw : Bool} {ev : Operand → V} {ρ : Operand → Value} {o : Oper} {id : Nat}

theorem ren1_rep {ι' : Nat → Option Value} {f : Nat → Option Nat} (hf : ∀ i k v, f i = some k → ι i = some v → ι' k = some v) {x : V} {v : Value} (hr : RepV1 ι imm w x v) : RepV1 ι' imm w (ren1 f x) v := by
  cases x with
  | d x => exact hr
  | agg cs => exact hr.elim
  | tup cs => exact hr.elim
  | nil => exact hr
  | fn g => exact hr
  | junk => trivial
  | ip x off => exact hr
  | ptr i off =>
    simp only [ren1]
    split
    · rename_i k hk
      obtain ⟨g, h1, h2⟩ := hr
      exact ⟨g, hf _ _ _ hk h1, h2⟩
    · trivial
  | ept i sz l off =>
    simp only [ren1]
    split
    · rename_i k hk
      obtain ⟨g, n, cap, h1, h2⟩ := hr
      exact ⟨g, n, cap, hf _ _ _ hk h1, h2⟩
    · trivial
  | own i sz =>
    simp only [ren1]
    split
    · rename_i k hk
      exact ⟨hf _ _ _ hk hr.1, hr.2⟩
    · trivial
  | ref i sz off len =>
    simp only [ren1]
    split
    · rename_i k hk
      rcases hr with ⟨g, n, cap, c, h1, h2⟩ | ⟨⟨u, h1⟩, h2⟩
      · exact .inl ⟨g, n, cap, c, hf _ _ _ hk h1, h2⟩
      · exact .inr ⟨⟨u, hf _ _ _ hk h1⟩, h2⟩
    · trivial

theorem getD_map_ren1 (f : Nat → Option Nat) (cs : List V) (j : Nat) : (cs.map (ren1 f)).getD j .junk = ren1 f (cs.getD j .junk) := by
  simp only [List.getD_eq_getElem?_getD, List.getElem?_map]
  cases cs[j]? <;> rfl
theorem getD_map_ren0 (f : Nat → Option Nat) (cs : List V) (j : Nat) : (cs.map (ren0 f)).getD j .junk = ren0 f (cs.getD j .junk) := by
  simp only [List.getD_eq_getElem?_getD, List.getElem?_map]
  cases cs[j]? <;> rfl

theorem V0_of_V1' {ι : Nat → Option Value} {imm : Nat → Prop} {w : World} {x : V} {v : Value} (h : RepV1 ι imm w x v) : RepV0 ι imm w x v := by
  have := V0_of_V1 h
  cases x <;> first | exact this | exact h.elim

theorem ren0_rep {ι' : Nat → Option Value} {f : Nat → Option Nat} (hf : ∀ i k v, f i = some k → ι i = some v → ι' k = some v) {x : V} {v : Value} (hr : RepV0 ι imm w x v) : RepV0 ι' imm w (ren0 f x) v := by
  cases x with
  | d x => exact hr
  | agg cs =>
    obtain ⟨vs, h1, h2, h3⟩ := hr
    refine ⟨vs, h1, by simpa using h2, fun j hj => ?_⟩
    rw [getD_map_ren1]
    exact ⟨ren1_rep hf (h3 j (by simpa using hj)).1, (h3 j (by simpa using hj)).2⟩
  | tup cs => exact hr.elim
  | nil => exact hr
  | fn g => exact hr
  | junk => trivial
  | ip x off => exact hr
  | ptr i off => exact V0_of_V1' (ren1_rep (x := .ptr i off) hf hr)
  | ept i sz l off => exact V0_of_V1' (ren1_rep (x := .ept i sz l off) hf hr)
  | own i sz => exact V0_of_V1' (ren1_rep (x := .own i sz) hf hr)
  | ref i sz off len => exact V0_of_V1' (ren1_rep (x := .ref i sz off len) hf hr)

theorem V_of_V0 {ι : Nat → Option Value} {imm : Nat → Prop} {w : World} {x : V} {v : Value} (h : RepV0 ι imm w x v) : RepV ι imm w x v := by
  cases x <;> first | exact h | exact h.elim

theorem ren_rep {ι' : Nat → Option Value} {f : Nat → Option Nat} (hf : ∀ i k v, f i = some k → ι i = some v → ι' k = some v) {x : V} {v : Value} (hr : RepV ι imm w x v) : RepV ι' imm w (ren f x) v := by
  cases x with
  | tup cs =>
    obtain ⟨vs, h1, h2, h3⟩ := hr
    refine ⟨vs, h1, by simpa using h2, fun j hj => ?_⟩
    rw [getD_map_ren0]
    exact ren0_rep hf (h3 j (by simpa using hj))
  | d x => exact V_of_V0 (ren0_rep (x := .d x) hf hr)
  | agg cs => exact V_of_V0 (ren0_rep (x := .agg cs) hf hr)
  | ptr i off => exact V_of_V0 (ren0_rep (x := .ptr i off) hf hr)
  | ept i sz l off => exact V_of_V0 (ren0_rep (x := .ept i sz l off) hf hr)
  | ip x off => exact hr
  | own i sz => exact V_of_V0 (ren0_rep (x := .own i sz) hf hr)
  | ref i sz off len => exact V_of_V0 (ren0_rep (x := .ref i sz off len) hf hr)
  | nil => exact hr
  | fn f => exact hr
  | junk => trivial

theorem renB_rep {ι' : Nat → Option Value} {f : Nat → Option Nat} (hf : ∀ i k v, f i = some k → ι i = some v → ι' k = some v) {B : Blk} {v : Value} (hr : BlkRep ι imm w B v) : BlkRep ι' imm w (renB f B) v := by
  cases B with
  | dead => trivial
  | row l e sz xs => cases l <;> exact hr
  | var cs =>
    obtain ⟨g, vs, T, h1, h2, h3, h4⟩ := hr
    refine ⟨g, vs, T, h1, h2, by simpa using h3, fun j hj => ?_⟩
    rw [getD_map_ren1]
    exact ⟨ren1_rep hf (h4 j (by simpa using hj)).1, (h4 j (by simpa using hj)).2⟩

theorem live_renB (f : Nat → Option Nat) (B : Blk) : live (renB f B) = live B := by cases B <;> rfl

theorem run_enter {g : FuncId} (hC : Callable P g) {f : Operand} {args : Array Operand} {ts : Array TypeId} (ho : o.op = .call { callee := .value f, args := args, argTypes := ts }) (hf : ρ f = .func (.func g) #[] #[]) :
    (execOp ρ o).run P w = .ok (.enter g (args.map ρ)) w := by
  obtain ⟨fn, h1, h2, h3⟩ := hC
  have h2' : ¬ fn.name = "runtime.NumGoroutine" := by simpa using h2
  obtain ⟨c, hc⟩ : ∃ c, fn.body = some c := by
    cases hb : fn.body with
    | none => rw [hb] at h3; cases h3
    | some c => exact ⟨c, rfl⟩
  simp [execOp, ho, resolve, hf, Deferred.ofValue, invoke, callFunc, h1, h2', hc]

theorem toDs_ok : ∀ (l : List V) (ds : List D), toDs Ω h l = some ds → ds.length = l.length ∧ ∀ j, j < l.length → toD Ω h (l.getD j .junk) = some (ds.getD j .np)
  | [], ds, e => by cases e; exact ⟨rfl, fun j hj => absurd hj (Nat.not_lt_zero _)⟩
  | a :: r, ds, e => by
    simp only [toDs] at e
    split at e
    · rename_i x l' ha hr'
      cases e
      obtain ⟨i1, i2⟩ := toDs_ok r l' hr'
      refine ⟨by simp [i1], fun j hj => ?_⟩
      cases j with
      | zero => exact ha
      | succ j => exact i2 j (by simpa using hj)
    · cases e

/-- the machine's state behind a call that wrote nothing that was there -/
theorem Inv.called (I : Inv ι imm h w) {imm' : Nat → Prop} {w' : World} {ι0 ι1 : Nat → Option Value} {h1 : Heap} (e : Evo ι0 imm (mkH []) w ι1 imm' h1 w') (I1 : Inv ι1 imm' h1 w') (ho : ∀ g, ¬ Owned ι0 (mkH []) g) :
    Inv ι imm' h w' ∧ Evo ι imm h w ι imm' h w' := by
  have keep : ∀ g, g < w.heap.size → w'.heap[g]? = w.heap[g]? := fun g hg => e.keep g hg (ho g)
  have immR : ∀ g, imm' g → imm g ∨ w.heap.size ≤ g := fun g hg => by
    rcases e.immR g hg with q | q | q
    · exact .inl q
    · exact .inr q
    · exact absurd q (ho g)
  refine ⟨⟨fun id B hid => ?_, I.non, fun g o q => ?_, I.inj, I1.lt⟩, ⟨fun _ _ q => q, e.immS, fun g q => (immR g q).imp id .inl, fun g o => .inl o, fun g hg _ => keep g hg, e.size, e.os, e.tape, e.output⟩⟩
  · obtain ⟨v, h1, h2⟩ := I.blk id B hid
    exact ⟨v, h1, h2.mono (fun _ _ q => q) (fun g hg => ⟨e.immS g hg, keep g (I.lt g hg)⟩) fun g a b => keep g (h2.lt a b)⟩
  · rcases immR g q with q | q
    · exact I.own g o q
    · have := I.owned_lt o; omega

theorem mkH_nil (id : Nat) : mkH [] id = none := by simp [mkH]
theorem not_owned_nil (ι : Nat → Option Value) (g : Nat) : ¬ Owned ι (mkH []) g := by
  rintro ⟨id, B, v, h1, _⟩; rw [mkH_nil] at h1; cases h1

variable (I : Inv ι imm h w) (ok : EnvOk P E) (he : ∀ x, RepV ι imm w (ev x) (ρ x))
include I ok he

theorem op_callPure {f : Operand} {g : FuncId} {args : Array Operand} {ts : Array TypeId} (ho : o.op = .call { callee := .value f, args := args, argTypes := ts }) (hf : ev f = .fn g) {ds : List D}
    (hd : toDs Ω h (args.toList.map ev) = some ds) {r : V} (hC : E.C g ds r) (hK : K { v := r, upd := freezeL h ((args.toList.map ev).flatMap idsOf), rd := (args.toList.map ev).flatMap idsOf }) :
    OpDone P ι imm h w K ((execOp ρ o).run P w) := by
  obtain ⟨hcall, hgood⟩ := ok.C g ds r hC
  have h1 := he f
  rw [hf] at h1
  obtain ⟨d1, d2⟩ := toDs_ok _ _ hd
  obtain ⟨imm1, I1, E1⟩ := Inv.freezeL ((args.toList.map ev).flatMap idsOf) I
  refine .inr ⟨g, args.map ρ, run_enter hcall ho (repFn h1), ?_⟩
  have I0 : Inv (fun _ => none) imm1 (mkH []) w := ⟨fun id B hid => (by rw [mkH_nil] at hid; cases hid), fun _ _ => rfl, fun g o => absurd o (not_owned_nil _ g), fun a b A B x y g h1 => (by rw [mkH_nil] at h1; cases h1), I1.lt⟩
  refine (hgood (fun _ => none) imm1 w (args.map ρ) I0 (by simp at d1 ⊢; omega) (fun j hj => ?_)).mono ?_
  · have hj' : j < ds.length := by simpa using hj
    have hja : j < args.toList.length := by simp at d1 ⊢; omega
    have e1 : (ds.map V.d).getD j .junk = .d (ds.getD j .np) := by simp [List.getD, hj']
    have e2 : (args.map ρ).getD j undef = ρ (args.toList.getD j (.const undef)) := by
      have : j < args.size := by simpa using hja
      simp [Array.getD, this, List.getD]
    have e3 : (args.toList.map ev).getD j .junk = ev (args.toList.getD j (.const undef)) := by
      have : j < args.size := by simpa using hja
      simp [List.getD, this]
    have := d2 j (by simpa using hja)
    rw [e3] at this
    rw [e1, e2]
    refine toD_rep I1 (fun i hi l e z xs hx => freezeL_done h _ i (List.mem_flatMap.2 ⟨ev (args.toList.getD j (.const undef)), List.mem_map.2 ⟨args.toList.getD j (.const undef), ?_, rfl⟩, hi⟩) l e z xs hx) ((he _).evo I E1) this
    rw [List.getD_eq_getElem?_getD, List.getElem?_eq_getElem hja]
    exact List.getElem_mem hja
  · rintro e w' ⟨v, ι', imm', rfl, e2, I2, hr⟩
    obtain ⟨I3, E3⟩ := I1.called e2 I2 (not_owned_nil _)
    refine ⟨v, _, ι, imm', rfl, hK, E1.trans E3, I3, hr.mono (fun id v q => ?_) fun g hg => ⟨hg, rfl⟩⟩
    have := I2.non id (mkH_nil id)
    rw [this] at q; cases q


omit I ok he
theorem getAll_ok : ∀ (l : List Nat) (bs : List Blk), getAll h l = some bs → bs.length = l.length ∧ ∀ (j : Nat) (i : Nat), l[j]? = some i → ∃ B, bs[j]? = some B ∧ h i = some B
  | [], bs, e => by cases e; exact ⟨rfl, fun j i hj => by simp at hj⟩
  | a :: r, bs, e => by
    simp only [getAll] at e
    split at e
    · rename_i x l' ha hr'
      cases e
      obtain ⟨i1, i2⟩ := getAll_ok r l' hr'
      refine ⟨by simp [i1], fun j i hj => ?_⟩
      cases j with
      | zero => simp at hj; subst hj; exact ⟨x, rfl, ha⟩
      | succ j => exact i2 j i (by simpa using hj)
    · cases e

theorem nodupB_ok : ∀ (l : List Nat), nodupB l = true → l.Nodup
  | [], _ => List.nodup_nil
  | a :: r, e => by
    simp only [nodupB, Bool.and_eq_true, Bool.not_eq_true', List.contains_eq_mem, decide_eq_false_iff_not] at e
    exact List.nodup_cons.2 ⟨e.1, nodupB_ok r e.2⟩

theorem allNew_ok : ∀ (l : List Nat), allNew h l → ∀ i, i ∈ l → h i = none
  | [], _, i, hi => absurd hi List.not_mem_nil
  | a :: r, e, i, hi => by
    rcases List.mem_cons.1 hi with q | q
    · subst q; exact e.1
    · exact allNew_ok r e.2 i q

theorem newIds_nodup (id n : Nat) : (newIds id n).Nodup := by
  unfold newIds
  refine List.Pairwise.map _ (fun a b (hab : a ≠ b) => ?_) List.nodup_range
  omega

/-- blocks laid over a heap, each under its number -/
theorem ups_zip : ∀ (τ : List Nat) (bs : List Blk), τ.Nodup → τ.length = bs.length → ∀ i, (∀ j : Nat, τ[j]? = some i → ∃ B, bs[j]? = some B ∧ ups h (τ.zip bs) i = some B) ∧ (i ∉ τ → ups h (τ.zip bs) i = h i)
  | [], bs, _, _, i => ⟨fun j hj => by simp at hj, fun _ => rfl⟩
  | a :: r, [], _, hl, i => by cases hl
  | a :: r, b :: bs, hn, hl, i => by
    obtain ⟨n1, n2⟩ := List.nodup_cons.1 hn
    obtain ⟨k1, k2⟩ := ups_zip r bs n2 (by simpa using hl) i
    simp only [List.zip_cons_cons, ups]
    refine ⟨fun j hj => ?_, fun hi => ?_⟩
    · cases j with
      | zero => simp at hj; subst hj; exact ⟨b, rfl, upd_same _ _ _⟩
      | succ j =>
        have hj' : r[j]? = some i := by simpa using hj
        obtain ⟨B, q1, q2⟩ := k1 j hj'
        have hne : i ≠ a := fun q => by subst q; exact n1 (List.mem_of_getElem? hj')
        exact ⟨B, by simpa using q1, by rw [upd_other _ _ _ _ hne]; exact q2⟩
    · have hne : i ≠ a := fun q => by subst q; exact hi (by simp)
      rw [upd_other _ _ _ _ hne]
      exact k2 fun q => hi (by simp [q])

theorem fore_some {σ : List Nat} {i k : Nat} (hf : fore σ i = some k) : σ[k]? = some i := by
  unfold fore at hf
  rw [List.idxOf?, List.findIdx?_eq_some_iff_getElem] at hf
  obtain ⟨hk, h1, _⟩ := hf
  simp at h1
  rw [List.getElem?_eq_getElem hk, h1]

include I ok he
theorem op_callRef {f : Operand} {g : FuncId} {args : Array Operand} {ts : Array TypeId} (ho : o.op = .call { callee := .value f, args := args, argTypes := ts }) (hf : ev f = .fn g) {σ : List Nat} {bs : List Blk}
    (hb : getAll h σ = some bs) {r : V} {bs' : List Blk} (hC : E.C2 g ((args.toList.map ev).map (ren (fore σ))) (bs.map (renB (fore σ))) r bs') {ns : List Nat} (hnew : allNew h ns) (hnd : ns.Nodup)
    (hlen : bs.length ≤ bs'.length) (hns : ns.length = bs'.length - bs.length) (hσ : nodupB σ = true)
    (hK : K { v := ren (back (σ ++ ns)) r, upd := (σ ++ ns).zip (bs'.map (renB (back (σ ++ ns)))), rd := σ ++ ns }) :
    OpDone P ι imm h w K ((execOp ρ o).run P w) := by
  obtain ⟨hcall, hgood⟩ := ok.C2 g _ _ r bs' hC
  have h1 := he f
  rw [hf] at h1
  obtain ⟨b1, b2⟩ := getAll_ok _ _ hb
  have hsn := nodupB_ok _ hσ
  have hnone := allNew_ok _ hnew
  have hsome : ∀ (k : Nat) i, σ[k]? = some i → ∃ B v, bs[k]? = some B ∧ h i = some B ∧ ι i = some v ∧ BlkRep ι imm w B v := fun k i hk => by
    obtain ⟨B, q1, q2⟩ := b2 k i hk
    obtain ⟨v, q3, q4⟩ := I.blk i B q2
    exact ⟨B, v, q1, q2, q3, q4⟩
  have hdis : ∀ i, i ∈ σ → i ∉ ns := fun i a b => by
    obtain ⟨k, hk⟩ := List.mem_iff_getElem?.1 a
    obtain ⟨B, v, _, q, _⟩ := hsome k i hk
    rw [hnone i b] at q; cases q
  have hτn : (σ ++ ns).Nodup := List.nodup_append.2 ⟨hsn, hnd, fun a ha b hb hab => by subst hab; exact hdis a ha hb⟩
  have hτl : (σ ++ ns).length = bs'.length := by rw [List.length_append]; omega
  -- the callee's numbers
  let ιc : Nat → Option Value := fun k => (σ[k]?).bind ι
  have hιc : ∀ i k v, fore σ i = some k → ι i = some v → ιc k = some v := fun i k v hf hv => by
    show (σ[k]?).bind ι = some v
    rw [fore_some hf]; exact hv
  have hmk : ∀ k B, mkH (bs.map (renB (fore σ))) k = some B → ∃ i B0 v, σ[k]? = some i ∧ h i = some B0 ∧ B = renB (fore σ) B0 ∧ ι i = some v ∧ ιc k = some v ∧ BlkRep ι imm w B0 v := fun k B hB => by
    simp only [mkH, List.getElem?_map] at hB
    cases hk : bs[k]? with
    | none => rw [hk] at hB; cases hB
    | some B0 =>
      rw [hk] at hB; cases hB
      have hlt : k < σ.length := by have := (List.getElem?_eq_some_iff.1 hk).1; omega
      have hki : σ[k]? = some σ[k] := List.getElem?_eq_getElem hlt
      obtain ⟨B1, v, q1, q2, q3, q4⟩ := hsome k _ hki
      rw [hk] at q1; cases q1
      exact ⟨_, _, v, hki, q2, rfl, q3, by show (σ[k]?).bind ι = some v; rw [hki]; exact q3, q4⟩
  have ownc : ∀ x, Owned ιc (mkH (bs.map (renB (fore σ)))) x → ∃ k i B0 v, σ[k]? = some i ∧ h i = some B0 ∧ live B0 = true ∧ ι i = some v ∧ blockOf v = some x ∧ ιc k = some v := fun x ⟨k, B, v, q1, q2, q3, q4⟩ => by
    obtain ⟨i, B0, v', p1, p2, rfl, p3, p4, _⟩ := hmk k B q1
    rw [p4] at q3; cases q3
    exact ⟨k, i, B0, _, p1, p2, (by rw [live_renB] at q2; exact q2), p3, q4, p4⟩
  have ownc' : ∀ x, Owned ιc (mkH (bs.map (renB (fore σ)))) x → Owned ι h x := fun x o => by
    obtain ⟨k, i, B0, v, _, p2, p3, p4, p5, _⟩ := ownc x o
    exact ⟨i, B0, v, p2, p3, p4, p5⟩
  have Ic : Inv ιc imm (mkH (bs.map (renB (fore σ)))) w := by
    refine ⟨fun k B hB => ?_, fun k hk => ?_, fun x o => I.own x (ownc' x o), ?_, I.lt⟩
    · obtain ⟨i, B0, v, _, _, rfl, _, p4, p5⟩ := hmk k B hB
      exact ⟨v, p4, renB_rep hιc p5⟩
    · show (σ[k]?).bind ι = none
      have : ¬ k < σ.length := fun q => by
        have : k < (bs.map (renB (fore σ))).length := by simp; omega
        simp only [mkH] at hk
        rw [List.getElem?_eq_getElem this] at hk; cases hk
      rw [List.getElem?_eq_none (by omega)]; rfl
    · intro k1 k2 B1 B2 v1 v2 x q1 q2 l1 l2 e1 e2 g1 g2
      obtain ⟨i1, A1, u1, p1, p2, rfl, p3, p4, _⟩ := hmk k1 B1 q1
      obtain ⟨i2, A2, u2, r1, r2, rfl, r3, r4, _⟩ := hmk k2 B2 q2
      rw [p4] at e1; cases e1
      rw [r4] at e2; cases e2
      rw [live_renB] at l1 l2
      have := I.inj i1 i2 A1 A2 _ _ x p2 r2 l1 l2 p3 r3 g1 g2
      subst this
      have a1 := (List.getElem?_eq_some_iff.1 p1)
      have a2 := (List.getElem?_eq_some_iff.1 r1)
      obtain ⟨l1, a1⟩ := a1
      obtain ⟨l2, a2⟩ := a2
      exact (List.getElem_inj hsn).1 (a1.trans a2.symm)
  refine .inr ⟨g, args.map ρ, run_enter hcall ho (repFn h1), ?_⟩
  refine (hgood ιc imm w (args.map ρ) Ic (by simp) (fun j hj => ?_)).mono ?_
  · have hja : j < args.size := by simpa using hj
    have e1 : ((args.toList.map ev).map (ren (fore σ))).getD j .junk = ren (fore σ) (ev (args.toList.getD j (.const undef))) := by simp [List.getD, hja]
    have e2 : (args.map ρ).getD j undef = ρ (args.toList.getD j (.const undef)) := by simp [Array.getD, hja, List.getD]
    rw [e1, e2]
    exact ren_rep hιc (he _)
  · rintro e w' ⟨v, ι', imm', rfl, e2, I2, hr⟩
    have hι'σ : ∀ (k : Nat) i v, σ[k]? = some i → ι i = some v → ι' k = some v := fun k i v hk hv => e2.ids k v (by show (σ[k]?).bind ι = some v; rw [hk]; exact hv)
    -- the caller's numbers behind the call
    let ι2 : Nat → Option Value := fun i => match fore ns i with
      | some k => ι' (bs.length + k)
      | none => ι i
    have fore_none : ∀ i, i ∉ ns → fore ns i = none := fun i hi => by
      unfold fore
      rw [List.idxOf?, List.findIdx?_eq_none_iff]
      intro x hx
      simp
      intro q; subst q; exact hi hx
    have hold : ∀ i, i ∉ ns → ι2 i = ι i := fun i hi => by show (match fore ns i with | some k => _ | none => _) = _; rw [fore_none i hi]
    have hmono : ∀ i v, ι i = some v → ι2 i = some v := fun i v hv => by
      rw [hold i fun q => by rw [I.non i (hnone i q)] at hv; cases hv]; exact hv
    have hback : ∀ k i v, back (σ ++ ns) k = some i → ι' k = some v → ι2 i = some v := fun k i v hk hv => by
      simp only [back] at hk
      by_cases c : k < σ.length
      · rw [List.getElem?_append_left c] at hk
        obtain ⟨B, u, _, _, q3, _⟩ := hsome k i hk
        have := hι'σ k i u hk q3
        rw [hv] at this; cases this
        exact hmono i v q3
      · rw [List.getElem?_append_right (by omega)] at hk
        have hf : fore ns i = some (k - σ.length) := by
          unfold fore
          rw [List.idxOf?, List.findIdx?_eq_some_iff_getElem]
          obtain ⟨hlt, he'⟩ := List.getElem?_eq_some_iff.1 hk
          refine ⟨hlt, by simp [he'], fun j hj => ?_⟩
          simp
          intro q
          have := (List.getElem_inj (h₀ := by omega) (h₁ := hlt) hnd).1 (q.trans he'.symm)
          omega
        show (match fore ns i with | some k => ι' (bs.length + k) | none => ι i) = some v
        rw [hf]
        show ι' (bs.length + (k - σ.length)) = some v
        rw [show bs.length + (k - σ.length) = k by omega]; exact hv
    have keepc : ∀ x, x < w.heap.size → ¬ Owned ιc (mkH (bs.map (renB (fore σ)))) x → w'.heap[x]? = w.heap[x]? := e2.keep
    have hH : ∀ i, (∀ k : Nat, (σ ++ ns)[k]? = some i → ∃ B, bs'[k]? = some B ∧ ups h ((σ ++ ns).zip (bs'.map (renB (back (σ ++ ns))))) i = some (renB (back (σ ++ ns)) B)) ∧ (i ∉ σ ++ ns → ups h ((σ ++ ns).zip (bs'.map (renB (back (σ ++ ns))))) i = h i) := fun i => by
      obtain ⟨k1, k2⟩ := ups_zip (h := h) (σ ++ ns) (bs'.map (renB (back (σ ++ ns)))) hτn (by simpa using hτl) i
      refine ⟨fun k hk => ?_, k2⟩
      obtain ⟨B, q1, q2⟩ := k1 k hk
      rw [List.getElem?_map] at q1
      cases hB : bs'[k]? with
      | none => rw [hB] at q1; cases q1
      | some B0 => rw [hB] at q1; cases q1; exact ⟨B0, rfl, q2⟩
    have hcase : ∀ i B, ups h ((σ ++ ns).zip (bs'.map (renB (back (σ ++ ns))))) i = some B → (∃ (k : Nat) (B0 : Blk) (v : Value), (σ ++ ns)[k]? = some i ∧ B = renB (back (σ ++ ns)) B0 ∧ mkH bs' k = some B0 ∧ ι' k = some v ∧ ι2 i = some v ∧ BlkRep ι' imm' w' B0 v) ∨
        (i ∉ σ ∧ i ∉ ns ∧ h i = some B) := fun i B hB => by
      by_cases c : i ∈ σ ++ ns
      · obtain ⟨k, hk⟩ := List.mem_iff_getElem?.1 c
        obtain ⟨B0, q1, q2⟩ := (hH i).1 k hk
        rw [hB] at q2; cases q2
        obtain ⟨v, q3, q4⟩ := I2.blk k B0 q1
        exact .inl ⟨k, B0, v, hk, rfl, q1, q3, hback k i v hk q3, q4⟩
      · rw [(hH i).2 c] at hB
        rw [List.mem_append, not_or] at c
        exact .inr ⟨c.1, c.2, hB⟩
    -- a block of the caller's that was not handed on is nobody else's
    have apart : ∀ i B v x, i ∉ σ → h i = some B → live B = true → ι i = some v → blockOf v = some x → ¬ Owned ιc (mkH (bs.map (renB (fore σ)))) x := fun i B v x hi q1 q2 q3 q4 o => by
      obtain ⟨k, i', B0, v', p1, p2, p3, p4, p5, _⟩ := ownc x o
      have := I.inj i i' B B0 v v' x q1 p2 q2 p3 q3 p4 q4 p5
      subst this
      exact hi (List.mem_of_getElem? p1)
    have own2 : ∀ x, Owned ι2 (ups h ((σ ++ ns).zip (bs'.map (renB (back (σ ++ ns)))))) x → Owned ι' (mkH bs') x ∨ (∃ i B v, i ∉ σ ∧ i ∉ ns ∧ h i = some B ∧ live B = true ∧ ι i = some v ∧ blockOf v = some x) := fun x ⟨i, B, v, q1, q2, q3, q4⟩ => by
      rcases hcase i B q1 with ⟨k, B0, u, p1, rfl, p2, p3, p4, _⟩ | ⟨p1, p1', p2⟩
      · rw [p4] at q3; cases q3
        exact .inl ⟨k, B0, _, p2, by rw [live_renB] at q2; exact q2, p3, q4⟩
      · rw [hold i p1'] at q3
        exact .inr ⟨i, B, v, p1, p1', p2, q2, q3, q4⟩
    have notimm : ∀ i B v x, i ∉ σ → h i = some B → live B = true → ι i = some v → blockOf v = some x → ¬ imm' x := fun i B v x hi q1 q2 q3 q4 c => by
      rcases e2.immR x c with q | q | q
      · exact I.own x ⟨i, B, v, q1, q2, q3, q4⟩ q
      · have := I.owned_lt ⟨i, B, v, q1, q2, q3, q4⟩; omega
      · exact apart i B v x hi q1 q2 q3 q4 q
    have hm : ∀ x, imm x → imm' x ∧ w'.heap[x]? = w.heap[x]? := fun x hx => ⟨e2.immS x hx, keepc x (I.lt x hx) fun o => I.own x (ownc' x o) hx⟩
    refine ⟨v, _, ι2, imm', rfl, hK, ⟨hmono, e2.immS, fun x hx => ?_, fun x o => ?_, fun x hx hn => keepc x hx fun o => hn (ownc' x o), e2.size, e2.os, e2.tape, e2.output⟩, ⟨fun i B hB => ?_, fun i hi => ?_, fun x o => ?_, ?_, I2.lt⟩, ?_⟩
    · rcases e2.immR x hx with q | q | q
      · exact .inl q
      · exact .inr (.inl q)
      · exact .inr (.inr (ownc' x q))
    · rcases own2 x o with q | ⟨i, B, v, _, _, q1, q2, q3, q4⟩
      · rcases e2.own' x q with q | q
        · exact .inl (ownc' x q)
        · exact .inr q
      · exact .inl ⟨i, B, v, q1, q2, q3, q4⟩
    · rcases hcase i B hB with ⟨k, B0, u, p1, rfl, p2, p3, p4, p5⟩ | ⟨p1, p1', p2⟩
      · exact ⟨u, p4, renB_rep (fun a b c => hback a b c) p5⟩
      · obtain ⟨u, q1, q2⟩ := I.blk i B p2
        exact ⟨u, hmono i u q1, q2.mono hmono hm fun x l b => keepc x (q2.lt l b) (apart i B u x p1 p2 l q1 b)⟩
    · have c : i ∉ σ ++ ns := fun c => by
        obtain ⟨k, hk⟩ := List.mem_iff_getElem?.1 c
        obtain ⟨B0, _, q2⟩ := (hH i).1 k hk
        rw [hi] at q2; cases q2
      rw [(hH i).2 c] at hi
      rw [List.mem_append, not_or] at c
      rw [hold i c.2]; exact I.non i hi
    · rcases own2 x o with q | ⟨i, B, v, q0, _, q1, q2, q3, q4⟩
      · exact I2.own x q
      · exact notimm i B v x q0 q1 q2 q3 q4
    · intro i1 i2 B1 B2 v1 v2 x q1 q2 l1 l2 t1 t2 g1 g2
      have cross : ∀ (k : Nat) (B0 : Blk) (u : Value) j Bj uj, mkH bs' k = some B0 → live B0 = true → ι' k = some u → blockOf u = some x → j ∉ σ → h j = some Bj → live Bj = true → ι j = some uj → blockOf uj = some x → False := fun k B0 u j Bj uj a1 a2 a3 a4 c1 c2 c3 c4 c5 => by
        rcases e2.own' x ⟨k, B0, u, a1, a2, a3, a4⟩ with q | q
        · exact apart j Bj uj x c1 c2 c3 c4 c5 q
        · have := I.owned_lt ⟨j, Bj, uj, c2, c3, c4, c5⟩; omega
      rcases hcase i1 B1 q1 with ⟨k, B0, u, p1, rfl, p2, p3, p4, _⟩ | ⟨p1, p1', p2⟩
      · rw [p4] at t1; cases t1
        rw [live_renB] at l1
        rcases hcase i2 B2 q2 with ⟨k', B0', u', p1', rfl, p2', p3', p4', _⟩ | ⟨r1, r1', r2⟩
        · rw [p4'] at t2; cases t2
          rw [live_renB] at l2
          have := I2.inj k k' B0 B0' _ _ x p2 p2' l1 l2 p3 p3' g1 g2
          subst this
          rw [p1] at p1'; cases p1'; rfl
        · rw [hold i2 r1'] at t2
          exact (cross k B0 _ i2 B2 v2 p2 l1 p3 g1 r1 r2 l2 t2 g2).elim
      · rw [hold i1 p1'] at t1
        rcases hcase i2 B2 q2 with ⟨k', B0', u', r1, rfl, r2, r3, r4, _⟩ | ⟨r1, r1', r2⟩
        · rw [r4] at t2; cases t2
          rw [live_renB] at l2
          exact (cross k' B0' _ i1 B1 v1 r2 l2 r3 g2 p1 p2 l1 t1 g1).elim
        · rw [hold i2 r1'] at t2
          exact I.inj i1 i2 B1 B2 v1 v2 x p2 r2 l1 l2 t1 t2 g1 g2
    · exact ren_rep (fun a b c => hback a b c) hr

end
end Go.K
end
