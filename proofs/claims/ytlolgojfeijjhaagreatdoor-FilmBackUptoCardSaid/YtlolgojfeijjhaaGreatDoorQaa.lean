/-
  Parts of the proof, joined by a program of this work: KWords, KDefs, KInst, KRep.
-/
import Derived.Orders
import Derived.KernelRfl
import Derived.Laws.MakeOwn
import Derived.Laws.Slices
import Derived.Laws.CopyOwn
section
namespace Go.K
inductive D where
 | b (x : Bool)
 | i (k : IntKind) (n : Int)
 | s (x : ByteArray)
 | np
 | nif
 | ifc (t : TypeId) (x : D)
 | sl (xs : List D)
 | agg (cs : List D)
 deriving Inhabited
def D.cells : D → List D
 | .agg cs => cs
 | x => [x]
def D.isAgg : D → Bool
 | .agg _ => true
 | _ => false
inductive Wd where
 | ci | wrap | imax | imin | iand | ior | ixor | ishl | ishr | tmod | lt | le | eq | ne | ile | ilt | slen | sget | ssub | sset | srep | scat | tn | nadd | nsub | nlt | leb | room | scpy | bget | bext | bcat | bsz | beqs | bnes | bcl | dby | byts
@[reducible] def WTy : Wd → Type
 | .ci => Nat → Int
 | .wrap => IntKind → Int → Int
 | .imax | .imin | .tmod => Int → Int → Int
 | .iand | .ior | .ixor | .ishl | .ishr => IntKind → Int → Int → Int
 | .lt | .le | .eq | .ne => Int → Int → Bool
 | .ile | .ilt => Int → Int → Prop
 | .slen => List D → Nat
 | .sget => List D → Nat → Option D
 | .ssub => List D → Nat → Nat → List D
 | .sset => List D → Nat → D → List D
 | .srep => Nat → D → List D
 | .scat => List D → List D → List D
 | .tn => Int → Nat
 | .nadd | .nsub => Nat → Nat → Nat
 | .nlt | .room => Nat → Nat → Prop
 | .leb => Nat → Nat → Bool
 | .scpy => List D → Nat → List D → List D
 | .bget => ByteArray → Nat → Option Nat
 | .bext => ByteArray → Nat → Nat → ByteArray
 | .bcat => ByteArray → ByteArray → ByteArray
 | .bsz => ByteArray → Nat
 | .beqs | .bnes => ByteArray → ByteArray → Bool
 | .bcl => ByteArray → List D
 | .dby => List D → ByteArray
 | .byts => List D → Prop
def Ω : (t : Wd) → WTy t
 | .ci => fun (n : Nat) => (n : Int)
 | .wrap => fun k n => k.wrap n
 | .imax => fun (n m : Int) => if m > n then m else n
 | .imin => fun (n m : Int) => if m < n then m else n
 | .tmod => fun (n m : Int) => n.tmod m
 | .iand => fun (k : IntKind) (n m : Int) => k.wrap (BitVec.ofInt k.bits n &&& BitVec.ofInt k.bits m).toNat
 | .ior => fun (k : IntKind) (n m : Int) => k.wrap (BitVec.ofInt k.bits n ||| BitVec.ofInt k.bits m).toNat
 | .ixor => fun (k : IntKind) (n m : Int) => k.wrap (BitVec.ofInt k.bits n ^^^ BitVec.ofInt k.bits m).toNat
 | .ishl => fun (k : IntKind) (n m : Int) => k.wrap (n * 2 ^ (min m.toNat k.bits))
 | .ishr => fun (k : IntKind) (n m : Int) => n.fdiv (2 ^ (min m.toNat k.bits))
 | .lt => fun (n m : Int) => decide (n < m)
 | .le => fun (n m : Int) => decide (n ≤ m)
 | .eq => fun (n m : Int) => n == m
 | .ne => fun (n m : Int) => n != m
 | .ile => fun (n m : Int) => n ≤ m
 | .ilt => fun (n m : Int) => n < m
 | .slen => fun (xs : List D) => xs.length
 | .sget => fun (xs : List D) (k : Nat) => xs[k]?
 | .ssub => fun (xs : List D) (a n : Nat) => (xs.drop a).take n
 | .sset => fun (xs : List D) (k : Nat) (y : D) => xs.set k y
 | .srep => fun (n : Nat) (x : D) => List.replicate n x
 | .scat => fun (xs ys : List D) => xs ++ ys
 | .tn => fun (n : Int) => n.toNat
 | .nadd => fun (a b : Nat) => a + b
 | .nsub => fun (a b : Nat) => a - b
 | .nlt => fun (a b : Nat) => a < b
 | .leb => fun (a b : Nat) => decide (a ≤ b)
 | .scpy => fun (xs : List D) (a : Nat) (zs : List D) => xs.take a ++ zs ++ xs.drop (a + zs.length)
 | .room => fun (n b : Nat) => n * b ≤ 140737488355328 ∧ n ≤ 1099511627776
 | .bget => fun (b : ByteArray) (k : Nat) => (b[k]?).map fun c => c.toNat
 | .bext => fun (b : ByteArray) (i j : Nat) => b.extract i j
 | .bcat => fun (a b : ByteArray) => a ++ b
 | .bsz => fun (b : ByteArray) => b.size
 | .beqs => fun (a b : ByteArray) => a.toList == b.toList
 | .bnes => fun (a b : ByteArray) => !(a.toList == b.toList)
 | .bcl => fun (b : ByteArray) => b.data.toList.map fun c => D.i .u8 (c.toNat : Int)
 | .dby => fun (xs : List D) => ⟨(xs.map fun x => match x with | .i _ n => UInt8.ofNat n.toNat | _ => 0).toArray⟩
 | .byts => fun (xs : List D) => ∀ u, u ∈ xs → ∃ n : Nat, n < 256 ∧ u = .i .u8 n
def nv : List Nat → Nat
 | [] => 0
 | x :: l => x + 4294967296 * nv l
def cn (n : Nat) : List Nat := if h : n = 0 then [] else n % 4294967296 :: cn (n / 4294967296)
 termination_by n
 decreasing_by omega
structure RL where
 neg : Bool
 num : List Nat
 den : List Nat
structure VL where
 x : RL
 y : RL
 z : RL
structure V3 where
 x : Rat
 y : Rat
 z : Rat
structure M3 where
 s : Rat
 u : Rat
 v : Rat
structure ML where
 s : RL
 u : RL
 v : RL
structure BL where
 lo : VL
 hi : VL
structure B3 where
 lo : V3
 hi : V3
def limsR (l : List Nat) : List D := l.map fun (x : Nat) => D.i .u32 (x : Int)
def crR (q : Rat) : RL := ⟨decide (q.num < 0), cn q.num.natAbs, cn q.den⟩
def cVR (p : V3) : VL := ⟨crR p.x, crR p.y, crR p.z⟩
def dRR (r : RL) : List D := [.b r.neg, .sl (limsR r.num), .sl (limsR r.den)]
def dVR (v : VL) : List D := [.b v.x.neg, .sl (limsR v.x.num), .sl (limsR v.x.den), .b v.y.neg, .sl (limsR v.y.num), .sl (limsR v.y.den), .b v.z.neg, .sl (limsR v.z.num), .sl (limsR v.z.den)]
inductive Sd where
 | lims | cr | cI | sI | cmpI | dRs | dVs | dBs | cV | cB | cM | hb | cn | str | strs | ints
@[reducible] def STy : Sd → Type
 | .lims => List Nat → List D
 | .cr => Rat → RL
 | .cI => Rat → Rat → Int
 | .sI => Rat → Int
 | .cmpI => Nat → Nat → Int
 | .dRs => List RL → List D
 | .dVs => List VL → List D
 | .dBs => List BL → List D
 | .cV => V3 → VL
 | .cB => B3 → BL
 | .cM => M3 → ML
 | .hb => Bool → Bool
 | .cn => Nat → List Nat
 | .str => List Nat → ByteArray
 | .strs => List ByteArray → List D
 | .ints => List Int → List D
def Ψ : (t : Sd) → STy t
 | .lims => limsR
 | .cr => crR
 | .cI => fun (p q : Rat) => if p < q then (-1 : Int) else if q < p then 1 else 0
 | .sI => fun (q : Rat) => if q < 0 then (-1 : Int) else if 0 < q then 1 else 0
 | .cmpI => fun (m n : Nat) => if m < n then (-1 : Int) else if n < m then 1 else 0
 | .dRs => fun (l : List RL) => l.map fun r => D.agg (dRR r)
 | .dVs => fun (l : List VL) => l.map fun r => D.agg (dVR r)
 | .dBs => fun (l : List BL) => l.map fun b => D.agg (dVR b.lo ++ dVR b.hi)
 | .cV => cVR
 | .cB => fun (p : B3) => ⟨cVR p.lo, cVR p.hi⟩
 | .cM => fun (m : M3) => ⟨crR m.s, crR m.u, crR m.v⟩
 | .hb => fun (b : Bool) => b
 | .cn => cn
 | .str => fun (l : List Nat) => ⟨(l.map UInt8.ofNat).toArray⟩
 | .strs => fun (l : List ByteArray) => l.map D.s
 | .ints => fun (l : List Int) => l.map (D.i .i64)
section
variable (Ψ : (t : Sd) → STy t)
def dN (l : List Nat) : D := .sl (Ψ .lims l)
def dR (r : RL) : List D := [.b r.neg, dN Ψ r.num, dN Ψ r.den]
def dV (v : VL) : List D := [.b v.x.neg, dN Ψ v.x.num, dN Ψ v.x.den, .b v.y.neg, dN Ψ v.y.num, dN Ψ v.y.den, .b v.z.neg, dN Ψ v.z.num, dN Ψ v.z.den]
def dB (b : BL) : List D := [.b b.lo.x.neg, dN Ψ b.lo.x.num, dN Ψ b.lo.x.den, .b b.lo.y.neg, dN Ψ b.lo.y.num, dN Ψ b.lo.y.den, .b b.lo.z.neg, dN Ψ b.lo.z.num, dN Ψ b.lo.z.den,
 .b b.hi.x.neg, dN Ψ b.hi.x.num, dN Ψ b.hi.x.den, .b b.hi.y.neg, dN Ψ b.hi.y.num, dN Ψ b.hi.y.den, .b b.hi.z.neg, dN Ψ b.hi.z.num, dN Ψ b.hi.z.den]
end
end Go.K
end
section
namespace Go.K
variable (Ω : (t : Wd) → WTy t)
inductive V where
 | d (x : D)
 | agg (cs : List V)
 | tup (cs : List V)
 | ptr (id off : Nat)
 | ept (id sz i off : Nat)
 | ip (x : D) (off : Nat)
 | own (id sz : Nat)
 | ref (id sz off len : Nat)
 | nil
 | fn (f : FuncId)
 | clo (f : FuncId) (first caps : List (Option Nat))
 | junk
 deriving Inhabited
def V.cells : V → List V
 | .d x => x.cells.map V.d
 | .agg cs => cs
 | v => [v]
def V.cellsO : V → Option (List V)
 | .junk => none
 | .tup _ => none
 | v => some v.cells
inductive Blk where
 | row (live : Bool) (e sz : Nat) (xs : List D)
 | var (cs : List V) (T : Option TypeId := none)
 | dead
 deriving Inhabited
abbrev Heap := Nat → Option Blk
structure TInfo where
 size : Nat
 bytes : Nat
 zero : Option Value
 und : TypeDesc
def upd {α : Type} (s : Nat → α) (t : Nat) (v : α) : Nat → α := fun x => if x = t then v else s x
structure St where
 sl : Nat → V
 h : Heap
def const1 : Value → V
 | .bool x => .d (.b x)
 | .int k n => .d (.i k n)
 | .string x => .d (.s x)
 | .pointer none => .d .np
 | .nilIface => .d .nif
 | .slice none 0 0 => .nil
 | _ => .junk
def constV : Value → V
 | .agg cs => if cs.toList.all Value.oneCell' then .agg (cs.toList.map const1) else .junk
 | v => const1 v
def capV : Option Nat → V
 | some i => .ptr i 0
 | none => .d .np
def capOf : V → Option (Option Nat)
 | .ptr i 0 => some (some i)
 | .d .np => some none
 | _ => none
def capsOf : List V → Option (List (Option Nat))
 | [] => some []
 | v :: r => match capOf v, capsOf r with
  | some a, some l => some (a :: l)
  | _, _ => none
def fnOf (f : V) (as : List V) : Option (FuncId × List V) :=
 match f with
 | .fn g => some (g, as)
 | .clo g a b => some (g, a.map capV ++ as ++ b.map capV)
 | _ => none
def ev (s : Nat → V) : Operand → V
 | .tmp t => s t
 | .const v => constV v
 | .global _ => .junk
 | .func f => .fn f
def BrG (t : Bool) (K : Bool → Prop) : Prop := (cond t (fun (_ : Unit) => K true) (fun (_ : Unit) => K false)) ()
def DK (r : D) (K : D → Prop) : Prop :=
 match r with
 | .b t => BrG t fun t => K (.b t)
 | r => K r
def toD1 (h : Heap) : V → Option D
 | .d x => some x
 | .nil => some (.sl [])
 | .own id _ => match h id with
  | some (.row _ _ _ xs) => some (.sl xs)
  | _ => none
 | .ref id sz off len => match h id with
  | some (.row _ _ z xs) => if z = sz then cond (Ω .leb (Ω .nadd off len) (Ω .slen xs)) (some (.sl (Ω .ssub xs off len))) none else none
  | _ => none
 | _ => none
def allD (h : Heap) : List V → Option (List D)
 | [] => some []
 | v :: r => match toD1 Ω h v, allD h r with
  | some x, some l => some (x :: l)
  | _, _ => none
def toD (h : Heap) : V → Option D
 | .agg cs => match allD Ω h cs with
  | some l => some (.agg l)
  | none => none
 | v => toD1 Ω h v
def toDs (h : Heap) : List V → Option (List D)
 | [] => some []
 | v :: r => match toD Ω h v, toDs h r with
  | some x, some l => some (x :: l)
  | _, _ => none
def ids1 : V → List Nat
 | .own id _ => [id]
 | .ref id _ _ _ => [id]
 | _ => []
def idsOf : V → List Nat
 | .agg cs => cs.flatMap ids1
 | v => ids1 v
structure Out where
 v : V
 upd : List (Nat × Blk) := []
 rd : List Nat := []
def ups (h : Heap) : List (Nat × Blk) → Heap
 | [] => h
 | (i, b) :: r => upd (ups h r) i (some b)
def loadD (x : D) (off n : Nat) (agg : Bool) : D :=
 if agg then (if x.isAgg && off == 0 && n == x.cells.length then x else .agg ((x.cells.drop off).take n)) else x.cells.getD off .np
def isAggT : TypeDesc → Bool
 | .struct _ | .array _ _ => true
 | _ => false
def OneT (u : TypeDesc) (n : Nat) : Prop := (isAggT u || Nat.beq n 1) = true
def freezeL (h : Heap) : List Nat → List (Nat × Blk)
 | [] => []
 | i :: r => match h i with
  | some (.row _ e z xs) => (i, .row false e z xs) :: freezeL h r
  | _ => freezeL h r
def binD (op : BinOp) (x y : D) : Option D :=
 match op, x, y with
 | .add, .i k a, .i k' c => if k = k' then some (.i k (Ω .wrap k (a + c))) else none
 | .sub, .i k a, .i k' c => if k = k' then some (.i k (Ω .wrap k (a - c))) else none
 | .mul, .i k a, .i k' c => if k = k' then some (.i k (Ω .wrap k (a * c))) else none
 | .eql, .i k a, .i k' c => if k = k' then some (.b (Ω .eq a c)) else none
 | .neq, .i k a, .i k' c => if k = k' then some (.b (Ω .ne a c)) else none
 | .lss, .i k a, .i k' c => if k = k' then some (.b (Ω .lt a c)) else none
 | .leq, .i k a, .i k' c => if k = k' then some (.b (Ω .le a c)) else none
 | .gtr, .i k a, .i k' c => if k = k' then some (.b (Ω .lt c a)) else none
 | .geq, .i k a, .i k' c => if k = k' then some (.b (Ω .le c a)) else none
 | .eql, .b a, .b c => some (.b (a == c))
 | .neq, .b a, .b c => some (.b (!(a == c)))
 | .eql, .np, .np => some (.b true)
 | .neq, .np, .np => some (.b false)
 | .eql, .s a, .s c => some (.b (Ω .beqs a c))
 | .neq, .s a, .s c => some (.b (Ω .bnes a c))
 | _, _, _ => none
def ptrTy (tt : TypeId → Option TInfo) (T : TypeId) : Prop :=
 match tt T with
 | some { und := .pointer t, .. } => match tt t with
  | some i => 0 < i.size
  | none => False
 | _ => False
def flatD : List V → Option (List D)
 | [] => some []
 | .d x :: r => if x.isAgg then none else match flatD r with
  | some l => some (x :: l)
  | none => none
 | _ :: _ => none
def eqTy (tt : TypeId → Option TInfo) (T : TypeId) : D → Prop
 | .b _ => match tt T with
  | some { und := .bool, .. } => True
  | _ => False
 | .np => ptrTy tt T
 | _ => True
def renC (f : Nat → Option Nat) : List (Option Nat) → Option (List (Option Nat))
 | [] => some []
 | none :: r => match renC f r with
  | some l => some (none :: l)
  | none => none
 | some i :: r => match f i, renC f r with
  | some j, some l => some (some j :: l)
  | _, _ => none
def ren1 (f : Nat → Option Nat) : V → V
 | .ptr id off => match f id with | some j => .ptr j off | none => .junk
 | .ept id sz i off => match f id with | some j => .ept j sz i off | none => .junk
 | .own id sz => match f id with | some j => .own j sz | none => .junk
 | .ref id sz off len => match f id with | some j => .ref j sz off len | none => .junk
 | .agg _ => .junk
 | .tup _ => .junk
 | .clo g a b => match renC f a, renC f b with
  | some a', some b' => .clo g a' b'
  | _, _ => .junk
 | v => v
def ren0 (f : Nat → Option Nat) : V → V
 | .agg cs => .agg (cs.map (ren1 f))
 | v => ren1 f v
def ren (f : Nat → Option Nat) : V → V
 | .tup cs => .tup (cs.map (ren0 f))
 | v => ren0 f v
def renB (f : Nat → Option Nat) : Blk → Blk
 | .var cs T => .var (cs.map (ren1 f)) T
 | b => b
def mkH (bs : List Blk) : Heap := fun id => bs[id]?
def vid1 : V → List Nat
 | .ptr id _ => [id]
 | .ept id _ _ _ => [id]
 | .own id _ => [id]
 | .ref id _ _ _ => [id]
 | .clo _ a b => (a ++ b).filterMap id
 | _ => []
def vids : V → List Nat
 | .agg cs => cs.flatMap vid1
 | v => vid1 v
def reach (h : Heap) : Nat → List Nat → List Nat → List Nat
 | 0, _, acc => acc
 | _ + 1, [], acc => acc
 | n + 1, id :: r, acc => if acc.contains id then reach h n r acc else match h id with
  | some (.var cs _) => reach h n (cs.flatMap vid1 ++ r) (acc ++ [id])
  | _ => reach h n r (acc ++ [id])
def getAll (h : Heap) : List Nat → Option (List Blk)
 | [] => some []
 | i :: r => match h i, getAll h r with
  | some b, some l => some (b :: l)
  | _, _ => none
def allNew (h : Heap) : List Nat → Prop
 | [] => True
 | i :: r => h i = none ∧ allNew h r
def back (s : List Nat) (k : Nat) : Option Nat := s[k]?
def fore (s : List Nat) (id : Nat) : Option Nat := s.idxOf? id
structure Env where
 tt : TypeId → Option TInfo
 C : FuncId → List D → V → Prop
 C2 : FuncId → List V → List Blk → V → List Blk → Prop
 md : FuncId → Bool
 m : Nat
 /-- functions that are handed blocks and write none of them -/
 ro : FuncId → Bool
 /-- of variables of this type the type is kept in mind -/
 ty : TypeId → Bool
 /-- at the head of a variable of the one type there is one of the other -/
 la : TypeId → TypeId → Bool
 /-- functions that hand back what they are handed -/
 ne : FuncId → Bool
 /-- function values that go over a slice from its end -/
 bw : FuncId → Bool
def nodupB : List Nat → Bool
 | [] => true
 | a :: r => !r.contains a && nodupB r
def newIds (id : Nat) (n : Nat) : List Nat := (List.range n).map fun k => 1000000 + id * 8 + k
def shapeV (agg : Bool) (cs : List V) : V :=
 if agg then .agg cs else cs.headD .junk
def fillV (place : Nat → Option (Nat × Nat)) (cells : List V) : List (Nat × V) → Option (List V)
 | [] => some cells
 | (i, v) :: rest => match place i with
  | none => none
  | some (off, size) => match v.cellsO with
   | some l => if l.length = size ∧ off + l.length ≤ cells.length
    then fillV place (cells.take off ++ l ++ cells.drop (off + l.length)) rest else none
   | none => none
def places (tt : TypeId → Option TInfo) : List Field → Option (List (Nat × Nat))
 | [] => some []
 | f :: r => match tt f.type, places tt r with
  | some i, some l => some ((f.offset, i.size) :: l)
  | _, _ => none
def lowOf : Option V → Option Int
 | none => some 0
 | some (.d (.i _ n)) => some n
 | _ => none
def highOf (len : Nat) : Option V → Option Int
 | none => some (Ω .ci len)
 | some (.d (.i _ n)) => some n
 | _ => none
def partsD (h : Heap) : List (Nat × V) → Option (List (Nat × D))
 | [] => some []
 | (i, v) :: r => match toD Ω h v, partsD h r with
  | some x, some l => some ((i, x) :: l)
  | _, _ => none
def dense (sz : Nat) : Nat → List (Nat × D) → Option (List D)
 | _, [] => some []
 | k, (i, x) :: r => if i = k ∧ x.cells.length = sz then (match dense sz (k + 1) r with | some l => some (x :: l) | none => none) else none
def strOf : V → Option ByteArray
 | .d (.s b) => some b
 | _ => none
def cmpPtr (op : BinOp) (t : Bool) (K : Out → Prop) : Prop :=
 match op with
 | .eql => K { v := .d (.b t) }
 | .neq => K { v := .d (.b (!t)) }
 | _ => False
def neCall (f : V) (as : List V) (K : Out → Prop) : Prop :=
 match f, as with
 | .fn _, [.ptr j off] => K { v := .ptr j off }
 | _, _ => False
def appStr (E : Env) (h : Heap) (id : Nat) (e U : TypeId) (size bytes : Nat) (z : Value) (x : V) (b : ByteArray) (K : Out → Prop) : Prop :=
 match E.tt U with
 | some { und := .string, .. } => size = 1 ∧ bytes = 1 ∧ z = .int .u8 0 ∧ h id = none ∧ (match x with
  | .nil => Ω .room (Ω .bsz b) 1 ∧ K { v := .own id 1, upd := [(id, .row true e 1 (Ω .bcl b))], rd := [id] }
  | .own j _ => match h j with
   | some (.row true e' z' xs) => e' = e ∧ z' = 1 ∧ Ω .room (Ω .nadd (Ω .slen xs) (Ω .bsz b)) 1 ∧
    K { v := .own id 1, upd := [(id, .row true e 1 (Ω .scat xs (Ω .bcl b))), (j, .dead)], rd := [id, j] }
   | _ => False
  | _ => False)
 | _ => False
def opR (E : Env) (draw : Bool) (ev : Operand → V) (h : Heap) (o : Op) (id : Nat) (K : Out → Prop) : Prop :=
 match o with
 | .move x | .assign x => K { v := ev x }
 | .pick c a b => match ev c with
  | .d (.b t) => BrG t fun t => K { v := if t then ev a else ev b }
  | _ => False
 | .nilCheck x => match ev x with
  | .ptr j off => K { v := .ptr j off }
  | .ept j sz i off => K { v := .ept j sz i off }
  | .ip x off => K { v := .ip x off }
  | .fn f => K { v := .fn f }
  | .clo f a b => K { v := .clo f a b }
  | _ => False
 | .makeFunc fn first captured => match fn, capsOf (first.toList.map ev), capsOf (captured.toList.map ev) with
  | .func g, some [], some [] => K { v := .fn g }
  | .func g, some a, some b => K { v := .clo g a b }
  | _, _, _ => False
 | .alloc T => match E.tt T with
  | some { zero := some z, .. } => match (constV z).cellsO with
   | some l => h id = none ∧ K { v := .ptr id 0, upd := [(id, .var l (cond (E.ty T) (some T) none))], rd := [id] }
   | none => False
  | _ => False
 | .box T x => match (ev x).cellsO with
  | some l => h id = none ∧ K { v := .ptr id 0, upd := [(id, .var l (cond (E.ty T) (some T) none))], rd := [id] }
  | none => False
 | .store T x y => match E.tt T, ev x with
  | some i, .ptr j off => match h j with
   | some (.var cs vt) => match (ev y).cellsO with
    | some l => l.length = i.size ∧ off + i.size ≤ cs.length ∧
     K { v := .junk, upd := [(j, .var (cs.take off ++ l ++ cs.drop (off + i.size)) vt)], rd := [j] }
    | none => False
   | _ => False
  | some i, .ept j sz k off => match h j with
   | some (.row true e z xs) => match toD Ω h (ev y) with
    | some y' => z = sz ∧ (idsOf (ev y)).contains j = false ∧ Ω .nlt k (Ω .slen xs) ∧ y'.cells.length = i.size ∧
      (if off = 0 ∧ i.size = sz then K { v := .junk, upd := (j, .row true e z (Ω .sset xs k y')) :: freezeL h (idsOf (ev y)), rd := j :: idsOf (ev y) }
      else off + i.size ≤ sz ∧ ∃ x0, Ω .sget xs k = some x0 ∧
       K { v := .junk, upd := (j, .row true e z (Ω .sset xs k (.agg (x0.cells.take off ++ y'.cells ++ x0.cells.drop (off + i.size))))) :: freezeL h (idsOf (ev y)), rd := j :: idsOf (ev y) })
    | none => False
   | _ => False
  | _, _ => False
 | .load T x => match E.tt T, ev x with
  | some i, .ptr j off => match h j with
   | some (.var cs _) => off + i.size ≤ cs.length ∧ OneT i.und i.size ∧ K { v := shapeV (isAggT i.und) ((cs.drop off).take i.size), rd := [j] }
   | _ => False
  | some i, .ept j sz k off => match h j with
   | some (.row _ _ z xs) => z = sz ∧ ∃ x, Ω .sget xs k = some x ∧ off + i.size ≤ x.cells.length ∧ OneT i.und i.size ∧ K { v := .d (loadD x off i.size (isAggT i.und)), rd := [j] }
   | _ => False
  | some i, .ip x off => 0 < i.size ∧ off + i.size ≤ x.cells.length ∧ OneT i.und i.size ∧ K { v := .d (loadD x off i.size (isAggT i.und)) }
  | _, _ => False
 | .fieldAddr T x f => match E.tt T with
  | some { und := .struct fs, .. } => match fs[f]? with
   | some g => match E.tt g.type with
    | some i => 0 < i.size ∧ (match ev x with
     | .ptr j off => K { v := .ptr j (off + g.offset) }
     | .ept j sz k off => K { v := .ept j sz k (off + g.offset) }
     | .ip x off => K { v := .ip x (off + g.offset) }
     | _ => False)
    | none => False
   | none => False
  | _ => False
 | .field T x f => match E.tt T with
  | some { und := .struct fs, .. } => match fs[f]? with
   | some g => match E.tt g.type with
    | some i => match ev x with
     | .agg cs => g.offset + i.size ≤ cs.length ∧ OneT i.und i.size ∧ K { v := shapeV (isAggT i.und) ((cs.drop g.offset).take i.size) }
     | .d (.agg cs) => g.offset + i.size ≤ cs.length ∧ OneT i.und i.size ∧ K { v := .d (loadD (.agg cs) g.offset i.size (isAggT i.und)) }
     | _ => False
    | none => False
   | none => False
  | _ => False
 | .index T x y => match E.tt T with
  | some { und := .array n e, .. } => match E.tt e with
   | some i => match ev x, ev y with
    | .agg cs, .d (.i _ k) => 0 ≤ k ∧ k.toNat < n ∧ k.toNat * i.size + i.size ≤ cs.length ∧ OneT i.und i.size ∧ K { v := shapeV (isAggT i.und) ((cs.drop (k.toNat * i.size)).take i.size) }
    | .d (.agg cs), .d (.i _ k) => 0 ≤ k ∧ k.toNat < n ∧ k.toNat * i.size + i.size ≤ cs.length ∧ OneT i.und i.size ∧ K { v := .d (loadD (.agg cs) (k.toNat * i.size) i.size (isAggT i.und)) }
    | _, _ => False
   | none => False
  | some { und := .string, .. } => match ev x, ev y with
   | .d (.s b), .d (.i _ k) => Ω .ile 0 k ∧ ∃ c, Ω .bget b (Ω .tn k) = some c ∧ K { v := .d (.i .u8 (Ω .ci c)) }
   | _, _ => False
  | _ => False
 | .indexAddr T x y => match E.tt T with
  | some { und := .array n e, .. } => match E.tt e with
   | some i => match ev x, ev y with
    | .ptr j off, .d (.i _ k) => 0 ≤ k ∧ k.toNat < n ∧ K { v := .ptr j (off + k.toNat * i.size) }
    | .ept j sz l off, .d (.i _ k) => 0 ≤ k ∧ k.toNat < n ∧ K { v := .ept j sz l (off + k.toNat * i.size) }
    | .ip x off, .d (.i _ k) => 0 ≤ k ∧ k.toNat < n ∧ K { v := .ip x (off + k.toNat * i.size) }
    | _, _ => False
   | none => False
  | some { und := .slice e, .. } => match E.tt e with
   | some i => match ev x, ev y with
    | .d (.sl xs), .d (.i _ k) => Ω .ile 0 k ∧ ∃ x, Ω .sget xs (Ω .tn k) = some x ∧ x.cells.length = i.size ∧ K { v := .ip x 0 }
    | .own j sz, .d (.i _ k) => match h j with
     | some (.row _ _ z xs) => z = sz ∧ sz = i.size ∧ Ω .ile 0 k ∧ Ω .ilt k (Ω .ci (Ω .slen xs)) ∧ K { v := .ept j sz (Ω .tn k) 0, rd := [j] }
     | _ => False
    | .ref j sz off len, .d (.i _ k) => sz = i.size ∧ Ω .ile 0 k ∧ Ω .ilt k (Ω .ci len) ∧ K { v := .ept j sz (Ω .nadd off (Ω .tn k)) 0 }
    | _, _ => False
   | none => False
  | _ => False
 | .slice T x lo hi mx => match E.tt T with
  | some { und := .slice e, .. } => match E.tt e with
   | some i => match ev x with
    | .d (.sl xs) => match lowOf (lo.map ev), highOf Ω (Ω .slen xs) (hi.map ev), highOf Ω (Ω .slen xs) (mx.map ev) with
     | some l, some u, some m => Ω .ile 0 l ∧ Ω .ile l u ∧ Ω .ile u m ∧ Ω .ile m (Ω .ci (Ω .slen xs)) ∧ (mx.isSome → hi.isSome) ∧ (∀ x ∈ xs, x.cells.length = i.size) ∧ K { v := .d (.sl (Ω .ssub xs (Ω .tn l) (Ω .nsub (Ω .tn u) (Ω .tn l)))) }
     | _, _, _ => False
    | .own j sz => match h j with
     | some (.row lv e' z xs) => if lo = none ∧ mx.isSome = true
      then (match hi.map ev, mx.map ev with
       | some (.d (.i _ u)), some (.d (.i _ m)) => lv = true ∧ z = sz ∧ sz = i.size ∧ Ω .ile 0 u ∧ Ω .ile u m ∧ Ω .ile m (Ω .ci (Ω .slen xs)) ∧ h id = none ∧
         K { v := .own id sz, upd := [(id, .row true e' z (Ω .ssub xs 0 (Ω .tn u))), (j, .dead)], rd := [id, j] }
       | _, _ => False)
      else (match lowOf (lo.map ev), highOf Ω (Ω .slen xs) (hi.map ev), highOf Ω (Ω .slen xs) (mx.map ev) with
       | some l, some u, some m => z = sz ∧ sz = i.size ∧ Ω .ile 0 l ∧ Ω .ile l u ∧ Ω .ile u m ∧ Ω .ile m (Ω .ci (Ω .slen xs)) ∧ (mx.isSome → hi.isSome) ∧ K { v := .ref j sz (Ω .tn l) (Ω .nsub (Ω .tn u) (Ω .tn l)), rd := [j] }
       | _, _, _ => False)
     | _ => False
    | .ref j sz off len => match lowOf (lo.map ev), highOf Ω len (hi.map ev), highOf Ω len (mx.map ev) with
     | some l, some u, some m => sz = i.size ∧ Ω .ile 0 l ∧ Ω .ile l u ∧ Ω .ile u m ∧ Ω .ile m (Ω .ci len) ∧ (mx.isSome → hi.isSome) ∧ K { v := .ref j sz (Ω .nadd off (Ω .tn l)) (Ω .nsub (Ω .tn u) (Ω .tn l)) }
     | _, _, _ => False
    | _ => False
   | none => False
  | some { und := .array n e, .. } => match E.tt e, ev x with
   | some { size := 1, .. }, .ptr j off => match h j with
    | some (.var cs _) => match flatD cs, lowOf (lo.map ev), highOf Ω n (hi.map ev) with
     | some ds, some l, some u => mx = none ∧ off = 0 ∧ ds.length = n ∧ Ω .ile 0 l ∧ Ω .ile l u ∧ Ω .ile u (Ω .ci n) ∧
       K { v := .d (.sl (Ω .ssub ds (Ω .tn l) (Ω .nsub (Ω .tn u) (Ω .tn l)))), upd := [(j, .dead)], rd := [j] }
     | _, _, _ => False
    | _ => False
   | _, _ => False
  | some { und := .string, .. } => match ev x with
   | .d (.s b) => match lowOf (lo.map ev), highOf Ω (Ω .bsz b) (hi.map ev) with
    | some l, some u => mx = none ∧ Ω .ile 0 l ∧ Ω .ile l u ∧ Ω .ile u (Ω .ci (Ω .bsz b)) ∧ K { v := .d (.s (Ω .bext b (Ω .tn l) (Ω .tn u))) }
    | _, _ => False
   | _ => False
  | _ => False
 | .build T parts => match E.tt T with
  | some { und := .struct fs, zero := some z, .. } => match places E.tt fs.toList, (constV z).cellsO with
   | some pl, some l => match fillV (fun i => pl[i]?) l (parts.toList.map fun p => (p.1, ev p.2)) with
    | some cs => K { v := .agg cs }
    | none => False
   | _, _ => False
  | some { und := .array _ e, zero := some z, .. } => match E.tt e, (constV z).cellsO with
   | some i, some l => match fillV (fun k => some (k * i.size, i.size)) l (parts.toList.map fun p => (p.1, ev p.2)) with
    | some cs => K { v := .agg cs }
    | none => False
   | _, _ => False
  | _ => False
 | .buildSlice T len parts => match E.tt T with
  | some { und := .slice e, .. } => match E.tt e with
   | some i => match partsD Ω h (parts.toList.map fun p => (p.1, ev p.2)) with
    | some ps => match dense i.size 0 ps with
     | some xs => xs.length = len ∧ len * i.size ≤ 16777216 ∧ 0 < i.size ∧ i.zero.isSome = true ∧
       (if (draw && !Nat.beq len 0) then K { v := .d (.sl xs), upd := freezeL h ((parts.toList.map fun p => ev p.2).flatMap idsOf), rd := (parts.toList.map fun p => ev p.2).flatMap idsOf }
       else h id = none ∧ K { v := .own id i.size, upd := (id, .row true e i.size xs) :: freezeL h ((parts.toList.map fun p => ev p.2).flatMap idsOf), rd := id :: (parts.toList.map fun p => ev p.2).flatMap idsOf })
     | none => False
    | none => False
   | none => False
  | _ => False
 | .makeSlice T l c => match E.tt T with
  | some { und := .slice e, .. } => match E.tt e with
   | some { size, bytes, zero := some z, .. } => match ev l, ev c with
    | .d (.i _ n), .d (.i _ m) => match toD Ω h (constV z) with
     | some x => h id = none ∧ Ω .ile 0 n ∧ Ω .ile n m ∧ Ω .ile (Ω .ci bytes * m) 281474976710656 ∧ Ω .ile m 4611686018427387904 ∧ 0 < size ∧ x.cells.length = size ∧
       K { v := .own id size, upd := [(id, .row true e size (Ω .srep (Ω .tn n) x))], rd := [id] }
     | none => False
    | _, _ => False
   | _ => False
  | _ => False
 | .binOp op T x y _ => match ev x, ev y with
  | .ptr i a, .ptr j c => i = j ∧ ptrTy E.tt T ∧ cmpPtr op (Nat.beq a c) K
  | .ptr _ _, .d .np => ptrTy E.tt T ∧ cmpPtr op false K
  | .d (.sl xs), .nil => draw = false ∧ op = .eql ∧ (match E.tt T with | some { und := .slice _, .. } => True | _ => False) ∧ ∀ t : Bool, (t = true → xs = []) → K { v := .d (.b t) }
  | .d a, .d c => match binD Ω op a c with
   | some r => eqTy E.tt T a ∧ DK r fun r => K { v := .d r }
   | none => match op, a, c with
    | .add, .s a, .s c => Ω .room (Ω .nadd (Ω .bsz a) (Ω .bsz c)) 1 ∧ K { v := .d (.s (Ω .bcat a c)) }
    | .quo, .i k n, .i k' m => k = k' ∧ m ≠ 0 ∧ K { v := .d (.i k (Ω .wrap k (n.tdiv m))) }
    | .rem, .i k n, .i k' m => k = k' ∧ m ≠ 0 ∧ K { v := .d (.i k (Ω .tmod n m)) }
    | .shl, .i k n, .i _ m => Ω .ile 0 m ∧ K { v := .d (.i k (Ω .ishl k n m)) }
    | .shr, .i k n, .i _ m => Ω .ile 0 m ∧ K { v := .d (.i k (Ω .ishr k n m)) }
    | .and, .i k n, .i k' m => k = k' ∧ K { v := .d (.i k (Ω .iand k n m)) }
    | .or, .i k n, .i k' m => k = k' ∧ K { v := .d (.i k (Ω .ior k n m)) }
    | .xor, .i k n, .i k' m => k = k' ∧ K { v := .d (.i k (Ω .ixor k n m)) }
    | _, _, _ => False
  | _, _ => False
 | .unOp op _ x => match op, ev x with
  | .not, .d (.b t) => K { v := .d (.b (!t)) }
  | .neg, .d (.i k n) => K { v := .d (.i k (Ω .wrap k (0 - n))) }
  | .xor, .d (.i k n) => K { v := .d (.i k (Ω .ixor k (if k.signed then -1 else k.max) n)) }
  | _, _ => False
 | .convert S T x => match E.tt S, E.tt T, ev x with
  | some _, some { und := .int k, .. }, .d (.i _ n) => K { v := .d (.i k (Ω .wrap k n)) }
  | some { und := .string, .. }, some { und := .string, .. }, .d (.s b) => K { v := .d (.s b) }
  | some { und := .string, .. }, some { und := .slice e, .. }, .d (.s b) => match E.tt e with
   | some { und := .int .u8, size := 1, .. } => h id = none ∧ Ω .room (Ω .bsz b) 1 ∧ K { v := .own id 1, upd := [(id, .row true e 1 (Ω .bcl b))], rd := [id] }
   | _ => False
  | some { und := .slice e, .. }, some { und := .string, .. }, x => match E.tt e, toD Ω h x with
   | some { und := .int .u8, size := 1, .. }, some (.sl xs) => Ω .byts xs ∧ K { v := .d (.s (Ω .dby xs)), upd := freezeL h (idsOf x), rd := idsOf x }
   | _, _ => False
  | some { und := .pointer t, .. }, some { und := .unsafePointer, .. }, .ptr j off => match E.tt t, h j with
   | some i, some (.var cs _) => 0 < i.size ∧ off < cs.length ∧ K { v := .ptr j off, rd := [j] }
   | _, _ => False
  | some { und := .unsafePointer, .. }, some { und := .pointer t, .. }, .ptr j off => match E.tt t, h j with
   | some i, some (.var cs (some T')) => match E.tt T' with
    | some i' => 0 < i.size ∧ off = 0 ∧ cs.length = i'.size ∧ 0 < i'.size ∧ E.la T' t = true ∧ K { v := .ptr j off, rd := [j] }
    | none => False
   | _, _ => False
  | _, _, _ => False
 | .extract x k => match ev x with
  | .tup cs => match cs[k]? with
   | some v => K { v }
   | none => False
  | _ => False
 | .makeInterface T x => match E.tt T, ev x with
  | some { und := .int _, .. }, .d (.i k n) => K { v := .d (.ifc T (.i k n)) }
  | _, _ => False
 | .call { callee := .value f, args, .. } => match fnOf (ev f) (args.toList.map ev) with
  | some (g, as) => if E.ne g then neCall (ev f) as K
   else if E.md g then
    if E.ro g then
    (match getAll h (reach h 40 (as.flatMap vids) []) with
    | some bs => ∃ r, E.C2 g (as.map (ren (fore (reach h 40 (as.flatMap vids) [])))) (bs.map (renB (fore (reach h 40 (as.flatMap vids) [])))) r (bs.map (renB (fore (reach h 40 (as.flatMap vids) [])))) ∧
      nodupB (reach h 40 (as.flatMap vids) []) = true ∧
      (bs.map (renB (fore (reach h 40 (as.flatMap vids) [])))).map (renB (back (reach h 40 (as.flatMap vids) []))) = bs ∧
      K { v := ren (back (reach h 40 (as.flatMap vids) [])) r, rd := reach h 40 (as.flatMap vids) [] }
    | none => False)
    else
    (match getAll h (reach h 40 (as.flatMap vids) []) with
    | some bs => ∃ r bs', E.C2 g (as.map (ren (fore (reach h 40 (as.flatMap vids) [])))) (bs.map (renB (fore (reach h 40 (as.flatMap vids) [])))) r bs' ∧
      allNew h (newIds id (bs'.length - bs.length)) ∧ bs.length ≤ bs'.length ∧ nodupB (reach h 40 (as.flatMap vids) []) = true ∧
      K {
        v := ren (back (reach h 40 (as.flatMap vids) [] ++ newIds id (bs'.length - bs.length))) r,
        upd := (reach h 40 (as.flatMap vids) [] ++ newIds id (bs'.length - bs.length)).zip (bs'.map (renB (back (reach h 40 (as.flatMap vids) [] ++ newIds id (bs'.length - bs.length))))),
        rd := reach h 40 (as.flatMap vids) [] ++ newIds id (bs'.length - bs.length) }
    | none => False)
   else match toDs Ω h as with
   | some ds => ∃ r, E.C g ds r ∧ K { v := r, upd := freezeL h (as.flatMap idsOf), rd := as.flatMap idsOf }
   | none => False
  | none => False
 | .call { callee := .builtin .max, args, .. } => match args.toList.map ev with
  | [.d (.i k n), .d (.i k' m)] => k = k' ∧ K { v := .d (.i k (Ω .imax n m)) }
  | _ => False
 | .call { callee := .builtin .min, args, .. } => match args.toList.map ev with
  | [.d (.i k n), .d (.i k' m)] => k = k' ∧ K { v := .d (.i k (Ω .imin n m)) }
  | _ => False
 | .call { callee := .builtin .copy, args, argTypes } => draw = false ∧ match args.toList.map ev, argTypes.toList with
  | [.ref j sz off len, y], [T, _] => match E.tt T, h j, toD Ω h y with
   | some { und := .slice e, .. }, some (.row true e' z xs), some (.sl ys) => match E.tt e with
    | some i => i.size = 1 ∧ z = 1 ∧ sz = 1 ∧ (∀ u ∈ ys, u.cells.length = 1) ∧ (idsOf y).contains j = false ∧ Ω .leb (Ω .nadd off len) (Ω .slen xs) = true ∧
      K { v := .d (.i .i64 (Ω .imin (Ω .ci len) (Ω .ci (Ω .slen ys)))), upd := (j, .row true e' z (Ω .scpy xs off (Ω .ssub ys 0 len))) :: freezeL h (idsOf y), rd := j :: idsOf y }
    | none => False
   | _, _, _ => False
  | _, _ => False
 | .call { callee := .builtin b, args, argTypes } => match b, args.toList.map ev, argTypes.toList with
  | .len, [x], [T] => match E.tt T, x with
   | some { und := .slice _, .. }, .d (.sl xs) => K { v := .d (.i .i64 (Ω .ci (Ω .slen xs))) }
   | some { und := .slice _, .. }, .nil => K { v := .d (.i .i64 0) }
   | some { und := .slice _, .. }, .own j _ => match h j with
    | some (.row _ _ _ xs) => K { v := .d (.i .i64 (Ω .ci (Ω .slen xs))), rd := [j] }
    | _ => False
   | some { und := .slice _, .. }, .ref _ _ _ len => K { v := .d (.i .i64 (Ω .ci len)) }
   | some { und := .string, .. }, .d (.s b) => K { v := .d (.i .i64 (Ω .ci (Ω .bsz b))) }
   | some { und := .array n _, .. }, _ => K { v := .d (.i .i64 (Ω .ci n)) }
   | _, _ => False
  | .append, [x, y], [T, U] => match E.tt T with
   | some { und := .slice e, .. } => match E.tt e with
    | some { size, bytes, zero := some z, .. } => (match strOf y with
    | some b => appStr Ω E h id e U size bytes z x b K
    | none => T = U ∧ (constV z).cells.length = size ∧ 0 < size ∧ (match toD Ω h y with
     | some (.sl ys) => h id = none ∧ (∀ u ∈ ys, u.cells.length = size) ∧ (match x with
      | .nil => (Ω .room (Ω .slen ys) bytes ∧
        K { v := .own id size, upd := (id, .row true e size ys) :: freezeL h (idsOf y), rd := id :: idsOf y })
      | .own j _ => (match h j with
       | some (.row true e' z' xs) => e' = e ∧ z' = size ∧ Ω .room (Ω .slen xs + Ω .slen ys) bytes ∧ (idsOf y).contains j = false ∧
         K { v := .own id size, upd := (id, .row true e size (Ω .scat xs ys)) :: (j, .dead) :: freezeL h (idsOf y), rd := id :: j :: idsOf y }
       | _ => False)
      | _ => False)
     | _ => False))
    | _ => False
   | _ => False
  | .unsafeSliceData, [x], [_] => match x with
   | .nil => K { v := .d .np }
   | .own j sz => match h j with
    | some (.row true _ z xs) => z = 1 ∧ sz = 1 ∧ Ω .nlt 0 (Ω .slen xs) ∧ K { v := .ept j 1 0 0, rd := [j] }
    | _ => False
   | _ => False
  | .unsafeString, [x, y], [T, _] => match x, y with
   | .d .np, .d (.i .i64 n) => n = 0 ∧ K { v := .d (.s ⟨#[]⟩) }
   | .ept j 1 0 0, .d (.i .i64 n) => match h j, E.tt T with
    | some (.row true e 1 xs), some { und := .pointer t, .. } => t = e ∧ n = Ω .ci (Ω .slen xs) ∧ Ω .nlt 0 (Ω .slen xs) ∧ Ω .byts xs ∧ (match E.tt e with | some { size := 1, .. } => True | _ => False) ∧
      K { v := .d (.s (Ω .dby xs)), upd := freezeL h [j], rd := [j] }
    | _, _ => False
   | _, _ => False
  | _, _, _ => False
 | _ => False
def put (s : Nat → V) (d : Option Tmp) (v : V) : Nat → V :=
 match d with
 | some t => upd s t v
 | none => s
structure Foot where
 n : Nat
 rd : List Nat
 wr : List Nat
def step (s : St) (d : Option Tmp) (out : Out) : St := ⟨put s.sl d out.v, ups s.h out.upd⟩
def wpl (E : Env) (draw : Bool) (base : Nat) (ops : Array Oper) : List Oper → Nat → List Foot → St → (List Foot → St → Prop) → Prop
 | [], _, log, s, K => K log s
 | o :: r, n, log, s, K => match o.guard with
  | none => opR Ω E draw (ev s.sl) s.h o.op (base + n) fun out => wpl E draw base ops r (n + 1) (⟨n, out.upd.map Prod.fst ++ out.rd, out.upd.map Prod.fst⟩ :: log) (step s o.dst out) K
  | some (j, want) => match (ops[j]?).bind (·.dst) with
   | some t => match s.sl t with
    | .d (.b x) => BrG x fun x => if x = want then opR Ω E draw (ev s.sl) s.h o.op (base + n) fun out => wpl E draw base ops r (n + 1) (⟨n, out.upd.map Prod.fst ++ out.rd, out.upd.map Prod.fst⟩ :: log) (step s o.dst out) K
     else wpl E draw base ops r (n + 1) (⟨n, [], []⟩ :: log) (step s o.dst { v := .tup [] }) K
    | .tup [] => wpl E draw base ops r (n + 1) (⟨n, [], []⟩ :: log) (step s o.dst { v := .tup [] }) K
    | _ => False
   | none => False
inductive X where
 | normal
 | exit (id : Nat)
 | ret
 deriving DecidableEq
def anc (ops : List Oper) : List (List Nat) :=
 ops.foldl (fun acc o => acc ++ [(o.after.toList.filter (Region.binds .any)).flatMap fun e => e.on :: acc.getD e.on []]) []
def ancM (ops : List Oper) : List Nat :=
 ops.foldl (fun acc o => acc ++ [(o.after.toList.filter (Region.binds .any)).foldl (fun m e => m ||| (1 <<< e.on ||| acc.getD e.on 0)) 0]) []
def meets (a b : List Nat) : Bool := a.any b.contains
def logOk (an : List Nat) (log : List Foot) : Bool :=
 log.all fun x => x.wr.isEmpty || log.all fun y => x.n == y.n || !meets x.wr y.rd || (an.getD y.n 0).testBit x.n || (an.getD x.n 0).testBit y.n
def lookL (ks : List Nat) (vs : List V) (t : Nat) : V :=
 match ks, vs with
 | k :: kr, v :: vr => if t = k then v else lookL kr vr t
 | _, _ => .junk
def lookH (ids : List Nat) (bs : List Blk) (t : Nat) : Option Blk :=
 match ids, bs with
 | k :: kr, v :: vr => if t = k then some v else lookH kr vr t
 | _, _ => none
def stOf (ks : List Nat) (vs : List V) (ids : List Nat) (bs : List Blk) : St := ⟨lookL ks vs, lookH ids bs⟩
def forth (ids olds : List Nat) (id : Nat) : Option Nat :=
 match ids, olds with
 | k :: kr, o :: or => if id = o then some k else forth kr or id
 | _, _ => none
def renOk (m : Nat) (ids olds : List Nat) : Bool :=
 ids.length == olds.length && nodupB olds && nodupB ids && ((ids.zip olds).all fun p => p.1 == p.2 || (1000 ≤ p.1 && 1000 ≤ p.2)) && (List.range m).all fun i => ids.contains i
def kept (m : Nat) (ks ids olds : List Nat) (s : St) (I : List V → List Blk → Prop) : Prop :=
 renOk m ids olds = true ∧ match getAll s.h olds with
  | some bs => I (ks.map fun t => ren (forth ids olds) (s.sl t)) (bs.map (renB (forth ids olds)))
  | none => False
inductive Bth where
 | slot (t id : Nat) (e : TypeId) (sz : Nat)
 | cell (j c id : Nat) (e : TypeId) (sz : Nat)
def bear1 (s : St) : Bth → Option St
 | .slot t id e sz => match s.sl t, s.h id with
  | .nil, none => some ⟨upd s.sl t (.own id sz), upd s.h id (some (.row true e sz []))⟩
  | _, _ => none
 | .cell j c id e sz => match s.h j, s.h id with
  | some (.var cs vt), none => match cs[c]? with
   | some .nil => some ⟨s.sl, upd (upd s.h id (some (.row true e sz []))) j (some (.var (cs.set c (.own id sz)) vt))⟩
   | _ => none
  | _, _ => none
def bear (s : St) : List Bth → Option St
 | [] => some s
 | b :: r => match bear1 s b with
  | some s' => bear s' r
  | none => none
def keptB (bl : List Bth) (m : Nat) (ks ids olds : List Nat) (s : St) (I : List V → List Blk → Prop) : Prop :=
 match bear s bl with
 | some s' => kept m ks ids olds s' I
 | none => False
structure LoopG (m : Nat) (body : St → (X → St → Prop) → Prop) (s : St) (Q : X → St → Prop) : Prop where
 out : ∃ (σ : Type) (ks : List Nat) (ids : σ → List Nat) (vs : σ → List V) (bs : σ → List Blk) (I : σ → Prop) (μ : σ → Nat),
  (∃ bl x olds, I x ∧ keptB bl m ks (ids x) olds s fun a b => a = vs x ∧ b = bs x) ∧
   ∀ x, I x → body (stOf ks (vs x) (ids x) (bs x)) fun e s' => match e with
    | .normal => ∃ y olds, I y ∧ μ y < μ x ∧ kept m ks (ids y) olds s' fun a b => a = vs y ∧ b = bs y
    | e => Q e s'
structure RangeL (m : Nat) (p q : Tmp) (body : St → (X → St → Prop) → Prop) (xs : List D) (s : St) (Q : X → St → Prop) : Prop where
 out : ∃ (ks : List Nat) (ids : List Nat) (vs : List V) (bs : Nat → List Blk), (∃ olds, kept m ks ids olds s fun a b => a = vs ∧ b = bs 0) ∧
  (∀ k x, k < xs.length → xs[k]? = some x → body ⟨upd (upd (lookL ks vs) p (.d (.i .i64 (Ω .ci k)))) q (.d x), lookH ids (bs (xs.length - 1 - k))⟩ fun e s' => match e with
   | .normal => ∃ olds, kept m ks ids olds ⟨lookL ks vs, s'.h⟩ fun a b => a = vs ∧ b = bs (xs.length - k)
   | _ => False) ∧ Q .normal (stOf ks vs ids (bs xs.length))
def rangeG (E : Env) (f : Operand) (ps : Array Tmp) (body : St → (X → St → Prop) → Prop) (s : St) (Q : X → St → Prop) : Prop :=
 match ev s.sl f, ps.toList with
 | .clo g [] [some j], [p, q] => E.bw g = true ∧ match s.h j with
  | some (.var [x] _) => match toD1 Ω s.h x with
   | some (.sl xs) => (∀ u ∈ xs, u.cells.length = 1 ∧ u.isAgg = false) ∧ Ω .ile (Ω .ci (Ω .slen xs)) 4611686018427387904 ∧ RangeL Ω E.m p q body xs ⟨s.sl, upd (ups s.h (freezeL s.h (ids1 x))) j (some .dead)⟩ Q
   | _ => False
  | _ => False
 | _, _ => False
def wp (E : Env) : Code → St → (X → St → Prop) → Prop
 | .skip, s, Q => Q .normal s
 | .region id ops draw, s, Q => wpl Ω E draw (1000 + 100 * id) ops ops.toList 0 [] s fun log s' => (if draw then logOk (ancM ops.toList) log = true else True) ∧ Q .normal s'
 | .seq a b, s, Q => wp E a s fun e s' => match e with
  | .normal => wp E b s' Q
  | e => Q e s'
 | .cond c a b, s, Q => match ev s.sl c with
  | .d (.b t) => BrG t fun t => match t with
   | true => wp E a s Q
   | false => wp E b s Q
  | _ => False
 | .block id b, s, Q => wp E b s fun e s' => match e with
  | .exit j => if j = id then Q .normal s' else Q (.exit j) s'
  | e => Q e s'
 | .exit id, s, Q => Q (.exit id) s
 | .ret, s, Q => Q .ret s
 | .loop b, s, Q => LoopG E.m (fun s' Q' => wp E b s' Q') s Q
 | .rangeFunc f ps a b, s, Q => rangeG Ω E f ps (fun s' Q' => wp E a s' fun e s1 => match e with
  | .normal => wp E b s1 Q'
  | _ => False) s Q
 | _, _, _ => False
def resOne (tt : TypeId → Option TInfo) (s : St) : ResultVar → Option V
 | .tmp t => match s.sl t with
  | .tup _ => none
  | v => some v
 | .cell a T => match tt T, s.sl a with
  | some i, .ptr j off => match s.h j with
   | some (.var cs _) => if off + i.size ≤ cs.length ∧ (isAggT i.und = true ∨ i.size = 1) then some (shapeV (isAggT i.und) ((cs.drop off).take i.size)) else none
   | _ => none
  | _, _ => none
def resList (tt : TypeId → Option TInfo) (s : St) : List ResultVar → Option (List V)
 | [] => some []
 | r :: l => match resOne tt s r, resList tt s l with
  | some v, some vs => some (v :: vs)
  | _, _ => none
def resOf (tt : TypeId → Option TInfo) (s : St) (l : List ResultVar) : Option V :=
 match resList tt s l with
 | some [v] => some v
 | some vs => some (.tup vs)
 | none => none
def finV (h : Heap) : V → Option V
 | .tup cs => match toDs Ω h cs with
  | some ds => some (.tup (ds.map V.d))
  | none => none
 | v => match toD Ω h v with
  | some d => some (.d d)
  | none => none
def argS (args : List V) (t : Nat) : V := args.getD t .junk
def wpF (E : Env) (fn : Func) (args : List V) (Q : V → Prop) : Prop :=
 match fn.body with
 | some c => wp Ω E c ⟨argS args, fun _ => none⟩ fun e s => match e with
  | .exit _ => False
  | _ => match resOf E.tt s fn.results.toList with
   | some r => match finV Ω s.h r with
    | some r' => Q r'
    | none => False
   | none => False
 | none => False
def wpF2 (E : Env) (fn : Func) (args : List V) (bs : List Blk) (Q : V → List Blk → Prop) : Prop :=
 match fn.body with
 | some c => wp Ω E c ⟨argS args, mkH bs⟩ fun e s => match e with
  | .exit _ => False
  | _ => match resOf E.tt s fn.results.toList with
   | some r => ∃ news, nodupB (List.range bs.length ++ news) = true ∧ match getAll s.h (List.range bs.length ++ news) with
    | some bs' => Q (ren (fore (List.range bs.length ++ news)) r) (bs'.map (renB (fore (List.range bs.length ++ news))))
    | none => False
   | none => False
 | none => False
end Go.K
end
section
namespace Go.K
open Go
theorem w_ci (n : Nat) : Ω .ci n = (n : Int) := rfl
theorem w_wrap (k : IntKind) (n : Int) : Ω .wrap k n = k.wrap n := rfl
theorem w_imax (n m : Int) : Ω .imax n m = if m > n then m else n := rfl
theorem w_imin (n m : Int) : Ω .imin n m = if m < n then m else n := rfl
theorem w_tmod (n m : Int) : Ω .tmod n m = n.tmod m := rfl
theorem w_iand (k : IntKind) (n m : Int) : Ω .iand k n m = k.wrap (BitVec.ofInt k.bits n &&& BitVec.ofInt k.bits m).toNat := rfl
theorem w_ior (k : IntKind) (n m : Int) : Ω .ior k n m = k.wrap (BitVec.ofInt k.bits n ||| BitVec.ofInt k.bits m).toNat := rfl
theorem w_ixor (k : IntKind) (n m : Int) : Ω .ixor k n m = k.wrap (BitVec.ofInt k.bits n ^^^ BitVec.ofInt k.bits m).toNat := rfl
theorem w_ishl (k : IntKind) (n m : Int) : Ω .ishl k n m = k.wrap (n * 2 ^ (min m.toNat k.bits)) := rfl
theorem w_ishr (k : IntKind) (n m : Int) : Ω .ishr k n m = n.fdiv (2 ^ (min m.toNat k.bits)) := rfl
theorem w_lt (n m : Int) : Ω .lt n m = decide (n < m) := rfl
theorem w_le (n m : Int) : Ω .le n m = decide (n ≤ m) := rfl
theorem w_eq (n m : Int) : Ω .eq n m = (n == m) := rfl
theorem w_ne (n m : Int) : Ω .ne n m = (n != m) := rfl
theorem w_ile (n m : Int) : Ω .ile n m = (n ≤ m) := rfl
theorem w_ilt (n m : Int) : Ω .ilt n m = (n < m) := rfl
theorem w_slen (xs : List D) : Ω .slen xs = xs.length := rfl
theorem w_sget (xs : List D) (k : Nat) : Ω .sget xs k = xs[k]? := rfl
theorem w_ssub (xs : List D) (a n : Nat) : Ω .ssub xs a n = (xs.drop a).take n := rfl
theorem w_sset (xs : List D) (k : Nat) (y : D) : Ω .sset xs k y = xs.set k y := rfl
theorem w_srep (n : Nat) (x : D) : Ω .srep n x = List.replicate n x := rfl
theorem w_scat (xs ys : List D) : Ω .scat xs ys = xs ++ ys := rfl
theorem w_tn (n : Int) : Ω .tn n = n.toNat := rfl
theorem w_nadd (a b : Nat) : Ω .nadd a b = a + b := rfl
theorem w_nsub (a b : Nat) : Ω .nsub a b = a - b := rfl
theorem w_nlt (a b : Nat) : Ω .nlt a b = (a < b) := rfl
theorem w_leb (a b : Nat) : Ω .leb a b = decide (a ≤ b) := rfl
theorem w_scpy (xs : List D) (a : Nat) (zs : List D) : Ω .scpy xs a zs = xs.take a ++ zs ++ xs.drop (a + zs.length) := rfl
theorem w_bget (b : ByteArray) (k : Nat) : Ω .bget b k = (b[k]?).map fun c => c.toNat := rfl
theorem w_bext (b : ByteArray) (i j : Nat) : Ω .bext b i j = b.extract i j := rfl
theorem w_bcat (a b : ByteArray) : Ω .bcat a b = a ++ b := rfl
theorem w_bsz (b : ByteArray) : Ω .bsz b = b.size := rfl
theorem w_beqs (a b : ByteArray) : Ω .beqs a b = (a.toList == b.toList) := rfl
theorem w_bnes (a b : ByteArray) : Ω .bnes a b = !(a.toList == b.toList) := rfl
theorem w_room (n b : Nat) : Ω .room n b = (n * b ≤ 140737488355328 ∧ n ≤ 1099511627776) := rfl
theorem p_lims (l : List Nat) : Ψ .lims l = l.map fun (x : Nat) => D.i .u32 (x : Int) := rfl
theorem p_cr (q : Rat) : Ψ .cr q = ⟨decide (q.num < 0), Ψ .cn q.num.natAbs, Ψ .cn q.den⟩ := rfl
theorem p_cI (p q : Rat) : Ψ .cI p q = if p < q then (-1 : Int) else if q < p then 1 else 0 := rfl
theorem p_sI (q : Rat) : Ψ .sI q = if q < 0 then (-1 : Int) else if 0 < q then 1 else 0 := rfl
theorem p_cmpI (m n : Nat) : Ψ .cmpI m n = if m < n then (-1 : Int) else if n < m then 1 else 0 := rfl
theorem p_dRs (l : List RL) : Ψ .dRs l = l.map fun r => D.agg (dR Ψ r) := rfl
theorem p_dVs (l : List VL) : Ψ .dVs l = l.map fun r => D.agg (dV Ψ r) := rfl
theorem p_dBs (l : List BL) : Ψ .dBs l = l.map fun b => D.agg (dB Ψ b) := rfl
theorem p_cn (n : Nat) : Ψ .cn n = cn n := rfl
theorem slen_lims (l : List Nat) : Ω .slen (Ψ .lims l) = l.length := by simp [w_slen, p_lims]
theorem slen_dRs (l : List RL) : Ω .slen (Ψ .dRs l) = l.length := by simp [w_slen, p_dRs]
theorem slen_dVs (l : List VL) : Ω .slen (Ψ .dVs l) = l.length := by simp [w_slen, p_dVs]
theorem slen_dBs (l : List BL) : Ω .slen (Ψ .dBs l) = l.length := by simp [w_slen, p_dBs]
theorem tn_ci (n : Nat) : Ω .tn (Ω .ci n) = n := rfl
theorem tn_zero : Ω .tn 0 = 0 := rfl
theorem not_u32 : (if IntKind.u32.signed = true then (-1 : Int) else IntKind.u32.max) = 4294967295 := rfl
theorem lits : Ω .ile 0 0 ∧ Ω .ile 0 1 ∧ Ω .ile 0 2 ∧ Ω .ile 0 3 ∧ Ω .ile 0 7 ∧ Ω .ile 0 8 ∧ Ω .ile 0 16 ∧ Ω .ile 0 24 ∧ Ω .ile 0 31 ∧ Ω .ile 0 32 ∧ Ω .ile 0 63 ∧ Ω .ile 0 64 :=
 ⟨(by show (0 : Int) ≤ _; omega), (by show (0 : Int) ≤ _; omega), (by show (0 : Int) ≤ _; omega), (by show (0 : Int) ≤ _; omega), (by show (0 : Int) ≤ _; omega), (by show (0 : Int) ≤ _; omega), (by show (0 : Int) ≤ _; omega), (by show (0 : Int) ≤ _; omega), (by show (0 : Int) ≤ _; omega), (by show (0 : Int) ≤ _; omega), (by show (0 : Int) ≤ _; omega), (by show (0 : Int) ≤ _; omega)⟩
theorem slen_nil : Ω .slen [] = 0 := rfl
theorem slen_cons (a : D) (l : List D) : Ω .slen (a :: l) = Ω .slen l + 1 := rfl
theorem lt_true {a b : Int} : Ω .lt a b = true ↔ a < b := by rw [w_lt, decide_eq_true_eq]
theorem lt_false {a b : Int} : Ω .lt a b = false ↔ b ≤ a := by rw [w_lt, decide_eq_false_iff_not]; omega
theorem le_true {a b : Int} : Ω .le a b = true ↔ a ≤ b := by rw [w_le, decide_eq_true_eq]
theorem le_false {a b : Int} : Ω .le a b = false ↔ b < a := by rw [w_le, decide_eq_false_iff_not]; omega
theorem eq_true' {a b : Int} : Ω .eq a b = true ↔ a = b := by rw [w_eq, beq_iff_eq]
theorem eq_false' {a b : Int} : Ω .eq a b = false ↔ a ≠ b := by rw [w_eq, beq_eq_false_iff_ne]
theorem ne_true' {a b : Int} : Ω .ne a b = true ↔ a ≠ b := by rw [w_ne, bne_iff_ne]
theorem ne_false' {a b : Int} : Ω .ne a b = false ↔ a = b := by rw [w_ne, bne_eq_false_iff_eq]
theorem wz : (∀ n : Nat, Ω .ci n = (n : Int)) ∧ (∀ a b : Int, Ω .ile a b ↔ a ≤ b) ∧ (∀ a b : Int, Ω .ilt a b ↔ a < b) ∧ (∀ a b : Nat, Ω .nlt a b ↔ a < b)
  ∧ (∀ a b : Nat, Ω .room a b ↔ (a * b ≤ 140737488355328 ∧ a ≤ 1099511627776))
  ∧ (∀ a b : Int, Ω .lt a b = true ↔ a < b) ∧ (∀ a b : Int, Ω .lt a b = false ↔ b ≤ a) ∧ (∀ a b : Int, Ω .le a b = true ↔ a ≤ b) ∧ (∀ a b : Int, Ω .le a b = false ↔ b < a)
  ∧ (∀ a b : Int, Ω .eq a b = true ↔ a = b) ∧ (∀ a b : Int, Ω .eq a b = false ↔ a ≠ b) ∧ (∀ a b : Int, Ω .ne a b = true ↔ a ≠ b) ∧ (∀ a b : Int, Ω .ne a b = false ↔ a = b)
  ∧ (∀ n : Int, Ω .tn n = n.toNat) ∧ (∀ n : Nat, ((n : Int)).toNat = n)
  ∧ (∀ l : List Nat, Ω .slen (Ψ .lims l) = l.length) ∧ (∀ l : List RL, Ω .slen (Ψ .dRs l) = l.length) ∧ (∀ l : List VL, Ω .slen (Ψ .dVs l) = l.length) ∧ (∀ l : List BL, Ω .slen (Ψ .dBs l) = l.length)
  ∧ (Ω .slen [] = 0) ∧ (∀ (a : D) (l : List D), Ω .slen (a :: l) = Ω .slen l + 1) ∧ (∀ a b : Nat, Ω .nadd a b = a + b) ∧ (∀ a b : Nat, Ω .nsub a b = a - b) :=
 ⟨w_ci, fun _ _ => Iff.rfl, fun _ _ => Iff.rfl, fun _ _ => Iff.rfl, fun _ _ => Iff.rfl, fun _ _ => lt_true, fun _ _ => lt_false, fun _ _ => le_true, fun _ _ => le_false, fun _ _ => eq_true', fun _ _ => eq_false', fun _ _ => ne_true', fun _ _ => ne_false',
  w_tn, fun _ => rfl, slen_lims, slen_dRs, slen_dVs, slen_dBs, slen_nil, slen_cons, w_nadd, w_nsub⟩
theorem BrG.split {t : Bool} {A B : Unit → Prop} (h1 : t = true → A ()) (h2 : t = false → B ()) : (cond t A B) () := by
 cases t
 ·exact h2 rfl
 ·exact h1 rfl
theorem BrG.yes {t : Bool} {A B : Unit → Prop} (ht : t = true) (h : A ()) : (cond t A B) () := by subst ht; exact h
theorem BrG.no {t : Bool} {A B : Unit → Prop} (ht : t = false) (h : B ()) : (cond t A B) () := by subst ht; exact h
theorem nx {P Q : Prop} (q : Q) (h : Q → P := by intro q; (generalize hΩ : Ω = ω, hΨ : Ψ = ψ; cbv <;> subst hΩ hΨ <;> try simp only [lits, true_and, Int.reduceAdd, Int.reduceSub, Int.reduceMul, not_u32, slen_nil, tn_ci, tn_zero, slen_lims, slen_dRs, slen_dVs, slen_dBs]); all_goals with_reducible exact q) : P := h q
theorem run {P Q : Prop} (q : Q) (h : Q → P := by
 intro q; (generalize hΩ : Ω = ω, hΨ : Ψ = ψ; cbv <;> subst hΩ hΨ <;> try simp only [lits, true_and, Int.reduceAdd, Int.reduceSub, Int.reduceMul, not_u32, slen_nil, tn_ci, tn_zero, slen_lims, slen_dRs, slen_dVs, slen_dBs])
 (repeat
  first
   | (refine ⟨_, hC _ _ _ (by assumption), ?_⟩; (generalize hΩ : Ω = ω, hΨ : Ψ = ψ; cbv <;> subst hΩ hΨ <;> try simp only [lits, true_and, Int.reduceAdd, Int.reduceSub, Int.reduceMul, not_u32, slen_nil, tn_ci, tn_zero, slen_lims, slen_dRs, slen_dVs, slen_dBs]))
   | (refine BrG.yes (by first | assumption | decide) ?_; (generalize hΩ : Ω = ω, hΨ : Ψ = ψ; cbv <;> subst hΩ hΨ <;> try simp only [lits, true_and, Int.reduceAdd, Int.reduceSub, Int.reduceMul, not_u32, slen_nil, tn_ci, tn_zero, slen_lims, slen_dRs, slen_dVs, slen_dBs]))
   | (refine BrG.no (by first | assumption | decide) ?_; (generalize hΩ : Ω = ω, hΨ : Ψ = ψ; cbv <;> subst hΩ hΨ <;> try simp only [lits, true_and, Int.reduceAdd, Int.reduceSub, Int.reduceMul, not_u32, slen_nil, tn_ci, tn_zero, slen_lims, slen_dRs, slen_dVs, slen_dBs])))
 all_goals with_reducible exact q) : P := h q
theorem BrG_eq (t : Bool) (K : Bool → Prop) : BrG t K = K t := by cases t <;> rfl
theorem DK_eq (r : D) (K : D → Prop) : DK r K = K r := by
 cases r with
 | b t => exact BrG_eq t fun t => K (.b t)
 | _ => rfl
theorem OneT.one {u : TypeDesc} {n : Nat} (h : OneT u n) : isAggT u = false → n = 1 := fun q => by
 unfold OneT at h
 rw [q, Bool.false_or] at h
 exact Nat.eq_of_beq_eq_true h
end Go.K
end
section
namespace Go.K
inductive RepC (imm : Nat → Prop) (w : World) : D → Value → Prop where
 | b (x : Bool) : RepC imm w (.b x) (.bool x)
 | i (k : IntKind) (n : Int) : RepC imm w (.i k n) (.int k n)
 | s (x : ByteArray) : RepC imm w (.s x) (.string x)
 | np : RepC imm w .np (.pointer none)
 | nif : RepC imm w .nif .nilIface
 | ifc (t : TypeId) (x : D) (v : Value) : RepC imm w x v → RepC imm w (.ifc t x) (.iface t v)
 | sl0 (base : Option Addr) (cap : Nat) : RepC imm w (.sl []) (.slice base 0 cap)
 | sl (xs : List D) (g off cap sz : Nat) (cs : Array Value) (T : TypeId) (fr : Nat × Nat) : xs ≠ [] → imm g → w.heap[g]? = some (.cells cs T fr) → xs.length ≤ cap →
   (∀ x, x ∈ xs → x.cells.length = sz) → (∀ i j, i < xs.length → j < sz → off + (i * sz + j) < cs.size) →
   (∀ i j, i < xs.length → j < sz → RepC imm w ((xs.getD i .np).cells.getD j .np) (cs.getD (off + (i * sz + j)) undef)) →
   RepC imm w (.sl xs) (.slice (some ⟨g, off, none⟩) xs.length cap)
def RepD (imm : Nat → Prop) (w : World) (x : D) (v : Value) : Prop :=
 match x with
 | .agg cs => ∃ vs : Array Value, v = .agg vs ∧ vs.size = cs.length ∧ ∀ j, j < cs.length → RepC imm w (cs.getD j .np) (vs.getD j undef)
 | x => RepC imm w x v
def RepCap (ι : Nat → Option Value) (c : Option Nat) (v : Value) : Prop :=
 match c with
 | some id => ∃ g, ι id = some (.pointer (some ⟨g, 0, none⟩)) ∧ v = .pointer (some ⟨g, 0, none⟩)
 | none => v = .pointer none
def RepCaps (ι : Nat → Option Value) (l : List (Option Nat)) (vs : Array Value) : Prop :=
 vs.size = l.length ∧ ∀ j, j < l.length → RepCap ι (l.getD j none) (vs.getD j undef)
theorem RepCaps.mono {ι ι' : Nat → Option Value} (hi : ∀ id v, ι id = some v → ι' id = some v) {l : List (Option Nat)} {vs : Array Value} (h : RepCaps ι l vs) : RepCaps ι' l vs :=
 ⟨h.1, fun j hj => by
  have := h.2 j hj
  unfold RepCap at this ⊢
  split
  ·rename_i id e; rw [e] at this; obtain ⟨g, h1, h2⟩ := this; exact ⟨g, hi _ _ h1, h2⟩
  ·rename_i e; rw [e] at this; exact this⟩
def RepV1 (ι : Nat → Option Value) (imm : Nat → Prop) (w : World) (x : V) (v : Value) : Prop :=
 match x with
 | .d x => RepC imm w x v
 | .ptr id off => ∃ g, ι id = some (.pointer (some ⟨g, 0, none⟩)) ∧ v = .pointer (some ⟨g, off, none⟩)
 | .ept id sz i off => ∃ g n cap, ι id = some (.slice (some ⟨g, 0, none⟩) n cap) ∧ v = .pointer (some ⟨g, i * sz + off, none⟩)
 | .ip x off => ∃ g o cs T fr, imm g ∧ w.heap[g]? = some (.cells cs T fr) ∧ v = .pointer (some ⟨g, o + off, none⟩) ∧
   ∀ j, j < x.cells.length → o + j < cs.size ∧ RepC imm w (x.cells.getD j .np) (cs.getD (o + j) undef)
 | .own id _ => ι id = some v ∧ (v = .slice none 0 0 ∨ ∃ g n cap, v = .slice (some ⟨g, 0, none⟩) n cap)
 | .ref id sz off len => (∃ g n cap c, ι id = some (.slice (some ⟨g, 0, none⟩) n cap) ∧ v = .slice (some ⟨g, off * sz, none⟩) len c ∧ len ≤ c ∧ off + c ≤ cap) ∨
   ((∃ u, ι id = some u) ∧ len = 0 ∧ ∃ base, v = .slice base 0 0)
 | .nil => v = .slice none 0 0
 | .fn f => v = .func (.func f) #[] #[]
 | .clo f a b => ∃ fs vs, v = .func (.func f) fs vs ∧ RepCaps ι a fs ∧ RepCaps ι b vs
 | .junk => True
 | .agg _ => False
 | .tup _ => False
def RepV0 (ι : Nat → Option Value) (imm : Nat → Prop) (w : World) (x : V) (v : Value) : Prop :=
 match x with
 | .agg cs => ∃ vs : Array Value, v = .agg vs ∧ vs.size = cs.length ∧ ∀ j, j < cs.length → RepV1 ι imm w (cs.getD j .junk) (vs.getD j undef) ∧ (vs.getD j undef).oneCell' = true
 | .d x => RepD imm w x v
 | x => RepV1 ι imm w x v
def RepV (ι : Nat → Option Value) (imm : Nat → Prop) (w : World) (x : V) (v : Value) : Prop :=
 match x with
 | .tup cs => ∃ vs : Array Value, v = .tuple vs ∧ vs.size = cs.length ∧ ∀ j, j < cs.length → RepV0 ι imm w (cs.getD j .junk) (vs.getD j undef)
 | x => RepV0 ι imm w x v
def headed (v : Value) : Prop := v = .slice none 0 0 ∨ ∃ g n cap, v = .slice (some ⟨g, 0, none⟩) n cap
def thaw (fr : Nat × Nat) (n : Nat) : Prop := fr = (0, 0) ∨ n ≤ fr.1
def rowOwn (w : World) (base : Nat) (e : TypeId) (size : Nat) (v : Value) (n : Nat) (xs : List Value) : Prop :=
 xs.length = n * size ∧
 ((v = .slice none 0 0 ∧ n = 0) ∨
 ∃ g cap cur fr, v = .slice (some ⟨g, 0, none⟩) n cap ∧ base ≤ g ∧ w.heap[g]? = some (.cells cur e fr) ∧ thaw fr cur.size ∧ n ≤ cap ∧ cap ≤ maxLen ∧ cap * size ≤ cur.size ∧ cur.toList.take (n * size) = xs)
theorem rowOwn_nil (w : World) (base : Nat) (e : TypeId) (size : Nat) : rowOwn w base e size (.slice none 0 0) 0 [] := ⟨by simp, .inl ⟨rfl, rfl⟩⟩
def BlkRep (ι : Nat → Option Value) (imm : Nat → Prop) (w : World) (B : Blk) (v : Value) : Prop :=
 match B with
 | .row true e sz xs => ∃ cells, rowOwn w 0 e sz v xs.length cells ∧ (∀ x, x ∈ xs → x.cells.length = sz) ∧
   ∀ i j, i < xs.length → j < sz → RepC imm w ((xs.getD i .np).cells.getD j .np) (cells.getD (i * sz + j) undef)
 | .row false _ sz xs => RepC imm w (.sl xs) v ∧ (∀ x, x ∈ xs → x.cells.length = sz) ∧ headed v
 | .var cs vt => ∃ g vs T, v = .pointer (some ⟨g, 0, none⟩) ∧ w.heap[g]? = some (.cells vs (vt.getD T) (0, 0)) ∧ vs.size = cs.length ∧
   ∀ j, j < cs.length → RepV1 ι imm w (cs.getD j .junk) (vs.getD j undef) ∧ (vs.getD j undef).oneCell' = true
 | .dead => True
def live : Blk → Bool
 | .row l _ _ _ => l
 | .var _ _ => true
 | .dead => false
def blockOf : Value → Option Nat
 | .pointer (some a) => some a.block
 | .slice (some a) _ _ => some a.block
 | _ => none
def Owned (ι : Nat → Option Value) (h : Heap) (g : Nat) : Prop := ∃ id B v, h id = some B ∧ live B = true ∧ ι id = some v ∧ blockOf v = some g
structure Inv (ι : Nat → Option Value) (imm : Nat → Prop) (h : Heap) (w : World) : Prop where
 blk : ∀ id B, h id = some B → ∃ v, ι id = some v ∧ BlkRep ι imm w B v
 non : ∀ id, h id = none → ι id = none
 own : ∀ g, Owned ι h g → ¬ imm g
 inj : ∀ id1 id2 B1 B2 v1 v2 g, h id1 = some B1 → h id2 = some B2 → live B1 = true → live B2 = true → ι id1 = some v1 → ι id2 = some v2 →
  blockOf v1 = some g → blockOf v2 = some g → id1 = id2
 lt : ∀ g, imm g → g < w.heap.size
structure Evo (ι : Nat → Option Value) (imm : Nat → Prop) (h : Heap) (w : World) (ι' : Nat → Option Value) (imm' : Nat → Prop) (h' : Heap) (w' : World) : Prop where
 ids : ∀ id v, ι id = some v → ι' id = some v
 immS : ∀ g, imm g → imm' g
 immR : ∀ g, imm' g → imm g ∨ w.heap.size ≤ g ∨ Owned ι h g
 own' : ∀ g, Owned ι' h' g → Owned ι h g ∨ w.heap.size ≤ g
 keep : ∀ g, g < w.heap.size → ¬ Owned ι h g → w'.heap[g]? = w.heap[g]?
 size : w.heap.size ≤ w'.heap.size
 os : w'.os = w.os
 tape : w'.tape = w.tape
 output : w'.output = w.output
theorem Evo.refl (ι : Nat → Option Value) (imm : Nat → Prop) (h : Heap) (w : World) : Evo ι imm h w ι imm h w :=
 ⟨fun _ _ e => e, fun _ e => e, fun _ e => .inl e, fun _ e => .inl e, fun _ _ _ => rfl, Nat.le_refl _, rfl, rfl, rfl⟩
theorem Evo.trans {ι1 ι2 ι3 : Nat → Option Value} {m1 m2 m3 : Nat → Prop} {h1 h2 h3 : Heap} {w1 w2 w3 : World}
  (a : Evo ι1 m1 h1 w1 ι2 m2 h2 w2) (b : Evo ι2 m2 h2 w2 ι3 m3 h3 w3) : Evo ι1 m1 h1 w1 ι3 m3 h3 w3 where
 ids := fun id v e => b.ids id v (a.ids id v e)
 immS := fun g e => b.immS g (a.immS g e)
 immR := fun g e => by
  rcases b.immR g e with e | e | e
  ·exact a.immR g e
  ·exact .inr (.inl (Nat.le_trans a.size e))
  ·rcases a.own' g e with e | e
   ·exact .inr (.inr e)
   ·exact .inr (.inl e)
 own' := fun g e => by
  rcases b.own' g e with e | e
  ·exact a.own' g e
  ·exact .inr (Nat.le_trans a.size e)
 keep := fun g hg hn => by
  rw [b.keep g (Nat.lt_of_lt_of_le hg a.size) (fun o => by
   rcases a.own' g o with o | o
   ·exact hn o
   ·omega)]
  exact a.keep g hg hn
 size := Nat.le_trans a.size b.size
 os := b.os.trans a.os
 tape := b.tape.trans a.tape
 output := b.output.trans a.output
theorem RepC.mono {imm imm' : Nat → Prop} {w w' : World} (hm : ∀ g, imm g → imm' g ∧ w'.heap[g]? = w.heap[g]?) {x : D} {v : Value} (h : RepC imm w x v) : RepC imm' w' x v := by
 induction h with
 | b x => exact .b x
 | i k n => exact .i k n
 | s x => exact .s x
 | np => exact .np
 | nif => exact .nif
 | ifc t x v _ ih => exact .ifc t x v ih
 | sl0 base cap => exact .sl0 base cap
 | sl xs g off cap sz cs T fr hne hi hg hc hs hb _ ih => exact .sl xs g off cap sz cs T fr hne (hm g hi).1 ((hm g hi).2.trans hg) hc hs hb ih
theorem RepD.mono {imm imm' : Nat → Prop} {w w' : World} (hm : ∀ g, imm g → imm' g ∧ w'.heap[g]? = w.heap[g]?) {x : D} {v : Value} (h : RepD imm w x v) : RepD imm' w' x v := by
 cases x <;> first
  | exact RepC.mono hm h
  | (obtain ⟨vs, hv, hs, hc⟩ := h; exact ⟨vs, hv, hs, fun j hj => (hc j hj).mono hm⟩)
theorem RepV1.mono {ι ι' : Nat → Option Value} {imm imm' : Nat → Prop} {w w' : World} (hi : ∀ id v, ι id = some v → ι' id = some v) (hm : ∀ g, imm g → imm' g ∧ w'.heap[g]? = w.heap[g]?)
  {x : V} {v : Value} (h : RepV1 ι imm w x v) : RepV1 ι' imm' w' x v := by
 cases x with
 | d x => exact RepC.mono hm h
 | agg cs => exact h
 | tup cs => exact h
 | ptr id off => obtain ⟨g, h1, h2⟩ := h; exact ⟨g, hi _ _ h1, h2⟩
 | ept id sz i off => obtain ⟨g, n, cap, h1, h2⟩ := h; exact ⟨g, n, cap, hi _ _ h1, h2⟩
 | ip x off => obtain ⟨g, o, cs, T, fr, h1, h2, h3, h4⟩ := h; exact ⟨g, o, cs, T, fr, (hm g h1).1, (hm g h1).2.trans h2, h3, fun j hj => ⟨(h4 j hj).1, (h4 j hj).2.mono hm⟩⟩
 | own id sz => exact ⟨hi _ _ h.1, h.2⟩
 | ref id sz off len =>
  rcases h with ⟨g, n, cap, c, h1, h2, h3, h4⟩ | ⟨h1, h2, h3⟩
  ·exact .inl ⟨g, n, cap, c, hi _ _ h1, h2, h3, h4⟩
  ·obtain ⟨u, h1⟩ := h1; exact .inr ⟨⟨u, hi _ _ h1⟩, h2, h3⟩
 | nil => exact h
 | fn f => exact h
 | clo f a b => obtain ⟨fs, vs, h1, h2, h3⟩ := h; exact ⟨fs, vs, h1, h2.mono hi, h3.mono hi⟩
 | junk => trivial
theorem RepV0.mono {ι ι' : Nat → Option Value} {imm imm' : Nat → Prop} {w w' : World} (hi : ∀ id v, ι id = some v → ι' id = some v) (hm : ∀ g, imm g → imm' g ∧ w'.heap[g]? = w.heap[g]?)
  {x : V} {v : Value} (h : RepV0 ι imm w x v) : RepV0 ι' imm' w' x v := by
 cases x with
 | d x => exact RepD.mono hm h
 | agg cs => obtain ⟨vs, hv, hs, hc⟩ := h; exact ⟨vs, hv, hs, fun j hj => ⟨(hc j hj).1.mono hi hm, (hc j hj).2⟩⟩
 | tup cs => exact h
 | ptr a b => exact RepV1.mono (x := .ptr a b) hi hm h
 | ept a b c d => exact RepV1.mono (x := .ept a b c d) hi hm h
 | ip a b => exact RepV1.mono (x := .ip a b) hi hm h
 | own a b => exact RepV1.mono (x := .own a b) hi hm h
 | ref a b c d => exact RepV1.mono (x := .ref a b c d) hi hm h
 | nil => exact h
 | fn f => exact h
 | clo f a b => exact RepV1.mono (x := .clo f a b) hi hm h
 | junk => trivial
theorem RepV.mono {ι ι' : Nat → Option Value} {imm imm' : Nat → Prop} {w w' : World} (hi : ∀ id v, ι id = some v → ι' id = some v) (hm : ∀ g, imm g → imm' g ∧ w'.heap[g]? = w.heap[g]?)
  {x : V} {v : Value} (h : RepV ι imm w x v) : RepV ι' imm' w' x v := by
 cases x with
 | tup cs => obtain ⟨vs, hv, hs, hc⟩ := h; exact ⟨vs, hv, hs, fun j hj => (hc j hj).mono hi hm⟩
 | d x => exact RepV0.mono (x := .d x) hi hm h
 | agg cs => exact RepV0.mono (x := .agg cs) hi hm h
 | ptr a b => exact RepV0.mono (x := .ptr a b) hi hm h
 | ept a b c d => exact RepV0.mono (x := .ept a b c d) hi hm h
 | ip a b => exact RepV0.mono (x := .ip a b) hi hm h
 | own a b => exact RepV0.mono (x := .own a b) hi hm h
 | ref a b c d => exact RepV0.mono (x := .ref a b c d) hi hm h
 | nil => exact h
 | fn f => exact h
 | clo f a b => exact RepV0.mono (x := .clo f a b) hi hm h
 | junk => trivial
theorem Evo.immKeep {ι ι' : Nat → Option Value} {imm imm' : Nat → Prop} {h h' : Heap} {w w' : World} (I : Inv ι imm h w) (e : Evo ι imm h w ι' imm' h' w') :
  ∀ g, imm g → imm' g ∧ w'.heap[g]? = w.heap[g]? := fun g hg =>
 ⟨e.immS g hg, e.keep g (I.lt g hg) fun o => I.own g o hg⟩
theorem RepV.evo {ι ι' : Nat → Option Value} {imm imm' : Nat → Prop} {h h' : Heap} {w w' : World} (I : Inv ι imm h w) (e : Evo ι imm h w ι' imm' h' w')
  {x : V} {v : Value} (r : RepV ι imm w x v) : RepV ι' imm' w' x v := r.mono e.ids (e.immKeep I)
theorem RepC.one {imm : Nat → Prop} {w : World} {x : D} {v : Value} (h : RepC imm w x v) : v.oneCell' = true := by cases h <;> rfl
theorem cells_rep {ι : Nat → Option Value} {imm : Nat → Prop} {w : World} {x : V} {v : Value} {l : List V} (h : RepV ι imm w x v) (hl : x.cellsO = some l) :
  v.cells.size = l.length ∧ ∀ j, j < l.length → RepV1 ι imm w (l.getD j .junk) (v.cells.getD j undef) ∧ (v.cells.getD j undef).oneCell' = true := by
 have one : ∀ (y : V), RepV1 ι imm w y v → v.oneCell' = true → y.cells = [y] → v.cells.size = y.cells.length ∧ ∀ j, j < y.cells.length → RepV1 ι imm w (y.cells.getD j .junk) (v.cells.getD j undef) ∧ (v.cells.getD j undef).oneCell' = true := by
  intro y hy h1 hc
  have hv : v.cells = #[v] := by cases v <;> first | rfl | simp [Value.oneCell'] at h1
  rw [hc, hv]
  refine ⟨rfl, fun j hj => ?_⟩
  have : j = 0 := by simp at hj; omega
  subst this
  exact ⟨hy, h1⟩
 cases x with
 | junk => cases hl
 | tup cs => cases hl
 | agg cs =>
  cases hl
  obtain ⟨vs, rfl, hs, hc⟩ := h
  exact ⟨hs, hc⟩
 | d x =>
  cases hl
  cases x with
  | agg cs =>
   obtain ⟨vs, rfl, hs, hc⟩ := h
   refine ⟨by simpa [V.cells, D.cells, Value.cells] using hs, fun j hj => ?_⟩
   have hj' : j < cs.length := by simpa [V.cells, D.cells] using hj
   have := hc j hj'
   refine ⟨?_, this.one⟩
   have e : (V.cells (.d (.agg cs))).getD j .junk = .d (cs.getD j .np) := by simp [V.cells, D.cells, List.getD, hj']
   rw [e]; exact this
  | b x => exact one (.d (.b x)) h (RepC.one h) rfl
  | i k n => exact one (.d (.i k n)) h (RepC.one h) rfl
  | s x => exact one (.d (.s x)) h (RepC.one h) rfl
  | np => exact one (.d .np) h (RepC.one h) rfl
  | nif => exact one (.d .nif) h (RepC.one h) rfl
  | ifc t x => exact one (.d (.ifc t x)) h (RepC.one h) rfl
  | sl xs => exact one (.d (.sl xs)) h (RepC.one h) rfl
 | ptr id off => cases hl; obtain ⟨g, h1, rfl⟩ := h; exact one (.ptr id off) ⟨g, h1, rfl⟩ rfl rfl
 | ept id sz i off => cases hl; obtain ⟨g, n, cap, h1, rfl⟩ := h; exact one (.ept id sz i off) ⟨g, n, cap, h1, rfl⟩ rfl rfl
 | ip x off => cases hl; have h' := h; obtain ⟨g, o, cs, T, fr, h1, h2, rfl, h4⟩ := h; exact one (.ip x off) h' rfl rfl
 | own id sz =>
  cases hl
  have h' := h
  obtain ⟨h1, rfl | ⟨g, n, cap, rfl⟩⟩ := h
  ·exact one (.own id sz) h' rfl rfl
  ·exact one (.own id sz) h' rfl rfl
 | ref id sz off len =>
  cases hl
  have h' := h
  rcases h with ⟨g, n, cap, c, h1, rfl, h3⟩ | ⟨h1, h2, base, rfl⟩
  ·exact one (.ref id sz off len) h' rfl rfl
  ·exact one (.ref id sz off len) h' rfl rfl
 | nil => cases hl; obtain rfl : v = _ := h; exact one .nil rfl rfl rfl
 | fn f => cases hl; obtain rfl : v = _ := h; exact one (.fn f) rfl rfl rfl
 | clo f a b => cases hl; have h' := h; obtain ⟨fs, vs, rfl, h2, h3⟩ := h; exact one (.clo f a b) h' rfl rfl
theorem shape_rep {ι : Nat → Option Value} {imm : Nat → Prop} {w : World} {l : List V} {vs : Array Value} (hs : vs.size = l.length)
  (h : ∀ j, j < l.length → RepV1 ι imm w (l.getD j .junk) (vs.getD j undef) ∧ (vs.getD j undef).oneCell' = true) : RepV ι imm w (.agg l) (.agg vs) :=
 ⟨vs, rfl, hs, h⟩
theorem V0_of_V1 {ι : Nat → Option Value} {imm : Nat → Prop} {w : World} {x : V} {v : Value} (h : RepV1 ι imm w x v) : RepV ι imm w x v := by
 cases x with
 | agg cs => exact h.elim
 | tup cs => exact h.elim
 | d x => cases x with
  | agg cs => cases h
  | b x => exact h
  | i k n => exact h
  | s x => exact h
  | np => exact h
  | nif => exact h
  | ifc t x => exact h
  | sl xs => exact h
 | ptr a b => exact h
 | ept a b c d => exact h
 | ip a b => exact h
 | own a b => exact h
 | ref a b c d => exact h
 | nil => exact h
 | fn f => exact h
 | clo f a b => exact h
 | junk => exact h
theorem const1_rep (ι : Nat → Option Value) (imm : Nat → Prop) (w : World) (z : Value) : RepV1 ι imm w (const1 z) z := by
 cases z with
 | bool x => exact .b x
 | int k n => exact .i k n
 | string s => exact .s s
 | pointer a => cases a with
  | none => exact .np
  | some a => trivial
 | slice a n c => cases a with
  | some a => trivial
  | none => cases n with
   | succ n => trivial
   | zero => cases c with
    | succ n => trivial
    | zero => exact rfl
 | nilIface => exact .nif
 | _ => trivial
theorem constV_rep (ι : Nat → Option Value) (imm : Nat → Prop) (w : World) (z : Value) : RepV ι imm w (constV z) z := by
 by_cases hz : ∃ cs, z = .agg cs
 ·obtain ⟨cs, rfl⟩ := hz
  by_cases h : cs.toList.all Value.oneCell' = true
  ·rw [show constV (.agg cs) = .agg (cs.toList.map const1) from if_pos h]
   refine ⟨cs, rfl, by simp, fun j hj => ?_⟩
   have hj' : j < cs.size := by simpa using hj
   have e : (cs.toList.map const1).getD j .junk = const1 (cs.getD j undef) := by simp [List.getD, hj', Array.getD]
   rw [e]
   refine ⟨const1_rep _ _ _ _, ?_⟩
   rw [List.all_eq_true] at h
   have : cs.getD j undef = cs[j] := by simp [Array.getD, hj']
   rw [this]
   exact h _ (by simp)
  ·rw [show constV (.agg cs) = .junk from if_neg h]
   trivial
 ·have e : constV z = const1 z := by cases z <;> first | rfl | exact absurd ⟨_, rfl⟩ hz
  rw [e]
  exact V0_of_V1 (const1_rep ι imm w z)
structure TOk (P : Program) (T : TypeId) (i : TInfo) : Prop where
 ok : ∃ info, P.info? T = some info ∧ info.size = i.size ∧ info.bytes = i.bytes ∧ info.zero = i.zero
 und : P.underlying T = some i.und
 zero : ∀ z, i.zero = some z → z.cells.size = i.size ∧ z.cells.toList.all Value.oneCell' = true
def TTok (P : Program) (tt : TypeId → Option TInfo) : Prop := ∀ T i, tt T = some i → TOk P T i
end Go.K
end
