/-
  Parts of the proof, joined by a program of this work: KWords, KDefs, KInst, KSpec, KNat, KRat, KRats, KAuto, KRep.
-/
import Derived.Orders
import Derived.KernelRfl
import Derived.Laws.MakeOwn
import Derived.Laws.Slices
import Derived.Laws.CopyOwn
set_option linter.unusedSimpArgs false
set_option linter.unusedVariables false
section
namespace Go.K
inductive D where
  | b (x : Bool)
  | i (k : IntKind) (n : Int)
  | s (x : ByteArray)
  | np
  | nif
  | ifc (t : TypeId) (x : D)
  | sl (xs : List D)
  | agg (cs : List D)
  deriving Inhabited
def D.cells : D → List D
  | .agg cs => cs
  | x => [x]
def D.isAgg : D → Bool
  | .agg _ => true
  | _ => false
inductive Wd where
  | ci | wrap | imax | imin | iand | ior | ixor | ishl | ishr | tmod | lt | le | eq | ne | ile | ilt | slen | sget | ssub | sset | srep | scat | tn | nadd | nsub | nlt | leb | room | scpy | bget | bext | bcat | bsz | beqs | bnes
@[reducible] def WTy : Wd → Type
  | .ci => Nat → Int
  | .wrap => IntKind → Int → Int
  | .imax | .imin | .tmod => Int → Int → Int
  | .iand | .ior | .ixor | .ishl | .ishr => IntKind → Int → Int → Int
  | .lt | .le | .eq | .ne => Int → Int → Bool
  | .ile | .ilt => Int → Int → Prop
  | .slen => List D → Nat
  | .sget => List D → Nat → Option D
  | .ssub => List D → Nat → Nat → List D
  | .sset => List D → Nat → D → List D
  | .srep => Nat → D → List D
  | .scat => List D → List D → List D
  | .tn => Int → Nat
  | .nadd | .nsub => Nat → Nat → Nat
  | .nlt | .room => Nat → Nat → Prop
  | .leb => Nat → Nat → Bool
  | .scpy => List D → Nat → List D → List D
  | .bget => ByteArray → Nat → Option Nat
  | .bext => ByteArray → Nat → Nat → ByteArray
  | .bcat => ByteArray → ByteArray → ByteArray
  | .bsz => ByteArray → Nat
  | .beqs | .bnes => ByteArray → ByteArray → Bool
def Ω : (t : Wd) → WTy t
  | .ci => fun (n : Nat) => (n : Int)
  | .wrap => fun k n => k.wrap n
  | .imax => fun (n m : Int) => if m > n then m else n
  | .imin => fun (n m : Int) => if m < n then m else n
  | .tmod => fun (n m : Int) => n.tmod m
  | .iand => fun (k : IntKind) (n m : Int) => k.wrap (BitVec.ofInt k.bits n &&& BitVec.ofInt k.bits m).toNat
  | .ior => fun (k : IntKind) (n m : Int) => k.wrap (BitVec.ofInt k.bits n ||| BitVec.ofInt k.bits m).toNat
  | .ixor => fun (k : IntKind) (n m : Int) => k.wrap (BitVec.ofInt k.bits n ^^^ BitVec.ofInt k.bits m).toNat
  | .ishl => fun (k : IntKind) (n m : Int) => k.wrap (n * 2 ^ (min m.toNat k.bits))
  | .ishr => fun (k : IntKind) (n m : Int) => n.fdiv (2 ^ (min m.toNat k.bits))
  | .lt => fun (n m : Int) => decide (n < m)
  | .le => fun (n m : Int) => decide (n ≤ m)
  | .eq => fun (n m : Int) => n == m
  | .ne => fun (n m : Int) => n != m
  | .ile => fun (n m : Int) => n ≤ m
  | .ilt => fun (n m : Int) => n < m
  | .slen => fun (xs : List D) => xs.length
  | .sget => fun (xs : List D) (k : Nat) => xs[k]?
  | .ssub => fun (xs : List D) (a n : Nat) => (xs.drop a).take n
  | .sset => fun (xs : List D) (k : Nat) (y : D) => xs.set k y
  | .srep => fun (n : Nat) (x : D) => List.replicate n x
  | .scat => fun (xs ys : List D) => xs ++ ys
  | .tn => fun (n : Int) => n.toNat
  | .nadd => fun (a b : Nat) => a + b
  | .nsub => fun (a b : Nat) => a - b
  | .nlt => fun (a b : Nat) => a < b
  | .leb => fun (a b : Nat) => decide (a ≤ b)
  | .scpy => fun (xs : List D) (a : Nat) (zs : List D) => xs.take a ++ zs ++ xs.drop (a + zs.length)
  | .room => fun (n b : Nat) => n * b ≤ 140737488355328 ∧ n ≤ 1099511627776
  | .bget => fun (b : ByteArray) (k : Nat) => (b[k]?).map fun c => c.toNat
  | .bext => fun (b : ByteArray) (i j : Nat) => b.extract i j
  | .bcat => fun (a b : ByteArray) => a ++ b
  | .bsz => fun (b : ByteArray) => b.size
  | .beqs => fun (a b : ByteArray) => a.toList == b.toList
  | .bnes => fun (a b : ByteArray) => !(a.toList == b.toList)
def nv : List Nat → Nat
  | [] => 0
  | x :: l => x + 4294967296 * nv l
def cn (n : Nat) : List Nat := if h : n = 0 then [] else n % 4294967296 :: cn (n / 4294967296)
  termination_by n
  decreasing_by omega
structure RL where
  neg : Bool
  num : List Nat
  den : List Nat
structure VL where
  x : RL
  y : RL
  z : RL
structure V3 where
  x : Rat
  y : Rat
  z : Rat
structure M3 where
  s : Rat
  u : Rat
  v : Rat
structure ML where
  s : RL
  u : RL
  v : RL
structure BL where
  lo : VL
  hi : VL
structure B3 where
  lo : V3
  hi : V3
def limsR (l : List Nat) : List D := l.map fun (x : Nat) => D.i .u32 (x : Int)
def crR (q : Rat) : RL := ⟨decide (q.num < 0), cn q.num.natAbs, cn q.den⟩
def cVR (p : V3) : VL := ⟨crR p.x, crR p.y, crR p.z⟩
def dRR (r : RL) : List D := [.b r.neg, .sl (limsR r.num), .sl (limsR r.den)]
def dVR (v : VL) : List D := [.b v.x.neg, .sl (limsR v.x.num), .sl (limsR v.x.den), .b v.y.neg, .sl (limsR v.y.num), .sl (limsR v.y.den), .b v.z.neg, .sl (limsR v.z.num), .sl (limsR v.z.den)]
inductive Sd where
  | lims | cr | cI | sI | cmpI | dRs | dVs | dBs | cV | cB | cM | hb | cn
@[reducible] def STy : Sd → Type
  | .lims => List Nat → List D
  | .cr => Rat → RL
  | .cI => Rat → Rat → Int
  | .sI => Rat → Int
  | .cmpI => Nat → Nat → Int
  | .dRs => List RL → List D
  | .dVs => List VL → List D
  | .dBs => List BL → List D
  | .cV => V3 → VL
  | .cB => B3 → BL
  | .cM => M3 → ML
  | .hb => Bool → Bool
  | .cn => Nat → List Nat
def Ψ : (t : Sd) → STy t
  | .lims => limsR
  | .cr => crR
  | .cI => fun (p q : Rat) => if p < q then (-1 : Int) else if q < p then 1 else 0
  | .sI => fun (q : Rat) => if q < 0 then (-1 : Int) else if 0 < q then 1 else 0
  | .cmpI => fun (m n : Nat) => if m < n then (-1 : Int) else if n < m then 1 else 0
  | .dRs => fun (l : List RL) => l.map fun r => D.agg (dRR r)
  | .dVs => fun (l : List VL) => l.map fun r => D.agg (dVR r)
  | .dBs => fun (l : List BL) => l.map fun b => D.agg (dVR b.lo ++ dVR b.hi)
  | .cV => cVR
  | .cB => fun (p : B3) => ⟨cVR p.lo, cVR p.hi⟩
  | .cM => fun (m : M3) => ⟨crR m.s, crR m.u, crR m.v⟩
  | .hb => fun (b : Bool) => b
  | .cn => cn
section
variable (Ψ : (t : Sd) → STy t)
def dN (l : List Nat) : D := .sl (Ψ .lims l)
def dR (r : RL) : List D := [.b r.neg, dN Ψ r.num, dN Ψ r.den]
def dV (v : VL) : List D := [.b v.x.neg, dN Ψ v.x.num, dN Ψ v.x.den, .b v.y.neg, dN Ψ v.y.num, dN Ψ v.y.den, .b v.z.neg, dN Ψ v.z.num, dN Ψ v.z.den]
def dM (v : ML) : List D := [.b v.s.neg, dN Ψ v.s.num, dN Ψ v.s.den, .b v.u.neg, dN Ψ v.u.num, dN Ψ v.u.den, .b v.v.neg, dN Ψ v.v.num, dN Ψ v.v.den]
def dB (b : BL) : List D := [.b b.lo.x.neg, dN Ψ b.lo.x.num, dN Ψ b.lo.x.den, .b b.lo.y.neg, dN Ψ b.lo.y.num, dN Ψ b.lo.y.den, .b b.lo.z.neg, dN Ψ b.lo.z.num, dN Ψ b.lo.z.den,
  .b b.hi.x.neg, dN Ψ b.hi.x.num, dN Ψ b.hi.x.den, .b b.hi.y.neg, dN Ψ b.hi.y.num, dN Ψ b.hi.y.den, .b b.hi.z.neg, dN Ψ b.hi.z.num, dN Ψ b.hi.z.den]
end
end Go.K
end
section
namespace Go.K
variable (Ω : (t : Wd) → WTy t)
inductive V where
  | d (x : D)
  | agg (cs : List V)
  | tup (cs : List V)
  | ptr (id off : Nat)
  | ept (id sz i off : Nat)
  | ip (x : D) (off : Nat)
  | own (id sz : Nat)
  | ref (id sz off len : Nat)
  | nil
  | fn (f : FuncId)
  | clo (f : FuncId) (first caps : List (Option Nat))
  | junk
  deriving Inhabited
def V.cells : V → List V
  | .d x => x.cells.map V.d
  | .agg cs => cs
  | v => [v]
def V.cellsO : V → Option (List V)
  | .junk => none
  | .tup _ => none
  | v => some v.cells
inductive Blk where
  | row (live : Bool) (e sz : Nat) (xs : List D)
  | var (cs : List V)
  | dead
  deriving Inhabited
abbrev Heap := Nat → Option Blk
structure TInfo where
  size : Nat
  bytes : Nat
  zero : Option Value
  und : TypeDesc
def upd {α : Type} (s : Nat → α) (t : Nat) (v : α) : Nat → α := fun x => if x = t then v else s x
structure St where
  sl : Nat → V
  h : Heap
def const1 : Value → V
  | .bool x => .d (.b x)
  | .int k n => .d (.i k n)
  | .string x => .d (.s x)
  | .pointer none => .d .np
  | .nilIface => .d .nif
  | .slice none 0 0 => .nil
  | _ => .junk
def constV : Value → V
  | .agg cs => if cs.toList.all Value.oneCell' then .agg (cs.toList.map const1) else .junk
  | v => const1 v
def capV : Option Nat → V
  | some i => .ptr i 0
  | none => .d .np
def capOf : V → Option (Option Nat)
  | .ptr i 0 => some (some i)
  | .d .np => some none
  | _ => none
def capsOf : List V → Option (List (Option Nat))
  | [] => some []
  | v :: r => match capOf v, capsOf r with
    | some a, some l => some (a :: l)
    | _, _ => none
def fnOf (f : V) (as : List V) : Option (FuncId × List V) :=
  match f with
  | .fn g => some (g, as)
  | .clo g a b => some (g, a.map capV ++ as ++ b.map capV)
  | _ => none
def ev (s : Nat → V) : Operand → V
  | .tmp t => s t
  | .const v => constV v
  | .global _ => .junk
  | .func f => .fn f
def BrG (t : Bool) (K : Bool → Prop) : Prop := (cond t (fun (_ : Unit) => K true) (fun (_ : Unit) => K false)) ()
def DK (r : D) (K : D → Prop) : Prop :=
  match r with
  | .b t => BrG t fun t => K (.b t)
  | r => K r
def toD1 (h : Heap) : V → Option D
  | .d x => some x
  | .nil => some (.sl [])
  | .own id _ => match h id with
    | some (.row _ _ _ xs) => some (.sl xs)
    | _ => none
  | .ref id sz off len => match h id with
    | some (.row _ _ z xs) => if z = sz then cond (Ω .leb (Ω .nadd off len) (Ω .slen xs)) (some (.sl (Ω .ssub xs off len))) none else none
    | _ => none
  | _ => none
def allD (h : Heap) : List V → Option (List D)
  | [] => some []
  | v :: r => match toD1 Ω h v, allD h r with
    | some x, some l => some (x :: l)
    | _, _ => none
def toD (h : Heap) : V → Option D
  | .agg cs => match allD Ω h cs with
    | some l => some (.agg l)
    | none => none
  | v => toD1 Ω h v
def toDs (h : Heap) : List V → Option (List D)
  | [] => some []
  | v :: r => match toD Ω h v, toDs h r with
    | some x, some l => some (x :: l)
    | _, _ => none
def ids1 : V → List Nat
  | .own id _ => [id]
  | .ref id _ _ _ => [id]
  | _ => []
def idsOf : V → List Nat
  | .agg cs => cs.flatMap ids1
  | v => ids1 v
structure Out where
  v : V
  upd : List (Nat × Blk) := []
  rd : List Nat := []
def ups (h : Heap) : List (Nat × Blk) → Heap
  | [] => h
  | (i, b) :: r => upd (ups h r) i (some b)
def loadD (x : D) (off n : Nat) (agg : Bool) : D :=
  if agg then (if x.isAgg && off == 0 && n == x.cells.length then x else .agg ((x.cells.drop off).take n)) else x.cells.getD off .np
def isAggT : TypeDesc → Bool
  | .struct _ | .array _ _ => true
  | _ => false
def OneT (u : TypeDesc) (n : Nat) : Prop := (isAggT u || Nat.beq n 1) = true
def freezeL (h : Heap) : List Nat → List (Nat × Blk)
  | [] => []
  | i :: r => match h i with
    | some (.row _ e z xs) => (i, .row false e z xs) :: freezeL h r
    | _ => freezeL h r
def binD (op : BinOp) (x y : D) : Option D :=
  match op, x, y with
  | .add, .i k a, .i k' c => if k = k' then some (.i k (Ω .wrap k (a + c))) else none
  | .sub, .i k a, .i k' c => if k = k' then some (.i k (Ω .wrap k (a - c))) else none
  | .mul, .i k a, .i k' c => if k = k' then some (.i k (Ω .wrap k (a * c))) else none
  | .eql, .i k a, .i k' c => if k = k' then some (.b (Ω .eq a c)) else none
  | .neq, .i k a, .i k' c => if k = k' then some (.b (Ω .ne a c)) else none
  | .lss, .i k a, .i k' c => if k = k' then some (.b (Ω .lt a c)) else none
  | .leq, .i k a, .i k' c => if k = k' then some (.b (Ω .le a c)) else none
  | .gtr, .i k a, .i k' c => if k = k' then some (.b (Ω .lt c a)) else none
  | .geq, .i k a, .i k' c => if k = k' then some (.b (Ω .le c a)) else none
  | .eql, .b a, .b c => some (.b (a == c))
  | .neq, .b a, .b c => some (.b (!(a == c)))
  | .eql, .s a, .s c => some (.b (Ω .beqs a c))
  | .neq, .s a, .s c => some (.b (Ω .bnes a c))
  | _, _, _ => none
def eqTy (tt : TypeId → Option TInfo) (T : TypeId) : D → Prop
  | .b _ => match tt T with
    | some { und := .bool, .. } => True
    | _ => False
  | _ => True
def renC (f : Nat → Option Nat) : List (Option Nat) → Option (List (Option Nat))
  | [] => some []
  | none :: r => match renC f r with
    | some l => some (none :: l)
    | none => none
  | some i :: r => match f i, renC f r with
    | some j, some l => some (some j :: l)
    | _, _ => none
def ren1 (f : Nat → Option Nat) : V → V
  | .ptr id off => match f id with | some j => .ptr j off | none => .junk
  | .ept id sz i off => match f id with | some j => .ept j sz i off | none => .junk
  | .own id sz => match f id with | some j => .own j sz | none => .junk
  | .ref id sz off len => match f id with | some j => .ref j sz off len | none => .junk
  | .agg _ => .junk
  | .tup _ => .junk
  | .clo g a b => match renC f a, renC f b with
    | some a', some b' => .clo g a' b'
    | _, _ => .junk
  | v => v
def ren0 (f : Nat → Option Nat) : V → V
  | .agg cs => .agg (cs.map (ren1 f))
  | v => ren1 f v
def ren (f : Nat → Option Nat) : V → V
  | .tup cs => .tup (cs.map (ren0 f))
  | v => ren0 f v
def renB (f : Nat → Option Nat) : Blk → Blk
  | .var cs => .var (cs.map (ren1 f))
  | b => b
def mkH (bs : List Blk) : Heap := fun id => bs[id]?
def vid1 : V → List Nat
  | .ptr id _ => [id]
  | .ept id _ _ _ => [id]
  | .own id _ => [id]
  | .ref id _ _ _ => [id]
  | .clo _ a b => (a ++ b).filterMap id
  | _ => []
def vids : V → List Nat
  | .agg cs => cs.flatMap vid1
  | v => vid1 v
def reach (h : Heap) : Nat → List Nat → List Nat → List Nat
  | 0, _, acc => acc
  | _ + 1, [], acc => acc
  | n + 1, id :: r, acc => if acc.contains id then reach h n r acc else match h id with
    | some (.var cs) => reach h n (cs.flatMap vid1 ++ r) (acc ++ [id])
    | _ => reach h n r (acc ++ [id])
def getAll (h : Heap) : List Nat → Option (List Blk)
  | [] => some []
  | i :: r => match h i, getAll h r with
    | some b, some l => some (b :: l)
    | _, _ => none
def allNew (h : Heap) : List Nat → Prop
  | [] => True
  | i :: r => h i = none ∧ allNew h r
def back (s : List Nat) (k : Nat) : Option Nat := s[k]?
def fore (s : List Nat) (id : Nat) : Option Nat := s.idxOf? id
structure Env where
  tt : TypeId → Option TInfo
  C : FuncId → List D → V → Prop
  C2 : FuncId → List V → List Blk → V → List Blk → Prop
  md : FuncId → Bool
  m : Nat
  /-- functions that are handed blocks and write none of them -/
  ro : FuncId → Bool
def nodupB : List Nat → Bool
  | [] => true
  | a :: r => !r.contains a && nodupB r
def newIds (id : Nat) (n : Nat) : List Nat := (List.range n).map fun k => 1000000 + id * 8 + k
def shapeV (agg : Bool) (cs : List V) : V :=
  if agg then .agg cs else cs.headD .junk
def fillV (place : Nat → Option (Nat × Nat)) (cells : List V) : List (Nat × V) → Option (List V)
  | [] => some cells
  | (i, v) :: rest => match place i with
    | none => none
    | some (off, size) => match v.cellsO with
      | some l => if l.length = size ∧ off + l.length ≤ cells.length
        then fillV place (cells.take off ++ l ++ cells.drop (off + l.length)) rest else none
      | none => none
def places (tt : TypeId → Option TInfo) : List Field → Option (List (Nat × Nat))
  | [] => some []
  | f :: r => match tt f.type, places tt r with
    | some i, some l => some ((f.offset, i.size) :: l)
    | _, _ => none
def lowOf : Option V → Option Int
  | none => some 0
  | some (.d (.i _ n)) => some n
  | _ => none
def highOf (len : Nat) : Option V → Option Int
  | none => some (Ω .ci len)
  | some (.d (.i _ n)) => some n
  | _ => none
def partsD (h : Heap) : List (Nat × V) → Option (List (Nat × D))
  | [] => some []
  | (i, v) :: r => match toD Ω h v, partsD h r with
    | some x, some l => some ((i, x) :: l)
    | _, _ => none
def dense (sz : Nat) : Nat → List (Nat × D) → Option (List D)
  | _, [] => some []
  | k, (i, x) :: r => if i = k ∧ x.cells.length = sz then (match dense sz (k + 1) r with | some l => some (x :: l) | none => none) else none
def opR (E : Env) (draw : Bool) (ev : Operand → V) (h : Heap) (o : Op) (id : Nat) (K : Out → Prop) : Prop :=
  match o with
  | .move x | .assign x => K { v := ev x }
  | .pick c a b => match ev c with
    | .d (.b t) => BrG t fun t => K { v := if t then ev a else ev b }
    | _ => False
  | .nilCheck x => match ev x with
    | .ptr j off => K { v := .ptr j off }
    | .ept j sz i off => K { v := .ept j sz i off }
    | .ip x off => K { v := .ip x off }
    | .fn f => K { v := .fn f }
    | .clo f a b => K { v := .clo f a b }
    | _ => False
  | .makeFunc fn first captured => match fn, capsOf (first.toList.map ev), capsOf (captured.toList.map ev) with
    | .func g, some [], some [] => K { v := .fn g }
    | .func g, some a, some b => K { v := .clo g a b }
    | _, _, _ => False
  | .alloc T => match E.tt T with
    | some { zero := some z, .. } => match (constV z).cellsO with
      | some l => h id = none ∧ K { v := .ptr id 0, upd := [(id, .var l)], rd := [id] }
      | none => False
    | _ => False
  | .box _ x => match (ev x).cellsO with
    | some l => h id = none ∧ K { v := .ptr id 0, upd := [(id, .var l)], rd := [id] }
    | none => False
  | .store T x y => match E.tt T, ev x with
    | some i, .ptr j off => match h j with
      | some (.var cs) => match (ev y).cellsO with
        | some l => l.length = i.size ∧ off + i.size ≤ cs.length ∧
          K { v := .junk, upd := [(j, .var (cs.take off ++ l ++ cs.drop (off + i.size)))], rd := [j] }
        | none => False
      | _ => False
    | some i, .ept j sz k off => match h j with
      | some (.row true e z xs) => match toD Ω h (ev y) with
        | some y' => z = sz ∧ (idsOf (ev y)).contains j = false ∧ Ω .nlt k (Ω .slen xs) ∧ y'.cells.length = i.size ∧
            (if off = 0 ∧ i.size = sz then K { v := .junk, upd := (j, .row true e z (Ω .sset xs k y')) :: freezeL h (idsOf (ev y)), rd := j :: idsOf (ev y) }
             else off + i.size ≤ sz ∧ ∃ x0, Ω .sget xs k = some x0 ∧
               K { v := .junk, upd := (j, .row true e z (Ω .sset xs k (.agg (x0.cells.take off ++ y'.cells ++ x0.cells.drop (off + i.size))))) :: freezeL h (idsOf (ev y)), rd := j :: idsOf (ev y) })
        | none => False
      | _ => False
    | _, _ => False
  | .load T x => match E.tt T, ev x with
    | some i, .ptr j off => match h j with
      | some (.var cs) => off + i.size ≤ cs.length ∧ OneT i.und i.size ∧ K { v := shapeV (isAggT i.und) ((cs.drop off).take i.size), rd := [j] }
      | _ => False
    | some i, .ept j sz k off => match h j with
      | some (.row _ _ z xs) => z = sz ∧ ∃ x, Ω .sget xs k = some x ∧ off + i.size ≤ x.cells.length ∧ OneT i.und i.size ∧ K { v := .d (loadD x off i.size (isAggT i.und)), rd := [j] }
      | _ => False
    | some i, .ip x off => 0 < i.size ∧ off + i.size ≤ x.cells.length ∧ OneT i.und i.size ∧ K { v := .d (loadD x off i.size (isAggT i.und)) }
    | _, _ => False
  | .fieldAddr T x f => match E.tt T with
    | some { und := .struct fs, .. } => match fs[f]? with
      | some g => match E.tt g.type with
        | some i => 0 < i.size ∧ (match ev x with
          | .ptr j off => K { v := .ptr j (off + g.offset) }
          | .ept j sz k off => K { v := .ept j sz k (off + g.offset) }
          | .ip x off => K { v := .ip x (off + g.offset) }
          | _ => False)
        | none => False
      | none => False
    | _ => False
  | .field T x f => match E.tt T with
    | some { und := .struct fs, .. } => match fs[f]? with
      | some g => match E.tt g.type with
        | some i => match ev x with
          | .agg cs => g.offset + i.size ≤ cs.length ∧ OneT i.und i.size ∧ K { v := shapeV (isAggT i.und) ((cs.drop g.offset).take i.size) }
          | .d (.agg cs) => g.offset + i.size ≤ cs.length ∧ OneT i.und i.size ∧ K { v := .d (loadD (.agg cs) g.offset i.size (isAggT i.und)) }
          | _ => False
        | none => False
      | none => False
    | _ => False
  | .index T x y => match E.tt T with
    | some { und := .array n e, .. } => match E.tt e with
      | some i => match ev x, ev y with
        | .agg cs, .d (.i _ k) => 0 ≤ k ∧ k.toNat < n ∧ k.toNat * i.size + i.size ≤ cs.length ∧ OneT i.und i.size ∧ K { v := shapeV (isAggT i.und) ((cs.drop (k.toNat * i.size)).take i.size) }
        | .d (.agg cs), .d (.i _ k) => 0 ≤ k ∧ k.toNat < n ∧ k.toNat * i.size + i.size ≤ cs.length ∧ OneT i.und i.size ∧ K { v := .d (loadD (.agg cs) (k.toNat * i.size) i.size (isAggT i.und)) }
        | _, _ => False
      | none => False
    | some { und := .string, .. } => match ev x, ev y with
      | .d (.s b), .d (.i _ k) => Ω .ile 0 k ∧ ∃ c, Ω .bget b (Ω .tn k) = some c ∧ K { v := .d (.i .u8 (Ω .ci c)) }
      | _, _ => False
    | _ => False
  | .indexAddr T x y => match E.tt T with
    | some { und := .array n e, .. } => match E.tt e with
      | some i => match ev x, ev y with
        | .ptr j off, .d (.i _ k) => 0 ≤ k ∧ k.toNat < n ∧ K { v := .ptr j (off + k.toNat * i.size) }
        | .ept j sz l off, .d (.i _ k) => 0 ≤ k ∧ k.toNat < n ∧ K { v := .ept j sz l (off + k.toNat * i.size) }
        | .ip x off, .d (.i _ k) => 0 ≤ k ∧ k.toNat < n ∧ K { v := .ip x (off + k.toNat * i.size) }
        | _, _ => False
      | none => False
    | some { und := .slice e, .. } => match E.tt e with
      | some i => match ev x, ev y with
        | .d (.sl xs), .d (.i _ k) => Ω .ile 0 k ∧ ∃ x, Ω .sget xs (Ω .tn k) = some x ∧ x.cells.length = i.size ∧ K { v := .ip x 0 }
        | .own j sz, .d (.i _ k) => match h j with
          | some (.row _ _ z xs) => z = sz ∧ sz = i.size ∧ Ω .ile 0 k ∧ Ω .ilt k (Ω .ci (Ω .slen xs)) ∧ K { v := .ept j sz (Ω .tn k) 0, rd := [j] }
          | _ => False
        | .ref j sz off len, .d (.i _ k) => sz = i.size ∧ Ω .ile 0 k ∧ Ω .ilt k (Ω .ci len) ∧ K { v := .ept j sz (Ω .nadd off (Ω .tn k)) 0 }
        | _, _ => False
      | none => False
    | _ => False
  | .slice T x lo hi mx => match E.tt T with
    | some { und := .slice e, .. } => match E.tt e with
      | some i => match ev x with
        | .d (.sl xs) => match lowOf (lo.map ev), highOf Ω (Ω .slen xs) (hi.map ev), highOf Ω (Ω .slen xs) (mx.map ev) with
          | some l, some u, some m => Ω .ile 0 l ∧ Ω .ile l u ∧ Ω .ile u m ∧ Ω .ile m (Ω .ci (Ω .slen xs)) ∧ (mx.isSome → hi.isSome) ∧ (∀ x ∈ xs, x.cells.length = i.size) ∧ K { v := .d (.sl (Ω .ssub xs (Ω .tn l) (Ω .nsub (Ω .tn u) (Ω .tn l)))) }
          | _, _, _ => False
        | .own j sz => match h j with
          | some (.row lv e' z xs) => if lo = none ∧ mx.isSome = true
            then (match hi.map ev, mx.map ev with
              | some (.d (.i _ u)), some (.d (.i _ m)) => lv = true ∧ z = sz ∧ sz = i.size ∧ Ω .ile 0 u ∧ Ω .ile u m ∧ Ω .ile m (Ω .ci (Ω .slen xs)) ∧ h id = none ∧
                  K { v := .own id sz, upd := [(id, .row true e' z (Ω .ssub xs 0 (Ω .tn u))), (j, .dead)], rd := [id, j] }
              | _, _ => False)
            else (match lowOf (lo.map ev), highOf Ω (Ω .slen xs) (hi.map ev), highOf Ω (Ω .slen xs) (mx.map ev) with
              | some l, some u, some m => z = sz ∧ sz = i.size ∧ Ω .ile 0 l ∧ Ω .ile l u ∧ Ω .ile u m ∧ Ω .ile m (Ω .ci (Ω .slen xs)) ∧ (mx.isSome → hi.isSome) ∧ K { v := .ref j sz (Ω .tn l) (Ω .nsub (Ω .tn u) (Ω .tn l)), rd := [j] }
              | _, _, _ => False)
          | _ => False
        | .ref j sz off len => match lowOf (lo.map ev), highOf Ω len (hi.map ev), highOf Ω len (mx.map ev) with
          | some l, some u, some m => sz = i.size ∧ Ω .ile 0 l ∧ Ω .ile l u ∧ Ω .ile u m ∧ Ω .ile m (Ω .ci len) ∧ (mx.isSome → hi.isSome) ∧ K { v := .ref j sz (Ω .nadd off (Ω .tn l)) (Ω .nsub (Ω .tn u) (Ω .tn l)) }
          | _, _, _ => False
        | _ => False
      | none => False
    | some { und := .string, .. } => match ev x with
      | .d (.s b) => match lowOf (lo.map ev), highOf Ω (Ω .bsz b) (hi.map ev) with
        | some l, some u => mx = none ∧ Ω .ile 0 l ∧ Ω .ile l u ∧ Ω .ile u (Ω .ci (Ω .bsz b)) ∧ K { v := .d (.s (Ω .bext b (Ω .tn l) (Ω .tn u))) }
        | _, _ => False
      | _ => False
    | _ => False
  | .build T parts => match E.tt T with
    | some { und := .struct fs, zero := some z, .. } => match places E.tt fs.toList, (constV z).cellsO with
      | some pl, some l => match fillV (fun i => pl[i]?) l (parts.toList.map fun p => (p.1, ev p.2)) with
        | some cs => K { v := .agg cs }
        | none => False
      | _, _ => False
    | some { und := .array _ e, zero := some z, .. } => match E.tt e, (constV z).cellsO with
      | some i, some l => match fillV (fun k => some (k * i.size, i.size)) l (parts.toList.map fun p => (p.1, ev p.2)) with
        | some cs => K { v := .agg cs }
        | none => False
      | _, _ => False
    | _ => False
  | .buildSlice T len parts => match E.tt T with
    | some { und := .slice e, .. } => match E.tt e with
      | some i => match partsD Ω h (parts.toList.map fun p => (p.1, ev p.2)) with
        | some ps => match dense i.size 0 ps with
          | some xs => xs.length = len ∧ len * i.size ≤ 16777216 ∧ 0 < i.size ∧ i.zero.isSome = true ∧
              (if (draw && !Nat.beq len 0) then K { v := .d (.sl xs), upd := freezeL h ((parts.toList.map fun p => ev p.2).flatMap idsOf), rd := (parts.toList.map fun p => ev p.2).flatMap idsOf }
               else h id = none ∧ K { v := .own id i.size, upd := (id, .row true e i.size xs) :: freezeL h ((parts.toList.map fun p => ev p.2).flatMap idsOf), rd := id :: (parts.toList.map fun p => ev p.2).flatMap idsOf })
          | none => False
        | none => False
      | none => False
    | _ => False
  | .makeSlice T l c => match E.tt T with
    | some { und := .slice e, .. } => match E.tt e with
      | some { size, bytes, zero := some z, .. } => match ev l, ev c with
        | .d (.i _ n), .d (.i _ m) => match toD Ω h (constV z) with
          | some x => h id = none ∧ Ω .ile 0 n ∧ Ω .ile n m ∧ Ω .ile (Ω .ci bytes * m) 281474976710656 ∧ Ω .ile m 4611686018427387904 ∧ 0 < size ∧ x.cells.length = size ∧
              K { v := .own id size, upd := [(id, .row true e size (Ω .srep (Ω .tn n) x))], rd := [id] }
          | none => False
        | _, _ => False
      | _ => False
    | _ => False
  | .binOp op T x y _ => match ev x, ev y with
    | .d (.sl xs), .nil => draw = false ∧ op = .eql ∧ (match E.tt T with | some { und := .slice _, .. } => True | _ => False) ∧ ∀ t : Bool, (t = true → xs = []) → K { v := .d (.b t) }
    | .d a, .d c => match binD Ω op a c with
      | some r => eqTy E.tt T a ∧ DK r fun r => K { v := .d r }
      | none => match op, a, c with
        | .add, .s a, .s c => Ω .room (Ω .nadd (Ω .bsz a) (Ω .bsz c)) 1 ∧ K { v := .d (.s (Ω .bcat a c)) }
        | .quo, .i k n, .i k' m => k = k' ∧ m ≠ 0 ∧ K { v := .d (.i k (Ω .wrap k (n.tdiv m))) }
        | .rem, .i k n, .i k' m => k = k' ∧ m ≠ 0 ∧ K { v := .d (.i k (Ω .tmod n m)) }
        | .shl, .i k n, .i _ m => Ω .ile 0 m ∧ K { v := .d (.i k (Ω .ishl k n m)) }
        | .shr, .i k n, .i _ m => Ω .ile 0 m ∧ K { v := .d (.i k (Ω .ishr k n m)) }
        | .and, .i k n, .i k' m => k = k' ∧ K { v := .d (.i k (Ω .iand k n m)) }
        | .or, .i k n, .i k' m => k = k' ∧ K { v := .d (.i k (Ω .ior k n m)) }
        | .xor, .i k n, .i k' m => k = k' ∧ K { v := .d (.i k (Ω .ixor k n m)) }
        | _, _, _ => False
    | _, _ => False
  | .unOp op _ x => match op, ev x with
    | .not, .d (.b t) => K { v := .d (.b (!t)) }
    | .neg, .d (.i k n) => K { v := .d (.i k (Ω .wrap k (0 - n))) }
    | .xor, .d (.i k n) => K { v := .d (.i k (Ω .ixor k (if k.signed then -1 else k.max) n)) }
    | _, _ => False
  | .convert S T x => match E.tt S, E.tt T, ev x with
    | some _, some { und := .int k, .. }, .d (.i _ n) => K { v := .d (.i k (Ω .wrap k n)) }
    | some { und := .string, .. }, some { und := .string, .. }, .d (.s b) => K { v := .d (.s b) }
    | _, _, _ => False
  | .extract x k => match ev x with
    | .tup cs => match cs[k]? with
      | some v => K { v }
      | none => False
    | _ => False
  | .makeInterface T x => match E.tt T, ev x with
    | some { und := .int _, .. }, .d (.i k n) => K { v := .d (.ifc T (.i k n)) }
    | _, _ => False
  | .call { callee := .value f, args, .. } => match fnOf (ev f) (args.toList.map ev) with
    | some (g, as) => if E.md g then
        if E.ro g then
        (match getAll h (reach h 40 (as.flatMap vids) []) with
        | some bs => ∃ r, E.C2 g (as.map (ren (fore (reach h 40 (as.flatMap vids) [])))) (bs.map (renB (fore (reach h 40 (as.flatMap vids) [])))) r (bs.map (renB (fore (reach h 40 (as.flatMap vids) [])))) ∧
            nodupB (reach h 40 (as.flatMap vids) []) = true ∧
            (bs.map (renB (fore (reach h 40 (as.flatMap vids) [])))).map (renB (back (reach h 40 (as.flatMap vids) []))) = bs ∧
            K { v := ren (back (reach h 40 (as.flatMap vids) [])) r, rd := reach h 40 (as.flatMap vids) [] }
        | none => False)
        else
        (match getAll h (reach h 40 (as.flatMap vids) []) with
        | some bs => ∃ r bs', E.C2 g (as.map (ren (fore (reach h 40 (as.flatMap vids) [])))) (bs.map (renB (fore (reach h 40 (as.flatMap vids) [])))) r bs' ∧
            allNew h (newIds id (bs'.length - bs.length)) ∧ bs.length ≤ bs'.length ∧ nodupB (reach h 40 (as.flatMap vids) []) = true ∧
            K { v := ren (back (reach h 40 (as.flatMap vids) [] ++ newIds id (bs'.length - bs.length))) r,
                upd := (reach h 40 (as.flatMap vids) [] ++ newIds id (bs'.length - bs.length)).zip (bs'.map (renB (back (reach h 40 (as.flatMap vids) [] ++ newIds id (bs'.length - bs.length))))),
                rd := reach h 40 (as.flatMap vids) [] ++ newIds id (bs'.length - bs.length) }
        | none => False)
      else match toDs Ω h as with
      | some ds => ∃ r, E.C g ds r ∧ K { v := r, upd := freezeL h (as.flatMap idsOf), rd := as.flatMap idsOf }
      | none => False
    | none => False
  | .call { callee := .builtin .max, args, .. } => match args.toList.map ev with
    | [.d (.i k n), .d (.i k' m)] => k = k' ∧ K { v := .d (.i k (Ω .imax n m)) }
    | _ => False
  | .call { callee := .builtin .min, args, .. } => match args.toList.map ev with
    | [.d (.i k n), .d (.i k' m)] => k = k' ∧ K { v := .d (.i k (Ω .imin n m)) }
    | _ => False
  | .call { callee := .builtin .copy, args, argTypes } => draw = false ∧ match args.toList.map ev, argTypes.toList with
    | [.ref j sz off len, y], [T, _] => match E.tt T, h j, toD Ω h y with
      | some { und := .slice e, .. }, some (.row true e' z xs), some (.sl ys) => match E.tt e with
        | some i => i.size = 1 ∧ z = 1 ∧ sz = 1 ∧ (∀ u ∈ ys, u.cells.length = 1) ∧ (idsOf y).contains j = false ∧ Ω .leb (Ω .nadd off len) (Ω .slen xs) = true ∧
            K { v := .d (.i .i64 (Ω .imin (Ω .ci len) (Ω .ci (Ω .slen ys)))), upd := (j, .row true e' z (Ω .scpy xs off (Ω .ssub ys 0 len))) :: freezeL h (idsOf y), rd := j :: idsOf y }
        | none => False
      | _, _, _ => False
    | _, _ => False
  | .call { callee := .builtin b, args, argTypes } => match b, args.toList.map ev, argTypes.toList with
    | .len, [x], [T] => match E.tt T, x with
      | some { und := .slice _, .. }, .d (.sl xs) => K { v := .d (.i .i64 (Ω .ci (Ω .slen xs))) }
      | some { und := .slice _, .. }, .nil => K { v := .d (.i .i64 0) }
      | some { und := .slice _, .. }, .own j _ => match h j with
        | some (.row _ _ _ xs) => K { v := .d (.i .i64 (Ω .ci (Ω .slen xs))), rd := [j] }
        | _ => False
      | some { und := .slice _, .. }, .ref _ _ _ len => K { v := .d (.i .i64 (Ω .ci len)) }
      | some { und := .string, .. }, .d (.s b) => K { v := .d (.i .i64 (Ω .ci (Ω .bsz b))) }
      | some { und := .array n _, .. }, _ => K { v := .d (.i .i64 (Ω .ci n)) }
      | _, _ => False
    | .append, [x, y], [T, U] => match E.tt T with
      | some { und := .slice e, .. } => match E.tt e with
        | some { size, bytes, zero := some z, .. } => T = U ∧ (constV z).cells.length = size ∧ 0 < size ∧ (match toD Ω h y with
          | some (.sl ys) => h id = none ∧ (∀ u ∈ ys, u.cells.length = size) ∧ (match x with
            | .nil => (Ω .room (Ω .slen ys) bytes ∧
                K { v := .own id size, upd := (id, .row true e size ys) :: freezeL h (idsOf y), rd := id :: idsOf y })
            | .own j _ => (match h j with
              | some (.row true e' z' xs) => e' = e ∧ z' = size ∧ Ω .room (Ω .slen xs + Ω .slen ys) bytes ∧ (idsOf y).contains j = false ∧
                  K { v := .own id size, upd := (id, .row true e size (Ω .scat xs ys)) :: (j, .dead) :: freezeL h (idsOf y), rd := id :: j :: idsOf y }
              | _ => False)
            | _ => False)
          | _ => False)
        | _ => False
      | _ => False
    | _, _, _ => False
  | _ => False
def put (s : Nat → V) (d : Option Tmp) (v : V) : Nat → V :=
  match d with
  | some t => upd s t v
  | none => s
structure Foot where
  n : Nat
  rd : List Nat
  wr : List Nat
def step (s : St) (d : Option Tmp) (out : Out) : St := ⟨put s.sl d out.v, ups s.h out.upd⟩
def wpl (E : Env) (draw : Bool) (base : Nat) (ops : Array Oper) : List Oper → Nat → List Foot → St → (List Foot → St → Prop) → Prop
  | [], _, log, s, K => K log s
  | o :: r, n, log, s, K => match o.guard with
    | none => opR Ω E draw (ev s.sl) s.h o.op (base + n) fun out => wpl E draw base ops r (n + 1) (⟨n, out.upd.map Prod.fst ++ out.rd, out.upd.map Prod.fst⟩ :: log) (step s o.dst out) K
    | some (j, want) => match (ops[j]?).bind (·.dst) with
      | some t => match s.sl t with
        | .d (.b x) => BrG x fun x => if x = want then opR Ω E draw (ev s.sl) s.h o.op (base + n) fun out => wpl E draw base ops r (n + 1) (⟨n, out.upd.map Prod.fst ++ out.rd, out.upd.map Prod.fst⟩ :: log) (step s o.dst out) K
          else wpl E draw base ops r (n + 1) (⟨n, [], []⟩ :: log) (step s o.dst { v := .tup [] }) K
        | .tup [] => wpl E draw base ops r (n + 1) (⟨n, [], []⟩ :: log) (step s o.dst { v := .tup [] }) K
        | _ => False
      | none => False
inductive X where
  | normal
  | exit (id : Nat)
  | ret
  deriving DecidableEq
def anc (ops : List Oper) : List (List Nat) :=
  ops.foldl (fun acc o => acc ++ [(o.after.toList.filter (Region.binds .any)).flatMap fun e => e.on :: acc.getD e.on []]) []
def ancM (ops : List Oper) : List Nat :=
  ops.foldl (fun acc o => acc ++ [(o.after.toList.filter (Region.binds .any)).foldl (fun m e => m ||| (1 <<< e.on ||| acc.getD e.on 0)) 0]) []
def meets (a b : List Nat) : Bool := a.any b.contains
def logOk (an : List Nat) (log : List Foot) : Bool :=
  log.all fun x => x.wr.isEmpty || log.all fun y => x.n == y.n || !meets x.wr y.rd || (an.getD y.n 0).testBit x.n || (an.getD x.n 0).testBit y.n
def lookL (ks : List Nat) (vs : List V) (t : Nat) : V :=
  match ks, vs with
  | k :: kr, v :: vr => if t = k then v else lookL kr vr t
  | _, _ => .junk
def lookH (ids : List Nat) (bs : List Blk) (t : Nat) : Option Blk :=
  match ids, bs with
  | k :: kr, v :: vr => if t = k then some v else lookH kr vr t
  | _, _ => none
def stOf (ks : List Nat) (vs : List V) (ids : List Nat) (bs : List Blk) : St := ⟨lookL ks vs, lookH ids bs⟩
def forth (ids olds : List Nat) (id : Nat) : Option Nat :=
  match ids, olds with
  | k :: kr, o :: or => if id = o then some k else forth kr or id
  | _, _ => none
def renOk (m : Nat) (ids olds : List Nat) : Bool :=
  ids.length == olds.length && nodupB olds && nodupB ids && ((ids.zip olds).all fun p => p.1 == p.2 || (1000 ≤ p.1 && 1000 ≤ p.2)) && (List.range m).all fun i => ids.contains i
def kept (m : Nat) (ks ids olds : List Nat) (s : St) (I : List V → List Blk → Prop) : Prop :=
  renOk m ids olds = true ∧ match getAll s.h olds with
    | some bs => I (ks.map fun t => ren (forth ids olds) (s.sl t)) (bs.map (renB (forth ids olds)))
    | none => False
inductive Bth where
  | slot (t id : Nat) (e : TypeId) (sz : Nat)
  | cell (j c id : Nat) (e : TypeId) (sz : Nat)
def bear1 (s : St) : Bth → Option St
  | .slot t id e sz => match s.sl t, s.h id with
    | .nil, none => some ⟨upd s.sl t (.own id sz), upd s.h id (some (.row true e sz []))⟩
    | _, _ => none
  | .cell j c id e sz => match s.h j, s.h id with
    | some (.var cs), none => match cs[c]? with
      | some .nil => some ⟨s.sl, upd (upd s.h id (some (.row true e sz []))) j (some (.var (cs.set c (.own id sz))))⟩
      | _ => none
    | _, _ => none
def bear (s : St) : List Bth → Option St
  | [] => some s
  | b :: r => match bear1 s b with
    | some s' => bear s' r
    | none => none
def keptB (bl : List Bth) (m : Nat) (ks ids olds : List Nat) (s : St) (I : List V → List Blk → Prop) : Prop :=
  match bear s bl with
  | some s' => kept m ks ids olds s' I
  | none => False
structure LoopG (m : Nat) (body : St → (X → St → Prop) → Prop) (s : St) (Q : X → St → Prop) : Prop where
  out : ∃ (σ : Type) (ks : List Nat) (ids : σ → List Nat) (vs : σ → List V) (bs : σ → List Blk) (I : σ → Prop) (μ : σ → Nat),
    (∃ bl x olds, I x ∧ keptB bl m ks (ids x) olds s fun a b => a = vs x ∧ b = bs x) ∧
      ∀ x, I x → body (stOf ks (vs x) (ids x) (bs x)) fun e s' => match e with
        | .normal => ∃ y olds, I y ∧ μ y < μ x ∧ kept m ks (ids y) olds s' fun a b => a = vs y ∧ b = bs y
        | e => Q e s'
def wp (E : Env) : Code → St → (X → St → Prop) → Prop
  | .skip, s, Q => Q .normal s
  | .region id ops draw, s, Q => wpl Ω E draw (1000 + 100 * id) ops ops.toList 0 [] s fun log s' => (if draw then logOk (ancM ops.toList) log = true else True) ∧ Q .normal s'
  | .seq a b, s, Q => wp E a s fun e s' => match e with
    | .normal => wp E b s' Q
    | e => Q e s'
  | .cond c a b, s, Q => match ev s.sl c with
    | .d (.b t) => BrG t fun t => match t with
      | true => wp E a s Q
      | false => wp E b s Q
    | _ => False
  | .block id b, s, Q => wp E b s fun e s' => match e with
    | .exit j => if j = id then Q .normal s' else Q (.exit j) s'
    | e => Q e s'
  | .exit id, s, Q => Q (.exit id) s
  | .ret, s, Q => Q .ret s
  | .loop b, s, Q => LoopG E.m (fun s' Q' => wp E b s' Q') s Q
  | _, _, _ => False
def resOne (tt : TypeId → Option TInfo) (s : St) : ResultVar → Option V
  | .tmp t => match s.sl t with
    | .tup _ => none
    | v => some v
  | .cell a T => match tt T, s.sl a with
    | some i, .ptr j off => match s.h j with
      | some (.var cs) => if off + i.size ≤ cs.length ∧ (isAggT i.und = true ∨ i.size = 1) then some (shapeV (isAggT i.und) ((cs.drop off).take i.size)) else none
      | _ => none
    | _, _ => none
def resList (tt : TypeId → Option TInfo) (s : St) : List ResultVar → Option (List V)
  | [] => some []
  | r :: l => match resOne tt s r, resList tt s l with
    | some v, some vs => some (v :: vs)
    | _, _ => none
def resOf (tt : TypeId → Option TInfo) (s : St) (l : List ResultVar) : Option V :=
  match resList tt s l with
  | some [v] => some v
  | some vs => some (.tup vs)
  | none => none
def finV (h : Heap) : V → Option V
  | .tup cs => match toDs Ω h cs with
    | some ds => some (.tup (ds.map V.d))
    | none => none
  | v => match toD Ω h v with
    | some d => some (.d d)
    | none => none
def argS (args : List V) (t : Nat) : V := args.getD t .junk
def wpF (E : Env) (fn : Func) (args : List V) (Q : V → Prop) : Prop :=
  match fn.body with
  | some c => wp Ω E c ⟨argS args, fun _ => none⟩ fun e s => match e with
    | .exit _ => False
    | _ => match resOf E.tt s fn.results.toList with
      | some r => match finV Ω s.h r with
        | some r' => Q r'
        | none => False
      | none => False
  | none => False
def wpF2 (E : Env) (fn : Func) (args : List V) (bs : List Blk) (Q : V → List Blk → Prop) : Prop :=
  match fn.body with
  | some c => wp Ω E c ⟨argS args, mkH bs⟩ fun e s => match e with
    | .exit _ => False
    | _ => match resOf E.tt s fn.results.toList with
      | some r => ∃ news, nodupB (List.range bs.length ++ news) = true ∧ match getAll s.h (List.range bs.length ++ news) with
        | some bs' => Q (ren (fore (List.range bs.length ++ news)) r) (bs'.map (renB (fore (List.range bs.length ++ news))))
        | none => False
      | none => False
  | none => False
end Go.K
end
section
namespace Go.K
open Go
theorem w_ci (n : Nat) : Ω .ci n = (n : Int) := rfl
theorem w_wrap (k : IntKind) (n : Int) : Ω .wrap k n = k.wrap n := rfl
theorem w_imax (n m : Int) : Ω .imax n m = if m > n then m else n := rfl
theorem w_imin (n m : Int) : Ω .imin n m = if m < n then m else n := rfl
theorem w_tmod (n m : Int) : Ω .tmod n m = n.tmod m := rfl
theorem w_iand (k : IntKind) (n m : Int) : Ω .iand k n m = k.wrap (BitVec.ofInt k.bits n &&& BitVec.ofInt k.bits m).toNat := rfl
theorem w_ior (k : IntKind) (n m : Int) : Ω .ior k n m = k.wrap (BitVec.ofInt k.bits n ||| BitVec.ofInt k.bits m).toNat := rfl
theorem w_ixor (k : IntKind) (n m : Int) : Ω .ixor k n m = k.wrap (BitVec.ofInt k.bits n ^^^ BitVec.ofInt k.bits m).toNat := rfl
theorem w_ishl (k : IntKind) (n m : Int) : Ω .ishl k n m = k.wrap (n * 2 ^ (min m.toNat k.bits)) := rfl
theorem w_ishr (k : IntKind) (n m : Int) : Ω .ishr k n m = n.fdiv (2 ^ (min m.toNat k.bits)) := rfl
theorem w_lt (n m : Int) : Ω .lt n m = decide (n < m) := rfl
theorem w_le (n m : Int) : Ω .le n m = decide (n ≤ m) := rfl
theorem w_eq (n m : Int) : Ω .eq n m = (n == m) := rfl
theorem w_ne (n m : Int) : Ω .ne n m = (n != m) := rfl
theorem w_ile (n m : Int) : Ω .ile n m = (n ≤ m) := rfl
theorem w_ilt (n m : Int) : Ω .ilt n m = (n < m) := rfl
theorem w_slen (xs : List D) : Ω .slen xs = xs.length := rfl
theorem w_sget (xs : List D) (k : Nat) : Ω .sget xs k = xs[k]? := rfl
theorem w_ssub (xs : List D) (a n : Nat) : Ω .ssub xs a n = (xs.drop a).take n := rfl
theorem w_sset (xs : List D) (k : Nat) (y : D) : Ω .sset xs k y = xs.set k y := rfl
theorem w_srep (n : Nat) (x : D) : Ω .srep n x = List.replicate n x := rfl
theorem w_scat (xs ys : List D) : Ω .scat xs ys = xs ++ ys := rfl
theorem w_tn (n : Int) : Ω .tn n = n.toNat := rfl
theorem w_nadd (a b : Nat) : Ω .nadd a b = a + b := rfl
theorem w_nsub (a b : Nat) : Ω .nsub a b = a - b := rfl
theorem w_nlt (a b : Nat) : Ω .nlt a b = (a < b) := rfl
theorem w_leb (a b : Nat) : Ω .leb a b = decide (a ≤ b) := rfl
theorem w_scpy (xs : List D) (a : Nat) (zs : List D) : Ω .scpy xs a zs = xs.take a ++ zs ++ xs.drop (a + zs.length) := rfl
theorem w_bget (b : ByteArray) (k : Nat) : Ω .bget b k = (b[k]?).map fun c => c.toNat := rfl
theorem w_bext (b : ByteArray) (i j : Nat) : Ω .bext b i j = b.extract i j := rfl
theorem w_bcat (a b : ByteArray) : Ω .bcat a b = a ++ b := rfl
theorem w_bsz (b : ByteArray) : Ω .bsz b = b.size := rfl
theorem w_beqs (a b : ByteArray) : Ω .beqs a b = (a.toList == b.toList) := rfl
theorem w_bnes (a b : ByteArray) : Ω .bnes a b = !(a.toList == b.toList) := rfl
theorem w_room (n b : Nat) : Ω .room n b = (n * b ≤ 140737488355328 ∧ n ≤ 1099511627776) := rfl
theorem p_lims (l : List Nat) : Ψ .lims l = l.map fun (x : Nat) => D.i .u32 (x : Int) := rfl
theorem p_cr (q : Rat) : Ψ .cr q = ⟨decide (q.num < 0), Ψ .cn q.num.natAbs, Ψ .cn q.den⟩ := rfl
theorem p_cI (p q : Rat) : Ψ .cI p q = if p < q then (-1 : Int) else if q < p then 1 else 0 := rfl
theorem p_sI (q : Rat) : Ψ .sI q = if q < 0 then (-1 : Int) else if 0 < q then 1 else 0 := rfl
theorem p_cmpI (m n : Nat) : Ψ .cmpI m n = if m < n then (-1 : Int) else if n < m then 1 else 0 := rfl
theorem p_dRs (l : List RL) : Ψ .dRs l = l.map fun r => D.agg (dR Ψ r) := rfl
theorem p_dVs (l : List VL) : Ψ .dVs l = l.map fun r => D.agg (dV Ψ r) := rfl
theorem p_dBs (l : List BL) : Ψ .dBs l = l.map fun b => D.agg (dB Ψ b) := rfl
theorem p_cV (p : V3) : Ψ .cV p = ⟨Ψ .cr p.x, Ψ .cr p.y, Ψ .cr p.z⟩ := rfl
theorem p_cB (p : B3) : Ψ .cB p = ⟨Ψ .cV p.lo, Ψ .cV p.hi⟩ := rfl
theorem p_cn (n : Nat) : Ψ .cn n = cn n := rfl
theorem slen_lims (l : List Nat) : Ω .slen (Ψ .lims l) = l.length := by simp [w_slen, p_lims]
theorem slen_dRs (l : List RL) : Ω .slen (Ψ .dRs l) = l.length := by simp [w_slen, p_dRs]
theorem slen_dVs (l : List VL) : Ω .slen (Ψ .dVs l) = l.length := by simp [w_slen, p_dVs]
theorem slen_dBs (l : List BL) : Ω .slen (Ψ .dBs l) = l.length := by simp [w_slen, p_dBs]
theorem tn_ci (n : Nat) : Ω .tn (Ω .ci n) = n := rfl
theorem tn_zero : Ω .tn 0 = 0 := rfl
theorem not_u32 : (if IntKind.u32.signed = true then (-1 : Int) else IntKind.u32.max) = 4294967295 := rfl
theorem lits : Ω .ile 0 0 ∧ Ω .ile 0 1 ∧ Ω .ile 0 2 ∧ Ω .ile 0 3 ∧ Ω .ile 0 7 ∧ Ω .ile 0 8 ∧ Ω .ile 0 16 ∧ Ω .ile 0 24 ∧ Ω .ile 0 31 ∧ Ω .ile 0 32 ∧ Ω .ile 0 63 ∧ Ω .ile 0 64 :=
  ⟨(by show (0 : Int) ≤ _; omega), (by show (0 : Int) ≤ _; omega), (by show (0 : Int) ≤ _; omega), (by show (0 : Int) ≤ _; omega), (by show (0 : Int) ≤ _; omega), (by show (0 : Int) ≤ _; omega), (by show (0 : Int) ≤ _; omega), (by show (0 : Int) ≤ _; omega), (by show (0 : Int) ≤ _; omega), (by show (0 : Int) ≤ _; omega), (by show (0 : Int) ≤ _; omega), (by show (0 : Int) ≤ _; omega)⟩
theorem slen_nil : Ω .slen [] = 0 := rfl
theorem slen_cons (a : D) (l : List D) : Ω .slen (a :: l) = Ω .slen l + 1 := rfl
theorem lt_true {a b : Int} : Ω .lt a b = true ↔ a < b := by rw [w_lt, decide_eq_true_eq]
theorem lt_false {a b : Int} : Ω .lt a b = false ↔ b ≤ a := by rw [w_lt, decide_eq_false_iff_not]; omega
theorem le_true {a b : Int} : Ω .le a b = true ↔ a ≤ b := by rw [w_le, decide_eq_true_eq]
theorem le_false {a b : Int} : Ω .le a b = false ↔ b < a := by rw [w_le, decide_eq_false_iff_not]; omega
theorem eq_true' {a b : Int} : Ω .eq a b = true ↔ a = b := by rw [w_eq, beq_iff_eq]
theorem eq_false' {a b : Int} : Ω .eq a b = false ↔ a ≠ b := by rw [w_eq, beq_eq_false_iff_ne]
theorem ne_true' {a b : Int} : Ω .ne a b = true ↔ a ≠ b := by rw [w_ne, bne_iff_ne]
theorem ne_false' {a b : Int} : Ω .ne a b = false ↔ a = b := by rw [w_ne, bne_eq_false_iff_eq]
theorem wz : (∀ n : Nat, Ω .ci n = (n : Int)) ∧ (∀ a b : Int, Ω .ile a b ↔ a ≤ b) ∧ (∀ a b : Int, Ω .ilt a b ↔ a < b) ∧ (∀ a b : Nat, Ω .nlt a b ↔ a < b)
    ∧ (∀ a b : Nat, Ω .room a b ↔ (a * b ≤ 140737488355328 ∧ a ≤ 1099511627776))
    ∧ (∀ a b : Int, Ω .lt a b = true ↔ a < b) ∧ (∀ a b : Int, Ω .lt a b = false ↔ b ≤ a) ∧ (∀ a b : Int, Ω .le a b = true ↔ a ≤ b) ∧ (∀ a b : Int, Ω .le a b = false ↔ b < a)
    ∧ (∀ a b : Int, Ω .eq a b = true ↔ a = b) ∧ (∀ a b : Int, Ω .eq a b = false ↔ a ≠ b) ∧ (∀ a b : Int, Ω .ne a b = true ↔ a ≠ b) ∧ (∀ a b : Int, Ω .ne a b = false ↔ a = b)
    ∧ (∀ n : Int, Ω .tn n = n.toNat) ∧ (∀ n : Nat, ((n : Int)).toNat = n)
    ∧ (∀ l : List Nat, Ω .slen (Ψ .lims l) = l.length) ∧ (∀ l : List RL, Ω .slen (Ψ .dRs l) = l.length) ∧ (∀ l : List VL, Ω .slen (Ψ .dVs l) = l.length) ∧ (∀ l : List BL, Ω .slen (Ψ .dBs l) = l.length)
    ∧ (Ω .slen [] = 0) ∧ (∀ (a : D) (l : List D), Ω .slen (a :: l) = Ω .slen l + 1) ∧ (∀ a b : Nat, Ω .nadd a b = a + b) ∧ (∀ a b : Nat, Ω .nsub a b = a - b) :=
  ⟨w_ci, fun _ _ => Iff.rfl, fun _ _ => Iff.rfl, fun _ _ => Iff.rfl, fun _ _ => Iff.rfl, fun _ _ => lt_true, fun _ _ => lt_false, fun _ _ => le_true, fun _ _ => le_false, fun _ _ => eq_true', fun _ _ => eq_false', fun _ _ => ne_true', fun _ _ => ne_false',
    w_tn, fun _ => rfl, slen_lims, slen_dRs, slen_dVs, slen_dBs, slen_nil, slen_cons, w_nadd, w_nsub⟩
theorem BrG.split {t : Bool} {A B : Unit → Prop} (h1 : t = true → A ()) (h2 : t = false → B ()) : (cond t A B) () := by
  cases t
  · exact h2 rfl
  · exact h1 rfl
theorem BrG.yes {t : Bool} {A B : Unit → Prop} (ht : t = true) (h : A ()) : (cond t A B) () := by subst ht; exact h
theorem BrG.no {t : Bool} {A B : Unit → Prop} (ht : t = false) (h : B ()) : (cond t A B) () := by subst ht; exact h
theorem nx {P Q : Prop} (q : Q) (h : Q → P := by intro q; (generalize hΩ : Ω = ω, hΨ : Ψ = ψ; cbv <;> subst hΩ hΨ <;> try simp only [lits, true_and, Int.reduceAdd, Int.reduceSub, Int.reduceMul, not_u32, slen_nil, tn_ci, tn_zero, slen_lims, slen_dRs, slen_dVs, slen_dBs]); all_goals with_reducible exact q) : P := h q
theorem run {P Q : Prop} (q : Q) (h : Q → P := by
  intro q; (generalize hΩ : Ω = ω, hΨ : Ψ = ψ; cbv <;> subst hΩ hΨ <;> try simp only [lits, true_and, Int.reduceAdd, Int.reduceSub, Int.reduceMul, not_u32, slen_nil, tn_ci, tn_zero, slen_lims, slen_dRs, slen_dVs, slen_dBs])
  (repeat
    first
      | (refine ⟨_, hC _ _ _ (by assumption), ?_⟩; (generalize hΩ : Ω = ω, hΨ : Ψ = ψ; cbv <;> subst hΩ hΨ <;> try simp only [lits, true_and, Int.reduceAdd, Int.reduceSub, Int.reduceMul, not_u32, slen_nil, tn_ci, tn_zero, slen_lims, slen_dRs, slen_dVs, slen_dBs]))
      | (refine BrG.yes (by first | assumption | decide) ?_; (generalize hΩ : Ω = ω, hΨ : Ψ = ψ; cbv <;> subst hΩ hΨ <;> try simp only [lits, true_and, Int.reduceAdd, Int.reduceSub, Int.reduceMul, not_u32, slen_nil, tn_ci, tn_zero, slen_lims, slen_dRs, slen_dVs, slen_dBs]))
      | (refine BrG.no (by first | assumption | decide) ?_; (generalize hΩ : Ω = ω, hΨ : Ψ = ψ; cbv <;> subst hΩ hΨ <;> try simp only [lits, true_and, Int.reduceAdd, Int.reduceSub, Int.reduceMul, not_u32, slen_nil, tn_ci, tn_zero, slen_lims, slen_dRs, slen_dVs, slen_dBs])))
  all_goals with_reducible exact q) : P := h q
def il : Nat → Int
  | 0 => 0
  | 1 => 1
  | 2 => 2
  | 3 => 3
  | 4 => 4
  | n => Ω .ci n
theorem BrG_eq (t : Bool) (K : Bool → Prop) : BrG t K = K t := by cases t <;> rfl
theorem DK_eq (r : D) (K : D → Prop) : DK r K = K r := by
  cases r with
  | b t => exact BrG_eq t fun t => K (.b t)
  | _ => rfl
theorem OneT.one {u : TypeDesc} {n : Nat} (h : OneT u n) : isAggT u = false → n = 1 := fun q => by
  unfold OneT at h
  rw [q, Bool.false_or] at h
  exact Nat.eq_of_beq_eq_true h
end Go.K
end
section
namespace Go.K
open Go
theorem LoopG.intro {m : Nat} {body : St → (X → St → Prop) → Prop} {s : St} {Q : X → St → Prop} {σ : Type} (ks ids : List Nat) (vs : σ → List V) (bs : σ → List Blk) (I : σ → Prop) (μ : σ → Nat) (x0 : σ) (olds : List Nat)
    (h0 : I x0) (hk : kept m ks ids olds s fun a b => a = vs x0 ∧ b = bs x0) (hr : ∀ x, I x → body (stOf ks (vs x) ids (bs x)) fun e s' => match e with
        | .normal => ∃ y olds, I y ∧ μ y < μ x ∧ kept m ks ids olds s' fun a b => a = vs y ∧ b = bs y
        | e => Q e s') : LoopG m body s Q := ⟨σ, ks, fun _ => ids, vs, bs, I, μ, ⟨[], x0, olds, h0, hk⟩, hr⟩
theorem LoopG.introB {m : Nat} {body : St → (X → St → Prop) → Prop} {s : St} {Q : X → St → Prop} {σ : Type} (bl : List Bth) (ks ids : List Nat) (vs : σ → List V) (bs : σ → List Blk) (I : σ → Prop) (μ : σ → Nat) (x0 : σ) (olds : List Nat)
    (h0 : I x0) (hk : keptB bl m ks ids olds s fun a b => a = vs x0 ∧ b = bs x0) (hr : ∀ x, I x → body (stOf ks (vs x) ids (bs x)) fun e s' => match e with
        | .normal => ∃ y olds, I y ∧ μ y < μ x ∧ kept m ks ids olds s' fun a b => a = vs y ∧ b = bs y
        | e => Q e s') : LoopG m body s Q := ⟨σ, ks, fun _ => ids, vs, bs, I, μ, ⟨bl, x0, olds, h0, hk⟩, hr⟩
theorem LoopG.intro2 {m : Nat} {body : St → (X → St → Prop) → Prop} {s : St} {Q : X → St → Prop} {σ : Type} (ks : List Nat) (ids : σ → List Nat) (vs : σ → List V) (bs : σ → List Blk) (I : σ → Prop) (μ : σ → Nat) (x0 : σ) (olds : List Nat)
    (h0 : I x0) (hk : kept m ks (ids x0) olds s fun a b => a = vs x0 ∧ b = bs x0) (hr : ∀ x, I x → body (stOf ks (vs x) (ids x) (bs x)) fun e s' => match e with
        | .normal => ∃ y olds, I y ∧ μ y < μ x ∧ kept m ks (ids y) olds s' fun a b => a = vs y ∧ b = bs y
        | e => Q e s') : LoopG m body s Q := ⟨σ, ks, ids, vs, bs, I, μ, ⟨[], x0, olds, h0, hk⟩, hr⟩
end Go.K
end
section
namespace Go.K
open Go
def lim (l : List Nat) : Prop := ∀ x ∈ l, x < 4294967296
@[simp] theorem nv_nil : nv [] = 0 := rfl
@[simp] theorem nv_cons (x : Nat) (l : List Nat) : nv (x :: l) = x + 4294967296 * nv l := rfl
theorem lim_nil : lim [] := fun _ h => by cases h
theorem lim_cons {x : Nat} {l : List Nat} : lim (x :: l) ↔ x < 4294967296 ∧ lim l := by simp [lim]
theorem lim_append {a b : List Nat} : lim (a ++ b) ↔ lim a ∧ lim b := by
  simp only [lim, List.mem_append]
  exact ⟨fun h => ⟨fun x q => h x (.inl q), fun x q => h x (.inr q)⟩, fun h x q => q.elim (h.1 x) (h.2 x)⟩
theorem lim_take {l : List Nat} (h : lim l) (n : Nat) : lim (l.take n) := fun x q => h x (List.mem_of_mem_take q)
theorem lim_drop {l : List Nat} (h : lim l) (n : Nat) : lim (l.drop n) := fun x q => h x (List.mem_of_mem_drop q)
theorem lim_get {l : List Nat} (h : lim l) {k x : Nat} (hx : l[k]? = some x) : x < 4294967296 := h x (List.mem_of_getElem? hx)
theorem lim_getElem {l : List Nat} (h : lim l) {k : Nat} (hk : k < l.length) : l[k] < 4294967296 := h _ (List.getElem_mem hk)
theorem lim_set {l : List Nat} (h : lim l) (k : Nat) {x : Nat} (hx : x < 4294967296) : lim (l.set k x) := fun y q => by
  rcases List.mem_or_eq_of_mem_set q with q | q
  · exact h y q
  · omega
theorem lim_rep (n : Nat) : lim (List.replicate n 0) := fun x q => by rw [(List.mem_replicate.1 q).2]; omega
theorem nv_append (a b : List Nat) : nv (a ++ b) = nv a + 4294967296 ^ a.length * nv b := by
  induction a with
  | nil => simp
  | cons x a ih =>
    simp only [List.cons_append, nv_cons, List.length_cons, ih, Nat.mul_add, Nat.pow_succ]
    rw [Nat.add_assoc]
    congr 2
    rw [Nat.mul_comm (4294967296 ^ a.length) 4294967296, Nat.mul_assoc]
theorem nv_rep (n : Nat) : nv (List.replicate n 0) = 0 := by
  induction n with
  | zero => rfl
  | succ n ih => rw [List.replicate_succ, nv_cons, ih]
theorem nv_lt {l : List Nat} (h : lim l) : nv l < 4294967296 ^ l.length := by
  induction l with
  | nil => simp
  | cons x l ih =>
    rw [lim_cons] at h
    have := ih h.2
    rw [nv_cons, List.length_cons, Nat.pow_succ]
    omega
theorem nv_snoc (l : List Nat) (x : Nat) : nv (l ++ [x]) = nv l + 4294967296 ^ l.length * x := by rw [nv_append]; simp
theorem nv_take_succ {l : List Nat} {k x : Nat} (h : l[k]? = some x) : nv (l.take (k + 1)) = nv (l.take k) + 4294967296 ^ k * x := by
  have hk := (List.getElem?_eq_some_iff.1 h).1
  rw [List.take_add_one, h, Option.toList_some, nv_snoc, List.length_take, Nat.min_eq_left (by omega)]
theorem cn_zero : Ψ .cn 0 = [] := by rw [p_cn]; unfold cn; rfl
theorem cn_pos {n : Nat} (h : 0 < n) : Ψ .cn n = n % 4294967296 :: Ψ .cn (n / 4294967296) := by
  rw [p_cn, cn]; rw [dif_neg (by omega)]; rfl
theorem nv_cn (n : Nat) : nv (Ψ .cn n) = n := by
  induction n using Nat.strongRecOn with
  | ind n ih =>
    rcases Nat.eq_zero_or_pos n with h | h
    · subst h; rw [cn_zero]; rfl
    · rw [cn_pos h, nv_cons, ih _ (by omega)]; omega
theorem lim_cn (n : Nat) : lim (Ψ .cn n) := by
  induction n using Nat.strongRecOn with
  | ind n ih =>
    rcases Nat.eq_zero_or_pos n with h | h
    · subst h; rw [cn_zero]; exact lim_nil
    · rw [cn_pos h, lim_cons]; exact ⟨by omega, ih _ (by omega)⟩
theorem cn_eq_nil {n : Nat} : Ψ .cn n = [] ↔ n = 0 := by
  constructor
  · intro h; rw [← nv_cn n, h]; rfl
  · rintro rfl; exact cn_zero
def cano (l : List Nat) : Prop := ∀ x, l.getLast? = some x → x ≠ 0
theorem cano_nil : cano [] := fun x h => by cases h
theorem cano_cons {x y : Nat} {l : List Nat} : cano (x :: y :: l) ↔ cano (y :: l) := by simp [cano]
theorem cn_cano : ∀ (l : List Nat), lim l → cano l → Ψ .cn (nv l) = l
  | [], _, _ => cn_zero
  | [x], h, c => by
    have h0 := c x rfl
    rw [lim_cons] at h
    rw [nv_cons, nv_nil, cn_pos (by omega)]
    have : (x + 4294967296 * 0) / 4294967296 = 0 := by omega
    rw [this, cn_zero]
    congr 1; omega
  | x :: y :: l, h, c => by
    rw [cano_cons] at c
    rw [lim_cons] at h
    have ih := cn_cano (y :: l) h.2 c
    have hp : 0 < nv (y :: l) := by
      rcases Nat.eq_zero_or_pos (nv (y :: l)) with q | q
      · rw [q, cn_zero] at ih; cases ih
      · exact q
    generalize y :: l = r at *
    rw [nv_cons, cn_pos (by omega)]
    have h1 : (x + 4294967296 * nv r) % 4294967296 = x := by omega
    have h2 : (x + 4294967296 * nv r) / 4294967296 = nv r := by omega
    rw [h1, h2, ih]
theorem cano_cn (n : Nat) : cano (Ψ .cn n) := by
  induction n using Nat.strongRecOn with
  | ind n ih =>
    rcases Nat.eq_zero_or_pos n with h | h
    · subst h; rw [cn_zero]; exact cano_nil
    · rw [cn_pos h]
      have := ih (n / 4294967296) (by omega)
      cases hc : Ψ .cn (n / 4294967296) with
      | nil =>
        have := cn_eq_nil.1 hc
        intro x hx
        have hx' : n % 4294967296 = x := by simpa [wz] using hx
        omega
      | cons y l => rw [cano_cons, ← hc]; exact this
theorem len_cn {n k : Nat} : (Ψ .cn n).length ≤ k ↔ n < 4294967296 ^ k := by
  induction k generalizing n with
  | zero => rw [Nat.pow_zero, Nat.le_zero, List.length_eq_zero_iff, cn_eq_nil]; omega
  | succ k ih =>
    rcases Nat.eq_zero_or_pos n with h | h
    · subst h
      rw [cn_zero]
      have : 0 < 4294967296 ^ (k + 1) := Nat.pow_pos (by omega)
      simp [this]
    · rw [cn_pos h, List.length_cons, Nat.add_le_add_iff_right, ih, Nat.pow_succ]
      exact Nat.div_lt_iff_lt_mul (by omega)
theorem len_cn_nv {l : List Nat} (h : lim l) : (Ψ .cn (nv l)).length ≤ l.length := len_cn.2 (nv_lt h)
theorem cn_ge {n k : Nat} (h : (Ψ .cn n).length = k + 1) : 4294967296 ^ k ≤ n := by
  have := (len_cn (n := n) (k := k)).2
  rcases Nat.lt_or_ge n (4294967296 ^ k) with q | q
  · have := this q; omega
  · exact q
theorem cn_lt {n : Nat} : n < 4294967296 ^ (Ψ .cn n).length := len_cn.1 (Nat.le_refl _)
theorem sget_lims (l : List Nat) (k : Nat) : Ω .sget (Ψ .lims l) k = (l[k]?).map fun (x : Nat) => (D.i .u32 (Ω .ci x) : D) := by simp [w_sget, p_lims, w_ci]
theorem ssub_lims (l : List Nat) (a n : Nat) : Ω .ssub (Ψ .lims l) a (Ω .nsub n a) = Ψ .lims ((l.drop a).take (n - a)) := by simp [w_ssub, p_lims, w_ci, w_nsub, List.map_drop, List.map_take]
theorem ssub_lims' (l : List Nat) (a n : Nat) : Ω .ssub (Ψ .lims l) a n = Ψ .lims ((l.drop a).take n) := by simp [w_ssub, p_lims, w_ci, List.map_drop, List.map_take]
theorem sset_lims (l : List Nat) (k x : Nat) : Ω .sset (Ψ .lims l) k (.i .u32 (Ω .ci x)) = Ψ .lims (l.set k x) := by simp [w_sset, p_lims, w_ci, List.map_set]
theorem scat_lims (a b : List Nat) : Ω .scat (Ψ .lims a) (Ψ .lims b) = Ψ .lims (a ++ b) := by simp [w_scat, p_lims, w_ci]
theorem srep_lims (n : Nat) : Ω .srep n (.i .u32 0) = Ψ .lims (List.replicate n 0) := by simp [w_srep, p_lims, w_ci, wz]
theorem lims_nil : ([] : List D) = Ψ .lims [] := rfl
theorem lims_cons (x : Nat) (l : List Nat) : D.i .u32 (Ω .ci x) :: Ψ .lims l = Ψ .lims (x :: l) := by simp [p_lims, w_ci]
theorem lims_cells (l : List Nat) : ∀ x ∈ Ψ .lims l, x.cells.length = 1 := by
  intro x h
  simp only [p_lims, w_ci, List.mem_map] at h
  obtain ⟨a, _, rfl⟩ := h
  rfl
theorem wrap64 {n : Int} (h : -9223372036854775808 ≤ n) (h' : n ≤ 9223372036854775807) : Ω .wrap .i64 n = n := by
  have e : Ω .wrap .i64 n = if decide (n % 18446744073709551616 ≥ 9223372036854775808) = true then n % 18446744073709551616 - 18446744073709551616 else n % 18446744073709551616 := rfl
  rw [e]
  by_cases c : n % 18446744073709551616 ≥ 9223372036854775808
  · rw [if_pos (by simpa using c)]; omega
  · rw [if_neg (by simpa using c)]; omega
theorem wrapu32 (n : Int) : Ω .wrap .u32 n = n % 4294967296 := by
  rw [w_wrap]
  simp only [IntKind.wrap, IntKind.bits, IntKind.signed, Bool.false_and]
  rfl
theorem wrapu64 (n : Int) : Ω .wrap .u64 n = n % 18446744073709551616 := by
  rw [w_wrap]
  simp only [IntKind.wrap, IntKind.bits, IntKind.signed, Bool.false_and]
  rfl
theorem wrapu32_nat (n : Nat) : Ω .wrap .u32 (n : Int) = ((n % 4294967296 : Nat) : Int) := by rw [wrapu32]; omega
theorem wrapu64_nat (n : Nat) : Ω .wrap .u64 (n : Int) = ((n % 18446744073709551616 : Nat) : Int) := by rw [wrapu64]; omega
theorem ci_nonneg (a : Nat) : 0 ≤ Ω .ci a := by simp only [wz]; omega
theorem toNat_ci (n : Nat) : (Ω .ci n).toNat = n := rfl
theorem wrap_ci {n : Nat} (h : n ≤ 9223372036854775807) : Ω .wrap .i64 (Ω .ci n) = Ω .ci n := wrap64 (by simp only [wz]; omega) (by simp only [wz]; omega)
theorem wrap_pred {n : Nat} (h0 : 0 < n) (h : n ≤ 9223372036854775807) : Ω .wrap .i64 (Ω .ci n - 1) = Ω .ci (n - 1) := by
  rw [wrap64 (by simp only [wz]; omega) (by simp only [wz]; omega)]; simp only [wz]; omega
theorem wrap_succ {n : Nat} (h : n < 9223372036854775807) : Ω .wrap .i64 (Ω .ci n + 1) = Ω .ci (n + 1) := by
  rw [wrap64 (by simp only [wz]; omega) (by simp only [wz]; omega)]; simp only [wz]; omega
theorem wrap_add {a b : Nat} (h : a + b ≤ 9223372036854775807) : Ω .wrap .i64 (Ω .ci a + Ω .ci b) = Ω .ci (a + b) := by
  rw [wrap64 (by simp only [wz]; omega) (by simp only [wz]; omega)]; simp only [wz]; omega
theorem wrap_sub {a b : Nat} (hb : b ≤ a) (h : a ≤ 9223372036854775807) : Ω .wrap .i64 (Ω .ci a - Ω .ci b) = Ω .ci (a - b) := by
  rw [wrap64 (by simp only [wz]; omega) (by simp only [wz]; omega)]; simp only [wz]; omega
theorem idx_lims {l : List Nat} {k : Int} {sz : Nat} {R : D → Prop} (kn v : Nat) (hk : k = Ω .ci kn) (hv : l[kn]? = some v) (hsz : 1 = sz) (h : R (.i .u32 (Ω .ci v))) :
    Ω .ile 0 k ∧ ∃ x, Ω .sget (Ψ .lims l) (Ω .tn k) = some x ∧ x.cells.length = sz ∧ R x := by
  subst hk
  refine ⟨by simp only [wz]; omega, .i .u32 (Ω .ci v), ?_, hsz, h⟩
  rw [tn_ci, sget_lims, hv]; rfl
theorem cano_take {l : List Nat} {n v : Nat} (hv : l[n]? = some v) (h0 : v ≠ 0) : cano (l.take (n + 1)) := by
  intro x hx
  rw [List.take_add_one, hv, Option.toList_some, List.getLast?_concat] at hx
  cases hx; exact h0
end Go.K
namespace Go.K
open Go
structure N (l : List Nat) : Prop where
  lim : lim l
  len : l.length < 1099511627776
theorem N.cn {l : List Nat} (h : N l) : N (Ψ .cn (nv l)) := ⟨lim_cn _, Nat.lt_of_le_of_lt (len_cn_nv h.lim) h.len⟩
theorem N_nil : N [] := ⟨lim_nil, by simp⟩
theorem nv_split (l : List Nat) (k : Nat) (hk : k ≤ l.length) : nv l = nv (l.take k) + 4294967296 ^ k * nv (l.drop k) := by
  have := nv_append (l.take k) (l.drop k)
  rw [List.take_append_drop, List.length_take, Nat.min_eq_left hk] at this
  exact this
theorem nv_drop {l : List Nat} {k v : Nat} (h : l[k]? = some v) : nv (l.drop k) = v + 4294967296 * nv (l.drop (k + 1)) := by
  obtain ⟨hk, rfl⟩ := List.getElem?_eq_some_iff.1 h
  rw [List.drop_eq_getElem_cons hk, nv_cons]
theorem nv_lt_of {x y : List Nat} {k u v : Nat} (hx : lim x) (hu : x[k]? = some u) (hv : y[k]? = some v) (hd : x.drop (k + 1) = y.drop (k + 1)) (h : u < v) : nv x < nv y := by
  have kx := (List.getElem?_eq_some_iff.1 hu).1
  have ky := (List.getElem?_eq_some_iff.1 hv).1
  rw [nv_split x k (by omega), nv_split y k (by omega), nv_drop hu, nv_drop hv, hd]
  have h1 : nv (x.take k) < 4294967296 ^ k := by
    have := nv_lt (lim_take hx k)
    rw [List.length_take, Nat.min_eq_left (by omega)] at this
    exact this
  generalize 4294967296 ^ k = M at *
  generalize nv (y.drop (k + 1)) = d
  have h2 := Nat.mul_le_mul_left M (show u + 4294967296 * d + 1 ≤ v + 4294967296 * d by omega)
  rw [Nat.mul_add, Nat.mul_one] at h2
  omega
theorem cn_len_lt {m n : Nat} (h : (Ψ .cn m).length < (Ψ .cn n).length) : m < n := by
  rcases Nat.lt_or_ge m n with q | q
  · exact q
  · have h1 : n < 4294967296 ^ (Ψ .cn m).length := Nat.lt_of_le_of_lt q cn_lt
    have := len_cn.2 h1
    omega
end Go.K
namespace Go.K
open Go
theorem nv_take_succ' (l : List Nat) (k : Nat) : nv (l.take (k + 1)) = nv (l.take k) + 4294967296 ^ k * l.getD k 0 := by
  rcases Nat.lt_or_ge k l.length with h | h
  · rw [nv_take_succ (List.getElem?_eq_getElem h)]; simp [List.getD, h]
  · rw [List.take_of_length_le h, List.take_of_length_le (by omega)]; simp [List.getD, h]
theorem getD_lt {l : List Nat} (h : lim l) (k : Nat) : l.getD k 0 < 4294967296 := by
  rcases Nat.lt_or_ge k l.length with q | q
  · simp only [List.getD, List.getElem?_eq_getElem q, Option.getD_some]; exact lim_getElem h q
  · simp [List.getD, q]
theorem add_step {M zv c X Y x y : Nat} (h : zv + M * c = X + Y) : zv + M * ((x + y + c) % 4294967296) + M * 4294967296 * ((x + y + c) / 4294967296) = (X + M * x) + (Y + M * y) := by
  have h1 := Nat.mod_add_div (x + y + c) 4294967296
  have h2 : M * ((x + y + c) % 4294967296) + M * 4294967296 * ((x + y + c) / 4294967296) = M * (x + y + c) := by
    rw [Nat.mul_assoc, ← Nat.mul_add, h1]
  rw [Nat.add_assoc, h2, Nat.mul_add, Nat.mul_add]
  omega
end Go.K
namespace Go.K
open Go
theorem scat_snoc (z : List Nat) (v : Nat) : Ω .scat (Ψ .lims z) [.i .u32 (Ω .ci v)] = Ψ .lims (z ++ [v]) := by simp [w_scat, p_lims, w_ci]
theorem cells_one (k : IntKind) (n : Int) : ∀ u, u ∈ [D.i k n] → u.cells.length = 1 := fun u h => by
  rw [List.mem_singleton.1 h]; rfl
end Go.K
namespace Go.K
open Go
theorem cmpI_neg {m n : Nat} : Ψ .cmpI m n < 0 ↔ m < n := by simp only [p_cmpI]; split <;> (try split) <;> omega
theorem cmpI_pos {m n : Nat} : Ψ .cmpI m n > 0 ↔ n < m := by simp only [p_cmpI]; split <;> (try split) <;> omega
theorem cmpI_zero {m n : Nat} : Ψ .cmpI m n = 0 ↔ m = n := by simp only [p_cmpI]; split <;> (try split) <;> omega
theorem cmpI_nonneg {m n : Nat} : 0 ≤ Ψ .cmpI m n ↔ n ≤ m := by simp only [p_cmpI]; split <;> (try split) <;> omega
theorem sub_step {M zv c X Y x y d c' : Nat} (h : zv + Y = X + M * c) (hd : d + y + c = x + 4294967296 * c') : zv + M * d + (Y + M * y) + 0 = X + M * x + M * 4294967296 * c' := by
  have h2 : M * (d + y + c) = M * (x + 4294967296 * c') := by rw [hd]
  rw [Nat.mul_add, Nat.mul_add, Nat.mul_add, ← Nat.mul_assoc] at h2
  omega
end Go.K
namespace Go.K
open Go
theorem nv_set {l : List Nat} {k u : Nat} (h : l[k]? = some u) (v : Nat) : nv (l.set k v) + 4294967296 ^ k * u = nv l + 4294967296 ^ k * v := by
  have hk := (List.getElem?_eq_some_iff.1 h).1
  have e1 := nv_split (l.set k v) k (by simp; omega)
  have e2 := nv_split l k (by omega)
  have e3 : (l.set k v)[k]? = some v := by simp [hk]
  rw [List.take_set_of_le (Nat.le_refl k), nv_drop e3, List.drop_set_of_lt (by omega : k < k + 1)] at e1
  rw [nv_drop h] at e2
  rw [e1, e2, Nat.mul_add, Nat.mul_add]
  omega
theorem own_lims {z : List Nat} {K : Int} {sz : Nat} {p : Prop} {R : D → Prop} (kn v : Nat) (hk : K = Ω .ci kn) (hv : z[kn]? = some v) (hsz : sz ≤ 1) (hp : p) (h : R (.i .u32 (Ω .ci v))) :
    Ω .ile 0 K ∧ Ω .ilt K (Ω .ci z.length) ∧ ∃ x, Ω .sget (Ψ .lims z) (Ω .tn K) = some x ∧ sz ≤ x.cells.length ∧ p ∧ R x := by
  subst hk
  have := (List.getElem?_eq_some_iff.1 hv).1
  refine ⟨ci_nonneg _, (by simp only [wz]; omega), .i .u32 (Ω .ci v), ?_, hsz, hp, h⟩
  rw [tn_ci, sget_lims, hv]; rfl
end Go.K
namespace Go.K
open Go
theorem nv_set_drop {l : List Nat} {k : Nat} (hk : k < l.length) (v : Nat) : nv ((l.set k v).drop k) = v + 4294967296 * nv (l.drop (k + 1)) := by
  have e3 : (l.set k v)[k]? = some v := by simp [hk]
  rw [nv_drop e3, List.drop_set_of_lt (by omega : k < k + 1)]
theorem small_step {Q b r u X : Nat} (h : Q * b + r = X) : ((r * 4294967296 + u) / b + 4294967296 * Q) * b + (r * 4294967296 + u) % b = u + 4294967296 * X := by
  have h1 := Nat.div_add_mod (r * 4294967296 + u) b
  rw [← h, Nat.add_mul, Nat.mul_add, Nat.mul_assoc, Nat.mul_comm _ b]
  omega
theorem divmod_unique {Q b r X : Nat} (h : Q * b + r = X) (hr : r < b) : X / b = Q ∧ X % b = r := by
  subst h
  refine ⟨?_, ?_⟩
  · rw [Nat.mul_comm, Nat.mul_add_div (by omega), Nat.div_eq_of_lt hr, Nat.add_zero]
  · rw [Nat.mul_comm, Nat.mul_add_mod, Nat.mod_eq_of_lt hr]
end Go.K
end
section
namespace Go.K
open Go
def sg (b : Bool) (n : Nat) : Int := if b then -(n : Int) else n
def rv (r : RL) : Rat := mkRat (sg r.neg (nv r.num)) (nv r.den)
structure Rn (k : Nat) (r : RL) : Prop where
  ln : lim r.num
  ld : lim r.den
  kn : r.num.length ≤ k
  kd : r.den.length ≤ k
structure Qn (k : Nat) (q : Rat) : Prop where
  n : q.num.natAbs < 4294967296 ^ k
  d : q.den < 4294967296 ^ k
theorem sg_natAbs (b : Bool) (n : Nat) : (sg b n).natAbs = n := by cases b <;> simp [sg]
theorem sg_zero (b : Bool) : sg b 0 = 0 := by cases b <;> rfl
theorem sg_eq_zero {b : Bool} {n : Nat} : sg b n = 0 ↔ n = 0 := by cases b <;> simp [sg]
theorem sg_not (b : Bool) (n : Nat) : sg (!b) n = - sg b n := by cases b <;> simp [sg]
theorem sg_mul (a b : Bool) (m n : Nat) : sg a m * sg b n = sg (a != b) (m * n) := by
  cases a <;> cases b <;> simp [sg, Int.neg_mul, Int.mul_neg]
theorem sg_add_same (b : Bool) (m n : Nat) : sg b m + sg b n = sg b (m + n) := by
  cases b <;> simp [sg] <;> omega
theorem sg_mul_nat (b : Bool) (m n : Nat) : sg b m * (n : Int) = sg b (m * n) := by
  cases b <;> simp [sg, Int.neg_mul]
theorem sg_add_diff {a b : Bool} {m n : Nat} (h : a ≠ b) (hmn : n ≤ m) : sg a m + sg b n = sg a (m - n) := by
  cases a <;> cases b <;> simp [sg] at h ⊢ <;> omega
theorem sg_div (b : Bool) {m n : Nat} (h : n ∣ m) : sg b m / (n : Int) = sg b (m / n) := by
  cases b
  · simp [sg]
  · simp only [sg, if_true]
    rw [Int.neg_ediv_of_dvd (Int.natCast_dvd_natCast.2 h)]
    simp
theorem rv_mk (b : Bool) (x y : List Nat) : rv ⟨b, x, y⟩ = mkRat (sg b (nv x)) (nv y) := rfl
theorem cr_zero : Ψ .cr 0 = ⟨false, [], [1]⟩ := by
  have h1 : Ψ .cn 0 = [] := cn_zero
  have h2 : Ψ .cn 1 = [1] := by rw [cn_pos (by omega)]; simp [cn_zero]
  simp [p_cr, h1, h2]
theorem cn_one : Ψ .cn 1 = [1] := by rw [cn_pos (by omega)]; simp [cn_zero]
theorem rv_cr (q : Rat) : rv (Ψ .cr q) = q := by
  simp only [rv, p_cr, nv_cn]
  have : sg (decide (q.num < 0)) q.num.natAbs = q.num := by
    unfold sg
    by_cases h : q.num < 0
    · simp [h]; omega
    · simp [h]; omega
  rw [this, Rat.mkRat_self]
theorem Rn_cr {k : Nat} {q : Rat} : Rn k (Ψ .cr q) ↔ Qn k q :=
  ⟨fun h => ⟨len_cn.1 h.kn, len_cn.1 h.kd⟩, fun h => ⟨lim_cn _, lim_cn _, len_cn.2 h.n, len_cn.2 h.d⟩⟩
theorem cr_inj {p q : Rat} (h : Ψ .cr p = Ψ .cr q) : p = q := by rw [← rv_cr p, h, rv_cr]
theorem cr_mk {b : Bool} {m n : Nat} (hm : m ≠ 0) (hn : n ≠ 0) : Ψ .cr (mkRat (sg b m) n) = ⟨b, Ψ .cn (m / m.gcd n), Ψ .cn (n / m.gcd n)⟩ := by
  have hg : n.gcd m = m.gcd n := Nat.gcd_comm _ _
  have h1 : (mkRat (sg b m) n).num = sg b (m / m.gcd n) := by
    rw [Rat.num_mkRat, if_neg hn, sg_natAbs, hg, sg_div _ (Nat.gcd_dvd_left m n)]
  have h2 : (mkRat (sg b m) n).den = n / m.gcd n := by
    rw [Rat.den_mkRat, if_neg hn, sg_natAbs, hg]
  have h3 : 0 < m / m.gcd n := Nat.div_pos (Nat.le_of_dvd (by omega) (Nat.gcd_dvd_left m n)) (Nat.gcd_pos_of_pos_left n (by omega))
  simp only [p_cr, h1, h2, sg_natAbs]
  congr 1
  cases b
  · simp only [sg]
    refine decide_eq_false (fun h => ?_)
    simp only [Bool.false_eq_true, if_false] at h
    omega
  · simp only [sg]
    refine decide_eq_true ?_
    simp only [if_true]
    omega
theorem mk_zero_num (b : Bool) (n : Nat) : mkRat (sg b 0) n = 0 := by rw [sg_zero]; exact Rat.zero_mkRat n
theorem mk_zero_den (x : Int) : mkRat x 0 = 0 := Rat.mkRat_zero x
theorem Qn_mk {x : Int} {n k : Nat} (hx : x.natAbs < 4294967296 ^ k) (hn : n < 4294967296 ^ k) (hk : 0 < k) : Qn k (mkRat x n) := by
  have hB : 1 < 4294967296 ^ k := Nat.one_lt_pow (by omega) (by omega)
  refine ⟨?_, ?_⟩
  · rw [Rat.num_mkRat]
    split
    · simp; omega
    · exact Nat.lt_of_le_of_lt (Int.natAbs_ediv_le_natAbs _ _) hx
  · rw [Rat.den_mkRat]
    split
    · exact hB
    · exact Nat.lt_of_le_of_lt (Nat.div_le_self _ _) hn
theorem pow_pos_B (k : Nat) : 0 < 4294967296 ^ k := Nat.pow_pos (by omega)
theorem B_mono {j k : Nat} (h : j ≤ k) : 4294967296 ^ j ≤ 4294967296 ^ k := Nat.pow_le_pow_right (by omega) h
theorem Qn.mono {j k : Nat} {q : Rat} (h : Qn j q) (hjk : j ≤ k) : Qn k q := ⟨Nat.lt_of_lt_of_le h.n (B_mono hjk), Nat.lt_of_lt_of_le h.d (B_mono hjk)⟩
theorem Rn.mono {j k : Nat} {r : RL} (h : Rn j r) (hjk : j ≤ k) : Rn k r := ⟨h.ln, h.ld, by have := h.kn; omega, by have := h.kd; omega⟩
theorem Qn_zero {k : Nat} (hk : 0 < k) : Qn k 0 := ⟨pow_pos_B k, Nat.one_lt_pow (by omega) (by omega)⟩
theorem Qn_one {k : Nat} (hk : 0 < k) : Qn k 1 := ⟨Nat.one_lt_pow (by omega) (by omega), Nat.one_lt_pow (by omega) (by omega)⟩
theorem Qn_rv {k : Nat} {r : RL} (h : Rn k r) (hk : 0 < k) : Qn k (rv r) := by
  refine Qn_mk ?_ ?_ hk
  · rw [sg_natAbs]; exact Nat.lt_of_lt_of_le (nv_lt h.ln) (B_mono h.kn)
  · exact Nat.lt_of_lt_of_le (nv_lt h.ld) (B_mono h.kd)
theorem lt_mul_pow {a b j k : Nat} (ha : a < 4294967296 ^ j) (hb : b < 4294967296 ^ k) : a * b < 4294967296 ^ (j + k) := by
  rw [Nat.pow_add]
  exact Nat.mul_lt_mul_of_lt_of_le ha (Nat.le_of_lt hb) (pow_pos_B k)
theorem Qn_mul {j k : Nat} {p q : Rat} (hp : Qn j p) (hq : Qn k q) (h : 0 < j + k) : Qn (j + k) (p * q) := by
  have e : p * q = mkRat (p.num * q.num) (p.den * q.den) := Rat.mul_def' p q
  rw [e]
  refine Qn_mk ?_ (lt_mul_pow hp.d hq.d) h
  rw [Int.natAbs_mul]
  exact lt_mul_pow hp.n hq.n
theorem Qn_neg {k : Nat} {q : Rat} (h : Qn k q) : Qn k (-q) := ⟨by simpa [wz] using h.n, by simpa [wz] using h.d⟩
theorem Qn_add {j k : Nat} {p q : Rat} (hp : Qn j p) (hq : Qn k q) : Qn (j + k + 1) (p + q) := by
  have e : p + q = mkRat (p.num * q.den + q.num * p.den) (p.den * q.den) := Rat.add_def' p q
  rw [e]
  have h1 := lt_mul_pow hp.n hq.d
  have h2 := lt_mul_pow hq.n hp.d
  rw [Nat.add_comm k j] at h2
  have h3 : (p.num * q.den + q.num * p.den).natAbs ≤ p.num.natAbs * q.den + q.num.natAbs * p.den := by
    refine Nat.le_trans (Int.natAbs_add_le _ _) ?_
    rw [Int.natAbs_mul, Int.natAbs_mul]
    simp
  refine Qn_mk ?_ ?_ (by omega)
  · rw [Nat.pow_succ]; omega
  · exact Nat.lt_of_lt_of_le (lt_mul_pow hp.d hq.d) (B_mono (by omega))
theorem Qn_sub {j k : Nat} {p q : Rat} (hp : Qn j p) (hq : Qn k q) : Qn (j + k + 1) (p - q) := by
  rw [Rat.sub_eq_add_neg]; exact Qn_add hp (Qn_neg hq)
theorem Qn_inv {k : Nat} {q : Rat} (h : Qn k q) (hk : 0 < k) : Qn k q⁻¹ := by
  by_cases hq : q = 0
  · subst hq; rw [Rat.inv_zero]; exact Qn_zero hk
  · have hn : q.num ≠ 0 := by simpa [wz] using hq
    rw [Rat.inv_def]
    have e : Rat.divInt (q.den : Int) q.num = mkRat (sg (decide (q.num < 0)) q.den) q.num.natAbs := by
      rcases Int.lt_or_gt_of_ne hn with c | c
      · have h1 : q.num = -(q.num.natAbs : Int) := by omega
        have h2 : sg (decide (q.num < 0)) q.den = -(q.den : Int) := by simp [sg, c]
        rw [h2, h1, Rat.divInt_neg']
        simp [Rat.divInt]
      · have h1 : q.num = (q.num.natAbs : Int) := by omega
        have h2 : sg (decide (q.num < 0)) q.den = (q.den : Int) := by
          have : ¬ q.num < 0 := by omega
          simp [sg, this]
        rw [h2, h1]
        simp [Rat.divInt]
    rw [e]
    exact Qn_mk (by rw [sg_natAbs]; exact h.d) h.n hk
theorem Qn_div {j k : Nat} {p q : Rat} (hp : Qn j p) (hq : Qn k q) (hk : 0 < k) : Qn (j + k) (p / q) := by
  rw [Rat.div_def]; exact Qn_mul hp (Qn_inv hq hk) (by omega)
end Go.K
namespace Go.K
open Go
theorem cI_neg {p q : Rat} : Ψ .cI p q < 0 ↔ p < q := by simp only [p_cI]; split <;> (try split) <;> simp_all
theorem cI_pos {p q : Rat} : 0 < Ψ .cI p q ↔ q < p := by
  simp only [p_cI]; split <;> (try split) <;> simp_all
  exact Rat.not_lt.2 (Rat.le_of_lt ‹_›)
theorem cI_nonpos {p q : Rat} : Ψ .cI p q ≤ 0 ↔ p ≤ q := by
  have := @cI_pos p q
  rw [← Rat.not_lt, ← this]; omega
theorem cI_nonneg {p q : Rat} : 0 ≤ Ψ .cI p q ↔ q ≤ p := by
  have := @cI_neg p q
  rw [← Rat.not_lt, ← this]; omega
theorem cI_zero {p q : Rat} : Ψ .cI p q = 0 ↔ p = q := by
  have h1 := @cI_nonpos p q
  have h2 := @cI_nonneg p q
  constructor
  · intro h
    exact Rat.le_antisymm (h1.1 (by omega)) (h2.1 (by omega))
  · rintro rfl
    have h3 := h1.2 Rat.le_refl
    have h4 := h2.2 Rat.le_refl
    omega
theorem sI_neg {q : Rat} : Ψ .sI q < 0 ↔ q < 0 := cI_neg
theorem sI_pos {q : Rat} : 0 < Ψ .sI q ↔ 0 < q := cI_pos
theorem sI_nonpos {q : Rat} : Ψ .sI q ≤ 0 ↔ q ≤ 0 := cI_nonpos
theorem sI_zero {q : Rat} : Ψ .sI q = 0 ↔ q = 0 := cI_zero
theorem cI_sub (p q : Rat) : Ψ .sI (p - q) = Ψ .cI p q := by
  have h1 : p - q < 0 ↔ p < q := by constructor <;> intro h <;> grind
  have h2 : 0 < p - q ↔ q < p := by constructor <;> intro h <;> grind
  simp only [p_sI, p_cI]
  simp only [h1, h2]
theorem mk_lt {x y : Int} {m n : Nat} (hm : m ≠ 0) (hn : n ≠ 0) : mkRat x m < mkRat y n ↔ x * n < y * m := by
  have h1 : (0 : Rat) < (m : Rat) := by exact_mod_cast Nat.pos_of_ne_zero hm
  have h2 : (0 : Rat) < (n : Rat) := by exact_mod_cast Nat.pos_of_ne_zero hn
  rw [Rat.mkRat_eq_div, Rat.mkRat_eq_div, Rat.div_lt_iff h1]
  have e : (y : Rat) / (n : Rat) * (m : Rat) = (y : Rat) * (m : Rat) / (n : Rat) := by grind
  rw [e, Rat.lt_div_iff h2]
  exact_mod_cast Iff.rfl
theorem mk_lt_zero {x : Int} {m : Nat} (hm : m ≠ 0) : mkRat x m < 0 ↔ x < 0 := by
  have := mk_lt (x := x) (y := 0) hm (n := 1) (by omega)
  rw [Rat.zero_mkRat] at this
  rw [this]; simp
theorem zero_lt_mk {x : Int} {m : Nat} (hm : m ≠ 0) : 0 < mkRat x m ↔ 0 < x := by
  have := mk_lt (x := 0) (y := x) (m := 1) (by omega) hm
  rw [Rat.zero_mkRat] at this
  rw [this]; simp
theorem sI_mk {b : Bool} {m n : Nat} (hm : m ≠ 0) (hn : n ≠ 0) : Ψ .sI (mkRat (sg b m) n) = if b then -1 else 1 := by
  simp only [p_sI]
  simp only [mk_lt_zero hn, zero_lt_mk hn]
  cases b <;> simp [sg] <;> omega
theorem cI_mk {b : Bool} {m n m' n' : Nat} (hn : n ≠ 0) (hn' : n' ≠ 0) : Ψ .cI (mkRat (sg b m) n) (mkRat (sg b m') n') = (if b then -1 else 1) * Ψ .cmpI (m * n') (m' * n) := by
  simp only [p_cI, p_cmpI]
  simp only [mk_lt hn hn', mk_lt hn' hn, sg_mul_nat]
  generalize m * n' = x
  generalize m' * n = y
  cases b <;> simp only [sg, if_true, if_false, Bool.false_eq_true]
  · have e1 : ((x : Int) < y) = (x < y) := by simp
    have e2 : ((y : Int) < x) = (y < x) := by simp
    simp only [e1, e2, Int.one_mul]
  · have e1 : (-(x : Int) < -y) = (y < x) := by simp
    have e2 : (-(y : Int) < -x) = (x < y) := by simp
    simp only [e1, e2]
    by_cases h1 : x < y <;> by_cases h2 : y < x <;> simp [h1, h2] <;> omega
end Go.K
namespace Go.K
open Go
theorem cn_top {n : Nat} (hn : n ≠ 0) : ∃ x m, (Ψ .cn n).length = m + 1 ∧ (Ψ .cn n)[m]? = some x ∧ x ≠ 0 ∧ x < 4294967296 ∧ n < 4294967296 ^ m * (x + 1) ∧ 4294967296 ^ m * x ≤ n ∧ n = nv ((Ψ .cn n).take m) + 4294967296 ^ m * x := by
  have hl : (Ψ .cn n).length ≠ 0 := fun h => hn (cn_eq_nil.1 (List.eq_nil_of_length_eq_zero h))
  obtain ⟨m, hm⟩ : ∃ m, (Ψ .cn n).length = m + 1 := ⟨(Ψ .cn n).length - 1, by omega⟩
  obtain ⟨x, hx⟩ : ∃ x, (Ψ .cn n)[m]? = some x := ⟨_, List.getElem?_eq_getElem (by omega)⟩
  have h0 := cano_cn n x (by rw [List.getLast?_eq_getElem?, hm]; exact hx)
  have h1 := nv_take_succ hx
  rw [← hm, List.take_length, nv_cn] at h1
  have h2 := nv_lt (lim_take (lim_cn n) m)
  rw [List.length_take, Nat.min_eq_left (by omega)] at h2
  refine ⟨x, m, hm, hx, h0, lim_get (lim_cn n) hx, ?_, by omega, h1⟩
  rw [Nat.mul_add]; omega
theorem len_cn_eq {m n : Nat} (h : m ≤ n) : (Ψ .cn m).length ≤ (Ψ .cn n).length := by
  rcases Nat.lt_or_ge (Ψ .cn n).length (Ψ .cn m).length with c | c
  · have := cn_len_lt c; omega
  · exact c
end Go.K
end
section
namespace Go.K
open Go
theorem sget_dRs (l : List RL) (k : Nat) : Ω .sget (Ψ .dRs l) k = (l[k]?).map fun r => (D.agg (dR Ψ r) : D) := by simp [w_sget, p_dRs]
theorem idx_dRs {l : List RL} {k : Int} {sz : Nat} {R : D → Prop} (kn : Nat) (r : RL) (hk : k = Ω .ci kn) (hv : l[kn]? = some r) (hsz : 3 = sz) (h : R (.agg (dR Ψ r))) :
    Ω .ile 0 k ∧ ∃ x, Ω .sget (Ψ .dRs l) (Ω .tn k) = some x ∧ x.cells.length = sz ∧ R x := by
  subst hk
  refine ⟨ci_nonneg _, .agg (dR Ψ r), ?_, hsz, h⟩
  rw [tn_ci, sget_dRs, hv]; rfl
def wh (r : RL) : RL := if nv r.den = 0 then ⟨false, [], [1]⟩ else r
theorem wh_zero {r : RL} (h : nv r.den = 0) : wh r = ⟨false, [], [1]⟩ := if_pos h
theorem wh_ne {r : RL} (h : nv r.den ≠ 0) : wh r = r := if_neg h
theorem rv_wh (r : RL) : rv (wh r) = rv r := by
  unfold wh
  split
  · rename_i h
    simp [rv, h, sg]
  · rfl
theorem wh_den (r : RL) : nv (wh r).den ≠ 0 := by
  unfold wh
  split
  · simp
  · assumption
theorem Rn_wh {r : RL} {k : Nat} (h : Rn k r) (hk : 0 < k) : Rn k (wh r) := by
  unfold wh
  split
  · exact ⟨lim_nil, by simp [lim_cons, lim_nil], by simp, by simp; omega⟩
  · exact h
theorem Rn.N1 {r : RL} {k : Nat} (h : Rn k r) (hk : k < 1099511627776) : N r.num := ⟨h.ln, by have := h.kn; omega⟩
theorem Rn.N2 {r : RL} {k : Nat} (h : Rn k r) (hk : k < 1099511627776) : N r.den := ⟨h.ld, by have := h.kd; omega⟩
theorem N_cn {n k : Nat} (h : n < 4294967296 ^ k) (hk : k < 1099511627776) : N (Ψ .cn n) := ⟨lim_cn _, by have := len_cn.2 h; omega⟩
theorem nv_lt_pow {l : List Nat} {k : Nat} (h : lim l) (hk : l.length ≤ k) : nv l < 4294967296 ^ k := Nat.lt_of_lt_of_le (nv_lt h) (B_mono hk)
theorem rv_add {a b : RL} (ha : nv a.den ≠ 0) (hb : nv b.den ≠ 0) :
    rv a + rv b = mkRat (sg a.neg (nv a.num * nv b.den) + sg b.neg (nv b.num * nv a.den)) (nv a.den * nv b.den) := by
  simp only [rv]
  rw [Rat.mkRat_add_mkRat _ _ ha hb, sg_mul_nat, sg_mul_nat]
theorem rv_mul (a b : RL) : rv a * rv b = mkRat (sg (a.neg != b.neg) (nv a.num * nv b.num)) (nv a.den * nv b.den) := by
  simp only [rv]
  rw [Rat.mkRat_mul_mkRat, sg_mul]
theorem rv_neg (r : RL) : rv ⟨!r.neg, r.num, r.den⟩ = - rv r := by
  simp only [rv, sg_not, Rat.neg_mkRat]
theorem rv_inv (r : RL) : rv ⟨r.neg, r.den, r.num⟩ = (rv r)⁻¹ := by
  simp only [rv]
  by_cases h1 : nv r.num = 0
  · rw [h1, mk_zero_den, sg_zero, Rat.zero_mkRat, Rat.inv_zero]
  by_cases h2 : nv r.den = 0
  · rw [h2, mk_zero_den, mk_zero_num, Rat.inv_zero]
  have e1 : mkRat (sg r.neg (nv r.num)) (nv r.den) * mkRat (sg r.neg (nv r.den)) (nv r.num) = 1 := by
    rw [Rat.mkRat_mul_mkRat, sg_mul, show (r.neg != r.neg) = false by simp, Nat.mul_comm (nv r.den)]
    rw [Rat.mkRat_eq_div]
    have : ((nv r.num * nv r.den : Nat) : Rat) ≠ 0 := by exact_mod_cast Nat.mul_ne_zero h1 h2
    simp only [sg, Bool.false_eq_true, if_false]
    have e : (((nv r.num * nv r.den : Nat) : Int) : Rat) = ((nv r.num * nv r.den : Nat) : Rat) := by push_cast; rfl
    rw [e]
    grind
  grind
theorem rv_zero_iff {r : RL} : rv r = 0 ↔ nv r.num = 0 ∨ nv r.den = 0 := by
  simp only [rv]
  by_cases h : nv r.den = 0
  · simp [h]
  · rw [Rat.mkRat_eq_zero h, sg_eq_zero]; simp [h]
theorem cr_num_nil {q : Rat} : (Ψ .cr q).num = [] ↔ q = 0 := by
  simp only [p_cr, cn_eq_nil]
  simp
end Go.K
namespace Go.K
open Go
theorem cr_mul {p q : Rat} (hp : p ≠ 0) (hq : q ≠ 0) : Ψ .cr (p * q) =
    ⟨(Ψ .cr p).neg != (Ψ .cr q).neg, Ψ .cn (p.num.natAbs / p.num.natAbs.gcd q.den * (q.num.natAbs / q.num.natAbs.gcd p.den)), Ψ .cn (q.den / p.num.natAbs.gcd q.den * (p.den / q.num.natAbs.gcd p.den))⟩ := by
  have hn : (p * q).num = p.num.tdiv (p.num.natAbs.gcd q.den) * q.num.tdiv (q.num.natAbs.gcd p.den) := by
    show (Rat.mul p q).num = _
    unfold Rat.mul
    simp only [Int.divExact_eq_tdiv]
  have hd : (p * q).den = p.den / q.num.natAbs.gcd p.den * (q.den / p.num.natAbs.gcd q.den) := by
    show (Rat.mul p q).den = _
    unfold Rat.mul
    simp only [Nat.divExact_eq_div]
  have hab : (p * q).num.natAbs = p.num.natAbs / p.num.natAbs.gcd q.den * (q.num.natAbs / q.num.natAbs.gcd p.den) := by
    rw [hn, Int.natAbs_mul, Int.natAbs_tdiv, Int.natAbs_tdiv]
    rfl
  have hp0 : p.num ≠ 0 := by simpa [wz] using hp
  have hq0 : q.num ≠ 0 := by simpa [wz] using hq
  have hneg : decide ((p * q).num < 0) = (decide (p.num < 0) != decide (q.num < 0)) := by
    have h1 : (p * q).num < 0 ↔ p.num * q.num < 0 := by
      have e1 := @Rat.num_nonneg (p * q)
      have e2 : 0 ≤ p * q ↔ 0 ≤ p.num * q.num := by
        rw [Rat.mul_def' p q]
        have := @mk_lt_zero (p.num * q.num) (p.den * q.den) (Nat.mul_ne_zero p.den_nz q.den_nz)
        rw [← Rat.not_lt, this]
        omega
      have e3 : 0 ≤ (p * q).num ↔ 0 ≤ p.num * q.num := e1.trans e2
      omega
    rcases Int.lt_or_gt_of_ne hp0 with c1 | c1 <;> rcases Int.lt_or_gt_of_ne hq0 with c2 | c2
    · have := Int.mul_pos_of_neg_of_neg c1 c2
      rw [decide_eq_true c1, decide_eq_true c2]
      simp only [bne_self_eq_false]
      exact decide_eq_false (by omega)
    · have := Int.mul_neg_of_neg_of_pos c1 c2
      rw [decide_eq_true c1, decide_eq_false (by omega : ¬ q.num < 0)]
      exact decide_eq_true (by omega)
    · have := Int.mul_neg_of_pos_of_neg c1 c2
      rw [decide_eq_false (by omega : ¬ p.num < 0), decide_eq_true c2]
      exact decide_eq_true (by omega)
    · have := Int.mul_pos c1 c2
      rw [decide_eq_false (by omega : ¬ p.num < 0), decide_eq_false (by omega : ¬ q.num < 0)]
      exact decide_eq_false (by omega)
  simp only [p_cr, hab, hd, hneg]
  rw [Nat.mul_comm (p.den / _)]
def rsum (l : List RL) : Rat := (l.map rv).foldl (· + ·) 0
def rprod (l : List RL) : Rat := (l.map rv).foldl (· * ·) 1
theorem rsum_snoc (l : List RL) (r : RL) : rsum (l ++ [r]) = rsum l + rv r := by simp [rsum]
theorem rprod_snoc (l : List RL) (r : RL) : rprod (l ++ [r]) = rprod l * rv r := by simp [rprod]
theorem take_succ_of {α : Type} {l : List α} {i : Nat} {x : α} (h : l[i]? = some x) : l.take (i + 1) = l.take i ++ [x] := by
  rw [List.take_add_one, h]; rfl
theorem Qn_one' : Qn 1 1 := Qn_one (by omega)
theorem cr_one : Ψ .cr 1 = ⟨false, [1], [1]⟩ := by
  have h2 : Ψ .cn 1 = [1] := cn_one
  simp [p_cr, h2]
end Go.K
namespace Go.K
open Go
theorem sI_vals (q : Rat) : Ψ .sI q = -1 ∧ q < 0 ∨ Ψ .sI q = 0 ∧ q = 0 ∨ Ψ .sI q = 1 ∧ 0 < q := by
  simp only [p_sI]
  by_cases h1 : q < 0
  · rw [if_pos h1]; exact .inl ⟨rfl, h1⟩
  · by_cases h2 : 0 < q
    · rw [if_neg h1, if_pos h2]; exact .inr (.inr ⟨rfl, h2⟩)
    · rw [if_neg h1, if_neg h2]; exact .inr (.inl ⟨rfl, Rat.le_antisymm (Rat.not_lt.1 h2) (Rat.not_lt.1 h1)⟩)
theorem cI_vals (p q : Rat) : Ψ .cI p q = -1 ∧ p < q ∨ Ψ .cI p q = 0 ∧ p = q ∨ Ψ .cI p q = 1 ∧ q < p := by
  simp only [p_cI]
  by_cases h1 : p < q
  · rw [if_pos h1]; exact .inl ⟨rfl, h1⟩
  · by_cases h2 : q < p
    · rw [if_neg h1, if_pos h2]; exact .inr (.inr ⟨rfl, h2⟩)
    · rw [if_neg h1, if_neg h2]; exact .inr (.inl ⟨rfl, Rat.le_antisymm (Rat.not_lt.1 h2) (Rat.not_lt.1 h1)⟩)
theorem cI_sign_ne {p q : Rat} (h : Ψ .sI p ≠ Ψ .sI q) : Ψ .cI p q = if Ψ .sI p < Ψ .sI q then -1 else 1 := by
  have key : Ψ .sI p < Ψ .sI q ↔ p < q := by
    rcases sI_vals p with ⟨e1, h1⟩ | ⟨e1, h1⟩ | ⟨e1, h1⟩ <;> rcases sI_vals q with ⟨e2, h2⟩ | ⟨e2, h2⟩ | ⟨e2, h2⟩ <;> first | exact absurd (e1.trans e2.symm) h | (rw [e1, e2]; constructor <;> intro h3 <;> first | omega | grind)
  simp only [key]
  rcases cI_vals p q with ⟨e, h3⟩ | ⟨e, h3⟩ | ⟨e, h3⟩
  · rw [e, if_pos h3]
  · subst h3; exact absurd rfl h
  · rw [e, if_neg (Rat.not_lt.2 (Rat.le_of_lt h3))]
theorem sI_rv {r : RL} (h1 : nv r.num ≠ 0) (h2 : nv r.den ≠ 0) : Ψ .sI (rv r) = if r.neg then -1 else 1 := sI_mk h1 h2
theorem cI_sign_eq {a b : RL} (h : Ψ .sI (rv a) = Ψ .sI (rv b)) : Ψ .cI (rv a) (rv b) = Ψ .sI (rv a) * Ψ .cmpI (nv a.num * nv b.den) (nv b.num * nv a.den) := by
  by_cases h0 : rv a = 0
  · have h1 : Ψ .sI (rv b) = 0 := by rw [← h]; exact sI_zero.2 h0
    rw [h, h1, h0, sI_zero.1 h1, Int.zero_mul]
    exact cI_zero.2 rfl
  · have hb0 : rv b ≠ 0 := fun c => h0 (sI_zero.1 (by rw [h]; exact sI_zero.2 c))
    have ha := mt (@rv_zero_iff a).2 h0
    have hb := mt (@rv_zero_iff b).2 hb0
    have a1 : nv a.num ≠ 0 := fun c => ha (.inl c)
    have a2 : nv a.den ≠ 0 := fun c => ha (.inr c)
    have b1 : nv b.num ≠ 0 := fun c => hb (.inl c)
    have b2 : nv b.den ≠ 0 := fun c => hb (.inr c)
    have e1 := sI_rv a1 a2
    have e2 := sI_rv b1 b2
    rw [e1, e2] at h
    have hs : a.neg = b.neg := by
      revert h
      cases a.neg <;> cases b.neg <;> simp
    have e3 := cI_mk (b := a.neg) (m := nv a.num) (m' := nv b.num) a2 b2
    rw [e1, ← e3]
    show Ψ .cI (mkRat _ _) (mkRat _ _) = _
    rw [hs]
theorem sI_lt (q : Rat) : -1 ≤ Ψ .sI q ∧ Ψ .sI q ≤ 1 := by
  rcases sI_vals q with ⟨e, _⟩ | ⟨e, _⟩ | ⟨e, _⟩ <;> rw [e] <;> decide
theorem cmpI_lt (m n : Nat) : -1 ≤ Ψ .cmpI m n ∧ Ψ .cmpI m n ≤ 1 := by simp only [p_cmpI]; split <;> (try split) <;> omega
end Go.K
end
section
namespace Go.K
theorem slen_scat (a b : List D) : Ω .slen (Ω .scat a b) = Ω .slen a + Ω .slen b := by simp [w_slen, w_scat]
theorem cells_dRs (l : List RL) : ∀ u, u ∈ Ψ .dRs l → u.cells.length = 3 := fun u h => by
  rw [p_dRs, List.mem_map] at h
  obtain ⟨r, _, rfl⟩ := h
  rfl
theorem scat_dRs (l m : List RL) : Ω .scat (Ψ .dRs l) (Ψ .dRs m) = Ψ .dRs (l ++ m) := by simp [w_scat, p_dRs]
structure Hid (Q : Prop) : Prop where
  out : Q
theorem rn {P Q : Prop} (q : Q) (h : Hid Q → P := by
  intro q; (generalize hΩ : Ω = ω, hΨ : Ψ = ψ; cbv <;> subst hΩ hΨ <;> try simp only [lits, true_and, Int.reduceAdd, Int.reduceSub, Int.reduceMul, not_u32, slen_nil, tn_ci, tn_zero, slen_lims, slen_dRs, slen_dVs, slen_dBs])
  (repeat (
    first
      | refine ⟨_, hC _ _ _ (by assumption), ?_⟩
      | refine ⟨ci_nonneg _, _, (by assumption), rfl, ?_⟩
      | refine ⟨_, (by assumption), rfl, ?_⟩
      | refine ⟨ci_nonneg _, (by simp only [wz]; omega), _, (by assumption), (by first | exact Nat.le_refl _ | (simp; done)), rfl, ?_⟩
      | refine ⟨(by first | exact fun u h => by rw [List.mem_singleton.1 h]; rfl | exact cells_dRs _ | assumption), (by simp only [wz, slen_scat]; omega), ?_⟩
      | refine BrG.yes (by first | assumption | decide) ?_
      | refine BrG.no (by first | assumption | decide) ?_
    (generalize hΩ : Ω = ω, hΨ : Ψ = ψ; cbv <;> subst hΩ hΨ <;> try simp only [lits, true_and, Int.reduceAdd, Int.reduceSub, Int.reduceMul, not_u32, slen_nil, tn_ci, tn_zero, slen_lims, slen_dRs, slen_dVs, slen_dBs])))
  all_goals with_reducible exact q.out) : P := h ⟨q⟩
end Go.K
end
section
namespace Go.K
inductive RepC (imm : Nat → Prop) (w : World) : D → Value → Prop where
  | b (x : Bool) : RepC imm w (.b x) (.bool x)
  | i (k : IntKind) (n : Int) : RepC imm w (.i k n) (.int k n)
  | s (x : ByteArray) : RepC imm w (.s x) (.string x)
  | np : RepC imm w .np (.pointer none)
  | nif : RepC imm w .nif .nilIface
  | ifc (t : TypeId) (x : D) (v : Value) : RepC imm w x v → RepC imm w (.ifc t x) (.iface t v)
  | sl0 (base : Option Addr) (cap : Nat) : RepC imm w (.sl []) (.slice base 0 cap)
  | sl (xs : List D) (g off cap sz : Nat) (cs : Array Value) (T : TypeId) (fr : Nat × Nat) : xs ≠ [] → imm g → w.heap[g]? = some (.cells cs T fr) → xs.length ≤ cap →
      (∀ x, x ∈ xs → x.cells.length = sz) → (∀ i j, i < xs.length → j < sz → off + (i * sz + j) < cs.size) →
      (∀ i j, i < xs.length → j < sz → RepC imm w ((xs.getD i .np).cells.getD j .np) (cs.getD (off + (i * sz + j)) undef)) →
      RepC imm w (.sl xs) (.slice (some ⟨g, off, none⟩) xs.length cap)
def RepD (imm : Nat → Prop) (w : World) (x : D) (v : Value) : Prop :=
  match x with
  | .agg cs => ∃ vs : Array Value, v = .agg vs ∧ vs.size = cs.length ∧ ∀ j, j < cs.length → RepC imm w (cs.getD j .np) (vs.getD j undef)
  | x => RepC imm w x v
def RepCap (ι : Nat → Option Value) (c : Option Nat) (v : Value) : Prop :=
  match c with
  | some id => ∃ g, ι id = some (.pointer (some ⟨g, 0, none⟩)) ∧ v = .pointer (some ⟨g, 0, none⟩)
  | none => v = .pointer none
def RepCaps (ι : Nat → Option Value) (l : List (Option Nat)) (vs : Array Value) : Prop :=
  vs.size = l.length ∧ ∀ j, j < l.length → RepCap ι (l.getD j none) (vs.getD j undef)
theorem RepCaps.mono {ι ι' : Nat → Option Value} (hi : ∀ id v, ι id = some v → ι' id = some v) {l : List (Option Nat)} {vs : Array Value} (h : RepCaps ι l vs) : RepCaps ι' l vs :=
  ⟨h.1, fun j hj => by
    have := h.2 j hj
    unfold RepCap at this ⊢
    split
    · rename_i id e; rw [e] at this; obtain ⟨g, h1, h2⟩ := this; exact ⟨g, hi _ _ h1, h2⟩
    · rename_i e; rw [e] at this; exact this⟩
def RepV1 (ι : Nat → Option Value) (imm : Nat → Prop) (w : World) (x : V) (v : Value) : Prop :=
  match x with
  | .d x => RepC imm w x v
  | .ptr id off => ∃ g, ι id = some (.pointer (some ⟨g, 0, none⟩)) ∧ v = .pointer (some ⟨g, off, none⟩)
  | .ept id sz i off => ∃ g n cap, ι id = some (.slice (some ⟨g, 0, none⟩) n cap) ∧ v = .pointer (some ⟨g, i * sz + off, none⟩)
  | .ip x off => ∃ g o cs T fr, imm g ∧ w.heap[g]? = some (.cells cs T fr) ∧ v = .pointer (some ⟨g, o + off, none⟩) ∧
      ∀ j, j < x.cells.length → o + j < cs.size ∧ RepC imm w (x.cells.getD j .np) (cs.getD (o + j) undef)
  | .own id _ => ι id = some v ∧ (v = .slice none 0 0 ∨ ∃ g n cap, v = .slice (some ⟨g, 0, none⟩) n cap)
  | .ref id sz off len => (∃ g n cap c, ι id = some (.slice (some ⟨g, 0, none⟩) n cap) ∧ v = .slice (some ⟨g, off * sz, none⟩) len c ∧ len ≤ c ∧ off + c ≤ cap) ∨
      ((∃ u, ι id = some u) ∧ len = 0 ∧ ∃ base, v = .slice base 0 0)
  | .nil => v = .slice none 0 0
  | .fn f => v = .func (.func f) #[] #[]
  | .clo f a b => ∃ fs vs, v = .func (.func f) fs vs ∧ RepCaps ι a fs ∧ RepCaps ι b vs
  | .junk => True
  | .agg _ => False
  | .tup _ => False
def RepV0 (ι : Nat → Option Value) (imm : Nat → Prop) (w : World) (x : V) (v : Value) : Prop :=
  match x with
  | .agg cs => ∃ vs : Array Value, v = .agg vs ∧ vs.size = cs.length ∧ ∀ j, j < cs.length → RepV1 ι imm w (cs.getD j .junk) (vs.getD j undef) ∧ (vs.getD j undef).oneCell' = true
  | .d x => RepD imm w x v
  | x => RepV1 ι imm w x v
def RepV (ι : Nat → Option Value) (imm : Nat → Prop) (w : World) (x : V) (v : Value) : Prop :=
  match x with
  | .tup cs => ∃ vs : Array Value, v = .tuple vs ∧ vs.size = cs.length ∧ ∀ j, j < cs.length → RepV0 ι imm w (cs.getD j .junk) (vs.getD j undef)
  | x => RepV0 ι imm w x v
def headed (v : Value) : Prop := v = .slice none 0 0 ∨ ∃ g n cap, v = .slice (some ⟨g, 0, none⟩) n cap
def rowOwn (w : World) (base : Nat) (e : TypeId) (size : Nat) (v : Value) (n : Nat) (xs : List Value) : Prop :=
  xs.length = n * size ∧
  ((v = .slice none 0 0 ∧ n = 0) ∨
   ∃ g cap cur, v = .slice (some ⟨g, 0, none⟩) n cap ∧ base ≤ g ∧ w.heap[g]? = some (.cells cur e (0, 0)) ∧ n ≤ cap ∧ cap ≤ maxLen ∧ cap * size ≤ cur.size ∧ cur.toList.take (n * size) = xs)
theorem rowOwn_nil (w : World) (base : Nat) (e : TypeId) (size : Nat) : rowOwn w base e size (.slice none 0 0) 0 [] := ⟨by simp, .inl ⟨rfl, rfl⟩⟩
def BlkRep (ι : Nat → Option Value) (imm : Nat → Prop) (w : World) (B : Blk) (v : Value) : Prop :=
  match B with
  | .row true e sz xs => ∃ cells, rowOwn w 0 e sz v xs.length cells ∧ (∀ x, x ∈ xs → x.cells.length = sz) ∧
      ∀ i j, i < xs.length → j < sz → RepC imm w ((xs.getD i .np).cells.getD j .np) (cells.getD (i * sz + j) undef)
  | .row false _ sz xs => RepC imm w (.sl xs) v ∧ (∀ x, x ∈ xs → x.cells.length = sz) ∧ headed v
  | .var cs => ∃ g vs T, v = .pointer (some ⟨g, 0, none⟩) ∧ w.heap[g]? = some (.cells vs T (0, 0)) ∧ vs.size = cs.length ∧
      ∀ j, j < cs.length → RepV1 ι imm w (cs.getD j .junk) (vs.getD j undef) ∧ (vs.getD j undef).oneCell' = true
  | .dead => True
def live : Blk → Bool
  | .row l _ _ _ => l
  | .var _ => true
  | .dead => false
def blockOf : Value → Option Nat
  | .pointer (some a) => some a.block
  | .slice (some a) _ _ => some a.block
  | _ => none
def Owned (ι : Nat → Option Value) (h : Heap) (g : Nat) : Prop := ∃ id B v, h id = some B ∧ live B = true ∧ ι id = some v ∧ blockOf v = some g
structure Inv (ι : Nat → Option Value) (imm : Nat → Prop) (h : Heap) (w : World) : Prop where
  blk : ∀ id B, h id = some B → ∃ v, ι id = some v ∧ BlkRep ι imm w B v
  non : ∀ id, h id = none → ι id = none
  own : ∀ g, Owned ι h g → ¬ imm g
  inj : ∀ id1 id2 B1 B2 v1 v2 g, h id1 = some B1 → h id2 = some B2 → live B1 = true → live B2 = true → ι id1 = some v1 → ι id2 = some v2 →
    blockOf v1 = some g → blockOf v2 = some g → id1 = id2
  lt : ∀ g, imm g → g < w.heap.size
structure Evo (ι : Nat → Option Value) (imm : Nat → Prop) (h : Heap) (w : World) (ι' : Nat → Option Value) (imm' : Nat → Prop) (h' : Heap) (w' : World) : Prop where
  ids : ∀ id v, ι id = some v → ι' id = some v
  immS : ∀ g, imm g → imm' g
  immR : ∀ g, imm' g → imm g ∨ w.heap.size ≤ g ∨ Owned ι h g
  own' : ∀ g, Owned ι' h' g → Owned ι h g ∨ w.heap.size ≤ g
  keep : ∀ g, g < w.heap.size → ¬ Owned ι h g → w'.heap[g]? = w.heap[g]?
  size : w.heap.size ≤ w'.heap.size
  os : w'.os = w.os
  tape : w'.tape = w.tape
  output : w'.output = w.output
theorem Evo.refl (ι : Nat → Option Value) (imm : Nat → Prop) (h : Heap) (w : World) : Evo ι imm h w ι imm h w :=
  ⟨fun _ _ e => e, fun _ e => e, fun _ e => .inl e, fun _ e => .inl e, fun _ _ _ => rfl, Nat.le_refl _, rfl, rfl, rfl⟩
theorem Evo.trans {ι1 ι2 ι3 : Nat → Option Value} {m1 m2 m3 : Nat → Prop} {h1 h2 h3 : Heap} {w1 w2 w3 : World}
    (a : Evo ι1 m1 h1 w1 ι2 m2 h2 w2) (b : Evo ι2 m2 h2 w2 ι3 m3 h3 w3) : Evo ι1 m1 h1 w1 ι3 m3 h3 w3 where
  ids := fun id v e => b.ids id v (a.ids id v e)
  immS := fun g e => b.immS g (a.immS g e)
  immR := fun g e => by
    rcases b.immR g e with e | e | e
    · exact a.immR g e
    · exact .inr (.inl (Nat.le_trans a.size e))
    · rcases a.own' g e with e | e
      · exact .inr (.inr e)
      · exact .inr (.inl e)
  own' := fun g e => by
    rcases b.own' g e with e | e
    · exact a.own' g e
    · exact .inr (Nat.le_trans a.size e)
  keep := fun g hg hn => by
    rw [b.keep g (Nat.lt_of_lt_of_le hg a.size) (fun o => by
      rcases a.own' g o with o | o
      · exact hn o
      · omega)]
    exact a.keep g hg hn
  size := Nat.le_trans a.size b.size
  os := b.os.trans a.os
  tape := b.tape.trans a.tape
  output := b.output.trans a.output
theorem RepC.mono {imm imm' : Nat → Prop} {w w' : World} (hm : ∀ g, imm g → imm' g ∧ w'.heap[g]? = w.heap[g]?) {x : D} {v : Value} (h : RepC imm w x v) : RepC imm' w' x v := by
  induction h with
  | b x => exact .b x
  | i k n => exact .i k n
  | s x => exact .s x
  | np => exact .np
  | nif => exact .nif
  | ifc t x v _ ih => exact .ifc t x v ih
  | sl0 base cap => exact .sl0 base cap
  | sl xs g off cap sz cs T fr hne hi hg hc hs hb _ ih => exact .sl xs g off cap sz cs T fr hne (hm g hi).1 ((hm g hi).2.trans hg) hc hs hb ih
theorem RepD.mono {imm imm' : Nat → Prop} {w w' : World} (hm : ∀ g, imm g → imm' g ∧ w'.heap[g]? = w.heap[g]?) {x : D} {v : Value} (h : RepD imm w x v) : RepD imm' w' x v := by
  cases x <;> first
    | exact RepC.mono hm h
    | (obtain ⟨vs, hv, hs, hc⟩ := h; exact ⟨vs, hv, hs, fun j hj => (hc j hj).mono hm⟩)
theorem RepV1.mono {ι ι' : Nat → Option Value} {imm imm' : Nat → Prop} {w w' : World} (hi : ∀ id v, ι id = some v → ι' id = some v) (hm : ∀ g, imm g → imm' g ∧ w'.heap[g]? = w.heap[g]?)
    {x : V} {v : Value} (h : RepV1 ι imm w x v) : RepV1 ι' imm' w' x v := by
  cases x with
  | d x => exact RepC.mono hm h
  | agg cs => exact h
  | tup cs => exact h
  | ptr id off => obtain ⟨g, h1, h2⟩ := h; exact ⟨g, hi _ _ h1, h2⟩
  | ept id sz i off => obtain ⟨g, n, cap, h1, h2⟩ := h; exact ⟨g, n, cap, hi _ _ h1, h2⟩
  | ip x off => obtain ⟨g, o, cs, T, fr, h1, h2, h3, h4⟩ := h; exact ⟨g, o, cs, T, fr, (hm g h1).1, (hm g h1).2.trans h2, h3, fun j hj => ⟨(h4 j hj).1, (h4 j hj).2.mono hm⟩⟩
  | own id sz => exact ⟨hi _ _ h.1, h.2⟩
  | ref id sz off len =>
    rcases h with ⟨g, n, cap, c, h1, h2, h3, h4⟩ | ⟨h1, h2, h3⟩
    · exact .inl ⟨g, n, cap, c, hi _ _ h1, h2, h3, h4⟩
    · obtain ⟨u, h1⟩ := h1; exact .inr ⟨⟨u, hi _ _ h1⟩, h2, h3⟩
  | nil => exact h
  | fn f => exact h
  | clo f a b => obtain ⟨fs, vs, h1, h2, h3⟩ := h; exact ⟨fs, vs, h1, h2.mono hi, h3.mono hi⟩
  | junk => trivial
theorem RepV0.mono {ι ι' : Nat → Option Value} {imm imm' : Nat → Prop} {w w' : World} (hi : ∀ id v, ι id = some v → ι' id = some v) (hm : ∀ g, imm g → imm' g ∧ w'.heap[g]? = w.heap[g]?)
    {x : V} {v : Value} (h : RepV0 ι imm w x v) : RepV0 ι' imm' w' x v := by
  cases x with
  | d x => exact RepD.mono hm h
  | agg cs => obtain ⟨vs, hv, hs, hc⟩ := h; exact ⟨vs, hv, hs, fun j hj => ⟨(hc j hj).1.mono hi hm, (hc j hj).2⟩⟩
  | tup cs => exact h
  | ptr a b => exact RepV1.mono (x := .ptr a b) hi hm h
  | ept a b c d => exact RepV1.mono (x := .ept a b c d) hi hm h
  | ip a b => exact RepV1.mono (x := .ip a b) hi hm h
  | own a b => exact RepV1.mono (x := .own a b) hi hm h
  | ref a b c d => exact RepV1.mono (x := .ref a b c d) hi hm h
  | nil => exact h
  | fn f => exact h
  | clo f a b => exact RepV1.mono (x := .clo f a b) hi hm h
  | junk => trivial
theorem RepV.mono {ι ι' : Nat → Option Value} {imm imm' : Nat → Prop} {w w' : World} (hi : ∀ id v, ι id = some v → ι' id = some v) (hm : ∀ g, imm g → imm' g ∧ w'.heap[g]? = w.heap[g]?)
    {x : V} {v : Value} (h : RepV ι imm w x v) : RepV ι' imm' w' x v := by
  cases x with
  | tup cs => obtain ⟨vs, hv, hs, hc⟩ := h; exact ⟨vs, hv, hs, fun j hj => (hc j hj).mono hi hm⟩
  | d x => exact RepV0.mono (x := .d x) hi hm h
  | agg cs => exact RepV0.mono (x := .agg cs) hi hm h
  | ptr a b => exact RepV0.mono (x := .ptr a b) hi hm h
  | ept a b c d => exact RepV0.mono (x := .ept a b c d) hi hm h
  | ip a b => exact RepV0.mono (x := .ip a b) hi hm h
  | own a b => exact RepV0.mono (x := .own a b) hi hm h
  | ref a b c d => exact RepV0.mono (x := .ref a b c d) hi hm h
  | nil => exact h
  | fn f => exact h
  | clo f a b => exact RepV0.mono (x := .clo f a b) hi hm h
  | junk => trivial
theorem Evo.immKeep {ι ι' : Nat → Option Value} {imm imm' : Nat → Prop} {h h' : Heap} {w w' : World} (I : Inv ι imm h w) (e : Evo ι imm h w ι' imm' h' w') :
    ∀ g, imm g → imm' g ∧ w'.heap[g]? = w.heap[g]? := fun g hg =>
  ⟨e.immS g hg, e.keep g (I.lt g hg) fun o => I.own g o hg⟩
theorem RepV.evo {ι ι' : Nat → Option Value} {imm imm' : Nat → Prop} {h h' : Heap} {w w' : World} (I : Inv ι imm h w) (e : Evo ι imm h w ι' imm' h' w')
    {x : V} {v : Value} (r : RepV ι imm w x v) : RepV ι' imm' w' x v := r.mono e.ids (e.immKeep I)
theorem RepC.one {imm : Nat → Prop} {w : World} {x : D} {v : Value} (h : RepC imm w x v) : v.oneCell' = true := by cases h <;> rfl
theorem cells_rep {ι : Nat → Option Value} {imm : Nat → Prop} {w : World} {x : V} {v : Value} {l : List V} (h : RepV ι imm w x v) (hl : x.cellsO = some l) :
    v.cells.size = l.length ∧ ∀ j, j < l.length → RepV1 ι imm w (l.getD j .junk) (v.cells.getD j undef) ∧ (v.cells.getD j undef).oneCell' = true := by
  have one : ∀ (y : V), RepV1 ι imm w y v → v.oneCell' = true → y.cells = [y] → v.cells.size = y.cells.length ∧ ∀ j, j < y.cells.length → RepV1 ι imm w (y.cells.getD j .junk) (v.cells.getD j undef) ∧ (v.cells.getD j undef).oneCell' = true := by
    intro y hy h1 hc
    have hv : v.cells = #[v] := by cases v <;> first | rfl | simp [Value.oneCell'] at h1
    rw [hc, hv]
    refine ⟨rfl, fun j hj => ?_⟩
    have : j = 0 := by simp at hj; omega
    subst this
    exact ⟨hy, h1⟩
  cases x with
  | junk => cases hl
  | tup cs => cases hl
  | agg cs =>
    cases hl
    obtain ⟨vs, rfl, hs, hc⟩ := h
    exact ⟨hs, hc⟩
  | d x =>
    cases hl
    cases x with
    | agg cs =>
      obtain ⟨vs, rfl, hs, hc⟩ := h
      refine ⟨by simpa [V.cells, D.cells, Value.cells] using hs, fun j hj => ?_⟩
      have hj' : j < cs.length := by simpa [V.cells, D.cells] using hj
      have := hc j hj'
      refine ⟨?_, this.one⟩
      have e : (V.cells (.d (.agg cs))).getD j .junk = .d (cs.getD j .np) := by simp [V.cells, D.cells, List.getD, hj']
      rw [e]; exact this
    | b x => exact one (.d (.b x)) h (RepC.one h) rfl
    | i k n => exact one (.d (.i k n)) h (RepC.one h) rfl
    | s x => exact one (.d (.s x)) h (RepC.one h) rfl
    | np => exact one (.d .np) h (RepC.one h) rfl
    | nif => exact one (.d .nif) h (RepC.one h) rfl
    | ifc t x => exact one (.d (.ifc t x)) h (RepC.one h) rfl
    | sl xs => exact one (.d (.sl xs)) h (RepC.one h) rfl
  | ptr id off => cases hl; obtain ⟨g, h1, rfl⟩ := h; exact one (.ptr id off) ⟨g, h1, rfl⟩ rfl rfl
  | ept id sz i off => cases hl; obtain ⟨g, n, cap, h1, rfl⟩ := h; exact one (.ept id sz i off) ⟨g, n, cap, h1, rfl⟩ rfl rfl
  | ip x off => cases hl; have h' := h; obtain ⟨g, o, cs, T, fr, h1, h2, rfl, h4⟩ := h; exact one (.ip x off) h' rfl rfl
  | own id sz =>
    cases hl
    have h' := h
    obtain ⟨h1, rfl | ⟨g, n, cap, rfl⟩⟩ := h
    · exact one (.own id sz) h' rfl rfl
    · exact one (.own id sz) h' rfl rfl
  | ref id sz off len =>
    cases hl
    have h' := h
    rcases h with ⟨g, n, cap, c, h1, rfl, h3⟩ | ⟨h1, h2, base, rfl⟩
    · exact one (.ref id sz off len) h' rfl rfl
    · exact one (.ref id sz off len) h' rfl rfl
  | nil => cases hl; obtain rfl : v = _ := h; exact one .nil rfl rfl rfl
  | fn f => cases hl; obtain rfl : v = _ := h; exact one (.fn f) rfl rfl rfl
  | clo f a b => cases hl; have h' := h; obtain ⟨fs, vs, rfl, h2, h3⟩ := h; exact one (.clo f a b) h' rfl rfl
theorem shape_rep {ι : Nat → Option Value} {imm : Nat → Prop} {w : World} {l : List V} {vs : Array Value} (hs : vs.size = l.length)
    (h : ∀ j, j < l.length → RepV1 ι imm w (l.getD j .junk) (vs.getD j undef) ∧ (vs.getD j undef).oneCell' = true) : RepV ι imm w (.agg l) (.agg vs) :=
  ⟨vs, rfl, hs, h⟩
theorem V0_of_V1 {ι : Nat → Option Value} {imm : Nat → Prop} {w : World} {x : V} {v : Value} (h : RepV1 ι imm w x v) : RepV ι imm w x v := by
  cases x with
  | agg cs => exact h.elim
  | tup cs => exact h.elim
  | d x => cases x with
    | agg cs => cases h
    | b x => exact h
    | i k n => exact h
    | s x => exact h
    | np => exact h
    | nif => exact h
    | ifc t x => exact h
    | sl xs => exact h
  | ptr a b => exact h
  | ept a b c d => exact h
  | ip a b => exact h
  | own a b => exact h
  | ref a b c d => exact h
  | nil => exact h
  | fn f => exact h
  | clo f a b => exact h
  | junk => exact h
theorem const1_rep (ι : Nat → Option Value) (imm : Nat → Prop) (w : World) (z : Value) : RepV1 ι imm w (const1 z) z := by
  cases z with
  | bool x => exact .b x
  | int k n => exact .i k n
  | string s => exact .s s
  | pointer a => cases a with
    | none => exact .np
    | some a => trivial
  | slice a n c => cases a with
    | some a => trivial
    | none => cases n with
      | succ n => trivial
      | zero => cases c with
        | succ n => trivial
        | zero => exact rfl
  | nilIface => exact .nif
  | _ => trivial
theorem constV_rep (ι : Nat → Option Value) (imm : Nat → Prop) (w : World) (z : Value) : RepV ι imm w (constV z) z := by
  by_cases hz : ∃ cs, z = .agg cs
  · obtain ⟨cs, rfl⟩ := hz
    by_cases h : cs.toList.all Value.oneCell' = true
    · rw [show constV (.agg cs) = .agg (cs.toList.map const1) from if_pos h]
      refine ⟨cs, rfl, by simp, fun j hj => ?_⟩
      have hj' : j < cs.size := by simpa using hj
      have e : (cs.toList.map const1).getD j .junk = const1 (cs.getD j undef) := by simp [List.getD, hj', Array.getD]
      rw [e]
      refine ⟨const1_rep _ _ _ _, ?_⟩
      rw [List.all_eq_true] at h
      have : cs.getD j undef = cs[j] := by simp [Array.getD, hj']
      rw [this]
      exact h _ (by simp)
    · rw [show constV (.agg cs) = .junk from if_neg h]
      trivial
  · have e : constV z = const1 z := by cases z <;> first | rfl | exact absurd ⟨_, rfl⟩ hz
    rw [e]
    exact V0_of_V1 (const1_rep ι imm w z)
structure TOk (P : Program) (T : TypeId) (i : TInfo) : Prop where
  ok : ∃ info, P.info? T = some info ∧ info.size = i.size ∧ info.bytes = i.bytes ∧ info.zero = i.zero
  und : P.underlying T = some i.und
  zero : ∀ z, i.zero = some z → z.cells.size = i.size ∧ z.cells.toList.all Value.oneCell' = true
def TTok (P : Program) (tt : TypeId → Option TInfo) : Prop := ∀ T i, tt T = some i → TOk P T i
end Go.K
end
