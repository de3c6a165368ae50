/- An abstract evaluator of translated code: what is read is known by its contents alone. Definitions, and what they say of the machine's values. No conditions. -/
import Derived.Below
import Derived.Deep.Draws
import Derived.OwnWalk
import Derived.Laws.MakeOwn
import Derived.Laws.OwnMore
import Derived.Laws.AppendOwn
import Derived.Deep.AppendLies
import Derived.Laws.CopyOwn
import Derived.Laws.Externs
import Derived.WalkKit
import Derived.KernelRfl
import Derived.Orders
import Derived.OneCell
namespace Go.Proofs.YtcacmhcekoeblaaDoorA
open Go.RowKit
set_option linter.unusedVariables false
/-- A cell of a record that is only read. -/
inductive Cell where
  | int (k : IntKind) (n : Int)
  | bool (b : Bool)
  | row (k : IntKind) (l : List Int)
/-- A column of records that are only read. -/
inductive Col where
  | int (k : IntKind) (l : List Int)
  | bool (l : List Bool)
  | row (k : IntKind) (l : List (List Int))
/-- Part of a block that is told by its contents: a number, a truth, an array of n numbers, a row that is only read (nw: its memory is the call's own). -/
inductive Seg where
  | int (k : IntKind) (n : Int)
  | bool (b : Bool)
  | arr (k : IntKind) (n : Nat) (l : List Int)
  | row (nw : Bool) (k : IntKind) (l : List Int)
/-- What a slot is known to hold. 'recs': n records that are only read, by their columns; 'prec': the address of such cells. 'ro': a row of numbers that is only read; 'own': row number i of the call's own; 'ptr': a cell of box i; 'pro': the address of a cell that holds this number; 'pown': the address of element j of row i. 'win': row i from b to e. 'nilp', 'nilf': the nil pointer, the nil function. 'sg': a struct or array by value, by its parts; 'rp': the address of cell o of block i; 'pel': that of element j of the array of n that stands there; 'pseg': the address of parts that are only read. -/
inductive AV where
  | unk
  | und
  | int (k : IntKind) (n : Int)
  | bool (b : Bool)
  | prop (p : Prop) (d : Decidable p)
  | ro (k : IntKind) (l : List Int)
  | nil
  | own (i : Nat)
  | ptr (i : Nat) (off : Nat)
  | pro (k : IntKind) (n : Int)
  | pown (i : Nat) (j : Int)
  | win (i : Nat) (b e : Int)
  | fn (f : Nat)
  | agg (cs : List AV)
  | tup (cs : List AV)
  | recs (n : Int) (cols : List Col)
  | prec (cs : List Cell)
  | nilp
  | nilf
  | sg (ss : List Seg)
  | rp (i : Nat) (o : Nat)
  | pel (i o n : Nat) (j : Int)
  | pseg (ss : List Seg)
/-- Memory of the call's own: a row of numbers (e: the element's type), one that is written no more, a box; bor: a row of the caller's that may be written; room: a row with at least so much room. -/
inductive Blk where
  | ints (e : Nat) (k : IntKind) (l : List Int)
  | froz (k : IntKind) (l : List Int)
  | cells (t : Nat) (cs : List AV)
  | bor (k : IntKind) (l : List Int)
  | rws (e : Nat) (k : IntKind) (ls : List (List Int))
  | fns (e : Nat) (fs : List (Option Nat))
  | room (e : Nat) (k : IntKind) (l : List Int) (c : Int)
  | frws (k : IntKind) (ls : List (List Int))
  | part (t : Nat) (ss : List Seg)
  | bpart (ss : List Seg)
  | fpart (ss : List Seg)
  | dead
structure ASt where
  tm : List (Nat × AV)
  hp : List Blk
def look : List (Nat × AV) → Nat → AV
  | [], _ => .unk
  | (s, v) :: r, t => match Nat.beq s t with
    | true => v
    | false => look r t
def ASt.get (S : ASt) (t : Nat) : AV := look S.tm t
def ASt.put (S : ASt) (d : Option Nat) (v : AV) : ASt := match d with
  | some t => { S with tm := (t, v) :: S.tm }
  | none => S
/-- Data that go from caller to callee and back. -/
inductive D where
  | int (k : IntKind) (n : Int)
  | bool (b : Bool)
  | ro (k : IntKind) (l : List Int)
  | own (e : Nat) (k : IntKind) (l : List Int)
  | fn (f : Nat)
  | agg (cs : List D)
  | recs (n : Int) (cols : List Col)
  | fns (e : Nat) (fs : List (Option Nat))
  | sg (ss : List Seg)
  | pseg (ss : List Seg)
  | box (t : Nat) (ss : List Seg)
  | nilp
/-- A type, as far as the evaluator asks. fs: a struct's fields (offset, size, whether it is an aggregate). -/
inductive TD where
  | int (k : IntKind)
  | bool
  | slice (e : Nat)
  | struct (fs : List (Nat × Nat × Bool))
  | array (n e : Nat)
  | ptr (e : Nat)
  | other
structure TI where
  d : TD
  size : Nat
  bytes : Nat
  zero : List AV
  eq : Bool
def TI.isAgg (t : TI) : Bool := match t.d with
  | .struct _ => true
  | .array _ _ => true
  | _ => false
def find {α : Type} : List (Nat × α) → Nat → Option α
  | [], _ => none
  | (s, v) :: r, t => match Nat.beq s t with
    | true => some v
    | false => find r t
def nth {α : Type} : List α → Nat → Option α
  | [], _ => none
  | x :: _, 0 => some x
  | _ :: r, n + 1 => nth r n
/-- How a type's cells are taken as parts: a cell, or an array of so many numbers. -/
abbrev Lay := List (Option (IntKind × Nat))
/-- The evaluator's surroundings: types, callees; lay: which types are told by parts; pw: callees that write through their first argument, a pointer to so many cells (callp; true: their second argument is the same pointer); pq: callees that answer a pointer into what their first argument points to. -/
structure Cfg (α : Type) where
  T : List (Nat × TI)
  call : Nat → List D → (List D → Option α) → Option α
  win : Bool := false
  room : Bool := false
  cutf : Bool := false
  wr : List Nat := []
  callw : Nat → List Int → List D → (List Int → List D → Option α) → Option α := fun _ _ _ _ => none
  lay : List (Nat × Lay) := []
  pw : List (Nat × Nat) := []
  callp : Nat → Bool → List Seg → List D → (List Seg → List D → Option α) → Option α := fun _ _ _ _ _ => none
  pq : List (Nat × List Nat) := []
  callq : Nat → List D → (Int → Option α) → Option α := fun _ _ _ => none
def rd (xs : List Int) (i : Int) : Int := xs.getD i.toNat 0
/-- The length: told so that the kernel stops at it. -/
def ln : List Int → Int
  | [] => 0
  | _ :: r => ln r + 1
theorem ln_eq : ∀ l : List Int, ln l = (l.length : Int)
  | [] => rfl
  | _ :: r => by rw [ln, ln_eq r]; simp
def lnr : List (List Int) → Int
  | [] => 0
  | _ :: r => lnr r + 1
theorem lnr_eq : ∀ l : List (List Int), lnr l = (l.length : Int)
  | [] => rfl
  | _ :: r => by rw [lnr, lnr_eq r]; simp
/-- Rows that are read, as values. -/
def ros (k : IntKind) (ls : List (List Int)) : List AV := ls.map (AV.ro k)
def rdb (xs : List Bool) (i : Int) : Bool := xs.getD i.toNat false
def rdr (xs : List (List Int)) (i : Int) : List Int := xs.getD i.toNat []
def Cell.av : Cell → AV
  | .int k n => .int k n
  | .bool b => .bool b
  | .row k l => .ro k l
def cavs : List Cell → List AV
  | [] => []
  | c :: r => c.av :: cavs r
def Col.at (j : Int) : Col → Cell
  | .int k l => .int k (rd l j)
  | .bool l => .bool (rdb l j)
  | .row k l => .row k (rdr l j)
def colsAt (j : Int) : List Col → List Cell
  | [] => []
  | c :: r => c.at j :: colsAt j r
def kEq (a b : IntKind) : Bool := match a, b with
  | .i8, .i8 => true | .i16, .i16 => true | .i32, .i32 => true | .i64, .i64 => true
  | .u8, .u8 => true | .u16, .u16 => true | .u32, .u32 => true | .u64, .u64 => true
  | _, _ => false
theorem kEq_eq {a b : IntKind} (h : kEq a b = true) : a = b := by
  cases a <;> cases b <;> first | rfl | (simp [kEq] at h)
def segSize : Seg → Nat
  | .arr _ n _ => n
  | _ => 1
def segsSize : List Seg → Nat
  | [] => 0
  | s :: r => segSize s + segsSize r
/-- Rows as a callee gets them: not its own. -/
def dull : List Seg → List Seg
  | [] => []
  | .row _ k l :: r => .row false k l :: dull r
  | .int k n :: r => .int k n :: dull r
  | .bool b :: r => .bool b :: dull r
  | .arr k n l :: r => .arr k n l :: dull r
def anyRow : List Seg → Bool
  | [] => false
  | .row _ _ _ :: _ => true
  | _ :: r => anyRow r
/-- The parts from cell o on. -/
def segDrop : List Seg → Nat → Option (List Seg)
  | ss, 0 => some ss
  | [], _ + 1 => none
  | s :: r, o + 1 => match Nat.ble (segSize s) (o + 1), Nat.ble 1 (segSize s) with
    | true, true => segDrop r (o + 1 - segSize s)
    | _, _ => none
/-- The parts of the first n cells. -/
def segTake : List Seg → Nat → Option (List Seg)
  | _, 0 => some []
  | [], _ + 1 => none
  | s :: r, n + 1 => match Nat.ble (segSize s) (n + 1), Nat.ble 1 (segSize s) with
    | true, true => match segTake r (n + 1 - segSize s) with
      | some t => some (s :: t)
      | none => none
    | _, _ => none
/-- Other parts from cell o on, of the same size. -/
def segPut (ss : List Seg) (o : Nat) (ns : List Seg) : Option (List Seg) := match segTake ss o, segDrop ss (o + segsSize ns) with
  | some a, some b => some (a ++ ns ++ b)
  | _, _ => none
def segAV : Seg → Option AV
  | .int k n => some (.int k n)
  | .bool b => some (.bool b)
  | .row _ k l => some (.ro k l)
  | .arr _ _ _ => none
def segAVs : List Seg → Option (List AV)
  | [] => some []
  | s :: r => match segAV s, segAVs r with
    | some v, some vs => some (v :: vs)
    | _, _ => none
/-- A struct or array by value: cells, if it has no array in it. -/
def sgAV (ss : List Seg) : AV := match segAVs ss with
  | some vs => .agg vs
  | none => .sg ss
def avSeg : AV → Option Seg
  | .int k n => some (.int k n)
  | .bool b => some (.bool b)
  | .prop p d => some (.bool (@decide p d))
  | .ro k l => some (.row false k l)
  | .nil => some (.row true .u64 [])
  | _ => none
def takeInts (k : IntKind) : Nat → List AV → Option (List Int × List AV)
  | 0, r => some ([], r)
  | n + 1, .int k' x :: r => match kEq k k', takeInts k n r with
    | true, some (l, r) => some (x :: l, r)
    | _, _ => none
  | _ + 1, _ => none
/-- Cells as parts. -/
def segOf : Lay → List AV → Option (List Seg)
  | [], [] => some []
  | none :: ws, v :: r => match avSeg v, segOf ws r with
    | some s, some ss => some (s :: ss)
    | _, _ => none
  | some (k, n) :: ws, cs => match takeInts k n cs with
    | some (l, r) => match segOf ws r with
      | some ss => some (.arr k n l :: ss)
      | none => none
    | none => none
  | _, _ => none
/-- What is stored, as parts (w: how the type's cells are taken). -/
def valSegs (w : Option Lay) : AV → Option (List Seg)
  | .sg ss => some ss
  | .agg cs => match w with
    | some ws => segOf ws cs
    | none => none
  | v => match avSeg v with
    | some s => some [s]
    | none => none
def mx (a b : Int) : Int := if a < b then b else a
def mn (a b : Int) : Int := if b < a then b else a
/-- As Go keeps a number of this kind. -/
def wr (k : IntKind) (n : Int) : Int := match k with
  | .i64 => wrap64 n
  | k => k.wrap n
theorem wr_eq (k : IntKind) (n : Int) : wr k n = k.wrap n := by
  cases k <;> first | rfl | (show wrap64 n = _; rw [IntKind.wrap_i64]; unfold wrap64; rfl)
def shl (k : IntKind) (x y : Int) : Int := wr k (x * 2 ^ min y.toNat k.bits)
def shr (k : IntKind) (x y : Int) : Int := x / 2 ^ min y.toNat k.bits
def ofConst : Value → AV
  | .int k n => .int k n
  | .bool b => .bool b
  | .slice none 0 0 => .nil
  | .pointer none => .nilp
  | _ => .unk
def ASt.ev (S : ASt) : Operand → AV
  | .tmp t => S.get t
  | .const v => ofConst v
  | .func f => .fn f
  | .global _ => .unk
section
variable {α : Type}
def abool (v : AV) (K : Bool → Option α) : Option α := match v with
  | .bool b => K b
  | .prop p d => K (@decide p d)
  | _ => none
/-- Both ways, or the one that is known. -/
def aif (v : AV) (a b : Option α) : Option α := match v with
  | .bool c => (match instDecidableEqBool c true with | .isTrue _ => a | .isFalse _ => b)
  | .prop p d => @ite _ p d a b
  | _ => none
def abin (op : BinOp) (x y : AV) (K : AV → Option α) : Option α :=
  match op, x, y with
  | .add, .int k a, .int k' b => (match kEq k k' with | true => K (.int k (wr k (a + b))) | false => none)
  | .sub, .int k a, .int k' b => (match kEq k k' with | true => K (.int k (wr k (a - b))) | false => none)
  | .mul, .int k a, .int k' b => (match kEq k k' with | true => K (.int k (wr k (a * b))) | false => none)
  | .quo, .int k a, .int k' b => (match kEq k k' with | true => (match Int.decEq b 0 with | .isTrue _ => none | .isFalse _ => K (.int k (wr k (a.tdiv b)))) | false => none)
  | .rem, .int k a, .int k' b => (match kEq k k' with | true => (match Int.decEq b 0 with | .isTrue _ => none | .isFalse _ => K (.int k (a.tmod b))) | false => none)
  | .and, .int k a, .int k' b => (match kEq k k' with | true => K (.int k (bits .and k a b)) | false => none)
  | .or, .int k a, .int k' b => (match kEq k k' with | true => K (.int k (bits .or k a b)) | false => none)
  | .xor, .int k a, .int k' b => (match kEq k k' with | true => K (.int k (bits .xor k a b)) | false => none)
  | .andNot, .int k a, .int k' b => (match kEq k k' with | true => K (.int k (bits .andNot k a b)) | false => none)
  | .shl, .int k a, .int _ b => (match Int.decLe 0 b with | .isTrue _ => K (.int k (shl k a b)) | .isFalse _ => none)
  | .shr, .int k a, .int _ b => (match Int.decLe 0 b with | .isTrue _ => K (.int k (shr k a b)) | .isFalse _ => none)
  | .eql, .int k a, .int k' b => (match kEq k k' with | true => K (.prop (a = b) inferInstance) | false => none)
  | .neq, .int k a, .int k' b => (match kEq k k' with | true => K (.prop (¬ a = b) inferInstance) | false => none)
  | .lss, .int k a, .int k' b => (match kEq k k' with | true => K (.prop (a < b) inferInstance) | false => none)
  | .leq, .int k a, .int k' b => (match kEq k k' with | true => K (.prop (a ≤ b) inferInstance) | false => none)
  | .gtr, .int k a, .int k' b => (match kEq k k' with | true => K (.prop (a > b) inferInstance) | false => none)
  | .geq, .int k a, .int k' b => (match kEq k k' with | true => K (.prop (a ≥ b) inferInstance) | false => none)
  | _, _, _ => none
def aun (op : UnOp) (x : AV) (K : AV → Option α) : Option α :=
  match op, x with
  | .neg, .int k a => K (.int k (wr k (-a)))
  | .not, .bool b => K (.bool (!b))
  | .not, .prop p d => K (.prop (¬ p) (@instDecidableNot p d))
  | _, _ => none
end
section
variable {α : Type}
mutual
/-- What a value hands on to a callee (or back): rows by their contents. -/
def toD (hp : List Blk) : AV → Option D
  | .int k n => some (.int k n)
  | .bool b => some (.bool b)
  | .prop p d => some (.bool (@decide p d))
  | .ro k l => some (.ro k l)
  | .nil => some (.ro .u64 [])
  | .own i => match nth hp i with
    | some (.ints _ k l) => some (.ro k l)
    | some (.froz k l) => some (.ro k l)
    | some (.bor k l) => some (.ro k l)
    | some (.rws _ k ls) => some (.recs (lnr ls) [.row k ls])
    | some (.frws k ls) => some (.recs (lnr ls) [.row k ls])
    | _ => none
  | .win i b e => match nth hp i with
    | some (.ints _ k l) => some (.ro k ((l.take e.toNat).drop b.toNat))
    | some (.froz k l) => some (.ro k ((l.take e.toNat).drop b.toNat))
    | _ => none
  | .fn f => some (.fn f)
  | .recs n cs => some (.recs n cs)
  | .nilp => some .nilp
  | .sg ss => some (.sg (dull ss))
  | .pseg ss => some (.pseg (dull ss))
  | .rp i o => match nth hp i with
    | some (.part _ ss) => match segDrop ss o with
      | some r => some (.pseg (dull r))
      | none => none
    | some (.bpart ss) => match segDrop ss o with
      | some r => some (.pseg (dull r))
      | none => none
    | some (.fpart ss) => match segDrop ss o with
      | some r => some (.pseg (dull r))
      | none => none
    | _ => none
  | .agg cs => match toDs hp cs with
    | some ds => some (.agg ds)
    | none => none
  | _ => none
def toDs (hp : List Blk) : List AV → Option (List D)
  | [] => some []
  | v :: vs => match toD hp v with
    | some d => match toDs hp vs with
      | some ds => some (d :: ds)
      | none => none
    | none => none
end
mutual
/-- A callee's answer as it stands with the caller: its own rows get numbers from m on. -/
def ofD : D → Nat → AV
  | .int k n, _ => .int k n
  | .bool b, _ => .bool b
  | .ro k l, _ => .ro k l
  | .own _ _ _, m => .own m
  | .fn f, _ => .fn f
  | .recs n cs, _ => .recs n cs
  | .fns _ _, m => .own m
  | .sg ss, _ => .sg ss
  | .pseg ss, _ => .pseg ss
  | .box _ _, m => .rp m 0
  | .nilp, _ => .nilp
  | .agg ds, m => .agg (ofDs ds m)
def ofDs : List D → Nat → List AV
  | [], _ => []
  | d :: ds, m => ofD d m :: ofDs ds (m + (blkD d).length)
def blkD : D → List Blk
  | .own e k l => [.ints e k l]
  | .fns e fs => [.fns e fs]
  | .box t ss => [.part t ss]
  | .agg ds => blkDs ds
  | _ => []
def blkDs : List D → List Blk
  | [] => []
  | d :: ds => blkD d ++ blkDs ds
end
mutual
def D.hasRo : D → Bool
  | .ro _ _ => true
  | .recs _ _ => true
  | .sg ss => anyRow ss
  | .pseg _ => true
  | .box _ ss => anyRow ss
  | .agg ds => D.hasRos ds
  | _ => false
def D.hasRos : List D → Bool
  | [] => false
  | d :: ds => match d.hasRo with
    | true => true
    | false => D.hasRos ds
end
mutual
/-- The numbers of the rows that a value names. -/
def owns : AV → List Nat
  | .own i => [i]
  | .win i _ _ => [i]
  | .rp i _ => [i]
  | .agg cs => ownss cs
  | _ => []
def ownss : List AV → List Nat
  | [] => []
  | v :: vs => owns v ++ ownss vs
end
def packD (ds : List D) (m : Nat) : AV := match ds with
  | [d] => ofD d m
  | ds => .tup (ofDs ds m)
def has : List Nat → Nat → Bool
  | [], _ => false
  | a :: r, i => match Nat.beq a i with
    | true => true
    | false => has r i
def frz (is : List Nat) (i : Nat) (b : Blk) : Blk := match has is i, b with
  | true, .ints _ k l => .froz k l
  | true, .rws _ k ls => .frws k ls
  | true, .part _ ss => .fpart ss
  | _, b => b
def freeze (is : List Nat) : List Blk → Nat → List Blk
  | [], _ => []
  | b :: r, i => frz is i b :: freeze is r (i + 1)
def setNth {β : Type} : List β → Nat → β → List β
  | [], _, _ => []
  | _ :: r, 0, x => x :: r
  | y :: r, n + 1, x => y :: setNth r n x
def putAll : List AV → Nat → List AV → List AV
  | cs, _, [] => cs
  | cs, o, v :: vs => putAll (setNth cs o v) (o + 1) vs
def cellsOf : AV → List AV
  | .agg cs => cs
  | v => [v]
def okCell : AV → Bool
  | .agg _ => false
  | .tup _ => false
  | .unk => false
  | .und => false
  | .sg _ => false
  | _ => true
def okCells : List AV → Bool
  | [] => true
  | v :: vs => match okCell v with
    | true => okCells vs
    | false => false
/-- The cells of a struct, some parts given. -/
def fillParts (S : ASt) (fs : List (Nat × Nat × Bool)) : List AV → List (Nat × Operand) → Option (List AV)
  | cs, [] => some cs
  | cs, (i, x) :: r => match nth fs i with
    | some (o, s, _) => match okCells (cellsOf (S.ev x)) && Nat.beq (cellsOf (S.ev x)).length s && Nat.ble (o + s) cs.length with
      | true => fillParts S fs (putAll cs o (cellsOf (S.ev x))) r
      | false => none
    | none => none
def asInt : AV → IntKind → Option Int
  | .int k n, k' => match kEq k k' with
    | true => some n
    | false => none
  | _, _ => none
/-- The numbers of a literal row: element j is part j. -/
def litRow (S : ASt) (k : IntKind) : List (Nat × Operand) → Nat → Option (List Int)
  | [], _ => some []
  | (i, x) :: r, j => match Nat.beq i j, asInt (S.ev x) k, litRow S k r (j + 1) with
    | true, some n, some l => some (n :: l)
    | _, _, _ => none
def rowOf (hp : List Blk) : AV → Option (IntKind × List Int)
  | .ro k l => some (k, l)
  | .nil => some (.u64, [])
  | .own i => match nth hp i with
    | some (.ints _ k l) => some (k, l)
    | some (.froz k l) => some (k, l)
    | some (.bor k l) => some (k, l)
    | some (.room _ k l _) => some (k, l)
    | _ => none
  | .win i b e => match nth hp i with
    | some (.ints _ k l) => some (k, (l.take e.toNat).drop b.toNat)
    | some (.froz k l) => some (k, (l.take e.toNat).drop b.toNat)
    | _ => none
  | _ => none
def intElem (c : Cfg α) (t : Nat) : Option (Nat × IntKind × Nat) := match find c.T t with
  | some ⟨.slice e, _, _, _, _⟩ => match find c.T e with
    | some ⟨.int k, 1, b, [.int k' z], _⟩ => match kEq k k', z with
      | true, .ofNat 0 => some (e, k, b)
      | _, _ => none
    | _ => none
  | _ => none
/-- Slices of slices of numbers: the element's type, the numbers' kind, the element's bytes. -/
def rowElem (c : Cfg α) (t : Nat) : Option (Nat × IntKind × Nat) := match find c.T t with
  | some ⟨.slice e, _, _, _, _⟩ => match find c.T e with
    | some ⟨.slice _, 1, b, [.nil], _⟩ => match intElem c e with
      | some (_, k, _) => some (e, k, b)
      | none => none
    | _ => none
  | _ => none
/-- A row that is read, or nothing. -/
def asRow : AV → IntKind → Option (List Int)
  | .ro k l, k' => match kEq k k' with
    | true => some l
    | false => none
  | .nil, _ => some []
  | _, _ => none
def litRows (S : ASt) (k : IntKind) : List (Nat × Operand) → Nat → Option (List (List Int))
  | [], _ => some []
  | (i, x) :: r, j => match Nat.beq i j, asRow (S.ev x) k, litRows S k r (j + 1) with
    | true, some l, some ls => some (l :: ls)
    | _, _, _ => none
/-- Slices of functions: the element's type, its bytes. -/
def fnElem (c : Cfg α) (t : Nat) : Option (Nat × Nat) := match find c.T t with
  | some ⟨.slice e, _, _, _, _⟩ => match find c.T e with
    | some ⟨.other, 1, b, [.nilf], _⟩ => some (e, b)
    | _ => none
  | _ => none
def asFn : AV → Option Nat
  | .fn f => some f
  | _ => none
def litFns (S : ASt) : List (Nat × Operand) → Nat → Option (List Nat)
  | [], _ => some []
  | (i, x) :: r, j => match Nat.beq i j, asFn (S.ev x), litFns S r (j + 1) with
    | true, some f, some fs => some (f :: fs)
    | _, _, _ => none
/-- The function at place j of a table. -/
def forkFn {β : Type} (j : Int) (K : Nat → Option β) : List (Option Nat) → Int → Option β
  | [], _ => none
  | some f :: r, o => if j = o then K f else forkFn j K r (o + 1)
  | none :: r, o => if j = o then none else forkFn j K r (o + 1)
/-- A table whose first places are empty. -/
def someFns : List Nat → List (Option Nat)
  | [] => []
  | f :: r => some f :: someFns r
def gapFns (g : Nat) (fs : List Nat) : List (Option Nat) := match g with
  | 0 => someFns fs
  | g + 1 => none :: gapFns g fs
def fav : Option Nat → AV
  | some f => .fn f
  | none => .nilf
/-- An array of numbers: how many. -/
def arrElem (c : Cfg α) (t : Nat) : Option Nat := match find c.T t with
  | some ⟨.array n e, _, _, _, _⟩ => match find c.T e with
    | some ⟨.int _, 1, _, _, _⟩ => some n
    | _ => none
  | _ => none
def recElem (c : Cfg α) (t s : Nat) : Bool := match find c.T t with
  | some ⟨.slice e, _, _, _, _⟩ => match find c.T e with
    | some ti => Nat.beq ti.size s && Nat.ble 1 s
    | none => false
  | _ => false
def isSlice (c : Cfg α) (t : Nat) : Bool := match find c.T t with
  | some ⟨.slice _, _, _, _, _⟩ => true
  | _ => false
def lim (b : Nat) : Nat := 281474976710656 / b
def sameTmp (x y : Operand) : Bool := match x, y with
  | .tmp a, .tmp b => Nat.beq a b
  | _, _ => false
def acut (l : List Int) (lo hi : Option AV) (K : List Int → Option α) : Option α :=
  match lo, hi with
  | none, none => K l
  | none, some (.int _ h) => if 0 ≤ h then (if h ≤ ln l then K (l.take h.toNat) else none) else none
  | some (.int _ b), none => if 0 ≤ b then (if b ≤ ln l then K (l.drop b.toNat) else none) else none
  | some (.int _ b), some (.int _ h) => if 0 ≤ h then (if h ≤ ln l then (if 0 ≤ b then (if b ≤ h then K ((l.take h.toNat).drop b.toNat) else none) else none) else none) else none
  | _, _ => none
/-- Where a cut begins and ends. -/
def awin (l : List Int) (lo hi : Option AV) (K : Int → Int → Option α) : Option α :=
  match lo, hi with
  | none, none => K 0 (ln l)
  | none, some (.int _ h) => if 0 ≤ h then (if h ≤ ln l then K 0 h else none) else none
  | some (.int _ b), none => if 0 ≤ b then (if b ≤ ln l then K b (ln l) else none) else none
  | some (.int _ b), some (.int _ h) => if 0 ≤ h then (if h ≤ ln l then (if 0 ≤ b then (if b ≤ h then K b h else none) else none) else none) else none
  | _, _ => none
def evs (S : ASt) : List Operand → List AV
  | [] => []
  | x :: r => S.ev x :: evs S r
def evo (S : ASt) : Option Operand → Option AV
  | some x => some (S.ev x)
  | none => none
def fnOf (S : ASt) (x : Operand) : Option Nat := match S.ev x with
  | .fn f => some f
  | _ => none
/-- A call: what it answers, its new rows, and the rows that are written no more. -/
def acall (c : Cfg α) (S : ASt) (f : Nat) (vs : List AV) (K : List D → List Nat → Option α) : Option α :=
  match toDs S.hp vs with
  | some ds => c.call f ds fun rs => K rs (match D.hasRos rs with
    | true => ownss vs
    | false => [])
  | none => none
def D.scal : D → Bool
  | .int _ _ => true
  | .bool _ => true
  | _ => false
def scals : List D → Bool
  | [] => true
  | d :: r => match d.scal with
    | true => scals r
    | false => false
/-- A call that writes its first argument, a row of the call's own or a window of one. -/
def acallw (c : Cfg α) (S : ASt) (f : Nat) (vs : List AV) (K : List Blk → List D → Option α) : Option α :=
  match vs with
  | .win i b e :: r => match nth S.hp i, has (ownss r) i, toDs S.hp r with
    | some (.ints et .u64 l), false, some ds => if b < e then c.callw f ((l.take e.toNat).drop b.toNat) ds fun l' rs => match scals rs with
        | true => K (setNth S.hp i (.ints et .u64 (l.take b.toNat ++ l' ++ l.drop e.toNat))) rs
        | false => none
      else none
    | _, _, _ => none
  | .own i :: r => match nth S.hp i, has (ownss r) i, toDs S.hp r with
    | some (.ints et .u64 l), false, some ds => if 0 < ln l then c.callw f l ds fun l' rs => match scals rs with
        | true => K (setNth S.hp i (.ints et .u64 l')) rs
        | false => none
      else none
    | some (.bor .u64 l), false, some ds => if 0 < ln l then c.callw f l ds fun l' rs => match scals rs with
        | true => K (setNth S.hp i (.bor .u64 l')) rs
        | false => none
      else none
    | _, _, _ => none
  | _ => none
/-- Parts that may be read; that may be written. -/
def isBlk : Blk → Option (List Seg)
  | .part _ ss => some ss
  | .bpart ss => some ss
  | .fpart ss => some ss
  | _ => none
def isWr : Blk → Option (List Seg)
  | .part _ ss => some ss
  | .bpart ss => some ss
  | _ => none
def putBlk (b : Blk) (ss : List Seg) : Blk := match b with
  | .part t _ => .part t ss
  | .bpart _ => .bpart ss
  | b => b
/-- A call that writes through its first argument, a pointer to n cells (al: its second argument is the same pointer). -/
def acallp1 (c : Cfg α) (S : ASt) (f n i o : Nat) (al : Bool) (r : List AV) (K : List Blk → List D → Option α) : Option α :=
  match nth S.hp i, has (ownss r) i, toDs S.hp r with
    | some b, false, some ds => match isWr b with
      | some ss => match segTake ss o, segDrop ss o with
        | some a, some z => match segTake z n, segDrop z n with
          | some m, some e => c.callp f al (dull m) ds fun m' rs => match scals rs, Nat.beq (segsSize m') n, anyRow m' with
            | true, true, false => K (setNth S.hp i (putBlk b (a ++ m' ++ e))) rs
            | _, _, _ => none
          | _, _ => none
        | _, _ => none
      | none => none
    | _, _, _ => none
def acallp (c : Cfg α) (S : ASt) (f n : Nat) (vs : List AV) (K : List Blk → List D → Option α) : Option α :=
  match vs with
  | .rp i o :: .rp j u :: r => match Nat.beq i j, Nat.beq o u with
    | true, true => acallp1 c S f n i o true r K
    | _, _ => acallp1 c S f n i o false (.rp j u :: r) K
  | .rp i o :: r => acallp1 c S f n i o false r K
  | _ => none
/-- One of the places that a pointer may go to. -/
def forkOff {β : Type} (o : Int) (K : Nat → Option β) : List Nat → Option β
  | [] => none
  | a :: r => if o = (a : Int) then K a else forkOff o K r
def acallq (c : Cfg α) (S : ASt) (f : Nat) (offs : List Nat) (vs : List AV) (K : AV → Option α) : Option α :=
  match vs with
  | .rp i o :: r => match nth S.hp i, toDs S.hp r with
    | some b, some ds => match isWr b, scals ds with
      | some ss, true => match segDrop ss o with
        | some _ => c.callq f ds fun t => forkOff t (fun a => K (.rp i (o + a))) offs
        | none => none
      | _, _ => none
    | _, _ => none
  | _ => none
def isPtr (c : Cfg α) (t : Nat) : Bool := match find c.T t with
  | some ⟨.ptr _, _, _, _, _⟩ => true
  | _ => false
/-- What is loaded: a cell, or the first n cells. -/
def aseg (ss : List Seg) (g : Bool) (n : Nat) (K : AV → Option α) : Option α := match g with
  | false => match ss with
    | s :: _ => match segAV s with
      | some v => K v
      | none => none
    | [] => none
  | true => match segTake ss n with
    | some t => K (sgAV t)
    | none => none
/-- A pointer that is held against nil. -/
def anil (op : BinOp) (x y : AV) (K : Bool → Option α) : Option α := match op, x, y with
  | .eql, .rp _ _, .nilp => K false
  | .eql, .pseg _, .nilp => K false
  | .eql, .nilp, .nilp => K true
  | .neq, .rp _ _, .nilp => K true
  | .neq, .pseg _, .nilp => K true
  | .neq, .nilp, .nilp => K false
  | _, _, _ => none
def isPtrV : AV → Bool
  | .rp _ _ => true
  | .pseg _ => true
  | .nilp => true
  | _ => false
/-- The numbers of a literal array. -/
def litArr (S : ASt) (k : IntKind) (n : Nat) (ps : List (Nat × Operand)) : Option (List Int) := match Nat.beq n ps.length with
  | true => litRow S k ps 0
  | false => none
def isBool (c : Cfg α) (t : Nat) : Bool := match find c.T t with
  | some ⟨.bool, _, _, _, _⟩ => true
  | _ => false
def isBoolV : AV → Bool
  | .bool _ => true
  | .prop _ _ => true
  | _ => false
/-- Whether two structs of numbers and truths are alike (first: the type's zero). -/
def eqList : List AV → List AV → List AV → Option Bool
  | [], [], [] => some true
  | .int _ _ :: zs, .int k a :: cs, .int k' b :: ds => match kEq k k', eqList zs cs ds with
    | true, some r => some (decide (a = b) && r)
    | _, _ => none
  | .bool _ :: zs, .bool a :: cs, .bool b :: ds => match eqList zs cs ds with
    | some r => some ((a == b) && r)
    | none => none
  | _, _, _ => none
def aeqs (c : Cfg α) (op : BinOp) (t : Nat) (cs ds : List AV) (K : Bool → Option α) : Option α := match find c.T t with
  | some ti => match ti.eq, op, eqList ti.zero cs ds with
    | true, .eql, some b => K b
    | true, .neq, some b => K (!b)
    | _, _, _ => none
  | none => none
/-- An operation that changes no memory that there is. -/
def alight (c : Cfg α) (S : ASt) (op : Op) (K : AV → List Blk → Option α) : Option α :=
  match op with
  | .move x => K (S.ev x) []
  | .assign x => K (S.ev x) []
  | .pick x a b => aif (S.ev x) (K (S.ev a) []) (K (S.ev b) [])
  | .alloc t => match find c.T t with
    | some ti => match find c.lay t with
      | some ws => match segOf ws ti.zero with
        | some ss => K (.rp S.hp.length 0) [.part t ss]
        | none => none
      | none => K (.ptr S.hp.length 0) [.cells t ti.zero]
    | none => none
  | .box t x => match find c.lay t with
    | some ws => match valSegs (some ws) (S.ev x) with
      | some ss => K (.rp S.hp.length 0) [.part t (dull ss)]
      | none => none
    | none => match okCells (cellsOf (S.ev x)) with
      | true => K (.ptr S.hp.length 0) [.cells t (cellsOf (S.ev x))]
      | false => none
  | .build t ps => match find c.T t with
    | some ⟨.struct fs, _, _, z, _⟩ => match fillParts S fs z ps.toList with
      | some cs => K (.agg cs) []
      | none => none
    | some ⟨.array n e, sz, _, _, _⟩ => match find c.T e with
      | some ⟨.int k, 1, _, _, _⟩ => match litArr S k n ps.toList, Nat.beq n sz with
        | some l, true => K (.sg [.arr k n l]) []
        | _, _ => none
      | _ => none
    | _ => none
  | .buildSlice t n ps => match intElem c t with
    | some (e, k, _) => match Nat.beq n ps.toList.length && Nat.ble n 16777216, litRow S k ps.toList 0 with
      | true, some l => K (.own S.hp.length) [.ints e k l]
      | _, _ => none
    | none => match rowElem c t with
      | some (e, k, _) => match Nat.beq n ps.toList.length && Nat.ble n 16777216, litRows S k ps.toList 0 with
        | true, some ls => K (.own S.hp.length) [.rws e k ls]
        | _, _ => none
      | none => match fnElem c t with
        | some (e, _) => match ps.toList with
          | (g, _) :: _ => match Nat.beq n (g + ps.toList.length) && Nat.ble n 16777216, litFns S ps.toList g with
            | true, some fs => K (.own S.hp.length) [.fns e (gapFns g fs)]
            | _, _ => none
          | [] => none
        | none => none
  | .load t a => match find c.T t with
    | some ti => match S.ev a, ti.isAgg with
      | .pro k n, false => K (.int k n) []
      | .pown i j, false => match rowOf S.hp (.own i) with
        | some (k, l) => K (.int k (rd l j)) []
        | none => match nth S.hp i with
          | some (.rws _ k ls) => K (.ro k (rdr ls j)) []
          | some (.fns _ fs) => forkFn j (fun f => K (.fn f) []) fs 0
          | _ => none
      | .prec cs, false => match cs with
        | c :: _ => K c.av []
        | [] => none
      | .prec cs, true => match Nat.ble ti.size cs.length with
        | true => K (.agg (cavs (cs.take ti.size))) []
        | false => none
      | .ptr i o, g => match nth S.hp i with
        | some (.cells _ cs) => match g with
          | false => match nth cs o with
            | some v => K v []
            | none => none
          | true => match Nat.ble (o + ti.size) cs.length with
            | true => K (.agg ((cs.drop o).take ti.size)) []
            | false => none
        | _ => none
      | .rp i o, g => match nth S.hp i with
        | some b => match isBlk b with
          | some ss => match segDrop ss o with
            | some r => aseg r g ti.size fun v => K v []
            | none => none
          | none => none
        | none => none
      | .pel i o n j, false => match nth S.hp i with
        | some b => match isBlk b with
          | some ss => match segDrop ss o with
            | some (.arr k n' l :: _) => match Nat.beq n n' with
              | true => K (.int k (rd l j)) []
              | false => none
            | _ => none
          | none => none
        | none => none
      | .pseg ss, g => aseg ss g ti.size fun v => K v []
      | _, _ => none
    | none => none
  | .nilCheck x => match S.ev x with
    | .rp i o => K (.rp i o) []
    | .pel i o n j => K (.pel i o n j) []
    | .pseg ss => K (.pseg ss) []
    | .ptr i o => K (.ptr i o) []
    | .pro k n => K (.pro k n) []
    | .pown i j => K (.pown i j) []
    | .prec cs => K (.prec cs) []
    | _ => none
  | .binOp op t x y _ => match S.ev x, S.ev y with
    | .agg cs, .agg ds => aeqs c op t cs ds fun b => K (.bool b) []
    | _, _ => match isPtrV (S.ev x), isPtr c t with
     | true, true => anil op (S.ev x) (S.ev y) fun b => K (.bool b) []
     | _, _ => match isBoolV (S.ev x), op, isBool c t with
      | false, op, _ => abin op (S.ev x) (S.ev y) fun v => K v []
      | true, .eql, true => abool (S.ev x) fun a => abool (S.ev y) fun b => K (.bool (a == b)) []
      | true, .neq, true => abool (S.ev x) fun a => abool (S.ev y) fun b => K (.bool (a != b)) []
      | _, _, _ => none
  | .unOp op _ x => aun op (S.ev x) fun v => K v []
  | .convert s d x => match find c.T s, find c.T d, S.ev x with
    | some _, some ⟨.int k, _, _, _, _⟩, .int _ n => K (.int k (wr k n)) []
    | _, _, _ => none
  | .makeSlice t x y => match intElem c t, S.ev x, S.ev y with
    | some (e, k, b), .int kx n, .int ky m => match kEq kx .i64 && kEq ky .i64 && Nat.ble 1 b with
      | true => match sameTmp x y with
        | true => if 0 ≤ n then (if n.toNat ≤ lim b then K (.own S.hp.length) [.ints e k (List.replicate n.toNat 0)] else none) else none
        | false => match c.room with
          | true => if 0 ≤ n then (if n ≤ m then (if m.toNat ≤ lim b then K (.own S.hp.length) [.room e k (List.replicate n.toNat 0) m] else none) else none) else none
          | false => if 0 ≤ n then (if n ≤ m then (if m.toNat ≤ lim b then K (.own S.hp.length) [.ints e k (List.replicate n.toNat 0)] else none) else none) else none
      | false => none
    | _, _, _ => none
  | .slice t x lo hi mx => match intElem c t, S.ev x, evo S mx with
    | some _, .ro k l, none => acut l (evo S lo) (evo S hi) fun l' => K (.ro k l') []
    | some _, .nil, none => acut [] (evo S lo) (evo S hi) fun l' => K (.ro .u64 l') []
    | some _, .ro k l, some (.int _ m) => match lo, evo S hi with
      | none, some (.int _ h) => if 0 ≤ h then (if h ≤ m then (if m ≤ ln l then K (.ro k (l.take h.toNat)) [] else none) else none) else none
      | _, _ => none
    | some _, .own i, none => match c.win, nth S.hp i with
      | true, some (.ints _ k l) => awin l (evo S lo) (evo S hi) fun b e => K (.win i b e) []
      | _, _ => none
    | none, .pseg ss, none => match lo, hi, arrElem c t, ss with
      | none, none, some n, .arr k n' l :: _ => match Nat.beq n n' && Nat.ble 1 n with
        | true => K (.ro k l) []
        | false => none
      | _, _, _, _ => none
    | _, _, _ => none
  | .fieldAddr t x f => match find c.T t, S.ev x with
    | some ⟨.struct fs, _, _, _, _⟩, .ptr i o => match nth fs f with
      | some (off, s, _) => match Nat.ble 1 s with
        | true => K (.ptr i (o + off)) []
        | false => none
      | none => none
    | some ⟨.struct fs, _, _, _, _⟩, .prec cs => match nth fs f with
      | some (off, s, _) => match Nat.ble 1 s with
        | true => K (.prec (cs.drop off)) []
        | false => none
      | none => none
    | some ⟨.struct fs, _, _, _, _⟩, .rp i o => match nth fs f with
      | some (off, s, _) => match Nat.ble 1 s with
        | true => K (.rp i (o + off)) []
        | false => none
      | none => none
    | some ⟨.struct fs, _, _, _, _⟩, .pseg ss => match nth fs f with
      | some (off, s, _) => match Nat.ble 1 s, segDrop ss off with
        | true, some r => K (.pseg r) []
        | _, _ => none
      | none => none
    | _, _ => none
  | .field t x f => match find c.T t, S.ev x with
    | some ⟨.struct fs, _, _, _, _⟩, .agg cs => match nth fs f with
      | some (off, s, g) => match g with
        | false => match nth cs off with
          | some v => K v []
          | none => none
        | true => match Nat.ble (off + s) cs.length with
          | true => K (.agg ((cs.drop off).take s)) []
          | false => none
      | none => none
    | some ⟨.struct fs, _, _, _, _⟩, .sg ss => match nth fs f with
      | some (off, s, g) => match segDrop ss off with
        | some r => aseg r g s fun v => K v []
        | none => none
      | none => none
    | _, _ => none
  | .indexAddr t x i => match intElem c t, S.ev x, S.ev i with
    | some _, .ro k l, .int _ n => if 0 ≤ n then (if n < ln l then K (.pro k (rd l n)) [] else none) else none
    | some _, .own b, .int _ n => match nth S.hp b with
      | some (.ints _ _ l) => if 0 ≤ n then (if n < ln l then K (.pown b n) [] else none) else none
      | some (.froz k l) => if 0 ≤ n then (if n < ln l then K (.pro k (rd l n)) [] else none) else none
      | some (.bor _ l) => if 0 ≤ n then (if n < ln l then K (.pown b n) [] else none) else none
      | some (.room _ _ l _) => if 0 ≤ n then (if n < ln l then K (.pown b n) [] else none) else none
      | _ => none
    | none, .recs m cs, .int _ n => match recElem c t cs.length with
      | true => if 0 ≤ n then (if n < m then K (.prec (colsAt n cs)) [] else none) else none
      | false => none
    | none, .own b, .int _ n => match nth S.hp b, rowElem c t with
      | some (.rws _ _ ls), some _ => if 0 ≤ n then (if n < lnr ls then K (.pown b n) [] else none) else none
      | some (.fns _ fs), none => match fnElem c t with
        | some _ => if 0 ≤ n then (if n < (fs.length : Int) then K (.pown b n) [] else none) else none
        | none => none
      | _, _ => none
    | none, .rp i o, .int _ j => match arrElem c t, nth S.hp i with
      | some n, some b => match isBlk b with
        | some ss => match segDrop ss o with
          | some (.arr _ n' _ :: _) => match Nat.beq n n' with
            | true => if 0 ≤ j then (if j < (n : Int) then K (.pel i o n j) [] else none) else none
            | false => none
          | _ => none
        | none => none
      | _, _ => none
    | none, .pseg (.arr k n' l :: _), .int _ j => match arrElem c t with
      | some n => match Nat.beq n n' with
        | true => if 0 ≤ j then (if j < (n : Int) then K (.pro k (rd l j)) [] else none) else none
        | false => none
      | none => none
    | _, _, _ => none
  | .extract x i => match S.ev x with
    | .tup vs => match nth vs i with
      | some v => K v []
      | none => none
    | _ => none
  | .call ⟨.builtin .len, as, ts⟩ => match as.toList, ts.toList with
    | [x], [t] => match intElem c t, rowOf S.hp (S.ev x) with
      | some _, some (_, l) => K (.int .i64 (ln l)) []
      | none, none => match isSlice c t, S.ev x with
        | true, .recs m _ => K (.int .i64 m) []
        | true, .own i => match nth S.hp i with
          | some (.rws _ _ ls) => K (.int .i64 (lnr ls)) []
          | some (.fns _ fs) => K (.int .i64 (fs.length : Int)) []
          | _ => none
        | _, _ => none
      | _, _ => none
    | _, _ => none
  | .call ⟨.builtin .max, as, _⟩ => match as.toList with
    | [x, y] => match S.ev x, S.ev y with
      | .int k a, .int k' b => K (.int k (mx a b)) []
      | _, _ => none
    | _ => none
  | .call ⟨.builtin .min, as, _⟩ => match as.toList with
    | [x, y] => match S.ev x, S.ev y with
      | .int k a, .int k' b => K (.int k (mn a b)) []
      | _, _ => none
    | [x, y, z] => match S.ev x, S.ev y, S.ev z with
      | .int k a, .int k' b, .int k'' d => K (.int k (mn (mn a b) d)) []
      | _, _, _ => none
    | _ => none
  | .call ⟨.value x, as, _⟩ => match fnOf S x with
    | some f => match find c.pq f with
      | some offs => acallq c S f offs (evs S as.toList) fun v => K v []
      | none => acall c S f (evs S as.toList) fun rs fz => match fz with
        | [] => K (packD rs S.hp.length) (blkDs rs)
        | _ => none
    | none => none
  | _ => none
/-- Rows that may be frozen. -/
def frzOk (hp : List Blk) (i : Nat) : Bool := match nth hp i with
  | some (.ints _ _ _) => true
  | some (.froz _ _) => true
  | some (.rws _ _ _) => true
  | some (.frws _ _) => true
  | some (.part _ _) => true
  | some (.fpart _) => true
  | _ => false
def frzOks (hp : List Blk) : List Nat → Bool
  | [] => true
  | i :: r => match frzOk hp i with
    | true => frzOks hp r
    | false => false
/-- A row of the call's own that is cut at its end, and stays the call's own (the old name is dead). -/
def cutKind (c : Cfg α) (lo : Option Operand) (hi : Option AV) (b : Option Blk) : Option (Nat × IntKind × List Int × Int) := match c.cutf, lo, hi, b with
  | true, none, some (.int _ h), some (.ints e k l) => some (e, k, l, h)
  | _, _, _, _ => none
/-- Any operation. -/
def aheavy (c : Cfg α) (S : ASt) (o : Oper) (K : ASt → Option α) : Option α :=
  match o.op with
  | .store t a x => match find c.T t with
    | some ti => match S.ev a with
      | .ptr i off => match nth S.hp i with
        | some (.cells bt cs) => match okCells (cellsOf (S.ev x)) && Nat.beq (cellsOf (S.ev x)).length ti.size && Nat.ble (off + ti.size) cs.length with
          | true => K { tm := (S.put o.dst .unk).tm, hp := setNth S.hp i (.cells bt (putAll cs off (cellsOf (S.ev x)))) }
          | false => none
        | _ => none
      | .pown i j => match nth S.hp i, ti.size with
        | some (.ints e k l), 1 => match asInt (S.ev x) k with
          | some n => K { tm := (S.put o.dst .unk).tm, hp := setNth S.hp i (.ints e k (l.set j.toNat n)) }
          | none => none
        | some (.bor k l), 1 => match asInt (S.ev x) k with
          | some n => K { tm := (S.put o.dst .unk).tm, hp := setNth S.hp i (.bor k (l.set j.toNat n)) }
          | none => none
        | _, _ => none
      | .rp i off => match nth S.hp i with
        | some b => match valSegs (find c.lay t) (S.ev x), isWr b with
          | some ns, some ss => match Nat.beq (segsSize ns) ti.size, segPut ss off (dull ns) with
            | true, some ss' => K { tm := (S.put o.dst .unk).tm, hp := setNth S.hp i (putBlk b ss') }
            | _, _ => none
          | _, _ => none
        | none => none
      | .pel i off n j => match nth S.hp i, ti.size with
        | some b, 1 => match isWr b with
          | some ss => match segDrop ss off with
            | some (.arr k n' l :: _) => match Nat.beq n n', asInt (S.ev x) k with
              | true, some m => match segPut ss off [.arr k n (l.set j.toNat m)] with
                | some ss' => K { tm := (S.put o.dst .unk).tm, hp := setNth S.hp i (putBlk b ss') }
                | none => none
              | _, _ => none
            | _ => none
          | none => none
        | _, _ => none
      | _ => none
    | none => none
  | .slice t x lo hi mx => match intElem c t, S.ev x, mx with
    | some _, .own i, none => match c.win with
     | true => alight c S o.op fun v nb => K { tm := (S.put o.dst v).tm, hp := S.hp ++ nb }
     | false => match cutKind c lo (evo S hi) (nth S.hp i) with
      | some (e, k, l, h) => if 0 ≤ h then (if h ≤ ln l then K { tm := (S.put o.dst (.own S.hp.length)).tm, hp := setNth S.hp i .dead ++ [.ints e k (l.take h.toNat)] } else none) else none
      | none => match nth S.hp i with
      | some (.bor _ _) => none
      | some (.room e' k' l' _) => acut l' (evo S lo) (evo S hi) fun l2 => K { tm := (S.put o.dst (.ro k' l2)).tm, hp := freeze [i] (setNth S.hp i (.ints e' k' l')) 0 }
      | _ => match rowOf S.hp (.own i) with
       | some (k, l) => acut l (evo S lo) (evo S hi) fun l' => K { tm := (S.put o.dst (.ro k l')).tm, hp := freeze [i] S.hp 0 }
       | none => none
    | _, _, _ => alight c S o.op fun v nb => K { tm := (S.put o.dst v).tm, hp := S.hp ++ nb }
  | .call ⟨.builtin .append, as, ts⟩ => match as.toList, ts.toList with
    | [x, y], [t, u] => match intElem c t, intElem c u, S.ev x, rowOf S.hp (S.ev y) with
      | some (e, k, b), some (_, ku, _), .own i, some (k', m) => match nth S.hp i, kEq k k' && Nat.beq t u && Nat.ble 1 b with
        | some (.ints e' k'' l), true => match kEq k k'' && Nat.beq e e' with
          | true => if l.length + m.length ≤ lim (2 * b) then K { tm := (S.put o.dst (.own S.hp.length)).tm, hp := setNth S.hp i .dead ++ [.ints e k (l ++ m)] } else none
          | false => none
        | some (.room e' k'' l cp), true => match kEq k k'' && Nat.beq e e' with
          | true => if ln l + ln m ≤ cp then K { tm := (S.put o.dst (.own S.hp.length)).tm, hp := setNth S.hp i .dead ++ [.room e k (l ++ m) cp] } else none
          | false => none
        | _, _ => none
      | some (e, k, b), some (_, ku, _), .nil, some (k', m) => match kEq k k' && Nat.beq t u && Nat.ble 1 b with
        | true => if m.length ≤ lim (2 * b) then K { tm := (S.put o.dst (.own S.hp.length)).tm, hp := S.hp ++ [.ints e k m] } else none
        | false => none
      | none, none, .own i, none => match rowElem c t, S.ev y with
        | some (e, k, b), .own j => match nth S.hp i, nth S.hp j, Nat.beq t u && Nat.ble 1 b with
          | some (.rws e' k' ls), some (.rws _ k'' ms), true => match (kEq k k' && kEq k k'') && Nat.beq e e' with
            | true => if ls.length + ms.length ≤ lim (2 * b) then K { tm := (S.put o.dst (.own S.hp.length)).tm, hp := setNth S.hp i .dead ++ [.rws e k (ls ++ ms)] } else none
            | false => none
          | _, _, _ => none
        | _, _ => none
      | _, _, _, _ => none
    | _, _ => none
  | .call ⟨.builtin .copy, as, ts⟩ => match as.toList, ts.toList with
    | [x, y], [t, u] => match intElem c t, intElem c u, S.ev x, rowOf S.hp (S.ev y) with
      | some (e, k, b), some (_, ku, _), .own i, some (k', m) => match nth S.hp i, kEq k k' with
        | some (.ints e' k'' l), true => match kEq k k'' with
          | true => if m.length = l.length then K { tm := (S.put o.dst (.int .i64 (ln m))).tm, hp := setNth S.hp i (.ints e' k m) } else none
          | false => none
        | _, _ => none
      | _, _, _, _ => none
    | _, _ => none
  | .call ⟨.value x, as, _⟩ => match fnOf S x with
    | some f => match has c.wr f, find c.pw f, find c.pq f with
      | false, some n, _ => acallp c S f n (evs S as.toList) fun hp rs => K { tm := (S.put o.dst (packD rs 0)).tm, hp := hp }
      | false, none, some _ => alight c S o.op fun v nb => K { tm := (S.put o.dst v).tm, hp := S.hp ++ nb }
      | false, none, none => acall c S f (evs S as.toList) fun rs fz => match frzOks S.hp fz with
       | false => none
       | true => K { tm := (S.put o.dst (packD rs S.hp.length)).tm, hp := freeze fz S.hp 0 ++ blkDs rs }
      | true, _, _ => acallw c S f (evs S as.toList) fun hp rs => K { tm := (S.put o.dst (packD rs 0)).tm, hp := hp }
    | none => none
  | op => alight c S op fun v nb => K { tm := (S.put o.dst v).tm, hp := S.hp ++ nb }
/-- An operation that waits for a test: both ways. -/
def aguard (all : List Oper) (S : ASt) (o : Oper) (yes no : ASt → Option α) : Option α :=
  match o.guard with
  | none => yes S
  | some (j, want) => match nth all j with
    | some oj => match oj.dst with
      | some d => match S.get d, want with
        | .und, _ => no (S.put o.dst .und)
        | v, true => aif v (yes (S.put d (.bool true))) (no ((S.put d (.bool false)).put o.dst .und))
        | v, false => aif v (no ((S.put d (.bool true)).put o.dst .und)) (yes (S.put d (.bool false)))
      | none => none
    | none => none
def aops (c : Cfg α) (all : List Oper) : List Oper → ASt → (ASt → Option α) → Option α
  | [], S, K => K S
  | o :: r, S, K => aguard all S o (fun S => aheavy c S o fun S => aops c all r S K) fun S => aops c all r S K
/-- The same where the order is open: light operations alone. -/
def alights (c : Cfg α) (all : List Oper) : List Oper → ASt → (ASt → Option α) → Option α
  | [], S, K => K S
  | o :: r, S, K => aguard all S o (fun S => alight c S o.op fun v nb => alights c all r { tm := (S.put o.dst v).tm, hp := S.hp ++ nb } K) fun S => alights c all r S K
end
/-- Operation o waits for operation j. -/
def waits (o : Oper) (j : Nat) : Bool := o.after.toList.any fun e => Region.binds .any e && Nat.beq e.on j
def opTmps : List Operand → List Nat
  | [] => []
  | .tmp t :: r => t :: opTmps r
  | _ :: r => opTmps r
/-- The slots that an operation names. -/
def slots (all : List Oper) (o : Oper) : List Nat :=
  (match o.dst with
    | some d => [d]
    | none => []) ++ opTmps o.op.operands.toList ++
  (match o.guard with
    | some (j, _) => match nth all j with
      | some oj => match oj.dst with
        | some d => [d]
        | none => []
      | none => []
    | none => [])
def clash (all : List Oper) (oi oj : Oper) : Bool := match oj.dst with
  | some t => has (slots all oi) t
  | none => false
def pairOk (all : List Oper) (i j : Nat) : Bool := match nth all i, nth all j with
  | some oi, some oj => match clash all oi oj with
    | true => match Nat.beq i j, Nat.blt j i with
      | true, _ => true
      | false, true => waits oi j
      | false, false => waits oj i
    | false => true
  | _, _ => true
def edgesOk (all : List Oper) (i : Nat) : Bool := match nth all i with
  | some o => o.after.toList.all fun e => !Region.binds .any e || Nat.blt e.on i
  | none => true
def drawOk (n : Nat) (all : List Oper) : Bool := ((List.range n).all fun i => (List.range n).all fun j => pairOk all i j) && (List.range all.length).all (edgesOk all)
/-- Each of the first n operations but l is done before o, since o waits for it or another of these does. -/
def reach (ops : List Oper) (n : Nat) (o : Oper) (l : Nat) : Bool := (List.range n).all fun j => Nat.beq j l || waits o j || (List.range n).any fun k => !Nat.beq k l && (match nth ops k with
  | some ok => waits ok j
  | none => false)
def allWait (ops : List Oper) (n : Nat) (o : Oper) : Bool := reach ops n o n
def heavyOp (pw : List (Nat × Nat)) : Op → Bool
  | .store _ _ _ => true
  | .call ⟨.builtin .append, _, _⟩ => true
  | .call ⟨.builtin .copy, _, _⟩ => true
  | .call ⟨.value (.func f), _, _⟩ => match find pw f with
    | some _ => true
    | none => false
  | _ => false
def optEq : Option Nat → Nat → Bool
  | some a, b => Nat.beq a b
  | none, _ => false
/-- The place of the operation whose answer goes to slot t. -/
def dstAt (t : Nat) : List Oper → Nat → Option Nat
  | [], _ => none
  | o :: r, i => match optEq o.dst t with
    | true => some i
    | false => dstAt t r (i + 1)
/-- A region that ends in a store and one more number: the store needn't wait for operation l, a part of a tuple, whose answer d is the number. -/
def holeOf (ops : List Oper) : Option Nat := match nth ops (ops.length - 2), nth ops (ops.length - 1) with
  | some os, some oa => match os.op, os.dst, os.guard, oa.op with
    | .store _ p x, none, none, .assign (.tmp d) => match dstAt d ops 0 with
      | some l => match nth ops l with
        | some ol => match ol.op, ol.guard, has (opTmps [p, x]) d with
          | .extract (.tmp s) _, none, false => match Nat.beq s d, optEq ol.dst d, Nat.blt (l + 2) ops.length, (List.range (ops.length - 1)).all (waits oa), reach ops (ops.length - 2) os l with
            | false, true, true, true, true => some l
            | _, _, _, _, _ => none
          | _, _, _ => none
        | none => none
      | none => none
    | _, _, _, _ => none
  | _, _ => none
def lastOf : List Oper → Option Oper
  | [] => none
  | [o] => some o
  | _ :: r => lastOf r
section
variable {α : Type}
def adraw (c : Cfg α) (ops : List Oper) (S : ASt) (K : ASt → Option α) : Option α := match lastOf ops with
  | some o => match heavyOp c.pw o.op with
    | false => match holeOf ops with
      | some _ => match drawOk (ops.length - 2) ops with
        | true => alights c ops (ops.take (ops.length - 2)) S fun S => aops c ops (ops.drop (ops.length - 2)) S K
        | false => none
      | none => match drawOk ops.length ops with
        | true => alights c ops ops S K
        | false => none
    | true => match drawOk (ops.length - 1) ops && allWait ops (ops.length - 1) o with
      | true => alights c ops (ops.take (ops.length - 1)) S fun S => aguard ops S o (fun S => aheavy c S o K) K
      | false => none
  | none => K S
def aregion (c : Cfg α) (ops : List Oper) (draw : Bool) (S : ASt) (K : ASt → Option α) : Option α := match draw with
  | false => aops c ops ops S K
  | true => adraw c ops S K
end
/-- What a slot is to hold at a cut: as it is; a row that is read; the same, told by its contents; a row of the call's own; the address of a box, whose rows that are nothing are told as rows that are read. -/
inductive Want where
  | keep
  | row
  | cast
  | own (e : Nat) (k : IntKind)
  | rws (e : Nat) (k : IntKind)
  | box
/-- Rows that are nothing, as rows that are read. -/
def nilRo : List AV → List AV
  | [] => []
  | .nil :: r => .ro .u64 [] :: nilRo r
  | v :: r => v :: nilRo r
def coerce (t : Nat) (S : ASt) : Want → Option ASt
  | .keep => match S.get t with
    | .prop p d => some (S.put (some t) (.bool (@decide p d)))
    | _ => some S
  | .row => match S.get t with
    | .ro k l => some S
    | .nil => some (S.put (some t) (.ro .u64 []))
    | .own i => match nth S.hp i with
      | some (.ints _ _ _) => some { tm := (S.put (some t) (.own i)).tm, hp := freeze [i] S.hp 0 }
      | some (.froz _ _) => some { tm := (S.put (some t) (.own i)).tm, hp := freeze [i] S.hp 0 }
      | _ => none
    | _ => none
  | .cast => match S.get t with
    | .ro k l => some S
    | .nil => some (S.put (some t) (.ro .u64 []))
    | .own i => match nth S.hp i with
      | some (.ints _ k l) => some { tm := (S.put (some t) (.ro k l)).tm, hp := freeze [i] S.hp 0 }
      | some (.froz k l) => some { tm := (S.put (some t) (.ro k l)).tm, hp := freeze [i] S.hp 0 }
      | _ => none
    | _ => none
  | .own e k => match S.get t with
    | .own i => some S
    | .nil => some { tm := (S.put (some t) (.own S.hp.length)).tm, hp := S.hp ++ [.ints e k []] }
    | _ => none
  | .rws e k => match S.get t with
    | .own i => some S
    | .nil => some { tm := (S.put (some t) (.own S.hp.length)).tm, hp := S.hp ++ [.rws e k []] }
    | _ => none
  | .box => match S.get t with
    | .ptr i _ => match nth S.hp i with
      | some (.cells bt cs) => some { tm := S.tm, hp := setNth S.hp i (.cells bt (nilRo cs)) }
      | _ => none
    | _ => none
def coerces : List (Nat × Want) → ASt → Option ASt
  | [], S => some S
  | (t, w) :: r, S => match coerce t S w with
    | some S' => coerces r S'
    | none => none
mutual
def idsOf : AV → List Nat
  | .own i => [i]
  | .ptr i _ => [i]
  | .pown i _ => [i]
  | .win i _ _ => [i]
  | .rp i _ => [i]
  | .pel i _ _ _ => [i]
  | .agg cs => idsOfs cs
  | .tup cs => idsOfs cs
  | _ => []
def idsOfs : List AV → List Nat
  | [] => []
  | v :: vs => idsOf v ++ idsOfs vs
end
def idsBlk : Blk → List Nat
  | .cells _ cs => idsOfs cs
  | _ => []
def collect (hp : List Blk) : Nat → List Nat → List Nat → List Nat
  | 0, _, acc => acc
  | _ + 1, [], acc => acc
  | n + 1, i :: r, acc => match has acc i with
    | true => collect hp n r acc
    | false => collect hp n (r ++ (match nth hp i with
      | some b => idsBlk b
      | none => [])) (acc ++ [i])
def idx : List Nat → Nat → Option Nat
  | [], _ => none
  | a :: r, i => match Nat.beq a i with
    | true => some 0
    | false => match idx r i with
      | some j => some (j + 1)
      | none => none
mutual
def ren (m : List Nat) : AV → AV
  | .own i => match idx m i with
    | some j => .own j
    | none => .unk
  | .ptr i o => match idx m i with
    | some j => .ptr j o
    | none => .unk
  | .pown i o => match idx m i with
    | some j => .pown j o
    | none => .unk
  | .win i b e => match idx m i with
    | some j => .win j b e
    | none => .unk
  | .rp i o => match idx m i with
    | some j => .rp j o
    | none => .unk
  | .pel i o n x => match idx m i with
    | some j => .pel j o n x
    | none => .unk
  | .sg ss => .sg ss
  | .pseg ss => .pseg ss
  | .agg cs => .agg (rens m cs)
  | .tup cs => .tup (rens m cs)
  | .unk => .unk
  | .und => .und
  | .int k n => .int k n
  | .bool b => .bool b
  | .prop p d => .prop p d
  | .ro k l => .ro k l
  | .nil => .nil
  | .pro k n => .pro k n
  | .fn f => .fn f
  | .recs n cs => .recs n cs
  | .prec cs => .prec cs
  | .nilp => .nilp
  | .nilf => .nilf
def rens (m : List Nat) : List AV → List AV
  | [] => []
  | v :: vs => ren m v :: rens m vs
end
def renBlk (m : List Nat) : Blk → Blk
  | .cells t cs => .cells t (rens m cs)
  | b => b
def nodupB : List Nat → Bool
  | [] => true
  | a :: r => match has r a with
    | true => false
    | false => nodupB r
def slotIds (S : ASt) : List (Nat × Want) → List Nat
  | [] => []
  | (t, _) :: r => idsOf (S.get t) ++ slotIds S r
def renTm (m : List Nat) (S : ASt) : List (Nat × Want) → List (Nat × AV)
  | [] => []
  | (t, _) :: r => (t, ren m (S.get t)) :: renTm m S r
def pickBlk (m : List Nat) (hp : List Blk) : List Nat → Option (List Blk)
  | [] => some []
  | i :: r => match nth hp i, pickBlk m hp r with
    | some b, some bs => some (renBlk m b :: bs)
    | _, _ => none
/-- The state at a cut: the slots that are looked at later, rows and boxes numbered as they are met. -/
def anorm (ws : List (Nat × Want)) (S : ASt) : Option ASt := match coerces ws S with
  | some S => (fun m => match nodupB m, pickBlk m S.hp m with
    | true, some hp => some { tm := renTm m S ws, hp := hp }
    | _, _ => none) (collect S.hp 200 (slotIds S ws) [])
  | none => none
inductive Ex where
  | norm
  | exit (id : Nat)
  | ret
section
variable {α : Type}
def cutAt (J : Nat → (ASt → Option α) → ASt → Option α) (cuts : List (Nat × List (Nat × Want))) (q : Nat) (F : ASt → Option α) (S : ASt) : Option α := match find cuts q with
  | some ws => match anorm ws S with
    | some S' => J q F S'
    | none => none
  | none => F S
def aloop (body : ASt → (Ex → ASt → Option α) → Option α) (at_ : (ASt → Option α) → ASt → Option α) : Nat → ASt → (Ex → ASt → Option α) → Option α
  | 0, _, _ => none
  | m + 1, S, K => body S fun e S => match e with
    | .norm => at_ (fun S => aloop body at_ m S K) S
    | .exit id => K (.exit id) S
    | .ret => K .ret S
/-- Code: what comes of it, with its way out. J: what is done at a cut; n: rounds. -/
def acode (c : Cfg α) (J : Nat → (ASt → Option α) → ASt → Option α) (cuts : List (Nat × List (Nat × Want))) (n : Nat) : Code → Nat → ASt → (Ex → ASt → Option α) → Option α
  | .skip, _, S, K => K .norm S
  | .label _, _, S, K => K .norm S
  | .region _ ops dr, _, S, K => aregion c ops.toList dr S (K .norm)
  | .seq x y, p, S, K => acode c J cuts n x (2 * p) S fun e S => match e with
    | .norm => cutAt J cuts (2 * p + 1) (fun S => acode c J cuts n y (2 * p + 1) S K) S
    | .exit id => K (.exit id) S
    | .ret => K .ret S
  | .cond x y z, p, S, K => match x with
    | .tmp t => aif (S.get t) (acode c J cuts n y (2 * p) (S.put (some t) (.bool true)) K) (acode c J cuts n z (2 * p + 1) (S.put (some t) (.bool false)) K)
    | .const (.bool b) => if b = true then acode c J cuts n y (2 * p) S K else acode c J cuts n z (2 * p + 1) S K
    | _ => none
  | .block id y, p, S, K => acode c J cuts n y (2 * p) S fun e S => match e with
    | .norm => K .norm S
    | .exit j => match Nat.beq j id with
      | true => K .norm S
      | false => K (.exit j) S
    | .ret => K .ret S
  | .loop y, p, S, K => cutAt J cuts (2 * p + 1) (fun S => aloop (fun S K => acode c J cuts n y (2 * p) S K) (cutAt J cuts (2 * p + 1)) n S K) S
  | .exit id, _, S, K => K (.exit id) S
  | .ret, _, S, K => K .ret S
  | .scope y, p, S, K => acode c J cuts n y (2 * p) S K
  | _, _, _, _ => none
/-- q lies under p. -/
def under (p : Nat) : Nat → Nat → Bool
  | 0, _ => false
  | f + 1, q => match Nat.beq p q with
    | true => true
    | false => match Nat.ble q p with
      | true => false
      | false => under p f (q / 2)
/-- What is done at cut q, as it stands in the code (ms: the rounds that are left, outermost loop first). -/
def acont (c : Cfg α) (J : Nat → (ASt → Option α) → ASt → Option α) (cuts : List (Nat × List (Nat × Want))) (n : Nat) (q : Nat) : Code → Nat → List Nat → (Ex → ASt → Option α) → ASt → Option α
  | .seq x y, p, ms, K => match Nat.beq q (2 * p + 1), under (2 * p + 1) 400 q with
    | true, _ => fun S => acode c J cuts n y (2 * p + 1) S K
    | false, true => acont c J cuts n q y (2 * p + 1) ms K
    | false, false => acont c J cuts n q x (2 * p) ms fun e S => match e with
      | .norm => cutAt J cuts (2 * p + 1) (fun S => acode c J cuts n y (2 * p + 1) S K) S
      | .exit id => K (.exit id) S
      | .ret => K .ret S
  | .cond _ y z, p, ms, K => match under (2 * p) 400 q with
    | true => acont c J cuts n q y (2 * p) ms K
    | false => acont c J cuts n q z (2 * p + 1) ms K
  | .block id y, p, ms, K => acont c J cuts n q y (2 * p) ms fun e S => match e with
    | .norm => K .norm S
    | .exit j => match Nat.beq j id with
      | true => K .norm S
      | false => K (.exit j) S
    | .ret => K .ret S
  | .loop y, p, ms, K => match Nat.beq q (2 * p + 1), ms with
    | true, m :: _ => fun S => aloop (fun S K => acode c J cuts n y (2 * p) S K) (cutAt J cuts (2 * p + 1)) m S K
    | false, m :: ms => acont c J cuts n q y (2 * p) ms fun e S => match e with
      | .norm => cutAt J cuts (2 * p + 1) (fun S => aloop (fun S K => acode c J cuts n y (2 * p) S K) (cutAt J cuts (2 * p + 1)) m S K) S
      | .exit id => K (.exit id) S
      | .ret => K .ret S
    | _, [] => fun _ => none
  | .scope y, p, ms, K => acont c J cuts n q y (2 * p) ms K
  | _, _, _, _ => fun _ => none
def aresult (c : Cfg α) (S : ASt) : ResultVar → Option AV
  | .tmp t => some (S.get t)
  | .cell a t => match find c.T t, S.get a with
    | some ti, .ptr i o => match nth S.hp i, ti.isAgg with
      | some (.cells _ cs), true => match Nat.ble (o + ti.size) cs.length with
        | true => some (.agg ((cs.drop o).take ti.size))
        | false => none
      | some (.cells _ cs), false => nth cs o
      | _, _ => none
    | _, _ => none
def aresults (c : Cfg α) (S : ASt) : List ResultVar → Option (List AV)
  | [] => some []
  | x :: r => match aresult c S x with
    | some v => match aresults c S r with
      | some vs => some (v :: vs)
      | none => none
    | none => none
mutual
/-- A result: rows of the call's own go over to the caller. -/
def toR (hp : List Blk) : AV → Option D
  | .int k n => some (.int k n)
  | .bool b => some (.bool b)
  | .prop p d => some (.bool (@decide p d))
  | .ro k l => some (.ro k l)
  | .nil => some (.ro .u64 [])
  | .own i => match nth hp i with
    | some (.ints e k l) => some (.own e k l)
    | some (.froz k l) => some (.ro k l)
    | some (.fns e fs) => some (.fns e fs)
    | _ => none
  | .fn f => some (.fn f)
  | .nilp => some .nilp
  | .sg ss => some (.sg (dull ss))
  | .rp i o => match nth hp i, o with
    | some (.part t ss), 0 => some (.box t ss)
    | _, _ => none
  | .agg cs => match toRs hp cs with
    | some ds => some (.agg ds)
    | none => none
  | _ => none
def toRs (hp : List Blk) : List AV → Option (List D)
  | [] => some []
  | v :: vs => match toR hp v with
    | some d => match toRs hp vs with
      | some ds => some (d :: ds)
      | none => none
    | none => none
end
mutual
def rIds (hp : List Blk) : AV → List Nat
  | .own i => match nth hp i with
    | some (.ints _ _ _) => [i]
    | some (.fns _ _) => [i]
    | _ => []
  | .rp i o => match nth hp i, o with
    | some (.part _ _), 0 => [i]
    | _, _ => []
  | .agg cs => rIdss hp cs
  | _ => []
def rIdss (hp : List Blk) : List AV → List Nat
  | [] => []
  | v :: vs => rIds hp v ++ rIdss hp vs
end
/-- The rows of the results that the caller may not write. -/
def shared : List AV → List Bool → List Nat
  | [], _ => []
  | v :: vs, true :: os => shared vs os
  | v :: vs, _ :: os => owns v ++ shared vs os
  | v :: vs, [] => owns v ++ shared vs []
def aout (c : Cfg α) (rs : List ResultVar) (os : List Bool) (out : List D → Option α) (S : ASt) : Option α := match aresults c S rs with
  | some vs => (fun hp => match toRs hp vs, nodupB (rIdss hp vs) with
    | some ds, true => out ds
    | _, _ => none) (freeze (shared vs os) S.hp 0)
  | none => none
def aend (c : Cfg α) (rs : List ResultVar) (os : List Bool) (out : List D → Option α) : Ex → ASt → Option α
  | .norm, S => aout c rs os out S
  | .ret, S => aout c rs os out S
  | _, _ => none
def number : List AV → Nat → List (Nat × AV)
  | [], _ => []
  | v :: vs, i => (i, v) :: number vs (i + 1)
def start (ds : List D) : ASt := { tm := number (ofDs ds 0) 0, hp := [] }
/-- A function. -/
def afun (c : Cfg α) (J : Nat → (ASt → Option α) → ASt → Option α) (cuts : List (Nat × List (Nat × Want))) (n : Nat) (body : Code) (rs : List ResultVar) (os : List Bool) (ds : List D) (out : List D → Option α) : Option α :=
  acode c J cuts n body 1 (start ds) (aend c rs os out)
/-- What the borrowed row holds. -/
def borOf : List Blk → Option (List Int)
  | [] => none
  | .bor _ l :: _ => some l
  | _ :: r => borOf r
def aoutw (c : Cfg α) (rs : List ResultVar) (out : List Int → List D → Option α) (S : ASt) : Option α := match aresults c S rs with
  | some vs => match toRs S.hp vs, borOf S.hp with
    | some ds, some l => match scals ds with
      | true => out l ds
      | false => none
    | _, _ => none
  | none => none
def aendw (c : Cfg α) (rs : List ResultVar) (out : List Int → List D → Option α) : Ex → ASt → Option α
  | .norm, S => aoutw c rs out S
  | .ret, S => aoutw c rs out S
  | _, _ => none
def startw (l : List Int) (ds : List D) : ASt := { tm := number (.own 0 :: ofDs ds 0) 0, hp := [.bor .u64 l] }
/-- A function that writes its first argument. -/
def afunw (c : Cfg α) (J : Nat → (ASt → Option α) → ASt → Option α) (cuts : List (Nat × List (Nat × Want))) (n : Nat) (body : Code) (rs : List ResultVar) (l : List Int) (ds : List D) (out : List Int → List D → Option α) : Option α :=
  acode c J cuts n body 1 (startw l ds) (aendw c rs out)
/-- What the borrowed parts hold. -/
def brecOf : List Blk → Option (List Seg)
  | [] => none
  | .bpart ss :: _ => some ss
  | _ :: r => brecOf r
def aoutp (c : Cfg α) (rs : List ResultVar) (out : List Seg → List D → Option α) (S : ASt) : Option α := match aresults c S rs with
  | some vs => match toRs S.hp vs, brecOf S.hp with
    | some ds, some ss => match scals ds with
      | true => out ss ds
      | false => none
    | _, _ => none
  | none => none
def aendp (c : Cfg α) (rs : List ResultVar) (out : List Seg → List D → Option α) : Ex → ASt → Option α
  | .norm, S => aoutp c rs out S
  | .ret, S => aoutp c rs out S
  | _, _ => none
def startp (al : Bool) (ss : List Seg) (ds : List D) : ASt := match al with
  | true => { tm := number (.rp 0 0 :: .rp 0 0 :: ofDs ds 0) 0, hp := [.bpart (dull ss)] }
  | false => { tm := number (.rp 0 0 :: ofDs ds 0) 0, hp := [.bpart (dull ss)] }
/-- A function that writes through its first argument, a pointer. -/
def afunp (c : Cfg α) (J : Nat → (ASt → Option α) → ASt → Option α) (cuts : List (Nat × List (Nat × Want))) (n : Nat) (body : Code) (rs : List ResultVar) (al : Bool) (ss : List Seg) (ds : List D) (out : List Seg → List D → Option α) : Option α :=
  acode c J cuts n body 1 (startp al ss ds) (aendp c rs out)
def aoutq (c : Cfg α) (rs : List ResultVar) (out : Int → Option α) (S : ASt) : Option α := match aresults c S rs with
  | some [.rp i o] => match nth S.hp i with
    | some (.bpart []) => out (o : Int)
    | _ => none
  | _ => none
def aendq (c : Cfg α) (rs : List ResultVar) (out : Int → Option α) : Ex → ASt → Option α
  | .norm, S => aoutq c rs out S
  | .ret, S => aoutq c rs out S
  | _, _ => none
def startq (ds : List D) : ASt := { tm := number (.rp 0 0 :: ofDs ds 0) 0, hp := [.bpart []] }
/-- A function that answers a pointer into what its first argument points to. -/
def afunq (c : Cfg α) (J : Nat → (ASt → Option α) → ASt → Option α) (cuts : List (Nat × List (Nat × Want))) (n : Nat) (body : Code) (rs : List ResultVar) (ds : List D) (out : Int → Option α) : Option α :=
  acode c J cuts n body 1 (startq ds) (aendq c rs out)
def idJ : Nat → (ASt → Option α) → ASt → Option α := fun _ F S => F S
end
def codeOk (nt : Nat) : Code → Bool
  | .region _ ops _ => ops.toList.all fun o => match o.dst with
    | some d => Nat.blt d nt
    | none => true
  | .seq x y => codeOk nt x && codeOk nt y
  | .cond _ x y => codeOk nt x && codeOk nt y
  | .block _ x => codeOk nt x
  | .loop x => codeOk nt x
  | .scope x => codeOk nt x
  | _ => true
section
variable {α : Type}
end
/-- How one result is told. -/
structure Sig1 (α : Type) where
  out : D → Option α
  enc : α → D
  ok : ∀ d x, out d = some x → d = enc x
structure Sig (α : Type) where
  out : List D → Option α
  enc : α → List D
  ok : ∀ d x, out d = some x → d = enc x
def sInt (k : IntKind) : Sig1 Int where
  out := fun d => match d with
    | .int k' n => match kEq k k' with
      | true => some n
      | false => none
    | _ => none
  enc := .int k
  ok := fun d x h => by
    split at h
    · split at h
      · rename_i hk
        rw [← kEq_eq hk]
        simp only [Option.some.injEq] at h
        rw [h]
      · cases h
    · cases h
def sBool : Sig1 Bool where
  out := fun d => match d with
    | .bool b => some b
    | _ => none
  enc := .bool
  ok := fun d x h => by
    split at h
    · simp only [Option.some.injEq] at h
      rw [h]
    · cases h
def sRow (k : IntKind) : Sig1 (List Int) where
  out := fun d => match d with
    | .ro k' l => match kEq k k' with
      | true => some l
      | false => none
    | _ => none
  enc := .ro k
  ok := fun d x h => by
    split at h
    · split at h
      · rename_i hk
        rw [← kEq_eq hk]
        simp only [Option.some.injEq] at h
        rw [h]
      · cases h
    · cases h
def sOwn (e : Nat) (k : IntKind) : Sig1 (List Int) where
  out := fun d => match d with
    | .own e' k' l => match kEq k k', Nat.beq e e' with
      | true, true => some l
      | _, _ => none
    | _ => none
  enc := .own e k
  ok := fun d x h => by
    split at h
    · split at h
      · rename_i hk he
        rw [← kEq_eq hk, ← Nat.eq_of_beq_eq_true he]
        simp only [Option.some.injEq] at h
        rw [h]
      · cases h
    · cases h
def sAgg {α : Type} (s : Sig α) : Sig1 α where
  out := fun d => match d with
    | .agg ds => s.out ds
    | _ => none
  enc := fun x => .agg (s.enc x)
  ok := fun d x h => by
    split at h
    · rw [s.ok _ _ h]
    · cases h
def s0 : Sig Unit where
  out := fun ds => match ds with
    | [] => some ()
    | _ => none
  enc := fun _ => []
  ok := fun d x h => by
    split at h
    · rfl
    · cases h
def s1 {α : Type} (a : Sig1 α) : Sig α where
  out := fun ds => match ds with
    | [d] => a.out d
    | _ => none
  enc := fun x => [a.enc x]
  ok := fun d x h => by
    split at h
    · rw [a.ok _ _ h]
    · cases h
def s2 {α β : Type} (a : Sig1 α) (b : Sig β) : Sig (α × β) where
  out := fun ds => match ds with
    | d :: r => match a.out d with
      | some x => match b.out r with
        | some y => some (x, y)
        | none => none
      | none => none
    | _ => none
  enc := fun x => a.enc x.1 :: b.enc x.2
  ok := fun d x h => by
    split at h
    · split at h
      · rename_i hx
        split at h
        · rename_i hy
          simp only [Option.some.injEq] at h
          subst h
          rw [a.ok _ _ hx, b.ok _ _ hy]
        · cases h
      · cases h
    · cases h
section
variable {α : Type}
end
end Go.Proofs.YtcacmhcekoeblaaDoorA
