/- The abstract machine: an evaluator of the model's code over abstract values (definitions alone). -/
import Derived.Calls
import Derived.Orders
import Derived.LoopN
import Derived.Tactics
import Derived.KernelRfl
namespace Go.Am
set_option autoImplicit false
set_option linter.unusedVariables false

/-- Pure values: no address in them. A slice is its length and its elements' cells, by place. 'bad' tells nothing. -/
inductive PV where
  | bad
  | bool (b : Bool)
  | int (k : IntKind) (n : Int)
  | str (s : ByteArray)
  | seq (n : Nat) (f : Nat → List PV)
  | fn (f : FuncId)
  | nilFn
  | nilPtr
  | nilIf

/-- Abstract values. 'nil': a slice without room; 'seqR': a slice, and the right to append to it; 'ptr': a cell of a box; 'aptr': a cell of an element of a row; 'pref': memory that stays as it is; 'ms': a part of a row. -/
inductive AV where
  | dead
  | pv (p : PV)
  | nil (f : Nat → List PV)
  | seqR (n : Nat) (f : Nat → List PV)
  | ptr (b off : Nat)
  | aptr (b i off : Nat)
  | pref (cs : List PV) (off : Nat)
  | ms (b lo n : Nat)
  | clo (f : FuncId) (caps : List AV)
  | agg (cs : List AV)
  | tup (vs : List AV)
  | ifc (t : TypeId) (v : AV)

abbrev dead : AV := .dead
/-- Surely the value of one cell. -/
def AV.oneC : AV → Bool
  | .dead => false
  | .agg _ => false
  | .tup _ => false
  | _ => true

inductive Blk where
  | box (cs : List AV)
  | arr (sz n : Nat) (f : Nat → List AV)
  | gone

structure St where
  tmps : List AV
  heap : List Blk

inductive Ex where
  | normal
  | exit (id : Nat)
  | ret

/-- What the evaluator is given: the program, how calls are answered, how many rounds a loop may go, which temporaries live at a loop's head. -/
structure Env where
  P : Program
  call : FuncId → List AV → List Blk → Option (AV × List Blk)
  fuel : Nat
  live : Nat → Option (List Nat)

def AV.borrow : AV → AV
  | .seqR n f => .pv (.seq n f)
  | v => v
def AV.norm : AV → AV
  | .nil f => .seqR 0 f
  | v => v
def AV.toPV : AV → PV
  | .pv p => p
  | .nil f => .seq 0 f
  | .seqR n f => .seq n f
  | _ => .bad
def AV.cells : AV → List AV
  | .dead => []
  | .agg cs => cs
  | v => [v]
/-- What a row's element may hold. -/
def AV.flat : AV → AV
  | .pv p => .pv p
  | .nil f => .seqR 0 f
  | .seqR n f => .seqR n f
  | _ => .pv .bad

/-- May stand in a row. -/
def AV.flatB : AV → Bool
  | .pv _ => true
  | .nil _ => true
  | .seqR _ _ => true
  | _ => false
def splitB {R : Type} (b : Bool) (k : Bool → Option R) : Option R := match b with
  | true => k true
  | false => k false
def need {R : Type} (b : Bool) (k : Option R) : Option R := match b with
  | true => k
  | false => none

/-! ### types -/
def zpv (P : Program) : Nat → TypeId → List PV
  | 0, _ => [.bad]
  | n + 1, t => match P.underlying t with
    | some .bool => [.bool false]
    | some (.int k) => [.int k 0]
    | some .string => [.str .empty]
    | some (.slice e) => [.seq 0 fun _ => zpv P n e]
    | some (.struct fs) => fs.toList.flatMap fun f => zpv P n f.type
    | some (.array m e) => (List.replicate m (zpv P n e)).flatten
    | some (.pointer _) => [.nilPtr]
    | some (.func ..) => [.nilFn]
    | some (.interface _) => [.nilIf]
    | _ => [.bad]
def depth : Nat := 8
def zelem (P : Program) (t : TypeId) : Nat → List PV := fun _ => match P.underlying t with
  | some (.slice e) => zpv P depth e
  | _ => []
def zfit1 : Value → PV → Bool
  | .bool false, .bool false => true
  | .int k n, .int k' n' => decide (k = k') && decide (n = n')
  | .string s, .str s' => s.size == 0 && s'.size == 0
  | .slice none 0 0, .seq 0 _ => true
  | .pointer none, .nilPtr => true
  | .nilFunc, .nilFn => true
  | .nilIface, .nilIf => true
  | _, _ => false
def zfit : List Value → List PV → Bool
  | [], [] => true
  | v :: vs, p :: ps => zfit1 v p && zfit vs ps
  | _, _ => false
/-- The cells of a type's zero value. -/
def zeroOf (P : Program) (t : TypeId) : Option (List PV) := match P.info? t with
  | some i => match i.zero with
    | some z => if zfit z.cells.toList (zpv P depth t) then some (zpv P depth t) else none
    | none => none
  | none => none
def zav : PV → AV
  | .seq _ f => .nil f
  | p => .pv p
def sizeT (P : Program) (t : TypeId) : Option Nat := match P.underlying t, P.info? t with
  | some _, some i => some i.size
  | _, _ => none
def isAggT (P : Program) (t : TypeId) : Bool := match P.underlying t with
  | some (.struct _) => true
  | some (.array _ _) => true
  | _ => false
def retype (P : Program) (t : TypeId) : AV → AV
  | .nil f => .nil (zelem P t)
  | v => v

/-! ### operands -/
def ofConst : Value → AV
  | .bool b => .pv (.bool b)
  | .int k n => .pv (.int k n)
  | .string s => .pv (.str s)
  | .slice none 0 0 => .nil fun _ => []
  | .pointer none => .pv .nilPtr
  | .nilFunc => .pv .nilFn
  | .nilIface => .pv .nilIf
  | _ => dead
def getT (st : St) (t : Nat) : AV := st.tmps.getD t dead
def evT (l : List AV) : Operand → AV
  | .tmp t => l.getD t dead
  | .const v => ofConst v
  | .global _ => dead
  | .func f => .pv (.fn f)
def setT (st : St) (d : Option Nat) (v : AV) : St := match d with
  | some d => { st with tmps := st.tmps.set d v }
  | none => st

/-! ### numbers -/
def reach : Nat := 140737488351232
def arith (op : BinOp) (k : IntKind) (a b : Int) : Option PV := match op with
  | .add => some (.int k (k.wrap (a + b)))
  | .sub => some (.int k (k.wrap (a - b)))
  | .mul => some (.int k (k.wrap (a * b)))
  | .and => some (.int k (k.wrap (BitVec.ofInt k.bits a &&& BitVec.ofInt k.bits b).toNat))
  | .or => some (.int k (k.wrap (BitVec.ofInt k.bits a ||| BitVec.ofInt k.bits b).toNat))
  | .xor => some (.int k (k.wrap (BitVec.ofInt k.bits a ^^^ BitVec.ofInt k.bits b).toNat))
  | .andNot => some (.int k (k.wrap (BitVec.ofInt k.bits a &&& ~~~BitVec.ofInt k.bits b).toNat))
  | .eql => some (.bool (a == b))
  | .neq => some (.bool (a != b))
  | .lss => some (.bool (a < b))
  | .leq => some (.bool (a ≤ b))
  | .gtr => some (.bool (a > b))
  | .geq => some (.bool (a ≥ b))
  | _ => none

def part {α : Type} (cs : List α) (off n : Nat) : List α := (cs.drop off).take n
/-- Whether values of a type are alike, cell by cell. -/
def eqV (P : Program) : Nat → TypeId → List AV → List AV → Option Bool
  | 0, _, _, _ => none
  | n + 1, t, xs, ys => match P.underlying t with
    | some .bool => match xs, ys with
      | [.pv (.bool a)], [.pv (.bool b)] => some (a == b)
      | _, _ => none
    | some (.int _) => match xs, ys with
      | [.pv (.int k a)], [.pv (.int k' b)] => if k = k' then some (a == b) else none
      | _, _ => none
    | some .string => match xs, ys with
      | [.pv (.str a)], [.pv (.str b)] => some (a.toList == b.toList)
      | _, _ => none
    | some (.struct fs) => bif P.stoodInHeld t then none else fs.toList.foldr (fun f r => match r with
      | none => none
      | some r => bif f.name == "_" then none else match sizeT P f.type with
        | none => none
        | some m => bif Nat.ble (f.offset + m) xs.length && Nat.ble (f.offset + m) ys.length then match eqV P n f.type (part xs f.offset m) (part ys f.offset m) with
          | some b => some (b && r)
          | none => none
          else none) (some true)
    | _ => none
def eqK {R : Type} (P : Program) (t : TypeId) (x y : AV) (k : Bool → Option R) : Option R := match x, y with
  | .agg xs, .agg ys => bif P.eqGuardType P.depth t then none else match P.underlying t with
    | some (.struct _) => match eqV P 8 t xs ys with
      | some b => k b
      | none => none
    | _ => none
  | .pv (.bool _), .pv (.bool _) => match P.underlying t, eqV P 8 t [x] [y] with
    | some .bool, some b => k b
    | _, _ => none
  | _, _ => none
def binK {R : Type} (P : Program) (op : BinOp) (t : TypeId) (x y : AV) (k : AV → Option R) : Option R := match x, y with
  | .pv (.int kx a), .pv (.int ky b) => match op with
    | .shl => need (decide (0 ≤ b)) (k (.pv (.int kx (kx.wrap (a * 2 ^ min b.toNat kx.bits)))))
    | .shr => need (decide (0 ≤ b)) (k (.pv (.int kx (a.fdiv (2 ^ min b.toNat kx.bits)))))
    | .quo => need (decide (kx = ky)) (need (!decide (b = 0)) (k (.pv (.int kx (kx.wrap (a.tdiv b))))))
    | .rem => need (decide (kx = ky)) (need (!decide (b = 0)) (k (.pv (.int kx (a.tmod b)))))
    | op => need (decide (kx = ky)) (match arith op kx a b with | some p => k (.pv p) | none => none)
  | .pv (.str a), .pv (.str b) => match op with
    | .eql => k (.pv (.bool (a.toList == b.toList)))
    | .neq => k (.pv (.bool !(a.toList == b.toList)))
    | .add => need (Nat.ble (a.size + b.size) reach) (k (.pv (.str (a ++ b))))
    | _ => none
  | x, y => match op with
    | .eql => eqK P t x y fun b => k (.pv (.bool b))
    | .neq => eqK P t x y fun b => k (.pv (.bool !b))
    | _ => none

def unV (op : UnOp) (x : AV) : Option AV := match op, x with
  | .not, .pv (.bool b) => some (.pv (.bool !b))
  | .neg, .pv (.int k n) => some (.pv (.int k (k.wrap (0 - n))))
  | .xor, .pv (.int k n) => some (.pv (.int k (k.wrap (BitVec.ofInt k.bits (if k.signed then -1 else k.max) ^^^ BitVec.ofInt k.bits n).toNat)))
  | _, _ => none

/-! ### memory -/
def upd {α : Type} (f : Nat → α) (i : Nat) (v : α) : Nat → α := fun j => if j = i then v else f j
def getB (H : List Blk) (b : Nat) : Blk := H.getD b .gone
/-- The value of some cells: one, or an aggregate. -/
def ofCells (isAgg : Bool) (cs : List AV) : Option AV := match isAgg with
  | true => some (.agg (cs.map AV.borrow))
  | false => match cs with
    | [v] => some v.borrow
    | _ => none
def splice {α : Type} (cs : List α) (off : Nat) (vs : List α) : List α := cs.take off ++ vs ++ cs.drop (off + vs.length)
def loadV (P : Program) (H : List Blk) (t : TypeId) (a : AV) : Option AV := match sizeT P t with
  | none => none
  | some n => match a with
    | .ptr b off => match getB H b with
      | .box cs => bif Nat.ble (off + n) cs.length then ofCells (isAggT P t) (part cs off n) else none
      | _ => none
    | .aptr b i off => match getB H b with
      | .arr sz _ f => bif Nat.ble (off + n) sz then ofCells (isAggT P t) (part (f i) off n) else none
      | _ => none
    | .pref cs off => bif Nat.ble (off + n) cs.length then ofCells (isAggT P t) ((part cs off n).map .pv) else none
    | _ => none
/-- A cell's value with its right to append: the cell keeps the value alone. -/
def loadTake (P : Program) (H : List Blk) (t : TypeId) (a : AV) : Option (AV × Nat × Blk) := match sizeT P t with
  | some 1 => bif isAggT P t then none else match a with
    | .ptr b off => match getB H b with
      | .box cs => match part cs off 1 with
        | [v] => some (v, b, .box (cs.set off v.borrow))
        | _ => none
      | _ => none
    | .aptr b i off => match getB H b with
      | .arr sz m f => match part (f i) off 1 with
        | [v] => some (v, b, .arr sz m (upd f i ((f i).set off v.borrow)))
        | _ => none
      | _ => none
    | _ => none
  | _ => none
def storeV (P : Program) (H : List Blk) (t : TypeId) (a v : AV) : Option (Nat × Blk) := match sizeT P t with
  | none => none
  | some n => bif Nat.beq v.cells.length n && Nat.ble 1 n && v.cells.all AV.oneC then match a with
    | .ptr b off => match getB H b with
      | .box cs => bif Nat.ble (off + n) cs.length then some (b, .box (splice cs off (v.cells.map AV.norm))) else none
      | _ => none
    | .aptr b i off => match getB H b with
      | .arr sz m f => bif Nat.ble (off + n) sz then some (b, .arr sz m (upd f i (splice (f i) off (v.cells.map AV.flat)))) else none
      | _ => none
    | _ => none
  else none

/-! ### making -/
def fillA (place : Nat → Option (Nat × Nat)) (cells : List AV) : List (Nat × AV) → Option (List AV)
  | [] => some cells
  | (i, v) :: rest => match place i with
    | none => none
    | some (off, size) => bif Nat.beq v.cells.length size && Nat.ble 1 size && Nat.ble (off + size) cells.length then fillA place (splice cells off v.cells) rest else none
def fieldPl (P : Program) (fs : Array Field) (i : Nat) : Option (Nat × Nat) := match fs[i]? with
  | some f => (sizeT P f.type).map fun n => (f.offset, n)
  | none => none
def fieldTy (fs : Array Field) (i : Nat) : TypeId := match fs[i]? with
  | some f => f.type
  | none => 0
def buildV (P : Program) (ρ : Operand → AV) (t : TypeId) (parts : List (Nat × Operand)) : Option AV := match zeroOf P t with
  | none => none
  | some z => match P.underlying t with
    | some (.struct fs) => bif fs.toList.all fun f => (sizeT P f.type).isSome then (fillA (fieldPl P fs) (z.map zav) (parts.map fun x => (x.1, retype P (fieldTy fs x.1) (ρ x.2)))).map .agg else none
    | some (.array _ e) => match sizeT P e with
      | some n => (fillA (fun i => some (i * n, n)) (z.map zav) (parts.map fun x => (x.1, retype P e (ρ x.2)))).map .agg
      | none => none
    | _ => none
/-- A literal's elements, by place. -/
def litSeq (z : Nat → List PV) : List (List PV) → Nat → List PV
  | [], _ => z 0
  | c :: _, 0 => c
  | _ :: cs, i + 1 => litSeq z cs i
def chunk (sz : Nat) (cells : List AV) : Nat → List (List PV)
  | 0 => []
  | n + 1 => (cells.take sz).map AV.toPV :: chunk sz (cells.drop sz) n
def buildSliceV (P : Program) (ρ : Operand → AV) (t : TypeId) (len : Nat) (parts : List (Nat × Operand)) : Option AV := match P.underlying t with
  | some (.slice e) => match sizeT P e, zeroOf P e with
    | some n, some z => bif Nat.ble 1 n && Nat.ble (len * n) 16777216 && Nat.beq z.length n then
        (fillA (fun i => some (i * n, n)) ((List.replicate len (z.map zav)).flatten) (parts.map fun x => (x.1, retype P e (ρ x.2)))).bind fun cs => bif cs.all AV.oneC then some (.seqR len (litSeq (zelem P t) (chunk n cs len))) else none
      else none
    | _, _ => none
  | _ => none
/-- A new variable's block: of an array of cells a row of these, else a box. -/
def newBlk (P : Program) (t : TypeId) (cs : List AV) : Blk := match P.underlying t with
  | some (.array _ _) => .arr 1 cs.length fun i => [(cs.getD i dead).flat]
  | _ => .box (cs.map AV.norm)
def newOk (P : Program) (t : TypeId) (n : Nat) : Bool := match P.underlying t with
  | some (.array _ _) => Nat.ble 1 n
  | _ => true
def newPtr (P : Program) (t : TypeId) (b : Nat) : AV := match P.underlying t with
  | some (.array _ _) => .aptr b 0 0
  | _ => .ptr b 0

/-! ### slices -/
def lenV (P : Program) (t : TypeId) (x : AV) : Option PV := match P.underlying t with
  | some (.array n _) => some (.int .i64 n)
  | some (.slice _) => match x with
    | .pv (.seq n _) => some (.int .i64 n)
    | .nil _ => some (.int .i64 0)
    | .ms _ _ n => some (.int .i64 n)
    | _ => none
  | some .string => match x with
    | .pv (.str s) => some (.int .i64 s.size)
    | _ => none
  | _ => none
def app (n : Nat) (f : Nat → List PV) (m : Nat) (g : Nat → List PV) : Nat → List PV := fun i => if i < n then f i else if i < n + m then g (i - n) else f n
mutual
def zeroPV : PV → PV
  | .bool _ => .bool false
  | .int k _ => .int k 0
  | .str _ => .str .empty
  | .seq _ f => .seq 0 fun _ => zeroPVs (f 0)
  | .fn _ => .nilFn
  | p => p
def zeroPVs : List PV → List PV
  | [] => []
  | p :: ps => zeroPV p :: zeroPVs ps
end
/-- A row's part, told by its elements; zeros beyond. -/
def rowSeq (n lo : Nat) (f : Nat → List AV) : Nat → List PV := fun i => if i < n then (f (lo + i)).map AV.toPV else zeroPVs ((f lo).map AV.toPV)
/-- What may be appended: elements that are pure. -/
def srcOf (H : List Blk) : AV → Option (Nat × (Nat → List PV))
  | .pv (.seq n f) => some (n, f)
  | .nil f => some (0, f)
  | .ms b lo n => match getB H b with
    | .arr _ _ f => some (n, rowSeq n lo f)
    | _ => none
  | _ => none
def addN (lo i : Nat) : Nat := match lo with
  | 0 => i
  | _ => lo + i
def idxK {R : Type} (P : Program) (H : List Blk) (t : TypeId) (x ix : AV) (k : AV → Option R) : Option R := match ix with
  | .pv (.int _ i) => match P.underlying t with
    | some (.array n e) => match sizeT P e, x with
      | some s, .aptr b j 0 => match getB H b with
        | .arr sz m _ => need (Nat.beq sz 1 && Nat.ble 1 s && Nat.ble (j + n * s) m) (need (decide (0 ≤ i)) (need (decide (i < (n : Int))) (k (.aptr b (j + i.toNat * s) 0))))
        | _ => none
      | _, _ => none
    | some (.slice e) => match sizeT P e with
      | none => none
      | some s => match x with
        | .pv (.seq n f) => need (decide (0 ≤ i)) (need (decide (i < (n : Int))) (need (Nat.beq (f i.toNat).length s) (k (.pref (f i.toNat) 0))))
        | .ms b lo n => match getB H b with
          | .arr sz _ _ => need (Nat.beq sz s) (need (decide (0 ≤ i)) (need (decide (i < (n : Int))) (k (.aptr b (addN lo i.toNat) 0))))
          | _ => none
        | _ => none
    | _ => none
  | _ => none
def offsOf (P : Program) (s : TypeId) (i : Nat) : Option Nat := match P.underlying s with
  | some (.struct fs) => match fs[i]? with
    | some f => match sizeT P f.type with
      | some (_ + 1) => some f.offset
      | _ => none
    | none => none
  | _ => none
def fieldAddrV (P : Program) (s : TypeId) (x : AV) (i : Nat) : Option AV := match offsOf P s i with
  | none => none
  | some o => match x with
    | .ptr b off => some (.ptr b (off + o))
    | .aptr b j off => some (.aptr b j (off + o))
    | .pref cs off => some (.pref cs (off + o))
    | _ => none
def fieldV (P : Program) (s : TypeId) (x : AV) (i : Nat) : Option AV := match P.underlying s with
  | some (.struct fs) => match fs[i]?, x with
    | some f, .agg cs => match sizeT P f.type with
      | some n => bif Nat.ble (f.offset + n) cs.length then ofCells (isAggT P f.type) (part cs f.offset n) else none
      | none => none
    | _, _ => none
  | _ => none
/-- A bound of a slice expression: its number, if it is from 0 to n. -/
def boundK {R : Type} (x : Option AV) (dflt n : Nat) (k : Nat → Option R) : Option R := match x with
  | none => k dflt
  | some (.pv (.int _ i)) => need (decide (0 ≤ i)) (need (decide (i ≤ (n : Int))) (k i.toNat))
  | _ => none
def sliceK {R : Type} (P : Program) (H : List Blk) (t : TypeId) (x : AV) (lo hi mx : Option AV) (k : AV → Option R) : Option R := match P.underlying t with
  | some (.slice e) => match sizeT P e with
    | none => none
    | some z => match mx with
      | some (.pv (.int _ 0)) => match x, lo, hi with
        | .pv (.seq _ _), none, some (.pv (.int _ 0)) => k (.nil (zelem P t))
        | .nil _, none, some (.pv (.int _ 0)) => k (.nil (zelem P t))
        | _, _, _ => none
      | some _ => none
      | none => match x with
        | .pv (.seq n f) => boundK hi n n fun h => boundK lo 0 h fun l => need (Nat.beq (f l).length z) (k (.pv (.seq (h - l) fun i => if i < h - l then f (l + i) else zelem P t i)))
        | .ms b s n => match getB H b with
          | .arr sz _ _ => need (Nat.beq z sz) (boundK hi n n fun h => boundK lo 0 h fun l => k (.ms b (s + l) (h - l)))
          | _ => none
        | _ => none
  | some .string => match mx with
    | some _ => none
    | none => match x with
      | .pv (.str s) => boundK hi s.size s.size fun h => boundK lo 0 h fun l => k (.pv (.str (s.extract l h)))
      | _ => none
  | _ => none

/-! ### calls -/
mutual
def AV.refs : AV → List Nat
  | .ptr b _ => [b]
  | .aptr b _ _ => [b]
  | .ms b _ _ => [b]
  | .clo _ caps => AV.refsL caps
  | .agg cs => AV.refsL cs
  | .tup vs => AV.refsL vs
  | .ifc _ v => v.refs
  | _ => []
def AV.refsL : List AV → List Nat
  | [] => []
  | v :: vs => v.refs ++ AV.refsL vs
end
mutual
/-- Blocks renumbered; what has no new number is lost. -/
def AV.ren (r : Nat → Option Nat) : AV → AV
  | .ptr b off => match r b with | some c => .ptr c off | none => .pv .bad
  | .aptr b i off => match r b with | some c => .aptr c i off | none => .pv .bad
  | .ms b lo n => match r b with | some c => .ms c lo n | none => .pv .bad
  | .clo f caps => .clo f (AV.renL r caps)
  | .agg cs => .agg (AV.renL r cs)
  | .tup vs => .tup (AV.renL r vs)
  | .ifc t v => .ifc t (v.ren r)
  | .dead => .dead
  | .pv p => .pv p
  | .nil f => .nil f
  | .seqR n f => .seqR n f
  | .pref cs off => .pref cs off
def AV.renL (r : Nat → Option Nat) : List AV → List AV
  | [] => []
  | v :: vs => v.ren r :: AV.renL r vs
end
def Blk.refs : Blk → List Nat
  | .box cs => AV.refsL cs
  | _ => []
def Blk.ren (r : Nat → Option Nat) : Blk → Blk
  | .box cs => .box (AV.renL r cs)
  | b => b
def reached (H : List Blk) : Nat → List Nat → List Nat → List Nat
  | 0, _, acc => acc
  | _ + 1, [], acc => acc
  | n + 1, b :: todo, acc => bif acc.elem b then reached H n todo acc else reached H n ((getB H b).refs ++ todo) (acc ++ [b])
def place (l : List Nat) (b : Nat) : Option Nat := match l with
  | [] => none
  | x :: xs => bif Nat.beq x b then some 0 else (place xs b).map (· + 1)
def nthO (l : List Nat) (i : Nat) : Option Nat := l[i]?
def zipB : List Nat → List Blk → List (Nat × Blk)
  | b :: bs, x :: xs => (b, x) :: zipB bs xs
  | _, _ => []

/-- What an operation does: the value that it yields, whose right it takes, the blocks that it leaves. -/
structure Eff where
  val : AV
  tk : Option Nat := none
  hb : List (Nat × Blk) := []
def putBlks (H : List Blk) : List (Nat × Blk) → List Blk
  | [] => H
  | (b, x) :: l => putBlks (H.set b x) l
def dropRight (l : List AV) : Option Nat → List AV
  | none => l
  | some s => l.set s (l.getD s dead).borrow
def Eff.on (e : Eff) (dst : Option Nat) (st : St) : St := setT { tmps := dropRight st.tmps e.tk, heap := putBlks st.heap e.hb } dst e.val

/-- A call: the callee is handed the blocks that its arguments lead to, and hands them back. -/
def callOk (P : Program) (f : FuncId) : Bool := match P.funcs[f]? with
  | some fn => match fn.body with
    | some _ => !(fn.name == "runtime.NumGoroutine")
    | none => false
  | none => false
def callK {R : Type} (E : Env) (quiet : Bool) (f : FuncId) (args : List AV) (H : List Blk) (k : Eff → Option R) : Option R :=
  let l := reached H 64 (AV.refsL args) []
  need (callOk E.P f && (!quiet || l.isEmpty) && l.all fun b => match getB H b with | .gone => false | _ => true) (match E.call f (AV.renL (place l) args) (l.map fun b => (getB H b).ren (place l)) with
  | some (r, H') => need (Nat.beq H'.length l.length) (k { val := r.ren (nthO l), hb := zipB l (H'.map (Blk.ren (nthO l))) })
  | none => none)
def methodOf (P : Program) (t : TypeId) (name : String) : Option (FuncId × Bool) := match P.info? t with
  | some i => match i.methods.find? (·.name == name) with
    | some m => if m.path.size = 0 then m.func else none
    | none => none
  | none => none
def recvV (P : Program) (H : List Blk) (t : TypeId) (byPtr : Bool) (v : AV) : Option AV := match byPtr, P.underlying t with
  | true, some (.pointer _) => some v
  | false, some (.pointer e) => loadV P H e v
  | false, some _ => some v
  | _, _ => none
def argsV (P : Program) (ρ : Operand → AV) : List Operand → List TypeId → List AV
  | x :: xs, t :: ts => retype P t (ρ x) :: argsV P ρ xs ts
  | x :: xs, [] => ρ x :: argsV P ρ xs []
  | [], _ => []

/-! ### operations -/
/-! #### whose order may be drawn -/
inductive Cls where
  | n | r | a | t | s
/-- Whose value an append of the region asks for first. -/
def takes (ops : List Oper) (t : Nat) : Bool := ops.any fun o => match o.op with
  | .call { callee := .builtin .append, args, .. } => match args.toList with
    | .tmp u :: _ => Nat.beq u t
    | _ => false
  | _ => false
def takesD (ops : List Oper) (d : Option Nat) : Bool := match d with
  | some d => takes ops d
  | none => false
def makesB (o : Oper) : Bool := match o.op with
  | .alloc _ => true
  | .box _ _ => true
  | .makeSlice _ _ _ => true
  | _ => false
def rank (ops : List Oper) (i : Nat) : Nat := ((ops.take i).filter makesB).length
def tkOf : Operand → Option Nat
  | .tmp t => some t
  | _ => none
/-- How an operation stands to memory: not at all, reads, makes a block, takes a right, writes. -/
def clsOf (ops : List Oper) (o : Oper) : Cls := match o.op with
  | .alloc _ => .a
  | .box _ _ => .a
  | .makeSlice _ _ _ => .a
  | .load _ _ => bif takesD ops o.dst then .t else .r
  | .store _ _ _ => .s
  | .indexAddr _ _ _ => .r
  | .slice _ _ _ _ _ => .r
  | .call c => match c.callee with
    | .builtin .append => .r
    | .invoke _ _ => .r
    | _ => .n
  | _ => .n
/-- Whose right an operation may take. -/
def tkOp (o : Oper) : Option Nat := match o.op with
  | .move x => tkOf x
  | .assign x => tkOf x
  | .store _ _ x => tkOf x
  | .call c => match c.callee with
    | .builtin .append => match c.args.toList with
      | x :: _ => tkOf x
      | [] => none
    | _ => none
  | _ => none
def opTmps (o : Oper) : List Nat := o.op.operands.toList.filterMap tkOf
def gTmp (ops : List Oper) (o : Oper) : List Nat := match o.guard with
  | some (g, _) => match ops[g]? with
    | some q => match q.dst with
      | some d => [d]
      | none => []
    | none => []
  | none => []
def looksL (ops : List Oper) (o : Oper) : List Nat := opTmps o ++ gTmp ops o
def hasN (l : List Nat) (d : Nat) : Bool := match l with
  | [] => false
  | x :: xs => Nat.beq x d || hasN xs d
def awayO (l : List Nat) : Option Nat → Bool
  | some d => !hasN l d
  | none => true
def optNe : Option Nat → Option Nat → Bool
  | some a, some b => !Nat.beq a b
  | _, _ => true
/-- The operation number 'j', ahead of number 'i' in the text, may as well come behind it. -/
def okPair (ops : List Oper) (j : Nat) (p : Oper) (i : Nat) (q : Oper) : Bool :=
  awayO (looksL ops q) p.dst && awayO (looksL ops p) q.dst && optNe p.dst q.dst && optNe (tkOp p) (tkOp q) && match clsOf ops p, clsOf ops q with
    | .n, _ => true
    | _, .n => true
    | .r, .r => true
    | .r, .a => true
    | .a, .a => true
    | .t, .a => true
    | .s, .a => true
    | .r, .s => Nat.beq (rank ops j) 0
    | _, _ => false
def bindsL (o : Oper) : List Nat := (o.after.toList.filter fun e => match e.ground with | .textOnly _ => false | .gcOnly _ => false | _ => true).map (·.on)
def maskOf (ms : List Nat) : List Nat → Nat
  | [] => 0
  | e :: es => ((1 <<< e) ||| ms.getD e 0) ||| maskOf ms es
/-- What goes ahead of each operation. -/
def masks (ops : List Oper) : List Oper → List Nat → List Nat
  | [], ms => ms
  | o :: rest, ms => masks ops rest (ms ++ [maskOf ms (bindsL o)])
def pairsOk (ops : List Oper) (f : Nat → Oper → Nat → Oper → Bool) (m i : Nat) (q : Oper) : Nat → List Oper → Bool
  | _, [] => true
  | j, p :: rest => (Nat.ble i j || m.testBit j || f j p i q) && pairsOk ops f m i q (j + 1) rest
def rowsOk (ops : List Oper) (f : Nat → Oper → Nat → Oper → Bool) : Nat → List Oper → List Nat → Bool
  | i, q :: rest, m :: ms => pairsOk ops f m i q 0 ops && rowsOk ops f (i + 1) rest ms
  | _, _, _ => true
def noRS (ops : List Oper) : Bool := rowsOk ops (fun _ p _ q => match clsOf ops p, clsOf ops q with | .r, .s => false | _, _ => true) 0 ops (masks ops ops [])
def backOk : Nat → List Oper → Bool
  | _, [] => true
  | i, o :: rest => ((bindsL o).all fun e => Nat.ble (e + 1) i) && backOk (i + 1) rest
def drawOk (ops : List Oper) : Bool := backOk 0 ops && rowsOk ops (okPair ops) 0 ops (masks ops ops [])

def appendK {R : Type} (P : Program) (H : List Blk) (t : TypeId) (s : AV) (tk : Option Nat) (x : AV) (k : Eff → Option R) : Option R :=
  match P.underlying t with
  | some (.slice e) => match P.info? e, zeroOf P e with
    | some i, some z => need (Nat.ble 1 i.size && Nat.ble 1 i.bytes && Nat.beq z.length i.size) (match srcOf H x with
      | none => none
      | some (m, g) => match s with
        | .seqR n f => need (Nat.beq (f n).length i.size && Nat.beq (g 0).length i.size) (need (Nat.ble ((n + m) * i.bytes) reach) (k { val := .seqR (n + m) (app n f m g), tk := tk }))
        | .nil f => need (Nat.beq (f 0).length i.size && Nat.beq (g 0).length i.size) (need (Nat.ble (m * i.bytes) reach) (k { val := .seqR m (app 0 f m g), tk := tk }))
        | _ => none)
    | _, _ => none
  | _ => none

def builtinK {R : Type} (P : Program) (ρ τ : Operand → AV) (H : List Blk) (b : Builtin) (args : List Operand) (ts : List TypeId) (k : Eff → Option R) : Option R :=
  match b with
  | .len => match args, ts with
    | [x], [t] => match lenV P t (ρ x) with
      | some p => k { val := .pv p }
      | none => none
    | _, _ => none
  | .append => match args, ts with
    | [s, x], [t, u] => need (Nat.beq t u) (appendK P H t (τ s) (tkOf s) (retype P u (ρ x)) k)
    | _, _ => none
  | .max => match args with
    | [x, y] => match ρ x, ρ y with
      | .pv (.int k1 a), .pv (.int _ b) => k { val := .pv (.int k1 (if b > a then b else a)) }
      | _, _ => none
    | _ => none
  | .min => match args with
    | [x, y] => match ρ x, ρ y with
      | .pv (.int k1 a), .pv (.int _ b) => k { val := .pv (.int k1 (if b < a then b else a)) }
      | _, _ => none
    | _ => none
  | _ => none

def gone? (H : List Blk) (b : Nat) : Bool := Nat.ble (b + 1) H.length && match getB H b with
  | .gone => true
  | _ => false

/-- 'ρ': an operand's value; 'τ': with its right to append; 'H': the blocks ahead of the operation's own, 'HH' all of them. -/
def effK {R : Type} (E : Env) (quiet : Bool) (ops : List Oper) (h0 ix : Nat) (o : Oper) (ρ τ : Operand → AV) (H HH : List Blk) (k : Eff → Option R) : Option R :=
  match o.op with
  | .move x => bif takesD ops o.dst then k { val := (retype E.P o.type (τ x)).norm, tk := tkOf x } else k { val := retype E.P o.type (ρ x) }
  | .assign x => k { val := (retype E.P o.type (τ x)).norm, tk := tkOf x }
  | .pick c a b => match ρ c with
    | .pv (.bool t) => splitB t fun t => k { val := match t with | true => ρ a | false => ρ b }
    | _ => none
  | .alloc e => match zeroOf E.P e with
    | some z => need (gone? HH (h0 + rank ops ix) && newOk E.P e z.length) (k { val := newPtr E.P e (h0 + rank ops ix), hb := [(h0 + rank ops ix, newBlk E.P e (z.map zav))] })
    | none => none
  | .box e x => need (gone? HH (h0 + rank ops ix) && (newOk E.P e (retype E.P e (ρ x)).cells.length && Nat.ble 1 (retype E.P e (ρ x)).cells.length && (retype E.P e (ρ x)).cells.all AV.oneC)) (k { val := newPtr E.P e (h0 + rank ops ix), hb := [(h0 + rank ops ix, newBlk E.P e (retype E.P e (ρ x)).cells)] })
  | .build t parts => match buildV E.P ρ t parts.toList with
    | some x => k { val := x }
    | none => none
  | .buildSlice t len parts => match buildSliceV E.P ρ t len parts.toList with
    | some x => k { val := x }
    | none => none
  | .load t a => bif takesD ops o.dst then match loadTake E.P H t (ρ a) with
      | some (x, b, B) => k { val := x, hb := [(b, B)] }
      | none => none
    else match loadV E.P H t (ρ a) with
      | some x => k { val := x }
      | none => none
  | .store t a x => match storeV E.P H t (ρ a) (retype E.P t (τ x)) with
    | some (b, B) => need (!quiet || Nat.ble h0 b || noRS ops) (k { val := dead, tk := tkOf x, hb := [(b, B)] })
    | none => none
  | .nilCheck x => match ρ x with
    | .ptr b off => k { val := .ptr b off }
    | .aptr b i off => k { val := .aptr b i off }
    | .pref cs off => k { val := .pref cs off }
    | _ => none
  | .binOp op t x y _ => binK E.P op t (ρ x) (ρ y) fun v => k { val := v }
  | .unOp op _ x => match unV op (ρ x) with
    | some r => k { val := r }
    | none => none
  | .convert src dst x => match E.P.underlying src, E.P.underlying dst, ρ x with
    | some _, some (.int kd), .pv (.int _ n) => k { val := .pv (.int kd (kd.wrap n)) }
    | _, _, _ => none
  | .makeInterface t x => match E.P.underlying t with
    | some (.interface _) => none
    | some _ => k { val := .ifc t (ρ x) }
    | none => none
  | .makeFunc (.func f) first caps => match first.toList with
    | [] => k { val := .clo f (caps.toList.map ρ) }
    | _ => none
  | .makeSlice t l c => match E.P.underlying t, ρ l, ρ c with
    | some (.slice e), .pv (.int _ n), .pv (.int _ m) => match E.P.info? e, zeroOf E.P e with
      | some i, some z => need (Nat.ble 1 i.size && Nat.beq z.length i.size && Nat.ble 1 i.bytes) (need (decide (0 ≤ n)) (need (decide (n = m)) (need (decide (n * i.bytes ≤ reach)) (need (gone? HH (h0 + rank ops ix))
          (k { val := .ms (h0 + rank ops ix) 0 n.toNat, hb := [(h0 + rank ops ix, .arr i.size n.toNat fun _ => (z.map zav).map AV.flat)] })))))
      | _, _ => none
    | _, _, _ => none
  | .slice t x lo hi mx => sliceK E.P H t (ρ x) (lo.map ρ) (hi.map ρ) (mx.map ρ) fun v => k { val := v }
  | .fieldAddr s x f => match fieldAddrV E.P s (ρ x) f with
    | some r => k { val := r }
    | none => none
  | .field s x f => match fieldV E.P s (ρ x) f with
    | some r => k { val := r }
    | none => none
  | .indexAddr t x i => idxK E.P H t (ρ x) (ρ i) fun v => k { val := v }
  | .index t x i => match E.P.underlying t, ρ x, ρ i with
    | some .string, .pv (.str s), .pv (.int _ i) => need (decide (0 ≤ i)) (need (decide (i < (s.size : Int))) (k { val := .pv (.int .u8 (s[i.toNat]!).toNat) }))
    | _, _, _ => none
  | .typeAssert x _ asserted ok => match E.P.underlying asserted, ρ x with
    | some (.interface _), _ => none
    | some _, .ifc t v => need (Nat.beq t asserted) (k { val := match ok with | true => .tup [v, .pv (.bool true)] | false => v })
    | _, _ => none
  | .extract x i => match ρ x with
    | .tup vs => match vs[i]? with
      | some v => k { val := v.borrow }
      | none => none
    | _ => none
  | .call c => match c.callee with
    | .builtin b => builtinK E.P ρ τ H b c.args.toList c.argTypes.toList k
    | .value f => match ρ f with
      | .pv (.fn g) => callK E quiet g (argsV E.P ρ c.args.toList c.argTypes.toList) H k
      | .clo g caps => callK E quiet g (argsV E.P ρ c.args.toList c.argTypes.toList ++ caps) H k
      | _ => none
    | .invoke r name => match ρ r with
      | .ifc t v => match methodOf E.P t name with
        | some (g, byPtr) => match recvV E.P H t byPtr v with
          | some x => callK E quiet g (x :: argsV E.P ρ c.args.toList c.argTypes.toList) H k
          | none => none
        | none => none
      | _ => none
  | _ => none

/-! ### regions, code, functions -/
def rhoOf (st : St) (x : Operand) : AV := (evT st.tmps x).borrow
def effAt {R : Type} (E : Env) (quiet : Bool) (ops : List Oper) (h0 ix : Nat) (o : Oper) (st : St) (k : St → Option R) : Option R :=
  effK E quiet ops h0 ix o (rhoOf st) (evT st.tmps) (st.heap.take (h0 + rank ops ix)) st.heap fun e => k (e.on o.dst st)
/-- A truth value in a temporary, both ways; the temporary is then known. -/
def branchK {R : Type} (st : St) (t : Nat) (k : Bool → St → Option R) : Option R := match (getT st t).borrow with
  | .pv (.bool b) => splitB b fun b => k b { st with tmps := st.tmps.set t (.pv (.bool b)) }
  | _ => none
def guardT (ops : List Oper) (j : Nat) : Option Nat := match ops[j]? with
  | some o => o.dst
  | none => none
/-- What an operation yields that is left out. -/
def undefV : AV := .tup []
/-- The operation number 'ix'. -/
def stepK {R : Type} (E : Env) (quiet : Bool) (ops : List Oper) (h0 ix : Nat) (o : Oper) (st : St) (k : St → Option R) : Option R := match o.guard with
  | none => effAt E quiet ops h0 ix o st k
  | some (j, want) => match guardT ops j with
    | none => none
    | some g => match getT st g with
      | .tup _ => k (setT st o.dst undefV)
      | _ => branchK st g fun b st => match b, want with
        | true, true => effAt E quiet ops h0 ix o st k
        | false, false => effAt E quiet ops h0 ix o st k
        | _, _ => k (setT st o.dst undefV)
def opsK {R : Type} (E : Env) (quiet : Bool) (ops : List Oper) (h0 : Nat) : Nat → List Oper → St → (St → Option R) → Option R
  | _, [], st, k => k st
  | ix, o :: rest, st, k => stepK E quiet ops h0 ix o st fun st => opsK E quiet ops h0 (ix + 1) rest st k
def grow (ops : List Oper) (st : St) : St := { st with heap := st.heap ++ List.replicate (rank ops ops.length) .gone }

def iter {R : Type} (F : St → (St → Option R) → Option R) : Nat → St → Option R
  | 0, _ => none
  | n + 1, st => F st (iter F n)
def firstRegion : Code → Nat
  | .region id _ _ => id
  | .seq a _ => firstRegion a
  | .block _ c => firstRegion c
  | .loop c => firstRegion c
  | .scope c => firstRegion c
  | _ => 0
def maskL (keep : List Nat) : Nat → List AV → List AV
  | _, [] => []
  | i, v :: vs => (bif keep.elem i then v else dead) :: maskL keep (i + 1) vs
def below (h : Nat) (b : Nat) : Option Nat := bif Nat.ble (b + 1) h then some b else none
/-- What a loop's head keeps: the temporaries that live, the blocks that were there. -/
def headSt (live : Option (List Nat)) (h : Nat) (st : St) : St :=
  { tmps := AV.renL (below h) (match live with | some l => maskL l 0 st.tmps | none => st.tmps), heap := (st.heap.take h).map (Blk.ren (below h)) }

/-- What is left at a loop's end. -/
def outSt (live : Option (List Nat)) (h : Nat) (st : St) : St := match live with
  | some l => headSt (some l) h st
  | none => st
def atEnd : Nat := 1000000

def execK {R : Type} (E : Env) : Code → St → (Ex → St → Option R) → Option R
  | .skip, st, k => k .normal st
  | .region _ ops draw, st, k => need (!draw || drawOk ops.toList) (opsK E draw ops.toList st.heap.length 0 ops.toList (grow ops.toList st) fun st => k .normal st)
  | .seq a b, st, k => execK E a st fun e st => match e with
    | .normal => execK E b st k
    | .exit i => k (.exit i) st
    | .ret => k .ret st
  | .cond c a b, st, k => match c with
    | .tmp t => branchK st t fun x st => match x with
      | true => execK E a st k
      | false => execK E b st k
    | .const (.bool true) => execK E a st k
    | .const (.bool false) => execK E b st k
    | _ => none
  | .block id c, st, k => execK E c st fun e st => match e with
    | .exit i => bif Nat.beq i id then k .normal st else k (.exit i) st
    | .normal => k .normal st
    | .ret => k .ret st
  | .loop c, st, k => iter (fun s self => execK E c s fun e st' => match e with
    | .normal => self (headSt (E.live (firstRegion c)) st.heap.length st')
    | .exit i => k (.exit i) (outSt (E.live (atEnd + firstRegion c)) st.heap.length st')
    | .ret => k .ret (outSt (E.live (atEnd + firstRegion c)) st.heap.length st')) E.fuel (headSt (E.live (firstRegion c)) st.heap.length st)
  | .exit id, st, k => k (.exit id) st
  | .ret, st, k => k .ret st
  | _, _, _ => none

/-- A result: what it holds of the callee's own rows is told as it is now. -/
def outS (m : Nat) (H : List Blk) : AV → AV
  | .ms b lo n => bif Nat.ble (b + 1) m then .ms b lo n else match getB H b with
    | .arr _ _ f => .pv (.seq n (rowSeq n lo f))
    | _ => .pv .bad
  | .nil f => .pv (.seq 0 f)
  | v => v.borrow
def outV (m : Nat) (H : List Blk) : AV → AV
  | .agg cs => .agg (cs.map (outS m H))
  | v => outS m H v
def resOne (P : Program) (st : St) : ResultVar → Option AV
  | .tmp t => some (getT st t)
  | .cell a t => loadV P st.heap t (getT st a)
def resAll (P : Program) (st : St) : List ResultVar → Option (List AV)
  | [] => some []
  | r :: rs => match resOne P st r with
    | some v => (resAll P st rs).map (v :: ·)
    | none => none
def endK (P : Program) (fn : Func) (m : Nat) (st : St) : Option (AV × List Blk) := match resAll P st fn.results.toList with
  | some [v] => some ((outV m st.heap v).ren (below m), (st.heap.take m).map (Blk.ren (below m)))
  | some vs => some (.tup (AV.renL (below m) (vs.map (outV m st.heap))), (st.heap.take m).map (Blk.ren (below m)))
  | none => none
/-- Which temporaries live at the heads of a function's loops. -/
abbrev Lives := FuncId → Nat → Option (List Nat)
def bodyK (P : Program) (L : Lives) (fuel : Nat) (call : FuncId → List AV → List Blk → Option (AV × List Blk)) (f : FuncId) (fn : Func) (args : List AV) (H : List Blk) : Option (AV × List Blk) := match fn.body with
  | some c => execK { P, call, fuel, live := L f } c ⟨args ++ List.replicate (fn.ntmps - args.length) dead, H⟩ fun e st => match e with
    | .normal => endK P fn H.length st
    | .ret => endK P fn H.length st
    | .exit _ => none
  | none => none
def callN (P : Program) (L : Lives) (fuel : Nat) : Nat → FuncId → List AV → List Blk → Option (AV × List Blk)
  | 0, _, _, _ => none
  | n + 1, f, args, H => match P.funcs[f]? with
    | some fn => bodyK P L fuel (callN P L fuel n) f fn args H
    | none => none

/-! ## by questions -/
/-- One answer on a path. -/
inductive Say where
  | b (d : Bool)
  | c (r : AV) (H : List Blk)
  | l (e : Ex) (s : St)
  | e (x : Eff)
  | keep
/-- What is to be shown of the answers. -/
inductive Ob where
  | t (b d : Bool)
  | e (x y : Eff)
  | c (f : FuncId) (args : List AV) (H : List Blk) (r : AV) (H' : List Blk)
  | l (c : Code) (m : Nat) (s : St) (e : Ex) (s' : St)

abbrev Ans (R : Type) := List Say → Option (List Ob × R)
def fail {R : Type} : Ans R := fun _ => none
def fin {R : Type} (r : R) : Ans R := fun _ => some ([], r)
def also {R : Type} (o : Ob) : Option (List Ob × R) → Option (List Ob × R)
  | some (l, r) => some (o :: l, r)
  | none => none
/-- A check that is known as it stands. -/
def st! {R : Type} (b : Bool) (k : Ans R) : Ans R := match b with
  | true => k
  | false => fail
def nd {R : Type} (b : Bool) (k : Ans R) : Ans R := fun s => also (.t b true) (k s)
def sp {R : Type} (b : Bool) (k : Bool → Ans R) : Ans R := fun s => match s with
  | .b d :: s => also (.t b d) (k d s)
  | .keep :: s => match b with
    | true => k true s
    | false => k false s
  | _ => none
def rw! {R : Type} (ask : Bool) (x : Eff) (k : Eff → Ans R) : Ans R := match ask with
  | false => k x
  | true => fun s => match s with
    | .e y :: s => also (.e x y) (k y s)
    | .keep :: s => k x s
    | _ => none
def cl {R : Type} (f : FuncId) (args : List AV) (H : List Blk) (k : AV → List Blk → Ans R) : Ans R := fun s => match s with
  | .c r H' :: s => also (.c f args H r H') (k r H' s)
  | _ => none
def lp {R : Type} (c : Code) (m : Nat) (x : St) (k : Ex → St → Ans R) : Ans R := fun s => match s with
  | .l e x' :: s => also (.l c m x e x') (k e x' s)
  | _ => none

section
variable {R : Type}
def eqG (P : Program) (t : TypeId) (x y : AV) (k : Bool → Ans R) : Ans R := match x, y with
  | .agg xs, .agg ys => bif P.eqGuardType P.depth t then fail else match P.underlying t with
    | some (.struct _) => match eqV P 8 t xs ys with
      | some b => k b
      | none => fail
    | _ => fail
  | .pv (.bool _), .pv (.bool _) => match P.underlying t, eqV P 8 t [x] [y] with
    | some .bool, some b => k b
    | _, _ => fail
  | _, _ => fail
def binG (P : Program) (op : BinOp) (t : TypeId) (x y : AV) (k : AV → Ans R) : Ans R := match x, y with
  | .pv (.int kx a), .pv (.int ky b) => match op with
    | .shl => nd (decide (0 ≤ b)) (k (.pv (.int kx (kx.wrap (a * 2 ^ min b.toNat kx.bits)))))
    | .shr => nd (decide (0 ≤ b)) (k (.pv (.int kx (a.fdiv (2 ^ min b.toNat kx.bits)))))
    | .quo => st! (decide (kx = ky)) (nd (!decide (b = 0)) (k (.pv (.int kx (kx.wrap (a.tdiv b))))))
    | .rem => st! (decide (kx = ky)) (nd (!decide (b = 0)) (k (.pv (.int kx (a.tmod b)))))
    | op => st! (decide (kx = ky)) (match arith op kx a b with | some p => k (.pv p) | none => fail)
  | .pv (.str a), .pv (.str b) => match op with
    | .eql => k (.pv (.bool (a.toList == b.toList)))
    | .neq => k (.pv (.bool !(a.toList == b.toList)))
    | .add => nd (Nat.ble (a.size + b.size) reach) (k (.pv (.str (a ++ b))))
    | _ => fail
  | x, y => match op with
    | .eql => eqG P t x y fun b => k (.pv (.bool b))
    | .neq => eqG P t x y fun b => k (.pv (.bool !b))
    | _ => fail
def idxG (P : Program) (H : List Blk) (t : TypeId) (x ix : AV) (k : AV → Ans R) : Ans R := match ix with
  | .pv (.int _ i) => match P.underlying t with
    | some (.array n e) => match sizeT P e, x with
      | some s, .aptr b j 0 => match getB H b with
        | .arr sz m _ => st! (Nat.beq sz 1 && Nat.ble 1 s && Nat.ble (j + n * s) m) (nd (decide (0 ≤ i)) (nd (decide (i < (n : Int))) (k (.aptr b (j + i.toNat * s) 0))))
        | _ => fail
      | _, _ => fail
    | some (.slice e) => match sizeT P e with
      | none => fail
      | some s => match x with
        | .pv (.seq n f) => nd (decide (0 ≤ i)) (nd (decide (i < (n : Int))) (st! (Nat.beq (f i.toNat).length s) (k (.pref (f i.toNat) 0))))
        | .ms b lo n => match getB H b with
          | .arr sz _ _ => st! (Nat.beq sz s) (nd (decide (0 ≤ i)) (nd (decide (i < (n : Int))) (k (.aptr b (addN lo i.toNat) 0))))
          | _ => fail
        | _ => fail
    | _ => fail
  | _ => fail
def boundG (x : Option AV) (dflt n : Nat) (k : Nat → Ans R) : Ans R := match x with
  | none => k dflt
  | some (.pv (.int _ i)) => nd (decide (0 ≤ i)) (nd (decide (i ≤ (n : Int))) (k i.toNat))
  | _ => fail
def sliceG (P : Program) (H : List Blk) (t : TypeId) (x : AV) (lo hi mx : Option AV) (k : AV → Ans R) : Ans R := match P.underlying t with
  | some (.slice e) => match sizeT P e with
    | none => fail
    | some z => match mx with
      | some (.pv (.int _ 0)) => match x, lo, hi with
        | .pv (.seq _ _), none, some (.pv (.int _ 0)) => k (.nil (zelem P t))
        | .nil _, none, some (.pv (.int _ 0)) => k (.nil (zelem P t))
        | _, _, _ => fail
      | some _ => fail
      | none => match x with
        | .pv (.seq n f) => boundG hi n n fun h => boundG lo 0 h fun l => st! (Nat.beq (f l).length z) (k (.pv (.seq (h - l) fun i => if i < h - l then f (l + i) else zelem P t i)))
        | .ms b s n => match getB H b with
          | .arr sz _ _ => st! (Nat.beq z sz) (boundG hi n n fun h => boundG lo 0 h fun l => k (.ms b (s + l) (h - l)))
          | _ => fail
        | _ => fail
  | some .string => match mx with
    | some _ => fail
    | none => match x with
      | .pv (.str s) => boundG hi s.size s.size fun h => boundG lo 0 h fun l => k (.pv (.str (s.extract l h)))
      | _ => fail
  | _ => fail
def callG (P : Program) (quiet : Bool) (f : FuncId) (args : List AV) (H : List Blk) (k : Eff → Ans R) : Ans R :=
  let l := reached H 64 (AV.refsL args) []
  st! (callOk P f && (!quiet || l.isEmpty) && l.all fun b => match getB H b with | .gone => false | _ => true) (cl f (AV.renL (place l) args) (l.map fun b => (getB H b).ren (place l)) fun r H' =>
    st! (Nat.beq H'.length l.length) (k { val := r.ren (nthO l), hb := zipB l (H'.map (Blk.ren (nthO l))) }))
def appendG (P : Program) (H : List Blk) (t : TypeId) (s : AV) (tk : Option Nat) (x : AV) (k : Eff → Ans R) : Ans R :=
  match P.underlying t with
  | some (.slice e) => match P.info? e, zeroOf P e with
    | some i, some z => st! (Nat.ble 1 i.size && Nat.ble 1 i.bytes && Nat.beq z.length i.size) (match srcOf H x with
      | none => fail
      | some (m, g) => match s with
        | .seqR n f => st! (Nat.beq (f n).length i.size && Nat.beq (g 0).length i.size) (nd (Nat.ble ((n + m) * i.bytes) reach) (k { val := .seqR (n + m) (app n f m g), tk := tk }))
        | .nil f => st! (Nat.beq (f 0).length i.size && Nat.beq (g 0).length i.size) (nd (Nat.ble (m * i.bytes) reach) (k { val := .seqR m (app 0 f m g), tk := tk }))
        | _ => fail)
    | _, _ => fail
  | _ => fail
def builtinG (P : Program) (ρ τ : Operand → AV) (H : List Blk) (b : Builtin) (args : List Operand) (ts : List TypeId) (k : Eff → Ans R) : Ans R :=
  match b with
  | .len => match args, ts with
    | [x], [t] => match lenV P t (ρ x) with
      | some p => k { val := .pv p }
      | none => fail
    | _, _ => fail
  | .append => match args, ts with
    | [s, x], [t, u] => st! (Nat.beq t u) (appendG P H t (τ s) (tkOf s) (retype P u (ρ x)) k)
    | _, _ => fail
  | .max => match args with
    | [x, y] => match ρ x, ρ y with
      | .pv (.int k1 a), .pv (.int _ b) => k { val := .pv (.int k1 (if b > a then b else a)) }
      | _, _ => fail
    | _ => fail
  | .min => match args with
    | [x, y] => match ρ x, ρ y with
      | .pv (.int k1 a), .pv (.int _ b) => k { val := .pv (.int k1 (if b < a then b else a)) }
      | _, _ => fail
    | _ => fail
  | _ => fail
def effG (P : Program) (quiet : Bool) (ops : List Oper) (h0 ix : Nat) (o : Oper) (ρ τ : Operand → AV) (H HH : List Blk) (k : Eff → Ans R) : Ans R :=
  match o.op with
  | .move x => bif takesD ops o.dst then k { val := (retype P o.type (τ x)).norm, tk := tkOf x } else k { val := retype P o.type (ρ x) }
  | .assign x => k { val := (retype P o.type (τ x)).norm, tk := tkOf x }
  | .pick c a b => match ρ c with
    | .pv (.bool t) => sp t fun t => k { val := match t with | true => ρ a | false => ρ b }
    | _ => fail
  | .alloc e => match zeroOf P e with
    | some z => st! (gone? HH (h0 + rank ops ix) && newOk P e z.length) (k { val := newPtr P e (h0 + rank ops ix), hb := [(h0 + rank ops ix, newBlk P e (z.map zav))] })
    | none => fail
  | .box e x => st! (gone? HH (h0 + rank ops ix) && (newOk P e (retype P e (ρ x)).cells.length && Nat.ble 1 (retype P e (ρ x)).cells.length && (retype P e (ρ x)).cells.all AV.oneC)) (k { val := newPtr P e (h0 + rank ops ix), hb := [(h0 + rank ops ix, newBlk P e (retype P e (ρ x)).cells)] })
  | .build t parts => match buildV P ρ t parts.toList with
    | some x => k { val := x }
    | none => fail
  | .buildSlice t len parts => match buildSliceV P ρ t len parts.toList with
    | some x => k { val := x }
    | none => fail
  | .load t a => bif takesD ops o.dst then match loadTake P H t (ρ a) with
      | some (x, b, B) => k { val := x, hb := [(b, B)] }
      | none => fail
    else match loadV P H t (ρ a) with
      | some x => k { val := x }
      | none => fail
  | .store t a x => match storeV P H t (ρ a) (retype P t (τ x)) with
    | some (b, B) => st! (!quiet || Nat.ble h0 b || noRS ops) (k { val := dead, tk := tkOf x, hb := [(b, B)] })
    | none => fail
  | .nilCheck x => match ρ x with
    | .ptr b off => k { val := .ptr b off }
    | .aptr b i off => k { val := .aptr b i off }
    | .pref cs off => k { val := .pref cs off }
    | _ => fail
  | .binOp op t x y _ => binG P op t (ρ x) (ρ y) fun v => k { val := v }
  | .unOp op _ x => match unV op (ρ x) with
    | some r => k { val := r }
    | none => fail
  | .convert src dst x => match P.underlying src, P.underlying dst, ρ x with
    | some _, some (.int kd), .pv (.int _ n) => k { val := .pv (.int kd (kd.wrap n)) }
    | _, _, _ => fail
  | .makeInterface t x => match P.underlying t with
    | some (.interface _) => fail
    | some _ => k { val := .ifc t (ρ x) }
    | none => fail
  | .makeFunc (.func f) first caps => match first.toList with
    | [] => k { val := .clo f (caps.toList.map ρ) }
    | _ => fail
  | .makeSlice t l c => match P.underlying t, ρ l, ρ c with
    | some (.slice e), .pv (.int _ n), .pv (.int _ m) => match P.info? e, zeroOf P e with
      | some i, some z => st! (Nat.ble 1 i.size && Nat.beq z.length i.size && Nat.ble 1 i.bytes) (nd (decide (0 ≤ n)) (nd (decide (n = m)) (nd (decide (n * i.bytes ≤ reach)) (st! (gone? HH (h0 + rank ops ix))
          (k { val := .ms (h0 + rank ops ix) 0 n.toNat, hb := [(h0 + rank ops ix, .arr i.size n.toNat fun _ => (z.map zav).map AV.flat)] })))))
      | _, _ => fail
    | _, _, _ => fail
  | .slice t x lo hi mx => sliceG P H t (ρ x) (lo.map ρ) (hi.map ρ) (mx.map ρ) fun v => k { val := v }
  | .fieldAddr s x f => match fieldAddrV P s (ρ x) f with
    | some r => k { val := r }
    | none => fail
  | .field s x f => match fieldV P s (ρ x) f with
    | some r => k { val := r }
    | none => fail
  | .indexAddr t x i => idxG P H t (ρ x) (ρ i) fun v => k { val := v }
  | .index t x i => match P.underlying t, ρ x, ρ i with
    | some .string, .pv (.str s), .pv (.int _ i) => nd (decide (0 ≤ i)) (nd (decide (i < (s.size : Int))) (k { val := .pv (.int .u8 (s[i.toNat]!).toNat) }))
    | _, _, _ => fail
  | .typeAssert x _ asserted ok => match P.underlying asserted, ρ x with
    | some (.interface _), _ => fail
    | some _, .ifc t v => st! (Nat.beq t asserted) (k { val := match ok with | true => .tup [v, .pv (.bool true)] | false => v })
    | _, _ => fail
  | .extract x i => match ρ x with
    | .tup vs => match vs[i]? with
      | some v => k { val := v.borrow }
      | none => fail
    | _ => fail
  | .call c => match c.callee with
    | .builtin b => builtinG P ρ τ H b c.args.toList c.argTypes.toList k
    | .value f => match ρ f with
      | .pv (.fn g) => callG P quiet g (argsV P ρ c.args.toList c.argTypes.toList) H k
      | .clo g caps => callG P quiet g (argsV P ρ c.args.toList c.argTypes.toList ++ caps) H k
      | _ => fail
    | .invoke r name => match ρ r with
      | .ifc t v => match methodOf P t name with
        | some (g, byPtr) => match recvV P H t byPtr v with
          | some x => callG P quiet g (x :: argsV P ρ c.args.toList c.argTypes.toList) H k
          | none => fail
        | none => fail
      | _ => fail
  | _ => fail
/-- Of which effects another word may be asked for. -/
def asksRw (o : Oper) : Bool := match o.op with
  | .buildSlice _ _ _ => true
  | .store _ _ _ => true
  | .makeSlice _ _ _ => true
  | .slice _ _ _ _ _ => true
  | .call c => match c.callee with
    | .builtin .append => true
    | _ => false
  | _ => false
def effAtG (P : Program) (quiet : Bool) (ops : List Oper) (h0 ix : Nat) (o : Oper) (st : St) (k : St → Ans R) : Ans R :=
  effG P quiet ops h0 ix o (rhoOf st) (evT st.tmps) (st.heap.take (h0 + rank ops ix)) st.heap fun e => rw! (asksRw o) e fun e => k (e.on o.dst st)
def branchG (st : St) (t : Nat) (k : Bool → St → Ans R) : Ans R := match (getT st t).borrow with
  | .pv (.bool b) => sp b fun b => k b { st with tmps := st.tmps.set t (.pv (.bool b)) }
  | _ => fail
def stepG' (P : Program) (quiet : Bool) (ops : List Oper) (h0 ix : Nat) (o : Oper) (st : St) (k : St → Ans R) : Ans R := match o.guard with
  | none => effAtG P quiet ops h0 ix o st k
  | some (j, want) => match guardT ops j with
    | none => fail
    | some g => match getT st g with
      | .tup _ => k (setT st o.dst undefV)
      | _ => branchG st g fun b st => match b, want with
        | true, true => effAtG P quiet ops h0 ix o st k
        | false, false => effAtG P quiet ops h0 ix o st k
        | _, _ => k (setT st o.dst undefV)
def opsG (P : Program) (quiet : Bool) (ops : List Oper) (h0 : Nat) : Nat → List Oper → St → (St → Ans R) → Ans R
  | _, [], st, k => k st
  | ix, o :: rest, st, k => stepG' P quiet ops h0 ix o st fun st => opsG P quiet ops h0 (ix + 1) rest st k
def execG (P : Program) (live : Nat → Option (List Nat)) : Code → St → (Ex → St → Ans R) → Ans R
  | .skip, st, k => k .normal st
  | .region _ ops draw, st, k => st! (!draw || drawOk ops.toList) (opsG P draw ops.toList st.heap.length 0 ops.toList (grow ops.toList st) fun st => k .normal st)
  | .seq a b, st, k => execG P live a st fun e st => match e with
    | .normal => execG P live b st k
    | .exit i => k (.exit i) st
    | .ret => k .ret st
  | .cond c a b, st, k => match c with
    | .tmp t => branchG st t fun x st => match x with
      | true => execG P live a st k
      | false => execG P live b st k
    | .const (.bool true) => execG P live a st k
    | .const (.bool false) => execG P live b st k
    | _ => fail
  | .block id c, st, k => execG P live c st fun e st => match e with
    | .exit i => bif Nat.beq i id then k .normal st else k (.exit i) st
    | .normal => k .normal st
    | .ret => k .ret st
  | .loop c, st, k => lp c st.heap.length (headSt (live (firstRegion c)) st.heap.length st) k
  | .exit id, st, k => k (.exit id) st
  | .ret, st, k => k .ret st
  | _, _, _ => fail
end

def endG (P : Program) (fn : Func) (m : Nat) (st : St) : Ans (AV × List Blk) := match endK P fn m st with
  | some r => fin r
  | none => fail
def bodyG (P : Program) (L : Lives) (f : FuncId) (fn : Func) (args : List AV) (H : List Blk) : Ans (AV × List Blk) := match fn.body with
  | some c => execG P (L f) c ⟨args ++ List.replicate (fn.ntmps - args.length) dead, H⟩ fun e st => match e with
    | .normal => endG P fn H.length st
    | .ret => endG P fn H.length st
    | .exit _ => fail
  | none => fail
/-- A function, on a path. -/
def funG (P : Program) (L : Lives) (f : FuncId) (args : List AV) (H : List Blk) : Ans (AV × List Blk) := match P.funcs[f]? with
  | some fn => bodyG P L f fn args H
  | none => fail
/-- A loop's body, on a path. -/
def roundG (P : Program) (L : Lives) (f : FuncId) (c : Code) (s : St) : Ans (Ex × St) := execG P (L f) c s fun e s => fin (e, s)

end Go.Am
