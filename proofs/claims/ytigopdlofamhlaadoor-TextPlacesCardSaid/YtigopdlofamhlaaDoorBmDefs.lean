/- The abstract machine: an evaluator of the model's code over abstract values (definitions alone). -/
import Derived.Test.YtigopdlofamhlaaDoorBmPv
namespace Go.Bm
set_option autoImplicit false
set_option linter.unusedVariables false

/-- A step from an array to one that a cell of it owns: the element, the cell. -/
abbrev Stp := Nat × Nat
/-- Abstract values. 'nil': a slice without room; 'own': a cell that owns an array; 'ptr': a cell of an element of a block's array (or of one that is owned below it); 'aptr': the k-th cell of an array that stands in an element; 'pref': memory that stays as it is; 'ms': a part of an array. -/
inductive AV where
  | dead
  | pv (p : PV)
  | nil (f : Nat → List PV)
  | own (sz n : Nat) (f : Nat → List AV)
  | ptr (b : Nat) (ρ : List Stp) (i o : Nat)
  | aptr (b : Nat) (ρ : List Stp) (i o m k : Nat)
  | pref (cs : List PV) (off : Nat)
  | ms (b : Nat) (ρ : List Stp) (lo n : Nat)
  | clo (f : FuncId) (k : Nat) (caps : List AV)
  | agg (cs : List AV)
  | tup (vs : List AV)
  | ifc (t : TypeId) (v : AV)

abbrev dead : AV := .dead
/-- Surely the value of one cell, that may stand in a temporary. -/
def AV.oneC : AV → Bool
  | .dead => false
  | .agg _ => false
  | .tup _ => false
  | .own _ _ _ => false
  | _ => true
def AV.pure : AV → Bool
  | .pv _ => true
  | _ => false

/-- 'box': one element, whose cells may hold anything; 'arr': elements that hold data alone; 'same': 1: it is still the array with which the call began, 2: so are those that it owns; 'lit': few elements, that may hold anything. -/
inductive Blk where
  | box (same : Nat) (cs : List AV)
  | arr (same : Nat) (sz n : Nat) (f : Nat → List AV)
  | lit (same : Nat) (sz : Nat) (rows : List (List AV))
  | gone

structure St where
  tmps : List AV
  heap : List Blk

inductive Ex where
  | normal
  | exit (id : Nat)
  | ret

/-- An array. -/
structure Nd where
  dat : Bool
  sz : Nat
  n : Nat
  f : Nat → List AV
def Blk.nd : Blk → Option Nd
  | .box _ cs => some ⟨false, cs.length, 1, fun _ => cs⟩
  | .arr _ sz n f => some ⟨true, sz, n, f⟩
  | .lit _ sz rows => some ⟨false, sz, rows.length, fun i => rows.getD i []⟩
  | .gone => none
def Nd.go : Nd → List Stp → Option Nd
  | x, [] => some x
  | x, (i, o) :: ρ => match (x.f i)[o]? with
    | some (.own sz n f) => Nd.go ⟨true, sz, n, f⟩ ρ
    | _ => none
def upd {α : Type} (f : Nat → α) (i : Nat) (v : α) : Nat → α := fun j => if j = i then v else f j
/-- The cells of an element put in their place. -/
def Nd.put : Nd → List Stp → Nat → (List AV → List AV) → Nd
  | x, [], i, g => { x with f := upd x.f i (g (x.f i)) }
  | x, (i0, o0) :: ρ, i, g => { x with f := upd x.f i0 ((x.f i0).set o0 (match (x.f i0)[o0]? with
    | some (.own sz n f) => .own sz n (Nd.put ⟨true, sz, n, f⟩ ρ i g).f
    | some c => c
    | none => dead)) }
def Blk.put (B : Blk) (ρ : List Stp) (i : Nat) (g : List AV → List AV) : Blk := match B, ρ with
  | .box s cs, [] => .box s (g cs)
  | .arr s sz n f, ρ => .arr s sz n (Nd.put ⟨true, sz, n, f⟩ ρ i g).f
  | .lit s sz rows, [] => .lit s sz (rows.set i (g (rows.getD i [])))
  | B, _ => B

/-! ### types -/
def zpv (P : Program) : Nat → TypeId → List PV
  | 0, _ => [.bad]
  | n + 1, t => match P.underlying t with
    | some .bool => [.bool false]
    | some (.int k) => [.int k 0]
    | some .string => [.str .empty]
    | some (.slice e) => [.seq 0 fun _ => zpv P n e]
    | some (.struct fs) => fs.toList.flatMap fun f => zpv P n f.type
    | some (.array m e) => (List.replicate m (zpv P n e)).flatten
    | some (.pointer _) => [.nilPtr]
    | some (.func ..) => [.nilFn]
    | some (.interface _) => [.nilIf]
    | _ => [.bad]
def depth : Nat := 8
def zelem (P : Program) (t : TypeId) : Nat → List PV := fun _ => match P.underlying t with
  | some (.slice e) => zpv P depth e
  | _ => []
def zfit1 : Value → PV → Bool
  | .bool false, .bool false => true
  | .int k n, .int k' n' => decide (k = k') && decide (n = n')
  | .string s, .str s' => s.size == 0 && s'.size == 0
  | .slice none 0 0, .seq 0 _ => true
  | .pointer none, .nilPtr => true
  | .nilFunc, .nilFn => true
  | .nilIface, .nilIf => true
  | _, _ => false
def zfit : List Value → List PV → Bool
  | [], [] => true
  | v :: vs, p :: ps => zfit1 v p && zfit vs ps
  | _, _ => false
/-- The cells of a type's zero value. -/
def zeroOf (P : Program) (t : TypeId) : Option (List PV) := match P.info? t with
  | some i => match i.zero with
    | some z => if zfit z.cells.toList (zpv P depth t) then some (zpv P depth t) else none
    | none => none
  | none => none
def isSeq : PV → Bool
  | .seq _ _ => true
  | _ => false
/-- The elements of slices that a type's zero value holds have cells. -/
def seqOk : PV → Bool
  | .seq _ f => Nat.ble 1 (f 0).length
  | _ => true
/-- How many slices a type's value holds. -/
def slots (P : Program) (t : TypeId) : Nat := ((zpv P depth t).filter isSeq).length
def zav : PV → AV
  | .seq _ f => .nil f
  | p => .pv p
mutual
/-- A zero cell as it stands in a row. -/
def zrow : PV → AV
  | .seq _ f => .own (f 0).length 0 fun _ => zrows (f 0)
  | p => .pv p
def zrows : List PV → List AV
  | [] => []
  | p :: ps => zrow p :: zrows ps
end
def sizeT (P : Program) (t : TypeId) : Option Nat := match P.underlying t, P.info? t with
  | some _, some i => some i.size
  | _, _ => none
def isAggT (P : Program) (t : TypeId) : Bool := match P.underlying t with
  | some (.struct _) => true
  | some (.array _ _) => true
  | _ => false
def retype (P : Program) (t : TypeId) : AV → AV
  | .nil f => .nil (zelem P t)
  | v => v

/-! ### operands -/
def ofConst : Value → AV
  | .bool b => .pv (.bool b)
  | .int k n => .pv (.int k n)
  | .string s => .pv (.str s)
  | .slice none 0 0 => .nil fun _ => []
  | .pointer none => .pv .nilPtr
  | .nilFunc => .pv .nilFn
  | .nilIface => .pv .nilIf
  | _ => dead
def getT (st : St) (t : Nat) : AV := st.tmps.getD t dead
def evT (l : List AV) : Operand → AV
  | .tmp t => l.getD t dead
  | .const v => ofConst v
  | .global g => match globT g with
    | some cs => .pref cs 0
    | none => dead
  | .func f => .pv (.fn f)
def setT (st : St) (d : Option Nat) (v : AV) : St := match d with
  | some d => { st with tmps := st.tmps.set d v }
  | none => st

/-! ### what an operation does, and what it asks -/
/-- What an operation does: the value that it yields, the blocks that it leaves, and to which nothing may lead any more (true: below it alone). -/
structure Eff where
  val : AV
  hb : List (Nat × Blk) := []
  sc : List (Nat × Bool) := []
/-- What is to be shown of the answers. -/
inductive Ob where
  | t (u v : Bool)
  | e (u v : Eff)
  | c (f : FuncId) (args : List AV) (H : List Blk) (r : AV) (H' : List Blk)
  | l (c : Code) (m : Nat) (x : St) (e : Ex) (x' : St)
  | k (c : Code) (m : Nat) (x : St) (e : Ex) (x' : St)
/-- Answers. -/
inductive Say where
  | b (d : Bool)
  | keep
  | e (x : Eff)
  | c (r : AV) (H : List Blk)
  | l (e : Ex) (x : St)
  | u (bs : List Nat)
inductive Ev (α : Type) where
  | ret (x : α)
  | fail
  | rd (b : Nat) (k : Blk → Ev α)
  | nd (c : Bool) (k : Ev α)
  | sp (c : Bool) (k : Bool → Ev α)
  | ch (c : Bool) (k : Bool → Ev α)
  | cl (f : FuncId) (args : List AV) (H : List Blk) (k : AV → List Blk → Ev α)
def Ev.bind {α β : Type} : Ev α → (α → Ev β) → Ev β
  | .ret x, k => k x
  | .fail, _ => .fail
  | .rd b j, k => .rd b fun B => (j B).bind k
  | .nd c j, k => .nd c (j.bind k)
  | .sp c j, k => .sp c fun d => (j d).bind k
  | .ch c j, k => .ch c fun d => (j d).bind k
  | .cl f a H j, k => .cl f a H fun r G => (j r G).bind k
def Ev.chk {α : Type} (c : Bool) (k : Ev α) : Ev α := match c with
  | true => k
  | false => .fail
def Ev.opt {α β : Type} (x : Option α) (k : α → Ev β) : Ev β := match x with
  | some x => k x
  | none => .fail
/-- A run: what is to be shown, the blocks that were read, the result, the answers that are left. -/
abbrev Out (α : Type) := Option (List Ob × List Nat × α × List Say)
def outOb {α : Type} (o : Ob) : Out α → Out α
  | some (l, r, x, s) => some (o :: l, r, x, s)
  | none => none
def outRd {α : Type} (b : Nat) : Out α → Out α
  | some (l, r, x, s) => some (l, b :: r, x, s)
  | none => none
def Ev.run {α : Type} (H : Nat → Blk) : Ev α → List Say → Out α
  | .ret x, s => some ([], [], x, s)
  | .fail, _ => none
  | .rd b k, s => outRd b ((k (H b)).run H s)
  | .nd c k, s => outOb (.t c true) (k.run H s)
  | .sp c k, s => match s with
    | .b d :: s => outOb (.t c d) ((k d).run H s)
    | .keep :: s => match c with
      | true => (k true).run H s
      | false => (k false).run H s
    | _ => none
  | .ch c k, s => match s with
    | .b true :: s => outOb (.t c true) ((k true).run H s)
    | .b false :: s => (k false).run H s
    | _ => none
  | .cl f a G k, s => match s with
    | .c r G' :: s => outOb (.c f a G r G') ((k r G').run H s)
    | _ => none

/-! ### numbers -/
def reach : Nat := 140737488351232
def arith (op : BinOp) (k : IntKind) (a b : Int) : Option PV := match op with
  | .add => some (.int k (k.wrap (a + b)))
  | .sub => some (.int k (k.wrap (a - b)))
  | .mul => some (.int k (k.wrap (a * b)))
  | .and => some (.int k (k.wrap (BitVec.ofInt k.bits a &&& BitVec.ofInt k.bits b).toNat))
  | .or => some (.int k (k.wrap (BitVec.ofInt k.bits a ||| BitVec.ofInt k.bits b).toNat))
  | .xor => some (.int k (k.wrap (BitVec.ofInt k.bits a ^^^ BitVec.ofInt k.bits b).toNat))
  | .andNot => some (.int k (k.wrap (BitVec.ofInt k.bits a &&& ~~~BitVec.ofInt k.bits b).toNat))
  | .eql => some (.bool (a == b))
  | .neq => some (.bool (a != b))
  | .lss => some (.bool (a < b))
  | .leq => some (.bool (a ≤ b))
  | .gtr => some (.bool (a > b))
  | .geq => some (.bool (a ≥ b))
  | _ => none
def part {α : Type} (cs : List α) (off n : Nat) : List α := (cs.drop off).take n
/-- Arrays, element by element. -/
def eqRow (f : List AV → List AV → Option Bool) (z : Nat) (xs ys : List AV) : List Nat → Option Bool
  | [] => some true
  | i :: is => match f (part xs (i * z) z) (part ys (i * z) z), eqRow f z xs ys is with
    | some a, some b => some (a && b)
    | _, _ => none
/-- Whether values of a type are alike, cell by cell. -/
def eqV (P : Program) : Nat → TypeId → List AV → List AV → Option Bool
  | 0, _, _, _ => none
  | n + 1, t, xs, ys => match P.underlying t with
    | some .bool => match xs, ys with
      | [.pv (.bool a)], [.pv (.bool b)] => some (a == b)
      | _, _ => none
    | some (.int _) => match xs, ys with
      | [.pv (.int k a)], [.pv (.int k' b)] => if k = k' then some (a == b) else none
      | _, _ => none
    | some .string => match xs, ys with
      | [.pv (.str a)], [.pv (.str b)] => some (a.toList == b.toList)
      | _, _ => none
    | some (.struct fs) => bif P.stoodInHeld t then none else fs.toList.foldr (fun f r => match r with
      | none => none
      | some r => bif f.name == "_" then none else match sizeT P f.type with
        | none => none
        | some m => bif Nat.ble (f.offset + m) xs.length && Nat.ble (f.offset + m) ys.length then match eqV P n f.type (part xs f.offset m) (part ys f.offset m) with
          | some b => some (b && r)
          | none => none
          else none) (some true)
    | some (.array m e) => match sizeT P e with
      | none => none
      | some z => bif Nat.ble (m * z) xs.length && Nat.ble (m * z) ys.length then eqRow (fun a b => eqV P n e a b) z xs ys (List.range m) else none
    | _ => none
/-- Is it nil? (of what is no interface) -/
def isNil : AV → Option Bool
  | .pv .nilPtr => some true
  | .pv .nilFn => some true
  | .pv (.fn _) => some false
  | .clo _ _ _ => some false
  | .ptr _ _ _ _ => some false
  | .pref _ _ => some false
  | _ => none
def eqE (P : Program) (t : TypeId) (x y : AV) : Option Bool := match x, y with
  | .agg xs, .agg ys => bif P.eqGuardType P.depth t then none else match P.underlying t with
    | some (.struct _) => eqV P 8 t xs ys
    | some (.array _ _) => eqV P 8 t xs ys
    | _ => none
  | .pv (.bool _), .pv (.bool _) => match P.underlying t with
    | some .bool => eqV P 8 t [x] [y]
    | _ => none
  | _, _ => none
def binE (P : Program) (op : BinOp) (t : TypeId) (x y : AV) : Ev AV := match x, y with
  | .pv (.int kx a), .pv (.int ky b) => match op with
    | .shl => .nd (decide (0 ≤ b)) (.ret (.pv (.int kx (kx.wrap (a * 2 ^ min b.toNat kx.bits)))))
    | .shr => .nd (decide (0 ≤ b)) (.ret (.pv (.int kx (a.fdiv (2 ^ min b.toNat kx.bits)))))
    | .quo => .chk (decide (kx = ky)) (.nd (!decide (b = 0)) (.ret (.pv (.int kx (kx.wrap (a.tdiv b))))))
    | .rem => .chk (decide (kx = ky)) (.nd (!decide (b = 0)) (.ret (.pv (.int kx (a.tmod b)))))
    | op => .chk (decide (kx = ky)) (.opt (arith op kx a b) fun p => .ret (.pv p))
  | .pv (.str a), .pv (.str b) => match op with
    | .eql => .ret (.pv (.bool (a.toList == b.toList)))
    | .neq => .ret (.pv (.bool !(a.toList == b.toList)))
    | .add => .nd (Nat.ble (a.size + b.size) reach) (.ret (.pv (.str (a ++ b))))
    | _ => .fail
  | x, y => match op with
    | .eql => .opt (eqE P t x y) fun b => .ret (.pv (.bool b))
    | .neq => .opt (eqE P t x y) fun b => .ret (.pv (.bool !b))
    | _ => .fail
def unV (op : UnOp) (x : AV) : Option AV := match op, x with
  | .not, .pv (.bool b) => some (.pv (.bool !b))
  | .neg, .pv (.int k n) => some (.pv (.int k (k.wrap (0 - n))))
  | .xor, .pv (.int k n) => some (.pv (.int k (k.wrap (BitVec.ofInt k.bits (if k.signed then -1 else k.max) ^^^ BitVec.ofInt k.bits n).toNat)))
  | _, _ => none

/-! ### memory -/
/-- A block; beyond the heap's end there is nothing. -/
def getB (H : List Blk) (b : Nat) : Blk := H.getD b (.lit 0 0 [])
def splice {α : Type} (cs : List α) (off : Nat) (vs : List α) : List α := cs.take off ++ vs ++ cs.drop (off + vs.length)
def nodeE (b : Nat) (ρ : List Stp) : Ev Nd := .rd b fun B => .opt B.nd fun x => .opt (x.go ρ) .ret
/-- A cell's value as it is read: of an array that is owned, where it stands. -/
def refC (b : Nat) (ρ : List Stp) (i o : Nat) : AV → AV
  | .own _ n _ => .ms b (ρ ++ [(i, o)]) 0 n
  | v => v
def refL (b : Nat) (ρ : List Stp) (i : Nat) : Nat → List AV → List AV
  | _, [] => []
  | o, c :: cs => refC b ρ i o c :: refL b ρ i (o + 1) cs
/-- The value of some cells: one, or an aggregate. -/
def ofCells (isAgg : Bool) (cs : List AV) : Option AV := match isAgg with
  | true => some (.agg cs)
  | false => match cs with
    | [v] => some v
    | _ => none
/-- A cell of an array of numbers, or the like. -/
def AV.scal : AV → AV
  | .pv p => .pv p
  | _ => .pv .bad
def spanL (f : Nat → List AV) (i : Nat) : Nat → List AV
  | 0 => []
  | n + 1 => spanL f i n ++ [((f (i + n)).getD 0 dead).scal]
def loadE (P : Program) (t : TypeId) (a : AV) : Ev AV := .opt (sizeT P t) fun n => match a with
  | .ptr b ρ i o => (nodeE b ρ).bind fun x => match Nat.ble (o + n) (x.f i).length with
    | true => .opt (ofCells (isAggT P t) (refL b ρ i o (part (x.f i) o n))) .ret
    | false => .chk (x.dat && Nat.beq x.sz 1 && Nat.beq o 0 && Nat.ble (i + n) x.n && Nat.ble 2 n && isAggT P t) (.ret (.agg (spanL x.f i n)))
  | .aptr b ρ i o m k => .chk (Nat.beq n 1 && !isAggT P t) ((nodeE b ρ).bind fun x => .chk (Nat.ble (o + m) (x.f i).length) (.ret ((part (x.f i) o m).getD k dead).scal))
  | .pref cs off => .chk (Nat.ble (off + n) cs.length) (.opt (ofCells (isAggT P t) ((part cs off n).map .pv)) .ret)
  | _ => .fail
def AV.cells : AV → List AV
  | .dead => []
  | .agg cs => cs
  | v => [v]
/-- A part of an array, as an array. -/
def cutF (lo n N : Nat) (f : Nat → List AV) : Nat → List AV := fun i => if i < n then f (lo + i) else f N
def wholeE (lo n N : Nat) (f : Nat → List AV) : Ev (Nat → List AV) := .ch (decide (n = N) && decide (lo = 0)) fun d => .ret (match d with | true => f | false => cutF lo n N f)
/-- A row's cell made of a value; with the blocks that go into it. -/
def ownE (b : Nat) (ρ : List Stp) (i o : Nat) (old : AV) (v : AV) : Ev (AV × List Nat) := match v with
  | .pv p => .ret (.pv p, [])
  | .nil f => .chk (Nat.ble 1 (f 0).length) (.ret (.own (f 0).length 0 fun _ => zrows (f 0), []))
  | .ms c [] lo n => .chk (!Nat.beq c b && Nat.beq lo 0) (.rd c fun B => match B with
    | .arr _ sz N f => (wholeE lo n N f).bind fun g => .ret (.own sz n g, [c])
    | _ => .fail)
  | .ms c σ lo n => match old with
    | .own sz N f => .chk (Nat.beq c b && Nat.beq lo 0) <| .nd (decide (σ = ρ ++ [(i, o)])) ((wholeE lo n N f).bind fun g => .ret (.own sz n g, []))
    | _ => .fail
  | _ => .fail
def ownsE (b : Nat) (ρ : List Stp) (i : Nat) : Nat → List AV → List AV → Ev (List AV × List Nat)
  | _, _, [] => .ret ([], [])
  | o, olds, v :: vs => (ownE b ρ i o (olds.headD dead) v).bind fun x => (ownsE b ρ i (o + 1) olds.tail vs).bind fun y => .ret (x.1 :: y.1, x.2 ++ y.2)
/-- Cells that a slice without room would have: of rows that own their slices, or that share them. -/
def nilRow (p : Bool) (z : List PV) : List AV := match p with
  | true => z.map AV.pv
  | false => zrows z
/-- Slices without room that come into a box get a block of their own. -/
def nilB (p : Bool) (id : Nat) : List AV → List AV × List (Nat × Blk)
  | [] => ([], [])
  | .nil f :: vs => let r := nilB p (id + 1) vs; (.ms id [] 0 0 :: r.1, (id, .arr 0 (f 0).length 0 fun _ => nilRow p (f 0)) :: r.2)
  | v :: vs => let r := nilB p id vs; (v :: r.1, r.2)
def nilOk : AV → Bool
  | .nil f => Nat.ble 1 (f 0).length
  | _ => true
def freshE {α : Type} (id : Nat) : Nat → Ev α → Ev α
  | 0, k => k
  | n + 1, k => .rd id fun B => match B with
    | .gone => freshE (id + 1) n k
    | _ => .fail
def noDup : List Nat → Bool
  | [] => true
  | x :: xs => !xs.elem x && noDup xs
def isOwn : AV → Bool
  | .own _ _ _ => true
  | _ => false
def hasOwn (cs : List AV) : Bool := cs.any isOwn
def goneL (cs : List Nat) : List (Nat × Blk) := cs.map fun c => (c, .gone)
def minT : Nat → Nat → Nat
  | 0, _ => 0
  | 1, 0 => 0
  | 1, _ => 1
  | _, b => b
def Blk.tag : Blk → Nat
  | .box s _ => s
  | .arr s _ _ _ => s
  | .lit s _ _ => s
  | .gone => 0
def Blk.also (s : Nat) : Blk → Blk
  | .box s' cs => .box (minT s s') cs
  | .arr s' sz n f => .arr (minT s s') sz n f
  | .lit s' sz rows => .lit (minT s s') sz rows
  | .gone => .gone
def lossT (c : Bool) : Nat := bif c then 1 else 2
def storeE (P : Program) (p : Bool) (id : Nat) (t : TypeId) (a v : AV) : Ev Eff := .opt (sizeT P t) fun n => .chk (Nat.beq v.cells.length n && Nat.ble 1 n && v.cells.all AV.oneC && v.cells.all nilOk) (match a with
  | .ptr b ρ i o => .rd b fun B => match B with
    | .box s cs => .chk (ρ.isEmpty && Nat.ble (o + n) cs.length) (freshE id (nilB p id v.cells).2.length (.ret { val := dead, hb := (nilB p id v.cells).2 ++ [(b, .box s (splice cs o (nilB p id v.cells).1))] }))
    | .arr s sz N f => .opt (Nd.go ⟨true, sz, N, f⟩ ρ) fun x => .nd (Nat.ble (o + n) (x.f i).length)
        ((ownsE b ρ i o (part (x.f i) o n) v.cells).bind fun r => .chk (noDup r.2)
        (.ret { val := dead, hb := (b, Blk.put (.arr (minT (lossT (hasOwn (part (x.f i) o n))) s) sz N f) ρ i fun cs => splice cs o r.1) :: goneL r.2, sc := (bif hasOwn (part (x.f i) o n) then [(b, true)] else []) ++ r.2.map fun c => (c, false) }))
    | _ => .fail
  | .aptr b ρ i o m k => .chk (Nat.beq n 1 && v.cells.all AV.pure) (.rd b fun B => .opt B.nd fun x => .opt (x.go ρ) fun x => .chk (Nat.ble (o + m) (x.f i).length && (part (x.f i) o m).all AV.pure) (.ret { val := dead, hb := [(b, Blk.put B ρ i fun cs => splice cs o ((part cs o m).set k (v.cells.headD dead)))] }))
  | _ => .fail)

/-! ### making -/
def fillA (place : Nat → Option (Nat × Nat)) (cells : List AV) : List (Nat × AV) → Option (List AV)
  | [] => some cells
  | (i, v) :: rest => match place i with
    | none => none
    | some (off, size) => bif Nat.beq v.cells.length size && Nat.ble 1 size && Nat.ble (off + size) cells.length then fillA place (splice cells off v.cells) rest else none
def fieldPl (P : Program) (fs : Array Field) (i : Nat) : Option (Nat × Nat) := match fs[i]? with
  | some f => (sizeT P f.type).map fun n => (f.offset, n)
  | none => none
def fieldTy (fs : Array Field) (i : Nat) : TypeId := match fs[i]? with
  | some f => f.type
  | none => 0
def buildV (P : Program) (ρ : Operand → AV) (t : TypeId) (parts : List (Nat × Operand)) : Option AV := match zeroOf P t with
  | none => none
  | some z => match P.underlying t with
    | some (.struct fs) => bif fs.toList.all fun f => (sizeT P f.type).isSome then (fillA (fieldPl P fs) (z.map zav) (parts.map fun x => (x.1, retype P (fieldTy fs x.1) (ρ x.2)))).map .agg else none
    | some (.array _ e) => match sizeT P e with
      | some n => (fillA (fun i => some (i * n, n)) (z.map zav) (parts.map fun x => (x.1, retype P e (ρ x.2)))).map .agg
      | none => none
    | _ => none
def chunk (sz : Nat) (cells : List AV) : Nat → List (List AV)
  | 0 => []
  | n + 1 => cells.take sz :: chunk sz (cells.drop sz) n
/-- A literal's elements, by place. -/
def litF (z : List AV) : List (List AV) → Nat → List AV
  | [], _ => z
  | c :: _, 0 => c
  | _ :: cs, i + 1 => litF z cs i
def rowCell : AV → Bool
  | .pv (.fn _) => false
  | .pv _ => true
  | .nil f => Nat.ble 1 (f 0).length
  | .ms _ [] _ _ => true
  | _ => false
def buildSliceE (P : Program) (ρ : Operand → AV) (id : Nat) (t : TypeId) (len : Nat) (parts : List (Nat × Operand)) : Ev Eff := match P.underlying t with
  | some (.slice e) => match sizeT P e, zeroOf P e with
    | some n, some z => .chk (Nat.ble 1 n && Nat.ble (len * n) 16777216 && Nat.beq z.length n)
        (.opt (fillA (fun i => some (i * n, n)) ((List.replicate len (z.map zav)).flatten) (parts.map fun x => (x.1, retype P e (ρ x.2)))) fun cs => freshE id 1 (match cs.all rowCell with
          | true => (ownsE id [] 0 0 [] cs).bind fun r => .chk (noDup r.2) (.ret { val := .ms id [] 0 len, hb := (id, .arr 0 n len (litF (zrows z) (chunk n r.1 len))) :: goneL r.2, sc := r.2.map fun c => (c, false) })
          | false => .chk (cs.all AV.oneC) (.ret { val := .ms id [] 0 len, hb := [(id, .lit 0 n (chunk n cs len))] })))
    | _, _ => .fail
  | _ => .fail
/-- A new variable's block: of an array a row of its elements, else a box. -/
def scalT (P : Program) : Nat → TypeId → Bool
  | 0, _ => false
  | n + 1, t => match P.underlying t with
    | some (.array _ e) => scalT P n e
    | some (.int _) => true
    | some .bool => true
    | _ => false
def isArrT (P : Program) (t : TypeId) : Bool := match P.underlying t with
  | some (.array _ _) => scalT P depth t
  | _ => false
def newE (P : Program) (id : Nat) (t : TypeId) (cs : List AV) : Ev Eff := match isArrT P t with
  | true => .chk (cs.all AV.pure && Nat.ble 1 cs.length) (freshE id 1 (.ret { val := .ptr id [] 0 0, hb := [(id, .arr 0 1 cs.length fun i => [cs.getD i (cs.headD dead)])] }))
  | false => .chk (Nat.ble 1 cs.length && cs.all AV.oneC && cs.all nilOk) (freshE id (1 + (nilB false (id + 1) cs).2.length) (.ret { val := .ptr id [] 0 0, hb := (nilB false (id + 1) cs).2 ++ [(id, .box 0 (nilB false (id + 1) cs).1)] }))

/-! ### slices -/
def lenV (P : Program) (t : TypeId) (x : AV) : Option PV := match P.underlying t with
  | some (.array n _) => some (.int .i64 n)
  | some (.slice _) => match x with
    | .pv (.seq n _) => some (.int .i64 n)
    | .nil _ => some (.int .i64 0)
    | .ms _ _ _ n => some (.int .i64 n)
    | _ => none
  | some .string => match x with
    | .pv (.str s) => some (.int .i64 s.size)
    | _ => none
  | _ => none
def addN (lo i : Nat) : Nat := match lo with
  | 0 => i
  | _ => lo + i
def mulN (i s : Nat) : Nat := match s with
  | 1 => i
  | _ => i * s
/-- Which number is it, from k on? -/
def pickE (i : Int) : Nat → Nat → Ev (Option Nat)
  | 0, _ => .ret none
  | n + 1, k => .ch (decide (i = (k : Int))) fun d => match d with
    | true => .ret (some k)
    | false => pickE i n (k + 1)
def litE (i : Int) (n : Nat) : Ev (Option Nat) := .ch true fun d => match d with
  | true => pickE i n 0
  | false => .ret none
def cellP (b : Nat) (ρ : List Stp) (j o n : Nat) (i : Int) : Option Nat → AV
  | some k => .ptr b ρ j (o + k)
  | none => .aptr b ρ j o n i.toNat
def idxE (P : Program) (t : TypeId) (x ix : AV) : Ev AV := match ix with
  | .pv (.int _ i) => match P.underlying t with
    | some (.array n e) => .opt (sizeT P e) fun s => .nd (decide (0 ≤ i)) (.nd (decide (i < (n : Int))) (match x with
      | .ptr b ρ j o => (nodeE b ρ).bind fun y => match Nat.beq y.sz 1 with
        | true => .chk (Nat.beq o 0 && Nat.ble 1 s) (.nd (Nat.ble (j + n * s) y.n) (.ret (.ptr b ρ (addN j (mulN i.toNat s)) 0)))
        | false => .chk (Nat.beq s 1 && Nat.ble (o + n) y.sz) ((litE i n).bind fun k => .ret (cellP b ρ j o n i k))
      | .pref cs off => .chk (Nat.beq s 1 && Nat.ble (off + n) cs.length) (.ret (.pref [(part cs off n).getD i.toNat .bad] 0))
      | _ => .fail))
    | some (.slice e) => .opt (sizeT P e) fun s => match x with
        | .pv (.seq n f) => .nd (decide (0 ≤ i)) (.nd (decide (i < (n : Int))) (.chk (Nat.beq (f i.toNat).length s) (.ret (.pref (f i.toNat) 0))))
        | .ms b ρ lo n => (nodeE b ρ).bind fun y => .chk (Nat.beq y.sz s) (.nd (decide (0 ≤ i)) (.nd (decide (i < (n : Int))) (.ret (.ptr b ρ (addN lo i.toNat) 0))))
        | _ => .fail
    | _ => .fail
  | _ => .fail
def offsOf (P : Program) (s : TypeId) (i : Nat) : Option Nat := match P.underlying s with
  | some (.struct fs) => match fs[i]? with
    | some f => match sizeT P f.type with
      | some (_ + 1) => some f.offset
      | _ => none
    | none => none
  | _ => none
def fieldAddrV (P : Program) (s : TypeId) (x : AV) (i : Nat) : Option AV := match offsOf P s i with
  | none => none
  | some o => match x with
    | .ptr b ρ j off => some (.ptr b ρ j (off + o))
    | .pref cs off => some (.pref cs (off + o))
    | _ => none
def fieldV (P : Program) (s : TypeId) (x : AV) (i : Nat) : Option AV := match P.underlying s with
  | some (.struct fs) => match fs[i]?, x with
    | some f, .agg cs => match sizeT P f.type with
      | some n => bif Nat.ble (f.offset + n) cs.length then ofCells (isAggT P f.type) (part cs f.offset n) else none
      | none => none
    | _, _ => none
  | _ => none
/-- A bound of a slice expression: its number, if it is from 0 to n. -/
def boundE (x : Option AV) (dflt n : Nat) : Ev Nat := match x with
  | none => .ret dflt
  | some (.pv (.int _ i)) => .nd (decide (0 ≤ i)) (.nd (decide (i ≤ (n : Int))) (.ret i.toNat))
  | _ => .fail
def cutP (l h : Nat) (f : Nat → List PV) (z : Nat → List PV) : Nat → List PV := fun i => if i < h - l then f (l + i) else z i
def sliceE (P : Program) (t : TypeId) (x : AV) (lo hi mx : Option AV) : Ev AV := match P.underlying t with
  | some (.slice e) => .opt (sizeT P e) fun z => match mx with
      | some (.pv (.int _ 0)) => match x, lo, hi with
        | .pv (.seq _ _), none, some (.pv (.int _ 0)) => .ret (.nil (zelem P t))
        | .nil _, none, some (.pv (.int _ 0)) => .ret (.nil (zelem P t))
        | .ms _ _ _ _, none, some (.pv (.int _ 0)) => .ret (.nil (zelem P t))
        | _, _, _ => .fail
      | some _ => .fail
      | none => match x with
        | .pv (.seq n f) => (boundE hi n n).bind fun h => (boundE lo 0 h).bind fun l => .chk (Nat.beq (f l).length z) (.ret (.pv (.seq (h - l) (cutP l h f (zelem P t)))))
        | .ms b ρ s n => (nodeE b ρ).bind fun y => .chk (Nat.beq y.sz z) ((boundE hi n n).bind fun h => (boundE lo 0 h).bind fun l => .ret (.ms b ρ (addN s l) (h - l)))
        | _ => .fail
  | some .string => match mx with
    | some _ => .fail
    | none => match x with
      | .pv (.str s) => (boundE hi s.size s.size).bind fun h => (boundE lo 0 h).bind fun l => .ret (.pv (.str (s.extract l h)))
      | _ => .fail
  | _ => .fail

/-- An array that is sliced. -/
def sliceA (P : Program) (arr : TypeId) (x : AV) (lo hi mx : Option AV) : Ev AV := match P.underlying arr with
  | some (.array n e) => .opt (sizeT P e) fun z => match mx, x with
    | none, .ptr b ρ j 0 => (nodeE b ρ).bind fun y => .chk (Nat.beq y.sz z) (.nd (Nat.ble (j + n) y.n) ((boundE hi n n).bind fun h => (boundE lo 0 h).bind fun l => .ret (.ms b ρ (addN j l) (h - l))))
    | none, .pref cs off => match lo, hi with
      | none, none => .chk (Nat.beq z 1 && Nat.beq off 0 && Nat.beq cs.length n) (.ret (.pv (.seq n fun i => match decide (i < n) with | true => [cs.getD i .bad] | false => zpv P depth e)))
      | _, _ => .fail
    | _, _ => .fail
  | _ => .fail
def sliceX (P : Program) (t : TypeId) (x : AV) (lo hi mx : Option AV) : Ev AV := match P.underlying t with
  | some (.array _ _) => sliceA P t x lo hi mx
  | _ => sliceE P t x lo hi mx

/-! ### copies -/
/-- A number, or a truth value; of others nothing is told. -/
def AV.num : AV → AV
  | .pv (.int k n) => .pv (.int k n)
  | .pv (.bool b) => .pv (.bool b)
  | _ => .pv .bad
def srcC : AV → Ev (Nat × (Nat → List AV))
  | .pv (.seq n f) => .ret (n, fun i => (f i).map fun p => (AV.pv p).num)
  | .nil f => .ret (0, fun i => (f i).map fun p => (AV.pv p).num)
  | .ms c σ lo n => (nodeE c σ).bind fun x => .chk x.dat (.ret (n, fun i => (x.f (addN lo i)).map AV.num))
  | _ => .fail
def noOwn (f : Nat → List AV) (lo k : Nat) : Bool := (List.range k).all fun i => !hasOwn (f (lo + i))
def cpy (f : Nat → List AV) (lo k : Nat) (g : Nat → List AV) : Nat → List AV := fun i => if lo ≤ i ∧ i < lo + k then g (i - lo) else f i
def minQ (q : Bool) (a b : Nat) : Nat := match q with
  | true => a
  | false => b
def copyE (P : Program) (t u : TypeId) (d x : AV) : Ev Eff := match P.underlying t, P.underlying u with
  | some (.slice e), some (.slice e') => .opt (sizeT P e) fun z => match d with
    | .ms b [] lo n => .rd b fun B => match B with
      | .arr s sz N f => .chk (Nat.beq sz z && Nat.beq e e') ((srcC x).bind fun r => .chk (Nat.beq (r.2 0).length z) (.sp (Nat.ble r.1 n) fun q =>
          .nd (noOwn f lo (minQ q r.1 n)) (.ret { val := .pv (.int .i64 (minQ q r.1 n)), hb := [(b, .arr s sz N (cpy f lo (minQ q r.1 n) r.2))] })))
      | _ => .fail
    | _ => .fail
  | _, _ => .fail

/-! ### values told as they are now -/
mutual
def snapC : AV → PV
  | .pv p => p
  | .own _ n f => .seq n fun i => snapL (f i)
  | _ => .bad
def snapL : List AV → List PV
  | [] => []
  | v :: vs => snapC v :: snapL vs
end
/-- A value without blocks of rows: these are told by their elements; and which blocks. -/
def snapV : AV → Ev (AV × List Nat)
  | .ms b ρ lo n => (nodeE b ρ).bind fun x => .chk x.dat ((wholeE lo n x.n x.f).bind fun g => .ret (.pv (.seq n fun i => snapL (g i)), [b]))
  | .nil f => .ret (.pv (.seq 0 f), [])
  | v => .ret (v, [])
def snapVs : List AV → Ev (List AV × List Nat)
  | [] => .ret ([], [])
  | v :: vs => (snapV v).bind fun x => (snapVs vs).bind fun y => .ret (x.1 :: y.1, x.2 ++ y.2)
def snapA : AV → Ev (AV × List Nat)
  | .agg cs => (snapVs cs).bind fun r => .ret (.agg r.1, r.2)
  | v => snapV v
def snapAs : List AV → Ev (List AV × List Nat)
  | [] => .ret ([], [])
  | v :: vs => (snapA v).bind fun x => (snapAs vs).bind fun y => .ret (x.1 :: y.1, x.2 ++ y.2)

/-- An array whose elements' own slices are told as they are now, and stay so. -/
def iceE (v : AV) : Ev Eff := match v with
  | .ms b [] lo n => .rd b fun B => match B with
    | .arr s sz N f => .ret { val := .ms b [] lo n, hb := [(b, .arr (minT 1 s) sz N fun i => (snapL (f i)).map AV.pv)], sc := [(b, true)] }
    | _ => .fail
  | _ => .fail

/-- A literal's parts with other values. -/
def zipV : List (Nat × Operand) → List AV → List (Nat × AV)
  | p :: ps, v :: vs => (p.1, v) :: zipV ps vs
  | _, _ => []
/-- A literal whose slices are told as they are now: their blocks are gone, their memory stays as it is. -/
def freezeE (P : Program) (ρ : Operand → AV) (id : Nat) (t : TypeId) (len : Nat) (parts : List (Nat × Operand)) : Ev Eff := match P.underlying t with
  | some (.slice e) => match sizeT P e, zeroOf P e with
    | some n, some z => .chk (Nat.ble 1 n && Nat.ble (len * n) 16777216 && Nat.beq z.length n) ((snapVs (parts.map fun x => retype P e (ρ x.2))).bind fun s =>
        .opt (fillA (fun i => some (i * n, n)) ((List.replicate len (z.map AV.pv)).flatten) (zipV parts s.1)) fun cs => .chk (cs.all AV.pure) (freshE id 1
          (.ret { val := .ms id [] 0 len, hb := goneL s.2 ++ [(id, .arr 0 n len (litF (z.map AV.pv) (chunk n cs len)))], sc := s.2.map fun c => (c, false) })))
    | _, _ => .fail
  | _ => .fail

/-! ### appends -/
/-- What is appended (to the block b): how many elements, their cells, and a block that goes into them. -/
def srcE (own : Bool) (b : Nat) : AV → Ev (Nat × (Nat → List AV) × List Nat)
  | .pv (.seq n f) => .ret (n, fun i => (f i).map .pv, [])
  | .pv (.seqk _ n f) => .ret (n, fun i => (f i).map .pv, [])
  | .nil f => .ret (0, fun i => (f i).map .pv, [])
  | .ms c σ lo n => .chk (!Nat.beq c b) ((nodeE c σ).bind fun x => .chk x.dat (match own with
    | false => (wholeE lo n x.n x.f).bind fun g => .ret (n, fun i => (g i).map AV.scal, [])
    | true => .chk (σ.isEmpty && Nat.beq lo 0) ((wholeE lo n x.n x.f).bind fun g => .ret (n, g, [c]))))
  | _ => .fail
def app (n : Nat) (f : Nat → List AV) (m : Nat) (g : Nat → List AV) (z : List AV) : Nat → List AV := fun i => if i < n then f i else if i < n + m then g (i - n) else z
/-- The last step of a path. -/
def lastS : Stp → List Stp → List Stp × Stp
  | s, [] => ([], s)
  | s, t :: ρ => let r := lastS t ρ; (s :: r.1, r.2)
/-- What an append does behind its first steps. -/
def appEff (b sz n : Nat) (f : Nat → List AV) (z : List AV) (r : Nat × (Nat → List AV) × List Nat) (hb : List (Nat × Blk)) (sc : List (Nat × Bool)) : Eff :=
  { val := .ms b [] 0 (n + r.1), hb := hb ++ ((b, .arr 0 sz (n + r.1) (app n f r.1 r.2.1 z)) :: goneL r.2.2), sc := sc ++ ((b, false) :: r.2.2.map fun c => (c, false)) }
def appendE (P : Program) (id : Nat) (t : TypeId) (s x : AV) : Ev Eff := match P.underlying t with
  | some (.slice e) => match P.info? e, zeroOf P e with
    | some i, some z => .chk (Nat.ble 1 i.size && Nat.ble 1 i.bytes && Nat.beq z.length i.size) (match s with
      | .nil f => (srcE (z.any isSeq) id x).bind fun r => .nd (Nat.beq (r.2.1 0).length i.size) (.nd (Nat.ble ((0 + r.1) * i.bytes) reach)
          (freshE id 1 (.ret (appEff id i.size 0 (fun _ => zrows z) (zrows z) r [(id, .arr 0 i.size 0 fun _ => zrows z)] []))))
      | .ms b ρ lo n => .chk (Nat.beq lo 0) (.rd b fun B => match B with
        | .arr s sz N f => (srcE (z.any isSeq) b x).bind fun r => .nd (Nat.beq (r.2.1 0).length i.size) (.nd (Nat.ble ((n + r.1) * i.bytes) reach) (match ρ with
          | [] => .chk (Nat.beq sz i.size) (.ret (appEff b sz n f (f N) r [] []))
          | s0 :: ρ0 => .opt (Nd.go ⟨true, sz, N, f⟩ (s0 :: ρ0)) fun y => .chk (Nat.beq y.sz i.size) (freshE id 1 (.ret (appEff id y.sz n y.f (y.f y.n) r
              [(id, .arr 0 y.sz y.n y.f), (b, Blk.put (.arr (minT 1 s) sz N f) (lastS s0 ρ0).1 (lastS s0 ρ0).2.1 fun cs => cs.set (lastS s0 ρ0).2.2 (.pv .bad))] [(b, true)])))))
        | _ => .fail)
      | _ => .fail)
    | _, _ => .fail
  | _ => .fail

/-! ### calls -/
mutual
def AV.refs : AV → List (Nat × Bool)
  | .ptr b ρ _ _ => [(b, !ρ.isEmpty)]
  | .aptr b ρ _ _ _ _ => [(b, !ρ.isEmpty)]
  | .ms b ρ _ _ => [(b, !ρ.isEmpty)]
  | .clo _ _ caps => AV.refsL caps
  | .agg cs => AV.refsL cs
  | .tup vs => AV.refsL vs
  | .ifc _ v => v.refs
  | _ => []
def AV.refsL : List AV → List (Nat × Bool)
  | [] => []
  | v :: vs => v.refs ++ AV.refsL vs
end
mutual
/-- Blocks renumbered (true: where it leads below the block); what has no new number is lost. -/
def AV.map (r : Nat → Bool → Option Nat) : AV → AV
  | .ptr b ρ i o => match r b (!ρ.isEmpty) with | some c => .ptr c ρ i o | none => .pv .bad
  | .aptr b ρ i o m k => match r b (!ρ.isEmpty) with | some c => .aptr c ρ i o m k | none => .pv .bad
  | .ms b ρ lo n => match r b (!ρ.isEmpty) with | some c => .ms c ρ lo n | none => .pv .bad
  | .clo f k caps => .clo f k (AV.mapL r caps)
  | .agg cs => .agg (AV.mapL r cs)
  | .tup vs => .tup (AV.mapL r vs)
  | .ifc t v => .ifc t (v.map r)
  | .dead => .dead
  | .pv p => .pv p
  | .nil f => .nil f
  | .own sz n f => .own sz n f
  | .pref cs off => .pref cs off
def AV.mapL (r : Nat → Bool → Option Nat) : List AV → List AV
  | [] => []
  | v :: vs => v.map r :: AV.mapL r vs
end
def Blk.map (r : Nat → Bool → Option Nat) : Blk → Blk
  | .box s cs => .box s (AV.mapL r cs)
  | .lit s sz rows => .lit s sz (rows.map (AV.mapL r))
  | b => b
def numR (r : Nat → Option Nat) : Nat → Bool → Option Nat := fun b _ => r b
/-- What leads to some blocks is lost. -/
def scrR (sc : List (Nat × Bool)) : Nat → Bool → Option Nat := fun b d => bif sc.any fun s => Nat.beq s.1 b && (!s.2 || d) then none else some b
abbrev AV.ren (r : Nat → Option Nat) : AV → AV := AV.map (numR r)
abbrev AV.renL (r : Nat → Option Nat) : List AV → List AV := AV.mapL (numR r)
abbrev Blk.ren (r : Nat → Option Nat) : Blk → Blk := Blk.map (numR r)
abbrev AV.scrL (sc : List (Nat × Bool)) : List AV → List AV := AV.mapL (scrR sc)
abbrev Blk.scr (sc : List (Nat × Bool)) : Blk → Blk := Blk.map (scrR sc)
def Blk.refs : Blk → List (Nat × Bool)
  | .box _ cs => AV.refsL cs
  | .lit _ _ rows => rows.flatMap AV.refsL
  | _ => []
mutual
/-- Without slices whose memory is another's. -/
def erV : AV → AV
  | .pv (.seq _ _) => .pv .bad
  | .pv (.seqk _ _ _) => .pv .bad
  | .pref _ _ => .pv .bad
  | .clo f k caps => .clo f k (erL caps)
  | .agg cs => .agg (erL cs)
  | .tup vs => .tup (erL vs)
  | .ifc t v => .ifc t (erV v)
  | .own sz n f => .own sz n fun i => erL (f i)
  | .dead => .dead
  | .pv p => .pv p
  | .nil f => .nil f
  | .ptr b ρ i o => .ptr b ρ i o
  | .aptr b ρ i o m k => .aptr b ρ i o m k
  | .ms b ρ lo n => .ms b ρ lo n
def erL : List AV → List AV
  | [] => []
  | v :: vs => erV v :: erL vs
end
def erB : Blk → Blk
  | .box s cs => .box s (erL cs)
  | .arr s sz n f => .arr s sz n fun i => erL (f i)
  | .lit s sz rows => .lit s sz (rows.map erL)
  | .gone => .gone
/-- The blocks that some lead to. -/
def reachE : Nat → List Nat → List Nat → Ev (List Nat)
  | 0, _, acc => .ret acc
  | _ + 1, [], acc => .ret acc
  | n + 1, b :: todo, acc => match acc.elem b with
    | true => reachE n todo acc
    | false => .rd b fun B => match B with
      | .gone => .fail
      | .lit _ 0 _ => .fail
      | B => reachE n (B.refs.map Prod.fst ++ todo) (acc ++ [b])
def place (l : List Nat) (b : Nat) : Option Nat := match l with
  | [] => none
  | x :: xs => bif Nat.beq x b then some 0 else (place xs b).map (· + 1)
def blksE : List Nat → Ev (List Blk)
  | [] => .ret []
  | b :: bs => .rd b fun B => (blksE bs).bind fun Bs => .ret (B :: Bs)
def zipB : List Nat → List Blk → List (Nat × Blk)
  | b :: bs, x :: xs => (b, x) :: zipB bs xs
  | _, _ => []
def Blk.start : Blk → Blk
  | .box _ cs => .box 2 cs
  | .arr _ sz n f => .arr 2 sz n f
  | .lit _ sz rows => .lit 2 sz rows
  | .gone => .gone
def alsoL : List Blk → List Blk → List Blk
  | A :: As, B :: Bs => B.also A.tag :: alsoL As Bs
  | [], B :: Bs => B.also 0 :: alsoL [] Bs
  | _, [] => []
def callOk (P : Program) (f : FuncId) : Bool := match P.funcs[f]? with
  | some fn => match fn.body with
    | some _ => !(fn.name == "runtime.NumGoroutine")
    | none => false
  | none => false
/-- How many blocks a call may bring. -/
def brings : Nat := 4
def upFrom (b : Nat) : Nat → List Nat
  | 0 => []
  | n + 1 => b :: upFrom (b + 1) n
/-- What a call's blocks are to the caller: those that it handed over, and behind them new ones. -/
def backIds (l : List Nat) (id n : Nat) : List Nat := l ++ upFrom id (n - l.length)
def scOf : List Nat → List Blk → List (Nat × Bool)
  | b :: bs, B :: Bs => (match B.tag with | 0 => [(b, false)] | 1 => [(b, true)] | _ => []) ++ scOf bs Bs
  | _, _ => []
def callE (P : Program) (id : Nat) (lend : Bool) (f : FuncId) (args : List AV) : Ev Eff :=
  .chk (callOk P f) ((match lend with | true => snapAs args | false => .ret (args, [])).bind fun s =>
    (reachE 64 ((AV.refsL s.1).map Prod.fst) []).bind fun l => .chk (noDup l && l.all fun b => !s.2.elem b) ((blksE l).bind fun Bs =>
      .cl f (AV.renL (place l) s.1) (Bs.map fun B => (Blk.map (numR (place l)) B).start) fun r H' =>
        .chk (Nat.ble l.length H'.length && Nat.ble H'.length (l.length + brings)) (freshE id (H'.length - l.length)
          (let bk := fun i => (backIds l id H'.length)[i]?
           match s.2 with
           | [] => .ret { val := r.map (numR bk), hb := zipB (backIds l id H'.length) (alsoL Bs (H'.map (Blk.ren bk))), sc := scOf l H' }
           | _ => .ret { val := erV (r.map (numR bk)), hb := zipB (backIds l id H'.length) (alsoL Bs (H'.map fun B => erB (Blk.map (numR bk) B))), sc := scOf l H' }))))
def methodOf (P : Program) (t : TypeId) (name : String) : Option (FuncId × Bool) := match P.info? t with
  | some i => match i.methods.find? (·.name == name) with
    | some m => if m.path.size = 0 then m.func else none
    | none => none
  | none => none
def recvE (P : Program) (t : TypeId) (byPtr : Bool) (v : AV) : Ev AV := match byPtr, P.underlying t with
  | true, some (.pointer _) => .ret v
  | false, some (.pointer e) => loadE P e v
  | false, some _ => .ret v
  | _, _ => .fail
def argsV (P : Program) (ρ : Operand → AV) : List Operand → List TypeId → List AV
  | x :: xs, t :: ts => retype P t (ρ x) :: argsV P ρ xs ts
  | x :: xs, [] => ρ x :: argsV P ρ xs []
  | [], _ => []
def builtinE (P : Program) (ρ : Operand → AV) (id : Nat) (b : Builtin) (args : List Operand) (ts : List TypeId) : Ev Eff :=
  match b with
  | .len => match args, ts with
    | [x], [t] => .opt (lenV P t (ρ x)) fun p => .ret { val := .pv p }
    | _, _ => .fail
  | .append => match args, ts with
    | [s, x], [t, u] => .chk (Nat.beq t u) (appendE P id t (retype P t (ρ s)) (retype P u (ρ x)))
    | _, _ => .fail
  | .copy => match args, ts with
    | [d, x], [t, u] => copyE P t u (retype P t (ρ d)) (retype P u (ρ x))
    | _, _ => .fail
  | .max => match args with
    | [x, y] => match ρ x, ρ y with
      | .pv (.int k1 a), .pv (.int _ b) => .ret { val := .pv (.int k1 (if b > a then b else a)) }
      | _, _ => .fail
    | _ => .fail
  | .min => match args with
    | [x, y] => match ρ x, ρ y with
      | .pv (.int k1 a), .pv (.int _ b) => .ret { val := .pv (.int k1 (if b < a then b else a)) }
      | _, _ => .fail
    | _ => .fail
  | _ => .fail
/-- What is known to be nil, or not, held against nil. -/
def nilK (d : Option TypeDesc) (v : AV) (y : Operand) : Option Bool := match d with
  | some (.slice _) => match v, y with
    | .pv (.seqk b _ _), .const (.slice none 0 0) => some b
    | _, _ => none
  | some (.func _ _ _) => match v, y with
    | .pv (.fn _), .const .nilFunc => some false
    | .pv .nilFn, .const .nilFunc => some true
    | _, _ => none
  | some (.pointer _) => match v, y with
    | .pv .nilPtr, .const (.pointer none) => some true
    | .ptr _ _ _ _, .const (.pointer none) => some false
    | .pref _ _, .const (.pointer none) => some false
    | _, _ => none
  | _ => none
/-- An array put whole into an array's block. -/
def spanF (cs : List AV) (f : Nat → List AV) (i n : Nat) : Nat → List AV := cpy f i n fun k => [(cs.getD k dead).num]
def spanE (P : Program) (t : TypeId) (b s i N : Nat) (f : Nat → List AV) (v : AV) : Ev Eff := .opt (sizeT P t) fun n => .chk (Nat.beq v.cells.length n && Nat.ble 1 n && v.cells.all AV.pure) (.nd (Nat.ble (i + n) N) (.nd (noOwn f i n) (.ret { val := dead, hb := [(b, .arr s 1 N (spanF v.cells f i n))] })))
def storeX (P : Program) (p : Bool) (id : Nat) (t : TypeId) (a v : AV) : Ev Eff := match isArrT P t, a with
  | true, .ptr b [] i 0 => .rd b fun B => match B with
    | .arr s 1 N f => spanE P t b s i N f v
    | _ => storeE P p id t a v
  | _, _ => storeE P p id t a v
def isU8 (P : Program) (e : TypeId) : Bool := match P.underlying e with
  | some (.int .u8) => true
  | _ => false
/-- Bytes as a string. -/
def byteC : List AV → Option Nat
  | [.pv (.int .u8 v)] => some v.toNat
  | _ => none
def bytesOk (f : Nat → List AV) (lo n : Nat) : Bool := (List.range n).all fun i => (byteC (f (lo + i))).isSome
def bytesOf (f : Nat → List AV) (lo n : Nat) : ByteArray := ⟨((List.range n).map fun i => UInt8.ofNat ((byteC (f (lo + i))).getD 0)).toArray⟩
def strE (P : Program) (e : TypeId) (v : AV) : Ev AV := match v with
  | .ms b ρ lo n => .chk (isU8 P e) ((nodeE b ρ).bind fun x => .chk (x.dat && Nat.beq x.sz 1) (.nd (bytesOk x.f lo n) (.ret (.pv (.str (bytesOf x.f lo n))))))
  | .nil _ => .chk (isU8 P e) (.ret (.pv (.str .empty)))
  | _ => .fail
/-- An operation. 'ρ': its operands' values; 'id': the first number for a block of its own; 'lend': the slices that are handed to a call are lent alone. -/
def opE (P : Program) (id : Nat) (lend : Bool) (o : Oper) (ρ : Operand → AV) : Ev Eff :=
  match o.op with
  | .move x => .ret { val := retype P o.type (ρ x) }
  | .assign x => match lend with
    | true => .ret { val := retype P o.type (ρ x) }
    | false => iceE (ρ x)
  | .pick c a b => match ρ c with
    | .pv (.bool t) => .sp t fun t => .ret { val := match t with | true => ρ a | false => ρ b }
    | _ => .fail
  | .alloc e => .opt (zeroOf P e) fun z => newE P id e (z.map zav)
  | .box e x => newE P id e (retype P e (ρ x)).cells
  | .build t parts => .opt (buildV P ρ t parts.toList) fun x => .ret { val := x }
  | .buildSlice t len parts => match lend with
    | true => buildSliceE P ρ id t len parts.toList
    | false => freezeE P ρ id t len parts.toList
  | .load t a => (loadE P t (ρ a)).bind fun x => .ret { val := x }
  | .store t a x => storeX P (!lend) id t (ρ a) (retype P t (ρ x))
  | .nilCheck x => match ρ x with
    | .ptr b q i off => .ret { val := .ptr b q i off }
    | .pref cs off => .ret { val := .pref cs off }
    | _ => .fail
  | .binOp op t x y _ => match nilK (P.underlying t) (ρ x) y with
    | some b => match op with
      | .eql => .ret { val := .pv (.bool b) }
      | .neq => .ret { val := .pv (.bool !b) }
      | _ => .fail
    | none => (binE P op t (ρ x) (ρ y)).bind fun v => .ret { val := v }
  | .unOp op _ x => .opt (unV op (ρ x)) fun r => .ret { val := r }
  | .convert src dst x => match P.underlying src, P.underlying dst, ρ x with
    | some _, some (.int kd), .pv (.int _ n) => .ret { val := .pv (.int kd (kd.wrap n)) }
    | some (.slice _), some (.slice e), .ms b q lo n => .chk (Nat.beq src dst && isU8 P e && Nat.ble 1 n) (.ret { val := .ms b q lo n })
    | some (.slice e), some .string, v => (strE P e v).bind fun r => .ret { val := r }
    | _, _, _ => .fail
  | .makeInterface t x => match P.underlying t with
    | some (.interface _) => .fail
    | some _ => .ret { val := .ifc t (ρ x) }
    | none => .fail
  | .makeFunc (.func f) first caps => .ret { val := .clo f first.toList.length ((first.toList ++ caps.toList).map ρ) }
  | .makeSlice t l c => match P.underlying t, ρ l, ρ c with
    | some (.slice e), .pv (.int _ n), .pv (.int _ m) => match P.info? e, zeroOf P e with
      | some i, some z => .chk (Nat.ble 1 i.size && Nat.beq z.length i.size && Nat.ble 1 i.bytes && z.all seqOk) (.nd (decide (0 ≤ n)) (.nd (decide (n = m)) (.nd (decide (n * i.bytes ≤ reach)) (freshE id 1
          (.ret { val := .ms id [] 0 n.toNat, hb := [(id, .arr 0 i.size n.toNat fun _ => zrows z)] })))))
      | _, _ => .fail
    | _, _, _ => .fail
  | .slice t x lo hi mx => (sliceX P t (ρ x) (lo.map ρ) (hi.map ρ) (mx.map ρ)).bind fun v => .ret { val := v }
  | .fieldAddr s x f => .opt (fieldAddrV P s (ρ x) f) fun r => .ret { val := r }
  | .field s x f => .opt (fieldV P s (ρ x) f) fun r => .ret { val := r }
  | .indexAddr t x i => (idxE P t (ρ x) (ρ i)).bind fun v => .ret { val := v }
  | .index t x i => match P.underlying t, ρ x, ρ i with
    | some .string, .pv (.str s), .pv (.int _ i) => .nd (decide (0 ≤ i)) (.nd (decide (i < (s.size : Int))) (.ret { val := .pv (.int .u8 (s[i.toNat]!).toNat) }))
    | some (.array n e), .agg cs, .pv (.int _ i) => .opt (sizeT P e) fun s => .chk (Nat.beq s 1 && Nat.beq n cs.length && !isAggT P e && cs.all AV.pure) (.nd (decide (0 ≤ i)) (.nd (decide (i < (n : Int))) (.ret { val := (cs.getD i.toNat dead).scal })))
    | _, _, _ => .fail
  | .typeAssert x _ asserted ok => match P.underlying asserted, ρ x with
    | some (.interface _), _ => .fail
    | some _, .ifc t v => .chk (Nat.beq t asserted) (.ret { val := match ok with | true => .tup [v, .pv (.bool true)] | false => v })
    | _, _ => .fail
  | .extract x i => match ρ x with
    | .tup vs => .opt vs[i]? fun v => match lend with
      | true => .ret { val := v }
      | false => iceE v
    | _ => .fail
  | .call c => match c.callee with
    | .builtin b => builtinE P ρ id b c.args.toList c.argTypes.toList
    | .value f => match ρ f with
      | .pv (.fn g) => callE P id lend g (argsV P ρ c.args.toList c.argTypes.toList)
      | .clo g k caps => callE P id lend g (caps.take k ++ (argsV P ρ c.args.toList c.argTypes.toList ++ caps.drop k))
      | _ => .fail
    | .invoke r name => match ρ r with
      | .ifc t v => .opt (methodOf P t name) fun m => (recvE P t m.2 v).bind fun x => callE P id lend m.1 (x :: argsV P ρ c.args.toList c.argTypes.toList)
      | _ => .fail
  | _ => .fail

/-! ### regions, code, functions -/
/-- How many blocks an operation may make. -/
def makes (P : Program) (o : Oper) : Nat := match o.op with
  | .alloc e => 1 + slots P e
  | .box e _ => 1 + slots P e
  | .makeSlice _ _ _ => 1
  | .buildSlice _ _ _ => 1
  | .store t _ _ => slots P t
  | .call c => match c.callee with
    | .builtin .append => 1
    | .builtin _ => 0
    | _ => brings
  | _ => 0
def idsTo (P : Program) : List Oper → Nat → Nat
  | [], _ => 0
  | _, 0 => 0
  | o :: os, n + 1 => makes P o + idsTo P os n
/-- The answers, and what is to be shown. -/
abbrev Ans (R : Type) := List Say → Option (List Ob × R)
def Ans.fail {R : Type} : Ans R := fun _ => none
def moreOb {R : Type} (l : List Ob) : Option (List Ob × R) → Option (List Ob × R)
  | some (l', r) => some (l ++ l', r)
  | none => none
/-- Of which effects another word may be asked for. -/
def asksRw (o : Oper) : Bool := match o.op with
  | .move _ => false
  | .assign _ => false
  | .pick _ _ _ => false
  | .nilCheck _ => false
  | .fieldAddr _ _ _ => false
  | .extract _ _ => false
  | .makeInterface _ _ => false
  | .makeFunc _ _ _ => false
  | .indexAddr _ _ _ => false
  | .typeAssert _ _ _ _ => false
  | _ => true
def putBlks (H : List Blk) : List (Nat × Blk) → List Blk
  | [] => H
  | (b, x) :: l => putBlks (H.set b x) l
def Eff.on (e : Eff) (dst : Option Nat) (st : St) : St := match e.sc with
  | [] => setT { st with heap := putBlks st.heap e.hb } dst e.val
  | sc => setT { tmps := AV.scrL sc st.tmps, heap := putBlks (st.heap.map (Blk.scr sc)) e.hb } dst e.val
/-- What an operation yields that is left out. -/
def undefV : AV := .tup []
def guardT (ops : List Oper) (j : Nat) : Option Nat := match ops[j]? with
  | some o => o.dst
  | none => none
def branchE {R : Type} (st : St) (t : Nat) (k : Bool → St → Ans R) : Ans R := match getT st t with
  | .pv (.bool b) => fun s => match s with
    | .b d :: s => moreOb [.t b d] (k d { st with tmps := st.tmps.set t (.pv (.bool d)) } s)
    | .keep :: s => match b with
      | true => k true st s
      | false => k false st s
    | _ => none
  | _ => Ans.fail
def sameB : Bool → Bool → Bool
  | true, true => true
  | false, false => true
  | _, _ => false
/-- Is an operation wanted? -/
def wantE {R : Type} (ops : List Oper) (o : Oper) (st : St) (k : Bool → St → Ans R) : Ans R := match o.guard with
  | none => k true st
  | some (j, want) => match guardT ops j with
    | none => Ans.fail
    | some g => match getT st g with
      | .tup _ => k false st
      | _ => branchE st g fun b st => k (sameB b want) st
def hasBlk (b : Nat) : List Nat → Bool
  | [] => false
  | x :: l => Nat.beq x b || hasBlk b l
def lookB (b : Nat) : List (Nat × Blk) → Blk
  | [] => .gone
  | x :: l => bif Nat.beq x.1 b then x.2 else lookB b l
def dropB (bs : List Nat) : List (Nat × Blk) → List (Nat × Blk)
  | [] => []
  | x :: l => bif hasBlk x.1 bs then dropB bs l else x :: dropB bs l
def sameObs (H : List Blk) (hb : List (Nat × Blk)) : List Nat → List Ob
  | [] => []
  | b :: bs => .e { val := dead, hb := [(b, lookB b hb)] } { val := dead, hb := [(b, getB H b)] } :: sameObs H hb bs
/-- Blocks that are said to stay as they are. -/
def unE (H : List Blk) (bs : List Nat) (l : List Ob) (r : List Nat) (e : Eff) (s : List Say) : Out Eff := match e.sc with
  | [] => match noDup (e.hb.map Prod.fst) with
    | true => some (l ++ sameObs H e.hb bs, r ++ bs, { e with hb := dropB bs e.hb }, s)
    | false => none
  | _ => none
/-- An operation's run, with another word for its effect where the answers have one. -/
def runE (P : Program) (id : Nat) (lend : Bool) (o : Oper) (st : St) (s : List Say) : Out Eff := match (opE P id lend o (evT st.tmps)).run (getB st.heap) s with
  | none => none
  | some (l, r, e, s) => match asksRw o with
    | false => some (l, r, e, s)
    | true => match s with
      | .e y :: s => some (l ++ [.e e y], r, y, s)
      | .keep :: s => some (l, r, e, s)
      | .u bs :: s => unE st.heap bs l r e s
      | _ => none
/-- What is remembered of an operation: its effect, the blocks that it read, the temporaries and the blocks that it changes, and what its result's temporary led to before. -/
structure Rec where
  e : Eff
  rd : List Nat
  wt : List Nat
  wb : List Nat
  od : List (Nat × Bool)
def hasN (l : List Nat) (d : Nat) : Bool := match l with
  | [] => false
  | x :: xs => Nat.beq x d || hasN xs d
/-- What is lost leads to none of these. -/
def missS (sc : List (Nat × Bool)) (l : List (Nat × Bool)) : Bool := sc.all fun s => l.all fun x => !(Nat.beq s.1 x.1 && (!s.2 || x.2))
def hitT (sc : List (Nat × Bool)) : Nat → List AV → List Nat
  | _, [] => []
  | i, v :: vs => match missS sc v.refs with
    | true => hitT sc (i + 1) vs
    | false => i :: hitT sc (i + 1) vs
def hitB (sc : List (Nat × Bool)) : Nat → List Blk → List Nat
  | _, [] => []
  | i, v :: vs => match missS sc v.refs with
    | true => hitB sc (i + 1) vs
    | false => i :: hitB sc (i + 1) vs
def oldRefs (dst : Option Nat) (st : St) : List (Nat × Bool) := match dst with
  | some d => (st.tmps.getD d dead).refs
  | none => []
def recOf (dst : Option Nat) (st : St) (e : Eff) (rd : List Nat) : Rec := match e.sc with
  | [] => ⟨e, rd, dst.toList, e.hb.map Prod.fst, oldRefs dst st ++ e.hb.flatMap fun x => (getB st.heap x.1).refs⟩
  | sc => ⟨e, rd, dst.toList ++ hitT sc 0 st.tmps, e.hb.map Prod.fst ++ (sc.map Prod.fst ++ hitB sc 0 st.heap), oldRefs dst st ++ e.hb.flatMap fun x => (getB st.heap x.1).refs⟩
def tkOf : Operand → Option Nat
  | .tmp t => some t
  | _ => none
def opTmps (o : Oper) : List Nat := o.op.operands.toList.filterMap tkOf
def gTmp (ops : List Oper) (o : Oper) : List Nat := match o.guard with
  | some (g, _) => match ops[g]? with
    | some q => match q.dst with
      | some d => [d]
      | none => []
    | none => []
  | none => []
def looksL (ops : List Oper) (o : Oper) : List Nat := opTmps o ++ gTmp ops o
def opsE (P : Program) (L : Nat → Bool) (ops : List Oper) {R : Type} : Nat → Nat → List Oper → St → (List Rec → St → Ans R) → Ans R
  | _, _, [], st, k => k [] st
  | ix, id, o :: rest, st, k => wantE ops o st fun b st => match b with
    | true => fun s => match runE P id (L ix) o st s with
      | none => none
      | some (l, r, e, s) => moreOb l (opsE P L ops (ix + 1) (id + makes P o) rest (e.on o.dst st) (fun rs => k (recOf o.dst st e r :: rs)) s)
    | false => opsE P L ops (ix + 1) (id + makes P o) rest (setT st o.dst undefV) fun rs => k (recOf o.dst st { val := undefV } [] :: rs)

/-! #### whose order may be drawn -/
def apartN (l m : List Nat) : Bool := l.all fun x => !hasN m x
def effRefs (e : Eff) : List (Nat × Bool) := e.val.refs ++ e.hb.flatMap fun x => x.2.refs
/-- Two operations, the first one ahead of the other in the text, may as well change places. -/
def okRec (ops : List Oper) (o q : Oper) (x y : Rec) : Bool :=
  apartN x.wt (looksL ops q) && apartN y.wt (looksL ops o) && apartN x.wt y.wt && apartN x.wb y.rd && apartN y.wb x.rd && apartN x.wb y.wb && missS x.e.sc (effRefs y.e) && missS y.e.sc (effRefs x.e) && missS y.e.sc x.od
def bindsL (o : Oper) : List Nat := (o.after.toList.filter fun e => match e.ground with | .textOnly _ => false | .gcOnly _ => false | _ => true).map (·.on)
def maskOf (ms : List Nat) : List Nat → Nat
  | [] => 0
  | e :: es => ((1 <<< e) ||| ms.getD e 0) ||| maskOf ms es
/-- What goes ahead of each operation. -/
def masks : List Oper → List Nat → List Nat
  | [], ms => ms
  | o :: rest, ms => masks rest (ms ++ [maskOf ms (bindsL o)])
def pairsOk (ops : List Oper) (i m : Nat) (q : Oper) (y : Rec) : Nat → List Oper → List Rec → Bool
  | j, p :: rest, x :: xs => (Nat.ble i j || m.testBit j || okRec ops p q x y) && pairsOk ops i m q y (j + 1) rest xs
  | _, _, _ => true
def rowsOk (ops : List Oper) (rs : List Rec) : Nat → List Oper → List Rec → List Nat → Bool
  | i, q :: rest, y :: ys, m :: ms => pairsOk ops i m q y 0 ops rs && rowsOk ops rs (i + 1) rest ys ms
  | _, _, _, _ => true
def backOk : Nat → List Oper → Bool
  | _, [] => true
  | i, o :: rest => ((bindsL o).all fun e => Nat.ble (e + 1) i) && backOk (i + 1) rest
def drawOk (ops : List Oper) (rs : List Rec) : Bool := backOk 0 ops && rowsOk ops rs 0 ops rs (masks ops [])

/-! #### loops' heads, and ends -/
def grow (n : Nat) (st : St) : St := { st with heap := st.heap ++ List.replicate n .gone }
/-- Without the last blocks, if they are gone; so many stay. -/
def trimR : List Blk → List Blk
  | [] => []
  | B :: Bs => match trimR Bs with
    | [] => match B with
      | .gone => []
      | B => [B]
    | Bs => B :: Bs
def trim (m : Nat) (H : List Blk) : List Blk := H.take m ++ trimR (H.drop m)
def firstRegion : Code → Nat
  | .region id _ _ => id
  | .seq a _ => firstRegion a
  | .cond _ a _ => firstRegion a
  | .block _ c => firstRegion c
  | .loop c => firstRegion c
  | .scope c => firstRegion c
  | _ => 0
def maskL (keep : List Nat) : Nat → List AV → List AV
  | _, [] => []
  | i, v :: vs => (bif keep.elem i then v else dead) :: maskL keep (i + 1) vs
def upTo : Nat → List Nat
  | 0 => []
  | n + 1 => upTo n ++ [n]
def reached (H : List Blk) : Nat → List Nat → List Nat → List Nat
  | 0, _, acc => acc
  | _ + 1, [], acc => acc
  | n + 1, b :: todo, acc => bif acc.elem b then reached H n todo acc else reached H n ((getB H b).refs.map Prod.fst ++ todo) (acc ++ [b])
def fromN (h n : Nat) : List Nat → List Nat
  | [] => []
  | b :: bs => bif Nat.ble h b && Nat.ble (b + 1) n then b :: fromN h n bs else fromN h n bs
def blkRefs : List Blk → List Nat
  | [] => []
  | b :: bs => b.refs.map Prod.fst ++ blkRefs bs
/-- The blocks that are kept: the first ones, and behind them what is reached from them and from values. -/
def keptIds (m : Nat) (vs : List AV) (H : List Blk) : List Nat := upTo (min m H.length) ++ fromN m H.length (reached H 64 ((AV.refsL vs).map Prod.fst ++ blkRefs (H.take m)) [])
def selSt (m : Nat) (st : St) : St :=
  let ids := keptIds m st.tmps st.heap
  { tmps := AV.renL (place ids) st.tmps, heap := ids.map fun b => (getB st.heap b).map (numR (place ids)) }
/-- Temporaries that hold a slice without room get a block for it. -/
def nilTo (p : Nat → Bool) : List Nat → St → St
  | [], st => st
  | t :: ts, st => match st.tmps.getD t dead with
    | .nil f => match Nat.ble 1 (f 0).length with
      | true => nilTo p ts { tmps := st.tmps.set t (.ms st.heap.length [] 0 0), heap := st.heap ++ [.arr 0 (f 0).length 0 fun _ => nilRow (p t) (f 0)] }
      | false => nilTo p ts st
    | _ => nilTo p ts st
def limT (l : List Nat) (i : Nat) : Nat := match l.elem i with
  | true => 0
  | false => match l.elem (i + 1000) with
    | true => 1
    | false => 2
def untag (l : List Nat) : Nat → List Blk → List Blk
  | _, [] => []
  | i, B :: Bs => B.also (limT l i) :: untag l (i + 1) Bs
mutual
/-- The parts of a block that a value leads to: from its beginning, or else. -/
def AV.wins (b : Nat) : AV → List (Option Nat)
  | .ptr c _ _ _ => bif Nat.beq c b then [none] else []
  | .aptr c _ _ _ _ _ => bif Nat.beq c b then [none] else []
  | .ms c ρ lo n => bif Nat.beq c b then (match ρ, lo with | [], 0 => [some n] | _, _ => [none]) else []
  | .clo _ _ caps => AV.winsL b caps
  | .agg cs => AV.winsL b cs
  | .tup vs => AV.winsL b vs
  | .ifc _ v => v.wins b
  | _ => []
def AV.winsL (b : Nat) : List AV → List (Option Nat)
  | [] => []
  | v :: vs => v.wins b ++ AV.winsL b vs
end
def Blk.wins (b : Nat) : Blk → List (Option Nat)
  | .box _ cs => AV.winsL b cs
  | .lit _ _ rows => rows.flatMap (AV.winsL b)
  | _ => []
/-- A block to which one value alone leads, and to its first elements alone, is cut to these. -/
def shrink1 (b : Nat) (vs : List AV) (H : List Blk) : List Blk := match AV.winsL b vs ++ H.flatMap (Blk.wins b) with
  | [some n] => match getB H b with
    | .arr _ sz N f => H.set b (.arr 0 sz n (cutF 0 n N f))
    | _ => H
  | _ => H
def shrink : List Nat → List AV → List Blk → List Blk
  | [], _, H => H
  | b :: bs, vs, H => shrink bs vs (shrink1 b vs H)
/-- What is known of a function's text: 0 + r: which temporaries live at the head of the loop that begins with the region r; 1: behind it; 2: which of these get blocks; 3: which blocks may be others; 4: in which operations of a region slices are handed over for good; 5, 6: whether a block is cut out, and what lives behind it; 7: which results get blocks; 8: which blocks may be others in the end; 9, 10: which blocks are cut to what is led to. -/
abbrev Lives := FuncId → Nat → Nat → Option (List Nat)
def headN (L : Nat → Nat → Option (List Nat)) (r : Nat) (st : St) : St := match L 2 r with
  | some l => nilTo (fun t => l.elem (1000 + t)) l st
  | none => st
def outSt (L : Nat → Nat → Option (List Nat)) (q r m : Nat) (st : St) : St := match L q r with
  | some l => selSt m { st with tmps := maskL l 0 st.tmps }
  | none => st
def headT (L : Nat → Nat → Option (List Nat)) (r : Nat) (st : St) : St := match L 3 r with
  | some l => { st with heap := untag l 0 st.heap }
  | none => st
def headC (L : Nat → Nat → Option (List Nat)) (r : Nat) (st : St) : St := match L 9 r with
  | some l => { st with heap := shrink l st.tmps st.heap }
  | none => st
def headSt (L : Nat → Nat → Option (List Nat)) (r m : Nat) (st : St) : St := headT L r (headC L r (outSt L 0 r m (headN L r st)))
/-- An operation's slices are lent, where it is not said otherwise. -/
def lends (L : Nat → Nat → Option (List Nat)) (r : Nat) (ix : Nat) : Bool := match L 4 r with
  | some l => !l.elem ix
  | none => true
def execE (P : Program) (L : Nat → Nat → Option (List Nat)) (m : Nat) {R : Type} : Code → St → (Ex → St → Ans R) → Ans R
  | .skip, st, k => k .normal st
  | .region r ops draw, st, k => opsE P (lends L r) ops.toList 0 st.heap.length ops.toList (grow (idsTo P ops.toList ops.toList.length) st) fun rs st => match !draw || drawOk ops.toList rs with
    | true => k .normal { st with heap := trim m st.heap }
    | false => Ans.fail
  | .seq a b, st, k => execE P L m a st fun e st => match e with
    | .normal => execE P L m b st k
    | .exit i => k (.exit i) st
    | .ret => k .ret st
  | .cond c a b, st, k => match c with
    | .tmp t => branchE st t fun x st => match x with
      | true => execE P L m a st k
      | false => execE P L m b st k
    | .const (.bool true) => execE P L m a st k
    | .const (.bool false) => execE P L m b st k
    | _ => Ans.fail
  | .block id c, st, k => match L 5 (firstRegion c) with
    | some _ => fun s => match s with
      | .l e x' :: s => moreOb [.k (.block id c) m (outSt L 5 (firstRegion c) m st) e x'] (k e x' s)
      | _ => none
    | none => execE P L m c st fun e st => match e with
      | .exit i => bif Nat.beq i id then k .normal st else k (.exit i) st
      | .normal => k .normal st
      | .ret => k .ret st
  | .loop c, st, k => fun s => match s with
    | .l e x' :: s => moreOb [.l c m (headSt L (firstRegion c) m st) e x'] (k e x' s)
    | _ => none
  | .exit id, st, k => k (.exit id) st
  | .ret, st, k => k .ret st
  | _, _, _ => Ans.fail
def fin {R : Type} (r : R) : Ans R := fun s => match s with
  | [] => some ([], r)
  | _ => none

/-! #### a function's end -/
/-- A result: what it holds of an array below a block that stays behind is told as it is now. -/
def outS (m : Nat) (H : List Blk) : AV → AV
  | .ms b ρ lo n => bif Nat.ble (b + 1) m || ρ.isEmpty then .ms b ρ lo n else match (getB H b).nd with
    | some x => match x.go ρ with
      | some y => bif y.dat then .pv (.seq n fun i => snapL (cutF lo n y.n y.f i)) else .pv .bad
      | none => .pv .bad
    | none => .pv .bad
  | v => v
def outV (m : Nat) (H : List Blk) : AV → AV
  | .agg cs => .agg (cs.map (outS m H))
  | v => outS m H v
def resOne (P : Program) (st : St) : ResultVar → Option AV
  | .tmp t => some (getT st t)
  | .cell a t => match (loadE P t (getT st a)).run (getB st.heap) [] with
    | some ([], _, v, _) => some v
    | _ => none
def resAll (P : Program) (st : St) : List ResultVar → Option (List AV)
  | [] => some []
  | r :: rs => match resOne P st r with
    | some v => (resAll P st rs).map (v :: ·)
    | none => none
/-- The results' cells, one behind the other. -/
def nilOne : Bool → Bool → AV → List Blk → AV × List Blk
  | true, p, .nil f, H => match Nat.ble 1 (f 0).length with
    | true => (.ms H.length [] 0 0, H ++ [.arr 0 (f 0).length 0 fun _ => nilRow p (f 0)])
    | false => (.nil f, H)
  | _, _, v, H => (v, H)
def nilIn (l : List Nat) : Nat → List AV → List Blk → List AV × List Blk
  | _, [], H => ([], H)
  | i, v :: vs, H => let q := nilOne (l.elem i) (l.elem (1000 + i)) v H; let r := nilIn l (i + 1) vs q.2; (q.1 :: r.1, r.2)
def nilAgg (l : List Nat) (i : Nat) (v : AV) (H : List Blk) : AV × List Blk × Nat := match v with
  | .agg cs => let q := nilIn l i cs H; (.agg q.1, q.2, cs.length)
  | v => let q := nilOne (l.elem i) (l.elem (1000 + i)) v H; (q.1, q.2, 1)
def nilOut (l : List Nat) : Nat → List AV → List Blk → List AV × List Blk
  | _, [], H => ([], H)
  | i, v :: vs, H => let q := nilAgg l i v H; let r := nilOut l (i + q.2.2) vs q.2.1; (q.1 :: r.1, r.2)
/-- The blocks of which results are told by their elements. -/
def lostS (m : Nat) : AV → List Nat
  | .ms b ρ lo n => bif Nat.ble (b + 1) m || ρ.isEmpty then [] else [b]
  | _ => []
def lostV (m : Nat) : AV → List Nat
  | .agg cs => cs.flatMap (lostS m)
  | v => lostS m v
def tupOf : List AV → AV
  | [v] => v
  | vs => .tup vs
def nilQ (L : Nat → Nat → Option (List Nat)) (vs : List AV) (H : List Blk) : List AV × List Blk := match L 7 0 with
  | some l => nilOut l 0 vs H
  | none => (vs, H)
def endR (T C : List Nat) (q : List AV × List Blk) (us : List AV) (ids : List Nat) (m : Nat) : Option (AV × List Blk) := match (q.1.flatMap (lostV m)).all fun b => !ids.elem b with
  | true => some (tupOf (AV.renL (place ids) us), untag T 0 (shrink C (AV.renL (place ids) us) (ids.map fun b => (getB q.2 b).map (numR (place ids)))))
  | false => none
def endQ (T C : List Nat) (q : List AV × List Blk) (m : Nat) : Option (AV × List Blk) := endR T C q (q.1.map (outV m q.2)) (keptIds m (q.1.map (outV m q.2)) q.2) m
def endE (P : Program) (L : Nat → Nat → Option (List Nat)) (fn : Func) (m : Nat) (st : St) : Option (AV × List Blk) := match resAll P st fn.results.toList with
  | some vs => endQ ((L 8 0).getD []) ((L 10 0).getD []) (nilQ L vs st.heap) m
  | none => none
def bodyE (P : Program) (L : Lives) (f : FuncId) (fn : Func) (args : List AV) (H : List Blk) : Ans (AV × List Blk) := match fn.body with
  | some c => execE P (L f) H.length c ⟨args ++ List.replicate (fn.ntmps - args.length) dead, H⟩ fun e st => match e with
    | .exit _ => Ans.fail
    | _ => match endE P (L f) fn H.length st with
      | some r => fin r
      | none => Ans.fail
  | none => Ans.fail
/-- A function, on a path. -/
def funE (P : Program) (L : Lives) (f : FuncId) (args : List AV) (H : List Blk) : Ans (AV × List Blk) := match P.funcs[f]? with
  | some fn => bodyE P L f fn args H
  | none => Ans.fail
/-- A loop's body (or a block that is cut out), on a path. -/
def roundE (P : Program) (L : Lives) (f : FuncId) (m : Nat) (c : Code) (s : St) : Ans (Ex × St) := execE P (L f) m c s fun e s => fin (e, s)

end Go.Bm
