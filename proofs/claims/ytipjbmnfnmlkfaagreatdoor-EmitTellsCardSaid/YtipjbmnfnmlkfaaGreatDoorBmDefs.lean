import Derived.Test.YtipjbmnfnmlkfaaGreatDoorBmPv
namespace Go.Bm
set_option autoImplicit false
set_option linter.unusedVariables false
abbrev Stp := Nat × Nat
inductive AV where
 | dead
 | pv (p : PV)
 | nil (f : Nat → List PV)
 | own (sz n : Nat) (f : Nat → List AV)
 | ptr (b : Nat) (ρ : List Stp) (i o : Nat)
 | aptr (b : Nat) (ρ : List Stp) (i o m k : Nat)
 | pref (cs : List PV) (off : Nat)
 | ms (b : Nat) (ρ : List Stp) (lo n : Nat)
 | clo (f : FuncId) (caps : List AV)
 | agg (cs : List AV)
 | tup (vs : List AV)
 | ifc (t : TypeId) (v : AV)
abbrev dead : AV := .dead
def AV.oneC : AV → Bool
 | .dead => false
 | .agg _ => false
 | .tup _ => false
 | .own _ _ _ => false
 | _ => true
def AV.pure : AV → Bool
 | .pv _ => true
 | _ => false
inductive Blk where
 | box (same : Nat) (cs : List AV)
 | arr (same : Nat) (sz n : Nat) (f : Nat → List AV)
 | lit (same : Nat) (sz : Nat) (rows : List (List AV))
 | gone
structure St where
 tmps : List AV
 heap : List Blk
inductive Ex where
 | normal
 | exit (id : Nat)
 | ret
structure Nd where
 dat : Bool
 sz : Nat
 n : Nat
 f : Nat → List AV
def Blk.nd : Blk → Option Nd
 | .box _ cs => some ⟨false, cs.length, 1, fun _ => cs⟩
 | .arr _ sz n f => some ⟨true, sz, n, f⟩
 | .lit _ sz rows => some ⟨false, sz, rows.length, fun i => rows.getD i []⟩
 | .gone => none
def Nd.go : Nd → List Stp → Option Nd
 | x, [] => some x
 | x, (i, o) :: ρ => match (x.f i)[o]? with
  | some (.own sz n f) => Nd.go ⟨true, sz, n, f⟩ ρ
  | _ => none
def upd {α : Type} (f : Nat → α) (i : Nat) (v : α) : Nat → α := fun j => if j = i then v else f j
def Nd.put : Nd → List Stp → Nat → (List AV → List AV) → Nd
 | x, [], i, g => { x with f := upd x.f i (g (x.f i)) }
 | x, (i0, o0) :: ρ, i, g => { x with f := upd x.f i0 ((x.f i0).set o0 (match (x.f i0)[o0]? with
  | some (.own sz n f) => .own sz n (Nd.put ⟨true, sz, n, f⟩ ρ i g).f
  | some c => c
  | none => dead)) }
def Blk.put (B : Blk) (ρ : List Stp) (i : Nat) (g : List AV → List AV) : Blk := match B, ρ with
 | .box s cs, [] => .box s (g cs)
 | .arr s sz n f, ρ => .arr s sz n (Nd.put ⟨true, sz, n, f⟩ ρ i g).f
 | .lit s sz rows, [] => .lit s sz (rows.set i (g (rows.getD i [])))
 | B, _ => B
def zpv (P : Program) : Nat → TypeId → List PV
 | 0, _ => [.bad]
 | n + 1, t => match P.underlying t with
  | some .bool => [.bool false]
  | some (.int k) => [.int k 0]
  | some .string => [.str .empty]
  | some (.slice e) => [.seq 0 fun _ => zpv P n e]
  | some (.struct fs) => fs.toList.flatMap fun f => zpv P n f.type
  | some (.array m e) => (List.replicate m (zpv P n e)).flatten
  | some (.pointer _) => [.nilPtr]
  | some (.func ..) => [.nilFn]
  | some (.interface _) => [.nilIf]
  | _ => [.bad]
def depth : Nat := 8
def tE (P : Program) (t : TypeId) : Nat → List PV := fun _ => match P.underlying t with
 | some (.slice e) => zpv P depth e
 | _ => []
def BP : Value → PV → Bool
 | .bool false, .bool false => true
 | .int k n, .int k' n' => decide (k = k') && decide (n = n')
 | .string s, .str s' => s.size == 0 && s'.size == 0
 | .slice none 0 0, .seq 0 _ => true
 | .pointer none, .nilPtr => true
 | .nilFunc, .nilFn => true
 | .nilIface, .nilIf => true
 | _, _ => false
def z4 : List Value → List PV → Bool
 | [], [] => true
 | v :: vs, p :: ps => BP v p && z4 vs ps
 | _, _ => false
def jc (P : Program) (t : TypeId) : Option (List PV) := match P.info? t with
 | some i => match i.zero with
  | some z => if z4 z.cells.toList (zpv P depth t) then some (zpv P depth t) else none
  | none => none
 | none => none
def DR : PV → Bool
 | .seq _ _ => true
 | _ => false
def Hk : PV → Bool
 | .seq _ f => Nat.ble 1 (f 0).length
 | _ => true
def slots (P : Program) (t : TypeId) : Nat := ((zpv P depth t).filter DR).length
def zav : PV → AV
 | .seq _ f => .nil f
 | p => .pv p
mutual
def GZ : PV → AV
 | .seq _ f => .own (f 0).length 0 fun _ => ef (f 0)
 | p => .pv p
def ef : List PV → List AV
 | [] => []
 | p :: ps => GZ p :: ef ps
end
def cT (P : Program) (t : TypeId) : Option Nat := match P.underlying t, P.info? t with
 | some _, some i => some i.size
 | _, _ => none
def bq (P : Program) (t : TypeId) : Bool := match P.underlying t with
 | some (.struct _) => true
 | some (.array _ _) => true
 | _ => false
def retype (P : Program) (t : TypeId) : AV → AV
 | .nil f => .nil (tE P t)
 | v => v
def ofConst : Value → AV
 | .bool b => .pv (.bool b)
 | .int k n => .pv (.int k n)
 | .string s => .pv (.str s)
 | .slice none 0 0 => .nil fun _ => []
 | .pointer none => .pv .nilPtr
 | .nilFunc => .pv .nilFn
 | .nilIface => .pv .nilIf
 | _ => dead
def CS (st : St) (t : Nat) : AV := st.tmps.getD t dead
def evT (l : List AV) : Operand → AV
 | .tmp t => l.getD t dead
 | .const v => ofConst v
 | .global g => match BX g with
  | some cs => .pref cs 0
  | none => dead
 | .func f => .pv (.fn f)
def ug (st : St) (d : Option Nat) (v : AV) : St := match d with
 | some d => { st with tmps := st.tmps.set d v }
 | none => st
structure Eff where
 val : AV
 hb : List (Nat × Blk) := []
 sc : List (Nat × Bool) := []
inductive Ob where
 | t (u v : Bool)
 | e (u v : Eff)
 | c (f : FuncId) (args : List AV) (H : List Blk) (r : AV) (H' : List Blk)
 | l (c : Code) (m : Nat) (x : St) (e : Ex) (x' : St)
 | k (c : Code) (m : Nat) (x : St) (e : Ex) (x' : St)
inductive Say where
 | b (d : Bool)
 | keep
 | e (x : Eff)
 | c (r : AV) (H : List Blk)
 | l (e : Ex) (x : St)
 | u (bs : List Nat)
inductive Ev (α : Type) where
 | ret (x : α)
 | fail
 | rd (b : Nat) (k : Blk → Ev α)
 | nd (c : Bool) (k : Ev α)
 | sp (c : Bool) (k : Bool → Ev α)
 | ch (c : Bool) (k : Bool → Ev α)
 | cl (f : FuncId) (args : List AV) (H : List Blk) (k : AV → List Blk → Ev α)
def Ev.bind {α β : Type} : Ev α → (α → Ev β) → Ev β
 | .ret x, k => k x
 | .fail, _ => .fail
 | .rd b j, k => .rd b fun B => (j B).bind k
 | .nd c j, k => .nd c (j.bind k)
 | .sp c j, k => .sp c fun d => (j d).bind k
 | .ch c j, k => .ch c fun d => (j d).bind k
 | .cl f a H j, k => .cl f a H fun r G => (j r G).bind k
def Ev.chk {α : Type} (c : Bool) (k : Ev α) : Ev α := match c with
 | true => k
 | false => .fail
def Ev.opt {α β : Type} (x : Option α) (k : α → Ev β) : Ev β := match x with
 | some x => k x
 | none => .fail
abbrev Out (α : Type) := Option (List Ob × List Nat × α × List Say)
def w6 {α : Type} (o : Ob) : Out α → Out α
 | some (l, r, x, s) => some (o :: l, r, x, s)
 | none => none
def DS {α : Type} (b : Nat) : Out α → Out α
 | some (l, r, x, s) => some (l, b :: r, x, s)
 | none => none
def Ev.run {α : Type} (H : Nat → Blk) : Ev α → List Say → Out α
 | .ret x, s => some ([], [], x, s)
 | .fail, _ => none
 | .rd b k, s => DS b ((k (H b)).run H s)
 | .nd c k, s => w6 (.t c true) (k.run H s)
 | .sp c k, s => match s with
  | .b d :: s => w6 (.t c d) ((k d).run H s)
  | .keep :: s => match c with
   | true => (k true).run H s
   | false => (k false).run H s
  | _ => none
 | .ch c k, s => match s with
  | .b true :: s => w6 (.t c true) ((k true).run H s)
  | .b false :: s => (k false).run H s
  | _ => none
 | .cl f a G k, s => match s with
  | .c r G' :: s => w6 (.c f a G r G') ((k r G').run H s)
  | _ => none
def aK : Nat := 140737488351232
def Hl (op : BinOp) (k : IntKind) (a b : Int) : Option PV := match op with
 | .add => some (.int k (k.wrap (a + b)))
 | .sub => some (.int k (k.wrap (a - b)))
 | .mul => some (.int k (k.wrap (a * b)))
 | .and => some (.int k (k.wrap (BitVec.ofInt k.bits a &&& BitVec.ofInt k.bits b).toNat))
 | .or => some (.int k (k.wrap (BitVec.ofInt k.bits a ||| BitVec.ofInt k.bits b).toNat))
 | .xor => some (.int k (k.wrap (BitVec.ofInt k.bits a ^^^ BitVec.ofInt k.bits b).toNat))
 | .andNot => some (.int k (k.wrap (BitVec.ofInt k.bits a &&& ~~~BitVec.ofInt k.bits b).toNat))
 | .eql => some (.bool (a == b))
 | .neq => some (.bool (a != b))
 | .lss => some (.bool (a < b))
 | .leq => some (.bool (a ≤ b))
 | .gtr => some (.bool (a > b))
 | .geq => some (.bool (a ≥ b))
 | _ => none
def part {α : Type} (cs : List α) (off n : Nat) : List α := (cs.drop off).take n
def DT (f : List AV → List AV → Option Bool) (z : Nat) (xs ys : List AV) : List Nat → Option Bool
 | [] => some true
 | i :: is => match f (part xs (i * z) z) (part ys (i * z) z), DT f z xs ys is with
  | some a, some b => some (a && b)
  | _, _ => none
def eqV (P : Program) : Nat → TypeId → List AV → List AV → Option Bool
 | 0, _, _, _ => none
 | n + 1, t, xs, ys => match P.underlying t with
  | some .bool => match xs, ys with
   | [.pv (.bool a)], [.pv (.bool b)] => some (a == b)
   | _, _ => none
  | some (.int _) => match xs, ys with
   | [.pv (.int k a)], [.pv (.int k' b)] => if k = k' then some (a == b) else none
   | _, _ => none
  | some .string => match xs, ys with
   | [.pv (.str a)], [.pv (.str b)] => some (a.toList == b.toList)
   | _, _ => none
  | some (.struct fs) => bif P.stoodInHeld t then none else fs.toList.foldr (fun f r => match r with
   | none => none
   | some r => bif f.name == "_" then none else match cT P f.type with
    | none => none
    | some m => bif Nat.ble (f.offset + m) xs.length && Nat.ble (f.offset + m) ys.length then match eqV P n f.type (part xs f.offset m) (part ys f.offset m) with
     | some b => some (b && r)
     | none => none
     else none) (some true)
  | some (.array m e) => match cT P e with
   | none => none
   | some z => bif Nat.ble (m * z) xs.length && Nat.ble (m * z) ys.length then DT (fun a b => eqV P n e a b) z xs ys (List.range m) else none
  | _ => none
def eqE (P : Program) (t : TypeId) (x y : AV) : Option Bool := match x, y with
 | .agg xs, .agg ys => bif P.eqGuardType P.depth t then none else match P.underlying t with
  | some (.struct _) => eqV P 8 t xs ys
  | some (.array _ _) => eqV P 8 t xs ys
  | _ => none
 | .pv (.bool _), .pv (.bool _) => match P.underlying t with
  | some .bool => eqV P 8 t [x] [y]
  | _ => none
 | _, _ => none
def HT (P : Program) (op : BinOp) (t : TypeId) (x y : AV) : Ev AV := match x, y with
 | .pv (.int kx a), .pv (.int ky b) => match op with
  | .shl => .nd (decide (0 ≤ b)) (.ret (.pv (.int kx (kx.wrap (a * 2 ^ min b.toNat kx.bits)))))
  | .shr => .nd (decide (0 ≤ b)) (.ret (.pv (.int kx (a.fdiv (2 ^ min b.toNat kx.bits)))))
  | .quo => .chk (decide (kx = ky)) (.nd (!decide (b = 0)) (.ret (.pv (.int kx (kx.wrap (a.tdiv b))))))
  | .rem => .chk (decide (kx = ky)) (.nd (!decide (b = 0)) (.ret (.pv (.int kx (a.tmod b)))))
  | op => .chk (decide (kx = ky)) (.opt (Hl op kx a b) fun p => .ret (.pv p))
 | .pv (.str a), .pv (.str b) => match op with
  | .eql => .ret (.pv (.bool (a.toList == b.toList)))
  | .neq => .ret (.pv (.bool !(a.toList == b.toList)))
  | .add => .nd (Nat.ble (a.size + b.size) aK) (.ret (.pv (.str (a ++ b))))
  | _ => .fail
 | x, y => match op with
  | .eql => .opt (eqE P t x y) fun b => .ret (.pv (.bool b))
  | .neq => .opt (eqE P t x y) fun b => .ret (.pv (.bool !b))
  | _ => .fail
def unV (op : UnOp) (x : AV) : Option AV := match op, x with
 | .not, .pv (.bool b) => some (.pv (.bool !b))
 | .neg, .pv (.int k n) => some (.pv (.int k (k.wrap (0 - n))))
 | .xor, .pv (.int k n) => some (.pv (.int k (k.wrap (BitVec.ofInt k.bits (if k.signed then -1 else k.max) ^^^ BitVec.ofInt k.bits n).toNat)))
 | _, _ => none
def aP (H : List Blk) (b : Nat) : Blk := H.getD b (.lit 0 0 [])
def splice {α : Type} (cs : List α) (off : Nat) (vs : List α) : List α := cs.take off ++ vs ++ cs.drop (off + vs.length)
def kM (b : Nat) (ρ : List Stp) : Ev Nd := .rd b fun B => .opt B.nd fun x => .opt (x.go ρ) .ret
def G0 (b : Nat) (ρ : List Stp) (i o : Nat) : AV → AV
 | .own _ n _ => .ms b (ρ ++ [(i, o)]) 0 n
 | v => v
def z5 (b : Nat) (ρ : List Stp) (i : Nat) : Nat → List AV → List AV
 | _, [] => []
 | o, c :: cs => G0 b ρ i o c :: z5 b ρ i (o + 1) cs
def rG (isAgg : Bool) (cs : List AV) : Option AV := match isAgg with
 | true => some (.agg cs)
 | false => match cs with
  | [v] => some v
  | _ => none
def AV.scal : AV → AV
 | .pv p => .pv p
 | _ => .pv .bad
def nV (f : Nat → List AV) (i : Nat) : Nat → List AV
 | 0 => []
 | n + 1 => nV f i n ++ [((f (i + n)).getD 0 dead).scal]
def tF (P : Program) (t : TypeId) (a : AV) : Ev AV := .opt (cT P t) fun n => match a with
 | .ptr b ρ i o => (kM b ρ).bind fun x => match Nat.ble (o + n) (x.f i).length with
  | true => .opt (rG (bq P t) (z5 b ρ i o (part (x.f i) o n))) .ret
  | false => .chk (x.dat && Nat.beq x.sz 1 && Nat.beq o 0 && Nat.ble (i + n) x.n && Nat.ble 2 n && bq P t) (.ret (.agg (nV x.f i n)))
 | .aptr b ρ i o m k => .chk (Nat.beq n 1 && !bq P t) ((kM b ρ).bind fun x => .chk (Nat.ble (o + m) (x.f i).length) (.ret ((part (x.f i) o m).getD k dead).scal))
 | .pref cs off => .chk (Nat.ble (off + n) cs.length) (.opt (rG (bq P t) ((part cs off n).map .pv)) .ret)
 | _ => .fail
def AV.cells : AV → List AV
 | .dead => []
 | .agg cs => cs
 | v => [v]
def jd (lo n N : Nat) (f : Nat → List AV) : Nat → List AV := fun i => if i < n then f (lo + i) else f N
def p6 (lo n N : Nat) (f : Nat → List AV) : Ev (Nat → List AV) := .ch (decide (n = N) && decide (lo = 0)) fun d => .ret (match d with | true => f | false => jd lo n N f)
def HU (b : Nat) (ρ : List Stp) (i o : Nat) (old : AV) (v : AV) : Ev (AV × List Nat) := match v with
 | .pv p => .ret (.pv p, [])
 | .nil f => .chk (Nat.ble 1 (f 0).length) (.ret (.own (f 0).length 0 fun _ => ef (f 0), []))
 | .ms c [] lo n => .chk (!Nat.beq c b && Nat.beq lo 0) (.rd c fun B => match B with
  | .arr _ sz N f => (p6 lo n N f).bind fun g => .ret (.own sz n g, [c])
  | _ => .fail)
 | .ms c σ lo n => match old with
  | .own sz N f => .chk (Nat.beq c b && Nat.beq lo 0) <| .nd (decide (σ = ρ ++ [(i, o)])) ((p6 lo n N f).bind fun g => .ret (.own sz n g, []))
  | _ => .fail
 | _ => .fail
def BQ (b : Nat) (ρ : List Stp) (i : Nat) : Nat → List AV → List AV → Ev (List AV × List Nat)
 | _, _, [] => .ret ([], [])
 | o, olds, v :: vs => (HU b ρ i o (olds.headD dead) v).bind fun x => (BQ b ρ i (o + 1) olds.tail vs).bind fun y => .ret (x.1 :: y.1, x.2 ++ y.2)
def j7 (p : Bool) (z : List PV) : List AV := match p with
 | true => z.map AV.pv
 | false => ef z
def eT (p : Bool) (id : Nat) : List AV → List AV × List (Nat × Blk)
 | [] => ([], [])
 | .nil f :: vs => let r := eT p (id + 1) vs; (.ms id [] 0 0 :: r.1, (id, .arr 0 (f 0).length 0 fun _ => j7 p (f 0)) :: r.2)
 | v :: vs => let r := eT p id vs; (v :: r.1, r.2)
def F0 : AV → Bool
 | .nil f => Nat.ble 1 (f 0).length
 | _ => true
def je {α : Type} (id : Nat) : Nat → Ev α → Ev α
 | 0, k => k
 | n + 1, k => .rd id fun B => match B with
  | .gone => je (id + 1) n k
  | _ => .fail
def pj : List Nat → Bool
 | [] => true
 | x :: xs => !xs.elem x && pj xs
def DU : AV → Bool
 | .own _ _ _ => true
 | _ => false
def gv (cs : List AV) : Bool := cs.any DU
def fz (cs : List Nat) : List (Nat × Blk) := cs.map fun c => (c, .gone)
def jk : Nat → Nat → Nat
 | 0, _ => 0
 | 1, 0 => 0
 | 1, _ => 1
 | _, b => b
def Blk.tag : Blk → Nat
 | .box s _ => s
 | .arr s _ _ _ => s
 | .lit s _ _ => s
 | .gone => 0
def Blk.also (s : Nat) : Blk → Blk
 | .box s' cs => .box (jk s s') cs
 | .arr s' sz n f => .arr (jk s s') sz n f
 | .lit s' sz rows => .lit (jk s s') sz rows
 | .gone => .gone
def DV (c : Bool) : Nat := bif c then 1 else 2
def z6 (P : Program) (p : Bool) (id : Nat) (t : TypeId) (a v : AV) : Ev Eff := .opt (cT P t) fun n => .chk (Nat.beq v.cells.length n && Nat.ble 1 n && v.cells.all AV.oneC && v.cells.all F0) (match a with
 | .ptr b ρ i o => .rd b fun B => match B with
  | .box s cs => .chk (ρ.isEmpty && Nat.ble (o + n) cs.length) (je id (eT p id v.cells).2.length (.ret { val := dead, hb := (eT p id v.cells).2 ++ [(b, .box s (splice cs o (eT p id v.cells).1))] }))
  | .arr s sz N f => .opt (Nd.go ⟨true, sz, N, f⟩ ρ) fun x => .nd (Nat.ble (o + n) (x.f i).length)
    ((BQ b ρ i o (part (x.f i) o n) v.cells).bind fun r => .chk (pj r.2)
    (.ret { val := dead, hb := (b, Blk.put (.arr (jk (DV (gv (part (x.f i) o n))) s) sz N f) ρ i fun cs => splice cs o r.1) :: fz r.2, sc := (bif gv (part (x.f i) o n) then [(b, true)] else []) ++ r.2.map fun c => (c, false) }))
  | _ => .fail
 | .aptr b ρ i o m k => .chk (Nat.beq n 1 && v.cells.all AV.pure) (.rd b fun B => .opt B.nd fun x => .opt (x.go ρ) fun x => .chk (Nat.ble (o + m) (x.f i).length && (part (x.f i) o m).all AV.pure) (.ret { val := dead, hb := [(b, Blk.put B ρ i fun cs => splice cs o ((part cs o m).set k (v.cells.headD dead)))] }))
 | _ => .fail)
def mF (dH : Nat → Option (Nat × Nat)) (cells : List AV) : List (Nat × AV) → Option (List AV)
 | [] => some cells
 | (i, v) :: rest => match dH i with
  | none => none
  | some (off, size) => bif Nat.beq v.cells.length size && Nat.ble 1 size && Nat.ble (off + size) cells.length then mF dH (splice cells off v.cells) rest else none
def z7 (P : Program) (fs : Array Field) (i : Nat) : Option (Nat × Nat) := match fs[i]? with
 | some f => (cT P f.type).map fun n => (f.offset, n)
 | none => none
def DW (fs : Array Field) (i : Nat) : TypeId := match fs[i]? with
 | some f => f.type
 | none => 0
def ta (P : Program) (ρ : Operand → AV) (t : TypeId) (parts : List (Nat × Operand)) : Option AV := match jc P t with
 | none => none
 | some z => match P.underlying t with
  | some (.struct fs) => bif fs.toList.all fun f => (cT P f.type).isSome then (mF (z7 P fs) (z.map zav) (parts.map fun x => (x.1, retype P (DW fs x.1) (ρ x.2)))).map .agg else none
  | some (.array _ e) => match cT P e with
   | some n => (mF (fun i => some (i * n, n)) (z.map zav) (parts.map fun x => (x.1, retype P e (ρ x.2)))).map .agg
   | none => none
  | _ => none
def iY (sz : Nat) (cells : List AV) : Nat → List (List AV)
 | 0 => []
 | n + 1 => cells.take sz :: iY sz (cells.drop sz) n
def w7 (z : List AV) : List (List AV) → Nat → List AV
 | [], _ => z
 | c :: _, 0 => c
 | _ :: cs, i + 1 => w7 z cs i
def DX : AV → Bool
 | .pv (.fn _) => false
 | .pv _ => true
 | .nil f => Nat.ble 1 (f 0).length
 | .ms _ [] _ _ => true
 | _ => false
def gB (P : Program) (ρ : Operand → AV) (id : Nat) (t : TypeId) (len : Nat) (parts : List (Nat × Operand)) : Ev Eff := match P.underlying t with
 | some (.slice e) => match cT P e, jc P e with
  | some n, some z => .chk (Nat.ble 1 n && Nat.ble (len * n) 16777216 && Nat.beq z.length n)
    (.opt (mF (fun i => some (i * n, n)) ((List.replicate len (z.map zav)).flatten) (parts.map fun x => (x.1, retype P e (ρ x.2)))) fun cs => je id 1 (match cs.all DX with
     | true => (BQ id [] 0 0 [] cs).bind fun r => .chk (pj r.2) (.ret { val := .ms id [] 0 len, hb := (id, .arr 0 n len (w7 (ef z) (iY n r.1 len))) :: fz r.2, sc := r.2.map fun c => (c, false) })
     | false => .chk (cs.all AV.oneC) (.ret { val := .ms id [] 0 len, hb := [(id, .lit 0 n (iY n cs len))] })))
  | _, _ => .fail
 | _ => .fail
def Hm (P : Program) : Nat → TypeId → Bool
 | 0, _ => false
 | n + 1, t => match P.underlying t with
  | some (.array _ e) => Hm P n e
  | some (.int _) => true
  | some .bool => true
  | _ => false
def F1 (P : Program) (t : TypeId) : Bool := match P.underlying t with
 | some (.array _ _) => Hm P depth t
 | _ => false
def F2 (P : Program) (id : Nat) (t : TypeId) (cs : List AV) : Ev Eff := match F1 P t with
 | true => .chk (cs.all AV.pure && Nat.ble 1 cs.length) (je id 1 (.ret { val := .ptr id [] 0 0, hb := [(id, .arr 0 1 cs.length fun i => [cs.getD i (cs.headD dead)])] }))
 | false => .chk (Nat.ble 1 cs.length && cs.all AV.oneC && cs.all F0) (je id (1 + (eT false (id + 1) cs).2.length) (.ret { val := .ptr id [] 0 0, hb := (eT false (id + 1) cs).2 ++ [(id, .box 0 (eT false (id + 1) cs).1)] }))
def HV (P : Program) (t : TypeId) (x : AV) : Option PV := match P.underlying t with
 | some (.array n _) => some (.int .i64 n)
 | some (.slice _) => match x with
  | .pv (.seq n _) => some (.int .i64 n)
  | .nil _ => some (.int .i64 0)
  | .ms _ _ _ n => some (.int .i64 n)
  | _ => none
 | some .string => match x with
  | .pv (.str s) => some (.int .i64 s.size)
  | _ => none
 | _ => none
def hJ (lo i : Nat) : Nat := match lo with
 | 0 => i
 | _ => lo + i
def G1 (i s : Nat) : Nat := match s with
 | 1 => i
 | _ => i * s
def F3 (i : Int) : Nat → Nat → Ev (Option Nat)
 | 0, _ => .ret none
 | n + 1, k => .ch (decide (i = (k : Int))) fun d => match d with
  | true => .ret (some k)
  | false => F3 i n (k + 1)
def Io (i : Int) (n : Nat) : Ev (Option Nat) := .ch true fun d => match d with
 | true => F3 i n 0
 | false => .ret none
def Ip (b : Nat) (ρ : List Stp) (j o n : Nat) (i : Int) : Option Nat → AV
 | some k => .ptr b ρ j (o + k)
 | none => .aptr b ρ j o n i.toNat
def HW (P : Program) (t : TypeId) (x ix : AV) : Ev AV := match ix with
 | .pv (.int _ i) => match P.underlying t with
  | some (.array n e) => .opt (cT P e) fun s => .nd (decide (0 ≤ i)) (.nd (decide (i < (n : Int))) (match x with
   | .ptr b ρ j o => (kM b ρ).bind fun y => match Nat.beq y.sz 1 with
    | true => .chk (Nat.beq o 0 && Nat.ble 1 s) (.nd (Nat.ble (j + n * s) y.n) (.ret (.ptr b ρ (hJ j (G1 i.toNat s)) 0)))
    | false => .chk (Nat.beq s 1 && Nat.ble (o + n) y.sz) ((Io i n).bind fun k => .ret (Ip b ρ j o n i k))
   | .pref cs off => .chk (Nat.beq s 1 && Nat.ble (off + n) cs.length) (.ret (.pref [(part cs off n).getD i.toNat .bad] 0))
   | _ => .fail))
  | some (.slice e) => .opt (cT P e) fun s => match x with
    | .pv (.seq n f) => .nd (decide (0 ≤ i)) (.nd (decide (i < (n : Int))) (.chk (Nat.beq (f i.toNat).length s) (.ret (.pref (f i.toNat) 0))))
    | .ms b ρ lo n => (kM b ρ).bind fun y => .chk (Nat.beq y.sz s) (.nd (decide (0 ≤ i)) (.nd (decide (i < (n : Int))) (.ret (.ptr b ρ (hJ lo i.toNat) 0))))
    | _ => .fail
  | _ => .fail
 | _ => .fail
def F4 (P : Program) (s : TypeId) (i : Nat) : Option Nat := match P.underlying s with
 | some (.struct fs) => match fs[i]? with
  | some f => match cT P f.type with
   | some (_ + 1) => some f.offset
   | _ => none
  | none => none
 | _ => none
def p7 (P : Program) (s : TypeId) (x : AV) (i : Nat) : Option AV := match F4 P s i with
 | none => none
 | some o => match x with
  | .ptr b ρ j off => some (.ptr b ρ j (off + o))
  | .pref cs off => some (.pref cs (off + o))
  | _ => none
def CT (P : Program) (s : TypeId) (x : AV) (i : Nat) : Option AV := match P.underlying s with
 | some (.struct fs) => match fs[i]?, x with
  | some f, .agg cs => match cT P f.type with
   | some n => bif Nat.ble (f.offset + n) cs.length then rG (bq P f.type) (part cs f.offset n) else none
   | none => none
  | _, _ => none
 | _ => none
def jf (x : Option AV) (dflt n : Nat) : Ev Nat := match x with
 | none => .ret dflt
 | some (.pv (.int _ i)) => .nd (decide (0 ≤ i)) (.nd (decide (i ≤ (n : Int))) (.ret i.toNat))
 | _ => .fail
def F5 (l h : Nat) (f : Nat → List PV) (z : Nat → List PV) : Nat → List PV := fun i => if i < h - l then f (l + i) else z i
def CU (P : Program) (t : TypeId) (x : AV) (lo hi mx : Option AV) : Ev AV := match P.underlying t with
 | some (.slice e) => .opt (cT P e) fun z => match mx with
   | some (.pv (.int _ 0)) => match x, lo, hi with
    | .pv (.seq _ _), none, some (.pv (.int _ 0)) => .ret (.nil (tE P t))
    | .nil _, none, some (.pv (.int _ 0)) => .ret (.nil (tE P t))
    | .ms _ _ _ _, none, some (.pv (.int _ 0)) => .ret (.nil (tE P t))
    | _, _, _ => .fail
   | some _ => .fail
   | none => match x with
    | .pv (.seq n f) => (jf hi n n).bind fun h => (jf lo 0 h).bind fun l => .chk (Nat.beq (f l).length z) (.ret (.pv (.seq (h - l) (F5 l h f (tE P t)))))
    | .ms b ρ s n => (kM b ρ).bind fun y => .chk (Nat.beq y.sz z) ((jf hi n n).bind fun h => (jf lo 0 h).bind fun l => .ret (.ms b ρ (hJ s l) (h - l)))
    | _ => .fail
 | some .string => match mx with
  | some _ => .fail
  | none => match x with
   | .pv (.str s) => (jf hi s.size s.size).bind fun h => (jf lo 0 h).bind fun l => .ret (.pv (.str (s.extract l h)))
   | _ => .fail
 | _ => .fail
def CV (P : Program) (arr : TypeId) (x : AV) (lo hi mx : Option AV) : Ev AV := match P.underlying arr with
 | some (.array n e) => .opt (cT P e) fun z => match mx, x with
  | none, .ptr b ρ j 0 => (kM b ρ).bind fun y => .chk (Nat.beq y.sz z) (.nd (Nat.ble (j + n) y.n) ((jf hi n n).bind fun h => (jf lo 0 h).bind fun l => .ret (.ms b ρ (hJ j l) (h - l))))
  | _, _ => .fail
 | _ => .fail
def CW (P : Program) (t : TypeId) (x : AV) (lo hi mx : Option AV) : Ev AV := match P.underlying t with
 | some (.array _ _) => CV P t x lo hi mx
 | _ => CU P t x lo hi mx
def AV.num : AV → AV
 | .pv (.int k n) => .pv (.int k n)
 | .pv (.bool b) => .pv (.bool b)
 | _ => .pv .bad
def HX : AV → Ev (Nat × (Nat → List AV))
 | .pv (.seq n f) => .ret (n, fun i => (f i).map fun p => (AV.pv p).num)
 | .nil f => .ret (0, fun i => (f i).map fun p => (AV.pv p).num)
 | .ms c σ lo n => (kM c σ).bind fun x => .chk x.dat (.ret (n, fun i => (x.f (hJ lo i)).map AV.num))
 | _ => .fail
def Hn (f : Nat → List AV) (lo k : Nat) : Bool := (List.range k).all fun i => !gv (f (lo + i))
def cpy (f : Nat → List AV) (lo k : Nat) (g : Nat → List AV) : Nat → List AV := fun i => if lo ≤ i ∧ i < lo + k then g (i - lo) else f i
def F6 (q : Bool) (a b : Nat) : Nat := match q with
 | true => a
 | false => b
def F7 (P : Program) (t u : TypeId) (d x : AV) : Ev Eff := match P.underlying t, P.underlying u with
 | some (.slice e), some (.slice e') => .opt (cT P e) fun z => match d with
  | .ms b [] lo n => .rd b fun B => match B with
   | .arr s sz N f => .chk (Nat.beq sz z && Nat.beq e e') ((HX x).bind fun r => .chk (Nat.beq (r.2 0).length z) (.sp (Nat.ble r.1 n) fun q =>
     .nd (Hn f lo (F6 q r.1 n)) (.ret { val := .pv (.int .i64 (F6 q r.1 n)), hb := [(b, .arr s sz N (cpy f lo (F6 q r.1 n) r.2))] })))
   | _ => .fail
  | _ => .fail
 | _, _ => .fail
mutual
def rH : AV → PV
 | .pv p => p
 | .own _ n f => .seq n fun i => dG (f i)
 | _ => .bad
def dG : List AV → List PV
 | [] => []
 | v :: vs => rH v :: dG vs
end
def yZ : AV → Ev (AV × List Nat)
 | .ms b ρ lo n => (kM b ρ).bind fun x => .chk x.dat ((p6 lo n x.n x.f).bind fun g => .ret (.pv (.seq n fun i => dG (g i)), [b]))
 | .nil f => .ret (.pv (.seq 0 f), [])
 | v => .ret (v, [])
def w8 : List AV → Ev (List AV × List Nat)
 | [] => .ret ([], [])
 | v :: vs => (yZ v).bind fun x => (w8 vs).bind fun y => .ret (x.1 :: y.1, x.2 ++ y.2)
def F8 : AV → Ev (AV × List Nat)
 | .agg cs => (w8 cs).bind fun r => .ret (.agg r.1, r.2)
 | v => yZ v
def CX : List AV → Ev (List AV × List Nat)
 | [] => .ret ([], [])
 | v :: vs => (F8 v).bind fun x => (CX vs).bind fun y => .ret (x.1 :: y.1, x.2 ++ y.2)
def G2 (v : AV) : Ev Eff := match v with
 | .ms b [] lo n => .rd b fun B => match B with
  | .arr s sz N f => .ret { val := .ms b [] lo n, hb := [(b, .arr (jk 1 s) sz N fun i => (dG (f i)).map AV.pv)], sc := [(b, true)] }
  | _ => .fail
 | _ => .fail
def z8 : List (Nat × Operand) → List AV → List (Nat × AV)
 | p :: ps, v :: vs => (p.1, v) :: z8 ps vs
 | _, _ => []
def oG (P : Program) (ρ : Operand → AV) (id : Nat) (t : TypeId) (len : Nat) (parts : List (Nat × Operand)) : Ev Eff := match P.underlying t with
 | some (.slice e) => match cT P e, jc P e with
  | some n, some z => .chk (Nat.ble 1 n && Nat.ble (len * n) 16777216 && Nat.beq z.length n) ((w8 (parts.map fun x => retype P e (ρ x.2))).bind fun s =>
    .opt (mF (fun i => some (i * n, n)) ((List.replicate len (z.map AV.pv)).flatten) (z8 parts s.1)) fun cs => .chk (cs.all AV.pure) (je id 1
     (.ret { val := .ms id [] 0 len, hb := fz s.2 ++ [(id, .arr 0 n len (w7 (z.map AV.pv) (iY n cs len)))], sc := s.2.map fun c => (c, false) })))
  | _, _ => .fail
 | _ => .fail
def xT (own : Bool) (b : Nat) : AV → Ev (Nat × (Nat → List AV) × List Nat)
 | .pv (.seq n f) => .ret (n, fun i => (f i).map .pv, [])
 | .pv (.seqk _ n f) => .ret (n, fun i => (f i).map .pv, [])
 | .nil f => .ret (0, fun i => (f i).map .pv, [])
 | .ms c σ lo n => .chk (!Nat.beq c b) ((kM c σ).bind fun x => .chk x.dat (match own with
  | false => (p6 lo n x.n x.f).bind fun g => .ret (n, fun i => (g i).map AV.scal, [])
  | true => .chk (σ.isEmpty && Nat.beq lo 0) ((p6 lo n x.n x.f).bind fun g => .ret (n, g, [c]))))
 | _ => .fail
def app (n : Nat) (f : Nat → List AV) (m : Nat) (g : Nat → List AV) (z : List AV) : Nat → List AV := fun i => if i < n then f i else if i < n + m then g (i - n) else z
def iZ : Stp → List Stp → List Stp × Stp
 | s, [] => ([], s)
 | s, t :: ρ => let r := iZ t ρ; (s :: r.1, r.2)
def z9 (b sz n : Nat) (f : Nat → List AV) (z : List AV) (r : Nat × (Nat → List AV) × List Nat) (hb : List (Nat × Blk)) (sc : List (Nat × Bool)) : Eff :=
 { val := .ms b [] 0 (n + r.1), hb := hb ++ ((b, .arr 0 sz (n + r.1) (app n f r.1 r.2.1 z)) :: fz r.2.2), sc := sc ++ ((b, false) :: r.2.2.map fun c => (c, false)) }
def Aa (P : Program) (id : Nat) (t : TypeId) (s x : AV) : Ev Eff := match P.underlying t with
 | some (.slice e) => match P.info? e, jc P e with
  | some i, some z => .chk (Nat.ble 1 i.size && Nat.ble 1 i.bytes && Nat.beq z.length i.size) (match s with
   | .nil f => (xT (z.any DR) id x).bind fun r => .nd (Nat.beq (r.2.1 0).length i.size) (.nd (Nat.ble ((0 + r.1) * i.bytes) aK)
     (je id 1 (.ret (z9 id i.size 0 (fun _ => ef z) (ef z) r [(id, .arr 0 i.size 0 fun _ => ef z)] []))))
   | .ms b ρ lo n => .chk (Nat.beq lo 0) (.rd b fun B => match B with
    | .arr s sz N f => (xT (z.any DR) b x).bind fun r => .nd (Nat.beq (r.2.1 0).length i.size) (.nd (Nat.ble ((n + r.1) * i.bytes) aK) (match ρ with
     | [] => .chk (Nat.beq sz i.size) (.ret (z9 b sz n f (f N) r [] []))
     | s0 :: ρ0 => .opt (Nd.go ⟨true, sz, N, f⟩ (s0 :: ρ0)) fun y => .chk (Nat.beq y.sz i.size) (je id 1 (.ret (z9 id y.sz n y.f (y.f y.n) r
       [(id, .arr 0 y.sz y.n y.f), (b, Blk.put (.arr (jk 1 s) sz N f) (iZ s0 ρ0).1 (iZ s0 ρ0).2.1 fun cs => cs.set (iZ s0 ρ0).2.2 (.pv .bad))] [(b, true)])))))
    | _ => .fail)
   | _ => .fail)
  | _, _ => .fail
 | _ => .fail
mutual
def AV.refs : AV → List (Nat × Bool)
 | .ptr b ρ _ _ => [(b, !ρ.isEmpty)]
 | .aptr b ρ _ _ _ _ => [(b, !ρ.isEmpty)]
 | .ms b ρ _ _ => [(b, !ρ.isEmpty)]
 | .clo _ caps => AV.refsL caps
 | .agg cs => AV.refsL cs
 | .tup vs => AV.refsL vs
 | .ifc _ v => v.refs
 | _ => []
def AV.refsL : List AV → List (Nat × Bool)
 | [] => []
 | v :: vs => v.refs ++ AV.refsL vs
end
mutual
def AV.map (r : Nat → Bool → Option Nat) : AV → AV
 | .ptr b ρ i o => match r b (!ρ.isEmpty) with | some c => .ptr c ρ i o | none => .pv .bad
 | .aptr b ρ i o m k => match r b (!ρ.isEmpty) with | some c => .aptr c ρ i o m k | none => .pv .bad
 | .ms b ρ lo n => match r b (!ρ.isEmpty) with | some c => .ms c ρ lo n | none => .pv .bad
 | .clo f caps => .clo f (AV.mapL r caps)
 | .agg cs => .agg (AV.mapL r cs)
 | .tup vs => .tup (AV.mapL r vs)
 | .ifc t v => .ifc t (v.map r)
 | .dead => .dead
 | .pv p => .pv p
 | .nil f => .nil f
 | .own sz n f => .own sz n f
 | .pref cs off => .pref cs off
def AV.mapL (r : Nat → Bool → Option Nat) : List AV → List AV
 | [] => []
 | v :: vs => v.map r :: AV.mapL r vs
end
def Blk.map (r : Nat → Bool → Option Nat) : Blk → Blk
 | .box s cs => .box s (AV.mapL r cs)
 | .lit s sz rows => .lit s sz (rows.map (AV.mapL r))
 | b => b
def j8 (r : Nat → Option Nat) : Nat → Bool → Option Nat := fun b _ => r b
def bM (sc : List (Nat × Bool)) : Nat → Bool → Option Nat := fun b d => bif sc.any fun s => Nat.beq s.1 b && (!s.2 || d) then none else some b
abbrev AV.ren (r : Nat → Option Nat) : AV → AV := AV.map (j8 r)
abbrev AV.renL (r : Nat → Option Nat) : List AV → List AV := AV.mapL (j8 r)
abbrev Blk.ren (r : Nat → Option Nat) : Blk → Blk := Blk.map (j8 r)
abbrev AV.scrL (sc : List (Nat × Bool)) : List AV → List AV := AV.mapL (bM sc)
abbrev Blk.scr (sc : List (Nat × Bool)) : Blk → Blk := Blk.map (bM sc)
def Blk.refs : Blk → List (Nat × Bool)
 | .box _ cs => AV.refsL cs
 | .lit _ _ rows => rows.flatMap AV.refsL
 | _ => []
mutual
def erV : AV → AV
 | .pv (.seq _ _) => .pv .bad
 | .pv (.seqk _ _ _) => .pv .bad
 | .pref _ _ => .pv .bad
 | .clo f caps => .clo f (erL caps)
 | .agg cs => .agg (erL cs)
 | .tup vs => .tup (erL vs)
 | .ifc t v => .ifc t (erV v)
 | .own sz n f => .own sz n fun i => erL (f i)
 | .dead => .dead
 | .pv p => .pv p
 | .nil f => .nil f
 | .ptr b ρ i o => .ptr b ρ i o
 | .aptr b ρ i o m k => .aptr b ρ i o m k
 | .ms b ρ lo n => .ms b ρ lo n
def erL : List AV → List AV
 | [] => []
 | v :: vs => erV v :: erL vs
end
def erB : Blk → Blk
 | .box s cs => .box s (erL cs)
 | .arr s sz n f => .arr s sz n fun i => erL (f i)
 | .lit s sz rows => .lit s sz (rows.map erL)
 | .gone => .gone
def w9 : Nat → List Nat → List Nat → Ev (List Nat)
 | 0, _, acc => .ret acc
 | _ + 1, [], acc => .ret acc
 | n + 1, b :: todo, acc => match acc.elem b with
  | true => w9 n todo acc
  | false => .rd b fun B => match B with
   | .gone => .fail
   | .lit _ 0 _ => .fail
   | B => w9 n (B.refs.map Prod.fst ++ todo) (acc ++ [b])
def dH (l : List Nat) (b : Nat) : Option Nat := match l with
 | [] => none
 | x :: xs => bif Nat.beq x b then some 0 else (dH xs b).map (· + 1)
def DY : List Nat → Ev (List Blk)
 | [] => .ret []
 | b :: bs => .rd b fun B => (DY bs).bind fun Bs => .ret (B :: Bs)
def Ab : List Nat → List Blk → List (Nat × Blk)
 | b :: bs, x :: xs => (b, x) :: Ab bs xs
 | _, _ => []
def Blk.start : Blk → Blk
 | .box _ cs => .box 2 cs
 | .arr _ sz n f => .arr 2 sz n f
 | .lit _ sz rows => .lit 2 sz rows
 | .gone => .gone
def nW : List Blk → List Blk → List Blk
 | A :: As, B :: Bs => B.also A.tag :: nW As Bs
 | [], B :: Bs => B.also 0 :: nW [] Bs
 | _, [] => []
def xa (P : Program) (f : FuncId) : Bool := match P.funcs[f]? with
 | some fn => match fn.body with
  | some _ => !(fn.name == "runtime.NumGoroutine")
  | none => false
 | none => false
def F9 : Nat := 4
def iu (b : Nat) : Nat → List Nat
 | 0 => []
 | n + 1 => b :: iu (b + 1) n
def uv (l : List Nat) (id n : Nat) : List Nat := l ++ iu id (n - l.length)
def CY : List Nat → List Blk → List (Nat × Bool)
 | b :: bs, B :: Bs => (match B.tag with | 0 => [(b, false)] | 1 => [(b, true)] | _ => []) ++ CY bs Bs
 | _, _ => []
def BR (P : Program) (id : Nat) (lend : Bool) (f : FuncId) (args : List AV) : Ev Eff :=
 .chk (xa P f) ((match lend with | true => CX args | false => .ret (args, [])).bind fun s =>
  (w9 64 ((AV.refsL s.1).map Prod.fst) []).bind fun l => .chk (pj l && l.all fun b => !s.2.elem b) ((DY l).bind fun Bs =>
   .cl f (AV.renL (dH l) s.1) (Bs.map fun B => (Blk.map (j8 (dH l)) B).start) fun r H' =>
    .chk (Nat.ble l.length H'.length && Nat.ble H'.length (l.length + F9)) (je id (H'.length - l.length)
     (let bk := fun i => (uv l id H'.length)[i]?
      match s.2 with
      | [] => .ret { val := r.map (j8 bk), hb := Ab (uv l id H'.length) (nW Bs (H'.map (Blk.ren bk))), sc := CY l H' }
      | _ => .ret { val := erV (r.map (j8 bk)), hb := Ab (uv l id H'.length) (nW Bs (H'.map fun B => erB (Blk.map (j8 bk) B))), sc := CY l H' }))))
def BS (P : Program) (t : TypeId) (name : String) : Option (FuncId × Bool) := match P.info? t with
 | some i => match i.methods.find? (·.name == name) with
  | some m => if m.path.size = 0 then m.func else none
  | none => none
 | none => none
def Ga (P : Program) (t : TypeId) (byPtr : Bool) (v : AV) : Ev AV := match byPtr, P.underlying t with
 | true, some (.pointer _) => .ret v
 | false, some (.pointer e) => tF P e v
 | false, some _ => .ret v
 | _, _ => .fail
def jh (P : Program) (ρ : Operand → AV) : List Operand → List TypeId → List AV
 | x :: xs, t :: ts => retype P t (ρ x) :: jh P ρ xs ts
 | x :: xs, [] => ρ x :: jh P ρ xs []
 | [], _ => []
def rI (P : Program) (ρ : Operand → AV) (id : Nat) (b : Builtin) (args : List Operand) (ts : List TypeId) : Ev Eff :=
 match b with
 | .len => match args, ts with
  | [x], [t] => .opt (HV P t (ρ x)) fun p => .ret { val := .pv p }
  | _, _ => .fail
 | .append => match args, ts with
  | [s, x], [t, u] => .chk (Nat.beq t u) (Aa P id t (retype P t (ρ s)) (retype P u (ρ x)))
  | _, _ => .fail
 | .copy => match args, ts with
  | [d, x], [t, u] => F7 P t u (retype P t (ρ d)) (retype P u (ρ x))
  | _, _ => .fail
 | .max => match args with
  | [x, y] => match ρ x, ρ y with
   | .pv (.int k1 a), .pv (.int _ b) => .ret { val := .pv (.int k1 (if b > a then b else a)) }
   | _, _ => .fail
  | _ => .fail
 | .min => match args with
  | [x, y] => match ρ x, ρ y with
   | .pv (.int k1 a), .pv (.int _ b) => .ret { val := .pv (.int k1 (if b < a then b else a)) }
   | _, _ => .fail
  | _ => .fail
 | _ => .fail
def HY (d : Option TypeDesc) (v : AV) (y : Operand) : Option Bool := match d with
 | some (.slice _) => match v, y with
  | .pv (.seqk b _ _), .const (.slice none 0 0) => some b
  | _, _ => none
 | some (.func _ _ _) => match v, y with
  | .pv (.fn _), .const .nilFunc => some false
  | .pv .nilFn, .const .nilFunc => some true
  | _, _ => none
 | some (.pointer _) => match v, y with
  | .pv .nilPtr, .const (.pointer none) => some true
  | .ptr _ _ _ _, .const (.pointer none) => some false
  | .pref _ _, .const (.pointer none) => some false
  | _, _ => none
 | _ => none
def DZ (cs : List AV) (f : Nat → List AV) (i n : Nat) : Nat → List AV := cpy f i n fun k => [(cs.getD k dead).num]
def Ho (P : Program) (t : TypeId) (b s i N : Nat) (f : Nat → List AV) (v : AV) : Ev Eff := .opt (cT P t) fun n => .chk (Nat.beq v.cells.length n && Nat.ble 1 n && v.cells.all AV.pure) (.nd (Nat.ble (i + n) N) (.nd (Hn f i n) (.ret { val := dead, hb := [(b, .arr s 1 N (DZ v.cells f i n))] })))
def CZ (P : Program) (p : Bool) (id : Nat) (t : TypeId) (a v : AV) : Ev Eff := match F1 P t, a with
 | true, .ptr b [] i 0 => .rd b fun B => match B with
  | .arr s 1 N f => Ho P t b s i N f v
  | _ => z6 P p id t a v
 | _, _ => z6 P p id t a v
def G3 (P : Program) (e : TypeId) : Bool := match P.underlying e with
 | some (.int .u8) => true
 | _ => false
def opE (P : Program) (id : Nat) (lend : Bool) (o : Oper) (ρ : Operand → AV) : Ev Eff :=
 match o.op with
 | .move x => .ret { val := retype P o.type (ρ x) }
 | .assign x => match lend with
  | true => .ret { val := retype P o.type (ρ x) }
  | false => G2 (ρ x)
 | .pick c a b => match ρ c with
  | .pv (.bool t) => .sp t fun t => .ret { val := match t with | true => ρ a | false => ρ b }
  | _ => .fail
 | .alloc e => .opt (jc P e) fun z => F2 P id e (z.map zav)
 | .box e x => F2 P id e (retype P e (ρ x)).cells
 | .build t parts => .opt (ta P ρ t parts.toList) fun x => .ret { val := x }
 | .buildSlice t len parts => match lend with
  | true => gB P ρ id t len parts.toList
  | false => oG P ρ id t len parts.toList
 | .load t a => (tF P t (ρ a)).bind fun x => .ret { val := x }
 | .store t a x => CZ P (!lend) id t (ρ a) (retype P t (ρ x))
 | .nilCheck x => match ρ x with
  | .ptr b q i off => .ret { val := .ptr b q i off }
  | .pref cs off => .ret { val := .pref cs off }
  | _ => .fail
 | .binOp op t x y _ => match HY (P.underlying t) (ρ x) y with
  | some b => match op with
   | .eql => .ret { val := .pv (.bool b) }
   | .neq => .ret { val := .pv (.bool !b) }
   | _ => .fail
  | none => (HT P op t (ρ x) (ρ y)).bind fun v => .ret { val := v }
 | .unOp op _ x => .opt (unV op (ρ x)) fun r => .ret { val := r }
 | .convert src dst x => match P.underlying src, P.underlying dst, ρ x with
  | some _, some (.int kd), .pv (.int _ n) => .ret { val := .pv (.int kd (kd.wrap n)) }
  | some (.slice _), some (.slice e), .ms b q lo n => .chk (Nat.beq src dst && G3 P e && Nat.ble 1 n) (.ret { val := .ms b q lo n })
  | _, _, _ => .fail
 | .makeInterface t x => match P.underlying t with
  | some (.interface _) => .fail
  | some _ => .ret { val := .ifc t (ρ x) }
  | none => .fail
 | .makeFunc (.func f) first caps => match first.toList with
  | [] => .ret { val := .clo f (caps.toList.map ρ) }
  | _ => .fail
 | .makeSlice t l c => match P.underlying t, ρ l, ρ c with
  | some (.slice e), .pv (.int _ n), .pv (.int _ m) => match P.info? e, jc P e with
   | some i, some z => .chk (Nat.ble 1 i.size && Nat.beq z.length i.size && Nat.ble 1 i.bytes && z.all Hk) (.nd (decide (0 ≤ n)) (.nd (decide (n = m)) (.nd (decide (n * i.bytes ≤ aK)) (je id 1
     (.ret { val := .ms id [] 0 n.toNat, hb := [(id, .arr 0 i.size n.toNat fun _ => ef z)] })))))
   | _, _ => .fail
  | _, _, _ => .fail
 | .slice t x lo hi mx => (CW P t (ρ x) (lo.map ρ) (hi.map ρ) (mx.map ρ)).bind fun v => .ret { val := v }
 | .fieldAddr s x f => .opt (p7 P s (ρ x) f) fun r => .ret { val := r }
 | .field s x f => .opt (CT P s (ρ x) f) fun r => .ret { val := r }
 | .indexAddr t x i => (HW P t (ρ x) (ρ i)).bind fun v => .ret { val := v }
 | .index t x i => match P.underlying t, ρ x, ρ i with
  | some .string, .pv (.str s), .pv (.int _ i) => .nd (decide (0 ≤ i)) (.nd (decide (i < (s.size : Int))) (.ret { val := .pv (.int .u8 (s[i.toNat]!).toNat) }))
  | some (.array n e), .agg cs, .pv (.int _ i) => .opt (cT P e) fun s => .chk (Nat.beq s 1 && Nat.beq n cs.length && !bq P e && cs.all AV.pure) (.nd (decide (0 ≤ i)) (.nd (decide (i < (n : Int))) (.ret { val := (cs.getD i.toNat dead).scal })))
  | _, _, _ => .fail
 | .typeAssert x _ asserted ok => match P.underlying asserted, ρ x with
  | some (.interface _), _ => .fail
  | some _, .ifc t v => .chk (Nat.beq t asserted) (.ret { val := match ok with | true => .tup [v, .pv (.bool true)] | false => v })
  | _, _ => .fail
 | .extract x i => match ρ x with
  | .tup vs => .opt vs[i]? fun v => match lend with
   | true => .ret { val := v }
   | false => G2 v
  | _ => .fail
 | .call c => match c.callee with
  | .builtin b => rI P ρ id b c.args.toList c.argTypes.toList
  | .value f => match ρ f with
   | .pv (.fn g) => BR P id lend g (jh P ρ c.args.toList c.argTypes.toList)
   | .clo g caps => BR P id lend g (jh P ρ c.args.toList c.argTypes.toList ++ caps)
   | _ => .fail
  | .invoke r name => match ρ r with
   | .ifc t v => .opt (BS P t name) fun m => (Ga P t m.2 v).bind fun x => BR P id lend m.1 (x :: jh P ρ c.args.toList c.argTypes.toList)
   | _ => .fail
 | _ => .fail
def D0 (P : Program) (o : Oper) : Nat := match o.op with
 | .alloc e => 1 + slots P e
 | .box e _ => 1 + slots P e
 | .makeSlice _ _ _ => 1
 | .buildSlice _ _ _ => 1
 | .store t _ _ => slots P t
 | .call c => match c.callee with
  | .builtin .append => 1
  | .builtin _ => 0
  | _ => F9
 | _ => 0
def D1 (P : Program) : List Oper → Nat → Nat
 | [], _ => 0
 | _, 0 => 0
 | o :: os, n + 1 => D0 P o + D1 P os n
abbrev Ans (R : Type) := List Say → Option (List Ob × R)
def Ans.fail {R : Type} : Ans R := fun _ => none
def nX {R : Type} (l : List Ob) : Option (List Ob × R) → Option (List Ob × R)
 | some (l', r) => some (l ++ l', r)
 | none => none
def HZ (o : Oper) : Bool := match o.op with
 | .move _ => false
 | .assign _ => false
 | .pick _ _ _ => false
 | .nilCheck _ => false
 | .fieldAddr _ _ _ => false
 | .extract _ _ => false
 | .makeInterface _ _ => false
 | .makeFunc _ _ _ => false
 | .indexAddr _ _ _ => false
 | .typeAssert _ _ _ _ => false
 | _ => true
def aE (H : List Blk) : List (Nat × Blk) → List Blk
 | [] => H
 | (b, x) :: l => aE (H.set b x) l
def Eff.on (e : Eff) (dst : Option Nat) (st : St) : St := match e.sc with
 | [] => ug { st with heap := aE st.heap e.hb } dst e.val
 | sc => ug { tmps := AV.scrL sc st.tmps, heap := aE (st.heap.map (Blk.scr sc)) e.hb } dst e.val
def Ac : AV := .tup []
def tc (ops : List Oper) (j : Nat) : Option Nat := match ops[j]? with
 | some o => o.dst
 | none => none
def rJ {R : Type} (st : St) (t : Nat) (k : Bool → St → Ans R) : Ans R := match CS st t with
 | .pv (.bool b) => fun s => match s with
  | .b d :: s => nX [.t b d] (k d { st with tmps := st.tmps.set t (.pv (.bool d)) } s)
  | .keep :: s => match b with
   | true => k true st s
   | false => k false st s
  | _ => none
 | _ => Ans.fail
def Gb : Bool → Bool → Bool
 | true, true => true
 | false, false => true
 | _, _ => false
def Gc {R : Type} (ops : List Oper) (o : Oper) (st : St) (k : Bool → St → Ans R) : Ans R := match o.guard with
 | none => k true st
 | some (j, want) => match tc ops j with
  | none => Ans.fail
  | some g => match CS st g with
   | .tup _ => k false st
   | _ => rJ st g fun b st => k (Gb b want) st
def td (b : Nat) : List Nat → Bool
 | [] => false
 | x :: l => Nat.beq x b || td b l
def tG (b : Nat) : List (Nat × Blk) → Blk
 | [] => .gone
 | x :: l => bif Nat.beq x.1 b then x.2 else tG b l
def y5 (bs : List Nat) : List (Nat × Blk) → List (Nat × Blk)
 | [] => []
 | x :: l => bif td x.1 bs then y5 bs l else x :: y5 bs l
def mB (H : List Blk) (hb : List (Nat × Blk)) : List Nat → List Ob
 | [] => []
 | b :: bs => .e { val := dead, hb := [(b, tG b hb)] } { val := dead, hb := [(b, aP H b)] } :: mB H hb bs
def unE (H : List Blk) (bs : List Nat) (l : List Ob) (r : List Nat) (e : Eff) (s : List Say) : Out Eff := match e.sc with
 | [] => match pj (e.hb.map Prod.fst) with
  | true => some (l ++ mB H e.hb bs, r ++ bs, { e with hb := y5 bs e.hb }, s)
  | false => none
 | _ => none
def Gd (P : Program) (id : Nat) (lend : Bool) (o : Oper) (st : St) (s : List Say) : Out Eff := match (opE P id lend o (evT st.tmps)).run (aP st.heap) s with
 | none => none
 | some (l, r, e, s) => match HZ o with
  | false => some (l, r, e, s)
  | true => match s with
   | .e y :: s => some (l ++ [.e e y], r, y, s)
   | .keep :: s => some (l, r, e, s)
   | .u bs :: s => unE st.heap bs l r e s
   | _ => none
structure Rec where
 e : Eff
 rd : List Nat
 wt : List Nat
 wb : List Nat
 od : List (Nat × Bool)
def Ge (l : List Nat) (d : Nat) : Bool := match l with
 | [] => false
 | x :: xs => Nat.beq x d || Ge xs d
def rK (sc : List (Nat × Bool)) (l : List (Nat × Bool)) : Bool := sc.all fun s => l.all fun x => !(Nat.beq s.1 x.1 && (!s.2 || x.2))
def EN (sc : List (Nat × Bool)) : Nat → List AV → List Nat
 | _, [] => []
 | i, v :: vs => match rK sc v.refs with
  | true => EN sc (i + 1) vs
  | false => i :: EN sc (i + 1) vs
def EO (sc : List (Nat × Bool)) : Nat → List Blk → List Nat
 | _, [] => []
 | i, v :: vs => match rK sc v.refs with
  | true => EO sc (i + 1) vs
  | false => i :: EO sc (i + 1) vs
def uw (dst : Option Nat) (st : St) : List (Nat × Bool) := match dst with
 | some d => (st.tmps.getD d dead).refs
 | none => []
def f5 (dst : Option Nat) (st : St) (e : Eff) (rd : List Nat) : Rec := match e.sc with
 | [] => ⟨e, rd, dst.toList, e.hb.map Prod.fst, uw dst st ++ e.hb.flatMap fun x => (aP st.heap x.1).refs⟩
 | sc => ⟨e, rd, dst.toList ++ EN sc 0 st.tmps, e.hb.map Prod.fst ++ (sc.map Prod.fst ++ EO sc 0 st.heap), uw dst st ++ e.hb.flatMap fun x => (aP st.heap x.1).refs⟩
def ID : Operand → Option Nat
 | .tmp t => some t
 | _ => none
def Gf (o : Oper) : List Nat := o.op.operands.toList.filterMap ID
def H1 (ops : List Oper) (o : Oper) : List Nat := match o.guard with
 | some (g, _) => match ops[g]? with
  | some q => match q.dst with
   | some d => [d]
   | none => []
  | none => []
 | none => []
def xb (ops : List Oper) (o : Oper) : List Nat := Gf o ++ H1 ops o
def C0 (P : Program) (L : Nat → Bool) (ops : List Oper) {R : Type} : Nat → Nat → List Oper → St → (List Rec → St → Ans R) → Ans R
 | _, _, [], st, k => k [] st
 | ix, id, o :: rest, st, k => Gc ops o st fun b st => match b with
  | true => fun s => match Gd P id (L ix) o st s with
   | none => none
   | some (l, r, e, s) => nX l (C0 P L ops (ix + 1) (id + D0 P o) rest (e.on o.dst st) (fun rs => k (f5 o.dst st e r :: rs)) s)
  | false => C0 P L ops (ix + 1) (id + D0 P o) rest (ug st o.dst Ac) fun rs => k (f5 o.dst st { val := Ac } [] :: rs)
def p8 (l m : List Nat) : Bool := l.all fun x => !Ge m x
def ux (e : Eff) : List (Nat × Bool) := e.val.refs ++ e.hb.flatMap fun x => x.2.refs
def xc (ops : List Oper) (o q : Oper) (x y : Rec) : Bool :=
 p8 x.wt (xb ops q) && p8 y.wt (xb ops o) && p8 x.wt y.wt && p8 x.wb y.rd && p8 y.wb x.rd && p8 x.wb y.wb && rK x.e.sc (ux y.e) && rK y.e.sc (ux x.e) && rK y.e.sc x.od
def j9 (o : Oper) : List Nat := (o.after.toList.filter fun e => match e.ground with | .textOnly _ => false | .gcOnly _ => false | _ => true).map (·.on)
def te (ms : List Nat) : List Nat → Nat
 | [] => 0
 | e :: es => ((1 <<< e) ||| ms.getD e 0) ||| te ms es
def y6 : List Oper → List Nat → List Nat
 | [], ms => ms
 | o :: rest, ms => y6 rest (ms ++ [te ms (j9 o)])
def rL (ops : List Oper) (i m : Nat) (q : Oper) (y : Rec) : Nat → List Oper → List Rec → Bool
 | j, p :: rest, x :: xs => (Nat.ble i j || m.testBit j || xc ops p q x y) && rL ops i m q y (j + 1) rest xs
 | _, _, _ => true
def xd (ops : List Oper) (rs : List Rec) : Nat → List Oper → List Rec → List Nat → Bool
 | i, q :: rest, y :: ys, m :: ms => rL ops i m q y 0 ops rs && xd ops rs (i + 1) rest ys ms
 | _, _, _, _ => true
def xe : Nat → List Oper → Bool
 | _, [] => true
 | i, o :: rest => ((j9 o).all fun e => Nat.ble (e + 1) i) && xe (i + 1) rest
def xf (ops : List Oper) (rs : List Rec) : Bool := xe 0 ops && xd ops rs 0 ops rs (y6 ops [])
def grow (n : Nat) (st : St) : St := { st with heap := st.heap ++ List.replicate n .gone }
def BT : List Blk → List Blk
 | [] => []
 | B :: Bs => match BT Bs with
  | [] => match B with
   | .gone => []
   | B => [B]
  | Bs => B :: Bs
def trim (m : Nat) (H : List Blk) : List Blk := H.take m ++ BT (H.drop m)
def aV : Code → Nat
 | .region id _ _ => id
 | .seq a _ => aV a
 | .cond _ a _ => aV a
 | .block _ c => aV c
 | .loop c => aV c
 | .scope c => aV c
 | _ => 0
def rM (keep : List Nat) : Nat → List AV → List AV
 | _, [] => []
 | i, v :: vs => (bif keep.elem i then v else dead) :: rM keep (i + 1) vs
def xg : Nat → List Nat
 | 0 => []
 | n + 1 => xg n ++ [n]
def rN (H : List Blk) : Nat → List Nat → List Nat → List Nat
 | 0, _, acc => acc
 | _ + 1, [], acc => acc
 | n + 1, b :: todo, acc => bif acc.elem b then rN H n todo acc else rN H n ((aP H b).refs.map Prod.fst ++ todo) (acc ++ [b])
def tH (h n : Nat) : List Nat → List Nat
 | [] => []
 | b :: bs => bif Nat.ble h b && Nat.ble (b + 1) n then b :: tH h n bs else tH h n bs
def D2 : List Blk → List Nat
 | [] => []
 | b :: bs => b.refs.map Prod.fst ++ D2 bs
def bE (m : Nat) (vs : List AV) (H : List Blk) : List Nat := xg (min m H.length) ++ tH m H.length (rN H 64 ((AV.refsL vs).map Prod.fst ++ D2 (H.take m)) [])
def Gg (m : Nat) (st : St) : St :=
 let ids := bE m st.tmps st.heap
 { tmps := AV.renL (dH ids) st.tmps, heap := ids.map fun b => (aP st.heap b).map (j8 (dH ids)) }
def y7 (p : Nat → Bool) : List Nat → St → St
 | [], st => st
 | t :: ts, st => match st.tmps.getD t dead with
  | .nil f => match Nat.ble 1 (f 0).length with
   | true => y7 p ts { tmps := st.tmps.set t (.ms st.heap.length [] 0 0), heap := st.heap ++ [.arr 0 (f 0).length 0 fun _ => j7 (p t) (f 0)] }
   | false => y7 p ts st
  | _ => y7 p ts st
def Iq (l : List Nat) (i : Nat) : Nat := match l.elem i with
 | true => 0
 | false => match l.elem (i + 1000) with
  | true => 1
  | false => 2
def untag (l : List Nat) : Nat → List Blk → List Blk
 | _, [] => []
 | i, B :: Bs => B.also (Iq l i) :: untag l (i + 1) Bs
mutual
def AV.wins (b : Nat) : AV → List (Option Nat)
 | .ptr c _ _ _ => bif Nat.beq c b then [none] else []
 | .aptr c _ _ _ _ _ => bif Nat.beq c b then [none] else []
 | .ms c ρ lo n => bif Nat.beq c b then (match ρ, lo with | [], 0 => [some n] | _, _ => [none]) else []
 | .clo _ caps => AV.winsL b caps
 | .agg cs => AV.winsL b cs
 | .tup vs => AV.winsL b vs
 | .ifc _ v => v.wins b
 | _ => []
def AV.winsL (b : Nat) : List AV → List (Option Nat)
 | [] => []
 | v :: vs => v.wins b ++ AV.winsL b vs
end
def Blk.wins (b : Nat) : Blk → List (Option Nat)
 | .box _ cs => AV.winsL b cs
 | .lit _ _ rows => rows.flatMap (AV.winsL b)
 | _ => []
def uy (b : Nat) (vs : List AV) (H : List Blk) : List Blk := match AV.winsL b vs ++ H.flatMap (Blk.wins b) with
 | [some n] => match aP H b with
  | .arr _ sz N f => H.set b (.arr 0 sz n (jd 0 n N f))
  | _ => H
 | _ => H
def shrink : List Nat → List AV → List Blk → List Blk
 | [], _, H => H
 | b :: bs, vs, H => shrink bs vs (uy b vs H)
abbrev mG := FuncId → Nat → Nat → Option (List Nat)
def D3 (L : Nat → Nat → Option (List Nat)) (r : Nat) (st : St) : St := match L 2 r with
 | some l => y7 (fun t => l.elem (1000 + t)) l st
 | none => st
def rO (L : Nat → Nat → Option (List Nat)) (q r m : Nat) (st : St) : St := match L q r with
 | some l => Gg m { st with tmps := rM l 0 st.tmps }
 | none => st
def Hp (L : Nat → Nat → Option (List Nat)) (r : Nat) (st : St) : St := match L 3 r with
 | some l => { st with heap := untag l 0 st.heap }
 | none => st
def Gh (L : Nat → Nat → Option (List Nat)) (r : Nat) (st : St) : St := match L 9 r with
 | some l => { st with heap := shrink l st.tmps st.heap }
 | none => st
def tf (L : Nat → Nat → Option (List Nat)) (r m : Nat) (st : St) : St := Hp L r (Gh L r (rO L 0 r m (D3 L r st)))
def Ir (L : Nat → Nat → Option (List Nat)) (r : Nat) (ix : Nat) : Bool := match L 4 r with
 | some l => !l.elem ix
 | none => true
def ka (P : Program) (L : Nat → Nat → Option (List Nat)) (m : Nat) {R : Type} : Code → St → (Ex → St → Ans R) → Ans R
 | .skip, st, k => k .normal st
 | .region r ops draw, st, k => C0 P (Ir L r) ops.toList 0 st.heap.length ops.toList (grow (D1 P ops.toList ops.toList.length) st) fun rs st => match !draw || xf ops.toList rs with
  | true => k .normal { st with heap := trim m st.heap }
  | false => Ans.fail
 | .seq a b, st, k => ka P L m a st fun e st => match e with
  | .normal => ka P L m b st k
  | .exit i => k (.exit i) st
  | .ret => k .ret st
 | .cond c a b, st, k => match c with
  | .tmp t => rJ st t fun x st => match x with
   | true => ka P L m a st k
   | false => ka P L m b st k
  | .const (.bool true) => ka P L m a st k
  | .const (.bool false) => ka P L m b st k
  | _ => Ans.fail
 | .block id c, st, k => match L 5 (aV c) with
  | some _ => fun s => match s with
   | .l e x' :: s => nX [.k (.block id c) m (rO L 5 (aV c) m st) e x'] (k e x' s)
   | _ => none
  | none => ka P L m c st fun e st => match e with
   | .exit i => bif Nat.beq i id then k .normal st else k (.exit i) st
   | .normal => k .normal st
   | .ret => k .ret st
 | .loop c, st, k => fun s => match s with
  | .l e x' :: s => nX [.l c m (tf L (aV c) m st) e x'] (k e x' s)
  | _ => none
 | .exit id, st, k => k (.exit id) st
 | .ret, st, k => k .ret st
 | _, _, _ => Ans.fail
def fin {R : Type} (r : R) : Ans R := fun s => match s with
 | [] => some ([], r)
 | _ => none
def EP (m : Nat) (H : List Blk) : AV → AV
 | .ms b ρ lo n => bif Nat.ble (b + 1) m || ρ.isEmpty then .ms b ρ lo n else match (aP H b).nd with
  | some x => match x.go ρ with
   | some y => bif y.dat then .pv (.seq n fun i => dG (jd lo n y.n y.f i)) else .pv .bad
   | none => .pv .bad
  | none => .pv .bad
 | v => v
def Gi (m : Nat) (H : List Blk) : AV → AV
 | .agg cs => .agg (cs.map (EP m H))
 | v => EP m H v
def C1 (P : Program) (st : St) : ResultVar → Option AV
 | .tmp t => some (CS st t)
 | .cell a t => match (tF P t (CS st a)).run (aP st.heap) [] with
  | some ([], _, v, _) => some v
  | _ => none
def xh (P : Program) (st : St) : List ResultVar → Option (List AV)
 | [] => some []
 | r :: rs => match C1 P st r with
  | some v => (xh P st rs).map (v :: ·)
  | none => none
def xj : Bool → Bool → AV → List Blk → AV × List Blk
 | true, p, .nil f, H => match Nat.ble 1 (f 0).length with
  | true => (.ms H.length [] 0 0, H ++ [.arr 0 (f 0).length 0 fun _ => j7 p (f 0)])
  | false => (.nil f, H)
 | _, _, v, H => (v, H)
def Gj (l : List Nat) : Nat → List AV → List Blk → List AV × List Blk
 | _, [], H => ([], H)
 | i, v :: vs, H => let q := xj (l.elem i) (l.elem (1000 + i)) v H; let r := Gj l (i + 1) vs q.2; (q.1 :: r.1, r.2)
def xk (l : List Nat) (i : Nat) (v : AV) (H : List Blk) : AV × List Blk × Nat := match v with
 | .agg cs => let q := Gj l i cs H; (.agg q.1, q.2, cs.length)
 | v => let q := xj (l.elem i) (l.elem (1000 + i)) v H; (q.1, q.2, 1)
def C2 (l : List Nat) : Nat → List AV → List Blk → List AV × List Blk
 | _, [], H => ([], H)
 | i, v :: vs, H => let q := xk l i v H; let r := C2 l (i + q.2.2) vs q.2.1; (q.1 :: r.1, r.2)
def BU (m : Nat) : AV → List Nat
 | .ms b ρ lo n => bif Nat.ble (b + 1) m || ρ.isEmpty then [] else [b]
 | _ => []
def Gk (m : Nat) : AV → List Nat
 | .agg cs => cs.flatMap (BU m)
 | v => BU m v
def Gl : List AV → AV
 | [v] => v
 | vs => .tup vs
def G4 (L : Nat → Nat → Option (List Nat)) (vs : List AV) (H : List Blk) : List AV × List Blk := match L 7 0 with
 | some l => C2 l 0 vs H
 | none => (vs, H)
def Is (T C : List Nat) (q : List AV × List Blk) (us : List AV) (ids : List Nat) (m : Nat) : Option (AV × List Blk) := match (q.1.flatMap (Gk m)).all fun b => !ids.elem b with
 | true => some (Gl (AV.renL (dH ids) us), untag T 0 (shrink C (AV.renL (dH ids) us) (ids.map fun b => (aP q.2 b).map (j8 (dH ids)))))
 | false => none
def It (T C : List Nat) (q : List AV × List Blk) (m : Nat) : Option (AV × List Blk) := Is T C q (q.1.map (Gi m q.2)) (bE m (q.1.map (Gi m q.2)) q.2) m
def Gm (P : Program) (L : Nat → Nat → Option (List Nat)) (fn : Func) (m : Nat) (st : St) : Option (AV × List Blk) := match xh P st fn.results.toList with
 | some vs => It ((L 8 0).getD []) ((L 10 0).getD []) (G4 L vs st.heap) m
 | none => none
def Hq (P : Program) (L : mG) (f : FuncId) (fn : Func) (args : List AV) (H : List Blk) : Ans (AV × List Blk) := match fn.body with
 | some c => ka P (L f) H.length c ⟨args ++ List.replicate (fn.ntmps - args.length) dead, H⟩ fun e st => match e with
  | .exit _ => Ans.fail
  | _ => match Gm P (L f) fn H.length st with
   | some r => fin r
   | none => Ans.fail
 | none => Ans.fail
def G5 (P : Program) (L : mG) (f : FuncId) (args : List AV) (H : List Blk) : Ans (AV × List Blk) := match P.funcs[f]? with
 | some fn => Hq P L f fn args H
 | none => Ans.fail
end Go.Bm
