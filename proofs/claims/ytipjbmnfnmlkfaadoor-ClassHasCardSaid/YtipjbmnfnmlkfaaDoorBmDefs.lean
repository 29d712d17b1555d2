import Derived.Test.YtipjbmnfnmlkfaaDoorBmPv
namespace Go.Bm
set_option autoImplicit false
set_option linter.unusedVariables false
abbrev Stp := Nat × Nat
inductive AV where
 | dead
 | pv (p : PV)
 | nil (f : Nat → List PV)
 | own (sz n : Nat) (f : Nat → List AV)
 | ptr (b : Nat) (ρ : List Stp) (i o : Nat)
 | aptr (b : Nat) (ρ : List Stp) (i o m k : Nat)
 | pref (cs : List PV) (off : Nat)
 | ms (b : Nat) (ρ : List Stp) (lo n : Nat)
 | clo (f : FuncId) (caps : List AV)
 | agg (cs : List AV)
 | tup (vs : List AV)
 | ifc (t : TypeId) (v : AV)
abbrev dead : AV := .dead
def AV.oneC : AV → Bool
 | .dead => false
 | .agg _ => false
 | .tup _ => false
 | .own _ _ _ => false
 | _ => true
def AV.pure : AV → Bool
 | .pv _ => true
 | _ => false
inductive Blk where
 | box (same : Nat) (cs : List AV)
 | arr (same : Nat) (sz n : Nat) (f : Nat → List AV)
 | lit (same : Nat) (sz : Nat) (rows : List (List AV))
 | gone
structure St where
 tmps : List AV
 heap : List Blk
inductive Ex where
 | normal
 | exit (id : Nat)
 | ret
structure Nd where
 dat : Bool
 sz : Nat
 n : Nat
 f : Nat → List AV
def Blk.nd : Blk → Option Nd
 | .box _ cs => some ⟨false, cs.length, 1, fun _ => cs⟩
 | .arr _ sz n f => some ⟨true, sz, n, f⟩
 | .lit _ sz rows => some ⟨false, sz, rows.length, fun i => rows.getD i []⟩
 | .gone => none
def Nd.go : Nd → List Stp → Option Nd
 | x, [] => some x
 | x, (i, o) :: ρ => match (x.f i)[o]? with
  | some (.own sz n f) => Nd.go ⟨true, sz, n, f⟩ ρ
  | _ => none
def upd {α : Type} (f : Nat → α) (i : Nat) (v : α) : Nat → α := fun j => if j = i then v else f j
def Nd.put : Nd → List Stp → Nat → (List AV → List AV) → Nd
 | x, [], i, g => { x with f := upd x.f i (g (x.f i)) }
 | x, (i0, o0) :: ρ, i, g => { x with f := upd x.f i0 ((x.f i0).set o0 (match (x.f i0)[o0]? with
  | some (.own sz n f) => .own sz n (Nd.put ⟨true, sz, n, f⟩ ρ i g).f
  | some c => c
  | none => dead)) }
def Blk.put (B : Blk) (ρ : List Stp) (i : Nat) (g : List AV → List AV) : Blk := match B, ρ with
 | .box s cs, [] => .box s (g cs)
 | .arr s sz n f, ρ => .arr s sz n (Nd.put ⟨true, sz, n, f⟩ ρ i g).f
 | .lit s sz rows, [] => .lit s sz (rows.set i (g (rows.getD i [])))
 | B, _ => B
def zpv (P : Program) : Nat → TypeId → List PV
 | 0, _ => [.bad]
 | n + 1, t => match P.underlying t with
  | some .bool => [.bool false]
  | some (.int k) => [.int k 0]
  | some .string => [.str .empty]
  | some (.slice e) => [.seq 0 fun _ => zpv P n e]
  | some (.struct fs) => fs.toList.flatMap fun f => zpv P n f.type
  | some (.array m e) => (List.replicate m (zpv P n e)).flatten
  | some (.pointer _) => [.nilPtr]
  | some (.func ..) => [.nilFn]
  | some (.interface _) => [.nilIf]
  | _ => [.bad]
def depth : Nat := 8
def sr (P : Program) (t : TypeId) : Nat → List PV := fun _ => match P.underlying t with
 | some (.slice e) => zpv P depth e
 | _ => []
def zR : Value → PV → Bool
 | .bool false, .bool false => true
 | .int k n, .int k' n' => decide (k = k') && decide (n = n')
 | .string s, .str s' => s.size == 0 && s'.size == 0
 | .slice none 0 0, .seq 0 _ => true
 | .pointer none, .nilPtr => true
 | .nilFunc, .nilFn => true
 | .nilIface, .nilIf => true
 | _, _ => false
def ym : List Value → List PV → Bool
 | [], [] => true
 | v :: vs, p :: ps => zR v p && ym vs ps
 | _, _ => false
def iG (P : Program) (t : TypeId) : Option (List PV) := match P.info? t with
 | some i => match i.zero with
  | some z => if ym z.cells.toList (zpv P depth t) then some (zpv P depth t) else none
  | none => none
 | none => none
def B2 : PV → Bool
 | .seq _ _ => true
 | _ => false
def FD : PV → Bool
 | .seq _ f => Nat.ble 1 (f 0).length
 | _ => true
def slots (P : Program) (t : TypeId) : Nat := ((zpv P depth t).filter B2).length
def zav : PV → AV
 | .seq _ f => .nil f
 | p => .pv p
mutual
def Fh : PV → AV
 | .seq _ f => .own (f 0).length 0 fun _ => dv (f 0)
 | p => .pv p
def dv : List PV → List AV
 | [] => []
 | p :: ps => Fh p :: dv ps
end
def cG (P : Program) (t : TypeId) : Option Nat := match P.underlying t, P.info? t with
 | some _, some i => some i.size
 | _, _ => none
def be (P : Program) (t : TypeId) : Bool := match P.underlying t with
 | some (.struct _) => true
 | some (.array _ _) => true
 | _ => false
def retype (P : Program) (t : TypeId) : AV → AV
 | .nil f => .nil (sr P t)
 | v => v
def ofConst : Value → AV
 | .bool b => .pv (.bool b)
 | .int k n => .pv (.int k n)
 | .string s => .pv (.str s)
 | .slice none 0 0 => .nil fun _ => []
 | .pointer none => .pv .nilPtr
 | .nilFunc => .pv .nilFn
 | .nilIface => .pv .nilIf
 | _ => dead
def AS (st : St) (t : Nat) : AV := st.tmps.getD t dead
def evT (l : List AV) : Operand → AV
 | .tmp t => l.getD t dead
 | .const v => ofConst v
 | .global g => match z5 g with
  | some cs => .pref cs 0
  | none => dead
 | .func f => .pv (.fn f)
def sK (st : St) (d : Option Nat) (v : AV) : St := match d with
 | some d => { st with tmps := st.tmps.set d v }
 | none => st
structure Eff where
 val : AV
 hb : List (Nat × Blk) := []
 sc : List (Nat × Bool) := []
inductive Ob where
 | t (u v : Bool)
 | e (u v : Eff)
 | c (f : FuncId) (args : List AV) (H : List Blk) (r : AV) (H' : List Blk)
 | l (c : Code) (m : Nat) (x : St) (e : Ex) (x' : St)
 | k (c : Code) (m : Nat) (x : St) (e : Ex) (x' : St)
inductive Say where
 | b (d : Bool)
 | keep
 | e (x : Eff)
 | c (r : AV) (H : List Blk)
 | l (e : Ex) (x : St)
 | u (bs : List Nat)
inductive Ev (α : Type) where
 | ret (x : α)
 | fail
 | rd (b : Nat) (k : Blk → Ev α)
 | nd (c : Bool) (k : Ev α)
 | sp (c : Bool) (k : Bool → Ev α)
 | ch (c : Bool) (k : Bool → Ev α)
 | cl (f : FuncId) (args : List AV) (H : List Blk) (k : AV → List Blk → Ev α)
def Ev.bind {α β : Type} : Ev α → (α → Ev β) → Ev β
 | .ret x, k => k x
 | .fail, _ => .fail
 | .rd b j, k => .rd b fun B => (j B).bind k
 | .nd c j, k => .nd c (j.bind k)
 | .sp c j, k => .sp c fun d => (j d).bind k
 | .ch c j, k => .ch c fun d => (j d).bind k
 | .cl f a H j, k => .cl f a H fun r G => (j r G).bind k
def Ev.chk {α : Type} (c : Bool) (k : Ev α) : Ev α := match c with
 | true => k
 | false => .fail
def Ev.opt {α β : Type} (x : Option α) (k : α → Ev β) : Ev β := match x with
 | some x => k x
 | none => .fail
abbrev Out (α : Type) := Option (List Ob × List Nat × α × List Say)
def uS {α : Type} (o : Ob) : Out α → Out α
 | some (l, r, x, s) => some (o :: l, r, x, s)
 | none => none
def B3 {α : Type} (b : Nat) : Out α → Out α
 | some (l, r, x, s) => some (l, b :: r, x, s)
 | none => none
def Ev.run {α : Type} (H : Nat → Blk) : Ev α → List Say → Out α
 | .ret x, s => some ([], [], x, s)
 | .fail, _ => none
 | .rd b k, s => B3 b ((k (H b)).run H s)
 | .nd c k, s => uS (.t c true) (k.run H s)
 | .sp c k, s => match s with
  | .b d :: s => uS (.t c d) ((k d).run H s)
  | .keep :: s => match c with
   | true => (k true).run H s
   | false => (k false).run H s
  | _ => none
 | .ch c k, s => match s with
  | .b true :: s => uS (.t c true) ((k true).run H s)
  | .b false :: s => (k false).run H s
  | _ => none
 | .cl f a G k, s => match s with
  | .c r G' :: s => uS (.c f a G r G') ((k r G').run H s)
  | _ => none
def aF : Nat := 140737488351232
def FE (op : BinOp) (k : IntKind) (a b : Int) : Option PV := match op with
 | .add => some (.int k (k.wrap (a + b)))
 | .sub => some (.int k (k.wrap (a - b)))
 | .mul => some (.int k (k.wrap (a * b)))
 | .and => some (.int k (k.wrap (BitVec.ofInt k.bits a &&& BitVec.ofInt k.bits b).toNat))
 | .or => some (.int k (k.wrap (BitVec.ofInt k.bits a ||| BitVec.ofInt k.bits b).toNat))
 | .xor => some (.int k (k.wrap (BitVec.ofInt k.bits a ^^^ BitVec.ofInt k.bits b).toNat))
 | .andNot => some (.int k (k.wrap (BitVec.ofInt k.bits a &&& ~~~BitVec.ofInt k.bits b).toNat))
 | .eql => some (.bool (a == b))
 | .neq => some (.bool (a != b))
 | .lss => some (.bool (a < b))
 | .leq => some (.bool (a ≤ b))
 | .gtr => some (.bool (a > b))
 | .geq => some (.bool (a ≥ b))
 | _ => none
def part {α : Type} (cs : List α) (off n : Nat) : List α := (cs.drop off).take n
def B4 (f : List AV → List AV → Option Bool) (z : Nat) (xs ys : List AV) : List Nat → Option Bool
 | [] => some true
 | i :: is => match f (part xs (i * z) z) (part ys (i * z) z), B4 f z xs ys is with
  | some a, some b => some (a && b)
  | _, _ => none
def eqV (P : Program) : Nat → TypeId → List AV → List AV → Option Bool
 | 0, _, _, _ => none
 | n + 1, t, xs, ys => match P.underlying t with
  | some .bool => match xs, ys with
   | [.pv (.bool a)], [.pv (.bool b)] => some (a == b)
   | _, _ => none
  | some (.int _) => match xs, ys with
   | [.pv (.int k a)], [.pv (.int k' b)] => if k = k' then some (a == b) else none
   | _, _ => none
  | some .string => match xs, ys with
   | [.pv (.str a)], [.pv (.str b)] => some (a.toList == b.toList)
   | _, _ => none
  | some (.struct fs) => bif P.stoodInHeld t then none else fs.toList.foldr (fun f r => match r with
   | none => none
   | some r => bif f.name == "_" then none else match cG P f.type with
    | none => none
    | some m => bif Nat.ble (f.offset + m) xs.length && Nat.ble (f.offset + m) ys.length then match eqV P n f.type (part xs f.offset m) (part ys f.offset m) with
     | some b => some (b && r)
     | none => none
     else none) (some true)
  | some (.array m e) => match cG P e with
   | none => none
   | some z => bif Nat.ble (m * z) xs.length && Nat.ble (m * z) ys.length then B4 (fun a b => eqV P n e a b) z xs ys (List.range m) else none
  | _ => none
def eqE (P : Program) (t : TypeId) (x y : AV) : Option Bool := match x, y with
 | .agg xs, .agg ys => bif P.eqGuardType P.depth t then none else match P.underlying t with
  | some (.struct _) => eqV P 8 t xs ys
  | some (.array _ _) => eqV P 8 t xs ys
  | _ => none
 | .pv (.bool _), .pv (.bool _) => match P.underlying t with
  | some .bool => eqV P 8 t [x] [y]
  | _ => none
 | _, _ => none
def Ge (P : Program) (op : BinOp) (t : TypeId) (x y : AV) : Ev AV := match x, y with
 | .pv (.int kx a), .pv (.int ky b) => match op with
  | .shl => .nd (decide (0 ≤ b)) (.ret (.pv (.int kx (kx.wrap (a * 2 ^ min b.toNat kx.bits)))))
  | .shr => .nd (decide (0 ≤ b)) (.ret (.pv (.int kx (a.fdiv (2 ^ min b.toNat kx.bits)))))
  | .quo => .chk (decide (kx = ky)) (.nd (!decide (b = 0)) (.ret (.pv (.int kx (kx.wrap (a.tdiv b))))))
  | .rem => .chk (decide (kx = ky)) (.nd (!decide (b = 0)) (.ret (.pv (.int kx (a.tmod b)))))
  | op => .chk (decide (kx = ky)) (.opt (FE op kx a b) fun p => .ret (.pv p))
 | .pv (.str a), .pv (.str b) => match op with
  | .eql => .ret (.pv (.bool (a.toList == b.toList)))
  | .neq => .ret (.pv (.bool !(a.toList == b.toList)))
  | .add => .nd (Nat.ble (a.size + b.size) aF) (.ret (.pv (.str (a ++ b))))
  | _ => .fail
 | x, y => match op with
  | .eql => .opt (eqE P t x y) fun b => .ret (.pv (.bool b))
  | .neq => .opt (eqE P t x y) fun b => .ret (.pv (.bool !b))
  | _ => .fail
def unV (op : UnOp) (x : AV) : Option AV := match op, x with
 | .not, .pv (.bool b) => some (.pv (.bool !b))
 | .neg, .pv (.int k n) => some (.pv (.int k (k.wrap (0 - n))))
 | .xor, .pv (.int k n) => some (.pv (.int k (k.wrap (BitVec.ofInt k.bits (if k.signed then -1 else k.max) ^^^ BitVec.ofInt k.bits n).toNat)))
 | _, _ => none
def aN (H : List Blk) (b : Nat) : Blk := H.getD b (.lit 0 0 [])
def splice {α : Type} (cs : List α) (off : Nat) (vs : List α) : List α := cs.take off ++ vs ++ cs.drop (off + vs.length)
def j9 (b : Nat) (ρ : List Stp) : Ev Nd := .rd b fun B => .opt B.nd fun x => .opt (x.go ρ) .ret
def Fi (b : Nat) (ρ : List Stp) (i o : Nat) : AV → AV
 | .own _ n _ => .ms b (ρ ++ [(i, o)]) 0 n
 | v => v
def yn (b : Nat) (ρ : List Stp) (i : Nat) : Nat → List AV → List AV
 | _, [] => []
 | o, c :: cs => Fi b ρ i o c :: yn b ρ i (o + 1) cs
def qa (isAgg : Bool) (cs : List AV) : Option AV := match isAgg with
 | true => some (.agg cs)
 | false => match cs with
  | [v] => some v
  | _ => none
def AV.scal : AV → AV
 | .pv p => .pv p
 | _ => .pv .bad
def mi (f : Nat → List AV) (i : Nat) : Nat → List AV
 | 0 => []
 | n + 1 => mi f i n ++ [((f (i + n)).getD 0 dead).scal]
def ss (P : Program) (t : TypeId) (a : AV) : Ev AV := .opt (cG P t) fun n => match a with
 | .ptr b ρ i o => (j9 b ρ).bind fun x => match Nat.ble (o + n) (x.f i).length with
  | true => .opt (qa (be P t) (yn b ρ i o (part (x.f i) o n))) .ret
  | false => .chk (x.dat && Nat.beq x.sz 1 && Nat.beq o 0 && Nat.ble (i + n) x.n && Nat.ble 2 n && be P t) (.ret (.agg (mi x.f i n)))
 | .aptr b ρ i o m k => .chk (Nat.beq n 1 && !be P t) ((j9 b ρ).bind fun x => .chk (Nat.ble (o + m) (x.f i).length) (.ret ((part (x.f i) o m).getD k dead).scal))
 | .pref cs off => .chk (Nat.ble (off + n) cs.length) (.opt (qa (be P t) ((part cs off n).map .pv)) .ret)
 | _ => .fail
def AV.cells : AV → List AV
 | .dead => []
 | .agg cs => cs
 | v => [v]
def dB (lo n N : Nat) (f : Nat → List AV) : Nat → List AV := fun i => if i < n then f (lo + i) else f N
def oQ (lo n N : Nat) (f : Nat → List AV) : Ev (Nat → List AV) := .ch (decide (n = N) && decide (lo = 0)) fun d => .ret (match d with | true => f | false => dB lo n N f)
def Gf (b : Nat) (ρ : List Stp) (i o : Nat) (old : AV) (v : AV) : Ev (AV × List Nat) := match v with
 | .pv p => .ret (.pv p, [])
 | .nil f => .chk (Nat.ble 1 (f 0).length) (.ret (.own (f 0).length 0 fun _ => dv (f 0), []))
 | .ms c [] lo n => .chk (!Nat.beq c b && Nat.beq lo 0) (.rd c fun B => match B with
  | .arr _ sz N f => (oQ lo n N f).bind fun g => .ret (.own sz n g, [c])
  | _ => .fail)
 | .ms c σ lo n => match old with
  | .own sz N f => .chk (Nat.beq c b && Nat.beq lo 0) <| .nd (decide (σ = ρ ++ [(i, o)])) ((oQ lo n N f).bind fun g => .ret (.own sz n g, []))
  | _ => .fail
 | _ => .fail
def zS (b : Nat) (ρ : List Stp) (i : Nat) : Nat → List AV → List AV → Ev (List AV × List Nat)
 | _, _, [] => .ret ([], [])
 | o, olds, v :: vs => (Gf b ρ i o (olds.headD dead) v).bind fun x => (zS b ρ i (o + 1) olds.tail vs).bind fun y => .ret (x.1 :: y.1, x.2 ++ y.2)
def jy (p : Bool) (z : List PV) : List AV := match p with
 | true => z.map AV.pv
 | false => dv z
def ew (p : Bool) (id : Nat) : List AV → List AV × List (Nat × Blk)
 | [] => ([], [])
 | .nil f :: vs => let r := ew p (id + 1) vs; (.ms id [] 0 0 :: r.1, (id, .arr 0 (f 0).length 0 fun _ => jy p (f 0)) :: r.2)
 | v :: vs => let r := ew p id vs; (v :: r.1, r.2)
def D5 : AV → Bool
 | .nil f => Nat.ble 1 (f 0).length
 | _ => true
def iH {α : Type} (id : Nat) : Nat → Ev α → Ev α
 | 0, k => k
 | n + 1, k => .rd id fun B => match B with
  | .gone => iH (id + 1) n k
  | _ => .fail
def n5 : List Nat → Bool
 | [] => true
 | x :: xs => !xs.elem x && n5 xs
def B5 : AV → Bool
 | .own _ _ _ => true
 | _ => false
def iI (cs : List AV) : Bool := cs.any B5
def eX (cs : List Nat) : List (Nat × Blk) := cs.map fun c => (c, .gone)
def jL : Nat → Nat → Nat
 | 0, _ => 0
 | 1, 0 => 0
 | 1, _ => 1
 | _, b => b
def Blk.tag : Blk → Nat
 | .box s _ => s
 | .arr s _ _ _ => s
 | .lit s _ _ => s
 | .gone => 0
def Blk.also (s : Nat) : Blk → Blk
 | .box s' cs => .box (jL s s') cs
 | .arr s' sz n f => .arr (jL s s') sz n f
 | .lit s' sz rows => .lit (jL s s') sz rows
 | .gone => .gone
def FF (c : Bool) : Nat := bif c then 1 else 2
def yo (P : Program) (p : Bool) (id : Nat) (t : TypeId) (a v : AV) : Ev Eff := .opt (cG P t) fun n => .chk (Nat.beq v.cells.length n && Nat.ble 1 n && v.cells.all AV.oneC && v.cells.all D5) (match a with
 | .ptr b ρ i o => .rd b fun B => match B with
  | .box s cs => .chk (ρ.isEmpty && Nat.ble (o + n) cs.length) (iH id (ew p id v.cells).2.length (.ret { val := dead, hb := (ew p id v.cells).2 ++ [(b, .box s (splice cs o (ew p id v.cells).1))] }))
  | .arr s sz N f => .opt (Nd.go ⟨true, sz, N, f⟩ ρ) fun x => .nd (Nat.ble (o + n) (x.f i).length)
    ((zS b ρ i o (part (x.f i) o n) v.cells).bind fun r => .chk (n5 r.2)
    (.ret { val := dead, hb := (b, Blk.put (.arr (jL (FF (iI (part (x.f i) o n))) s) sz N f) ρ i fun cs => splice cs o r.1) :: eX r.2, sc := (bif iI (part (x.f i) o n) then [(b, true)] else []) ++ r.2.map fun c => (c, false) }))
  | _ => .fail
 | .aptr b ρ i o m k => .chk (Nat.beq n 1 && v.cells.all AV.pure) (.rd b fun B => .opt B.nd fun x => .opt (x.go ρ) fun x => .chk (Nat.ble (o + m) (x.f i).length && (part (x.f i) o m).all AV.pure) (.ret { val := dead, hb := [(b, Blk.put B ρ i fun cs => splice cs o ((part cs o m).set k (v.cells.headD dead)))] }))
 | _ => .fail)
def ly (dp : Nat → Option (Nat × Nat)) (cells : List AV) : List (Nat × AV) → Option (List AV)
 | [] => some cells
 | (i, v) :: rest => match dp i with
  | none => none
  | some (off, size) => bif Nat.beq v.cells.length size && Nat.ble 1 size && Nat.ble (off + size) cells.length then ly dp (splice cells off v.cells) rest else none
def yp (P : Program) (fs : Array Field) (i : Nat) : Option (Nat × Nat) := match fs[i]? with
 | some f => (cG P f.type).map fun n => (f.offset, n)
 | none => none
def B6 (fs : Array Field) (i : Nat) : TypeId := match fs[i]? with
 | some f => f.type
 | none => 0
def rA (P : Program) (ρ : Operand → AV) (t : TypeId) (parts : List (Nat × Operand)) : Option AV := match iG P t with
 | none => none
 | some z => match P.underlying t with
  | some (.struct fs) => bif fs.toList.all fun f => (cG P f.type).isSome then (ly (yp P fs) (z.map zav) (parts.map fun x => (x.1, retype P (B6 fs x.1) (ρ x.2)))).map .agg else none
  | some (.array _ e) => match cG P e with
   | some n => (ly (fun i => some (i * n, n)) (z.map zav) (parts.map fun x => (x.1, retype P e (ρ x.2)))).map .agg
   | none => none
  | _ => none
def ip (sz : Nat) (cells : List AV) : Nat → List (List AV)
 | 0 => []
 | n + 1 => cells.take sz :: ip sz (cells.drop sz) n
def uT (z : List AV) : List (List AV) → Nat → List AV
 | [], _ => z
 | c :: _, 0 => c
 | _ :: cs, i + 1 => uT z cs i
def B7 : AV → Bool
 | .pv (.fn _) => false
 | .pv _ => true
 | .nil f => Nat.ble 1 (f 0).length
 | .ms _ [] _ _ => true
 | _ => false
def gd (P : Program) (ρ : Operand → AV) (id : Nat) (t : TypeId) (len : Nat) (parts : List (Nat × Operand)) : Ev Eff := match P.underlying t with
 | some (.slice e) => match cG P e, iG P e with
  | some n, some z => .chk (Nat.ble 1 n && Nat.ble (len * n) 16777216 && Nat.beq z.length n)
    (.opt (ly (fun i => some (i * n, n)) ((List.replicate len (z.map zav)).flatten) (parts.map fun x => (x.1, retype P e (ρ x.2)))) fun cs => iH id 1 (match cs.all B7 with
     | true => (zS id [] 0 0 [] cs).bind fun r => .chk (n5 r.2) (.ret { val := .ms id [] 0 len, hb := (id, .arr 0 n len (uT (dv z) (ip n r.1 len))) :: eX r.2, sc := r.2.map fun c => (c, false) })
     | false => .chk (cs.all AV.oneC) (.ret { val := .ms id [] 0 len, hb := [(id, .lit 0 n (ip n cs len))] })))
  | _, _ => .fail
 | _ => .fail
def FG (P : Program) : Nat → TypeId → Bool
 | 0, _ => false
 | n + 1, t => match P.underlying t with
  | some (.array _ e) => FG P n e
  | some (.int _) => true
  | some .bool => true
  | _ => false
def D6 (P : Program) (t : TypeId) : Bool := match P.underlying t with
 | some (.array _ _) => FG P depth t
 | _ => false
def D7 (P : Program) (id : Nat) (t : TypeId) (cs : List AV) : Ev Eff := match D6 P t with
 | true => .chk (cs.all AV.pure && Nat.ble 1 cs.length) (iH id 1 (.ret { val := .ptr id [] 0 0, hb := [(id, .arr 0 1 cs.length fun i => [cs.getD i (cs.headD dead)])] }))
 | false => .chk (Nat.ble 1 cs.length && cs.all AV.oneC && cs.all D5) (iH id (1 + (ew false (id + 1) cs).2.length) (.ret { val := .ptr id [] 0 0, hb := (ew false (id + 1) cs).2 ++ [(id, .box 0 (ew false (id + 1) cs).1)] }))
def Gg (P : Program) (t : TypeId) (x : AV) : Option PV := match P.underlying t with
 | some (.array n _) => some (.int .i64 n)
 | some (.slice _) => match x with
  | .pv (.seq n _) => some (.int .i64 n)
  | .nil _ => some (.int .i64 0)
  | .ms _ _ _ n => some (.int .i64 n)
  | _ => none
 | some .string => match x with
  | .pv (.str s) => some (.int .i64 s.size)
  | _ => none
 | _ => none
def gF (lo i : Nat) : Nat := match lo with
 | 0 => i
 | _ => lo + i
def Fj (i s : Nat) : Nat := match s with
 | 1 => i
 | _ => i * s
def D8 (i : Int) : Nat → Nat → Ev (Option Nat)
 | 0, _ => .ret none
 | n + 1, k => .ch (decide (i = (k : Int))) fun d => match d with
  | true => .ret (some k)
  | false => D8 i n (k + 1)
def GR (i : Int) (n : Nat) : Ev (Option Nat) := .ch true fun d => match d with
 | true => D8 i n 0
 | false => .ret none
def GS (b : Nat) (ρ : List Stp) (j o n : Nat) (i : Int) : Option Nat → AV
 | some k => .ptr b ρ j (o + k)
 | none => .aptr b ρ j o n i.toNat
def Gh (P : Program) (t : TypeId) (x ix : AV) : Ev AV := match ix with
 | .pv (.int _ i) => match P.underlying t with
  | some (.array n e) => .opt (cG P e) fun s => .nd (decide (0 ≤ i)) (.nd (decide (i < (n : Int))) (match x with
   | .ptr b ρ j o => (j9 b ρ).bind fun y => match Nat.beq y.sz 1 with
    | true => .chk (Nat.beq o 0 && Nat.ble 1 s) (.nd (Nat.ble (j + n * s) y.n) (.ret (.ptr b ρ (gF j (Fj i.toNat s)) 0)))
    | false => .chk (Nat.beq s 1 && Nat.ble (o + n) y.sz) ((GR i n).bind fun k => .ret (GS b ρ j o n i k))
   | .pref cs off => .chk (Nat.beq s 1 && Nat.ble (off + n) cs.length) (.ret (.pref [(part cs off n).getD i.toNat .bad] 0))
   | _ => .fail))
  | some (.slice e) => .opt (cG P e) fun s => match x with
    | .pv (.seq n f) => .nd (decide (0 ≤ i)) (.nd (decide (i < (n : Int))) (.chk (Nat.beq (f i.toNat).length s) (.ret (.pref (f i.toNat) 0))))
    | .ms b ρ lo n => (j9 b ρ).bind fun y => .chk (Nat.beq y.sz s) (.nd (decide (0 ≤ i)) (.nd (decide (i < (n : Int))) (.ret (.ptr b ρ (gF lo i.toNat) 0))))
    | _ => .fail
  | _ => .fail
 | _ => .fail
def D9 (P : Program) (s : TypeId) (i : Nat) : Option Nat := match P.underlying s with
 | some (.struct fs) => match fs[i]? with
  | some f => match cG P f.type with
   | some (_ + 1) => some f.offset
   | _ => none
  | none => none
 | _ => none
def oR (P : Program) (s : TypeId) (x : AV) (i : Nat) : Option AV := match D9 P s i with
 | none => none
 | some o => match x with
  | .ptr b ρ j off => some (.ptr b ρ j (off + o))
  | .pref cs off => some (.pref cs (off + o))
  | _ => none
def AT (P : Program) (s : TypeId) (x : AV) (i : Nat) : Option AV := match P.underlying s with
 | some (.struct fs) => match fs[i]?, x with
  | some f, .agg cs => match cG P f.type with
   | some n => bif Nat.ble (f.offset + n) cs.length then qa (be P f.type) (part cs f.offset n) else none
   | none => none
  | _, _ => none
 | _ => none
def iJ (x : Option AV) (dflt n : Nat) : Ev Nat := match x with
 | none => .ret dflt
 | some (.pv (.int _ i)) => .nd (decide (0 ≤ i)) (.nd (decide (i ≤ (n : Int))) (.ret i.toNat))
 | _ => .fail
def Ea (l h : Nat) (f : Nat → List PV) (z : Nat → List PV) : Nat → List PV := fun i => if i < h - l then f (l + i) else z i
def AU (P : Program) (t : TypeId) (x : AV) (lo hi mx : Option AV) : Ev AV := match P.underlying t with
 | some (.slice e) => .opt (cG P e) fun z => match mx with
   | some (.pv (.int _ 0)) => match x, lo, hi with
    | .pv (.seq _ _), none, some (.pv (.int _ 0)) => .ret (.nil (sr P t))
    | .nil _, none, some (.pv (.int _ 0)) => .ret (.nil (sr P t))
    | .ms _ _ _ _, none, some (.pv (.int _ 0)) => .ret (.nil (sr P t))
    | _, _, _ => .fail
   | some _ => .fail
   | none => match x with
    | .pv (.seq n f) => (iJ hi n n).bind fun h => (iJ lo 0 h).bind fun l => .chk (Nat.beq (f l).length z) (.ret (.pv (.seq (h - l) (Ea l h f (sr P t)))))
    | .ms b ρ s n => (j9 b ρ).bind fun y => .chk (Nat.beq y.sz z) ((iJ hi n n).bind fun h => (iJ lo 0 h).bind fun l => .ret (.ms b ρ (gF s l) (h - l)))
    | _ => .fail
 | some .string => match mx with
  | some _ => .fail
  | none => match x with
   | .pv (.str s) => (iJ hi s.size s.size).bind fun h => (iJ lo 0 h).bind fun l => .ret (.pv (.str (s.extract l h)))
   | _ => .fail
 | _ => .fail
def AW (P : Program) (arr : TypeId) (x : AV) (lo hi mx : Option AV) : Ev AV := match P.underlying arr with
 | some (.array n e) => .opt (cG P e) fun z => match mx, x with
  | none, .ptr b ρ j 0 => (j9 b ρ).bind fun y => .chk (Nat.beq y.sz z) (.nd (Nat.ble (j + n) y.n) ((iJ hi n n).bind fun h => (iJ lo 0 h).bind fun l => .ret (.ms b ρ (gF j l) (h - l))))
  | _, _ => .fail
 | _ => .fail
def AX (P : Program) (t : TypeId) (x : AV) (lo hi mx : Option AV) : Ev AV := match P.underlying t with
 | some (.array _ _) => AW P t x lo hi mx
 | _ => AU P t x lo hi mx
def AV.num : AV → AV
 | .pv (.int k n) => .pv (.int k n)
 | .pv (.bool b) => .pv (.bool b)
 | _ => .pv .bad
def Gi : AV → Ev (Nat × (Nat → List AV))
 | .pv (.seq n f) => .ret (n, fun i => (f i).map fun p => (AV.pv p).num)
 | .nil f => .ret (0, fun i => (f i).map fun p => (AV.pv p).num)
 | .ms c σ lo n => (j9 c σ).bind fun x => .chk x.dat (.ret (n, fun i => (x.f (gF lo i)).map AV.num))
 | _ => .fail
def FH (f : Nat → List AV) (lo k : Nat) : Bool := (List.range k).all fun i => !iI (f (lo + i))
def cpy (f : Nat → List AV) (lo k : Nat) (g : Nat → List AV) : Nat → List AV := fun i => if lo ≤ i ∧ i < lo + k then g (i - lo) else f i
def Eb (q : Bool) (a b : Nat) : Nat := match q with
 | true => a
 | false => b
def Ec (P : Program) (t u : TypeId) (d x : AV) : Ev Eff := match P.underlying t, P.underlying u with
 | some (.slice e), some (.slice e') => .opt (cG P e) fun z => match d with
  | .ms b [] lo n => .rd b fun B => match B with
   | .arr s sz N f => .chk (Nat.beq sz z && Nat.beq e e') ((Gi x).bind fun r => .chk (Nat.beq (r.2 0).length z) (.sp (Nat.ble r.1 n) fun q =>
     .nd (FH f lo (Eb q r.1 n)) (.ret { val := .pv (.int .i64 (Eb q r.1 n)), hb := [(b, .arr s sz N (cpy f lo (Eb q r.1 n) r.2))] })))
   | _ => .fail
  | _ => .fail
 | _, _ => .fail
mutual
def qb : AV → PV
 | .pv p => p
 | .own _ n f => .seq n fun i => dn (f i)
 | _ => .bad
def dn : List AV → List PV
 | [] => []
 | v :: vs => qb v :: dn vs
end
def xm : AV → Ev (AV × List Nat)
 | .ms b ρ lo n => (j9 b ρ).bind fun x => .chk x.dat ((oQ lo n x.n x.f).bind fun g => .ret (.pv (.seq n fun i => dn (g i)), [b]))
 | .nil f => .ret (.pv (.seq 0 f), [])
 | v => .ret (v, [])
def uU : List AV → Ev (List AV × List Nat)
 | [] => .ret ([], [])
 | v :: vs => (xm v).bind fun x => (uU vs).bind fun y => .ret (x.1 :: y.1, x.2 ++ y.2)
def Ed : AV → Ev (AV × List Nat)
 | .agg cs => (uU cs).bind fun r => .ret (.agg r.1, r.2)
 | v => xm v
def AY : List AV → Ev (List AV × List Nat)
 | [] => .ret ([], [])
 | v :: vs => (Ed v).bind fun x => (AY vs).bind fun y => .ret (x.1 :: y.1, x.2 ++ y.2)
def Fk (v : AV) : Ev Eff := match v with
 | .ms b [] lo n => .rd b fun B => match B with
  | .arr s sz N f => .ret { val := .ms b [] lo n, hb := [(b, .arr (jL 1 s) sz N fun i => (dn (f i)).map AV.pv)], sc := [(b, true)] }
  | _ => .fail
 | _ => .fail
def yq : List (Nat × Operand) → List AV → List (Nat × AV)
 | p :: ps, v :: vs => (p.1, v) :: yq ps vs
 | _, _ => []
def ni (P : Program) (ρ : Operand → AV) (id : Nat) (t : TypeId) (len : Nat) (parts : List (Nat × Operand)) : Ev Eff := match P.underlying t with
 | some (.slice e) => match cG P e, iG P e with
  | some n, some z => .chk (Nat.ble 1 n && Nat.ble (len * n) 16777216 && Nat.beq z.length n) ((uU (parts.map fun x => retype P e (ρ x.2))).bind fun s =>
    .opt (ly (fun i => some (i * n, n)) ((List.replicate len (z.map AV.pv)).flatten) (yq parts s.1)) fun cs => .chk (cs.all AV.pure) (iH id 1
     (.ret { val := .ms id [] 0 len, hb := eX s.2 ++ [(id, .arr 0 n len (uT (z.map AV.pv) (ip n cs len)))], sc := s.2.map fun c => (c, false) })))
  | _, _ => .fail
 | _ => .fail
def vU (own : Bool) (b : Nat) : AV → Ev (Nat × (Nat → List AV) × List Nat)
 | .pv (.seq n f) => .ret (n, fun i => (f i).map .pv, [])
 | .pv (.seqk _ n f) => .ret (n, fun i => (f i).map .pv, [])
 | .nil f => .ret (0, fun i => (f i).map .pv, [])
 | .ms c σ lo n => .chk (!Nat.beq c b) ((j9 c σ).bind fun x => .chk x.dat (match own with
  | false => (oQ lo n x.n x.f).bind fun g => .ret (n, fun i => (g i).map AV.scal, [])
  | true => .chk (σ.isEmpty && Nat.beq lo 0) ((oQ lo n x.n x.f).bind fun g => .ret (n, g, [c]))))
 | _ => .fail
def app (n : Nat) (f : Nat → List AV) (m : Nat) (g : Nat → List AV) (z : List AV) : Nat → List AV := fun i => if i < n then f i else if i < n + m then g (i - n) else z
def iq : Stp → List Stp → List Stp × Stp
 | s, [] => ([], s)
 | s, t :: ρ => let r := iq t ρ; (s :: r.1, r.2)
def yr (b sz n : Nat) (f : Nat → List AV) (z : List AV) (r : Nat × (Nat → List AV) × List Nat) (hb : List (Nat × Blk)) (sc : List (Nat × Bool)) : Eff :=
 { val := .ms b [] 0 (n + r.1), hb := hb ++ ((b, .arr 0 sz (n + r.1) (app n f r.1 r.2.1 z)) :: eX r.2.2), sc := sc ++ ((b, false) :: r.2.2.map fun c => (c, false)) }
def yt (P : Program) (id : Nat) (t : TypeId) (s x : AV) : Ev Eff := match P.underlying t with
 | some (.slice e) => match P.info? e, iG P e with
  | some i, some z => .chk (Nat.ble 1 i.size && Nat.ble 1 i.bytes && Nat.beq z.length i.size) (match s with
   | .nil f => (vU (z.any B2) id x).bind fun r => .nd (Nat.beq (r.2.1 0).length i.size) (.nd (Nat.ble ((0 + r.1) * i.bytes) aF)
     (iH id 1 (.ret (yr id i.size 0 (fun _ => dv z) (dv z) r [(id, .arr 0 i.size 0 fun _ => dv z)] []))))
   | .ms b ρ lo n => .chk (Nat.beq lo 0) (.rd b fun B => match B with
    | .arr s sz N f => (vU (z.any B2) b x).bind fun r => .nd (Nat.beq (r.2.1 0).length i.size) (.nd (Nat.ble ((n + r.1) * i.bytes) aF) (match ρ with
     | [] => .chk (Nat.beq sz i.size) (.ret (yr b sz n f (f N) r [] []))
     | s0 :: ρ0 => .opt (Nd.go ⟨true, sz, N, f⟩ (s0 :: ρ0)) fun y => .chk (Nat.beq y.sz i.size) (iH id 1 (.ret (yr id y.sz n y.f (y.f y.n) r
       [(id, .arr 0 y.sz y.n y.f), (b, Blk.put (.arr (jL 1 s) sz N f) (iq s0 ρ0).1 (iq s0 ρ0).2.1 fun cs => cs.set (iq s0 ρ0).2.2 (.pv .bad))] [(b, true)])))))
    | _ => .fail)
   | _ => .fail)
  | _, _ => .fail
 | _ => .fail
mutual
def AV.refs : AV → List (Nat × Bool)
 | .ptr b ρ _ _ => [(b, !ρ.isEmpty)]
 | .aptr b ρ _ _ _ _ => [(b, !ρ.isEmpty)]
 | .ms b ρ _ _ => [(b, !ρ.isEmpty)]
 | .clo _ caps => AV.refsL caps
 | .agg cs => AV.refsL cs
 | .tup vs => AV.refsL vs
 | .ifc _ v => v.refs
 | _ => []
def AV.refsL : List AV → List (Nat × Bool)
 | [] => []
 | v :: vs => v.refs ++ AV.refsL vs
end
mutual
def AV.map (r : Nat → Bool → Option Nat) : AV → AV
 | .ptr b ρ i o => match r b (!ρ.isEmpty) with | some c => .ptr c ρ i o | none => .pv .bad
 | .aptr b ρ i o m k => match r b (!ρ.isEmpty) with | some c => .aptr c ρ i o m k | none => .pv .bad
 | .ms b ρ lo n => match r b (!ρ.isEmpty) with | some c => .ms c ρ lo n | none => .pv .bad
 | .clo f caps => .clo f (AV.mapL r caps)
 | .agg cs => .agg (AV.mapL r cs)
 | .tup vs => .tup (AV.mapL r vs)
 | .ifc t v => .ifc t (v.map r)
 | .dead => .dead
 | .pv p => .pv p
 | .nil f => .nil f
 | .own sz n f => .own sz n f
 | .pref cs off => .pref cs off
def AV.mapL (r : Nat → Bool → Option Nat) : List AV → List AV
 | [] => []
 | v :: vs => v.map r :: AV.mapL r vs
end
def Blk.map (r : Nat → Bool → Option Nat) : Blk → Blk
 | .box s cs => .box s (AV.mapL r cs)
 | .lit s sz rows => .lit s sz (rows.map (AV.mapL r))
 | b => b
def jz (r : Nat → Option Nat) : Nat → Bool → Option Nat := fun b _ => r b
def bC (sc : List (Nat × Bool)) : Nat → Bool → Option Nat := fun b d => bif sc.any fun s => Nat.beq s.1 b && (!s.2 || d) then none else some b
abbrev AV.ren (r : Nat → Option Nat) : AV → AV := AV.map (jz r)
abbrev AV.renL (r : Nat → Option Nat) : List AV → List AV := AV.mapL (jz r)
abbrev Blk.ren (r : Nat → Option Nat) : Blk → Blk := Blk.map (jz r)
abbrev AV.scrL (sc : List (Nat × Bool)) : List AV → List AV := AV.mapL (bC sc)
abbrev Blk.scr (sc : List (Nat × Bool)) : Blk → Blk := Blk.map (bC sc)
def Blk.refs : Blk → List (Nat × Bool)
 | .box _ cs => AV.refsL cs
 | .lit _ _ rows => rows.flatMap AV.refsL
 | _ => []
mutual
def erV : AV → AV
 | .pv (.seq _ _) => .pv .bad
 | .pv (.seqk _ _ _) => .pv .bad
 | .pref _ _ => .pv .bad
 | .clo f caps => .clo f (erL caps)
 | .agg cs => .agg (erL cs)
 | .tup vs => .tup (erL vs)
 | .ifc t v => .ifc t (erV v)
 | .own sz n f => .own sz n fun i => erL (f i)
 | .dead => .dead
 | .pv p => .pv p
 | .nil f => .nil f
 | .ptr b ρ i o => .ptr b ρ i o
 | .aptr b ρ i o m k => .aptr b ρ i o m k
 | .ms b ρ lo n => .ms b ρ lo n
def erL : List AV → List AV
 | [] => []
 | v :: vs => erV v :: erL vs
end
def erB : Blk → Blk
 | .box s cs => .box s (erL cs)
 | .arr s sz n f => .arr s sz n fun i => erL (f i)
 | .lit s sz rows => .lit s sz (rows.map erL)
 | .gone => .gone
def uV : Nat → List Nat → List Nat → Ev (List Nat)
 | 0, _, acc => .ret acc
 | _ + 1, [], acc => .ret acc
 | n + 1, b :: todo, acc => match acc.elem b with
  | true => uV n todo acc
  | false => .rd b fun B => match B with
   | .gone => .fail
   | .lit _ 0 _ => .fail
   | B => uV n (B.refs.map Prod.fst ++ todo) (acc ++ [b])
def dp (l : List Nat) (b : Nat) : Option Nat := match l with
 | [] => none
 | x :: xs => bif Nat.beq x b then some 0 else (dp xs b).map (· + 1)
def B9 : List Nat → Ev (List Blk)
 | [] => .ret []
 | b :: bs => .rd b fun B => (B9 bs).bind fun Bs => .ret (B :: Bs)
def yu : List Nat → List Blk → List (Nat × Blk)
 | b :: bs, x :: xs => (b, x) :: yu bs xs
 | _, _ => []
def Blk.start : Blk → Blk
 | .box _ cs => .box 2 cs
 | .arr _ sz n f => .arr 2 sz n f
 | .lit _ sz rows => .lit 2 sz rows
 | .gone => .gone
def mj : List Blk → List Blk → List Blk
 | A :: As, B :: Bs => B.also A.tag :: mj As Bs
 | [], B :: Bs => B.also 0 :: mj [] Bs
 | _, [] => []
def uW (P : Program) (f : FuncId) : Bool := match P.funcs[f]? with
 | some fn => match fn.body with
  | some _ => !(fn.name == "runtime.NumGoroutine")
  | none => false
 | none => false
def Ee : Nat := 4
def gM (b : Nat) : Nat → List Nat
 | 0 => []
 | n + 1 => b :: gM (b + 1) n
def tj (l : List Nat) (id n : Nat) : List Nat := l ++ gM id (n - l.length)
def AZ : List Nat → List Blk → List (Nat × Bool)
 | b :: bs, B :: Bs => (match B.tag with | 0 => [(b, false)] | 1 => [(b, true)] | _ => []) ++ AZ bs Bs
 | _, _ => []
def callE (P : Program) (id : Nat) (lend : Bool) (f : FuncId) (args : List AV) : Ev Eff :=
 .chk (uW P f) ((match lend with | true => AY args | false => .ret (args, [])).bind fun s =>
  (uV 64 ((AV.refsL s.1).map Prod.fst) []).bind fun l => .chk (n5 l && l.all fun b => !s.2.elem b) ((B9 l).bind fun Bs =>
   .cl f (AV.renL (dp l) s.1) (Bs.map fun B => (Blk.map (jz (dp l)) B).start) fun r H' =>
    .chk (Nat.ble l.length H'.length && Nat.ble H'.length (l.length + Ee)) (iH id (H'.length - l.length)
     (let bk := fun i => (tj l id H'.length)[i]?
      match s.2 with
      | [] => .ret { val := r.map (jz bk), hb := yu (tj l id H'.length) (mj Bs (H'.map (Blk.ren bk))), sc := AZ l H' }
      | _ => .ret { val := erV (r.map (jz bk)), hb := yu (tj l id H'.length) (mj Bs (H'.map fun B => erB (Blk.map (jz bk) B))), sc := AZ l H' }))))
def zT (P : Program) (t : TypeId) (name : String) : Option (FuncId × Bool) := match P.info? t with
 | some i => match i.methods.find? (·.name == name) with
  | some m => if m.path.size = 0 then m.func else none
  | none => none
 | none => none
def Ef (P : Program) (t : TypeId) (byPtr : Bool) (v : AV) : Ev AV := match byPtr, P.underlying t with
 | true, some (.pointer _) => .ret v
 | false, some (.pointer e) => ss P e v
 | false, some _ => .ret v
 | _, _ => .fail
def iQ (P : Program) (ρ : Operand → AV) : List Operand → List TypeId → List AV
 | x :: xs, t :: ts => retype P t (ρ x) :: iQ P ρ xs ts
 | x :: xs, [] => ρ x :: iQ P ρ xs []
 | [], _ => []
def qc (P : Program) (ρ : Operand → AV) (id : Nat) (b : Builtin) (args : List Operand) (ts : List TypeId) : Ev Eff :=
 match b with
 | .len => match args, ts with
  | [x], [t] => .opt (Gg P t (ρ x)) fun p => .ret { val := .pv p }
  | _, _ => .fail
 | .append => match args, ts with
  | [s, x], [t, u] => .chk (Nat.beq t u) (yt P id t (retype P t (ρ s)) (retype P u (ρ x)))
  | _, _ => .fail
 | .copy => match args, ts with
  | [d, x], [t, u] => Ec P t u (retype P t (ρ d)) (retype P u (ρ x))
  | _, _ => .fail
 | .max => match args with
  | [x, y] => match ρ x, ρ y with
   | .pv (.int k1 a), .pv (.int _ b) => .ret { val := .pv (.int k1 (if b > a then b else a)) }
   | _, _ => .fail
  | _ => .fail
 | .min => match args with
  | [x, y] => match ρ x, ρ y with
   | .pv (.int k1 a), .pv (.int _ b) => .ret { val := .pv (.int k1 (if b < a then b else a)) }
   | _, _ => .fail
  | _ => .fail
 | _ => .fail
def Gj (d : Option TypeDesc) (v : AV) (y : Operand) : Option Bool := match d with
 | some (.slice _) => match v, y with
  | .pv (.seqk b _ _), .const (.slice none 0 0) => some b
  | _, _ => none
 | some (.func _ _ _) => match v, y with
  | .pv (.fn _), .const .nilFunc => some false
  | .pv .nilFn, .const .nilFunc => some true
  | _, _ => none
 | some (.pointer _) => match v, y with
  | .pv .nilPtr, .const (.pointer none) => some true
  | .ptr _ _ _ _, .const (.pointer none) => some false
  | .pref _ _, .const (.pointer none) => some false
  | _, _ => none
 | _ => none
def Ca (cs : List AV) (f : Nat → List AV) (i n : Nat) : Nat → List AV := cpy f i n fun k => [(cs.getD k dead).num]
def FI (P : Program) (t : TypeId) (b s i N : Nat) (f : Nat → List AV) (v : AV) : Ev Eff := .opt (cG P t) fun n => .chk (Nat.beq v.cells.length n && Nat.ble 1 n && v.cells.all AV.pure) (.nd (Nat.ble (i + n) N) (.nd (FH f i n) (.ret { val := dead, hb := [(b, .arr s 1 N (Ca v.cells f i n))] })))
def A0 (P : Program) (p : Bool) (id : Nat) (t : TypeId) (a v : AV) : Ev Eff := match D6 P t, a with
 | true, .ptr b [] i 0 => .rd b fun B => match B with
  | .arr s 1 N f => FI P t b s i N f v
  | _ => yo P p id t a v
 | _, _ => yo P p id t a v
def Fm (P : Program) (e : TypeId) : Bool := match P.underlying e with
 | some (.int .u8) => true
 | _ => false
def opE (P : Program) (id : Nat) (lend : Bool) (o : Oper) (ρ : Operand → AV) : Ev Eff :=
 match o.op with
 | .move x => .ret { val := retype P o.type (ρ x) }
 | .assign x => match lend with
  | true => .ret { val := retype P o.type (ρ x) }
  | false => Fk (ρ x)
 | .pick c a b => match ρ c with
  | .pv (.bool t) => .sp t fun t => .ret { val := match t with | true => ρ a | false => ρ b }
  | _ => .fail
 | .alloc e => .opt (iG P e) fun z => D7 P id e (z.map zav)
 | .box e x => D7 P id e (retype P e (ρ x)).cells
 | .build t parts => .opt (rA P ρ t parts.toList) fun x => .ret { val := x }
 | .buildSlice t len parts => match lend with
  | true => gd P ρ id t len parts.toList
  | false => ni P ρ id t len parts.toList
 | .load t a => (ss P t (ρ a)).bind fun x => .ret { val := x }
 | .store t a x => A0 P (!lend) id t (ρ a) (retype P t (ρ x))
 | .nilCheck x => match ρ x with
  | .ptr b q i off => .ret { val := .ptr b q i off }
  | .pref cs off => .ret { val := .pref cs off }
  | _ => .fail
 | .binOp op t x y _ => match Gj (P.underlying t) (ρ x) y with
  | some b => match op with
   | .eql => .ret { val := .pv (.bool b) }
   | .neq => .ret { val := .pv (.bool !b) }
   | _ => .fail
  | none => (Ge P op t (ρ x) (ρ y)).bind fun v => .ret { val := v }
 | .unOp op _ x => .opt (unV op (ρ x)) fun r => .ret { val := r }
 | .convert src dst x => match P.underlying src, P.underlying dst, ρ x with
  | some _, some (.int kd), .pv (.int _ n) => .ret { val := .pv (.int kd (kd.wrap n)) }
  | some (.slice _), some (.slice e), .ms b q lo n => .chk (Nat.beq src dst && Fm P e && Nat.ble 1 n) (.ret { val := .ms b q lo n })
  | _, _, _ => .fail
 | .makeInterface t x => match P.underlying t with
  | some (.interface _) => .fail
  | some _ => .ret { val := .ifc t (ρ x) }
  | none => .fail
 | .makeFunc (.func f) first caps => match first.toList with
  | [] => .ret { val := .clo f (caps.toList.map ρ) }
  | _ => .fail
 | .makeSlice t l c => match P.underlying t, ρ l, ρ c with
  | some (.slice e), .pv (.int _ n), .pv (.int _ m) => match P.info? e, iG P e with
   | some i, some z => .chk (Nat.ble 1 i.size && Nat.beq z.length i.size && Nat.ble 1 i.bytes && z.all FD) (.nd (decide (0 ≤ n)) (.nd (decide (n = m)) (.nd (decide (n * i.bytes ≤ aF)) (iH id 1
     (.ret { val := .ms id [] 0 n.toNat, hb := [(id, .arr 0 i.size n.toNat fun _ => dv z)] })))))
   | _, _ => .fail
  | _, _, _ => .fail
 | .slice t x lo hi mx => (AX P t (ρ x) (lo.map ρ) (hi.map ρ) (mx.map ρ)).bind fun v => .ret { val := v }
 | .fieldAddr s x f => .opt (oR P s (ρ x) f) fun r => .ret { val := r }
 | .field s x f => .opt (AT P s (ρ x) f) fun r => .ret { val := r }
 | .indexAddr t x i => (Gh P t (ρ x) (ρ i)).bind fun v => .ret { val := v }
 | .index t x i => match P.underlying t, ρ x, ρ i with
  | some .string, .pv (.str s), .pv (.int _ i) => .nd (decide (0 ≤ i)) (.nd (decide (i < (s.size : Int))) (.ret { val := .pv (.int .u8 (s[i.toNat]!).toNat) }))
  | some (.array n e), .agg cs, .pv (.int _ i) => .opt (cG P e) fun s => .chk (Nat.beq s 1 && Nat.beq n cs.length && !be P e && cs.all AV.pure) (.nd (decide (0 ≤ i)) (.nd (decide (i < (n : Int))) (.ret { val := (cs.getD i.toNat dead).scal })))
  | _, _, _ => .fail
 | .typeAssert x _ asserted ok => match P.underlying asserted, ρ x with
  | some (.interface _), _ => .fail
  | some _, .ifc t v => .chk (Nat.beq t asserted) (.ret { val := match ok with | true => .tup [v, .pv (.bool true)] | false => v })
  | _, _ => .fail
 | .extract x i => match ρ x with
  | .tup vs => .opt vs[i]? fun v => match lend with
   | true => .ret { val := v }
   | false => Fk v
  | _ => .fail
 | .call c => match c.callee with
  | .builtin b => qc P ρ id b c.args.toList c.argTypes.toList
  | .value f => match ρ f with
   | .pv (.fn g) => callE P id lend g (iQ P ρ c.args.toList c.argTypes.toList)
   | .clo g caps => callE P id lend g (iQ P ρ c.args.toList c.argTypes.toList ++ caps)
   | _ => .fail
  | .invoke r name => match ρ r with
   | .ifc t v => .opt (zT P t name) fun m => (Ef P t m.2 v).bind fun x => callE P id lend m.1 (x :: iQ P ρ c.args.toList c.argTypes.toList)
   | _ => .fail
 | _ => .fail
def Cb (P : Program) (o : Oper) : Nat := match o.op with
 | .alloc e => 1 + slots P e
 | .box e _ => 1 + slots P e
 | .makeSlice _ _ _ => 1
 | .buildSlice _ _ _ => 1
 | .store t _ _ => slots P t
 | .call c => match c.callee with
  | .builtin .append => 1
  | .builtin _ => 0
  | _ => Ee
 | _ => 0
def Cc (P : Program) : List Oper → Nat → Nat
 | [], _ => 0
 | _, 0 => 0
 | o :: os, n + 1 => Cb P o + Cc P os n
abbrev Ans (R : Type) := List Say → Option (List Ob × R)
def Ans.fail {R : Type} : Ans R := fun _ => none
def mm {R : Type} (l : List Ob) : Option (List Ob × R) → Option (List Ob × R)
 | some (l', r) => some (l ++ l', r)
 | none => none
def Gk (o : Oper) : Bool := match o.op with
 | .move _ => false
 | .assign _ => false
 | .pick _ _ _ => false
 | .nilCheck _ => false
 | .fieldAddr _ _ _ => false
 | .extract _ _ => false
 | .makeInterface _ _ => false
 | .makeFunc _ _ _ => false
 | .indexAddr _ _ _ => false
 | .typeAssert _ _ _ _ => false
 | _ => true
def az (H : List Blk) : List (Nat × Blk) → List Blk
 | [] => H
 | (b, x) :: l => az (H.set b x) l
def Eff.on (e : Eff) (dst : Option Nat) (st : St) : St := match e.sc with
 | [] => sK { st with heap := az st.heap e.hb } dst e.val
 | sc => sK { tmps := AV.scrL sc st.tmps, heap := az (st.heap.map (Blk.scr sc)) e.hb } dst e.val
def yv : AV := .tup []
def rB (ops : List Oper) (j : Nat) : Option Nat := match ops[j]? with
 | some o => o.dst
 | none => none
def qd {R : Type} (st : St) (t : Nat) (k : Bool → St → Ans R) : Ans R := match AS st t with
 | .pv (.bool b) => fun s => match s with
  | .b d :: s => mm [.t b d] (k d { st with tmps := st.tmps.set t (.pv (.bool d)) } s)
  | .keep :: s => match b with
   | true => k true st s
   | false => k false st s
  | _ => none
 | _ => Ans.fail
def Eg : Bool → Bool → Bool
 | true, true => true
 | false, false => true
 | _, _ => false
def Eh {R : Type} (ops : List Oper) (o : Oper) (st : St) (k : Bool → St → Ans R) : Ans R := match o.guard with
 | none => k true st
 | some (j, want) => match rB ops j with
  | none => Ans.fail
  | some g => match AS st g with
   | .tup _ => k false st
   | _ => qd st g fun b st => k (Eg b want) st
def rC (b : Nat) : List Nat → Bool
 | [] => false
 | x :: l => Nat.beq x b || rC b l
def su (b : Nat) : List (Nat × Blk) → Blk
 | [] => .gone
 | x :: l => bif Nat.beq x.1 b then x.2 else su b l
def xn (bs : List Nat) : List (Nat × Blk) → List (Nat × Blk)
 | [] => []
 | x :: l => bif rC x.1 bs then xn bs l else x :: xn bs l
def lp (H : List Blk) (hb : List (Nat × Blk)) : List Nat → List Ob
 | [] => []
 | b :: bs => .e { val := dead, hb := [(b, su b hb)] } { val := dead, hb := [(b, aN H b)] } :: lp H hb bs
def unE (H : List Blk) (bs : List Nat) (l : List Ob) (r : List Nat) (e : Eff) (s : List Say) : Out Eff := match e.sc with
 | [] => match n5 (e.hb.map Prod.fst) with
  | true => some (l ++ lp H e.hb bs, r ++ bs, { e with hb := xn bs e.hb }, s)
  | false => none
 | _ => none
def Ei (P : Program) (id : Nat) (lend : Bool) (o : Oper) (st : St) (s : List Say) : Out Eff := match (opE P id lend o (evT st.tmps)).run (aN st.heap) s with
 | none => none
 | some (l, r, e, s) => match Gk o with
  | false => some (l, r, e, s)
  | true => match s with
   | .e y :: s => some (l ++ [.e e y], r, y, s)
   | .keep :: s => some (l, r, e, s)
   | .u bs :: s => unE st.heap bs l r e s
   | _ => none
structure Rec where
 e : Eff
 rd : List Nat
 wt : List Nat
 wb : List Nat
 od : List (Nat × Bool)
def Ej (l : List Nat) (d : Nat) : Bool := match l with
 | [] => false
 | x :: xs => Nat.beq x d || Ej xs d
def qe (sc : List (Nat × Bool)) (l : List (Nat × Bool)) : Bool := sc.all fun s => l.all fun x => !(Nat.beq s.1 x.1 && (!s.2 || x.2))
def CW (sc : List (Nat × Bool)) : Nat → List AV → List Nat
 | _, [] => []
 | i, v :: vs => match qe sc v.refs with
  | true => CW sc (i + 1) vs
  | false => i :: CW sc (i + 1) vs
def CX (sc : List (Nat × Bool)) : Nat → List Blk → List Nat
 | _, [] => []
 | i, v :: vs => match qe sc v.refs with
  | true => CX sc (i + 1) vs
  | false => i :: CX sc (i + 1) vs
def tm (dst : Option Nat) (st : St) : List (Nat × Bool) := match dst with
 | some d => (st.tmps.getD d dead).refs
 | none => []
def fE (dst : Option Nat) (st : St) (e : Eff) (rd : List Nat) : Rec := match e.sc with
 | [] => ⟨e, rd, dst.toList, e.hb.map Prod.fst, tm dst st ++ e.hb.flatMap fun x => (aN st.heap x.1).refs⟩
 | sc => ⟨e, rd, dst.toList ++ CW sc 0 st.tmps, e.hb.map Prod.fst ++ (sc.map Prod.fst ++ CX sc 0 st.heap), tm dst st ++ e.hb.flatMap fun x => (aN st.heap x.1).refs⟩
def G2 : Operand → Option Nat
 | .tmp t => some t
 | _ => none
def Ek (o : Oper) : List Nat := o.op.operands.toList.filterMap G2
def Gl (ops : List Oper) (o : Oper) : List Nat := match o.guard with
 | some (g, _) => match ops[g]? with
  | some q => match q.dst with
   | some d => [d]
   | none => []
  | none => []
 | none => []
def uX (ops : List Oper) (o : Oper) : List Nat := Ek o ++ Gl ops o
def A1 (P : Program) (L : Nat → Bool) (ops : List Oper) {R : Type} : Nat → Nat → List Oper → St → (List Rec → St → Ans R) → Ans R
 | _, _, [], st, k => k [] st
 | ix, id, o :: rest, st, k => Eh ops o st fun b st => match b with
  | true => fun s => match Ei P id (L ix) o st s with
   | none => none
   | some (l, r, e, s) => mm l (A1 P L ops (ix + 1) (id + Cb P o) rest (e.on o.dst st) (fun rs => k (fE o.dst st e r :: rs)) s)
  | false => A1 P L ops (ix + 1) (id + Cb P o) rest (sK st o.dst yv) fun rs => k (fE o.dst st { val := yv } [] :: rs)
def oS (l m : List Nat) : Bool := l.all fun x => !Ej m x
def tn (e : Eff) : List (Nat × Bool) := e.val.refs ++ e.hb.flatMap fun x => x.2.refs
def uY (ops : List Oper) (o q : Oper) (x y : Rec) : Bool :=
 oS x.wt (uX ops q) && oS y.wt (uX ops o) && oS x.wt y.wt && oS x.wb y.rd && oS y.wb x.rd && oS x.wb y.wb && qe x.e.sc (tn y.e) && qe y.e.sc (tn x.e) && qe y.e.sc x.od
def jA (o : Oper) : List Nat := (o.after.toList.filter fun e => match e.ground with | .textOnly _ => false | .gcOnly _ => false | _ => true).map (·.on)
def rD (ms : List Nat) : List Nat → Nat
 | [] => 0
 | e :: es => ((1 <<< e) ||| ms.getD e 0) ||| rD ms es
def xo : List Oper → List Nat → List Nat
 | [], ms => ms
 | o :: rest, ms => xo rest (ms ++ [rD ms (jA o)])
def qf (ops : List Oper) (i m : Nat) (q : Oper) (y : Rec) : Nat → List Oper → List Rec → Bool
 | j, p :: rest, x :: xs => (Nat.ble i j || m.testBit j || uY ops p q x y) && qf ops i m q y (j + 1) rest xs
 | _, _, _ => true
def uZ (ops : List Oper) (rs : List Rec) : Nat → List Oper → List Rec → List Nat → Bool
 | i, q :: rest, y :: ys, m :: ms => qf ops i m q y 0 ops rs && uZ ops rs (i + 1) rest ys ms
 | _, _, _, _ => true
def u4 : Nat → List Oper → Bool
 | _, [] => true
 | i, o :: rest => ((jA o).all fun e => Nat.ble (e + 1) i) && u4 (i + 1) rest
def u5 (ops : List Oper) (rs : List Rec) : Bool := u4 0 ops && uZ ops rs 0 ops rs (xo ops [])
def grow (n : Nat) (st : St) : St := { st with heap := st.heap ++ List.replicate n .gone }
def zU : List Blk → List Blk
 | [] => []
 | B :: Bs => match zU Bs with
  | [] => match B with
   | .gone => []
   | B => [B]
  | Bs => B :: Bs
def trim (m : Nat) (H : List Blk) : List Blk := H.take m ++ zU (H.drop m)
def aS : Code → Nat
 | .region id _ _ => id
 | .seq a _ => aS a
 | .cond _ a _ => aS a
 | .block _ c => aS c
 | .loop c => aS c
 | .scope c => aS c
 | _ => 0
def qg (keep : List Nat) : Nat → List AV → List AV
 | _, [] => []
 | i, v :: vs => (bif keep.elem i then v else dead) :: qg keep (i + 1) vs
def u6 : Nat → List Nat
 | 0 => []
 | n + 1 => u6 n ++ [n]
def qh (H : List Blk) : Nat → List Nat → List Nat → List Nat
 | 0, _, acc => acc
 | _ + 1, [], acc => acc
 | n + 1, b :: todo, acc => bif acc.elem b then qh H n todo acc else qh H n ((aN H b).refs.map Prod.fst ++ todo) (acc ++ [b])
def sv (h n : Nat) : List Nat → List Nat
 | [] => []
 | b :: bs => bif Nat.ble h b && Nat.ble (b + 1) n then b :: sv h n bs else sv h n bs
def Cd : List Blk → List Nat
 | [] => []
 | b :: bs => b.refs.map Prod.fst ++ Cd bs
def bv (m : Nat) (vs : List AV) (H : List Blk) : List Nat := u6 (min m H.length) ++ sv m H.length (qh H 64 ((AV.refsL vs).map Prod.fst ++ Cd (H.take m)) [])
def El (m : Nat) (st : St) : St :=
 let ids := bv m st.tmps st.heap
 { tmps := AV.renL (dp ids) st.tmps, heap := ids.map fun b => (aN st.heap b).map (jz (dp ids)) }
def xp (p : Nat → Bool) : List Nat → St → St
 | [], st => st
 | t :: ts, st => match st.tmps.getD t dead with
  | .nil f => match Nat.ble 1 (f 0).length with
   | true => xp p ts { tmps := st.tmps.set t (.ms st.heap.length [] 0 0), heap := st.heap ++ [.arr 0 (f 0).length 0 fun _ => jy (p t) (f 0)] }
   | false => xp p ts st
  | _ => xp p ts st
def GT (l : List Nat) (i : Nat) : Nat := match l.elem i with
 | true => 0
 | false => match l.elem (i + 1000) with
  | true => 1
  | false => 2
def untag (l : List Nat) : Nat → List Blk → List Blk
 | _, [] => []
 | i, B :: Bs => B.also (GT l i) :: untag l (i + 1) Bs
mutual
def AV.wins (b : Nat) : AV → List (Option Nat)
 | .ptr c _ _ _ => bif Nat.beq c b then [none] else []
 | .aptr c _ _ _ _ _ => bif Nat.beq c b then [none] else []
 | .ms c ρ lo n => bif Nat.beq c b then (match ρ, lo with | [], 0 => [some n] | _, _ => [none]) else []
 | .clo _ caps => AV.winsL b caps
 | .agg cs => AV.winsL b cs
 | .tup vs => AV.winsL b vs
 | .ifc _ v => v.wins b
 | _ => []
def AV.winsL (b : Nat) : List AV → List (Option Nat)
 | [] => []
 | v :: vs => v.wins b ++ AV.winsL b vs
end
def Blk.wins (b : Nat) : Blk → List (Option Nat)
 | .box _ cs => AV.winsL b cs
 | .lit _ _ rows => rows.flatMap (AV.winsL b)
 | _ => []
def tp (b : Nat) (vs : List AV) (H : List Blk) : List Blk := match AV.winsL b vs ++ H.flatMap (Blk.wins b) with
 | [some n] => match aN H b with
  | .arr _ sz N f => H.set b (.arr 0 sz n (dB 0 n N f))
  | _ => H
 | _ => H
def shrink : List Nat → List AV → List Blk → List Blk
 | [], _, H => H
 | b :: bs, vs, H => shrink bs vs (tp b vs H)
abbrev lz := FuncId → Nat → Nat → Option (List Nat)
def Ce (L : Nat → Nat → Option (List Nat)) (r : Nat) (st : St) : St := match L 2 r with
 | some l => xp (fun t => l.elem (1000 + t)) l st
 | none => st
def qi (L : Nat → Nat → Option (List Nat)) (q r m : Nat) (st : St) : St := match L q r with
 | some l => El m { st with tmps := qg l 0 st.tmps }
 | none => st
def FJ (L : Nat → Nat → Option (List Nat)) (r : Nat) (st : St) : St := match L 3 r with
 | some l => { st with heap := untag l 0 st.heap }
 | none => st
def Em (L : Nat → Nat → Option (List Nat)) (r : Nat) (st : St) : St := match L 9 r with
 | some l => { st with heap := shrink l st.tmps st.heap }
 | none => st
def rE (L : Nat → Nat → Option (List Nat)) (r m : Nat) (st : St) : St := FJ L r (Em L r (qi L 0 r m (Ce L r st)))
def GU (L : Nat → Nat → Option (List Nat)) (r : Nat) (ix : Nat) : Bool := match L 4 r with
 | some l => !l.elem ix
 | none => true
def jB (P : Program) (L : Nat → Nat → Option (List Nat)) (m : Nat) {R : Type} : Code → St → (Ex → St → Ans R) → Ans R
 | .skip, st, k => k .normal st
 | .region r ops draw, st, k => A1 P (GU L r) ops.toList 0 st.heap.length ops.toList (grow (Cc P ops.toList ops.toList.length) st) fun rs st => match !draw || u5 ops.toList rs with
  | true => k .normal { st with heap := trim m st.heap }
  | false => Ans.fail
 | .seq a b, st, k => jB P L m a st fun e st => match e with
  | .normal => jB P L m b st k
  | .exit i => k (.exit i) st
  | .ret => k .ret st
 | .cond c a b, st, k => match c with
  | .tmp t => qd st t fun x st => match x with
   | true => jB P L m a st k
   | false => jB P L m b st k
  | .const (.bool true) => jB P L m a st k
  | .const (.bool false) => jB P L m b st k
  | _ => Ans.fail
 | .block id c, st, k => match L 5 (aS c) with
  | some _ => fun s => match s with
   | .l e x' :: s => mm [.k (.block id c) m (qi L 5 (aS c) m st) e x'] (k e x' s)
   | _ => none
  | none => jB P L m c st fun e st => match e with
   | .exit i => bif Nat.beq i id then k .normal st else k (.exit i) st
   | .normal => k .normal st
   | .ret => k .ret st
 | .loop c, st, k => fun s => match s with
  | .l e x' :: s => mm [.l c m (rE L (aS c) m st) e x'] (k e x' s)
  | _ => none
 | .exit id, st, k => k (.exit id) st
 | .ret, st, k => k .ret st
 | _, _, _ => Ans.fail
def fin {R : Type} (r : R) : Ans R := fun s => match s with
 | [] => some ([], r)
 | _ => none
def CY (m : Nat) (H : List Blk) : AV → AV
 | .ms b ρ lo n => bif Nat.ble (b + 1) m || ρ.isEmpty then .ms b ρ lo n else match (aN H b).nd with
  | some x => match x.go ρ with
   | some y => bif y.dat then .pv (.seq n fun i => dn (dB lo n y.n y.f i)) else .pv .bad
   | none => .pv .bad
  | none => .pv .bad
 | v => v
def En (m : Nat) (H : List Blk) : AV → AV
 | .agg cs => .agg (cs.map (CY m H))
 | v => CY m H v
def A2 (P : Program) (st : St) : ResultVar → Option AV
 | .tmp t => some (AS st t)
 | .cell a t => match (ss P t (AS st a)).run (aN st.heap) [] with
  | some ([], _, v, _) => some v
  | _ => none
def u7 (P : Program) (st : St) : List ResultVar → Option (List AV)
 | [] => some []
 | r :: rs => match A2 P st r with
  | some v => (u7 P st rs).map (v :: ·)
  | none => none
def u9 : Bool → Bool → AV → List Blk → AV × List Blk
 | true, p, .nil f, H => match Nat.ble 1 (f 0).length with
  | true => (.ms H.length [] 0 0, H ++ [.arr 0 (f 0).length 0 fun _ => jy p (f 0)])
  | false => (.nil f, H)
 | _, _, v, H => (v, H)
def Eo (l : List Nat) : Nat → List AV → List Blk → List AV × List Blk
 | _, [], H => ([], H)
 | i, v :: vs, H => let q := u9 (l.elem i) (l.elem (1000 + i)) v H; let r := Eo l (i + 1) vs q.2; (q.1 :: r.1, r.2)
def vc (l : List Nat) (i : Nat) (v : AV) (H : List Blk) : AV × List Blk × Nat := match v with
 | .agg cs => let q := Eo l i cs H; (.agg q.1, q.2, cs.length)
 | v => let q := u9 (l.elem i) (l.elem (1000 + i)) v H; (q.1, q.2, 1)
def A3 (l : List Nat) : Nat → List AV → List Blk → List AV × List Blk
 | _, [], H => ([], H)
 | i, v :: vs, H => let q := vc l i v H; let r := A3 l (i + q.2.2) vs q.2.1; (q.1 :: r.1, r.2)
def zV (m : Nat) : AV → List Nat
 | .ms b ρ lo n => bif Nat.ble (b + 1) m || ρ.isEmpty then [] else [b]
 | _ => []
def Ep (m : Nat) : AV → List Nat
 | .agg cs => cs.flatMap (zV m)
 | v => zV m v
def Er : List AV → AV
 | [v] => v
 | vs => .tup vs
def Fn (L : Nat → Nat → Option (List Nat)) (vs : List AV) (H : List Blk) : List AV × List Blk := match L 7 0 with
 | some l => A3 l 0 vs H
 | none => (vs, H)
def GV (T C : List Nat) (q : List AV × List Blk) (us : List AV) (ids : List Nat) (m : Nat) : Option (AV × List Blk) := match (q.1.flatMap (Ep m)).all fun b => !ids.elem b with
 | true => some (Er (AV.renL (dp ids) us), untag T 0 (shrink C (AV.renL (dp ids) us) (ids.map fun b => (aN q.2 b).map (jz (dp ids)))))
 | false => none
def GW (T C : List Nat) (q : List AV × List Blk) (m : Nat) : Option (AV × List Blk) := GV T C q (q.1.map (En m q.2)) (bv m (q.1.map (En m q.2)) q.2) m
def Es (P : Program) (L : Nat → Nat → Option (List Nat)) (fn : Func) (m : Nat) (st : St) : Option (AV × List Blk) := match u7 P st fn.results.toList with
 | some vs => GW ((L 8 0).getD []) ((L 10 0).getD []) (Fn L vs st.heap) m
 | none => none
def FK (P : Program) (L : lz) (f : FuncId) (fn : Func) (args : List AV) (H : List Blk) : Ans (AV × List Blk) := match fn.body with
 | some c => jB P (L f) H.length c ⟨args ++ List.replicate (fn.ntmps - args.length) dead, H⟩ fun e st => match e with
  | .exit _ => Ans.fail
  | _ => match Es P (L f) fn H.length st with
   | some r => fin r
   | none => Ans.fail
 | none => Ans.fail
def Fo (P : Program) (L : lz) (f : FuncId) (args : List AV) (H : List Blk) : Ans (AV × List Blk) := match P.funcs[f]? with
 | some fn => FK P L f fn args H
 | none => Ans.fail
end Go.Bm
