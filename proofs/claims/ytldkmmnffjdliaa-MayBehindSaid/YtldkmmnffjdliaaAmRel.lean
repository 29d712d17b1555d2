/- The abstract machine: what its values and blocks stand for in a world of the model, and how that lasts. -/
import Derived.Test.YtldkmmnffjdliaaAmDefs
import Derived.Laws.AppendOwn
import Derived.Laws.Append
import Derived.Laws.Rows
import Derived.Laws.Tables
import Derived.Laws.CopyRow
import Derived.Laws.Cells
namespace Go.Am
set_option autoImplicit false
set_option linter.unusedVariables false

/-- Where a right to append stands. -/
inductive Pos where
  | tmp (t : Nat)
  | cell (b off : Nat)
  | acell (b i j : Nat)

/-- A world, and what of it the abstract machine speaks of: its blocks' numbers ('φ'), the cells that stay as they are ('R'), and whose the room behind a slice is ('own'). -/
structure Ctx where
  w : World
  φ : Nat → Nat
  sz : Nat → Nat
  len : Nat → Nat
  dom : Nat → Prop
  R : Nat → Nat → Prop
  own : Nat → Option Pos

inductive VP (R : Nat → Nat → Prop) (w : World) : PV → Value → Prop
  | bad (V : Value) : V.oneCell' = true → VP R w .bad V
  | bool (b : Bool) : VP R w (.bool b) (.bool b)
  | int (k : IntKind) (n : Int) : VP R w (.int k n) (.int k n)
  | str (s : ByteArray) : VP R w (.str s) (.string s)
  | seq (n : Nat) (f : Nat → List PV) (A : Option Addr) (cap sz : Nat) (C : Nat → Nat → Value) (hn : n ≤ cap) (hs : ∀ i : Nat, i < n → (f i).length = sz)
      (hA : 0 < n → ∃ g o, A = some ⟨g, o, none⟩ ∧ ∀ i j, i < n → j < sz → R g (o + (i * sz + j)) ∧ w.cell? ⟨g, o + (i * sz + j), none⟩ = some (C i j))
      (h : ∀ (i j : Nat) (p : PV), i < n → (f i)[j]? = some p → VP R w p (C i j)) : VP R w (.seq n f) (.slice A n cap)
  | fn (f : FuncId) : VP R w (.fn f) (.func (.func f) #[] #[])
  | nilFn : VP R w .nilFn .nilFunc
  | nilPtr : VP R w .nilPtr (.pointer none)
  | nilIf : VP R w .nilIf .nilIface

theorem VP.one {R : Nat → Nat → Prop} {w : World} {p : PV} {V : Value} (h : VP R w p V) : V.oneCell' = true := by
  cases h <;> first | assumption | rfl

theorem VP.stab {R R' : Nat → Nat → Prop} {w w' : World} (hR : ∀ g off, R g off → R' g off ∧ w'.cell? ⟨g, off, none⟩ = w.cell? ⟨g, off, none⟩) {p : PV} {V : Value} (h : VP R w p V) : VP R' w' p V := by
  induction h with
  | bad V h => exact .bad V h
  | bool b => exact .bool b
  | int k n => exact .int k n
  | str s => exact .str s
  | seq n f A cap sz C hn hs hA h ih =>
    refine .seq n f A cap sz C hn hs (fun h0 => ?_) ih
    obtain ⟨g, o, hA', hc⟩ := hA h0
    exact ⟨g, o, hA', fun i j hi hj => ⟨(hR _ _ (hc i j hi hj).1).1, (hR _ _ (hc i j hi hj).1).2.trans (hc i j hi hj).2⟩⟩
  | fn f => exact .fn f
  | nilFn => exact .nilFn
  | nilPtr => exact .nilPtr
  | nilIf => exact .nilIf

inductive VA (X : Ctx) : Option Pos → AV → Value → Prop
  | dead (π : Option Pos) (V : Value) : VA X π .dead V
  | pv (π : Option Pos) (p : PV) (V : Value) : VP X.R X.w p V → VA X π (.pv p) V
  | nil (π : Option Pos) (f : Nat → List PV) (A : Option Addr) : VA X π (.nil f) (.slice A 0 0)
  | seqR0 (π : Option Pos) (f : Nat → List PV) (A : Option Addr) : VA X π (.seqR 0 f) (.slice A 0 0)
  | seqR (π : Pos) (n : Nat) (f : Nat → List PV) (g cap : Nat) (e : TypeId) (cur : Array Value) (sz : Nat) (C : Nat → Nat → Value)
      (ho : X.own g = some π) (hb : X.w.heap[g]? = some (.cells cur e (0, 0))) (hsz : 0 < sz) (hcur : cur.size = cap * sz) (hn : n ≤ cap) (hm : cap ≤ maxLen)
      (hs : ∀ i, (f i).length = sz) (hR : ∀ off, X.R g off ↔ off < n * sz) (hC : ∀ i j : Nat, i < n → j < sz → cur[i * sz + j]? = some (C i j))
      (h : ∀ (i j : Nat) (p : PV), i < n → (f i)[j]? = some p → VP X.R X.w p (C i j)) : VA X (some π) (.seqR n f) (.slice (some ⟨g, 0, none⟩) n cap)
  | ptr (π : Option Pos) (b off : Nat) (hd : X.dom b) : VA X π (.ptr b off) (.pointer (some ⟨X.φ b, off, none⟩))
  | aptr (π : Option Pos) (b i off : Nat) (hd : X.dom b) (hi : i < X.len b) : VA X π (.aptr b i off) (.pointer (some ⟨X.φ b, i * X.sz b + off, none⟩))
  | pref (π : Option Pos) (cs : List PV) (off g o : Nat) (C : Nat → Value) (hc : ∀ j : Nat, j < cs.length → X.R g (o + j) ∧ X.w.cell? ⟨g, o + j, none⟩ = some (C j))
      (h : ∀ (j : Nat) (p : PV), cs[j]? = some p → VP X.R X.w p (C j)) : VA X π (.pref cs off) (.pointer (some ⟨g, o + off, none⟩))
  | ms (π : Option Pos) (b lo n cap : Nat) (hd : X.dom b) (hn : n ≤ cap) (hl : lo + n ≤ X.len b) : VA X π (.ms b lo n) (.slice (some ⟨X.φ b, lo * X.sz b, none⟩) n cap)
  | ms0 (π : Option Pos) (b lo : Nat) (A : Option Addr) (cap : Nat) (hd : X.dom b) : VA X π (.ms b lo 0) (.slice A 0 cap)
  | clo (π : Option Pos) (f : FuncId) (caps : List AV) (Caps : List Value) (hl : Caps.length = caps.length)
      (h : ∀ (j : Nat) (v : AV) (V : Value), caps[j]? = some v → Caps[j]? = some V → VA X none v V) : VA X π (.clo f caps) (.func (.func f) #[] Caps.toArray)
  | agg (π : Option Pos) (cs : List AV) (Cs : List Value) (hl : Cs.length = cs.length)
      (h : ∀ (j : Nat) (v : AV) (V : Value), cs[j]? = some v → Cs[j]? = some V → VA X none v V) : VA X π (.agg cs) (.agg Cs.toArray)
  | tup (π : Option Pos) (vs : List AV) (Vs : List Value) (hl : Vs.length = vs.length)
      (h : ∀ (j : Nat) (v : AV) (V : Value), vs[j]? = some v → Vs[j]? = some V → VA X none v V) : VA X π (.tup vs) (.tuple Vs.toArray)
  | ifc (π : Option Pos) (t : TypeId) (v : AV) (V : Value) (h : VA X none v V) : VA X π (.ifc t v) (.iface t V)

/-- What lasts from one world to another. -/
structure Stab (X X' : Ctx) : Prop where
  R : ∀ g off, X.R g off → X'.R g off ∧ X'.w.cell? ⟨g, off, none⟩ = X.w.cell? ⟨g, off, none⟩
  dom : ∀ b, X.dom b → X'.dom b ∧ X'.φ b = X.φ b ∧ X'.sz b = X.sz b ∧ X'.len b = X.len b

theorem Stab.refl (X : Ctx) : Stab X X := ⟨fun _ _ h => ⟨h, rfl⟩, fun _ h => ⟨h, rfl, rfl, rfl⟩⟩
theorem Stab.trans {X Y Z : Ctx} (h : Stab X Y) (k : Stab Y Z) : Stab X Z :=
  ⟨fun g off hr => ⟨(k.R g off (h.R g off hr).1).1, (k.R g off (h.R g off hr).1).2.trans (h.R g off hr).2⟩,
   fun b hb => let h1 := h.dom b hb; let k1 := k.dom b h1.1; ⟨k1.1, k1.2.1.trans h1.2.1, k1.2.2.1.trans h1.2.2.1, k1.2.2.2.trans h1.2.2.2⟩⟩

/-- A right at π lasts: its block is as it was. -/
def Lasts (X X' : Ctx) (π : Pos) : Prop := ∀ g, X.own g = some π → X'.own g = some π ∧ X'.w.heap[g]? = X.w.heap[g]? ∧ ∀ off, X'.R g off → X.R g off

theorem VA.stab {X X' : Ctx} (hS : Stab X X') {π : Option Pos} {v : AV} {V : Value} (h : VA X π v V) (hL : ∀ p, π = some p → Lasts X X' p) : VA X' π v V := by
  induction h with
  | dead π V => exact .dead π V
  | pv π p V h => exact .pv π p V (h.stab hS.R)
  | nil π f A => exact .nil π f A
  | seqR0 π f A => exact .seqR0 π f A
  | seqR π n f g cap e cur sz C ho hb hsz hcur hn hm hs hR hC h =>
    obtain ⟨h1, h2, h3⟩ := hL π rfl g ho
    exact .seqR π n f g cap e cur sz C h1 (h2.trans hb) hsz hcur hn hm hs (fun off => ⟨fun hr => (hR off).1 (h3 off hr), fun hr => (hS.R g off ((hR off).2 hr)).1⟩) hC
      (fun i j p hi hp => (h i j p hi hp).stab hS.R)
  | ptr π b off hd => rw [← (hS.dom b hd).2.1]; exact .ptr π b off (hS.dom b hd).1
  | aptr π b i off hd hi =>
    rw [← (hS.dom b hd).2.1, ← (hS.dom b hd).2.2.1]; exact .aptr π b i off (hS.dom b hd).1 (by rw [(hS.dom b hd).2.2.2]; exact hi)
  | pref π cs off g o C hc h =>
    exact .pref π cs off g o C (fun j hj => ⟨(hS.R _ _ (hc j hj).1).1, (hS.R _ _ (hc j hj).1).2.trans (hc j hj).2⟩) (fun j p hp => (h j p hp).stab hS.R)
  | ms π b lo n cap hd hn hl =>
    rw [← (hS.dom b hd).2.1, ← (hS.dom b hd).2.2.1]; exact .ms π b lo n cap (hS.dom b hd).1 hn (by rw [(hS.dom b hd).2.2.2]; exact hl)
  | ms0 π b lo A cap hd => exact .ms0 π b lo A cap (hS.dom b hd).1
  | clo π f caps Caps hl h ih => exact .clo π f caps Caps hl fun j v V h1 h2 => ih j v V h1 h2 (fun p hp => by cases hp)
  | agg π cs Cs hl h ih => exact .agg π cs Cs hl fun j v V h1 h2 => ih j v V h1 h2 (fun p hp => by cases hp)
  | tup π vs Vs hl h ih => exact .tup π vs Vs hl fun j v V h1 h2 => ih j v V h1 h2 (fun p hp => by cases hp)
  | ifc π t v V h ih => exact .ifc π t v V (ih (fun p hp => by cases hp))

/-- Without a right a value may stand anywhere. -/
theorem VA.any {X : Ctx} {v : AV} {V : Value} (h : VA X none v V) (π : Option Pos) : VA X π v V := by
  cases h <;> first
    | exact .dead _ _
    | exact .pv _ _ _ ‹_›
    | exact .nil _ _ _
    | exact .ptr _ _ _ ‹_›
    | exact .aptr _ _ _ _ ‹_› ‹_›
    | exact .pref _ _ _ _ _ _ ‹_› ‹_›
    | exact .ms _ _ _ _ _ ‹_› ‹_› ‹_›
    | exact .ms0 _ _ _ _ _ ‹_›
    | exact .clo _ _ _ _ ‹_› ‹_›
    | exact .agg _ _ _ ‹_› ‹_›
    | exact .tup _ _ _ ‹_› ‹_›
    | exact .ifc _ _ _ _ ‹_›
    | exact .seqR0 _ _ _
    | skip

theorem VP.seq0 {R : Nat → Nat → Prop} {w : World} (f : Nat → List PV) (A : Option Addr) (cap : Nat) : VP R w (.seq 0 f) (.slice A 0 cap) :=
  .seq 0 f A cap 0 (fun _ _ => undef) (Nat.zero_le _) (fun i hi => absurd hi (Nat.not_lt_zero i)) (fun h => absurd h (Nat.lt_irrefl 0)) (fun i j p hi => absurd hi (Nat.not_lt_zero i))

/-- The same cell of a block that is known. -/
theorem cellAt {w : World} {g : Nat} {cur : Array Value} {e : TypeId} {fr : Nat × Nat} (h : w.heap[g]? = some (.cells cur e fr)) (j : Nat) : w.cell? ⟨g, j, none⟩ = cur[j]? := cell_of_row w g j cur e fr h

theorem lt_mul_of {n sz i j : Nat} (hi : i < n) (hj : j < sz) : i * sz + j < n * sz := by
  have : (i + 1) * sz ≤ n * sz := Nat.mul_le_mul_right sz hi
  rw [Nat.add_mul, Nat.one_mul] at this
  omega

theorem VA.borrow {X : Ctx} {π : Option Pos} {v : AV} {V : Value} (h : VA X π v V) (π' : Option Pos) : VA X π' v.borrow V := by
  cases h <;> first
    | exact .pv _ _ _ (VP.seq0 _ _ 0)
    | (first
    | exact .dead _ _
    | exact .pv _ _ _ ‹_›
    | exact .nil _ _ _
    | exact .ptr _ _ _ ‹_›
    | exact .aptr _ _ _ _ ‹_› ‹_›
    | exact .pref _ _ _ _ _ _ ‹_› ‹_›
    | exact .ms _ _ _ _ _ ‹_› ‹_› ‹_›
    | exact .ms0 _ _ _ _ _ ‹_›
    | exact .clo _ _ _ _ ‹_› ‹_›
    | exact .agg _ _ _ ‹_› ‹_›
    | exact .tup _ _ _ ‹_› ‹_›
    | exact .ifc _ _ _ _ ‹_›
    | exact .seqR0 _ _ _)
    | skip
  rename_i p n f g cap e cur sz C ho hb hsz hcur hn hm hs hR hC h
  refine .pv π' _ _ (.seq n f _ cap sz C hn (fun i _ => hs i) (fun _ => ⟨g, 0, rfl, fun i j hi hj => ?_⟩) h)
  rw [Nat.zero_add]
  exact ⟨(hR _).2 (lt_mul_of hi hj), (cellAt hb _).trans (hC i j hi hj)⟩

theorem VA.norm {X : Ctx} {π : Option Pos} {v : AV} {V : Value} (h : VA X π v V) : VA X π v.norm V := by
  cases v <;> try exact h
  cases h
  exact .seqR0 _ _ _

theorem VA.retype {X : Ctx} {π : Option Pos} {v : AV} {V : Value} (P : Program) (t : TypeId) (h : VA X π v V) : VA X π (retype P t v) V := by
  cases v <;> try exact h
  cases h
  exact .nil _ _ _

theorem VA.one {X : Ctx} {π : Option Pos} {v : AV} {V : Value} (h : VA X π v V) (h1 : v.oneC = true) : V.oneCell' = true := by
  cases h <;> first | rfl | (exact VP.one ‹_›) | (cases h1)

theorem oneC_norm {v : AV} (h : v.oneC = true) : v.norm.oneC = true := by cases v <;> first | rfl | exact h
theorem flatB_flat {v : AV} : v.flat.flatB = true := by cases v <;> rfl
theorem flatB_borrow {v : AV} (h : v.flatB = true) : v.borrow.flatB = true := by cases v <;> first | rfl | cases h
theorem oneC_flat {v : AV} : v.flat.oneC = true := by cases v <;> rfl

theorem VA.flat {X : Ctx} {π : Option Pos} {v : AV} {V : Value} (h : VA X π v V) (h1 : v.oneC = true) : VA X π v.flat V := by
  have ho := h.one h1
  cases h <;> first
    | (exact .pv _ _ _ (.bad _ ho))
    | (exact .pv _ _ _ ‹_›)
    | (exact .seqR0 _ _ _)
    | (cases h1; done)
    | skip
  exact .seqR _ _ _ _ _ _ _ _ _ ‹_› ‹_› ‹_› ‹_› ‹_› ‹_› ‹_› ‹_› ‹_› ‹_›

/-- Told as a pure value. -/
theorem VA.pure {X : Ctx} {π : Option Pos} {v : AV} {V : Value} (h : VA X π v V) (h1 : v.oneC = true) : VP X.R X.w v.toPV V := by
  have ho := h.one h1
  have hb := h.borrow none
  cases h <;> first
    | (exact .bad _ ho)
    | assumption
    | (exact VP.seq0 _ _ _)
    | (cases h1; done)
    | skip
  cases hb
  assumption
theorem VA.pure' {X : Ctx} {π : Option Pos} {v : AV} {V : Value} (h : VA X π v V) (ho : V.oneCell' = true) : VP X.R X.w v.toPV V := by
  by_cases h1 : v.oneC = true
  · exact h.pure h1
  · cases v <;> first | exact .bad _ ho | exact absurd rfl h1

theorem VA.seqR_congr {X : Ctx} {π : Option Pos} {n : Nat} {f f' : Nat → List PV} {V : Value} (h : VA X π (.seqR n f) V) (he : ∀ i, i < n → f' i = f i) (hl : ∀ i, n ≤ i → ∃ j, f' i = f j) : VA X π (.seqR n f') V := by
  cases h with
  | seqR0 => exact .seqR0 _ _ _
  | seqR p n f g cap e cur sz C ho hb hsz hcur hn hm hs hR hC h =>
    refine .seqR p n f' g cap e cur sz C ho hb hsz hcur hn hm (fun i => ?_) hR hC (fun i j q hi hq => h i j q hi (by rw [← he i hi]; exact hq))
    by_cases hi : i < n
    · rw [he i hi]; exact hs i
    · obtain ⟨j, hj⟩ := hl i (by omega)
      rw [hj]; exact hs j
end Go.Am
