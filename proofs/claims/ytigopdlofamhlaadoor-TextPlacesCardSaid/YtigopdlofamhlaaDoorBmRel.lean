/- The abstract machine: what its values and blocks stand for in a world of the model, and how that lasts. -/
import Derived.Test.YtigopdlofamhlaaDoorBmDefs
import Derived.Laws.AppendOwn
import Derived.Laws.Append
import Derived.Laws.Rows
import Derived.Laws.Tables
import Derived.Laws.CopyRow
import Derived.Laws.Cells
namespace Go.Bm
set_option autoImplicit false
set_option linter.unusedVariables false
set_option linter.unusedSimpArgs false

/-- Where an array lies: its block, the cells of an element, how many elements, how many cells are its own. -/
structure Loc where
  g : Nat
  sz : Nat
  len : Nat
  room : Nat
/-- A world, and what of it the abstract machine speaks of: where its arrays lie, and the cells that stay as they are ('R'). -/
structure Ctx where
  w : World
  loc : Nat → List Stp → Option Loc
  R : Nat → Nat → Prop
abbrev Key := Nat × List Stp

inductive VP (R : Nat → Nat → Prop) (w : World) : PV → Value → Prop
  | bad (V : Value) : V.oneCell' = true → VP R w .bad V
  | bool (b : Bool) : VP R w (.bool b) (.bool b)
  | int (k : IntKind) (n : Int) : VP R w (.int k n) (.int k n)
  | str (s : ByteArray) : VP R w (.str s) (.string s)
  | seq (n : Nat) (f : Nat → List PV) (A : Option Addr) (cap sz : Nat) (C : Nat → Nat → Value) (hn : n ≤ cap) (hs : ∀ i : Nat, i < n → (f i).length = sz)
      (hA : 0 < n → ∃ g o, A = some ⟨g, o, none⟩ ∧ ∀ i j, i < n → j < sz → R g (o + (i * sz + j)) ∧ w.cell? ⟨g, o + (i * sz + j), none⟩ = some (C i j))
      (h : ∀ (i j : Nat) (p : PV), i < n → (f i)[j]? = some p → VP R w p (C i j)) : VP R w (.seq n f) (.slice A n cap)
  | seqk (b : Bool) (n : Nat) (f : Nat → List PV) (A : Option Addr) (cap : Nat) (h : VP R w (.seq n f) (.slice A n cap)) (hb : A.isNone = b) : VP R w (.seqk b n f) (.slice A n cap)
  | fn (f : FuncId) : VP R w (.fn f) (.func (.func f) #[] #[])
  | nilFn : VP R w .nilFn .nilFunc
  | nilPtr : VP R w .nilPtr (.pointer none)
  | nilIf : VP R w .nilIf .nilIface

theorem VP.one {R : Nat → Nat → Prop} {w : World} {p : PV} {V : Value} (h : VP R w p V) : V.oneCell' = true := by
  cases h <;> first | assumption | rfl

theorem VP.stab {R R' : Nat → Nat → Prop} {w w' : World} (hR : ∀ g off, R g off → R' g off ∧ w'.cell? ⟨g, off, none⟩ = w.cell? ⟨g, off, none⟩) {p : PV} {V : Value} (h : VP R w p V) : VP R' w' p V := by
  induction h with
  | bad V h => exact .bad V h
  | bool b => exact .bool b
  | int k n => exact .int k n
  | str s => exact .str s
  | seq n f A cap sz C hn hs hA h ih =>
    refine .seq n f A cap sz C hn hs (fun h0 => ?_) ih
    obtain ⟨g, o, hA', hc⟩ := hA h0
    exact ⟨g, o, hA', fun i j hi hj => ⟨(hR _ _ (hc i j hi hj).1).1, (hR _ _ (hc i j hi hj).1).2.trans (hc i j hi hj).2⟩⟩
  | seqk b n f A cap h hb ih => exact .seqk b n f A cap ih hb
  | fn f => exact .fn f
  | nilFn => exact .nilFn
  | nilPtr => exact .nilPtr
  | nilIf => exact .nilIf
theorem VP.seq0 {R : Nat → Nat → Prop} {w : World} (f : Nat → List PV) (A : Option Addr) (cap : Nat) : VP R w (.seq 0 f) (.slice A 0 cap) :=
  .seq 0 f A cap 0 (fun _ _ => undef) (Nat.zero_le _) (fun i hi => absurd hi (Nat.not_lt_zero i)) (fun h => absurd h (Nat.lt_irrefl 0)) (fun i j p hi => absurd hi (Nat.not_lt_zero i))

/-- The package variables that stay as they are. -/
def GloOk (X : Ctx) : Prop := ∀ (g : Nat) (cs : List PV), globT g = some cs → ∃ C : Nat → Value, (∀ j : Nat, j < cs.length → X.R g j ∧ X.w.cell? ⟨g, j, none⟩ = some (C j)) ∧ ∀ (j : Nat) (p : PV), cs[j]? = some p → VP X.R X.w p (C j)
theorem GloOk.stab {X Y : Ctx} (hR : ∀ g off, X.R g off → Y.R g off ∧ Y.w.cell? ⟨g, off, none⟩ = X.w.cell? ⟨g, off, none⟩) (h : GloOk X) : GloOk Y := fun g cs hg => by
  obtain ⟨C, h1, h2⟩ := h g cs hg
  exact ⟨C, fun j hj => ⟨(hR _ _ (h1 j hj).1).1, (hR _ _ (h1 j hj).1).2.trans (h1 j hj).2⟩, fun j p hp => (h2 j p hp).stab hR⟩

inductive VA (X : Ctx) : Option Key → AV → Value → Prop
  | dead (κ : Option Key) (V : Value) : VA X κ .dead V
  | pv (κ : Option Key) (p : PV) (V : Value) : VP X.R X.w p V → VA X κ (.pv p) V
  | nil (κ : Option Key) (f : Nat → List PV) (A : Option Addr) : VA X κ (.nil f) (.slice A 0 0)
  | own (b : Nat) (ρ : List Stp) (sz n : Nat) (f : Nat → List AV) (A : Option Addr) (cap : Nat) (L : Loc) (h : X.loc b ρ = some L) (hs : L.sz = sz) (hl : L.len = n) (hn : n ≤ cap)
      (hA : 0 < cap → A = some ⟨L.g, 0, none⟩ ∧ cap * L.sz ≤ L.room) : VA X (some (b, ρ)) (.own sz n f) (.slice A n cap)
  | ptr (κ : Option Key) (b : Nat) (ρ : List Stp) (i o : Nat) (L : Loc) (h : X.loc b ρ = some L) (hi : i < L.len) : VA X κ (.ptr b ρ i o) (.pointer (some ⟨L.g, i * L.sz + o, none⟩))
  | aptr (κ : Option Key) (b : Nat) (ρ : List Stp) (i o m k : Nat) (L : Loc) (h : X.loc b ρ = some L) (hi : i < L.len) (hk : k < m) : VA X κ (.aptr b ρ i o m k) (.pointer (some ⟨L.g, i * L.sz + (o + k), none⟩))
  | pref (κ : Option Key) (cs : List PV) (off g o : Nat) (C : Nat → Value) (hc : ∀ j : Nat, j < cs.length → X.R g (o + j) ∧ X.w.cell? ⟨g, o + j, none⟩ = some (C j))
      (h : ∀ (j : Nat) (p : PV), cs[j]? = some p → VP X.R X.w p (C j)) : VA X κ (.pref cs off) (.pointer (some ⟨g, o + off, none⟩))
  | ms (κ : Option Key) (b : Nat) (ρ : List Stp) (lo n : Nat) (A : Option Addr) (cap : Nat) (L : Loc) (h : X.loc b ρ = some L) (hn : n ≤ cap) (hl : lo + n ≤ L.len)
      (hA : 0 < cap → A = some ⟨L.g, lo * L.sz, none⟩ ∧ (lo + cap) * L.sz ≤ L.room) : VA X κ (.ms b ρ lo n) (.slice A n cap)
  | clo (κ : Option Key) (f : FuncId) (k : Nat) (caps : List AV) (Caps : List Value) (hl : Caps.length = caps.length)
      (h : ∀ (j : Nat) (v : AV) (V : Value), caps[j]? = some v → Caps[j]? = some V → VA X none v V) : VA X κ (.clo f k caps) (.func (.func f) (Caps.take k).toArray (Caps.drop k).toArray)
  | agg (κ : Option Key) (cs : List AV) (Cs : List Value) (hl : Cs.length = cs.length)
      (h : ∀ (j : Nat) (v : AV) (V : Value), cs[j]? = some v → Cs[j]? = some V → VA X none v V) : VA X κ (.agg cs) (.agg Cs.toArray)
  | tup (κ : Option Key) (vs : List AV) (Vs : List Value) (hl : Vs.length = vs.length)
      (h : ∀ (j : Nat) (v : AV) (V : Value), vs[j]? = some v → Vs[j]? = some V → VA X none v V) : VA X κ (.tup vs) (.tuple Vs.toArray)
  | ifc (κ : Option Key) (t : TypeId) (v : AV) (V : Value) (h : VA X none v V) : VA X κ (.ifc t v) (.iface t V)

theorem mapL_get (r : Nat → Bool → Option Nat) : ∀ (l : List AV) (j : Nat), (AV.mapL r l)[j]? = (l[j]?).map (AV.map r)
  | [], j => by simp [AV.mapL]
  | v :: l, 0 => by simp [AV.mapL]
  | v :: l, j + 1 => by simp [AV.mapL, mapL_get r l j]
theorem mapL_len (r : Nat → Bool → Option Nat) : ∀ (l : List AV), (AV.mapL r l).length = l.length
  | [] => rfl
  | v :: l => by simp [AV.mapL, mapL_len r l]
theorem mapL_inv {r : Nat → Bool → Option Nat} {l : List AV} {j : Nat} {u : AV} (h : (AV.mapL r l)[j]? = some u) : ∃ v, l[j]? = some v ∧ u = v.map r := by
  rw [mapL_get] at h
  cases hv : l[j]? with
  | none => rw [hv] at h; cases h
  | some v => rw [hv] at h; cases h; exact ⟨v, rfl, rfl⟩

/-- What of one world is still so in another, where blocks have other numbers. -/
structure Ren (X Y : Ctx) (r : Nat → Bool → Option Nat) : Prop where
  R : ∀ g off, X.R g off → Y.R g off ∧ Y.w.cell? ⟨g, off, none⟩ = X.w.cell? ⟨g, off, none⟩
  loc : ∀ b ρ c L, r b (!ρ.isEmpty) = some c → X.loc b ρ = some L → Y.loc c ρ = some L
/-- What lasts from one world to another. -/
structure Stab (X Y : Ctx) : Prop where
  R : ∀ g off, X.R g off → Y.R g off ∧ Y.w.cell? ⟨g, off, none⟩ = X.w.cell? ⟨g, off, none⟩
  loc : ∀ b ρ L, X.loc b ρ = some L → Y.loc b ρ = some L
theorem Stab.refl (X : Ctx) : Stab X X := ⟨fun _ _ h => ⟨h, rfl⟩, fun _ _ _ h => h⟩
theorem Stab.trans {X Y Z : Ctx} (h : Stab X Y) (k : Stab Y Z) : Stab X Z :=
  ⟨fun g off hr => ⟨(k.R g off (h.R g off hr).1).1, (k.R g off (h.R g off hr).1).2.trans (h.R g off hr).2⟩, fun b ρ L hb => k.loc b ρ L (h.loc b ρ L hb)⟩

theorem VA.stab {X Y : Ctx} (hS : Stab X Y) {κ : Option Key} {v : AV} {V : Value} (h : VA X κ v V) : VA Y κ v V := by
  induction h with
  | dead κ V => exact .dead κ V
  | pv κ p V h => exact .pv κ p V (h.stab hS.R)
  | nil κ f A => exact .nil κ f A
  | own b ρ sz n f A cap L h hs hl hn hA => exact .own b ρ sz n f A cap L (hS.loc _ _ _ h) hs hl hn hA
  | ptr κ b ρ i o L h hi => exact .ptr κ b ρ i o L (hS.loc _ _ _ h) hi
  | aptr κ b ρ i o m k L h hi hk => exact .aptr κ b ρ i o m k L (hS.loc _ _ _ h) hi hk
  | pref κ cs off g o C hc h => exact .pref κ cs off g o C (fun j hj => ⟨(hS.R _ _ (hc j hj).1).1, (hS.R _ _ (hc j hj).1).2.trans (hc j hj).2⟩) (fun j p hp => (h j p hp).stab hS.R)
  | ms κ b ρ lo n A cap L h hn hl hA => exact .ms κ b ρ lo n A cap L (hS.loc _ _ _ h) hn hl hA
  | clo κ f k caps Caps hl h ih => exact .clo κ f k caps Caps hl ih
  | agg κ cs Cs hl h ih => exact .agg κ cs Cs hl ih
  | tup κ vs Vs hl h ih => exact .tup κ vs Vs hl ih
  | ifc κ t v V h ih => exact .ifc κ t v V ih

theorem VA.map {X Y : Ctx} {r : Nat → Bool → Option Nat} (hS : Ren X Y r) {κ : Option Key} {v : AV} {V : Value} (h : VA X κ v V) : ∀ κ', κ = none → VA Y κ' (v.map r) V := by
  induction h with
  | dead κ V => exact fun κ' _ => .dead κ' V
  | pv κ p V h => exact fun κ' _ => .pv κ' p V (h.stab hS.R)
  | nil κ f A => exact fun κ' _ => .nil κ' f A
  | own => exact fun κ' e => by cases e
  | ptr κ b ρ i o L h hi =>
    intro κ' _
    simp only [AV.map]
    split
    · exact .ptr κ' _ ρ i o L (hS.loc _ _ _ _ ‹_› h) hi
    · exact .pv _ _ _ (.bad _ rfl)
  | aptr κ b ρ i o m k L h hi hk =>
    intro κ' _
    simp only [AV.map]
    split
    · exact .aptr κ' _ ρ i o m k L (hS.loc _ _ _ _ ‹_› h) hi hk
    · exact .pv _ _ _ (.bad _ rfl)
  | pref κ cs off g o C hc h => exact fun κ' _ => .pref κ' cs off g o C (fun j hj => ⟨(hS.R _ _ (hc j hj).1).1, (hS.R _ _ (hc j hj).1).2.trans (hc j hj).2⟩) (fun j p hp => (h j p hp).stab hS.R)
  | ms κ b ρ lo n A cap L h hn hl hA =>
    intro κ' _
    simp only [AV.map]
    split
    · exact .ms κ' _ ρ lo n A cap L (hS.loc _ _ _ _ ‹_› h) hn hl hA
    · exact .pv _ _ _ (.bad _ rfl)
  | clo κ f k caps Caps hl h ih =>
    exact fun κ' _ => .clo κ' f k _ Caps (by rw [mapL_len]; exact hl) fun j v V hv hV => by
      obtain ⟨u, hu, rfl⟩ := mapL_inv hv
      exact ih j u V hu hV none rfl
  | agg κ cs Cs hl h ih =>
    exact fun κ' _ => .agg κ' _ Cs (by rw [mapL_len]; exact hl) fun j v V hv hV => by
      obtain ⟨u, hu, rfl⟩ := mapL_inv hv
      exact ih j u V hu hV none rfl
  | tup κ vs Vs hl h ih =>
    exact fun κ' _ => .tup κ' _ Vs (by rw [mapL_len]; exact hl) fun j v V hv hV => by
      obtain ⟨u, hu, rfl⟩ := mapL_inv hv
      exact ih j u V hu hV none rfl
  | ifc κ t v V h ih => exact fun κ' _ => .ifc κ' t _ V (ih none rfl)

/-- What is no cell that owns may stand anywhere. -/
theorem VA.any {X : Ctx} {v : AV} {V : Value} {κ : Option Key} (h : VA X κ v V) (hv : isOwn v = false) (κ' : Option Key) : VA X κ' v V := by
  cases h <;> first
    | exact .dead _ _
    | exact .pv _ _ _ ‹_›
    | exact .nil _ _ _
    | exact .ptr _ _ _ _ _ _ ‹_› ‹_›
    | exact .aptr _ _ _ _ _ _ _ _ ‹_› ‹_› ‹_›
    | exact .pref _ _ _ _ _ _ ‹_› ‹_›
    | exact .ms _ _ _ _ _ _ _ _ ‹_› ‹_› ‹_› ‹_›
    | exact .clo _ _ _ _ _ ‹_› ‹_›
    | exact .agg _ _ _ ‹_› ‹_›
    | exact .tup _ _ _ ‹_› ‹_›
    | exact .ifc _ _ _ _ ‹_›
    | cases hv
theorem VA.of {X : Ctx} {v : AV} {V : Value} (h : VA X none v V) (κ' : Option Key) : VA X κ' v V := h.any (by cases h <;> rfl) κ'
theorem VA.one {X : Ctx} {κ : Option Key} {v : AV} {V : Value} (h : VA X κ v V) (h1 : v.oneC = true) : V.oneCell' = true := by
  cases h <;> first | rfl | (exact VP.one ‹_›) | (cases h1)
theorem VA.retype {X : Ctx} {κ : Option Key} {v : AV} {V : Value} (P : Program) (t : TypeId) (h : VA X κ v V) : VA X κ (retype P t v) V := by
  cases v <;> try exact h
  cases h
  exact .nil _ _ _

/-- The same cell of a block that is known. -/
theorem cellAt {w : World} {g : Nat} {cur : Array Value} {e : TypeId} {fr : Nat × Nat} (h : w.heap[g]? = some (.cells cur e fr)) (j : Nat) : w.cell? ⟨g, j, none⟩ = cur[j]? := cell_of_row w g j cur e fr h
theorem lt_mul_of {n sz i j : Nat} (hi : i < n) (hj : j < sz) : i * sz + j < n * sz := by
  have : (i + 1) * sz ≤ n * sz := Nat.mul_le_mul_right sz hi
  rw [Nat.add_mul, Nat.one_mul] at this
  omega

/-! ### arrays below arrays -/
def Nd.sub : Nd → List Stp → Option Nd
  | x, [] => some x
  | x, (i, o) :: ρ => if x.dat = true ∧ i < x.n then match (x.f i)[o]? with
    | some (.own sz n f) => Nd.sub ⟨true, sz, n, f⟩ ρ
    | _ => none
    else none
def Blk.sub (B : Blk) (ρ : List Stp) : Option Nd := B.nd.bind fun x => x.sub ρ
theorem Nd.go_of_sub : ∀ {ρ : List Stp} {x y : Nd}, x.sub ρ = some y → x.go ρ = some y
  | [], x, y, h => h
  | (i, o) :: ρ, x, y, h => by
    unfold Nd.sub at h
    unfold Nd.go
    split at h
    · split at h
      · rename_i sz n f hc; rw [hc]; exact Nd.go_of_sub h
      · cases h
    · cases h
theorem Nd.sub_append : ∀ (ρ τ : List Stp) (x : Nd), x.sub (ρ ++ τ) = (x.sub ρ).bind fun y => y.sub τ
  | [], τ, x => rfl
  | (i, o) :: ρ, τ, x => by
    simp only [List.cons_append, Nd.sub]
    split
    · split
      · exact Nd.sub_append ρ τ _
      · rfl
    · rfl
theorem Nd.sub_dat {ρ : List Stp} (h0 : ρ ≠ []) : ∀ {x y : Nd}, x.sub ρ = some y → y.dat = true := by
  induction ρ with
  | nil => exact absurd rfl h0
  | cons s ρ ih =>
    intro x y h
    obtain ⟨i, o⟩ := s
    unfold Nd.sub at h
    split at h
    · split at h
      · cases ρ with
        | nil => cases h; rfl
        | cons s ρ => exact ih (by simp) h
      · cases h
    · cases h

/-- A cell's head: without what it owns. -/
def hdr : AV → AV
  | .own sz n f => .own sz n fun _ => []
  | v => v
theorem VA.hdr {X : Ctx} {κ : Option Key} {v v' : AV} {V : Value} (h : VA X κ v V) (e : hdr v = hdr v') : VA X κ v' V := by
  cases v <;> cases v' <;> simp only [Bm.hdr] at e <;> first
    | (cases e; exact h)
    | (cases e; done)
    | skip
  cases h
  injection e with e1 e2 e3
  subst e1 e2
  exact .own _ _ _ _ _ _ _ _ ‹_› ‹_› ‹_› ‹_› ‹_›

/-- What may stand in a row: data. -/
def Dat : AV → Prop
  | .pv _ => True
  | .own _ _ _ => True
  | _ => False
theorem Dat.hdr {v v' : AV} (h : Dat v) (e : hdr v = hdr v') : Dat v' := by
  cases v <;> cases v' <;> first | exact h | trivial | (simp only [Bm.hdr] at e; cases e; done) | exact h.elim

def keyOf (x : Nd) (b : Nat) (ρ : List Stp) (i j : Nat) : Option Key := match x.dat with
  | true => some (b, ρ ++ [(i, j)])
  | false => none
/-- Cells of a row of variables, none of which is frozen. -/
def RowAt (w : World) (g : Nat) (cur : Array Value) (e : TypeId) : Prop := ∃ fr : Nat × Nat, w.heap[g]? = some (.cells cur e fr) ∧ (fr.1 = fr.2 ∨ cur.size ≤ fr.1)
theorem RowAt.of {w : World} {g : Nat} {cur : Array Value} {e : TypeId} (h : w.heap[g]? = some (.cells cur e (0, 0))) : RowAt w g cur e := ⟨_, h, .inl rfl⟩
theorem RowAt.cell {w : World} {g : Nat} {cur : Array Value} {e : TypeId} (h : RowAt w g cur e) (j : Nat) : w.cell? ⟨g, j, none⟩ = cur[j]? := by obtain ⟨fr, h, _⟩ := h; exact cellAt h j
theorem RowAt.to {w w' : World} {g : Nat} {cur : Array Value} {e : TypeId} (h : RowAt w g cur e) (k : w'.heap[g]? = w.heap[g]?) : RowAt w' g cur e := by obtain ⟨fr, h, q⟩ := h; exact ⟨fr, k.trans h, q⟩
theorem RowAt.lt {w : World} {g : Nat} {cur : Array Value} {e : TypeId} (h : RowAt w g cur e) : g < w.heap.size := by obtain ⟨fr, h, _⟩ := h; exact (Array.getElem?_eq_some_iff.1 h).1
theorem RowAt.set {w : World} {g : Nat} {cur cs : Array Value} {e : TypeId} (h : RowAt w g cur e) (hs : cs.size = cur.size) : RowAt (w.setRow g cs) g cs e := by
  obtain ⟨fr, h, q⟩ := h; exact ⟨fr, setRow_heap w g cur cs e fr h, q.imp id fun q => hs ▸ q⟩
theorem RowAt.eq {w : World} {g : Nat} {cur cur' : Array Value} {e e' : TypeId} (h : RowAt w g cur e) (k : RowAt w g cur' e') : cur = cur' ∧ e = e' := by
  obtain ⟨fr, h, _⟩ := h; obtain ⟨fr', k, _⟩ := k
  rw [h] at k; cases k; exact ⟨rfl, rfl⟩
/-- What an array stands for. -/
structure NdRel (X : Ctx) (b : Nat) (ρ : List Stp) (L : Loc) (x : Nd) : Prop where
  sz : L.sz = x.sz
  len : L.len = x.n
  pos : 0 < x.sz
  fit : x.n * x.sz ≤ L.room
  row : ∀ i, i < x.n → (x.f i).length = x.sz
  mem : 0 < L.room → ∃ (cur : Array Value) (e : TypeId), RowAt X.w L.g cur e ∧ L.room ≤ cur.size ∧
    ∀ (i j : Nat) (v : AV) (V : Value), i < x.n → (x.f i)[j]? = some v → cur[i * x.sz + j]? = some V → VA X (keyOf x b ρ i j) v V ∧ V.oneCell' = true ∧ (x.dat = true → Dat v)
/-- What a block stands for. -/
def RootOk (X : Ctx) (b : Nat) (B : Blk) : Prop := ∀ ρ : List Stp, match B.sub ρ with
  | some x => ∃ L, X.loc b ρ = some L ∧ NdRel X b ρ L x
  | none => X.loc b ρ = none
structure HeapOk (X : Ctx) (H : List Blk) : Prop where
  blk : ∀ (b : Nat) (B : Blk), H[b]? = some B → RootOk X b B
  lt : ∀ b ρ L, X.loc b ρ = some L → b < H.length
  inj : ∀ b ρ c τ L M, X.loc b ρ = some L → X.loc c τ = some M → 0 < L.room → 0 < M.room → L.g = M.g → b = c ∧ ρ = τ
  free : ∀ b ρ L, X.loc b ρ = some L → 0 < L.room → ∀ off, ¬ X.R L.g off

theorem RootOk.some {X : Ctx} {b : Nat} {B : Blk} (h : RootOk X b B) {ρ : List Stp} {x : Nd} (hx : B.sub ρ = some x) : ∃ L, X.loc b ρ = some L ∧ NdRel X b ρ L x := by
  have := h ρ; rw [hx] at this; exact this
theorem RootOk.none {X : Ctx} {b : Nat} {B : Blk} (h : RootOk X b B) {ρ : List Stp} (hx : B.sub ρ = none) : X.loc b ρ = none := by
  have := h ρ; rw [hx] at this; exact this
theorem RootOk.of_loc {X : Ctx} {b : Nat} {B : Blk} (h : RootOk X b B) {ρ : List Stp} {L : Loc} (hL : X.loc b ρ = Option.some L) : ∃ x, B.sub ρ = Option.some x ∧ NdRel X b ρ L x := by
  have := h ρ
  cases hx : B.sub ρ with
  | none => rw [hx] at this; rw [this] at hL; cases hL
  | some x =>
    rw [hx] at this
    obtain ⟨M, h1, h2⟩ := this
    rw [h1] at hL; cases hL
    exact ⟨x, rfl, h2⟩
theorem HeapOk.of_loc {X : Ctx} {H : List Blk} (h : HeapOk X H) {b : Nat} {ρ : List Stp} {L : Loc} (hL : X.loc b ρ = some L) : ∃ B x, H[b]? = some B ∧ B.sub ρ = some x ∧ NdRel X b ρ L x := by
  have hb := h.lt b ρ L hL
  have hB : H[b]? = some H[b] := List.getElem?_eq_getElem hb
  obtain ⟨x, h1, h2⟩ := (h.blk b _ hB).of_loc hL
  exact ⟨_, x, hB, h1, h2⟩
theorem HeapOk.cells {X : Ctx} {H : List Blk} (h : HeapOk X H) {b : Nat} {ρ : List Stp} {L : Loc} (hL : X.loc b ρ = some L) (h0 : 0 < L.room) : ∃ cur e, RowAt X.w L.g cur e ∧ L.room ≤ cur.size := by
  obtain ⟨B, x, _, _, hr⟩ := h.of_loc hL
  obtain ⟨cur, e, h1, h2, _⟩ := hr.mem h0
  exact ⟨cur, e, h1, h2⟩
theorem HeapOk.g_lt {X : Ctx} {H : List Blk} (h : HeapOk X H) {b : Nat} {ρ : List Stp} {L : Loc} (hL : X.loc b ρ = some L) (h0 : 0 < L.room) : L.g < X.w.heap.size := by
  obtain ⟨cur, e, h1, _⟩ := h.cells hL h0
  exact h1.lt
theorem getB_of {H : List Blk} {b : Nat} {B : Blk} (h : H[b]? = some B) : getB H b = B := by simp [getB, List.getD, h]
/-- How a block's array lasts. -/
theorem NdRel.stab {X Y : Ctx} (hS : Stab X Y) {b : Nat} {ρ : List Stp} {L : Loc} {x : Nd} (h : NdRel X b ρ L x) (hb : 0 < L.room → Y.w.heap[L.g]? = X.w.heap[L.g]?) : NdRel Y b ρ L x :=
  ⟨h.sz, h.len, h.pos, h.fit, h.row, fun h0 => by
    obtain ⟨cur, e, h1, h2, h3⟩ := h.mem h0
    exact ⟨cur, e, h1.to (hb h0), h2, fun i j v V hi hv hV => ⟨(h3 i j v V hi hv hV).1.stab hS, (h3 i j v V hi hv hV).2⟩⟩⟩
theorem RootOk.stab {X Y : Ctx} (hS : Stab X Y) {b : Nat} {B : Blk} (h : RootOk X b B) (hn : ∀ ρ, X.loc b ρ = Option.none → Y.loc b ρ = Option.none) (hb : ∀ ρ L, X.loc b ρ = Option.some L → 0 < L.room → Y.w.heap[L.g]? = X.w.heap[L.g]?) : RootOk Y b B := by
  intro ρ
  have := h ρ
  split at this
  · obtain ⟨L, h1, h2⟩ := this
    exact ⟨L, hS.loc _ _ _ h1, h2.stab hS fun h0 => hb ρ L h1 h0⟩
  · exact hn ρ this
/-- The same with other numbers. -/
theorem Blk.map_sub_cons (B : Blk) (r : Nat → Bool → Option Nat) (s : Stp) (ρ : List Stp) : (B.map r).sub (s :: ρ) = B.sub (s :: ρ) := by
  cases B <;> first | rfl | (simp [Blk.map, Blk.sub, Blk.nd, Nd.sub])
theorem getD_map_mapL (r : Nat → Bool → Option Nat) (rows : List (List AV)) (i : Nat) : (rows.map (AV.mapL r)).getD i [] = AV.mapL r (rows.getD i []) := by
  simp only [List.getD, List.getElem?_map]
  cases rows[i]? <;> rfl
theorem NdRel.mapd {X Y : Ctx} {r : Nat → Bool → Option Nat} (hS : Ren X Y r) {b c : Nat} {ρ : List Stp} {L : Loc} {x : Nd} (hx : x.dat = false) (h : NdRel X b ρ L x) (hb : 0 < L.room → Y.w.heap[L.g]? = X.w.heap[L.g]?) {f : Nat → List AV} (hf : ∀ i, f i = AV.mapL r (x.f i)) :
    NdRel Y c ρ L { x with f := f } :=
  ⟨h.sz, h.len, h.pos, h.fit, fun i hi => by show (f i).length = x.sz; rw [hf, mapL_len]; exact h.row i hi, fun h0 => by
    obtain ⟨cur, e, h1, h2, h3⟩ := h.mem h0
    refine ⟨cur, e, h1.to (hb h0), h2, fun i j v V hi hv hV => ?_⟩
    have hv : (f i)[j]? = some v := hv
    rw [hf] at hv
    obtain ⟨u, hu, rfl⟩ := mapL_inv hv
    obtain ⟨h4, h5, h6⟩ := h3 i j u V hi hu hV
    have e1 : keyOf x b ρ i j = none := by unfold keyOf; rw [hx]
    rw [e1] at h4
    exact ⟨h4.map hS _ rfl, h5, fun hd => by rw [hx] at hd; cases hd⟩⟩
theorem VA.rekey {X Y : Ctx} {r : Nat → Bool → Option Nat} (hS : Ren X Y r) {b c : Nat} {ρ τ : List Stp} {v : AV} {V : Value} (h : VA X (some (b, ρ)) v V) (hd : Dat v) (hl : ∀ L, X.loc b ρ = some L → Y.loc c τ = some L) : VA Y (some (c, τ)) v V := by
  cases v <;> first | exact hd.elim | skip
  · cases h; exact .pv _ _ _ (VP.stab hS.R ‹_›)
  · cases h; exact .own _ _ _ _ _ _ _ _ (hl _ ‹_›) ‹_› ‹_› ‹_› ‹_›
theorem NdRel.rekey {X Y : Ctx} {r : Nat → Bool → Option Nat} (hS : Ren X Y r) {b c : Nat} {ρ τ : List Stp} {L : Loc} {x : Nd} (hx : x.dat = true) (h : NdRel X b ρ L x) (hb : 0 < L.room → Y.w.heap[L.g]? = X.w.heap[L.g]?) (hl : ∀ i j M, X.loc b (ρ ++ [(i, j)]) = some M → Y.loc c (τ ++ [(i, j)]) = some M) :
    NdRel Y c τ L x :=
  ⟨h.sz, h.len, h.pos, h.fit, h.row, fun h0 => by
    obtain ⟨cur, e, h1, h2, h3⟩ := h.mem h0
    refine ⟨cur, e, h1.to (hb h0), h2, fun i j v V hi hv hV => ?_⟩
    obtain ⟨h4, h5, h6⟩ := h3 i j v V hi hv hV
    have e1 : keyOf x b ρ i j = some (b, ρ ++ [(i, j)]) := by unfold keyOf; rw [hx]
    have e2 : keyOf x c τ i j = some (c, τ ++ [(i, j)]) := by unfold keyOf; rw [hx]
    rw [e1] at h4
    rw [e2]
    exact ⟨h4.rekey hS (h6 hx) (hl i j), h5, h6⟩⟩
/-- A block under another number. -/
theorem RootOk.map {X Y : Ctx} {r : Nat → Bool → Option Nat} (hS : Ren X Y r) {b c : Nat} {B : Blk} (h : RootOk X b B) (hl : ∀ ρ L, X.loc b ρ = Option.some L → Y.loc c ρ = Option.some L) (hn : ∀ ρ, X.loc b ρ = Option.none → Y.loc c ρ = Option.none)
    (hb : ∀ ρ L, X.loc b ρ = Option.some L → 0 < L.room → Y.w.heap[L.g]? = X.w.heap[L.g]?) : RootOk Y c (B.map r) := by
  intro ρ
  have h0 := h ρ
  cases ρ with
  | cons s ρ =>
    rw [Blk.map_sub_cons]
    split at h0
    · rename_i x hx
      obtain ⟨L, h1, h2⟩ := h0
      have hd : x.dat = true := by
        unfold Blk.sub at hx
        cases hB : B.nd with
        | none => rw [hB] at hx; cases hx
        | some y => rw [hB] at hx; exact Nd.sub_dat (by simp) hx
      exact ⟨L, hl _ _ h1, h2.rekey hS hd (fun h0 => hb _ L h1 h0) fun i j M hM => hl _ _ hM⟩
    · exact hn _ h0
  | nil =>
    cases B with
    | gone => exact hn _ h0
    | arr s sz n f =>
      obtain ⟨L, h1, h2⟩ := h0
      exact ⟨L, hl _ _ h1, h2.rekey hS rfl (fun h0 => hb _ L h1 h0) fun i j M hM => hl _ _ hM⟩
    | box s cs =>
      obtain ⟨L, h1, h2⟩ := h0
      have := h2.mapd (c := c) hS rfl (fun h0 => hb _ L h1 h0) (f := fun _ => AV.mapL r cs) fun i => rfl
      have e : (⟨false, (AV.mapL r cs).length, 1, fun _ => AV.mapL r cs⟩ : Nd) = ⟨false, cs.length, 1, fun _ => AV.mapL r cs⟩ := by rw [mapL_len]
      exact ⟨L, hl _ _ h1, e ▸ this⟩
    | lit s sz rows =>
      obtain ⟨L, h1, h2⟩ := h0
      have := h2.mapd (c := c) hS rfl (fun h0 => hb _ L h1 h0) (f := fun i => (rows.map (AV.mapL r)).getD i []) fun i => getD_map_mapL r rows i
      have e : (⟨false, sz, (rows.map (AV.mapL r)).length, fun i => (rows.map (AV.mapL r)).getD i []⟩ : Nd) = ⟨false, sz, rows.length, fun i => (rows.map (AV.mapL r)).getD i []⟩ := by rw [List.length_map]
      exact ⟨L, hl _ _ h1, e ▸ this⟩
end Go.Bm
