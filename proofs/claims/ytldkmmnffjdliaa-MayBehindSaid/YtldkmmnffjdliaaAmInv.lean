/- The abstract machine: the invariant that a run keeps, and the steps by which worlds go on. -/
import Derived.Test.YtldkmmnffjdliaaAmRel
namespace Go.Am
set_option autoImplicit false
set_option linter.unusedVariables false

/-- A block is as it was, but for cells that may be written. -/
def KeepBlk (w w' : World) (g : Nat) (may : Nat → Prop) : Prop :=
  w'.heap[g]? = w.heap[g]? ∨ ∃ (c c' : Array Value) (t : TypeId), w.heap[g]? = some (.cells c t (0, 0)) ∧ w'.heap[g]? = some (.cells c' t (0, 0)) ∧ c'.size = c.size ∧ ∀ j : Nat, ¬ may j → c'[j]? = c[j]?

theorem KeepBlk.refl (w : World) (g : Nat) (may : Nat → Prop) : KeepBlk w w g may := .inl rfl
theorem KeepBlk.trans {w w1 w2 : World} {g : Nat} {may : Nat → Prop} (h : KeepBlk w w1 g may) (k : KeepBlk w1 w2 g may) : KeepBlk w w2 g may := by
  rcases h with h | ⟨c, c', t, h1, h2, h3, h4⟩
  · rcases k with k | ⟨c, c', t, k1, k2, k3, k4⟩
    · exact .inl (k.trans h)
    · exact .inr ⟨c, c', t, h ▸ k1, k2, k3, k4⟩
  · rcases k with k | ⟨d, d', t', k1, k2, k3, k4⟩
    · exact .inr ⟨c, c', t, h1, k.trans h2, h3, h4⟩
    · rw [h2] at k1
      cases k1
      exact .inr ⟨c, d', t, h1, k2, k3.trans h3, fun j hj => (k4 j hj).trans (h4 j hj)⟩
theorem KeepBlk.mono {w w' : World} {g : Nat} {may may' : Nat → Prop} (h : KeepBlk w w' g may) (hm : ∀ j, may j → may' j) : KeepBlk w w' g may' := by
  rcases h with h | ⟨c, c', t, h1, h2, h3, h4⟩
  · exact .inl h
  · exact .inr ⟨c, c', t, h1, h2, h3, fun j hj => h4 j fun hh => hj (hm j hh)⟩
theorem KeepBlk.cell {w w' : World} {g : Nat} {may : Nat → Prop} (h : KeepBlk w w' g may) (off : Nat) (hm : ¬ may off) : w'.cell? ⟨g, off, none⟩ = w.cell? ⟨g, off, none⟩ := by
  rcases h with h | ⟨c, c', t, h1, h2, h3, h4⟩
  · exact World.cell?_of_block (w := w) h
  · rw [cellAt h2, cellAt h1, h4 off hm]

/-- What a block of the abstract machine stands for. -/
def BlkRel (X : Ctx) (b : Nat) : Blk → Prop
  | .gone => ¬ X.dom b
  | .box cs => X.dom b ∧ ∃ (cur : Array Value) (e : TypeId), X.w.heap[X.φ b]? = some (.cells cur e (0, 0)) ∧ cur.size = cs.length ∧
      ∀ (j : Nat) (v : AV) (V : Value), cs[j]? = some v → cur[j]? = some V → VA X (some (.cell b j)) v V ∧ V.oneCell' = true
  | .arr sz n f => X.dom b ∧ X.sz b = sz ∧ X.len b = n ∧ 0 < sz ∧ ∃ (cur : Array Value) (e : TypeId), X.w.heap[X.φ b]? = some (.cells cur e (0, 0)) ∧ cur.size = n * sz ∧ (∀ i : Nat, i < n → (f i).length = sz) ∧
      ∀ (i j : Nat) (v : AV) (V : Value), i < n → (f i)[j]? = some v → cur[i * sz + j]? = some V → VA X (some (.acell b i j)) v V ∧ V.oneCell' = true ∧ v.flatB = true

structure HeapOk (X : Ctx) (H : List Blk) : Prop where
  blk : ∀ (b : Nat) (B : Blk), H[b]? = some B → BlkRel X b B
  lt : ∀ b, X.dom b → b < H.length
  inj : ∀ b c, X.dom b → X.dom c → X.φ b = X.φ c → b = c
  free : ∀ b, X.dom b → X.own (X.φ b) = none ∧ ∀ off, ¬ X.R (X.φ b) off

def Fresh (X : Ctx) : Prop := ∀ g, X.w.heap.size ≤ g → X.own g = none ∧ ∀ off, ¬ X.R g off

/-- Which cells a call may write. -/
def Wr (X : Ctx) (g off : Nat) : Prop := (∃ c, X.dom c ∧ X.φ c = g) ∨ (X.own g ≠ none ∧ ¬ X.R g off)

/-- How the world stands to that in which the call began. -/
structure Fr (X0 X : Ctx) : Prop where
  size : X0.w.heap.size ≤ X.w.heap.size
  os : X.w.os = X0.w.os
  tape : X.w.tape = X0.w.tape
  output : X.w.output = X0.w.output
  keep : ∀ g, g < X0.w.heap.size → KeepBlk X0.w X.w g (Wr X0 g)
  mutB : ∀ b, X.dom b → X0.w.heap.size ≤ X.φ b ∨ ∃ c, X0.dom c ∧ X0.φ c = X.φ b
  ownW : ∀ g, g < X0.w.heap.size → X.own g ≠ none → X0.own g ≠ none
  Rmono : ∀ g off, X0.R g off → X.R g off
  Rsame : ∀ g off, g < X0.w.heap.size → X0.own g = none → X.R g off → X0.R g off
  base : ∀ b, X0.dom b → X.dom b ∧ X.φ b = X0.φ b ∧ X.sz b = X0.sz b ∧ X.len b = X0.len b

theorem Fr.refl (X : Ctx) : Fr X X :=
  ⟨Nat.le_refl _, rfl, rfl, rfl, fun _ _ => .refl _ _ _, fun b hb => .inr ⟨b, hb, rfl⟩, fun _ _ h => h, fun _ _ h => h, fun _ _ _ _ h => h, fun b hb => ⟨hb, rfl, rfl, rfl⟩⟩

structure Inv (X0 X : Ctx) (st : St) (a : Act) (w : World) : Prop where
  hw : X.w = w
  hd : a.defers = []
  tsz : a.tmps.size = st.tmps.length
  tmps : ∀ (t : Nat) (v : AV) (V : Value), st.tmps[t]? = some v → a.tmps[t]? = some V → VA X (some (.tmp t)) v V
  heap : HeapOk X st.heap
  fresh : Fresh X
  fr : Fr X0 X

theorem HeapOk.live {X : Ctx} {H : List Blk} (h : HeapOk X H) {b : Nat} (hb : X.dom b) : ∃ B, H[b]? = some B := ⟨H[b]'(h.lt b hb), List.getElem?_eq_getElem _⟩

theorem HeapOk.cells {X : Ctx} {H : List Blk} (h : HeapOk X H) {b : Nat} (hb : X.dom b) : ∃ cur e, X.w.heap[X.φ b]? = some (.cells cur e (0, 0)) := by
  obtain ⟨B, hB⟩ := h.live hb
  have := h.blk b B hB
  cases B with
  | gone => exact absurd hb this
  | box cs => obtain ⟨_, cur, e, h1, _⟩ := this; exact ⟨cur, e, h1⟩
  | arr sz n f => obtain ⟨_, _, _, _, cur, e, h1, _⟩ := this; exact ⟨cur, e, h1⟩

theorem HeapOk.phi_lt {X : Ctx} {H : List Blk} (h : HeapOk X H) {b : Nat} (hb : X.dom b) : X.φ b < X.w.heap.size := by
  obtain ⟨cur, e, h1⟩ := h.cells hb
  exact (Array.getElem?_eq_some_iff.1 h1).1

theorem BlkRel.stab {X X' : Ctx} (hS : Stab X X') {b : Nat} {B : Blk} (h : BlkRel X b B) (hg : ¬ X.dom b → ¬ X'.dom b) (hb : X.dom b → X'.w.heap[X.φ b]? = X.w.heap[X.φ b]?)
    (hL : ∀ j, Lasts X X' (.cell b j)) (hL2 : ∀ i j, Lasts X X' (.acell b i j)) : BlkRel X' b B := by
  cases B with
  | gone => exact hg h
  | box cs =>
    obtain ⟨hd, cur, e, h1, h2, h3⟩ := h
    refine ⟨(hS.dom b hd).1, cur, e, by rw [(hS.dom b hd).2.1]; exact (hb hd).trans h1, h2, fun j v V hv hV => ⟨(h3 j v V hv hV).1.stab hS fun p hp => ?_, (h3 j v V hv hV).2⟩⟩
    cases hp; exact hL j
  | arr sz n f =>
    obtain ⟨hd, hs, hl, hz, cur, e, h1, h2, h4, h3⟩ := h
    obtain ⟨d1, d2, d3, d4⟩ := hS.dom b hd
    refine ⟨d1, d3.trans hs, d4.trans hl, hz, cur, e, by rw [d2]; exact (hb hd).trans h1, h2, h4, fun i j v V hi hv hV => ⟨(h3 i j v V hi hv hV).1.stab hS fun p hp => ?_, (h3 i j v V hi hv hV).2⟩⟩
    cases hp; exact hL2 i j

/-! ### temporaries -/
theorem put_get (a : Act) (d : Nat) (V : Value) (t : Nat) (U : Value) (h : (a.put (some d) V).tmps[t]? = some U) : (t = d ∧ U = V) ∨ (t ≠ d ∧ a.tmps[t]? = some U) := by
  simp only [Act.put, Array.getElem?_setIfInBounds] at h
  by_cases e : d = t
  · subst e
    simp only [if_true] at h
    split at h
    · cases h; exact .inl ⟨rfl, rfl⟩
    · cases h
  · rw [if_neg e] at h; exact .inr ⟨fun h' => e h'.symm, h⟩
theorem set_get {α : Type} (l : List α) (d : Nat) (v : α) (t : Nat) (u : α) (h : (l.set d v)[t]? = some u) : (t = d ∧ u = v ∧ d < l.length) ∨ (t ≠ d ∧ l[t]? = some u) := by
  rw [List.getElem?_set] at h
  by_cases e : d = t
  · subst e
    simp only [if_true] at h
    split at h
    · cases h; exact .inl ⟨rfl, rfl, ‹_›⟩
    · cases h
  · rw [if_neg e] at h; exact .inr ⟨fun h' => e h'.symm, h⟩

theorem Inv.put {X0 X : Ctx} {st : St} {a : Act} {w : World} (h : Inv X0 X st a w) (d : Option Nat) {v : AV} {V : Value} (hv : ∀ t, d = some t → VA X (some (.tmp t)) v V) : Inv X0 X (setT st d v) (a.put d V) w := by
  cases d with
  | none => exact h
  | some d =>
    refine ⟨h.hw, h.hd, by simp [setT, Act.put, h.tsz], fun t u U hu hU => ?_, h.heap, h.fresh, h.fr⟩
    rcases set_get _ _ _ _ _ hu with ⟨rfl, rfl, _⟩ | ⟨hne, hu⟩
    · rcases put_get _ _ _ _ _ hU with ⟨_, rfl⟩ | ⟨hne, _⟩
      · exact hv _ rfl
      · exact absurd rfl hne
    · rcases put_get _ _ _ _ _ hU with ⟨rfl, _⟩ | ⟨_, hU⟩
      · exact absurd rfl hne
      · exact h.tmps t u U hu hU

theorem getD_of {α : Type} {l : List α} {s : Nat} {d v : α} (h : l[s]? = some v) : l.getD s d = v := by simp [List.getD, h]

theorem Inv.tmp {X0 X : Ctx} {st : St} {a : Act} {w : World} (h : Inv X0 X st a w) (t : Nat) : VA X (some (.tmp t)) (st.tmps.getD t dead) (a.tmps.getD t undef) := by
  by_cases ht : t < st.tmps.length
  · have h1 : st.tmps[t]? = some st.tmps[t] := List.getElem?_eq_getElem ht
    have ht' : t < a.tmps.size := by rw [h.tsz]; exact ht
    have h2 : a.tmps[t]? = some a.tmps[t] := Array.getElem?_eq_getElem ht'
    have e1 : st.tmps.getD t dead = st.tmps[t] := getD_of h1
    have e2 : a.tmps.getD t undef = a.tmps[t] := by simp [Array.getD, ht']
    rw [e1, e2]
    exact h.tmps t _ _ h1 h2
  · have e1 : st.tmps.getD t dead = dead := by simp [List.getD, List.getElem?_eq_none (Nat.le_of_not_lt ht)]
    rw [e1]
    exact .dead _ _

theorem Inv.dropRight {X0 X : Ctx} {st : St} {a : Act} {w : World} (h : Inv X0 X st a w) (s : Option Nat) : Inv X0 X { st with tmps := dropRight st.tmps s } a w := by
  cases s with
  | none => exact h
  | some s =>
    refine ⟨h.hw, h.hd, by simp [Am.dropRight, h.tsz], fun t u U hu hU => ?_, h.heap, h.fresh, h.fr⟩
    rcases set_get _ _ _ _ _ hu with ⟨rfl, rfl, hlt⟩ | ⟨hne, hu⟩
    · have h1 : st.tmps[t]? = some st.tmps[t] := List.getElem?_eq_getElem hlt
      rw [getD_of h1]
      exact (h.tmps t _ U h1 hU).borrow _
    · exact h.tmps t u U hu hU

/-! ### a right goes to another place -/
def Ctx.give (X : Ctx) (g : Nat) (π : Pos) : Ctx := { X with own := fun k => if k = g then some π else X.own k }

theorem Stab.give (X : Ctx) (g : Nat) (π : Pos) : Stab X (X.give g π) := ⟨fun _ _ h => ⟨h, rfl⟩, fun _ h => ⟨h, rfl, rfl, rfl⟩⟩
theorem Lasts.give {X : Ctx} {g : Nat} {π0 π p : Pos} (h : X.own g = some π0) (hp : p ≠ π0) : Lasts X (X.give g π) p := by
  intro k hk
  have : k ≠ g := fun e => by subst e; rw [h] at hk; cases hk; exact hp rfl
  exact ⟨by simp [Ctx.give, this, hk], rfl, fun _ h => h⟩

theorem HeapOk.give {X : Ctx} {H : List Blk} (h : HeapOk X H) {g s : Nat} {π : Pos} (hg : X.own g = some (.tmp s)) : HeapOk (X.give g π) H := by
  refine ⟨fun b B hB => (h.blk b B hB).stab (Stab.give X g π) (fun hd => hd) (fun _ => rfl) (fun j => Lasts.give hg (by simp)) (fun i j => Lasts.give hg (by simp)), h.lt, h.inj, fun b hb => ?_⟩
  obtain ⟨h1, h2⟩ := h.free b hb
  refine ⟨?_, h2⟩
  have : X.φ b ≠ g := fun e => by rw [e, hg] at h1; cases h1
  simp [Ctx.give, this, h1]
theorem Fresh.give {X : Ctx} (h : Fresh X) {g : Nat} {π0 π : Pos} (hg : X.own g = some π0) : Fresh (X.give g π) := by
  intro k hk
  have : k ≠ g := fun e => by rw [e] at hk; have := (h g hk).1; rw [hg] at this; cases this
  exact ⟨by simp [Ctx.give, this, (h k hk).1], (h k hk).2⟩
theorem Fr.give {X0 X : Ctx} (h : Fr X0 X) {g : Nat} {π0 π : Pos} (hg : X.own g = some π0) : Fr X0 (X.give g π) := by
  refine ⟨h.size, h.os, h.tape, h.output, h.keep, h.mutB, fun k hk ho => h.ownW k hk ?_, h.Rmono, h.Rsame, h.base⟩
  by_cases e : k = g
  · subst e; rw [hg]; simp
  · simpa [Ctx.give, e] using ho

/-- A temporary's right goes to another place. -/
theorem Inv.giveTo {X0 X : Ctx} {st : St} {a : Act} {w : World} (h : Inv X0 X st a w) {g s : Nat} (ho : X.own g = some (.tmp s)) (π : Pos) : Inv X0 (X.give g π) { st with tmps := Am.dropRight st.tmps (some s) } a w := by
  have hI := h.dropRight (some s)
  refine ⟨hI.hw, hI.hd, hI.tsz, fun t u U hu hU => ?_, hI.heap.give ho, hI.fresh.give ho, hI.fr.give ho⟩
  by_cases hts : t = s
  · subst hts
    rcases set_get _ _ _ _ _ hu with ⟨_, rfl, hlt⟩ | ⟨hne, _⟩
    · have h1 : st.tmps[t]? = some st.tmps[t] := List.getElem?_eq_getElem hlt
      rw [getD_of h1]
      exact (((h.tmps t _ U h1 hU).borrow none).stab (Stab.give X g _) (fun p hp => by cases hp)).any _
    · exact absurd rfl hne
  · exact (hI.tmps t u U hu hU).stab (Stab.give X g _) fun p hp => by cases hp; exact Lasts.give ho (by simpa using hts)

/-- A temporary's value, with its right, goes to another temporary (as a value that tells no more). -/
theorem Inv.move {X0 X : Ctx} {st : St} {a : Act} {w : World} (h : Inv X0 X st a w) (s : Nat) (d : Option Nat) (v' : AV)
    (hv' : ∀ (Y : Ctx) (π : Option Pos), VA Y π (st.tmps.getD s dead) (a.tmps.getD s undef) → VA Y π v' (a.tmps.getD s undef)) :
    ∃ X', Inv X0 X' (setT { st with tmps := Am.dropRight st.tmps (some s) } d v') (a.put d (a.tmps.getD s undef)) w := by
  have hv := h.tmp s
  have hdrop := h.dropRight (some s)
  cases d with
  | none => exact ⟨X, hdrop⟩
  | some d =>
    generalize hx : st.tmps.getD s dead = v at hv hv'
    generalize a.tmps.getD s undef = V at hv hv' ⊢
    by_cases hsr : ∃ n f, v = .seqR n f
    · obtain ⟨n, f, rfl⟩ := hsr
      cases hv with
      | seqR0 f A => exact ⟨X, hdrop.put (some d) fun t ht => hv' _ _ (.seqR0 _ _ _)⟩
      | seqR p n f g cap e cur sz C ho hb hsz hcur hn hm hs hR hC hh =>
        refine ⟨X.give g (.tmp d), ?_⟩
        have hI : Inv X0 X { st with tmps := Am.dropRight st.tmps (some s) } a w := hdrop
        have key : VA (X.give g (.tmp d)) (some (.tmp d)) v' (.slice (some ⟨g, 0, none⟩) n cap) :=
          hv' _ _ (.seqR (.tmp d) n f g cap e cur sz C (by simp [Ctx.give]) hb hsz hcur hn hm hs hR hC hh)
        refine ⟨hI.hw, hI.hd, by simp [setT, Act.put, Am.dropRight, h.tsz], fun t u U hu hU => ?_, hI.heap.give ho, hI.fresh.give ho, hI.fr.give ho⟩
        rcases set_get _ _ _ _ _ hu with ⟨rfl, rfl, _⟩ | ⟨hne, hu⟩
        · rcases put_get _ _ _ _ _ hU with ⟨_, rfl⟩ | ⟨hne, _⟩
          · exact key
          · exact absurd rfl hne
        · rcases put_get _ _ _ _ _ hU with ⟨rfl, _⟩ | ⟨_, hU⟩
          · exact absurd rfl hne
          · by_cases hts : t = s
            · subst hts
              rcases set_get _ _ _ _ _ hu with ⟨_, rfl, hlt⟩ | ⟨hne, _⟩
              · have h1 : st.tmps[t]? = some st.tmps[t] := List.getElem?_eq_getElem hlt
                rw [getD_of h1]
                exact (((h.tmps t _ U h1 hU).borrow none).stab (Stab.give X g _) (fun p hp => by cases hp)).any _
              · exact absurd rfl hne
            · exact (hI.tmps t u U hu hU).stab (Stab.give X g _) fun p hp => by cases hp; exact Lasts.give ho (by simpa using hts)
    · have hn : VA X none v V := by
        have hb := hv.borrow none
        cases v <;> first | exact hb | exact absurd ⟨_, _, rfl⟩ hsr
      exact ⟨X, hdrop.put (some d) fun t ht => (hv' _ _ hn).any _⟩
end Go.Am
