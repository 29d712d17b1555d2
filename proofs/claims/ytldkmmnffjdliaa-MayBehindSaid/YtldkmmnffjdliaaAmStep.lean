/- The abstract machine: worlds that go on: new blocks, blocks written, appends. -/
import Derived.Test.YtldkmmnffjdliaaAmInv
namespace Go.Am
set_option autoImplicit false
set_option linter.unusedVariables false

theorem Inv.go {X0 X X' : Ctx} {st : St} {a : Act} {w W : World} (h : Inv X0 X st a w) (hS : Stab X X') (hw : X'.w = W) (hT : ∀ t, Lasts X X' (.tmp t)) (hH : HeapOk X' st.heap) (hF : Fresh X') (hfr : Fr X0 X') : Inv X0 X' st a W :=
  ⟨hw, h.hd, h.tsz, fun t v V hv hV => (h.tmps t v V hv hV).stab hS fun p hp => by cases hp; exact hT t, hH, hF, hfr⟩

theorem VP.R_lt {X : Ctx} (hF : Fresh X) {g off : Nat} (h : X.R g off) : g < X.w.heap.size := by
  rcases Nat.lt_or_ge g X.w.heap.size with h' | h'
  · exact h'
  · exact absurd h ((hF g h').2 off)
theorem own_lt {X : Ctx} (hF : Fresh X) {g : Nat} {p : Pos} (h : X.own g = some p) : g < X.w.heap.size := by
  rcases Nat.lt_or_ge g X.w.heap.size with h' | h'
  · exact h'
  · rw [(hF g h').1] at h; cases h

/-! ### a new block, of which no abstract block speaks -/
/-- A world with one block more. -/
structure Grew (w W : World) (o : Obj) : Prop where
  heap : W.heap = w.heap.push o
  os : W.os = w.os
  tape : W.tape = w.tape
  output : W.output = w.output
theorem Grew.alloc (w : World) (o : Obj) : Grew w (w.alloc o) o := ⟨rfl, rfl, rfl, rfl⟩
theorem Grew.drew (w : World) (o : Obj) : Grew w (w.drew.alloc o) o := ⟨rfl, rfl, rfl, rfl⟩
theorem Grew.old {w W : World} {o : Obj} (h : Grew w W o) {g : Nat} (hg : g < w.heap.size) : W.heap[g]? = w.heap[g]? := by
  rw [h.heap, Array.getElem?_push, if_neg (by omega)]
theorem Grew.new {w W : World} {o : Obj} (h : Grew w W o) : W.heap[w.heap.size]? = some o := by rw [h.heap, Array.getElem?_push, if_pos rfl]
theorem Grew.size {w W : World} {o : Obj} (h : Grew w W o) : W.heap.size = w.heap.size + 1 := by rw [h.heap, Array.size_push]

def Ctx.fresh (X : Ctx) (W : World) (Q : Nat → Prop) (op : Option Pos) : Ctx :=
  { X with w := W, R := fun g off => X.R g off ∨ (g = X.w.heap.size ∧ Q off), own := fun g => if g = X.w.heap.size then op else X.own g }

section
variable {X0 X : Ctx} {st : St} {a : Act} {w W : World} {o : Obj} {Q : Nat → Prop} {op : Option Pos}

theorem Stab.fresh (hF : Fresh X) (hG : Grew X.w W o) : Stab X (X.fresh W Q op) :=
  ⟨fun g off h => ⟨.inl h, World.cell?_of_block (w := X.w) (a := ⟨g, off, none⟩) (hG.old (VP.R_lt hF h))⟩, fun _ h => ⟨h, rfl, rfl, rfl⟩⟩
theorem Lasts.fresh (hF : Fresh X) (hG : Grew X.w W o) (p : Pos) : Lasts X (X.fresh W Q op) p := by
  intro g hg
  have hlt := own_lt hF hg
  refine ⟨?_, hG.old hlt, fun off h => ?_⟩
  · simp [Ctx.fresh, Nat.ne_of_lt hlt, hg]
  · rcases h with h | ⟨rfl, _⟩
    · exact h
    · exact absurd hlt (Nat.lt_irrefl _)
theorem HeapOk.fresh {H : List Blk} (h : HeapOk X H) (hF : Fresh X) (hG : Grew X.w W o) : HeapOk (X.fresh W Q op) H := by
  refine ⟨fun b B hB => (h.blk b B hB).stab (Stab.fresh hF hG) (fun hd => hd) (fun hd => hG.old (h.phi_lt hd)) (fun j => Lasts.fresh hF hG _) (fun i j => Lasts.fresh hF hG _), h.lt, h.inj, fun b hb => ?_⟩
  have hlt := h.phi_lt hb
  obtain ⟨h1, h2⟩ := h.free b hb
  refine ⟨by simp [Ctx.fresh, Nat.ne_of_lt hlt, h1], fun off hh => ?_⟩
  rcases hh with hh | ⟨e, _⟩
  · exact h2 off hh
  · have e' : X.φ b = X.w.heap.size := e
    omega
theorem Fresh.fresh (hF : Fresh X) (hG : Grew X.w W o) : Fresh (X.fresh W Q op) := by
  intro g hg
  have hg' : X.w.heap.size + 1 ≤ g := by rw [← hG.size]; exact hg
  refine ⟨?_, fun off hh => ?_⟩
  · have : g ≠ X.w.heap.size := by omega
    simp [Ctx.fresh, this, (hF g (by omega)).1]
  · rcases hh with hh | ⟨e, _⟩
    · exact (hF g (by omega)).2 off hh
    · omega
theorem Fr.fresh (h : Fr X0 X) (hG : Grew X.w W o) : Fr X0 (X.fresh W Q op) := by
  have hs := h.size
  refine ⟨by show X0.w.heap.size ≤ W.heap.size; rw [hG.size]; omega, hG.os.trans h.os, hG.tape.trans h.tape, hG.output.trans h.output, fun g hg => (h.keep g hg).trans (.inl (hG.old (by omega))), h.mutB, fun g hg ho => h.ownW g hg ?_,
    fun g off hr => .inl (h.Rmono g off hr), fun g off hg ho hr => ?_, h.base⟩
  · have : g ≠ X.w.heap.size := by omega
    simpa [Ctx.fresh, this] using ho
  · rcases hr with hr | ⟨e, _⟩
    · exact h.Rsame g off hg ho hr
    · omega
theorem Inv.fresh' (h : Inv X0 X st a w) (hG : Grew w W o) (Q : Nat → Prop) (op : Option Pos) : Inv X0 (X.fresh W Q op) st a W := by
  have hw := h.hw
  subst hw
  exact h.go (Stab.fresh h.fresh hG) rfl (fun t => Lasts.fresh h.fresh hG _) (h.heap.fresh h.fresh hG) (h.fresh.fresh hG) (h.fr.fresh hG)
end

/-- A world that draws. -/
theorem Inv.drawn {X0 X : Ctx} {st : St} {a : Act} {w W : World} (h : Inv X0 X st a w) (hh : W.heap = w.heap) (ho : W.os = w.os) (ht : W.tape = w.tape) (hu : W.output = w.output) : Inv X0 { X with w := W } st a W := by
  have hw := h.hw
  subst hw
  have e : ∀ g : Nat, W.heap[g]? = X.w.heap[g]? := fun g => by rw [hh]
  have hS : Stab X { X with w := W } := ⟨fun g off hr => ⟨hr, World.cell?_of_block (w := X.w) (a := ⟨g, off, none⟩) (e g)⟩, fun _ h => ⟨h, rfl, rfl, rfl⟩⟩
  have hL : ∀ p, Lasts X { X with w := W } p := fun p g hg => ⟨hg, e g, fun _ h => h⟩
  refine h.go hS rfl (fun t => hL _) ⟨fun b B hB => (h.heap.blk b B hB).stab hS (fun hd => hd) (fun _ => e _) (fun j => hL _) (fun i j => hL _), h.heap.lt, h.heap.inj, h.heap.free⟩
    (fun g hg => h.fresh g (by rw [← hh]; exact hg)) ⟨by show _ ≤ W.heap.size; rw [hh]; exact h.fr.size, ho.trans h.fr.os, ht.trans h.fr.tape, hu.trans h.fr.output, fun g hg => (h.fr.keep g hg).trans (.inl (e g)), h.fr.mutB, h.fr.ownW, h.fr.Rmono, h.fr.Rsame, h.fr.base⟩

/-! ### a new block of the abstract machine's -/
def Ctx.newBlk (X : Ctx) (W : World) (b sz len : Nat) : Ctx :=
  { X with w := W, φ := fun k => if k = b then X.w.heap.size else X.φ k, sz := fun k => if k = b then sz else X.sz k, len := fun k => if k = b then len else X.len k, dom := fun k => X.dom k ∨ k = b }

theorem Inv.newBlk {X0 X : Ctx} {st : St} {a : Act} {w W : World} {o : Obj} (h : Inv X0 X st a w) (hG : Grew w W o) {b : Nat} (hb : st.heap[b]? = some .gone) (sz len : Nat) (B : Blk)
    (hB : Stab X (X.newBlk W b sz len) → BlkRel (X.newBlk W b sz len) b B) : Inv X0 (X.newBlk W b sz len) { st with heap := st.heap.set b B } a W := by
  have hw := h.hw
  subst hw
  have hnd : ¬ X.dom b := h.heap.blk b _ hb
  have hne : ∀ k, X.dom k → k ≠ b := fun k hk e => hnd (e ▸ hk)
  have hS : Stab X (X.newBlk W b sz len) :=
    ⟨fun g off hr => ⟨hr, World.cell?_of_block (w := X.w) (a := ⟨g, off, none⟩) (hG.old (VP.R_lt h.fresh hr))⟩, fun k hk => ⟨.inl hk, by simp [Ctx.newBlk, hne k hk], by simp [Ctx.newBlk, hne k hk], by simp [Ctx.newBlk, hne k hk]⟩⟩
  have hL : ∀ p, Lasts X (X.newBlk W b sz len) p := fun p g hg => ⟨hg, hG.old (own_lt h.fresh hg), fun _ h => h⟩
  have hblt : b < st.heap.length := (List.getElem?_eq_some_iff.1 hb).1
  have hs := h.fr.size
  refine ⟨rfl, h.hd, h.tsz, fun t v V hv hV => (h.tmps t v V hv hV).stab hS fun p _ => hL p, ⟨fun k K hK => ?_, fun k hk => ?_, fun k l hk hl e => ?_, fun k hk => ?_⟩, fun g hg => ?_, ?_⟩
  · rcases set_get _ _ _ _ _ hK with ⟨rfl, rfl, _⟩ | ⟨hkb, hK⟩
    · exact hB hS
    · exact (h.heap.blk k K hK).stab hS (fun hd hd' => hd'.elim hd hkb) (fun hd => hG.old (h.heap.phi_lt hd)) (fun j => hL _) (fun i j => hL _)
  · rw [List.length_set]
    rcases hk with hk | rfl
    · exact h.heap.lt k hk
    · exact hblt
  · by_cases e1 : k = b
    · by_cases e2 : l = b
      · exact e1.trans e2.symm
      · rcases hl with hl | hl
        · have := h.heap.phi_lt hl
          simp [Ctx.newBlk, e1, e2] at e
          omega
        · exact absurd hl e2
    · rcases hk with hk | hk
      · by_cases e2 : l = b
        · have := h.heap.phi_lt hk
          simp [Ctx.newBlk, e1, e2] at e
          omega
        · rcases hl with hl | hl
          · exact h.heap.inj k l hk hl (by simpa [Ctx.newBlk, e1, e2] using e)
          · exact absurd hl e2
      · exact absurd hk e1
  · by_cases e1 : k = b
    · have := h.fresh X.w.heap.size (Nat.le_refl _)
      simpa [Ctx.newBlk, e1] using this
    · rcases hk with hk | hk
      · simpa [Ctx.newBlk, e1] using h.heap.free k hk
      · exact absurd hk e1
  · have hg' : X.w.heap.size + 1 ≤ g := by rw [← hG.size]; exact hg
    exact h.fresh g (by omega)
  · refine ⟨by show _ ≤ W.heap.size; rw [hG.size]; omega, hG.os.trans h.fr.os, hG.tape.trans h.fr.tape, hG.output.trans h.fr.output, fun g hg => (h.fr.keep g hg).trans (.inl (hG.old (by omega))), fun k hk => ?_, h.fr.ownW, h.fr.Rmono, h.fr.Rsame, fun k hk => ?_⟩
    · by_cases e1 : k = b
      · left; simp [Ctx.newBlk, e1]; exact hs
      · rcases hk with hk | hk
        · simpa [Ctx.newBlk, e1] using h.fr.mutB k hk
        · exact absurd hk e1
    · obtain ⟨b1, b2, b3, b4⟩ := h.fr.base k hk
      exact ⟨.inl b1, by simp [Ctx.newBlk, hne k b1, b2], by simp [Ctx.newBlk, hne k b1, b3], by simp [Ctx.newBlk, hne k b1, b4]⟩

/-! ### a block that is written -/
theorem Inv.write {X0 X : Ctx} {st : St} {a : Act} {w : World} (h : Inv X0 X st a w) {b : Nat} (hd : X.dom b) {cur new : Array Value} {e : TypeId} (hg : w.heap[X.φ b]? = some (.cells cur e (0, 0))) (hsz : new.size = cur.size) (B : Blk)
    (hB : Stab X { X with w := w.setRow (X.φ b) new } → (∀ p, Lasts X { X with w := w.setRow (X.φ b) new } p) → BlkRel { X with w := w.setRow (X.φ b) new } b B) : Inv X0 { X with w := w.setRow (X.φ b) new } { st with heap := st.heap.set b B } a (w.setRow (X.φ b) new) := by
  have hw := h.hw
  subst hw
  have hgs : (X.w.setRow (X.φ b) new).heap[X.φ b]? = some (.cells new e (0, 0)) := setRow_heap X.w _ cur new e (0, 0) hg
  have hgo : ∀ k, k ≠ X.φ b → (X.w.setRow (X.φ b) new).heap[k]? = X.w.heap[k]? := fun k hk => setRow_other X.w _ k new hk
  obtain ⟨ho, hr⟩ := h.heap.free b hd
  have hRne : ∀ g off, X.R g off → g ≠ X.φ b := fun g off hh e => hr off (e ▸ hh)
  have hone : ∀ g p, X.own g = some p → g ≠ X.φ b := fun g p hh e => by rw [e, ho] at hh; cases hh
  have hS : Stab X { X with w := X.w.setRow (X.φ b) new } := ⟨fun g off hh => ⟨hh, World.cell?_of_block (w := X.w) (a := ⟨g, off, none⟩) (hgo g (hRne g off hh))⟩, fun _ hh => ⟨hh, rfl, rfl, rfl⟩⟩
  have hL : ∀ p, Lasts X { X with w := X.w.setRow (X.φ b) new } p := fun p g hh => ⟨hh, hgo g (hone g p hh), fun _ h => h⟩
  have hsize : (X.w.setRow (X.φ b) new).heap.size = X.w.heap.size := by simp [World.setRow]
  refine ⟨rfl, h.hd, h.tsz, fun t v V hv hV => (h.tmps t v V hv hV).stab hS fun p _ => hL p, ⟨fun k K hK => ?_, fun k hk => by rw [List.length_set]; exact h.heap.lt k hk, h.heap.inj, h.heap.free⟩, fun g hgg => h.fresh g (by rw [← hsize]; exact hgg), ?_⟩
  · rcases set_get _ _ _ _ _ hK with ⟨rfl, rfl, _⟩ | ⟨hkb, hK⟩
    · exact hB hS hL
    · exact (h.heap.blk k K hK).stab hS (fun hh => hh) (fun hk => hgo _ fun e => hkb (h.heap.inj k b hk hd e)) (fun j => hL _) (fun i j => hL _)
  · refine ⟨by show _ ≤ (X.w.setRow (X.φ b) new).heap.size; rw [hsize]; exact h.fr.size, h.fr.os, h.fr.tape, h.fr.output, fun g hlt => (h.fr.keep g hlt).trans ?_, h.fr.mutB, h.fr.ownW, h.fr.Rmono, h.fr.Rsame, h.fr.base⟩
    by_cases e1 : g = X.φ b
    · rcases h.fr.mutB b hd with hm | ⟨c, hc, hφ⟩
      · omega
      · exact .inr ⟨cur, new, e, e1 ▸ hg, e1 ▸ hgs, hsz, fun j hj => absurd (.inl ⟨c, hc, hφ.trans e1.symm⟩) hj⟩
    · exact .inl (hgo g e1)

/-! ### an append where there is room -/
def Ctx.extend (X : Ctx) (W : World) (g m : Nat) (π : Pos) : Ctx :=
  { X with w := W, R := fun k off => X.R k off ∨ (k = g ∧ off < m), own := fun k => if k = g then some π else X.own k }

theorem Inv.extend {X0 X : Ctx} {st : St} {a : Act} {w : World} (h : Inv X0 X st a w) {g s n d : Nat} (ho : X.own g = some (.tmp s)) (hR : ∀ off, X.R g off ↔ off < n) {cur new : Array Value} {e : TypeId}
    (hg : w.heap[g]? = some (.cells cur e (0, 0))) (hsz : new.size = cur.size) (hkeep : ∀ j : Nat, j < n → new[j]? = cur[j]?) (m : Nat) (hm : n ≤ m) :
    Inv X0 (X.extend (w.setRow g new) g m (.tmp d)) { st with tmps := Am.dropRight st.tmps (some s) } a (w.setRow g new) := by
  have hI := h.dropRight (some s)
  have hw := h.hw
  subst hw
  have hgs : (X.w.setRow g new).heap[g]? = some (.cells new e (0, 0)) := setRow_heap X.w _ cur new e (0, 0) hg
  have hgo : ∀ k, k ≠ g → (X.w.setRow g new).heap[k]? = X.w.heap[k]? := fun k hk => setRow_other X.w _ k new hk
  have hφ : ∀ b, X.dom b → X.φ b ≠ g := fun b hb e => by have := (h.heap.free b hb).1; rw [e, ho] at this; cases this
  have hS : Stab X (X.extend (X.w.setRow g new) g m (.tmp d)) := by
    refine ⟨fun k off hh => ⟨.inl hh, ?_⟩, fun _ hh => ⟨hh, rfl, rfl, rfl⟩⟩
    by_cases e1 : k = g
    · subst e1
      show (X.w.setRow k new).cell? _ = _
      rw [cellAt hgs, cellAt hg, hkeep off ((hR off).1 hh)]
    · exact World.cell?_of_block (w := X.w) (a := ⟨k, off, none⟩) (hgo k e1)
  have hL : ∀ p, p ≠ .tmp s → Lasts X (X.extend (X.w.setRow g new) g m (.tmp d)) p := fun p hp k hk => by
    have e1 : k ≠ g := fun e => by rw [e, ho] at hk; cases hk; exact hp rfl
    refine ⟨by simp [Ctx.extend, e1, hk], hgo k e1, fun off hh => ?_⟩
    rcases hh with hh | ⟨e2, _⟩
    · exact hh
    · exact absurd e2 e1
  have hsize : (X.w.setRow g new).heap.size = X.w.heap.size := by simp [World.setRow]
  have hglt := own_lt h.fresh ho
  refine ⟨rfl, h.hd, hI.tsz, fun t v V hv hV => ?_, ⟨fun k K hK => ?_, h.heap.lt, h.heap.inj, fun b hb => ?_⟩, fun k hk => ?_, ?_⟩
  · by_cases hts : t = s
    · subst hts
      rcases set_get _ _ _ _ _ hv with ⟨_, rfl, hlt⟩ | ⟨hne, _⟩
      · have h1 : st.tmps[t]? = some st.tmps[t] := List.getElem?_eq_getElem hlt
        rw [getD_of h1]
        exact (((h.tmps t _ V h1 hV).borrow none).stab hS (fun p hp => by cases hp)).any _
      · exact absurd rfl hne
    · exact (hI.tmps t v V hv hV).stab hS fun p hp => by cases hp; exact hL _ (by simpa using hts)
  · exact (h.heap.blk k K hK).stab hS (fun hh => hh) (fun hk => hgo _ (hφ k hk)) (fun j => hL _ (by simp)) (fun i j => hL _ (by simp))
  · obtain ⟨h1, h2⟩ := h.heap.free b hb
    refine ⟨by simp [Ctx.extend, hφ b hb, h1], fun off hh => ?_⟩
    rcases hh with hh | ⟨e2, _⟩
    · exact h2 off hh
    · exact hφ b hb e2
  · have hk' : X.w.heap.size ≤ k := by rw [← hsize]; exact hk
    have e1 : k ≠ g := by omega
    obtain ⟨h1, h2⟩ := h.fresh k hk'
    refine ⟨by simp [Ctx.extend, e1, h1], fun off hh => ?_⟩
    rcases hh with hh | ⟨e2, _⟩
    · exact h2 off hh
    · exact e1 e2
  · refine ⟨by show _ ≤ (X.w.setRow g new).heap.size; rw [hsize]; exact h.fr.size, h.fr.os, h.fr.tape, h.fr.output, fun k hlt => (h.fr.keep k hlt).trans ?_, h.fr.mutB, fun k hk hh => h.fr.ownW k hk ?_, fun k off hh => .inl (h.fr.Rmono k off hh), fun k off hk h0 hh => ?_, h.fr.base⟩
    · by_cases e1 : k = g
      · subst e1
        refine .inr ⟨cur, new, e, hg, hgs, hsz, fun j hj => ?_⟩
        by_cases hjn : j < n
        · exact hkeep j hjn
        · refine absurd (.inr ⟨h.fr.ownW k hlt (by rw [ho]; simp), fun hr => hjn ((hR j).1 (h.fr.Rmono k j hr))⟩) hj
      · exact .inl (hgo k e1)
    · by_cases e1 : k = g
      · rw [e1, ho]; simp
      · simpa [Ctx.extend, e1] using hh
    · rcases hh with hh | ⟨e2, _⟩
      · exact h.fr.Rsame k off hk h0 hh
      · subst e2
        exact absurd h0 (h.fr.ownW k hk (by rw [ho]; simp))
end Go.Am
