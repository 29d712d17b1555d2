/- The abstract machine: the invariant that a run keeps, and the steps by which worlds go on. -/
import Derived.Test.YtigopdlofamhlaaDoorBmRel
namespace Go.Bm
set_option autoImplicit false
set_option linter.unusedVariables false
set_option linter.unusedSimpArgs false

def Fresh (X : Ctx) : Prop := ∀ g, X.w.heap.size ≤ g → ∀ off, ¬ X.R g off
/-- A block that a call may write. -/
def Wr (X : Ctx) (g : Nat) : Prop := ∃ b ρ L, X.loc b ρ = some L ∧ 0 < L.room ∧ L.g = g
/-- How the world stands to that in which the call began. -/
structure Fr (X0 X : Ctx) : Prop where
  size : X0.w.heap.size ≤ X.w.heap.size
  os : X.w.os = X0.w.os
  tape : X.w.tape = X0.w.tape
  output : X.w.output = X0.w.output
  keep : ∀ g, g < X0.w.heap.size → Wr X0 g ∨ X.w.heap[g]? = X0.w.heap[g]?
  mine : ∀ g, Wr X g → X0.w.heap.size ≤ g ∨ Wr X0 g
  Rmono : ∀ g off, X0.R g off → X.R g off
  Rsame : ∀ g off, X.R g off → g < X0.w.heap.size → X0.R g off ∨ Wr X0 g
theorem Fr.refl (X : Ctx) : Fr X X := ⟨Nat.le_refl _, rfl, rfl, rfl, fun _ _ => .inr rfl, fun _ h => .inr h, fun _ _ h => h, fun _ _ h _ => .inl h⟩
/-- The arrays with which the call began, where they are said to be the same. -/
def keeps : Nat → List Stp → Bool
  | 0, _ => false
  | 1, ρ => ρ.isEmpty
  | _, _ => true
theorem keeps_min {s t : Nat} {ρ : List Stp} (h : keeps (minT s t) ρ = true) : keeps s ρ = true ∧ keeps t ρ = true := by
  match s, t with
  | 0, _ => cases h
  | 1, 0 => cases h
  | 1, 1 => exact ⟨h, h⟩
  | 1, t + 2 => exact ⟨h, rfl⟩
  | s + 2, t => exact ⟨rfl, h⟩
def Base (X0 X : Ctx) (H : List Blk) : Prop := ∀ (b : Nat) (B : Blk), H[b]? = some B → ∀ (ρ : List Stp), keeps B.tag ρ = true → ∀ L, X0.loc b ρ = some L → X.loc b ρ = some L
structure Inv (X0 X : Ctx) (st : St) (a : Act) (w : World) : Prop where
  hw : X.w = w
  hd : a.defers = []
  tsz : a.tmps.size = st.tmps.length
  tmps : ∀ (t : Nat) (v : AV) (V : Value), st.tmps[t]? = some v → a.tmps[t]? = some V → VA X none v V
  heap : HeapOk X st.heap
  fresh : Fresh X
  fr : Fr X0 X
  base : Base X0 X st.heap
  glo : GloOk X

theorem Wr.lt {X : Ctx} {H : List Blk} (h : HeapOk X H) {g : Nat} (hw : Wr X g) : g < X.w.heap.size := by
  obtain ⟨b, ρ, L, h1, h2, rfl⟩ := hw
  exact h.g_lt h1 h2
theorem Wr.free {X : Ctx} {H : List Blk} (h : HeapOk X H) {g : Nat} (hw : Wr X g) (off : Nat) : ¬ X.R g off := by
  obtain ⟨b, ρ, L, h1, h2, rfl⟩ := hw
  exact h.free b ρ L h1 h2 off
theorem R_lt {X : Ctx} (hF : Fresh X) {g off : Nat} (h : X.R g off) : g < X.w.heap.size := by
  rcases Nat.lt_or_ge g X.w.heap.size with h' | h'
  · exact h'
  · exact absurd h (hF g h' off)

/-! ### temporaries -/
theorem put_get (a : Act) (d : Nat) (V : Value) (t : Nat) (U : Value) (h : (a.put (some d) V).tmps[t]? = some U) : (t = d ∧ U = V) ∨ (t ≠ d ∧ a.tmps[t]? = some U) := by
  simp only [Act.put, Array.getElem?_setIfInBounds] at h
  by_cases e : d = t
  · subst e
    simp only [if_true] at h
    split at h
    · cases h; exact .inl ⟨rfl, rfl⟩
    · cases h
  · rw [if_neg e] at h; exact .inr ⟨fun h' => e h'.symm, h⟩
theorem set_get {α : Type} (l : List α) (d : Nat) (v : α) (t : Nat) (u : α) (h : (l.set d v)[t]? = some u) : (t = d ∧ u = v ∧ d < l.length) ∨ (t ≠ d ∧ l[t]? = some u) := by
  rw [List.getElem?_set] at h
  by_cases e : d = t
  · subst e
    simp only [if_true] at h
    split at h
    · cases h; exact .inl ⟨rfl, rfl, ‹_›⟩
    · cases h
  · rw [if_neg e] at h; exact .inr ⟨fun h' => e h'.symm, h⟩
theorem Inv.put {X0 X : Ctx} {st : St} {a : Act} {w : World} (h : Inv X0 X st a w) (d : Option Nat) {v : AV} {V : Value} (hv : ∀ t, d = some t → VA X none v V) : Inv X0 X (setT st d v) (a.put d V) w := by
  cases d with
  | none => exact h
  | some d =>
    refine ⟨h.hw, h.hd, by simp [setT, Act.put, h.tsz], fun t u U hu hU => ?_, h.heap, h.fresh, h.fr, h.base, h.glo⟩
    rcases set_get _ _ _ _ _ hu with ⟨rfl, rfl, _⟩ | ⟨hne, hu⟩
    · rcases put_get _ _ _ _ _ hU with ⟨_, rfl⟩ | ⟨hne, _⟩
      · exact hv _ rfl
      · exact absurd rfl hne
    · rcases put_get _ _ _ _ _ hU with ⟨rfl, _⟩ | ⟨_, hU⟩
      · exact absurd rfl hne
      · exact h.tmps t u U hu hU
theorem getD_of {α : Type} {l : List α} {s : Nat} {d v : α} (h : l[s]? = some v) : l.getD s d = v := by simp [List.getD, h]
theorem Inv.tmp {X0 X : Ctx} {st : St} {a : Act} {w : World} (h : Inv X0 X st a w) (t : Nat) : VA X none (st.tmps.getD t dead) (a.tmps.getD t undef) := by
  by_cases ht : t < st.tmps.length
  · have h1 : st.tmps[t]? = some st.tmps[t] := List.getElem?_eq_getElem ht
    have ht' : t < a.tmps.size := by rw [h.tsz]; exact ht
    have h2 : a.tmps[t]? = some a.tmps[t] := Array.getElem?_eq_getElem ht'
    have e1 : st.tmps.getD t dead = st.tmps[t] := getD_of h1
    have e2 : a.tmps.getD t undef = a.tmps[t] := by simp [Array.getD, ht']
    rw [e1, e2]
    exact h.tmps t _ _ h1 h2
  · have e1 : st.tmps.getD t dead = dead := by simp [List.getD, List.getElem?_eq_none (Nat.le_of_not_lt ht)]
    rw [e1]
    exact .dead _ _

/-! ### nothing is lost -/
mutual
theorem map_nil : ∀ v : AV, v.map (scrR []) = v
  | .ptr b ρ i o => rfl
  | .aptr b ρ i o m k => rfl
  | .ms b ρ lo n => rfl
  | .clo f k caps => by simp only [AV.map]; rw [mapL_nil caps]
  | .agg cs => by simp only [AV.map]; rw [mapL_nil cs]
  | .tup vs => by simp only [AV.map]; rw [mapL_nil vs]
  | .ifc t v => by simp only [AV.map]; rw [map_nil v]
  | .dead => rfl
  | .pv p => rfl
  | .nil f => rfl
  | .own sz n f => rfl
  | .pref cs off => rfl
theorem mapL_nil : ∀ l : List AV, AV.mapL (scrR []) l = l
  | [] => rfl
  | v :: vs => by simp only [AV.mapL]; rw [map_nil v, mapL_nil vs]
end
theorem blk_nil (B : Blk) : B.map (scrR []) = B := by
  cases B with
  | box s cs => simp only [Blk.map, mapL_nil]
  | lit s sz rows => simp only [Blk.map]; congr 1; exact (List.map_congr_left fun l _ => mapL_nil l).trans (List.map_id' rows)
  | arr s sz n f => rfl
  | gone => rfl
theorem on_eq (e : Eff) (dst : Option Nat) (st : St) : e.on dst st = setT ⟨AV.scrL e.sc st.tmps, putBlks (st.heap.map (Blk.scr e.sc)) e.hb⟩ dst e.val := by
  unfold Eff.on
  split
  · rename_i h
    rw [h]
    have h1 : AV.scrL [] st.tmps = st.tmps := mapL_nil _
    have h2 : st.heap.map (Blk.scr []) = st.heap := (List.map_congr_left fun B _ => blk_nil B).trans (List.map_id' _)
    rw [h1, h2]
  · rfl
theorem Stab.ren {X Y : Ctx} (h : Stab X Y) : Ren X Y (scrR []) := ⟨h.R, fun b ρ c L hc hL => (by cases hc; exact h.loc _ _ _ hL)⟩
theorem scr_some {sc : List (Nat × Bool)} {b c : Nat} {d : Bool} (h : scrR sc b d = some c) : c = b ∧ ∀ s ∈ sc, s.1 = b → s.2 = true ∧ d = false := by
  unfold scrR at h
  cases hh : sc.any fun s => Nat.beq s.1 b && (!s.2 || d) with
  | true => rw [hh] at h; cases h
  | false =>
    rw [hh] at h
    cases h
    refine ⟨rfl, fun s hs he => ?_⟩
    rw [List.any_eq_false] at hh
    have := hh s hs
    subst he
    cases h1 : s.2 <;> cases d <;> simp_all

/-! ### a heap of which some blocks are put anew -/
theorem putBlks_len : ∀ (l : List (Nat × Blk)) (H : List Blk), (putBlks H l).length = H.length
  | [], H => rfl
  | (b, x) :: l, H => by simp only [putBlks, putBlks_len l, List.length_set]
/-- What stands at a number: what was put last. -/
theorem putBlks_get : ∀ (l : List (Nat × Blk)) (H : List Blk) (b : Nat) (B : Blk), (putBlks H l)[b]? = some B → (∃ x ∈ l, x = (b, B)) ∨ ((∀ x ∈ l, x.1 ≠ b) ∧ H[b]? = some B)
  | [], H, b, B, h => .inr ⟨fun x hx => absurd hx (by simp), h⟩
  | (c, x) :: l, H, b, B, h => by
    simp only [putBlks] at h
    rcases putBlks_get l _ b B h with ⟨y, hy, rfl⟩ | ⟨hne, h⟩
    · exact .inl ⟨_, List.mem_cons_of_mem _ hy, rfl⟩
    · rcases set_get _ _ _ _ _ h with ⟨rfl, rfl, _⟩ | ⟨hbc, h⟩
      · exact .inl ⟨_, by simp, rfl⟩
      · refine .inr ⟨fun y hy => ?_, h⟩
        rcases List.mem_cons.1 hy with rfl | hy
        · exact fun e => hbc e.symm
        · exact hne y hy

theorem HeapOk.upd {X Y : Ctx} {H : List Blk} (h : HeapOk X H) {sc : List (Nat × Bool)} {hb : List (Nat × Blk)} (hS : Ren X Y (scrR sc))
    (hl : ∀ b, (∀ x ∈ hb, x.1 ≠ b) → ∀ ρ, Y.loc b ρ = X.loc b ρ) (hw : ∀ b, (∀ x ∈ hb, x.1 ≠ b) → ∀ ρ L, X.loc b ρ = some L → 0 < L.room → Y.w.heap[L.g]? = X.w.heap[L.g]?)
    (hn : ∀ x ∈ hb, x.1 < H.length ∧ RootOk Y x.1 x.2)
    (hinj : ∀ b ρ c τ L M, Y.loc b ρ = some L → Y.loc c τ = some M → 0 < L.room → 0 < M.room → L.g = M.g → b = c ∧ ρ = τ)
    (hfree : ∀ b ρ L, Y.loc b ρ = some L → 0 < L.room → ∀ off, ¬ Y.R L.g off) : HeapOk Y (putBlks (H.map (Blk.scr sc)) hb) := by
  refine ⟨fun b B hB => ?_, fun b ρ L hL => ?_, hinj, hfree⟩
  · rcases putBlks_get _ _ _ _ hB with ⟨x, hx, rfl⟩ | ⟨hne, hB⟩
    · exact (hn _ hx).2
    · rw [List.getElem?_map] at hB
      cases hB0 : H[b]? with
      | none => rw [hB0] at hB; cases hB
      | some B0 =>
        rw [hB0] at hB
        cases hB
        exact (h.blk b B0 hB0).map hS (fun ρ L hL => by rw [hl b hne]; exact hL) (fun ρ hL => by rw [hl b hne]; exact hL) (hw b hne)
  · rw [putBlks_len, List.length_map]
    by_cases hb' : ∃ x ∈ hb, x.1 = b
    · obtain ⟨x, hx, rfl⟩ := hb'
      exact (hn x hx).1
    · rw [hl b (fun x hx e => hb' ⟨x, hx, e⟩)] at hL
      exact h.lt b ρ L hL
theorem Base.upd {X0 X Y : Ctx} {H : List Blk} (h : Base X0 X H) {sc : List (Nat × Bool)} {hb : List (Nat × Blk)} (hl : ∀ b, (∀ x ∈ hb, x.1 ≠ b) → ∀ ρ L, X.loc b ρ = some L → Y.loc b ρ = some L)
    (hn : ∀ x ∈ hb, ∀ ρ, keeps x.2.tag ρ = true → ∀ L, X0.loc x.1 ρ = some L → Y.loc x.1 ρ = some L) : Base X0 Y (putBlks (H.map (Blk.scr sc)) hb) := by
  intro b B hB ρ ht L hL
  rcases putBlks_get _ _ _ _ hB with ⟨x, hx, rfl⟩ | ⟨hne, hB⟩
  · exact hn _ hx ρ ht L hL
  · rw [List.getElem?_map] at hB
    cases hB0 : H[b]? with
    | none => rw [hB0] at hB; cases hB
    | some B0 =>
      rw [hB0] at hB
      cases hB
      have ht0 : keeps B0.tag ρ = true := by cases B0 <;> exact ht
      exact hl b hne ρ L (h b B0 hB0 ρ ht0 L hL)

/-- An operation's effect, told by where things lie behind it. -/
theorem Inv.eff {X0 X Y : Ctx} {st : St} {a : Act} {w W : World} (h : Inv X0 X st a w) {e : Eff} {dst : Option Nat} {V : Value} (hW : Y.w = W) (hS : Ren X Y (scrR e.sc))
    (hH : HeapOk Y (putBlks (st.heap.map (Blk.scr e.sc)) e.hb)) (hF : Fresh Y) (hfr : Fr X0 Y) (hB : Base X0 Y (putBlks (st.heap.map (Blk.scr e.sc)) e.hb)) (hv : ∀ d, dst = some d → VA Y none e.val V) : Inv X0 Y (e.on dst st) (a.put dst V) W := by
  rw [on_eq]
  refine Inv.put (st := ⟨AV.scrL e.sc st.tmps, _⟩) ⟨hW, h.hd, by rw [h.tsz]; exact (mapL_len _ _).symm, fun t v V hv hV => ?_, hH, hF, hfr, hB, h.glo.stab hS.R⟩ dst hv
  obtain ⟨u, hu, rfl⟩ := mapL_inv hv
  exact (h.tmps t u V hu hV).map hS none rfl
/-- An operation that yields a value alone. -/
theorem Inv.val {X0 X : Ctx} {st : St} {a : Act} {w : World} (h : Inv X0 X st a w) (dst : Option Nat) {v : AV} {V : Value} (hv : VA X none v V) : Inv X0 X ((Eff.mk v [] []).on dst st) (a.put dst V) w := h.put dst fun _ _ => hv
/-- A world that draws. -/
theorem Inv.drawn {X0 X : Ctx} {st : St} {a : Act} {w W : World} (h : Inv X0 X st a w) (hh : W.heap = w.heap) (ho : W.os = w.os) (ht : W.tape = w.tape) (hu : W.output = w.output) : Inv X0 { X with w := W } st a W := by
  have hw := h.hw
  subst hw
  have e : ∀ g : Nat, W.heap[g]? = X.w.heap[g]? := fun g => by rw [hh]
  have hS : Stab X { X with w := W } := ⟨fun g off hr => ⟨hr, World.cell?_of_block (w := X.w) (a := ⟨g, off, none⟩) (e g)⟩, fun _ _ _ h => h⟩
  exact ⟨rfl, h.hd, h.tsz, fun t v V hv hV => (h.tmps t v V hv hV).stab hS, ⟨fun b B hB => (h.heap.blk b B hB).stab hS (fun ρ h => h) (fun _ _ _ _ => e _), h.heap.lt, h.heap.inj, h.heap.free⟩,
    fun g hg => h.fresh g (by rw [← hh]; exact hg), ⟨by show _ ≤ W.heap.size; rw [hh]; exact h.fr.size, ho.trans h.fr.os, ht.trans h.fr.tape, hu.trans h.fr.output, fun g hg => (h.fr.keep g hg).imp id fun h => (e g).trans h, h.fr.mine, h.fr.Rmono, h.fr.Rsame⟩, h.base, h.glo.stab hS.R⟩

/-! ### worlds with one block more, and worlds of which one block is written -/
structure Grew (w W : World) (o : Obj) : Prop where
  heap : W.heap = w.heap.push o
  os : W.os = w.os
  tape : W.tape = w.tape
  output : W.output = w.output
theorem Grew.alloc (w : World) (o : Obj) : Grew w (w.alloc o) o := ⟨rfl, rfl, rfl, rfl⟩
theorem Grew.drew (w : World) (o : Obj) : Grew w (w.drew.alloc o) o := ⟨rfl, rfl, rfl, rfl⟩
theorem Grew.old {w W : World} {o : Obj} (h : Grew w W o) {g : Nat} (hg : g < w.heap.size) : W.heap[g]? = w.heap[g]? := by
  rw [h.heap, Array.getElem?_push, if_neg (by omega)]
theorem Grew.new {w W : World} {o : Obj} (h : Grew w W o) : W.heap[w.heap.size]? = some o := by rw [h.heap, Array.getElem?_push, if_pos rfl]
theorem Grew.size {w W : World} {o : Obj} (h : Grew w W o) : W.heap.size = w.heap.size + 1 := by rw [h.heap, Array.size_push]
theorem Fr.grew {X0 X Y : Ctx} {o : Obj} (h : Fr X0 X) (hG : Grew X.w Y.w o) (hR : ∀ g off, Y.R g off ↔ X.R g off) (hm : ∀ g, Wr Y g → g = X.w.heap.size ∨ Wr X g) : Fr X0 Y := by
  have hs := h.size
  refine ⟨by rw [hG.size]; omega, hG.os.trans h.os, hG.tape.trans h.tape, hG.output.trans h.output, fun g hg => (h.keep g hg).imp id fun e => (hG.old (by omega)).trans e, fun g hg => ?_, fun g off hr => (hR g off).2 (h.Rmono g off hr), fun g off hr hg => h.Rsame g off ((hR g off).1 hr) hg⟩
  rcases hm g hg with rfl | hg
  · exact .inl hs
  · exact h.mine g hg
theorem Fresh.grew {X Y : Ctx} {o : Obj} (h : Fresh X) (hG : Grew X.w Y.w o) (hR : ∀ g off, Y.R g off ↔ X.R g off) : Fresh Y := fun g hg off hr => by
  rw [hG.size] at hg
  exact h g (by omega) off ((hR g off).1 hr)
/-- A world of which one block is written. -/
structure Wrote (w W : World) (g : Nat) : Prop where
  size : W.heap.size = w.heap.size
  old : ∀ k, k ≠ g → W.heap[k]? = w.heap[k]?
  os : W.os = w.os
  tape : W.tape = w.tape
  output : W.output = w.output
theorem Wrote.row (w : World) (g : Nat) (new : Array Value) : Wrote w (w.setRow g new) g := ⟨by simp [World.setRow], fun k hk => setRow_other w g k new hk, rfl, rfl, rfl⟩
theorem Fr.wrote {X0 X Y : Ctx} {g : Nat} (h : Fr X0 X) (hG : Wrote X.w Y.w g) (hg : Wr X g) (hR : ∀ g off, Y.R g off ↔ X.R g off) (hm : ∀ g, Wr Y g → Wr X g) : Fr X0 Y := by
  refine ⟨by rw [hG.size]; exact h.size, hG.os.trans h.os, hG.tape.trans h.tape, hG.output.trans h.output, fun k hk => ?_, fun k hk => h.mine k (hm k hk), fun g off hr => (hR g off).2 (h.Rmono g off hr), fun g off hr hg => h.Rsame g off ((hR g off).1 hr) hg⟩
  by_cases e : k = g
  · subst e
    rcases h.mine k hg with h' | h'
    · omega
    · exact .inl h'
  · exact (h.keep k hk).imp id fun e' => (hG.old k e).trans e'
theorem Fresh.wrote {X Y : Ctx} {g : Nat} (h : Fresh X) (hG : Wrote X.w Y.w g) (hR : ∀ g off, Y.R g off ↔ X.R g off) : Fresh Y := fun k hk off hr => h k (by rw [← hG.size]; exact hk) off ((hR k off).1 hr)
/-- Nothing happened to the world. -/
theorem Fr.same {X0 X Y : Ctx} (h : Fr X0 X) (hw : Y.w = X.w) (hR : ∀ g off, Y.R g off ↔ X.R g off) (hm : ∀ g, Wr Y g → Wr X g) : Fr X0 Y :=
  ⟨by rw [hw]; exact h.size, by rw [hw]; exact h.os, by rw [hw]; exact h.tape, by rw [hw]; exact h.output, fun g hg => (h.keep g hg).imp id fun e => by rw [hw]; exact e, fun g hg => h.mine g (hm g hg), fun g off hr => (hR g off).2 (h.Rmono g off hr), fun g off hr hg => h.Rsame g off ((hR g off).1 hr) hg⟩
end Go.Bm
