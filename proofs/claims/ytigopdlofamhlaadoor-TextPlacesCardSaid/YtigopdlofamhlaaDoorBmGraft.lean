/- The abstract machine: what a cell of an array comes to own, and the invariant behind an array put anew. -/
import Derived.Test.YtigopdlofamhlaaDoorBmTree
namespace Go.Bm
set_option autoImplicit false
set_option linter.unusedVariables false
set_option linter.unusedSimpArgs false

theorem getB_gone {H : List Blk} {b : Nat} {B : Blk} (h : getB H b = B) (hB : B ≠ .lit 0 0 []) : H[b]? = some B := by
  unfold getB List.getD at h
  cases hb : H[b]? with
  | none => rw [hb] at h; exact absurd h.symm hB
  | some B' => rw [hb] at h; exact congrArg some h
theorem loc_gone {X : Ctx} {H : List Blk} (hH : HeapOk X H) {b : Nat} (h : getB H b = .gone) (ρ : List Stp) : X.loc b ρ = none := by
  cases hL : X.loc b ρ with
  | none => rfl
  | some L =>
    obtain ⟨B, x, hB, hx, _⟩ := hH.of_loc hL
    rw [getB_of hB] at h
    subst h
    cases hx

/-- How the world went on. -/
inductive WStep (X : Ctx) (W : World) (L' : Loc) : Prop
  | grew (o : Obj) (h : Grew X.w W o) (hg : 0 < L'.room → L'.g = X.w.heap.size)
  | wrote (g : Nat) (h : Wrote X.w W g) (hw : Wr X g) (hg : 0 < L'.room → Wr X L'.g)
  | same (h : W = X.w) (hg : 0 < L'.room → Wr X L'.g)
theorem WStep.R {X : Ctx} {H : List Blk} (hH : HeapOk X H) (hF : Fresh X) {W : World} {L' : Loc} (h : WStep X W L') : ∀ g off, X.R g off → W.cell? ⟨g, off, none⟩ = X.w.cell? ⟨g, off, none⟩ := by
  intro g off hr
  cases h with
  | grew o h hg => exact World.cell?_of_block (w := X.w) (a := ⟨g, off, none⟩) (h.old (R_lt hF hr))
  | wrote k h hw hg => exact World.cell?_of_block (w := X.w) (a := ⟨g, off, none⟩) (h.old g fun e => hw.free hH off (e ▸ hr))
  | same h hg => rw [h]

theorem Inv.node {X0 X : Ctx} {st : St} {a : Act} {w W : World} {b : Nat} {ρ : List Stp} {L' : Loc} {T : Nat → Nat → List Stp → Option Loc} {tk : List Nat} {x' : Nd} {org : Nat → Nat → Option Key} {e : Eff} {B' : Blk} {dst : Option Nat} {V : Value}
    (h : Inv X0 X st a w) (hN : NodeAt X st.heap W b ρ L' T tk x' org) (hs : WStep X W L') (he : e.hb = (b, B') :: goneL tk) (hb : b < st.heap.length) (htk : ∀ c ∈ tk, c < st.heap.length ∧ c ≠ b)
    (hroot : RootOk (X.node W b ρ L' T tk) b B') (hren : ∀ c τ d L, scrR e.sc c (!τ.isEmpty) = some d → X.loc c τ = some L → (X.node W b ρ L' T tk).loc d τ = some L)
    (htag : ∀ τ, keeps B'.tag τ = true → ∀ L, X0.loc b τ = some L → (X.node W b ρ L' T tk).loc b τ = some L) (hv : ∀ d, dst = some d → VA (X.node W b ρ L' T tk) none e.val V) : Inv X0 (X.node W b ρ L' T tk) (e.on dst st) (a.put dst V) W := by
  have hR := hs.R h.heap h.fresh
  have hS : Ren X (X.node W b ρ L' T tk) (scrR e.sc) := ⟨fun g off hr => ⟨hr, hR g off hr⟩, hren⟩
  have hout : ∀ c, (∀ x ∈ e.hb, x.1 ≠ c) → c ≠ b ∧ c ∉ tk := by
    intro c hc
    rw [he] at hc
    refine ⟨fun e => hc (b, B') (by simp) e.symm, fun ht => hc (c, .gone) ?_ rfl⟩
    refine List.mem_cons_of_mem _ (List.mem_map.2 ⟨c, ht, rfl⟩)
  -- whose the blocks are
  have hmine : ∀ g, Wr (X.node W b ρ L' T tk) g → (0 < L'.room ∧ g = L'.g) ∨ Wr X g := by
    rintro g ⟨c, τ, L, hL, h0, rfl⟩
    rcases node_cases hL with ⟨_, _, rfl⟩ | ⟨_, i, j, σ, rfl, hT⟩ | ⟨h1, _⟩
    · exact .inl ⟨h0, rfl⟩
    · obtain ⟨κ, L0, _, h4, h5, h6⟩ := hN.src i j σ L hT h0
      exact .inr ⟨_, _, L0, h4, h6, h5⟩
    · exact .inr ⟨_, _, L, h1, h0, rfl⟩
  have hWr : ∀ g, Wr (X.node W b ρ L' T tk) g → Wr X g ∨ ∃ o, Grew X.w W o ∧ g = X.w.heap.size := by
    intro g hg
    rcases hmine g hg with ⟨h0, rfl⟩ | hg
    · cases hs with
      | grew o h hg => exact .inr ⟨o, h, hg h0⟩
      | wrote k h hw hg => exact .inl (hg h0)
      | same h hg => exact .inl (hg h0)
    · exact .inl hg
  refine h.eff rfl hS (h.heap.upd hS (fun c hc τ => node_ne (hout c hc).1 (hout c hc).2 τ) (fun c hc τ L hL h0 => hN.old c τ L hL h0 fun hh => (hout c hc).1 hh.1) (fun x hx => ?_) (hN.inj h.heap) (fun c τ L hL h0 off hr => ?_)) ?_ ?_ (h.base.upd (fun c hc τ L hL => ?_) fun x hx τ ht L hL => ?_) hv
  · rw [he] at hx
    rcases List.mem_cons.1 hx with rfl | hx
    · exact ⟨hb, hroot⟩
    · obtain ⟨c, hc, rfl⟩ := List.mem_map.1 hx
      exact ⟨(htk c hc).1, fun τ => node_gone (htk c hc).2 hc τ⟩
  · have hr' : X.R L.g off := hr
    rcases hWr L.g ⟨c, τ, L, hL, h0, rfl⟩ with hg | ⟨o, _, hg⟩
    · exact hg.free h.heap off hr'
    · exact h.fresh L.g (by omega) off hr'
  · cases hs with
    | grew o hg _ => exact h.fresh.grew (Y := X.node W b ρ L' T tk) hg fun _ _ => Iff.rfl
    | wrote k hg _ _ => exact h.fresh.wrote (Y := X.node W b ρ L' T tk) hg fun _ _ => Iff.rfl
    | same hg _ => exact fun g hgg off hr => h.fresh g (by have : W.heap.size ≤ g := hgg; rw [hg] at this; exact this) off hr
  · cases hs with
    | grew o hg h3 =>
      exact h.fr.grew (Y := X.node W b ρ L' T tk) hg (fun _ _ => Iff.rfl) fun g hgg => by
        rcases hmine g hgg with ⟨h0, rfl⟩ | hgg
        · exact .inl (h3 h0)
        · exact .inr hgg
    | wrote k hg hk h3 =>
      exact h.fr.wrote (Y := X.node W b ρ L' T tk) hg hk (fun _ _ => Iff.rfl) fun g hgg => by
        rcases hmine g hgg with ⟨h0, rfl⟩ | hgg
        · exact h3 h0
        · exact hgg
    | same hg h3 =>
      exact h.fr.same (Y := X.node W b ρ L' T tk) hg (fun _ _ => Iff.rfl) fun g hgg => by
        rcases hmine g hgg with ⟨h0, rfl⟩ | hgg
        · exact h3 h0
        · exact hgg
  · rw [node_ne (hout c hc).1 (hout c hc).2]; exact hL
  · rw [he] at hx
    rcases List.mem_cons.1 hx with rfl | hx
    · exact htag τ ht L hL
    · obtain ⟨c, hc, rfl⟩ := List.mem_map.1 hx
      cases ht

/-! ### what a cell comes to own -/
/-- A world in which the frozen cells, and all arrays but one, are as they were. -/
structure Keeps (X Y : Ctx) (b : Nat) (ρ : List Stp) : Prop where
  R : ∀ g off, X.R g off → Y.R g off ∧ Y.w.cell? ⟨g, off, none⟩ = X.w.cell? ⟨g, off, none⟩
  old : ∀ c τ L, X.loc c τ = some L → 0 < L.room → ¬ (c = b ∧ τ = ρ) → Y.w.heap[L.g]? = X.w.heap[L.g]?
/-- A cell that is to stand at (i, j) of the array at (b, ρ): with what it owns. -/
structure CellG (X : Ctx) (b : Nat) (ρ : List Stp) (i j : Nat) (v : AV) (V : Value) (T : List Stp → Option Loc) (og : Option Key) : Prop where
  dat : Dat v
  one : V.oneCell' = true
  va : ∀ Y : Ctx, Keeps X Y b ρ → (∀ σ, Y.loc b (ρ ++ (i, j) :: σ) = T σ) → VA Y (some (b, ρ ++ [(i, j)])) v V
  tree : ∀ Y : Ctx, Keeps X Y b ρ → (∀ σ, Y.loc b (ρ ++ (i, j) :: σ) = T σ) → ∀ σ, match v.csub σ with
    | some u => ∃ L, T σ = some L ∧ NdRel Y b (ρ ++ (i, j) :: σ) L u
    | none => T σ = none
  src : ∀ σ L, T σ = some L → 0 < L.room → ∃ κ L0, og = some κ ∧ X.loc κ.1 (κ.2 ++ σ) = some L0 ∧ L0.g = L.g ∧ 0 < L0.room
section
variable {X : Ctx} {H : List Blk} {b : Nat} {ρ : List Stp} {i j : Nat}
theorem CellG.pv {p : PV} {V : Value} (h : VP X.R X.w p V) : CellG X b ρ i j (.pv p) V (fun _ => none) none :=
  ⟨trivial, h.one, fun Y hY _ => .pv _ _ _ (h.stab hY.R), fun Y _ _ σ => rfl, fun σ L hT => by cases hT⟩
theorem CellG.nil {A : Option Addr} (z : Nat) (hz : 0 < z) (f : Nat → List AV) : CellG X b ρ i j (.own z 0 f) (.slice A 0 0) (fun σ => match σ with | [] => some ⟨0, z, 0, 0⟩ | _ => none) none := by
  refine ⟨trivial, rfl, fun Y _ hT => .own _ _ _ _ _ A 0 ⟨0, z, 0, 0⟩ (hT []) rfl rfl (Nat.le_refl _) (fun h0 => absurd h0 (Nat.lt_irrefl _)), fun Y _ hT σ => ?_, fun σ L hT h0 => ?_⟩
  · cases σ with
    | nil => exact ⟨_, rfl, rfl, rfl, hz, by simp, fun k hk => absurd hk (Nat.not_lt_zero k), fun h0 => absurd h0 (Nat.lt_irrefl _)⟩
    | cons s σ => obtain ⟨k, o⟩ := s; simp only [AV.csub, Nd.sub_cons]; simp
  · cases σ with
    | nil => cases hT; exact absurd h0 (Nat.lt_irrefl _)
    | cons s σ => cases hT
/-- What a cell of an array owns, wherever it lies. -/
theorem cell_tree {c : Nat} {κ : List Stp} {B : Blk} (hB : RootOk X c B) {x : Nd} (hx : B.sub κ = some x) (hd : x.dat = true) {i0 j0 : Nat} (hi : i0 < x.n) {v : AV} (hv : (x.f i0)[j0]? = some v) (σ : List Stp) : match v.csub σ with
    | some u => ∃ L, X.loc c (κ ++ (i0, j0) :: σ) = some L ∧ NdRel X c (κ ++ (i0, j0) :: σ) L u
    | none => X.loc c (κ ++ (i0, j0) :: σ) = none := by
  have := hB (κ ++ (i0, j0) :: σ)
  rw [Blk.sub_append hx, Nd.sub_cons, hd] at this
  simp only [true_and, hi, if_true, hv, Option.bind_some] at this
  exact this
theorem csub_dat : ∀ {v : AV} {σ : List Stp} {u : Nd}, v.csub σ = some u → u.dat = true := by
  intro v σ u h
  cases v with
  | own sz n f =>
    cases σ with
    | nil => cases h; rfl
    | cons s σ => exact Nd.sub_dat (by simp) h
  | _ => cases h
theorem path_ne {ρ σ : List Stp} {s : Stp} : ρ ++ s :: σ ≠ ρ := fun h => by
  have := congrArg List.length h
  simp at this
/-- A cell that comes from another place. -/
theorem CellG.move {c : Nat} {κ : List Stp} {B : Blk} (hB : RootOk X c B) {x : Nd} (hx : B.sub κ = some x) (hd : x.dat = true) {i0 j0 : Nat} (hi : i0 < x.n) {v : AV} {V : Value} (hv : (x.f i0)[j0]? = some v)
    (hV : VA X (keyOf x c κ i0 j0) v V) (h1 : V.oneCell' = true) (hdv : Dat v) (hne : ¬ (c = b ∧ ∃ σ, κ ++ (i0, j0) :: σ = ρ)) : CellG X b ρ i j v V (fun σ => X.loc c (κ ++ (i0, j0) :: σ)) (some (c, κ ++ [(i0, j0)])) := by
  have ek : keyOf x c κ i0 j0 = some (c, κ ++ [(i0, j0)]) := by unfold keyOf; rw [hd]
  rw [ek] at hV
  refine ⟨hdv, h1, fun Y hY hT => ?_, fun Y hY hT σ => ?_, fun σ L hT h0 => ⟨_, L, rfl, by simpa using hT, rfl, h0⟩⟩
  · cases v <;> first | exact hdv.elim | skip
    · cases hV; exact .pv _ _ _ (VP.stab hY.R ‹_›)
    · cases hV with | own _ _ _ _ _ A cap L hL hs hl hn hA => exact .own _ _ _ _ _ A cap L (by rw [hT []]; exact hL) hs hl hn hA
  · have := cell_tree hB hx hd hi hv σ
    split at this
    · rename_i u hu
      obtain ⟨L, h3, h4⟩ := this
      refine ⟨L, h3, NdRel.rekey (X := X) (Y := Y) (r := fun _ _ => none) ⟨hY.R, fun _ _ _ _ hh => by cases hh⟩ (csub_dat hu) h4 (fun h0 => hY.old c _ L h3 h0 fun hh => hne ⟨hh.1, σ, hh.2⟩) fun k o M hM => ?_⟩
      have e1 : ρ ++ (i, j) :: σ ++ [(k, o)] = ρ ++ (i, j) :: (σ ++ [(k, o)]) := by simp
      have e2 : κ ++ (i0, j0) :: σ ++ [(k, o)] = κ ++ (i0, j0) :: (σ ++ [(k, o)]) := by simp
      rw [e1, hT]
      rw [e2] at hM
      exact hM
    · exact this

/-- Where a front part of an array lies, and what it owns. -/
def cutLoc (n : Nat) (T : List Stp → Option Loc) : List Stp → Option Loc
  | [] => (T []).map fun L => { L with len := n }
  | (i, j) :: σ => if i < n then T ((i, j) :: σ) else none
/-- A cell that comes to own (a front part of) an array that lies elsewhere. -/
theorem CellG.take {c : Nat} {κ : List Stp} {B : Blk} (hB : RootOk X c B) {x : Nd} (hx : B.sub κ = some x) (hd : x.dat = true) {n : Nat} {g : Nat → List AV} (hn : n ≤ x.n) (hg : ∀ k, k < n → g k = x.f k) {A : Option Addr} {cap : Nat} {L : Loc} (hL : X.loc c κ = some L)
    (hcap : n ≤ cap) (hA : 0 < cap → A = some ⟨L.g, 0, none⟩ ∧ cap * L.sz ≤ L.room) (hne : ¬ (c = b ∧ ∃ σ, κ ++ σ = ρ)) : CellG X b ρ i j (.own x.sz n g) (.slice A n cap) (cutLoc n fun σ => X.loc c (κ ++ σ)) (some (c, κ)) := by
  obtain ⟨L1, hL1, hr⟩ := hB.some hx
  rw [hL] at hL1
  cases hL1
  have hfit : n * x.sz ≤ L.room := Nat.le_trans (Nat.mul_le_mul_right _ hn) hr.fit
  refine ⟨trivial, rfl, fun Y hY hT => ?_, fun Y hY hT σ => ?_, fun σ M hT h0 => ?_⟩
  · refine .own _ _ _ _ _ A cap { L with len := n } (by rw [hT []]; simp [cutLoc, hL]) hr.sz rfl hcap hA
  · have hR : Ren X Y (fun _ _ => none) := ⟨hY.R, fun _ _ _ _ hh => by cases hh⟩
    cases σ with
    | nil =>
      refine ⟨{ L with len := n }, by simp [cutLoc, hL], hr.sz, rfl, hr.pos, hfit, fun k hk => (by have hk : k < n := hk; show (g k).length = _; rw [hg k hk]; exact hr.row k (by omega)), fun h0 => ?_⟩
      obtain ⟨cur, t, h1, h2, h3⟩ := hr.mem h0
      refine ⟨cur, t, h1.to (hY.old c κ L hL h0 fun hh => hne ⟨hh.1, [], by rw [List.append_nil]; exact hh.2⟩), h2, fun k o v V hk hv hV => ?_⟩
      have hk : k < n := hk
      have hv : (g k)[o]? = some v := hv
      rw [hg k hk] at hv
      obtain ⟨h4, h5, h6⟩ := h3 k o v V (by omega) hv hV
      have ek : keyOf x c κ k o = some (c, κ ++ [(k, o)]) := by unfold keyOf; rw [hd]
      rw [ek] at h4
      refine ⟨?_, h5, fun _ => h6 hd⟩
      show VA Y (some (b, ρ ++ (i, j) :: [] ++ [(k, o)])) v V
      refine h4.rekey hR (h6 hd) fun M hM => ?_
      have e1 : ρ ++ (i, j) :: [] ++ [(k, o)] = ρ ++ (i, j) :: [(k, o)] := by simp
      rw [e1, hT]
      simp only [cutLoc, hk, if_true]
      exact hM
    | cons s σ =>
      obtain ⟨k, o⟩ := s
      rw [show (AV.own x.sz n g).csub ((k, o) :: σ) = Nd.sub ⟨true, x.sz, n, g⟩ ((k, o) :: σ) from rfl, Nd.sub_cons]
      simp only [true_and]
      by_cases hk : k < n
      · rw [if_pos hk, hg k hk]
        cases hv : (x.f k)[o]? with
        | none =>
          simp only [Option.bind_none, cutLoc, hk, if_true]
          have := hB (κ ++ (k, o) :: σ)
          rw [Blk.sub_append hx, Nd.sub_cons, hd] at this
          simp only [true_and, show k < x.n by omega, if_true, hv, Option.bind_none] at this
          exact this
        | some v =>
          simp only [Option.bind_some]
          have := cell_tree hB hx hd (show k < x.n by omega) hv σ
          split at this
          · rename_i u hu
            obtain ⟨M, h3, h4⟩ := this
            refine ⟨M, by simp only [cutLoc, hk, if_true]; exact h3, NdRel.rekey hR (csub_dat hu) h4 (fun h0 => hY.old c _ M h3 h0 fun hh => hne ⟨hh.1, _, hh.2⟩) fun k' o' N hN => ?_⟩
            have e1 : ρ ++ (i, j) :: (k, o) :: σ ++ [(k', o')] = ρ ++ (i, j) :: ((k, o) :: (σ ++ [(k', o')])) := by simp
            have e2 : κ ++ (k, o) :: σ ++ [(k', o')] = κ ++ (k, o) :: (σ ++ [(k', o')]) := by simp
            rw [e1, hT]
            rw [e2] at hN
            simp only [cutLoc, hk, if_true]
            exact hN
          · simp only [cutLoc, hk, if_true]
            exact this
      · rw [if_neg hk]
        simp [cutLoc, hk]
  · cases σ with
    | nil =>
      simp only [cutLoc, List.append_nil, hL, Option.map_some, Option.some.injEq] at hT
      subst hT
      exact ⟨(c, κ), L, rfl, by simpa using hL, rfl, h0⟩
    | cons s σ =>
      obtain ⟨k, o⟩ := s
      simp only [cutLoc] at hT
      split at hT
      · exact ⟨(c, κ), M, rfl, hT, rfl, h0⟩
      · cases hT
end
end Go.Bm
