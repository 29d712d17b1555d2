/- The abstract machine: arrays below arrays: an array put anew, with what it owns. -/
import Derived.Test.YtigopdlofamhlaaDoorBmMake
namespace Go.Bm
set_option autoImplicit false
set_option linter.unusedVariables false
set_option linter.unusedSimpArgs false

/-! ### paths -/
def restOf : List Stp → List Stp → Option (List Stp)
  | [], τ => some τ
  | s :: ρ, t :: τ => if s = t then restOf ρ τ else none
  | _ :: _, [] => none
theorem restOf_some : ∀ {ρ τ σ : List Stp}, restOf ρ τ = some σ ↔ τ = ρ ++ σ
  | [], τ, σ => by simp [restOf]
  | s :: ρ, [], σ => by simp [restOf]
  | s :: ρ, t :: τ, σ => by
    simp only [restOf]
    split
    · rename_i e; subst e; rw [restOf_some]; simp
    · rename_i e; simp; intro h; exact absurd h.symm e
theorem restOf_append (ρ σ : List Stp) : restOf ρ (ρ ++ σ) = some σ := restOf_some.2 rfl
theorem restOf_self (ρ : List Stp) : restOf ρ ρ = some [] := restOf_some.2 (by simp)
/-- What a cell owns, below it. -/
def AV.csub : AV → List Stp → Option Nd
  | .own sz n f, σ => Nd.sub ⟨true, sz, n, f⟩ σ
  | _, _ => none
theorem Nd.sub_cons (x : Nd) (i j : Nat) (σ : List Stp) : x.sub ((i, j) :: σ) = if x.dat = true ∧ i < x.n then ((x.f i)[j]?).bind fun v => v.csub σ else none := by
  simp only [Nd.sub]
  split
  · cases (x.f i)[j]? with
    | none => rfl
    | some v => cases v <;> rfl
  · rfl
theorem Blk.sub_append {B : Blk} {ρ : List Stp} {x : Nd} (h : B.sub ρ = some x) (σ : List Stp) : B.sub (ρ ++ σ) = x.sub σ := by
  unfold Blk.sub at *
  cases hB : B.nd with
  | none => rw [hB] at h; cases h
  | some y => rw [hB] at h; simp only [Option.bind_some] at *; rw [Nd.sub_append, h]; rfl

/-- Two arrays alike but for what their cells own. -/
structure Heads (x y : Nd) : Prop where
  dat : x.dat = y.dat
  sz : x.sz = y.sz
  n : x.n = y.n
  len : ∀ i, i < x.n → (y.f i).length = (x.f i).length
  cell : ∀ (i j : Nat) (v : AV), i < x.n → (y.f i)[j]? = some v → ∃ u, (x.f i)[j]? = some u ∧ hdr u = hdr v
theorem Heads.refl (x : Nd) : Heads x x := ⟨rfl, rfl, rfl, fun _ _ => rfl, fun i j v _ h => ⟨v, h, rfl⟩⟩
theorem NdRel.heads {X : Ctx} {b : Nat} {ρ : List Stp} {L : Loc} {x y : Nd} (h : NdRel X b ρ L x) (e : Heads x y) : NdRel X b ρ L y := by
  refine ⟨h.sz.trans e.sz, h.len.trans e.n, e.sz ▸ h.pos, by rw [← e.n, ← e.sz]; exact h.fit, fun i hi => ?_, fun h0 => ?_⟩
  · rw [← e.n] at hi
    rw [e.len i hi, h.row i hi, e.sz]
  · obtain ⟨cur, t, h1, h2, h3⟩ := h.mem h0
    refine ⟨cur, t, h1, h2, fun i j v V hi hv hV => ?_⟩
    rw [← e.n] at hi
    rw [← e.sz] at hV
    obtain ⟨u, hu, eu⟩ := e.cell i j v hi hv
    obtain ⟨h4, h5, h6⟩ := h3 i j u V hi hu hV
    have ek : keyOf y b ρ i j = keyOf x b ρ i j := by unfold keyOf; rw [e.dat]
    rw [ek]
    exact ⟨h4.hdr eu, h5, fun hd => (h6 (e.dat.trans hd)).hdr eu⟩

theorem Nd.put_sz (x : Nd) (ρ : List Stp) (i : Nat) (g : List AV → List AV) : (x.put ρ i g).dat = x.dat ∧ (x.put ρ i g).sz = x.sz ∧ (x.put ρ i g).n = x.n := by
  cases ρ with
  | nil => exact ⟨rfl, rfl, rfl⟩
  | cons s ρ => obtain ⟨i0, o0⟩ := s; exact ⟨rfl, rfl, rfl⟩
theorem Nd.eta (x : Nd) : (⟨x.dat, x.sz, x.n, x.f⟩ : Nd) = x := rfl
/-- The array of which an element was put anew. -/
theorem Nd.put_self : ∀ {ρ : List Stp} {x y : Nd} (i : Nat) (g : List AV → List AV), x.sub ρ = some y → (x.put ρ i g).sub ρ = some { y with f := upd y.f i (g (y.f i)) }
  | [], x, y, i, g, h => by cases h; rfl
  | (i0, o0) :: ρ, x, y, i, g, h => by
    rw [Nd.sub_cons] at h
    split at h
    · rename_i hc
      cases hv : (x.f i0)[o0]? with
      | none => rw [hv] at h; cases h
      | some v =>
        rw [hv] at h
        cases v with
        | own sz n f =>
          have h' : Nd.sub ⟨true, sz, n, f⟩ ρ = some y := h
          have hlt := (List.getElem?_eq_some_iff.1 hv).1
          rw [Nd.sub_cons]
          have h1 : (Nd.put x ((i0, o0) :: ρ) i g).dat = true ∧ i0 < (Nd.put x ((i0, o0) :: ρ) i g).n := hc
          rw [if_pos h1]
          have h2 : (Nd.put x ((i0, o0) :: ρ) i g).f i0 = (x.f i0).set o0 (.own sz n (Nd.put ⟨true, sz, n, f⟩ ρ i g).f) := by simp [Nd.put, upd, hv]
          rw [h2, List.getElem?_set_self hlt]
          have e := Nd.put_sz ⟨true, sz, n, f⟩ ρ i g
          have e' : (⟨true, sz, n, (Nd.put ⟨true, sz, n, f⟩ ρ i g).f⟩ : Nd) = Nd.put ⟨true, sz, n, f⟩ ρ i g := by
            conv => rhs; rw [← Nd.eta (Nd.put ⟨true, sz, n, f⟩ ρ i g), e.1, e.2.1, e.2.2]
          show Nd.sub ⟨true, sz, n, (Nd.put ⟨true, sz, n, f⟩ ρ i g).f⟩ ρ = _
          rw [e']
          exact Nd.put_self i g h'
        | _ => cases h
    · cases h
/-- The others. -/
theorem Nd.put_other : ∀ {ρ τ : List Stp} {x y : Nd} (i : Nat) (g : List AV → List AV), x.sub ρ = some y → restOf ρ τ = none →
    (x.sub τ = none ∧ (x.put ρ i g).sub τ = none) ∨ ∃ u v, x.sub τ = some u ∧ (x.put ρ i g).sub τ = some v ∧ Heads u v
  | [], τ, x, y, i, g, h, hr => by cases hr
  | (i0, o0) :: ρ, τ, x, y, i, g, h, hr => by
    rw [Nd.sub_cons] at h
    split at h
    · rename_i hc
      cases hv : (x.f i0)[o0]? with
      | none => rw [hv] at h; cases h
      | some v =>
        rw [hv] at h
        cases v with
        | own sz n f =>
          have h' : Nd.sub ⟨true, sz, n, f⟩ ρ = some y := h
          have hlt := (List.getElem?_eq_some_iff.1 hv).1
          have h2 : (Nd.put x ((i0, o0) :: ρ) i g).f i0 = (x.f i0).set o0 (.own sz n (Nd.put ⟨true, sz, n, f⟩ ρ i g).f) := by simp [Nd.put, upd, hv]
          have h3 : ∀ k, k ≠ i0 → (Nd.put x ((i0, o0) :: ρ) i g).f k = x.f k := fun k hk => by simp [Nd.put, upd, hk]
          have e := Nd.put_sz ⟨true, sz, n, f⟩ ρ i g
          have e' : (⟨true, sz, n, (Nd.put ⟨true, sz, n, f⟩ ρ i g).f⟩ : Nd) = Nd.put ⟨true, sz, n, f⟩ ρ i g := by
            conv => rhs; rw [← Nd.eta (Nd.put ⟨true, sz, n, f⟩ ρ i g), e.1, e.2.1, e.2.2]
          cases τ with
          | nil =>
            refine .inr ⟨x, _, rfl, rfl, rfl, rfl, rfl, fun k hk => ?_, fun k j w hk hw => ?_⟩
            · by_cases ek : k = i0
              · subst ek; rw [h2, List.length_set]
              · rw [h3 k ek]
            · by_cases ek : k = i0
              · subst ek
                rw [h2] at hw
                rcases set_get _ _ _ _ _ hw with ⟨rfl, rfl, _⟩ | ⟨hne, hw⟩
                · exact ⟨_, hv, rfl⟩
                · exact ⟨_, hw, rfl⟩
              · rw [h3 k ek] at hw
                exact ⟨_, hw, rfl⟩
          | cons t τ =>
            obtain ⟨i1, o1⟩ := t
            rw [Nd.sub_cons, Nd.sub_cons]
            have hdn : ((Nd.put x ((i0, o0) :: ρ) i g).dat = true ∧ i1 < (Nd.put x ((i0, o0) :: ρ) i g).n) = (x.dat = true ∧ i1 < x.n) := rfl
            simp only [hdn]
            split
            · by_cases e1 : i1 = i0
              · subst e1
                rw [h2]
                by_cases e2 : o1 = o0
                · subst e2
                  rw [List.getElem?_set_self hlt, hv]
                  have hr' : restOf ρ τ = none := by simpa [restOf] using hr
                  show (Nd.sub ⟨true, sz, n, f⟩ τ = none ∧ Nd.sub ⟨true, sz, n, _⟩ τ = none) ∨ _
                  rw [e']
                  have := Nd.put_other i g h' hr'
                  rcases this with this | ⟨u, v, h5, h6, h7⟩
                  · exact .inl this
                  · exact .inr ⟨u, v, h5, by show Nd.sub ⟨true, sz, n, _⟩ τ = _; rw [e']; exact h6, h7⟩
                · rw [List.getElem?_set_ne (fun e => e2 e.symm)]
                  cases hz : ((x.f i1)[o1]?).bind fun v => v.csub τ with
                  | none => exact .inl ⟨rfl, rfl⟩
                  | some u => exact .inr ⟨u, u, rfl, rfl, .refl u⟩
              · rw [h3 i1 e1]
                cases hz : ((x.f i1)[o1]?).bind fun v => v.csub τ with
                | none => exact .inl ⟨rfl, rfl⟩
                | some u => exact .inr ⟨u, u, rfl, rfl, .refl u⟩
            · exact .inl ⟨rfl, rfl⟩
        | _ => cases h
    · cases h

/-! ### an array put anew, with what it owns -/
/-- Where things lie: an array at L', what its cells own as T says; some blocks are gone. -/
def Ctx.node (X : Ctx) (W : World) (b : Nat) (ρ : List Stp) (L' : Loc) (T : Nat → Nat → List Stp → Option Loc) (tk : List Nat) : Ctx :=
  { w := W, R := X.R, loc := fun c τ => if c = b then match restOf ρ τ with
    | none => X.loc b τ
    | some [] => some L'
    | some ((i, j) :: σ) => T i j σ
    else if c ∈ tk then none else X.loc c τ }
section
variable {X : Ctx} {W : World} {b : Nat} {ρ : List Stp} {L' : Loc} {T : Nat → Nat → List Stp → Option Loc} {tk : List Nat}
theorem node_self : (X.node W b ρ L' T tk).loc b ρ = some L' := by simp [Ctx.node, restOf_self]
theorem node_below (i j : Nat) (σ : List Stp) : (X.node W b ρ L' T tk).loc b (ρ ++ (i, j) :: σ) = T i j σ := by simp [Ctx.node, restOf_append]
theorem node_out {τ : List Stp} (h : restOf ρ τ = none) : (X.node W b ρ L' T tk).loc b τ = X.loc b τ := by simp [Ctx.node, h]
theorem node_ne {c : Nat} (h : c ≠ b) (ht : c ∉ tk) (τ : List Stp) : (X.node W b ρ L' T tk).loc c τ = X.loc c τ := by simp [Ctx.node, h, ht]
theorem node_gone {c : Nat} (h : c ≠ b) (ht : c ∈ tk) (τ : List Stp) : (X.node W b ρ L' T tk).loc c τ = none := by simp [Ctx.node, h, ht]
/-- A key of the new world: the array, below it, or one of before. -/
theorem node_cases {c : Nat} {τ : List Stp} {L : Loc} (h : (X.node W b ρ L' T tk).loc c τ = some L) :
    (c = b ∧ τ = ρ ∧ L = L') ∨ (c = b ∧ ∃ i j σ, τ = ρ ++ (i, j) :: σ ∧ T i j σ = some L) ∨ (X.loc c τ = some L ∧ ((c = b ∧ restOf ρ τ = none) ∨ (c ≠ b ∧ c ∉ tk))) := by
  by_cases hc : c = b
  · subst hc
    cases hr : restOf ρ τ with
    | none => exact .inr (.inr ⟨by rw [node_out hr] at h; exact h, .inl ⟨rfl, rfl⟩⟩)
    | some σ =>
      have e := restOf_some.1 hr
      subst e
      cases σ with
      | nil => rw [List.append_nil, node_self] at h; cases h; exact .inl ⟨rfl, by simp, rfl⟩
      | cons s σ => obtain ⟨i, j⟩ := s; rw [node_below] at h; exact .inr (.inl ⟨rfl, i, j, σ, rfl, h⟩)
  · by_cases ht : c ∈ tk
    · rw [node_gone hc ht] at h; cases h
    · rw [node_ne hc ht] at h; exact .inr (.inr ⟨h, .inr ⟨hc, ht⟩⟩)

/-- What is known of an array that is put anew: where it lies, and whence comes what it owns. -/
structure NodeAt (X : Ctx) (H : List Blk) (W : World) (b : Nat) (ρ : List Stp) (L' : Loc) (T : Nat → Nat → List Stp → Option Loc) (tk : List Nat) (x' : Nd) (org : Nat → Nat → Option Key) : Prop where
  rel : NdRel (X.node W b ρ L' T tk) b ρ L' x'
  dat : x'.dat = true
  tree : ∀ i j σ, match (if i < x'.n then ((x'.f i)[j]?).bind fun v => v.csub σ else none) with
    | some u => ∃ L, T i j σ = some L ∧ NdRel (X.node W b ρ L' T tk) b (ρ ++ (i, j) :: σ) L u
    | none => T i j σ = none
  src : ∀ i j σ L, T i j σ = some L → 0 < L.room → ∃ κ L0, org i j = some κ ∧ X.loc κ.1 (κ.2 ++ σ) = some L0 ∧ L0.g = L.g ∧ 0 < L0.room
  whence : ∀ i j κ, org i j = some κ → (κ.1 ∈ tk ∧ κ.1 ≠ b) ∨ (κ.1 = b ∧ ∃ i0 j0, κ.2 = ρ ++ [(i0, j0)])
  once : ∀ i j i' j' c κ κ' σ σ', org i j = some (c, κ) → org i' j' = some (c, κ') → κ ++ σ = κ' ++ σ' → i = i' ∧ j = j' ∧ σ = σ'
  /-- the array's own block is new, or was its own, or another's that is gone -/
  mine : 0 < L'.room → (∀ c τ L, X.loc c τ = some L → 0 < L.room → L.g ≠ L'.g) ∨ ∃ L, X.loc b ρ = some L ∧ 0 < L.room ∧ L.g = L'.g
  old : ∀ c τ L, X.loc c τ = some L → 0 < L.room → ¬ (c = b ∧ τ = ρ) → W.heap[L.g]? = X.w.heap[L.g]?

theorem NodeAt.inj {H : List Blk} {x' : Nd} {org : Nat → Nat → Option Key} (h : NodeAt X H W b ρ L' T tk x' org) (hH : HeapOk X H) :
    ∀ c τ d υ L M, (X.node W b ρ L' T tk).loc c τ = some L → (X.node W b ρ L' T tk).loc d υ = some M → 0 < L.room → 0 < M.room → L.g = M.g → c = d ∧ τ = υ := by
  -- whence a key comes
  have from_ : ∀ c τ L, (X.node W b ρ L' T tk).loc c τ = some L → 0 < L.room → ¬ (c = b ∧ τ = ρ) → ∃ d υ M, X.loc d υ = some M ∧ 0 < M.room ∧ M.g = L.g ∧ ¬ (d = b ∧ υ = ρ) ∧
      ((c = b ∧ ∃ i j σ κ, τ = ρ ++ (i, j) :: σ ∧ org i j = some κ ∧ d = κ.1 ∧ υ = κ.2 ++ σ) ∨ (d = c ∧ υ = τ ∧ ((c = b ∧ restOf ρ τ = none) ∨ (c ≠ b ∧ c ∉ tk)))) := by
    intro c τ L hL h0 hne
    rcases node_cases hL with ⟨h1, h2, _⟩ | ⟨h1, i, j, σ, rfl, hT⟩ | ⟨h1, h2⟩
    · exact absurd ⟨h1, h2⟩ hne
    · obtain ⟨κ, L0, h3, h4, h5, h6⟩ := h.src i j σ L hT h0
      refine ⟨κ.1, κ.2 ++ σ, L0, h4, h6, h5, fun hh => ?_, .inl ⟨h1, i, j, σ, κ, rfl, h3, rfl, rfl⟩⟩
      rcases h.whence i j κ h3 with ⟨_, h8⟩ | ⟨_, i0, j0, h8⟩
      · exact h8 hh.1
      · have := hh.2
        rw [h8] at this
        have := congrArg List.length this
        simp at this
    · exact ⟨c, τ, L, h1, h0, rfl, hne, .inr ⟨rfl, rfl, h2⟩⟩
  intro c τ d υ L M hL hM h0 h0' hg
  -- the array's own block
  have own : ∀ c τ L, (X.node W b ρ L' T tk).loc c τ = some L → 0 < L.room → 0 < L'.room → L.g = L'.g → c = b ∧ τ = ρ := by
    intro c τ L hL h0 h0' hg
    by_cases hne : c = b ∧ τ = ρ
    · exact hne
    · exfalso
      obtain ⟨d, υ, M, h1, h2, h3, h4, _⟩ := from_ c τ L hL h0 hne
      rcases h.mine h0' with hh | ⟨K, h5, h6, h7⟩
      · exact hh d υ M h1 h2 (h3.trans hg)
      · exact h4 (hH.inj d υ b ρ M K h1 h5 h2 h6 (h3.trans (hg.trans h7.symm)))
  by_cases e1 : c = b ∧ τ = ρ
  · obtain ⟨rfl, rfl⟩ := e1
    rw [node_self] at hL
    cases hL
    have := own d υ M hM h0' h0 hg.symm
    exact ⟨this.1.symm, this.2.symm⟩
  · by_cases e2 : d = b ∧ υ = ρ
    · obtain ⟨rfl, rfl⟩ := e2
      rw [node_self] at hM
      cases hM
      exact own c τ L hL h0 h0' hg
    · obtain ⟨c', τ', L0, a1, a2, a3, a4, a5⟩ := from_ c τ L hL h0 e1
      obtain ⟨d', υ', M0, b1, b2, b3, b4, b5⟩ := from_ d υ M hM h0' e2
      have hj := hH.inj c' τ' d' υ' L0 M0 a1 b1 a2 b2 (a3.trans (hg.trans b3.symm))
      obtain ⟨hj1, hj2⟩ := hj
      -- what is below the array, and what is not
      have cross : ∀ {c d : Nat} {τ υ : List Stp}, (∃ i j σ κ, org i j = some κ ∧ d = κ.1 ∧ υ = κ.2 ++ σ) → ((d = b ∧ restOf ρ υ = none) ∨ (d ≠ b ∧ d ∉ tk)) → False := by
        rintro c d τ υ ⟨i, j, σ, κ, h3, rfl, rfl⟩ hh
        rcases h.whence i j κ h3 with ⟨h8, h9⟩ | ⟨h8, i0, j0, h9⟩
        · rcases hh with ⟨q, _⟩ | ⟨_, q⟩
          · exact h9 q
          · exact q h8
        · rcases hh with ⟨_, q⟩ | ⟨q, _⟩
          · rw [h9, List.append_assoc, restOf_append] at q; cases q
          · exact q h8
      rcases a5 with ⟨rfl, i, j, σ, κ, rfl, h3, h4, h5⟩ | ⟨rfl, rfl, h3⟩
      · rcases b5 with ⟨rfl, i', j', σ', κ', rfl, k3, k4, k5⟩ | ⟨rfl, rfl, k3⟩
        · obtain ⟨κ1, κ2⟩ := κ
          obtain ⟨κ1', κ2'⟩ := κ'
          have e1 : κ1 = κ1' := h4.symm.trans (hj1.trans k4)
          subst e1
          have := h.once i j i' j' κ1 κ2 κ2' σ σ' h3 k3 (h5.symm.trans (hj2.trans k5))
          obtain ⟨rfl, rfl, rfl⟩ := this
          exact ⟨rfl, rfl⟩
        · exact (cross (c := c') (d := d') (τ := τ') (υ := υ') ⟨i, j, σ, κ, h3, by rw [← hj1]; exact h4, by rw [← hj2]; exact h5⟩ k3).elim
      · rcases b5 with ⟨rfl, i', j', σ', κ', rfl, k3, k4, k5⟩ | ⟨rfl, rfl, k3⟩
        · exact (cross (c := c') (d := c') (τ := τ') (υ := τ') ⟨i', j', σ', κ', k3, hj1.trans k4, hj2.trans k5⟩ h3).elim
        · exact ⟨hj1, hj2⟩

/-- The block of an array that is put anew. -/
theorem NodeAt.root {H : List Blk} {x' : Nd} {org : Nat → Nat → Option Key} (h : NodeAt X H W b ρ L' T tk x' org) {B' : Blk}
    (hS : ∀ g off, X.R g off → W.cell? ⟨g, off, none⟩ = X.w.cell? ⟨g, off, none⟩)
    (hx : B'.sub ρ = some x') (ho : ∀ τ, restOf ρ τ = none → (X.loc b τ = none ∧ B'.sub τ = none) ∨ ∃ u v L, X.loc b τ = some L ∧ NdRel X b τ L u ∧ (u.dat = true) ∧ B'.sub τ = some v ∧ Heads u v)
    (hkeep : ∀ τ L, restOf ρ τ = none → X.loc b τ = some L → 0 < L.room → W.heap[L.g]? = X.w.heap[L.g]?)
    (hnest : ρ ≠ [] → X.loc b ρ = some L') : RootOk (X.node W b ρ L' T tk) b B' := by
  intro τ
  cases hr : restOf ρ τ with
  | some σ =>
    have e := restOf_some.1 hr
    subst e
    cases σ with
    | nil => rw [List.append_nil, hx]; exact ⟨L', node_self, h.rel⟩
    | cons s σ =>
      obtain ⟨i, j⟩ := s
      rw [Blk.sub_append hx, Nd.sub_cons, h.dat]
      have := h.tree i j σ
      simp only [true_and]
      split at this
      · rename_i u hu
        rw [hu]
        obtain ⟨L, h1, h2⟩ := this
        exact ⟨L, by rw [node_below]; exact h1, h2⟩
      · rename_i hu
        rw [hu]
        show (X.node W b ρ L' T tk).loc b _ = none
        rw [node_below]; exact this
  | none =>
    rcases ho τ hr with ⟨h1, h2⟩ | ⟨u, v, L, h1, h2, hd, h3, h4⟩
    · rw [h2]; show (X.node W b ρ L' T tk).loc b τ = none; rw [node_out hr]; exact h1
    · rw [h3]
      refine ⟨L, by rw [node_out hr]; exact h1, NdRel.heads ?_ h4⟩
      refine ⟨h2.sz, h2.len, h2.pos, h2.fit, h2.row, fun h0 => ?_⟩
      obtain ⟨cur, t, h5, h6, h7⟩ := h2.mem h0
      refine ⟨cur, t, h5.to (hkeep τ L hr h1 h0), h6, fun i j w V hi hw hV => ?_⟩
      obtain ⟨h8, h9, h10⟩ := h7 i j w V hi hw hV
      have ek : keyOf u b τ i j = some (b, τ ++ [(i, j)]) := by unfold keyOf; rw [hd]
      rw [ek] at h8 ⊢
      refine ⟨?_, h9, h10⟩
      have hdw := h10 hd
      cases w <;> first | exact hdw.elim | skip
      · cases h8; exact .pv _ _ _ (VP.stab (fun g off hr => ⟨hr, hS g off hr⟩) ‹_›)
      · cases h8 with | own _ _ _ _ _ A cap K hK hs hl hn hA =>
        cases hq : restOf ρ (τ ++ [(i, j)]) with
        | none => exact .own _ _ _ _ _ A cap K (by rw [node_out hq]; exact hK) hs hl hn hA
        | some σ =>
          have e := restOf_some.1 hq
          -- the array itself is what that cell owns
          have hσ : σ = [] := by
            cases hσ : σ.reverse with
            | nil => simpa using hσ
            | cons t q =>
              have h1 : σ = q.reverse ++ [t] := by have := congrArg List.reverse hσ; simpa using this
              rw [h1, ← List.append_assoc] at e
              have h2 := (List.append_inj' e rfl).1
              rw [h2, restOf_append] at hr
              cases hr
          subst hσ
          rw [List.append_nil] at e
          have hne : ρ ≠ [] := by rw [← e]; simp
          have h1 := hnest hne
          rw [e] at hK ⊢
          rw [h1] at hK
          cases hK
          exact .own _ _ _ _ _ A cap _ node_self hs hl hn hA
end
end Go.Bm
