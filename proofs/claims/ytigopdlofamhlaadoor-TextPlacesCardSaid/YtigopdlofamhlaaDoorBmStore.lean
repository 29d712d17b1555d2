/- The abstract machine is sound, operation by operation: stores. -/
import Derived.Test.YtigopdlofamhlaaDoorBmGraft
import Derived.Great.BuildSlice
namespace Go.Bm
set_option autoImplicit false
set_option linter.unusedVariables false
set_option linter.unusedSimpArgs false

section
variable {P : Program} {X0 X : Ctx} {st : St} {a : Act} {w : World} {ok : Ob → Prop}

/-- An array put anew, told cell by cell. -/
theorem NodeAt.mk' {H : List Blk} {W : World} {b : Nat} {ρ : List Stp} {L' : Loc} {T : Nat → Nat → List Stp → Option Loc} {tk : List Nat} {x' : Nd} {org : Nat → Nat → Option Key}
    (hR : ∀ g off, X.R g off → W.cell? ⟨g, off, none⟩ = X.w.cell? ⟨g, off, none⟩) (hsz : L'.sz = x'.sz) (hlen : L'.len = x'.n) (hpos : 0 < x'.sz) (hfit : x'.n * x'.sz ≤ L'.room) (hd : x'.dat = true) (hrow : ∀ i, i < x'.n → (x'.f i).length = x'.sz)
    {cur : Array Value} {e : TypeId} (hcur : 0 < L'.room → RowAt W L'.g cur e ∧ L'.room ≤ cur.size)
    (hcell : ∀ (i j : Nat) (v : AV), i < x'.n → (x'.f i)[j]? = some v → ∃ V, cur[i * x'.sz + j]? = some V ∧ CellG X b ρ i j v V (T i j) (org i j))
    (hnone : ∀ i j, (i < x'.n → (x'.f i)[j]? = none) → ∀ σ, T i j σ = none)
    (hwhence : ∀ i j κ, org i j = some κ → (κ.1 ∈ tk ∧ κ.1 ≠ b) ∨ (κ.1 = b ∧ ∃ i0 j0, κ.2 = ρ ++ [(i0, j0)]))
    (honce : ∀ i j i' j' c κ κ' σ σ', org i j = some (c, κ) → org i' j' = some (c, κ') → κ ++ σ = κ' ++ σ' → i = i' ∧ j = j' ∧ σ = σ')
    (hmine : 0 < L'.room → (∀ c τ L, X.loc c τ = some L → 0 < L.room → L.g ≠ L'.g) ∨ ∃ L, X.loc b ρ = some L ∧ 0 < L.room ∧ L.g = L'.g)
    (hold : ∀ c τ L, X.loc c τ = some L → 0 < L.room → ¬ (c = b ∧ τ = ρ) → W.heap[L.g]? = X.w.heap[L.g]?) : NodeAt X H W b ρ L' T tk x' org := by
  have hK : Keeps X (X.node W b ρ L' T tk) b ρ := ⟨fun g off hr => ⟨hr, hR g off hr⟩, hold⟩
  have hT : ∀ i j σ, (X.node W b ρ L' T tk).loc b (ρ ++ (i, j) :: σ) = T i j σ := fun i j σ => node_below i j σ
  refine ⟨⟨hsz, hlen, hpos, hfit, hrow, fun h0 => ?_⟩, hd, fun i j σ => ?_, fun i j σ L hTL h0 => ?_, hwhence, honce, hmine, hold⟩
  · obtain ⟨h1, h2⟩ := hcur h0
    refine ⟨cur, e, h1, h2, fun i j v V hi hv hV => ?_⟩
    obtain ⟨V', h3, h4⟩ := hcell i j v hi hv
    rw [hV] at h3
    cases h3
    have ek : keyOf x' b ρ i j = some (b, ρ ++ [(i, j)]) := by unfold keyOf; rw [hd]
    rw [ek]
    exact ⟨h4.va _ hK (hT i j), h4.one, fun _ => h4.dat⟩
  · by_cases hi : i < x'.n
    · rw [if_pos hi]
      cases hv : (x'.f i)[j]? with
      | none => exact hnone i j (fun _ => hv) σ
      | some v =>
        obtain ⟨V, _, h4⟩ := hcell i j v hi hv
        exact h4.tree _ hK (hT i j) σ
    · rw [if_neg hi]
      exact hnone i j (fun h => absurd h hi) σ
  · by_cases hx : i < x'.n ∧ ∃ v, (x'.f i)[j]? = some v
    · obtain ⟨hi, v, hv⟩ := hx
      obtain ⟨V, _, h4⟩ := hcell i j v hi hv
      exact h4.src σ L hTL h0
    · rw [hnone i j (fun hi => by
        cases hv : (x'.f i)[j]? with
        | none => rfl
        | some v => exact absurd ⟨hi, v, hv⟩ hx) σ] at hTL
      cases hTL

theorem wholeE_gives {H : Nat → Blk} {lo n N : Nat} {f g : Nat → List AV} (h : (wholeE lo n N f).Gives ok H g) : ∀ k, k < n → g k = f (lo + k) := by
  intro k hk
  unfold wholeE at h
  simp only [Ev.Gives] at h
  rcases h with ⟨hd, h⟩ | h
  · simp only [Bool.and_eq_true, decide_eq_true_eq] at hd
    rw [← h, hd.2, Nat.zero_add]
  · rw [← h]; unfold cutF; rw [if_pos hk]

theorem zrows_len : ∀ z : List PV, (zrows z).length = z.length
  | [] => rfl
  | p :: ps => by simp [zrows, zrows_len ps]

/-- A cell of a row made of a value. -/
theorem ownE_sound (hH : HeapOk X st.heap) {b : Nat} {ρ : List Stp} {i o : Nat} {B : Blk} {x : Nd} {old v : AV} {V : Value} {r : AV × List Nat}
    (hold : ∀ sz n f, old = .own sz n f → st.heap[b]? = some B ∧ B.sub ρ = some x ∧ x.dat = true ∧ i < x.n ∧ (x.f i)[o]? = some old) (hv : VA X none v V) (h1 : V.oneCell' = true) (h : (ownE b ρ i o old v).Gives ok (getB st.heap) r) :
    (∀ c ∈ r.2, c ≠ b ∧ c < st.heap.length) ∧ ∃ T og, (∀ i' j', ((∀ sz n f, old ≠ .own sz n f) ∨ (i' = i ∧ j' = o)) → CellG X b ρ i' j' r.1 V T og) ∧
      ∀ κ, og = some κ → (κ.2 = [] ∧ κ.1 ∈ r.2 ∧ κ.1 ≠ b) ∨ (κ = (b, ρ ++ [(i, o)]) ∧ ∃ sz n f, old = .own sz n f) := by
  unfold ownE at h
  split at h
  · cases h
    cases hv with | pv _ p _ hp => exact ⟨fun c hc => (by cases hc), fun _ => none, none, fun i' j' _ => CellG.pv hp, fun κ hκ => (by cases hκ)⟩
  · rename_i f
    obtain ⟨h2, h3⟩ := gives_chk h
    cases h3
    have h2 := Nat.le_of_ble_eq_true h2
    cases hv
    exact ⟨fun c hc => (by cases hc), _, none, fun i' j' _ => CellG.nil _ h2 _, fun κ hκ => (by cases hκ)⟩
  · rename_i c lo n
    obtain ⟨h2, h3⟩ := gives_chk h
    simp only [Bool.and_eq_true, Bool.not_eq_true'] at h2
    have hcb : c ≠ b := fun e => by have := h2.1; rw [e, Nat.beq_refl] at this; cases this
    have hlo := Nat.eq_of_beq_eq_true h2.2
    subst hlo
    simp only [Ev.Gives] at h3
    split at h3
    · rename_i s sz N f hC
      obtain ⟨g, hg, h4⟩ := gives_bind h3
      cases h4
      have hC' := getB_gone hC (by simp)
      have hgk := wholeE_gives hg
      cases hv with | ms _ _ _ _ _ A cap L hL hn hl hA => ?_
      have hcr := hH.blk c _ hC'
      have hsub : (Blk.arr s sz N f).sub [] = some ⟨true, sz, N, f⟩ := rfl
      obtain ⟨L1, hL1, hr⟩ := hcr.some hsub
      rw [hL] at hL1
      cases hL1
      have hnN : n ≤ N := by have := hr.len; simp only at this; omega
      refine ⟨fun c' hc' => (by cases List.mem_singleton.1 hc'; exact ⟨hcb, hH.lt c [] L hL⟩), cutLoc n fun σ => X.loc c ([] ++ σ), some (c, []), fun i' j' _ => ?_, fun κ hκ => (by cases hκ; exact .inl ⟨rfl, by simp, hcb⟩)⟩
      exact CellG.take (x := ⟨true, sz, N, f⟩) hcr hsub rfl hnN (fun k hk => by rw [hgk k hk, Nat.zero_add]) hL hn (fun h0 => by have := hA h0; simpa using this) (fun hh => hcb hh.1)
    · cases h3
  · rename_i c σ lo n hσ
    split at h
    · rename_i sz N f
      obtain ⟨h2, h3, h4⟩ := gives_chk h
      simp only [Bool.and_eq_true] at h2
      have hcb := Nat.eq_of_beq_eq_true h2.1
      have hlo := Nat.eq_of_beq_eq_true h2.2
      have hσ := of_decide_eq_true h3
      subst hcb hlo hσ
      obtain ⟨g, hg, h5⟩ := gives_bind h4
      cases h5
      have hgk := wholeE_gives hg
      obtain ⟨q1, q2, q3, q4, q5⟩ := hold sz N f rfl
      cases hv with | ms _ _ _ _ _ A cap L hL hn hl hA => ?_
      have hcr := hH.blk c _ q1
      have hsub : B.sub (ρ ++ [(i, o)]) = some ⟨true, sz, N, f⟩ := by
        rw [Blk.sub_append q2, Nd.sub_cons, q3]
        simp only [true_and, q4, if_true, q5, Option.bind_some]
        rfl
      obtain ⟨L1, hL1, hr⟩ := hcr.some hsub
      rw [hL] at hL1
      cases hL1
      have hnN : n ≤ N := by have := hr.len; simp only at this; omega
      refine ⟨fun c' hc' => (by cases hc'), cutLoc n fun σ => X.loc c (ρ ++ [(i, o)] ++ σ), some (c, ρ ++ [(i, o)]), fun i' j' hij => ?_, fun κ hκ => (by cases hκ; exact .inr ⟨rfl, sz, N, f, rfl⟩)⟩
      exact CellG.take (x := ⟨true, sz, N, f⟩) hcr hsub rfl hnN (fun k hk => by rw [hgk k hk, Nat.zero_add]) hL hn (fun h0 => by have := hA h0; simpa using this) (fun hh => by
        obtain ⟨_, τ, hτ⟩ := hh
        have := congrArg List.length hτ
        simp at this)
    · cases h
  · cases h

theorem noDup_nodup : ∀ {l : List Nat}, noDup l = true → l.Nodup
  | [], _ => .nil
  | x :: xs, h => by
    simp only [noDup, Bool.and_eq_true, Bool.not_eq_true'] at h
    refine List.nodup_cons.2 ⟨fun hx => ?_, noDup_nodup h.2⟩
    have h1 := h.1
    rw [List.elem_eq_true_of_mem hx] at h1
    cases h1

/-- Cells of a row made of values, one by one. -/
theorem ownsE_sound (hH : HeapOk X st.heap) {b : Nat} {ρ : List Stp} {i : Nat} {B : Blk} {x : Nd} : ∀ (vs : List AV) (Vs : List Value) (olds : List AV) (o : Nat) (r : List AV × List Nat),
    (∀ j sz n f, olds[j]? = some (.own sz n f) → st.heap[b]? = some B ∧ B.sub ρ = some x ∧ x.dat = true ∧ i < x.n ∧ (x.f i)[o + j]? = olds[j]?) → Vs.length = vs.length →
    (∀ (j : Nat) (v : AV) (V : Value), vs[j]? = some v → Vs[j]? = some V → VA X none v V ∧ V.oneCell' = true) → (ownsE b ρ i o olds vs).Gives ok (getB st.heap) r →
    r.1.length = vs.length ∧ (∀ c ∈ r.2, c ≠ b ∧ c < st.heap.length) ∧ ∃ (T : Nat → List Stp → Option Loc) (og : Nat → Option Key),
      (∀ (j : Nat) (v : AV) (V : Value), r.1[j]? = some v → Vs[j]? = some V → ∀ i' j', (olds = [] ∨ (i' = i ∧ j' = o + j)) → CellG X b ρ i' j' v V (T j) (og j)) ∧
      (∀ j κ, og j = some κ → (κ.2 = [] ∧ κ.1 ∈ r.2 ∧ κ.1 ≠ b) ∨ (κ = (b, ρ ++ [(i, o + j)]) ∧ olds ≠ [])) ∧
      (r.2.Nodup → ∀ j j' κ, og j = some κ → og j' = some κ → j = j')
  | [], Vs, olds, o, r, hold, hl, hv, h => by
    cases h
    exact ⟨rfl, fun c hc => (by cases hc), fun _ _ => none, fun _ => none, fun j v V hj => (by cases hj), fun j κ hκ => (by cases hκ), fun _ j j' κ hκ => (by cases hκ)⟩
  | v :: vs, [], olds, o, r, hold, hl, hv, h => by simp at hl
  | v :: vs, V :: Vs, olds, o, r, hold, hl, hv, h => by
    simp only [ownsE] at h
    obtain ⟨r1, h1, h2⟩ := gives_bind h
    obtain ⟨r2, h3, h4⟩ := gives_bind h2
    cases h4
    have h0 := hv 0 v V rfl rfl
    have hhd : ∀ sz n f, olds.headD dead = .own sz n f → st.heap[b]? = some B ∧ B.sub ρ = some x ∧ x.dat = true ∧ i < x.n ∧ (x.f i)[o]? = some (olds.headD dead) := by
      intro sz n f e
      cases olds with
      | nil => cases e
      | cons q qs =>
        have e : q = .own sz n f := e
        have := hold 0 sz n f (by rw [e]; rfl)
        exact this
    obtain ⟨k1, T1, og1, k2, k3⟩ := ownE_sound (B := B) (x := x) hH hhd h0.1 h0.2 h1
    obtain ⟨m1, m2, T2, og2, m3, m4, m5⟩ := ownsE_sound hH (B := B) (x := x) vs Vs olds.tail (o + 1) r2 (fun j sz n f e => by
      have e' : olds[j + 1]? = some (.own sz n f) := by rw [← e, List.getElem?_tail]
      have := hold (j + 1) sz n f e'
      rw [List.getElem?_tail, show o + 1 + j = o + (j + 1) by omega]
      exact this) (by simpa using hl) (fun j v V hj hV => hv (j + 1) v V hj hV) h3
    have tl : olds = [] → olds.tail = [] := fun e => by rw [e]; rfl
    have ne : (∃ sz n f, olds.headD dead = .own sz n f) → olds ≠ [] := by
      rintro ⟨sz, n, f, e⟩ e'
      rw [e'] at e; cases e
    refine ⟨by simp [m1], fun c hc => ?_, fun j => match j with | 0 => T1 | j + 1 => T2 j, fun j => match j with | 0 => og1 | j + 1 => og2 j, fun j v' V' hj hV i' j' hij => ?_, fun j κ hκ => ?_, fun hnd j j' κ hκ hκ' => ?_⟩
    · rcases List.mem_append.1 hc with hc | hc
      · exact k1 c hc
      · exact m2 c hc
    · cases j with
      | zero =>
        cases hj; cases hV
        refine k2 i' j' ?_
        rcases hij with rfl | ⟨rfl, rfl⟩
        · exact .inl fun sz n f e => by cases e
        · exact .inr ⟨rfl, by simp⟩
      | succ j =>
        refine m3 j v' V' hj hV i' j' ?_
        rcases hij with e | ⟨rfl, rfl⟩
        · exact .inl (tl e)
        · exact .inr ⟨rfl, by omega⟩
    · cases j with
      | zero =>
        rcases k3 κ hκ with ⟨q1, q2, q3⟩ | ⟨q1, q2⟩
        · exact .inl ⟨q1, List.mem_append_left _ q2, q3⟩
        · exact .inr ⟨q1, ne q2⟩
      | succ j =>
        rcases m4 j κ hκ with ⟨q1, q2, q3⟩ | ⟨q1, q2⟩
        · exact .inl ⟨q1, List.mem_append_right _ q2, q3⟩
        · exact .inr ⟨by rw [q1, show o + (j + 1) = o + 1 + j by omega], fun e => q2 (tl e)⟩
    · have hnd := List.nodup_append.1 hnd
      have cross : ∀ j κ, og1 = some κ → og2 j = some κ → False := by
        intro j κ e1 e2
        rcases k3 κ e1 with ⟨q1, q2, q3⟩ | ⟨q1, q2⟩ <;> rcases m4 j κ e2 with ⟨p1, p2, p3⟩ | ⟨p1, p2⟩
        · exact hnd.2.2 _ q2 _ p2 rfl
        · rw [p1] at q3; exact q3 rfl
        · rw [q1] at p3; exact p3 rfl
        · rw [q1] at p1
          have := List.append_cancel_left (congrArg Prod.snd p1)
          simp at this
          omega
      cases j with
      | zero =>
        cases j' with
        | zero => rfl
        | succ j' => exact (cross j' κ hκ hκ').elim
      | succ j =>
        cases j' with
        | zero => exact (cross j κ hκ' hκ).elim
        | succ j' => rw [m5 hnd.2.1 j j' κ hκ hκ']

theorem run_storeCells_fr (g o : Nat) (t : TypeId) : ∀ (vs : List Value) (i : Nat) (cur : Array Value) (w : World), RowAt w g cur t → o + i + vs.length ≤ cur.size → (∀ v ∈ vs, v.oneCell' = true) →
    (storeCells ⟨g, o, none⟩ vs i).run P w = .ok () (w.setRow g (cur.toList.take (o + i) ++ vs ++ cur.toList.drop (o + i + vs.length)).toArray)
  | [], i, cur, w, hg, _, _ => by
    obtain ⟨fr, hg, _⟩ := hg
    simp only [storeCells, List.append_nil, List.length_nil, Nat.add_zero, List.take_append_drop, Array.toArray_toList]
    rw [setRow_self w g cur t fr hg]
    rfl
  | v :: rest, i, cur, w, hg', hl, h1 => by
    have hi : o + i < cur.size := by simp at hl; omega
    obtain ⟨fr, hg, hfr⟩ := hg'
    have hadd : (⟨g, o, none⟩ : Addr).add i = ⟨g, o + i, none⟩ := by unfold Addr.add; split <;> simp_all
    have hcell : w.cell? ⟨g, o + i, none⟩ = some cur[o + i] := by simp [World.cell?, hg, hi]
    have hfro : w.frozen? ⟨g, o + i, none⟩ = false := by
      simp only [World.frozen?, hg]
      rcases hfr with e | e
      · rw [e]; simp
      · simp; omega
    have hst : (store ((⟨g, o, none⟩ : Addr).add i) v).run P w = .ok () (w.setRow g (cur.setIfInBounds (o + i) v)) := by
      rw [hadd, run_store P w _ v _ (h1 v (by simp)), hcell]
      simp [hfro, setCell_eq_setRow w g (o + i) cur t fr v hg]
    have ih := run_storeCells_fr g o t rest (i + 1) (cur.setIfInBounds (o + i) v) (w.setRow g (cur.setIfInBounds (o + i) v)) (RowAt.set ⟨fr, hg, hfr⟩ (by simp)) (by simp at hl ⊢; omega) (fun x hx => h1 x (by simp [hx]))
    simp only [storeCells, Sem.run_bind, hst, Result.andThen_ok, ih, setRow_setRow]
    congr 3
    have e := list_seg_step cur.toList (o + i) v rest (by simp at hl ⊢; omega)
    simpa [Array.toList_setIfInBounds, Nat.add_assoc] using e
theorem store_run {t : TypeId} {g o : Nat} {V : Value} {n : Nat} {cur : Array Value} {e : TypeId} (hn : sizeT P t = some n) (hl : V.cells.size = n) (hg : RowAt w g cur e) (hle : o + n ≤ cur.size) (h1 : ∀ v ∈ V.cells.toList, v.oneCell' = true) :
    (Instr.storeAt t (.pointer (some ⟨g, o, none⟩)) V).run P w = .ok () (w.setRow g (splice cur.toList o V.cells.toList).toArray) := by
  have := run_storeCells_fr (P := P) g o e V.cells.toList 0 cur w hg (by simpa [hl] using hle) h1
  simp only [Nat.add_zero] at this
  simp [Instr.storeAt, Instr.sureAddr, storeVar, sizeOf_run hn, hl, this, splice]

theorem index_split {sz i i' j o n : Nat} (hj : j < sz) (ho : o + n ≤ sz) : (i * sz + o ≤ i' * sz + j ∧ i' * sz + j < i * sz + o + n) ↔ (i' = i ∧ o ≤ j ∧ j < o + n) := by
  constructor
  · rintro ⟨h1, h2⟩
    have : i' = i := by
      rcases Nat.lt_trichotomy i' i with h | h | h
      · have : (i' + 1) * sz ≤ i * sz := Nat.mul_le_mul_right sz h
        rw [Nat.add_mul, Nat.one_mul] at this
        omega
      · exact h
      · have : (i + 1) * sz ≤ i' * sz := Nat.mul_le_mul_right sz h
        rw [Nat.add_mul, Nat.one_mul] at this
        omega
    subst this
    exact ⟨rfl, by omega, by omega⟩
  · rintro ⟨rfl, h1, h2⟩; omega
theorem all_get {α : Type} {p : α → Bool} {cs : List α} (h : cs.all p = true) {j : Nat} {v : α} (hv : cs[j]? = some v) : p v = true := List.all_eq_true.1 h v (List.mem_of_getElem? hv)

/-- The cells of one element of a row put anew. -/
theorem row_put (h : Inv X0 X st a w) {b : Nat} {ρ : List Stp} {i o : Nat} {L : Loc} {s t : Nat} {sz N : Nat} {f : Nat → List AV} {y : Nd} (hL : X.loc b ρ = some L) (hi : i < L.len) (hB : st.heap[b]? = some (.arr s sz N f)) (hy : Nd.go ⟨true, sz, N, f⟩ ρ = some y)
    {ws : List AV} {Vs : List Value} (hlen : ws.length = Vs.length) (hon : o + Vs.length ≤ (y.f i).length) {tk : List Nat} {T0 : Nat → List Stp → Option Loc} {og : Nat → Option Key}
    (hcell : ∀ (j : Nat) (v : AV) (V : Value), ws[j]? = some v → Vs[j]? = some V → CellG X b ρ i (o + j) v V (T0 j) (og j)) (hog : ∀ j κ, og j = some κ → (κ.2 = [] ∧ κ.1 ∈ tk ∧ κ.1 ≠ b) ∨ κ = (b, ρ ++ [(i, o + j)]))
    (honce : ∀ j j' κ, og j = some κ → og j' = some κ → j = j') (htk : ∀ c ∈ tk, c ≠ b ∧ c < st.heap.length)
    {e : Eff} (he : e.hb = (b, Blk.put (.arr t sz N f) ρ i fun cs => splice cs o ws) :: goneL tk) (hsc1 : ∀ c ∈ tk, (c, false) ∈ e.sc) (hsc2 : hasOwn (part (y.f i) o Vs.length) = true → (b, true) ∈ e.sc) (ht : ∀ τ, keeps t τ = true → keeps s τ = true ∧ scrR e.sc b (!τ.isEmpty) = some b) (hval : e.val = dead) (dst : Option Nat) (U : Value) :
    ∃ (X' : Ctx) (cur : Array Value) (ty : TypeId), RowAt w L.g cur ty ∧ i * L.sz + o + Vs.length ≤ cur.size ∧ Inv X0 X' (e.on dst st) (a.put dst U) (w.setRow L.g (splice cur.toList (i * L.sz + o) Vs).toArray) ∧ X'.loc b ρ = some L := by
  have hw := h.hw
  subst hw
  have hroot := h.heap.blk b _ hB
  obtain ⟨y', hy', hr⟩ := hroot.of_loc hL
  have hgo := Nd.go_of_sub (show Nd.sub ⟨true, sz, N, f⟩ ρ = some y' from hy')
  rw [hy] at hgo
  cases hgo
  have hd : y.dat = true := by
    cases ρ with
    | nil => cases hy'; rfl
    | cons s ρ => exact Nd.sub_dat (by simp) (show Nd.sub ⟨true, sz, N, f⟩ (s :: ρ) = some y from hy')
  have hi' : i < y.n := by rw [← hr.len]; exact hi
  have h0 := room_of hr hi
  obtain ⟨cur, ty, hb, hc, hm⟩ := hr.mem h0
  have hrow := hr.row i hi'
  rw [hrow] at hon
  have hend : (i + 1) * y.sz ≤ y.n * y.sz := Nat.mul_le_mul_right y.sz hi'
  rw [Nat.add_mul, Nat.one_mul] at hend
  have hfit := hr.fit
  have hctl : cur.toList.length = cur.size := Array.length_toList
  have hle : i * y.sz + o + Vs.length ≤ cur.toList.length := by rw [hctl]; omega
  rw [hr.sz]
  let W := X.w.setRow L.g (splice cur.toList (i * y.sz + o) Vs).toArray
  let T : Nat → Nat → List Stp → Option Loc := fun i' j σ => if i' = i ∧ o ≤ j ∧ j < o + Vs.length then T0 (j - o) σ else X.loc b (ρ ++ (i', j) :: σ)
  let org : Nat → Nat → Option Key := fun i' j => if i' = i ∧ o ≤ j ∧ j < o + Vs.length then og (j - o) else some (b, ρ ++ [(i', j)])
  let x' : Nd := { y with f := upd y.f i (splice (y.f i) o ws) }
  have hgs : RowAt W L.g (splice cur.toList (i * y.sz + o) Vs).toArray ty := hb.set (by rw [List.size_toArray, splice_len _ _ _ hle, hctl])
  have hWr : Wr X L.g := ⟨b, ρ, L, hL, h0, rfl⟩
  have hstep : WStep X W L := .wrote L.g (Wrote.row _ _ _) hWr fun _ => hWr
  have hold : ∀ c τ M, X.loc c τ = some M → 0 < M.room → ¬ (c = b ∧ τ = ρ) → W.heap[M.g]? = X.w.heap[M.g]? := fun c τ M hM hm0 hne => setRow_other X.w L.g M.g _ fun e' => hne (h.heap.inj c τ b ρ M L hM hL hm0 h0 e')
  have hsplen : o + ws.length ≤ (y.f i).length := by rw [hlen, hrow]; exact hon
  have hput := fun i' (hne : i' ≠ i) => (show upd y.f i (splice (y.f i) o ws) i' = y.f i' by simp [upd, hne])
  have hput0 : upd y.f i (splice (y.f i) o ws) i = splice (y.f i) o ws := by simp [upd]
  -- the cells
  have hcells : ∀ (i' j : Nat) (v : AV), i' < x'.n → (x'.f i')[j]? = some v → ∃ V, (splice cur.toList (i * y.sz + o) Vs).toArray[i' * x'.sz + j]? = some V ∧ CellG X b ρ i' j v V (T i' j) (org i' j) := by
    intro i' j v hi'' hv
    have hv : (upd y.f i (splice (y.f i) o ws) i')[j]? = some v := hv
    have hjs : j < y.sz := by
      have hlt := (List.getElem?_eq_some_iff.1 hv).1
      by_cases e1 : i' = i
      · subst e1; rw [hput0, splice_len _ _ _ hsplen, hrow] at hlt; exact hlt
      · rw [hput i' e1, hr.row i' hi''] at hlt; exact hlt
    have hget : (splice cur.toList (i * y.sz + o) Vs).toArray[i' * y.sz + j]? = if i' = i ∧ o ≤ j ∧ j < o + Vs.length then Vs[j - o]? else cur[i' * y.sz + j]? := by
      rw [List.getElem?_toArray, splice_get hle]
      by_cases hq : i' = i ∧ o ≤ j ∧ j < o + Vs.length
      · rw [if_pos hq, if_pos ((index_split hjs hon).2 hq)]
        obtain ⟨rfl, q1, q2⟩ := hq
        congr 1; omega
      · rw [if_neg hq, if_neg fun hh => hq ((index_split hjs hon).1 hh)]
        exact Array.getElem?_toList
    by_cases hq : i' = i ∧ o ≤ j ∧ j < o + Vs.length
    · obtain ⟨rfl, q1, q2⟩ := hq
      rw [hput0, splice_get hsplen, if_pos (by omega)] at hv
      have hV : Vs[j - o]? = some (Vs[j - o]'(by omega)) := List.getElem?_eq_getElem _
      refine ⟨_, by show (splice cur.toList (i' * y.sz + o) Vs).toArray[i' * y.sz + j]? = _; rw [hget, if_pos ⟨rfl, q1, q2⟩]; exact hV, ?_⟩
      have := hcell (j - o) v _ hv hV
      rw [show o + (j - o) = j by omega] at this
      have e1 : T i' j = T0 (j - o) := by funext σ; exact if_pos ⟨rfl, q1, q2⟩
      have e2 : org i' j = og (j - o) := if_pos ⟨rfl, q1, q2⟩
      rw [e1, e2]
      exact this
    · have hv' : (y.f i')[j]? = some v := by
        by_cases e1 : i' = i
        · subst e1
          rw [hput0, splice_get hsplen, if_neg (by rw [hlen]; intro hh; exact hq ⟨rfl, hh⟩)] at hv
          exact hv
        · rw [hput i' e1] at hv; exact hv
      have hlt := lt_mul_of hi'' hjs
      have hlt' : i' * y.sz + j < y.n * y.sz := hlt
      have hV : cur[i' * y.sz + j]? = some (cur[i' * y.sz + j]'(by omega)) := Array.getElem?_eq_getElem _
      obtain ⟨g1, g2, g3⟩ := hm i' j v _ hi'' hv' hV
      refine ⟨_, by show (splice cur.toList (i * y.sz + o) Vs).toArray[i' * y.sz + j]? = _; rw [hget, if_neg hq]; exact hV, ?_⟩
      have e1 : T i' j = fun σ => X.loc b (ρ ++ (i', j) :: σ) := by funext σ; exact if_neg hq
      have e2 : org i' j = some (b, ρ ++ [(i', j)]) := if_neg hq
      rw [e1, e2]
      exact CellG.move hroot hy' hd hi'' hv' g1 g2 (g3 hd) fun hh => by obtain ⟨_, σ, hσ⟩ := hh; exact path_ne hσ
  have hN : NodeAt X st.heap W b ρ L T tk x' org := by
    refine NodeAt.mk' (cur := (splice cur.toList (i * y.sz + o) Vs).toArray) (e := ty) (hstep.R h.heap h.fresh) hr.sz hr.len hr.pos hr.fit hd (fun i' hi'' => ?_) (fun _ => ⟨hgs, ?_⟩) hcells (fun i' j hn σ => ?_) (fun i' j κ hκ => ?_) (fun i1 j1 i2 j2 c κ κ' σ σ' e1 e2 e3 => ?_) (fun _ => .inr ⟨L, hL, h0, rfl⟩) hold
    · by_cases e1 : i' = i
      · subst e1; show (upd y.f i' (splice (y.f i') o ws) i').length = y.sz; rw [hput0, splice_len _ _ _ hsplen]; exact hrow
      · show (upd y.f i (splice (y.f i) o ws) i').length = y.sz; rw [hput i' e1]; exact hr.row i' hi''
    · rw [List.size_toArray, splice_len _ _ _ hle, hctl]; exact hc
    · have hq : ¬ (i' = i ∧ o ≤ j ∧ j < o + Vs.length) := by
        rintro ⟨rfl, q1, q2⟩
        have h1 : (upd y.f i' (splice (y.f i') o ws) i')[j]? = none := hn hi'
        rw [hput0, List.getElem?_eq_none_iff, splice_len _ _ _ hsplen, hrow] at h1
        omega
      show (if i' = i ∧ o ≤ j ∧ j < o + Vs.length then T0 (j - o) σ else X.loc b (ρ ++ (i', j) :: σ)) = none
      rw [if_neg hq]
      refine hroot.none ?_
      rw [Blk.sub_append hy', Nd.sub_cons, hd]
      simp only [true_and]
      split
      · rename_i hlt
        have h1 : (upd y.f i (splice (y.f i) o ws) i')[j]? = none := hn hlt
        have h2 : (y.f i')[j]? = none := by
          by_cases e1 : i' = i
          · subst e1
            rw [hput0, splice_get hsplen, if_neg (by rw [hlen]; intro hh; exact hq ⟨rfl, hh⟩)] at h1
            exact h1
          · rw [hput i' e1] at h1; exact h1
        rw [h2]; rfl
      · rfl
    · simp only [org] at hκ
      split at hκ
      · rename_i hq
        rcases hog _ κ hκ with ⟨_, q2, q3⟩ | rfl
        · exact .inl ⟨q2, q3⟩
        · exact .inr ⟨rfl, _, _, rfl⟩
      · cases hκ; exact .inr ⟨rfl, _, _, rfl⟩
    · -- whence comes what is owned
      have key : ∀ i' j c κ, org i' j = some (c, κ) → (∃ j0, i' = i ∧ j = o + j0 ∧ og j0 = some (c, κ) ∧ κ = [] ∧ c ≠ b) ∨ (c = b ∧ κ = ρ ++ [(i', j)]) := by
        intro i' j c κ hκ
        simp only [org] at hκ
        split at hκ
        · rename_i hq
          obtain ⟨rfl, q1, q2⟩ := hq
          rcases hog _ _ hκ with ⟨p1, p2, p3⟩ | p
          · exact .inl ⟨j - o, rfl, by omega, hκ, p1, p3⟩
          · cases p; exact .inr ⟨rfl, by rw [show o + (j - o) = j by omega]⟩
        · cases hκ; exact .inr ⟨rfl, rfl⟩
      rcases key i1 j1 c κ e1 with ⟨a1, rfl, rfl, a2, rfl, a3⟩ | ⟨rfl, rfl⟩
      · rcases key i2 j2 c κ' e2 with ⟨a1', rfl, rfl, a2', rfl, a3'⟩ | ⟨rfl, rfl⟩
        · have := honce _ _ _ a2 a2'
          subst this
          exact ⟨rfl, rfl, by simpa using e3⟩
        · exact absurd rfl a3
      · rcases key i2 j2 c κ' e2 with ⟨a1', rfl, rfl, a2', rfl, a3'⟩ | ⟨_, rfl⟩
        · exact absurd rfl a3'
        · simp only [List.append_assoc, List.append_cancel_left_eq, List.singleton_append, List.cons.injEq, Prod.mk.injEq] at e3
          exact ⟨e3.1.1, e3.1.2, e3.2⟩
  have hblt := h.heap.lt b ρ L hL
  have eB : ∀ τ, (Blk.put (.arr t sz N f) ρ i fun cs => splice cs o ws).sub τ = (Nd.put ⟨true, sz, N, f⟩ ρ i fun cs => splice cs o ws).sub τ := by
    intro τ
    have e' := Nd.put_sz ⟨true, sz, N, f⟩ ρ i fun cs => splice cs o ws
    show Nd.sub ⟨true, sz, N, (Nd.put ⟨true, sz, N, f⟩ ρ i fun cs => splice cs o ws).f⟩ τ = _
    conv => rhs; rw [← Nd.eta (Nd.put ⟨true, sz, N, f⟩ ρ i fun cs => splice cs o ws), e'.1, e'.2.1, e'.2.2]
  have hroot' : RootOk (X.node W b ρ L T tk) b (Blk.put (.arr t sz N f) ρ i fun cs => splice cs o ws) := by
    refine hN.root (hstep.R h.heap h.fresh) (by rw [eB]; exact Nd.put_self i _ (show Nd.sub ⟨true, sz, N, f⟩ ρ = some y from hy')) (fun τ hτ => ?_) (fun τ M hτ hM hm0 => hold b τ M hM hm0 fun hh => by rw [hh.2, restOf_self] at hτ; cases hτ) (fun _ => hL)
    rcases Nd.put_other i (fun cs => splice cs o ws) (show Nd.sub ⟨true, sz, N, f⟩ ρ = some y from hy') hτ with ⟨p1, p2⟩ | ⟨u, v, p1, p2, p3⟩
    · exact .inl ⟨hroot.none p1, by rw [eB]; exact p2⟩
    · obtain ⟨M, q1, q2⟩ := hroot.some (show (Blk.arr s sz N f).sub τ = some u from p1)
      refine .inr ⟨u, v, M, q1, q2, ?_, by rw [eB]; exact p2, p3⟩
      cases τ with
      | nil => cases p1; rfl
      | cons t τ => exact Nd.sub_dat (by simp) p1
  have hren : ∀ c τ d M, scrR e.sc c (!τ.isEmpty) = some d → X.loc c τ = some M → (X.node W b ρ L T tk).loc d τ = some M := by
    intro c τ d M hd' hM
    obtain ⟨rfl, hs⟩ := scr_some hd'
    have hct : d ∉ tk := fun hc' => by have := (hs _ (hsc1 d hc') rfl).1; cases this
    by_cases hcb : d = b
    · subst hcb
      cases hq : restOf ρ τ with
      | none => rw [node_out hq]; exact hM
      | some σ =>
        have e' := restOf_some.1 hq
        subst e'
        cases σ with
        | nil => rw [List.append_nil] at hM ⊢; rw [node_self]; rw [hL] at hM; exact hM
        | cons t σ =>
          obtain ⟨i', j⟩ := t
          rw [node_below]
          show (if i' = i ∧ o ≤ j ∧ j < o + Vs.length then T0 (j - o) σ else X.loc d (ρ ++ (i', j) :: σ)) = some M
          by_cases hq : i' = i ∧ o ≤ j ∧ j < o + Vs.length
          · exfalso
            obtain ⟨rfl, q1, q2⟩ := hq
            have hcl : (y.f i')[j]? = some ((y.f i')[j]'(by omega)) := List.getElem?_eq_getElem _
            obtain ⟨u, hu, _⟩ := hroot.of_loc hM
            rw [Blk.sub_append hy', Nd.sub_cons, hd] at hu
            simp only [true_and, hi', if_true, hcl, Option.bind_some] at hu
            have hown : isOwn ((y.f i')[j]'(by omega)) = true := by
              cases hh : (y.f i')[j]'(by omega) <;> first | rfl | (rw [hh] at hu; cases hu)
            have : hasOwn (part (y.f i') o Vs.length) = true := by
              refine List.any_eq_true.2 ⟨_, List.mem_of_getElem? (i := j - o) (a := (y.f i')[j]'(by omega)) ?_, hown⟩
              simp only [Bm.part, List.getElem?_take, List.getElem?_drop, show j - o < Vs.length by omega, if_true, show o + (j - o) = j by omega]
              exact hcl
            have := (hs _ (hsc2 this) rfl).2
            simp at this
          · rw [if_neg hq]; exact hM
    · rw [node_ne hcb hct]; exact hM
  refine ⟨X.node W b ρ L T tk, cur, ty, hb, by rw [← hctl]; exact hle, h.node hN hstep he hblt (fun c hc' => ⟨(htk c hc').2, (htk c hc').1⟩) hroot' hren (fun τ hτ K hK => ?_) fun d _ => by rw [hval]; exact .dead _ _, node_self⟩
  obtain ⟨h1, h2⟩ := ht τ hτ
  exact hren b τ b K h2 (h.base b _ hB τ h1 K hK)
end
end Go.Bm
