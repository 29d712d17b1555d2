/- The abstract machine is sound, operation by operation: an append to an array that a block holds. -/
import Derived.Test.YtigopdlofamhlaaDoorBmLit
namespace Go.Bm
set_option autoImplicit false
set_option linter.unusedVariables false
set_option linter.unusedSimpArgs false

section
variable {P : Program} {X0 X : Ctx} {st : St} {a : Act} {w W : World} {ok : Ob → Prop}

/-- What is appended, and whence it comes. -/
structure SrcOk (X : Ctx) (H : List Blk) (b : Nat) (Vx : Value) (m : Nat) (g : Nat → List AV) (tk : List Nat) (B : Option Addr) (c sz : Nat) (C : Nat → Nat → Value) (T : Nat → Nat → List Stp → Option Loc) (og : Nat → Nat → Option Key) : Prop where
  val : Vx = .slice B m c
  row : ∀ i, i < m → (g i).length = sz
  mem : 0 < m → ∃ k o, B = some ⟨k, o, none⟩ ∧ ∀ i j, i < m → j < sz → X.w.cell? ⟨k, o + (i * sz + j), none⟩ = some (C i j)
  tkb : ∀ c ∈ tk, c ≠ b ∧ c < H.length
  cell : ∀ (i j : Nat) (v : AV), i < m → (g i)[j]? = some v → ∀ i' j', CellG X b [] i' j' v (C i j) (T i j) (og i j)
  src : ∀ i j κ, og i j = some κ → κ.1 ∈ tk ∧ κ.1 ≠ b ∧ κ.2 = [(i, j)]
  one : tk.Nodup ∧ tk.length ≤ 1

theorem pv_of_scal {κ : Option Key} {v : AV} {V : Value} (h : VA X κ v V) (ho : V.oneCell' = true) : ∃ p, v.scal = .pv p ∧ VP X.R X.w p V := by
  cases h <;> first
    | exact ⟨_, rfl, .bad _ ho⟩
    | exact ⟨_, rfl, ‹_›⟩

theorem srcE_sound {H : List Blk} (hH : HeapOk X H) {own : Bool} {b : Nat} {x : AV} {Vx : Value} (hx : VA X none x Vx) {r : Nat × (Nat → List AV) × List Nat} (h : (srcE own b x).Gives ok (getB H) r) :
    ∃ B c sz C T og, SrcOk X H b Vx r.1 r.2.1 r.2.2 B c sz C T og := by
  unfold srcE at h
  split at h
  · rename_i n f
    cases h
    cases hx with | pv _ _ _ hp => ?_
    cases hp with | seq _ _ A cap sz C hn hs hA hp => ?_
    refine ⟨A, cap, sz, C, fun _ _ _ => none, fun _ _ => none, rfl, fun i hi => by simp [hs i hi], fun h0 => ?_, fun c hc => (by cases hc), fun i j v hi hv i' j' => ?_, fun i j κ hκ => (by cases hκ), ⟨.nil, by simp⟩⟩
    · obtain ⟨k, o, e, hc⟩ := hA h0
      exact ⟨k, o, e, fun i j hi hj => (hc i j hi hj).2⟩
    · have hv : ((f i).map AV.pv)[j]? = some v := hv
      rw [List.getElem?_map] at hv
      cases hq : (f i)[j]? with
      | none => rw [hq] at hv; cases hv
      | some p => rw [hq] at hv; cases hv; exact CellG.pv (hp i j p hi hq)
  · rename_i kb n f
    cases h
    cases hx with | pv _ _ _ hp => ?_
    cases hp with | seqk _ _ _ A cap hp hb => ?_
    cases hp with | seq _ _ _ _ sz C hn hs hA hp => ?_
    refine ⟨A, cap, sz, C, fun _ _ _ => none, fun _ _ => none, rfl, fun i hi => by simp [hs i hi], fun h0 => ?_, fun c hc => (by cases hc), fun i j v hi hv i' j' => ?_, fun i j κ hκ => (by cases hκ), ⟨.nil, by simp⟩⟩
    · obtain ⟨k, o, e, hc⟩ := hA h0
      exact ⟨k, o, e, fun i j hi hj => (hc i j hi hj).2⟩
    · have hv : ((f i).map AV.pv)[j]? = some v := hv
      rw [List.getElem?_map] at hv
      cases hq : (f i)[j]? with
      | none => rw [hq] at hv; cases hv
      | some p => rw [hq] at hv; cases hv; exact CellG.pv (hp i j p hi hq)
  · cases h
    cases hx with | nil _ f A => ?_
    exact ⟨A, 0, 0, fun _ _ => undef, fun _ _ _ => none, fun _ _ => none, rfl, fun i hi => absurd hi (Nat.not_lt_zero i), fun h0 => absurd h0 (Nat.lt_irrefl 0), fun c hc => (by cases hc), fun i j v hi => absurd hi (Nat.not_lt_zero i), fun i j κ hκ => (by cases hκ), ⟨.nil, by simp⟩⟩
  · rename_i c σ lo n
    obtain ⟨h1, h2⟩ := gives_chk h
    obtain ⟨y, hy, h3⟩ := gives_bind h2
    obtain ⟨hd, h4⟩ := gives_chk h3
    have hcb : c ≠ b := fun e => by rw [e, Nat.beq_refl] at h1; cases h1
    cases hx with | ms _ _ _ _ _ A cap L hL hn hl hA => ?_
    obtain ⟨hr, hB, hsub⟩ := node_of hH hL hy
    have hroot := hH.blk c _ hB
    have hmem : 0 < n → ∃ (cur : Array Value) (e : TypeId), RowAt X.w L.g cur e ∧ L.room ≤ cur.size ∧ A = some ⟨L.g, lo * y.sz, none⟩ ∧ (∀ i j v V, i < y.n → (y.f i)[j]? = some v → cur[i * y.sz + j]? = some V → VA X (keyOf y c σ i j) v V ∧ V.oneCell' = true ∧ (y.dat = true → Dat v)) := by
      intro h0
      obtain ⟨e1, e2⟩ := hA (by omega)
      have h00 : 0 < L.room := by
        have h5 := hr.fit
        have h6 := lt_mul_of (show 0 < y.n by rw [← hr.len]; omega) hr.pos
        omega
      obtain ⟨cur, e, q1, q2, q3⟩ := hr.mem h00
      exact ⟨cur, e, q1, q2, by rw [← hr.sz]; exact e1, q3⟩
    have hlN : lo + n ≤ y.n := by rw [← hr.len]; exact hl
    -- the cells' values
    have hval : ∃ C : Nat → Nat → Value, (0 < n → ∃ k o, A = some ⟨k, o, none⟩ ∧ ∀ i j, i < n → j < y.sz → X.w.cell? ⟨k, o + (i * y.sz + j), none⟩ = some (C i j)) ∧
        ∀ i j v, i < n → (y.f (lo + i))[j]? = some v → VA X (keyOf y c σ (lo + i) j) v (C i j) ∧ (C i j).oneCell' = true ∧ Dat v := by
      rcases Nat.eq_zero_or_pos n with h0 | h0
      · exact ⟨fun _ _ => undef, fun hh => by omega, fun i j v hi => by omega⟩
      · obtain ⟨cur, e, q1, q2, q3, q4⟩ := hmem h0
        have hfit := hr.fit
        have key : ∀ i j, i < n → j < y.sz → cur[(lo + i) * y.sz + j]? = some (cur.getD ((lo + i) * y.sz + j) undef) := by
          intro i j hi hj
          have := lt_mul_of (show lo + i < y.n by omega) hj
          simp [Array.getD, show (lo + i) * y.sz + j < cur.size by omega]
        refine ⟨fun i j => cur.getD ((lo + i) * y.sz + j) undef, fun _ => ⟨L.g, lo * y.sz, q3, fun i j hi hj => ?_⟩, fun i j v hi hv => ?_⟩
        · rw [q1.cell, show lo * y.sz + (i * y.sz + j) = (lo + i) * y.sz + j by rw [Nat.add_mul]; omega]
          exact key i j hi hj
        · have hj : j < y.sz := by
            have := (List.getElem?_eq_some_iff.1 hv).1
            rw [hr.row (lo + i) (by omega)] at this
            exact this
          obtain ⟨p1, p2, p3⟩ := q4 (lo + i) j v _ (by omega) hv (key i j hi hj)
          exact ⟨p1, p2, p3 hd⟩
    obtain ⟨C, hC1, hC2⟩ := hval
    split at h4
    · obtain ⟨g, hg, h5⟩ := gives_bind h4
      cases h5
      have hgk := wholeE_gives hg
      refine ⟨A, cap, y.sz, C, fun _ _ _ => none, fun _ _ => none, rfl, fun i hi => ?_, hC1, fun c hc => (by cases hc), fun i j v hi hv i' j' => ?_, fun i j κ hκ => (by cases hκ), ⟨.nil, by simp⟩⟩
      · show ((g i).map AV.scal).length = _
        rw [List.length_map, hgk i hi]; exact hr.row _ (by have hi : i < n := hi; omega)
      · have hi : i < n := hi
        have hv : ((g i).map AV.scal)[j]? = some v := hv
        rw [hgk i hi, List.getElem?_map] at hv
        cases hq : (y.f (lo + i))[j]? with
        | none => rw [hq] at hv; cases hv
        | some u =>
          rw [hq] at hv
          obtain ⟨p1, p2, p3⟩ := hC2 i j u hi hq
          obtain ⟨p, e1, e2⟩ := pv_of_scal p1 p2
          cases hv
          rw [e1]
          exact CellG.pv e2
    · obtain ⟨h5, h6⟩ := gives_chk h4
      obtain ⟨g, hg, h7⟩ := gives_bind h6
      cases h7
      simp only [Bool.and_eq_true, List.isEmpty_iff] at h5
      obtain ⟨hσ, h5⟩ := h5
      have hlo := Nat.eq_of_beq_eq_true h5
      subst hσ hlo
      have hgk := wholeE_gives hg
      refine ⟨A, cap, y.sz, C, fun i j σ => X.loc c ((i, j) :: σ), fun i j => some (c, [(i, j)]), rfl, fun i hi => ?_, hC1, fun c' hc' => ?_, fun i j v hi hv i' j' => ?_, fun i j κ hκ => ?_, ⟨List.nodup_cons.2 ⟨by simp, .nil⟩, by simp⟩⟩
      · have hi : i < n := hi
        show (g i).length = _
        rw [hgk i hi]; exact hr.row _ (by omega)
      · cases List.mem_singleton.1 hc'
        exact ⟨hcb, hH.lt c [] L hL⟩
      · have hi : i < n := hi
        have hv : (g i)[j]? = some v := hv
        rw [hgk i hi] at hv
        obtain ⟨p1, p2, p3⟩ := hC2 i j v hi hv
        rw [Nat.zero_add] at hv p1
        exact CellG.move (κ := []) hroot hsub hd (by omega) hv p1 p2 p3 fun hh => hcb hh.1
      · cases hκ; exact ⟨by simp, hcb, rfl⟩
  · cases h

def flatC (C : Nat → Nat → Value) (sz m : Nat) : List Value := (List.range (m * sz)).map fun k => C (k / sz) (k % sz)
theorem flatC_len (C : Nat → Nat → Value) (sz m : Nat) : (flatC C sz m).length = m * sz := by simp [flatC]
theorem flatC_get (C : Nat → Nat → Value) {sz m i j : Nat} (hi : i < m) (hj : j < sz) : (flatC C sz m)[i * sz + j]? = some (C i j) := by
  have hlt := lt_mul_of hi hj
  have h1 : (i * sz + j) / sz = i := by
    rw [Nat.mul_comm, Nat.mul_add_div (by omega), Nat.div_eq_of_lt hj, Nat.add_zero]
  have h2 : (i * sz + j) % sz = j := by rw [Nat.mul_comm, Nat.mul_add_mod]; exact Nat.mod_eq_of_lt hj
  simp [flatC, hlt, h1, h2]
theorem flatC_inv (C : Nat → Nat → Value) {sz m k : Nat} {V : Value} (h : (flatC C sz m)[k]? = some V) : 0 < sz ∧ k / sz < m ∧ k % sz < sz ∧ V = C (k / sz) (k % sz) ∧ k = k / sz * sz + k % sz := by
  have hlt : k < m * sz := by rw [← flatC_len C sz m]; exact (List.getElem?_eq_some_iff.1 h).1
  have hsz : 0 < sz := by
    rcases Nat.eq_zero_or_pos sz with h0 | h0
    · rw [h0] at hlt; omega
    · exact h0
  refine ⟨hsz, Nat.div_lt_of_lt_mul (by rw [Nat.mul_comm]; exact hlt), Nat.mod_lt _ hsz, ?_, by rw [Nat.mul_comm]; exact (Nat.div_add_mod k sz).symm⟩
  simp [flatC, hlt] at h
  exact h.symm
theorem run_append_none {t ty e : TypeId} {i : TypeInfo} (hu : P.underlying t = some (.slice e)) (hi : P.info? e = some i) (A B : Option Addr) (n cap c : Nat) (hn : n ≤ cap) :
    (Builtin.append_ #[t, t] ty #[.slice A n cap, .slice B 0 c]).run P w = .ok (.slice A n cap) w := by
  cases A <;> cases B <;> simp [Builtin.append_, run_underlying hu, sizeOf, typeInfo, hi, Builtin.lenOf, hn, Builtin.firstCells, loadCells, loadCellsFrom, storeCells]
theorem run_append_room' {t ty e e' : TypeId} {i : TypeInfo} (ht : P.underlying t = some (.slice e)) (hi : P.info? e = some i) {g sLen sCap : Nat} {cur : Array Value} (hg : RowAt w g cur e')
    {b : Addr} {m c : Nat} {news : List Value} (hl : news.length = m * i.size) (hnews : ∀ (j : Nat) (u : Value), news[j]? = some u → w.cell? (b.add j) = some u) (h1 : ∀ u ∈ news, u.oneCell' = true)
    (hroom : sLen + m ≤ sCap) (hfit : sLen * i.size + news.length ≤ cur.size) :
    (Builtin.append_ #[t, t] ty #[.slice (some ⟨g, 0, none⟩) sLen sCap, .slice (some b) m c]).run P w =
      .ok (.slice (some ⟨g, 0, none⟩) (sLen + m) sCap) (w.setRow g (splice cur.toList (sLen * i.size) news).toArray) := by
  have hf := run_firstCells_some (P := P) w i.size m b m c news hl hnews
  have hst := run_storeCells_fr (P := P) g (sLen * i.size) e' news 0 cur w hg (by simpa using hfit) h1
  simp only [Nat.add_zero] at hst
  simp [Builtin.append_, run_underlying ht, sizeOf, typeInfo, hi, Builtin.lenOf, hroom, hf, add_none, hst, splice]
theorem zeroCells_size (z : Array Value) (n : Nat) : (Builtin.zeroCells z n).size = n * z.size := by simp [Builtin.zeroCells]

/-- An append to (a front part of) an array that a block holds. -/
theorem append_root (h : Inv X0 X st a w) {b sz N n m : Nat} {s : Nat} {f g : Nat → List AV} {z : List AV} {L : Loc} (hB : st.heap[b]? = some (.arr s sz N f)) (hL : X.loc b [] = some L) {A : Option Addr} {cap : Nat} (hn : n ≤ cap) (hl : n ≤ L.len) (hA : 0 < cap → A = some ⟨L.g, 0, none⟩ ∧ cap * L.sz ≤ L.room)
    {Vx : Value} {tk : List Nat} {B : Option Addr} {c szx : Nat} {C : Nat → Nat → Value} {Tx : Nat → Nat → List Stp → Option Loc} {ogx : Nat → Nat → Option Key} (hx : SrcOk X st.heap b Vx m g tk B c szx C Tx ogx)
    {t e ty : TypeId} {i : TypeInfo} {zp : List PV} (hu : P.underlying t = some (.slice e)) (hi : P.info? e = some i) (hz : zeroOf P e = some zp) (c1 : 1 ≤ i.size) (c2 : 1 ≤ i.bytes) (hzl : zp.length = i.size) (hszi : sz = i.size) (hg0 : (g 0).length = i.size) (hbytes : (n + m) * i.bytes ≤ reach) (dst : Option Nat) :
    ∃ X' V W, (Builtin.append_ #[t, t] ty #[.slice A n cap, Vx]).run P w = .ok V W ∧
      Inv X0 X' ((Eff.mk (.ms b [] 0 (n + m)) ((b, .arr 0 sz (n + m) (app n f m g z)) :: goneL tk) ((b, false) :: tk.map fun c => (c, false))).on dst st) (a.put dst V) W := by
  have hw := h.hw
  subst hw
  subst hszi
  obtain ⟨it, Z, hi', hZ, hf⟩ := zeroOf_sound hz
  rw [hi] at hi'
  cases hi'
  have hzc : Z.cells.size = i.size := by have := (zfit_sound X hf).1; rw [Array.length_toList] at this; omega
  have hroot := h.heap.blk b _ hB
  have hsub : (Blk.arr s i.size N f).sub [] = some ⟨true, i.size, N, f⟩ := rfl
  obtain ⟨L1, hL1, hr⟩ := hroot.some hsub
  rw [hL] at hL1
  cases hL1
  have hLsz : L.sz = i.size := hr.sz
  have hlN : n ≤ N := by have := hr.len; simp only at this; omega
  have hblt := h.heap.lt b [] L hL
  have hVx := hx.val
  subst hVx
  -- what is appended
  have hszx : 0 < m → szx = i.size := fun h0 => (hx.row 0 h0).symm.trans hg0
  have news : 0 < m → ∃ k o, B = some ⟨k, o, none⟩ ∧ (∀ (j : Nat) (V : Value), (flatC C i.size m)[j]? = some V → X.w.cell? ((⟨k, o, none⟩ : Addr).add j) = some V) ∧ (∀ u ∈ flatC C i.size m, u.oneCell' = true) := by
    intro h0
    obtain ⟨k, o, e1, hc⟩ := hx.mem h0
    rw [hszx h0] at hc
    refine ⟨k, o, e1, fun j V hV => ?_, fun u hu' => ?_⟩
    · obtain ⟨q1, q2, q3, q4, q5⟩ := flatC_inv C hV
      rw [add_none, q5, q4]
      exact hc _ _ q2 q3
    · obtain ⟨j, hj⟩ := List.getElem?_of_mem hu'
      obtain ⟨q1, q2, q3, q4, q5⟩ := flatC_inv C hj
      have hl : j % i.size < (g (j / i.size)).length := by rw [hx.row _ q2, hszx h0]; exact q3
      rw [q4]
      exact (hx.cell _ _ _ q2 (List.getElem?_eq_getElem hl) 0 0).one
  -- what the array owns behind it
  let T : Nat → Nat → List Stp → Option Loc := fun k j σ => if k < n then X.loc b ((k, j) :: σ) else if k < n + m ∧ j < i.size then Tx (k - n) j σ else none
  let org : Nat → Nat → Option Key := fun k j => if k < n then some (b, [(k, j)]) else if k < n + m ∧ j < i.size then ogx (k - n) j else none
  have hrow : ∀ k, k < n + m → (app n f m g z k).length = i.size := by
    intro k hk
    unfold app
    split
    · exact hr.row k (by simp only; omega)
    · rw [hx.row _ (by omega), hszx (by omega)]
  -- the old cells' values
  have hold : ∃ D : Nat → Nat → Value, (0 < n → ∃ cur ty', RowAt X.w L.g cur ty' ∧ L.room ≤ cur.size ∧ A = some ⟨L.g, 0, none⟩ ∧ ∀ k j, k < n → j < i.size → cur[k * i.size + j]? = some (D k j)) ∧
      ∀ k j v, k < n → (f k)[j]? = some v → CellG X b [] k j v (D k j) (fun σ => X.loc b ((k, j) :: σ)) (some (b, [(k, j)])) := by
    rcases Nat.eq_zero_or_pos n with h0 | h0
    · exact ⟨fun _ _ => undef, fun hh => by omega, fun k j v hk => by omega⟩
    · obtain ⟨e1, e2⟩ := hA (by omega)
      have h00 : 0 < L.room := by
        have h6 := lt_mul_of (show 0 < cap by omega) (show 0 < L.sz by rw [hLsz]; omega)
        omega
      obtain ⟨cur, ty', q1, q2, q3⟩ := hr.mem h00
      have hfit := hr.fit
      have key : ∀ k j, k < n → j < i.size → cur[k * i.size + j]? = some (cur.getD (k * i.size + j) undef) := by
        intro k j hk hj
        have := lt_mul_of (show k < N by omega) hj
        simp only at hfit
        simp [Array.getD, show k * i.size + j < cur.size by omega]
      refine ⟨fun k j => cur.getD (k * i.size + j) undef, fun _ => ⟨cur, ty', q1, q2, e1, key⟩, fun k j v hk hv => ?_⟩
      have hj : j < i.size := by
        have := (List.getElem?_eq_some_iff.1 hv).1
        have h5 : (f k).length = i.size := hr.row k (by simp only; omega)
        omega
      obtain ⟨p1, p2, p3⟩ := q3 k j v _ (by simp only; omega) hv (key k j hk hj)
      exact CellG.move (κ := []) (x := ⟨true, i.size, N, f⟩) hroot hsub rfl (by simp only; omega) hv p1 p2 (p3 rfl) fun hh => by obtain ⟨_, σ, hσ⟩ := hh; cases hσ
  obtain ⟨D, hD1, hD2⟩ := hold
  -- the new state, however the world went on
  have fin : ∀ (W : World) (L' : Loc) (cur' : Array Value) (ty' : TypeId) (V : Value), WStep X W L' → L'.sz = i.size → L'.len = n + m → (n + m) * i.size ≤ L'.room → (0 < L'.room → RowAt W L'.g cur' ty' ∧ L'.room ≤ cur'.size) →
      (∀ k j, k < n + m → j < i.size → cur'[k * i.size + j]? = some (if k < n then D k j else C (k - n) j)) →
      (0 < L'.room → (∀ c τ M, X.loc c τ = some M → 0 < M.room → M.g ≠ L'.g) ∨ ∃ M, X.loc b [] = some M ∧ 0 < M.room ∧ M.g = L'.g) → (∀ c τ M, X.loc c τ = some M → 0 < M.room → ¬ (c = b ∧ τ = []) → W.heap[M.g]? = X.w.heap[M.g]?) →
      (∀ Y : Ctx, Y.loc b [] = some L' → VA Y none (.ms b [] 0 (n + m)) V) →
      ∃ X', Inv X0 X' ((Eff.mk (.ms b [] 0 (n + m)) ((b, .arr 0 i.size (n + m) (app n f m g z)) :: goneL tk) ((b, false) :: tk.map fun c => (c, false))).on dst st) (a.put dst V) W := by
    intro W L' cur' ty' V hstep l1 l2 l3 l4 l5 l6 l7 l8
    have hN : NodeAt X st.heap W b [] L' T tk ⟨true, i.size, n + m, app n f m g z⟩ org := by
      refine NodeAt.mk' (cur := cur') (e := ty') (hstep.R h.heap h.fresh) l1 l2 c1 l3 rfl hrow l4 (fun k j v hk hv => ?_) (fun k j hn' σ => ?_) (fun k j κ hκ => ?_) (fun k j k' j' c κ κ' σ σ' e1 e2 e3 => ?_) l6 l7
      · have hk : k < n + m := hk
        have hv : (app n f m g z k)[j]? = some v := hv
        have hj : j < i.size := by have := (List.getElem?_eq_some_iff.1 hv).1; rw [hrow k hk] at this; exact this
        refine ⟨_, l5 k j hk hj, ?_⟩
        unfold app at hv
        by_cases hkn : k < n
        · have e1 : T k j = fun σ => X.loc b ((k, j) :: σ) := by funext σ; exact if_pos hkn
          have e2 : org k j = some (b, [(k, j)]) := if_pos hkn
          rw [if_pos hkn] at hv ⊢
          rw [e1, e2]
          exact hD2 k j v hkn hv
        · have e1 : T k j = Tx (k - n) j := by funext σ; exact (if_neg hkn).trans (if_pos ⟨hk, hj⟩)
          have e2 : org k j = ogx (k - n) j := (if_neg hkn).trans (if_pos ⟨hk, hj⟩)
          rw [if_neg hkn, if_pos hk] at hv
          rw [if_neg hkn, e1, e2]
          exact hx.cell _ _ v (by omega) hv k j
      · have hn' : k < n + m → (app n f m g z k)[j]? = none := hn'
        show (if k < n then X.loc b ((k, j) :: σ) else if k < n + m ∧ j < i.size then Tx (k - n) j σ else none) = none
        by_cases hkn : k < n
        · rw [if_pos hkn]
          have h1 := hn' (by omega)
          unfold app at h1
          rw [if_pos hkn] at h1
          refine hroot.none ?_
          show Nd.sub ⟨true, i.size, N, f⟩ ((k, j) :: σ) = none
          rw [Nd.sub_cons]
          split
          · simp only [h1, Option.bind_none]
          · rfl
        · rw [if_neg hkn]
          by_cases hq : k < n + m ∧ j < i.size
          · exfalso
            have h1 := hn' hq.1
            rw [List.getElem?_eq_none_iff, hrow k hq.1] at h1
            omega
          · exact if_neg hq
      · have hκ : (if k < n then some (b, [(k, j)]) else if k < n + m ∧ j < i.size then ogx (k - n) j else none) = some κ := hκ
        split at hκ
        · cases hκ; exact .inr ⟨rfl, k, j, rfl⟩
        · split at hκ
          · have := hx.src _ _ κ hκ
            exact .inl ⟨this.1, this.2.1⟩
          · cases hκ
      · have key : ∀ k j c κ, org k j = some (c, κ) → (k < n ∧ c = b ∧ κ = [(k, j)]) ∨ (¬ k < n ∧ k < n + m ∧ c ∈ tk ∧ c ≠ b ∧ κ = [(k - n, j)]) := by
          intro k j c κ hκ
          have hκ : (if k < n then some (b, [(k, j)]) else if k < n + m ∧ j < i.size then ogx (k - n) j else none) = some (c, κ) := hκ
          split at hκ
          · cases hκ; exact .inl ⟨‹_›, rfl, rfl⟩
          · split at hκ
            · rename_i hq
              have := hx.src _ _ _ hκ
              exact .inr ⟨‹_›, hq.1, this.1, this.2.1, this.2.2⟩
            · cases hκ
        rcases key k j c κ e1 with ⟨a1, a2, rfl⟩ | ⟨a1, a2, a3, a4, rfl⟩ <;> rcases key k' j' c κ' e2 with ⟨b1, b2, rfl⟩ | ⟨b1, b2, b3, b4, rfl⟩
        · simp at e3
          exact ⟨e3.1.1, e3.1.2, e3.2⟩
        · exact absurd a2 b4
        · exact absurd b2 a4
        · simp at e3
          exact ⟨by omega, e3.1.2, e3.2⟩
    have hroot' : RootOk (X.node W b [] L' T tk) b (.arr 0 i.size (n + m) (app n f m g z)) :=
      hN.root (hstep.R h.heap h.fresh) rfl (fun τ hτ => (by cases hτ)) (fun τ M hτ => (by cases hτ)) (fun hh => absurd rfl hh)
    refine ⟨_, h.node hN hstep rfl hblt (fun c hc => ⟨(hx.tkb c hc).2, (hx.tkb c hc).1⟩) hroot' (fun c τ d M hd hM => ?_) (fun τ ht => (by cases ht)) fun d _ => l8 _ node_self⟩
    obtain ⟨rfl, hs⟩ := scr_some hd
    have hct : d ∉ tk := fun hc' => by have := (hs (d, false) (List.mem_cons_of_mem _ (List.mem_map.2 ⟨d, hc', rfl⟩)) rfl).1; cases this
    have hcb : d ≠ b := fun e => by have := (hs (b, false) (by simp) e.symm).1; cases this
    rw [node_ne hcb hct]; exact hM
  by_cases hm0 : m = 0
  · -- nothing is appended
    subst hm0
    have hrun := run_append_none (P := P) (w := X.w) (ty := ty) hu hi A B n cap c hn
    have hroom : n * i.size ≤ L.room := Nat.le_trans (Nat.mul_le_mul_right _ hlN) hr.fit
    by_cases h00 : 0 < L.room
    · obtain ⟨cur, ty', q1, q2, q3⟩ := hr.mem h00
      have hWr : Wr X L.g := ⟨b, [], L, hL, h00, rfl⟩
      obtain ⟨X', hI⟩ := fin X.w { L with len := n + 0 } cur ty' (.slice A n cap) (.same rfl fun _ => hWr) hLsz rfl (by simpa using hroom) (fun _ => ⟨q1, q2⟩) (fun k j hk hj => by
        rw [if_pos (by omega)]
        obtain ⟨cur2, ty2, p1, p2, p3, p4⟩ := hD1 (by omega)
        obtain ⟨rfl, rfl⟩ := q1.eq p1
        exact p4 k j (by omega) hj) (fun _ => .inr ⟨L, hL, h00, rfl⟩) (fun _ _ _ _ _ _ => rfl) (fun Y hY => .ms none b [] 0 n A cap _ hY hn (by simp) fun h0 => by
          obtain ⟨e1, e2⟩ := hA h0
          exact ⟨by simpa using e1, by simpa using e2⟩)
      exact ⟨X', _, _, hrun, hI⟩
    · have hn0 : n = 0 := by
        rcases Nat.eq_zero_or_pos n with h0 | h0
        · exact h0
        · have := lt_mul_of h0 c1; omega
      subst hn0
      obtain ⟨X', hI⟩ := fin X.w { L with len := 0 + 0 } #[] 0 (.slice A 0 cap) (.same rfl fun h0 => absurd h0 h00) hLsz rfl (by simp) (fun h0 => absurd h0 h00) (fun k j hk hj => by omega) (fun h0 => absurd h0 h00) (fun _ _ _ _ _ _ => rfl) (fun Y hY => .ms none b [] 0 0 A cap _ hY hn (by simp) fun h0 => by
          obtain ⟨e1, e2⟩ := hA h0
          exact ⟨by simpa using e1, by simpa using e2⟩)
      exact ⟨X', _, _, hrun, hI⟩
  · have hm : 0 < m := by omega
    obtain ⟨k0, o0, rfl, hn1, hn2⟩ := news hm
    by_cases hroom : n + m ≤ cap
    · -- there is room
      obtain ⟨rfl, e2⟩ := hA (by omega)
      rw [hLsz] at e2
      have hle2 : (n + m) * i.size ≤ cap * i.size := Nat.mul_le_mul_right _ hroom
      have h00 : 0 < L.room := by
        have h6 := lt_mul_of (show 0 < cap by omega) c1
        omega
      obtain ⟨cur, ty', q1, q2, q3⟩ := hr.mem h00
      have hWr : Wr X L.g := ⟨b, [], L, hL, h00, rfl⟩
      have hfit : n * i.size + (flatC C i.size m).length ≤ cur.size := by
        rw [flatC_len, ← Nat.add_mul]; omega
      have hrun := run_append_room' (P := P) (w := X.w) (ty := ty) (c := c) hu hi q1 (flatC_len C i.size m) hn1 hn2 hroom hfit
      have hctl : cur.toList.length = cur.size := Array.length_toList
      have hsl : n * i.size + (flatC C i.size m).length ≤ cur.toList.length := by rw [hctl]; exact hfit
      have hgs : RowAt (X.w.setRow L.g (splice cur.toList (n * i.size) (flatC C i.size m)).toArray) L.g _ ty' := q1.set (by rw [List.size_toArray, splice_len _ _ _ hsl, hctl])
      have hnew : ∀ k : Nat, ((splice cur.toList (n * i.size) (flatC C i.size m)).toArray)[k]? = if n * i.size ≤ k ∧ k < (n + m) * i.size then (flatC C i.size m)[k - n * i.size]? else cur[k]? := by
        intro k
        rw [List.getElem?_toArray, splice_get hsl, flatC_len, Nat.add_mul]
        congr 1
        exact Array.getElem?_toList
      obtain ⟨X', hI⟩ := fin _ { L with len := n + m } _ ty' (.slice (some ⟨L.g, 0, none⟩) (n + m) cap) (.wrote L.g (Wrote.row _ _ _) hWr fun _ => hWr) hLsz rfl (by simp only; omega) (fun _ => ⟨hgs, by rw [List.size_toArray, splice_len _ _ _ hsl, hctl]; exact q2⟩) (fun k j hk hj => by
        have hlt := lt_mul_of hk hj
        rw [hnew]
        by_cases hkn : k < n
        · have := lt_mul_of hkn hj
          rw [if_neg (by omega), if_pos hkn]
          obtain ⟨cur2, ty2, p1, p2, p3, p4⟩ := hD1 (by omega)
          obtain ⟨rfl, rfl⟩ := q1.eq p1
          exact p4 k j hkn hj
        · have h1 : n * i.size ≤ k * i.size := Nat.mul_le_mul_right _ (by omega)
          rw [if_pos (by omega), if_neg hkn, show k * i.size + j - n * i.size = (k - n) * i.size + j by rw [Nat.sub_mul]; omega]
          exact flatC_get C (by omega) hj) (fun _ => .inr ⟨L, hL, h00, rfl⟩) (fun c τ M hM hm0 hne => setRow_other X.w L.g M.g _ fun e' => hne (h.heap.inj c τ b [] M L hM hL hm0 h00 e')) (fun Y hY => .ms none b [] 0 (n + m) _ cap _ hY hroom (by simp) fun h0 => ⟨by simp, by rw [hLsz, Nat.zero_add]; exact e2⟩)
      exact ⟨X', _, _, hrun, hI⟩
    · -- a new block
      have hb' : (n + m) * i.bytes ≤ 140737488355328 := by unfold reach at hbytes; omega
      have h63 : ((n + m : Nat) : Int) ≤ 9223372036854775807 := by
        have := Nat.mul_le_mul_left (n + m) c2
        omega
      have hmax : n + m ≤ maxLen := by
        have := Nat.mul_le_mul_left (n + m) c2
        unfold maxLen; unfold reach at hbytes; omega
      have grown : ∀ (old : Nat) (olds : List Value), old < n + m → olds.length = n * i.size → (∀ k j, k < n → j < i.size → olds[k * i.size + j]? = some (D k j)) →
          (Builtin.append_ #[t, t] ty #[.slice A n cap, .slice (some ⟨k0, o0, none⟩) m c]).run P X.w = .ok (.slice (some ⟨X.w.heap.size, 0, none⟩) (n + m) (grownCap X.w (n + m) old e)) (X.w.drew.alloc (.cells (olds.toArray ++ (flatC C i.size m).toArray ++ Builtin.zeroCells Z.cells (grownCap X.w (n + m) old e - (n + m))) e)) →
          ∃ X' V W, (Builtin.append_ #[t, t] ty #[.slice A n cap, .slice (some ⟨k0, o0, none⟩) m c]).run P X.w = .ok V W ∧ Inv X0 X' ((Eff.mk (.ms b [] 0 (n + m)) ((b, .arr 0 i.size (n + m) (app n f m g z)) :: goneL tk) ((b, false) :: tk.map fun c => (c, false))).on dst st) (a.put dst V) W := by
        intro old olds ho hol hod hrun
        have hge := grownCap_ge X.w (n + m) old e
        have hG := Grew.drew X.w (.cells (olds.toArray ++ (flatC C i.size m).toArray ++ Builtin.zeroCells Z.cells (grownCap X.w (n + m) old e - (n + m))) e)
        have hsize : (olds.toArray ++ (flatC C i.size m).toArray ++ Builtin.zeroCells Z.cells (grownCap X.w (n + m) old e - (n + m))).size = grownCap X.w (n + m) old e * i.size := by
          simp only [Array.size_append, List.size_toArray, hol, flatC_len, zeroCells_size, hzc, ← Nat.add_mul]
          congr 1; omega
        obtain ⟨X', hI⟩ := fin _ ⟨X.w.heap.size, i.size, n + m, grownCap X.w (n + m) old e * i.size⟩ _ e (.slice (some ⟨X.w.heap.size, 0, none⟩) (n + m) (grownCap X.w (n + m) old e)) (.grew _ hG fun _ => rfl) rfl rfl (Nat.mul_le_mul_right _ hge) (fun _ => ⟨RowAt.of hG.new, by rw [hsize]; exact Nat.le_refl _⟩) (fun k j hk hj => by
          have hlt := lt_mul_of hk hj
          have hs1 : (olds.toArray ++ (flatC C i.size m).toArray).size = (n + m) * i.size := by simp [hol, flatC_len, Nat.add_mul]
          rw [Array.getElem?_append_left (by rw [hs1]; exact hlt)]
          by_cases hkn : k < n
          · have := lt_mul_of hkn hj
            rw [Array.getElem?_append_left (by simp [hol]; exact this), if_pos hkn, List.getElem?_toArray]
            exact hod k j hkn hj
          · have h1 : n * i.size ≤ k * i.size := Nat.mul_le_mul_right _ (by omega)
            rw [Array.getElem?_append_right (by simp [hol]; omega), if_neg hkn, List.getElem?_toArray, List.size_toArray, hol]
            have : k * i.size + j - n * i.size = (k - n) * i.size + j := by rw [Nat.sub_mul]; omega
            rw [this]
            exact flatC_get C (by omega) hj) (fun _ => .inl fun c τ M hM hm0 e' => by have := h.heap.g_lt hM hm0; simp only at e'; omega) (fun c τ M hM hm0 _ => hG.old (h.heap.g_lt hM hm0)) (fun Y hY => .ms none b [] 0 (n + m) _ _ _ hY hge (by simp) fun _ => ⟨by simp, by simp⟩)
        exact ⟨X', _, _, hrun, hI⟩
      cases A with
      | none =>
        have hc0 : cap = 0 := by
          rcases Nat.eq_zero_or_pos cap with h0 | h0
          · exact h0
          · have := (hA h0).1; cases this
        subst hc0
        have hn0 : n = 0 := by omega
        subst hn0
        have hrun := run_append_nil (P := P) X.w t ty e i Z hu hi hZ ⟨k0, o0, none⟩ m c (flatC C i.size m) (flatC_len _ _ _) hn1 hm (by omega) (by rw [Nat.zero_add] at hb'; omega)
        exact grown 0 [] (by omega) (by simp) (fun k j hk => by omega) (by simpa using hrun)
      | some A =>
        have hDD : ∀ (j : Nat) (v : Value), (flatC D i.size n)[j]? = some v → X.w.cell? (A.add j) = some v := by
          intro j v hj
          obtain ⟨q1, q2, q3, q4, q5⟩ := flatC_inv D hj
          obtain ⟨cur, ty', p1, p2, p3, p4⟩ := hD1 (Nat.lt_of_le_of_lt (Nat.zero_le _) q2)
          cases p3
          rw [add_none, Nat.zero_add, p1.cell, q5, q4]
          exact p4 _ _ q2 q3
        have hrun := run_append_grow (P := P) X.w t ty e i Z hu hi hZ A n cap (flatC D i.size n) (flatC_len _ _ _) hDD ⟨k0, o0, none⟩ m c (flatC C i.size m) (flatC_len _ _ _) hn1 (by omega) h63 (growslice_fits (by omega) hb')
        exact grown cap (flatC D i.size n) (by omega) (flatC_len _ _ _) (fun k j hk hj => flatC_get D hk hj) hrun
end
end Go.Bm
