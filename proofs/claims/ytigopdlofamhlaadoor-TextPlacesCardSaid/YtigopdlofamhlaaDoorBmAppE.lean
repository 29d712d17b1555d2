/- The abstract machine is sound, operation by operation: appends. -/
import Derived.Test.YtigopdlofamhlaaDoorBmApp
namespace Go.Bm
set_option autoImplicit false
set_option linter.unusedVariables false
set_option linter.unusedSimpArgs false

/-! ### effects one behind the other -/
theorem scr_scr (s1 s2 : List (Nat × Bool)) (b : Nat) (d : Bool) : scrR (s1 ++ s2) b d = (scrR s1 b d).bind fun c => scrR s2 c d := by
  unfold scrR
  rw [List.any_append]
  cases s1.any fun s => Nat.beq s.1 b && (!s.2 || d) with
  | true => rfl
  | false => simp
mutual
theorem map_map (s1 s2 : List (Nat × Bool)) : ∀ v : AV, (v.map (scrR s1)).map (scrR s2) = v.map (scrR (s1 ++ s2))
  | .ptr b ρ i o => by
    simp only [AV.map, scr_scr]
    cases hq : scrR s1 b (!ρ.isEmpty) <;> simp [AV.map, hq]
  | .aptr b ρ i o m k => by
    simp only [AV.map, scr_scr]
    cases hq : scrR s1 b (!ρ.isEmpty) <;> simp [AV.map, hq]
  | .ms b ρ lo n => by
    simp only [AV.map, scr_scr]
    cases hq : scrR s1 b (!ρ.isEmpty) <;> simp [AV.map, hq]
  | .clo f k caps => by simp only [AV.map]; rw [mapL_map s1 s2 caps]
  | .agg cs => by simp only [AV.map]; rw [mapL_map s1 s2 cs]
  | .tup vs => by simp only [AV.map]; rw [mapL_map s1 s2 vs]
  | .ifc t v => by simp only [AV.map]; rw [map_map s1 s2 v]
  | .dead => rfl
  | .pv p => rfl
  | .nil f => rfl
  | .own sz n f => rfl
  | .pref cs off => rfl
theorem mapL_map (s1 s2 : List (Nat × Bool)) : ∀ l : List AV, AV.mapL (scrR s2) (AV.mapL (scrR s1) l) = AV.mapL (scrR (s1 ++ s2)) l
  | [] => rfl
  | v :: vs => by simp only [AV.mapL]; rw [map_map s1 s2 v, mapL_map s1 s2 vs]
end
theorem blk_map (s1 s2 : List (Nat × Bool)) (B : Blk) : (B.map (scrR s1)).map (scrR s2) = B.map (scrR (s1 ++ s2)) := by
  cases B with
  | box s cs => simp only [Blk.map, mapL_map]
  | lit s sz rows => simp only [Blk.map, List.map_map]; congr 1; exact List.map_congr_left fun l _ => mapL_map s1 s2 l
  | arr s sz n f => rfl
  | gone => rfl
theorem putBlks_map (f : Blk → Blk) : ∀ (l : List (Nat × Blk)) (H : List Blk), (putBlks H l).map f = putBlks (H.map f) (l.map fun x => (x.1, f x.2))
  | [], H => rfl
  | (b, x) :: l, H => by simp only [putBlks, List.map_cons]; rw [putBlks_map f l, List.map_set]
theorem Eff.on_seq (v : AV) (hb1 hb2 : List (Nat × Blk)) (sc1 sc2 : List (Nat × Bool)) (h : ∀ x ∈ hb1, x.2.map (scrR sc2) = x.2) (dst : Option Nat) (st : St) :
    (Eff.mk v (hb1 ++ hb2) (sc1 ++ sc2)).on dst st = (Eff.mk v hb2 sc2).on dst ((Eff.mk dead hb1 sc1).on none st) := by
  rw [on_eq, on_eq (Eff.mk v hb2 sc2), on_eq (Eff.mk dead hb1 sc1)]
  simp only [setT, AV.scrL, mapL_map, putBlks_map, List.map_map]
  have e1 : (Blk.scr sc2 ∘ Blk.scr sc1) = Blk.scr (sc1 ++ sc2) := by funext B; exact blk_map sc1 sc2 B
  have e2 : hb1.map (fun x => (x.1, Blk.scr sc2 x.2)) = hb1 := (List.map_congr_left fun x hx => by rw [show Blk.scr sc2 x.2 = x.2 from h x hx]).trans (List.map_id' _)
  rw [e1, e2, putBlks_append]

theorem lastS_eq : ∀ (s : Stp) (ρ : List Stp), s :: ρ = (lastS s ρ).1 ++ [(lastS s ρ).2]
  | s, [] => rfl
  | s, t :: ρ => by
    have := lastS_eq t ρ
    simp only [lastS, List.cons_append]
    rw [← this]

section
variable {P : Program} {X0 X : Ctx} {st : St} {a : Act} {w W : World} {ok : Ob → Prop}

/-- What a cell owns gets a block of its own. -/
theorem Inv.release (h : Inv X0 X st a w) {b sz N i o sz2 n2 id : Nat} {s : Nat} {f f2 : Nat → List AV} {ρ : List Stp} {x : Nd} (hB : st.heap[b]? = some (.arr s sz N f)) (hx : Nd.sub ⟨true, sz, N, f⟩ ρ = some x) (hi : i < x.n) (hc : (x.f i)[o]? = some (.own sz2 n2 f2)) (hg : st.heap[id]? = some .gone) :
    ∃ X1, Inv X0 X1 ((Eff.mk dead [(id, .arr 0 sz2 n2 f2), (b, Blk.put (.arr (minT 1 s) sz N f) ρ i fun cs => cs.set o (.pv .bad))] [(b, true)]).on none st) a w ∧ (∀ τ, X1.loc id τ = X.loc b (ρ ++ (i, o) :: τ)) ∧
      (∀ c, c ≠ b → c ≠ id → ∀ τ, X1.loc c τ = X.loc c τ) ∧ X1.R = X.R ∧ X1.w = X.w := by
  have hw := h.hw
  subst hw
  have hne : id ≠ b := fun e => by rw [e, hB] at hg; cases hg
  have hroot := h.heap.blk b _ hB
  have hsub : (Blk.arr s sz N f).sub ρ = some x := hx
  have hd : x.dat = true := by
    cases ρ with
    | nil => cases hx; rfl
    | cons s ρ => exact Nd.sub_dat (by simp) hx
  have hnl : ∀ τ, X.loc id τ = none := fun τ => loc_gone h.heap (getB_of hg) τ
  obtain ⟨Lx, hLx, hrx⟩ := hroot.some hsub
  have hrow := hrx.row i hi
  have hlo := (List.getElem?_eq_some_iff.1 hc).1
  let κ : List Stp := ρ ++ [(i, o)]
  have eκ : ∀ τ, κ ++ τ = ρ ++ (i, o) :: τ := fun τ => by simp [κ]
  let Y : Ctx := { X with loc := fun c τ => if c = id then X.loc b (κ ++ τ) else if c = b then (match restOf κ τ with | some _ => none | none => X.loc b τ) else X.loc c τ }
  have y1 : ∀ τ, Y.loc id τ = X.loc b (κ ++ τ) := fun τ => if_pos rfl
  have y2 : ∀ τ, restOf κ τ = none → Y.loc b τ = X.loc b τ := fun τ hr => by
    show (if b = id then _ else if b = b then (match restOf κ τ with | some _ => none | none => X.loc b τ) else _) = _
    rw [if_neg fun e => hne e.symm, if_pos rfl, hr]
  have y3 : ∀ τ, Y.loc b (κ ++ τ) = none := fun τ => by
    show (if b = id then _ else if b = b then (match restOf κ (κ ++ τ) with | some _ => none | none => X.loc b (κ ++ τ)) else _) = _
    rw [if_neg fun e => hne e.symm, if_pos rfl, restOf_append]
  have y4 : ∀ c, c ≠ b → c ≠ id → ∀ τ, Y.loc c τ = X.loc c τ := fun c h1 h2 τ => by
    show (if c = id then _ else if c = b then _ else X.loc c τ) = _
    rw [if_neg h2, if_neg h1]
  have hκ0 : restOf κ [] = none := by
    cases hq : restOf κ [] with
    | none => rfl
    | some σ => have := restOf_some.1 hq; simp [κ] at this
  -- a key of the new world, and whence it comes
  have from_ : ∀ c τ L, Y.loc c τ = some L → ∃ d υ, X.loc d υ = some L ∧ ((c = id ∧ d = b ∧ υ = κ ++ τ) ∨ (c ≠ id ∧ d = c ∧ υ = τ ∧ (c = b → restOf κ τ = none))) := by
    intro c τ L hL
    by_cases h1 : c = id
    · subst h1; rw [y1] at hL; exact ⟨b, _, hL, .inl ⟨rfl, rfl, rfl⟩⟩
    · by_cases h2 : c = b
      · subst h2
        cases hq : restOf κ τ with
        | none => rw [y2 τ hq] at hL; exact ⟨c, τ, hL, .inr ⟨h1, rfl, rfl, fun _ => rfl⟩⟩
        | some σ => rw [restOf_some.1 hq, y3] at hL; cases hL
      · rw [y4 c h2 h1] at hL; exact ⟨c, τ, hL, .inr ⟨h1, rfl, rfl, fun e => absurd e h2⟩⟩
  have hren : ∀ c τ d L, scrR [(b, true)] c (!τ.isEmpty) = some d → X.loc c τ = some L → Y.loc d τ = some L := by
    intro c τ d L hd' hL
    obtain ⟨rfl, hs⟩ := scr_some hd'
    by_cases h2 : d = b
    · subst h2
      have := (hs (d, true) (by simp) rfl).2
      have hτ : τ = [] := by cases τ with | nil => rfl | cons s τ => simp at this
      subst hτ
      rw [y2 _ hκ0]; exact hL
    · by_cases h1 : d = id
      · rw [h1, hnl] at hL; cases hL
      · rw [y4 d h2 h1]; exact hL
  have hS : Ren X Y (scrR [(b, true)]) := ⟨fun g off hr => ⟨hr, rfl⟩, hren⟩
  have hS0 : Ren X Y (fun _ _ => none) := ⟨fun g off hr => ⟨hr, rfl⟩, fun _ _ _ _ hh => (by cases hh)⟩
  have hblt := h.heap.lt b ρ Lx hLx
  have hidlt : id < st.heap.length := (List.getElem?_eq_some_iff.1 hg).1
  -- the new block
  have hnew : RootOk Y id (.arr 0 sz2 n2 f2) := by
    intro τ
    have := cell_tree hroot hsub hd hi hc τ
    have e1 : (Blk.arr 0 sz2 n2 f2).sub τ = (AV.own sz2 n2 f2).csub τ := rfl
    rw [e1]
    cases hu : (AV.own sz2 n2 f2).csub τ with
    | some u =>
      rw [hu] at this
      obtain ⟨L, h1, h2⟩ := this
      refine ⟨L, by rw [y1, eκ]; exact h1, h2.rekey hS0 (csub_dat hu) (fun _ => rfl) fun k j M hM => ?_⟩
      rw [y1, eκ]
      simpa using hM
    | none =>
      rw [hu] at this
      show Y.loc id τ = none
      rw [y1, eκ]; exact this
  -- the block from which it comes
  have hdat : ∀ τ u, (Blk.arr s sz N f).sub τ = some u → u.dat = true := by
    intro τ u hu
    cases τ with
    | nil => cases hu; rfl
    | cons t τ => exact Nd.sub_dat (by simp) (show Nd.sub ⟨true, sz, N, f⟩ (t :: τ) = some u from hu)
  have eB : ∀ τ, (Blk.put (.arr (minT 1 s) sz N f) ρ i fun cs => cs.set o (.pv .bad)).sub τ = (Nd.put ⟨true, sz, N, f⟩ ρ i fun cs => cs.set o (.pv .bad)).sub τ := by
    intro τ
    have e' := Nd.put_sz ⟨true, sz, N, f⟩ ρ i fun cs => cs.set o (.pv .bad)
    show Nd.sub ⟨true, sz, N, (Nd.put ⟨true, sz, N, f⟩ ρ i fun cs => cs.set o (.pv .bad)).f⟩ τ = _
    conv => rhs; rw [← Nd.eta (Nd.put ⟨true, sz, N, f⟩ ρ i fun cs => cs.set o (.pv .bad)), e'.1, e'.2.1, e'.2.2]
  have hself := Nd.put_self i (fun cs => cs.set o (.pv .bad)) hx
  have hputne : ∀ k, k ≠ i → upd x.f i ((x.f i).set o (.pv .bad)) k = x.f k := fun k hk => by simp [upd, hk]
  have hput0 : upd x.f i ((x.f i).set o (.pv .bad)) i = (x.f i).set o (.pv .bad) := by simp [upd]
  have hcell : ∀ k j, (upd x.f i ((x.f i).set o (.pv .bad)) k)[j]? = if k = i ∧ j = o then some (.pv .bad) else (x.f k)[j]? := by
    intro k j
    by_cases h1 : k = i
    · subst h1
      rw [hput0]
      by_cases h2 : j = o
      · subst h2; rw [List.getElem?_set_self hlo, if_pos ⟨rfl, rfl⟩]
      · rw [List.getElem?_set_ne fun e => h2 e.symm, if_neg fun hh => h2 hh.2]
    · rw [hputne k h1, if_neg fun hh => h1 hh.1]
  have hchild : ∀ τ k j M, restOf κ (τ ++ [(k, j)]) = none → X.loc b (τ ++ [(k, j)]) = some M → Y.loc b (τ ++ [(k, j)]) = some M := fun τ k j M hr hM => by rw [y2 _ hr]; exact hM
  have hold : RootOk Y b (Blk.put (.arr (minT 1 s) sz N f) ρ i fun cs => cs.set o (.pv .bad)) := by
    intro τ
    rw [eB]
    cases hr : restOf ρ τ with
    | none =>
      have hκn : ∀ σ, restOf κ (τ ++ σ) = none ∨ ∃ q, τ ++ σ = κ ++ q := fun σ => by
        cases hq : restOf κ (τ ++ σ) with
        | none => exact .inl rfl
        | some q => exact .inr ⟨q, restOf_some.1 hq⟩
      have hτκ : restOf κ τ = none := by
        cases hq : restOf κ τ with
        | none => rfl
        | some q =>
          have := restOf_some.1 hq
          rw [eκ] at this
          rw [this, restOf_append] at hr; cases hr
      rcases Nd.put_other i (fun cs => cs.set o (.pv .bad)) hx hr with ⟨p1, p2⟩ | ⟨u, v, p1, p2, p3⟩
      · rw [p2]; show Y.loc b τ = none; rw [y2 τ hτκ]; exact hroot.none p1
      · rw [p2]
        obtain ⟨L, q1, q2⟩ := hroot.some (show (Blk.arr s sz N f).sub τ = some u from p1)
        refine ⟨L, by rw [y2 τ hτκ]; exact q1, (q2.rekey hS0 (hdat τ u p1) (fun _ => rfl) fun k j M hM => hchild τ k j M ?_ hM).heads p3⟩
        rcases hκn [(k, j)] with hh | ⟨q, hq⟩
        · exact hh
        · exfalso
          rw [eκ] at hq
          cases hq' : q.reverse with
          | nil =>
            have : q = [] := by simpa using hq'
            subst this
            have h3 := (List.append_inj' hq rfl).1
            exact absurd hr (by rw [h3, restOf_self]; simp)
          | cons t q' =>
            have : q = q'.reverse ++ [t] := by have := congrArg List.reverse hq'; simpa using this
            subst this
            have h3 : τ ++ [(k, j)] = (ρ ++ (i, o) :: q'.reverse) ++ [t] := by rw [hq]; simp
            have h4 := (List.append_inj' h3 rfl).1
            exact absurd hr (by rw [h4, restOf_append]; simp)
    | some σ =>
      have e := restOf_some.1 hr
      subst e
      cases σ with
      | nil =>
        rw [List.append_nil, hself]
        have hρκ : restOf κ ρ = none := by
          cases hq : restOf κ ρ with
          | none => rfl
          | some q =>
            have := congrArg List.length (restOf_some.1 hq)
            simp [κ] at this
        refine ⟨Lx, by rw [y2 ρ hρκ]; exact hLx, hrx.sz, hrx.len, hrx.pos, hrx.fit, fun k hk => ?_, fun h0 => ?_⟩
        · show (upd x.f i ((x.f i).set o (.pv .bad)) k).length = x.sz
          by_cases h1 : k = i
          · subst h1; rw [hput0, List.length_set]; exact hrow
          · rw [hputne k h1]; exact hrx.row k hk
        · obtain ⟨cur, ty, q1, q2, q3⟩ := hrx.mem h0
          refine ⟨cur, ty, q1, q2, fun k j v V hk hv hV => ?_⟩
          have hv : (upd x.f i ((x.f i).set o (.pv .bad)) k)[j]? = some v := hv
          rw [hcell] at hv
          by_cases hq : k = i ∧ j = o
          · rw [if_pos hq] at hv
            cases hv
            obtain ⟨rfl, rfl⟩ := hq
            obtain ⟨p1, p2, p3⟩ := q3 k j _ V hk hc hV
            exact ⟨.pv _ _ _ (.bad _ p2), p2, fun _ => trivial⟩
          · rw [if_neg hq] at hv
            obtain ⟨p1, p2, p3⟩ := q3 k j v V hk hv hV
            have ek : keyOf x b ρ k j = some (b, ρ ++ [(k, j)]) := by unfold keyOf; rw [hd]
            have ek' : keyOf { x with f := upd x.f i ((x.f i).set o (.pv .bad)) } b ρ k j = some (b, ρ ++ [(k, j)]) := by unfold keyOf; simp only [hd]
            rw [ek] at p1
            rw [ek']
            refine ⟨p1.rekey hS0 (p3 hd) fun M hM => hchild ρ k j M ?_ hM, p2, fun _ => p3 hd⟩
            cases hq' : restOf κ (ρ ++ [(k, j)]) with
            | none => rfl
            | some q =>
              exfalso
              have := restOf_some.1 hq'
              rw [eκ] at this
              have h3 := List.append_cancel_left this
              simp at h3
              exact hq h3.1
      | cons t σ =>
        obtain ⟨k, j⟩ := t
        have e2 : (Nd.put ⟨true, sz, N, f⟩ ρ i fun cs => cs.set o (.pv .bad)).sub (ρ ++ (k, j) :: σ) = if k < x.n then ((upd x.f i ((x.f i).set o (.pv .bad)) k)[j]?).bind fun v => v.csub σ else none := by
          rw [Nd.sub_append, hself]
          simp only [Option.bind_some, Nd.sub_cons, hd, true_and]
        rw [e2, hcell]
        by_cases hq : k = i ∧ j = o
        · obtain ⟨rfl, rfl⟩ := hq
          rw [if_pos hi, if_pos ⟨rfl, rfl⟩]
          show Y.loc b (ρ ++ (k, j) :: σ) = none
          rw [← eκ]; exact y3 σ
        · rw [if_neg hq]
          have hn : ∀ σ, restOf κ (ρ ++ (k, j) :: σ) = none := fun σ => by
            cases hq' : restOf κ (ρ ++ (k, j) :: σ) with
            | none => rfl
            | some q =>
              exfalso
              have := restOf_some.1 hq'
              rw [eκ] at this
              have h3 := List.append_cancel_left this
              simp at h3
              exact hq h3.1
          split
          · rename_i u hu
            split at hu
            · rename_i hk
              cases hv : (x.f k)[j]? with
              | none => rw [hv] at hu; cases hu
              | some v =>
                rw [hv] at hu
                have := cell_tree hroot hsub hd hk hv σ
                have hu : v.csub σ = some u := hu
                rw [hu] at this
                obtain ⟨L, h1, h2⟩ := this
                refine ⟨L, by rw [y2 _ (hn σ)]; exact h1, h2.rekey hS0 (csub_dat hu) (fun _ => rfl) fun k' j' M hM => hchild _ k' j' M ?_ hM⟩
                rw [List.append_assoc, List.cons_append]
                exact hn _
            · cases hu
          · rename_i hu
            rw [y2 _ (hn σ)]
            refine hroot.none ?_
            rw [Blk.sub_append hsub, Nd.sub_cons, hd]
            simp only [true_and]
            exact hu
  refine ⟨Y, ?_, fun τ => by rw [y1, eκ], y4, rfl, rfl⟩
  have hI := h.eff (Y := Y) (W := X.w) (e := Eff.mk dead [(id, .arr 0 sz2 n2 f2), (b, Blk.put (.arr (minT 1 s) sz N f) ρ i fun cs => cs.set o (.pv .bad))] [(b, true)]) (dst := none) (V := undef) rfl hS
    (h.heap.upd hS (fun c hc τ => y4 c (fun e => hc (b, Blk.put (.arr (minT 1 s) sz N f) ρ i fun cs => cs.set o (.pv .bad)) (by simp) e.symm) (fun e => hc (id, .arr 0 sz2 n2 f2) (by simp) e.symm) τ) (fun _ _ _ _ _ _ => rfl) (fun y hy => by
      simp only [List.mem_cons, List.not_mem_nil, or_false] at hy
      rcases hy with rfl | rfl
      · exact ⟨hidlt, hnew⟩
      · exact ⟨hblt, hold⟩) (fun c τ d υ L M hL hM h0 h0' hgg => by
      obtain ⟨c', τ', p1, p2⟩ := from_ c τ L hL
      obtain ⟨d', υ', q1, q2⟩ := from_ d υ M hM
      obtain ⟨e1, e2⟩ := h.heap.inj c' τ' d' υ' L M p1 q1 h0 h0' hgg
      rcases p2 with ⟨a1, a2, a3⟩ | ⟨a1, a2, a3, a4⟩ <;> rcases q2 with ⟨b1, b2, b3⟩ | ⟨b1, b2, b3, b4⟩
      · refine ⟨a1.trans b1.symm, ?_⟩
        rw [a3, b3] at e2
        exact List.append_cancel_left e2
      · exfalso
        have h1 : d = b := by rw [← b2, ← e1, a2]
        have h2 := b4 h1
        rw [← b3, ← e2, a3, restOf_append] at h2; cases h2
      · exfalso
        have h1 : c = b := by rw [← a2, e1, b2]
        have h2 := a4 h1
        rw [← a3, e2, b3, restOf_append] at h2; cases h2
      · exact ⟨by rw [← a2, ← b2, e1], by rw [← a3, ← b3, e2]⟩) (fun c τ L hL h0 off hr => by
      obtain ⟨c', τ', p1, _⟩ := from_ c τ L hL
      exact h.heap.free c' τ' L p1 h0 off hr)) h.fresh (h.fr.same (Y := Y) rfl (fun _ _ => Iff.rfl) fun g hgg => by
      obtain ⟨c, τ, L, hL, h0, rfl⟩ := hgg
      obtain ⟨c', τ', p1, _⟩ := from_ c τ L hL
      exact ⟨c', τ', L, p1, h0, rfl⟩) (h.base.upd (fun c hc τ L hL => by
      by_cases h1 : c = b
      · exact absurd h1.symm (hc (b, Blk.put (.arr (minT 1 s) sz N f) ρ i fun cs => cs.set o (.pv .bad)) (by simp))
      · by_cases h2 : c = id
        · rw [h2, hnl] at hL; cases hL
        · rw [y4 c h1 h2]; exact hL) fun y hy τ ht L hL => by
      simp only [List.mem_cons, List.not_mem_nil, or_false] at hy
      rcases hy with rfl | rfl
      · cases ht
      · obtain ⟨t1, t2⟩ := keeps_min (show keeps (minT 1 s) τ = true from ht)
        have e0 : τ = [] := by simpa [keeps] using t1
        subst e0
        show Y.loc b [] = some L
        rw [y2 _ hκ0]
        exact h.base b _ hB [] t2 L hL) (fun d hd => (by cases hd))
  exact hI

theorem srcE_congr {H H' : Nat → Blk} {own : Bool} {b b' : Nat} {x : AV} {r : Nat × (Nat → List AV) × List Nat} (hH : ∀ c σ lo n, x = .ms c σ lo n → c ≠ b → c ≠ b' ∧ H' c = H c) (h : (srcE own b x).Gives ok H r) : (srcE own b' x).Gives ok H' r := by
  cases x with
  | pv p => cases p <;> exact h
  | nil f => exact h
  | ms c σ lo n =>
    simp only [srcE] at h ⊢
    obtain ⟨h1, h2⟩ := gives_chk h
    have hcb : c ≠ b := fun e => by rw [e, Nat.beq_refl] at h1; cases h1
    obtain ⟨hcb', e⟩ := hH c σ lo n rfl hcb
    have e0 : (!Nat.beq c b') = true := by
      cases hq : Nat.beq c b' with
      | true => exact absurd (Nat.eq_of_beq_eq_true hq) hcb'
      | false => rfl
    rw [e0]
    show (Ev.bind (nodeE c σ) _).Gives ok H' r
    have key : ∀ {β : Type} (k : Nd → Ev β) (y : β), (∀ x, (k x).Gives ok H y → (k x).Gives ok H' y) → ((nodeE c σ).bind k).Gives ok H y → ((nodeE c σ).bind k).Gives ok H' y := by
      intro β k y hk hh
      have hh : ((Ev.opt (H c).nd fun x => Ev.opt (x.go σ) .ret).bind k).Gives ok H y := hh
      show ((Ev.opt (H' c).nd fun x => Ev.opt (x.go σ) .ret).bind k).Gives ok H' y
      rw [e]
      cases hn : (H c).nd with
      | none => rw [hn] at hh; exact hh.elim
      | some x =>
        rw [hn] at hh
        simp only [Ev.opt] at hh ⊢
        cases hg : x.go σ with
        | none => rw [hg] at hh; exact hh.elim
        | some z => rw [hg] at hh; exact hk z hh
    refine key _ r (fun x hx => ?_) h2
    obtain ⟨h3, h4⟩ := gives_chk hx
    rw [h3]
    cases own with
    | false => exact h4
    | true =>
      obtain ⟨h5, h6⟩ := gives_chk h4
      rw [h5]
      exact h6
  | _ => exact h.elim
theorem getB_put {H : List Blk} {l : List (Nat × Blk)} {c : Nat} (h : ∀ x ∈ l, x.1 ≠ c) : getB (putBlks H l) c = getB H c := by
  induction l generalizing H with
  | nil => rfl
  | cons x l ih =>
    obtain ⟨b, B⟩ := x
    simp only [putBlks]
    rw [ih fun y hy => h y (List.mem_cons_of_mem _ hy)]
    unfold getB List.getD
    rw [List.getElem?_set_ne fun e => h (b, B) (by simp) e]
theorem getB_map {H : List Blk} {sc : List (Nat × Bool)} {c : Nat} {B : Blk} (h : getB H c = B) (hn : ∀ r : Nat → Bool → Option Nat, B.map r = B) : getB (H.map (Blk.scr sc)) c = B := by
  unfold getB List.getD at h ⊢
  rw [List.getElem?_map]
  cases hc : H[c]? with
  | none => rw [hc] at h; exact h
  | some B' => rw [hc] at h; have h : B' = B := h; subst h; exact hn _

theorem appendE_sound (h : Inv X0 X st a w) {id : Nat} {t : TypeId} {s x : AV} {Vs Vx : Value} (hs : VA X none s Vs) (hx : VA X none x Vx) {e : Eff} (he : (appendE P id t s x).Gives ok (getB st.heap) e) (ty : TypeId) (dst : Option Nat) :
    ∃ X' V W, (Builtin.append_ #[t, t] ty #[Vs, Vx]).run P w = .ok V W ∧ Inv X0 X' (e.on dst st) (a.put dst V) W := by
  have hw := h.hw
  unfold appendE at he
  split at he
  · rename_i et hu
    split at he
    · rename_i i z hi hz
      obtain ⟨hc, he1⟩ := gives_chk he
      simp only [Bool.and_eq_true] at hc
      obtain ⟨⟨c1, c2⟩, c3⟩ := hc
      have c1 := Nat.le_of_ble_eq_true c1
      have c2 := Nat.le_of_ble_eq_true c2
      have c3 := Nat.eq_of_beq_eq_true c3
      split at he1
      · -- a slice without room
        rename_i f
        obtain ⟨r, g1, g2⟩ := gives_bind he1
        obtain ⟨g3, g4, g5⟩ := g2
        obtain ⟨g6, g7⟩ := freshE_gives _ _ g5
        cases g7
        have g3 := Nat.eq_of_beq_eq_true g3
        have g4 := Nat.le_of_ble_eq_true g4
        have hg := gone_get (g6 0 (by omega))
        rw [Nat.add_zero] at hg
        cases hs with | nil _ _ A => ?_
        obtain ⟨h1, hS⟩ := h.nil1 (sz := i.size) c1 (fun _ => zrows z) hg
        have hB1 : (st.heap.set id (.arr 0 i.size 0 fun _ => zrows z))[id]? = some (.arr 0 i.size 0 fun _ => zrows z) := List.getElem?_set_self (List.getElem?_eq_some_iff.1 hg).1
        have g1' := srcE_congr (H' := getB (st.heap.set id (.arr 0 i.size 0 fun _ => zrows z))) (fun c σ lo n _ hcid => ⟨hcid, by
          have := getB_put (H := st.heap) (l := [(id, .arr 0 i.size 0 fun _ => zrows z)]) (c := c) (fun y hy => by cases List.mem_singleton.1 hy; exact fun e => hcid e.symm)
          exact this⟩) g1
        obtain ⟨B, c, sz, C, T, og, hsrc⟩ := srcE_sound h1.heap (hx.stab hS) g1'
        obtain ⟨X', V, W, hrun, hI⟩ := append_root h1 (z := zrows z) hB1 node_self (A := A) (cap := 0) (n := 0) (Nat.le_refl 0) (Nat.le_refl 0) (fun h0 => absurd h0 (Nat.lt_irrefl 0)) hsrc hu hi hz c1 c2 c3 rfl g3 g4 dst
        refine ⟨X', V, W, hrun, ?_⟩
        have := Eff.on_seq (.ms id [] 0 (0 + r.1)) [(id, .arr 0 i.size 0 fun _ => zrows z)] ((id, .arr 0 i.size (0 + r.1) (app 0 (fun _ => zrows z) r.1 r.2.1 (zrows z))) :: goneL r.2.2) [] ((id, false) :: r.2.2.map fun c => (c, false)) (fun y hy => by cases List.mem_singleton.1 hy; rfl) dst st
        unfold appEff
        rw [this]
        exact hI
      · rename_i b ρ lo n
        obtain ⟨g0, g1⟩ := gives_chk he1
        have g0 := Nat.eq_of_beq_eq_true g0
        subst g0
        simp only [Ev.Gives] at g1
        split at g1
        · rename_i s sz N f hB
          have hB := getB_gone hB (by simp)
          obtain ⟨r, g2, g3⟩ := gives_bind g1
          obtain ⟨g4, g5, g6⟩ := g3
          have g4 := Nat.eq_of_beq_eq_true g4
          have g5 := Nat.le_of_ble_eq_true g5
          cases hs with | ms _ _ _ _ _ A cap L hL hn hl hA => ?_
          have hA' : 0 < cap → A = some ⟨L.g, 0, none⟩ ∧ cap * L.sz ≤ L.room := fun h0 => by have := hA h0; simpa using this
          have hl' : n ≤ L.len := by omega
          split at g6
          · obtain ⟨g7, g8⟩ := gives_chk g6
            cases g8
            have g7 := Nat.eq_of_beq_eq_true g7
            obtain ⟨B, c, szx, C, T, og, hsrc⟩ := srcE_sound h.heap hx g2
            have hw' : X.w = w := hw
            obtain ⟨X', V, W, hrun, hI⟩ := append_root h (z := f N) hB hL hn hl' hA' hsrc hu hi hz c1 c2 c3 g7 g4 g5 dst
            exact ⟨X', V, W, hrun, hI⟩
          · rename_i s0 ρ0
            obtain ⟨y, hy, g7⟩ := gives_opt g6
            obtain ⟨g8, g9⟩ := gives_chk g7
            obtain ⟨ga, gb⟩ := freshE_gives _ _ g9
            cases gb
            have g8 := Nat.eq_of_beq_eq_true g8
            have hg := gone_get (ga 0 (by omega))
            rw [Nat.add_zero] at hg
            have hbid : b ≠ id := fun e => by rw [e, hg] at hB; cases hB
            have hroot := h.heap.blk b _ hB
            have eρ := lastS_eq s0 ρ0
            obtain ⟨y', hy', hr⟩ := hroot.of_loc hL
            have hyy : y = y' := by
              have := Nd.go_of_sub (show Nd.sub ⟨true, sz, N, f⟩ (s0 :: ρ0) = some y' from hy')
              rw [hy] at this
              exact Option.some.inj this
            subst hyy
            -- the array above
            have hy2 : Nd.sub ⟨true, sz, N, f⟩ ((lastS s0 ρ0).1 ++ [(lastS s0 ρ0).2]) = some y := by rw [← eρ]; exact hy'
            rw [Nd.sub_append] at hy2
            obtain ⟨x0, hx0, hx1⟩ := Option.bind_eq_some_iff.1 hy2
            have hio : (lastS s0 ρ0).2 = ((lastS s0 ρ0).2.1, (lastS s0 ρ0).2.2) := rfl
            generalize (lastS s0 ρ0).2.1 = i0 at hio
            generalize (lastS s0 ρ0).2.2 = o0 at hio
            rw [hio] at hx1
            rw [Nd.sub_cons] at hx1
            split at hx1
            · rename_i hdi
              obtain ⟨v, hv, hv2⟩ := Option.bind_eq_some_iff.1 hx1
              cases v with
              | own sz2 n2 f2 =>
                cases hv2
                obtain ⟨X1, h1, hl1, hl2, hR1, hw1⟩ := h.release hB hx0 hdi.2 hv hg
                have eL : X1.loc id [] = some L := by rw [hl1, ← hL, eρ, hio]
                let e1 : Eff := Eff.mk dead [(id, .arr 0 sz2 n2 f2), (b, Blk.put (.arr (minT 1 s) sz N f) (lastS s0 ρ0).1 i0 fun cs => cs.set o0 (.pv .bad))] [(b, true)]
                have hst1 : (e1.on none st).heap = putBlks (st.heap.map (Blk.scr [(b, true)])) [(id, .arr 0 sz2 n2 f2), (b, Blk.put (.arr (minT 1 s) sz N f) (lastS s0 ρ0).1 i0 fun cs => cs.set o0 (.pv .bad))] := by rw [on_eq]; rfl
                have hB1 : (e1.on none st).heap[id]? = some (.arr 0 sz2 n2 f2) := by
                  rw [hst1]
                  simp only [putBlks]
                  rw [List.getElem?_set_ne hbid, List.getElem?_set_self (by rw [List.length_map]; exact (List.getElem?_eq_some_iff.1 hg).1)]
                have hmiss : ∀ c σ lo n', x = .ms c σ lo n' → c ≠ b := by
                  intro c σ lo n' e
                  subst e
                  simp only [srcE] at g2
                  obtain ⟨q1, _⟩ := gives_chk g2
                  exact fun e => by rw [e, Nat.beq_refl] at q1; cases q1
                have hnid : ∀ c σ lo n', x = .ms c σ lo n' → c ≠ id := by
                  intro c σ lo n' e ec
                  subst e ec
                  cases hx with | ms _ _ _ _ _ _ _ _ hLc => ?_
                  rw [loc_gone h.heap (getB_of hg)] at hLc; cases hLc
                have g2' : (srcE (z.any isSeq) id x).Gives ok (getB (e1.on none st).heap) r := by
                  refine srcE_congr (fun c σ lo n' e hcb => ⟨hnid c σ lo n' e, ?_⟩) g2
                  rw [hst1, getB_put (fun q hq => by
                    simp only [List.mem_cons, List.not_mem_nil, or_false] at hq
                    rcases hq with rfl | rfl
                    · exact fun e' => hnid c σ lo n' e e'.symm
                    · exact fun e' => hcb e'.symm)]
                  subst e
                  have hx0' := hx
                  cases hx0' with | ms _ _ _ _ _ _ _ Lc hLc => ?_
                  obtain ⟨B0, u0, hB0, hsub0, hrel0⟩ := h.heap.of_loc hLc
                  simp only [srcE] at g2
                  obtain ⟨_, q2⟩ := gives_chk g2
                  obtain ⟨u, hu, q3⟩ := gives_bind q2
                  obtain ⟨q4, _⟩ := gives_chk q3
                  obtain ⟨_, _, hu2⟩ := node_of h.heap hLc hu
                  rw [getB_of hB0] at hu2 ⊢
                  refine getB_map (getB_of hB0) fun r => ?_
                  cases B0 with
                  | arr => rfl
                  | gone => rfl
                  | box s cs =>
                    cases σ with
                    | nil => cases hu2; cases q4
                    | cons t σ => obtain ⟨t1, t2⟩ := t; simp [Blk.sub, Blk.nd, Nd.sub_cons] at hu2
                  | lit s sz rows =>
                    cases σ with
                    | nil => cases hu2; cases q4
                    | cons t σ => obtain ⟨t1, t2⟩ := t; simp [Blk.sub, Blk.nd, Nd.sub_cons] at hu2
                have hRR : ∀ g off, X.R g off → X1.R g off ∧ X1.w.cell? ⟨g, off, none⟩ = X.w.cell? ⟨g, off, none⟩ := fun g off hr => ⟨by rw [hR1]; exact hr, by rw [hw1]⟩
                have hx' : VA X1 none x Vx := by
                  have hx2 := hx
                  cases hx2 with
                  | pv _ p _ hp => exact .pv _ _ _ (hp.stab hRR)
                  | nil _ f A => exact .nil _ _ _
                  | ms _ c σ lo n' A' cap' Lc hLc hn' hl2' hA2 => exact .ms _ _ _ _ _ _ _ Lc (by rw [hl2 c (hmiss c σ lo n' rfl) (hnid c σ lo n' rfl)]; exact hLc) hn' hl2' hA2
                  | _ => exact g2.elim
                obtain ⟨B, c, szx, C, T, og, hsrc⟩ := srcE_sound h1.heap hx' g2'
                obtain ⟨X', V, W, hrun, hI⟩ := append_root h1 (z := f2 n2) hB1 eL hn hl' hA' hsrc hu hi hz c1 c2 c3 g8 g4 g5 dst
                refine ⟨X', V, W, hrun, ?_⟩
                have hseq := Eff.on_seq (.ms id [] 0 (n + r.1)) [(id, .arr 0 sz2 n2 f2), (b, Blk.put (.arr (minT 1 s) sz N f) (lastS s0 ρ0).1 i0 fun cs => cs.set o0 (.pv .bad))] ((id, .arr 0 sz2 (n + r.1) (app n f2 r.1 r.2.1 (f2 n2))) :: goneL r.2.2) [(b, true)] ((id, false) :: r.2.2.map fun c => (c, false)) (fun q hq => by
                  simp only [List.mem_cons, List.not_mem_nil, or_false] at hq
                  rcases hq with rfl | rfl <;> rfl) dst st
                have hI2 : Inv X0 X' ((Eff.mk (.ms id [] 0 (n + r.1)) ((id, .arr 0 sz2 (n + r.1) (app n f2 r.1 r.2.1 (f2 n2))) :: goneL r.2.2) ((id, false) :: r.2.2.map fun c => (c, false))).on dst (e1.on none st)) (a.put dst V) W := hI
                rw [← hseq] at hI2
                exact hI2
              | _ => cases hv2
            · cases hx1
        · cases g1
      · cases he1
    · cases he
  · cases he
end
end Go.Bm
