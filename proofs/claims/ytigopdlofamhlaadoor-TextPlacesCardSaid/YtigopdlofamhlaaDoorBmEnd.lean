/- The abstract machine is sound: a function's end. -/
import Derived.Test.YtigopdlofamhlaaDoorBmSel
namespace Go.Bm
set_option autoImplicit false
set_option linter.unusedVariables false
set_option linter.unusedSimpArgs false

section
variable {P : Program} {X0 X : Ctx} {st : St} {a : Act} {w : World}

def resRun (a : Act) : ResultVar → Sem Value
  | .tmp t => pure (a.tmps.getD t undef)
  | .cell b t => do loadVar t (← asAddr (a.tmps.getD b undef))
theorem okob_true : OkOb (fun o => match o with | .t u v => u = v | .e u v => u = v | _ => True) := ⟨fun _ _ h => h, fun _ _ h => h⟩

theorem resOne_sound (h : Inv X0 X st a w) {r : ResultVar} {v : AV} (hr : resOne P st r = some v) : ∃ V, VA X none v V ∧ (resRun a r).run P w = .ok V w := by
  cases r with
  | tmp t =>
    cases hr
    exact ⟨_, h.tmp t, rfl⟩
  | cell b t =>
    unfold resOne at hr
    simp only [] at hr
    cases hx : (loadE P t (getT st b)).run (getB st.heap) [] with
    | none => rw [hx] at hr; cases hr
    | some q =>
      obtain ⟨l, rd, u, s⟩ := q
      rw [hx] at hr
      have hl : l = [] := by
        cases l with
        | nil => rfl
        | cons o l => cases hr
      subst hl
      cases hr
      have hg := run_gives okob_true _ _ _ _ _ _ hx fun o ho => by cases ho
      have hb := h.tmp b
      obtain ⟨V, hv, hrun⟩ := loadE_sound h.heap h.hw hb hg
      obtain ⟨A, hA⟩ := ptr_of hb hg
      refine ⟨V, hv, ?_⟩
      rw [hA] at hrun
      show (do loadVar t (← asAddr (a.tmps.getD b undef)) : Sem Value).run P w = _
      rw [hA]
      exact hrun

theorem resAll_sound (h : Inv X0 X st a w) : ∀ {rs : List ResultVar} {vs : List AV}, resAll P st rs = some vs →
    ∃ Vs : List Value, Vs.length = vs.length ∧ (∀ (j : Nat) (v : AV) (V : Value), vs[j]? = some v → Vs[j]? = some V → VA X none v V) ∧
      (rs.mapM (resRun a)).run P w = .ok Vs w
  | [], vs, hr => by
    cases hr
    exact ⟨[], rfl, fun j v V hv => by simp at hv, rfl⟩
  | r :: rs, vs, hr => by
    unfold resAll at hr
    split at hr
    · rename_i v hv
      cases hx : resAll P st rs with
      | none => rw [hx] at hr; cases hr
      | some us =>
        rw [hx] at hr
        cases hr
        obtain ⟨V, hva, hrun⟩ := resOne_sound h hv
        obtain ⟨Vs, hl, hh, hruns⟩ := resAll_sound h hx
        refine ⟨V :: Vs, by simp [hl], fun j u U hu hU => ?_, ?_⟩
        · cases j with
          | zero => cases hu; cases hU; exact hva
          | succ j => exact hh j u U (by simpa using hu) (by simpa using hU)
        · simp [List.mapM_cons, hrun, hruns]
    · cases hr

theorem results_run {fn : Func} {Vs : List Value} (hrun : (fn.results.toList.mapM (resRun a)).run P w = .ok Vs w) :
    (results fn a.tmps).run P w = .ok (if h : Vs.toArray.size = 1 then Vs.toArray[0] else .tuple Vs.toArray) w := by
  have he : results fn a.tmps = (do let vs ← fn.results.mapM (resRun a); pure (if h : vs.size = 1 then vs[0] else .tuple vs)) := by
    unfold results
    have : (fun r : ResultVar => match r with
      | .tmp t => (pure (a.tmps.getD t undef) : Sem Value)
      | .cell b t => do loadVar t (← asAddr (a.tmps.getD b undef))) = resRun a := by funext r; cases r <;> rfl
    rw [← this]
    rfl
  rw [he, Array.mapM_eq_mapM_toList]
  simp [hrun]

/-! ### results that get blocks -/
theorem newNil (h : Inv X0 X st a w) {p : Bool} {f : Nat → List PV} (hz : 0 < (f 0).length) : ∃ X', Stab X X' ∧ Inv X0 X' { st with heap := st.heap ++ [.arr 0 (f 0).length 0 fun _ => nilRow p (f 0)] } a w ∧ ∀ V, VA X none (.nil f) V → VA X' none (.ms st.heap.length [] 0 0) V := by
  have hg : (st.heap ++ [Blk.gone])[st.heap.length]? = some .gone := by simp
  obtain ⟨h1, hS⟩ := Inv.nil1 (st := grow 1 st) (h.grow 1) (id := st.heap.length) hz (fun _ => nilRow p (f 0)) hg
  have e : (grow 1 st).heap.set st.heap.length (.arr 0 (f 0).length 0 fun _ => nilRow p (f 0)) = st.heap ++ [.arr 0 (f 0).length 0 fun _ => nilRow p (f 0)] := by
    show (st.heap ++ [Blk.gone]).set st.heap.length _ = _
    simp
  rw [e] at h1
  refine ⟨_, hS, h1, fun V hv => ?_⟩
  cases hv with | nil _ _ A => ?_
  exact .ms none _ [] 0 0 A 0 ⟨0, (f 0).length, 0, 0⟩ node_self (Nat.le_refl _) (Nat.le_refl _) fun h0 => absurd h0 (Nat.lt_irrefl 0)

def OutTo (X0 X : Ctx) (T : List AV) (a : Act) (w : World) (vs : List AV) (q : List AV × List Blk) : Prop :=
  ∃ X', Stab X X' ∧ Inv X0 X' ⟨T, q.2⟩ a w ∧ q.1.length = vs.length ∧ ∀ (j : Nat) (v : AV) (V : Value), q.1[j]? = some v → (∀ u, vs[j]? = some u → VA X none u V) → VA X' none v V
theorem OutTo.cons {T : List AV} {v v' : AV} {vs : List AV} {q : List AV × List Blk} {X1 : Ctx} (hS : Stab X X1) (hv : ∀ V, VA X none v V → VA X1 none v' V) (h : OutTo X0 X1 T a w vs q) : OutTo X0 X T a w (v :: vs) (v' :: q.1, q.2) := by
  obtain ⟨X', h1, h2, h3, h4⟩ := h
  refine ⟨X', hS.trans h1, h2, by simp [h3], fun j u V hj hu => ?_⟩
  cases j with
  | zero => cases hj; exact (hv V (hu _ rfl)).stab h1
  | succ j => exact h4 j u V hj fun x hx => (hu x hx).stab hS
theorem nilOne_sound (c p : Bool) (v : AV) (H : List Blk) (X : Ctx) (T : List AV) (h : Inv X0 X ⟨T, H⟩ a w) : ∃ X', Stab X X' ∧ Inv X0 X' ⟨T, (nilOne c p v H).2⟩ a w ∧ ∀ V, VA X none v V → VA X' none (nilOne c p v H).1 V := by
  unfold nilOne
  split
  · rename_i f _
    split
    · rename_i hz
      exact newNil h (Nat.le_of_ble_eq_true hz)
    · exact ⟨X, .refl X, h, fun _ h => h⟩
  · exact ⟨X, .refl X, h, fun _ h => h⟩
theorem nilIn_sound (l : List Nat) : ∀ (vs : List AV) (i : Nat) (H : List Blk) (X : Ctx) (T : List AV), Inv X0 X ⟨T, H⟩ a w → OutTo X0 X T a w vs (nilIn l i vs H)
  | [], i, H, X, T, h => ⟨X, .refl X, h, rfl, fun j v V hj => by cases hj⟩
  | v :: vs, i, H, X, T, h => by
    obtain ⟨X1, hS, h1, hv⟩ := nilOne_sound (l.elem i) (l.elem (1000 + i)) v H X T h
    exact .cons hS hv (nilIn_sound l vs (i + 1) _ X1 T h1)
theorem nilAgg_sound (l : List Nat) (i : Nat) (v : AV) (H : List Blk) (X : Ctx) (T : List AV) (h : Inv X0 X ⟨T, H⟩ a w) : ∃ X', Stab X X' ∧ Inv X0 X' ⟨T, (nilAgg l i v H).2.1⟩ a w ∧ ∀ V, VA X none v V → VA X' none (nilAgg l i v H).1 V := by
  unfold nilAgg
  split
  · rename_i cs
    obtain ⟨X1, hS, h1, hl, hv⟩ := nilIn_sound l cs i H X T h
    refine ⟨X1, hS, h1, fun V hV => ?_⟩
    cases hV with | agg _ _ Cs hl' hh => ?_
    exact .agg _ _ Cs (by rw [hl, hl']) fun j u U hu hU => hv j u U hu fun x hx => hh j x U hx hU
  · exact nilOne_sound _ _ _ H X T h
theorem nilOut_sound (l : List Nat) : ∀ (vs : List AV) (i : Nat) (H : List Blk) (X : Ctx) (T : List AV), Inv X0 X ⟨T, H⟩ a w → OutTo X0 X T a w vs (nilOut l i vs H)
  | [], i, H, X, T, h => ⟨X, .refl X, h, rfl, fun j v V hj => by cases hj⟩
  | v :: vs, i, H, X, T, h => by
    obtain ⟨X1, hS, h1, hv⟩ := nilAgg_sound l i v H X T h
    exact .cons hS hv (nilOut_sound l vs (i + (nilAgg l i v H).2.2) _ X1 T h1)

/-! ### results -/
theorem outS_sound {H : List Blk} (hH : HeapOk X H) {m : Nat} {v : AV} {V : Value} (hv : VA X none v V) (bl : List Nat) (hbl : ∀ b ∈ lostS m v, b < H.length → b ∈ bl) : VA (X.rb bl) none (outS m H v) V := by
  by_cases hms : ∃ b ρ lo n, v = .ms b ρ lo n
  · obtain ⟨b, ρ, lo, n, rfl⟩ := hms
    simp only [outS]
    simp only [lostS] at hbl
    cases hc : Nat.ble (b + 1) m || ρ.isEmpty with
    | true => exact hv.stab (Stab.rb X bl)
    | false =>
      rw [hc] at hbl
      simp only [cond_false] at hbl ⊢
      have hbad : VA (X.rb bl) none (.pv .bad) V := .pv _ _ _ (.bad _ (by cases hv; rfl))
      cases hnd : (getB H b).nd with
      | none => exact hbad
      | some x =>
        simp only []
        cases hgo : x.go ρ with
        | none => exact hbad
        | some y =>
          simp only []
          cases hd : y.dat with
          | false => exact hbad
          | true =>
            simp only [cond_true]
            cases hv with | ms _ _ _ _ _ A cap L hL hn hl hA => ?_
            obtain ⟨B, z, hB, hz, hr⟩ := hH.of_loc hL
            have hBg := getB_of hB
            have hsub : B.sub ρ = some y := by
              rw [hBg] at hnd
              have h1 := hz
              unfold Blk.sub at h1
              rw [hnd] at h1
              have h1 := Nd.go_of_sub (show x.sub ρ = some z from h1)
              rw [hgo] at h1
              rw [hz]; exact h1.symm
            rw [hsub] at hz
            cases hz
            have hb : b ∈ bl := hbl b (by simp) (hH.lt b ρ L hL)
            have hroot := hH.blk b B hB
            have hg : ∀ k, k < n → cutF lo n y.n y.f k = y.f (lo + k) := fun k hk => by unfold cutF; rw [if_pos hk]
            refine .pv _ _ _ (snapN_ok hroot hb hsub hd hL hn (by rw [← hr.len]; exact hl) hA hg fun k j v V hk hv hva h1v hdv => ?_)
            refine snapC_ok hroot hb v _ V hva h1v hdv fun sz' n' f' e => ?_
            subst e
            rw [hg k hk] at hv
            rw [Blk.sub_append hsub, Nd.sub_cons, hd]
            have hlN : lo + k < y.n := by rw [← hr.len]; omega
            simp only [true_and, hlN, if_true, hv, Option.bind_some]
            rfl
  · have : outS m H v = v := by
      cases v <;> first | rfl | exact absurd ⟨_, _, _, _, rfl⟩ hms
    rw [this]
    exact hv.stab (Stab.rb X bl)
theorem outV_sound {H : List Blk} (hH : HeapOk X H) {m : Nat} {v : AV} {V : Value} (hv : VA X none v V) (bl : List Nat) (hbl : ∀ b ∈ lostV m v, b < H.length → b ∈ bl) : VA (X.rb bl) none (outV m H v) V := by
  by_cases ha : ∃ cs, v = .agg cs
  · obtain ⟨cs, rfl⟩ := ha
    cases hv with | agg _ _ Cs hl hh => ?_
    refine .agg _ _ Cs (by rw [List.length_map]; exact hl) fun j u U hu hU => ?_
    rw [List.getElem?_map] at hu
    cases hx : cs[j]? with
    | none => rw [hx] at hu; cases hu
    | some x =>
      rw [hx] at hu
      cases hu
      exact outS_sound hH (hh j x U hx hU) bl fun b hb => hbl b (List.mem_flatMap.2 ⟨x, List.mem_of_getElem? hx, hb⟩)
  · have e1 : outV m H v = outS m H v := by cases v <;> first | rfl | exact absurd ⟨_, rfl⟩ ha
    have e2 : lostV m v = lostS m v := by cases v <;> first | rfl | exact absurd ⟨_, rfl⟩ ha
    rw [e1]
    exact outS_sound hH hv bl (e2 ▸ hbl)

theorem tup_sound {Y : Ctx} {vs : List AV} {Vs : List Value} (hl : Vs.length = vs.length) (hh : ∀ (j : Nat) (v : AV) (V : Value), vs[j]? = some v → Vs[j]? = some V → VA Y none v V) :
    VA Y none (tupOf vs) (if h : Vs.toArray.size = 1 then Vs.toArray[0] else .tuple Vs.toArray) := by
  unfold tupOf
  split
  · rename_i v
    obtain ⟨U, hU⟩ : ∃ U, Vs = [U] := List.length_eq_one_iff.1 hl
    subst hU
    exact hh 0 v U rfl rfl
  · rename_i h1
    have : ¬ Vs.toArray.size = 1 := by
      intro h2
      have h3 : vs.length = 1 := by rw [← hl]; simpa using h2
      obtain ⟨v, hv⟩ := List.length_eq_one_iff.1 h3
      exact h1 v hv
    rw [dif_neg this]
    exact .tup _ _ Vs hl hh

theorem end_sound {fn : Func} (h : Inv X0 X st a w) {L : Nat → Nat → Option (List Nat)} {m : Nat} (hm : ∀ b ρ L, X0.loc b ρ = some L → b < m) {r : AV × List Blk} (he : endE P L fn m st = some r) :
    ∃ V, (results fn a.tmps).run P w = .ok V w ∧ ∃ X', X'.w = w ∧ Fr X0 X' ∧ Base X0 X' r.2 ∧ HeapOk X' r.2 ∧ Fresh X' ∧ VA X' none r.1 V := by
  unfold endE at he
  split at he
  · rename_i vs hvs
    obtain ⟨Vs, hl, hh, hrun⟩ := resAll_sound h hvs
    have hres := results_run (fn := fn) hrun
    have hq : OutTo X0 X st.tmps a w vs (nilQ L vs st.heap) := by
      unfold nilQ
      split
      · exact nilOut_sound _ vs 0 st.heap X st.tmps h
      · exact ⟨X, .refl X, h, rfl, fun j v V hj hu => hu v hj⟩
    generalize nilQ L vs st.heap = q at hq he
    obtain ⟨X2, hS, hI, hql, hqv⟩ := hq
    unfold endQ endR at he
    generalize hus : q.1.map (outV m q.2) = us at he
    split at he
    · rename_i hlost
      cases he
      let bl := (List.range q.2.length).filter fun b => !(keptIds m us q.2).elem b
      have hbl : ∀ b ∈ keptIds m us q.2, b ∉ bl := fun b hb hb' => by
        have := (List.mem_filter.1 hb').2
        rw [List.elem_eq_true_of_mem hb] at this
        cases this
      obtain ⟨h1, h2, h3, h4⟩ := sel_ok hI.heap hI.fresh hI.fr hI.base us hm hbl
      have hvals : ∀ (j : Nat) (v : AV) (V : Value), (AV.renL (place (keptIds m us q.2)) us)[j]? = some v → Vs[j]? = some V → VA (X2.inn (keptIds m us q.2) bl) none v V := fun j v V hv hV => by
        obtain ⟨u, hu, rfl⟩ := mapL_inv hv
        rw [← hus, List.getElem?_map] at hu
        cases hx : q.1[j]? with
        | none => rw [hx] at hu; cases hu
        | some x =>
          rw [hx] at hu
          cases hu
          have hxv := hqv j x V hx fun y hy => hh j y V hy hV
          refine (outV_sound (m := m) hI.heap hxv bl fun b hb hlt => ?_).map (Ren.inn X2 _ bl) none rfl
          have := List.all_eq_true.1 hlost b (List.mem_flatMap.2 ⟨x, List.mem_of_getElem? hx, hb⟩)
          exact List.mem_filter.2 ⟨List.mem_range.2 hlt, this⟩
      have hlen : Vs.length = (AV.renL (place (keptIds m us q.2)) us).length := by rw [mapL_len, ← hus, List.length_map, hql]; exact hl
      obtain ⟨X3, w3, k1, k2, k3, k4, k5⟩ := shrink_ok (AV.renL (place (keptIds m us q.2)) us) ((L 10 0).getD []) _ _ h1 h2 h3 h4 fun j v hv => by
        have hj : j < Vs.length := by rw [hlen]; exact (List.getElem?_eq_some_iff.1 hv).1
        exact ⟨_, hvals j v _ hv (List.getElem?_eq_getElem hj)⟩
      exact ⟨_, hres, X3, w3.1.trans hI.hw, k3, k4.untag _, k1.untag _, k2, tup_sound hlen fun j v V hv hV => k5 j v V hv (hvals j v V hv hV)⟩
    · cases he
  · cases he
end
end Go.Bm
