import Derived.Test.YtipjbmnfnmlkfaaDoorBmSel
namespace Go.Bm
set_option autoImplicit false
set_option linter.unusedVariables false
set_option linter.unusedSimpArgs false
section
variable {P : Program} {X0 X : Ctx} {st : St} {a : Act} {w : World}
def tt (a : Act) : ResultVar → Sem Value
 | .tmp t => pure (a.tmps.getD t undef)
 | .cell b t => do loadVar t (← asAddr (a.tmps.getD b undef))
theorem Cj : wj (fun o => match o with | .t u v => u = v | .e u v => u = v | _ => True) := ⟨fun _ _ h => h, fun _ _ h => h⟩
theorem xy (h : Inv X0 X st a w) {r : ResultVar} {v : AV} (hr : A2 P st r = some v) : ∃ V, VA X none v V ∧ (tt a r).run P w = .ok V w := by
 cases r with
 | tmp t =>
  cases hr
  exact ⟨_, h.tmp t, rfl⟩
 | cell b t =>
  unfold A2 at hr
  simp only [] at hr
  cases hx : (ss P t (AS st b)).run (aN st.heap) [] with
  | none => rw [hx] at hr; cases hr
  | some q =>
   obtain ⟨l, rd, u, s⟩ := q
   rw [hx] at hr
   have hl : l = [] := by
    cases l with
    | nil => rfl
    | cons o l => cases hr
   subst hl
   cases hr
   have hg := eU Cj _ _ _ _ _ _ hx fun o ho => by cases ho
   have hb := h.tmp b
   obtain ⟨V, hv, hrun⟩ := lI h.heap h.hw hb hg
   obtain ⟨A, hA⟩ := Et hb hg
   refine ⟨V, hv, ?_⟩
   rw [hA] at hrun
   show (do loadVar t (← asAddr (a.tmps.getD b undef)) : Sem Value).run P w = _
   rw [hA]
   exact hrun
theorem pg (h : Inv X0 X st a w) : ∀ {rs : List ResultVar} {vs : List AV}, u7 P st rs = some vs →
  ∃ Vs : List Value, Vs.length = vs.length ∧ (∀ (j : Nat) (v : AV) (V : Value), vs[j]? = some v → Vs[j]? = some V → VA X none v V) ∧
   (rs.mapM (tt a)).run P w = .ok Vs w
 | [], vs, hr => by
  cases hr
  exact ⟨[], rfl, fun j v V hv => by simp at hv, rfl⟩
 | r :: rs, vs, hr => by
  unfold u7 at hr
  split at hr
  ·rename_i v hv
   cases hx : u7 P st rs with
   | none => rw [hx] at hr; cases hr
   | some us =>
    rw [hx] at hr
    cases hr
    obtain ⟨V, hva, hrun⟩ := xy h hv
    obtain ⟨Vs, hl, hh, hruns⟩ := pg h hx
    refine ⟨V :: Vs, by simp [hl], fun j u U hu hU => ?_, ?_⟩
    ·cases j with
     | zero => cases hu; cases hU; exact hva
     | succ j => exact hh j u U (by simpa using hu) (by simpa using hU)
    ·simp [List.mapM_cons, hrun, hruns]
  ·cases hr
theorem yH {fn : Func} {Vs : List Value} (hrun : (fn.results.toList.mapM (tt a)).run P w = .ok Vs w) :
  (results fn a.tmps).run P w = .ok (if h : Vs.toArray.size = 1 then Vs.toArray[0] else .tuple Vs.toArray) w := by
 have he : results fn a.tmps = (do let vs ← fn.results.mapM (tt a); pure (if h : vs.size = 1 then vs[0] else .tuple vs)) := by
  unfold results
  have : (fun r : ResultVar => match r with
   | .tmp t => (pure (a.tmps.getD t undef) : Sem Value)
   | .cell b t => do loadVar t (← asAddr (a.tmps.getD b undef))) = tt a := by funext r; cases r <;> rfl
  rw [← this]
  rfl
 rw [he, Array.mapM_eq_mapM_toList]
 simp [hrun]
theorem FN (h : Inv X0 X st a w) {p : Bool} {f : Nat → List PV} (hz : 0 < (f 0).length) : ∃ X', fJ X X' ∧ Inv X0 X' { st with heap := st.heap ++ [.arr 0 (f 0).length 0 fun _ => jy p (f 0)] } a w ∧ ∀ V, VA X none (.nil f) V → VA X' none (.ms st.heap.length [] 0 0) V := by
 have hg : (st.heap ++ [Blk.gone])[st.heap.length]? = some .gone := by simp
 obtain ⟨h1, hS⟩ := Inv.nil1 (st := grow 1 st) (h.grow 1) (id := st.heap.length) hz (fun _ => jy p (f 0)) hg
 have e : (grow 1 st).heap.set st.heap.length (.arr 0 (f 0).length 0 fun _ => jy p (f 0)) = st.heap ++ [.arr 0 (f 0).length 0 fun _ => jy p (f 0)] := by
  show (st.heap ++ [Blk.gone]).set st.heap.length _ = _
  simp
 rw [e] at h1
 refine ⟨_, hS, h1, fun V hv => ?_⟩
 cases hv with | nil _ _ A => ?_
 exact .ms none _ [] 0 0 A 0 ⟨0, (f 0).length, 0, 0⟩ cN (Nat.le_refl _) (Nat.le_refl _) fun h0 => absurd h0 (Nat.lt_irrefl 0)
def wz (X0 X : Ctx) (T : List AV) (a : Act) (w : World) (vs : List AV) (q : List AV × List Blk) : Prop :=
 ∃ X', fJ X X' ∧ Inv X0 X' ⟨T, q.2⟩ a w ∧ q.1.length = vs.length ∧ ∀ (j : Nat) (v : AV) (V : Value), q.1[j]? = some v → (∀ u, vs[j]? = some u → VA X none u V) → VA X' none v V
theorem wz.cons {T : List AV} {v v' : AV} {vs : List AV} {q : List AV × List Blk} {X1 : Ctx} (hS : fJ X X1) (hv : ∀ V, VA X none v V → VA X1 none v' V) (h : wz X0 X1 T a w vs q) : wz X0 X T a w (v :: vs) (v' :: q.1, q.2) := by
 obtain ⟨X', h1, h2, h3, h4⟩ := h
 refine ⟨X', hS.trans h1, h2, by simp [h3], fun j u V hj hu => ?_⟩
 cases j with
 | zero => cases hj; exact (hv V (hu _ rfl)).stab h1
 | succ j => exact h4 j u V hj fun x hx => (hu x hx).stab hS
theorem ph (c p : Bool) (v : AV) (H : List Blk) (X : Ctx) (T : List AV) (h : Inv X0 X ⟨T, H⟩ a w) : ∃ X', fJ X X' ∧ Inv X0 X' ⟨T, (u9 c p v H).2⟩ a w ∧ ∀ V, VA X none v V → VA X' none (u9 c p v H).1 V := by
 unfold u9
 split
 ·rename_i f _
  split
  ·rename_i hz
   exact FN h (Nat.le_of_ble_eq_true hz)
  ·exact ⟨X, .refl X, h, fun _ h => h⟩
 ·exact ⟨X, .refl X, h, fun _ h => h⟩
theorem sb (l : List Nat) : ∀ (vs : List AV) (i : Nat) (H : List Blk) (X : Ctx) (T : List AV), Inv X0 X ⟨T, H⟩ a w → wz X0 X T a w vs (Eo l i vs H)
 | [], i, H, X, T, h => ⟨X, .refl X, h, rfl, fun j v V hj => by cases hj⟩
 | v :: vs, i, H, X, T, h => by
  obtain ⟨X1, hS, h1, hv⟩ := ph (l.elem i) (l.elem (1000 + i)) v H X T h
  exact .cons hS hv (sb l vs (i + 1) _ X1 T h1)
theorem xz (l : List Nat) (i : Nat) (v : AV) (H : List Blk) (X : Ctx) (T : List AV) (h : Inv X0 X ⟨T, H⟩ a w) : ∃ X', fJ X X' ∧ Inv X0 X' ⟨T, (vc l i v H).2.1⟩ a w ∧ ∀ V, VA X none v V → VA X' none (vc l i v H).1 V := by
 unfold vc
 split
 ·rename_i cs
  obtain ⟨X1, hS, h1, hl, hv⟩ := sb l cs i H X T h
  refine ⟨X1, hS, h1, fun V hV => ?_⟩
  cases hV with | agg _ _ Cs hl' hh => ?_
  exact .agg _ _ Cs (by rw [hl, hl']) fun j u U hu hU => hv j u U hu fun x hx => hh j x U hx hU
 ·exact ph _ _ _ H X T h
theorem pi (l : List Nat) : ∀ (vs : List AV) (i : Nat) (H : List Blk) (X : Ctx) (T : List AV), Inv X0 X ⟨T, H⟩ a w → wz X0 X T a w vs (A3 l i vs H)
 | [], i, H, X, T, h => ⟨X, .refl X, h, rfl, fun j v V hj => by cases hj⟩
 | v :: vs, i, H, X, T, h => by
  obtain ⟨X1, hS, h1, hv⟩ := xz l i v H X T h
  exact .cons hS hv (pi l vs (i + (vc l i v H).2.2) _ X1 T h1)
theorem tu {H : List Blk} (hH : aI X H) {m : Nat} {v : AV} {V : Value} (hv : VA X none v V) (bl : List Nat) (hbl : ∀ b ∈ zV m v, b < H.length → b ∈ bl) : VA (X.rb bl) none (CY m H v) V := by
 by_cases hms : ∃ b ρ lo n, v = .ms b ρ lo n
 ·obtain ⟨b, ρ, lo, n, rfl⟩ := hms
  simp only [CY]
  simp only [zV] at hbl
  cases hc : Nat.ble (b + 1) m || ρ.isEmpty with
  | true => exact hv.stab (fJ.rb X bl)
  | false =>
   rw [hc] at hbl
   simp only [cond_false] at hbl ⊢
   have hbad : VA (X.rb bl) none (.pv .bad) V := .pv _ _ _ (.bad _ (by cases hv; rfl))
   cases hnd : (aN H b).nd with
   | none => exact hbad
   | some x =>
    simp only []
    cases hgo : x.go ρ with
    | none => exact hbad
    | some y =>
     simp only []
     cases hd : y.dat with
     | false => exact hbad
     | true =>
      simp only [cond_true]
      cases hv with | ms _ _ _ _ _ A cap L hL hn hl hA => ?_
      obtain ⟨B, z, hB, hz, hr⟩ := hH.of_loc hL
      have hBg := ey hB
      have hsub : B.sub ρ = some y := by
       rw [hBg] at hnd
       have h1 := hz
       unfold Blk.sub at h1
       rw [hnd] at h1
       have h1 := Nd.go_of_sub (show x.sub ρ = some z from h1)
       rw [hgo] at h1
       rw [hz]; exact h1.symm
      rw [hsub] at hz
      cases hz
      have hb : b ∈ bl := hbl b (by simp) (hH.lt b ρ L hL)
      have hroot := hH.blk b B hB
      have hg : ∀ k, k < n → dB lo n y.n y.f k = y.f (lo + k) := fun k hk => by unfold dB; rw [if_pos hk]
      refine .pv _ _ _ (tR hroot hb hsub hd hL hn (by rw [← hr.len]; exact hl) hA hg fun k j v V hk hv hva h1v hdv => ?_)
      refine tS hroot hb v _ V hva h1v hdv fun sz' n' f' e => ?_
      subst e
      rw [hg k hk] at hv
      rw [Blk.sub_append hsub, Nd.sub_cons, hd]
      have hlN : lo + k < y.n := by rw [← hr.len]; omega
      simp only [true_and, hlN, if_true, hv, Option.bind_some]
      rfl
 ·have : CY m H v = v := by
   cases v <;> first | rfl | exact absurd ⟨_, _, _, _, rfl⟩ hms
  rw [this]
  exact hv.stab (fJ.rb X bl)
theorem z8 {H : List Blk} (hH : aI X H) {m : Nat} {v : AV} {V : Value} (hv : VA X none v V) (bl : List Nat) (hbl : ∀ b ∈ Ep m v, b < H.length → b ∈ bl) : VA (X.rb bl) none (En m H v) V := by
 by_cases ha : ∃ cs, v = .agg cs
 ·obtain ⟨cs, rfl⟩ := ha
  cases hv with | agg _ _ Cs hl hh => ?_
  refine .agg _ _ Cs (by rw [List.length_map]; exact hl) fun j u U hu hU => ?_
  rw [List.getElem?_map] at hu
  cases hx : cs[j]? with
  | none => rw [hx] at hu; cases hu
  | some x =>
   rw [hx] at hu
   cases hu
   exact tu hH (hh j x U hx hU) bl fun b hb => hbl b (List.mem_flatMap.2 ⟨x, List.mem_of_getElem? hx, hb⟩)
 ·have e1 : En m H v = CY m H v := by cases v <;> first | rfl | exact absurd ⟨_, rfl⟩ ha
  have e2 : Ep m v = zV m v := by cases v <;> first | rfl | exact absurd ⟨_, rfl⟩ ha
  rw [e1]
  exact tu hH hv bl (e2 ▸ hbl)
theorem Ck {Y : Ctx} {vs : List AV} {Vs : List Value} (hl : Vs.length = vs.length) (hh : ∀ (j : Nat) (v : AV) (V : Value), vs[j]? = some v → Vs[j]? = some V → VA Y none v V) :
  VA Y none (Er vs) (if h : Vs.toArray.size = 1 then Vs.toArray[0] else .tuple Vs.toArray) := by
 unfold Er
 split
 ·rename_i v
  obtain ⟨U, hU⟩ : ∃ U, Vs = [U] := List.length_eq_one_iff.1 hl
  subst hU
  exact hh 0 v U rfl rfl
 ·rename_i h1
  have : ¬ Vs.toArray.size = 1 := by
   intro h2
   have h3 : vs.length = 1 := by rw [← hl]; simpa using h2
   obtain ⟨v, hv⟩ := List.length_eq_one_iff.1 h3
   exact h1 v hv
  rw [dif_neg this]
  exact .tup _ _ Vs hl hh
theorem Cl {fn : Func} (h : Inv X0 X st a w) {L : Nat → Nat → Option (List Nat)} {m : Nat} (hm : ∀ b ρ L, X0.loc b ρ = some L → b < m) {r : AV × List Blk} (he : Es P L fn m st = some r) :
  ∃ V, (results fn a.tmps).run P w = .ok V w ∧ ∃ X', X'.w = w ∧ Fr X0 X' ∧ i8 X0 X' r.2 ∧ aI X' r.2 ∧ fF X' ∧ VA X' none r.1 V := by
 unfold Es at he
 split at he
 ·rename_i vs hvs
  obtain ⟨Vs, hl, hh, hrun⟩ := pg h hvs
  have hres := yH (fn := fn) hrun
  have hq : wz X0 X st.tmps a w vs (Fn L vs st.heap) := by
   unfold Fn
   split
   ·exact pi _ vs 0 st.heap X st.tmps h
   ·exact ⟨X, .refl X, h, rfl, fun j v V hj hu => hu v hj⟩
  generalize Fn L vs st.heap = q at hq he
  obtain ⟨X2, hS, hI, hql, hqv⟩ := hq
  unfold GW GV at he
  generalize hus : q.1.map (En m q.2) = us at he
  split at he
  ·rename_i hlost
   cases he
   let bl := (List.range q.2.length).filter fun b => !(bv m us q.2).elem b
   have hbl : ∀ b ∈ bv m us q.2, b ∉ bl := fun b hb hb' => by
    have := (List.mem_filter.1 hb').2
    rw [List.elem_eq_true_of_mem hb] at this
    cases this
   obtain ⟨h1, h2, h3, h4⟩ := Dc hI.heap hI.fresh hI.fr hI.base us hm hbl
   have hvals : ∀ (j : Nat) (v : AV) (V : Value), (AV.renL (dp (bv m us q.2)) us)[j]? = some v → Vs[j]? = some V → VA (X2.inn (bv m us q.2) bl) none v V := fun j v V hv hV => by
    obtain ⟨u, hu, rfl⟩ := ic hv
    rw [← hus, List.getElem?_map] at hu
    cases hx : q.1[j]? with
    | none => rw [hx] at hu; cases hu
    | some x =>
     rw [hx] at hu
     cases hu
     have hxv := hqv j x V hx fun y hy => hh j y V hy hV
     refine (z8 (m := m) hI.heap hxv bl fun b hb hlt => ?_).map (Ren.inn X2 _ bl) none rfl
     have := List.all_eq_true.1 hlost b (List.mem_flatMap.2 ⟨x, List.mem_of_getElem? hx, hb⟩)
     exact List.mem_filter.2 ⟨List.mem_range.2 hlt, this⟩
   have hlen : Vs.length = (AV.renL (dp (bv m us q.2)) us).length := by rw [fI, ← hus, List.length_map, hql]; exact hl
   obtain ⟨X3, w3, k1, k2, k3, k4, k5⟩ := rc (AV.renL (dp (bv m us q.2)) us) ((L 10 0).getD []) _ _ h1 h2 h3 h4 fun j v hv => by
    have hj : j < Vs.length := by rw [hlen]; exact (List.getElem?_eq_some_iff.1 hv).1
    exact ⟨_, hvals j v _ hv (List.getElem?_eq_getElem hj)⟩
   exact ⟨_, hres, X3, w3.1.trans hI.hw, k3, k4.untag _, k1.untag _, k2, Ck hlen fun j v V hv hV => k5 j v V hv (hvals j v V hv hV)⟩
  ·cases he
 ·cases he
end
end Go.Bm
