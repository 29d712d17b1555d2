/- The abstract machine is sound: calls, loops' heads, results. -/
import Derived.Test.YtldkmmnffjdliaaAmCall
namespace Go.Am
set_option autoImplicit false
set_option linter.unusedVariables false
set_option linter.unusedSimpArgs false

section
variable {P : Program} {X0 X : Ctx} {st : St} {a : Act} {w : World}

theorem Inv.dom_of (h : HeapOk X st.heap) {m b : Nat} (hb : getB (st.heap.take m) b ≠ .gone) : X.dom b := by
  have := h.blk b _ (getB_take rfl hb)
  revert this hb
  cases getB (st.heap.take m) b with
  | gone => intro hb; exact absurd rfl hb
  | box cs => exact fun _ h => h.1
  | arr sz n f => exact fun _ h => h.1

theorem call_sound {E : Env} (hC : SoundC P E.call) (h : Inv X0 X st a w) {m : Nat} {quiet : Bool} {f : FuncId} {args : List AV} {Args : List Value} {R : Type} {k : Eff → Option R} {r : R}
    (hl : Args.length = args.length) (hA : ∀ (j : Nat) (v : AV) (V : Value), args[j]? = some v → Args[j]? = some V → VA X none v V)
    (hk : callK E quiet f args (st.heap.take m) k = some r) :
    ∃ eff, k eff = some r ∧ Calls P f Args.toArray w fun e w' => ∃ V X', e = .returned V ∧ ∀ dst, Inv X0 X' (eff.on dst st) (a.put dst V) w' := by
  unfold callK at hk
  obtain ⟨hc, hk⟩ := need_some hk
  simp only [Bool.and_eq_true, List.all_eq_true] at hc
  generalize hlst : reached (st.heap.take m) 64 (AV.refsL args) [] = l at hc hk
  have hnd : l.Nodup := hlst ▸ reached_nodup _ _ _ _ List.nodup_nil
  have hng : ∀ b ∈ l, getB (st.heap.take m) b ≠ .gone := fun b hb e => by
    have := hc.2 b hb
    rw [e] at this
    cases this
  have hd : ∀ b ∈ l, X.dom b := fun b hb => Inv.dom_of h.heap (hng b hb)
  split at hk
  · rename_i v H' hcall
    obtain ⟨hlen, hk⟩ := need_some hk
    have hlen := Nat.eq_of_beq_eq_true hlen
    refine ⟨_, hk, ?_⟩
    have hR : Ren X (X.inn l) (place l) := ⟨rfl, fun _ _ => Iff.rfl, fun b c hc hb => by
      have := place_some hc
      refine ⟨(List.getElem?_eq_some_iff.1 this).1, ?_, ?_, ?_⟩ <;> simp [Ctx.inn, this]⟩
    have hS := hC f _ _ v H' hcall (X.inn l) Args (by rw [renL_len]; exact hl) (fun j u V hu hV => by
        rw [renL_get] at hu
        cases hx : args[j]? with
        | none => rw [hx] at hu; cases hu
        | some x => rw [hx] at hu; cases hu; exact (hA j x V hx hV).ren hR none (fun p g hp => by cases hp))
      (h.heap.inn hnd hd m hng) (fun g hg => by
        obtain ⟨h1, h2⟩ := h.fresh g hg
        exact ⟨by simp [Ctx.inn, h1], h2⟩) (fun g t hg => by
        simp only [Ctx.inn] at hg
        cases hx : X.own g with
        | none => rw [hx] at hg; cases hg
        | some p =>
          rw [hx] at hg
          cases p with
          | tmp t => cases hg
          | cell b j =>
            simp only [Option.bind_some, Pos.inn] at hg
            cases hp : place l b with
            | none => rw [hp] at hg; cases hg
            | some i => rw [hp] at hg; cases hg
          | acell b i j =>
            simp only [Option.bind_some, Pos.inn] at hg
            cases hp : place l b with
            | none => rw [hp] at hg; cases hg
            | some i => rw [hp] at hg; cases hg)
    have hw := h.hw
    have hS' : Calls P f Args.toArray w _ := hw ▸ hS
    refine hS'.mono ?_
    rintro e w' ⟨V, Y, rfl, rfl, hFr, hH, hF, hv⟩
    obtain ⟨hI, hRn⟩ := call_back h hnd hd hlen hFr hH hF
    exact ⟨V, _, rfl, fun dst => hI.put dst fun t _ => (hv.ren hRn none (fun p g hp => by cases hp)).any _⟩
  · cases hk

/-! ### a loop's head -/
def Ctx.cut (X : Ctx) (h : Nat) : Ctx := { X with dom := fun b => X.dom b ∧ b < h }

theorem below_some {h b c : Nat} (e : below h b = some c) : c = b ∧ b < h := by
  unfold below at e
  cases hb : Nat.ble (b + 1) h with
  | true => rw [hb] at e; cases e; exact ⟨rfl, Nat.le_of_ble_eq_true hb⟩
  | false => rw [hb] at e; cases e
theorem below_of {h b : Nat} (e : b < h) : below h b = some b := by
  unfold below
  have : Nat.ble (b + 1) h = true := Nat.ble_eq_true_of_le e
  rw [this]; rfl
theorem Ren.cut (X : Ctx) (h : Nat) : Ren X (X.cut h) (below h) := ⟨rfl, fun _ _ => Iff.rfl, fun b c hc hb => by
  obtain ⟨rfl, hlt⟩ := below_some hc
  exact ⟨⟨hb, hlt⟩, rfl, rfl, rfl⟩⟩

theorem maskL_get (l : List Nat) : ∀ (vs : List AV) (i t : Nat), (maskL l i vs)[t]? = (vs[t]?).map fun v => bif l.elem (i + t) then v else dead
  | [], i, t => by simp [maskL]
  | v :: vs, i, 0 => by simp [maskL]
  | v :: vs, i, t + 1 => by simp [maskL, maskL_get l vs (i + 1) t, Nat.add_assoc, Nat.add_comm 1 t]
theorem maskL_len (l : List Nat) : ∀ (vs : List AV) (i : Nat), (maskL l i vs).length = vs.length
  | [], i => rfl
  | v :: vs, i => by simp [maskL, maskL_len l vs (i + 1)]

theorem HeapOk.cut {H : List Blk} (h : HeapOk X H) (n : Nat) : HeapOk (X.cut n) ((H.take n).map (Blk.ren (below n))) := by
  refine ⟨fun b B hB => ?_, fun b hb => ?_, fun b c hb hc => h.inj b c hb.1 hc.1, fun b hb => h.free b hb.1⟩
  · rw [List.getElem?_map, List.getElem?_take] at hB
    split at hB
    · rename_i hlt
      cases hx : H[b]? with
      | none => rw [hx] at hB; cases hB
      | some B0 =>
        rw [hx] at hB
        cases hB
        exact (h.blk b B0 hx).ren (Ren.cut X n) (below_of hlt) (fun hnd hd => hnd hd.1) (fun g j hg => hg) (fun g i j hg => hg)
    · cases hB
  · have := h.lt b hb.1
    have := hb.2
    simp; omega
theorem Fresh.cut (h : Fresh X) (n : Nat) : Fresh (X.cut n) := h
theorem Fr.cut (h : Fr X0 X) {n : Nat} (hn : ∀ b, X0.dom b → b < n) : Fr X0 (X.cut n) :=
  ⟨h.size, h.os, h.tape, h.output, h.keep, fun b hb => h.mutB b hb.1, h.ownW, h.Rmono, h.Rsame, fun b hb => ⟨⟨(h.base b hb).1, hn b hb⟩, (h.base b hb).2⟩⟩

theorem head_of (h : Inv X0 X st a w) {ts : List AV} (hl : ts.length = st.tmps.length) (ht : ∀ (t : Nat) (u : AV), ts[t]? = some u → u = dead ∨ st.tmps[t]? = some u) {n : Nat} (hn : ∀ b, X0.dom b → b < n) :
    Inv X0 (X.cut n) { tmps := AV.renL (below n) ts, heap := (st.heap.take n).map (Blk.ren (below n)) } a w := by
  refine ⟨h.hw, h.hd, by show a.tmps.size = (AV.renL (below n) ts).length; rw [renL_len, hl]; exact h.tsz, fun t v V hv hV => ?_, h.heap.cut n, h.fresh.cut n, h.fr.cut hn⟩
  have hv' : (AV.renL (below n) ts)[t]? = some v := hv
  rw [renL_get] at hv'
  cases hx : ts[t]? with
  | none => rw [hx] at hv'; cases hv'
  | some u =>
    rw [hx] at hv'
    cases hv'
    refine VA.ren (π := some (.tmp t)) (Ren.cut X n) ?_ _ fun p g hp hg => ⟨p, hp, hg⟩
    rcases ht t u hx with rfl | hu
    · exact .dead _ _
    · exact h.tmps t u V hu hV

theorem head_sound (h : Inv X0 X st a w) (live : Option (List Nat)) {n : Nat} (hn : ∀ b, X0.dom b → b < n) : Inv X0 (X.cut n) (headSt live n st) a w := by
  cases live with
  | none => exact head_of h rfl (fun t u hu => .inr hu) hn
  | some l =>
    refine head_of h (maskL_len l _ _) (fun t u hu => ?_) hn
    rw [maskL_get] at hu
    cases hx : st.tmps[t]? with
    | none => rw [hx] at hu; cases hu
    | some x =>
      rw [hx] at hu
      simp only [Option.map_some, Option.some.injEq] at hu
      cases hb : l.elem (0 + t) with
      | true => rw [hb] at hu; exact .inr (congrArg some hu)
      | false => rw [hb] at hu; exact .inl hu.symm

theorem out_sound (h : Inv X0 X st a w) (live : Option (List Nat)) {n : Nat} (hn : ∀ b, X0.dom b → b < n) : ∃ X', Inv X0 X' (outSt live n st) a w := by
  cases live with
  | none => exact ⟨X, h⟩
  | some l => exact ⟨_, head_sound h (some l) hn⟩

/-! ### results -/
/-- The blocks that are left behind stay as they are. -/
def Ctx.shut (X : Ctx) (m : Nat) : Ctx := { X with R := fun g off => X.R g off ∨ ∃ b, X.dom b ∧ m ≤ b ∧ X.φ b = g, dom := fun b => X.dom b ∧ b < m }

theorem seal_fr {H : List Blk} (hH : HeapOk X H) (hF : Fresh X) (h : Fr X0 X) {m : Nat} (hm : ∀ b, X0.dom b → b < m) : Fr X0 (X.shut m) := by
  refine ⟨h.size, h.os, h.tape, h.output, h.keep, fun b hb => h.mutB b hb.1, h.ownW, fun g off hr => .inl (h.Rmono g off hr), fun g off hg ho hr => ?_, fun b hb => ⟨⟨(h.base b hb).1, hm b hb⟩, (h.base b hb).2⟩⟩
  rcases hr with hr | ⟨b, hb, hmb, e⟩
  · exact h.Rsame g off hg ho hr
  · rcases h.mutB b hb with hh | ⟨c, hc, e'⟩
    · omega
    · have hcb := h.base c hc
      have := hH.inj c b hcb.1 hb (hcb.2.1.trans e')
      have := hm c hc
      omega

theorem seal_pv {m : Nat} {p : PV} {V : Value} (h : VP X.R X.w p V) : VP (X.shut m).R (X.shut m).w p V := h.stab fun g off hr => ⟨Or.inl hr, rfl⟩
theorem seal_stab (m : Nat) : Stab (X.cut m) (X.shut m) := ⟨fun g off hr => ⟨Or.inl hr, rfl⟩, fun b hb => ⟨hb, rfl, rfl, rfl⟩⟩

/-- A value without a right, when the callee's blocks are left behind. -/
theorem seal_va {m : Nat} {v : AV} {V : Value} {π : Option Pos} (h : VA X π v V) : VA (X.shut m) none (v.borrow.ren (below m)) V := by
  have h1 := h.borrow none
  have hR : Ren X (X.cut m) (below m) := Ren.cut X m
  have h2 := h1.ren hR none (fun p g hp => by cases hp)
  exact h2.stab (seal_stab m) (fun p hp => by cases hp)

theorem seal_heap {H : List Blk} (hH : HeapOk X H) (hF : Fresh X) (m : Nat) : HeapOk (X.shut m) ((H.take m).map (Blk.ren (below m))) := by
  have hc := hH.cut m
  have hL : ∀ p, Lasts (X.cut m) (X.shut m) p := fun p g hg => ⟨hg, rfl, fun off hr => by
    rcases hr with hr | ⟨b, hb, _, e⟩
    · exact hr
    · have := (hH.free b hb).1
      have hg' : X.own g = some p := hg
      rw [e, hg'] at this; cases this⟩
  have hS : Stab (X.cut m) (X.shut m) := ⟨fun g off hr => ⟨.inl hr, rfl⟩, fun b hb => ⟨hb, rfl, rfl, rfl⟩⟩
  refine ⟨fun b B hB => (hc.blk b B hB).stab hS (fun hd => hd) (fun _ => rfl) (fun j => hL _) (fun i j => hL _), hc.lt, hc.inj, fun b hb => ?_⟩
  obtain ⟨h1, h2⟩ := hH.free b hb.1
  refine ⟨h1, fun off hr => ?_⟩
  rcases hr with hr | ⟨c, hcd, hmc, e⟩
  · exact h2 off hr
  · have := hH.inj c b hcd hb.1 e
    have := hb.2
    omega
theorem seal_fresh {H : List Blk} (hH : HeapOk X H) (hF : Fresh X) (m : Nat) : Fresh (X.shut m) := by
  intro g hg
  obtain ⟨h1, h2⟩ := hF g hg
  refine ⟨h1, fun off hr => ?_⟩
  rcases hr with hr | ⟨c, hcd, hmc, e⟩
  · exact h2 off hr
  · have := hH.phi_lt hcd
    have hg' : X.w.heap.size ≤ g := hg
    omega

theorem outS_sound {H : List Blk} (hH : HeapOk X H) {m : Nat} {v : AV} {V : Value} {π : Option Pos} (h : VA X π v V) : VA (X.shut m) none ((outS m H v).ren (below m)) V := by
  by_cases hms : ∃ b lo n, v = .ms b lo n
  · obtain ⟨b, lo, n, rfl⟩ := hms
    simp only [outS]
    cases hb : Nat.ble (b + 1) m with
    | true => exact seal_va h
    | false =>
      have hmb : m ≤ b := by
        rcases Nat.lt_or_ge b m with h' | h'
        · rw [Nat.ble_eq_true_of_le (show b + 1 ≤ m from h')] at hb; cases hb
        · exact h'
      simp only [cond_false]
      cases hB : getB H b with
      | box cs => 
        refine .pv _ _ _ (.bad _ ?_)
        cases h <;> rfl
      | gone =>
        refine .pv _ _ _ (.bad _ ?_)
        cases h <;> rfl
      | arr sz len f =>
        have hB' : H[b]? = some (.arr sz len f) := by
          unfold getB at hB
          simp only [List.getD] at hB
          cases hx : H[b]? with
          | none => rw [hx] at hB; cases hB
          | some B => rw [hx] at hB; exact congrArg some hB
        refine .pv _ _ _ ?_
        cases h with
        | ms0 _ _ _ A cap hd => exact VP.seq0 _ _ _
        | ms _ _ _ _ cap hd hn hl =>
          obtain ⟨_, hsz, hln, hz, cur, e, hb, hcur, hf, hcr⟩ := hH.blk b _ hB'
          refine .seq n _ _ cap sz (fun i j => cur.getD ((lo + i) * sz + j) undef) hn (fun i hi => by simp [rowSeq, hi, hf (lo + i) (by omega)]) (fun _ => ⟨X.φ b, lo * X.sz b, rfl, fun i j hi hj => ⟨.inr ⟨b, hd, hmb, rfl⟩, ?_⟩⟩) (fun i j p hi hp => ?_)
          · have hlt := lt_mul_of (show lo + i < len by omega) hj
            show X.w.cell? _ = _
            rw [cellAt hb, hsz, show lo * sz + (i * sz + j) = (lo + i) * sz + j by rw [Nat.add_mul]; omega]
            simp [Array.getD, hcur, hlt]
          · rw [rowSeq, if_pos hi, List.getElem?_map] at hp
            cases hu : (f (lo + i))[j]? with
            | none => rw [hu] at hp; cases hp
            | some u =>
              rw [hu] at hp
              cases hp
              have hj : j < sz := by rw [← hf (lo + i) (by omega)]; exact (List.getElem?_eq_some_iff.1 hu).1
              have hlt := lt_mul_of (show lo + i < len by omega) hj
              have hV : cur[(lo + i) * sz + j]? = some (cur.getD ((lo + i) * sz + j) undef) := by simp [Array.getD, hcur, hlt]
              obtain ⟨hva, hone⟩ := hcr (lo + i) j u _ (by omega) hu hV
              exact seal_pv (hva.pure' hone.1)
  · by_cases hnil : ∃ f, v = .nil f
    · obtain ⟨f, rfl⟩ := hnil
      cases h
      exact .pv _ _ _ (VP.seq0 _ _ _)
    · have : outS m H v = v.borrow := by
        cases v <;> first | rfl | exact absurd ⟨_, _, _, rfl⟩ hms | exact absurd ⟨_, rfl⟩ hnil
      rw [this]
      exact seal_va h

theorem outV_sound {H : List Blk} (hH : HeapOk X H) {m : Nat} {v : AV} {V : Value} {π : Option Pos} (h : VA X π v V) : VA (X.shut m) none ((outV m H v).ren (below m)) V := by
  by_cases ha : ∃ cs, v = .agg cs
  · obtain ⟨cs, rfl⟩ := ha
    obtain ⟨Cs, rfl, hl, hh⟩ := h.agg_inv
    simp only [outV, AV.ren]
    refine .agg _ _ Cs (by rw [renL_len, List.length_map]; exact hl) fun j u U hu hU => ?_
    rw [renL_get, List.getElem?_map] at hu
    cases hx : cs[j]? with
    | none => rw [hx] at hu; cases hu
    | some x =>
      rw [hx] at hu
      cases hu
      exact outS_sound hH (hh j x U hx hU)
  · have : outV m H v = outS m H v := by cases v <;> first | rfl | exact absurd ⟨_, rfl⟩ ha
    rw [this]
    exact outS_sound hH h

def resRun (a : Act) : ResultVar → Sem Value
  | .tmp t => pure (a.tmps.getD t undef)
  | .cell b t => do loadVar t (← asAddr (a.tmps.getD b undef))

theorem ptr_of {π : Option Pos} {u : AV} {V : Value} (h : VA X π u V) {H : List Blk} {t : TypeId} {v : AV} (hl : loadV P H t u = some v) : ∃ A, V = .pointer (some A) := by
  unfold loadV at hl
  split at hl
  · cases hl
  · cases h <;> first | exact ⟨_, rfl⟩ | cases hl

theorem loadV_borrow {H : List Blk} {t : TypeId} {u v : AV} (h : loadV P H t u = some v) : loadV P H t u.borrow = some v := by
  cases u <;> first | exact h | (unfold loadV at h; split at h <;> cases h)

theorem resOne_sound (h : Inv X0 X st a w) {r : ResultVar} {v : AV} (hr : resOne P st r = some v) :
    ∃ V π, VA X π v V ∧ (resRun a r).run P w = .ok V w := by
  cases r with
  | tmp t =>
    cases hr
    exact ⟨_, _, h.tmp t, rfl⟩
  | cell b t =>
    have h2 : loadV P (st.heap.take st.heap.length) t (getT st b).borrow = some v := by
      rw [List.take_length]
      exact loadV_borrow hr
    have hb := (h.tmp b).borrow none
    obtain ⟨V, hv, hrun⟩ := loadV_sound h.heap h.hw hb h2
    obtain ⟨A, hA⟩ := ptr_of hb h2
    refine ⟨V, none, hv, ?_⟩
    rw [hA] at hrun
    show (do loadVar t (← asAddr (a.tmps.getD b undef)) : Sem Value).run P w = _
    rw [hA]
    exact hrun

theorem resAll_sound (h : Inv X0 X st a w) : ∀ {rs : List ResultVar} {vs : List AV}, resAll P st rs = some vs →
    ∃ Vs : List Value, Vs.length = vs.length ∧ (∀ (j : Nat) (v : AV) (V : Value), vs[j]? = some v → Vs[j]? = some V → ∃ π, VA X π v V) ∧
      (rs.mapM (resRun a)).run P w = .ok Vs w
  | [], vs, hr => by
    cases hr
    exact ⟨[], rfl, fun j v V hv => by simp at hv, rfl⟩
  | r :: rs, vs, hr => by
    unfold resAll at hr
    split at hr
    · rename_i v hv
      cases hx : resAll P st rs with
      | none => rw [hx] at hr; cases hr
      | some us =>
        rw [hx] at hr
        cases hr
        obtain ⟨V, π, hva, hrun⟩ := resOne_sound h hv
        obtain ⟨Vs, hl, hh, hruns⟩ := resAll_sound h hx
        refine ⟨V :: Vs, by simp [hl], fun j u U hu hU => ?_, ?_⟩
        · cases j with
          | zero => cases hu; cases hU; exact ⟨π, hva⟩
          | succ j => exact hh j u U (by simpa using hu) (by simpa using hU)
        · simp [List.mapM_cons, hrun, hruns]
    · cases hr

theorem results_run {fn : Func} {Vs : List Value} (hrun : (fn.results.toList.mapM (resRun a)).run P w = .ok Vs w) :
    (results fn a.tmps).run P w = .ok (if h : Vs.toArray.size = 1 then Vs.toArray[0] else .tuple Vs.toArray) w := by
  have he : results fn a.tmps = (do let vs ← fn.results.mapM (resRun a); pure (if h : vs.size = 1 then vs[0] else .tuple vs)) := by
    unfold results
    have : (fun r : ResultVar => match r with
      | .tmp t => (pure (a.tmps.getD t undef) : Sem Value)
      | .cell b t => do loadVar t (← asAddr (a.tmps.getD b undef))) = resRun a := by funext r; cases r <;> rfl
    rw [← this]
    rfl
  rw [he, Array.mapM_eq_mapM_toList]
  simp [hrun]

theorem tup_sound {H : List Blk} (hH : HeapOk X H) {m : Nat} {vs : List AV} {Vs : List Value} (hl : Vs.length = vs.length) (hh : ∀ (j : Nat) (v : AV) (V : Value), vs[j]? = some v → Vs[j]? = some V → ∃ π, VA X π v V) (h1 : vs.length ≠ 1) :
    VA (X.shut m) none (.tup (AV.renL (below m) (vs.map (outV m H)))) (if h : Vs.toArray.size = 1 then Vs.toArray[0] else .tuple Vs.toArray) := by
  have : ¬ Vs.toArray.size = 1 := by simpa [hl] using h1
  rw [dif_neg this]
  refine .tup _ _ Vs (by rw [renL_len, List.length_map]; exact hl) fun j u U hu hU => ?_
  rw [renL_get, List.getElem?_map] at hu
  cases hx : vs[j]? with
  | none => rw [hx] at hu; cases hu
  | some x =>
    rw [hx] at hu
    cases hu
    obtain ⟨π, hp⟩ := hh j x U hx hU
    exact outV_sound hH hp

theorem end_sound {fn : Func} (h : Inv X0 X st a w) {m : Nat} (hm : ∀ b, X0.dom b → b < m) {v : AV} {H' : List Blk} (he : endK P fn m st = some (v, H')) :
    ∃ V, (results fn a.tmps).run P w = .ok V w ∧ ∃ X', X'.w = w ∧ Fr X0 X' ∧ HeapOk X' H' ∧ Fresh X' ∧ VA X' none v V := by
  have common : ∃ vs, resAll P st fn.results.toList = some vs := by
    unfold endK at he
    split at he <;> first | exact ⟨_, by assumption⟩ | cases he
  obtain ⟨vs, hvs⟩ := common
  obtain ⟨Vs, hl, hh, hrun⟩ := resAll_sound h hvs
  have hres := results_run (fn := fn) hrun
  have key : ∀ (u : AV), VA (X.shut m) none u (if h : Vs.toArray.size = 1 then Vs.toArray[0] else .tuple Vs.toArray) → v = u → H' = (st.heap.take m).map (Blk.ren (below m)) → ∃ V, (results fn a.tmps).run P w = .ok V w ∧ ∃ X', X'.w = w ∧ Fr X0 X' ∧ HeapOk X' H' ∧ Fresh X' ∧ VA X' none v V := by
    rintro u hu rfl rfl
    exact ⟨_, hres, X.shut m, h.hw, seal_fr h.heap h.fresh h.fr hm, seal_heap h.heap h.fresh m, seal_fresh h.heap h.fresh m, hu⟩
  unfold endK at he
  rw [hvs] at he
  match vs, hvs, hl, hh, he with
  | [], _, hl, hh, he =>
    cases he
    exact key _ (tup_sound h.heap hl hh (by simp)) rfl rfl
  | [u], _, hl, hh, he =>
    cases he
    obtain ⟨U, hU⟩ : ∃ U, Vs = [U] := List.length_eq_one_iff.1 hl
    subst hU
    obtain ⟨π, hp⟩ := hh 0 u U rfl rfl
    exact key _ (outV_sound h.heap hp) rfl rfl
  | u1 :: u2 :: us, _, hl, hh, he =>
    cases he
    exact key _ (tup_sound h.heap hl hh (by simp)) rfl rfl
end
end Go.Am
