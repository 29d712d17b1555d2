/- The abstract machine is sound: operations that change places. -/
import Derived.Test.YtigopdlofamhlaaDoorBmRegion
namespace Go.Bm
set_option autoImplicit false
set_option linter.unusedVariables false
set_option linter.unusedSimpArgs false

section
variable {P : Program} {L : Nat → Bool} {ops : List Oper} {ok : Ob → Prop}

/-- An operation's effect is this. -/
def Evals (P : Program) (L : Nat → Bool) (ops : List Oper) (ok : Ob → Prop) (ix id : Nat) (o : Oper) (st : St) (x : Rec) : Prop :=
  (wantB ops o st.tmps = some true ∧ ∃ s l s', runE P id (L ix) o st s = some (l, x.rd, x.e, s') ∧ ∀ y ∈ l, ok y) ∨ (wantB ops o st.tmps = some false ∧ x.e = { val := undefV })
structure At (P : Program) (L : Nat → Bool) (ops : List Oper) (ok : Ob → Prop) (ix id : Nat) (o : Oper) (st : St) (x : Rec) : Prop where
  ev : Evals P L ops ok ix id o st x
  dst : ∀ d, o.dst = some d → d ∈ x.wt
  hb : ∀ y ∈ x.e.hb, y.1 ∈ x.wb
  sc : ∀ s ∈ x.e.sc, s.1 ∈ x.wb
  ht : ∀ t, (∃ r ∈ (st.tmps.getD t dead).refs, hits x.e.sc r = true) → t ∈ x.wt
  hB : ∀ c, (∃ r ∈ (getB st.heap c).refs, hits x.e.sc r = true) → c ∈ x.wb
structure Old (o : Oper) (st : St) (x : Rec) : Prop where
  dst : ∀ d, o.dst = some d → ∀ r ∈ (st.tmps.getD d dead).refs, r ∈ x.od
  hb : ∀ y ∈ x.e.hb, ∀ r ∈ (getB st.heap y.1).refs, r ∈ x.od

theorem refs_dead : AV.refs dead = [] := rfl
theorem hitT_mem {sc : List (Nat × Bool)} : ∀ (vs : List AV) (i t : Nat), (∃ r ∈ (vs.getD t dead).refs, hits sc r = true) → i + t ∈ hitT sc i vs
  | [], i, t, ⟨r, hr, _⟩ => by simp [AV.refs] at hr
  | v :: vs, i, 0, ⟨r, hr, h⟩ => by
    unfold hitT
    cases hm : missS sc v.refs with
    | true =>
      have := missS_iff.1 hm r hr
      rw [this] at h; cases h
    | false => simp
  | v :: vs, i, t + 1, ⟨r, hr, h⟩ => by
    have ih := hitT_mem vs (i + 1) t ⟨r, by simpa using hr, h⟩
    have e : i + 1 + t = i + (t + 1) := by omega
    rw [e] at ih
    unfold hitT
    split
    · exact ih
    · exact List.mem_cons_of_mem _ ih
theorem hitB_mem {sc : List (Nat × Bool)} : ∀ (vs : List Blk) (i t : Nat), (∃ r ∈ (getB vs t).refs, hits sc r = true) → i + t ∈ hitB sc i vs
  | [], i, t, ⟨r, hr, _⟩ => by simp [getB, Blk.refs] at hr
  | v :: vs, i, 0, ⟨r, hr, h⟩ => by
    unfold hitB
    cases hm : missS sc v.refs with
    | true =>
      have := missS_iff.1 hm r (by simpa [getB] using hr)
      rw [this] at h; cases h
    | false => simp
  | v :: vs, i, t + 1, ⟨r, hr, h⟩ => by
    have ih := hitB_mem vs (i + 1) t ⟨r, by simpa [getB] using hr, h⟩
    have e : i + 1 + t = i + (t + 1) := by omega
    rw [e] at ih
    unfold hitB
    split
    · exact ih
    · exact List.mem_cons_of_mem _ ih
theorem hits_nil (r : Nat × Bool) : hits [] r = false := rfl

theorem recOf_at {ix id : Nat} {o : Oper} {st : St} {e : Eff} {rd : List Nat} (h : Evals P L ops ok ix id o st (recOf o.dst st e rd)) : At P L ops ok ix id o st (recOf o.dst st e rd) ∧ Old o st (recOf o.dst st e rd) ∧ (recOf o.dst st e rd).e = e := by
  have he : (recOf o.dst st e rd).e = e := by unfold recOf; split <;> rfl
  have hod : (recOf o.dst st e rd).od = oldRefs o.dst st ++ e.hb.flatMap fun x => (getB st.heap x.1).refs := by unfold recOf; split <;> rfl
  have hdm : ∀ d, o.dst = some d → d ∈ o.dst.toList := fun d hd => by rw [hd]; simp
  refine ⟨⟨h, fun d hd => ?_, fun y hy => ?_, fun s hs => ?_, fun t ht => ?_, fun c hc => ?_⟩, ⟨fun d hd r hr => ?_, fun y hy r hr => ?_⟩, he⟩
  · unfold recOf; split
    · exact hdm d hd
    · exact List.mem_append_left _ (hdm d hd)
  · rw [he] at hy
    have := List.mem_map_of_mem (f := Prod.fst) hy
    unfold recOf; split
    · exact this
    · exact List.mem_append_left _ this
  · rw [he] at hs
    have := List.mem_map_of_mem (f := Prod.fst) hs
    unfold recOf; split
    · rename_i hsc; rw [hsc] at hs; cases hs
    · exact List.mem_append_right _ (List.mem_append_left _ this)
  · rw [he] at ht
    unfold recOf; split
    · rename_i hsc; rw [hsc] at ht; obtain ⟨r, _, hr⟩ := ht; cases hr
    · have := hitT_mem _ 0 t ht
      exact List.mem_append_right _ (by simpa using this)
  · rw [he] at hc
    unfold recOf; split
    · rename_i hsc; rw [hsc] at hc; obtain ⟨r, _, hr⟩ := hc; cases hr
    · have := hitB_mem _ 0 c hc
      exact List.mem_append_right _ (List.mem_append_right _ (by simpa using this))
  · rw [hod]
    refine List.mem_append_left _ ?_
    unfold oldRefs
    rw [hd]
    exact hr
  · rw [hod]
    rw [he] at hy
    exact List.mem_append_right _ (List.mem_flatMap.2 ⟨y, hy, hr⟩)

/-! ### an effect's traces -/
theorem on_tmp (e : Eff) (dst : Option Nat) (st : St) (t : Nat) : (e.on dst st).tmps[t]? = if dst = some t then (st.tmps[t]?).map (fun _ => e.val) else (st.tmps[t]?).map (AV.map (scrR e.sc)) := by
  rw [on_eq]
  have hm : ∀ l : List AV, (AV.scrL e.sc l)[t]? = (l[t]?).map (AV.map (scrR e.sc)) := by
    intro l
    have : AV.scrL e.sc l = l.map (AV.map (scrR e.sc)) := by
      induction l with
      | nil => rfl
      | cons v vs ih => show _ :: AV.scrL e.sc vs = _; rw [ih]; rfl
    rw [this, List.getElem?_map]
  cases dst with
  | none => simp only [setT, hm, reduceCtorEq, if_false]
  | some d =>
    simp only [setT, List.getElem?_set, Option.some.injEq]
    have hl : (AV.scrL e.sc st.tmps).length = st.tmps.length := by
      generalize st.tmps = l
      induction l with
      | nil => rfl
      | cons v vs ih => show (AV.scrL e.sc vs).length + 1 = _; rw [ih]; rfl
    by_cases hd : d = t
    · subst hd
      simp only [if_true, hl]
      by_cases hlt : d < st.tmps.length
      · simp [hlt]
      · simp [hlt]
    · simp only [if_neg hd, hm]
theorem on_heap (e : Eff) (dst : Option Nat) (st : St) : (e.on dst st).heap = putBlks (st.heap.map (Blk.scr e.sc)) e.hb := by
  rw [on_eq]
  cases dst <;> rfl
theorem getB_scr (sc : List (Nat × Bool)) (H : List Blk) (c : Nat) : getB (H.map (Blk.scr sc)) c = (getB H c).map (scrR sc) := by
  unfold getB
  rw [List.getD_eq_getElem?_getD, List.getD_eq_getElem?_getD, List.getElem?_map]
  cases H[c]? <;> rfl
theorem putBlks_getB : ∀ (l : List (Nat × Blk)) (H : List Blk) (c : Nat), (∃ x ∈ l, x.1 = c ∧ getB (putBlks H l) c = x.2) ∨ getB (putBlks H l) c = getB H c
  | [], H, c => .inr rfl
  | (b, x) :: l, H, c => by
    rcases putBlks_getB l (H.set b x) c with ⟨y, hy, h1, h2⟩ | h
    · exact .inl ⟨y, List.mem_cons_of_mem _ hy, h1, h2⟩
    · by_cases hb : b = c
      · subst hb
        by_cases hlt : b < H.length
        · refine .inl ⟨(b, x), by simp, rfl, ?_⟩
          show getB (putBlks (H.set b x) l) b = x
          rw [h]
          simp [getB, hlt]
        · refine .inr ?_
          show getB (putBlks (H.set b x) l) b = _
          rw [h, List.set_eq_of_length_le (by omega)]
      · refine .inr ?_
        show getB (putBlks (H.set b x) l) c = _
        rw [h]
        simp [getB, List.getElem?_set, hb]
/-- A temporary that is not changed. -/
theorem At.tmp {ix id : Nat} {o : Oper} {st : St} {x : Rec} (h : At P L ops ok ix id o st x) {t : Nat} (ht : t ∉ x.wt) : (x.e.on o.dst st).tmps.getD t dead = st.tmps.getD t dead := by
  rw [List.getD_eq_getElem?_getD, List.getD_eq_getElem?_getD, on_tmp, if_neg fun hd => ht (h.dst t hd)]
  cases hv : st.tmps[t]? with
  | none => rfl
  | some v =>
    show AV.map (scrR x.e.sc) v = v
    refine scr_miss v fun r hr => ?_
    cases hh : hits x.e.sc r with
    | false => rfl
    | true => exact absurd (h.ht t ⟨r, by rw [List.getD_eq_getElem?_getD, hv]; exact hr, hh⟩) ht
theorem At.blk {ix id : Nat} {o : Oper} {st : St} {x : Rec} (h : At P L ops ok ix id o st x) {c : Nat} (hc : c ∉ x.wb) : getB (x.e.on o.dst st).heap c = getB st.heap c := by
  have hn : ∀ y ∈ x.e.hb, y.1 ≠ c := fun y hy e => hc (by rw [← e]; exact h.hb y hy)
  rw [on_heap, getB_put hn, getB_scr]
  refine blk_miss _ fun r hr => ?_
  cases hh : hits x.e.sc r with
  | false => rfl
  | true => exact absurd (h.hB c ⟨r, hr, hh⟩) hc
/-- What a temporary leads to afterwards. -/
theorem on_tmp_refs {e : Eff} {dst : Option Nat} {st : St} {t : Nat} {r : Nat × Bool} (h : r ∈ ((e.on dst st).tmps.getD t dead).refs) : (dst = some t ∧ r ∈ e.val.refs) ∨ (dst ≠ some t ∧ r ∈ (st.tmps.getD t dead).refs ∧ hits e.sc r = false) := by
  rw [List.getD_eq_getElem?_getD, on_tmp] at h
  rw [List.getD_eq_getElem?_getD]
  split at h
  · rename_i hd
    cases hv : st.tmps[t]? with
    | none => rw [hv] at h; cases h
    | some v => rw [hv] at h; exact .inl ⟨hd, h⟩
  · rename_i hd
    cases hv : st.tmps[t]? with
    | none => rw [hv] at h; cases h
    | some v => rw [hv] at h; exact .inr ⟨hd, (refs_scr _ _ _).1 h⟩
theorem on_blk_refs {e : Eff} {dst : Option Nat} {st : St} {c : Nat} {r : Nat × Bool} (h : r ∈ (getB (e.on dst st).heap c).refs) : (∃ y ∈ e.hb, y.1 = c ∧ r ∈ y.2.refs) ∨ (r ∈ (getB st.heap c).refs ∧ hits e.sc r = false) := by
  rw [on_heap] at h
  rcases putBlks_getB e.hb (st.heap.map (Blk.scr e.sc)) c with ⟨y, hy, h1, h2⟩ | h2
  · rw [h2] at h
    exact .inl ⟨y, hy, h1, h⟩
  · rw [h2, getB_scr] at h
    exact .inr ((blk_refs_scr _ _ _).1 h)
theorem putBlks_swap : ∀ (l1 l2 : List (Nat × Blk)) (H : List Blk), (∀ x ∈ l1, ∀ y ∈ l2, x.1 ≠ y.1) → putBlks (putBlks H l1) l2 = putBlks (putBlks H l2) l1
  | [], l2, H, _ => rfl
  | (b, x) :: l1, l2, H, h => by
    have one : ∀ (l : List (Nat × Blk)) (H : List Blk), (∀ y ∈ l, b ≠ y.1) → putBlks (H.set b x) l = (putBlks H l).set b x := by
      intro l
      induction l with
      | nil => intro H _; rfl
      | cons z l ih =>
        obtain ⟨c, y⟩ := z
        intro H hh
        show putBlks ((H.set b x).set c y) l = (putBlks (H.set c y) l).set b x
        rw [List.set_comm _ _ (hh (c, y) (by simp)), ih _ fun z hz => hh z (by simp [hz])]
    show putBlks (putBlks (H.set b x) l1) l2 = putBlks ((putBlks H l2).set b x) l1
    rw [putBlks_swap l1 l2 (H.set b x) fun z hz => h z (by simp [hz]), one l2 H fun y hy => h (b, x) (by simp) y hy]
theorem on_comm {e1 e2 : Eff} {d1 d2 : Option Nat} {st : St} (hd : ∀ t, d1 = some t → d2 ≠ some t) (hb : ∀ x ∈ e1.hb, ∀ y ∈ e2.hb, x.1 ≠ y.1) (h12 : ∀ r ∈ effRefs e2, hits e1.sc r = false) (h21 : ∀ r ∈ effRefs e1, hits e2.sc r = false) :
    e2.on d2 (e1.on d1 st) = e1.on d1 (e2.on d2 st) := by
  have v1 : e1.val.map (scrR e2.sc) = e1.val := scr_miss _ fun r hr => h21 r (List.mem_append_left _ hr)
  have v2 : e2.val.map (scrR e1.sc) = e2.val := scr_miss _ fun r hr => h12 r (List.mem_append_left _ hr)
  have b1 : (e1.hb.map fun x => (x.1, x.2.map (scrR e2.sc))) = e1.hb := (List.map_congr_left fun x hx => by
    rw [blk_miss x.2 fun r hr => h21 r (List.mem_append_right _ (List.mem_flatMap.2 ⟨x, hx, hr⟩))]).trans (List.map_id' _)
  have b2 : (e2.hb.map fun x => (x.1, x.2.map (scrR e1.sc))) = e2.hb := (List.map_congr_left fun x hx => by
    rw [blk_miss x.2 fun r hr => h12 r (List.mem_append_right _ (List.mem_flatMap.2 ⟨x, hx, hr⟩))]).trans (List.map_id' _)
  have ht : (e2.on d2 (e1.on d1 st)).tmps = (e1.on d1 (e2.on d2 st)).tmps := by
    apply List.ext_getElem?
    intro t
    simp only [on_tmp]
    by_cases a1 : d1 = some t
    · have a2 := hd t a1
      rw [if_neg a2, if_pos a1, if_pos a1, if_neg a2]
      cases st.tmps[t]? <;> simp [v1]
    · by_cases a2 : d2 = some t
      · rw [if_neg a1, if_pos a2, if_neg a1, if_pos a2]
        cases st.tmps[t]? <;> simp [v2]
      · rw [if_neg a1, if_neg a2, if_neg a1, if_neg a2]
        cases st.tmps[t]? <;> simp [scr_comm]
  have hh : (e2.on d2 (e1.on d1 st)).heap = (e1.on d1 (e2.on d2 st)).heap := by
    simp only [on_heap]
    rw [putBlks_map, putBlks_map, b1, b2, putBlks_swap _ _ _ hb]
    congr 2
    rw [List.map_map, List.map_map]
    exact List.map_congr_left fun B _ => blk_comm _ _ B
  generalize e2.on d2 (e1.on d1 st) = s1 at ht hh ⊢
  generalize e1.on d1 (e2.on d2 st) = s2 at ht hh ⊢
  obtain ⟨a1, b1⟩ := s1
  obtain ⟨a2, b2⟩ := s2
  simp only at ht hh
  rw [ht, hh]
theorem unE_some {H : List Blk} {bs : List Nat} {l : List Ob} {r : List Nat} {e : Eff} {s : List Say} {l2 : List Ob} {r2 : List Nat} {e2 : Eff} {s2 : List Say} (h : unE H bs l r e s = some (l2, r2, e2, s2)) : l2 = l ++ sameObs H e.hb bs ∧ r2 = r ++ bs ∧ e2 = { e with hb := dropB bs e.hb } ∧ e.sc = [] ∧ noDup (e.hb.map Prod.fst) = true := by
  unfold unE at h
  split at h
  · rename_i hsc
    split at h
    · rename_i hnd
      cases h
      exact ⟨rfl, rfl, rfl, hsc, hnd⟩
    · cases h
  · cases h
theorem sameObs_congr {H H' : List Blk} {hb : List (Nat × Blk)} : ∀ {bs : List Nat}, (∀ b ∈ bs, getB H' b = getB H b) → sameObs H' hb bs = sameObs H hb bs
  | [], _ => rfl
  | b :: bs, h => by
    simp only [sameObs]
    rw [h b (by simp), sameObs_congr fun c hc => h c (List.mem_cons_of_mem _ hc)]
theorem Evals.congr {ix id : Nat} {o : Oper} {st st' : St} {x : Rec} (h : Evals P L ops ok ix id o st x) (ht : ∀ t ∈ looksL ops o, st'.tmps.getD t dead = st.tmps.getD t dead) (hb : ∀ b ∈ x.rd, getB st'.heap b = getB st.heap b) : Evals P L ops ok ix id o st' x := by
  have hw : wantB ops o st'.tmps = wantB ops o st.tmps := wantB_congr fun g hg => ht g (List.mem_append_right _ hg)
  rcases h with ⟨h1, s, l, s', h2, h3⟩ | ⟨h1, h2⟩
  · refine .inl ⟨hw.trans h1, s, l, s', ?_, h3⟩
    have hop : opE P id (L ix) o (evT st'.tmps) = opE P id (L ix) o (evT st.tmps) := opE_congr fun y hy => by
      cases y with
      | tmp t => exact ht t (List.mem_append_left _ (mem_opTmps hy))
      | _ => rfl
    unfold runE at h2 ⊢
    rw [hop]
    cases hr : (opE P id (L ix) o (evT st.tmps)).run (getB st.heap) s with
    | none => rw [hr] at h2; cases h2
    | some q =>
      obtain ⟨l', r', e', s''⟩ := q
      rw [hr] at h2
      have hrd : ∀ b ∈ r', b ∈ x.rd := by
        simp only [] at h2
        split at h2
        · cases h2; exact fun b h => h
        · split at h2 <;> first | (cases h2; exact fun b h => h) | (obtain ⟨_, h3, _⟩ := unE_some h2; rw [h3]; exact fun b h => List.mem_append_left _ h) | cases h2
      rw [run_congr _ _ _ _ _ _ hr fun b hb' => hb b (hrd b hb')]
      simp only [] at h2 ⊢
      split at h2
      · exact h2
      · split at h2
        · exact h2
        · exact h2
        · rename_i bs s2 hs2
          obtain ⟨_, h3, _⟩ := unE_some h2
          unfold unE at h2 ⊢
          rw [sameObs_congr fun b hb' => hb b (by rw [h3]; exact List.mem_append_right _ hb')]
          exact h2
        · cases h2
  · exact .inr ⟨hw.trans h1, h2⟩

/-- Two operations change places. -/
theorem At.swap {j idp i idq : Nat} {p q : Oper} {st : St} {x y : Rec} (hp : At P L ops ok j idp p st x) (hpo : Old p st x) (hq : At P L ops ok i idq q (x.e.on p.dst st) y) (hok : okRec ops p q x y = true) :
    At P L ops ok i idq q st y ∧ At P L ops ok j idp p (y.e.on q.dst st) x ∧ Old p (y.e.on q.dst st) x ∧ y.e.on q.dst (x.e.on p.dst st) = x.e.on p.dst (y.e.on q.dst st) := by
  simp only [okRec, Bool.and_eq_true] at hok
  obtain ⟨⟨⟨⟨⟨⟨⟨⟨k1, k2⟩, k3⟩, k4⟩, k5⟩, k6⟩, k7⟩, k8⟩, k9⟩ := hok
  have k1 : ∀ t, t ∈ x.wt → t ∈ looksL ops q → False := fun t => apartN_ne k1
  have k2 : ∀ t, t ∈ y.wt → t ∈ looksL ops p → False := fun t => apartN_ne k2
  have k3 : ∀ t, t ∈ x.wt → t ∈ y.wt → False := fun t => apartN_ne k3
  have k4 : ∀ t, t ∈ x.wb → t ∈ y.rd → False := fun t => apartN_ne k4
  have k5 : ∀ t, t ∈ y.wb → t ∈ x.rd → False := fun t => apartN_ne k5
  have k6 : ∀ t, t ∈ x.wb → t ∈ y.wb → False := fun t => apartN_ne k6
  have k7 := missS_iff.1 k7
  have k8 := missS_iff.1 k8
  have k9 := missS_iff.1 k9
  -- what both lose is nothing
  have root : ∀ r, hits y.e.sc r = true → hits x.e.sc r = false := fun r h1 => by
    cases h2 : hits x.e.sc r with
    | false => rfl
    | true =>
      exfalso
      obtain ⟨s1, m1, e1⟩ := List.any_eq_true.1 h1
      obtain ⟨s2, m2, e2⟩ := List.any_eq_true.1 h2
      simp only [Bool.and_eq_true] at e1 e2
      have e1 := Nat.eq_of_beq_eq_true e1.1
      have e2 := Nat.eq_of_beq_eq_true e2.1
      exact k6 s2.1 (hp.sc s2 m2) (by rw [e2, ← e1]; exact hq.sc s1 m1)
  have qht : ∀ t, (∃ r ∈ (st.tmps.getD t dead).refs, hits y.e.sc r = true) → t ∈ y.wt := by
    rintro t ⟨r, hr, hh⟩
    by_cases hd : p.dst = some t
    · have := k9 r (hpo.dst t hd r hr)
      rw [this] at hh; cases hh
    · refine hq.ht t ⟨r, ?_, hh⟩
      rw [List.getD_eq_getElem?_getD] at hr
      rw [List.getD_eq_getElem?_getD, on_tmp, if_neg hd]
      cases hv : st.tmps[t]? with
      | none => rw [hv] at hr; cases hr
      | some v =>
        rw [hv] at hr
        exact (refs_scr _ _ _).2 ⟨hr, root r hh⟩
  have qhB : ∀ c, (∃ r ∈ (getB st.heap c).refs, hits y.e.sc r = true) → c ∈ y.wb := by
    rintro c ⟨r, hr, hh⟩
    by_cases hd : ∃ z ∈ x.e.hb, z.1 = c
    · obtain ⟨z, hz, rfl⟩ := hd
      have := k9 r (hpo.hb z hz r hr)
      rw [this] at hh; cases hh
    · refine hq.hB c ⟨r, ?_, hh⟩
      rw [on_heap, getB_put fun z hz e => hd ⟨z, hz, e⟩, getB_scr]
      exact (blk_refs_scr _ _ _).2 ⟨hr, root r hh⟩
  have hq' : At P L ops ok i idq q st y := ⟨hq.ev.congr (fun t ht => (hp.tmp fun h => k1 t h ht).symm) (fun b hb => (hp.blk fun h => k4 b h hb).symm), hq.dst, hq.hb, hq.sc, qht, qhB⟩
  refine ⟨hq', ⟨hp.ev.congr (fun t ht => hq'.tmp fun h => k2 t h ht) (fun b hb => hq'.blk fun h => k5 b h hb), hp.dst, hp.hb, hp.sc, ?_, ?_⟩, ⟨?_, ?_⟩, ?_⟩
  · rintro t ⟨r, hr, hh⟩
    rcases on_tmp_refs hr with ⟨hd, h1⟩ | ⟨hd, h1, h2⟩
    · have := k7 r (List.mem_append_left _ h1)
      rw [this] at hh; cases hh
    · exact hp.ht t ⟨r, h1, hh⟩
  · rintro c ⟨r, hr, hh⟩
    rcases on_blk_refs hr with ⟨z, hz, rfl, h1⟩ | ⟨h1, h2⟩
    · have := k7 r (List.mem_append_right _ (List.mem_flatMap.2 ⟨z, hz, h1⟩))
      rw [this] at hh; cases hh
    · exact hp.hB c ⟨r, h1, hh⟩
  · intro d hd r hr
    rw [hq'.tmp fun h => k3 d (hp.dst d hd) h] at hr
    exact hpo.dst d hd r hr
  · intro z hz r hr
    rw [hq'.blk fun h => k6 z.1 (hp.hb z hz) h] at hr
    exact hpo.hb z hz r hr
  · exact on_comm (fun t h1 h2 => k3 t (hp.dst t h1) (hq.dst t h2)) (fun u hu v hv e => k6 u.1 (hp.hb u hu) (e ▸ hq.hb v hv)) k7 k8
end
end Go.Bm
