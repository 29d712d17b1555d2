import Derived.Test.YtipjbmnfnmlkfaaGreatDoorBmRegion
namespace Go.Bm
set_option autoImplicit false
set_option linter.unusedVariables false
set_option linter.unusedSimpArgs false
section
variable {P : Program} {L : Nat → Bool} {ops : List Oper} {ok : Ob → Prop}
def wE (P : Program) (L : Nat → Bool) (ops : List Oper) (ok : Ob → Prop) (ix id : Nat) (o : Oper) (st : St) (x : Rec) : Prop :=
 (mY ops o st.tmps = some true ∧ ∃ s l s', Gd P id (L ix) o st s = some (l, x.rd, x.e, s') ∧ ∀ y ∈ l, ok y) ∨ (mY ops o st.tmps = some false ∧ x.e = { val := Ac })
structure At (P : Program) (L : Nat → Bool) (ops : List Oper) (ok : Ob → Prop) (ix id : Nat) (o : Oper) (st : St) (x : Rec) : Prop where
 ev : wE P L ops ok ix id o st x
 dst : ∀ d, o.dst = some d → d ∈ x.wt
 hb : ∀ y ∈ x.e.hb, y.1 ∈ x.wb
 sc : ∀ s ∈ x.e.sc, s.1 ∈ x.wb
 ht : ∀ t, (∃ r ∈ (st.tmps.getD t dead).refs, hD x.e.sc r = true) → t ∈ x.wt
 hB : ∀ c, (∃ r ∈ (aP st.heap c).refs, hD x.e.sc r = true) → c ∈ x.wb
structure Old (o : Oper) (st : St) (x : Rec) : Prop where
 dst : ∀ d, o.dst = some d → ∀ r ∈ (st.tmps.getD d dead).refs, r ∈ x.od
 hb : ∀ y ∈ x.e.hb, ∀ r ∈ (aP st.heap y.1).refs, r ∈ x.od
theorem Bu {sc : List (Nat × Bool)} : ∀ (vs : List AV) (i t : Nat), (∃ r ∈ (vs.getD t dead).refs, hD sc r = true) → i + t ∈ EN sc i vs
 | [], i, t, ⟨r, hr, _⟩ => by simp [AV.refs] at hr
 | v :: vs, i, 0, ⟨r, hr, h⟩ => by
  unfold EN
  cases hm : rK sc v.refs with
  | true =>
   have := lu.1 hm r hr
   rw [this] at h; cases h
  | false => simp
 | v :: vs, i, t + 1, ⟨r, hr, h⟩ => by
  have ih := Bu vs (i + 1) t ⟨r, by simpa using hr, h⟩
  have e : i + 1 + t = i + (t + 1) := by omega
  rw [e] at ih
  unfold EN
  split
  ·exact ih
  ·exact List.mem_cons_of_mem _ ih
theorem Bv {sc : List (Nat × Bool)} : ∀ (vs : List Blk) (i t : Nat), (∃ r ∈ (aP vs t).refs, hD sc r = true) → i + t ∈ EO sc i vs
 | [], i, t, ⟨r, hr, _⟩ => by simp [aP, Blk.refs] at hr
 | v :: vs, i, 0, ⟨r, hr, h⟩ => by
  unfold EO
  cases hm : rK sc v.refs with
  | true =>
   have := lu.1 hm r (by simpa [aP] using hr)
   rw [this] at h; cases h
  | false => simp
 | v :: vs, i, t + 1, ⟨r, hr, h⟩ => by
  have ih := Bv vs (i + 1) t ⟨r, by simpa [aP] using hr, h⟩
  have e : i + 1 + t = i + (t + 1) := by omega
  rw [e] at ih
  unfold EO
  split
  ·exact ih
  ·exact List.mem_cons_of_mem _ ih
theorem FR {ix id : Nat} {o : Oper} {st : St} {e : Eff} {rd : List Nat} (h : wE P L ops ok ix id o st (f5 o.dst st e rd)) : At P L ops ok ix id o st (f5 o.dst st e rd) ∧ Old o st (f5 o.dst st e rd) ∧ (f5 o.dst st e rd).e = e := by
 have he : (f5 o.dst st e rd).e = e := by unfold f5; split <;> rfl
 have hod : (f5 o.dst st e rd).od = uw o.dst st ++ e.hb.flatMap fun x => (aP st.heap x.1).refs := by unfold f5; split <;> rfl
 have hdm : ∀ d, o.dst = some d → d ∈ o.dst.toList := fun d hd => by rw [hd]; simp
 refine ⟨⟨h, fun d hd => ?_, fun y hy => ?_, fun s hs => ?_, fun t ht => ?_, fun c hc => ?_⟩, ⟨fun d hd r hr => ?_, fun y hy r hr => ?_⟩, he⟩
 ·unfold f5; split
  ·exact hdm d hd
  ·exact List.mem_append_left _ (hdm d hd)
 ·rw [he] at hy
  have := List.mem_map_of_mem (f := Prod.fst) hy
  unfold f5; split
  ·exact this
  ·exact List.mem_append_left _ this
 ·rw [he] at hs
  have := List.mem_map_of_mem (f := Prod.fst) hs
  unfold f5; split
  ·rename_i hsc; rw [hsc] at hs; cases hs
  ·exact List.mem_append_right _ (List.mem_append_left _ this)
 ·rw [he] at ht
  unfold f5; split
  ·rename_i hsc; rw [hsc] at ht; obtain ⟨r, _, hr⟩ := ht; cases hr
  ·have := Bu _ 0 t ht
   exact List.mem_append_right _ (by simpa using this)
 ·rw [he] at hc
  unfold f5; split
  ·rename_i hsc; rw [hsc] at hc; obtain ⟨r, _, hr⟩ := hc; cases hr
  ·have := Bv _ 0 c hc
   exact List.mem_append_right _ (List.mem_append_right _ (by simpa using this))
 ·rw [hod]
  refine List.mem_append_left _ ?_
  unfold uw
  rw [hd]
  exact hr
 ·rw [hod]
  rw [he] at hy
  exact List.mem_append_right _ (List.mem_flatMap.2 ⟨y, hy, hr⟩)
theorem zK (e : Eff) (dst : Option Nat) (st : St) (t : Nat) : (e.on dst st).tmps[t]? = if dst = some t then (st.tmps[t]?).map (fun _ => e.val) else (st.tmps[t]?).map (AV.map (bM e.sc)) := by
 rw [nZ]
 have hm : ∀ l : List AV, (AV.scrL e.sc l)[t]? = (l[t]?).map (AV.map (bM e.sc)) := by
  intro l
  have : AV.scrL e.sc l = l.map (AV.map (bM e.sc)) := by
   induction l with
   | nil => rfl
   | cons v vs ih => show _ :: AV.scrL e.sc vs = _; rw [ih]; rfl
  rw [this, List.getElem?_map]
 cases dst with
 | none => simp only [ug, hm, reduceCtorEq, if_false]
 | some d =>
  simp only [ug, List.getElem?_set, Option.some.injEq]
  have hl : (AV.scrL e.sc st.tmps).length = st.tmps.length := by
   generalize st.tmps = l
   induction l with
   | nil => rfl
   | cons v vs ih => show (AV.scrL e.sc vs).length + 1 = _; rw [ih]; rfl
  by_cases hd : d = t
  ·subst hd
   simp only [if_true, hl]
   by_cases hlt : d < st.tmps.length
   ·simp [hlt]
   ·simp [hlt]
  ·simp only [if_neg hd, hm]
theorem ut (e : Eff) (dst : Option Nat) (st : St) : (e.on dst st).heap = aE (st.heap.map (Blk.scr e.sc)) e.hb := by
 rw [nZ]
 cases dst <;> rfl
theorem wF (sc : List (Nat × Bool)) (H : List Blk) (c : Nat) : aP (H.map (Blk.scr sc)) c = (aP H c).map (bM sc) := by
 unfold aP
 rw [List.getD_eq_getElem?_getD, List.getD_eq_getElem?_getD, List.getElem?_map]
 cases H[c]? <;> rfl
theorem qV : ∀ (l : List (Nat × Blk)) (H : List Blk) (c : Nat), (∃ x ∈ l, x.1 = c ∧ aP (aE H l) c = x.2) ∨ aP (aE H l) c = aP H c
 | [], H, c => .inr rfl
 | (b, x) :: l, H, c => by
  rcases qV l (H.set b x) c with ⟨y, hy, h1, h2⟩ | h
  ·exact .inl ⟨y, List.mem_cons_of_mem _ hy, h1, h2⟩
  ·by_cases hb : b = c
   ·subst hb
    by_cases hlt : b < H.length
    ·refine .inl ⟨(b, x), by simp, rfl, ?_⟩
     show aP (aE (H.set b x) l) b = x
     rw [h]
     simp [aP, hlt]
    ·refine .inr ?_
     show aP (aE (H.set b x) l) b = _
     rw [h, List.set_eq_of_length_le (by omega)]
   ·refine .inr ?_
    show aP (aE (H.set b x) l) c = _
    rw [h]
    simp [aP, List.getElem?_set, hb]
theorem At.tmp {ix id : Nat} {o : Oper} {st : St} {x : Rec} (h : At P L ops ok ix id o st x) {t : Nat} (ht : t ∉ x.wt) : (x.e.on o.dst st).tmps.getD t dead = st.tmps.getD t dead := by
 rw [List.getD_eq_getElem?_getD, List.getD_eq_getElem?_getD, zK, if_neg fun hd => ht (h.dst t hd)]
 cases hv : st.tmps[t]? with
 | none => rfl
 | some v =>
  show AV.map (bM x.e.sc) v = v
  refine mZ v fun r hr => ?_
  cases hh : hD x.e.sc r with
  | false => rfl
  | true => exact absurd (h.ht t ⟨r, by rw [List.getD_eq_getElem?_getD, hv]; exact hr, hh⟩) ht
theorem At.blk {ix id : Nat} {o : Oper} {st : St} {x : Rec} (h : At P L ops ok ix id o st x) {c : Nat} (hc : c ∉ x.wb) : aP (x.e.on o.dst st).heap c = aP st.heap c := by
 have hn : ∀ y ∈ x.e.hb, y.1 ≠ c := fun y hy e => hc (by rw [← e]; exact h.hb y hy)
 rw [ut, rC hn, wF]
 refine vf _ fun r hr => ?_
 cases hh : hD x.e.sc r with
 | false => rfl
 | true => exact absurd (h.hB c ⟨r, hr, hh⟩) hc
theorem Bw {e : Eff} {dst : Option Nat} {st : St} {t : Nat} {r : Nat × Bool} (h : r ∈ ((e.on dst st).tmps.getD t dead).refs) : (dst = some t ∧ r ∈ e.val.refs) ∨ (dst ≠ some t ∧ r ∈ (st.tmps.getD t dead).refs ∧ hD e.sc r = false) := by
 rw [List.getD_eq_getElem?_getD, zK] at h
 rw [List.getD_eq_getElem?_getD]
 split at h
 ·rename_i hd
  cases hv : st.tmps[t]? with
  | none => rw [hv] at h; cases h
  | some v => rw [hv] at h; exact .inl ⟨hd, h⟩
 ·rename_i hd
  cases hv : st.tmps[t]? with
  | none => rw [hv] at h; cases h
  | some v => rw [hv] at h; exact .inr ⟨hd, (qy _ _ _).1 h⟩
theorem Bx {e : Eff} {dst : Option Nat} {st : St} {c : Nat} {r : Nat × Bool} (h : r ∈ (aP (e.on dst st).heap c).refs) : (∃ y ∈ e.hb, y.1 = c ∧ r ∈ y.2.refs) ∨ (r ∈ (aP st.heap c).refs ∧ hD e.sc r = false) := by
 rw [ut] at h
 rcases qV e.hb (st.heap.map (Blk.scr e.sc)) c with ⟨y, hy, h1, h2⟩ | h2
 ·rw [h2] at h
  exact .inl ⟨y, hy, h1, h⟩
 ·rw [h2, wF] at h
  exact .inr ((qz _ _ _).1 h)
theorem qW : ∀ (l1 l2 : List (Nat × Blk)) (H : List Blk), (∀ x ∈ l1, ∀ y ∈ l2, x.1 ≠ y.1) → aE (aE H l1) l2 = aE (aE H l2) l1
 | [], l2, H, _ => rfl
 | (b, x) :: l1, l2, H, h => by
  have one : ∀ (l : List (Nat × Blk)) (H : List Blk), (∀ y ∈ l, b ≠ y.1) → aE (H.set b x) l = (aE H l).set b x := by
   intro l
   induction l with
   | nil => intro H _; rfl
   | cons z l ih =>
    obtain ⟨c, y⟩ := z
    intro H hh
    show aE ((H.set b x).set c y) l = (aE (H.set c y) l).set b x
    rw [List.set_comm _ _ (hh (c, y) (by simp)), ih _ fun z hz => hh z (by simp [hz])]
  show aE (aE (H.set b x) l1) l2 = aE ((aE H l2).set b x) l1
  rw [qW l1 l2 (H.set b x) fun z hz => h z (by simp [hz]), one l2 H fun y hy => h (b, x) (by simp) y hy]
theorem GU {e1 e2 : Eff} {d1 d2 : Option Nat} {st : St} (hd : ∀ t, d1 = some t → d2 ≠ some t) (hb : ∀ x ∈ e1.hb, ∀ y ∈ e2.hb, x.1 ≠ y.1) (h12 : ∀ r ∈ ux e2, hD e1.sc r = false) (h21 : ∀ r ∈ ux e1, hD e2.sc r = false) :
  e2.on d2 (e1.on d1 st) = e1.on d1 (e2.on d2 st) := by
 have v1 : e1.val.map (bM e2.sc) = e1.val := mZ _ fun r hr => h21 r (List.mem_append_left _ hr)
 have v2 : e2.val.map (bM e1.sc) = e2.val := mZ _ fun r hr => h12 r (List.mem_append_left _ hr)
 have b1 : (e1.hb.map fun x => (x.1, x.2.map (bM e2.sc))) = e1.hb := (List.map_congr_left fun x hx => by
  rw [vf x.2 fun r hr => h21 r (List.mem_append_right _ (List.mem_flatMap.2 ⟨x, hx, hr⟩))]).trans (List.map_id' _)
 have b2 : (e2.hb.map fun x => (x.1, x.2.map (bM e1.sc))) = e2.hb := (List.map_congr_left fun x hx => by
  rw [vf x.2 fun r hr => h12 r (List.mem_append_right _ (List.mem_flatMap.2 ⟨x, hx, hr⟩))]).trans (List.map_id' _)
 have ht : (e2.on d2 (e1.on d1 st)).tmps = (e1.on d1 (e2.on d2 st)).tmps := by
  apply List.ext_getElem?
  intro t
  simp only [zK]
  by_cases a1 : d1 = some t
  ·have a2 := hd t a1
   rw [if_neg a2, if_pos a1, if_pos a1, if_neg a2]
   cases st.tmps[t]? <;> simp [v1]
  ·by_cases a2 : d2 = some t
   ·rw [if_neg a1, if_pos a2, if_neg a1, if_pos a2]
    cases st.tmps[t]? <;> simp [v2]
   ·rw [if_neg a1, if_neg a2, if_neg a1, if_neg a2]
    cases st.tmps[t]? <;> simp [Fi]
 have hh : (e2.on d2 (e1.on d1 st)).heap = (e1.on d1 (e2.on d2 st)).heap := by
  simp only [ut]
  rw [kK, kK, b1, b2, qW _ _ _ hb]
  congr 2
  rw [List.map_map, List.map_map]
  exact List.map_congr_left fun B _ => Fj _ _ B
 generalize e2.on d2 (e1.on d1 st) = s1 at ht hh ⊢
 generalize e1.on d1 (e2.on d2 st) = s2 at ht hh ⊢
 obtain ⟨a1, b1⟩ := s1
 obtain ⟨a2, b2⟩ := s2
 simp only at ht hh
 rw [ht, hh]
theorem wG {H : List Blk} {bs : List Nat} {l : List Ob} {r : List Nat} {e : Eff} {s : List Say} {l2 : List Ob} {r2 : List Nat} {e2 : Eff} {s2 : List Say} (h : unE H bs l r e s = some (l2, r2, e2, s2)) : l2 = l ++ mB H e.hb bs ∧ r2 = r ++ bs ∧ e2 = { e with hb := y5 bs e.hb } ∧ e.sc = [] ∧ pj (e.hb.map Prod.fst) = true := by
 unfold unE at h
 split at h
 ·rename_i hsc
  split at h
  ·rename_i hnd
   cases h
   exact ⟨rfl, rfl, rfl, hsc, hnd⟩
  ·cases h
 ·cases h
theorem pg {H H' : List Blk} {hb : List (Nat × Blk)} : ∀ {bs : List Nat}, (∀ b ∈ bs, aP H' b = aP H b) → mB H' hb bs = mB H hb bs
 | [], _ => rfl
 | b :: bs, h => by
  simp only [mB]
  rw [h b (by simp), pg fun c hc => h c (List.mem_cons_of_mem _ hc)]
theorem wE.congr {ix id : Nat} {o : Oper} {st st' : St} {x : Rec} (h : wE P L ops ok ix id o st x) (ht : ∀ t ∈ xb ops o, st'.tmps.getD t dead = st.tmps.getD t dead) (hb : ∀ b ∈ x.rd, aP st'.heap b = aP st.heap b) : wE P L ops ok ix id o st' x := by
 have hw : mY ops o st'.tmps = mY ops o st.tmps := AX fun g hg => ht g (List.mem_append_right _ hg)
 rcases h with ⟨h1, s, l, s', h2, h3⟩ | ⟨h1, h2⟩
 ·refine .inl ⟨hw.trans h1, s, l, s', ?_, h3⟩
  have hop : opE P id (L ix) o (evT st'.tmps) = opE P id (L ix) o (evT st.tmps) := Em fun y hy => by
   cases y with
   | tmp t => exact ht t (List.mem_append_left _ (Co hy))
   | _ => rfl
  unfold Gd at h2 ⊢
  rw [hop]
  cases hr : (opE P id (L ix) o (evT st.tmps)).run (aP st.heap) s with
  | none => rw [hr] at h2; cases h2
  | some q =>
   obtain ⟨l', r', e', s''⟩ := q
   rw [hr] at h2
   have hrd : ∀ b ∈ r', b ∈ x.rd := by
    simp only [] at h2
    split at h2
    ·cases h2; exact fun b h => h
    ·split at h2 <;> first | (cases h2; exact fun b h => h) | (obtain ⟨_, h3, _⟩ := wG h2; rw [h3]; exact fun b h => List.mem_append_left _ h) | cases h2
   rw [fW _ _ _ _ _ _ hr fun b hb' => hb b (hrd b hb')]
   simp only [] at h2 ⊢
   split at h2
   ·exact h2
   ·split at h2
    ·exact h2
    ·exact h2
    ·rename_i bs s2 hs2
     obtain ⟨_, h3, _⟩ := wG h2
     unfold unE at h2 ⊢
     rw [pg fun b hb' => hb b (by rw [h3]; exact List.mem_append_right _ hb')]
     exact h2
    ·cases h2
 ·exact .inr ⟨hw.trans h1, h2⟩
theorem At.swap {j idp i idq : Nat} {p q : Oper} {st : St} {x y : Rec} (hp : At P L ops ok j idp p st x) (hpo : Old p st x) (hq : At P L ops ok i idq q (x.e.on p.dst st) y) (hok : xc ops p q x y = true) :
  At P L ops ok i idq q st y ∧ At P L ops ok j idp p (y.e.on q.dst st) x ∧ Old p (y.e.on q.dst st) x ∧ y.e.on q.dst (x.e.on p.dst st) = x.e.on p.dst (y.e.on q.dst st) := by
 simp only [xc, Bool.and_eq_true] at hok
 obtain ⟨⟨⟨⟨⟨⟨⟨⟨k1, k2⟩, k3⟩, k4⟩, k5⟩, k6⟩, k7⟩, k8⟩, k9⟩ := hok
 have k1 : ∀ t, t ∈ x.wt → t ∈ xb ops q → False := fun t => jq k1
 have k2 : ∀ t, t ∈ y.wt → t ∈ xb ops p → False := fun t => jq k2
 have k3 : ∀ t, t ∈ x.wt → t ∈ y.wt → False := fun t => jq k3
 have k4 : ∀ t, t ∈ x.wb → t ∈ y.rd → False := fun t => jq k4
 have k5 : ∀ t, t ∈ y.wb → t ∈ x.rd → False := fun t => jq k5
 have k6 : ∀ t, t ∈ x.wb → t ∈ y.wb → False := fun t => jq k6
 have k7 := lu.1 k7
 have k8 := lu.1 k8
 have k9 := lu.1 k9
 have root : ∀ r, hD y.e.sc r = true → hD x.e.sc r = false := fun r h1 => by
  cases h2 : hD x.e.sc r with
  | false => rfl
  | true =>
   exfalso
   obtain ⟨s1, m1, e1⟩ := List.any_eq_true.1 h1
   obtain ⟨s2, m2, e2⟩ := List.any_eq_true.1 h2
   simp only [Bool.and_eq_true] at e1 e2
   have e1 := Nat.eq_of_beq_eq_true e1.1
   have e2 := Nat.eq_of_beq_eq_true e2.1
   exact k6 s2.1 (hp.sc s2 m2) (by rw [e2, ← e1]; exact hq.sc s1 m1)
 have qht : ∀ t, (∃ r ∈ (st.tmps.getD t dead).refs, hD y.e.sc r = true) → t ∈ y.wt := by
  rintro t ⟨r, hr, hh⟩
  by_cases hd : p.dst = some t
  ·have := k9 r (hpo.dst t hd r hr)
   rw [this] at hh; cases hh
  ·refine hq.ht t ⟨r, ?_, hh⟩
   rw [List.getD_eq_getElem?_getD] at hr
   rw [List.getD_eq_getElem?_getD, zK, if_neg hd]
   cases hv : st.tmps[t]? with
   | none => rw [hv] at hr; cases hr
   | some v =>
    rw [hv] at hr
    exact (qy _ _ _).2 ⟨hr, root r hh⟩
 have qhB : ∀ c, (∃ r ∈ (aP st.heap c).refs, hD y.e.sc r = true) → c ∈ y.wb := by
  rintro c ⟨r, hr, hh⟩
  by_cases hd : ∃ z ∈ x.e.hb, z.1 = c
  ·obtain ⟨z, hz, rfl⟩ := hd
   have := k9 r (hpo.hb z hz r hr)
   rw [this] at hh; cases hh
  ·refine hq.hB c ⟨r, ?_, hh⟩
   rw [ut, rC fun z hz e => hd ⟨z, hz, e⟩, wF]
   exact (qz _ _ _).2 ⟨hr, root r hh⟩
 have hq' : At P L ops ok i idq q st y := ⟨hq.ev.congr (fun t ht => (hp.tmp fun h => k1 t h ht).symm) (fun b hb => (hp.blk fun h => k4 b h hb).symm), hq.dst, hq.hb, hq.sc, qht, qhB⟩
 refine ⟨hq', ⟨hp.ev.congr (fun t ht => hq'.tmp fun h => k2 t h ht) (fun b hb => hq'.blk fun h => k5 b h hb), hp.dst, hp.hb, hp.sc, ?_, ?_⟩, ⟨?_, ?_⟩, ?_⟩
 ·rintro t ⟨r, hr, hh⟩
  rcases Bw hr with ⟨hd, h1⟩ | ⟨hd, h1, h2⟩
  ·have := k7 r (List.mem_append_left _ h1)
   rw [this] at hh; cases hh
  ·exact hp.ht t ⟨r, h1, hh⟩
 ·rintro c ⟨r, hr, hh⟩
  rcases Bx hr with ⟨z, hz, rfl, h1⟩ | ⟨h1, h2⟩
  ·have := k7 r (List.mem_append_right _ (List.mem_flatMap.2 ⟨z, hz, h1⟩))
   rw [this] at hh; cases hh
  ·exact hp.hB c ⟨r, h1, hh⟩
 ·intro d hd r hr
  rw [hq'.tmp fun h => k3 d (hp.dst d hd) h] at hr
  exact hpo.dst d hd r hr
 ·intro z hz r hr
  rw [hq'.blk fun h => k6 z.1 (hp.hb z hz) h] at hr
  exact hpo.hb z hz r hr
 ·exact GU (fun t h1 h2 => k3 t (hp.dst t h1) (hq.dst t h2)) (fun u hu v hv e => k6 u.1 (hp.hb u hu) (e ▸ hq.hb v hv)) k7 k8
end
end Go.Bm
