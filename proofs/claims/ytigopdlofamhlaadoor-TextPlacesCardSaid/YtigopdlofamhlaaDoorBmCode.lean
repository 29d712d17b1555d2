/- The abstract machine is sound: code, functions, loops. -/
import Derived.Test.YtigopdlofamhlaaDoorBmEnd
namespace Go.Bm
set_option autoImplicit false
set_option linter.unusedVariables false
set_option linter.unusedSimpArgs false

def Ex.to : Ex → Exit
  | .normal => .normal
  | .exit i => .exit i
  | .ret => .ret

/-- What a loop does. -/
def Loops (P : Program) (c : Code) (m : Nat) (s : St) (e : Ex) (s' : St) : Prop :=
  ∃ n, ∀ (X0 X : Ctx) (a : Act) (w : World), (∀ b ρ L, X0.loc b ρ = some L → b < m) → Inv X0 X s a w → ∀ Q : Exit → Act → World → Prop, (∀ X' a' w', Inv X0 X' s' a' w' → Q e.to a' w') → Code.rounds P c Q n a w
/-- What code does. -/
def Cuts (P : Program) (c : Code) (m : Nat) (s : St) (e : Ex) (s' : St) : Prop :=
  ∀ (X0 X : Ctx) (a : Act) (w : World), (∀ b ρ L, X0.loc b ρ = some L → b < m) → Inv X0 X s a w → ∀ Q : Exit → Act → World → Prop, (∀ X' a' w', Inv X0 X' s' a' w' → Q e.to a' w') → c.wp P Q a w
def Ob.ok (P : Program) : Ob → Prop
  | .t u v => u = v
  | .e u v => u = v
  | .c g a H r G => Does P g a H (r, G)
  | .l x m s y s' => Loops P x m s y s'
  | .k x m s y s' => Cuts P x m s y s'
def Oks (P : Program) : List Ob → Prop
  | [] => True
  | o :: l => o.ok P ∧ Oks P l
theorem okob (P : Program) : OkOb (Ob.ok P) := ⟨fun _ _ h => h, fun _ _ h => h⟩
theorem oks_all {P : Program} : ∀ {l : List Ob}, Oks P l → ∀ o ∈ l, o.ok P
  | [], _, o, ho => by cases ho
  | x :: l, h, o, ho => by
    rcases List.mem_cons.1 ho with rfl | ho
    · exact h.1
    · exact oks_all h.2 o ho

section
variable {P : Program} {X0 : Ctx} {R : Type} {L : Nat → Nat → Option (List Nat)} {m : Nat}
theorem exec_sound (hm : P.follows .mixedOrders = true) (hX : ∀ b ρ L, X0.loc b ρ = some L → b < m) : ∀ (c : Code) (st : St) (X : Ctx) (a : Act) (w : World) (k : Ex → St → Ans R) (s : List Say) (l : List Ob) (r : R), Inv X0 X st a w → execE P L m c st k s = some (l, r) → (∀ o ∈ l, o.ok P) →
    ∀ Q : Exit → Act → World → Prop, (∀ e st' X' a' w' s' l', k e st' s' = some (l', r) → (∀ o ∈ l', o.ok P) → Inv X0 X' st' a' w' → Q (Ex.to e) a' w') → c.wp P Q a w := by
  intro c
  induction c with
  | skip =>
    intro st X a w k s l r h hk hl Q hQ
    exact wp_skip (hQ .normal st X a w s l hk hl h)
  | region id ops draw =>
    intro st X a w k s l r h hk hl Q hQ
    unfold execE at hk
    obtain ⟨st', s', l', hk', hl', hw⟩ := region_sound (okob P) (fun f args H r H' h => h) hm h hk hl
    exact hw Q fun X' a' w' hI => hQ .normal st' X' a' w' s' l' hk' hl' hI
  | seq x y ihx ihy =>
    intro st X a w k s l r h hk hl Q hQ
    unfold execE at hk
    refine wp_seq (ihx st X a w _ s l r h hk hl _ fun e st' X' a' w' s' l' he hl' hI => ?_)
    cases e with
    | normal => exact ihy st' X' a' w' k s' l' r hI he hl' Q hQ
    | exit i => exact hQ (.exit i) st' X' a' w' s' l' he hl' hI
    | ret => exact hQ .ret st' X' a' w' s' l' he hl' hI
  | cond c x y ihx ihy =>
    intro st X a w k s l r h hk hl Q hQ
    unfold execE at hk
    split at hk
    · rename_i t
      obtain ⟨b, s', l', hb, hk', hl'⟩ := branch_ok (okob P) hk hl
      have hb := bool_at h hb
      have hev : a.eval (.tmp t) = .bool b := by simp [Act.eval, Array.getD_eq_getD_getElem?, hb]
      refine wp_cond hev ?_
      cases b with
      | true => exact ihx st X a w k s' l' r h hk' hl' Q hQ
      | false => exact ihy st X a w k s' l' r h hk' hl' Q hQ
    · exact wp_cond (t := true) rfl (ihx st X a w k s l r h hk hl Q hQ)
    · exact wp_cond (t := false) rfl (ihy st X a w k s l r h hk hl Q hQ)
    · cases hk
  | block id c ih =>
    intro st X a w k s l r h hk hl Q hQ
    unfold execE at hk
    cases h5 : L 5 (firstRegion c) with
    | some _ =>
      rw [h5] at hk
      simp only [] at hk
      split at hk
      · rename_i e x' s'
        obtain ⟨l', rfl, h2⟩ := moreOb_some hk
        have hc : Cuts P (.block id c) m (outSt L 5 (firstRegion c) m st) e x' := hl (.k (.block id c) m (outSt L 5 (firstRegion c) m st) e x') (by simp)
        obtain ⟨X2, hI2⟩ := out_sound h L 5 (firstRegion c) hX
        exact hc X0 X2 a w hX hI2 Q fun X' a' w' hI => hQ e x' X' a' w' s' l' h2 (fun o ho => hl o (List.mem_append_right _ ho)) hI
      · cases hk
    | none =>
      rw [h5] at hk
      refine wp_block (ih st X a w _ s l r h hk hl _ fun e st' X' a' w' s' l' he hl' hI => ?_)
      cases e with
      | normal => exact hQ .normal st' X' a' w' s' l' he hl' hI
      | exit i =>
        simp only [] at he
        cases hb : Nat.beq i id with
        | true =>
          rw [hb] at he
          have : i = id := Nat.eq_of_beq_eq_true hb
          subst this
          have := hQ .normal st' X' a' w' s' l' he hl' hI
          simpa [Ex.to, Exit.inBlock] using this
        | false =>
          rw [hb] at he
          have hne : i ≠ id := fun e => by rw [e, Nat.beq_refl] at hb; cases hb
          have := hQ (.exit i) st' X' a' w' s' l' he hl' hI
          simpa [Ex.to, Exit.inBlock, hne] using this
      | ret => exact hQ .ret st' X' a' w' s' l' he hl' hI
  | loop c ih =>
    intro st X a w k s l r h hk hl Q hQ
    unfold execE at hk
    split at hk
    · rename_i e x' s'
      obtain ⟨l', rfl, h2⟩ := moreOb_some hk
      obtain ⟨n, hc⟩ : Loops P c m (headSt L (firstRegion c) m st) e x' := hl (.l c m (headSt L (firstRegion c) m st) e x') (by simp)
      obtain ⟨X2, hI2⟩ := head_sound h L (firstRegion c) hX
      exact wp_loop_rounds n (hc X0 X2 a w hX hI2 Q fun X' a' w' hI => hQ e x' X' a' w' s' l' h2 (fun o ho => hl o (List.mem_append_right _ ho)) hI)
    · cases hk
  | exit id =>
    intro st X a w k s l r h hk hl Q hQ
    exact wp_exit (hQ (.exit id) st X a w s l hk hl h)
  | ret =>
    intro st X a w k s l r h hk hl Q hQ
    exact wp_ret (hQ .ret st X a w s l hk hl h)
  | _ => intro st X a w k s l r h hk; cases hk
end

section
variable {P : Program} {L : Lives} {f : FuncId}

theorem fin_some {R : Type} {r r' : R} {s : List Say} {l : List Ob} (h : fin r s = some (l, r')) : r = r' := by
  unfold fin at h
  split at h
  · cases h; rfl
  · cases h
/-- A function's path. -/
theorem does (hm : P.follows .mixedOrders = true) {args : List AV} {H : List Blk} {script : List Say} {l : List Ob} {r : AV × List Blk} (h : funE P L f args H script = some (l, r)) (ho : Oks P l) : Does P f args H r := by
  intro X Args hl hA hH hF hG
  unfold funE at h
  cases hf : P.funcs[f]? with
  | none => rw [hf] at h; cases h
  | some fn =>
    rw [hf] at h
    simp only [] at h
    unfold bodyE at h
    cases hc : fn.body with
    | none => rw [hc] at h; cases h
    | some c =>
      rw [hc] at h
      simp only [] at h
      refine calls_of_wp hf hc ?_
      have hI : Inv X X ⟨args ++ List.replicate (fn.ntmps - args.length) dead, H⟩ { tmps := Args.toArray ++ Array.replicate (fn.ntmps - Args.toArray.size) undef, defers := [] } X.w := by
        refine ⟨rfl, rfl, by simp [hl], fun t v V hv hV => ?_, hH, hF, .refl X, fun b B _ ρ _ L hL => hL, hG⟩
        have hv' : (args ++ List.replicate (fn.ntmps - args.length) dead)[t]? = some v := hv
        rcases Nat.lt_or_ge t args.length with hlt | hge
        · rw [List.getElem?_append_left hlt] at hv'
          rw [Array.getElem?_append_left (by simpa [hl] using hlt)] at hV
          exact hA t v V hv' (by simpa using hV)
        · rw [List.getElem?_append_right hge] at hv'
          have : v = dead := List.eq_of_mem_replicate (List.mem_of_getElem? hv')
          subst this
          exact .dead _ _
      have hm' : ∀ b ρ L, X.loc b ρ = some L → b < H.length := hH.lt
      refine exec_sound hm hm' c _ X _ X.w _ script l r hI h (oks_all ho) _ fun e st' X' a' w' s' l' he hl' hI' => ?_
      have key : (match endE P (L f) fn H.length st' with | some r => fin r | none => Ans.fail) s' = some (l', r) → e.to = .normal ∨ e.to = .ret → ∃ V, (results fn a'.tmps).run P w' = .ok V w' ∧ ∃ X', X'.w = w' ∧ Fr X X' ∧ Base X X' r.2 ∧ HeapOk X' r.2 ∧ Fresh X' ∧ VA X' none r.1 V := by
        intro he _
        cases hr : endE P (L f) fn H.length st' with
        | none => rw [hr] at he; cases he
        | some q =>
          rw [hr] at he
          have := fin_some he
          subst this
          exact end_sound hI' hm' hr
      cases e with
      | normal =>
        obtain ⟨V, hres, X2, h1, h2, h3, h4, h5, h6⟩ := key he (.inl rfl)
        exact ⟨hI'.hd, V, hres, V, X2, rfl, h1, h2, h3, h4, h5, h6⟩
      | ret =>
        obtain ⟨V, hres, X2, h1, h2, h3, h4, h5, h6⟩ := key he (.inr rfl)
        exact ⟨hI'.hd, V, hres, V, X2, rfl, h1, h2, h3, h4, h5, h6⟩
      | exit i => cases he

/-- A slice that may be nil. -/
theorem does_nil {n : Nat} {g : Nat → List PV} {r : AV × List Blk} (h1 : n = 0 → Does P f [.pv (.seqk true n g)] [] r) (h2 : Does P f [.pv (.seqk false n g)] [] r) : Does P f [.pv (.seq n g)] [] r := by
  intro X Args hl hA hH hF hG
  obtain ⟨V, rfl⟩ := List.length_eq_one_iff.1 hl
  have hV := hA 0 _ V rfl rfl
  cases hV with | pv _ _ _ hp => ?_
  have hp' := hp
  cases hp with | seq _ _ A cap sz C hn hs hAd h => ?_
  cases A with
  | none =>
    have hn0 : n = 0 := Classical.byContradiction fun hne => by
      obtain ⟨g, o, e, _⟩ := hAd (Nat.pos_of_ne_zero hne)
      cases e
    refine h1 hn0 X _ rfl (fun j v V hj hV => ?_) hH hF hG
    cases j with
    | zero => cases hj; cases hV; exact .pv _ _ _ (.seqk true n g none cap hp' rfl)
    | succ j => cases hj
  | some a =>
    refine h2 X _ rfl (fun j v V hj hV => ?_) hH hF hG
    cases j with
    | zero => cases hj; cases hV; exact .pv _ _ _ (.seqk false n g (some a) cap hp' rfl)
    | succ j => cases hj
theorem round_sound (hm : P.follows .mixedOrders = true) {m : Nat} {c : Code} {s : St} {script : List Say} {l : List Ob} {e : Ex} {s1 : St} (h : roundE P L f m c s script = some (l, (e, s1))) (ho : Oks P l) : Cuts P c m s e s1 := by
  intro X0 X a w hX hI Q hQ
  refine exec_sound hm hX c s X a w _ script l (e, s1) hI h (oks_all ho) Q fun e' st' X' a' w' s' l' he hl' hI' => ?_
  have := fin_some he
  cases this
  exact hQ X' a' w' hI'
/-- A loop's last round. -/
theorem loops_last (hm : P.follows .mixedOrders = true) {c : Code} {m : Nat} {s : St} {script : List Say} {l : List Ob} {e : Ex} {s1 s2 : St} (h : roundE P L f m c s script = some (l, (e, s1))) (ho : Oks P l) (he : e ≠ .normal) (hs : outSt (L f) 1 (firstRegion c) m s1 = s2) : Loops P c m s e s2 := by
  subst hs
  refine ⟨1, fun X0 X a w hX hI Q hQ => ?_⟩
  rw [rounds_succ]
  refine round_sound hm h ho X0 X a w hX hI _ fun X' a' w' hI' => ?_
  obtain ⟨X2, hI2⟩ := out_sound hI' (L f) 1 (firstRegion c) hX
  have := hQ X2 a' w' hI2
  cases e with
  | normal => exact absurd rfl he
  | exit i => exact this
  | ret => exact this
/-- A loop's round that goes on. -/
theorem loops_more (hm : P.follows .mixedOrders = true) {c : Code} {m : Nat} {s : St} {script : List Say} {l : List Ob} {s1 s2 : St} {e : Ex} {s' : St} (h : roundE P L f m c s script = some (l, (.normal, s1))) (ho : Oks P l) (hs : headSt (L f) (firstRegion c) m s1 = s2) (hr : Loops P c m s2 e s') : Loops P c m s e s' := by
  subst hs
  obtain ⟨n, hr⟩ := hr
  refine ⟨n + 1, fun X0 X a w hX hI Q hQ => ?_⟩
  rw [rounds_succ]
  refine round_sound hm h ho X0 X a w hX hI _ fun X' a' w' hI' => ?_
  obtain ⟨X2, hI2⟩ := head_sound hI' (L f) (firstRegion c) hX
  exact hr X0 X2 a' w' hX hI2 Q hQ
/-- A block that is cut out. -/
theorem cuts_of (hm : P.follows .mixedOrders = true) {c : Code} {m id : Nat} {s : St} {script : List Say} {l : List Ob} {e e' : Ex} {s1 s2 : St} (h : roundE P L f m c s script = some (l, (e, s1))) (ho : Oks P l) (hs : outSt (L f) 6 (firstRegion c) m s1 = s2)
    (he : e' = match e with | .exit i => (bif Nat.beq i id then .normal else .exit i) | e => e) : Cuts P (.block id c) m s e' s2 := by
  subst hs
  intro X0 X a w hX hI Q hQ
  refine wp_block (round_sound hm h ho X0 X a w hX hI _ fun X' a' w' hI' => ?_)
  obtain ⟨X2, hI2⟩ := out_sound hI' (L f) 6 (firstRegion c) hX
  have := hQ X2 a' w' hI2
  subst he
  cases e with
  | normal => exact this
  | ret => exact this
  | exit i =>
    simp only [] at this
    cases hb : Nat.beq i id with
    | true =>
      rw [hb] at this
      have e : i = id := Nat.eq_of_beq_eq_true hb
      subst e
      simpa [Ex.to, Exit.inBlock] using this
    | false =>
      rw [hb] at this
      have hne : i ≠ id := fun e => by rw [e, Nat.beq_refl] at hb; cases hb
      simpa [Ex.to, Exit.inBlock, hne] using this
end
end Go.Bm
