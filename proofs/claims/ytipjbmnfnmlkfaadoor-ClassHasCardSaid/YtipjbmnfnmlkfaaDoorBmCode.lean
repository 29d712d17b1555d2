import Derived.Test.YtipjbmnfnmlkfaaDoorBmEnd
namespace Go.Bm
set_option autoImplicit false
set_option linter.unusedVariables false
set_option linter.unusedSimpArgs false
def Ex.to : Ex → Exit
 | .normal => .normal
 | .exit i => .exit i
 | .ret => .ret
def io (P : Program) (c : Code) (m : Nat) (s : St) (e : Ex) (s' : St) : Prop :=
 ∃ n, ∀ (X0 X : Ctx) (a : Act) (w : World), (∀ b ρ L, X0.loc b ρ = some L → b < m) → Inv X0 X s a w → ∀ Q : Exit → Act → World → Prop, (∀ X' a' w', Inv X0 X' s' a' w' → Q e.to a' w') → Code.rounds P c Q n a w
def GP (P : Program) (c : Code) (m : Nat) (s : St) (e : Ex) (s' : St) : Prop :=
 ∀ (X0 X : Ctx) (a : Act) (w : World), (∀ b ρ L, X0.loc b ρ = some L → b < m) → Inv X0 X s a w → ∀ Q : Exit → Act → World → Prop, (∀ X' a' w', Inv X0 X' s' a' w' → Q e.to a' w') → c.wp P Q a w
def Ob.ok (P : Program) : Ob → Prop
 | .t u v => u = v
 | .e u v => u = v
 | .c g a H r G => pL P g a H (r, G)
 | .l x m s y s' => io P x m s y s'
 | .k x m s y s' => GP P x m s y s'
def Oks (P : Program) : List Ob → Prop
 | [] => True
 | o :: l => o.ok P ∧ Oks P l
theorem GQ (P : Program) : wj (Ob.ok P) := ⟨fun _ _ h => h, fun _ _ h => h⟩
theorem yk {P : Program} : ∀ {l : List Ob}, Oks P l → ∀ o ∈ l, o.ok P
 | [], _, o, ho => by cases ho
 | x :: l, h, o, ho => by
  rcases List.mem_cons.1 ho with rfl | ho
  ·exact h.1
  ·exact yk h.2 o ho
section
variable {P : Program} {X0 : Ctx} {R : Type} {L : Nat → Nat → Option (List Nat)} {m : Nat}
theorem uQ (hm : P.follows .mixedOrders = true) (hX : ∀ b ρ L, X0.loc b ρ = some L → b < m) : ∀ (c : Code) (st : St) (X : Ctx) (a : Act) (w : World) (k : Ex → St → Ans R) (s : List Say) (l : List Ob) (r : R), Inv X0 X st a w → jB P L m c st k s = some (l, r) → (∀ o ∈ l, o.ok P) →
  ∀ Q : Exit → Act → World → Prop, (∀ e st' X' a' w' s' l', k e st' s' = some (l', r) → (∀ o ∈ l', o.ok P) → Inv X0 X' st' a' w' → Q (Ex.to e) a' w') → c.wp P Q a w := by
 intro c
 induction c with
 | skip =>
  intro st X a w k s l r h hk hl Q hQ
  exact wp_skip (hQ .normal st X a w s l hk hl h)
 | region id ops draw =>
  intro st X a w k s l r h hk hl Q hQ
  unfold jB at hk
  obtain ⟨st', s', l', hk', hl', hw⟩ := xL (GQ P) (fun f args H r H' h => h) hm h hk hl
  exact hw Q fun X' a' w' hI => hQ .normal st' X' a' w' s' l' hk' hl' hI
 | seq x y ihx ihy =>
  intro st X a w k s l r h hk hl Q hQ
  unfold jB at hk
  refine wp_seq (ihx st X a w _ s l r h hk hl _ fun e st' X' a' w' s' l' he hl' hI => ?_)
  cases e with
  | normal => exact ihy st' X' a' w' k s' l' r hI he hl' Q hQ
  | exit i => exact hQ (.exit i) st' X' a' w' s' l' he hl' hI
  | ret => exact hQ .ret st' X' a' w' s' l' he hl' hI
 | cond c x y ihx ihy =>
  intro st X a w k s l r h hk hl Q hQ
  unfold jB at hk
  split at hk
  ·rename_i t
   obtain ⟨b, s', l', hb, hk', hl'⟩ := wI (GQ P) hk hl
   have hb := Be h hb
   have hev : a.eval (.tmp t) = .bool b := by simp [Act.eval, Array.getD_eq_getD_getElem?, hb]
   refine wp_cond hev ?_
   cases b with
   | true => exact ihx st X a w k s' l' r h hk' hl' Q hQ
   | false => exact ihy st X a w k s' l' r h hk' hl' Q hQ
  ·exact wp_cond (t := true) rfl (ihx st X a w k s l r h hk hl Q hQ)
  ·exact wp_cond (t := false) rfl (ihy st X a w k s l r h hk hl Q hQ)
  ·cases hk
 | block id c ih =>
  intro st X a w k s l r h hk hl Q hQ
  unfold jB at hk
  cases h5 : L 5 (aS c) with
  | some _ =>
   rw [h5] at hk
   simp only [] at hk
   split at hk
   ·rename_i e x' s'
    obtain ⟨l', rfl, h2⟩ := lX hk
    have hc : GP P (.block id c) m (qi L 5 (aS c) m st) e x' := hl (.k (.block id c) m (qi L 5 (aS c) m st) e x') (by simp)
    obtain ⟨X2, hI2⟩ := mW h L 5 (aS c) hX
    exact hc X0 X2 a w hX hI2 Q fun X' a' w' hI => hQ e x' X' a' w' s' l' h2 (fun o ho => hl o (List.mem_append_right _ ho)) hI
   ·cases hk
  | none =>
   rw [h5] at hk
   refine wp_block (ih st X a w _ s l r h hk hl _ fun e st' X' a' w' s' l' he hl' hI => ?_)
   cases e with
   | normal => exact hQ .normal st' X' a' w' s' l' he hl' hI
   | exit i =>
    simp only [] at he
    cases hb : Nat.beq i id with
    | true =>
     rw [hb] at he
     have : i = id := Nat.eq_of_beq_eq_true hb
     subst this
     have := hQ .normal st' X' a' w' s' l' he hl' hI
     simpa [Ex.to, Exit.inBlock] using this
    | false =>
     rw [hb] at he
     have hne : i ≠ id := fun e => by rw [e, Nat.beq_refl] at hb; cases hb
     have := hQ (.exit i) st' X' a' w' s' l' he hl' hI
     simpa [Ex.to, Exit.inBlock, hne] using this
   | ret => exact hQ .ret st' X' a' w' s' l' he hl' hI
 | loop c ih =>
  intro st X a w k s l r h hk hl Q hQ
  unfold jB at hk
  split at hk
  ·rename_i e x' s'
   obtain ⟨l', rfl, h2⟩ := lX hk
   obtain ⟨n, hc⟩ : io P c m (rE L (aS c) m st) e x' := hl (.l c m (rE L (aS c) m st) e x') (by simp)
   obtain ⟨X2, hI2⟩ := tQ h L (aS c) hX
   exact wp_loop_rounds n (hc X0 X2 a w hX hI2 Q fun X' a' w' hI => hQ e x' X' a' w' s' l' h2 (fun o ho => hl o (List.mem_append_right _ ho)) hI)
  ·cases hk
 | exit id =>
  intro st X a w k s l r h hk hl Q hQ
  exact wp_exit (hQ (.exit id) st X a w s l hk hl h)
 | ret =>
  intro st X a w k s l r h hk hl Q hQ
  exact wp_ret (hQ .ret st X a w s l hk hl h)
 | _ => intro st X a w k s l r h hk; cases hk
end
section
variable {P : Program} {L : lz} {f : FuncId}
theorem zM {R : Type} {r r' : R} {s : List Say} {l : List Ob} (h : fin r s = some (l, r')) : r = r' := by
 unfold fin at h
 split at h
 ·cases h; rfl
 ·cases h
theorem G1 (hm : P.follows .mixedOrders = true) {args : List AV} {H : List Blk} {script : List Say} {l : List Ob} {r : AV × List Blk} (h : Fo P L f args H script = some (l, r)) (ho : Oks P l) : pL P f args H r := by
 intro X Args hl hA hH hF hG
 unfold Fo at h
 cases hf : P.funcs[f]? with
 | none => rw [hf] at h; cases h
 | some fn =>
  rw [hf] at h
  simp only [] at h
  unfold FK at h
  cases hc : fn.body with
  | none => rw [hc] at h; cases h
  | some c =>
   rw [hc] at h
   simp only [] at h
   refine calls_of_wp hf hc ?_
   have hI : Inv X X ⟨args ++ List.replicate (fn.ntmps - args.length) dead, H⟩ { tmps := Args.toArray ++ Array.replicate (fn.ntmps - Args.toArray.size) undef, defers := [] } X.w := by
    refine ⟨rfl, rfl, by simp [hl], fun t v V hv hV => ?_, hH, hF, .refl X, fun b B _ ρ _ L hL => hL, hG⟩
    have hv' : (args ++ List.replicate (fn.ntmps - args.length) dead)[t]? = some v := hv
    rcases Nat.lt_or_ge t args.length with hlt | hge
    ·rw [List.getElem?_append_left hlt] at hv'
     rw [Array.getElem?_append_left (by simpa [hl] using hlt)] at hV
     exact hA t v V hv' (by simpa using hV)
    ·rw [List.getElem?_append_right hge] at hv'
     have : v = dead := List.eq_of_mem_replicate (List.mem_of_getElem? hv')
     subst this
     exact .dead _ _
   have hm' : ∀ b ρ L, X.loc b ρ = some L → b < H.length := hH.lt
   refine uQ hm hm' c _ X _ X.w _ script l r hI h (yk ho) _ fun e st' X' a' w' s' l' he hl' hI' => ?_
   have key : (match Es P (L f) fn H.length st' with | some r => fin r | none => Ans.fail) s' = some (l', r) → e.to = .normal ∨ e.to = .ret → ∃ V, (results fn a'.tmps).run P w' = .ok V w' ∧ ∃ X', X'.w = w' ∧ Fr X X' ∧ i8 X X' r.2 ∧ aI X' r.2 ∧ fF X' ∧ VA X' none r.1 V := by
    intro he _
    cases hr : Es P (L f) fn H.length st' with
    | none => rw [hr] at he; cases he
    | some q =>
     rw [hr] at he
     have := zM he
     subst this
     exact Cl hI' hm' hr
   cases e with
   | normal =>
    obtain ⟨V, hres, X2, h1, h2, h3, h4, h5, h6⟩ := key he (.inl rfl)
    exact ⟨hI'.hd, V, hres, V, X2, rfl, h1, h2, h3, h4, h5, h6⟩
   | ret =>
    obtain ⟨V, hres, X2, h1, h2, h3, h4, h5, h6⟩ := key he (.inr rfl)
    exact ⟨hI'.hd, V, hres, V, X2, rfl, h1, h2, h3, h4, h5, h6⟩
   | exit i => cases he
end
end Go.Bm
