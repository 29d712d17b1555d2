/- The abstract machine is sound: code, and calls of functions. -/
import Derived.Test.YtldkmmnffjdliaaAmDraw
namespace Go.Am
set_option autoImplicit false
set_option linter.unusedVariables false
set_option linter.unusedSimpArgs false

def Ex.to : Ex → Exit
  | .normal => .normal
  | .exit i => .exit i
  | .ret => .ret

section
variable {X0 : Ctx} {E : Env} {R : Type}

theorem branch_sound {X : Ctx} {st : St} {a : Act} {w : World} (h : Inv X0 X st a w) {t : Nat} {f : Bool → St → Option R} {r : R} (hk : branchK st t f = some r) : ∃ b, a.tmps[t]? = some (.bool b) ∧ f b st = some r := by
  unfold branchK at hk
  split at hk
  · rename_i b hb
    have hk := splitB_some hk
    rw [set_known hb] at hk
    exact ⟨b, bool_at h hb, hk⟩
  · cases hk

theorem exec_sound (hC : SoundC E.P E.call) (hm : E.P.follows .mixedOrders = true) : ∀ (c : Code) (st : St) (X : Ctx) (a : Act) (w : World) (k : Ex → St → Option R) (r : R), Inv X0 X st a w → execK E c st k = some r →
    ∀ Q : Exit → Act → World → Prop, (∀ e st' X' a' w', k e st' = some r → Inv X0 X' st' a' w' → Q (Ex.to e) a' w') → c.wp E.P Q a w := by
  intro c
  induction c with
  | skip =>
    intro st X a w k r h hk Q hQ
    exact wp_skip (hQ .normal st X a w hk h)
  | region id ops draw =>
    intro st X a w k r h hk Q hQ
    unfold execK at hk
    obtain ⟨st', hk', hw⟩ := region_sound hC hm h hk
    exact hw Q fun X' a' w' hI => hQ .normal st' X' a' w' hk' hI
  | seq x y ihx ihy =>
    intro st X a w k r h hk Q hQ
    unfold execK at hk
    refine wp_seq (ihx st X a w _ r h hk _ fun e st' X' a' w' he hI => ?_)
    cases e with
    | normal => exact ihy st' X' a' w' k r hI he Q hQ
    | exit i => exact hQ (.exit i) st' X' a' w' he hI
    | ret => exact hQ .ret st' X' a' w' he hI
  | cond c x y ihx ihy =>
    intro st X a w k r h hk Q hQ
    unfold execK at hk
    split at hk
    · rename_i t
      obtain ⟨b, hb, hk⟩ := branch_sound h hk
      have hev : a.eval (.tmp t) = .bool b := by simp [Act.eval, Array.getD_eq_getD_getElem?, hb]
      refine wp_cond hev ?_
      cases b with
      | true => exact ihx st X a w k r h hk Q hQ
      | false => exact ihy st X a w k r h hk Q hQ
    · exact wp_cond (t := true) rfl (ihx st X a w k r h hk Q hQ)
    · exact wp_cond (t := false) rfl (ihy st X a w k r h hk Q hQ)
    · cases hk
  | block id c ih =>
    intro st X a w k r h hk Q hQ
    unfold execK at hk
    refine wp_block (ih st X a w _ r h hk _ fun e st' X' a' w' he hI => ?_)
    cases e with
    | normal => exact hQ .normal st' X' a' w' he hI
    | exit i =>
      simp only [] at he
      cases hb : Nat.beq i id with
      | true =>
        rw [hb] at he
        have : i = id := Nat.eq_of_beq_eq_true hb
        subst this
        have := hQ .normal st' X' a' w' he hI
        simpa [Ex.to, Exit.inBlock] using this
      | false =>
        rw [hb] at he
        have hne : i ≠ id := fun e => by rw [e, Nat.beq_refl] at hb; cases hb
        have := hQ (.exit i) st' X' a' w' he hI
        simpa [Ex.to, Exit.inBlock, hne] using this
    | ret => exact hQ .ret st' X' a' w' he hI
  | loop c ih =>
    intro st X a w k r h hk Q hQ
    unfold execK at hk
    have hn : ∀ b, X0.dom b → b < st.heap.length := fun b hb => h.heap.lt b (h.fr.base b hb).1
    generalize st.heap.length = m at hk hn
    refine wp_loop_rounds E.fuel ?_
    have key : ∀ (n : Nat) (st : St) (X : Ctx) (a : Act) (w : World), Inv X0 X st a w →
        iter (fun st self => execK E c st fun e st' => match e with
          | .normal => self (headSt (E.live (firstRegion c)) m st')
          | .exit i => k (.exit i) (outSt (E.live (atEnd + firstRegion c)) m st')
          | .ret => k .ret (outSt (E.live (atEnd + firstRegion c)) m st')) n st = some r → Code.rounds E.P c Q n a w := by
      intro n
      induction n with
      | zero => intro st X a w h hk; cases hk
      | succ n ihn =>
        intro st X a w h hk
        refine ih st X a w _ r h hk _ fun e st' X' a' w' he hI => ?_
        cases e with
        | normal => exact ihn _ _ a' w' (head_sound hI _ hn) he
        | exit i =>
          obtain ⟨X2, hI2⟩ := out_sound hI (E.live (atEnd + firstRegion c)) hn
          exact hQ (.exit i) _ X2 a' w' he hI2
        | ret =>
          obtain ⟨X2, hI2⟩ := out_sound hI (E.live (atEnd + firstRegion c)) hn
          exact hQ .ret _ X2 a' w' he hI2
    exact key E.fuel _ _ a w (head_sound h _ hn) hk
  | exit id =>
    intro st X a w k r h hk Q hQ
    exact wp_exit (hQ (.exit id) st X a w hk h)
  | ret =>
    intro st X a w k r h hk Q hQ
    exact wp_ret (hQ .ret st X a w hk h)
  | _ => intro st X a w k r h hk; cases hk
end

theorem callN_sound {P : Program} (hm : P.follows .mixedOrders = true) (L : Lives) (fuel : Nat) : ∀ n, SoundC P (callN P L fuel n)
  | 0 => fun f args H r H' hr => by cases hr
  | n + 1 => by
    intro f args H r H' hr X Args hl hA hH hF hT
    unfold callN at hr
    split at hr
    · rename_i fn hf
      unfold bodyK at hr
      split at hr
      · rename_i c hc
        refine calls_of_wp hf hc ?_
        have hI : Inv X X ⟨args ++ List.replicate (fn.ntmps - args.length) dead, H⟩ { tmps := Args.toArray ++ Array.replicate (fn.ntmps - Args.toArray.size) undef, defers := [] } X.w := by
          refine ⟨rfl, rfl, by simp [hl], fun t v V hv hV => ?_, hH, hF, .refl X⟩
          have hv' : (args ++ List.replicate (fn.ntmps - args.length) dead)[t]? = some v := hv
          rcases Nat.lt_or_ge t args.length with hlt | hge
          · rw [List.getElem?_append_left hlt] at hv'
            rw [Array.getElem?_append_left (by simpa [hl] using hlt)] at hV
            exact (hA t v V hv' (by simpa using hV)).any _
          · rw [List.getElem?_append_right hge] at hv'
            have : v = dead := List.eq_of_mem_replicate (List.mem_of_getElem? hv')
            subst this
            exact .dead _ _
        refine exec_sound (E := { P, call := callN P L fuel n, fuel, live := L f }) (callN_sound hm L fuel n) hm c _ X _ X.w _ (r, H') hI hr _ fun e st' X' a' w' he hI' => ?_
        have hm' : ∀ b, X.dom b → b < H.length := hH.lt
        cases e with
        | normal =>
          obtain ⟨V, hres, X2, h1, h2, h3, h4, h5⟩ := end_sound hI' hm' he
          exact ⟨hI'.hd, V, hres, V, X2, rfl, h1, h2, h3, h4, h5⟩
        | ret =>
          obtain ⟨V, hres, X2, h1, h2, h3, h4, h5⟩ := end_sound hI' hm' he
          exact ⟨hI'.hd, V, hres, V, X2, rfl, h1, h2, h3, h4, h5⟩
        | exit i => cases he
      · cases hr
    · cases hr
end Go.Am
