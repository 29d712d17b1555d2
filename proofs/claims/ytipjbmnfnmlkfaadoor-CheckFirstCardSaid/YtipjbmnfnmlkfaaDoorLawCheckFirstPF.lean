/- What is wrong with the whole is told first. -/
import Derived.Test.YtipjbmnfnmlkfaaDoorLawCheckAF
namespace Go.Bm.GoYtipjbmnfnmlkfaaDoor
set_option autoImplicit false
set_option linter.unusedVariables false
set_option linter.unusedSimpArgs false
set_option maxRecDepth 100000
theorem few_eq (c : api_Cert) : ∃ b, alibiref18_Few c = some b ∧ (b = true → c.justs.length ≤ 40) := by
  unfold alibiref18_Few
  by_cases h1 : (c.sections.length : Int) > 40
  · rw [if_pos (decide_eq_true h1)]; exact ⟨false, rfl, fun h => by cases h⟩
  · rw [if_neg (by simpa using h1)]
    by_cases h2 : (c.justs.length : Int) > 40
    · rw [if_pos (decide_eq_true h2)]; exact ⟨false, rfl, fun h => by cases h⟩
    · rw [if_neg (by simpa using h2)]
      have key : ∀ (m i : Nat), i + m = c.sections.length → ∃ r, alibiref18_Few_l4 c.digest c.sections c.justs (i : Int) = some r := by
        intro m
        induction m with
        | zero => intro i hi; rw [alibiref18_Few_l4, if_neg (by simp only [decide_eq_true_eq]; omega)]; exact ⟨_, rfl⟩
        | succ m ih =>
          intro i hi
          rw [alibiref18_Few_l4, if_pos (decide_eq_true (by omega)), if_pos (decide_eq_true (by omega)), if_pos (decide_eq_true (by omega)), inc i (by omega)]
          split
          · exact ⟨_, rfl⟩
          · split
            · exact ⟨_, rfl⟩
            · exact ih (i + 1) (by omega)
      obtain ⟨r, hr⟩ := key c.sections.length 0 (by omega)
      rw [bind_some (show alibiref18_Few_l4 _ _ _ 0 = _ from hr)]
      cases r with
      | x0 v => exact ⟨v, rfl, fun _ => by omega⟩
      | x1 => exact ⟨true, rfl, fun _ => by omega⟩
theorem flip_ne (p : api_Program) (d : Nat → B8) (h5 : d 5 = shaM (progB p) 5 ^^^ 1#8) : ¬ ∀ i, i < 32 → shaM (progB p) i = d i := fun h => by
  have h1 := (h 5 (by decide)).trans h5
  generalize shaM (progB p) 5 = v at h1
  have h3 := congrArg (fun x => x.getLsbD 0) h1
  simp only [BitVec.getLsbD_xor] at h3
  have h4 : (1#8).getLsbD 0 = true := by decide
  rw [h4] at h3
  cases hv : v.getLsbD 0 <;> rw [hv] at h3 <;> cases h3
theorem flip_tells (p : api_Program) (hg : Good p) (hk : prog_Check p = some (0, 0, 0)) (c : api_Cert) (h5 : c.digest 5 = shaM (progB p) 5 ^^^ 1#8) : check_Check p c = some (⟨-1, -1, 1⟩, 0) ∨ check_Check p c = some (⟨-1, -1, 9⟩, 0) := by
  by_cases h : Shp p c.sections ∧ (c.justs.length : Int) = p.globals
  · exact .inr (check_unbound p hg hk c h.1 h.2 (flip_ne p _ h5))
  · exact .inl (check_shapeless p hg hk c h)
theorem flip_bind (p : api_Program) (hg : Good p) (hk : prog_Check p = some (0, 0, 0)) (l : List api_Section) (js : List api_Just) (d : Nat → B8) (h5 : d 5 = shaM (progB p) 5 ^^^ 1#8) (k : api_Fault × Int → Option Bool) (k1 : k (⟨-1, -1, 1⟩, 0) = some true) (k9 : k (⟨-1, -1, 9⟩, 0) = some true) : bind (check_Check p ⟨d, l, js⟩) k = some true := by
  rcases flip_tells p hg hk ⟨d, l, js⟩ h5 with h | h
  · rw [bind_some h]; exact k1
  · rw [bind_some h]; exact k9
theorem checkFirst (p : api_Program) (c : api_Cert) (more : Bool) : alibilaw20_CheckFirst p c more = some true := by
  unfold alibilaw20_CheckFirst
  rw [bind_some awake20, if_neg (by decide)]
  obtain ⟨sm, s1, s2⟩ := small_eq p
  rw [bind_some s1]
  cases sm with
  | false => rw [if_pos (by decide), bind_some awake20]
  | true =>
    rw [if_neg (by decide)]
    obtain ⟨fw, f1, f2⟩ := few_eq c
    rw [bind_some f1]
    cases fw with
    | false => rw [if_pos (by decide), bind_some awake20]
    | true =>
      rw [if_neg (by decide)]
      have hf := f2 rfl
      have hn := (s2 rfl).1
      obtain ⟨⟨ra, rb, re⟩, r1, r3, r4⟩ := check_eqP p
      by_cases he : re = 0
      · obtain ⟨r5, hg⟩ := r3 he
        rw [r5] at r1
        have hgl := hg.globals
        rw [bind_some (digest_good hg r1)]
        dsimp only
        rw [if_neg (by decide), if_pos (Nat.ble_eq_true_of_le (by simp only [List.length_nil, reach]; omega)), vput_sha]
        have first : ∀ n : Int, 0 ≤ n → n ≠ p.globals → check_Check p ⟨c.digest, c.sections, List.replicate n.toNat d_api_Just⟩ = some (⟨-1, -1, 1⟩, 0) := fun n h0 hn =>
          check_shapeless p hg r1 _ fun h => hn (by have := h.2; dsimp only at this; rw [List.length_replicate] at this; omega)
        cases more with
        | true =>
          have e : iAdd p.globals 1 = p.globals + 1 := iAdd_eq (by omega) (by omega)
          rw [if_pos rfl, e, if_pos (decide_eq_true (by omega)), if_pos (decide_eq_true (by unfold reach; omega)), bind_some (first (p.globals + 1) (by omega) (by omega))]
          dsimp only
          rw [if_neg (by decide), if_neg (by decide)]
          exact flip_bind p hg r1 c.sections c.justs _ rfl _ rfl rfl
        | false =>
          rw [if_neg (by decide)]
          by_cases h0 : p.globals > 0
          · have e : iSub p.globals 1 = p.globals - 1 := iSub_eq (by omega) (by omega)
            rw [if_pos (decide_eq_true h0), e, if_pos (decide_eq_true (by omega)), if_pos (decide_eq_true (by unfold reach; omega)), bind_some (first (p.globals - 1) (by omega) (by omega))]
            dsimp only
            rw [if_neg (by decide), if_neg (by decide)]
            exact flip_bind p hg r1 c.sections c.justs _ rfl _ rfl rfl
          · rw [if_neg (by simpa using h0)]
            obtain ⟨r, hr⟩ := check_total p hg r1 ⟨c.digest, c.sections, [] ++ c.justs⟩
            rw [bind_some hr]
            exact flip_bind p hg r1 c.sections c.justs _ rfl _ rfl rfl
      · rw [bind_some (digest_bad0 r1 he)]
        dsimp only
        rw [if_pos (neT he)]
end Go.Bm.GoYtipjbmnfnmlkfaaDoor
