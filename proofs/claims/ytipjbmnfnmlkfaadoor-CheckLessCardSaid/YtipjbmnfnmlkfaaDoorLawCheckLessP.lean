/- A certificate that tells nothing is accepted just if the program touches no globals. -/
import Derived.Test.YtipjbmnfnmlkfaaDoorLawCheckA
namespace Go.Bm.GoYtipjbmnfnmlkfaaDoor
set_option autoImplicit false
set_option linter.unusedVariables false
set_option linter.unusedSimpArgs false
set_option maxRecDepth 100000
def anyU (q : Nat → Bool) : Nat → Nat → Bool
  | _, 0 => false
  | i, m + 1 => q i || anyU q (i + 1) m
theorem anyU_iff {q : Nat → Bool} : ∀ {m i : Nat}, anyU q i m = true ↔ ∃ k, i ≤ k ∧ k < i + m ∧ q k = true
  | 0, i => ⟨fun h => (by cases h), fun ⟨k, h1, h2, _⟩ => by omega⟩
  | m + 1, i => by
    unfold anyU
    rw [Bool.or_eq_true, anyU_iff]
    constructor
    · rintro (h | ⟨k, h1, h2, h3⟩)
      · exact ⟨i, Nat.le_refl _, by omega, h⟩
      · exact ⟨k, by omega, by omega, h3⟩
    · rintro ⟨k, h1, h2, h3⟩
      rcases Nat.eq_or_lt_of_le h1 with rfl | h4
      · exact .inl h3
      · exact .inr ⟨k, h4, by omega, h3⟩
theorem rep_snoc {α : Type} (x : List α) (m : Nat) (a : α) : x ++ [a] ++ List.replicate m a = x ++ List.replicate (m + 1) a := by
  rw [List.append_assoc]; rfl
theorem less_l13 (p : api_Program) (x0 : List api_Section) (x1 : List api_Just) (dig : Nat → B8) (w1 w2 w3 w4 : W32) (f : Nat) (hf : f < p.funcs.length) (hn : p.funcs.length ≤ 65536) (hlen : (List.getD p.funcs f []).length ≤ 65536) : ∀ (m i : Nat) (x2 x3 : List W32) (b : Bool), i + m = (List.getD p.funcs f []).length → x2.length ≤ i → x3.length ≤ i →
    alibilaw20_CheckLess_l13 x0 x1 x2 x3 p.globals p.locks p.slots p.funcs dig w1 w2 w3 w4 b (f : Int) (i : Int) = some (x2 ++ List.replicate m 0#32, x3 ++ List.replicate m 511#32, b || anyU (fun i => acc (nde p f i)) i m)
  | 0, i, x2, x3, b, h, h2, h3 => by
    rw [alibilaw20_CheckLess_l13, if_pos (decide_eq_true (by omega)), if_pos (decide_eq_true (by omega)), Int.toNat_natCast f, if_neg (by simp only [decide_eq_true_eq]; omega)]
    simp [anyU]
  | m + 1, i, x2, x3, b, h, h2, h3 => by
    have ih := fun b => less_l13 p x0 x1 dig w1 w2 w3 w4 f hf hn hlen m (i + 1) (x2 ++ [0#32]) (x3 ++ [511#32]) b (by omega) (by simp; omega) (by simp; omega)
    have s2 : Nat.ble ((x2.length + [0#32].length) * 4) reach = true := Nat.ble_eq_true_of_le (by simp only [List.length_singleton, reach]; omega)
    have s3 : Nat.ble ((x3.length + [511#32].length) * 4) reach = true := Nat.ble_eq_true_of_le (by simp only [List.length_singleton, reach]; omega)
    rw [alibilaw20_CheckLess_l13, if_pos (decide_eq_true (by omega)), if_pos (decide_eq_true (by omega)), Int.toNat_natCast f, if_pos (decide_eq_true (by omega)), if_pos s2, if_pos s3, inc i (by omega)]
    rw [← rep_snoc, ← rep_snoc]
    unfold anyU
    cases b with
    | true => rw [if_pos rfl, ih true]; simp
    | false =>
      rw [if_neg (by decide), if_pos (decide_eq_true (by omega)), if_pos (decide_eq_true (by omega)), Int.toNat_natCast i]
      by_cases h1 : (nde p f i).kind = 1
      · rw [if_pos (eqT h1), ih true, show acc (nde p f i) = true by unfold acc; rw [eqT h1]; rfl]
        simp
      · rw [if_neg (eqF h1), ih _, show acc (nde p f i) = ((nde p f i).kind == 2) by unfold acc; rw [show ((nde p f i).kind == 1) = false by simpa using h1]; rfl]
        simp
def nothing (n : Nat) : api_Section := ⟨0#32, 0#32, List.replicate n 0#32, 511#32, 511#32, List.replicate n 511#32⟩
theorem less_l9 (p : api_Program) (x1 : List api_Just) (dig : Nat → B8) (hn : p.funcs.length ≤ 65536) (hlen : ∀ f, (List.getD p.funcs f []).length ≤ 65536) : ∀ (m f : Nat) (t : List api_Section) (b : Bool), f + m = p.funcs.length → t.length = f → (∀ g, g < f → sec t g = nothing (List.getD p.funcs g []).length) →
    ∃ t', alibilaw20_CheckLess_l9 t x1 p.globals p.locks p.slots p.funcs dig b (f : Int) = some (t', b || anyU (fun g => anyU (fun i => acc (nde p g i)) 0 (List.getD p.funcs g []).length) f m) ∧ t'.length = p.funcs.length ∧ ∀ g, g < p.funcs.length → sec t' g = nothing (List.getD p.funcs g []).length
  | 0, f, t, b, h, h1, h2 => by
    rw [alibilaw20_CheckLess_l9, if_neg (by simp only [decide_eq_true_eq]; omega)]
    exact ⟨t, by simp [anyU], by omega, fun g hg => h2 g (by omega)⟩
  | m + 1, f, t, b, h, h1, h2 => by
    have h13 := less_l13 p t x1 dig 0#32 0#32 511#32 511#32 f (by omega) hn (hlen f) (List.getD p.funcs f []).length 0 [] [] b (by omega) (by simp) (by simp)
    obtain ⟨t', q1, q2, q3⟩ := less_l9 p x1 dig hn hlen m (f + 1) (t ++ [nothing (List.getD p.funcs f []).length]) (b || anyU (fun i => acc (nde p f i)) 0 (List.getD p.funcs f []).length) (by omega) (by simp [h1]) fun g hg => by
      show List.getD (t ++ [_]) g d_api_Section = _
      rw [getD_snoc]
      split
      · rename_i e
        have : g = f := by omega
        subst this
        rfl
      · exact h2 g (by omega)
    refine ⟨t', ?_, q2, q3⟩
    rw [alibilaw20_CheckLess_l9, if_pos (decide_eq_true (by omega)), bind_some (show alibilaw20_CheckLess_l13 t x1 [] [] p.globals p.locks p.slots p.funcs dig 0#32 0#32 511#32 511#32 b (f : Int) 0 = _ from h13), if_pos (Nat.ble_eq_true_of_le (by simp only [List.length_singleton, reach]; omega)), inc f (by omega)]
    refine Eq.trans q1 ?_
    rw [Bool.or_assoc]
    rfl
theorem checkLess (p : api_Program) : alibilaw20_CheckLess p = some true := by
  unfold alibilaw20_CheckLess
  rw [bind_some awake20, if_neg (by decide)]
  obtain ⟨sm, s1, s2⟩ := small_eq p
  rw [bind_some s1]
  cases sm with
  | false => rw [if_pos (by decide), bind_some awake20]
  | true =>
    rw [if_neg (by decide)]
    have hn := (s2 rfl).1
    have hlen := (s2 rfl).2
    obtain ⟨⟨ra, rb, re⟩, r1, r3, r4⟩ := check_eqP p
    by_cases he : re = 0
    · obtain ⟨r5, hg⟩ := r3 he
      rw [r5] at r1
      have hgl := hg.globals
      rw [bind_some (digest_good hg r1)]
      dsimp only
      rw [if_neg (by decide), if_pos (decide_eq_true hgl.1), if_pos (decide_eq_true (by unfold reach; omega)), vput_sha]
      obtain ⟨l, q1, q2, q3⟩ := less_l9 p (List.replicate p.globals.toNat d_api_Just) (shaM (progB p)) (by omega) (fun f => by have := hlen f; omega) p.funcs.length 0 [] false (by omega) rfl (fun g hg => by omega)
      rw [bind_some (show alibilaw20_CheckLess_l9 [] _ p.globals p.locks p.slots p.funcs _ false 0 = _ from q1)]
      dsimp only
      have hs : Shp p l := ⟨q2, fun f hf => by rw [q3 f hf]; simp [nothing]⟩
      obtain ⟨u, fm, _, k2, _⟩ := must_good p hg r1
      obtain ⟨bg, _, k4, _⟩ := may_good p hg r1
      have hb := k2 l hs
      have ha := k4 l hs
      rw [fine_of q2 (lessFine hg (fun f hf => by
        refine ⟨by rw [q3 f hf]; rfl, by rw [q3 f hf]; rfl, fun i => ?_⟩
        show List.getD (sec l f).held i 0#32 = _
        rw [q3 f hf]
        exact getD_rep_w _ _) u fm)] at hb
      have hall : ∀ f, f < p.funcs.length → All p f (sec l f) := fun f hf => by
        rw [q3 f hf]
        refine ⟨rfl, rfl, by simp [nothing], by simp [nothing], fun j hj => ?_⟩
        show List.getD (List.replicate (List.getD p.funcs f []).length 511#32) j 0#32 = _
        rw [List.getD, List.getElem?_replicate, if_pos hj]
        rfl
      rw [fineL_of q2 (moreFine hg hall bg)] at ha
      have hj : ((List.replicate p.globals.toNat d_api_Just).length : Int) = p.globals := by rw [List.length_replicate]; omega
      rw [bind_some (accepts_good p hg r1 ⟨shaM (progB p), l, List.replicate p.globals.toNat d_api_Just⟩ hs hj _ _ hb ha)]
      have hjus : ∀ i, jus (List.replicate p.globals.toNat d_api_Just) i = d_api_Just := fun i => by
        simp only [jus, List.getD, List.getElem?_replicate]
        split <;> rfl
      have key : (checkM p ⟨shaM (progB p), l, List.replicate p.globals.toNat d_api_Just⟩ ⟨0, 0, 0⟩ ⟨0, 0, 0⟩).what = 0 ↔ ¬ (anyU (fun g => anyU (fun i => acc (nde p g i)) 0 (List.getD p.funcs g []).length) 0 p.funcs.length = true) := by
        rw [checkM_ok]
        have hG := @guard_ok p l (List.replicate p.globals.toNat d_api_Just)
        constructor
        · rintro ⟨_, _, _, h⟩ hc
          obtain ⟨f, _, hf, h1⟩ := anyU_iff.1 hc
          obtain ⟨i, _, hi, h2⟩ := anyU_iff.1 h1
          have := (hG.1 h).2 f i (by omega) (by omega)
          unfold grd at this
          rw [h2, hjus, show liv l f i = 511#32 from (hall f (by omega)).live i (by omega)] at this
          cases this
        · intro h
          refine ⟨fun i _ => rfl, rfl, rfl, hG.2 ⟨fun i hi => ?_, fun f i hf hi => ?_⟩⟩
          · rw [show List.getD (List.replicate p.globals.toNat d_api_Just) i d_api_Just = d_api_Just by simp only [List.getD, List.getElem?_replicate]; split <;> rfl]
            rfl
          · unfold grd
            cases hac : acc (nde p f i) with
            | false => rfl
            | true =>
              have a1 : anyU (fun i => acc (nde p f i)) 0 (List.getD p.funcs f []).length = true := anyU_iff.2 ⟨i, Nat.zero_le _, by omega, hac⟩
              exact absurd (anyU_iff.2 ⟨f, Nat.zero_le _, by omega, a1⟩) h
      rw [Bool.false_or]
      congr 1
      cases hU : anyU (fun g => anyU (fun i => acc (nde p g i)) 0 (List.getD p.funcs g []).length) 0 p.funcs.length with
      | true =>
        have : ¬ (checkM p ⟨shaM (progB p), l, List.replicate p.globals.toNat d_api_Just⟩ ⟨0, 0, 0⟩ ⟨0, 0, 0⟩).what = 0 := fun h => key.1 h hU
        rw [show ((checkM p ⟨shaM (progB p), l, List.replicate p.globals.toNat d_api_Just⟩ ⟨0, 0, 0⟩ ⟨0, 0, 0⟩).what == 0) = false by simpa using this]
        rfl
      | false =>
        have : (checkM p ⟨shaM (progB p), l, List.replicate p.globals.toNat d_api_Just⟩ ⟨0, 0, 0⟩ ⟨0, 0, 0⟩).what = 0 := key.2 (by rw [hU]; decide)
        rw [this]
        rfl
    · rw [bind_some (digest_bad0 r1 he)]
      dsimp only
      rw [if_pos (neT he), (vecEq_range _ _).2 fun i hi => by rw [vput_in _ _ hi, vput_in _ _ hi]]
end Go.Bm.GoYtipjbmnfnmlkfaaDoor
