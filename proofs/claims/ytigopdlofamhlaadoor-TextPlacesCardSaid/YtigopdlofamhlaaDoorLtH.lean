/- TextParses, TextPlaces: plain laws. -/
import Derived.Test.YtigopdlofamhlaaDoorLtG
namespace Go.Bm.GoYtigopdlofamhlaaDoor
open Go.Proofs
set_option autoImplicit false
set_option linter.unusedVariables false
set_option linter.unusedSimpArgs false
section
variable (fs : FS') (a b c a' b' c' : Int)
theorem psame_l9 (f : Nat) (hf : f < fs.length) (hl : (fs.getD f []).length ≤ 100000) : ∀ (m i : Nat), i + m = (fs.getD f []).length → alibiref05_Same_l9 a b c fs a' b' c' fs (f : Int) (i : Int) = some .x1
  | 0, i, h => by
    rw [alibiref05_Same_l9, if_pos (decide_eq_true (by omega)), if_pos (decide_eq_true (by omega)), Int.toNat_natCast, if_neg (by rw [decide_eq_true_eq]; omega)]
  | m + 1, i, h => by
    rw [alibiref05_Same_l9, if_pos (decide_eq_true (by omega)), if_pos (decide_eq_true (by omega)), Int.toNat_natCast, if_pos (decide_eq_true (by omega)), if_pos (decide_eq_true (by omega)), if_pos (decide_eq_true (by omega)), if_pos (decide_eq_true (by omega)), if_pos (decide_eq_true (by omega)), Int.toNat_natCast, if_neg (by simp), inc _ (by omega)]
    exact psame_l9 f hf hl m (i + 1) (by omega)
theorem psame_l4 (hn : fs.length ≤ 100000) (hl : ∀ f, (fs.getD f []).length ≤ 100000) : ∀ (m i : Nat), i + m = fs.length → alibiref05_Same_l4 a b c fs a' b' c' fs (i : Int) = some .x1
  | 0, i, h => by
    rw [alibiref05_Same_l4, if_neg (by rw [decide_eq_true_eq]; omega)]
  | m + 1, i, h => by
    rw [alibiref05_Same_l4, if_pos (decide_eq_true (by omega)), if_pos (decide_eq_true (by omega)), if_pos (decide_eq_true (by omega)), if_pos (decide_eq_true (by omega)), Int.toNat_natCast, if_neg (by simp), bind_some (show alibiref05_Same_l9 a b c fs a' b' c' fs (i : Int) 0 = _ from psame_l9 fs a b c a' b' c' i (by omega) (hl i) (fs.getD i []).length 0 (by omega))]
    dsimp only
    rw [inc _ (by omega)]
    exact psame_l4 hn hl m (i + 1) (by omega)
end
theorem psame (p : api_Program) (hn : p.funcs.length ≤ 100000) (hl : ∀ f, (p.funcs.getD f []).length ≤ 100000) : alibiref05_Same p p = some true := by
  unfold alibiref05_Same
  rw [if_neg (by simp), if_neg (by simp), if_neg (by simp), if_neg (by simp)]
  have e : alibiref05_Same_l4 p.globals p.locks p.slots p.funcs p.globals p.locks p.slots p.funcs 0 = some .x1 := psame_l4 p.funcs _ _ _ _ _ _ hn hl p.funcs.length 0 (by omega)
  rw [bind_some e]
theorem textParses (s : ByteArray) : alibilaw08_TextParses s = some true := by
  unfold alibilaw08_TextParses
  rw [bind_some awake08, if_neg (by decide)]
  by_cases h : (s.size : Int) > 66000
  · rw [if_pos (decide_eq_true h), bind_some awake08]
  · rw [if_neg (by rw [decide_eq_true_eq]; exact h)]
    obtain ⟨r, e1, e2, e3⟩ := parse_eq s
    rw [bind_some e1, bind_some e2, if_pos (by simp), if_pos (by simp)]
    have hs : alibiref05_Same (api_Program.mk r.1 r.2.1 r.2.2.1 r.2.2.2.2.2) (api_Program.mk r.1 r.2.1 r.2.2.1 r.2.2.2.2.2) = some true := by
      rcases e3 with ⟨_, _, hg⟩ | ⟨_, _, _, _, hf, _⟩
      · exact psame _ (by have := hg.funcs.2; omega) (fun f => by have := hg.le f; omega)
      · exact psame _ (by show r.2.2.2.2.2.length ≤ 100000; rw [hf]; simp) (fun f => by show (r.2.2.2.2.2.getD f []).length ≤ 100000; rw [hf]; simp)
    rw [bind_some hs]
theorem places_l5 (l : List UInt8) (hl : l.length ≤ 66000) : ∀ (r pre : List UInt8) (n : Nat), l = pre ++ r → n ≤ pre.length + 1 → alibilaw08_TextPlaces_l5 (bl l) (n : Int) (pre.length : Int) = some (((n + r.count 10 : Nat) : Int))
  | [], pre, n, h, hn => by
    rw [alibilaw08_TextPlaces_l5, if_neg (by rw [bl_size, h]; simp)]
    rfl
  | x :: r, pre, n, h, hn => by
    have hlen : l.length = pre.length + r.length + 1 := by rw [h]; simp; omega
    have hp : pre.length < l.length := by omega
    have hx : l[pre.length]'hp = x := by
      subst h
      exact at_pre pre r x _
    have hpl : (pre ++ [x]).length = pre.length + 1 := by simp
    rw [alibilaw08_TextPlaces_l5, if_pos (decide_eq_true (by rw [bl_size]; omega)), if_pos (decide_eq_true (by omega)), if_pos (decide_eq_true (by rw [bl_size]; omega)), Int.toNat_natCast, byteAt_bl l _ hp, hx, List.count_cons]
    by_cases hb : (x == 10) = true
    · rw [if_pos (by rw [eq_of_beq hb]; rfl), if_pos hb, inc _ (by omega), inc _ (by omega)]
      have := places_l5 l hl r (pre ++ [x]) (n + 1) (by rw [h]; simp) (by omega)
      rw [hpl] at this
      rw [this]
      congr 2
      omega
    · rw [if_neg (by
        intro he
        apply hb
        exact beq_iff_eq.2 (UInt8.toBitVec_inj.1 (eq_of_beq he))), if_neg hb, inc _ (by omega)]
      have := places_l5 l hl r (pre ++ [x]) n (by rw [h]; simp) (by omega)
      rw [hpl] at this
      rw [this]
      rfl
theorem textPlaces (s : ByteArray) : alibilaw08_TextPlaces s = some true := by
  unfold alibilaw08_TextPlaces
  rw [bind_some awake08, if_neg (by decide)]
  by_cases h : (s.size : Int) > 66000
  · rw [if_pos (decide_eq_true h), bind_some awake08]
  · rw [if_neg (by rw [decide_eq_true_eq]; exact h)]
    obtain ⟨r, e1, e2, e3⟩ := parse_eq s
    have e4 : alibilaw08_TextPlaces_l5 s 1 0 = _ := places_l5 s.data.toList (by have : s.data.toList.length = s.size := rfl; omega) s.data.toList [] 1 rfl (by omega)
    rw [bind_some e4, bind_some e1]
    rcases e3 with ⟨h1, h2, hg⟩ | ⟨h1, _, _, _, hf, h2⟩
    · have := hg.funcs.1
      rw [if_pos (by rw [h1]; rfl), if_pos (by rw [h2]; rfl), decide_eq_true (show (((r.2.2.2.2.2.length : Nat) : Int)) > 0 by have : 0 < r.2.2.2.2.2.length := hg.funcs.1; omega)]
    · rw [if_neg (by simpa using h1), if_pos (by rw [hf]; rfl)]
      rcases h2 with h2 | ⟨h2, i, h3, h4⟩
      · rw [if_pos (decide_eq_true (by rw [h2]; omega)), if_pos (decide_eq_true (by rw [h2]; omega)), if_pos (by rw [h2]; rfl)]
      · rw [if_pos (decide_eq_true (by rw [h4]; omega)), if_pos (decide_eq_true (by rw [h4]; omega)), if_neg (by rw [h4]; simp; omega), h2]
        rfl
end Go.Bm.GoYtigopdlofamhlaaDoor
