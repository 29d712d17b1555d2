/- Who is begun. -/
import Derived.Test.YtldkmmnffjdliaaMLawSec
namespace Go.Bm.GoYtldkmmnffjdliaa
set_option autoImplicit false
set_option linter.unusedVariables false
set_option linter.unusedSimpArgs false
set_option maxRecDepth 100000
/-! ### who is begun -/
def Begun (fs : FS) (f : Nat) : Prop := ∃ g, g < fs.length ∧ ∃ j, j < (List.getD fs g []).length ∧ (List.getD (List.getD fs g []) j d_api_Node).kind = 5 ∧ (List.getD (List.getD fs g []) j d_api_Node).arg = (f : Int)
theorem begun_l3 (fs : FS) (hn : fs.length ≤ 65536) (hlen : ∀ f, (List.getD fs f []).length ≤ 65536) : ∀ (m i : Nat) (x : W32), i + m = fs.length → ∃ x', graph_Begun_l3 x fs (fs.length : Int) (i : Int) = some x' ∧ ∀ b, x'.getLsbD b = true ↔ x.getLsbD b = true ∨ (b < 32 ∧ ∃ g, i ≤ g ∧ g < fs.length ∧ ∃ j, j < (List.getD fs g []).length ∧ (List.getD (List.getD fs g []) j d_api_Node).kind = 5 ∧ (List.getD (List.getD fs g []) j d_api_Node).arg = (b : Int))
  | 0, i, x, h => by
    rw [graph_Begun_l3, if_neg (by simp only [decide_eq_true_eq]; omega)]
    exact ⟨x, rfl, fun b => ⟨.inl, fun h => h.elim (fun x => x) fun ⟨_, g, h1, h2, _⟩ => by omega⟩⟩
  | m + 1, i, x, h => by
    obtain ⟨y, q1, q2⟩ := named_eq (List.getD fs i []) 5 (hlen i)
    rw [graph_Begun_l3, if_pos (decide_eq_true (by omega)), if_pos (decide_eq_true (by omega)), if_pos (decide_eq_true (by omega)), Int.toNat_natCast, bind_some q1, inc i (by omega)]
    obtain ⟨x', g1, g2⟩ := begun_l3 fs hn hlen m (i + 1) (x ||| y) (by omega)
    refine ⟨x', g1, fun b => ?_⟩
    rw [g2, BitVec.getLsbD_or, Bool.or_eq_true, q2]
    constructor
    · rintro ((h1 | ⟨h1, h2⟩) | ⟨h1, g, h2, h3⟩)
      · exact .inl h1
      · exact .inr ⟨h1, i, Nat.le_refl _, by omega, h2⟩
      · exact .inr ⟨h1, g, by omega, h3⟩
    · rintro (h1 | ⟨h1, g, h2, h3, h4⟩)
      · exact .inl (.inl h1)
      · rcases Nat.eq_or_lt_of_le h2 with rfl | h5
        · exact .inl (.inr ⟨h1, h4⟩)
        · exact .inr ⟨h1, g, h5, h3, h4⟩
theorem begun_eq (p : api_Program) (hg : Good p) : ∃ x, graph_Begun p = some x ∧ ∀ b, b < 32 → (x.getLsbD b = true ↔ Begun p.funcs b) := by
  have hn := hg.funcs.2
  obtain ⟨x, q1, q2⟩ := begun_l3 p.funcs (by omega) (fun f => by have := hg.le f; omega) p.funcs.length 0 0#32 (by omega)
  rw [show ((0 : Nat) : Int) = 0 from rfl] at q1
  unfold graph_Begun
  rw [bind_some q1]
  refine ⟨x, rfl, fun b hb => ?_⟩
  rw [q2]
  constructor
  · rintro (h1 | ⟨_, g, _, h2, h3⟩)
    · simp at h1
    · exact ⟨g, h2, h3⟩
  · rintro ⟨g, h2, h3⟩
    exact .inr ⟨hb, g, Nat.zero_le _, h2, h3⟩
theorem refbegun_l6 (t : List Int) (ht : t.length ≤ 65536) (x1 x2 x3 : Int) (x4 : FS) (f : Nat) (x6 : Int) : ∀ (m i : Nat), i + m = t.length → alibiref15_Begun_l6 t x1 x2 x3 x4 (f : Int) x6 (i : Int) = some (if (f : Int) ∈ t.drop i then .x0 true else .x1)
  | 0, i, h => by
    rw [alibiref15_Begun_l6, if_neg (by simp only [decide_eq_true_eq]; omega), List.drop_eq_nil_of_le (by omega)]
    rfl
  | m + 1, i, h => by
    have hlt : i < t.length := by omega
    have hd : t.drop i = t[i] :: t.drop (i + 1) := List.drop_eq_getElem_cons hlt
    have hg : List.getD t i 0 = t[i] := by simp [List.getD, hlt]
    rw [alibiref15_Begun_l6, if_pos (decide_eq_true (by omega)), if_pos (decide_eq_true (by omega)), if_pos (decide_eq_true (by omega)), Int.toNat_natCast, hg, hd, inc i (by omega), refbegun_l6 t ht x1 x2 x3 x4 f x6 m (i + 1) (by omega)]
    by_cases h1 : t[i] = (f : Int)
    · rw [if_pos (eqT h1), if_pos (by rw [h1]; simp)]
    · rw [if_neg (eqF h1)]
      have : ((f : Int) ∈ t[i] :: t.drop (i + 1)) ↔ (f : Int) ∈ t.drop (i + 1) := by
        rw [List.mem_cons]
        exact ⟨fun h => h.resolve_left fun e => h1 e.symm, .inr⟩
      simp only [this]
theorem refbegun_l2 (p : api_Program) (hg : Good p) (f : Nat) (hf : f < 32) : ∀ (m i : Nat), i + m = p.funcs.length → ∃ b, alibiref15_Begun_l2 p.globals p.locks p.slots p.funcs (f : Int) (i : Int) = some (if b = true then .x0 true else .x1) ∧ (b = true ↔ ∃ g, i ≤ g ∧ g < p.funcs.length ∧ ∃ j, j < (List.getD p.funcs g []).length ∧ (List.getD (List.getD p.funcs g []) j d_api_Node).kind = 5 ∧ (List.getD (List.getD p.funcs g []) j d_api_Node).arg = (f : Int))
  | 0, i, h => by
    rw [alibiref15_Begun_l2, if_neg (by simp only [decide_eq_true_eq]; omega)]
    exact ⟨false, rfl, ⟨(fun h => by cases h), fun ⟨g, h1, h2, _⟩ => by omega⟩⟩
  | m + 1, i, h => by
    have hn := hg.funcs.2
    have hle := hg.le i
    obtain ⟨t, q1, q2, q3⟩ := refnamed_eq (List.getD p.funcs i []) (by omega) 5
    have h6 := refbegun_l6 t (by have := q2.length_le (by omega); omega) p.globals p.locks p.slots p.funcs f (i : Int) t.length 0 (by omega)
    rw [show ((0 : Nat) : Int) = 0 from rfl, List.drop_zero] at h6
    rw [alibiref15_Begun_l2, if_pos (decide_eq_true (by omega)), if_pos (decide_eq_true (by omega)), if_pos (decide_eq_true (by omega)), Int.toNat_natCast, bind_some q1, bind_some h6, inc i (by omega)]
    by_cases h1 : (f : Int) ∈ t
    · rw [if_pos h1]
      exact ⟨true, rfl, ⟨fun _ => ⟨i, Nat.le_refl _, by omega, ((q3 f).1 h1).2⟩, fun _ => rfl⟩⟩
    · rw [if_neg h1]
      obtain ⟨b, g1, g2⟩ := refbegun_l2 p hg f hf m (i + 1) (by omega)
      refine ⟨b, g1, ?_⟩
      rw [g2]
      constructor
      · rintro ⟨g, h2, h3⟩; exact ⟨g, by omega, h3⟩
      · rintro ⟨g, h2, h3, h4⟩
        rcases Nat.eq_or_lt_of_le h2 with rfl | h5
        · exact absurd ((q3 f).2 ⟨hf, h4⟩) h1
        · exact ⟨g, h5, h3, h4⟩
theorem refbegun_eq (p : api_Program) (hg : Good p) (f : Nat) (hf : f < 32) : ∃ b, alibiref15_Begun p (f : Int) = some b ∧ (b = true ↔ Begun p.funcs f) := by
  obtain ⟨b, q1, q2⟩ := refbegun_l2 p hg f hf p.funcs.length 0 (by omega)
  rw [show ((0 : Nat) : Int) = 0 from rfl] at q1
  unfold alibiref15_Begun
  rw [bind_some q1]
  refine ⟨b, by cases b <;> rfl, ?_⟩
  rw [q2]
  exact ⟨fun ⟨g, _, h2, h3⟩ => ⟨g, h2, h3⟩, fun ⟨g, h2, h3⟩ => ⟨g, Nat.zero_le _, h2, h3⟩⟩
end Go.Bm.GoYtldkmmnffjdliaa
