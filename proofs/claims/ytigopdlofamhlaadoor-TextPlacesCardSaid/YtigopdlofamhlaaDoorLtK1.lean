/- Programs that may be: nodes, and the searches for a fault. -/
import Derived.Test.YtigopdlofamhlaaDoorTT3
namespace Go.Bm.GoYtigopdlofamhlaaDoor
set_option autoImplicit false
set_option linter.unusedVariables false
set_option linter.unusedSimpArgs false
set_option maxRecDepth 100000
theorem bind_some {α β : Type} {x : Option α} {v : α} {k : α → Option β} (h : x = some v) : (bind x k) = k v := by rw [h]; rfl
theorem inc (i : Nat) (h : i ≤ 1000000000) : iAdd (i : Int) 1 = ((i + 1 : Nat) : Int) := by rw [iAdd_eq (by omega) (by omega)]; omega
theorem eqT {a b : Int} (h : a = b) : ((a : Int) == b) = true := by simp [h]
theorem eqF {a b : Int} (h : a ≠ b) : ¬ ((a : Int) == b) = true := by simp [h]
/-! ### nodes -/
theorem within_eq (n s : Int) : prog_within n s = some (decide (0 ≤ n ∧ n < s)) := by
  unfold prog_within
  by_cases h : n ≥ 0
  · rw [if_pos (decide_eq_true h)]
    congr 1
    rw [decide_eq_decide]
    omega
  · rw [if_neg (by simpa using h)]
    congr 1
    rw [eq_comm, decide_eq_false_iff_not]
    omega
structure NodeOk (p : api_Program) (x : api_Node) (n : Int) : Prop where
  kind : 0 ≤ x.kind ∧ x.kind ≤ 9
  glob : x.kind = 1 ∨ x.kind = 2 → 0 ≤ x.arg ∧ x.arg < p.globals
  lock : x.kind = 3 ∨ x.kind = 4 → 0 ≤ x.arg ∧ x.arg < p.locks
  spawn : x.kind = 5 → 0 ≤ x.arg ∧ x.arg < p.funcs.length ∧ 0 ≤ x.alt ∧ x.alt < p.slots
  join : x.kind = 6 → 0 ≤ x.arg ∧ x.arg < p.slots
  call : x.kind = 7 → 0 ≤ x.arg ∧ x.arg < p.funcs.length
  next : x.kind ≠ 9 → 0 ≤ x.next ∧ x.next < max n 1
  alt : x.kind = 8 → 0 ≤ x.alt ∧ x.alt < max n 1
theorem ref_l6 {a b c g l s : Int} {fs : List (List api_Node)} {n : Int} {row : ByteArray} {s0 s1 s2 : Int} (hz : row.size = 3) (h0 : alibiref05_size ⟨g, l, s, fs⟩ (byteAt row 0) n = some s0) (h1 : alibiref05_size ⟨g, l, s, fs⟩ (byteAt row 1) n = some s1) (h2 : alibiref05_size ⟨g, l, s, fs⟩ (byteAt row 2) n = some s2) :
    alibiref05_May_l6 [a, b, c] g l s fs n row 0 = some (if (0 ≤ a ∧ a < s0) ∧ (0 ≤ b ∧ b < s1) ∧ (0 ≤ c ∧ c < s2) then .x1 else .x0 false) := by
  have i1 : iAdd 0 1 = 1 := by rw [iAdd_eq (by omega) (by omega)]; rfl
  have i2 : iAdd 1 1 = 2 := by rw [iAdd_eq (by omega) (by omega)]; rfl
  have i3 : iAdd 2 1 = 3 := by rw [iAdd_eq (by omega) (by omega)]; rfl
  have e3 : alibiref05_May_l6 [a, b, c] g l s fs n row 3 = some .x1 := by rw [alibiref05_May_l6, if_neg (by decide)]
  have e2 : alibiref05_May_l6 [a, b, c] g l s fs n row 2 = some (if (0 ≤ c ∧ c < s2) then .x1 else .x0 false) := by
    rw [alibiref05_May_l6, if_pos (by decide), if_pos (by decide), if_pos (by rw [hz]; decide), bind_some (show alibiref05_size ⟨g, l, s, fs⟩ (byteAt row (Int.toNat 2)) n = some s2 from h2), if_pos (by simp), i3, e3]
    show (if decide (c < 0) = true then _ else if decide (c ≥ s2) = true then _ else _) = _
    by_cases c0 : c < 0
    · rw [if_pos (decide_eq_true c0), if_neg (by omega)]
    · rw [if_neg (by simpa using c0)]
      by_cases c1 : c ≥ s2
      · rw [if_pos (decide_eq_true c1), if_neg (by omega)]
      · rw [if_neg (by simpa using c1), if_pos (by omega)]
  have e1 : alibiref05_May_l6 [a, b, c] g l s fs n row 1 = some (if (0 ≤ b ∧ b < s1) ∧ (0 ≤ c ∧ c < s2) then .x1 else .x0 false) := by
    rw [alibiref05_May_l6, if_pos (by decide), if_pos (by decide), if_pos (by rw [hz]; decide), bind_some (show alibiref05_size ⟨g, l, s, fs⟩ (byteAt row (Int.toNat 1)) n = some s1 from h1), if_pos (by simp), i2, e2]
    show (if decide (b < 0) = true then _ else if decide (b ≥ s1) = true then _ else _) = _
    by_cases c0 : b < 0
    · rw [if_pos (decide_eq_true c0), if_neg (by omega)]
    · rw [if_neg (by simpa using c0)]
      by_cases c1 : b ≥ s1
      · rw [if_pos (decide_eq_true c1), if_neg (by omega)]
      · rw [if_neg (by simpa using c1)]
        congr 2
        rw [eq_iff_iff]
        omega
  rw [alibiref05_May_l6, if_pos (by decide), if_pos (by decide), if_pos (by rw [hz]; decide), bind_some (show alibiref05_size ⟨g, l, s, fs⟩ (byteAt row (Int.toNat 0)) n = some s0 from h0), if_pos (by simp), i1, e1]
  show (if decide (a < 0) = true then _ else if decide (a ≥ s0) = true then _ else _) = _
  by_cases c0 : a < 0
  · rw [if_pos (decide_eq_true c0), if_neg (by omega)]
  · rw [if_neg (by simpa using c0)]
    by_cases c1 : a ≥ s0
    · rw [if_pos (decide_eq_true c1), if_neg (by omega)]
    · rw [if_neg (by simpa using c1)]
      congr 2
      rw [eq_iff_iff]
      omega
/-- A node as both say it: the rows of the document, the fields of the program. -/
theorem may_row {p : api_Program} {x : api_Node} {n : Int} {row : ByteArray} {s0 s1 s2 a0 a1 a2 : Int} {ok : Bool} (hr : alibiref05_Row x.kind = some row) (hne : (ByteArray.toList row == ByteArray.toList (ByteArray.mk #[])) = false) (hz : row.size = 3)
    (h0 : alibiref05_size p (byteAt row 0) n = some s0) (h1 : alibiref05_size p (byteAt row 1) n = some s1) (h2 : alibiref05_size p (byteAt row 2) n = some s2) (hf : prog_fields p x.kind n = some (a0, a1, a2, ok))
    (hiff : (ok = true ∧ (0 ≤ x.arg ∧ x.arg < if 1 > a0 then 1 else a0) ∧ (0 ≤ x.next ∧ x.next < if 1 > a1 then 1 else a1) ∧ (0 ≤ x.alt ∧ x.alt < if 1 > a2 then 1 else a2)) ↔ ((0 ≤ x.arg ∧ x.arg < s0) ∧ (0 ≤ x.next ∧ x.next < s1) ∧ (0 ≤ x.alt ∧ x.alt < s2))) :
    ∃ b, prog_May p x n = some b ∧ alibiref05_May p x n = some b ∧ (b = true ↔ ((0 ≤ x.arg ∧ x.arg < s0) ∧ (0 ≤ x.next ∧ x.next < s1) ∧ (0 ≤ x.alt ∧ x.alt < s2))) := by
  refine ⟨decide ((0 ≤ x.arg ∧ x.arg < s0) ∧ (0 ≤ x.next ∧ x.next < s1) ∧ (0 ≤ x.alt ∧ x.alt < s2)), ?_, ?_, decide_eq_true_iff⟩
  · unfold prog_May
    rw [bind_some hf]
    simp only [within_eq, bind, Option.bind_some]
    by_cases ho : ok = true
    · rw [if_pos ho]
      by_cases c0 : (0 ≤ x.arg ∧ x.arg < if 1 > a0 then 1 else a0)
      · rw [if_pos (decide_eq_true c0)]
        by_cases c1 : (0 ≤ x.next ∧ x.next < if 1 > a1 then 1 else a1)
        · rw [if_pos (decide_eq_true c1)]
          congr 1
          rw [decide_eq_decide]
          exact ⟨fun h => hiff.1 ⟨ho, c0, c1, h⟩, fun h => (hiff.2 h).2.2.2⟩
        · rw [if_neg (by simpa using c1), decide_eq_false fun h => c1 (hiff.2 h).2.2.1]
      · rw [if_neg (by simpa using c0), decide_eq_false fun h => c0 (hiff.2 h).2.1]
    · rw [if_neg ho, decide_eq_false fun h => ho (hiff.2 h).1]
  · unfold alibiref05_May
    rw [bind_some hr, if_neg (by rw [hne]; decide), bind_some (ref_l6 hz h0 h1 h2)]
    by_cases c : (0 ≤ x.arg ∧ x.arg < s0) ∧ (0 ≤ x.next ∧ x.next < s1) ∧ (0 ≤ x.alt ∧ x.alt < s2)
    · rw [if_pos c, decide_eq_true c]
    · rw [if_neg c, decide_eq_false c]
theorem toList_loop (b : ByteArray) : ∀ (m i : Nat) (r : List UInt8), i + m = b.size → (ByteArray.toList.loop b i r).length = r.length + m
  | 0, i, r, h => by
    rw [ByteArray.toList.loop, if_neg (by omega)]
    simp
  | m + 1, i, r, h => by
    rw [ByteArray.toList.loop, if_pos (by omega), toList_loop b m (i + 1) _ (by omega)]
    simp; omega
theorem toList_len (b : ByteArray) : (ByteArray.toList b).length = b.size := by
  unfold ByteArray.toList
  rw [toList_loop b b.size 0 [] (by omega)]
  simp
theorem nonempty (b : ByteArray) (h : b.size ≠ 0) : (ByteArray.toList b == ByteArray.toList (ByteArray.mk #[])) = false := by
  rw [beq_eq_false_iff_ne]
  intro e
  have := congrArg List.length e
  rw [toList_len, toList_len] at this
  exact h this
theorem row_eq {k : Nat} {row : ByteArray} (hk : k < 10) (h : List.getD [(ByteArray.mk #[45, 110, 45]), (ByteArray.mk #[103, 110, 45]), (ByteArray.mk #[103, 110, 45]), (ByteArray.mk #[108, 110, 45]), (ByteArray.mk #[108, 110, 45]), (ByteArray.mk #[102, 110, 115]), (ByteArray.mk #[115, 110, 45]), (ByteArray.mk #[102, 110, 45]), (ByteArray.mk #[45, 110, 110]), (ByteArray.mk #[45, 45, 45])] k ByteArray.empty = row) : alibiref05_Row (k : Int) = some row := by
  unfold alibiref05_Row
  rw [if_neg (by simp only [decide_eq_true_eq]; omega), if_neg (by simp only [decide_eq_true_eq]; omega), if_pos (decide_eq_true (by omega)), if_pos (decide_eq_true (by simp only [List.length_cons, List.length_nil]; omega))]
  rw [show Int.toNat (k : Int) = k from by omega, h]
theorem may_eq (p : api_Program) (x : api_Node) (n : Int) : ∃ b, prog_May p x n = some b ∧ alibiref05_May p x n = some b ∧ (b = true → NodeOk p x n) := by
  by_cases hlt : x.kind < 0
  · refine ⟨false, ?_, ?_, fun h => by cases h⟩
    · unfold prog_May
      have hf : prog_fields p x.kind n = some (0, 0, 0, false) := by
        unfold prog_fields
        rw [if_neg (eqF (by omega)), if_neg (eqF (by omega)), if_neg (eqF (by omega)), if_neg (eqF (by omega)), if_neg (eqF (by omega)), if_neg (eqF (by omega)), if_neg (eqF (by omega)), if_neg (eqF (by omega)), if_neg (eqF (by omega)), if_neg (eqF (by omega))]
      rw [bind_some hf]
      rfl
    · unfold alibiref05_May alibiref05_Row
      rw [if_pos (decide_eq_true hlt), bind_some rfl, if_pos (by simp)]
  · by_cases hgt : x.kind > 9
    · refine ⟨false, ?_, ?_, fun h => by cases h⟩
      · unfold prog_May
        have hf : prog_fields p x.kind n = some (0, 0, 0, false) := by
          unfold prog_fields
          rw [if_neg (eqF (by omega)), if_neg (eqF (by omega)), if_neg (eqF (by omega)), if_neg (eqF (by omega)), if_neg (eqF (by omega)), if_neg (eqF (by omega)), if_neg (eqF (by omega)), if_neg (eqF (by omega)), if_neg (eqF (by omega)), if_neg (eqF (by omega))]
        rw [bind_some hf]
        rfl
      · unfold alibiref05_May alibiref05_Row
        rw [if_neg (by simpa using hlt), if_pos (decide_eq_true hgt), bind_some rfl, if_pos (by simp)]
    · obtain ⟨k, hk⟩ : ∃ k : Nat, x.kind = (k : Int) := ⟨x.kind.toNat, by omega⟩
      have h10 : k < 10 := by omega
      have hrow : alibiref05_Row x.kind = some (List.getD [(ByteArray.mk #[45, 110, 45]), (ByteArray.mk #[103, 110, 45]), (ByteArray.mk #[103, 110, 45]), (ByteArray.mk #[108, 110, 45]), (ByteArray.mk #[108, 110, 45]), (ByteArray.mk #[102, 110, 115]), (ByteArray.mk #[115, 110, 45]), (ByteArray.mk #[102, 110, 45]), (ByteArray.mk #[45, 110, 110]), (ByteArray.mk #[45, 45, 45])] k ByteArray.empty) := by rw [hk]; exact row_eq h10 rfl
      have hm : ∀ m : Int, (if 1 > m then 1 else m) = max m 1 := fun m => by split <;> omega
      have fin : ∀ {s0 s1 s2 : Int} (h : ∃ b, prog_May p x n = some b ∧ alibiref05_May p x n = some b ∧ (b = true ↔ ((0 ≤ x.arg ∧ x.arg < s0) ∧ (0 ≤ x.next ∧ x.next < s1) ∧ (0 ≤ x.alt ∧ x.alt < s2)))), (((0 ≤ x.arg ∧ x.arg < s0) ∧ (0 ≤ x.next ∧ x.next < s1) ∧ (0 ≤ x.alt ∧ x.alt < s2)) → NodeOk p x n) → ∃ b, prog_May p x n = some b ∧ alibiref05_May p x n = some b ∧ (b = true → NodeOk p x n) := fun ⟨b, h1, h2, h3⟩ h => ⟨b, h1, h2, fun hb => h (h3.1 hb)⟩
      match k, h10, hk, hrow with
      | 0, _, hk, hrow => exact fin (may_row hrow (nonempty _ (by decide)) rfl (s0 := 1) (s1 := if 1 > n then 1 else n) (s2 := 1) rfl rfl rfl (a0 := 0) (a1 := n) (a2 := 0) (ok := true) (by rw [hk]; rfl) (by simp only [hm, eq_self, true_and]; omega)) (fun h => by simp only [hm] at h; constructor <;> intros <;> omega)
      | 1, _, hk, hrow => exact fin (may_row hrow (nonempty _ (by decide)) rfl (s0 := p.globals) (s1 := if 1 > n then 1 else n) (s2 := 1) rfl rfl rfl (a0 := p.globals) (a1 := n) (a2 := 0) (ok := decide (p.globals > 0)) (by rw [hk]; rfl) (by simp only [hm, decide_eq_true_eq]; omega)) (fun h => by simp only [hm] at h; constructor <;> intros <;> omega)
      | 2, _, hk, hrow => exact fin (may_row hrow (nonempty _ (by decide)) rfl (s0 := p.globals) (s1 := if 1 > n then 1 else n) (s2 := 1) rfl rfl rfl (a0 := p.globals) (a1 := n) (a2 := 0) (ok := decide (p.globals > 0)) (by rw [hk]; rfl) (by simp only [hm, decide_eq_true_eq]; omega)) (fun h => by simp only [hm] at h; constructor <;> intros <;> omega)
      | 3, _, hk, hrow => exact fin (may_row hrow (nonempty _ (by decide)) rfl (s0 := p.locks) (s1 := if 1 > n then 1 else n) (s2 := 1) rfl rfl rfl (a0 := p.locks) (a1 := n) (a2 := 0) (ok := decide (p.locks > 0)) (by rw [hk]; rfl) (by simp only [hm, decide_eq_true_eq]; omega)) (fun h => by simp only [hm] at h; constructor <;> intros <;> omega)
      | 4, _, hk, hrow => exact fin (may_row hrow (nonempty _ (by decide)) rfl (s0 := p.locks) (s1 := if 1 > n then 1 else n) (s2 := 1) rfl rfl rfl (a0 := p.locks) (a1 := n) (a2 := 0) (ok := decide (p.locks > 0)) (by rw [hk]; rfl) (by simp only [hm, decide_eq_true_eq]; omega)) (fun h => by simp only [hm] at h; constructor <;> intros <;> omega)
      | 5, _, hk, hrow =>
        exact fin (may_row hrow (nonempty _ (by decide)) rfl (s0 := (p.funcs.length : Int)) (s1 := if 1 > n then 1 else n) (s2 := p.slots) rfl rfl rfl (a0 := (p.funcs.length : Int)) (a1 := n) (a2 := p.slots) (ok := decide (p.slots > 0 ∧ (p.funcs.length : Int) > 0)) (by
          rw [hk]
          show (if decide (p.slots > 0) = true then _ else _) = _
          by_cases c : p.slots > 0
          · rw [if_pos (decide_eq_true c)]; simp [c]
          · rw [if_neg (by simpa using c)]; simp [c]) (by simp only [hm, decide_eq_true_eq]; omega)) (fun h => by simp only [hm] at h; constructor <;> intros <;> omega)
      | 6, _, hk, hrow => exact fin (may_row hrow (nonempty _ (by decide)) rfl (s0 := p.slots) (s1 := if 1 > n then 1 else n) (s2 := 1) rfl rfl rfl (a0 := p.slots) (a1 := n) (a2 := 0) (ok := decide (p.slots > 0)) (by rw [hk]; rfl) (by simp only [hm, decide_eq_true_eq]; omega)) (fun h => by simp only [hm] at h; constructor <;> intros <;> omega)
      | 7, _, hk, hrow => exact fin (may_row hrow (nonempty _ (by decide)) rfl (s0 := (p.funcs.length : Int)) (s1 := if 1 > n then 1 else n) (s2 := 1) rfl rfl rfl (a0 := (p.funcs.length : Int)) (a1 := n) (a2 := 0) (ok := decide ((p.funcs.length : Int) > 0)) (by rw [hk]; rfl) (by simp only [hm, decide_eq_true_eq]; omega)) (fun h => by simp only [hm] at h; constructor <;> intros <;> omega)
      | 8, _, hk, hrow => exact fin (may_row hrow (nonempty _ (by decide)) rfl (s0 := 1) (s1 := if 1 > n then 1 else n) (s2 := if 1 > n then 1 else n) rfl rfl rfl (a0 := 0) (a1 := n) (a2 := n) (ok := true) (by rw [hk]; rfl) (by simp only [hm, eq_self, true_and]; omega)) (fun h => by simp only [hm] at h; constructor <;> intros <;> omega)
      | 9, _, hk, hrow => exact fin (may_row hrow (nonempty _ (by decide)) rfl (s0 := 1) (s1 := 1) (s2 := 1) rfl rfl rfl (a0 := 0) (a1 := 0) (a2 := 0) (ok := true) (by rw [hk]; rfl) (by simp only [hm, eq_self, true_and]; omega)) (fun h => by constructor <;> intros <;> omega)
end Go.Bm.GoYtigopdlofamhlaaDoor
