/- Laws of what the claim reaches. -/
import Derived.Test.YtdifolgbppffpaaDoorDNc
namespace Go.Bm.GoYtdifolgbppffpaaDoor
set_option autoImplicit false
set_option linter.unusedVariables false
set_option linter.unusedSimpArgs false
set_option maxRecDepth 100000
theorem bind_some {α β : Type} {x : Option α} {v : α} {k : α → Option β} (h : x = some v) : (bind x k) = k v := by rw [h]; rfl
theorem inc (i : Nat) (h : i ≤ 1000000000) : iAdd (i : Int) 1 = ((i + 1 : Nat) : Int) := by rw [iAdd_eq (by omega) (by omega)]; omega
theorem eqT {a b : Int} (h : a = b) : ((a : Int) == b) = true := by simp [h]
theorem eqF {a b : Int} (h : a ≠ b) : ¬ ((a : Int) == b) = true := by simp [h]
theorem within_eq (n s : Int) : prog_within n s = some (decide (0 ≤ n ∧ n < s)) := by
  unfold prog_within
  by_cases h : n ≥ 0
  · rw [if_pos (decide_eq_true h)]
    congr 1
    rw [decide_eq_decide]
    omega
  · rw [if_neg (by simpa using h)]
    congr 1
    rw [eq_comm, decide_eq_false_iff_not]
    omega
structure NodeOk (p : api_Program) (x : api_Node) (n : Int) : Prop where
  kind : 0 ≤ x.kind ∧ x.kind ≤ 9
  glob : x.kind = 1 ∨ x.kind = 2 → 0 ≤ x.arg ∧ x.arg < p.globals
  lock : x.kind = 3 ∨ x.kind = 4 → 0 ≤ x.arg ∧ x.arg < p.locks
  spawn : x.kind = 5 → 0 ≤ x.arg ∧ x.arg < p.funcs.length ∧ 0 ≤ x.alt ∧ x.alt < p.slots
  join : x.kind = 6 → 0 ≤ x.arg ∧ x.arg < p.slots
  call : x.kind = 7 → 0 ≤ x.arg ∧ x.arg < p.funcs.length
  next : x.kind ≠ 9 → 0 ≤ x.next ∧ x.next < max n 1
  alt : x.kind = 8 → 0 ≤ x.alt ∧ x.alt < max n 1
theorem ref_l6 {a b c g l s : Int} {fs : List (List api_Node)} {n : Int} {row : ByteArray} {s0 s1 s2 : Int} (hz : row.size = 3) (h0 : alibiref05_size ⟨g, l, s, fs⟩ (byteAt row 0) n = some s0) (h1 : alibiref05_size ⟨g, l, s, fs⟩ (byteAt row 1) n = some s1) (h2 : alibiref05_size ⟨g, l, s, fs⟩ (byteAt row 2) n = some s2) :
    alibiref05_May_l6 [a, b, c] g l s fs n row 0 = some (if (0 ≤ a ∧ a < s0) ∧ (0 ≤ b ∧ b < s1) ∧ (0 ≤ c ∧ c < s2) then .x1 else .x0 false) := by
  have i1 : iAdd 0 1 = 1 := by rw [iAdd_eq (by omega) (by omega)]; rfl
  have i2 : iAdd 1 1 = 2 := by rw [iAdd_eq (by omega) (by omega)]; rfl
  have i3 : iAdd 2 1 = 3 := by rw [iAdd_eq (by omega) (by omega)]; rfl
  have e3 : alibiref05_May_l6 [a, b, c] g l s fs n row 3 = some .x1 := by rw [alibiref05_May_l6, if_neg (by decide)]
  have e2 : alibiref05_May_l6 [a, b, c] g l s fs n row 2 = some (if (0 ≤ c ∧ c < s2) then .x1 else .x0 false) := by
    rw [alibiref05_May_l6, if_pos (by decide), if_pos (by decide), if_pos (by rw [hz]; decide), bind_some (show alibiref05_size ⟨g, l, s, fs⟩ (byteAt row (Int.toNat 2)) n = some s2 from h2), if_pos (by simp), i3, e3]
    show (if decide (c < 0) = true then _ else if decide (c ≥ s2) = true then _ else _) = _
    by_cases c0 : c < 0
    · rw [if_pos (decide_eq_true c0), if_neg (by omega)]
    · rw [if_neg (by simpa using c0)]
      by_cases c1 : c ≥ s2
      · rw [if_pos (decide_eq_true c1), if_neg (by omega)]
      · rw [if_neg (by simpa using c1), if_pos (by omega)]
  have e1 : alibiref05_May_l6 [a, b, c] g l s fs n row 1 = some (if (0 ≤ b ∧ b < s1) ∧ (0 ≤ c ∧ c < s2) then .x1 else .x0 false) := by
    rw [alibiref05_May_l6, if_pos (by decide), if_pos (by decide), if_pos (by rw [hz]; decide), bind_some (show alibiref05_size ⟨g, l, s, fs⟩ (byteAt row (Int.toNat 1)) n = some s1 from h1), if_pos (by simp), i2, e2]
    show (if decide (b < 0) = true then _ else if decide (b ≥ s1) = true then _ else _) = _
    by_cases c0 : b < 0
    · rw [if_pos (decide_eq_true c0), if_neg (by omega)]
    · rw [if_neg (by simpa using c0)]
      by_cases c1 : b ≥ s1
      · rw [if_pos (decide_eq_true c1), if_neg (by omega)]
      · rw [if_neg (by simpa using c1)]
        congr 2
        rw [eq_iff_iff]
        omega
  rw [alibiref05_May_l6, if_pos (by decide), if_pos (by decide), if_pos (by rw [hz]; decide), bind_some (show alibiref05_size ⟨g, l, s, fs⟩ (byteAt row (Int.toNat 0)) n = some s0 from h0), if_pos (by simp), i1, e1]
  show (if decide (a < 0) = true then _ else if decide (a ≥ s0) = true then _ else _) = _
  by_cases c0 : a < 0
  · rw [if_pos (decide_eq_true c0), if_neg (by omega)]
  · rw [if_neg (by simpa using c0)]
    by_cases c1 : a ≥ s0
    · rw [if_pos (decide_eq_true c1), if_neg (by omega)]
    · rw [if_neg (by simpa using c1)]
      congr 2
      rw [eq_iff_iff]
      omega
/-- A node as both say it: the rows of the document, the fields of the program. -/
theorem may_row {p : api_Program} {x : api_Node} {n : Int} {row : ByteArray} {s0 s1 s2 a0 a1 a2 : Int} {ok : Bool} (hr : alibiref05_Row x.kind = some row) (hne : (ByteArray.toList row == ByteArray.toList (ByteArray.mk #[])) = false) (hz : row.size = 3)
    (h0 : alibiref05_size p (byteAt row 0) n = some s0) (h1 : alibiref05_size p (byteAt row 1) n = some s1) (h2 : alibiref05_size p (byteAt row 2) n = some s2) (hf : prog_fields p x.kind n = some (a0, a1, a2, ok))
    (hiff : (ok = true ∧ (0 ≤ x.arg ∧ x.arg < if 1 > a0 then 1 else a0) ∧ (0 ≤ x.next ∧ x.next < if 1 > a1 then 1 else a1) ∧ (0 ≤ x.alt ∧ x.alt < if 1 > a2 then 1 else a2)) ↔ ((0 ≤ x.arg ∧ x.arg < s0) ∧ (0 ≤ x.next ∧ x.next < s1) ∧ (0 ≤ x.alt ∧ x.alt < s2))) :
    ∃ b, prog_May p x n = some b ∧ alibiref05_May p x n = some b ∧ (b = true ↔ ((0 ≤ x.arg ∧ x.arg < s0) ∧ (0 ≤ x.next ∧ x.next < s1) ∧ (0 ≤ x.alt ∧ x.alt < s2))) := by
  refine ⟨decide ((0 ≤ x.arg ∧ x.arg < s0) ∧ (0 ≤ x.next ∧ x.next < s1) ∧ (0 ≤ x.alt ∧ x.alt < s2)), ?_, ?_, decide_eq_true_iff⟩
  · unfold prog_May
    rw [bind_some hf]
    simp only [within_eq, bind, Option.bind_some]
    by_cases ho : ok = true
    · rw [if_pos ho]
      by_cases c0 : (0 ≤ x.arg ∧ x.arg < if 1 > a0 then 1 else a0)
      · rw [if_pos (decide_eq_true c0)]
        by_cases c1 : (0 ≤ x.next ∧ x.next < if 1 > a1 then 1 else a1)
        · rw [if_pos (decide_eq_true c1)]
          congr 1
          rw [decide_eq_decide]
          exact ⟨fun h => hiff.1 ⟨ho, c0, c1, h⟩, fun h => (hiff.2 h).2.2.2⟩
        · rw [if_neg (by simpa using c1), decide_eq_false fun h => c1 (hiff.2 h).2.2.1]
      · rw [if_neg (by simpa using c0), decide_eq_false fun h => c0 (hiff.2 h).2.1]
    · rw [if_neg ho, decide_eq_false fun h => ho (hiff.2 h).1]
  · unfold alibiref05_May
    rw [bind_some hr, if_neg (by rw [hne]; decide), bind_some (ref_l6 hz h0 h1 h2)]
    by_cases c : (0 ≤ x.arg ∧ x.arg < s0) ∧ (0 ≤ x.next ∧ x.next < s1) ∧ (0 ≤ x.alt ∧ x.alt < s2)
    · rw [if_pos c, decide_eq_true c]
    · rw [if_neg c, decide_eq_false c]
theorem toList_loop (b : ByteArray) : ∀ (m i : Nat) (r : List UInt8), i + m = b.size → (ByteArray.toList.loop b i r).length = r.length + m
  | 0, i, r, h => by
    rw [ByteArray.toList.loop, if_neg (by omega)]
    simp
  | m + 1, i, r, h => by
    rw [ByteArray.toList.loop, if_pos (by omega), toList_loop b m (i + 1) _ (by omega)]
    simp; omega
theorem toList_len (b : ByteArray) : (ByteArray.toList b).length = b.size := by
  unfold ByteArray.toList
  rw [toList_loop b b.size 0 [] (by omega)]
  simp
theorem nonempty (b : ByteArray) (h : b.size ≠ 0) : (ByteArray.toList b == ByteArray.toList (ByteArray.mk #[])) = false := by
  rw [beq_eq_false_iff_ne]
  intro e
  have := congrArg List.length e
  rw [toList_len, toList_len] at this
  exact h this
theorem row_eq {k : Nat} {row : ByteArray} (hk : k < 10) (h : List.getD [(ByteArray.mk #[45, 110, 45]), (ByteArray.mk #[103, 110, 45]), (ByteArray.mk #[103, 110, 45]), (ByteArray.mk #[108, 110, 45]), (ByteArray.mk #[108, 110, 45]), (ByteArray.mk #[102, 110, 115]), (ByteArray.mk #[115, 110, 45]), (ByteArray.mk #[102, 110, 45]), (ByteArray.mk #[45, 110, 110]), (ByteArray.mk #[45, 45, 45])] k ByteArray.empty = row) : alibiref05_Row (k : Int) = some row := by
  unfold alibiref05_Row
  rw [if_neg (by simp only [decide_eq_true_eq]; omega), if_neg (by simp only [decide_eq_true_eq]; omega), if_pos (decide_eq_true (by omega)), if_pos (decide_eq_true (by simp only [List.length_cons, List.length_nil]; omega))]
  rw [show Int.toNat (k : Int) = k from by omega, h]
theorem may_eq (p : api_Program) (x : api_Node) (n : Int) : ∃ b, prog_May p x n = some b ∧ alibiref05_May p x n = some b ∧ (b = true → NodeOk p x n) := by
  by_cases hlt : x.kind < 0
  · refine ⟨false, ?_, ?_, fun h => by cases h⟩
    · unfold prog_May
      have hf : prog_fields p x.kind n = some (0, 0, 0, false) := by
        unfold prog_fields
        rw [if_neg (eqF (by omega)), if_neg (eqF (by omega)), if_neg (eqF (by omega)), if_neg (eqF (by omega)), if_neg (eqF (by omega)), if_neg (eqF (by omega)), if_neg (eqF (by omega)), if_neg (eqF (by omega)), if_neg (eqF (by omega)), if_neg (eqF (by omega))]
      rw [bind_some hf]
      rfl
    · unfold alibiref05_May alibiref05_Row
      rw [if_pos (decide_eq_true hlt), bind_some rfl, if_pos (by simp)]
  · by_cases hgt : x.kind > 9
    · refine ⟨false, ?_, ?_, fun h => by cases h⟩
      · unfold prog_May
        have hf : prog_fields p x.kind n = some (0, 0, 0, false) := by
          unfold prog_fields
          rw [if_neg (eqF (by omega)), if_neg (eqF (by omega)), if_neg (eqF (by omega)), if_neg (eqF (by omega)), if_neg (eqF (by omega)), if_neg (eqF (by omega)), if_neg (eqF (by omega)), if_neg (eqF (by omega)), if_neg (eqF (by omega)), if_neg (eqF (by omega))]
        rw [bind_some hf]
        rfl
      · unfold alibiref05_May alibiref05_Row
        rw [if_neg (by simpa using hlt), if_pos (decide_eq_true hgt), bind_some rfl, if_pos (by simp)]
    · obtain ⟨k, hk⟩ : ∃ k : Nat, x.kind = (k : Int) := ⟨x.kind.toNat, by omega⟩
      have h10 : k < 10 := by omega
      have hrow : alibiref05_Row x.kind = some (List.getD [(ByteArray.mk #[45, 110, 45]), (ByteArray.mk #[103, 110, 45]), (ByteArray.mk #[103, 110, 45]), (ByteArray.mk #[108, 110, 45]), (ByteArray.mk #[108, 110, 45]), (ByteArray.mk #[102, 110, 115]), (ByteArray.mk #[115, 110, 45]), (ByteArray.mk #[102, 110, 45]), (ByteArray.mk #[45, 110, 110]), (ByteArray.mk #[45, 45, 45])] k ByteArray.empty) := by rw [hk]; exact row_eq h10 rfl
      have hm : ∀ m : Int, (if 1 > m then 1 else m) = max m 1 := fun m => by split <;> omega
      have fin : ∀ {s0 s1 s2 : Int} (h : ∃ b, prog_May p x n = some b ∧ alibiref05_May p x n = some b ∧ (b = true ↔ ((0 ≤ x.arg ∧ x.arg < s0) ∧ (0 ≤ x.next ∧ x.next < s1) ∧ (0 ≤ x.alt ∧ x.alt < s2)))), (((0 ≤ x.arg ∧ x.arg < s0) ∧ (0 ≤ x.next ∧ x.next < s1) ∧ (0 ≤ x.alt ∧ x.alt < s2)) → NodeOk p x n) → ∃ b, prog_May p x n = some b ∧ alibiref05_May p x n = some b ∧ (b = true → NodeOk p x n) := fun ⟨b, h1, h2, h3⟩ h => ⟨b, h1, h2, fun hb => h (h3.1 hb)⟩
      match k, h10, hk, hrow with
      | 0, _, hk, hrow => exact fin (may_row hrow (nonempty _ (by decide)) rfl (s0 := 1) (s1 := if 1 > n then 1 else n) (s2 := 1) rfl rfl rfl (a0 := 0) (a1 := n) (a2 := 0) (ok := true) (by rw [hk]; rfl) (by simp only [hm, eq_self, true_and]; omega)) (fun h => by simp only [hm] at h; constructor <;> intros <;> omega)
      | 1, _, hk, hrow => exact fin (may_row hrow (nonempty _ (by decide)) rfl (s0 := p.globals) (s1 := if 1 > n then 1 else n) (s2 := 1) rfl rfl rfl (a0 := p.globals) (a1 := n) (a2 := 0) (ok := decide (p.globals > 0)) (by rw [hk]; rfl) (by simp only [hm, decide_eq_true_eq]; omega)) (fun h => by simp only [hm] at h; constructor <;> intros <;> omega)
      | 2, _, hk, hrow => exact fin (may_row hrow (nonempty _ (by decide)) rfl (s0 := p.globals) (s1 := if 1 > n then 1 else n) (s2 := 1) rfl rfl rfl (a0 := p.globals) (a1 := n) (a2 := 0) (ok := decide (p.globals > 0)) (by rw [hk]; rfl) (by simp only [hm, decide_eq_true_eq]; omega)) (fun h => by simp only [hm] at h; constructor <;> intros <;> omega)
      | 3, _, hk, hrow => exact fin (may_row hrow (nonempty _ (by decide)) rfl (s0 := p.locks) (s1 := if 1 > n then 1 else n) (s2 := 1) rfl rfl rfl (a0 := p.locks) (a1 := n) (a2 := 0) (ok := decide (p.locks > 0)) (by rw [hk]; rfl) (by simp only [hm, decide_eq_true_eq]; omega)) (fun h => by simp only [hm] at h; constructor <;> intros <;> omega)
      | 4, _, hk, hrow => exact fin (may_row hrow (nonempty _ (by decide)) rfl (s0 := p.locks) (s1 := if 1 > n then 1 else n) (s2 := 1) rfl rfl rfl (a0 := p.locks) (a1 := n) (a2 := 0) (ok := decide (p.locks > 0)) (by rw [hk]; rfl) (by simp only [hm, decide_eq_true_eq]; omega)) (fun h => by simp only [hm] at h; constructor <;> intros <;> omega)
      | 5, _, hk, hrow =>
        exact fin (may_row hrow (nonempty _ (by decide)) rfl (s0 := (p.funcs.length : Int)) (s1 := if 1 > n then 1 else n) (s2 := p.slots) rfl rfl rfl (a0 := (p.funcs.length : Int)) (a1 := n) (a2 := p.slots) (ok := decide (p.slots > 0 ∧ (p.funcs.length : Int) > 0)) (by
          rw [hk]
          show (if decide (p.slots > 0) = true then _ else _) = _
          by_cases c : p.slots > 0
          · rw [if_pos (decide_eq_true c)]; simp [c]
          · rw [if_neg (by simpa using c)]; simp [c]) (by simp only [hm, decide_eq_true_eq]; omega)) (fun h => by simp only [hm] at h; constructor <;> intros <;> omega)
      | 6, _, hk, hrow => exact fin (may_row hrow (nonempty _ (by decide)) rfl (s0 := p.slots) (s1 := if 1 > n then 1 else n) (s2 := 1) rfl rfl rfl (a0 := p.slots) (a1 := n) (a2 := 0) (ok := decide (p.slots > 0)) (by rw [hk]; rfl) (by simp only [hm, decide_eq_true_eq]; omega)) (fun h => by simp only [hm] at h; constructor <;> intros <;> omega)
      | 7, _, hk, hrow => exact fin (may_row hrow (nonempty _ (by decide)) rfl (s0 := (p.funcs.length : Int)) (s1 := if 1 > n then 1 else n) (s2 := 1) rfl rfl rfl (a0 := (p.funcs.length : Int)) (a1 := n) (a2 := 0) (ok := decide ((p.funcs.length : Int) > 0)) (by rw [hk]; rfl) (by simp only [hm, decide_eq_true_eq]; omega)) (fun h => by simp only [hm] at h; constructor <;> intros <;> omega)
      | 8, _, hk, hrow => exact fin (may_row hrow (nonempty _ (by decide)) rfl (s0 := 1) (s1 := if 1 > n then 1 else n) (s2 := if 1 > n then 1 else n) rfl rfl rfl (a0 := 0) (a1 := n) (a2 := n) (ok := true) (by rw [hk]; rfl) (by simp only [hm, eq_self, true_and]; omega)) (fun h => by simp only [hm] at h; constructor <;> intros <;> omega)
      | 9, _, hk, hrow => exact fin (may_row hrow (nonempty _ (by decide)) rfl (s0 := 1) (s1 := 1) (s2 := 1) rfl rfl rfl (a0 := 0) (a1 := 0) (a2 := 0) (ok := true) (by rw [hk]; rfl) (by simp only [hm, eq_self, true_and]; omega)) (fun h => by constructor <;> intros <;> omega)
theorem may_eqP (p : api_Program) (x : api_Node) (n : Int) : ∃ b, prog_May p x n = some b ∧ (b = true → NodeOk p x n) := by
  have go : ∀ v : Int × Int × Int × Bool, prog_fields p x.kind n = some v → (v.2.2.2 = true → (0 ≤ x.arg ∧ x.arg < max v.1 1) → (0 ≤ x.next ∧ x.next < max v.2.1 1) → (0 ≤ x.alt ∧ x.alt < max v.2.2.1 1) → NodeOk p x n) → ∃ b, prog_May p x n = some b ∧ (b = true → NodeOk p x n) := by
    intro v hv hok
    have em : ∀ a : Int, (if 1 > a then 1 else a) = max a 1 := fun a => by split <;> omega
    unfold prog_May
    rw [bind_some hv]
    by_cases h0 : v.2.2.2 = true
    · rw [if_pos h0, bind_some (within_eq _ _), em]
      by_cases h1 : 0 ≤ x.arg ∧ x.arg < max v.1 1
      · rw [if_pos (decide_eq_true h1), bind_some (within_eq _ _), em]
        by_cases h2 : 0 ≤ x.next ∧ x.next < max v.2.1 1
        · rw [if_pos (decide_eq_true h2), bind_some (within_eq _ _), em]
          exact ⟨_, rfl, fun h => hok h0 h1 h2 (of_decide_eq_true h)⟩
        · rw [if_neg (by simpa using h2)]
          exact ⟨false, rfl, (fun h => by cases h)⟩
      · rw [if_neg (by simpa using h1)]
        exact ⟨false, rfl, (fun h => by cases h)⟩
    · rw [if_neg h0]
      exact ⟨false, rfl, (fun h => by cases h)⟩
  unfold prog_fields at go
  by_cases k0 : x.kind = 0
  · exact go (0, n, 0, true) (if_pos (eqT k0)) fun _ h1 h2 h3 => ⟨by omega, by omega, by omega, by omega, by omega, by omega, fun _ => h2, by omega⟩
  rw [if_neg (eqF k0)] at go
  by_cases k1 : x.kind = 1
  · exact go _ (if_pos (eqT k1)) fun h0 h1 h2 h3 => by
      have h0 := of_decide_eq_true h0
      dsimp only at h0 h1 h2 h3
      exact ⟨by omega, by omega, by omega, by omega, by omega, by omega, by omega, by omega⟩
  rw [if_neg (eqF k1)] at go
  by_cases k2 : x.kind = 2
  · exact go _ (if_pos (eqT k2)) fun h0 h1 h2 h3 => by
      have h0 := of_decide_eq_true h0
      dsimp only at h0 h1 h2 h3
      exact ⟨by omega, by omega, by omega, by omega, by omega, by omega, by omega, by omega⟩
  rw [if_neg (eqF k2)] at go
  by_cases k3 : x.kind = 3
  · exact go _ (if_pos (eqT k3)) fun h0 h1 h2 h3 => by
      have h0 := of_decide_eq_true h0
      dsimp only at h0 h1 h2 h3
      exact ⟨by omega, by omega, by omega, by omega, by omega, by omega, by omega, by omega⟩
  rw [if_neg (eqF k3)] at go
  by_cases k4 : x.kind = 4
  · exact go _ (if_pos (eqT k4)) fun h0 h1 h2 h3 => by
      have h0 := of_decide_eq_true h0
      dsimp only at h0 h1 h2 h3
      exact ⟨by omega, by omega, by omega, by omega, by omega, by omega, by omega, by omega⟩
  rw [if_neg (eqF k4)] at go
  by_cases k5 : x.kind = 5
  · rw [if_pos (eqT k5)] at go
    by_cases hs : p.slots > 0
    · rw [if_pos (decide_eq_true hs)] at go
      exact go _ rfl fun h0 h1 h2 h3 => by
        have h0 := of_decide_eq_true h0
        dsimp only at h0 h1 h2 h3
        exact ⟨by omega, by omega, by omega, by omega, by omega, by omega, by omega, by omega⟩
    · rw [if_neg (by simpa using hs)] at go
      exact go _ rfl fun h0 => by cases h0
  rw [if_neg (eqF k5)] at go
  by_cases k6 : x.kind = 6
  · exact go _ (if_pos (eqT k6)) fun h0 h1 h2 h3 => by
      have h0 := of_decide_eq_true h0
      dsimp only at h0 h1 h2 h3
      exact ⟨by omega, by omega, by omega, by omega, by omega, by omega, by omega, by omega⟩
  rw [if_neg (eqF k6)] at go
  by_cases k7 : x.kind = 7
  · exact go _ (if_pos (eqT k7)) fun h0 h1 h2 h3 => by
      have h0 := of_decide_eq_true h0
      dsimp only at h0 h1 h2 h3
      exact ⟨by omega, by omega, by omega, by omega, by omega, by omega, by omega, by omega⟩
  rw [if_neg (eqF k7)] at go
  by_cases k8 : x.kind = 8
  · exact go _ (if_pos (eqT k8)) fun _ h1 h2 h3 => by
      dsimp only at h1 h2 h3
      exact ⟨by omega, by omega, by omega, by omega, by omega, by omega, by omega, by omega⟩
  rw [if_neg (eqF k8)] at go
  by_cases k9 : x.kind = 9
  · exact go _ (if_pos (eqT k9)) fun _ h1 h2 h3 => by
      exact ⟨by omega, by omega, by omega, by omega, by omega, by omega, by omega, by omega⟩
  rw [if_neg (eqF k9)] at go
  exact go _ rfl fun h0 => by cases h0
def mayb (p : api_Program) (l : List api_Node) (i : Nat) : Bool := (prog_May p (List.getD l i d_api_Node) (l.length : Int)).getD false
theorem mayb_prog (p : api_Program) (l : List api_Node) (i : Nat) : prog_May p (List.getD l i d_api_Node) (l.length : Int) = some (mayb p l i) := by
  obtain ⟨b, h1, _⟩ := may_eqP p (List.getD l i d_api_Node) (l.length : Int)
  unfold mayb; rw [h1]; rfl
theorem mayb_ok {p : api_Program} {l : List api_Node} {i : Nat} (h : mayb p l i = true) : NodeOk p (List.getD l i d_api_Node) (l.length : Int) := by
  obtain ⟨b, h1, h3⟩ := may_eqP p (List.getD l i d_api_Node) (l.length : Int)
  unfold mayb at h; rw [h1] at h
  exact h3 h
/-- The first of some numbers for which something is so. -/
def find (q : Nat → Bool) : Nat → Nat → Option Nat
  | _, 0 => none
  | i, m + 1 => if q i = true then some i else find q (i + 1) m
def findO {β : Type} (q : Nat → Option β) : Nat → Nat → Option (Nat × β)
  | _, 0 => none
  | i, m + 1 => match q i with
    | some b => some (i, b)
    | none => findO q (i + 1) m
theorem find_none {q : Nat → Bool} : ∀ {m i : Nat}, find q i m = none → ∀ k, i ≤ k → k < i + m → q k = false
  | 0, i, h, k, h1, h2 => by omega
  | m + 1, i, h, k, h1, h2 => by
    unfold find at h
    split at h
    · cases h
    · rename_i hq
      rcases Nat.eq_or_lt_of_le h1 with rfl | h3
      · simpa using hq
      · exact find_none h k h3 (by omega)
theorem findO_none {β : Type} {q : Nat → Option β} : ∀ {m i : Nat}, findO q i m = none → ∀ k, i ≤ k → k < i + m → q k = none
  | 0, i, h, k, h1, h2 => by omega
  | m + 1, i, h, k, h1, h2 => by
    unfold findO at h
    split at h
    · cases h
    · rename_i hq
      rcases Nat.eq_or_lt_of_le h1 with rfl | h3
      · exact hq
      · exact findO_none h k h3 (by omega)
theorem findO_some {β : Type} {q : Nat → Option β} : ∀ {m i : Nat} {k : Nat × β}, findO q i m = some k → i ≤ k.1 ∧ k.1 < i + m ∧ q k.1 = some k.2
  | m + 1, i, k, h => by
    unfold findO at h
    split at h
    · cases h; exact ⟨Nat.le_refl _, by omega, by assumption⟩
    · have := findO_some h; exact ⟨by omega, by omega, this.2.2⟩
theorem mayb_ref (p : api_Program) (l : List api_Node) (i : Nat) : alibiref05_May p (List.getD l i d_api_Node) (l.length : Int) = some (mayb p l i) := by
  obtain ⟨b, h1, h2, _⟩ := may_eq p (List.getD l i d_api_Node) (l.length : Int)
  unfold mayb; rw [h1, h2]; rfl
theorem check_l13 (p : api_Program) (x4 : Int) (x6 : List (List api_Node)) (x7 x8 : Int) (l : List api_Node) (hl : l.length ≤ 65536) : ∀ (m i : Nat), i + m = l.length → prog_Check_l13 p.globals p.locks p.slots p.funcs x4 l x6 x7 x8 l (l.length : Int) (i : Int) =
    some (match find (fun i => !mayb p l i) i m with | some k => .x0 k 3 | none => .x1)
  | 0, i, h => by rw [prog_Check_l13, if_neg (by simp only [decide_eq_true_eq]; omega)]; rfl
  | m + 1, i, h => by
    rw [prog_Check_l13, if_pos (decide_eq_true (by omega)), if_pos (decide_eq_true (by omega)), if_pos (decide_eq_true (by omega)), Int.toNat_natCast, bind_some (mayb_prog p l i), inc i (by omega)]
    unfold find
    cases hb : mayb p l i with
    | false => rfl
    | true => exact check_l13 p x4 x6 x7 x8 l hl m (i + 1) (by omega)
theorem check_l14 (p : api_Program) (x4 : Int) (f : Nat) (hf : f < p.funcs.length) (hl : (List.getD p.funcs f []).length ≤ 65536) : ∀ (m i : Nat), i + m = (List.getD p.funcs f []).length → alibiref05_Check_l14 p.globals p.locks p.slots p.funcs x4 (f : Int) (i : Int) =
    some (match find (fun i => !mayb p (List.getD p.funcs f []) i) i m with | some k => .x0 k 3 | none => .x1)
  | 0, i, h => by
    rw [alibiref05_Check_l14, if_pos (decide_eq_true (by omega)), if_pos (decide_eq_true (by omega)), Int.toNat_natCast, if_neg (by simp only [decide_eq_true_eq]; omega)]
    rfl
  | m + 1, i, h => by
    rw [alibiref05_Check_l14, if_pos (decide_eq_true (by omega)), if_pos (decide_eq_true (by omega)), Int.toNat_natCast, if_pos (decide_eq_true (by omega)), if_pos (decide_eq_true (by omega)), if_pos (decide_eq_true (by omega)), Int.toNat_natCast, bind_some (mayb_ref p (List.getD p.funcs f []) i), inc i (by omega)]
    unfold find
    cases hb : mayb p (List.getD p.funcs f []) i with
    | false => rfl
    | true => exact check_l14 p x4 f hf hl m (i + 1) (by omega)
/-- What is wrong with a function's nodes first. -/
def bad1 (p : api_Program) (f : Nat) : Option (Int × Int) :=
  if (List.getD p.funcs f []).length = 0 then some (-1, 1) else if (List.getD p.funcs f []).length > 64 then some (-1, 4) else (find (fun i => !mayb p (List.getD p.funcs f []) i) 0 (List.getD p.funcs f []).length).map fun k => ((k : Int), 3)
theorem check_l6 (p : api_Program) (hn : p.funcs.length ≤ 65536) : ∀ (m i : Nat), i + m = p.funcs.length → prog_Check_l6 p.globals p.locks p.slots p.funcs p.funcs (p.funcs.length : Int) (i : Int) =
    some (match findO (bad1 p) i m with | some (f, a, b) => .x0 f a b | none => .x1)
  | 0, i, h => by rw [prog_Check_l6, if_neg (by simp only [decide_eq_true_eq]; omega)]; rfl
  | m + 1, i, h => by
    rw [prog_Check_l6, if_pos (decide_eq_true (by omega)), if_pos (decide_eq_true (by omega)), if_pos (decide_eq_true (by omega)), Int.toNat_natCast, inc i (by omega)]
    unfold findO
    have ih := check_l6 p hn m (i + 1) (by omega)
    rcases Nat.eq_zero_or_pos (List.getD p.funcs i []).length with h0 | h0
    · rw [if_pos (eqT (by omega)), show bad1 p i = some (-1, 1) from if_pos h0]
    · rw [if_neg (eqF (by omega))]
      by_cases h1 : (List.getD p.funcs i []).length > 64
      · rw [if_pos (decide_eq_true (by omega)), show bad1 p i = some (-1, 4) by unfold bad1; rw [if_neg (by omega), if_pos h1]]
      · rw [if_neg (by simp only [decide_eq_true_eq]; omega)]
        have h2 := check_l13 p (i : Int) p.funcs (p.funcs.length : Int) (i : Int) (List.getD p.funcs i []) (by omega) (List.getD p.funcs i []).length 0 (by omega)
        rw [show ((0 : Nat) : Int) = 0 from rfl] at h2
        rw [bind_some h2, show bad1 p i = (find (fun k => !mayb p (List.getD p.funcs i []) k) 0 (List.getD p.funcs i []).length).map fun k => ((k : Int), 3) by unfold bad1; rw [if_neg (by omega), if_neg h1]]
        cases find (fun k => !mayb p (List.getD p.funcs i []) k) 0 (List.getD p.funcs i []).length with
        | some k => rfl
        | none => exact ih
theorem check_l7 (p : api_Program) (hn : p.funcs.length ≤ 65536) : ∀ (m i : Nat), i + m = p.funcs.length → alibiref05_Check_l7 p.globals p.locks p.slots p.funcs (p.funcs.length : Int) (i : Int) =
    some (match findO (bad1 p) i m with | some (f, a, b) => .x0 f a b | none => .x1)
  | 0, i, h => by rw [alibiref05_Check_l7, if_neg (by simp only [decide_eq_true_eq]; omega)]; rfl
  | m + 1, i, h => by
    rw [alibiref05_Check_l7, if_pos (decide_eq_true (by omega)), if_pos (decide_eq_true (by omega)), if_pos (decide_eq_true (by omega)), Int.toNat_natCast, inc i (by omega)]
    unfold findO
    have ih := check_l7 p hn m (i + 1) (by omega)
    rcases Nat.eq_zero_or_pos (List.getD p.funcs i []).length with h0 | h0
    · rw [if_pos (eqT (by omega)), show bad1 p i = some (-1, 1) from if_pos h0]
    · rw [if_neg (eqF (by omega))]
      by_cases h1 : (List.getD p.funcs i []).length > 64
      · rw [if_pos (decide_eq_true (by omega)), show bad1 p i = some (-1, 4) by unfold bad1; rw [if_neg (by omega), if_pos h1]]
      · rw [if_neg (by simp only [decide_eq_true_eq]; omega)]
        have h2 := check_l14 p (p.funcs.length : Int) i (by omega) (by omega) (List.getD p.funcs i []).length 0 (by omega)
        rw [show ((0 : Nat) : Int) = 0 from rfl] at h2
        rw [bind_some h2, show bad1 p i = (find (fun k => !mayb p (List.getD p.funcs i []) k) 0 (List.getD p.funcs i []).length).map fun k => ((k : Int), 3) by unfold bad1; rw [if_neg (by omega), if_neg h1]]
        cases find (fun k => !mayb p (List.getD p.funcs i []) k) 0 (List.getD p.funcs i []).length with
        | some k => rfl
        | none => exact ih
abbrev FS := List (List api_Node)
/-- A function calls another one. -/
def Edge (fs : FS) (a b : Nat) : Prop := ∃ i, i < (List.getD fs a []).length ∧ (List.getD (List.getD fs a []) i d_api_Node).kind = 7 ∧ (List.getD (List.getD fs a []) i d_api_Node).arg = (b : Int)
inductive Path (fs : FS) : Nat → Nat → Prop
  | refl (a : Nat) : Path fs a a
  | step (a b c : Nat) : Edge fs a b → Path fs b c → Path fs a c
theorem Path.snoc {fs : FS} {a b c : Nat} (h : Path fs a b) (e : Edge fs b c) : Path fs a c := by
  induction h with
  | refl a => exact .step _ _ _ e (.refl _)
  | step a b d h _ ih => exact .step _ _ _ h (ih e)
theorem Path.trans {fs : FS} {a b c : Nat} (h : Path fs a b) (k : Path fs b c) : Path fs a c := by
  induction h with
  | refl a => exact k
  | step a b d h _ ih => exact .step _ _ _ h (ih k)
theorem path_closed {fs : FS} {S : Nat → Prop} (hS : ∀ x, S x → ∀ y, Edge fs x y → S y) {a b : Nat} (h : Path fs a b) : S a → S b := by
  induction h with
  | refl a => exact id
  | step a b c e _ ih => exact fun ha => ih (hS a ha b e)
/-- Calls are to functions that there are. -/
def CallsOk (fs : FS) : Prop := ∀ f i, f < fs.length → i < (List.getD fs f []).length → (List.getD (List.getD fs f []) i d_api_Node).kind = 7 → 0 ≤ (List.getD (List.getD fs f []) i d_api_Node).arg ∧ (List.getD (List.getD fs f []) i d_api_Node).arg < fs.length
theorem getD_out {α : Type} {l : List α} {i : Nat} {d : α} (h : l.length ≤ i) : List.getD l i d = d := by simp [List.getD, h]
theorem Edge.lt {fs : FS} {a b : Nat} (hc : CallsOk fs) (h : Edge fs a b) : a < fs.length ∧ b < fs.length := by
  obtain ⟨i, h1, h2, h3⟩ := h
  rcases Nat.lt_or_ge a fs.length with h4 | h4
  · have := hc a i h4 h1 h2
    exact ⟨h4, by omega⟩
  · rw [getD_out h4] at h1
    cases h1
def Sn (s : List Bool) (x : Nat) : Prop := List.getD s x false = true
theorem Sn.lt {s : List Bool} {x : Nat} (h : Sn s x) : x < s.length := by
  rcases Nat.lt_or_ge x s.length with h1 | h1
  · exact h1
  · unfold Sn at h; rw [getD_out h1] at h; cases h
theorem Sn_set {s : List Bool} {a x : Nat} (ha : a < s.length) : Sn (s.set a true) x ↔ x = a ∨ Sn s x := by
  unfold Sn
  by_cases h : x = a
  · subst h; simp [List.getD, ha]
  · have : a ≠ x := fun e => h e.symm
    simp [List.getD, List.getElem?_set, this, h]
theorem count_mono : ∀ (l m : List Bool), l.length = m.length → (∀ x, Sn l x → Sn m x) → m.count false ≤ l.count false
  | [], [], _, _ => Nat.le_refl _
  | a :: l, b :: m, hl, h => by
    have ih := count_mono l m (by simpa using hl) fun x hx => h (x + 1) hx
    have h0 := h 0
    unfold Sn at h0
    cases a <;> cases b <;> simp_all <;> omega
theorem count_set_true {s : List Bool} {a : Nat} (ha : a < s.length) (h : ¬ Sn s a) : (s.set a true).count false + 1 = s.count false := by
  have h1 : s[a] = false := by
    unfold Sn at h
    simpa [List.getD, ha] using h
  rw [List.count_set ha]
  have : 0 < s.count false := by
    rw [← h1]; exact List.count_pos_iff.2 (List.getElem_mem ha)
  simp [h1]
  omega
/-- What is so behind a search that found nothing. -/
structure Fruitless (fs : FS) (to : Nat) (s s' : List Bool) : Prop where
  len : s'.length = s.length
  mono : ∀ x, Sn s x → Sn s' x
  closed : ∀ x, Sn s' x → Sn s x ∨ (x ≠ to ∧ ∀ y, Edge fs x y → Sn s' y)
theorem loop7 (p : api_Program) (hc : CallsOk p.funcs) (to : Nat) (n a : Nat) (ha : a < p.funcs.length) (hat : a ≠ to) (hlen : (List.getD p.funcs a []).length ≤ 65536)
    (self : List Bool → api_Program → Int → Int → Option (Bool × List Bool))
    (hs : ∀ (s : List Bool) (b : Nat), s.length = p.funcs.length → b < p.funcs.length → s.count false < n → ∃ r s', self s p (b : Int) (to : Int) = some (r, s') ∧ s'.length = p.funcs.length ∧ (r = true → Path p.funcs b to) ∧ (r = false → Sn s' b ∧ Fruitless p.funcs to s s')) :
    ∀ (m i : Nat) (s : List Bool), i + m = (List.getD p.funcs a []).length → s.length = p.funcs.length → s.count false < n → Sn s a →
    (∃ s', prog_reaches_l7 self s p.globals p.locks p.slots p.funcs (to : Int) (List.getD p.funcs a []) ((List.getD p.funcs a []).length : Int) (i : Int) = some (.x0 s' true) ∧ s'.length = p.funcs.length ∧ Path p.funcs a to) ∨
    (∃ s', prog_reaches_l7 self s p.globals p.locks p.slots p.funcs (to : Int) (List.getD p.funcs a []) ((List.getD p.funcs a []).length : Int) (i : Int) = some (.x1 s') ∧ Fruitless p.funcs to s s' ∧ ∀ k, i ≤ k → k < (List.getD p.funcs a []).length → (List.getD (List.getD p.funcs a []) k d_api_Node).kind = 7 → Sn s' (List.getD (List.getD p.funcs a []) k d_api_Node).arg.toNat)
  | 0, i, s, h, hl, hn, hsa => by
    rw [prog_reaches_l7, if_neg (by simp only [decide_eq_true_eq]; omega)]
    exact .inr ⟨s, rfl, ⟨rfl, fun x hx => hx, fun x hx => .inl hx⟩, fun k h1 h2 => by omega⟩
  | m + 1, i, s, h, hl, hn, hsa => by
    rw [prog_reaches_l7, if_pos (decide_eq_true (by omega)), if_pos (decide_eq_true (by omega)), if_pos (decide_eq_true (by omega)), Int.toNat_natCast, inc i (by omega)]
    by_cases hk : (List.getD (List.getD p.funcs a []) i d_api_Node).kind = 7
    · rw [if_pos (eqT hk)]
      have harg := hc a i ha (by omega) hk
      obtain ⟨b, hb⟩ : ∃ b : Nat, (List.getD (List.getD p.funcs a []) i d_api_Node).arg = (b : Int) := ⟨_, (Int.toNat_of_nonneg harg.1).symm⟩
      have hE : Edge p.funcs a b := ⟨i, by omega, hk, hb⟩
      rw [hb] at harg ⊢
      obtain ⟨r, s1, q1, q2, q3, q4⟩ := hs s b hl (by omega) hn
      rw [bind_some q1]
      cases r with
      | true =>
        rw [if_pos rfl]
        exact .inl ⟨s1, rfl, q2, .step _ _ _ hE (q3 rfl)⟩
      | false =>
        rw [if_neg (show ¬ (false, s1).1 = true from Bool.false_ne_true), if_pos (decide_eq_true (by show s1.length = s.length; omega))]
        obtain ⟨q5, q6⟩ := q4 rfl
        have hmono := count_mono s s1 (by omega) q6.mono
        rcases loop7 p hc to n a ha hat hlen self hs m (i + 1) s1 (by omega) q2 (by omega) (q6.mono _ hsa) with ⟨s', g1, g2⟩ | ⟨s', g1, g2, g3⟩
        · exact .inl ⟨s', g1, g2⟩
        · refine .inr ⟨s', g1, ⟨g2.len.trans q6.len, fun x hx => g2.mono x (q6.mono x hx), fun x hx => ?_⟩, fun k h1 h2 h3 => ?_⟩
          · rcases g2.closed x hx with h4 | h4
            · rcases q6.closed x h4 with h5 | h5
              · exact .inl h5
              · exact .inr ⟨h5.1, fun y hy => g2.mono y (h5.2 y hy)⟩
            · exact .inr h4
          · rcases Nat.eq_or_lt_of_le h1 with rfl | h4
            · rw [hb, Int.toNat_natCast]
              exact g2.mono _ q5
            · exact g3 k h4 h2 h3
    · rw [if_neg (eqF hk)]
      rcases loop7 p hc to n a ha hat hlen self hs m (i + 1) s (by omega) hl hn hsa with ⟨s', g1, g2⟩ | ⟨s', g1, g2, g3⟩
      · exact .inl ⟨s', g1, g2⟩
      · refine .inr ⟨s', g1, g2, fun k h1 h2 h3 => ?_⟩
        rcases Nat.eq_or_lt_of_le h1 with rfl | h4
        · exact absurd h3 hk
        · exact g3 k h4 h2 h3
theorem reaches_N (p : api_Program) (hc : CallsOk p.funcs) (hlen : ∀ f, (List.getD p.funcs f []).length ≤ 65536) (to : Nat) : ∀ (n : Nat) (s : List Bool) (a : Nat), s.length = p.funcs.length → a < p.funcs.length → s.count false < n →
    ∃ r s', prog_reaches_N n s p (a : Int) (to : Int) = some (r, s') ∧ s'.length = p.funcs.length ∧ (r = true → Path p.funcs a to) ∧ (r = false → Sn s' a ∧ Fruitless p.funcs to s s' ∧ a ≠ to)
  | 0, s, a, hl, ha, hn => by omega
  | n + 1, s, a, hl, ha, hn => by
    show ∃ r s', prog_reaches_B (prog_reaches_N n) s p (a : Int) (to : Int) = some (r, s') ∧ _
    unfold prog_reaches_B
    by_cases hat : a = to
    · rw [if_pos (eqT (by omega))]
      subst hat
      exact ⟨true, s, rfl, hl, fun _ => .refl _, (fun h => by cases h)⟩
    · rw [if_neg (eqF (by omega)), if_pos (decide_eq_true (by omega)), if_pos (decide_eq_true (by omega)), Int.toNat_natCast]
      by_cases hsn : Sn s a
      · rw [if_pos (show List.getD s a false = true from hsn)]
        exact ⟨false, s, rfl, hl, (fun h => by cases h), fun _ => ⟨hsn, ⟨rfl, fun x hx => hx, fun x hx => .inl hx⟩, hat⟩⟩
      · rw [if_neg (show ¬ List.getD s a false = true from hsn), if_pos (decide_eq_true (by omega))]
        have hcount := count_set_true (by omega) hsn
        rcases loop7 p hc to n a ha hat (hlen a) (prog_reaches_N n) (fun s b h1 h2 h3 => by
          obtain ⟨r, s', q1, q2, q3, q4⟩ := reaches_N p hc hlen to n s b h1 h2 h3
          exact ⟨r, s', q1, q2, q3, fun h => ⟨(q4 h).1, (q4 h).2.1⟩⟩) (List.getD p.funcs a []).length 0 (s.set a true) (by omega) (by simpa using hl) (by omega) ((Sn_set (by omega)).2 (.inl rfl)) with ⟨s', g1, g2, g3⟩ | ⟨s', g1, g2, g3⟩
        · rw [show ((0 : Nat) : Int) = 0 from rfl] at g1
          rw [bind_some g1]
          exact ⟨true, s', rfl, g2, fun _ => g3, fun h => by cases h⟩
        · rw [show ((0 : Nat) : Int) = 0 from rfl] at g1
          rw [bind_some g1]
          have hsub : ∀ x, Sn s x → Sn s' x := fun x hx => g2.mono x ((Sn_set (by omega)).2 (.inr hx))
          refine ⟨false, s', rfl, by have := g2.len; rw [List.length_set] at this; omega, (fun h => by cases h), fun _ => ⟨g2.mono a ((Sn_set (by omega)).2 (.inl rfl)), ⟨by have := g2.len; rw [List.length_set] at this; omega, hsub, fun x hx => ?_⟩, hat⟩⟩
          rcases g2.closed x hx with h1 | h1
          · rcases (Sn_set (by omega)).1 h1 with rfl | h1
            · refine .inr ⟨hat, fun y hy => ?_⟩
              obtain ⟨k, k1, k2, k3⟩ := hy
              have := g3 k (Nat.zero_le _) k1 k2
              rw [k3, Int.toNat_natCast] at this
              exact this
            · exact .inl h1
          · exact .inr h1
theorem sn_replicate (n x : Nat) : ¬ Sn (List.replicate n false) x := by
  unfold Sn
  simp only [List.getD, List.getElem?_replicate]
  split <;> simp
theorem reaches_eq (p : api_Program) (hc : CallsOk p.funcs) (hlen : ∀ f, (List.getD p.funcs f []).length ≤ 65536) (hn : p.funcs.length ≤ 500) (a to : Nat) (ha : a < p.funcs.length) : ∃ r s', prog_reaches (List.replicate p.funcs.length false) p (a : Int) (to : Int) = some (r, s') ∧ (r = true ↔ Path p.funcs a to) := by
  unfold prog_reaches
  obtain ⟨r, s', q1, q2, q3, q4⟩ := reaches_N p hc hlen to 1000 (List.replicate p.funcs.length false) a (by simp) ha (by have := List.count_le_length (a := false) (l := List.replicate p.funcs.length false); simp at this ⊢; omega)
  refine ⟨r, s', q1, q3, fun hp => ?_⟩
  cases r with
  | true => rfl
  | false =>
    exfalso
    obtain ⟨h1, h2, h3⟩ := q4 rfl
    have hcl : ∀ x, Sn s' x → x ≠ to ∧ ∀ y, Edge p.funcs x y → Sn s' y := fun x hx => (h2.closed x hx).resolve_left (sn_replicate _ _)
    exact (hcl to (path_closed (fun x hx => (hcl x hx).2) hp h1)).1 rfl
theorem find_succ (q : Nat → Bool) (i m : Nat) : find q i (m + 1) = if q i = true then some i else find q (i + 1) m := rfl
theorem findO_succ {β : Type} (q : Nat → Option β) (i m : Nat) : findO q i (m + 1) = match q i with
    | some b => some (i, b)
    | none => findO q (i + 1) m := rfl
/-- A node calls what comes back. -/
def Bad (fs : FS) (f i : Nat) : Prop := (List.getD (List.getD fs f []) i d_api_Node).kind = 7 ∧ ∃ a : Nat, (List.getD (List.getD fs f []) i d_api_Node).arg = (a : Int) ∧ Path fs a f
noncomputable def badb (fs : FS) (f i : Nat) : Bool := @decide (Bad fs f i) (Classical.propDecidable _)
theorem badb_iff {fs : FS} {f i : Nat} : badb fs f i = true ↔ Bad fs f i := by
  unfold badb
  exact @decide_eq_true_iff _ (Classical.propDecidable _)
theorem round_l5 (p : api_Program) (hc : CallsOk p.funcs) (hlen : ∀ f, (List.getD p.funcs f []).length ≤ 65536) (hn : p.funcs.length ≤ 500) (f : Nat) (hf : f < p.funcs.length) (x5 : FS) (x6 x7 : Int) : ∀ (m i : Nat), i + m = (List.getD p.funcs f []).length → prog_round_l5 p.globals p.locks p.slots p.funcs (f : Int) x5 x6 x7 (List.getD p.funcs f []) ((List.getD p.funcs f []).length : Int) (i : Int) =
    some (match find (badb p.funcs f) i m with | some k => .x0 k true | none => .x1)
  | 0, i, h => by rw [prog_round_l5, if_neg (by simp only [decide_eq_true_eq]; omega)]; rfl
  | m + 1, i, h => by
    have ih := round_l5 p hc hlen hn f hf x5 x6 x7 m (i + 1) (by omega)
    have hl := hlen f
    rw [prog_round_l5, if_pos (decide_eq_true (by omega)), if_pos (decide_eq_true (by omega)), if_pos (decide_eq_true (by omega)), Int.toNat_natCast, inc i (by omega), ih]
    rw [find_succ]
    by_cases hk : (List.getD (List.getD p.funcs f []) i d_api_Node).kind = 7
    · rw [if_pos (eqT hk), if_pos (decide_eq_true (by omega)), if_pos (decide_eq_true (by simp only [reach]; omega)), Int.toNat_natCast]
      have harg := hc f i hf (by omega) hk
      obtain ⟨b, hb⟩ : ∃ b : Nat, (List.getD (List.getD p.funcs f []) i d_api_Node).arg = (b : Int) := ⟨_, (Int.toNat_of_nonneg harg.1).symm⟩
      rw [hb] at harg ⊢
      obtain ⟨r, s', q1, q2⟩ := reaches_eq p hc hlen hn b f (by omega)
      rw [bind_some q1]
      have hq : badb p.funcs f i = r := by
        rw [Bool.eq_iff_iff, badb_iff, q2]
        constructor
        · rintro ⟨_, a, h1, h2⟩
          have : a = b := by omega
          rw [← this]; exact h2
        · exact fun h => ⟨hk, b, hb, h⟩
      rw [hq]
      cases r with
      | true => rfl
      | false => rfl
    · rw [if_neg (eqF hk)]
      have hq : badb p.funcs f i = false := by
        rw [Bool.eq_false_iff]
        intro h
        exact hk (badb_iff.1 h).1
      rw [hq]
      rfl
noncomputable def bad2 (fs : FS) (f : Nat) : Option Nat := find (badb fs f) 0 (List.getD fs f []).length
theorem round_l2 (p : api_Program) (hc : CallsOk p.funcs) (hlen : ∀ f, (List.getD p.funcs f []).length ≤ 65536) (hn : p.funcs.length ≤ 500) : ∀ (m i : Nat), i + m = p.funcs.length → prog_round_l2 p.globals p.locks p.slots p.funcs p.funcs (p.funcs.length : Int) (i : Int) =
    some (match findO (bad2 p.funcs) i m with | some (f, k) => .x0 f k true | none => .x1)
  | 0, i, h => by rw [prog_round_l2, if_neg (by simp only [decide_eq_true_eq]; omega)]; rfl
  | m + 1, i, h => by
    have ih := round_l2 p hc hlen hn m (i + 1) (by omega)
    have h2 := round_l5 p hc hlen hn i (by omega) p.funcs (p.funcs.length : Int) (i : Int) (List.getD p.funcs i []).length 0 (by omega)
    rw [show ((0 : Nat) : Int) = 0 from rfl] at h2
    rw [prog_round_l2, if_pos (decide_eq_true (by omega)), if_pos (decide_eq_true (by omega)), if_pos (decide_eq_true (by omega)), Int.toNat_natCast, inc i (by omega), ih, bind_some h2]
    rw [findO_succ]
    unfold bad2
    cases find (badb p.funcs i) 0 (List.getD p.funcs i []).length with
    | some k => rfl
    | none => rfl
/-- A path by way of functions below a number. -/
inductive Via (fs : FS) (k : Nat) : Nat → Nat → Prop
  | edge (a b : Nat) : Edge fs a b → Via fs k a b
  | comp (a c b : Nat) : Via fs k a c → c < k → Via fs k c b → Via fs k a b
def Trans (fs : FS) (a b : Nat) : Prop := ∃ c, Edge fs a c ∧ Path fs c b
theorem Trans.trans {fs : FS} {a b c : Nat} (h : Trans fs a b) (k : Trans fs b c) : Trans fs a c := by
  obtain ⟨x, h1, h2⟩ := h
  obtain ⟨y, k1, k2⟩ := k
  exact ⟨x, h1, h2.trans (.step _ _ _ k1 k2)⟩
theorem Via.of_path {fs : FS} (hc : CallsOk fs) {c b : Nat} (h : Path fs c b) : ∀ a, Edge fs a c → Via fs fs.length a b := by
  induction h with
  | refl c => exact fun a e => .edge a c e
  | step c d b e _ ih => exact fun a e2 => .comp a c b (.edge a c e2) (e2.lt hc).2 (ih c e)
theorem Via.zero {fs : FS} {a b : Nat} (h : Via fs 0 a b) : Edge fs a b := by
  cases h with
  | edge _ _ e => exact e
  | comp _ _ _ _ h _ => omega
theorem Via.mono {fs : FS} {k : Nat} {a b : Nat} (h : Via fs k a b) : Via fs (k + 1) a b := by
  induction h with
  | edge a b e => exact .edge a b e
  | comp a c b _ hc _ ih1 ih2 => exact .comp a c b ih1 (by omega) ih2
theorem Via.succ {fs : FS} {k : Nat} {a b : Nat} (h : Via fs (k + 1) a b) : Via fs k a b ∨ (Via fs k a k ∧ Via fs k k b) := by
  induction h with
  | edge a b e => exact .inl (.edge a b e)
  | comp a c b _ hc _ ih1 ih2 =>
    by_cases hk : c = k
    · subst hk
      have h1 : Via fs c a c := ih1.elim id fun h => h.1
      have h2 : Via fs c c b := ih2.elim id fun h => h.2
      exact .inr ⟨h1, h2⟩
    · have hlt : c < k := by omega
      rcases ih1 with h1 | ⟨h1, h1'⟩ <;> rcases ih2 with h2 | ⟨h2, h2'⟩
      · exact .inl (.comp a c b h1 hlt h2)
      · exact .inr ⟨.comp a c k h1 hlt h2, h2'⟩
      · exact .inr ⟨h1, .comp k c b h1' hlt h2⟩
      · exact .inr ⟨h1, h2'⟩
def TB (t : List (List Int)) (a b : Nat) : Prop := List.getD (List.getD t a []) b 0 = 1
theorem TB_set {t : List (List Int)} {a b : Nat} (ha : a < t.length) (hb : b < (List.getD t a []).length) (x y : Nat) : TB (t.set a ((List.getD t a []).set b 1)) x y ↔ (x = a ∧ y = b) ∨ TB t x y := by
  unfold TB
  by_cases hx : x = a
  · subst hx
    have e1 : List.getD (t.set x ((List.getD t x []).set b 1)) x [] = (List.getD t x []).set b 1 := by simp [List.getD, ha]
    rw [e1]
    by_cases hy : y = b
    · subst hy
      have : List.getD ((List.getD t x []).set y 1) y 0 = 1 := by
        generalize List.getD t x [] = r at hb
        simp [List.getD, hb]
      exact iff_of_true this (.inl ⟨rfl, rfl⟩)
    · have : List.getD ((List.getD t x []).set b 1) y 0 = List.getD (List.getD t x []) y 0 := by
        generalize List.getD t x [] = r
        have : b ≠ y := fun e => hy e.symm
        simp [List.getD, List.getElem?_set, this]
      rw [this]
      simp [hy]
  · have : List.getD (t.set a ((List.getD t a []).set b 1)) x [] = List.getD t x [] := by
      generalize (List.getD t a []).set b 1 = r
      have : a ≠ x := fun e => hx e.symm
      simp [List.getD, List.getElem?_set, this]
    rw [this]
    simp [hx]
/-- The table in the round k, behind the pairs before (a, b). -/
structure FW (fs : FS) (t : List (List Int)) (k a b : Nat) : Prop where
  len : t.length = fs.length
  row : ∀ x, x < fs.length → (List.getD t x []).length = fs.length
  snd : ∀ x y, TB t x y → Trans fs x y
  cpl : ∀ x y, x < fs.length → y < fs.length → Via fs k x y → TB t x y
  prg : ∀ x y, x < fs.length → y < fs.length → (x < a ∨ (x = a ∧ y < b)) → Via fs k x k → Via fs k k y → TB t x y
theorem row_set {t : List (List Int)} {a b n : Nat} (h : ∀ x, x < n → (List.getD t x []).length = n) (ha : a < n) (hat : a < t.length) : ∀ x, x < n → (List.getD (t.set a ((List.getD t a []).set b 1)) x []).length = n := by
  intro x hx
  by_cases hxa : x = a
  · subst hxa
    have e1 : List.getD (t.set x ((List.getD t x []).set b 1)) x [] = (List.getD t x []).set b 1 := by simp [List.getD, hat]
    rw [e1, List.length_set]
    exact h x hx
  · have : List.getD (t.set a ((List.getD t a []).set b 1)) x [] = List.getD t x [] := by
      generalize (List.getD t a []).set b 1 = r
      have : a ≠ x := fun e => hxa e.symm
      simp [List.getD, List.getElem?_set, this]
    rw [this]
    exact h x hx
theorem calls_l20 (fs : FS) (hn : fs.length ≤ 65536) (k a : Nat) (hk : k < fs.length) (ha : a < fs.length) : ∀ (m b : Nat) (t : List (List Int)), b + m = fs.length → FW fs t k a b → ∃ t', alibiref05_Calls_l20 t (fs.length : Int) (k : Int) (a : Int) (b : Int) = some t' ∧ FW fs t' k a fs.length
  | 0, b, t, h, hf => by
    rw [alibiref05_Calls_l20, if_neg (by simp only [decide_eq_true_eq]; omega)]
    have : b = fs.length := by omega
    subst this
    exact ⟨t, rfl, hf⟩
  | m + 1, b, t, h, hf => by
    have hl := hf.len
    have hra := hf.row a ha
    have hrk := hf.row k hk
    rw [alibiref05_Calls_l20, if_pos (decide_eq_true (by omega)), if_pos (decide_eq_true (by omega)), if_pos (decide_eq_true (by omega)), if_pos (decide_eq_true (by omega))]
    simp only [Int.toNat_natCast]
    rw [if_pos (decide_eq_true (by omega)), inc b (by omega)]
    have keep : (¬ (TB t a k ∧ TB t k b)) → FW fs t k a (b + 1) := fun hno => ⟨hl, hf.row, hf.snd, hf.cpl, fun x y hx hy hxy h1 h2 => by
      rcases hxy with hxy | ⟨rfl, hxy⟩
      · exact hf.prg x y hx hy (.inl hxy) h1 h2
      · rcases Nat.lt_or_ge y b with h3 | h3
        · exact hf.prg x y hx hy (.inr ⟨rfl, h3⟩) h1 h2
        · have : y = b := by omega
          subst this
          exact absurd ⟨hf.cpl _ _ hx hk h1, hf.cpl _ _ hk hy h2⟩ hno⟩
    by_cases h1 : TB t a k
    · rw [if_pos (eqT h1), if_pos (decide_eq_true (by omega)), if_pos (decide_eq_true (by omega)), if_pos (decide_eq_true (by omega))]
      by_cases h2 : TB t k b
      · rw [if_pos (eqT h2), if_pos (decide_eq_true (by omega))]
        refine calls_l20 fs hn k a hk ha m (b + 1) _ (by omega) ⟨by simpa using hl, row_set hf.row ha (by omega), fun x y hxy => ?_, fun x y hx hy hv => (TB_set (by omega) (by omega) x y).2 (.inr (hf.cpl x y hx hy hv)), fun x y hx hy hxy g1 g2 => (TB_set (by omega) (by omega) x y).2 ?_⟩
        · rcases (TB_set (by omega) (by omega) x y).1 hxy with ⟨rfl, rfl⟩ | hxy
          · exact (hf.snd _ _ h1).trans (hf.snd _ _ h2)
          · exact hf.snd _ _ hxy
        · rcases hxy with hxy | ⟨rfl, hxy⟩
          · exact .inr (hf.prg x y hx hy (.inl hxy) g1 g2)
          · rcases Nat.lt_or_ge y b with h3 | h3
            · exact .inr (hf.prg x y hx hy (.inr ⟨rfl, h3⟩) g1 g2)
            · exact .inl ⟨rfl, by omega⟩
      · rw [if_neg (eqF h2)]
        exact calls_l20 fs hn k a hk ha m (b + 1) t (by omega) (keep fun h => h2 h.2)
    · rw [if_neg (eqF h1)]
      exact calls_l20 fs hn k a hk ha m (b + 1) t (by omega) (keep fun h => h1 h.1)
theorem calls_l17 (fs : FS) (hn : fs.length ≤ 65536) (k : Nat) (hk : k < fs.length) : ∀ (m a : Nat) (t : List (List Int)), a + m = fs.length → FW fs t k a 0 → ∃ t', alibiref05_Calls_l17 t (fs.length : Int) (k : Int) (a : Int) = some t' ∧ FW fs t' k fs.length 0
  | 0, a, t, h, hf => by
    rw [alibiref05_Calls_l17, if_neg (by simp only [decide_eq_true_eq]; omega)]
    have : a = fs.length := by omega
    subst this
    exact ⟨t, rfl, hf⟩
  | m + 1, a, t, h, hf => by
    obtain ⟨t1, h1, h2⟩ := calls_l20 fs hn k a hk (by omega) fs.length 0 t (by omega) hf
    rw [show ((0 : Nat) : Int) = 0 from rfl] at h1
    rw [alibiref05_Calls_l17, if_pos (decide_eq_true (by omega)), bind_some h1, inc a (by omega)]
    exact calls_l17 fs hn k hk m (a + 1) t1 (by omega) ⟨h2.len, h2.row, h2.snd, h2.cpl, fun x y hx hy hxy => h2.prg x y hx hy (by omega)⟩
theorem calls_l14 (fs : FS) (hn : fs.length ≤ 65536) : ∀ (m k : Nat) (t : List (List Int)), k + m = fs.length → FW fs t k 0 0 → ∃ t', alibiref05_Calls_l14 t (fs.length : Int) (k : Int) = some t' ∧ FW fs t' fs.length 0 0
  | 0, k, t, h, hf => by
    rw [alibiref05_Calls_l14, if_neg (by simp only [decide_eq_true_eq]; omega)]
    have : k = fs.length := by omega
    subst this
    exact ⟨t, rfl, hf⟩
  | m + 1, k, t, h, hf => by
    obtain ⟨t1, h1, h2⟩ := calls_l17 fs hn k (by omega) fs.length 0 t (by omega) hf
    rw [show ((0 : Nat) : Int) = 0 from rfl] at h1
    rw [alibiref05_Calls_l14, if_pos (decide_eq_true (by omega)), bind_some h1, inc k (by omega)]
    refine calls_l14 fs hn m (k + 1) t1 (by omega) ⟨h2.len, h2.row, h2.snd, fun x y hx hy hv => ?_, fun x y hx hy hxy => by omega⟩
    rcases hv.succ with hv | ⟨hv1, hv2⟩
    · exact h2.cpl x y hx hy hv
    · exact h2.prg x y hx hy (.inl hx) hv1 hv2
theorem row_l8 (p : api_Program) (hc : CallsOk p.funcs) (f : Nat) (hf : f < p.funcs.length) (hl : (List.getD p.funcs f []).length ≤ 65536) (x0 : List (List Int)) (x6 : Int) : ∀ (m i : Nat) (r : List Int), i + m = (List.getD p.funcs f []).length → r.length = p.funcs.length →
    ∃ r', alibiref05_Calls_l8 x0 r p.globals p.locks p.slots p.funcs x6 (f : Int) (i : Int) = some r' ∧ r'.length = p.funcs.length ∧ ∀ b, List.getD r' b 0 = 1 ↔ List.getD r b 0 = 1 ∨ ∃ k, i ≤ k ∧ k < (List.getD p.funcs f []).length ∧ (List.getD (List.getD p.funcs f []) k d_api_Node).kind = 7 ∧ (List.getD (List.getD p.funcs f []) k d_api_Node).arg = (b : Int)
  | 0, i, r, h, hr => by
    rw [alibiref05_Calls_l8, if_pos (decide_eq_true (by omega)), if_pos (decide_eq_true (by omega)), Int.toNat_natCast, if_neg (by simp only [decide_eq_true_eq]; omega)]
    exact ⟨r, rfl, hr, fun b => ⟨.inl, fun h => h.elim id fun ⟨k, h1, h2, _⟩ => by omega⟩⟩
  | m + 1, i, r, h, hr => by
    rw [alibiref05_Calls_l8, if_pos (decide_eq_true (by omega)), if_pos (decide_eq_true (by omega))]
    simp only [Int.toNat_natCast]
    rw [if_pos (decide_eq_true (by omega)), if_pos (decide_eq_true (by omega)), if_pos (decide_eq_true (by omega)), inc i (by omega)]
    by_cases hk : (List.getD (List.getD p.funcs f []) i d_api_Node).kind = 7
    · have harg := hc f i hf (by omega) hk
      obtain ⟨c, hb⟩ : ∃ b : Nat, (List.getD (List.getD p.funcs f []) i d_api_Node).arg = (b : Int) := ⟨_, (Int.toNat_of_nonneg harg.1).symm⟩
      rw [if_pos (eqT hk)]
      simp only [hb] at harg ⊢
      rw [if_pos (decide_eq_true (by omega)), if_pos (decide_eq_true (by omega)), Int.toNat_natCast]
      obtain ⟨r', q1, q2, q3⟩ := row_l8 p hc f hf hl x0 x6 m (i + 1) (r.set c 1) (by omega) (by simpa using hr)
      refine ⟨r', q1, q2, fun b => ?_⟩
      rw [q3]
      have hset : List.getD (r.set c 1) b 0 = 1 ↔ b = c ∨ List.getD r b 0 = 1 := by
        by_cases hbc : b = c
        · subst hbc; simp [List.getD, show b < r.length by omega]
        · have : c ≠ b := fun e => hbc e.symm
          simp [List.getD, List.getElem?_set, this, hbc]
      rw [hset]
      constructor
      · rintro ((rfl | h1) | ⟨k, k1, k2, k3, k4⟩)
        · exact .inr ⟨i, Nat.le_refl _, by omega, hk, hb⟩
        · exact .inl h1
        · exact .inr ⟨k, by omega, k2, k3, k4⟩
      · rintro (h1 | ⟨k, k1, k2, k3, k4⟩)
        · exact .inl (.inr h1)
        · rcases Nat.eq_or_lt_of_le k1 with rfl | k5
          · exact .inl (.inl (by omega))
          · exact .inr ⟨k, k5, k2, k3, k4⟩
    · rw [if_neg (eqF hk)]
      obtain ⟨r', q1, q2, q3⟩ := row_l8 p hc f hf hl x0 x6 m (i + 1) r (by omega) hr
      refine ⟨r', q1, q2, fun b => ?_⟩
      rw [q3]
      constructor
      · rintro (h1 | ⟨k, k1, k2, k3, k4⟩)
        · exact .inl h1
        · exact .inr ⟨k, by omega, k2, k3, k4⟩
      · rintro (h1 | ⟨k, k1, k2, k3, k4⟩)
        · exact .inl h1
        · rcases Nat.eq_or_lt_of_le k1 with rfl | k5
          · exact absurd k3 hk
          · exact .inr ⟨k, k5, k2, k3, k4⟩
theorem getD_snoc {α : Type} (t : List α) (x d : α) (a : Nat) : List.getD (t ++ [x]) a d = if a = t.length then x else List.getD t a d := by
  by_cases h : a = t.length
  · subst h; simp [List.getD]
  · rw [if_neg h]
    rcases Nat.lt_or_ge a t.length with h1 | h1
    · simp [List.getD, List.getElem?_append_left h1]
    · rw [getD_out (by simp; omega), getD_out (by omega)]
theorem rows_l4 (p : api_Program) (hc : CallsOk p.funcs) (hlen : ∀ f, (List.getD p.funcs f []).length ≤ 65536) (hn : p.funcs.length ≤ 65536) : ∀ (m f : Nat) (t : List (List Int)), f + m = p.funcs.length → t.length = f → (∀ x, x < f → (List.getD t x []).length = p.funcs.length) → (∀ x y, x < f → (TB t x y ↔ Edge p.funcs x y)) →
    ∃ t', alibiref05_Calls_l4 t p.globals p.locks p.slots p.funcs (p.funcs.length : Int) (f : Int) = some t' ∧ t'.length = p.funcs.length ∧ (∀ x, x < p.funcs.length → (List.getD t' x []).length = p.funcs.length) ∧ ∀ x y, x < p.funcs.length → (TB t' x y ↔ Edge p.funcs x y)
  | 0, f, t, h, h1, h2, h3 => by
    rw [alibiref05_Calls_l4, if_neg (by simp only [decide_eq_true_eq]; omega)]
    have : f = p.funcs.length := by omega
    subst this
    exact ⟨t, rfl, h1, h2, h3⟩
  | m + 1, f, t, h, h1, h2, h3 => by
    obtain ⟨r, q1, q2, q3⟩ := row_l8 p hc f (by omega) (hlen f) t (p.funcs.length : Int) (List.getD p.funcs f []).length 0 (List.replicate p.funcs.length 0) (by omega) (by simp)
    rw [show ((0 : Nat) : Int) = 0 from rfl] at q1
    rw [alibiref05_Calls_l4, if_pos (decide_eq_true (by omega)), if_pos (decide_eq_true (by omega)), if_pos (decide_eq_true (by simp only [reach]; omega)), Int.toNat_natCast, bind_some q1, if_pos (Nat.ble_eq_true_of_le (by simp only [List.length_singleton, reach]; omega)), inc f (by omega)]
    refine rows_l4 p hc hlen hn m (f + 1) (t ++ [r]) (by omega) (by simp [h1]) (fun x hx => ?_) fun x y hx => ?_
    · rw [getD_snoc]
      split
      · exact q2
      · exact h2 x (by omega)
    · unfold TB
      rw [getD_snoc]
      split
      · rename_i e
        rw [q3]
        have e1 : x = f := by omega
        subst e1
        have e2 : List.getD (List.replicate p.funcs.length (0 : Int)) y 0 = 0 := by
          simp only [List.getD, List.getElem?_replicate]
          split <;> rfl
        rw [e2]
        constructor
        · rintro (h | ⟨k, _, k2, k3, k4⟩)
          · omega
          · exact ⟨k, k2, k3, k4⟩
        · rintro ⟨k, k2, k3, k4⟩
          exact .inr ⟨k, Nat.zero_le _, k2, k3, k4⟩
      · exact h3 x y (by omega)
theorem calls_eq (p : api_Program) (hc : CallsOk p.funcs) (hlen : ∀ f, (List.getD p.funcs f []).length ≤ 65536) (hn : p.funcs.length ≤ 65536) : ∃ t, alibiref05_Calls p = some t ∧ t.length = p.funcs.length ∧ (∀ x, x < p.funcs.length → (List.getD t x []).length = p.funcs.length) ∧ ∀ x y, x < p.funcs.length → (TB t x y ↔ Trans p.funcs x y) := by
  obtain ⟨t, q1, q2, q3, q4⟩ := rows_l4 p hc hlen hn p.funcs.length 0 [] (by omega) rfl (fun x hx => by omega) (fun x y hx => by omega)
  rw [show ((0 : Nat) : Int) = 0 from rfl] at q1
  have hedge : ∀ x y, TB t x y → Edge p.funcs x y := fun x y h => by
    rcases Nat.lt_or_ge x p.funcs.length with hx | hx
    · exact (q4 x y hx).1 h
    · unfold TB at h
      rw [getD_out (l := t) (by omega)] at h
      simp at h
  obtain ⟨t', g1, g2⟩ := calls_l14 p.funcs hn p.funcs.length 0 t (by omega) ⟨q2, q3, fun x y h => ⟨y, hedge x y h, .refl _⟩, fun x y hx hy hv => (q4 x y hx).2 hv.zero, fun x y hx hy h => by omega⟩
  rw [show ((0 : Nat) : Int) = 0 from rfl] at g1
  unfold alibiref05_Calls
  rw [bind_some q1, bind_some g1]
  refine ⟨t', rfl, g2.len, g2.row, fun x y hx => ⟨g2.snd x y, ?_⟩⟩
  rintro ⟨c, h1, h2⟩
  have hv := Via.of_path hc h2 x h1
  have hy : y < p.funcs.length := by
    cases h2 with
    | refl _ => exact (h1.lt hc).2
    | step _ d _ e k =>
      clear hv
      have : ∀ {u v : Nat}, Path p.funcs u v → u < p.funcs.length → v < p.funcs.length := fun h => path_closed (S := fun x => x < p.funcs.length) (fun x _ y e => (e.lt hc).2) h
      exact this k (e.lt hc).2
  exact g2.cpl x y hx hy hv
theorem check_l23 (p : api_Program) (hc : CallsOk p.funcs) (hlen : ∀ f, (List.getD p.funcs f []).length ≤ 65536) (t : List (List Int)) (ht : t.length = p.funcs.length) (hr : ∀ x, x < p.funcs.length → (List.getD t x []).length = p.funcs.length) (htb : ∀ x y, x < p.funcs.length → (TB t x y ↔ Trans p.funcs x y)) (x5 : Int) (f : Nat) (hf : f < p.funcs.length) :
    ∀ (m i : Nat), i + m = (List.getD p.funcs f []).length → alibiref05_Check_l23 t p.globals p.locks p.slots p.funcs x5 (f : Int) (i : Int) = some (match find (badb p.funcs f) i m with | some k => .x0 k 8 | none => .x1)
  | 0, i, h => by
    rw [alibiref05_Check_l23, if_pos (decide_eq_true (by omega)), if_pos (decide_eq_true (by omega)), Int.toNat_natCast, if_neg (by simp only [decide_eq_true_eq]; omega)]
    rfl
  | m + 1, i, h => by
    have ih := check_l23 p hc hlen t ht hr htb x5 f hf m (i + 1) (by omega)
    have hl := hlen f
    rw [alibiref05_Check_l23, if_pos (decide_eq_true (by omega)), if_pos (decide_eq_true (by omega))]
    simp only [Int.toNat_natCast]
    rw [if_pos (decide_eq_true (by omega)), if_pos (decide_eq_true (by omega)), if_pos (decide_eq_true (by omega)), inc i (by omega), ih, find_succ]
    by_cases hk : (List.getD (List.getD p.funcs f []) i d_api_Node).kind = 7
    · have harg := hc f i hf (by omega) hk
      obtain ⟨b, hb⟩ : ∃ b : Nat, (List.getD (List.getD p.funcs f []) i d_api_Node).arg = (b : Int) := ⟨_, (Int.toNat_of_nonneg harg.1).symm⟩
      rw [if_pos (eqT hk)]
      simp only [hb] at harg ⊢
      have hiff : badb p.funcs f i = true ↔ (b = f ∨ TB t b f) := by
        rw [badb_iff]
        constructor
        · rintro ⟨_, a, h1, h2⟩
          have hab : a = b := by omega
          subst hab
          cases h2 with
          | refl _ => exact .inl rfl
          | step _ c _ e k => exact .inr ((htb a f (by omega)).2 ⟨c, e, k⟩)
        · intro h1
          refine ⟨hk, b, hb, ?_⟩
          rcases h1 with rfl | h1
          · exact .refl _
          · obtain ⟨c, e, k⟩ := (htb b f (by omega)).1 h1
            exact .step _ _ _ e k
      by_cases hbf : b = f
      · rw [if_pos (eqT (by omega)), if_pos (hiff.2 (.inl hbf))]
      · have hrb := hr b (by omega)
        rw [if_neg (eqF (by omega)), if_pos (decide_eq_true (by omega)), if_pos (decide_eq_true (by omega)), Int.toNat_natCast, if_pos (decide_eq_true (by omega))]
        by_cases h2 : TB t b f
        · rw [if_pos (eqT h2), if_pos (hiff.2 (.inr h2))]
        · rw [if_neg (eqF h2), if_neg (fun h => (hiff.1 h).elim hbf h2)]
    · rw [if_neg (eqF hk), if_neg (fun h => hk (badb_iff.1 h).1)]
theorem check_l20 (p : api_Program) (hc : CallsOk p.funcs) (hlen : ∀ f, (List.getD p.funcs f []).length ≤ 65536) (hn : p.funcs.length ≤ 65536) (t : List (List Int)) (ht : t.length = p.funcs.length) (hr : ∀ x, x < p.funcs.length → (List.getD t x []).length = p.funcs.length) (htb : ∀ x y, x < p.funcs.length → (TB t x y ↔ Trans p.funcs x y)) :
    ∀ (m i : Nat), i + m = p.funcs.length → alibiref05_Check_l20 t p.globals p.locks p.slots p.funcs (p.funcs.length : Int) (i : Int) = some (match findO (bad2 p.funcs) i m with | some (f, k) => .x0 f k 8 | none => .x1)
  | 0, i, h => by rw [alibiref05_Check_l20, if_neg (by simp only [decide_eq_true_eq]; omega)]; rfl
  | m + 1, i, h => by
    have ih := check_l20 p hc hlen hn t ht hr htb m (i + 1) (by omega)
    have h2 := check_l23 p hc hlen t ht hr htb (p.funcs.length : Int) i (by omega) (List.getD p.funcs i []).length 0 (by omega)
    rw [show ((0 : Nat) : Int) = 0 from rfl] at h2
    rw [alibiref05_Check_l20, if_pos (decide_eq_true (by omega)), bind_some h2, inc i (by omega), ih, findO_succ]
    unfold bad2
    cases find (badb p.funcs i) 0 (List.getD p.funcs i []).length with
    | some k => rfl
    | none => rfl
/-- A program that may be. -/
structure Good (p : api_Program) : Prop where
  globals : 0 ≤ p.globals ∧ p.globals ≤ 16
  locks : 0 ≤ p.locks ∧ p.locks ≤ 16
  slots : 0 ≤ p.slots ∧ p.slots ≤ 8
  funcs : 0 < p.funcs.length ∧ p.funcs.length ≤ 16
  len : ∀ f, f < p.funcs.length → 0 < (List.getD p.funcs f []).length ∧ (List.getD p.funcs f []).length ≤ 64
  node : ∀ f i, f < p.funcs.length → i < (List.getD p.funcs f []).length → NodeOk p (List.getD (List.getD p.funcs f []) i d_api_Node) ((List.getD p.funcs f []).length : Int)
  acyc : ∀ f i, f < p.funcs.length → i < (List.getD p.funcs f []).length → ¬ Bad p.funcs f i
theorem Good.calls {p : api_Program} (h : Good p) : CallsOk p.funcs := fun f i h1 h2 h3 => (h.node f i h1 h2).call h3
theorem Good.le {p : api_Program} (h : Good p) (f : Nat) : (List.getD p.funcs f []).length ≤ 64 := by
  rcases Nat.lt_or_ge f p.funcs.length with h1 | h1
  · exact (h.len f h1).2
  · rw [getD_out h1]; simp
theorem check_eq (p : api_Program) : ∃ r, prog_Check p = some r ∧ alibiref05_Check p = some r ∧ (r.2.2 = 0 → r = (0, 0, 0) ∧ Good p) ∧ 0 ≤ r.2.2 ∧ r.2.2 ≤ 8 := by
  unfold prog_Check alibiref05_Check
  have out : ∀ (c : Bool) (v : Int × Int × Int) (a b : Option (Int × Int × Int)), (¬ c = true → ∃ r, a = some r ∧ b = some r ∧ (r.2.2 = 0 → r = (0, 0, 0) ∧ Good p) ∧ 0 ≤ r.2.2 ∧ r.2.2 ≤ 8) → v.2.2 ≠ 0 → 0 ≤ v.2.2 → v.2.2 ≤ 8 → ∃ r, (if c = true then some v else a) = some r ∧ (if c = true then some v else b) = some r ∧ (r.2.2 = 0 → r = (0, 0, 0) ∧ Good p) ∧ 0 ≤ r.2.2 ∧ r.2.2 ≤ 8 := by
    intro c v a b h hv h0 h8
    by_cases hc : c = true
    · rw [if_pos hc, if_pos hc]; exact ⟨v, rfl, rfl, fun h => absurd h hv, h0, h8⟩
    · rw [if_neg hc, if_neg hc]; exact h hc
  refine out _ _ _ _ (fun c1 => ?_) (by decide) (by decide) (by decide)
  refine out _ _ _ _ (fun c2 => ?_) (by decide) (by decide) (by decide)
  refine out _ _ _ _ (fun c3 => ?_) (by decide) (by decide) (by decide)
  refine out _ _ _ _ (fun c4 => ?_) (by decide) (by decide) (by decide)
  refine out _ _ _ _ (fun c5 => ?_) (by decide) (by decide) (by decide)
  refine out _ _ _ _ (fun c6 => ?_) (by decide) (by decide) (by decide)
  refine out _ _ _ _ (fun c7 => ?_) (by decide) (by decide) (by decide)
  refine out _ _ _ _ (fun c8 => ?_) (by decide) (by decide) (by decide)
  simp only [decide_eq_true_eq, beq_iff_eq] at c1 c2 c3 c4 c5 c6 c7 c8
  have h1 := check_l6 p (by omega) p.funcs.length 0 (by omega)
  have h2 := check_l7 p (by omega) p.funcs.length 0 (by omega)
  rw [show ((0 : Nat) : Int) = 0 from rfl] at h1 h2
  rw [bind_some h1, bind_some h2]
  cases hb : findO (bad1 p) 0 p.funcs.length with
  | some x =>
    obtain ⟨f, a, b⟩ := x
    have hx := (findO_some hb).2.2
    have hb0 : b ≠ 0 ∧ 0 ≤ b ∧ b ≤ 8 := by
      unfold bad1 at hx
      split at hx
      · cases hx; decide
      · split at hx
        · cases hx; decide
        · cases hq : find (fun i => !mayb p (List.getD p.funcs f []) i) 0 (List.getD p.funcs f []).length with
          | none => rw [hq] at hx; cases hx
          | some k => rw [hq] at hx; cases hx; decide
    exact ⟨(f, a, b), rfl, rfl, fun h => absurd h hb0.1, hb0.2⟩
  | none =>
    have hno := findO_none hb
    have hgood1 : ∀ f, f < p.funcs.length → 0 < (List.getD p.funcs f []).length ∧ (List.getD p.funcs f []).length ≤ 64 ∧ ∀ i, i < (List.getD p.funcs f []).length → mayb p (List.getD p.funcs f []) i = true := by
      intro f hf
      have := hno f (Nat.zero_le _) (by omega)
      unfold bad1 at this
      split at this
      · cases this
      · split at this
        · cases this
        · rename_i g1 g2
          refine ⟨by omega, by omega, fun i hi => ?_⟩
          cases hq : find (fun i => !mayb p (List.getD p.funcs f []) i) 0 (List.getD p.funcs f []).length with
          | some k => rw [hq] at this; cases this
          | none =>
            have := find_none hq i (Nat.zero_le _) (by omega)
            simpa using this
    have hnode : ∀ f i, f < p.funcs.length → i < (List.getD p.funcs f []).length → NodeOk p (List.getD (List.getD p.funcs f []) i d_api_Node) ((List.getD p.funcs f []).length : Int) := fun f i hf hi => mayb_ok ((hgood1 f hf).2.2 i hi)
    have hc : CallsOk p.funcs := fun f i g1 g2 g3 => (hnode f i g1 g2).call g3
    have hlen : ∀ f, (List.getD p.funcs f []).length ≤ 65536 := fun f => by
      rcases Nat.lt_or_ge f p.funcs.length with g | g
      · have := (hgood1 f g).2.1; omega
      · rw [getD_out g]; simp
    obtain ⟨t, t1, t2, t3, t4⟩ := calls_eq p hc hlen (by omega)
    have h3 := round_l2 p hc hlen (by omega) p.funcs.length 0 (by omega)
    have h4 := check_l20 p hc hlen (by omega) t t2 t3 t4 p.funcs.length 0 (by omega)
    rw [show ((0 : Nat) : Int) = 0 from rfl] at h3 h4
    unfold prog_round
    rw [h3, t1]
    simp only [bind, Option.bind_some]
    rw [h4]
    simp only [Option.bind_some]
    cases hq : findO (bad2 p.funcs) 0 p.funcs.length with
    | some x => exact ⟨((x.1 : Int), (x.2 : Int), 8), rfl, rfl, (fun h => by cases h), show (0 : Int) ≤ 8 by decide, show (8 : Int) ≤ 8 by decide⟩
    | none =>
      have hno2 := findO_none hq
      refine ⟨(0, 0, 0), rfl, rfl, fun _ => ⟨rfl, by omega, by omega, by omega, by omega, fun f hf => ⟨(hgood1 f hf).1, (hgood1 f hf).2.1⟩, hnode, fun f i hf hi hbad => ?_⟩, by decide, by decide⟩
      have := find_none (hno2 f (Nat.zero_le _) (by omega)) i (Nat.zero_le _) (by omega)
      rw [badb_iff.2 hbad] at this
      cases this
theorem small_eq (p : api_Program) : ∃ b, alibiref05_Small p = some b ∧ (b = true → p.funcs.length ≤ 40 ∧ ∀ f, (List.getD p.funcs f []).length ≤ 100) := by
  unfold alibiref05_Small
  by_cases h : (p.funcs.length : Int) > 40
  · rw [if_pos (decide_eq_true h)]
    exact ⟨false, rfl, (fun h => by cases h)⟩
  · rw [if_neg (by simpa using h)]
    have key : ∀ (m i : Nat), i + m = p.funcs.length → alibiref05_Small_l4 p.globals p.locks p.slots p.funcs (i : Int) = some (.x0 false) ∨ (alibiref05_Small_l4 p.globals p.locks p.slots p.funcs (i : Int) = some .x1 ∧ ∀ f, i ≤ f → (List.getD p.funcs f []).length ≤ 100) := by
      intro m
      induction m with
      | zero =>
        intro i hi
        rw [alibiref05_Small_l4, if_neg (by simp only [decide_eq_true_eq]; omega)]
        exact .inr ⟨rfl, fun f hf => by rw [getD_out (by omega)]; simp⟩
      | succ m ih =>
        intro i hi
        rw [alibiref05_Small_l4, if_pos (decide_eq_true (by omega)), if_pos (decide_eq_true (by omega)), if_pos (decide_eq_true (by omega)), Int.toNat_natCast, inc i (by omega)]
        by_cases h1 : ((List.getD p.funcs i []).length : Int) > 100
        · rw [if_pos (decide_eq_true h1)]; exact .inl rfl
        · rw [if_neg (by simpa using h1)]
          rcases ih (i + 1) (by omega) with h2 | ⟨h2, h3⟩
          · exact .inl h2
          · refine .inr ⟨h2, fun f hf => ?_⟩
            rcases Nat.eq_or_lt_of_le hf with rfl | hf
            · omega
            · exact h3 f hf
    have h1 := key p.funcs.length 0 (by omega)
    rw [show ((0 : Nat) : Int) = 0 from rfl] at h1
    rcases h1 with h2 | ⟨h2, h3⟩
    · rw [bind_some h2]; exact ⟨false, rfl, (fun h => by cases h)⟩
    · rw [bind_some h2]; exact ⟨true, rfl, fun _ => ⟨by omega, fun f => h3 f (Nat.zero_le _)⟩⟩
abbrev W32 := BitVec 32
/-- The set of an id. -/
def one (id : Int) : W32 := if 0 ≤ id ∧ id < 32 then (1#32) <<< id.toNat else 0#32
theorem one_eq (id : Int) : sets_One id = some (one id) := by
  unfold sets_One one
  by_cases h0 : id < 0
  · rw [if_pos (decide_eq_true h0), if_neg (by omega)]
  · rw [if_neg (by simpa using h0)]
    by_cases h1 : id ≥ 32
    · rw [if_pos (decide_eq_true h1), if_neg (by omega)]
    · rw [if_neg (by simpa using h1), if_pos (decide_eq_true (by omega)), if_pos (by omega)]
theorem one_bit (id : Int) (i : Nat) : (one id).getLsbD i = true ↔ id = (i : Int) ∧ i < 32 := by
  unfold one
  split
  · rename_i h
    simp only [BitVec.getLsbD_shiftLeft, Bool.and_eq_true, decide_eq_true_eq, Bool.not_eq_true', decide_eq_false_iff_not, BitVec.getLsbD_one]
    omega
  · rename_i h
    simp
    omega
theorem named_l3 (k : Int) (l : List api_Node) (hl : l.length ≤ 65536) : ∀ (m i : Nat) (x : W32), i + m = l.length → ∃ x', graph_named_l3 k x l (l.length : Int) (i : Int) = some x' ∧ ∀ b, x'.getLsbD b = true ↔ x.getLsbD b = true ∨ (b < 32 ∧ ∃ j, i ≤ j ∧ j < l.length ∧ (List.getD l j d_api_Node).kind = k ∧ (List.getD l j d_api_Node).arg = (b : Int))
  | 0, i, x, h => by
    rw [graph_named_l3, if_neg (by simp only [decide_eq_true_eq]; omega)]
    exact ⟨x, rfl, fun b => ⟨.inl, fun h => h.elim id fun ⟨_, j, h1, h2, _⟩ => by omega⟩⟩
  | m + 1, i, x, h => by
    rw [graph_named_l3, if_pos (decide_eq_true (by omega)), if_pos (decide_eq_true (by omega)), if_pos (decide_eq_true (by omega)), Int.toNat_natCast, inc i (by omega)]
    by_cases hk : (List.getD l i d_api_Node).kind = k
    · rw [if_pos (eqT hk), bind_some (one_eq _)]
      obtain ⟨x', q1, q2⟩ := named_l3 k l hl m (i + 1) (x ||| one (List.getD l i d_api_Node).arg) (by omega)
      refine ⟨x', q1, fun b => ?_⟩
      rw [q2, BitVec.getLsbD_or, Bool.or_eq_true, one_bit]
      constructor
      · rintro ((h1 | ⟨h1, h2⟩) | ⟨h1, j, h2, h3⟩)
        · exact .inl h1
        · exact .inr ⟨h2, i, Nat.le_refl _, by omega, hk, h1⟩
        · exact .inr ⟨h1, j, by omega, h3⟩
      · rintro (h1 | ⟨h1, j, h2, h3, h4, h5⟩)
        · exact .inl (.inl h1)
        · rcases Nat.eq_or_lt_of_le h2 with rfl | h6
          · exact .inl (.inr ⟨h5, h1⟩)
          · exact .inr ⟨h1, j, h6, h3, h4, h5⟩
    · rw [if_neg (eqF hk)]
      obtain ⟨x', q1, q2⟩ := named_l3 k l hl m (i + 1) x (by omega)
      refine ⟨x', q1, fun b => ?_⟩
      rw [q2]
      constructor
      · rintro (h1 | ⟨h1, j, h2, h3⟩)
        · exact .inl h1
        · exact .inr ⟨h1, j, by omega, h3⟩
      · rintro (h1 | ⟨h1, j, h2, h3, h4, h5⟩)
        · exact .inl h1
        · rcases Nat.eq_or_lt_of_le h2 with rfl | h6
          · exact absurd h4 hk
          · exact .inr ⟨h1, j, h6, h3, h4, h5⟩
theorem named_eq (l : List api_Node) (k : Int) (hl : l.length ≤ 65536) : ∃ x, graph_named l k = some x ∧ ∀ b, x.getLsbD b = true ↔ b < 32 ∧ ∃ j, j < l.length ∧ (List.getD l j d_api_Node).kind = k ∧ (List.getD l j d_api_Node).arg = (b : Int) := by
  obtain ⟨x, q1, q2⟩ := named_l3 k l hl l.length 0 0#32 (by omega)
  rw [show ((0 : Nat) : Int) = 0 from rfl] at q1
  unfold graph_named
  rw [bind_some q1]
  exact ⟨x, rfl, fun b => by rw [q2]; simp⟩
theorem callees_l3 (fs : FS) (hn : fs.length ≤ 65536) (hlen : ∀ f, (List.getD fs f []).length ≤ 65536) : ∀ (m f : Nat) (t : List W32), f + m = fs.length → t.length = f → (∀ x b, x < f → ((List.getD t x 0#32).getLsbD b = true ↔ b < 32 ∧ Edge fs x b)) →
    ∃ t', graph_Callees_l3 t fs (fs.length : Int) (f : Int) = some t' ∧ t'.length = fs.length ∧ ∀ x b, x < fs.length → ((List.getD t' x 0#32).getLsbD b = true ↔ b < 32 ∧ Edge fs x b)
  | 0, f, t, h, h1, h2 => by
    rw [graph_Callees_l3, if_neg (by simp only [decide_eq_true_eq]; omega)]
    exact ⟨t, rfl, by omega, fun x b hx => h2 x b (by omega)⟩
  | m + 1, f, t, h, h1, h2 => by
    obtain ⟨x, q1, q2⟩ := named_eq (List.getD fs f []) 7 (hlen f)
    rw [graph_Callees_l3, if_pos (decide_eq_true (by omega)), if_pos (decide_eq_true (by omega)), if_pos (decide_eq_true (by omega)), Int.toNat_natCast, bind_some q1, if_pos (Nat.ble_eq_true_of_le (by simp only [List.length_singleton, reach]; omega)), inc f (by omega)]
    refine callees_l3 fs hn hlen m (f + 1) (t ++ [x]) (by omega) (by simp [h1]) fun y b hy => ?_
    rw [getD_snoc]
    split
    · rename_i e
      rw [q2]
      have : y = f := by omega
      subst this
      exact Iff.rfl
    · exact h2 y b (by omega)
theorem callees_eq (p : api_Program) (hn : p.funcs.length ≤ 65536) (hlen : ∀ f, (List.getD p.funcs f []).length ≤ 65536) : ∃ t, graph_Callees p = some t ∧ t.length = p.funcs.length ∧ ∀ x b, x < p.funcs.length → ((List.getD t x 0#32).getLsbD b = true ↔ b < 32 ∧ Edge p.funcs x b) := by
  obtain ⟨t, q1, q2⟩ := callees_l3 p.funcs hn hlen p.funcs.length 0 [] (by omega) rfl (fun x b hx => by omega)
  rw [show ((0 : Nat) : Int) = 0 from rfl] at q1
  unfold graph_Callees
  rw [bind_some q1]
  exact ⟨t, rfl, q2⟩
theorem refhas_l5 (k : Nat) (hk : k < 32) : ∀ (m i : Nat) (x : BitVec 64), i + m = k → alibiref03_Has_l5 (k : Int) x (i : Int) = some (x >>> m)
  | 0, i, x, h => by
    rw [alibiref03_Has_l5, if_neg (by simp only [decide_eq_true_eq]; omega)]
    simp
  | m + 1, i, x, h => by
    rw [alibiref03_Has_l5, if_pos (decide_eq_true (by omega)), inc i (by omega), refhas_l5 k hk m (i + 1) _ (by omega)]
    congr 1
    apply BitVec.eq_of_toNat_eq
    simp only [BitVec.toNat_ushiftRight, BitVec.toNat_udiv, Nat.shiftRight_eq_div_pow]
    rw [show (2#64).toNat = 2 from rfl, Nat.div_div_eq_div_mul, Nat.pow_succ, Nat.mul_comm]
theorem refhas_eq (m : W32) (id : Int) : alibiref03_Has m id = some (if 0 ≤ id ∧ id < 32 then m.getLsbD id.toNat else false) := by
  unfold alibiref03_Has
  by_cases h0 : id < 0
  · rw [if_pos (decide_eq_true h0), if_neg (by omega)]
  · rw [if_neg (by simpa using h0)]
    by_cases h1 : id > 31
    · rw [if_pos (decide_eq_true h1), if_neg (by omega)]
    · rw [if_neg (by simpa using h1), if_pos (by omega)]
      obtain ⟨k, rfl⟩ : ∃ k : Nat, id = (k : Int) := ⟨id.toNat, by omega⟩
      have := refhas_l5 k (by omega) k 0 (BitVec.setWidth 64 m) (by omega)
      rw [show ((0 : Nat) : Int) = 0 from rfl] at this
      rw [bind_some this, Int.toNat_natCast]
      congr 1
      rw [Bool.eq_iff_iff, beq_iff_eq]
      have e : ((BitVec.setWidth 64 m >>> k) % 2#64).toNat = (m.getLsbD k).toNat := by
        have e1 : (BitVec.setWidth 64 m).toNat = m.toNat := by
          rw [BitVec.toNat_setWidth]
          exact Nat.mod_eq_of_lt (by have := m.isLt; omega)
        rw [BitVec.toNat_umod, BitVec.toNat_ushiftRight, e1]
        show m.toNat >>> k % 2 = (m.toNat.testBit k).toNat
        rw [Nat.toNat_testBit, Nat.shiftRight_eq_div_pow]
      constructor
      · intro h
        rw [h] at e
        cases hm : m.getLsbD k with
        | true => rfl
        | false => rw [hm] at e; cases e
      · intro h
        apply BitVec.eq_of_toNat_eq
        rw [e, h]
        rfl
/-- Numbers that rise, from some on to below 32. -/
def Rises : Nat → List Int → Prop
  | _, [] => True
  | n, x :: l => (n : Int) ≤ x ∧ x < 32 ∧ Rises (x.toNat + 1) l
theorem mask_l7 (l : List Int) (x1 : BitVec 64) (i k : Nat) (hi : i < l.length) (hk : List.getD l i 0 = (k : Int)) (hk32 : k < 32) : ∀ (m j : Nat), j + m = k → alibiref03_Mask_l7 l x1 (i : Int) (BitVec.ofNat 64 (2 ^ j)) (j : Int) = some (BitVec.ofNat 64 (2 ^ k))
  | 0, j, h => by
    rw [alibiref03_Mask_l7, if_pos (decide_eq_true (by omega)), if_pos (decide_eq_true (by omega)), Int.toNat_natCast, hk, if_neg (by simp only [decide_eq_true_eq]; omega)]
    have : j = k := by omega
    rw [this]
  | m + 1, j, h => by
    rw [alibiref03_Mask_l7, if_pos (decide_eq_true (by omega)), if_pos (decide_eq_true (by omega)), Int.toNat_natCast, hk, if_pos (decide_eq_true (by omega)), inc j (by omega)]
    have e : BitVec.ofNat 64 (2 ^ j) * 2#64 = BitVec.ofNat 64 (2 ^ (j + 1)) := by
      rw [Nat.pow_succ]
      apply BitVec.eq_of_toNat_eq
      simp
    rw [e]
    exact mask_l7 l x1 i k hi hk hk32 m (j + 1) (by omega)
theorem mask_l3 (l : List Int) (hl : l.length ≤ 65536) : ∀ (m i n : Nat) (x : Nat), i + m = l.length → Rises n (l.drop i) → n ≤ 32 → x < 2 ^ n → ∃ x', alibiref03_Mask_l3 l (BitVec.ofNat 64 x) (i : Int) = some (BitVec.ofNat 64 x') ∧ x' < 2 ^ 32 ∧ ∀ b, x'.testBit b = true ↔ x.testBit b = true ∨ (b : Int) ∈ l.drop i
  | 0, i, n, x, h, hr, hn, hx => by
    rw [alibiref03_Mask_l3, if_neg (by simp only [decide_eq_true_eq]; omega), List.drop_eq_nil_of_le (by omega)]
    exact ⟨x, rfl, Nat.lt_of_lt_of_le hx (Nat.pow_le_pow_right (by decide) hn), fun b => by simp⟩
  | m + 1, i, n, x, h, hr, hn, hx => by
    have hlt : i < l.length := by omega
    have hd : l.drop i = l[i] :: l.drop (i + 1) := List.drop_eq_getElem_cons hlt
    have hg : List.getD l i 0 = l[i] := by simp [List.getD, hlt]
    rw [hd] at hr ⊢
    obtain ⟨r1, r2, r3⟩ := hr
    obtain ⟨k, hk⟩ : ∃ k : Nat, l[i] = (k : Int) := ⟨l[i].toNat, by omega⟩
    rw [hk] at r1 r2 r3 hg ⊢
    rw [Int.toNat_natCast] at r3
    have h7 := mask_l7 l (BitVec.ofNat 64 x) i k hlt hg (by omega) k 0 (by omega)
    rw [show ((0 : Nat) : Int) = 0 from rfl] at h7
    rw [alibiref03_Mask_l3, if_pos (decide_eq_true (by omega)), bind_some (show alibiref03_Mask_l7 l (BitVec.ofNat 64 x) (i : Int) (1#64) 0 = _ from h7), inc i (by omega), ← BitVec.ofNat_add]
    have hxk : x < 2 ^ k := Nat.lt_of_lt_of_le hx (Nat.pow_le_pow_right (by decide) (by omega))
    obtain ⟨x', q1, q2, q3⟩ := mask_l3 l hl m (i + 1) (k + 1) (x + 2 ^ k) (by omega) r3 (by omega) (by rw [Nat.pow_succ]; omega)
    refine ⟨x', q1, q2, fun b => ?_⟩
    rw [q3]
    have hor : x + 2 ^ k = 2 ^ k ||| x := by
      have := Nat.two_pow_add_eq_or_of_lt hxk 1
      rw [Nat.mul_one] at this
      rw [Nat.add_comm, this]
    rw [hor, Nat.testBit_or, Bool.or_eq_true, Nat.testBit_two_pow, decide_eq_true_eq, List.mem_cons]
    constructor
    · rintro ((h1 | h1) | h1)
      · exact .inr (.inl (by omega))
      · exact .inl h1
      · exact .inr (.inr h1)
    · rintro (h1 | h1 | h1)
      · exact .inl (.inr h1)
      · exact .inl (.inl (by omega))
      · exact .inr h1
theorem mask_eq (l : List Int) (hl : l.length ≤ 65536) (hr : Rises 0 l) : ∃ x, alibiref03_Mask l = some x ∧ ∀ b, x.getLsbD b = true ↔ (b : Int) ∈ l := by
  obtain ⟨x, q1, q2, q3⟩ := mask_l3 l hl l.length 0 0 0 (by omega) (by simpa using hr) (by omega) (by decide)
  unfold alibiref03_Mask
  rw [bind_some (show alibiref03_Mask_l3 l (0#64) 0 = _ from q1)]
  refine ⟨_, rfl, fun b => ?_⟩
  have e : (BitVec.setWidth 32 (BitVec.ofNat 64 x)).toNat = x := by
    rw [BitVec.toNat_setWidth, BitVec.toNat_ofNat]
    omega
  show (BitVec.setWidth 32 (BitVec.ofNat 64 x)).toNat.testBit b = true ↔ _
  rw [e, q3]
  simp
theorem Good.trans {p : api_Program} (h : Good p) (f : Nat) (hf : f < p.funcs.length) : ¬ Trans p.funcs f f := by
  rintro ⟨c, ⟨i, h1, h2, h3⟩, h4⟩
  exact h.acyc f i hf h1 ⟨h2, c, h3, h4⟩
def succ (x : api_Node) : List Int := if x.kind = 9 then [] else if x.kind = 8 then [x.next, x.alt] else [x.next]
theorem succ_eq (x : api_Node) : prog_Succ x = some (succ x) := by
  unfold prog_Succ succ
  by_cases h : x.kind = 9
  · rw [if_pos (eqT h), if_pos h]
  · rw [if_neg (eqF h), if_neg h]
    by_cases h8 : x.kind = 8
    · rw [if_pos (eqT h8), if_pos h8]
    · rw [if_neg (eqF h8), if_neg h8]
theorem refsucc_eq (x : api_Node) : alibiref05_Succ x = some (succ x) := by
  unfold alibiref05_Succ succ
  by_cases h : x.kind = 9
  · rw [if_pos (eqT h), if_pos h]
  · rw [if_neg (eqF h), if_neg h]
    by_cases h8 : x.kind = 8
    · rw [if_pos (eqT h8), if_pos h8]
    · rw [if_neg (eqF h8), if_neg h8]
theorem succ_len (x : api_Node) : (succ x).length ≤ 2 := by
  unfold succ
  split
  · simp
  · split <;> simp
theorem succ_ok {p : api_Program} {x : api_Node} {n : Int} (h : NodeOk p x n) (hn : 1 ≤ n) : ∀ y ∈ succ x, 0 ≤ y ∧ y < n := by
  intro y hy
  unfold succ at hy
  split at hy
  · cases hy
  · rename_i h9
    have h1 := h.next h9
    split at hy
    · rename_i h8
      have h2 := h.alt h8
      simp at hy
      rcases hy with rfl | rfl <;> omega
    · simp at hy
      subst hy; omega
/-- A node leads to a node. -/
def To (l : List api_Node) (i y : Nat) : Prop := i < l.length ∧ y < l.length ∧ (y : Int) ∈ succ (List.getD l i d_api_Node)
/-- A node is come to from behind some. -/
inductive Aft (l : List api_Node) (fr : List Int) : Nat → Prop
  | first {i y : Nat} : (i : Int) ∈ fr → To l i y → Aft l fr y
  | more {i y : Nat} : Aft l fr i → To l i y → Aft l fr y
theorem sn_ext : ∀ {a b : List Bool}, a.length = b.length → (∀ y, Sn a y ↔ Sn b y) → a = b
  | [], [], _, _ => rfl
  | x :: a, y :: b, hl, h => by
    have h0 := h 0
    have ih := sn_ext (a := a) (b := b) (by simpa using hl) fun y => h (y + 1)
    unfold Sn at h0
    simp only [List.getD_cons_zero] at h0
    rw [ih, Bool.eq_iff_iff.2 h0]
theorem after_l2 (l : List api_Node) (hl : l.length ≤ 65536) (js : List Int) (hj : js.length ≤ 65536) : ∀ (m i : Nat) (s : List Bool) (t : List Int), i + m = js.length → s.length = l.length → t.length + s.count false ≤ 65536 → ∃ s' t', graph_After_1_l2 s t js l (js.length : Int) (i : Int) = some (s', t') ∧ s'.length = l.length ∧ t'.length + s'.count false = t.length + s.count false ∧ (∀ y, Sn s' y ↔ Sn s y ∨ (y < l.length ∧ (y : Int) ∈ js.drop i)) ∧ (∀ z, z ∈ t → z ∈ t') ∧ (∀ y, Sn s' y → Sn s y ∨ (y : Int) ∈ t') ∧ (∀ z, z ∈ t' → z ∈ t ∨ ∃ y : Nat, z = (y : Int) ∧ Sn s' y)
  | 0, i, s, t, h, hs, hc => by
    rw [graph_After_1_l2, if_neg (by simp only [decide_eq_true_eq]; omega), List.drop_eq_nil_of_le (by omega)]
    exact ⟨s, t, rfl, hs, rfl, fun y => by simp, fun z h => h, fun y h => .inl h, fun z h => .inl h⟩
  | m + 1, i, s, t, h, hs, hc => by
    have hlt : i < js.length := by omega
    have hd : js.drop i = js[i] :: js.drop (i + 1) := List.drop_eq_getElem_cons hlt
    have hg : List.getD js i 0 = js[i] := by simp [List.getD, hlt]
    rw [graph_After_1_l2, if_pos (decide_eq_true (by omega)), if_pos (decide_eq_true (by omega)), if_pos (decide_eq_true (by omega)), Int.toNat_natCast, hg, hd, inc i (by omega)]
    have skip : ¬ (∃ y : Nat, js[i] = (y : Int) ∧ y < l.length ∧ ¬ Sn s y) → ∃ s' t', graph_After_1_l2 s t js l (js.length : Int) ((i + 1 : Nat) : Int) = some (s', t') ∧ s'.length = l.length ∧ t'.length + s'.count false = t.length + s.count false ∧ (∀ y, Sn s' y ↔ Sn s y ∨ (y < l.length ∧ (y : Int) ∈ js[i] :: js.drop (i + 1))) ∧ (∀ z, z ∈ t → z ∈ t') ∧ (∀ y, Sn s' y → Sn s y ∨ (y : Int) ∈ t') ∧ (∀ z, z ∈ t' → z ∈ t ∨ ∃ y : Nat, z = (y : Int) ∧ Sn s' y) := by
      intro hno
      obtain ⟨s', t', q1, q2, q3, q4, q5, q6, q7⟩ := after_l2 l hl js hj m (i + 1) s t (by omega) hs hc
      refine ⟨s', t', q1, q2, q3, fun y => ?_, q5, q6, q7⟩
      rw [q4, List.mem_cons]
      constructor
      · rintro (h1 | ⟨h1, h2⟩)
        · exact .inl h1
        · exact .inr ⟨h1, .inr h2⟩
      · rintro (h1 | ⟨h1, h2 | h2⟩)
        · exact .inl h1
        · exact .inl (Classical.byContradiction fun h3 => hno ⟨y, h2.symm, h1, h3⟩)
        · exact .inr ⟨h1, h2⟩
    by_cases h0 : 0 ≤ js[i]
    · rw [if_pos (decide_eq_true (by omega))]
      by_cases h1 : js[i] < (l.length : Int)
      · obtain ⟨x, hx⟩ : ∃ x : Nat, js[i] = (x : Int) := ⟨js[i].toNat, by omega⟩
        rw [if_pos (decide_eq_true (by omega)), if_pos (decide_eq_true (by omega)), if_pos (decide_eq_true (by omega))]
        rw [hx] at h1 skip ⊢
        rw [Int.toNat_natCast x]
        by_cases hsx : Sn s x
        · rw [if_neg (by rw [show List.getD s x false = true from hsx]; decide)]
          refine skip ?_
          rintro ⟨y, h2, h3, h4⟩
          have : y = x := by omega
          subst this
          exact h4 hsx
        · have hf : List.getD s x false = false := by
            unfold Sn at hsx
            simpa using hsx
          have hcs := count_set_true (s := s) (a := x) (by omega) hsx
          rw [if_pos (by rw [hf]; rfl), if_pos (Nat.ble_eq_true_of_le (by simp only [List.length_singleton, reach]; omega))]
          obtain ⟨s', t', q1, q2, q3, q4, q5, q6, q7⟩ := after_l2 l hl js hj m (i + 1) (s.set x true) (t ++ [(x : Int)]) (by omega) (by simpa using hs) (by rw [List.length_append, List.length_singleton]; omega)
          refine ⟨s', t', q1, q2, by rw [q3, List.length_append, List.length_singleton]; omega, fun y => ?_, fun z hz => q5 z (List.mem_append_left _ hz), fun y hy => ?_, fun z hz => ?_⟩
          · rw [q4, Sn_set (by omega), List.mem_cons]
            constructor
            · rintro ((rfl | h2) | ⟨h2, h3⟩)
              · exact .inr ⟨by omega, .inl rfl⟩
              · exact .inl h2
              · exact .inr ⟨h2, .inr h3⟩
            · rintro (h2 | ⟨h2, h3 | h3⟩)
              · exact .inl (.inr h2)
              · exact .inl (.inl (by omega))
              · exact .inr ⟨h2, h3⟩
          · rcases q6 y hy with h2 | h2
            · rcases (Sn_set (by omega)).1 h2 with rfl | h3
              · exact .inr (q5 _ (by simp))
              · exact .inl h3
            · exact .inr h2
          · rcases q7 z hz with h2 | h2
            · rcases List.mem_append.1 h2 with h3 | h3
              · exact .inl h3
              · rw [List.mem_singleton] at h3
                exact .inr ⟨x, h3, (q4 x).2 (.inl ((Sn_set (by omega)).2 (.inl rfl)))⟩
            · exact .inr h2
      · rw [if_neg (by simp only [decide_eq_true_eq]; omega)]
        exact skip (by rintro ⟨y, h2, h3, _⟩; omega)
    · rw [if_neg (by simp only [decide_eq_true_eq]; omega)]
      exact skip (by rintro ⟨y, h2, h3, _⟩; omega)
theorem after_same (l : List api_Node) (js : List Int) (hj : js.length ≤ 65536) : ∀ (m i : Nat) (s : List Bool) (t : List Int), i + m = js.length → graph_After_1_1_l2 s t js l (js.length : Int) (i : Int) = graph_After_1_l2 s t js l (js.length : Int) (i : Int)
  | 0, i, s, t, h => by
    rw [graph_After_1_l2, graph_After_1_1_l2, if_neg (by simp only [decide_eq_true_eq]; omega), if_neg (by simp only [decide_eq_true_eq]; omega)]
  | m + 1, i, s, t, h => by
    have ih := fun s t => after_same l js hj m (i + 1) s t (by omega)
    rw [graph_After_1_l2, graph_After_1_1_l2, inc i (by omega)]
    simp only [ih]
/-- What is added by a node. -/
structure Added (l : List api_Node) (z : Int) (s : List Bool) (t : List Int) (s' : List Bool) (t' : List Int) : Prop where
  len : s'.length = l.length
  cnt : t'.length + s'.count false = t.length + s.count false
  iff : ∀ y, Sn s' y ↔ Sn s y ∨ ∃ i : Nat, z = (i : Int) ∧ To l i y
  keep : ∀ x, x ∈ t → x ∈ t'
  new : ∀ y, Sn s' y → Sn s y ∨ (y : Int) ∈ t'
  old : ∀ x, x ∈ t' → x ∈ t ∨ ∃ y : Nat, x = (y : Int) ∧ Sn s' y
theorem Added.none {l : List api_Node} {z : Int} {s : List Bool} {t : List Int} (hs : s.length = l.length) (h : ∀ i : Nat, z = (i : Int) → ¬ i < l.length) : Added l z s t s t :=
  ⟨hs, rfl, fun y => ⟨.inl, fun h1 => h1.elim (fun h => h) fun ⟨i, e, h2⟩ => absurd h2.1 (h i e)⟩, fun x h => h, fun y h => .inl h, fun x h => .inl h⟩
theorem add1_eq (l : List api_Node) (hl : l.length ≤ 65536) (s : List Bool) (t : List Int) (z : Int) (hs : s.length = l.length) (hc : t.length + s.count false ≤ 65536) : ∃ s' t', graph_After_1 s t l z = some (s', t') ∧ Added l z s t s' t' := by
  unfold graph_After_1
  by_cases h0 : z < 0
  · rw [if_pos (decide_eq_true h0)]
    exact ⟨s, t, rfl, .none hs fun i e => by omega⟩
  · rw [if_neg (by simp only [decide_eq_true_eq]; omega)]
    by_cases h1 : z ≥ (l.length : Int)
    · rw [if_pos (decide_eq_true h1)]
      exact ⟨s, t, rfl, .none hs fun i e => by omega⟩
    · obtain ⟨i, rfl⟩ : ∃ x : Nat, z = (x : Int) := ⟨z.toNat, by omega⟩
      have hle := succ_len (List.getD l i d_api_Node)
      obtain ⟨s', t', q1, q2, q3, q4, q5, q6, q7⟩ := after_l2 l hl (succ (List.getD l i d_api_Node)) (by omega) _ 0 s t (Nat.zero_add _) hs hc
      rw [show ((0 : Nat) : Int) = 0 from rfl] at q1
      rw [if_neg (by simp only [decide_eq_true_eq]; omega), if_pos (decide_eq_true (by omega)), if_pos (decide_eq_true (by omega)), Int.toNat_natCast, bind_some (succ_eq _), bind_some q1]
      refine ⟨s', t', rfl, q2, q3, fun y => ?_, q5, q6, q7⟩
      rw [q4, List.drop_zero]
      constructor
      · rintro (h2 | ⟨h2, h3⟩)
        · exact .inl h2
        · exact .inr ⟨i, rfl, by omega, h2, h3⟩
      · rintro (h2 | ⟨k, h2, h3, h4, h5⟩)
        · exact .inl h2
        · have : k = i := by omega
          subst this
          exact .inr ⟨h4, h5⟩
theorem add11_eq (l : List api_Node) (hl : l.length ≤ 65536) (s : List Bool) (t : List Int) (k : Nat) (hk : k ≤ t.length) (z : Int) (hs : s.length = l.length) (hc : (t.take k).length + s.count false ≤ 65536) : ∃ s' t', graph_After_1_1 s t l k z = some (s', t') ∧ Added l z s (t.take k) s' t' := by
  obtain ⟨s', t', q1, q2⟩ := add1_eq l hl s (t.take k) z hs hc
  refine ⟨s', t', ?_, q2⟩
  rw [← q1]
  unfold graph_After_1_1 graph_After_1
  rw [if_pos (decide_eq_true hk)]
  by_cases h0 : z < 0
  · have c0 : decide (z < 0) = true := decide_eq_true h0
    rw [if_pos c0, if_pos c0]
  · have c0 : ¬ decide (z < 0) = true := by simpa using h0
    rw [if_neg c0, if_neg c0]
    by_cases h1 : z ≥ (l.length : Int)
    · have c1 : decide (z ≥ (l.length : Int)) = true := decide_eq_true h1
      rw [if_pos c1, if_pos c1]
    · have c1 : ¬ decide (z ≥ (l.length : Int)) = true := by simpa using h1
      have c2 : decide ((0 : Int) ≤ z) = true := decide_eq_true (by omega)
      have c3 : decide (z < (l.length : Int)) = true := decide_eq_true (by omega)
      rw [if_neg c1, if_neg c1, if_pos c2, if_pos c2, if_pos c3, if_pos c3, bind_some (succ_eq _), bind_some (succ_eq _)]
      have hle := succ_len (List.getD l z.toNat d_api_Node)
      have := after_same l (succ (List.getD l z.toNat d_api_Node)) (by omega) _ 0 s (t.take k) (Nat.zero_add _)
      rw [show ((0 : Nat) : Int) = 0 from rfl] at this
      rw [this]
theorem after_l5 (l : List api_Node) (hl : l.length ≤ 65536) (fr : List Int) (hf : fr.length ≤ 65536) : ∀ (m i : Nat) (s : List Bool) (t : List Int), i + m = fr.length → s.length = l.length → t.length + s.count false ≤ 65536 → (∀ y, Sn s y → (y : Int) ∈ t) → (∀ z, z ∈ t → ∃ y : Nat, z = (y : Int) ∧ Sn s y) → ∃ s' t', graph_After_l5 s t l fr (fr.length : Int) (i : Int) = some (s', t') ∧ s'.length = l.length ∧ t'.length + s'.count false = t.length + s.count false ∧ (∀ y, Sn s' y ↔ Sn s y ∨ ∃ x : Nat, (x : Int) ∈ fr.drop i ∧ To l x y) ∧ (∀ y, Sn s' y → (y : Int) ∈ t') ∧ (∀ z, z ∈ t' → ∃ y : Nat, z = (y : Int) ∧ Sn s' y)
  | 0, i, s, t, h, hs, hc, ha, hb => by
    rw [graph_After_l5, if_neg (by simp only [decide_eq_true_eq]; omega), List.drop_eq_nil_of_le (by omega)]
    exact ⟨s, t, rfl, hs, rfl, fun y => by simp, ha, hb⟩
  | m + 1, i, s, t, h, hs, hc, ha, hb => by
    have hlt : i < fr.length := by omega
    have hd : fr.drop i = fr[i] :: fr.drop (i + 1) := List.drop_eq_getElem_cons hlt
    have hg : List.getD fr i 0 = fr[i] := by simp [List.getD, hlt]
    obtain ⟨s1, t1, q1, q2⟩ := add1_eq l hl s t fr[i] hs hc
    have c1 := q2.cnt
    rw [graph_After_l5, if_pos (decide_eq_true (by omega)), if_pos (decide_eq_true (by omega)), if_pos (decide_eq_true (by omega)), Int.toNat_natCast, hg, hd, inc i (by omega), bind_some q1]
    obtain ⟨s', t', k1, k2, k3, k4, k5, k6⟩ := after_l5 l hl fr hf m (i + 1) s1 t1 (by omega) q2.len (by omega) (fun y hy => (q2.new y hy).elim (fun h => q2.keep _ (ha y h)) fun h => h) (fun z hz => (q2.old z hz).elim (fun h => by
      obtain ⟨y, e, h1⟩ := hb z h
      exact ⟨y, e, (q2.iff y).2 (.inl h1)⟩) fun h => h)
    refine ⟨s', t', k1, k2, by omega, fun y => ?_, k5, k6⟩
    rw [k4, q2.iff]
    constructor
    · rintro ((h1 | ⟨x, h1, h2⟩) | ⟨x, h1, h2⟩)
      · exact .inl h1
      · exact .inr ⟨x, by rw [← h1]; exact List.mem_cons_self, h2⟩
      · exact .inr ⟨x, List.mem_cons_of_mem _ h1, h2⟩
    · rintro (h1 | ⟨x, h1, h2⟩)
      · exact .inl (.inl h1)
      · rcases List.mem_cons.1 h1 with h3 | h3
        · exact .inl (.inr ⟨x, h3.symm, h2⟩)
        · exact .inr ⟨x, h3, h2⟩
theorem take_last {t : List Int} (h : t ≠ []) : ∃ t0 z, t = t0 ++ [z] := ⟨t.dropLast, t.getLast h, (List.dropLast_concat_getLast h).symm⟩
theorem after_l9 (l : List api_Node) (hl : l.length ≤ 65536) (P : Nat → Prop) (hP : ∀ x y, P x → To l x y → P y) : ∀ (n : Nat) (s : List Bool) (t : List Int), t.length + s.count false ≤ n → n ≤ 65536 → s.length = l.length → (∀ z, z ∈ t → ∃ y : Nat, z = (y : Int) ∧ Sn s y) → (∀ y, Sn s y → P y) → (∀ x y, Sn s x → (x : Int) ∉ t → To l x y → Sn s y) → ∃ s', graph_After_l9 s t l = some s' ∧ s'.length = l.length ∧ (∀ y, Sn s y → Sn s' y) ∧ (∀ y, Sn s' y → P y) ∧ ∀ x y, Sn s' x → To l x y → Sn s' y
  | n, s, t, hn, hb, hs, ht, hsP, hcl => by
    by_cases he : t = []
    · subst he
      rw [graph_After_l9, if_neg (by simp)]
      exact ⟨s, rfl, hs, fun y h => h, hsP, fun x y hx e => hcl x y hx (by simp) e⟩
    · obtain ⟨t0, z, rfl⟩ := take_last he
      rw [List.length_append, List.length_singleton] at hn
      have hsub : iSub (((t0 ++ [z]).length : Nat) : Int) 1 = (t0.length : Int) := by
        rw [List.length_append, List.length_singleton, iSub_eq (by omega) (by omega)]
        omega
      have htk : (t0 ++ [z]).take t0.length = t0 := by simp
      have hgz : List.getD (t0 ++ [z]) t0.length 0 = z := by simp [List.getD]
      obtain ⟨s1, t1, q1, q2⟩ := add11_eq l hl s (t0 ++ [z]) t0.length (by simp) z hs (by rw [htk]; omega)
      rw [htk] at q2
      have c1 := q2.cnt
      have hlen : (t0 ++ [z]).length = t0.length + 1 := by simp
      rw [graph_After_l9, hsub, if_pos (decide_eq_true (by omega)), if_pos (decide_eq_true (by omega)), if_pos (decide_eq_true (by omega)), if_pos (decide_eq_true (by omega)), Int.toNat_natCast, hgz, bind_some q1]
      obtain ⟨n', rfl⟩ : ∃ n', n = n' + 1 := ⟨n - 1, by omega⟩
      obtain ⟨s', k1, k2, k3, k4, k5⟩ := after_l9 l hl P hP n' s1 t1 (by omega) (by omega) q2.len (fun x hx => (q2.old x hx).elim (fun h => by
        obtain ⟨y, e, h1⟩ := ht x (List.mem_append_left _ h)
        exact ⟨y, e, (q2.iff y).2 (.inl h1)⟩) fun h => h) (fun y hy => ((q2.iff y).1 hy).elim (hsP y) fun ⟨i, e, h1⟩ => by
          obtain ⟨y', e', h2⟩ := ht z (by simp)
          have : y' = i := by omega
          subst this
          exact hP _ _ (hsP _ h2) h1) (fun x y hx hnx e => by
        rcases q2.new x hx with h1 | h1
        · by_cases hxt : (x : Int) ∈ t0 ++ [z]
          · rcases List.mem_append.1 hxt with h2 | h2
            · exact absurd (q2.keep _ h2) hnx
            · rw [List.mem_singleton] at h2
              exact (q2.iff y).2 (.inr ⟨x, h2.symm, e⟩)
          · exact (q2.iff y).2 (.inl (hcl x y h1 hxt e))
        · exact absurd h1 hnx)
      exact ⟨s', k1, k2, fun y hy => k3 y ((q2.iff y).2 (.inl hy)), k4, k5⟩
theorem after_eq (l : List api_Node) (hl : l.length ≤ 65536) (fr : List Int) (hf : fr.length ≤ 65536) : ∃ a, graph_After l fr = some a ∧ a.length = l.length ∧ ∀ y, Sn a y ↔ Aft l fr y := by
  have hcnt := List.count_le_length (a := false) (l := List.replicate l.length false)
  rw [List.length_replicate] at hcnt
  obtain ⟨s1, t1, q1, q2, q3, q4, q5, q6⟩ := after_l5 l hl fr hf fr.length 0 (List.replicate l.length false) [] (Nat.zero_add _) (by simp) (by simp only [List.length_nil]; omega) (fun y h => absurd h (sn_replicate _ _)) (fun z h => by cases h)
  rw [show ((0 : Nat) : Int) = 0 from rfl] at q1
  simp only [List.length_nil] at q3
  obtain ⟨s', k1, k2, k3, k4, k5⟩ := after_l9 l hl (Aft l fr) (fun x y h e => .more h e) 65536 s1 t1 (by omega) (Nat.le_refl _) q2 q6 (fun y hy => by
    rcases (q4 y).1 hy with h | ⟨x, h1, h2⟩
    · exact absurd h (sn_replicate _ _)
    · exact .first (by simpa using h1) h2) (fun x y hx hn _ => absurd (q5 x hx) hn)
  unfold graph_After
  rw [if_pos (decide_eq_true (by omega)), if_pos (decide_eq_true (by simp only [reach]; omega)), Int.toNat_natCast, bind_some q1, bind_some k1]
  refine ⟨s', rfl, k2, fun y => ⟨k4 y, fun h => ?_⟩⟩
  induction h with
  | first h1 h2 => exact k3 _ ((q4 _).2 (.inr ⟨_, by simpa using h1, h2⟩))
  | more _ h2 ih => exact k5 _ _ ih h2
theorem refhas6_l2 (l : List Int) (hl : l.length ≤ 65536) (z : Int) : ∀ (m i : Nat), i + m = l.length → alibiref06_has_l2 l z (i : Int) = some (if z ∈ l.drop i then .x0 true else .x1)
  | 0, i, h => by
    rw [alibiref06_has_l2, if_neg (by simp only [decide_eq_true_eq]; omega), List.drop_eq_nil_of_le (by omega), if_neg (by simp)]
  | m + 1, i, h => by
    have hlt : i < l.length := by omega
    have hd : l.drop i = l[i] :: l.drop (i + 1) := List.drop_eq_getElem_cons hlt
    have hg : List.getD l i 0 = l[i] := by simp [List.getD, hlt]
    rw [alibiref06_has_l2, if_pos (decide_eq_true (by omega)), if_pos (decide_eq_true (by omega)), if_pos (decide_eq_true (by omega)), Int.toNat_natCast, hg, hd, inc i (by omega)]
    by_cases e : l[i] = z
    · rw [if_pos (eqT e), if_pos (by rw [e]; simp)]
    · rw [if_neg (eqF e), refhas6_l2 l hl z m (i + 1) (by omega)]
      have : z ∈ l[i] :: l.drop (i + 1) ↔ z ∈ l.drop (i + 1) := by
        rw [List.mem_cons]
        exact ⟨fun h => h.elim (fun h => absurd h.symm e) fun h => h, .inr⟩
      simp only [this]
theorem refhas6_eq (l : List Int) (hl : l.length ≤ 65536) (z : Int) : alibiref06_has l z = some (decide (z ∈ l)) := by
  have q := refhas6_l2 l hl z l.length 0 (Nat.zero_add _)
  rw [show ((0 : Nat) : Int) = 0 from rfl, List.drop_zero] at q
  unfold alibiref06_has
  rw [bind_some q]
  by_cases h : z ∈ l
  · rw [if_pos h]; simp [h]
  · rw [if_neg h]; simp [h]
theorem refafter_l11 (l : List api_Node) (hl : l.length ≤ 65536) (js : List Int) (hj : js.length ≤ 65536) (x3 : List Int) (x4 x5 : Int) : ∀ (m i : Nat) (s : List Bool), i + m = js.length → s.length = l.length → ∃ s', alibiref06_After_l11 s js l x3 x4 x5 (i : Int) = some s' ∧ s'.length = l.length ∧ ∀ y, Sn s' y ↔ Sn s y ∨ (y < l.length ∧ (y : Int) ∈ js.drop i)
  | 0, i, s, h, hs => by
    rw [alibiref06_After_l11, if_neg (by simp only [decide_eq_true_eq]; omega), List.drop_eq_nil_of_le (by omega)]
    exact ⟨s, rfl, hs, fun y => by simp⟩
  | m + 1, i, s, h, hs => by
    have hlt : i < js.length := by omega
    have hd : js.drop i = js[i] :: js.drop (i + 1) := List.drop_eq_getElem_cons hlt
    have hg : List.getD js i 0 = js[i] := by simp [List.getD, hlt]
    rw [alibiref06_After_l11, if_pos (decide_eq_true (by omega)), if_pos (decide_eq_true (by omega)), if_pos (decide_eq_true (by omega)), Int.toNat_natCast, hg, hd, inc i (by omega)]
    have skip : ¬ (∃ y : Nat, js[i] = (y : Int) ∧ y < l.length) → ∃ s', alibiref06_After_l11 s js l x3 x4 x5 ((i + 1 : Nat) : Int) = some s' ∧ s'.length = l.length ∧ ∀ y, Sn s' y ↔ Sn s y ∨ (y < l.length ∧ (y : Int) ∈ js[i] :: js.drop (i + 1)) := by
      intro hno
      obtain ⟨s', q1, q2, q3⟩ := refafter_l11 l hl js hj x3 x4 x5 m (i + 1) s (by omega) hs
      refine ⟨s', q1, q2, fun y => ?_⟩
      rw [q3, List.mem_cons]
      constructor
      · rintro (h1 | ⟨h1, h2⟩)
        · exact .inl h1
        · exact .inr ⟨h1, .inr h2⟩
      · rintro (h1 | ⟨h1, h2 | h2⟩)
        · exact .inl h1
        · exact absurd ⟨y, h2.symm, h1⟩ hno
        · exact .inr ⟨h1, h2⟩
    by_cases h0 : 0 ≤ js[i]
    · rw [if_pos (decide_eq_true (by omega))]
      by_cases h1 : js[i] < (l.length : Int)
      · obtain ⟨x, hx⟩ : ∃ x : Nat, js[i] = (x : Int) := ⟨js[i].toNat, by omega⟩
        rw [if_pos (decide_eq_true (by omega)), if_pos (decide_eq_true (by omega)), if_pos (decide_eq_true (by omega))]
        rw [hx] at h1 ⊢
        rw [Int.toNat_natCast x]
        obtain ⟨s', q1, q2, q3⟩ := refafter_l11 l hl js hj x3 x4 x5 m (i + 1) (s.set x true) (by omega) (by simpa using hs)
        refine ⟨s', q1, q2, fun y => ?_⟩
        rw [q3, Sn_set (by omega), List.mem_cons]
        constructor
        · rintro ((rfl | h2) | ⟨h2, h3⟩)
          · exact .inr ⟨by omega, .inl rfl⟩
          · exact .inl h2
          · exact .inr ⟨h2, .inr h3⟩
        · rintro (h2 | ⟨h2, h3 | h3⟩)
          · exact .inl (.inr h2)
          · exact .inl (.inl (by omega))
          · exact .inr ⟨h2, h3⟩
      · rw [if_neg (by simp only [decide_eq_true_eq]; omega)]
        exact skip (by rintro ⟨y, h2, h3⟩; omega)
    · rw [if_neg (by simp only [decide_eq_true_eq]; omega)]
      exact skip (by rintro ⟨y, h2, h3⟩; omega)
/-- A node from which is gone on. -/
def Goes (fr : List Int) (s : List Bool) (x : Nat) : Prop := (x : Int) ∈ fr ∨ Sn s x
theorem refafter_l6 (l : List api_Node) (hl : l.length ≤ 65536) (fr : List Int) (hf : fr.length ≤ 65536) (x3 : Int) : ∀ (m i : Nat) (s : List Bool), i + m = l.length → s.length = l.length → ∃ s', alibiref06_After_l6 s l fr x3 (i : Int) = some s' ∧ s'.length = l.length ∧ (∀ y, Sn s y → Sn s' y) ∧ (∀ Q : Nat → Prop, (∀ x y : Nat, ((x : Int) ∈ fr ∨ Q x) → To l x y → Q y) → (∀ y, Sn s y → Q y) → ∀ y, Sn s' y → Q y) ∧ ∀ x y, i ≤ x → Goes fr s x → To l x y → Sn s' y
  | 0, i, s, h, hs => by
    rw [alibiref06_After_l6, if_neg (by simp only [decide_eq_true_eq]; omega)]
    exact ⟨s, rfl, hs, fun y h => h, fun Q _ h => h, fun x y hx _ e => by have := e.1; omega⟩
  | m + 1, i, s, h, hs => by
    have hle := succ_len (List.getD l i d_api_Node)
    rw [alibiref06_After_l6, if_pos (decide_eq_true (by omega)), bind_some (refhas6_eq fr hf _), inc i (by omega)]
    have go : Goes fr s i → ∃ s', (bind (alibiref06_After_l11 s (succ (List.getD l i d_api_Node)) l fr x3 (i : Int) 0) fun v => alibiref06_After_l6 v l fr x3 ((i + 1 : Nat) : Int)) = some s' ∧ s'.length = l.length ∧ (∀ y, Sn s y → Sn s' y) ∧ (∀ Q : Nat → Prop, (∀ x y : Nat, ((x : Int) ∈ fr ∨ Q x) → To l x y → Q y) → (∀ y, Sn s y → Q y) → ∀ y, Sn s' y → Q y) ∧ ∀ x y, i ≤ x → Goes fr s x → To l x y → Sn s' y := by
      intro hgo
      obtain ⟨s1, q1, q2, q3⟩ := refafter_l11 l hl (succ (List.getD l i d_api_Node)) (by omega) fr x3 (i : Int) _ 0 s (Nat.zero_add _) hs
      rw [show ((0 : Nat) : Int) = 0 from rfl] at q1
      rw [bind_some q1]
      obtain ⟨s', k1, k2, k3, k4, k5⟩ := refafter_l6 l hl fr hf x3 m (i + 1) s1 (by omega) q2
      refine ⟨s', k1, k2, fun y hy => k3 y ((q3 y).2 (.inl hy)), fun Q hQ hs1 => k4 Q hQ fun y hy => ?_, fun x y hx hg e => ?_⟩
      · rcases (q3 y).1 hy with h1 | ⟨h1, h2⟩
        · exact hs1 y h1
        · exact hQ i y (hgo.elim .inl fun h => .inr (hs1 i h)) ⟨by omega, h1, by simpa using h2⟩
      · rcases Nat.eq_or_lt_of_le hx with rfl | hx
        · exact k3 y ((q3 y).2 (.inr ⟨e.2.1, by simpa using e.2.2⟩))
        · exact k5 x y hx (hg.elim .inl fun h => .inr ((q3 x).2 (.inl h))) e
    by_cases hin : (i : Int) ∈ fr
    · rw [if_neg (by simp [hin]), if_pos (decide_eq_true (by omega)), if_pos (decide_eq_true (by omega)), Int.toNat_natCast, bind_some (refsucc_eq _)]
      exact go (.inl hin)
    · rw [if_pos (by simp [hin]), if_pos (decide_eq_true (by omega)), if_pos (decide_eq_true (by omega)), Int.toNat_natCast]
      by_cases hsi : Sn s i
      · rw [if_neg (by rw [show List.getD s i false = true from hsi]; decide), if_pos (decide_eq_true (by omega)), bind_some (refsucc_eq _)]
        exact go (.inr hsi)
      · have hf1 : List.getD s i false = false := by
          unfold Sn at hsi
          simpa using hsi
        rw [if_pos (by rw [hf1]; rfl)]
        obtain ⟨s', k1, k2, k3, k4, k5⟩ := refafter_l6 l hl fr hf x3 m (i + 1) s (by omega) hs
        refine ⟨s', k1, k2, k3, k4, fun x y hx hg e => ?_⟩
        rcases Nat.eq_or_lt_of_le hx with rfl | hx
        · exact (hg.elim hin hsi).elim
        · exact k5 x y hx hg e
theorem count_lt6 {s s' : List Bool} (hl : s.length = s'.length) (h : ∀ y, Sn s y → Sn s' y) {y : Nat} (h1 : ¬ Sn s y) (h2 : Sn s' y) : s'.count false + 1 ≤ s.count false := by
  have hy : y < s.length := by have := h2.lt; omega
  have h3 := count_set_true hy h1
  have h4 := count_mono (s.set y true) s' (by simpa using hl) fun x hx => by
    rcases (Sn_set hy).1 hx with rfl | hx
    · exact h2
    · exact h x hx
  omega
def Shut (l : List api_Node) (fr : List Int) (s : List Bool) : Prop := ∀ x y, Goes fr s x → To l x y → Sn s y
theorem refafter_l3 (l : List api_Node) (hl : l.length ≤ 65536) (fr : List Int) (hf : fr.length ≤ 65536) : ∀ (m r : Nat) (s : List Bool), r + m = l.length + 1 → s.length = l.length → ∃ s', alibiref06_After_l3 s l fr (r : Int) = some s' ∧ s'.length = l.length ∧ (∀ y, Sn s y → Sn s' y) ∧ (∀ Q : Nat → Prop, (∀ x y : Nat, ((x : Int) ∈ fr ∨ Q x) → To l x y → Q y) → (∀ y, Sn s y → Q y) → ∀ y, Sn s' y → Q y) ∧ (Shut l fr s' ∨ s'.count false + m ≤ s.count false)
  | 0, r, s, h, hs => by
    rw [alibiref06_After_l3, if_neg (by simp only [decide_eq_true_eq]; omega)]
    exact ⟨s, rfl, hs, fun y h => h, fun Q _ h => h, .inr (by omega)⟩
  | m + 1, r, s, h, hs => by
    obtain ⟨s1, g1, g2, g3, g4, g5⟩ := refafter_l6 l hl fr hf (r : Int) l.length 0 s (by omega) hs
    rw [show ((0 : Nat) : Int) = 0 from rfl] at g1
    rw [alibiref06_After_l3, if_pos (decide_eq_true (by omega)), bind_some g1, inc r (by omega)]
    obtain ⟨s', k1, k2, k3, k4, k5⟩ := refafter_l3 l hl fr hf m (r + 1) s1 (by omega) g2
    refine ⟨s', k1, k2, fun y hy => k3 y (g3 y hy), fun Q hQ hsQ => k4 Q hQ (g4 Q hQ hsQ), ?_⟩
    by_cases hcl : Shut l fr s
    · left
      have e1 : ∀ y, Sn s1 y → Sn s y := g4 (Sn s) (fun x y hx e => hcl x y hx e) fun y h => h
      have e2 : ∀ y, Sn s' y → Sn s y := k4 (Sn s) (fun x y hx e => hcl x y hx e) e1
      exact fun x y hx e => k3 y (g3 y (hcl x y (hx.elim .inl fun h => .inr (e2 x h)) e))
    · rcases k5 with k5 | k5
      · exact .inl k5
      · right
        have : ∃ x y, Goes fr s x ∧ To l x y ∧ ¬ Sn s y := by
          apply Classical.byContradiction
          intro hno
          exact hcl fun x y hx e => Classical.byContradiction fun h => hno ⟨x, y, hx, e, h⟩
        obtain ⟨x, y, h1, h2, h3⟩ := this
        have := count_lt6 (by omega) g3 h3 (g5 x y (Nat.zero_le _) h1 h2)
        omega
theorem refafter_eq (l : List api_Node) (hl : l.length ≤ 65536) (fr : List Int) (hf : fr.length ≤ 65536) : ∃ a, alibiref06_After l fr = some a ∧ a.length = l.length ∧ ∀ y, Sn a y ↔ Aft l fr y := by
  have hcnt := List.count_le_length (a := false) (l := List.replicate l.length false)
  rw [List.length_replicate] at hcnt
  obtain ⟨s', k1, k2, k3, k4, k5⟩ := refafter_l3 l hl fr hf (l.length + 1) 0 (List.replicate l.length false) (Nat.zero_add _) (by simp)
  rw [show ((0 : Nat) : Int) = 0 from rfl] at k1
  have hsh : Shut l fr s' := by
    rcases k5 with h | h
    · exact h
    · omega
  unfold alibiref06_After
  rw [if_pos (decide_eq_true (by omega)), if_pos (decide_eq_true (by simp only [reach]; omega)), Int.toNat_natCast, bind_some k1]
  refine ⟨s', rfl, k2, fun y => ⟨k4 (Aft l fr) (fun x y hx e => hx.elim (fun h => .first h e) fun h => .more h e) (fun y h => absurd h (sn_replicate _ _)) y, fun h => ?_⟩⟩
  induction h with
  | first h1 h2 => exact hsh _ _ (.inl h1) h2
  | more _ h2 ih => exact hsh _ _ (.inr ih) h2
theorem Rises.mono {m n : Nat} (h : m ≤ n) : ∀ {l : List Int}, Rises n l → Rises m l
  | [], _ => trivial
  | x :: l, hr => ⟨by have := hr.1; omega, hr.2⟩
theorem or_step {b : Bool} {P : Prop} (hb : ¬ b = true) {c : Bool} (h : c = true ↔ P) : (c = true ↔ b = true ∨ P) := by rw [h]; simp [hb]
theorem Rises.nat {n : Nat} : ∀ {l : List Int}, Rises n l → ∀ x ∈ l, (n : Int) ≤ x ∧ x < 32
  | [], _, x, hx => by cases hx
  | y :: l, hr, x, hx => by
    obtain ⟨h1, h2, h3⟩ := hr
    rcases List.mem_cons.1 hx with rfl | hx
    · exact ⟨h1, h2⟩
    · have := Rises.nat h3 x hx; omega
theorem Rises.length_le {n : Nat} : ∀ {l : List Int}, Rises n l → n ≤ 32 → l.length + n ≤ 32
  | [], _, h => by simpa using h
  | y :: l, hr, h => by
    obtain ⟨h1, h2, h3⟩ := hr
    have := Rises.length_le h3 (by omega)
    rw [List.length_cons]
    omega
theorem refnamed_l7 (l : List api_Node) (hl : l.length ≤ 65536) (x0 : List Int) (k id : Int) : ∀ (m i : Nat) (b : Bool), i + m = l.length → ∃ b', alibiref06_Named_l7 x0 l k id b (i : Int) = some b' ∧ (b' = true ↔ b = true ∨ ∃ j, i ≤ j ∧ j < l.length ∧ (List.getD l j d_api_Node).kind = k ∧ (List.getD l j d_api_Node).arg = id)
  | 0, i, b, h => by
    rw [alibiref06_Named_l7, if_neg (by simp only [decide_eq_true_eq]; omega)]
    exact ⟨b, rfl, ⟨.inl, fun h => h.elim (fun x => x) fun ⟨j, h1, h2, _⟩ => by omega⟩⟩
  | m + 1, i, b, h => by
    rw [alibiref06_Named_l7, if_pos (decide_eq_true (by omega)), inc i (by omega)]
    have fin : ∀ b1, (b1 = true ↔ b = true ∨ ((List.getD l i d_api_Node).kind = k ∧ (List.getD l i d_api_Node).arg = id)) → ∃ b', alibiref06_Named_l7 x0 l k id b1 ((i + 1 : Nat) : Int) = some b' ∧ (b' = true ↔ b = true ∨ ∃ j, i ≤ j ∧ j < l.length ∧ (List.getD l j d_api_Node).kind = k ∧ (List.getD l j d_api_Node).arg = id) := by
      intro b1 hb1
      obtain ⟨b', q1, q2⟩ := refnamed_l7 l hl x0 k id m (i + 1) b1 (by omega)
      refine ⟨b', q1, ?_⟩
      rw [q2, hb1]
      constructor
      · rintro ((h1 | h1) | ⟨j, h1, h2⟩)
        · exact .inl h1
        · exact .inr ⟨i, Nat.le_refl _, by omega, h1⟩
        · exact .inr ⟨j, by omega, h2⟩
      · rintro (h1 | ⟨j, h1, h2, h3⟩)
        · exact .inl (.inl h1)
        · rcases Nat.eq_or_lt_of_le h1 with rfl | h4
          · exact .inl (.inr h3)
          · exact .inr ⟨j, h4, h2, h3⟩
    by_cases hb : b = true
    · rw [if_pos hb]
      exact fin true (by simp [hb])
    · rw [if_neg hb, if_pos (decide_eq_true (by omega)), if_pos (decide_eq_true (by omega)), Int.toNat_natCast]
      by_cases hk : (List.getD l i d_api_Node).kind = k
      · rw [if_pos (eqT hk)]
        exact fin _ (or_step hb (by rw [beq_iff_eq]; exact ⟨fun h => ⟨hk, h⟩, fun h => h.2⟩))
      · rw [if_neg (eqF hk)]
        exact fin _ (or_step hb ⟨(fun h => by cases h), fun h => absurd h.1 hk⟩)
theorem refnamed_l3 (l : List api_Node) (hl : l.length ≤ 65536) (k : Int) : ∀ (m i : Nat) (x0 : List Int), i + m = 32 → x0.length ≤ i → ∃ t, alibiref06_Named_l3 x0 l k (i : Int) = some (x0 ++ t) ∧ Rises i t ∧ ∀ b : Nat, (b : Int) ∈ t ↔ i ≤ b ∧ b < 32 ∧ ∃ j, j < l.length ∧ (List.getD l j d_api_Node).kind = k ∧ (List.getD l j d_api_Node).arg = (b : Int)
  | 0, i, x0, h, hx => by
    rw [alibiref06_Named_l3, if_neg (by simp only [decide_eq_true_eq]; omega)]
    exact ⟨[], by simp, trivial, fun b => by simp; omega⟩
  | m + 1, i, x0, h, hx => by
    obtain ⟨b, q1, q2⟩ := refnamed_l7 l hl x0 k (i : Int) l.length 0 false (by omega)
    rw [show ((0 : Nat) : Int) = 0 from rfl] at q1
    rw [alibiref06_Named_l3, if_pos (decide_eq_true (by omega)), bind_some q1, inc i (by omega)]
    have hb : b = true ↔ ∃ j, j < l.length ∧ (List.getD l j d_api_Node).kind = k ∧ (List.getD l j d_api_Node).arg = (i : Int) := by rw [q2]; simp
    by_cases hbt : b = true
    · rw [if_pos hbt, if_pos (Nat.ble_eq_true_of_le (by simp only [List.length_singleton, reach]; omega))]
      obtain ⟨t, g1, g2, g3⟩ := refnamed_l3 l hl k m (i + 1) (x0 ++ [(i : Int)]) (by omega) (by simp; omega)
      refine ⟨(i : Int) :: t, by rw [g1]; simp, ⟨Int.le_refl _, by omega, by rw [Int.toNat_natCast]; exact g2⟩, fun c => ?_⟩
      rw [List.mem_cons, g3]
      constructor
      · rintro (h1 | ⟨h1, h2, h3⟩)
        · have : c = i := by omega
          subst this
          exact ⟨Nat.le_refl _, by omega, hb.1 hbt⟩
        · exact ⟨by omega, h2, h3⟩
      · rintro ⟨h1, h2, h3⟩
        rcases Nat.eq_or_lt_of_le h1 with rfl | h4
        · exact .inl rfl
        · exact .inr ⟨h4, h2, h3⟩
    · rw [if_neg hbt]
      obtain ⟨t, g1, g2, g3⟩ := refnamed_l3 l hl k m (i + 1) x0 (by omega) (by omega)
      refine ⟨t, g1, g2.mono (by omega), fun c => ?_⟩
      rw [g3]
      constructor
      · rintro ⟨h1, h2, h3⟩; exact ⟨by omega, h2, h3⟩
      · rintro ⟨h1, h2, h3⟩
        rcases Nat.eq_or_lt_of_le h1 with rfl | h4
        · exact absurd (hb.2 h3) hbt
        · exact ⟨h4, h2, h3⟩
theorem refnamed_eq (l : List api_Node) (hl : l.length ≤ 65536) (k : Int) : ∃ t, alibiref06_Named l k = some t ∧ Rises 0 t ∧ ∀ b : Nat, (b : Int) ∈ t ↔ b < 32 ∧ ∃ j, j < l.length ∧ (List.getD l j d_api_Node).kind = k ∧ (List.getD l j d_api_Node).arg = (b : Int) := by
  obtain ⟨t, q1, q2, q3⟩ := refnamed_l3 l hl k 32 0 [] rfl (by simp)
  rw [show ((0 : Nat) : Int) = 0 from rfl, List.nil_append] at q1
  unfold alibiref06_Named
  rw [bind_some q1]
  exact ⟨t, rfl, q2, fun b => by rw [q3]; simp⟩
theorem reach_l4 (p : api_Program) (fr : List Int) (hfl : fr.length ≤ 65536) (hfr : ∀ x ∈ fr, 0 ≤ x) : ∀ (m i : Nat) (s : List Bool), i + m = fr.length → s.length = p.funcs.length → ∃ s', alibiref06_Reach_l4 s p.globals p.locks p.slots p.funcs fr (p.funcs.length : Int) (i : Int) = some s' ∧ s'.length = p.funcs.length ∧ ∀ y, Sn s' y ↔ Sn s y ∨ (y < p.funcs.length ∧ (y : Int) ∈ fr.drop i)
  | 0, i, s, h, hs => by
    rw [alibiref06_Reach_l4, if_neg (by simp only [decide_eq_true_eq]; omega), List.drop_eq_nil_of_le (by omega)]
    exact ⟨s, rfl, hs, fun y => by simp⟩
  | m + 1, i, s, h, hs => by
    have hlt : i < fr.length := by omega
    have hd : fr.drop i = fr[i] :: fr.drop (i + 1) := List.drop_eq_getElem_cons hlt
    have hg : List.getD fr i 0 = fr[i] := by simp [List.getD, hlt]
    have h0 := hfr _ (List.getElem_mem hlt)
    rw [alibiref06_Reach_l4, if_pos (decide_eq_true (by omega)), if_pos (decide_eq_true (by omega)), if_pos (decide_eq_true (by omega)), Int.toNat_natCast, hg, hd, inc i (by omega)]
    obtain ⟨x, hx⟩ : ∃ x : Nat, fr[i] = (x : Int) := ⟨fr[i].toNat, by omega⟩
    rw [hx]
    by_cases hxn : x < p.funcs.length
    · rw [if_pos (decide_eq_true (by omega)), if_pos (decide_eq_true (by omega)), if_pos (decide_eq_true (by omega)), Int.toNat_natCast]
      obtain ⟨s', q1, q2, q3⟩ := reach_l4 p fr hfl hfr m (i + 1) (s.set x true) (by omega) (by simpa using hs)
      refine ⟨s', q1, q2, fun y => ?_⟩
      rw [q3, Sn_set (by omega), List.mem_cons]
      constructor
      · rintro ((rfl | h1) | ⟨h1, h2⟩)
        · exact .inr ⟨hxn, .inl rfl⟩
        · exact .inl h1
        · exact .inr ⟨h1, .inr h2⟩
      · rintro (h1 | ⟨h1, h2 | h2⟩)
        · exact .inl (.inr h1)
        · exact .inl (.inl (by omega))
        · exact .inr ⟨h1, h2⟩
    · rw [if_neg (by simp only [decide_eq_true_eq]; omega)]
      obtain ⟨s', q1, q2, q3⟩ := reach_l4 p fr hfl hfr m (i + 1) s (by omega) hs
      refine ⟨s', q1, q2, fun y => ?_⟩
      rw [q3, List.mem_cons]
      constructor
      · rintro (h1 | ⟨h1, h2⟩)
        · exact .inl h1
        · exact .inr ⟨h1, .inr h2⟩
      · rintro (h1 | ⟨h1, h2 | h2⟩)
        · exact .inl h1
        · omega
        · exact .inr ⟨h1, h2⟩
theorem reach_l16 (calls : List Int) (hcl : calls.length ≤ 65536) (n f : Nat) (hf : f < n) (hcr : ∀ x ∈ calls, 0 ≤ x ∧ x < (n : Int)) (x2 x3 x4 : Int) (x5 : FS) (x7 : Int) : ∀ (m i : Nat) (s : List Bool), i + m = calls.length → s.length = n → ∃ s', alibiref06_Reach_l16 s calls x2 x3 x4 x5 (n : Int) x7 (f : Int) (i : Int) = some s' ∧ s'.length = n ∧ ∀ y, Sn s' y ↔ Sn s y ∨ (Sn s f ∧ (y : Int) ∈ calls.drop i)
  | 0, i, s, h, hs => by
    rw [alibiref06_Reach_l16, if_neg (by simp only [decide_eq_true_eq]; omega), List.drop_eq_nil_of_le (by omega)]
    exact ⟨s, rfl, hs, fun y => by simp⟩
  | m + 1, i, s, h, hs => by
    have hlt : i < calls.length := by omega
    have hd : calls.drop i = calls[i] :: calls.drop (i + 1) := List.drop_eq_getElem_cons hlt
    have hg : List.getD calls i 0 = calls[i] := by simp [List.getD, hlt]
    have h0 := hcr _ (List.getElem_mem hlt)
    rw [alibiref06_Reach_l16, if_pos (decide_eq_true (by omega)), if_pos (decide_eq_true (by omega)), if_pos (decide_eq_true (by omega)), inc i (by omega)]
    rw [Int.toNat_natCast f, Int.toNat_natCast i]
    by_cases hsf : Sn s f
    · rw [if_pos (show List.getD s f false = true from hsf), if_pos (decide_eq_true (by omega)), if_pos (decide_eq_true (by omega)), hg, hd]
      obtain ⟨x, hx⟩ : ∃ x : Nat, calls[i] = (x : Int) := ⟨calls[i].toNat, by omega⟩
      rw [hx] at h0 ⊢
      rw [if_pos (decide_eq_true (by omega)), if_pos (decide_eq_true (by omega)), if_pos (decide_eq_true (by omega)), Int.toNat_natCast]
      obtain ⟨s', q1, q2, q3⟩ := reach_l16 calls hcl n f hf hcr x2 x3 x4 x5 x7 m (i + 1) (s.set x true) (by omega) (by simpa using hs)
      refine ⟨s', q1, q2, fun y => ?_⟩
      rw [q3, Sn_set (by omega), Sn_set (by omega), List.mem_cons]
      constructor
      · rintro ((rfl | h1) | ⟨_, h2⟩)
        · exact .inr ⟨hsf, .inl rfl⟩
        · exact .inl h1
        · exact .inr ⟨hsf, .inr h2⟩
      · rintro (h1 | ⟨h1, h2 | h2⟩)
        · exact .inl (.inr h1)
        · exact .inl (.inl (by omega))
        · exact .inr ⟨.inr h1, h2⟩
    · rw [if_neg (show ¬ List.getD s f false = true from hsf)]
      obtain ⟨s', q1, q2, q3⟩ := reach_l16 calls hcl n f hf hcr x2 x3 x4 x5 x7 m (i + 1) s (by omega) hs
      refine ⟨s', q1, q2, fun y => ?_⟩
      rw [q3]
      simp [hsf]
theorem edge_named {fs : FS} {f : Nat} {t : List Int} (he : ∀ b, Edge fs f b → b < 32) (ht : ∀ b : Nat, (b : Int) ∈ t ↔ b < 32 ∧ ∃ j, j < (List.getD fs f []).length ∧ (List.getD (List.getD fs f []) j d_api_Node).kind = 7 ∧ (List.getD (List.getD fs f []) j d_api_Node).arg = (b : Int)) (b : Nat) : (b : Int) ∈ t ↔ Edge fs f b := by
  rw [ht]
  exact ⟨fun h => h.2, fun h => ⟨he b h, h⟩⟩
theorem reach_l12 (p : api_Program) (hg : Good p) (x6 : Int) : ∀ (m f : Nat) (s : List Bool), f + m = p.funcs.length → s.length = p.funcs.length → ∃ s', alibiref06_Reach_l12 s p.globals p.locks p.slots p.funcs (p.funcs.length : Int) x6 (f : Int) = some s' ∧ s'.length = p.funcs.length ∧ (∀ y, Sn s y → Sn s' y) ∧ (∀ Q : Nat → Prop, (∀ x y, Q x → Edge p.funcs x y → Q y) → (∀ y, Sn s y → Q y) → ∀ y, Sn s' y → Q y) ∧ ∀ x y, f ≤ x → Sn s x → Edge p.funcs x y → Sn s' y
  | 0, f, s, h, hs => by
    rw [alibiref06_Reach_l12, if_neg (by simp only [decide_eq_true_eq]; omega)]
    exact ⟨s, rfl, hs, fun y h => h, fun Q _ h => h, fun x y hx hsx _ => by have := hsx.lt; omega⟩
  | m + 1, f, s, h, hs => by
    have hle := hg.le f
    have hn := hg.funcs.2
    obtain ⟨t, q1, q2, q3⟩ := refnamed_eq (List.getD p.funcs f []) (by omega) 7
    have he : ∀ b, Edge p.funcs f b → b < 32 := fun b e => by have := (e.lt hg.calls).2; omega
    have hmem := edge_named he q3
    have htn := q2.nat
    have htl := q2.length_le (by omega)
    obtain ⟨s1, g1, g2, g3⟩ := reach_l16 t (by omega) p.funcs.length f (by omega) (fun x hx => by
      have h0 := htn x hx
      obtain ⟨b, rfl⟩ : ∃ b : Nat, x = (b : Int) := ⟨x.toNat, by omega⟩
      have := (((hmem b).1 hx).lt hg.calls).2
      omega) p.globals p.locks p.slots p.funcs x6 t.length 0 s (by omega) hs
    rw [show ((0 : Nat) : Int) = 0 from rfl] at g1
    rw [alibiref06_Reach_l12, if_pos (decide_eq_true (by omega)), if_pos (decide_eq_true (by omega)), if_pos (decide_eq_true (by omega)), Int.toNat_natCast, bind_some q1, bind_some g1, inc f (by omega)]
    obtain ⟨s', k1, k2, k3, k4, k5⟩ := reach_l12 p hg x6 m (f + 1) s1 (by omega) g2
    refine ⟨s', k1, k2, fun y hy => k3 y ((g3 y).2 (.inl hy)), fun Q hQ hsQ => k4 Q hQ fun y hy => ?_, fun x y hx hsx e => ?_⟩
    · rcases (g3 y).1 hy with h1 | ⟨h1, h2⟩
      · exact hsQ y h1
      · rw [List.drop_zero] at h2
        exact hQ f y (hsQ f h1) ((hmem y).1 h2)
    · rcases Nat.eq_or_lt_of_le hx with rfl | hx
      · exact k3 y ((g3 y).2 (.inr ⟨hsx, by rw [List.drop_zero]; exact (hmem y).2 e⟩))
      · exact k5 x y hx ((g3 x).2 (.inl hsx)) e
theorem count_lt {s s' : List Bool} (hl : s.length = s'.length) (h : ∀ y, Sn s y → Sn s' y) {y : Nat} (h1 : ¬ Sn s y) (h2 : Sn s' y) : s'.count false + 1 ≤ s.count false := by
  have hy : y < s.length := by have := h2.lt; omega
  have h3 := count_set_true hy h1
  have h4 := count_mono (s.set y true) s' (by simpa using hl) fun x hx => by
    rcases (Sn_set hy).1 hx with rfl | hx
    · exact h2
    · exact h x hx
  omega
def Closed (fs : FS) (s : List Bool) : Prop := ∀ x, Sn s x → ∀ y, Edge fs x y → Sn s y
theorem reach_l9 (p : api_Program) (hg : Good p) : ∀ (m r : Nat) (s : List Bool), r + m = p.funcs.length → s.length = p.funcs.length → ∃ s', alibiref06_Reach_l9 s p.globals p.locks p.slots p.funcs (p.funcs.length : Int) (r : Int) = some s' ∧ s'.length = p.funcs.length ∧ (∀ y, Sn s y → Sn s' y) ∧ (∀ Q : Nat → Prop, (∀ x y, Q x → Edge p.funcs x y → Q y) → (∀ y, Sn s y → Q y) → ∀ y, Sn s' y → Q y) ∧ (Closed p.funcs s' ∨ s'.count false + m ≤ s.count false)
  | 0, r, s, h, hs => by
    rw [alibiref06_Reach_l9, if_neg (by simp only [decide_eq_true_eq]; omega)]
    exact ⟨s, rfl, hs, fun y h => h, fun Q _ h => h, .inr (by omega)⟩
  | m + 1, r, s, h, hs => by
    have hn := hg.funcs.2
    obtain ⟨s1, g1, g2, g3, g4, g5⟩ := reach_l12 p hg (r : Int) p.funcs.length 0 s (by omega) hs
    rw [show ((0 : Nat) : Int) = 0 from rfl] at g1
    rw [alibiref06_Reach_l9, if_pos (decide_eq_true (by omega)), bind_some g1, inc r (by omega)]
    obtain ⟨s', k1, k2, k3, k4, k5⟩ := reach_l9 p hg m (r + 1) s1 (by omega) g2
    refine ⟨s', k1, k2, fun y hy => k3 y (g3 y hy), fun Q hQ hsQ => k4 Q hQ (g4 Q hQ hsQ), ?_⟩
    by_cases hcl : Closed p.funcs s
    · left
      have e1 : ∀ y, Sn s1 y → Sn s y := g4 (Sn s) (fun x y hx e => hcl x hx y e) fun y h => h
      have e2 : ∀ y, Sn s' y → Sn s y := fun y hy => e1 y (by
        have := k4 (Sn s1) (fun x y hx e => g3 y (hcl x (e1 x hx) y e)) (fun y h => h) y hy
        exact this)
      exact fun x hx y e => k3 y (g3 y (hcl x (e2 x hx) y e))
    · rcases k5 with k5 | k5
      · exact .inl k5
      · right
        have : ∃ x y, Sn s x ∧ Edge p.funcs x y ∧ ¬ Sn s y := by
          apply Classical.byContradiction
          intro hno
          exact hcl fun x hx y e => Classical.byContradiction fun h => hno ⟨x, y, hx, e, h⟩
        obtain ⟨x, y, h1, h2, h3⟩ := this
        have := count_lt (by omega) g3 h3 (g5 x y (Nat.zero_le _) h1 h2)
        omega
theorem reach_l22 (s : List Bool) (n : Nat) (hn : n ≤ 32) (hs : s.length = n) : ∀ (m f : Nat) (x0 : List Int), f + m = n → x0.length ≤ f → ∃ t, alibiref06_Reach_l22 s x0 (n : Int) (f : Int) = some (x0 ++ t) ∧ Rises f t ∧ ∀ b : Nat, (b : Int) ∈ t ↔ f ≤ b ∧ Sn s b
  | 0, f, x0, h, hx => by
    rw [alibiref06_Reach_l22, if_neg (by simp only [decide_eq_true_eq]; omega)]
    exact ⟨[], by simp, trivial, fun b => by simp; intro h1 h2; have := h2.lt; omega⟩
  | m + 1, f, x0, h, hx => by
    rw [alibiref06_Reach_l22, if_pos (decide_eq_true (by omega)), if_pos (decide_eq_true (by omega)), if_pos (decide_eq_true (by omega)), if_pos (decide_eq_true (by omega)), Int.toNat_natCast, inc f (by omega)]
    by_cases hf : Sn s f
    · rw [if_pos (show List.getD s f false = true from hf), if_pos (Nat.ble_eq_true_of_le (by simp only [List.length_singleton, reach]; omega))]
      obtain ⟨t, g1, g2, g3⟩ := reach_l22 s n hn hs m (f + 1) (x0 ++ [(f : Int)]) (by omega) (by simp; omega)
      refine ⟨(f : Int) :: t, by rw [g1]; simp, ⟨Int.le_refl _, by omega, by rw [Int.toNat_natCast]; exact g2⟩, fun b => ?_⟩
      rw [List.mem_cons, g3]
      constructor
      · rintro (h1 | ⟨h1, h2⟩)
        · have : b = f := by omega
          subst this
          exact ⟨Nat.le_refl _, hf⟩
        · exact ⟨by omega, h2⟩
      · rintro ⟨h1, h2⟩
        rcases Nat.eq_or_lt_of_le h1 with rfl | h3
        · exact .inl rfl
        · exact .inr ⟨h3, h2⟩
    · rw [if_neg (show ¬ List.getD s f false = true from hf)]
      obtain ⟨t, g1, g2, g3⟩ := reach_l22 s n hn hs m (f + 1) x0 (by omega) (by omega)
      refine ⟨t, g1, g2.mono (by omega), fun b => ?_⟩
      rw [g3]
      constructor
      · rintro ⟨h1, h2⟩; exact ⟨by omega, h2⟩
      · rintro ⟨h1, h2⟩
        rcases Nat.eq_or_lt_of_le h1 with rfl | h3
        · exact absurd h2 hf
        · exact ⟨h3, h2⟩
theorem refreach_eq (p : api_Program) (hg : Good p) (f : Nat) (hf : f < p.funcs.length) : ∃ t, alibiref06_Reach p [(f : Int)] = some t ∧ Rises 0 t ∧ ∀ b : Nat, (b : Int) ∈ t ↔ Path p.funcs f b := by
  have hn := hg.funcs.2
  unfold alibiref06_Reach
  rw [if_pos (decide_eq_true (by omega)), if_pos (decide_eq_true (by simp only [reach]; omega)), Int.toNat_natCast]
  obtain ⟨s0, q1, q2, q3⟩ := reach_l4 p [(f : Int)] (by simp) (by simp) 1 0 (List.replicate p.funcs.length false) rfl (by simp)
  rw [show ((0 : Nat) : Int) = 0 from rfl] at q1
  have h0 : ∀ y, Sn s0 y ↔ y = f := fun y => by
    rw [q3, List.drop_zero, List.mem_singleton]
    constructor
    · rintro (h1 | ⟨_, h2⟩)
      · exact absurd h1 (sn_replicate _ _)
      · omega
    · rintro rfl; exact .inr ⟨hf, rfl⟩
  obtain ⟨s, g1, g2, g3, g4, g5⟩ := reach_l9 p hg p.funcs.length 0 s0 (by omega) q2
  rw [show ((0 : Nat) : Int) = 0 from rfl] at g1
  obtain ⟨t, k1, k2, k3⟩ := reach_l22 s p.funcs.length (by omega) g2 p.funcs.length 0 [] (by omega) (by simp)
  rw [show ((0 : Nat) : Int) = 0 from rfl, List.nil_append] at k1
  rw [bind_some q1, bind_some g1, bind_some k1]
  have hcl : Closed p.funcs s := by
    rcases g5 with h | h
    · exact h
    · exfalso
      have h1 := count_lt (s := List.replicate p.funcs.length false) (s' := s0) (by simp [q2]) (fun y hy => absurd hy (sn_replicate _ _)) (sn_replicate _ f) ((h0 f).2 rfl)
      have h2 := List.count_le_length (a := false) (l := List.replicate p.funcs.length false)
      rw [List.length_replicate] at h2
      omega
  refine ⟨t, rfl, k2, fun b => ?_⟩
  rw [k3]
  constructor
  · rintro ⟨_, h1⟩
    exact g4 (Path p.funcs f) (fun x y hx e => hx.snoc e) (fun y hy => by rw [(h0 y).1 hy]; exact .refl _) b h1
  · intro h1
    exact ⟨Nat.zero_le _, path_closed (fun x hx y e => hcl x hx y e) h1 (g3 f ((h0 f).2 rfl))⟩
/-- A function has a node of some kinds. -/
def Has (fs : FS) (k1 k2 : Int) (g : Nat) (id : Int) : Prop := ∃ j, j < (List.getD fs g []).length ∧ ((List.getD (List.getD fs g []) j d_api_Node).kind = k1 ∨ (List.getD (List.getD fs g []) j d_api_Node).kind = k2) ∧ (List.getD (List.getD fs g []) j d_api_Node).arg = id
theorem gather_l11 (fs : FS) (l : List Int) (hln : l.length ≤ 65536) (i g : Nat) (hi : i < l.length) (hg : List.getD l i 0 = (g : Int)) (hgn : g < fs.length) (hlen : (List.getD fs g []).length ≤ 65536) (x1 : List Int) (x2 x3 x4 k1 k2 id : Int) : ∀ (m j : Nat) (b : Bool), j + m = (List.getD fs g []).length → ∃ b', alibiref14_Gather_l11 l x1 x2 x3 x4 fs k1 k2 id b (i : Int) (j : Int) = some b' ∧ (b' = true ↔ b = true ∨ ∃ q, j ≤ q ∧ q < (List.getD fs g []).length ∧ ((List.getD (List.getD fs g []) q d_api_Node).kind = k1 ∨ (List.getD (List.getD fs g []) q d_api_Node).kind = k2) ∧ (List.getD (List.getD fs g []) q d_api_Node).arg = id)
  | 0, j, b, h => by
    rw [alibiref14_Gather_l11, if_pos (decide_eq_true (by omega)), if_pos (decide_eq_true (by omega)), Int.toNat_natCast, hg, if_pos (decide_eq_true (by omega)), if_pos (decide_eq_true (by omega)), Int.toNat_natCast, if_neg (by simp only [decide_eq_true_eq]; omega)]
    exact ⟨b, rfl, ⟨.inl, fun h => h.elim (fun x => x) fun ⟨q, h1, h2, _⟩ => by omega⟩⟩
  | m + 1, j, b, h => by
    rw [alibiref14_Gather_l11, if_pos (decide_eq_true (by omega)), if_pos (decide_eq_true (by omega)), Int.toNat_natCast, hg, if_pos (decide_eq_true (by omega)), if_pos (decide_eq_true (by omega)), Int.toNat_natCast, if_pos (decide_eq_true (by omega)), if_pos (decide_eq_true (by omega)), if_pos (decide_eq_true (by omega)), Int.toNat_natCast, inc j (by omega)]
    have fin : ∀ b1, (b1 = true ↔ b = true ∨ (((List.getD (List.getD fs g []) j d_api_Node).kind = k1 ∨ (List.getD (List.getD fs g []) j d_api_Node).kind = k2) ∧ (List.getD (List.getD fs g []) j d_api_Node).arg = id)) → ∃ b', alibiref14_Gather_l11 l x1 x2 x3 x4 fs k1 k2 id b1 (i : Int) ((j + 1 : Nat) : Int) = some b' ∧ (b' = true ↔ b = true ∨ ∃ q, j ≤ q ∧ q < (List.getD fs g []).length ∧ ((List.getD (List.getD fs g []) q d_api_Node).kind = k1 ∨ (List.getD (List.getD fs g []) q d_api_Node).kind = k2) ∧ (List.getD (List.getD fs g []) q d_api_Node).arg = id) := by
      intro b1 hb1
      obtain ⟨b', q1, q2⟩ := gather_l11 fs l hln i g hi hg hgn hlen x1 x2 x3 x4 k1 k2 id m (j + 1) b1 (by omega)
      refine ⟨b', q1, ?_⟩
      rw [q2, hb1]
      constructor
      · rintro ((h1 | h1) | ⟨q, h1, h2⟩)
        · exact .inl h1
        · exact .inr ⟨j, Nat.le_refl _, by omega, h1⟩
        · exact .inr ⟨q, by omega, h2⟩
      · rintro (h1 | ⟨q, h1, h2, h3⟩)
        · exact .inl (.inl h1)
        · rcases Nat.eq_or_lt_of_le h1 with rfl | h4
          · exact .inl (.inr h3)
          · exact .inr ⟨q, h4, h2, h3⟩
    by_cases hb : b = true
    · rw [if_pos hb]
      exact fin true (by simp [hb])
    · rw [if_neg hb]
      by_cases e1 : (List.getD (List.getD fs g []) j d_api_Node).kind = k1
      · rw [if_pos (eqT e1)]
        exact fin _ (or_step hb (by rw [beq_iff_eq]; exact ⟨fun h => ⟨.inl e1, h⟩, fun h => h.2⟩))
      · rw [if_neg (eqF e1)]
        by_cases e2 : (List.getD (List.getD fs g []) j d_api_Node).kind = k2
        · rw [if_pos (eqT e2)]
          exact fin _ (or_step hb (by rw [beq_iff_eq]; exact ⟨fun h => ⟨.inr e2, h⟩, fun h => h.2⟩))
        · rw [if_neg (eqF e2)]
          exact fin _ (or_step hb ⟨(fun h => by cases h), fun h => h.1.elim (fun h => absurd h e1) fun h => absurd h e2⟩)
theorem gather_l8 (fs : FS) (hlen : ∀ g, (List.getD fs g []).length ≤ 65536) (l : List Int) (hln : l.length ≤ 65536) (hl : ∀ x ∈ l, 0 ≤ x ∧ x < (fs.length : Int)) (x1 : List Int) (x2 x3 x4 k1 k2 id : Int) : ∀ (m i : Nat) (b : Bool), i + m = l.length → ∃ b', alibiref14_Gather_l8 l x1 x2 x3 x4 fs k1 k2 id b (i : Int) = some b' ∧ (b' = true ↔ b = true ∨ ∃ g : Nat, (g : Int) ∈ l.drop i ∧ Has fs k1 k2 g id)
  | 0, i, b, h => by
    rw [alibiref14_Gather_l8, if_neg (by simp only [decide_eq_true_eq]; omega), List.drop_eq_nil_of_le (by omega)]
    exact ⟨b, rfl, by simp⟩
  | m + 1, i, b, h => by
    have hlt : i < l.length := by omega
    have hd : l.drop i = l[i] :: l.drop (i + 1) := List.drop_eq_getElem_cons hlt
    have hg : List.getD l i 0 = l[i] := by simp [List.getD, hlt]
    have h0 := hl _ (List.getElem_mem hlt)
    obtain ⟨g, hx⟩ : ∃ x : Nat, l[i] = (x : Int) := ⟨l[i].toNat, by omega⟩
    rw [hx] at h0
    obtain ⟨b1, q1, q2⟩ := gather_l11 fs l hln i g hlt (hg.trans hx) (by omega) (hlen g) x1 x2 x3 x4 k1 k2 id (List.getD fs g []).length 0 b (by omega)
    rw [show ((0 : Nat) : Int) = 0 from rfl] at q1
    rw [alibiref14_Gather_l8, if_pos (decide_eq_true (by omega)), bind_some q1, inc i (by omega)]
    obtain ⟨b', k1', k2'⟩ := gather_l8 fs hlen l hln hl x1 x2 x3 x4 k1 k2 id m (i + 1) b1 (by omega)
    refine ⟨b', k1', ?_⟩
    rw [k2', q2, hd, hx]
    constructor
    · rintro ((h1 | ⟨q, _, h2⟩) | ⟨c, h1, h2⟩)
      · exact .inl h1
      · exact .inr ⟨g, by simp, q, h2⟩
      · exact .inr ⟨c, List.mem_cons_of_mem _ h1, h2⟩
    · rintro (h1 | ⟨c, h1, h2⟩)
      · exact .inl (.inl h1)
      · rcases List.mem_cons.1 h1 with h3 | h3
        · have : c = g := by omega
          subst this
          obtain ⟨q, h4⟩ := h2
          exact .inl (.inr ⟨q, Nat.zero_le _, h4⟩)
        · exact .inr ⟨c, h3, h2⟩
theorem gather_l4 (fs : FS) (hlen : ∀ g, (List.getD fs g []).length ≤ 65536) (l : List Int) (hln : l.length ≤ 65536) (hl : ∀ x ∈ l, 0 ≤ x ∧ x < (fs.length : Int)) (x2 x3 x4 k1 k2 : Int) : ∀ (m i : Nat) (x0 : List Int), i + m = 32 → x0.length ≤ i → ∃ t, alibiref14_Gather_l4 l x0 x2 x3 x4 fs k1 k2 (i : Int) = some (x0 ++ t) ∧ Rises i t ∧ ∀ b : Nat, (b : Int) ∈ t ↔ i ≤ b ∧ b < 32 ∧ ∃ g : Nat, (g : Int) ∈ l ∧ Has fs k1 k2 g (b : Int)
  | 0, i, x0, h, hx => by
    rw [alibiref14_Gather_l4, if_neg (by simp only [decide_eq_true_eq]; omega)]
    exact ⟨[], by simp, trivial, fun b => by simp; omega⟩
  | m + 1, i, x0, h, hx => by
    obtain ⟨b, q1, q2⟩ := gather_l8 fs hlen l hln hl x0 x2 x3 x4 k1 k2 (i : Int) l.length 0 false (by omega)
    rw [show ((0 : Nat) : Int) = 0 from rfl] at q1
    rw [alibiref14_Gather_l4, if_pos (decide_eq_true (by omega)), bind_some q1, inc i (by omega)]
    have hb : b = true ↔ ∃ g : Nat, (g : Int) ∈ l ∧ Has fs k1 k2 g (i : Int) := by rw [q2]; simp
    by_cases hbt : b = true
    · rw [if_pos hbt, if_pos (Nat.ble_eq_true_of_le (by simp only [List.length_singleton, reach]; omega))]
      obtain ⟨t, g1, g2, g3⟩ := gather_l4 fs hlen l hln hl x2 x3 x4 k1 k2 m (i + 1) (x0 ++ [(i : Int)]) (by omega) (by simp; omega)
      refine ⟨(i : Int) :: t, by rw [g1]; simp, ⟨Int.le_refl _, by omega, by rw [Int.toNat_natCast]; exact g2⟩, fun c => ?_⟩
      rw [List.mem_cons, g3]
      constructor
      · rintro (h1 | ⟨h1, h2, h3⟩)
        · have : c = i := by omega
          subst this
          exact ⟨Nat.le_refl _, by omega, hb.1 hbt⟩
        · exact ⟨by omega, h2, h3⟩
      · rintro ⟨h1, h2, h3⟩
        rcases Nat.eq_or_lt_of_le h1 with rfl | h4
        · exact .inl rfl
        · exact .inr ⟨h4, h2, h3⟩
    · rw [if_neg hbt]
      obtain ⟨t, g1, g2, g3⟩ := gather_l4 fs hlen l hln hl x2 x3 x4 k1 k2 m (i + 1) x0 (by omega) (by omega)
      refine ⟨t, g1, g2.mono (by omega), fun c => ?_⟩
      rw [g3]
      constructor
      · rintro ⟨h1, h2, h3⟩; exact ⟨by omega, h2, h3⟩
      · rintro ⟨h1, h2, h3⟩
        rcases Nat.eq_or_lt_of_le h1 with rfl | h4
        · exact absurd (hb.2 h3) hbt
        · exact ⟨h4, h2, h3⟩
theorem refgather_eq (p : api_Program) (hg : Good p) (f : Nat) (hf : f < p.funcs.length) (k1 k2 : Int) : ∃ t, alibiref14_Gather p (f : Int) k1 k2 = some t ∧ Rises 0 t ∧ ∀ b : Nat, (b : Int) ∈ t ↔ b < 32 ∧ ∃ g, Path p.funcs f g ∧ Has p.funcs k1 k2 g (b : Int) := by
  obtain ⟨l, q1, q2, q3⟩ := refreach_eq p hg f hf
  have hpath : ∀ {g}, Path p.funcs f g → g < p.funcs.length := fun h => path_closed (S := fun x => x < p.funcs.length) (fun x _ y e => (e.lt hg.calls).2) h hf
  obtain ⟨t, g1, g2, g3⟩ := gather_l4 p.funcs (fun g => by have := hg.le g; omega) l (by have := q2.length_le (by omega); omega) (fun x hx => by
    have h0 := q2.nat x hx
    obtain ⟨b, rfl⟩ : ∃ b : Nat, x = (b : Int) := ⟨x.toNat, by omega⟩
    have := hpath ((q3 b).1 hx)
    omega) p.globals p.locks p.slots k1 k2 32 0 [] rfl (by simp)
  rw [show ((0 : Nat) : Int) = 0 from rfl, List.nil_append] at g1
  unfold alibiref14_Gather
  rw [bind_some q1, bind_some g1]
  refine ⟨t, rfl, g2, fun b => ?_⟩
  rw [g3]
  constructor
  · rintro ⟨_, h1, g, h2, h3⟩; exact ⟨h1, g, (q3 g).1 h2, h3⟩
  · rintro ⟨h1, g, h2, h3⟩; exact ⟨Nat.zero_le _, h1, g, (q3 g).2 h2, h3⟩
def Begun (fs : FS) (f : Nat) : Prop := ∃ g, g < fs.length ∧ ∃ j, j < (List.getD fs g []).length ∧ (List.getD (List.getD fs g []) j d_api_Node).kind = 5 ∧ (List.getD (List.getD fs g []) j d_api_Node).arg = (f : Int)
theorem begun_l3 (fs : FS) (hn : fs.length ≤ 65536) (hlen : ∀ f, (List.getD fs f []).length ≤ 65536) : ∀ (m i : Nat) (x : W32), i + m = fs.length → ∃ x', graph_Begun_l3 x fs (fs.length : Int) (i : Int) = some x' ∧ ∀ b, x'.getLsbD b = true ↔ x.getLsbD b = true ∨ (b < 32 ∧ ∃ g, i ≤ g ∧ g < fs.length ∧ ∃ j, j < (List.getD fs g []).length ∧ (List.getD (List.getD fs g []) j d_api_Node).kind = 5 ∧ (List.getD (List.getD fs g []) j d_api_Node).arg = (b : Int))
  | 0, i, x, h => by
    rw [graph_Begun_l3, if_neg (by simp only [decide_eq_true_eq]; omega)]
    exact ⟨x, rfl, fun b => ⟨.inl, fun h => h.elim (fun x => x) fun ⟨_, g, h1, h2, _⟩ => by omega⟩⟩
  | m + 1, i, x, h => by
    obtain ⟨y, q1, q2⟩ := named_eq (List.getD fs i []) 5 (hlen i)
    rw [graph_Begun_l3, if_pos (decide_eq_true (by omega)), if_pos (decide_eq_true (by omega)), if_pos (decide_eq_true (by omega)), Int.toNat_natCast, bind_some q1, inc i (by omega)]
    obtain ⟨x', g1, g2⟩ := begun_l3 fs hn hlen m (i + 1) (x ||| y) (by omega)
    refine ⟨x', g1, fun b => ?_⟩
    rw [g2, BitVec.getLsbD_or, Bool.or_eq_true, q2]
    constructor
    · rintro ((h1 | ⟨h1, h2⟩) | ⟨h1, g, h2, h3⟩)
      · exact .inl h1
      · exact .inr ⟨h1, i, Nat.le_refl _, by omega, h2⟩
      · exact .inr ⟨h1, g, by omega, h3⟩
    · rintro (h1 | ⟨h1, g, h2, h3, h4⟩)
      · exact .inl (.inl h1)
      · rcases Nat.eq_or_lt_of_le h2 with rfl | h5
        · exact .inl (.inr ⟨h1, h4⟩)
        · exact .inr ⟨h1, g, h5, h3, h4⟩
theorem begun_eq (p : api_Program) (hg : Good p) : ∃ x, graph_Begun p = some x ∧ ∀ b, b < 32 → (x.getLsbD b = true ↔ Begun p.funcs b) := by
  have hn := hg.funcs.2
  obtain ⟨x, q1, q2⟩ := begun_l3 p.funcs (by omega) (fun f => by have := hg.le f; omega) p.funcs.length 0 0#32 (by omega)
  rw [show ((0 : Nat) : Int) = 0 from rfl] at q1
  unfold graph_Begun
  rw [bind_some q1]
  refine ⟨x, rfl, fun b hb => ?_⟩
  rw [q2]
  constructor
  · rintro (h1 | ⟨_, g, _, h2, h3⟩)
    · simp at h1
    · exact ⟨g, h2, h3⟩
  · rintro ⟨g, h2, h3⟩
    exact .inr ⟨hb, g, Nat.zero_le _, h2, h3⟩
theorem refbegun_l6 (t : List Int) (ht : t.length ≤ 65536) (x1 x2 x3 : Int) (x4 : FS) (f : Nat) (x6 : Int) : ∀ (m i : Nat), i + m = t.length → alibiref15_Begun_l6 t x1 x2 x3 x4 (f : Int) x6 (i : Int) = some (if (f : Int) ∈ t.drop i then .x0 true else .x1)
  | 0, i, h => by
    rw [alibiref15_Begun_l6, if_neg (by simp only [decide_eq_true_eq]; omega), List.drop_eq_nil_of_le (by omega)]
    rfl
  | m + 1, i, h => by
    have hlt : i < t.length := by omega
    have hd : t.drop i = t[i] :: t.drop (i + 1) := List.drop_eq_getElem_cons hlt
    have hg : List.getD t i 0 = t[i] := by simp [List.getD, hlt]
    rw [alibiref15_Begun_l6, if_pos (decide_eq_true (by omega)), if_pos (decide_eq_true (by omega)), if_pos (decide_eq_true (by omega)), Int.toNat_natCast, hg, hd, inc i (by omega), refbegun_l6 t ht x1 x2 x3 x4 f x6 m (i + 1) (by omega)]
    by_cases h1 : t[i] = (f : Int)
    · rw [if_pos (eqT h1), if_pos (by rw [h1]; simp)]
    · rw [if_neg (eqF h1)]
      have : ((f : Int) ∈ t[i] :: t.drop (i + 1)) ↔ (f : Int) ∈ t.drop (i + 1) := by
        rw [List.mem_cons]
        exact ⟨fun h => h.resolve_left fun e => h1 e.symm, .inr⟩
      simp only [this]
theorem refbegun_l2 (p : api_Program) (hg : Good p) (f : Nat) (hf : f < 32) : ∀ (m i : Nat), i + m = p.funcs.length → ∃ b, alibiref15_Begun_l2 p.globals p.locks p.slots p.funcs (f : Int) (i : Int) = some (if b = true then .x0 true else .x1) ∧ (b = true ↔ ∃ g, i ≤ g ∧ g < p.funcs.length ∧ ∃ j, j < (List.getD p.funcs g []).length ∧ (List.getD (List.getD p.funcs g []) j d_api_Node).kind = 5 ∧ (List.getD (List.getD p.funcs g []) j d_api_Node).arg = (f : Int))
  | 0, i, h => by
    rw [alibiref15_Begun_l2, if_neg (by simp only [decide_eq_true_eq]; omega)]
    exact ⟨false, rfl, ⟨(fun h => by cases h), fun ⟨g, h1, h2, _⟩ => by omega⟩⟩
  | m + 1, i, h => by
    have hn := hg.funcs.2
    have hle := hg.le i
    obtain ⟨t, q1, q2, q3⟩ := refnamed_eq (List.getD p.funcs i []) (by omega) 5
    have h6 := refbegun_l6 t (by have := q2.length_le (by omega); omega) p.globals p.locks p.slots p.funcs f (i : Int) t.length 0 (by omega)
    rw [show ((0 : Nat) : Int) = 0 from rfl, List.drop_zero] at h6
    rw [alibiref15_Begun_l2, if_pos (decide_eq_true (by omega)), if_pos (decide_eq_true (by omega)), if_pos (decide_eq_true (by omega)), Int.toNat_natCast, bind_some q1, bind_some h6, inc i (by omega)]
    by_cases h1 : (f : Int) ∈ t
    · rw [if_pos h1]
      exact ⟨true, rfl, ⟨fun _ => ⟨i, Nat.le_refl _, by omega, ((q3 f).1 h1).2⟩, fun _ => rfl⟩⟩
    · rw [if_neg h1]
      obtain ⟨b, g1, g2⟩ := refbegun_l2 p hg f hf m (i + 1) (by omega)
      refine ⟨b, g1, ?_⟩
      rw [g2]
      constructor
      · rintro ⟨g, h2, h3⟩; exact ⟨g, by omega, h3⟩
      · rintro ⟨g, h2, h3, h4⟩
        rcases Nat.eq_or_lt_of_le h2 with rfl | h5
        · exact absurd ((q3 f).2 ⟨hf, h4⟩) h1
        · exact ⟨g, h5, h3, h4⟩
theorem refbegun_eq (p : api_Program) (hg : Good p) (f : Nat) (hf : f < 32) : ∃ b, alibiref15_Begun p (f : Int) = some b ∧ (b = true ↔ Begun p.funcs f) := by
  obtain ⟨b, q1, q2⟩ := refbegun_l2 p hg f hf p.funcs.length 0 (by omega)
  rw [show ((0 : Nat) : Int) = 0 from rfl] at q1
  unfold alibiref15_Begun
  rw [bind_some q1]
  refine ⟨b, by cases b <;> rfl, ?_⟩
  rw [q2]
  exact ⟨fun ⟨g, _, h2, h3⟩ => ⟨g, h2, h3⟩, fun ⟨g, h2, h3⟩ => ⟨g, Nat.zero_le _, h2, h3⟩⟩
/-- The lowest bit. -/
def Low (x : W32) (k : Nat) : Prop := k < 32 ∧ x.getLsbD k = true ∧ ∀ j, j < k → ¬ x.getLsbD j = true
theorem low_ex_aux (x : W32) : ∀ (m i : Nat), (∀ j, j < i → ¬ x.getLsbD j = true) → i + m = 32 → (∃ k, Low x k) ∨ ∀ j, j < 32 → ¬ x.getLsbD j = true
  | 0, i, h, e => .inr fun j hj => h j (by omega)
  | m + 1, i, h, e => by
    by_cases c : x.getLsbD i = true
    · exact .inl ⟨i, by omega, c, h⟩
    · exact low_ex_aux x m (i + 1) (fun j hj => by
        rcases Nat.lt_or_ge j i with h1 | h1
        · exact h j h1
        · rw [show j = i by omega]; exact c) (by omega)
theorem low_ex {x : W32} (h : x ≠ 0#32) : ∃ k, Low x k := by
  rcases low_ex_aux x 32 0 (fun j hj => by omega) rfl with h1 | h1
  · exact h1
  · refine absurd (BitVec.eq_of_getLsbD_eq fun i hi => ?_) h
    have h2 := h1 i hi
    rw [Bool.not_eq_true] at h2
    rw [h2]
    simp
theorem low_below {x : W32} {k : Nat} (h : Low x k) (i : Nat) : (∃ j, j < i ∧ x.getLsbD j = true) ↔ k < i := by
  constructor
  · rintro ⟨j, h1, h2⟩
    rcases Nat.lt_or_ge k i with h3 | h3
    · exact h3
    · exact absurd h2 (h.2.2 j (by omega))
  · exact fun h1 => ⟨k, h1, h.2.1⟩
theorem low_neg {x : W32} {k : Nat} (h : Low x k) : x &&& (-x) = BitVec.twoPow 32 k := by
  refine BitVec.eq_of_getLsbD_eq fun i hi => ?_
  rw [BitVec.getLsbD_and, BitVec.getLsbD_neg, BitVec.getLsbD_twoPow]
  have h1 := low_below h i
  by_cases c : k < i
  · have : decide (∃ j, j < i ∧ x.getLsbD j = true) = true := decide_eq_true (h1.2 c)
    rw [this]
    have : decide (k = i) = false := decide_eq_false (by omega)
    rw [this]
    cases x.getLsbD i <;> simp [hi]
  · have : decide (∃ j, j < i ∧ x.getLsbD j = true) = false := decide_eq_false fun hh => c (h1.1 hh)
    rw [this]
    by_cases e : k = i
    · subst e
      rw [h.2.1]
      simp [h.1]
    · have h2 : x.getLsbD i = false := by
        rw [← Bool.not_eq_true]
        exact h.2.2 i (by omega)
      rw [h2]
      simp [e]
theorem low_clear {x : W32} {k : Nat} (h : Low x k) (i : Nat) : (x &&& (x - 1#32)).getLsbD i = true ↔ x.getLsbD i = true ∧ i ≠ k := by
  rw [← BitVec.not_neg, BitVec.getLsbD_and, BitVec.getLsbD_not, BitVec.getLsbD_neg]
  have h1 := low_below h i
  by_cases hi : i < 32
  · by_cases c : k < i
    · have : decide (∃ j, j < i ∧ x.getLsbD j = true) = true := decide_eq_true (h1.2 c)
      rw [this]
      have : i ≠ k := by omega
      cases x.getLsbD i <;> simp [hi, this]
    · have : decide (∃ j, j < i ∧ x.getLsbD j = true) = false := decide_eq_false fun hh => c (h1.1 hh)
      rw [this]
      by_cases e : i = k
      · subst e
        rw [h.2.1]
        simp
      · have h2 : x.getLsbD i = false := by
          rw [← Bool.not_eq_true]
          exact h.2.2 i (by omega)
        rw [h2]
        simp
  · have h2 : x.getLsbD i = false := BitVec.getLsbD_of_ge _ _ (by omega)
    rw [h2]
    simp
theorem bruijn_all : ∀ k : Fin 32, (BitVec.toNat (((BitVec.twoPow 32 k.val) * (125613361#32)) >>> (BitVec.toNat (27#64))) < 32) ∧ BitVec.toNat (tab_2 (BitVec.toNat (((BitVec.twoPow 32 k.val) * (125613361#32)) >>> (BitVec.toNat (27#64))))) = k.val := by decide +kernel
theorem tz_eq {x : W32} {k : Nat} (h : Low x k) : math_bits_TrailingZeros32 x = some (k : Int) := by
  have hx : ¬ (x == 0#32) = true := fun hh => by
    have h2 := h.2.1
    rw [beq_iff_eq.1 hh] at h2
    simp at h2
  obtain ⟨t1, t2⟩ := bruijn_all ⟨k, h.1⟩
  simp only [] at t1 t2
  unfold math_bits_TrailingZeros32
  rw [if_neg hx, low_neg h, if_pos (decide_eq_true (by omega)), Int.toNat_natCast, t2]
theorem least_low {x : W32} {k : Nat} (h : Low x k) : sets_Least x = some (k : Int) := by
  have hx : ¬ (x == 0#32) = true := fun hh => by
    have h2 := h.2.1
    rw [beq_iff_eq.1 hh] at h2
    simp at h2
  unfold sets_Least
  rw [if_neg hx, bind_some (tz_eq h)]
theorem list_l2 : ∀ (d : Nat) (x : W32) (t : List Int), x.toNat ≤ d → (∀ i, i < t.length → ¬ x.getLsbD i = true) → t.length ≤ 32 → ∃ o, sets_List_l2 t x = some o ∧ o.length ≤ 32 ∧ ∀ y : Int, y ∈ o ↔ y ∈ t ∨ ∃ b : Nat, y = (b : Int) ∧ x.getLsbD b = true
  | d, x, t, hd, hl, ht => by
    by_cases hz : x = 0#32
    · rw [sets_List_l2, if_neg (by simpa using hz)]
      exact ⟨t, rfl, ht, fun y => ⟨.inl, fun h => h.elim id fun ⟨b, _, hb⟩ => by rw [hz] at hb; simp at hb⟩⟩
    · obtain ⟨k, hk⟩ := low_ex hz
      have hkt : t.length ≤ k := by
        rcases Nat.lt_or_ge k t.length with h | h
        · exact absurd hk.2.1 (hl k h)
        · exact h
      have hk32 := hk.1
      have hlt : (x &&& (x - 1#32)).toNat < x.toNat := by
        rcases Nat.lt_or_ge (x &&& (x - 1#32)).toNat x.toNat with h | h
        · exact h
        · have hle : (x &&& (x - 1#32)).toNat ≤ x.toNat := by rw [BitVec.toNat_and]; exact Nat.and_le_left
          have e : x &&& (x - 1#32) = x := BitVec.eq_of_toNat_eq (by omega)
          have := (low_clear hk k).1 (by rw [e]; exact hk.2.1)
          exact absurd rfl this.2
      match d, hd with
      | 0, hd => omega
      | d + 1, hd =>
        rw [sets_List_l2, if_pos (by simpa using hz), bind_some (least_low hk), if_pos (Nat.ble_eq_true_of_le (by simp only [List.length_singleton, reach]; omega))]
        obtain ⟨o, o1, o2, o3⟩ := list_l2 d (x &&& (x - 1#32)) (t ++ [(k : Int)]) (by omega) (fun i hi h => by
          rw [List.length_append, List.length_singleton] at hi
          obtain ⟨h1, h2⟩ := (low_clear hk i).1 h
          exact hk.2.2 i (by omega) h1) (by rw [List.length_append, List.length_singleton]; omega)
        refine ⟨o, o1, o2, fun y => ?_⟩
        rw [o3, List.mem_append, List.mem_singleton]
        constructor
        · rintro ((h | h) | ⟨b, h1, h2⟩)
          · exact .inl h
          · exact .inr ⟨k, h, hk.2.1⟩
          · exact .inr ⟨b, h1, ((low_clear hk b).1 h2).1⟩
        · rintro (h | ⟨b, h1, h2⟩)
          · exact .inl (.inl h)
          · by_cases e : b = k
            · exact .inl (.inr (by rw [h1, e]))
            · exact .inr ⟨b, h1, (low_clear hk b).2 ⟨h2, e⟩⟩
theorem list_eq (x : W32) : ∃ o, sets_List x = some o ∧ o.length ≤ 32 ∧ ∀ y : Int, y ∈ o ↔ ∃ b : Nat, y = (b : Int) ∧ x.getLsbD b = true := by
  obtain ⟨o, o1, o2, o3⟩ := list_l2 x.toNat x [] (Nat.le_refl _) (fun i hi => by simp at hi) (by simp)
  unfold sets_List
  rw [bind_some o1]
  exact ⟨o, rfl, o2, fun y => by rw [o3]; simp⟩
def allM (n : Nat) : W32 := BitVec.setWidth 32 (((1#64) <<< n) - (1#64))
theorem allM_fin : ∀ n : Fin 33, ∀ i : Fin 32, (allM n.val).getLsbD i.val = decide (i.val < n.val) := by decide +kernel
theorem allM_bit {n : Nat} (hn : n ≤ 32) (b : Nat) : (allM n).getLsbD b = true ↔ b < n := by
  by_cases hb : b < 32
  · rw [allM_fin ⟨n, by omega⟩ ⟨b, hb⟩, decide_eq_true_iff]
  · rw [BitVec.getLsbD_of_ge _ _ (by omega)]
    constructor
    · intro h; cases h
    · intro h; omega
theorem sall_eq (n : Nat) (hn : n ≤ 32) : sets_All (n : Int) = some (allM n) := by
  unfold sets_All
  have h1 : ¬ (32 : Int) < (n : Int) := by omega
  have h2 : ¬ (0 : Int) > (n : Int) := by omega
  simp only [if_neg h1, if_neg h2]
  rw [if_pos (decide_eq_true (by omega)), Int.toNat_natCast]
  rfl
/-- Comes to, by calls within the program. -/
inductive Rt (C : List W32) : Nat → Nat → Prop
  | refl (a : Nat) : Rt C a a
  | step (a b c : Nat) : b < C.length → (List.getD C a 0#32).getLsbD b = true → Rt C b c → Rt C a c
theorem rt_in {C : List W32} {m : W32} (h : ∀ a, m.getLsbD a = true → ∀ b, b < C.length → (List.getD C a 0#32).getLsbD b = true → m.getLsbD b = true) {a b : Nat} (hr : Rt C a b) : m.getLsbD a = true → m.getLsbD b = true := by
  induction hr with
  | refl a => exact id
  | step a b c h1 h2 _ ih => exact fun ha => ih (h a ha b h1 h2)
theorem rt_trans {C : List W32} {a b c : Nat} (h : Rt C a b) (h2 : Rt C b c) : Rt C a c := by
  induction h with
  | refl a => exact h2
  | step a b d h1 h3 _ ih => exact .step a b _ h1 h3 (ih h2)
theorem rt_lt {C : List W32} {a b : Nat} (h : Rt C a b) (ha : a < C.length) : b < C.length := by
  induction h with
  | refl a => exact ha
  | step a b d h1 h3 _ ih => exact ih h1
theorem l5_eq (C : List W32) (hC : C.length ≤ 32) (t : List Int) (ht : t.length ≤ 32) (hr : ∀ y ∈ t, 0 ≤ y ∧ y < (C.length : Int)) (x2 : W32) : ∀ (m j : Nat) (x3 : W32), j + m = t.length → ∃ y, graph_Reach_l5 C t x2 x3 (t.length : Int) (j : Int) = some y ∧ ∀ b, y.getLsbD b = true ↔ x3.getLsbD b = true ∨ ∃ i, j ≤ i ∧ i < t.length ∧ b < C.length ∧ (List.getD C (List.getD t i 0).toNat 0#32).getLsbD b = true
  | 0, j, x3, h => by
    rw [graph_Reach_l5, if_neg (by simp only [decide_eq_true_eq]; omega)]
    exact ⟨x3, rfl, fun b => ⟨.inl, fun h => h.elim id fun ⟨i, h1, h2, _⟩ => by omega⟩⟩
  | m + 1, j, x3, h => by
    have hj : j < t.length := by omega
    have hm : List.getD t j 0 ∈ t := by
      rw [show List.getD t j 0 = t[j] by simp [List.getD, hj]]
      exact List.getElem_mem _
    have hb := hr _ hm
    obtain ⟨y, y1, y2⟩ := l5_eq C hC t ht hr x2 m (j + 1) (x3 ||| ((List.getD C (List.getD t j 0).toNat 0#32) &&& allM C.length)) (by omega)
    rw [graph_Reach_l5, if_pos (decide_eq_true (by omega)), if_pos (decide_eq_true (by omega)), if_pos (decide_eq_true (by omega)), Int.toNat_natCast, if_pos (decide_eq_true hb.1), if_pos (decide_eq_true hb.2), bind_some (sall_eq _ hC), inc j (by omega)]
    refine ⟨y, y1, fun b => ?_⟩
    rw [y2, BitVec.getLsbD_or, Bool.or_eq_true, BitVec.getLsbD_and, Bool.and_eq_true, allM_bit hC]
    constructor
    · rintro ((h1 | ⟨h1, h2⟩) | ⟨i, h1, h2, h3⟩)
      · exact .inl h1
      · exact .inr ⟨j, Nat.le_refl _, hj, h2, h1⟩
      · exact .inr ⟨i, by omega, h2, h3⟩
    · rintro (h1 | ⟨i, h1, h2, h3, h4⟩)
      · exact .inl (.inl h1)
      · rcases Nat.eq_or_lt_of_le h1 with rfl | h5
        · exact .inl (.inr ⟨h4, h3⟩)
        · exact .inr ⟨i, h5, h2, h3, h4⟩
theorem reach_l3 (C : List W32) (hC : C.length ≤ 32) : ∀ (d : Nat) (m : W32), 2 ^ 32 - m.toNat ≤ d → (∀ b, m.getLsbD b = true → b < C.length) → ∃ R, graph_Reach_l3 C m = some R ∧ ∀ b, R.getLsbD b = true ↔ ∃ a, m.getLsbD a = true ∧ Rt C a b
  | 0, m, hd, hm => by have := m.isLt; omega
  | d + 1, m, hd, hm => by
    obtain ⟨t, t1, t2, t3⟩ := list_eq m
    obtain ⟨y, y1, y2⟩ := l5_eq C hC t t2 (fun y hy => by
      obtain ⟨b, e, hb⟩ := (t3 y).1 hy
      have := hm b hb
      omega) m t.length 0 m (Nat.zero_add _)
    rw [show ((0 : Nat) : Int) = 0 from rfl] at y1
    have y3 : ∀ b, y.getLsbD b = true ↔ m.getLsbD b = true ∨ ∃ a, m.getLsbD a = true ∧ b < C.length ∧ (List.getD C a 0#32).getLsbD b = true := fun b => by
      rw [y2]
      constructor
      · rintro (h | ⟨i, _, h1, h2, h3⟩)
        · exact .inl h
        · have hmem : List.getD t i 0 ∈ t := by
            rw [show List.getD t i 0 = t[i] by simp [List.getD, h1]]
            exact List.getElem_mem _
          obtain ⟨a, e, ha⟩ := (t3 _).1 hmem
          rw [e, Int.toNat_natCast] at h3
          exact .inr ⟨a, ha, h2, h3⟩
      · rintro (h | ⟨a, h1, h2, h3⟩)
        · exact .inl h
        · obtain ⟨i, hi, e⟩ := List.mem_iff_getElem.1 ((t3 (a : Int)).2 ⟨a, rfl, h1⟩)
          refine .inr ⟨i, Nat.zero_le _, hi, h2, ?_⟩
          rw [show List.getD t i 0 = (a : Int) by simp [List.getD, hi, e], Int.toNat_natCast]
          exact h3
    rw [graph_Reach_l3, bind_some t1, bind_some y1]
    by_cases he : y = m
    · rw [if_pos (beq_iff_eq.2 he)]
      refine ⟨m, rfl, fun b => ⟨fun h => ⟨b, h, .refl b⟩, fun ⟨a, ha, hr⟩ => rt_in (fun a ha b hb hc => ?_) hr ha⟩⟩
      rw [← he]
      exact (y3 b).2 (.inr ⟨a, ha, hb, hc⟩)
    · rw [if_neg (fun h => he (beq_iff_eq.1 h))]
      have hle : m.toNat ≤ y.toNat := by
        have e : y = m ||| y := BitVec.eq_of_getLsbD_eq fun i hi => by
          rw [BitVec.getLsbD_or]
          cases hmi : m.getLsbD i with
          | false => simp
          | true => rw [(y3 i).2 (.inl hmi)]; rfl
        rw [e, BitVec.toNat_or]
        exact Nat.left_le_or
      have hlt : m.toNat < y.toNat := by
        rcases Nat.lt_or_ge m.toNat y.toNat with h | h
        · exact h
        · exact absurd (BitVec.eq_of_toNat_eq (by omega)) he
      have hy := y.isLt
      obtain ⟨R, r1, r2⟩ := reach_l3 C hC d y (by omega) fun b hb => by
        rcases (y3 b).1 hb with h | ⟨_, _, h, _⟩
        · exact hm b h
        · exact h
      refine ⟨R, r1, fun b => ?_⟩
      rw [r2]
      constructor
      · rintro ⟨a, ha, hr⟩
        rcases (y3 a).1 ha with h | ⟨a0, h0, h1, h2⟩
        · exact ⟨a, h, hr⟩
        · exact ⟨a0, h0, .step _ _ _ h1 h2 hr⟩
      · rintro ⟨a, ha, hr⟩
        exact ⟨a, (y3 a).2 (.inl ha), hr⟩
theorem reachL_eq (p : api_Program) {C : List W32} (hc : graph_Callees p = some C) (hC : C.length ≤ 32) (from_ : W32) : ∃ R, graph_Reach p from_ = some R ∧ ∀ b, R.getLsbD b = true ↔ ∃ a, a < C.length ∧ from_.getLsbD a = true ∧ Rt C a b := by
  obtain ⟨R, r1, r2⟩ := reach_l3 C hC (2 ^ 32) (from_ &&& allM C.length) (by omega) fun b hb => by
    rw [BitVec.getLsbD_and, Bool.and_eq_true, allM_bit hC] at hb
    exact hb.2
  unfold graph_Reach
  rw [bind_some hc, bind_some (sall_eq _ hC), bind_some r1]
  refine ⟨R, rfl, fun b => ?_⟩
  rw [r2]
  constructor
  · rintro ⟨a, ha, hr⟩
    rw [BitVec.getLsbD_and, Bool.and_eq_true, allM_bit hC] at ha
    exact ⟨a, ha.2, ha.1, hr⟩
  · rintro ⟨a, h1, h2, hr⟩
    refine ⟨a, ?_, hr⟩
    rw [BitVec.getLsbD_and, Bool.and_eq_true, allM_bit hC]
    exact ⟨h2, h1⟩
theorem bits_eq {x y : W32} (h : ∀ b, x.getLsbD b = true ↔ y.getLsbD b = true) : x = y := BitVec.eq_of_getLsbD_eq fun i _ => Bool.eq_iff_iff.2 (h i)
/-- Calls within the program. -/
def EG (p : api_Program) (x y : Nat) : Prop := y < p.funcs.length ∧ Edge p.funcs x y
theorem reach_l16G (calls : List Int) (hcl : calls.length ≤ 65536) (n f : Nat) (hf : f < n) (hcr : ∀ x ∈ calls, 0 ≤ x) (x2 x3 x4 : Int) (x5 : FS) (x7 : Int) : ∀ (m i : Nat) (s : List Bool), i + m = calls.length → s.length = n → ∃ s', alibiref06_Reach_l16 s calls x2 x3 x4 x5 (n : Int) x7 (f : Int) (i : Int) = some s' ∧ s'.length = n ∧ ∀ y, Sn s' y ↔ Sn s y ∨ (Sn s f ∧ y < n ∧ (y : Int) ∈ calls.drop i)
  | 0, i, s, h, hs => by
    rw [alibiref06_Reach_l16, if_neg (by simp only [decide_eq_true_eq]; omega), List.drop_eq_nil_of_le (by omega)]
    exact ⟨s, rfl, hs, fun y => by simp⟩
  | m + 1, i, s, h, hs => by
    have hlt : i < calls.length := by omega
    have hd : calls.drop i = calls[i] :: calls.drop (i + 1) := List.drop_eq_getElem_cons hlt
    have hg : List.getD calls i 0 = calls[i] := by simp [List.getD, hlt]
    have h0 := hcr _ (List.getElem_mem hlt)
    rw [alibiref06_Reach_l16, if_pos (decide_eq_true (by omega)), if_pos (decide_eq_true (by omega)), if_pos (decide_eq_true (by omega)), inc i (by omega)]
    rw [Int.toNat_natCast f, Int.toNat_natCast i]
    by_cases hsf : Sn s f
    · rw [if_pos (show List.getD s f false = true from hsf), if_pos (decide_eq_true (by omega)), if_pos (decide_eq_true (by omega)), hg, hd]
      obtain ⟨x, hx⟩ : ∃ x : Nat, calls[i] = (x : Int) := ⟨calls[i].toNat, by omega⟩
      rw [hx] at h0 ⊢
      by_cases hxn : x < n
      · rw [if_pos (decide_eq_true (by omega)), if_pos (decide_eq_true (by omega)), if_pos (decide_eq_true (by omega)), Int.toNat_natCast]
        obtain ⟨s', q1, q2, q3⟩ := reach_l16G calls hcl n f hf hcr x2 x3 x4 x5 x7 m (i + 1) (s.set x true) (by omega) (by simpa using hs)
        refine ⟨s', q1, q2, fun y => ?_⟩
        rw [q3, Sn_set (by omega), Sn_set (by omega), List.mem_cons]
        constructor
        · rintro ((rfl | h1) | ⟨_, h2, h3⟩)
          · exact .inr ⟨hsf, hxn, .inl rfl⟩
          · exact .inl h1
          · exact .inr ⟨hsf, h2, .inr h3⟩
        · rintro (h1 | ⟨h1, h2, h3 | h3⟩)
          · exact .inl (.inr h1)
          · exact .inl (.inl (by omega))
          · exact .inr ⟨.inr h1, h2, h3⟩
      · rw [if_neg (by simp only [decide_eq_true_eq]; omega)]
        obtain ⟨s', q1, q2, q3⟩ := reach_l16G calls hcl n f hf hcr x2 x3 x4 x5 x7 m (i + 1) s (by omega) hs
        refine ⟨s', q1, q2, fun y => ?_⟩
        rw [q3, List.mem_cons]
        constructor
        · rintro (h1 | ⟨h1, h2, h3⟩)
          · exact .inl h1
          · exact .inr ⟨h1, h2, .inr h3⟩
        · rintro (h1 | ⟨h1, h2, h3 | h3⟩)
          · exact .inl h1
          · omega
          · exact .inr ⟨h1, h2, h3⟩
    · rw [if_neg (show ¬ List.getD s f false = true from hsf)]
      obtain ⟨s', q1, q2, q3⟩ := reach_l16G calls hcl n f hf hcr x2 x3 x4 x5 x7 m (i + 1) s (by omega) hs
      refine ⟨s', q1, q2, fun y => ?_⟩
      rw [q3]
      simp [hsf]
theorem reach_l12G (p : api_Program) (hn : p.funcs.length ≤ 32) (hle : ∀ f, (List.getD p.funcs f []).length ≤ 65536) (x6 : Int) : ∀ (m f : Nat) (s : List Bool), f + m = p.funcs.length → s.length = p.funcs.length → ∃ s', alibiref06_Reach_l12 s p.globals p.locks p.slots p.funcs (p.funcs.length : Int) x6 (f : Int) = some s' ∧ s'.length = p.funcs.length ∧ (∀ y, Sn s y → Sn s' y) ∧ (∀ Q : Nat → Prop, (∀ x y, Q x → EG p x y → Q y) → (∀ y, Sn s y → Q y) → ∀ y, Sn s' y → Q y) ∧ ∀ x y, f ≤ x → Sn s x → EG p x y → Sn s' y
  | 0, f, s, h, hs => by
    rw [alibiref06_Reach_l12, if_neg (by simp only [decide_eq_true_eq]; omega)]
    exact ⟨s, rfl, hs, fun y h => h, fun Q _ h => h, fun x y hx hsx _ => by have := hsx.lt; omega⟩
  | m + 1, f, s, h, hs => by
    obtain ⟨t, q1, q2, q3⟩ := refnamed_eq (List.getD p.funcs f []) (hle f) 7
    have hmem : ∀ b : Nat, (b < p.funcs.length ∧ (b : Int) ∈ t) ↔ EG p f b := fun b => ⟨fun h => ⟨h.1, ((q3 b).1 h.2).2⟩, fun h => ⟨h.1, (q3 b).2 ⟨by have := h.1; omega, h.2⟩⟩⟩
    have htn := q2.nat
    have htl := q2.length_le (by omega)
    obtain ⟨s1, g1, g2, g3⟩ := reach_l16G t (by omega) p.funcs.length f (by omega) (fun x hx => by have := htn x hx; omega) p.globals p.locks p.slots p.funcs x6 t.length 0 s (by omega) hs
    rw [show ((0 : Nat) : Int) = 0 from rfl] at g1
    rw [alibiref06_Reach_l12, if_pos (decide_eq_true (by omega)), if_pos (decide_eq_true (by omega)), if_pos (decide_eq_true (by omega)), Int.toNat_natCast, bind_some q1, bind_some g1, inc f (by omega)]
    obtain ⟨s', k1, k2, k3, k4, k5⟩ := reach_l12G p hn hle x6 m (f + 1) s1 (by omega) g2
    refine ⟨s', k1, k2, fun y hy => k3 y ((g3 y).2 (.inl hy)), fun Q hQ hsQ => k4 Q hQ fun y hy => ?_, fun x y hx hsx e => ?_⟩
    · rcases (g3 y).1 hy with h1 | ⟨h1, h3, h2⟩
      · exact hsQ y h1
      · rw [List.drop_zero] at h2
        exact hQ f y (hsQ f h1) ((hmem y).1 ⟨h3, h2⟩)
    · rcases Nat.eq_or_lt_of_le hx with rfl | hx
      · exact k3 y ((g3 y).2 (.inr ⟨hsx, e.1, by rw [List.drop_zero]; exact ((hmem y).2 e).2⟩))
      · exact k5 x y hx ((g3 x).2 (.inl hsx)) e
def ClosedG (p : api_Program) (s : List Bool) : Prop := ∀ x, Sn s x → ∀ y, EG p x y → Sn s y
theorem reach_l9G (p : api_Program) (hn : p.funcs.length ≤ 32) (hle : ∀ f, (List.getD p.funcs f []).length ≤ 65536) : ∀ (m r : Nat) (s : List Bool), r + m = p.funcs.length → s.length = p.funcs.length → ∃ s', alibiref06_Reach_l9 s p.globals p.locks p.slots p.funcs (p.funcs.length : Int) (r : Int) = some s' ∧ s'.length = p.funcs.length ∧ (∀ y, Sn s y → Sn s' y) ∧ (∀ Q : Nat → Prop, (∀ x y, Q x → EG p x y → Q y) → (∀ y, Sn s y → Q y) → ∀ y, Sn s' y → Q y) ∧ (ClosedG p s' ∨ s'.count false + m ≤ s.count false)
  | 0, r, s, h, hs => by
    rw [alibiref06_Reach_l9, if_neg (by simp only [decide_eq_true_eq]; omega)]
    exact ⟨s, rfl, hs, fun y h => h, fun Q _ h => h, .inr (by omega)⟩
  | m + 1, r, s, h, hs => by
    obtain ⟨s1, g1, g2, g3, g4, g5⟩ := reach_l12G p hn hle (r : Int) p.funcs.length 0 s (by omega) hs
    rw [show ((0 : Nat) : Int) = 0 from rfl] at g1
    rw [alibiref06_Reach_l9, if_pos (decide_eq_true (by omega)), bind_some g1, inc r (by omega)]
    obtain ⟨s', k1, k2, k3, k4, k5⟩ := reach_l9G p hn hle m (r + 1) s1 (by omega) g2
    refine ⟨s', k1, k2, fun y hy => k3 y (g3 y hy), fun Q hQ hsQ => k4 Q hQ (g4 Q hQ hsQ), ?_⟩
    by_cases hcl : ClosedG p s
    · left
      have e1 : ∀ y, Sn s1 y → Sn s y := g4 (Sn s) (fun x y hx e => hcl x hx y e) fun y h => h
      have e2 : ∀ y, Sn s' y → Sn s y := fun y hy => e1 y (by
        have := k4 (Sn s1) (fun x y hx e => g3 y (hcl x (e1 x hx) y e)) (fun y h => h) y hy
        exact this)
      exact fun x hx y e => k3 y (g3 y (hcl x (e2 x hx) y e))
    · rcases k5 with k5 | k5
      · exact .inl k5
      · right
        have : ∃ x y, Sn s x ∧ EG p x y ∧ ¬ Sn s y := by
          apply Classical.byContradiction
          intro hno
          exact hcl fun x hx y e => Classical.byContradiction fun h => hno ⟨x, y, hx, e, h⟩
        obtain ⟨x, y, h1, h2, h3⟩ := this
        have := count_lt (by omega) g3 h3 (g5 x y (Nat.zero_le _) h1 h2)
        omega
theorem rf_list (p : api_Program) (hn : p.funcs.length ≤ 32) (hle : ∀ f, (List.getD p.funcs f []).length ≤ 65536) {C : List W32} (hc : C.length = p.funcs.length) (hcb : ∀ x b, x < p.funcs.length → ((List.getD C x 0#32).getLsbD b = true ↔ b < 32 ∧ Edge p.funcs x b)) (fr : List Int) (hfl : fr.length ≤ 65536) (hfr : ∀ x ∈ fr, 0 ≤ x) : ∃ t, alibiref06_Reach p fr = some t ∧ Rises 0 t ∧ ∀ b : Nat, (b : Int) ∈ t ↔ ∃ a : Nat, a < p.funcs.length ∧ (a : Int) ∈ fr ∧ Rt C a b := by
  unfold alibiref06_Reach
  rw [if_pos (decide_eq_true (by omega)), if_pos (decide_eq_true (by simp only [reach]; omega)), Int.toNat_natCast]
  obtain ⟨s0, q1, q2, q3⟩ := reach_l4 p fr hfl hfr fr.length 0 (List.replicate p.funcs.length false) (Nat.zero_add _) (by simp)
  rw [show ((0 : Nat) : Int) = 0 from rfl] at q1
  have h0 : ∀ y, Sn s0 y ↔ y < p.funcs.length ∧ (y : Int) ∈ fr := fun y => by
    rw [q3, List.drop_zero]
    constructor
    · rintro (h1 | h2)
      · exact absurd h1 (sn_replicate _ _)
      · exact h2
    · exact .inr
  obtain ⟨s, g1, g2, g3, g4, g5⟩ := reach_l9G p hn hle p.funcs.length 0 s0 (by omega) q2
  rw [show ((0 : Nat) : Int) = 0 from rfl] at g1
  obtain ⟨t, k1, k2, k3⟩ := reach_l22 s p.funcs.length (by omega) g2 p.funcs.length 0 [] (by omega) (by simp)
  rw [show ((0 : Nat) : Int) = 0 from rfl, List.nil_append] at k1
  rw [bind_some q1, bind_some g1, bind_some k1]
  have hcl : ClosedG p s := by
    rcases g5 with h | h
    · exact h
    · by_cases he : ∃ f, Sn s0 f
      · exfalso
        obtain ⟨f, hf⟩ := he
        have h1 := count_lt (s := List.replicate p.funcs.length false) (s' := s0) (by simp [q2]) (fun y hy => absurd hy (sn_replicate _ _)) (sn_replicate _ f) hf
        have h2 := List.count_le_length (a := false) (l := List.replicate p.funcs.length false)
        rw [List.length_replicate] at h2
        omega
      · intro x hx
        exact absurd ⟨x, g4 (Sn s0) (fun x y hx _ => absurd ⟨x, hx⟩ he) (fun y h => h) x hx⟩ he
  refine ⟨t, rfl, k2, fun b => ?_⟩
  rw [k3]
  constructor
  · rintro ⟨_, h1⟩
    refine g4 (fun y => ∃ a : Nat, a < p.funcs.length ∧ (a : Int) ∈ fr ∧ Rt C a y) (fun x y hx e => ?_) (fun y hy => ?_) b h1
    · obtain ⟨a, a1, a2, a3⟩ := hx
      have hxl := rt_lt a3 (by omega)
      exact ⟨a, a1, a2, rt_trans a3 (.step x y y (by rw [hc]; exact e.1) ((hcb x y (by omega)).2 ⟨by have := e.1; omega, e.2⟩) (.refl y))⟩
    · obtain ⟨h2, h3⟩ := (h0 y).1 hy
      exact ⟨y, h2, h3, .refl y⟩
  · rintro ⟨a, a1, a2, hr⟩
    refine ⟨Nat.zero_le _, ?_⟩
    have key : ∀ {a b : Nat}, Rt C a b → a < p.funcs.length → Sn s a → Sn s b := fun {a b} hr => by
      induction hr with
      | refl a => exact fun _ h => h
      | step a b c h1 h2 _ ih => exact fun hal ha => ih (by omega) (hcl a ha b ⟨by omega, ((hcb a b hal).1 h2).2⟩)
    exact key hr a1 (g3 a ((h0 a).2 ⟨a1, a2⟩))
/-- What is taken behind a node. -/
def tbh (x : api_Node) (t : W32) : W32 := if x.kind = 3 then t ||| one x.arg else if x.kind = 4 then t &&& ~~~(one x.arg) else t
/-- Does a node only what it may? -/
def tfine (locks : List W32) (x : api_Node) (t : W32) : Bool := if x.kind = 3 then (t &&& one x.arg) == 0#32 else if x.kind = 4 then (t &&& one x.arg) != 0#32 else if x.kind = 9 then t == 0#32 else if x.kind = 7 then (if 0 ≤ x.arg ∧ x.arg < locks.length then (t &&& List.getD locks x.arg.toNat 0#32) == 0#32 else false) else true
theorem steps_eq (x : api_Node) (t : W32) (locks : List W32) : class_steps x t locks = some (tbh x t, tfine locks x t) := by
  unfold class_steps tbh tfine
  rw [bind_some (one_eq _)]
  by_cases h3 : x.kind = 3
  · rw [if_pos (eqT h3), if_pos h3, if_pos h3]
  · rw [if_neg (eqF h3), if_neg h3, if_neg h3]
    by_cases h4 : x.kind = 4
    · rw [if_pos (eqT h4), if_pos h4, if_pos h4]
    · rw [if_neg (eqF h4), if_neg h4, if_neg h4]
      by_cases h9 : x.kind = 9
      · rw [if_pos (eqT h9), if_pos h9]
      · rw [if_neg (eqF h9), if_neg h9]
        by_cases h7 : x.kind = 7
        · rw [if_pos (eqT h7), if_pos h7]
          by_cases ha : x.arg ≥ 0
          · by_cases hb : x.arg < (locks.length : Int)
            · rw [if_pos (decide_eq_true ha), if_pos (decide_eq_true hb), if_pos (decide_eq_true ha), if_pos (decide_eq_true hb), if_pos ⟨ha, hb⟩]
            · rw [if_pos (decide_eq_true ha), if_neg (by simpa using hb), if_neg (fun h => hb h.2)]
          · rw [if_neg (by simpa using ha), if_neg (fun h => ha h.1)]
        · rw [if_neg (eqF h7), if_neg h7]
/-- Comes to, by going on. -/
inductive Go1 (l : List api_Node) : Nat → Prop
  | start : Go1 l 0
  | on (i y : Nat) : Go1 l i → i < l.length → (y : Int) ∈ succ (List.getD l i d_api_Node) → Go1 l y
/-- What is taken at the nodes, on all ways alike. -/
structure Lab (l : List api_Node) (locks : List W32) (T : Nat → W32) : Prop where
  zero : T 0 = 0#32
  all : ∀ i, i < l.length → Go1 l i
  fine : ∀ i, i < l.length → tfine locks (List.getD l i d_api_Node) (T i) = true
  on : ∀ i y : Nat, i < l.length → (y : Int) ∈ succ (List.getD l i d_api_Node) → T y = tbh (List.getD l i d_api_Node) (T i)
theorem getDs {α : Type} (s : List α) (i j : Nat) (x d : α) (h : i < s.length) : List.getD (s.set i x) j d = if j = i then x else List.getD s j d := by
  by_cases e : j = i
  · subst e; simp [List.getD, h]
  · have : i ≠ j := fun e' => e e'.symm
    rw [if_neg e]
    simp [List.getD, List.getElem?_set, this]
theorem gdE {α : Type} (s : List α) (i : Nat) (d : α) (h : i < s.length) : List.getD s i d = s[i] := by simp [List.getD, h]
/-- What a state of the search knows. -/
structure Srch (l : List api_Node) (locks : List W32) (out : List W32) (met : List Bool) (todo : List Int) (ok : Bool) : Prop where
  ol : out.length = l.length
  ml : met.length = l.length
  td : ∀ y ∈ todo, ∃ b : Nat, y = (b : Int) ∧ b < l.length ∧ Sn met b
  z : Sn met 0
  oz : List.getD out 0 0#32 = 0#32
  go : ∀ i, Sn met i → Go1 l i
  lab : ∀ T, Lab l locks T → ok = true ∧ ∀ i, Sn met i → List.getD out i 0#32 = T i
/-- Nodes that are done. -/
structure Don (l : List api_Node) (locks : List W32) (out : List W32) (met : List Bool) (ok : Bool) (i : Nat) : Prop where
  s : ∀ y : Nat, (y : Int) ∈ succ (List.getD l i d_api_Node) → Sn met y
  f : ok = true → tfine locks (List.getD l i d_api_Node) (List.getD out i 0#32) = true ∧ ∀ y : Nat, (y : Int) ∈ succ (List.getD l i d_api_Node) → List.getD out y 0#32 = tbh (List.getD l i d_api_Node) (List.getD out i 0#32)
/-- The search grows. -/
structure Gro (out : List W32) (met : List Bool) (ok : Bool) (out' : List W32) (met' : List Bool) (ok' : Bool) : Prop where
  m : ∀ y, Sn met y → Sn met' y
  o : ∀ y, Sn met y → List.getD out' y 0#32 = List.getD out y 0#32
  k : ok' = true → ok = true
theorem Gro.refl (out : List W32) (met : List Bool) (ok : Bool) : Gro out met ok out met ok := ⟨fun _ h => h, fun _ _ => rfl, id⟩
theorem Gro.trans {o1 o2 o3 : List W32} {m1 m2 m3 : List Bool} {k1 k2 k3 : Bool} (h : Gro o1 m1 k1 o2 m2 k2) (h2 : Gro o2 m2 k2 o3 m3 k3) : Gro o1 m1 k1 o3 m3 k3 := ⟨fun y hy => h2.m y (h.m y hy), fun y hy => (h2.o y (h.m y hy)).trans (h.o y hy), fun hk => h.k (h2.k hk)⟩
theorem nest_l14 (l : List api_Node) (locks : List W32) (i : Nat) (hi : i < l.length) (hll : l.length ≤ 65536) (hj : ∀ y ∈ succ (List.getD l i d_api_Node), 0 ≤ y ∧ y < (l.length : Int)) : ∀ (m k : Nat) (out : List W32) (met : List Bool) (todo : List Int) (ok : Bool), k + m = (succ (List.getD l i d_api_Node)).length → Srch l locks out met todo ok → Sn met i → todo.length + met.count false ≤ 1000000 → (∀ T, Lab l locks T → tbh (List.getD l i d_api_Node) (List.getD out i 0#32) = tbh (List.getD l i d_api_Node) (T i)) →
    ∃ out' met' todo' ok', class_Nested_l14 out met todo (succ (List.getD l i d_api_Node)) l locks ok (tbh (List.getD l i d_api_Node) (List.getD out i 0#32)) ((succ (List.getD l i d_api_Node)).length : Int) (k : Int) = some (.x1 out' met' todo' ok') ∧ Srch l locks out' met' todo' ok' ∧ Gro out met ok out' met' ok' ∧ todo'.length + met'.count false = todo.length + met.count false ∧ met'.count false ≤ met.count false ∧ (∀ y ∈ todo, y ∈ todo') ∧ (∀ b : Nat, Sn met' b → Sn met b ∨ (b : Int) ∈ todo') ∧ ∀ j, k ≤ j → ∀ (h : j < (succ (List.getD l i d_api_Node)).length), ∃ b : Nat, (succ (List.getD l i d_api_Node))[j] = (b : Int) ∧ Sn met' b ∧ (ok' = true → List.getD out' b 0#32 = tbh (List.getD l i d_api_Node) (List.getD out i 0#32))
  | 0, k, out, met, todo, ok, h, hs, hmi, hlen, hT => by
    rw [class_Nested_l14, if_neg (by simp only [decide_eq_true_eq]; omega)]
    exact ⟨out, met, todo, ok, rfl, hs, .refl _ _ _, rfl, Nat.le_refl _, fun y hy => hy, fun b hb => .inl hb, fun j h1 h2 => by omega⟩
  | m + 1, k, out, met, todo, ok, h, hs, hmi, hlen, hT => by
    have hlt : k < (succ (List.getD l i d_api_Node)).length := by omega
    have hg : List.getD (succ (List.getD l i d_api_Node)) k 0 = (succ (List.getD l i d_api_Node))[k] := gdE _ _ _ hlt
    have hmem := List.getElem_mem hlt
    have hr := hj _ hmem
    obtain ⟨b, hb⟩ : ∃ b : Nat, (succ (List.getD l i d_api_Node))[k] = (b : Int) := ⟨((succ (List.getD l i d_api_Node))[k]).toNat, by omega⟩
    have hbm : (b : Int) ∈ succ (List.getD l i d_api_Node) := by rw [← hb]; exact hmem
    have hol := hs.ol
    have hml := hs.ml
    have hgi := hs.go i hmi
    have sl := succ_len (List.getD l i d_api_Node)
    rw [class_Nested_l14, if_pos (decide_eq_true (by omega)), if_pos (decide_eq_true (by omega)), if_pos (decide_eq_true (by omega)), Int.toNat_natCast k, hg, hb]
    rw [hb] at hr
    rw [if_neg (by simp only [decide_eq_true_eq]; omega), if_neg (by simp only [decide_eq_true_eq]; omega), if_pos (decide_eq_true (by omega)), if_pos (decide_eq_true (by omega)), Int.toNat_natCast b, inc k (by omega)]
    by_cases hm : Sn met b
    · have hm' : List.getD met b false = true := hm
      rw [hm', if_neg (by decide)]
      -- met already
      have fin : ∀ ok2 : Bool, (ok2 = true → ok = true ∧ List.getD out b 0#32 = tbh (List.getD l i d_api_Node) (List.getD out i 0#32)) → (∀ T, Lab l locks T → ok2 = true) → ∃ out' met' todo' ok', class_Nested_l14 out met todo (succ (List.getD l i d_api_Node)) l locks ok2 (tbh (List.getD l i d_api_Node) (List.getD out i 0#32)) ((succ (List.getD l i d_api_Node)).length : Int) ((k + 1 : Nat) : Int) = some (.x1 out' met' todo' ok') ∧ Srch l locks out' met' todo' ok' ∧ Gro out met ok out' met' ok' ∧ todo'.length + met'.count false = todo.length + met.count false ∧ met'.count false ≤ met.count false ∧ (∀ y ∈ todo, y ∈ todo') ∧ (∀ b : Nat, Sn met' b → Sn met b ∨ (b : Int) ∈ todo') ∧ ∀ j, k ≤ j → ∀ (h : j < (succ (List.getD l i d_api_Node)).length), ∃ b : Nat, (succ (List.getD l i d_api_Node))[j] = (b : Int) ∧ Sn met' b ∧ (ok' = true → List.getD out' b 0#32 = tbh (List.getD l i d_api_Node) (List.getD out i 0#32)) := fun ok2 h1 h2 => by
        obtain ⟨out', met', todo', ok', q1, q2, q3, q4, q5, q6, q7, q8⟩ := nest_l14 l locks i hi hll hj m (k + 1) out met todo ok2 (by omega) ⟨hs.ol, hs.ml, hs.td, hs.z, hs.oz, hs.go, fun T hL => ⟨h2 T hL, (hs.lab T hL).2⟩⟩ hmi hlen hT
        refine ⟨out', met', todo', ok', q1, q2, ⟨q3.m, q3.o, fun hk => (h1 (q3.k hk)).1⟩, q4, q5, q6, q7, fun j h3 h4 => ?_⟩
        rcases Nat.eq_or_lt_of_le h3 with rfl | h5
        · exact ⟨b, hb, q3.m b hm, fun hk => (q3.o b hm).trans (h1 (q3.k hk)).2⟩
        · exact q8 j h5 h4
      have hLb : ∀ T, Lab l locks T → (List.getD out b 0#32 == tbh (List.getD l i d_api_Node) (List.getD out i 0#32)) = true := fun T hL => by
        rw [beq_iff_eq, (hs.lab T hL).2 b hm, hT T hL]
        exact hL.on i b hi hbm
      by_cases hk : ok = true
      · rw [if_pos hk, if_pos (decide_eq_true (by omega))]
        exact fin _ (fun h => ⟨hk, beq_iff_eq.1 h⟩) hLb
      · rw [if_neg hk]
        exact fin false (fun h => by cases h) (fun T hL => absurd (hs.lab T hL).1 hk)
    · have hm' : List.getD met b false = false := by
        rw [← Bool.not_eq_true]; exact hm
      have hbl : b < met.length := by omega
      have hbo : b < out.length := by omega
      have hib : i ≠ b := fun e => hm (by rw [← e]; exact hmi)
      have hb0 : b ≠ 0 := fun e => hm (by rw [e]; exact hs.z)
      have hcnt : (met.set b true).count false + 1 = met.count false := by
        have := List.count_set (l := met) (i := b) (a := true) (b := false) hbl
        have e : met[b] = false := by
          rw [← hm']; simp [List.getD, hbl]
        have hpos : 0 < met.count false := List.count_pos_iff.2 (by rw [← e]; exact List.getElem_mem hbl)
        rw [this, e]
        simp
        omega
      rw [hm', if_pos (by decide), if_pos (decide_eq_true (by omega)), if_pos (Nat.ble_eq_true_of_le (by simp only [List.length_singleton, reach]; omega))]
      have eout : List.getD (out.set b (tbh (List.getD l i d_api_Node) (List.getD out i 0#32))) b 0#32 = tbh (List.getD l i d_api_Node) (List.getD out i 0#32) := by rw [getDs _ _ _ _ _ hbo, if_pos rfl]
      have ei : List.getD (out.set b (tbh (List.getD l i d_api_Node) (List.getD out i 0#32))) i 0#32 = List.getD out i 0#32 := by rw [getDs _ _ _ _ _ hbo, if_neg hib]
      have G : Gro out met ok (out.set b (tbh (List.getD l i d_api_Node) (List.getD out i 0#32))) (met.set b true) ok := ⟨fun y hy => (Sn_set hbl).2 (.inr hy), fun y hy => by rw [getDs _ _ _ _ _ hbo, if_neg (fun e => hm (by rw [← e]; exact hy))], id⟩
      have S : Srch l locks (out.set b (tbh (List.getD l i d_api_Node) (List.getD out i 0#32))) (met.set b true) (todo ++ [(b : Int)]) ok := by
        refine ⟨by rw [List.length_set]; exact hol, by rw [List.length_set]; exact hml, fun y hy => ?_, (Sn_set hbl).2 (.inr hs.z), by rw [G.o 0 hs.z]; exact hs.oz, fun y hy => ?_, fun T hL => ⟨(hs.lab T hL).1, fun y hy => ?_⟩⟩
        · rcases List.mem_append.1 hy with h1 | h1
          · obtain ⟨c, c1, c2, c3⟩ := hs.td y h1
            exact ⟨c, c1, c2, G.m c c3⟩
          · exact ⟨b, List.mem_singleton.1 h1, by omega, (Sn_set hbl).2 (.inl rfl)⟩
        · rcases (Sn_set hbl).1 hy with h1 | h1
          · rw [h1]; exact .on i b hgi hi hbm
          · exact hs.go y h1
        · rcases (Sn_set hbl).1 hy with h1 | h1
          · rw [h1, eout, hT T hL]
            exact (hL.on i b hi hbm).symm
          · rw [G.o y h1]
            exact (hs.lab T hL).2 y h1
      have go : ∃ out' met' todo' ok', class_Nested_l14 (out.set b (tbh (List.getD l i d_api_Node) (List.getD out i 0#32))) (met.set b true) (todo ++ [(b : Int)]) (succ (List.getD l i d_api_Node)) l locks ok (tbh (List.getD l i d_api_Node) (List.getD out i 0#32)) ((succ (List.getD l i d_api_Node)).length : Int) ((k + 1 : Nat) : Int) = some (.x1 out' met' todo' ok') ∧ Srch l locks out' met' todo' ok' ∧ Gro out met ok out' met' ok' ∧ todo'.length + met'.count false = todo.length + met.count false ∧ met'.count false ≤ met.count false ∧ (∀ y ∈ todo, y ∈ todo') ∧ (∀ b : Nat, Sn met' b → Sn met b ∨ (b : Int) ∈ todo') ∧ ∀ j, k ≤ j → ∀ (h : j < (succ (List.getD l i d_api_Node)).length), ∃ b : Nat, (succ (List.getD l i d_api_Node))[j] = (b : Int) ∧ Sn met' b ∧ (ok' = true → List.getD out' b 0#32 = tbh (List.getD l i d_api_Node) (List.getD out i 0#32)) := by
        have q := nest_l14 l locks i hi hll hj m (k + 1) _ _ _ ok (by omega) S ((Sn_set hbl).2 (.inr hmi)) (by rw [List.length_append, List.length_singleton]; omega) (by rw [ei]; exact hT)
        rw [ei] at q
        obtain ⟨out', met', todo', ok', q1, q2, q3, q4, q5, q6, q7, q8⟩ := q
        refine ⟨out', met', todo', ok', q1, q2, G.trans q3, by rw [q4, List.length_append, List.length_singleton]; omega, by omega, fun y hy => q6 y (List.mem_append_left _ hy), fun c hc => ?_, fun j h3 h4 => ?_⟩
        · rcases q7 c hc with h1 | h1
          · rcases (Sn_set hbl).1 h1 with h2 | h2
            · exact .inr (q6 _ (List.mem_append_right _ (by rw [h2]; simp)))
            · exact .inl h2
          · exact .inr h1
        · rcases Nat.eq_or_lt_of_le h3 with rfl | h5
          · exact ⟨b, hb, q3.m b ((Sn_set hbl).2 (.inl rfl)), fun _ => (q3.o b ((Sn_set hbl).2 (.inl rfl))).trans eout⟩
          · exact q8 j h5 h4
      by_cases hk : ok = true
      · rw [if_pos hk, eout, show ((tbh (List.getD l i d_api_Node) (List.getD out i 0#32)) == (tbh (List.getD l i d_api_Node) (List.getD out i 0#32))) = ok by rw [hk]; simp]
        exact go
      · rw [if_neg hk]
        rw [Bool.not_eq_true] at hk
        rw [hk] at go
        rw [hk]
        exact go
theorem Don.mono {l : List api_Node} {locks : List W32} {out out' : List W32} {met met' : List Bool} {ok ok' : Bool} {i : Nat} (h : Don l locks out met ok i) (G : Gro out met ok out' met' ok') (hi : Sn met i) : Don l locks out' met' ok' i := ⟨fun y hy => G.m y (h.s y hy), fun hk => by
  obtain ⟨h1, h2⟩ := h.f (G.k hk)
  rw [G.o i hi]
  exact ⟨h1, fun y hy => (G.o y (h.s y hy)).trans (h2 y hy)⟩⟩
theorem nest_l8 (l : List api_Node) (locks : List W32) (hll : l.length ≤ 65536) (hsr : ∀ i, i < l.length → ∀ y ∈ succ (List.getD l i d_api_Node), 0 ≤ y ∧ y < (l.length : Int)) : ∀ (d : Nat) (out : List W32) (met : List Bool) (todo : List Int) (ok : Bool), 2 * met.count false + todo.length ≤ d → todo.length + met.count false ≤ 1000000 → Srch l locks out met todo ok → (∀ i : Nat, Sn met i → (i : Int) ∉ todo → Don l locks out met ok i) → ∃ out' met' ok', class_Nested_l8 out met todo l locks ok = some (.x1 out' met' ok') ∧ Srch l locks out' met' [] ok' ∧ ∀ i, Sn met' i → Don l locks out' met' ok' i
  | d, out, met, todo, ok, hd, hbig, hs, hdon => by
    rcases Nat.eq_zero_or_pos todo.length with h0 | hpos
    · have : todo = [] := List.eq_nil_of_length_eq_zero h0
      subst this
      rw [class_Nested_l8, if_neg (by decide)]
      exact ⟨out, met, ok, rfl, hs, fun i hi => hdon i hi (fun h => by cases h)⟩
    · match d, hd with
      | 0, hd => omega
      | d + 1, hd =>
        have e1 : iSub ((todo.length : Nat) : Int) 1 = ((todo.length - 1 : Nat) : Int) := by rw [iSub_eq (by omega) (by omega)]; omega
        have hlast : todo.length - 1 < todo.length := by omega
        obtain ⟨i, hi1, hi2, hi3⟩ := hs.td _ (List.getElem_mem hlast)
        have hg : List.getD todo (todo.length - 1) 0 = (i : Int) := by rw [gdE _ _ _ hlast]; exact hi1
        have hol := hs.ol
        have mem_or : ∀ y ∈ todo, y ∈ todo.take (todo.length - 1) ∨ y = (i : Int) := fun y hy => by
          obtain ⟨j, hj, e⟩ := List.mem_iff_getElem.1 hy
          rcases Nat.lt_or_ge j (todo.length - 1) with h1 | h1
          · exact .inl (List.mem_iff_getElem.2 ⟨j, by rw [List.length_take]; omega, by rw [List.getElem_take]; exact e⟩)
          · refine .inr (e.symm.trans ?_)
            have : j = todo.length - 1 := by omega
            subst this
            exact hi1
        have key : ∀ ok1 : Bool, (ok1 = true → ok = true ∧ tfine locks (List.getD l i d_api_Node) (List.getD out i 0#32) = true) → (∀ T, Lab l locks T → ok1 = true) → ∃ out' met' ok', (bind (class_Nested_l14 out met (List.take (todo.length - 1) todo) (succ (List.getD l i d_api_Node)) l locks ok1 (tbh (List.getD l i d_api_Node) (List.getD out i 0#32)) ((succ (List.getD l i d_api_Node)).length : Int) 0) fun q => (match q with | .x0 a b c e f => some (.x0 a b e f) | .x1 a b c e => class_Nested_l8 a b c l locks e)) = some (class_Nested_l8_R.x1 out' met' ok') ∧ Srch l locks out' met' [] ok' ∧ ∀ i, Sn met' i → Don l locks out' met' ok' i := fun ok1 k1 k2 => by
          have S : Srch l locks out met (List.take (todo.length - 1) todo) ok1 := ⟨hs.ol, hs.ml, fun y hy => hs.td y (List.mem_of_mem_take hy), hs.z, hs.oz, hs.go, fun T hL => ⟨k2 T hL, (hs.lab T hL).2⟩⟩
          have hlt : (List.take (todo.length - 1) todo).length = todo.length - 1 := by rw [List.length_take]; omega
          have q := nest_l14 l locks i hi2 hll (hsr i hi2) (succ (List.getD l i d_api_Node)).length 0 out met (List.take (todo.length - 1) todo) ok1 (Nat.zero_add _) S hi3 (by omega) (fun T hL => by rw [(hs.lab T hL).2 i hi3])
          rw [show ((0 : Nat) : Int) = 0 from rfl] at q
          obtain ⟨o2, m2, t2, k3, q1, q2, q3, q4, q5, q6, q7, q8⟩ := q
          rw [bind_some q1]
          simp only []
          refine nest_l8 l locks hll hsr d o2 m2 t2 k3 (by omega) (by omega) q2 fun c hc hct => ?_
          rcases q7 c hc with h1 | h1
          · by_cases e : c = i
            · subst e
              have fnd : ∀ y : Nat, (y : Int) ∈ succ (List.getD l c d_api_Node) → Sn m2 y ∧ (k3 = true → List.getD o2 y 0#32 = tbh (List.getD l c d_api_Node) (List.getD out c 0#32)) := fun y hy => by
                obtain ⟨j, hj, e⟩ := List.mem_iff_getElem.1 hy
                obtain ⟨b, b1, b2, b3⟩ := q8 j (Nat.zero_le _) hj
                have : y = b := by rw [e] at b1; exact Int.ofNat.inj b1
                subst this
                exact ⟨b2, b3⟩
              refine ⟨fun y hy => (fnd y hy).1, fun hk => ?_⟩
              rw [q3.o c hi3]
              exact ⟨(k1 (q3.k hk)).2, fun y hy => (fnd y hy).2 hk⟩
            · have hnt : (c : Int) ∉ todo := fun hm => by
                rcases mem_or _ hm with h2 | h2
                · exact hct (q6 _ h2)
                · exact e (Int.ofNat.inj h2)
              exact (hdon c h1 hnt).mono ⟨q3.m, q3.o, fun hk => (k1 (q3.k hk)).1⟩ h1
          · exact absurd h1 hct
        rw [class_Nested_l8, if_pos (decide_eq_true (by omega)), e1, if_pos (decide_eq_true (by omega)), if_pos (decide_eq_true (by omega)), if_pos (decide_eq_true (by omega)), Int.toNat_natCast (todo.length - 1), hg, if_pos (decide_eq_true (by omega)), if_pos (decide_eq_true (by omega)), if_pos (decide_eq_true (by omega)), Int.toNat_natCast i, bind_some (steps_eq _ _ _)]
        by_cases hk : ok = true
        · rw [if_pos hk, bind_some (succ_eq _)]
          exact key _ (fun h => ⟨hk, h⟩) fun T hL => by
            show tfine locks (List.getD l i d_api_Node) (List.getD out i 0#32) = true
            rw [(hs.lab T hL).2 i hi3]
            exact hL.fine i hi2
        · rw [if_neg hk, bind_some (succ_eq _)]
          exact key false (fun h => by cases h) fun T hL => absurd (hs.lab T hL).1 hk
theorem nest_l24 (out : List W32) (met : List Bool) (hm : met.length ≤ 65536) : ∀ (m k : Nat) (ok : Bool), k + m = met.length → ∃ b, class_Nested_l24 out met ok (met.length : Int) (k : Int) = some b ∧ (b = true ↔ ok = true ∧ ∀ i, k ≤ i → i < met.length → Sn met i)
  | 0, k, ok, h => by
    rw [class_Nested_l24, if_neg (by simp only [decide_eq_true_eq]; omega)]
    exact ⟨ok, rfl, ⟨fun h => ⟨h, fun i h1 h2 => by omega⟩, fun h => h.1⟩⟩
  | m + 1, k, ok, h => by
    rw [class_Nested_l24, if_pos (decide_eq_true (by omega)), if_pos (decide_eq_true (by omega)), if_pos (decide_eq_true (by omega)), Int.toNat_natCast, inc k (by omega)]
    by_cases hk : ok = true
    · rw [if_pos hk]
      obtain ⟨b, b1, b2⟩ := nest_l24 out met hm m (k + 1) (List.getD met k false) (by omega)
      refine ⟨b, b1, ?_⟩
      rw [b2]
      constructor
      · rintro ⟨h1, h2⟩
        refine ⟨hk, fun i h3 h4 => ?_⟩
        rcases Nat.eq_or_lt_of_le h3 with rfl | h5
        · exact h1
        · exact h2 i h5 h4
      · rintro ⟨_, h2⟩
        exact ⟨h2 k (Nat.le_refl _) (by omega), fun i h3 h4 => h2 i (by omega) h4⟩
    · rw [if_neg hk]
      obtain ⟨b, b1, b2⟩ := nest_l24 out met hm m (k + 1) false (by omega)
      exact ⟨b, b1, by rw [b2]; exact ⟨fun h => absurd h.1 (by decide), fun h => absurd h.1 hk⟩⟩
end Go.Bm.GoYtdifolgbppffpaaDoor
