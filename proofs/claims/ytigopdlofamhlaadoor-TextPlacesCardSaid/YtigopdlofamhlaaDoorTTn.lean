/- text.number. -/
import Derived.Test.YtigopdlofamhlaaDoorTTh
import Derived.Laws.Strings3
import Derived.Laws.RangeAny
import Derived.Tactics2
import Derived.StillTactics
namespace Go.Proofs
set_option linter.unusedVariables false
open Go.RowKit (wrap64)
/-- The digits of a word, one by one. -/
def numL (s : ByteArray) : Nat → Nat → Int → Int × Bool
  | 0, _, n => (n, true)
  | b + 1, pos, n => if pos < s.size then (if ((Utf8.decode s pos).1 : Int) < 48 ∨ 57 < ((Utf8.decode s pos).1 : Int) then (0, false) else numL s b (pos + (Utf8.decode s pos).2) (wrap64 (wrap64 (10 * n) + (((Utf8.decode s pos).1 : Int) - 48)))) else (n, true)
def numM (s : ByteArray) : Int × Bool := if s.size = 0 ∨ s.size > 4 ∨ (s.size > 1 ∧ (s[0]!).toNat = 48) then (0, false) else numL s s.size 0 0
theorem numM_bad {s : ByteArray} (h : s.size = 0 ∨ s.size > 4 ∨ (s.size > 1 ∧ (s[0]!).toNat = 48)) : numM s = (0, false) := if_pos h
theorem numM_good {s : ByteArray} (h : ¬ (s.size = 0 ∨ s.size > 4 ∨ (s.size > 1 ∧ (s[0]!).toNat = 48))) : numM s = numL s s.size 0 0 := if_neg h
theorem size_ne {s : ByteArray} (h : ¬ s = ByteArray.empty) : s.size ≠ 0 := fun e => h (ByteArray.size_eq_zero_iff.1 e)
theorem width_pos (s : ByteArray) (pos : Nat) (h : pos < s.size) : 1 ≤ (Utf8.decode s pos).2 := by
  by_cases ha : (s[pos]'h).toNat < 128
  · rw [decode_ascii s pos h ha]
    exact Nat.le_refl _
  · exact (decode_high s pos h (by omega)).2
theorem numL_end (s : ByteArray) (b pos : Nat) (n : Int) (h : ¬ pos < s.size) : numL s b pos n = (n, true) := by
  cases b with
  | zero => rfl
  | succ b => simp [numL, h]
set_option maxRecDepth 1000000 in
set_option maxHeartbeats 4000000 in
theorem Tryd.number (s : ByteArray) (w : World) : Calls Tryd.prog 63 #[.string s] w fun e w' => e = .returned (.tuple #[.int .i64 (numM s).1, .bool (numM s).2]) ∧ (w' = w ∨ ∃ pos, w' = w.iter s pos) := by
  go_enter Tryd.func63, Tryd.ntmps63
  go_wp2
  · rename_i h
    go_ret2
    refine ⟨?_, .inl rfl⟩
    rw [numM_bad (.inl (by rw [h]; rfl))]
    rfl
  · rename_i h1 h2 h3 h4 h5
    go_ret2
    refine ⟨?_, .inl rfl⟩
    have h6 := size_ne h1
    rw [numM_bad (.inr (.inr ⟨by omega, by
      rw [getElem!_pos s 0 h4]
      rcases h5 with (h5 | h5) | h5
      · simp at h5; exact absurd h5 h1
      · omega
      · simp at h5; omega⟩))]
    rfl
  · have h1 : ¬ s = ByteArray.empty := by assumption
    have h2 : (s.size : Int) ≤ 4 := by assumption
    have h4 : 0 < s.size := by assumption
    have h5 : (((s.size : Int) == 0) = false ∧ (s.size : Int) ≤ 4) ∧ (((s[0]'h4).toNat : Int) == 48) = false := by assumption
    have h6 := size_ne h1
    have hgood := numM_good (s := s) (by
      rw [getElem!_pos s 0 h4]
      intro h
      have h7 := h5.2
      simp at h7
      omega)
    simp only [h5.1.1, h5.2, Bool.false_or, Bool.or_false]
    go_loopw [4] (fun n w' => ∃ (pos b : Nat) (acc : Int), w' = w.iter s pos ∧ n = .int .i64 acc ∧ numL s b pos acc = numL s s.size 0 0 ∧ s.size ≤ pos + b) (fun _ w' => s.size - w'.iterPos w.heap.size)
    case atStart => exact ⟨0, s.size, 0, rfl, rfl, rfl, by omega⟩
    case round =>
      obtain ⟨pos, b, acc, rfl, rfl, hc, hb⟩ := hrel
      by_cases hp : pos < s.size
      · have hnx : ∀ ty, (Instr.next (.pointer (some ⟨w.heap.size, 0, none⟩)) true ty).run Tryd.prog (w.iter s pos) = _ := fun ty => run_next_any w s pos ty hp
        have hwd := width_pos s pos hp
        have hbd : ((Utf8.decode s pos).1 : Int) < 48 ∨ 57 < ((Utf8.decode s pos).1 : Int) → numL s s.size 0 0 = (0, false) := fun h => by
          rw [← hc]
          cases b with
          | zero => omega
          | succ b => simp only [numL, if_pos hp, if_pos h]
        go_wp2
        · rename_i hr
          go_ret2
          refine ⟨?_, .inr ⟨_, rfl⟩⟩
          first
            | rfl
            | (rw [hgood, hbd (by omega)]; rfl)
        · rename_i hr
          go_roundw
          case rel =>
            cases b with
            | zero => omega
            | succ b =>
              refine ⟨pos + (Utf8.decode s pos).2, b, _, rfl, rfl, ?_, by omega⟩
              rw [← hc]
              simp only [numL, if_pos hp]
              rw [if_neg (by omega)]
          case measure =>
            simp
            omega
        · rename_i hr
          go_ret2
          refine ⟨?_, .inr ⟨_, rfl⟩⟩
          first
            | rfl
            | (rw [hgood, hbd (by omega)]; rfl)
      · have hnx : ∀ ty, (Instr.next (.pointer (some ⟨w.heap.size, 0, none⟩)) true ty).run Tryd.prog (w.iter s pos) = _ := fun ty => run_next_end w s pos ty hp
        go_wp2
        go_ret2
        rw [numL_end s b pos acc hp] at hc
        refine ⟨?_, .inr ⟨_, rfl⟩⟩
        rw [hgood, ← hc]
        rfl
  · rename_i h1 h2 h3 h4
    exfalso
    rcases h3 with h3 | h3
    · simp at h3; exact h1 h3
    · omega
  · have h1 : ¬ s = ByteArray.empty := by assumption
    have h2 : (s.size : Int) ≤ 1 := by assumption
    have h6 := size_ne h1
    have hgood := numM_good (s := s) (by omega)
    go_loopw [4] (fun n w' => ∃ (pos b : Nat) (acc : Int), w' = w.iter s pos ∧ n = .int .i64 acc ∧ numL s b pos acc = numL s s.size 0 0 ∧ s.size ≤ pos + b) (fun _ w' => s.size - w'.iterPos w.heap.size)
    case atStart => exact ⟨0, s.size, 0, rfl, rfl, rfl, by omega⟩
    case round =>
      obtain ⟨pos, b, acc, rfl, rfl, hc, hb⟩ := hrel
      by_cases hp : pos < s.size
      · have hnx : ∀ ty, (Instr.next (.pointer (some ⟨w.heap.size, 0, none⟩)) true ty).run Tryd.prog (w.iter s pos) = _ := fun ty => run_next_any w s pos ty hp
        have hwd := width_pos s pos hp
        have hbd : ((Utf8.decode s pos).1 : Int) < 48 ∨ 57 < ((Utf8.decode s pos).1 : Int) → numL s s.size 0 0 = (0, false) := fun h => by
          rw [← hc]
          cases b with
          | zero => omega
          | succ b => simp only [numL, if_pos hp, if_pos h]
        go_wp2
        · rename_i hr
          go_ret2
          refine ⟨?_, .inr ⟨_, rfl⟩⟩
          first
            | rfl
            | (rw [hgood, hbd (by omega)]; rfl)
        · rename_i hr
          go_roundw
          case rel =>
            cases b with
            | zero => omega
            | succ b =>
              refine ⟨pos + (Utf8.decode s pos).2, b, _, rfl, rfl, ?_, by omega⟩
              rw [← hc]
              simp only [numL, if_pos hp]
              rw [if_neg (by omega)]
          case measure =>
            simp
            omega
        · rename_i hr
          go_ret2
          refine ⟨?_, .inr ⟨_, rfl⟩⟩
          first
            | rfl
            | (rw [hgood, hbd (by omega)]; rfl)
      · have hnx : ∀ ty, (Instr.next (.pointer (some ⟨w.heap.size, 0, none⟩)) true ty).run Tryd.prog (w.iter s pos) = _ := fun ty => run_next_end w s pos ty hp
        go_wp2
        go_ret2
        rw [numL_end s b pos acc hp] at hc
        refine ⟨?_, .inr ⟨_, rfl⟩⟩
        rw [hgood, ← hc]
        rfl
  · rename_i h1 h2
    go_ret2
    refine ⟨?_, .inl rfl⟩
    rw [numM_bad (.inr (.inl (by omega)))]
    rfl
end Go.Proofs
namespace Go.Bm.GoYtigopdlofamhlaaDoor
open Go.Proofs
set_option autoImplicit false
/-- text.number. -/
def text_number (s : ByteArray) : Option (Int × Bool) := some (numM s)
theorem str_arg {X : Ctx} {s : ByteArray} {Args : List Value} (hl : Args.length = 1) (ha : ∀ (j : Nat) (v : AV) (V : Value), ([.pv (.str s)] : List AV)[j]? = some v → Args[j]? = some V → VA X none v V) : Args.toArray = #[.string s] := by
  match Args, hl with
  | [A], _ =>
    have h1 := ha 0 _ A rfl rfl
    cases h1 with | pv _ _ _ h1 => ?_
    cases h1; rfl
theorem text_number_ok {s : ByteArray} : Ok Tryd.prog 63 [.pv (.str s)] [] (text_number s) fun r => (.tup [vi r.1, vb r.2], []) := fun r h => does_hand fun X Args hl ha _ => by
  cases h
  rw [str_arg hl ha]
  refine (Tryd.number s X.w).mono fun e w' he => ⟨_, he.1, ?_, fun Y => ?_⟩
  · obtain ⟨_, rfl | ⟨pos, rfl⟩⟩ := he
    · exact grown_refl _
    · refine ⟨?_, fun g hg => ?_, rfl, rfl, rfl⟩
      · show X.w.heap.size ≤ (X.w.heap.push _).size
        simp
      · show (X.w.heap.push _)[g]? = _
        rw [Array.getElem?_push, if_neg (by omega)]
  · refine .tup _ _ [_, _] rfl fun j v V hv hV => ?_
    match j with
    | 0 => cases hv; cases hV; exact .pv _ _ _ (.int _ _)
    | 1 => cases hv; cases hV; exact .pv _ _ _ (.bool _)
    | n + 2 => cases hv
end Go.Bm.GoYtigopdlofamhlaaDoor
