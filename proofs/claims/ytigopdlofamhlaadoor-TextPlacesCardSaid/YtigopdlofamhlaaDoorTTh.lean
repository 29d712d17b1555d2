/- Functions that the machine does not walk: strings.Count and strings.Index at a separator of one byte (off the shelf's templates), text.number (a range over a string). -/
import Derived.Test.YtigopdlofamhlaaDoorBmHand
import Derived.Test.YtigopdlofamhlaaDoorChecked
import Derived.Lib.Strings
import Derived.Lib.Slices
import Derived.Lib.Walk
import Derived.Lib.Bytealg
import Derived.Laws.RangeString
import Derived.Laws.Runes
import Derived.LoopTactic
namespace Go.Proofs
set_option linter.unusedVariables false
set_option maxHeartbeats 1000000 in
set_option maxRecDepth 100000 in
theorem Tryd.strings_Count_one (s : ByteArray) (c : UInt8) (w : World) :
    Calls Tryd.prog 50 #[.string s, .string ⟨#[c]⟩] w fun e w' => e = .returned (.int .i64 (Lib.countByte s.data.toList c)) ∧ w' = w := by
  go_enter Tryd.func50, Tryd.ntmps50
  go_wp2
  rw [run_callFunc_extern Tryd.func61 (by kernel_rfl) (by kernel_rfl) (by kernel_rfl) (e := Extern.BytealgCount.count) (by kernel_rfl), Lib.run_countString]
  simp only [Result.andThen]
  rw [Oper.upon_value]
  go_wp2
  go_ret
  exact ⟨rfl, rfl⟩
set_option maxHeartbeats 1000000 in
set_option maxRecDepth 100000 in
theorem Tryd.stringslite_IndexByte (s : ByteArray) (c : Int) (w : World) :
    Calls Tryd.prog 69 #[.string s, .int .u8 c] w fun e w' => e = .returned (.int .i64 (Lib.indexByte s.data.toList c.toNat.toUInt8)) ∧ w' = w := by
  go_enter Tryd.func69, Tryd.ntmps69
  go_wp2
  rw [run_callFunc_extern Tryd.func78 (by kernel_rfl) (by kernel_rfl) (by kernel_rfl) (e := Extern.BytealgIndexByte.indexByte) (by kernel_rfl), Lib.run_indexByteString]
  simp only [Result.andThen]
  rw [Oper.upon_value]
  go_wp2
  go_ret
  exact ⟨rfl, rfl⟩
set_option maxHeartbeats 2000000 in
set_option maxRecDepth 100000 in
theorem Tryd.stringslite_Index_one (s : ByteArray) (c : UInt8) (w : World) :
    Calls Tryd.prog 62 #[.string s, .string ⟨#[c]⟩] w fun e w' => e = .returned (.int .i64 (Lib.indexByte s.data.toList c)) ∧ w' = w := by
  go_enter Tryd.func62, Tryd.ntmps62
  go_wp2_with (go_at_call 69; refine (Tryd.stringslite_IndexByte _ _ _).mono ?_; rintro e w' ⟨rfl, rfl⟩)
  · have h : ([c] == s.toList) = true := by assumption
    go_ret
    refine ⟨?_, rfl⟩
    have e : s.data.toList = [c] := by rw [← Lib.toList_data]; exact (beq_iff_eq.1 h).symm
    rw [e]
    simp [Lib.indexByte]
  · go_ret
    exact ⟨rfl, rfl⟩
set_option maxHeartbeats 1000000 in
theorem Tryd.strings_Index_one (s : ByteArray) (c : UInt8) (w : World) :
    Calls Tryd.prog 51 #[.string s, .string ⟨#[c]⟩] w fun e w' => e = .returned (.int .i64 (Lib.indexByte s.data.toList c)) ∧ w' = w := by
  go_enter Tryd.func51, Tryd.ntmps51
  go_wp2_with (go_at_call 62; refine (Tryd.stringslite_Index_one _ _ _).mono ?_; rintro e w' ⟨rfl, rfl⟩)
  go_ret
  exact ⟨rfl, rfl⟩
end Go.Proofs
namespace Go.Bm.GoYtigopdlofamhlaaDoor
open Go.Proofs
set_option autoImplicit false
theorem one_byte {t : ByteArray} (h : t.size = 1) : ∃ c, t = ⟨#[c]⟩ := by
  obtain ⟨⟨l⟩⟩ := t
  match l, h with
  | [c], _ => exact ⟨c, rfl⟩
theorem str_args {X : Ctx} {s t : ByteArray} {Args : List Value} (hl : Args.length = 2) (ha : ∀ (j : Nat) (v : AV) (V : Value), ([.pv (.str s), .pv (.str t)] : List AV)[j]? = some v → Args[j]? = some V → VA X none v V) : Args.toArray = #[.string s, .string t] := by
  match Args, hl with
  | [A, B], _ =>
    have h1 := ha 0 _ A rfl rfl
    have h2 := ha 1 _ B rfl rfl
    cases h1 with | pv _ _ _ h1 => ?_
    cases h2 with | pv _ _ _ h2 => ?_
    cases h1; cases h2; rfl
theorem grown_refl (w : World) : Grown w w := ⟨Nat.le_refl _, fun _ _ => rfl, rfl, rfl, rfl⟩
/-- strings.Count, at a separator of one byte. -/
def strings_Count (s t : ByteArray) : Option Int := match t.data.toList with
  | [c] => some (Lib.countByte s.data.toList c)
  | _ => none
theorem strings_Count_ok {s t : ByteArray} : Ok Tryd.prog 50 [.pv (.str s), .pv (.str t)] [] (strings_Count s t) fun r => (vi r, []) := fun r h => does_hand fun X Args hl ha _ => by
  unfold strings_Count at h
  split at h
  · rename_i c hc
    obtain ⟨⟨l⟩⟩ := t
    have hc : l = [c] := hc
    subst hc
    cases h
    rw [str_args hl ha]
    exact (Tryd.strings_Count_one s c X.w).mono fun e w' he => ⟨_, he.1, he.2 ▸ grown_refl _, fun Y => .pv _ _ _ (.int _ _)⟩
  · cases h
/-- strings.Index, at a separator of one byte. -/
def strings_Index (s t : ByteArray) : Option Int := match t.data.toList with
  | [c] => some (Lib.indexByte s.data.toList c)
  | _ => none
theorem strings_Index_ok {s t : ByteArray} : Ok Tryd.prog 51 [.pv (.str s), .pv (.str t)] [] (strings_Index s t) fun r => (vi r, []) := fun r h => does_hand fun X Args hl ha _ => by
  unfold strings_Index at h
  split at h
  · rename_i c hc
    obtain ⟨⟨l⟩⟩ := t
    have hc : l = [c] := hc
    subst hc
    cases h
    rw [str_args hl ha]
    exact (Tryd.strings_Index_one s c X.w).mono fun e w' he => ⟨_, he.1, he.2 ▸ grown_refl _, fun Y => .pv _ _ _ (.int _ _)⟩
  · cases h
end Go.Bm.GoYtigopdlofamhlaaDoor
