/- Texts parted by a byte: the program and the document part them alike. -/
import Derived.Test.YtigopdlofamhlaaDoorLtK5
namespace Go.Bm.GoYtigopdlofamhlaaDoor
open Go.Proofs
set_option autoImplicit false
set_option linter.unusedVariables false
set_option linter.unusedSimpArgs false
def bl (l : List UInt8) : ByteArray := ⟨⟨l⟩⟩
theorem bl_of (s : ByteArray) : s = bl s.data.toList := rfl
theorem bl_size (l : List UInt8) : (bl l).size = l.length := rfl
theorem bl_toList (l : List UInt8) : (bl l).toList = l := by rw [ByteArray.toList_eq]; rfl
theorem ext_bl (l : List UInt8) (a b : Nat) : ByteArray.extract (bl l) a b = bl ((l.drop a).take (b - a)) := by
  apply ByteArray.ext
  rw [ByteArray.data_extract]
  apply Array.toList_inj.1
  rw [Array.toList_extract, List.extract_eq_take_drop]
  rfl
theorem byteAt_bl (l : List UInt8) (i : Nat) (h : i < l.length) : byteAt (bl l) i = (l[i]'h).toBitVec := by
  unfold byteAt
  rw [getElem!_pos (bl l) i h]
  rfl
/-- A list of bytes, parted. -/
def spl (c : UInt8) : List UInt8 → List UInt8 → List (List UInt8)
  | acc, [] => [acc]
  | acc, b :: r => if b == c then acc :: spl c [] r else spl c (acc ++ [b]) r
def split (s : ByteArray) (c : UInt8) : List ByteArray := (spl c [] s.data.toList).map bl
theorem spl_cons (c b : UInt8) (acc r : List UInt8) : spl c acc (b :: r) = if b == c then acc :: spl c [] r else spl c (acc ++ [b]) r := rfl
theorem spl_len (c : UInt8) : ∀ (l acc : List UInt8), (spl c acc l).length = l.count c + 1
  | [], acc => rfl
  | b :: r, acc => by
    rw [spl_cons]
    by_cases h : (b == c) = true
    · rw [if_pos h, List.length_cons, spl_len c r, List.count_cons, if_pos h]
    · rw [if_neg h, spl_len c r, List.count_cons, if_neg h]
theorem find_c (c : UInt8) : ∀ (l acc : List UInt8), (l.count c = 0 ∧ Lib.indexByte l c = -1 ∧ spl c acc l = [acc ++ l]) ∨ ∃ a r, l = a ++ c :: r ∧ Lib.indexByte l c = (a.length : Int) ∧ l.count c = r.count c + 1 ∧ spl c acc l = (acc ++ a) :: spl c [] r
  | [], acc => .inl ⟨rfl, rfl, by simp [spl]⟩
  | b :: l, acc => by
    by_cases h : (b == c) = true
    · right
      have hb : b = c := eq_of_beq h
      refine ⟨[], l, by rw [hb]; rfl, ?_, ?_, ?_⟩
      · unfold Lib.indexByte; rw [if_pos h]; rfl
      · rw [List.count_cons, if_pos h]
      · rw [spl_cons, if_pos h, List.append_nil]
    · rcases find_c c l (acc ++ [b]) with ⟨h1, h2, h3⟩ | ⟨a, r, h1, h2, h3, h4⟩
      · left
        refine ⟨?_, ?_, ?_⟩
        · rw [List.count_cons, if_neg h, h1]
        · unfold Lib.indexByte; rw [if_neg h, h2]; rfl
        · rw [spl_cons, if_neg h, h3, List.append_assoc]
          try rfl
      · right
        refine ⟨b :: a, r, by rw [h1]; rfl, ?_, ?_, ?_⟩
        · unfold Lib.indexByte
          rw [if_neg h, h2, if_neg (by simp; try omega)]
          try simp
        · rw [List.count_cons, if_neg h, h3]
        · rw [spl_cons, if_neg h, h4, List.append_assoc]
          try rfl
theorem iadd_nat {a b : Nat} (h : a + b ≤ 1000000000) : iAdd (a : Int) (b : Int) = ((a + b : Nat) : Int) := by rw [iAdd_eq (by omega) (by omega)]; omega
theorem index_bl (l : List UInt8) (c : UInt8) : strings_Index (bl l) ⟨#[c]⟩ = some (Lib.indexByte l c) := rfl
theorem gen_l11 (c : UInt8) : ∀ (k : Nat) (l : List UInt8) (done : List ByteArray) (n : Nat), l.count c = k → done.length + k = n → n + l.length ≤ 1000000 →
    ∃ X last, strings_genSplit_l11 (done ++ List.replicate (k + 1) ByteArray.empty) (bl l) ⟨#[c]⟩ 0 (n : Int) (done.length : Int) = some (X, last, (n : Int)) ∧ X.length = n + 1 ∧ List.take (n + 1) (List.set X n last) = done ++ (spl c [] l).map bl
  | 0, l, done, n, h1, h2, h3 => by
    have h4 : done.length = n := by omega
    rw [h4]
    refine ⟨done ++ List.replicate (0 + 1) ByteArray.empty, bl l, ?_, ?_, ?_⟩
    · rw [strings_genSplit_l11, if_neg (by simp)]
    · simp [h4]
    · rcases find_c c l [] with ⟨_, _, h5⟩ | ⟨a, r, _, _, h5, _⟩
      · rw [h5, List.set_append, if_neg (by omega), h4, Nat.sub_self]
        rw [List.take_of_length_le (by simp [h4])]
        rfl
      · omega
  | k + 1, l, done, n, h1, h2, h3 => by
    rcases find_c c l [] with ⟨h5, _⟩ | ⟨a, r, h5, h6, h7, h8⟩
    · omega
    · have hlen : l.length = a.length + r.length + 1 := by rw [h5]; simp; omega
      obtain ⟨X, last, e1, e2, e3⟩ := gen_l11 c k r (done ++ [bl a]) n (by omega) (by simp; omega) (by omega)
      refine ⟨X, last, ?_, e2, ?_⟩
      · rw [strings_genSplit_l11, if_pos (decide_eq_true (by omega)), bind_some (index_bl l c), h6]
        have z : iAdd (a.length : Int) 0 = (a.length : Int) := iadd_nat (a := a.length) (b := 0) (by omega)
        have z1 : iAdd (a.length : Int) (((ByteArray.size (⟨#[c]⟩ : ByteArray) : Nat) : Int)) = ((a.length + 1 : Nat) : Int) := iadd_nat (a := a.length) (b := 1) (by omega)
        rw [if_neg (by simp), z, if_pos (decide_eq_true (by omega)), if_pos (decide_eq_true (by rw [bl_size]; omega)), if_pos (decide_eq_true (by omega)), if_pos (decide_eq_true (by simp; omega)), z1, if_pos (decide_eq_true (by omega)), if_pos (decide_eq_true (by rw [bl_size]; omega)), inc _ (by omega), ← e1]
        congr 1
        · rw [Int.toNat_natCast, List.set_append, if_neg (by omega), Nat.sub_self, List.replicate_succ (n := k + 1), List.set_cons_zero, List.append_assoc]
          rw [Int.toNat_natCast, ext_bl, h5]
          simp
        · rw [ext_bl, Int.toNat_natCast, bl_size, h5]
          congr 1
          rw [List.take_of_length_le (by simp; omega)]
          rw [show a ++ c :: r = (a ++ [c]) ++ r by simp, List.drop_left' (by simp)]
        · simp
      · rw [e3, h8]
        simp
theorem split_eq (s : ByteArray) (c : UInt8) (h : s.size ≤ 66000) : strings_Split s ⟨#[c]⟩ = some (split s c) := by
  rw [bl_of s] at h ⊢
  generalize hl : s.data.toList = l at h ⊢
  rw [bl_size] at h
  have hc := List.count_le_length (a := c) (l := l)
  have e : strings_genSplit (bl l) ⟨#[c]⟩ 0 (-1) = some (split (bl l) c) := by
    unfold strings_genSplit
    rw [if_neg (by decide), if_neg (by rw [show (⟨#[c]⟩ : ByteArray) = bl [c] from rfl, bl_toList, show (ByteArray.mk #[]) = bl [] from rfl, bl_toList]; simp), if_pos (by decide)]
    have e0 : strings_Count (bl l) ⟨#[c]⟩ = some ((l.count c : Nat) : Int) := rfl
    rw [bind_some e0]
    have z1 : iAdd (((l.count c : Nat) : Int)) 1 = ((l.count c + 1 : Nat) : Int) := inc _ (by omega)
    have z2 : iAdd (((ByteArray.size (bl l) : Nat) : Int)) 1 = ((l.length + 1 : Nat) : Int) := inc _ (by rw [bl_size]; omega)
    rw [z1, z2]
    have hif : (if ((l.length + 1 : Nat) : Int) < ((l.count c + 1 : Nat) : Int) then ((l.length + 1 : Nat) : Int) else ((l.count c + 1 : Nat) : Int)) = ((l.count c + 1 : Nat) : Int) := if_neg (by omega)
    rw [hif]
    obtain ⟨X, last, e1, e2, e3⟩ := gen_l11 c (l.count c) l [] (l.count c) rfl (by simp) (by omega)
    have z3 : iSub (((l.count c + 1 : Nat) : Int)) 1 = ((l.count c : Nat) : Int) := by rw [iSub_eq (by omega) (by omega)]; omega
    rw [if_pos (decide_eq_true (by omega)), if_pos (decide_eq_true (by have : reach = 140737488351232 := rfl; omega)), z3, Int.toNat_natCast]
    have e1' : strings_genSplit_l11 (List.replicate (l.count c + 1) ByteArray.empty) (bl l) ⟨#[c]⟩ 0 ((l.count c : Nat) : Int) 0 = _ := e1
    rw [bind_some e1']
    dsimp only
    rw [if_pos (decide_eq_true (by omega)), if_pos (decide_eq_true (by omega)), z1, if_pos (decide_eq_true (by omega)), if_pos (decide_eq_true (by omega)), Int.toNat_natCast, Int.toNat_natCast, e3]
    rfl
  unfold strings_Split
  rw [bind_some e]
theorem ref_l4 (l : List UInt8) (c : UInt8) (hl : l.length ≤ 66000) : ∀ (r acc pre : List UInt8) (x0 : List ByteArray), l = pre ++ (acc ++ r) → x0.length + r.length ≤ 100000 →
    ∃ Y f, alibiref08_split_l4 x0 (bl l) c.toBitVec (pre.length : Int) ((pre.length + acc.length : Nat) : Int) = some (Y, ((f : Nat) : Int)) ∧ f ≤ l.length ∧ Y.length ≤ x0.length + r.length ∧ Y ++ [ByteArray.extract (bl l) f l.length] = x0 ++ (spl c acc r).map bl
  | [], acc, pre, x0, h1, h2 => by
    have hlen : l.length = pre.length + acc.length := by rw [h1]; simp
    refine ⟨x0, pre.length, ?_, by omega, by simp, ?_⟩
    · rw [alibiref08_split_l4, if_neg (by rw [bl_size]; simp; omega)]
    · rw [ext_bl, h1]
      simp [spl]
  | b :: r, acc, pre, x0, h1, h2 => by
    have hlen : l.length = pre.length + acc.length + r.length + 1 := by rw [h1]; simp; omega
    have hlt : pre.length + acc.length < l.length := by omega
    have hb : l[pre.length + acc.length]'hlt = b := by
      subst h1
      rw [List.getElem_append_right (by omega), List.getElem_append_right (by omega)]
      simp
    simp only [List.length_cons] at h2
    rw [alibiref08_split_l4, if_pos (decide_eq_true (by rw [bl_size]; omega)), if_pos (decide_eq_true (by omega)), if_pos (decide_eq_true (by rw [bl_size]; omega)), Int.toNat_natCast, Int.toNat_natCast, byteAt_bl l _ hlt, hb, inc _ (by omega)]
    by_cases h : (b == c) = true
    · have hbc : b = c := eq_of_beq h
      rw [if_pos (by rw [hbc]; simp), if_pos (decide_eq_true (by rw [bl_size]; omega)), if_pos (decide_eq_true (by omega)), if_pos (decide_eq_true (by omega)), if_pos (by
        apply Nat.ble_eq_true_of_le
        have : reach = 140737488351232 := rfl
        simp
        omega)]
      obtain ⟨Y, f, e1, e2, e3, e4⟩ := ref_l4 l c hl r [] (pre ++ acc ++ [b]) (x0 ++ [ByteArray.extract (bl l) pre.length (pre.length + acc.length)]) (by rw [h1]; simp) (by simp; omega)
      refine ⟨Y, f, ?_, e2, by simp at e3 ⊢; omega, ?_⟩
      · rw [← e1]
        congr 1 <;> (simp; omega)
      · rw [e4]
        rw [spl_cons, if_pos h, ext_bl, h1]
        simp
    · rw [if_neg (by
        intro he
        apply h
        have := eq_of_beq he
        exact beq_iff_eq.2 (UInt8.toBitVec_inj.1 this))]
      obtain ⟨Y, f, e1, e2, e3, e4⟩ := ref_l4 l c hl r (acc ++ [b]) pre x0 (by rw [h1]; simp) (by omega)
      refine ⟨Y, f, ?_, e2, by simp; omega, ?_⟩
      · rw [← e1]
        congr 1
        simp
        omega
      · rw [e4]
        rw [spl_cons c b, if_neg h]
theorem rsplit_eq (s : ByteArray) (c : UInt8) (h : s.size ≤ 66000) : alibiref08_split s c.toBitVec = some (split s c) := by
  rw [bl_of s] at h ⊢
  generalize hl : s.data.toList = l at h ⊢
  rw [bl_size] at h
  obtain ⟨Y, f, e1, e2, e3, e4⟩ := ref_l4 l c h l [] [] [] rfl (by simp; omega)
  unfold alibiref08_split
  have e1' : alibiref08_split_l4 [] (bl l) c.toBitVec 0 0 = _ := e1
  simp only [List.length_nil] at e3
  rw [bind_some e1', if_pos (decide_eq_true (by omega)), if_pos (decide_eq_true (by rw [bl_size]; omega)), if_pos (by
    apply Nat.ble_eq_true_of_le
    have : reach = 140737488351232 := rfl
    simp
    omega), Int.toNat_natCast, bl_size, e4]
  rfl
end Go.Bm.GoYtigopdlofamhlaaDoor
