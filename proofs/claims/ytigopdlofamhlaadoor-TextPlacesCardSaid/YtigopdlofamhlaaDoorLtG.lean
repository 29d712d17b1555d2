/- The lines, one by one; what a text tells. -/
import Derived.Test.YtigopdlofamhlaaDoorLtF
namespace Go.Bm.GoYtigopdlofamhlaaDoor
open Go.Proofs
set_option autoImplicit false
set_option linter.unusedVariables false
set_option linter.unusedSimpArgs false
theorem spl_mem (c : UInt8) : ∀ (l acc w : Wd), w ∈ spl c acc l → w.length ≤ acc.length + l.length
  | [], acc, w, h => by
    have : w = acc := by simpa [spl] using h
    rw [this]; simp
  | b :: r, acc, w, h => by
    rw [spl_cons] at h
    split at h
    · rcases List.mem_cons.1 h with h | h
      · rw [h]; omega
      · have := spl_mem c r [] w h
        simp at this ⊢
        omega
    · have := spl_mem c r _ w h
      simp at this ⊢
      omega
/-- What the lines make. -/
def linesS : List Wd → Nat → FS' → Int → Int → Int → Bool → Sum Nat (FS' × Int × Int × Int)
  | [], _, fs, a, b, c, _ => .inr (fs, a, b, c)
  | l :: r, i, fs, a, b, c, begun => if l.length = 0 then linesS r (i + 1) fs a b c begun else match spl 32 [] l with
    | [] => .inl i
    | w :: ws => match lineS fs a b c begun w ws with
      | none => .inl i
      | some q => linesS r (i + 1) q.1 q.2.1 q.2.2.1 q.2.2.2 true
theorem getD_set' {α : Type} (l : List α) (i k : Nat) (x d : α) : (l.set i x).getD k d = if i = k ∧ i < l.length then x else l.getD k d := by
  simp only [List.getD, List.getElem?_set]
  by_cases h : i = k
  · subst h
    by_cases hl : i < l.length
    · simp [hl]
    · simp [hl]
  · simp [h]
theorem lineS_bound {fs f : FS'} {b0 b1 b2 x y z : Int} {begun : Bool} {w : Wd} {ws : List Wd} {n : Nat} (h : lineS fs b0 b1 b2 begun w ws = some (f, x, y, z)) (hf : fs.length ≤ n) (hr : ∀ k, (fs.getD k []).length ≤ n) : f.length ≤ n + 1 ∧ ∀ k, (f.getD k []).length ≤ n + 1 := by
  unfold lineS at h
  split at h
  · split at h
    · cases hh : headO ws with
      | none => rw [hh] at h; cases h
      | some v => rw [hh] at h; cases h; exact ⟨by omega, fun k => by have := hr k; omega⟩
    · cases h
  · split at h
    · split at h
      · cases h
        refine ⟨by simp; omega, fun k => ?_⟩
        rw [getD_snoc]
        split
        · simp
        · have := hr k; omega
      · cases h
    · split at h
      · cases h
      · split at h
        · cases h
        · rename_i k _
          cases hh : nodeO k ws with
          | none => rw [hh] at h; cases h
          | some v =>
            rw [hh] at h; cases h
            refine ⟨by simp; omega, fun k => ?_⟩
            rw [getD_set']
            split
            · have := hr (fs.length - 1)
              simp only [List.length_append, List.length_cons, List.length_nil]
              omega
            · have := hr k; omega
theorem wrong_empty (fs : FS') (a b c : Int) (begun : Bool) : text_reader_wrong fs a b c begun (bl []) = some (false, fs, a, b, c, begun) := by
  unfold text_reader_wrong
  rw [show ByteArray.mk #[] = bl [] from rfl, str_ne, if_neg (by simp)]
theorem wrong_line (fs : FS') (a b c : Int) (begun : Bool) (l : Wd) (h : l.length ≠ 0) {v : Bool × FS' × Int × Int × Int × Bool} (e : text_reader_line fs a b c begun (bl l) = some v) : text_reader_wrong fs a b c begun (bl l) = some (!v.1, v.2.1, v.2.2.1, v.2.2.2.1, v.2.2.2.2.1, v.2.2.2.2.2) := by
  unfold text_reader_wrong
  rw [show ByteArray.mk #[] = bl [] from rfl, str_ne, if_pos (by simp; intro h'; rw [h'] at h; exact h rfl), bind_some e]
def Reads (L : List Wd) (n : Nat) (fs : FS') (a b c : Int) (begun : Bool) (q : Sum Nat (FS' × Int × Int × Int)) : Prop := match q with
  | .inl i => i < L.length ∧ (∃ j1 j2 j3 j4 j5, slices_IndexFunc___string_string__l2 fs a b c begun (L.map bl) (L.length : Int) (n : Int) = some (.x0 j1 j2 j3 j4 j5 (i : Int))) ∧ ∃ j1 j2 j3 j4, alibiref08_Parse_l8 [] [] fs (L.map bl) 0 0 0 0 0 0 a b c (!begun) (n : Int) = some (.x0 j1 j2 j3 j4 ((i + 1 : Nat) : Int) 3)
  | .inr (f, x, y, z) => (∃ bg, slices_IndexFunc___string_string__l2 fs a b c begun (L.map bl) (L.length : Int) (n : Int) = some (.x1 f x y z bg)) ∧ alibiref08_Parse_l8 [] [] fs (L.map bl) 0 0 0 0 0 0 a b c (!begun) (n : Int) = some (.x1 f x y z)
theorem reads_eq (L : List Wd) (hL : L.length ≤ 70000) (hs : ∀ l, l ∈ L → l.length ≤ 66000) : ∀ (r pre : List Wd) (fs : FS') (a b c : Int) (begun : Bool), L = pre ++ r → fs.length ≤ pre.length → (∀ k, (fs.getD k []).length ≤ pre.length) → Reads L pre.length fs a b c begun (linesS r pre.length fs a b c begun)
  | [], pre, fs, a, b, c, begun, h, hf, hr => by
    have hlen : L.length = pre.length := by rw [h]; simp
    refine ⟨⟨begun, ?_⟩, ?_⟩
    · rw [slices_IndexFunc___string_string__l2, if_neg (by rw [decide_eq_true_eq]; omega)]
    · rw [alibiref08_Parse_l8, if_neg (by rw [decide_eq_true_eq, List.length_map]; omega)]
  | l :: r, pre, fs, a, b, c, begun, h, hf, hr => by
    have hlen : L.length = pre.length + r.length + 1 := by rw [h]; simp; omega
    have hat : List.getD (L.map bl) pre.length ByteArray.empty = bl l := by
      rw [h]
      simp [List.getD]
    have hll : l.length ≤ 66000 := hs l (by rw [h]; simp)
    have ih := reads_eq L hL hs r (pre ++ [l])
    have hpl : (pre ++ [l]).length = pre.length + 1 := by simp
    rw [hpl] at ih
    have step : ∀ {v : Bool × FS' × Int × Int × Int × Bool}, text_reader_wrong fs a b c begun (bl l) = some v → slices_IndexFunc___string_string__l2 fs a b c begun (L.map bl) (L.length : Int) (pre.length : Int) = if v.1 = true then some (.x0 v.2.1 v.2.2.1 v.2.2.2.1 v.2.2.2.2.1 v.2.2.2.2.2 (pre.length : Int)) else slices_IndexFunc___string_string__l2 v.2.1 v.2.2.1 v.2.2.2.1 v.2.2.2.2.1 v.2.2.2.2.2 (L.map bl) (L.length : Int) ((pre.length + 1 : Nat) : Int) := fun {v} hv => by
      rw [slices_IndexFunc___string_string__l2, if_pos (decide_eq_true (by omega)), if_pos (decide_eq_true (by omega)), if_pos (decide_eq_true (by rw [List.length_map]; omega)), Int.toNat_natCast, hat, bind_some hv, inc _ (by omega)]
    unfold linesS
    by_cases h0 : l.length = 0
    · rw [if_pos h0]
      have hl : l = [] := List.eq_nil_of_length_eq_zero h0
      have key := ih fs a b c begun (by rw [h]; simp) (by omega) (fun k => by have := hr k; omega)
      have e1 : slices_IndexFunc___string_string__l2 fs a b c begun (L.map bl) (L.length : Int) (pre.length : Int) = slices_IndexFunc___string_string__l2 fs a b c begun (L.map bl) (L.length : Int) ((pre.length + 1 : Nat) : Int) := by
        rw [step (by rw [hl]; exact wrong_empty fs a b c begun)]
        rfl
      have e2 : alibiref08_Parse_l8 [] [] fs (L.map bl) 0 0 0 0 0 0 a b c (!begun) (pre.length : Int) = alibiref08_Parse_l8 [] [] fs (L.map bl) 0 0 0 0 0 0 a b c (!begun) ((pre.length + 1 : Nat) : Int) := by
        rw [alibiref08_Parse_l8, if_pos (decide_eq_true (by rw [List.length_map]; omega)), if_pos (decide_eq_true (by omega)), if_pos (decide_eq_true (by rw [List.length_map]; omega)), Int.toNat_natCast, hat, if_pos (by rw [hl, show ByteArray.mk #[] = bl [] from rfl, str_ne]; simp), inc _ (by omega)]
      unfold Reads at key ⊢
      rw [e1, e2]
      exact key
    · rw [if_neg h0]
      obtain ⟨w, ws, es, hsp⟩ := splt (bl l) 32
      have es' : spl 32 [] l = w :: ws := es
      rw [es']
      dsimp only
      have hws : ∀ u, u ∈ ws → u.length ≤ 66000 := fun u hu => by
        have := spl_mem 32 l [] u (by rw [es']; exact List.mem_cons_of_mem _ hu)
        simp at this
        omega
      have hwl : ws.length ≤ 100000 := by
        have h1 := spl_len 32 l []
        have h2 := List.count_le_length (a := (32 : UInt8)) (l := l)
        rw [es', List.length_cons] at h1
        omega
      have hd := doc_line [] [] fs (L.map bl) 0 0 0 0 0 0 a b c (!begun) pre.length (bl l) w ws (by rw [List.length_map]; omega) (by omega) hat (by rw [bl_size]; exact h0) (by rw [bl_size]; exact hll) hsp hws hwl (by omega) (by have := hr (fs.length - 1); omega)
      have hp := line_eq fs a b c (bl l) w ws begun (by rw [bl_size]; exact hll) hsp (by omega) (by have := hr (fs.length - 1); omega)
      rw [Bool.not_not] at hd
      rcases hd with ⟨f, x, y, z, e1, e2⟩ | ⟨j1, j2, j3, j4, e1, e2⟩
      · rw [e1] at hp ⊢
        dsimp only
        have hw := wrong_line fs a b c begun l h0 hp
        have e3 := step hw
        obtain ⟨hb1, hb2⟩ := lineS_bound e1 hf hr
        have key := ih f x y z true (by rw [h]; simp) hb1 hb2
        have e3' : slices_IndexFunc___string_string__l2 fs a b c begun (L.map bl) (L.length : Int) (pre.length : Int) = slices_IndexFunc___string_string__l2 f x y z true (L.map bl) (L.length : Int) ((pre.length + 1 : Nat) : Int) := e3
        unfold Reads at key ⊢
        rw [e3', e2]
        exact key
      · rw [e1] at hp ⊢
        dsimp only
        obtain ⟨j, hp⟩ := hp
        have hw := wrong_line fs a b c begun l h0 hp
        have e3 := step hw
        exact ⟨by omega, ⟨_, _, _, _, _, e3⟩, ⟨_, _, _, _, e2⟩⟩
/-- What is read of a text that is none too long. -/
def Told (s : ByteArray) (r : Int × Int × Int × Int × Int × FS') : Prop :=
  (r.2.2.2.2.1 = 0 ∧ r.2.2.2.1 = 0 ∧ Good ⟨r.1, r.2.1, r.2.2.1, r.2.2.2.2.2⟩) ∨ (r.2.2.2.2.1 ≠ 0 ∧ r.1 = 0 ∧ r.2.1 = 0 ∧ r.2.2.1 = 0 ∧ r.2.2.2.2.2 = [] ∧ (r.2.2.2.1 = 0 ∨ (r.2.2.2.2.1 = 3 ∧ ∃ i : Nat, i < s.data.toList.count 10 + 1 ∧ r.2.2.2.1 = ((i + 1 : Nat) : Int))))
theorem parse_eq (s : ByteArray) : ∃ r, text_Parse s = some r ∧ alibiref08_Parse s = some r ∧ Told s r := by
  unfold text_Parse alibiref08_Parse
  by_cases hlong : (s.size : Int) > 65536
  · rw [if_pos (decide_eq_true hlong), if_pos (decide_eq_true hlong)]
    exact ⟨_, rfl, rfl, .inr ⟨by decide, rfl, rfl, rfl, rfl, .inl rfl⟩⟩
  · have hsz : s.size ≤ 65536 := by omega
    rw [if_neg (by rw [decide_eq_true_eq]; exact hlong), if_neg (by rw [decide_eq_true_eq]; exact hlong)]
    have e1 : strings_Split s (ByteArray.mk #[10]) = some ((spl 10 [] s.data.toList).map bl) := split_eq s 10 (by omega)
    have e2 : alibiref08_split s (10#8) = some ((spl 10 [] s.data.toList).map bl) := rsplit_eq s 10 (by omega)
    rw [bind_some e1, bind_some e2]
    have hn := spl_len 10 s.data.toList []
    have hc := List.count_le_length (a := (10 : UInt8)) (l := s.data.toList)
    have hss : s.data.toList.length = s.size := rfl
    have hm : ∀ l, l ∈ spl 10 [] s.data.toList → l.length ≤ 66000 := fun l hl => by
      have := spl_mem 10 s.data.toList [] l hl
      simp only [List.length_nil] at this
      omega
    generalize spl 10 [] s.data.toList = L at hn hm ⊢
    have key := reads_eq L (by omega) hm L [] [] 0 0 0 false rfl (by simp) (fun k => by simp)
    unfold slices_IndexFunc___string_string_
    cases hq : linesS L 0 [] 0 0 0 false with
    | inl i =>
      have key' : Reads L 0 [] 0 0 0 false (linesS L 0 [] 0 0 0 false) := key
      rw [hq] at key'
      obtain ⟨hi, ⟨j1, j2, j3, j4, j5, k1⟩, ⟨j6, j7, j8, j9, k2⟩⟩ := key'
      have k1' : slices_IndexFunc___string_string__l2 [] 0 0 0 false (L.map bl) (↑(List.length (L.map bl))) 0 = some (.x0 j1 j2 j3 j4 j5 (i : Int)) := by rw [List.length_map]; exact k1
      have k2' : alibiref08_Parse_l8 [] [] [] (L.map bl) 0 0 0 0 0 0 0 0 0 true 0 = _ := k2
      rw [bind_some k1', bind_some k2']
      dsimp only
      rw [bind_some rfl, if_pos (decide_eq_true (by show (i : Int) ≥ 0; omega))]
      dsimp only
      rw [inc _ (by omega)]
      exact ⟨_, rfl, rfl, .inr ⟨by show (3 : Int) ≠ 0; decide, rfl, rfl, rfl, rfl, .inr ⟨rfl, i, by omega, rfl⟩⟩⟩
    | inr q =>
      obtain ⟨f, x, y, z⟩ := q
      have key' : Reads L 0 [] 0 0 0 false (linesS L 0 [] 0 0 0 false) := key
      rw [hq] at key'
      obtain ⟨⟨bg, k1⟩, k2⟩ := key'
      have k1' : slices_IndexFunc___string_string__l2 [] 0 0 0 false (L.map bl) (↑(List.length (L.map bl))) 0 = some (.x1 f x y z bg) := by rw [List.length_map]; exact k1
      have k2' : alibiref08_Parse_l8 [] [] [] (L.map bl) 0 0 0 0 0 0 0 0 0 true 0 = _ := k2
      rw [bind_some k1', bind_some k2']
      dsimp only
      rw [bind_some rfl, if_neg (by show ¬ decide ((-1 : Int) ≥ 0) = true; decide)]
      dsimp only
      obtain ⟨r, c1, c2, c3, c4, c5⟩ := check_eq ⟨x, y, z, f⟩
      rw [bind_some c1, bind_some c2]
      by_cases h0 : r.2.2 = 0
      · rw [if_neg (by rw [h0]; decide)]
        exact ⟨_, rfl, rfl, .inl ⟨rfl, rfl, (c3 h0).2⟩⟩
      · rw [if_pos (by simpa using h0)]
        exact ⟨_, rfl, rfl, .inr ⟨h0, rfl, rfl, rfl, rfl, .inl rfl⟩⟩
/-! the law's own example -/
def s0 : List UInt8 := [97, 108, 105, 98, 105, 32, 48, 32, 48, 32, 48, 10, 102, 117, 110, 99, 10, 114, 101, 116, 117, 114, 110, 10]
theorem s0_lines : linesS (spl 10 [] s0) 0 [] 0 0 0 false = .inr ([[⟨9, 0, 0, 0⟩]], 0, 0, 0) := by kernel_rfl
theorem p0_l13 : prog_Check_l13 0 0 0 [[⟨9, 0, 0, 0⟩]] 0 [⟨9, 0, 0, 0⟩] [[⟨9, 0, 0, 0⟩]] 1 0 [⟨9, 0, 0, 0⟩] 1 0 = some .x1 := by
  rw [prog_Check_l13, if_pos (by decide), if_pos (by decide), if_pos (by decide)]
  have e : prog_May ⟨0, 0, 0, [[⟨9, 0, 0, 0⟩]]⟩ (List.getD [(⟨9, 0, 0, 0⟩ : api_Node)] (Int.toNat 0) d_api_Node) (↑(List.length [(⟨9, 0, 0, 0⟩ : api_Node)])) = some true := by kernel_rfl
  rw [bind_some e, if_neg (by decide), i01, prog_Check_l13, if_neg (by decide)]
theorem p0_l6 : prog_Check_l6 0 0 0 [[⟨9, 0, 0, 0⟩]] [[⟨9, 0, 0, 0⟩]] 1 0 = some .x1 := by
  rw [prog_Check_l6, if_pos (by decide), if_pos (by decide), if_pos (by decide), if_neg (by decide), if_neg (by decide)]
  refine (bind_some p0_l13).trans ?_
  dsimp only
  rw [i01, prog_Check_l6, if_neg (by decide)]
theorem p0_l5 : prog_round_l5 0 0 0 [[⟨9, 0, 0, 0⟩]] 0 [[⟨9, 0, 0, 0⟩]] 1 0 [⟨9, 0, 0, 0⟩] 1 0 = some .x1 := by
  rw [prog_round_l5, if_pos (by decide), if_pos (by decide), if_pos (by decide), if_neg (by decide), i01, prog_round_l5, if_neg (by decide)]
theorem p0_l2 : prog_round_l2 0 0 0 [[⟨9, 0, 0, 0⟩]] [[⟨9, 0, 0, 0⟩]] 1 0 = some .x1 := by
  rw [prog_round_l2, if_pos (by decide), if_pos (by decide), if_pos (by decide)]
  refine (bind_some p0_l5).trans ?_
  dsimp only
  rw [i01, prog_round_l2, if_neg (by decide)]
theorem p0_check : prog_Check ⟨0, 0, 0, [[⟨9, 0, 0, 0⟩]]⟩ = some (0, 0, 0) := by
  unfold prog_Check prog_round
  rw [if_neg (by decide), if_neg (by decide), if_neg (by decide), if_neg (by decide), if_neg (by decide), if_neg (by decide), if_neg (by decide), if_neg (by decide)]
  refine (bind_some p0_l6).trans ?_
  dsimp only
  have e : (bind (prog_round_l2 0 0 0 [[⟨9, 0, 0, 0⟩]] [[⟨9, 0, 0, 0⟩]] 1 0) fun q => (match q with | .x0 v17 v18 v19 => some (v17, v18, v19) | .x1 => some (0, 0, false)) : Option (Int × Int × Bool)) = some (0, 0, false) := (bind_some p0_l2).trans rfl
  exact (bind_some e).trans rfl
theorem s0_parse : text_Parse (bl s0) = some (0, 0, 0, 0, 0, [[⟨9, 0, 0, 0⟩]]) := by
  unfold text_Parse
  rw [if_neg (by decide)]
  have e1 : strings_Split (bl s0) (ByteArray.mk #[10]) = some ((spl 10 [] s0).map bl) := split_eq (bl s0) 10 (by decide)
  rw [bind_some e1]
  have key : Reads (spl 10 [] s0) 0 [] 0 0 0 false (linesS (spl 10 [] s0) 0 [] 0 0 0 false) := reads_eq (spl 10 [] s0) (by decide) (by decide) (spl 10 [] s0) [] [] 0 0 0 false rfl (by simp) (fun k => by simp)
  rw [s0_lines] at key
  obtain ⟨⟨bg, k1⟩, k2⟩ := key
  unfold slices_IndexFunc___string_string_
  have k1' : slices_IndexFunc___string_string__l2 [] 0 0 0 false ((spl 10 [] s0).map bl) (↑(List.length ((spl 10 [] s0).map bl))) 0 = _ := k1
  rw [bind_some k1']
  dsimp only
  rw [bind_some rfl, if_neg (by show ¬ decide ((-1 : Int) ≥ 0) = true; decide)]
  dsimp only
  rw [bind_some p0_check]
  rfl
theorem awake08 : alibilaw08_awake = some true := by
  unfold alibilaw08_awake
  rw [bind_some (show text_Parse str_0 = _ from s0_parse)]
  rfl
end Go.Bm.GoYtigopdlofamhlaaDoor
