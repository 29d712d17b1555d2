/- Sections: what must be held; the program's checks and the document's; the laws MustChecks, MustLess, MustUnion. -/
import Derived.Test.YtldkmmnffjdliaaMLawBegun
namespace Go.Bm.GoYtldkmmnffjdliaa
set_option autoImplicit false
set_option linter.unusedVariables false
set_option linter.unusedSimpArgs false
set_option maxRecDepth 100000
def bhd (u : List W32) (l : List api_Section) (x : api_Node) (h : W32) : W32 :=
  if x.kind = 3 then h ||| one x.arg else if x.kind = 4 then h &&& ~~~(one x.arg) else if x.kind = 7 then (h &&& ~~~(List.getD u x.arg.toNat 0#32)) ||| (List.getD l x.arg.toNat d_api_Section).exit else h
theorem behind_eq (c : must_checker) (x : api_Node) (h : W32) (hx : x.kind = 7 → 0 ≤ x.arg ∧ x.arg < c.unlocks.length ∧ x.arg < c.l.length) : must_checker_behind c x h = some (bhd c.unlocks c.l x h) := by
  unfold must_checker_behind bhd
  by_cases h3 : x.kind = 3
  · rw [if_pos (eqT h3), if_pos h3, bind_some (one_eq _)]
  · rw [if_neg (eqF h3), if_neg h3]
    by_cases h4 : x.kind = 4
    · rw [if_pos (eqT h4), if_pos h4, bind_some (one_eq _)]
    · rw [if_neg (eqF h4), if_neg h4]
      by_cases h7 : x.kind = 7
      · obtain ⟨a1, a2, a3⟩ := hx h7
        rw [if_pos (eqT h7), if_pos h7, if_pos (decide_eq_true a1), if_pos (decide_eq_true a2), if_pos (decide_eq_true a3)]
      · rw [if_neg (eqF h7), if_neg h7]
theorem all_cons_drop {js : List Int} {k : Nat} (hk : k < js.length) (q : Int → Bool) : (js.drop k).all q = (q js[k] && (js.drop (k + 1)).all q) := by
  rw [List.drop_eq_getElem_cons hk, List.all_cons]
theorem must_l7 (p : api_Program) (l : List api_Section) (u : List W32) (fm : W32) (f : Nat) (hf : f < l.length) (x : api_Node) (h : W32) (hx : x.kind = 7 → 0 ≤ x.arg ∧ x.arg < u.length ∧ x.arg < l.length) (js : List Int) (hjl : js.length ≤ 2) (hj : ∀ y ∈ js, 0 ≤ y ∧ y < ((List.getD l f d_api_Section).held.length : Int)) :
    ∀ (m k : Nat), k + m = js.length → must_checker_node_l7 js p.globals p.locks p.slots p.funcs l u fm x.kind x.arg x.next x.alt (f : Int) h (js.length : Int) (k : Int) = some (if (js.drop k).all (fun y => subb (hld l f y.toNat) (bhd u l x h)) = true then .x1 else .x0 3)
  | 0, k, hk => by
    rw [must_checker_node_l7, if_neg (by simp only [decide_eq_true_eq]; omega), List.drop_eq_nil_of_le (by omega)]
    rfl
  | m + 1, k, hk => by
    have hlt : k < js.length := by omega
    have hg : List.getD js k 0 = js[k] := by simp [List.getD, hlt]
    have hr := hj _ (List.getElem_mem hlt)
    have eb : must_checker_behind (must_checker.mk (api_Program.mk p.globals p.locks p.slots p.funcs) l u fm) (api_Node.mk x.kind x.arg x.next x.alt) h = some (bhd u l x h) := behind_eq ⟨p, l, u, fm⟩ x h hx
    rw [must_checker_node_l7, if_pos (decide_eq_true (by omega)), if_pos (decide_eq_true (by omega)), if_pos (decide_eq_true (by omega)), if_pos (decide_eq_true (by omega)), if_pos (decide_eq_true (by omega)), Int.toNat_natCast k, hg, if_pos (decide_eq_true hr.1), Int.toNat_natCast f, if_pos (decide_eq_true hr.2), bind_some eb, bind_some (within_eq2 _ _), inc k (by omega), must_l7 p l u fm f hf x h hx js hjl hj m (k + 1) (by omega), all_cons_drop hlt]
    cases hs : subb (List.getD (List.getD l f d_api_Section).held js[k].toNat 0#32) (bhd u l x h) with
    | false => rfl
    | true => rfl
/-- What is wrong at a node. -/
def nodeW (p : api_Program) (l : List api_Section) (u : List W32) (f i : Nat) : Int :=
  if (nde p f i).kind = 7 ∧ subb (sec l (nde p f i).arg.toNat).entry (hld l f i) = false then 5
  else if (nde p f i).kind = 9 ∧ subb (sec l f).exit (hld l f i) = false then 4
  else if (succ (nde p f i)).all (fun y => subb (hld l f y.toNat) (bhd u l (nde p f i) (hld l f i))) = true then 0 else 3
theorem nodeW_5 {p : api_Program} {l : List api_Section} {u : List W32} {f i : Nat} (h : (nde p f i).kind = 7) (h2 : ¬ subb (sec l (nde p f i).arg.toNat).entry (hld l f i) = true) : nodeW p l u f i = 5 := if_pos ⟨h, by simpa using h2⟩
theorem nodeW_4 {p : api_Program} {l : List api_Section} {u : List W32} {f i : Nat} (h : (nde p f i).kind = 9) (h2 : ¬ subb (sec l f).exit (hld l f i) = true) : nodeW p l u f i = 4 := by
  unfold nodeW
  rw [if_neg (by rintro ⟨h3, _⟩; exact absurd (h.symm.trans h3) (by decide)), if_pos ⟨h, by simpa using h2⟩]
theorem nodeW_r {p : api_Program} {l : List api_Section} {u : List W32} {f i : Nat} (h : (nde p f i).kind = 7 → subb (sec l (nde p f i).arg.toNat).entry (hld l f i) = true) (h2 : (nde p f i).kind = 9 → subb (sec l f).exit (hld l f i) = true) : nodeW p l u f i = if (succ (nde p f i)).all (fun y => subb (hld l f y.toNat) (bhd u l (nde p f i) (hld l f i))) = true then 0 else 3 := by
  unfold nodeW
  rw [if_neg (by rintro ⟨h3, h4⟩; rw [h h3] at h4; cases h4), if_neg (by rintro ⟨h3, h4⟩; rw [h2 h3] at h4; cases h4)]
theorem must_node (p : api_Program) (hg : Good p) (l : List api_Section) (hs : Shp p l) (u : List W32) (hu : u.length = p.funcs.length) (fm : W32) (f i : Nat) (hf : f < p.funcs.length) (hi : i < (List.getD p.funcs f []).length) : must_checker_node ⟨p, l, u, fm⟩ (f : Int) (i : Int) = some (nodeW p l u f i) := by
  have hl := hs.1
  have hh : (List.getD l f d_api_Section).held.length = (List.getD p.funcs f []).length := (hs.2 f hf).1
  have hok := hg.node f i hf hi
  have hc := hok.call
  have hcn : (nde p f i).kind = 7 → 0 ≤ (nde p f i).arg ∧ (nde p f i).arg < p.funcs.length := hok.call
  have hle := hg.le f
  have hjr := succ_ok hok (by omega)
  have h7 := must_l7 p l u fm f (by omega) (nde p f i) (hld l f i) (fun hk => by have := hcn hk; omega) (succ (nde p f i)) (succ_len _) (fun y hy => by have := hjr y hy; omega) (succ (nde p f i)).length 0 (by omega)
  rw [show ((0 : Nat) : Int) = 0 from rfl, List.drop_zero] at h7
  unfold must_checker_node
  dsimp only
  rw [if_pos (decide_eq_true (by omega)), if_pos (decide_eq_true (by omega)), if_pos (decide_eq_true (by omega)), Int.toNat_natCast f, if_pos (decide_eq_true (by omega)), if_pos (decide_eq_true (by omega)), if_pos (decide_eq_true (by omega)), Int.toNat_natCast i]
  by_cases hk7 : (List.getD (List.getD p.funcs f []) i d_api_Node).kind = 7
  · have ha := hc hk7
    rw [if_pos (eqT hk7), if_pos (decide_eq_true ha.1), if_pos (decide_eq_true (by omega)), bind_some (within_eq2 _ _)]
    by_cases he : subb (List.getD l (List.getD (List.getD p.funcs f []) i d_api_Node).arg.toNat d_api_Section).entry (List.getD (List.getD l f d_api_Section).held i 0#32) = true
    · rw [he, if_neg (by decide), if_neg (eqF (by omega)), bind_some (succ_eq _), bind_some h7, nodeW_r (fun _ => he) (fun h => absurd (hk7.symm.trans h) (by decide))]
      by_cases ha : (succ (nde p f i)).all (fun y => subb (hld l f y.toNat) (bhd u l (nde p f i) (hld l f i))) = true
      · rw [if_pos ha, if_pos ha]
      · rw [if_neg ha, if_neg ha]
    · rw [if_pos (by simpa using he), nodeW_5 hk7 he]
  · rw [if_neg (eqF hk7)]
    by_cases hk9 : (List.getD (List.getD p.funcs f []) i d_api_Node).kind = 9
    · rw [if_pos (eqT hk9), bind_some (within_eq2 _ _)]
      by_cases he : subb (List.getD l f d_api_Section).exit (List.getD (List.getD l f d_api_Section).held i 0#32) = true
      · rw [he, if_neg (by decide), bind_some (succ_eq _), bind_some h7, nodeW_r (fun h => absurd h hk7) (fun _ => he)]
        by_cases ha : (succ (nde p f i)).all (fun y => subb (hld l f y.toNat) (bhd u l (nde p f i) (hld l f i))) = true
        · rw [if_pos ha, if_pos ha]
        · rw [if_neg ha, if_neg ha]
      · rw [if_pos (by simpa using he), nodeW_4 hk9 he]
    · rw [if_neg (eqF hk9), bind_some (succ_eq _), bind_some h7, nodeW_r (fun h => absurd h hk7) (fun h => absurd h hk9)]
      by_cases ha : (succ (nde p f i)).all (fun y => subb (hld l f y.toNat) (bhd u l (nde p f i) (hld l f i))) = true
      · rw [if_pos ha, if_pos ha]
      · rw [if_neg ha, if_neg ha]
def nodeO (p : api_Program) (l : List api_Section) (u : List W32) (f i : Nat) : Option Int := if nodeW p l u f i = 0 then none else some (nodeW p l u f i)
theorem must_f7 (p : api_Program) (hg : Good p) (l : List api_Section) (hs : Shp p l) (u : List W32) (hu : u.length = p.funcs.length) (fm : W32) (f : Nat) (hf : f < p.funcs.length) : ∀ (m i : Nat), i + m = (List.getD p.funcs f []).length → must_checker_function_l7 p.globals p.locks p.slots p.funcs l u fm (f : Int) ((List.getD p.funcs f []).length : Int) (i : Int) = some (match findO (nodeO p l u f) i m with | some (k, w) => .x0 k w | none => .x1)
  | 0, i, h => by rw [must_checker_function_l7, if_neg (by simp only [decide_eq_true_eq]; omega)]; rfl
  | m + 1, i, h => by
    have hle := hg.le f
    have e := must_node p hg l hs u hu fm f i hf (by omega)
    rw [must_checker_function_l7, if_pos (decide_eq_true (by omega)), bind_some (show must_checker_node (must_checker.mk (api_Program.mk p.globals p.locks p.slots p.funcs) l u fm) (f : Int) (i : Int) = _ from e), inc i (by omega), must_f7 p hg l hs u hu fm f hf m (i + 1) (by omega), findO_succ]
    unfold nodeO
    by_cases h0 : nodeW p l u f i = 0
    · rw [if_neg (neF h0), if_pos h0]
    · rw [if_pos (neT h0), if_neg h0]
/-- What is wrong in a function first. -/
def funcW (p : api_Program) (l : List api_Section) (u : List W32) (fm : W32) (f : Nat) : Int × Int :=
  if fm.getLsbD f = true ∧ (sec l f).entry ≠ 0#32 then (-1, 2) else if subb (hld l f 0) (sec l f).entry = false then (-1, 3)
  else match findO (nodeO p l u f) 0 (List.getD p.funcs f []).length with | some (k, w) => (k, w) | none => (0, 0)
theorem funcW_2 {p : api_Program} {l : List api_Section} {u : List W32} {fm : W32} {f : Nat} (h : fm.getLsbD f = true ∧ (sec l f).entry ≠ 0#32) : funcW p l u fm f = (-1, 2) := if_pos h
theorem funcW_3 {p : api_Program} {l : List api_Section} {u : List W32} {fm : W32} {f : Nat} (h : ¬ (fm.getLsbD f = true ∧ (sec l f).entry ≠ 0#32)) (h2 : ¬ subb (hld l f 0) (sec l f).entry = true) : funcW p l u fm f = (-1, 3) := by
  unfold funcW
  rw [if_neg h, if_pos (by simpa using h2)]
theorem funcW_r {p : api_Program} {l : List api_Section} {u : List W32} {fm : W32} {f : Nat} (h : ¬ (fm.getLsbD f = true ∧ (sec l f).entry ≠ 0#32)) (h2 : subb (hld l f 0) (sec l f).entry = true) : funcW p l u fm f = match findO (nodeO p l u f) 0 (List.getD p.funcs f []).length with | some (k, w) => (k, w) | none => (0, 0) := by
  unfold funcW
  rw [if_neg h, if_neg (by rw [h2]; decide)]
theorem must_func (p : api_Program) (hg : Good p) (l : List api_Section) (hs : Shp p l) (u : List W32) (hu : u.length = p.funcs.length) (fm : W32) (f : Nat) (hf : f < p.funcs.length) : must_checker_function ⟨p, l, u, fm⟩ (f : Int) = some (funcW p l u fm f) := by
  have hl := hs.1
  have hn := hg.funcs.2
  have hh : (List.getD l f d_api_Section).held.length = (List.getD p.funcs f []).length := (hs.2 f hf).1
  have hp := (hg.len f hf).1
  have h7 := must_f7 p hg l hs u hu fm f hf (List.getD p.funcs f []).length 0 (by omega)
  rw [show ((0 : Nat) : Int) = 0 from rfl] at h7
  unfold must_checker_function
  dsimp only
  rw [if_pos (decide_eq_true (by omega)), if_pos (decide_eq_true (by omega)), bind_some (show sets_Has fm (f : Int) = some (fm.getLsbD f) by rw [has_eq, if_pos (by omega), Int.toNat_natCast]), Int.toNat_natCast f]
  by_cases hfm : fm.getLsbD f = true
  · rw [if_pos hfm]
    by_cases he : (List.getD l f d_api_Section).entry = 0#32
    · rw [if_neg (by simpa using he), if_pos (decide_eq_true (by omega)), bind_some (within_eq2 _ _)]
      by_cases hsb : subb (List.getD (List.getD l f d_api_Section).held 0 0#32) (List.getD l f d_api_Section).entry = true
      · rw [if_neg (by rw [hsb]; decide), if_pos (decide_eq_true (by omega)), bind_some h7, funcW_r (fun h => h.2 he) hsb]
        cases findO (nodeO p l u f) 0 (List.getD p.funcs f []).length with
        | some x => rfl
        | none => rfl
      · rw [if_pos (by simpa using hsb), funcW_3 (fun h => h.2 he) hsb]
    · rw [if_pos (by simpa using he), funcW_2 ⟨hfm, he⟩]
  · rw [if_neg hfm, if_pos (decide_eq_true (by omega)), bind_some (within_eq2 _ _)]
    by_cases hsb : subb (List.getD (List.getD l f d_api_Section).held 0 0#32) (List.getD l f d_api_Section).entry = true
    · rw [if_neg (by rw [hsb]; decide), if_pos (decide_eq_true (by omega)), bind_some h7, funcW_r (fun h => hfm h.1) hsb]
      cases findO (nodeO p l u f) 0 (List.getD p.funcs f []).length with
      | some x => rfl
      | none => rfl
    · rw [if_pos (by simpa using hsb), funcW_3 (fun h => hfm h.1) hsb]
def funcO (p : api_Program) (l : List api_Section) (u : List W32) (fm : W32) (f : Nat) : Option (Int × Int) := if (funcW p l u fm f).2 = 0 then none else some (funcW p l u fm f)
theorem must_l8 (p : api_Program) (hg : Good p) (l : List api_Section) (hs : Shp p l) (u : List W32) (hu : u.length = p.funcs.length) (fm : W32) : ∀ (m f : Nat), f + m = l.length → must_Check_l8 u 0 0 0 p.globals p.locks p.slots p.funcs l fm (l.length : Int) (f : Int) = some (match findO (funcO p l u fm) f m with | some (f, (k, w)) => .x0 f k w 0 | none => .x1)
  | 0, f, h => by rw [must_Check_l8, if_neg (by simp only [decide_eq_true_eq]; omega)]; rfl
  | m + 1, f, h => by
    have hl := hs.1
    have hn := hg.funcs.2
    have e := must_func p hg l hs u hu fm f (by omega)
    rw [must_Check_l8, if_pos (decide_eq_true (by omega)), bind_some (show must_checker_function (must_checker.mk (api_Program.mk p.globals p.locks p.slots p.funcs) l u fm) (f : Int) = _ from e), inc f (by omega), must_l8 p hg l hs u hu fm m (f + 1) (by omega), findO_succ]
    unfold funcO
    by_cases h0 : (funcW p l u fm f).2 = 0
    · rw [if_neg (neF h0), if_pos h0]
    · rw [if_pos (neT h0), if_neg h0]
def checkW (p : api_Program) (l : List api_Section) (u : List W32) (fm : W32) : api_Fault := match findO (funcO p l u fm) 0 l.length with | some (f, (k, w)) => ⟨f, k, w⟩ | none => ⟨0, 0, 0⟩
/-- What the program knows of the functions. -/
structure Know (p : api_Program) (u : List W32) (fm : W32) : Prop where
  ul : u.length = p.funcs.length
  ub : ∀ f, f < p.funcs.length → ∀ b, (List.getD u f 0#32).getLsbD b = true ↔ May p.funcs ofU f b
  fb : ∀ f, f < p.funcs.length → (fm.getLsbD f = true ↔ f = 0 ∨ Begun p.funcs f)
theorem must_good (p : api_Program) (hg : Good p) (hk : prog_Check p = some (0, 0, 0)) : ∃ u fm, Know p u fm ∧ (∀ l, Shp p l → must_Check p l = some (checkW p l u fm, 0)) ∧ ∀ l, ¬ Shp p l → must_Check p l = some (⟨-1, -1, 1⟩, 0) := by
  have hn := hg.funcs.2
  obtain ⟨u, u1, u2, u3⟩ := unlocks_eq p hg hk
  obtain ⟨x, x1, x2⟩ := begun_eq p hg
  refine ⟨u, x ||| one 0, ⟨u2, u3, fun f hf => ?_⟩, fun l hs => ?_, fun l hs => ?_⟩
  · rw [BitVec.getLsbD_or, Bool.or_eq_true, one_bit, x2 f (by omega)]
    constructor
    · rintro (h | ⟨h, _⟩)
      · exact .inr h
      · exact .inl (by omega)
    · rintro (h | h)
      · exact .inr ⟨by omega, by omega⟩
      · exact .inl h
  · obtain ⟨b, b1, _, b2⟩ := shaped_eq p l (by omega)
    have hb := b2.2 hs
    have h8 := must_l8 p hg l hs u u2 (x ||| one 0) l.length 0 (by omega)
    rw [show ((0 : Nat) : Int) = 0 from rfl] at h8
    unfold must_Check
    rw [bind_some u1, if_neg (show ¬ ((0 : Int) != 0) = true by decide), bind_some b1, hb, if_neg (by decide), bind_some x1, bind_some (one_eq 0), bind_some h8]
    unfold checkW
    cases findO (funcO p l u (x ||| one 0)) 0 l.length with
    | some y => rfl
    | none => rfl
  · obtain ⟨b, b1, _, b2⟩ := shaped_eq p l (by omega)
    have hb : b = false := by
      cases b with
      | false => rfl
      | true => exact absurd (b2.1 rfl) hs
    unfold must_Check
    rw [bind_some u1, if_neg (show ¬ ((0 : Int) != 0) = true by decide), bind_some b1, hb, if_pos (by decide)]
theorem must_bad (p : api_Program) {a b e : Int} (hk : prog_Check p = some (a, b, e)) (he : e ≠ 0) (l : List api_Section) : must_Check p l = some (⟨0, 0, 0⟩, e) := by
  unfold must_Check
  rw [bind_some (unlocks_bad p hk he), if_pos (neT he)]
/-! ### the document's -/
theorem refbehind_l10 (t : List Int) (ht : t.length ≤ 65536) (x1 x2 x3 x4 : Int) (l : List api_Section) (lock : Nat) (h : Bool) : ∀ (m i : Nat) (c : Bool), i + m = t.length → ∃ c', alibiref15_Behind_l10 t x1 x2 x3 x4 l (lock : Int) h c (i : Int) = some c' ∧ (c' = true ↔ c = true ∨ (lock : Int) ∈ t.drop i)
  | 0, i, c, hi => by
    rw [alibiref15_Behind_l10, if_neg (by simp only [decide_eq_true_eq]; omega), List.drop_eq_nil_of_le (by omega)]
    exact ⟨c, rfl, by simp⟩
  | m + 1, i, c, hi => by
    have hlt : i < t.length := by omega
    have hd : t.drop i = t[i] :: t.drop (i + 1) := List.drop_eq_getElem_cons hlt
    have hg : List.getD t i 0 = t[i] := by simp [List.getD, hlt]
    rw [alibiref15_Behind_l10, if_pos (decide_eq_true (by omega)), inc i (by omega), hd]
    by_cases hc : c = true
    · rw [if_pos hc]
      obtain ⟨c', q1, q2⟩ := refbehind_l10 t ht x1 x2 x3 x4 l lock h m (i + 1) true (by omega)
      exact ⟨c', q1, by rw [q2]; simp [hc]⟩
    · rw [if_neg hc, if_pos (decide_eq_true (by omega)), if_pos (decide_eq_true (by omega)), Int.toNat_natCast, hg]
      obtain ⟨c', q1, q2⟩ := refbehind_l10 t ht x1 x2 x3 x4 l lock h m (i + 1) ((t[i] : Int) == (lock : Int)) (by omega)
      refine ⟨c', q1, ?_⟩
      rw [q2, beq_iff_eq, List.mem_cons]
      constructor
      · rintro (h1 | h1)
        · exact .inr (.inl h1.symm)
        · exact .inr (.inr h1)
      · rintro (h1 | h1 | h1)
        · exact absurd h1 hc
        · exact .inl h1.symm
        · exact .inr h1
theorem refbehind_eq (p : api_Program) (hg : Good p) (l : List api_Section) (hl : l.length = p.funcs.length) {u : List W32} {fm : W32} (hk : Know p u fm) (x : api_Node) (hx : x.kind = 7 → 0 ≤ x.arg ∧ x.arg < p.funcs.length) (lock : Nat) (hlk : lock < 32) (h : W32) : alibiref15_Behind p l x (lock : Int) (h.getLsbD lock) = some ((bhd u l x h).getLsbD lock) := by
  unfold alibiref15_Behind bhd
  by_cases h3 : x.kind = 3
  · rw [if_pos (eqT h3), if_pos h3]
    have e : (h ||| one x.arg).getLsbD lock = (h.getLsbD lock || ((lock : Int) == x.arg)) := by
      rw [BitVec.getLsbD_or]
      congr 1
      rw [Bool.eq_iff_iff, one_bit, beq_iff_eq]
      exact ⟨fun h => h.1.symm, fun h => ⟨h.symm, hlk⟩⟩
    rw [e]
    cases h.getLsbD lock <;> rfl
  · rw [if_neg (eqF h3), if_neg h3]
    by_cases h4 : x.kind = 4
    · rw [if_pos (eqT h4), if_pos h4]
      have e : (h &&& ~~~(one x.arg)).getLsbD lock = (h.getLsbD lock && ((lock : Int) != x.arg)) := by
        rw [BitVec.getLsbD_and, BitVec.getLsbD_not, decide_eq_true hlk, Bool.true_and]
        congr 1
        have : (one x.arg).getLsbD lock = ((lock : Int) == x.arg) := by
          rw [Bool.eq_iff_iff, one_bit, beq_iff_eq]
          exact ⟨fun h => h.1.symm, fun h => ⟨h.symm, hlk⟩⟩
        rw [this]
        rfl
      rw [e]
      cases h.getLsbD lock <;> rfl
    · rw [if_neg (eqF h4), if_neg h4]
      by_cases h7 : x.kind = 7
      · obtain ⟨a1, a2⟩ := hx h7
        obtain ⟨c, hcc⟩ : ∃ c : Nat, x.arg = (c : Int) := ⟨_, (Int.toNat_of_nonneg a1).symm⟩
        obtain ⟨t, t1, t2, t3⟩ := refgather_eq p hg c (by omega) 4 4
        obtain ⟨g, g1, g2⟩ := refbehind_l10 t (by have := t2.length_le (by omega); omega) x.kind x.arg x.next x.alt l lock (h.getLsbD lock) t.length 0 false (by omega)
        rw [show ((0 : Nat) : Int) = 0 from rfl] at g1
        rw [List.drop_zero] at g2
        have hgu : g = (List.getD u c 0#32).getLsbD lock := by
          rw [Bool.eq_iff_iff, g2, t3, hk.ub c (by omega), mayU]
          simp
        rw [if_pos (eqT h7), if_pos h7, bind_some (show alibiref14_Gather p x.arg 4 4 = some t by rw [hcc]; exact t1), bind_some g1]
        have hex : alibiref03_Has (List.getD l c d_api_Section).exit (lock : Int) = some ((List.getD l c d_api_Section).exit.getLsbD lock) := by rw [refhas_eq, if_pos (by omega), Int.toNat_natCast]
        have e : ((h &&& ~~~(List.getD u x.arg.toNat 0#32)) ||| (List.getD l x.arg.toNat d_api_Section).exit).getLsbD lock = ((h.getLsbD lock && !g) || (List.getD l c d_api_Section).exit.getLsbD lock) := by
          rw [hcc, Int.toNat_natCast, BitVec.getLsbD_or, BitVec.getLsbD_and, BitVec.getLsbD_not, decide_eq_true hlk, Bool.true_and, hgu]
        rw [e]
        cases hb : h.getLsbD lock with
        | true =>
          rw [if_pos rfl]
          cases g with
          | true => rw [if_neg (by decide), if_pos (decide_eq_true a1), if_pos (decide_eq_true (by omega)), hcc, Int.toNat_natCast, bind_some hex]; simp
          | false => rw [if_pos (by decide)]; simp
        | false => rw [if_neg (by decide), if_pos (decide_eq_true a1), if_pos (decide_eq_true (by omega)), hcc, Int.toNat_natCast, bind_some hex]; simp
      · rw [if_neg (eqF h7), if_neg h7]
theorem refnode_l12 (p : api_Program) (hg : Good p) (l : List api_Section) (hl : l.length = p.funcs.length) {u : List W32} {fm : W32} (hk : Know p u fm) (f : Nat) (hf : f < p.funcs.length) (x : api_Node) (hx : x.kind = 7 → 0 ≤ x.arg ∧ x.arg < p.funcs.length) (h : W32) (js : List Int) (hjl : js.length ≤ 2) (hj : ∀ y ∈ js, 0 ≤ y ∧ y < ((List.getD l f d_api_Section).held.length : Int)) (k : Nat) (hkl : k < js.length) :
    ∀ (m i : Nat), i + m = 32 → ∃ c, alibiref15_Node_l12 js p.globals p.locks p.slots p.funcs x.kind x.arg x.next x.alt l (f : Int) h (k : Int) (i : Int) = some (if c = true then .x1 else .x0 3) ∧ (c = true ↔ ∀ b, i ≤ b → (hld l f js[k].toNat).getLsbD b = true → (bhd u l x h).getLsbD b = true)
  | 0, i, hi => by
    rw [alibiref15_Node_l12, if_neg (by simp only [decide_eq_true_eq]; omega)]
    exact ⟨true, rfl, ⟨fun _ b hb h1 => by have := bit_lt h1; omega, fun _ => rfl⟩⟩
  | m + 1, i, hi => by
    have hg0 : List.getD js k 0 = js[k] := by simp [List.getD, hkl]
    have hr := hj _ (List.getElem_mem hkl)
    obtain ⟨c, ih, hc⟩ := refnode_l12 p hg l hl hk f hf x hx h js hjl hj k hkl m (i + 1) (by omega)
    have eb : alibiref15_Behind (api_Program.mk p.globals p.locks p.slots p.funcs) l (api_Node.mk x.kind x.arg x.next x.alt) (i : Int) (h.getLsbD i) = some ((bhd u l x h).getLsbD i) := refbehind_eq p hg l hl hk x hx i (by omega) h
    rw [alibiref15_Node_l12, if_pos (decide_eq_true (by omega)), if_pos (decide_eq_true (by omega)), if_pos (decide_eq_true (by omega)), if_pos (decide_eq_true (by omega)), if_pos (decide_eq_true (by omega)), Int.toNat_natCast k, hg0, if_pos (decide_eq_true hr.1), Int.toNat_natCast f, if_pos (decide_eq_true hr.2), bind_some (show alibiref03_Has (List.getD (List.getD l f d_api_Section).held js[k].toNat 0#32) (i : Int) = some ((hld l f js[k].toNat).getLsbD i) by rw [refhas_eq, if_pos (by omega), Int.toNat_natCast]), inc i (by omega), ih]
    have skip : ((hld l f js[k].toNat).getLsbD i = true → (bhd u l x h).getLsbD i = true) → (c = true ↔ ∀ b, i ≤ b → (hld l f js[k].toNat).getLsbD b = true → (bhd u l x h).getLsbD b = true) := fun h0 => by
      rw [hc]
      exact ⟨fun h1 b hb ha => by
        rcases Nat.eq_or_lt_of_le hb with rfl | hb
        · exact h0 ha
        · exact h1 b hb ha, fun h1 b hb => h1 b (by omega)⟩
    by_cases ha : (hld l f js[k].toNat).getLsbD i = true
    · rw [if_pos ha, bind_some (show alibiref03_Has h (i : Int) = some (h.getLsbD i) by rw [refhas_eq, if_pos (by omega), Int.toNat_natCast]), bind_some eb]
      by_cases hb : (bhd u l x h).getLsbD i = true
      · rw [if_neg (by rw [hb]; decide)]
        exact ⟨c, rfl, skip fun _ => hb⟩
      · rw [if_pos (by simpa using hb)]
        exact ⟨false, rfl, ⟨(fun h => by cases h), fun h1 => absurd (h1 i (Nat.le_refl _) ha) hb⟩⟩
    · rw [if_neg ha]
      exact ⟨c, rfl, skip fun h => absurd h ha⟩
theorem refnode_l9 (p : api_Program) (hg : Good p) (l : List api_Section) (hl : l.length = p.funcs.length) {u : List W32} {fm : W32} (hk : Know p u fm) (f : Nat) (hf : f < p.funcs.length) (x : api_Node) (hx : x.kind = 7 → 0 ≤ x.arg ∧ x.arg < p.funcs.length) (h : W32) (js : List Int) (hjl : js.length ≤ 2) (hj : ∀ y ∈ js, 0 ≤ y ∧ y < ((List.getD l f d_api_Section).held.length : Int)) :
    ∀ (m k : Nat), k + m = js.length → alibiref15_Node_l9 js p.globals p.locks p.slots p.funcs x.kind x.arg x.next x.alt l (f : Int) h (k : Int) = some (if (js.drop k).all (fun y => subb (hld l f y.toNat) (bhd u l x h)) = true then .x1 else .x0 3)
  | 0, k, hi => by
    rw [alibiref15_Node_l9, if_neg (by simp only [decide_eq_true_eq]; omega), List.drop_eq_nil_of_le (by omega)]
    rfl
  | m + 1, k, hi => by
    have hlt : k < js.length := by omega
    obtain ⟨c, q1, q2⟩ := refnode_l12 p hg l hl hk f hf x hx h js hjl hj k hlt 32 0 rfl
    rw [show ((0 : Nat) : Int) = 0 from rfl] at q1
    have hcs : c = subb (hld l f js[k].toNat) (bhd u l x h) := by
      rw [Bool.eq_iff_iff, q2, subb_iff]
      exact ⟨fun h b => h b (Nat.zero_le _), fun h b _ => h b⟩
    rw [alibiref15_Node_l9, if_pos (decide_eq_true (by omega)), bind_some q1, inc k (by omega), refnode_l9 p hg l hl hk f hf x hx h js hjl hj m (k + 1) (by omega), all_cons_drop hlt, hcs]
    cases subb (hld l f js[k].toNat) (bhd u l x h) with
    | false => rfl
    | true => rfl
theorem refnode_eq (p : api_Program) (hg : Good p) (l : List api_Section) (hs : Shp p l) {u : List W32} {fm : W32} (hkn : Know p u fm) (f i : Nat) (hf : f < p.funcs.length) (hi : i < (List.getD p.funcs f []).length) : alibiref15_Node p l (f : Int) (i : Int) = some (nodeW p l u f i) := by
  have hl := hs.1
  have hh : (List.getD l f d_api_Section).held.length = (List.getD p.funcs f []).length := (hs.2 f hf).1
  have hok := hg.node f i hf hi
  have hc := hok.call
  have hcn : (nde p f i).kind = 7 → 0 ≤ (nde p f i).arg ∧ (nde p f i).arg < p.funcs.length := hok.call
  have hle := hg.le f
  have hjr := succ_ok hok (by omega)
  have h7 := refnode_l9 p hg l hl hkn f hf (nde p f i) hcn (hld l f i) (succ (nde p f i)) (succ_len _) (fun y hy => by have := hjr y hy; omega) (succ (nde p f i)).length 0 (by omega)
  rw [show ((0 : Nat) : Int) = 0 from rfl, List.drop_zero] at h7
  unfold alibiref15_Node
  rw [if_pos (decide_eq_true (by omega)), if_pos (decide_eq_true (by omega)), if_pos (decide_eq_true (by omega)), Int.toNat_natCast f, if_pos (decide_eq_true (by omega)), if_pos (decide_eq_true (by omega)), if_pos (decide_eq_true (by omega)), Int.toNat_natCast i]
  by_cases hk7 : (List.getD (List.getD p.funcs f []) i d_api_Node).kind = 7
  · have ha := hc hk7
    rw [if_pos (eqT hk7), if_pos (decide_eq_true ha.1), if_pos (decide_eq_true (by omega)), bind_some (refwithin_eq _ _)]
    by_cases he : subb (List.getD l (List.getD (List.getD p.funcs f []) i d_api_Node).arg.toNat d_api_Section).entry (List.getD (List.getD l f d_api_Section).held i 0#32) = true
    · rw [he, if_neg (by decide), if_neg (eqF (by omega)), bind_some (refsucc_eq _), bind_some h7, nodeW_r (fun _ => he) (fun h => absurd (hk7.symm.trans h) (by decide))]
      by_cases ha : (succ (nde p f i)).all (fun y => subb (hld l f y.toNat) (bhd u l (nde p f i) (hld l f i))) = true
      · rw [if_pos ha, if_pos ha]
      · rw [if_neg ha, if_neg ha]
    · rw [if_pos (by simpa using he), nodeW_5 hk7 he]
  · rw [if_neg (eqF hk7)]
    by_cases hk9 : (List.getD (List.getD p.funcs f []) i d_api_Node).kind = 9
    · rw [if_pos (eqT hk9), bind_some (refwithin_eq _ _)]
      by_cases he : subb (List.getD l f d_api_Section).exit (List.getD (List.getD l f d_api_Section).held i 0#32) = true
      · rw [he, if_neg (by decide), bind_some (refsucc_eq _), bind_some h7, nodeW_r (fun h => absurd h hk7) (fun _ => he)]
        by_cases ha : (succ (nde p f i)).all (fun y => subb (hld l f y.toNat) (bhd u l (nde p f i) (hld l f i))) = true
        · rw [if_pos ha, if_pos ha]
        · rw [if_neg ha, if_neg ha]
      · rw [if_pos (by simpa using he), nodeW_4 hk9 he]
    · rw [if_neg (eqF hk9), bind_some (refsucc_eq _), bind_some h7, nodeW_r (fun h => absurd h hk7) (fun h => absurd h hk9)]
      by_cases ha : (succ (nde p f i)).all (fun y => subb (hld l f y.toNat) (bhd u l (nde p f i) (hld l f i))) = true
      · rw [if_pos ha, if_pos ha]
      · rw [if_neg ha, if_neg ha]
theorem refcheck_l11 (p : api_Program) (hg : Good p) (l : List api_Section) (hs : Shp p l) {u : List W32} {fm : W32} (hkn : Know p u fm) (x4 x5 x6 : Int) (f : Nat) (hf : f < p.funcs.length) : ∀ (m i : Nat), i + m = (List.getD p.funcs f []).length → alibiref15_Check_l11 p.globals p.locks p.slots p.funcs x4 x5 x6 l (f : Int) (i : Int) = some (match findO (nodeO p l u f) i m with | some (k, w) => .x0 k w | none => .x1)
  | 0, i, h => by
    rw [alibiref15_Check_l11, if_pos (decide_eq_true (by omega)), if_pos (decide_eq_true (by omega)), Int.toNat_natCast, if_neg (by simp only [decide_eq_true_eq]; omega)]
    rfl
  | m + 1, i, h => by
    have hle := hg.le f
    have e := refnode_eq p hg l hs hkn f i hf (by omega)
    rw [alibiref15_Check_l11, if_pos (decide_eq_true (by omega)), if_pos (decide_eq_true (by omega)), Int.toNat_natCast, if_pos (decide_eq_true (by omega)), bind_some (show alibiref15_Node (api_Program.mk p.globals p.locks p.slots p.funcs) l (f : Int) (i : Int) = _ from e), inc i (by omega), refcheck_l11 p hg l hs hkn x4 x5 x6 f hf m (i + 1) (by omega), findO_succ]
    unfold nodeO
    by_cases h0 : nodeW p l u f i = 0
    · rw [if_neg (neF h0), if_pos h0]
    · rw [if_pos (neT h0), if_neg h0]
def r4 : Option (Nat × (Int × Int)) → alibiref15_Check_l4_R
  | some (f, (k, w)) => .x0 f k w
  | none => .x1
theorem refcheck_l4 (p : api_Program) (hg : Good p) (l : List api_Section) (hs : Shp p l) {u : List W32} {fm : W32} (hkn : Know p u fm) : ∀ (m f : Nat), f + m = l.length → alibiref15_Check_l4 p.globals p.locks p.slots p.funcs 0 0 0 l (f : Int) = some (r4 (findO (funcO p l u fm) f m))
  | 0, f, h => by rw [alibiref15_Check_l4, if_neg (by simp only [decide_eq_true_eq]; omega)]; rfl
  | m + 1, f, h => by
    have hl := hs.1
    have hn := hg.funcs.2
    have hh : (List.getD l f d_api_Section).held.length = (List.getD p.funcs f []).length := (hs.2 f (by omega)).1
    have hp := (hg.len f (by omega)).1
    have ih := refcheck_l4 p hg l hs hkn m (f + 1) (by omega)
    have h7 := refcheck_l11 p hg l hs hkn 0 0 0 f (by omega) (List.getD p.funcs f []).length 0 (by omega)
    rw [show ((0 : Nat) : Int) = 0 from rfl] at h7
    rw [alibiref15_Check_l4, if_pos (decide_eq_true (by omega)), inc f (by omega), ih, Int.toNat_natCast f]
    have rest : ∀ (y : Option alibiref15_Check_l4_R), (if decide ((0 : Int) < ((List.length ((List.getD l f d_api_Section).held) : Nat) : Int)) = true then bind (alibiref03_Within (List.getD ((List.getD l f d_api_Section).held) 0 (0#32)) ((List.getD l f d_api_Section).entry)) fun v => if (!v) = true then some (.x0 f (-1) 3) else y else none) = if subb (hld l f 0) (sec l f).entry = false then some (.x0 f (-1) 3) else y := fun y => by
      rw [if_pos (decide_eq_true (by omega)), bind_some (refwithin_eq _ _)]
      cases subb (hld l f 0) (sec l f).entry <;> rfl
    have fin : ∀ (G : alibiref15_Check_l11_R → Option alibiref15_Check_l4_R), (∀ a b, G (.x0 a b) = some (.x0 f a b)) → G .x1 = some (r4 (findO (funcO p l u fm) (f + 1) m)) → ¬ (fm.getLsbD f = true ∧ (sec l f).entry ≠ 0#32) → (if subb (hld l f 0) (sec l f).entry = false then some (.x0 f (-1) 3) else bind (alibiref15_Check_l11 p.globals p.locks p.slots p.funcs 0 0 0 l (f : Int) 0) G) =
        some (r4 (findO (funcO p l u fm) f (m + 1))) := by
      intro G hG0 hG1 hno
      rw [findO_succ]
      by_cases hsb : subb (hld l f 0) (sec l f).entry = false
      · have hO : funcO p l u fm f = some (-1, 3) := by
          unfold funcO
          rw [funcW_3 hno (by rw [hsb]; decide)]
          rfl
        rw [if_pos hsb, hO] <;> rfl
      · have hst : subb (hld l f 0) (sec l f).entry = true := by simpa using hsb
        rw [if_neg hsb, bind_some h7]
        cases hq : findO (nodeO p l u f) 0 (List.getD p.funcs f []).length with
        | none =>
          have hO : funcO p l u fm f = none := by
            unfold funcO
            rw [funcW_r hno hst, hq]
            rfl
          rw [hO]
          exact hG1
        | some z =>
          have hw : z.2 ≠ 0 := by
            have := (findO_some hq).2.2
            unfold nodeO at this
            split at this
            · cases this
            · rename_i h0
              rw [← Option.some.inj this]
              exact h0
          have hO : funcO p l u fm f = some ((z.1 : Int), z.2) := by
            unfold funcO
            rw [funcW_r hno hst, hq]
            exact if_neg hw
          rw [hO]
          exact hG0 z.1 z.2
    have two : fm.getLsbD f = true ∧ (sec l f).entry ≠ 0#32 → funcO p l u fm f = some (-1, 2) := fun h => by
      unfold funcO funcW
      rw [if_pos h]
      rfl
    by_cases h0 : f = 0
    · have hfm : fm.getLsbD f = true := (hkn.fb f (by omega)).2 (.inl h0)
      rw [if_pos (eqT (by omega)), if_pos (decide_eq_true (by omega)), if_pos (decide_eq_true (by omega))]
      by_cases he : (List.getD l f d_api_Section).entry = 0#32
      · rw [if_neg (by simpa using he)]
        exact (rest _).trans (fin _ (fun _ _ => rfl) rfl fun h => h.2 he)
      · rw [if_pos (by simpa using he), findO_succ, two ⟨hfm, he⟩] <;> rfl
    · obtain ⟨b, b1, b2⟩ := refbegun_eq p hg f (by omega)
      rw [if_neg (eqF (by omega)), bind_some (show alibiref15_Begun (api_Program.mk p.globals p.locks p.slots p.funcs) (f : Int) = some b from b1)]
      by_cases hb : b = true
      · have hfm : fm.getLsbD f = true := (hkn.fb f (by omega)).2 (.inr (b2.1 hb))
        rw [if_pos hb, if_pos (decide_eq_true (by omega)), if_pos (decide_eq_true (by omega))]
        by_cases he : (List.getD l f d_api_Section).entry = 0#32
        · rw [if_neg (by simpa using he)]
          exact (rest _).trans (fin _ (fun _ _ => rfl) rfl fun h => h.2 he)
        · rw [if_pos (by simpa using he), findO_succ, two ⟨hfm, he⟩] <;> rfl
      · have hfm : ¬ fm.getLsbD f = true := fun h => ((hkn.fb f (by omega)).1 h).elim h0 fun h => hb (b2.2 h)
        rw [if_neg hb, if_pos (decide_eq_true (by omega)), if_pos (decide_eq_true (by omega))]
        exact (rest _).trans (fin _ (fun _ _ => rfl) rfl fun h => hfm h.1)
theorem refcheck_eq (p : api_Program) (hg : Good p) (l : List api_Section) {u : List W32} {fm : W32} (hkn : Know p u fm) : (Shp p l → alibiref15_Check p l = some (checkW p l u fm)) ∧ (¬ Shp p l → alibiref15_Check p l = some ⟨-1, -1, 1⟩) := by
  have hn := hg.funcs.2
  obtain ⟨b, _, b1, b2⟩ := shaped_eq p l (by omega)
  refine ⟨fun hs => ?_, fun hs => ?_⟩
  · have hb := b2.2 hs
    have h4 := refcheck_l4 p hg l hs hkn l.length 0 (by omega)
    rw [show ((0 : Nat) : Int) = 0 from rfl] at h4
    unfold alibiref15_Check
    rw [bind_some b1, hb, if_neg (by decide), bind_some h4]
    unfold checkW
    cases findO (funcO p l u fm) 0 l.length with
    | some y => rfl
    | none => rfl
  · have hb : b = false := by
      cases b with
      | false => rfl
      | true => exact absurd (b2.1 rfl) hs
    unfold alibiref15_Check
    rw [bind_some b1, hb, if_pos (by decide)]
end Go.Bm.GoYtldkmmnffjdliaa
