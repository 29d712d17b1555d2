/- Sections: who may live; the program's checks and the document's; the laws MayChecks, MayMore, MayMeet. -/
import Derived.Test.YtldkmmnffjdliaaYLawSec
namespace Go.Bm.GoYtldkmmnffjdliaa
set_option autoImplicit false
set_option linter.unusedVariables false
set_option linter.unusedSimpArgs false
set_option maxRecDepth 100000
abbrev liv (l : List api_Section) (f i : Nat) : W32 := List.getD (sec l f).live i 0#32
def hasb (m : W32) (id : Int) : Bool := if 0 ≤ id ∧ id < 32 then m.getLsbD id.toNat else false
theorem hasb_nat (m : W32) {k : Nat} (hk : k < 32) : hasb m (k : Int) = m.getLsbD k := by
  unfold hasb
  rw [if_pos (by omega), Int.toNat_natCast]
theorem hasb_mono {a b : W32} (h : subb a b = true) {id : Int} (ha : hasb a id = true) : hasb b id = true := by
  unfold hasb at ha ⊢
  split at ha
  · rename_i c
    rw [if_pos c]
    exact subb_iff.1 h _ ha
  · cases ha
/-- Who may live behind a node. -/
def lbh (x : api_Node) (live exit : W32) (lost : Int) (bg : Bool) : W32 :=
  if x.kind = 5 then (live ||| one x.alt) ||| (if bg = true ∨ hasb live x.alt = true then one lost else 0#32)
  else if x.kind = 6 then live &&& ~~~(one x.arg) else if x.kind = 7 then exit else live
theorem lbh_bg {x : api_Node} (h : x.kind ≠ 5) (live exit : W32) (lost : Int) (b b' : Bool) : lbh x live exit lost b = lbh x live exit lost b' := by
  unfold lbh
  rw [if_neg h, if_neg h]
theorem may_behind_eq (x : api_Node) (live exit : W32) (lost : Int) (bg : Bool) : may_Behind x live exit lost bg = some (lbh x live exit lost bg) := by
  unfold may_Behind lbh
  by_cases h5 : x.kind = 5
  · rw [if_pos (eqT h5), if_pos h5, bind_some (one_eq _)]
    by_cases hb : bg = true
    · rw [if_pos hb, if_pos (.inl hb), bind_some (one_eq _)]
    · rw [if_neg hb, bind_some (show sets_Has live x.alt = some (hasb live x.alt) from has_eq _ _)]
      by_cases hh : hasb live x.alt = true
      · rw [if_pos hh, if_pos (.inr hh), bind_some (one_eq _)]
      · rw [if_neg hh, if_neg (fun h => h.elim hb hh), BitVec.or_zero]
  · rw [if_neg (eqF h5), if_neg h5]
    by_cases h6 : x.kind = 6
    · rw [if_pos (eqT h6), if_pos h6, bind_some (one_eq _)]
    · rw [if_neg (eqF h6), if_neg h6]
      by_cases h7 : x.kind = 7
      · rw [if_pos (eqT h7), if_pos h7]
      · rw [if_neg (eqF h7), if_neg h7]
theorem one_bitb (id : Int) {k : Nat} (hk : k < 32) : (one id).getLsbD k = ((k : Int) == id) := by
  rw [Bool.eq_iff_iff, one_bit, beq_iff_eq]
  exact ⟨fun h => h.1.symm, fun h => ⟨h.symm, hk⟩⟩
theorem refbehind16_eq (x : api_Node) (live exit : W32) (lost : Int) (bg : Bool) (k : Nat) (hk : k < 32) : alibiref16_Behind x live exit lost bg (k : Int) = some ((lbh x live exit lost bg).getLsbD k) := by
  unfold alibiref16_Behind lbh
  rw [bind_some (show alibiref03_Has live (k : Int) = some (live.getLsbD k) by rw [refhas_eq, if_pos (by omega), Int.toNat_natCast])]
  by_cases h5 : x.kind = 5
  · rw [if_pos (eqT h5), if_pos h5, BitVec.getLsbD_or, BitVec.getLsbD_or, one_bitb _ hk]
    cases hl : live.getLsbD k with
    | true => rw [if_pos rfl]; simp
    | false =>
      rw [if_neg (by decide)]
      by_cases ha : (k : Int) = x.alt
      · rw [if_pos (eqT ha), show ((k : Int) == x.alt) = true from eqT ha]; simp
      · have hab : ((k : Int) == x.alt) = false := by simpa using ha
        rw [if_neg (eqF ha), hab]
        by_cases hlo : (k : Int) = lost
        · rw [if_pos (eqT hlo)]
          have h1 : (one lost).getLsbD k = true := by rw [one_bitb _ hk]; exact eqT hlo
          by_cases hb : bg = true
          · rw [if_pos hb, if_pos (.inl hb), h1]; rfl
          · rw [if_neg hb, bind_some (show alibiref03_Has live x.alt = some (hasb live x.alt) from refhas_eq _ _)]
            by_cases hh : hasb live x.alt = true
            · rw [if_pos (.inr hh), h1, hh]; rfl
            · rw [if_neg (fun h => h.elim hb hh)]
              have : hasb live x.alt = false := by simpa using hh
              rw [this]; simp
        · rw [if_neg (eqF hlo)]
          have h1 : (one lost).getLsbD k = false := by rw [one_bitb _ hk]; simpa using hlo
          split
          · rw [h1]; rfl
          · simp
  · rw [if_neg (eqF h5), if_neg h5]
    by_cases h6 : x.kind = 6
    · rw [if_pos (eqT h6), if_pos h6, BitVec.getLsbD_and, BitVec.getLsbD_not, decide_eq_true hk, Bool.true_and, one_bitb _ hk]
      cases live.getLsbD k with
      | true => rfl
      | false => rfl
    · rw [if_neg (eqF h6), if_neg h6]
      by_cases h7 : x.kind = 7
      · rw [if_pos (eqT h7), if_pos h7, bind_some (show alibiref03_Has exit (k : Int) = some (exit.getLsbD k) by rw [refhas_eq, if_pos (by omega), Int.toNat_natCast])]
      · rw [if_neg (eqF h7), if_neg h7]
theorem all_cons_drop {js : List Int} {k : Nat} (hk : k < js.length) (q : Int → Bool) : (js.drop k).all q = (q js[k] && (js.drop (k + 1)).all q) := by
  rw [List.drop_eq_getElem_cons hk, List.all_cons]
theorem may_l15 (p : api_Program) (l : List api_Section) (bg : W32) (f : Nat) (hf : f < l.length) (x : api_Node) (h e : W32) (js : List Int) (hjl : js.length ≤ 2) (hj : ∀ y ∈ js, 0 ≤ y ∧ y < ((List.getD l f d_api_Section).live.length : Int)) :
    ∀ (m k : Nat), k + m = js.length → may_checker_node_l15 js p.globals p.locks p.slots p.funcs l bg x.kind x.arg x.next x.alt (f : Int) h e (js.length : Int) (k : Int) = some (if (js.drop k).all (fun y => subb (lbh x h e p.slots (hasb bg x.arg)) (liv l f y.toNat)) = true then .x1 else .x0 6)
  | 0, k, hk => by
    rw [may_checker_node_l15, if_neg (by simp only [decide_eq_true_eq]; omega), List.drop_eq_nil_of_le (by omega)]
    rfl
  | m + 1, k, hk => by
    have hlt : k < js.length := by omega
    have hg : List.getD js k 0 = js[k] := by simp [List.getD, hlt]
    have hr := hj _ (List.getElem_mem hlt)
    rw [may_checker_node_l15, if_pos (decide_eq_true (by omega)), if_pos (decide_eq_true (by omega)), if_pos (decide_eq_true (by omega)), bind_some (show may_Lost (api_Program.mk p.globals p.locks p.slots p.funcs) = some p.slots from rfl), bind_some (show sets_Has bg x.arg = some (hasb bg x.arg) from has_eq _ _), bind_some (show may_Behind (api_Node.mk x.kind x.arg x.next x.alt) h e p.slots (hasb bg x.arg) = some (lbh x h e p.slots (hasb bg x.arg)) from may_behind_eq x h e p.slots (hasb bg x.arg)), if_pos (decide_eq_true (by omega)), if_pos (decide_eq_true (by omega)), Int.toNat_natCast k, hg, if_pos (decide_eq_true hr.1), Int.toNat_natCast f, if_pos (decide_eq_true hr.2), bind_some (within_eq2 _ _), inc k (by omega), may_l15 p l bg f hf x h e js hjl hj m (k + 1) (by omega), all_cons_drop hlt]
    cases hs : subb (lbh x h e p.slots (hasb bg x.arg)) (List.getD (List.getD l f d_api_Section).live js[k].toNat 0#32) with
    | false => rfl
    | true => rfl
def xit (l : List api_Section) (x : api_Node) : W32 := if x.kind = 7 then (List.getD l x.arg.toNat d_api_Section).liveExit else 0#32
/-- All that may live behind a node is told to, where it goes on. -/
def onL (p : api_Program) (l : List api_Section) (bg : W32) (f i : Nat) : Bool := (succ (nde p f i)).all fun y => subb (lbh (nde p f i) (liv l f i) (xit l (nde p f i)) p.slots (hasb bg (nde p f i).arg)) (liv l f y.toNat)
/-- What is wrong at a node. -/
def nodeL (p : api_Program) (l : List api_Section) (bg : W32) (f i : Nat) : Int :=
  if (nde p f i).kind = 7 ∧ subb (liv l f i) (sec l (nde p f i).arg.toNat).liveEntry = false then 6
  else if (nde p f i).kind = 9 ∧ subb (liv l f i) (sec l f).liveExit = false then 6
  else if (nde p f i).kind = 5 ∧ hasb (sec l (nde p f i).arg.toNat).liveEntry p.slots = false then 7
  else if onL p l bg f i = true then 0 else 6
section
variable {p : api_Program} {l : List api_Section} {bg : W32} {f i : Nat}
theorem onL_eq {e : W32} (hx : xit l (nde p f i) = e) : ((succ (nde p f i)).all fun y => subb (lbh (nde p f i) (liv l f i) e p.slots (hasb bg (nde p f i).arg)) (liv l f y.toNat)) = onL p l bg f i := by subst hx; rfl
theorem nodeL_7 (h : (nde p f i).kind = 7) (h2 : ¬ subb (liv l f i) (sec l (nde p f i).arg.toNat).liveEntry = true) : nodeL p l bg f i = 6 := if_pos ⟨h, by simpa using h2⟩
theorem nodeL_9 (h : (nde p f i).kind = 9) (h2 : ¬ subb (liv l f i) (sec l f).liveExit = true) : nodeL p l bg f i = 6 := by
  unfold nodeL
  rw [if_neg (by rintro ⟨h3, _⟩; exact absurd (h.symm.trans h3) (by decide)), if_pos ⟨h, by simpa using h2⟩]
theorem nodeL_5 (h : (nde p f i).kind = 5) (h2 : ¬ hasb (sec l (nde p f i).arg.toNat).liveEntry p.slots = true) : nodeL p l bg f i = 7 := by
  unfold nodeL
  rw [if_neg (by rintro ⟨h3, _⟩; exact absurd (h.symm.trans h3) (by decide)), if_neg (by rintro ⟨h3, _⟩; exact absurd (h.symm.trans h3) (by decide)), if_pos ⟨h, by simpa using h2⟩]
theorem nodeL_r (h7 : (nde p f i).kind = 7 → subb (liv l f i) (sec l (nde p f i).arg.toNat).liveEntry = true) (h9 : (nde p f i).kind = 9 → subb (liv l f i) (sec l f).liveExit = true) (h5 : (nde p f i).kind = 5 → hasb (sec l (nde p f i).arg.toNat).liveEntry p.slots = true) : nodeL p l bg f i = if onL p l bg f i = true then 0 else 6 := by
  unfold nodeL
  rw [if_neg (by rintro ⟨h3, h4⟩; rw [h7 h3] at h4; cases h4), if_neg (by rintro ⟨h3, h4⟩; rw [h9 h3] at h4; cases h4), if_neg (by rintro ⟨h3, h4⟩; rw [h5 h3] at h4; cases h4)]
theorem nodeL_zero (h : nodeL p l bg f i = 0) : ((nde p f i).kind = 7 → subb (liv l f i) (sec l (nde p f i).arg.toNat).liveEntry = true) ∧ ((nde p f i).kind = 9 → subb (liv l f i) (sec l f).liveExit = true) ∧ ((nde p f i).kind = 5 → hasb (sec l (nde p f i).arg.toNat).liveEntry p.slots = true) ∧ onL p l bg f i = true := by
  have h7 : (nde p f i).kind = 7 → subb (liv l f i) (sec l (nde p f i).arg.toNat).liveEntry = true := fun hk => by
    cases hs : subb (liv l f i) (sec l (nde p f i).arg.toNat).liveEntry with
    | true => rfl
    | false => rw [nodeL_7 hk (by rw [hs]; decide)] at h; cases h
  have h9 : (nde p f i).kind = 9 → subb (liv l f i) (sec l f).liveExit = true := fun hk => by
    cases hs : subb (liv l f i) (sec l f).liveExit with
    | true => rfl
    | false => rw [nodeL_9 hk (by rw [hs]; decide)] at h; cases h
  have h5 : (nde p f i).kind = 5 → hasb (sec l (nde p f i).arg.toNat).liveEntry p.slots = true := fun hk => by
    cases hs : hasb (sec l (nde p f i).arg.toNat).liveEntry p.slots with
    | true => rfl
    | false => rw [nodeL_5 hk (by rw [hs]; decide)] at h; cases h
  refine ⟨h7, h9, h5, ?_⟩
  rw [nodeL_r h7 h9 h5] at h
  split at h
  · assumption
  · cases h
end
theorem may_node (p : api_Program) (hg : Good p) (l : List api_Section) (hs : Shp p l) (bg : W32) (f i : Nat) (hf : f < p.funcs.length) (hi : i < (List.getD p.funcs f []).length) : may_checker_node ⟨p, l, bg⟩ (f : Int) (i : Int) = some (nodeL p l bg f i) := by
  have hl := hs.1
  have hh : (List.getD l f d_api_Section).live.length = (List.getD p.funcs f []).length := (hs.2 f hf).2
  have hok := hg.node f i hf hi
  have hc := hok.call
  have hsp := hok.spawn
  have hle := hg.le f
  have hjr := succ_ok hok (by omega)
  have h15 : ∀ e, may_checker_node_l15 (succ (nde p f i)) p.globals p.locks p.slots p.funcs l bg (nde p f i).kind (nde p f i).arg (nde p f i).next (nde p f i).alt (f : Int) (liv l f i) e ((succ (nde p f i)).length : Int) 0 = some (if (succ (nde p f i)).all (fun y => subb (lbh (nde p f i) (liv l f i) e p.slots (hasb bg (nde p f i).arg)) (liv l f y.toNat)) = true then .x1 else .x0 6) := fun e => by
    have := may_l15 p l bg f (by omega) (nde p f i) (liv l f i) e (succ (nde p f i)) (succ_len _) (fun y hy => by have := hjr y hy; omega) (succ (nde p f i)).length 0 (by omega)
    rw [show ((0 : Nat) : Int) = 0 from rfl, List.drop_zero] at this
    exact this
  unfold may_checker_node
  dsimp only
  rw [if_pos (decide_eq_true (by omega)), if_pos (decide_eq_true (by omega)), if_pos (decide_eq_true (by omega)), Int.toNat_natCast f, if_pos (decide_eq_true (by omega)), if_pos (decide_eq_true (by omega)), if_pos (decide_eq_true (by omega)), Int.toNat_natCast i]
  by_cases hk7 : (List.getD (List.getD p.funcs f []) i d_api_Node).kind = 7
  · have ha := hc hk7
    have hx : xit l (nde p f i) = (List.getD l (List.getD (List.getD p.funcs f []) i d_api_Node).arg.toNat d_api_Section).liveExit := if_pos hk7
    rw [if_pos (eqT hk7), if_pos (decide_eq_true ha.1), if_pos (decide_eq_true (by omega)), bind_some (within_eq2 _ _)]
    by_cases he : subb (List.getD (List.getD l f d_api_Section).live i 0#32) (List.getD l (List.getD (List.getD p.funcs f []) i d_api_Node).arg.toNat d_api_Section).liveEntry = true
    · rw [he, if_neg (by decide), bind_some (succ_eq _), bind_some (h15 _), nodeL_r (fun _ => he) (fun h => absurd (hk7.symm.trans h) (by decide)) (fun h => absurd (hk7.symm.trans h) (by decide)), onL_eq hx]
      by_cases ho : onL p l bg f i = true
      · rw [if_pos ho, if_pos ho]
      · rw [if_neg ho, if_neg ho]
    · rw [if_pos (by simpa using he), nodeL_7 hk7 he]
  · have hx : xit l (nde p f i) = 0#32 := if_neg hk7
    rw [if_neg (eqF hk7)]
    by_cases hk9 : (List.getD (List.getD p.funcs f []) i d_api_Node).kind = 9
    · rw [if_pos (eqT hk9), bind_some (within_eq2 _ _)]
      by_cases he : subb (List.getD (List.getD l f d_api_Section).live i 0#32) (List.getD l f d_api_Section).liveExit = true
      · rw [he, if_neg (by decide), bind_some (succ_eq _), bind_some (h15 _), nodeL_r (fun h => absurd h hk7) (fun _ => he) (fun h => absurd (hk9.symm.trans h) (by decide)), onL_eq hx]
        by_cases ho : onL p l bg f i = true
        · rw [if_pos ho, if_pos ho]
        · rw [if_neg ho, if_neg ho]
      · rw [if_pos (by simpa using he), nodeL_9 hk9 he]
    · rw [if_neg (eqF hk9)]
      by_cases hk5 : (List.getD (List.getD p.funcs f []) i d_api_Node).kind = 5
      · have ha := hsp hk5
        rw [if_pos (eqT hk5), if_pos (decide_eq_true ha.1), if_pos (decide_eq_true (by omega)), bind_some (show may_Lost p = some p.slots from rfl), bind_some (show sets_Has _ p.slots = some (hasb _ p.slots) from has_eq _ _)]
        by_cases he : hasb (List.getD l (List.getD (List.getD p.funcs f []) i d_api_Node).arg.toNat d_api_Section).liveEntry p.slots = true
        · rw [he, if_neg (by decide), bind_some (succ_eq _), bind_some (h15 _), nodeL_r (fun h => absurd h hk7) (fun h => absurd h hk9) (fun _ => he), onL_eq hx]
          by_cases ho : onL p l bg f i = true
          · rw [if_pos ho, if_pos ho]
          · rw [if_neg ho, if_neg ho]
        · rw [if_pos (by simpa using he), nodeL_5 hk5 he]
      · rw [if_neg (eqF hk5), bind_some (succ_eq _), bind_some (h15 _), nodeL_r (fun h => absurd h hk7) (fun h => absurd h hk9) (fun h => absurd h hk5), onL_eq hx]
        by_cases ho : onL p l bg f i = true
        · rw [if_pos ho, if_pos ho]
        · rw [if_neg ho, if_neg ho]
def nodeLO (p : api_Program) (l : List api_Section) (bg : W32) (f i : Nat) : Option Int := if nodeL p l bg f i = 0 then none else some (nodeL p l bg f i)
def m13 : Option (Nat × Int) → may_Check_l13_R
  | some (k, w) => .x0 k w 0
  | none => .x1
theorem may_l13 (p : api_Program) (hg : Good p) (l : List api_Section) (hs : Shp p l) (bg : W32) (f : Nat) (hf : f < p.funcs.length) (x4 x5 x6 : Int) (x14 : List api_Section) (x15 x16 : Int) : ∀ (m i : Nat), i + m = (List.getD p.funcs f []).length → may_Check_l13 p.globals p.locks p.slots p.funcs x4 x5 x6 p.globals p.locks p.slots p.funcs l bg (f : Int) x14 x15 x16 ((List.getD p.funcs f []).length : Int) (i : Int) = some (m13 (findO (nodeLO p l bg f) i m))
  | 0, i, h => by rw [may_Check_l13, if_neg (by simp only [decide_eq_true_eq]; omega)]; rfl
  | m + 1, i, h => by
    have hle := hg.le f
    have e := may_node p hg l hs bg f i hf (by omega)
    rw [may_Check_l13, if_pos (decide_eq_true (by omega)), bind_some (show may_checker_node (may_checker.mk (api_Program.mk p.globals p.locks p.slots p.funcs) l bg) (f : Int) (i : Int) = _ from e), inc i (by omega), may_l13 p hg l hs bg f hf x4 x5 x6 x14 x15 x16 m (i + 1) (by omega), findO_succ]
    unfold nodeLO
    by_cases h0 : nodeL p l bg f i = 0
    · rw [if_neg (neF h0), if_pos h0]
    · rw [if_pos (neT h0), if_neg h0]
      rfl
/-- What is wrong in a function first. -/
def funcLO (p : api_Program) (l : List api_Section) (bg : W32) (f : Nat) : Option (Int × Int) :=
  if subb (sec l f).liveEntry (liv l f 0) = false then some (-1, 6) else (findO (nodeLO p l bg f) 0 (List.getD p.funcs f []).length).map fun x => ((x.1 : Int), x.2)
def m8 : Option (Nat × (Int × Int)) → may_Check_l8_R
  | some (f, (k, w)) => .x0 f k w 0
  | none => .x1
theorem may_l8 (p : api_Program) (hg : Good p) (l : List api_Section) (hs : Shp p l) (bg : W32) : ∀ (m f : Nat), f + m = l.length → may_Check_l8 p.globals p.locks p.slots p.funcs 0 0 0 p.globals p.locks p.slots p.funcs l bg l (l.length : Int) (f : Int) = some (m8 (findO (funcLO p l bg) f m))
  | 0, f, h => by rw [may_Check_l8, if_neg (by simp only [decide_eq_true_eq]; omega)]; rfl
  | m + 1, f, h => by
    have hl := hs.1
    have hn := hg.funcs.2
    have hh : (List.getD l f d_api_Section).live.length = (List.getD p.funcs f []).length := (hs.2 f (by omega)).2
    have hp := (hg.len f (by omega)).1
    have h13 := may_l13 p hg l hs bg f (by omega) 0 0 0 l (l.length : Int) (f : Int) (List.getD p.funcs f []).length 0 (by omega)
    rw [show ((0 : Nat) : Int) = 0 from rfl] at h13
    rw [may_Check_l8, if_pos (decide_eq_true (by omega)), if_pos (decide_eq_true (by omega)), if_pos (decide_eq_true (by omega)), Int.toNat_natCast f, if_pos (decide_eq_true (by omega)), bind_some (within_eq2 _ _), inc f (by omega), may_l8 p hg l hs bg m (f + 1) (by omega), findO_succ]
    by_cases hsb : subb (List.getD l f d_api_Section).liveEntry (List.getD (List.getD l f d_api_Section).live 0 0#32) = true
    · have hO : funcLO p l bg f = (findO (nodeLO p l bg f) 0 (List.getD p.funcs f []).length).map fun x => ((x.1 : Int), x.2) := if_neg (by intro h; exact absurd (hsb.symm.trans h) (by decide))
      rw [hsb, if_neg (by decide), if_pos (decide_eq_true (by omega)), bind_some h13, hO]
      cases findO (nodeLO p l bg f) 0 (List.getD p.funcs f []).length with
      | none => rfl
      | some z => rfl
    · have hO : funcLO p l bg f = some (-1, 6) := if_pos (by simpa using hsb)
      rw [if_pos (by simpa using hsb), hO] <;> rfl
def checkL (p : api_Program) (l : List api_Section) (bg : W32) : api_Fault := match findO (funcLO p l bg) 0 l.length with | some (f, (k, w)) => ⟨f, k, w⟩ | none => ⟨0, 0, 0⟩
def KnowL (p : api_Program) (bg : W32) : Prop := ∀ b, bg.getLsbD b = true ↔ b < p.funcs.length ∧ Spawns p.funcs b
theorem may_good (p : api_Program) (hg : Good p) (hk : prog_Check p = some (0, 0, 0)) : ∃ bg, KnowL p bg ∧ (∀ l, Shp p l → may_Check p l = some (checkL p l bg, 0)) ∧ ∀ l, ¬ Shp p l → may_Check p l = some (⟨-1, -1, 1⟩, 0) := by
  have hn := hg.funcs.2
  obtain ⟨bg, u1, u2⟩ := begins_eq p hg hk
  refine ⟨bg, u2, fun l hs => ?_, fun l hs => ?_⟩
  · obtain ⟨b, b1, _, b2⟩ := shaped_eq p l (by omega)
    have hb := b2.2 hs
    have h8 := may_l8 p hg l hs bg l.length 0 (by omega)
    rw [show ((0 : Nat) : Int) = 0 from rfl] at h8
    unfold may_Check
    rw [bind_some u1, if_neg (show ¬ ((0 : Int) != 0) = true by decide), bind_some b1, hb, if_neg (by decide), bind_some h8]
    unfold checkL
    cases findO (funcLO p l bg) 0 l.length with
    | some y => rfl
    | none => rfl
  · obtain ⟨b, b1, _, b2⟩ := shaped_eq p l (by omega)
    have hb : b = false := by
      cases b with
      | false => rfl
      | true => exact absurd (b2.1 rfl) hs
    unfold may_Check
    rw [bind_some u1, if_neg (show ¬ ((0 : Int) != 0) = true by decide), bind_some b1, hb, if_pos (by decide)]
theorem may_bad (p : api_Program) {a b e : Int} (hk : prog_Check p = some (a, b, e)) (he : e ≠ 0) (l : List api_Section) : may_Check p l = some (⟨0, 0, 0⟩, e) := by
  unfold may_Check
  rw [bind_some (begins_bad p hk he), if_pos (neT he)]
/-! ### the document's -/
theorem gather5 (p : api_Program) (hg : Good p) (f : Nat) (hf : f < p.funcs.length) : ∃ t, alibiref14_Gather p (f : Int) 5 5 = some t ∧ (t.length > 0 ↔ Spawns p.funcs f) := by
  have hn := hg.funcs.2
  obtain ⟨c1, c2, c3, c4⟩ := refgather_eq p hg f hf 5 5
  refine ⟨c1, c2, ?_⟩
  constructor
  · intro hl
    cases c1 with
    | nil => simp at hl
    | cons y ys =>
      have h0 := c3.nat y (by simp)
      obtain ⟨b, rfl⟩ : ∃ b : Nat, y = (b : Int) := ⟨y.toNat, by omega⟩
      obtain ⟨_, g, g1, j, g2, g3, g4⟩ := (c4 b).1 (by simp)
      exact ⟨g, g1, j, g2, g3.elim (fun x => x) fun x => x⟩
  · rintro ⟨g, g1, j, g2, g3⟩
    have hgn : g < p.funcs.length := path_closed (S := fun x => x < p.funcs.length) (fun x _ y e => (e.lt hg.calls).2) g1 hf
    have harg := (hg.node g j hgn g2).spawn g3
    obtain ⟨b, hb⟩ : ∃ b : Nat, (List.getD (List.getD p.funcs g []) j d_api_Node).arg = (b : Int) := ⟨_, (Int.toNat_of_nonneg harg.1).symm⟩
    have := (c4 b).2 ⟨by omega, g, g1, j, g2, .inl g3, hb⟩
    exact List.length_pos_of_mem this
theorem refnode16_l20 (p : api_Program) (l : List api_Section) (f : Nat) (hf : f < l.length) (x : api_Node) (h e : W32) (bb : Bool) (js : List Int) (hjl : js.length ≤ 2) (hj : ∀ y ∈ js, 0 ≤ y ∧ y < ((List.getD l f d_api_Section).live.length : Int)) (k : Nat) (hkl : k < js.length) :
    ∀ (m i : Nat), i + m = 32 → ∃ c, alibiref16_Node_l20 js p.globals p.locks p.slots p.funcs x.kind x.arg x.next x.alt l (f : Int) h e bb (k : Int) (i : Int) = some (if c = true then .x1 else .x0 6) ∧ (c = true ↔ ∀ b, i ≤ b → (lbh x h e p.slots bb).getLsbD b = true → (liv l f js[k].toNat).getLsbD b = true)
  | 0, i, hi => by
    rw [alibiref16_Node_l20, if_neg (by simp only [decide_eq_true_eq]; omega)]
    exact ⟨true, rfl, ⟨fun _ b hb h1 => by have := bit_lt h1; omega, fun _ => rfl⟩⟩
  | m + 1, i, hi => by
    have hg0 : List.getD js k 0 = js[k] := by simp [List.getD, hkl]
    have hr := hj _ (List.getElem_mem hkl)
    obtain ⟨c, ih, hc⟩ := refnode16_l20 p l f hf x h e bb js hjl hj k hkl m (i + 1) (by omega)
    have skip : ((lbh x h e p.slots bb).getLsbD i = true → (liv l f js[k].toNat).getLsbD i = true) → (c = true ↔ ∀ b, i ≤ b → (lbh x h e p.slots bb).getLsbD b = true → (liv l f js[k].toNat).getLsbD b = true) := fun h0 => by
      rw [hc]
      exact ⟨fun h1 b hb ha => by
        rcases Nat.eq_or_lt_of_le hb with rfl | hb
        · exact h0 ha
        · exact h1 b hb ha, fun h1 b hb => h1 b (by omega)⟩
    rw [alibiref16_Node_l20, if_pos (decide_eq_true (by omega)), bind_some (show alibiref16_Behind (api_Node.mk x.kind x.arg x.next x.alt) h e p.slots bb (i : Int) = some ((lbh x h e p.slots bb).getLsbD i) from refbehind16_eq x h e p.slots bb i (by omega)), inc i (by omega), ih]
    by_cases ha : (lbh x h e p.slots bb).getLsbD i = true
    · rw [if_pos ha, if_pos (decide_eq_true (by omega)), if_pos (decide_eq_true (by omega)), if_pos (decide_eq_true (by omega)), if_pos (decide_eq_true (by omega)), Int.toNat_natCast k, hg0, if_pos (decide_eq_true hr.1), Int.toNat_natCast f, if_pos (decide_eq_true hr.2), bind_some (show alibiref03_Has (List.getD (List.getD l f d_api_Section).live js[k].toNat 0#32) (i : Int) = some ((liv l f js[k].toNat).getLsbD i) by rw [refhas_eq, if_pos (by omega), Int.toNat_natCast])]
      by_cases hb : (liv l f js[k].toNat).getLsbD i = true
      · rw [if_neg (by rw [hb]; decide)]
        exact ⟨c, rfl, skip fun _ => hb⟩
      · rw [if_pos (by simpa using hb)]
        exact ⟨false, rfl, ⟨(fun h => by cases h), fun h1 => absurd (h1 i (Nat.le_refl _) ha) hb⟩⟩
    · rw [if_neg ha]
      exact ⟨c, rfl, skip fun h => absurd h ha⟩
theorem refnode16_l17 (p : api_Program) (l : List api_Section) (f : Nat) (hf : f < l.length) (x : api_Node) (h e : W32) (bb : Bool) (js : List Int) (hjl : js.length ≤ 2) (hj : ∀ y ∈ js, 0 ≤ y ∧ y < ((List.getD l f d_api_Section).live.length : Int)) :
    ∀ (m k : Nat), k + m = js.length → alibiref16_Node_l17 js p.globals p.locks p.slots p.funcs x.kind x.arg x.next x.alt l (f : Int) h e bb (k : Int) = some (if (js.drop k).all (fun y => subb (lbh x h e p.slots bb) (liv l f y.toNat)) = true then .x1 else .x0 6)
  | 0, k, hi => by
    rw [alibiref16_Node_l17, if_neg (by simp only [decide_eq_true_eq]; omega), List.drop_eq_nil_of_le (by omega)]
    rfl
  | m + 1, k, hi => by
    have hlt : k < js.length := by omega
    obtain ⟨c, q1, q2⟩ := refnode16_l20 p l f hf x h e bb js hjl hj k hlt 32 0 rfl
    rw [show ((0 : Nat) : Int) = 0 from rfl] at q1
    have hcs : c = subb (lbh x h e p.slots bb) (liv l f js[k].toNat) := by
      rw [Bool.eq_iff_iff, q2, subb_iff]
      exact ⟨fun h b => h b (Nat.zero_le _), fun h b _ => h b⟩
    rw [alibiref16_Node_l17, if_pos (decide_eq_true (by omega)), bind_some q1, inc k (by omega), refnode16_l17 p l f hf x h e bb js hjl hj m (k + 1) (by omega), all_cons_drop hlt, hcs]
    cases subb (lbh x h e p.slots bb) (liv l f js[k].toNat) with
    | false => rfl
    | true => rfl
theorem refnode16_eq (p : api_Program) (hg : Good p) (l : List api_Section) (hs : Shp p l) {bg : W32} (hkn : KnowL p bg) (f i : Nat) (hf : f < p.funcs.length) (hi : i < (List.getD p.funcs f []).length) : alibiref16_Node p l (f : Int) (i : Int) = some (nodeL p l bg f i) := by
  have hl := hs.1
  have hn := hg.funcs.2
  have hh : (List.getD l f d_api_Section).live.length = (List.getD p.funcs f []).length := (hs.2 f hf).2
  have hok := hg.node f i hf hi
  have hc := hok.call
  have hsp := hok.spawn
  have hle := hg.le f
  have hjr := succ_ok hok (by omega)
  have h17 : ∀ e bb, alibiref16_Node_l17 (succ (nde p f i)) p.globals p.locks p.slots p.funcs (nde p f i).kind (nde p f i).arg (nde p f i).next (nde p f i).alt l (f : Int) (liv l f i) e bb 0 = some (if (succ (nde p f i)).all (fun y => subb (lbh (nde p f i) (liv l f i) e p.slots bb) (liv l f y.toNat)) = true then .x1 else .x0 6) := fun e bb => by
    have := refnode16_l17 p l f (by omega) (nde p f i) (liv l f i) e bb (succ (nde p f i)) (succ_len _) (fun y hy => by have := hjr y hy; omega) (succ (nde p f i)).length 0 (by omega)
    rw [show ((0 : Nat) : Int) = 0 from rfl, List.drop_zero] at this
    exact this
  have hbn : ∀ b, (nde p f i).kind ≠ 5 → ∀ e, (succ (nde p f i)).all (fun y => subb (lbh (nde p f i) (liv l f i) e p.slots b) (liv l f y.toNat)) = (succ (nde p f i)).all (fun y => subb (lbh (nde p f i) (liv l f i) e p.slots (hasb bg (nde p f i).arg)) (liv l f y.toNat)) := fun b hk e => by
    rw [lbh_bg hk (liv l f i) e p.slots b (hasb bg (nde p f i).arg)]
  unfold alibiref16_Node
  rw [if_pos (decide_eq_true (by omega)), if_pos (decide_eq_true (by omega)), if_pos (decide_eq_true (by omega)), Int.toNat_natCast f, if_pos (decide_eq_true (by omega)), if_pos (decide_eq_true (by omega)), if_pos (decide_eq_true (by omega)), Int.toNat_natCast i]
  by_cases hk7 : (List.getD (List.getD p.funcs f []) i d_api_Node).kind = 7
  · have ha := hc hk7
    have hx : xit l (nde p f i) = (List.getD l (List.getD (List.getD p.funcs f []) i d_api_Node).arg.toNat d_api_Section).liveExit := if_pos hk7
    rw [if_pos (eqT hk7), if_pos (decide_eq_true ha.1), if_pos (decide_eq_true (by omega)), bind_some (refwithin_eq _ _)]
    by_cases he : subb (List.getD (List.getD l f d_api_Section).live i 0#32) (List.getD l (List.getD (List.getD p.funcs f []) i d_api_Node).arg.toNat d_api_Section).liveEntry = true
    · rw [he, if_neg (by decide), if_neg (eqF (by omega)), if_neg (eqF (by omega)), bind_some (refsucc_eq _), bind_some (h17 _ _), hbn false (by show (nde p f i).kind ≠ 5; intro h; exact absurd (hk7.symm.trans h) (by decide)), nodeL_r (fun _ => he) (fun h => absurd (hk7.symm.trans h) (by decide)) (fun h => absurd (hk7.symm.trans h) (by decide)), onL_eq hx]
      by_cases ho : onL p l bg f i = true
      · rw [if_pos ho, if_pos ho]
      · rw [if_neg ho, if_neg ho]
    · rw [if_pos (by simpa using he), nodeL_7 hk7 he]
  · have hx : xit l (nde p f i) = 0#32 := if_neg hk7
    rw [if_neg (eqF hk7)]
    by_cases hk9 : (List.getD (List.getD p.funcs f []) i d_api_Node).kind = 9
    · rw [if_pos (eqT hk9), bind_some (refwithin_eq _ _)]
      by_cases he : subb (List.getD (List.getD l f d_api_Section).live i 0#32) (List.getD l f d_api_Section).liveExit = true
      · rw [he, if_neg (by decide), if_neg (eqF (by omega)), bind_some (refsucc_eq _), bind_some (h17 _ _), hbn false (by show (nde p f i).kind ≠ 5; intro h; exact absurd (hk9.symm.trans h) (by decide)), nodeL_r (fun h => absurd h hk7) (fun _ => he) (fun h => absurd (hk9.symm.trans h) (by decide)), onL_eq hx]
        by_cases ho : onL p l bg f i = true
        · rw [if_pos ho, if_pos ho]
        · rw [if_neg ho, if_neg ho]
      · rw [if_pos (by simpa using he), nodeL_9 hk9 he]
    · rw [if_neg (eqF hk9)]
      by_cases hk5 : (List.getD (List.getD p.funcs f []) i d_api_Node).kind = 5
      · have ha := hsp hk5
        obtain ⟨c, hcc⟩ : ∃ c : Nat, (List.getD (List.getD p.funcs f []) i d_api_Node).arg = (c : Int) := ⟨_, (Int.toNat_of_nonneg ha.1).symm⟩
        obtain ⟨t, t1, t2⟩ := gather5 p hg c (by omega)
        have hb : (decide (((t.length : Nat) : Int) > 0)) = hasb bg (nde p f i).arg := by
          rw [show (nde p f i).arg = (c : Int) from hcc, hasb_nat _ (by omega), Bool.eq_iff_iff, decide_eq_true_iff, hkn c]
          constructor
          · intro h; exact ⟨by omega, t2.1 (by omega)⟩
          · intro h; have := t2.2 h.2; omega
        rw [if_pos (eqT hk5), if_pos (decide_eq_true ha.1), if_pos (decide_eq_true (by omega)), bind_some (show alibiref03_Has _ p.slots = some (hasb _ p.slots) from refhas_eq _ _)]
        by_cases he : hasb (List.getD l (List.getD (List.getD p.funcs f []) i d_api_Node).arg.toNat d_api_Section).liveEntry p.slots = true
        · rw [he, if_neg (by decide), bind_some (show alibiref14_Gather p (List.getD (List.getD p.funcs f []) i d_api_Node).arg 5 5 = some t by rw [hcc]; exact t1), bind_some (refsucc_eq _), bind_some (h17 _ _), hb, nodeL_r (fun h => absurd h hk7) (fun h => absurd h hk9) (fun _ => he), onL_eq hx]
          by_cases ho : onL p l bg f i = true
          · rw [if_pos ho, if_pos ho]
          · rw [if_neg ho, if_neg ho]
        · rw [if_pos (by simpa using he), nodeL_5 hk5 he]
      · rw [if_neg (eqF hk5), bind_some (refsucc_eq _), bind_some (h17 _ _), hbn false hk5, nodeL_r (fun h => absurd h hk7) (fun h => absurd h hk9) (fun h => absurd h hk5), onL_eq hx]
        by_cases ho : onL p l bg f i = true
        · rw [if_pos ho, if_pos ho]
        · rw [if_neg ho, if_neg ho]
def r9 : Option (Nat × Int) → alibiref16_Check_l9_R
  | some (k, w) => .x0 k w
  | none => .x1
theorem refcheck16_l9 (p : api_Program) (hg : Good p) (l : List api_Section) (hs : Shp p l) {bg : W32} (hkn : KnowL p bg) (x4 x5 x6 : Int) (f : Nat) (hf : f < p.funcs.length) : ∀ (m i : Nat), i + m = (List.getD p.funcs f []).length → alibiref16_Check_l9 p.globals p.locks p.slots p.funcs x4 x5 x6 l (f : Int) (i : Int) = some (r9 (findO (nodeLO p l bg f) i m))
  | 0, i, h => by
    rw [alibiref16_Check_l9, if_pos (decide_eq_true (by omega)), if_pos (decide_eq_true (by omega)), Int.toNat_natCast, if_neg (by simp only [decide_eq_true_eq]; omega)]
    rfl
  | m + 1, i, h => by
    have hle := hg.le f
    have e := refnode16_eq p hg l hs hkn f i hf (by omega)
    rw [alibiref16_Check_l9, if_pos (decide_eq_true (by omega)), if_pos (decide_eq_true (by omega)), Int.toNat_natCast, if_pos (decide_eq_true (by omega)), bind_some (show alibiref16_Node (api_Program.mk p.globals p.locks p.slots p.funcs) l (f : Int) (i : Int) = _ from e), inc i (by omega), refcheck16_l9 p hg l hs hkn x4 x5 x6 f hf m (i + 1) (by omega), findO_succ]
    unfold nodeLO
    by_cases h0 : nodeL p l bg f i = 0
    · rw [if_neg (neF h0), if_pos h0]
    · rw [if_pos (neT h0), if_neg h0]
      rfl
def r4 : Option (Nat × (Int × Int)) → alibiref16_Check_l4_R
  | some (f, (k, w)) => .x0 f k w
  | none => .x1
theorem refcheck16_l4 (p : api_Program) (hg : Good p) (l : List api_Section) (hs : Shp p l) {bg : W32} (hkn : KnowL p bg) : ∀ (m f : Nat), f + m = l.length → alibiref16_Check_l4 p.globals p.locks p.slots p.funcs 0 0 0 l (f : Int) = some (r4 (findO (funcLO p l bg) f m))
  | 0, f, h => by rw [alibiref16_Check_l4, if_neg (by simp only [decide_eq_true_eq]; omega)]; rfl
  | m + 1, f, h => by
    have hl := hs.1
    have hn := hg.funcs.2
    have hh : (List.getD l f d_api_Section).live.length = (List.getD p.funcs f []).length := (hs.2 f (by omega)).2
    have hp := (hg.len f (by omega)).1
    have h9 := refcheck16_l9 p hg l hs hkn 0 0 0 f (by omega) (List.getD p.funcs f []).length 0 (by omega)
    rw [show ((0 : Nat) : Int) = 0 from rfl] at h9
    rw [alibiref16_Check_l4, if_pos (decide_eq_true (by omega)), if_pos (decide_eq_true (by omega)), if_pos (decide_eq_true (by omega)), Int.toNat_natCast f, if_pos (decide_eq_true (by omega)), bind_some (refwithin_eq _ _), inc f (by omega), refcheck16_l4 p hg l hs hkn m (f + 1) (by omega), findO_succ]
    by_cases hsb : subb (List.getD l f d_api_Section).liveEntry (List.getD (List.getD l f d_api_Section).live 0 0#32) = true
    · have hO : funcLO p l bg f = (findO (nodeLO p l bg f) 0 (List.getD p.funcs f []).length).map fun x => ((x.1 : Int), x.2) := if_neg (by intro h; exact absurd (hsb.symm.trans h) (by decide))
      rw [hsb, if_neg (by decide), bind_some h9, hO]
      cases findO (nodeLO p l bg f) 0 (List.getD p.funcs f []).length with
      | none => rfl
      | some z => rfl
    · have hO : funcLO p l bg f = some (-1, 6) := if_pos (by simpa using hsb)
      rw [if_pos (by simpa using hsb), hO] <;> rfl
theorem refcheck16_eq (p : api_Program) (hg : Good p) (l : List api_Section) {bg : W32} (hkn : KnowL p bg) : (Shp p l → alibiref16_Check p l = some (checkL p l bg)) ∧ (¬ Shp p l → alibiref16_Check p l = some ⟨-1, -1, 1⟩) := by
  have hn := hg.funcs.2
  obtain ⟨b, _, b1, b2⟩ := shaped_eq p l (by omega)
  refine ⟨fun hs => ?_, fun hs => ?_⟩
  · have hb := b2.2 hs
    have h4 := refcheck16_l4 p hg l hs hkn l.length 0 (by omega)
    rw [show ((0 : Nat) : Int) = 0 from rfl] at h4
    unfold alibiref16_Check
    rw [bind_some b1, hb, if_neg (by decide), bind_some h4]
    unfold checkL
    cases findO (funcLO p l bg) 0 l.length with
    | some y => rfl
    | none => rfl
  · have hb : b = false := by
      cases b with
      | false => rfl
      | true => exact absurd (b2.1 rfl) hs
    unfold alibiref16_Check
    rw [bind_some b1, hb, if_pos (by decide)]
end Go.Bm.GoYtldkmmnffjdliaa
