/- Guards: what guard.Check and check.Check answer. -/
import Derived.Test.YtipjbmnfnmlkfaaDoorLawShaF
namespace Go.Bm.GoYtipjbmnfnmlkfaaDoor
set_option autoImplicit false
set_option linter.unusedVariables false
set_option linter.unusedSimpArgs false
set_option maxRecDepth 100000
def rightb (j : api_Just) (locks : Int) : Bool := if j.kind = 2 then decide (0 ≤ j.lock) && decide (j.lock < locks) else if j.kind = 0 then j.lock == 0 else if j.kind = 1 then j.lock == 0 else false
theorem right_eq (j : api_Just) (locks : Int) : guard_Right j locks = some (rightb j locks) := by
  unfold guard_Right rightb
  by_cases h2 : j.kind = 2
  · rw [if_pos (eqT h2), if_pos h2]
    by_cases h0 : 0 ≤ j.lock
    · rw [if_pos (decide_eq_true h0), decide_eq_true h0, Bool.true_and]
    · rw [if_neg (by simpa using h0), decide_eq_false h0, Bool.false_and]
  · rw [if_neg (eqF h2), if_neg h2]
    by_cases h0 : j.kind = 0
    · rw [if_pos (eqT h0), if_pos h0]
    · rw [if_neg (eqF h0), if_neg h0]
      by_cases h1 : j.kind = 1
      · rw [if_pos (eqT h1), if_pos h1]
      · rw [if_neg (eqF h1), if_neg h1]
def acc (x : api_Node) : Bool := x.kind == 1 || x.kind == 2
def holdsb (j : api_Just) (w : Bool) (h l : W32) : Bool := if l = 0#32 then true else if j.kind = 1 then !w else if j.kind = 2 then hasb h j.lock else false
theorem holds_eq (j : api_Just) (w : Bool) (h l : W32) : guard_Holds j w h l = some (holdsb j w h l) := by
  unfold guard_Holds holdsb
  by_cases h0 : l = 0#32
  · rw [if_pos (by simpa using h0), if_pos h0]
  · rw [if_neg (by simpa using h0), if_neg h0]
    by_cases h1 : j.kind = 1
    · rw [if_pos (eqT h1), if_pos h1]
    · rw [if_neg (eqF h1), if_neg h1]
      by_cases h2 : j.kind = 2
      · rw [if_pos (eqT h2), if_pos h2, bind_some (show sets_Has h j.lock = some (hasb h j.lock) from has_eq _ _)]
      · rw [if_neg (eqF h2), if_neg h2]
theorem access_eq (x : api_Node) : prog_Access x = some (x.arg, x.kind == 2, acc x) := by
  unfold prog_Access acc
  by_cases h : x.kind = 1
  · rw [if_pos (eqT h), eqT h]; rfl
  · rw [if_neg (eqF h), show (x.kind == 1) = false by simpa using h]; rfl
abbrev jus (js : List api_Just) (i : Int) : api_Just := List.getD js i.toNat d_api_Just
/-- A node's justification holds. -/
def grd (p : api_Program) (l : List api_Section) (js : List api_Just) (f i : Nat) : Bool := !acc (nde p f i) || holdsb (jus js (nde p f i).arg) ((nde p f i).kind == 2) (hld l f i) (liv l f i)
def grdO (p : api_Program) (l : List api_Section) (js : List api_Just) (f i : Nat) : Option Unit := if grd p l js f i = true then none else some ()
def m16 : Option (Nat × Unit) → guard_Check_l16_R
  | some (k, _) => .x0 k 8 0
  | none => .x1
theorem guard_l16 (p : api_Program) (hg : Good p) (l : List api_Section) (hs : Shp p l) (js : List api_Just) (hj : (js.length : Int) = p.globals) (f : Nat) (hf : f < p.funcs.length) (x7 x8 : Int) : ∀ (m i : Nat), i + m = (List.getD p.funcs f []).length → guard_Check_l16 0 0 0 l js (f : Int) p.funcs x7 x8 (List.getD p.funcs f []) ((List.getD p.funcs f []).length : Int) (i : Int) = some (m16 (findO (grdO p l js f) i m))
  | 0, i, h => by rw [guard_Check_l16, if_neg (by simp only [decide_eq_true_eq]; omega)]; rfl
  | m + 1, i, h => by
    have hle := hg.le f
    have ih := guard_l16 p hg l hs js hj f hf x7 x8 m (i + 1) (by omega)
    have hl := hs.1
    have h1 : (List.getD l f d_api_Section).held.length = (List.getD p.funcs f []).length := (hs.2 f hf).1
    have h2 : (List.getD l f d_api_Section).live.length = (List.getD p.funcs f []).length := (hs.2 f hf).2
    have hgl : acc (nde p f i) = true → 0 ≤ (nde p f i).arg ∧ (nde p f i).arg < p.globals := fun ha => (hg.node f i hf (by omega)).glob (by simpa [acc] using ha)
    have hsolo : may_Solo (List.getD l f d_api_Section) (i : Int) = some (liv l f i == 0#32) := by
      unfold may_Solo
      rw [if_pos (decide_eq_true (by omega)), if_pos (decide_eq_true (by omega)), if_pos (decide_eq_true (by omega)), if_pos (decide_eq_true (by omega)), Int.toNat_natCast i]
    rw [guard_Check_l16, if_pos (decide_eq_true (by omega)), if_pos (decide_eq_true (by omega)), if_pos (decide_eq_true (by omega)), Int.toNat_natCast i, bind_some (access_eq _), inc i (by omega), findO_succ, Int.toNat_natCast f]
    unfold grdO
    by_cases ha : acc (nde p f i) = true
    · have hg2 := hgl ha
      have hg2 : 0 ≤ (List.getD (List.getD p.funcs f []) i d_api_Node).arg ∧ (List.getD (List.getD p.funcs f []) i d_api_Node).arg < p.globals := hg2
      by_cases h0 : liv l f i = 0#32
      · rw [if_pos ha, if_pos (decide_eq_true (by omega)), if_pos (decide_eq_true (by omega)), bind_some (show may_Solo (List.getD l f d_api_Section) (i : Int) = some true by rw [hsolo, h0]; rfl), if_neg (by decide), if_pos (by unfold grd holdsb; rw [if_pos h0]; simp), ih]
        rfl
      · rw [if_pos ha, if_pos (decide_eq_true (by omega)), if_pos (decide_eq_true (by omega)), bind_some (show may_Solo (List.getD l f d_api_Section) (i : Int) = some false by rw [hsolo, show (liv l f i == 0#32) = false by simpa using h0]), if_pos (by decide), if_pos (decide_eq_true hg2.1), if_pos (decide_eq_true (by omega)), if_pos (decide_eq_true (by omega)), if_pos (decide_eq_true (by omega)), bind_some (holds_eq _ _ _ _)]
        have hgr : grd p l js f i = holdsb (jus js (nde p f i).arg) ((nde p f i).kind == 2) (hld l f i) (liv l f i) := by unfold grd; rw [ha]; simp
        cases hh : holdsb (jus js (nde p f i).arg) ((nde p f i).kind == 2) (hld l f i) (liv l f i) with
        | true =>
          rw [if_neg (by decide), if_pos (hgr.trans hh), ih]
          rfl
        | false =>
          rw [if_pos (by decide), if_neg (by rw [hgr, hh]; decide)]
          rfl
    · rw [if_neg ha, if_pos (by unfold grd; rw [show acc (nde p f i) = false by simpa using ha]; rfl), ih]
      rfl
def fgO (p : api_Program) (l : List api_Section) (js : List api_Just) (f : Nat) : Option Nat := (findO (grdO p l js f) 0 (List.getD p.funcs f []).length).map fun x => x.1
def m13g : Option (Nat × Nat) → guard_Check_l13_R
  | some (f, k) => .x0 f k 8 0
  | none => .x1
theorem guard_l13 (p : api_Program) (hg : Good p) (l : List api_Section) (hs : Shp p l) (js : List api_Just) (hj : (js.length : Int) = p.globals) : ∀ (m f : Nat), f + m = p.funcs.length → guard_Check_l13 0 0 0 l js p.funcs (p.funcs.length : Int) (f : Int) = some (m13g (findO (fgO p l js) f m))
  | 0, f, h => by rw [guard_Check_l13, if_neg (by simp only [decide_eq_true_eq]; omega)]; rfl
  | m + 1, f, h => by
    have hn := hg.funcs.2
    have h16 := guard_l16 p hg l hs js hj f (by omega) (p.funcs.length : Int) (f : Int) (List.getD p.funcs f []).length 0 (by omega)
    rw [show ((0 : Nat) : Int) = 0 from rfl] at h16
    rw [guard_Check_l13, if_pos (decide_eq_true (by omega)), if_pos (decide_eq_true (by omega)), if_pos (decide_eq_true (by omega)), Int.toNat_natCast f, bind_some h16, inc f (by omega), guard_l13 p hg l hs js hj m (f + 1) (by omega), findO_succ]
    unfold fgO
    cases findO (grdO p l js f) 0 (List.getD p.funcs f []).length with
    | none => rfl
    | some z => rfl
def jusO (p : api_Program) (js : List api_Just) (i : Nat) : Option Unit := if rightb (List.getD js i d_api_Just) p.locks = true then none else some ()
def m7g : Option (Nat × Unit) → guard_Check_l7_R
  | some (k, _) => .x0 (-1) k 8 0
  | none => .x1
theorem guard_l7 (p : api_Program) (l : List api_Section) (js : List api_Just) (hj : js.length ≤ 1000) : ∀ (m i : Nat), i + m = js.length → guard_Check_l7 p.globals p.locks p.slots p.funcs 0 0 0 l js js (js.length : Int) (i : Int) = some (m7g (findO (jusO p js) i m))
  | 0, i, h => by rw [guard_Check_l7, if_neg (by simp only [decide_eq_true_eq]; omega)]; rfl
  | m + 1, i, h => by
    rw [guard_Check_l7, if_pos (decide_eq_true (by omega)), if_pos (decide_eq_true (by omega)), if_pos (decide_eq_true (by omega)), Int.toNat_natCast i, bind_some (right_eq _ _), inc i (by omega), guard_l7 p l js hj m (i + 1) (by omega), findO_succ]
    unfold jusO
    cases hr : rightb (List.getD js i d_api_Just) p.locks with
    | true => rw [if_neg (by decide), if_pos rfl]
    | false => rw [if_pos (by decide), if_neg (by decide)]; rfl
def guardM (p : api_Program) (l : List api_Section) (js : List api_Just) : api_Fault := match findO (jusO p js) 0 js.length with
  | some (j, _) => ⟨-1, j, 8⟩
  | none => match findO (fgO p l js) 0 p.funcs.length with
    | some (f, k) => ⟨f, k, 8⟩
    | none => ⟨0, 0, 0⟩
theorem guard_good (p : api_Program) (hg : Good p) (hk : prog_Check p = some (0, 0, 0)) (l : List api_Section) (hs : Shp p l) (js : List api_Just) (hj : (js.length : Int) = p.globals) : guard_Check p l js = some (guardM p l js, 0) := by
  have hn := hg.funcs.2
  have hgl := hg.globals.2
  obtain ⟨b, b1, _, b2⟩ := shaped_eq p l (by omega)
  have hb := b2.2 hs
  have h7 := guard_l7 p l js (by omega) js.length 0 (by omega)
  have h13 := guard_l13 p hg l hs js hj p.funcs.length 0 (by omega)
  rw [show ((0 : Nat) : Int) = 0 from rfl] at h7 h13
  unfold guard_Check
  rw [bind_some hk, if_neg (show ¬ ((0 : Int) != 0) = true by decide), bind_some b1, hb, if_neg (by decide), if_neg (neF hj), bind_some h7]
  unfold guardM
  cases findO (jusO p js) 0 js.length with
  | some y => rfl
  | none =>
    dsimp only [m7g]
    rw [bind_some h13]
    cases findO (fgO p l js) 0 p.funcs.length with
    | some y => rfl
    | none => rfl
theorem guard_ok {p : api_Program} {l : List api_Section} {js : List api_Just} : (guardM p l js).what = 0 ↔ (∀ i, i < js.length → rightb (List.getD js i d_api_Just) p.locks = true) ∧ ∀ f i, f < p.funcs.length → i < (List.getD p.funcs f []).length → grd p l js f i = true := by
  unfold guardM
  cases hq : findO (jusO p js) 0 js.length with
  | some y =>
    have h1 := findO_some hq
    constructor
    · intro h; exact absurd h (by show ¬ (8 : Int) = 0; decide)
    · rintro ⟨h2, _⟩
      have h3 := h1.2.2
      unfold jusO at h3
      rw [if_pos (h2 y.1 (by omega))] at h3
      cases h3
  | none =>
    have hr : ∀ i, i < js.length → rightb (List.getD js i d_api_Just) p.locks = true := fun i hi => by
      have := findO_none hq i (Nat.zero_le _) (by omega)
      unfold jusO at this
      split at this
      · assumption
      · cases this
    cases hq2 : findO (fgO p l js) 0 p.funcs.length with
    | some y =>
      have h1 := findO_some hq2
      constructor
      · intro h; exact absurd h (by show ¬ (8 : Int) = 0; decide)
      · rintro ⟨_, h2⟩
        have h3 := h1.2.2
        unfold fgO at h3
        rw [findO_all fun k _ hk => by unfold grdO; rw [if_pos (h2 y.1 k (by omega) (by omega))]] at h3
        cases h3
    | none =>
      refine ⟨fun _ => ⟨hr, fun f i hf hi => ?_⟩, fun _ => rfl⟩
      have h1 := findO_none hq2 f (Nat.zero_le _) (by omega)
      unfold fgO at h1
      cases hq3 : findO (grdO p l js f) 0 (List.getD p.funcs f []).length with
      | some z => rw [hq3] at h1; cases h1
      | none =>
        have h3 := findO_none hq3 i (Nat.zero_le _) (by omega)
        unfold grdO at h3
        split at h3
        · assumption
        · cases h3
/-! ### the whole check -/
theorem vecEq_iff (f g : Nat → B8) : ∀ l : List Nat, vecEq (fun a b => ((BitVec.toNat a : Nat) : Int) == ((BitVec.toNat b : Nat) : Int)) f g l = true ↔ ∀ i ∈ l, f i = g i
  | [] => by simp [vecEq]
  | i :: l => by
    show ((((BitVec.toNat (f i) : Nat) : Int) == ((BitVec.toNat (g i) : Nat) : Int)) && vecEq _ f g l) = true ↔ _
    rw [Bool.and_eq_true, vecEq_iff f g l, beq_iff_eq, Int.ofNat_inj, BitVec.toNat_inj]
    simp
theorem vecEq_range (f g : Nat → B8) : vecEq (fun a b => ((BitVec.toNat a : Nat) : Int) == ((BitVec.toNat b : Nat) : Int)) f g (List.range 32) = true ↔ ∀ i, i < 32 → f i = g i := by
  rw [vecEq_iff]; simp
instance sameDec (f g : Nat → B8) : Decidable (∀ i, i < 32 → f i = g i) := decidable_of_iff _ (vecEq_range f g)
theorem vput_sha (t : List B8) : vput (fun _ => 0#8) 0 32 (shaM t) = shaM t := by
  funext i
  unfold vput shaM
  by_cases hi : i < 32
  · rw [if_pos (by omega), if_pos hi, Nat.sub_zero, if_pos hi]
  · rw [if_neg (by omega), if_neg hi]
/-- The first of two faults. -/
def orF (a b : api_Fault) : api_Fault := if a.what = 0 then b else a
def r54 (a : api_Fault) : check_Check_l5_4_R := if a.what = 0 then .x1 else .x0 a.func a.node a.what 0
def r53 (a : api_Fault) : check_Check_l5_3_R := if a.what = 0 then .x1 else .x0 a.func a.node a.what 0
def r52 (a : api_Fault) : check_Check_l5_2_R := if a.what = 0 then .x1 else .x0 a.func a.node a.what 0
def r51 (a : api_Fault) : check_Check_l5_1_R := if a.what = 0 then .x1 else .x0 a.func a.node a.what 0
def r50 (a : api_Fault) : check_Check_l5_R := if a.what = 0 then .x1 else .x0 a.func a.node a.what 0
theorem check_l4 (p : api_Program) (hg : Good p) (hk : prog_Check p = some (0, 0, 0)) (c : api_Cert) (hs : Shp p c.sections) (hj : (c.justs.length : Int) = p.globals) : check_Check_l5_4 p.globals p.locks p.slots p.funcs c.digest c.sections c.justs 0 0 0 = some (r54 (guardM p c.sections c.justs)) := by
  unfold check_Check_l5_4 check_justs
  rw [bind_some (show (bind (guard_Check (api_Program.mk p.globals p.locks p.slots p.funcs) (api_Cert.mk c.digest c.sections c.justs).sections (api_Cert.mk c.digest c.sections c.justs).justs) fun v1 => some (v1.1, v1.2)) = some (guardM p c.sections c.justs, 0) by rw [show guard_Check (api_Program.mk p.globals p.locks p.slots p.funcs) (api_Cert.mk c.digest c.sections c.justs).sections (api_Cert.mk c.digest c.sections c.justs).justs = some (guardM p c.sections c.justs, 0) from guard_good p hg hk c.sections hs c.justs hj]; rfl)]
  dsimp only
  rw [if_neg (by decide)]
  unfold r54
  by_cases h : (guardM p c.sections c.justs).what = 0
  · rw [if_neg (neF h), if_pos h]; rfl
  · rw [if_pos (neT h), if_neg h]
theorem check_l3 (p : api_Program) (hg : Good p) (hk : prog_Check p = some (0, 0, 0)) (c : api_Cert) (hs : Shp p c.sections) (hj : (c.justs.length : Int) = p.globals) (a : api_Fault) (ha : may_Check p c.sections = some (a, 0)) : check_Check_l5_3 p.globals p.locks p.slots p.funcs c.digest c.sections c.justs 0 0 0 = some (r53 (orF a (guardM p c.sections c.justs))) := by
  unfold check_Check_l5_3
  rw [bind_some (show check_live (api_Program.mk p.globals p.locks p.slots p.funcs) (api_Cert.mk c.digest c.sections c.justs) = some (a, 0) by unfold check_live; rw [show may_Check _ _ = some (a, 0) from ha]; rfl)]
  dsimp only
  rw [if_neg (by decide)]
  unfold r53 orF
  by_cases h : a.what = 0
  · rw [if_neg (neF h), if_pos h, bind_some (check_l4 p hg hk c hs hj)]
    unfold r54
    by_cases h2 : (guardM p c.sections c.justs).what = 0
    · rw [if_pos h2, if_pos h2]
    · rw [if_neg h2, if_neg h2]
  · rw [if_pos (neT h), if_neg h, if_neg h]
theorem check_l2 (p : api_Program) (hg : Good p) (hk : prog_Check p = some (0, 0, 0)) (c : api_Cert) (hs : Shp p c.sections) (hj : (c.justs.length : Int) = p.globals) (b a : api_Fault) (hb : must_Check p c.sections = some (b, 0)) (ha : may_Check p c.sections = some (a, 0)) : check_Check_l5_2 p.globals p.locks p.slots p.funcs c.digest c.sections c.justs 0 0 0 = some (r52 (orF b (orF a (guardM p c.sections c.justs)))) := by
  unfold check_Check_l5_2
  rw [bind_some (show check_held (api_Program.mk p.globals p.locks p.slots p.funcs) (api_Cert.mk c.digest c.sections c.justs) = some (b, 0) by unfold check_held; rw [show must_Check _ _ = some (b, 0) from hb]; rfl)]
  dsimp only
  rw [if_neg (by decide)]
  unfold r52
  by_cases h : b.what = 0
  · rw [if_neg (neF h), show orF b (orF a (guardM p c.sections c.justs)) = orF a (guardM p c.sections c.justs) from if_pos h, bind_some (check_l3 p hg hk c hs hj a ha)]
    unfold r53
    by_cases h2 : (orF a (guardM p c.sections c.justs)).what = 0
    · rw [if_pos h2, if_pos h2]
    · rw [if_neg h2, if_neg h2]
  · rw [if_pos (neT h), show orF b (orF a (guardM p c.sections c.justs)) = b from if_neg h, if_neg h]
theorem bound_good (p : api_Program) (hg : Good p) (hk : prog_Check p = some (0, 0, 0)) (c : api_Cert) : check_bound p c = some (if (∀ i, i < 32 → shaM (progB p) i = c.digest i) then ⟨0, 0, 0⟩ else ⟨-1, -1, 9⟩, 0) := by
  unfold check_bound
  rw [bind_some (digest_good hg hk)]
  dsimp only
  rw [if_neg (by decide), vput_sha]
  by_cases h : ∀ i, i < 32 → shaM (progB p) i = c.digest i
  · rw [(vecEq_range _ _).2 h, if_neg (by decide), if_pos h]
  · rw [if_pos (by
      cases hv : vecEq (fun a b => ((BitVec.toNat a : Nat) : Int) == ((BitVec.toNat b : Nat) : Int)) (shaM (progB p)) c.digest (List.range 32) with
      | true => exact absurd ((vecEq_range _ _).1 hv) h
      | false => rfl), if_neg h]
    rfl
/-- What the checker answers of a program that may be and a certificate of its shape. -/
def checkM (p : api_Program) (c : api_Cert) (b a : api_Fault) : api_Fault :=
  if ∀ i, i < 32 → shaM (progB p) i = c.digest i then orF b (orF a (guardM p c.sections c.justs)) else ⟨-1, -1, 9⟩
theorem check_l1 (p : api_Program) (hg : Good p) (hk : prog_Check p = some (0, 0, 0)) (c : api_Cert) (hs : Shp p c.sections) (hj : (c.justs.length : Int) = p.globals) (b a : api_Fault) (hb : must_Check p c.sections = some (b, 0)) (ha : may_Check p c.sections = some (a, 0)) : check_Check_l5_1 p.globals p.locks p.slots p.funcs c.digest c.sections c.justs 0 0 0 = some (r51 (checkM p c b a)) := by
  unfold check_Check_l5_1
  rw [bind_some (show check_bound (api_Program.mk p.globals p.locks p.slots p.funcs) (api_Cert.mk c.digest c.sections c.justs) = _ from bound_good p hg hk c)]
  dsimp only
  rw [if_neg (by decide)]
  unfold checkM
  by_cases h : ∀ i, i < 32 → shaM (progB p) i = c.digest i
  · rw [if_pos h, if_pos h, if_neg (by decide), bind_some (check_l2 p hg hk c hs hj b a hb ha)]
    unfold r52 r51
    by_cases h2 : (orF b (orF a (guardM p c.sections c.justs))).what = 0
    · rw [if_pos h2, if_pos h2]
    · rw [if_neg h2, if_neg h2]
  · rw [if_neg h, if_neg h, if_pos (by decide)]; rfl
theorem check_good (p : api_Program) (hg : Good p) (hk : prog_Check p = some (0, 0, 0)) (c : api_Cert) (hs : Shp p c.sections) (hj : (c.justs.length : Int) = p.globals) (b a : api_Fault) (hb : must_Check p c.sections = some (b, 0)) (ha : may_Check p c.sections = some (a, 0)) : check_Check p c = some (if (checkM p c b a).what = 0 then ⟨0, 0, 0⟩ else checkM p c b a, 0) := by
  have hn := hg.funcs.2
  obtain ⟨q, q1, _, q2⟩ := shaped_eq p c.sections (by omega)
  have hq := q2.2 hs
  have hsh : check_shape (api_Program.mk p.globals p.locks p.slots p.funcs) (api_Cert.mk c.digest c.sections c.justs) = some (⟨0, 0, 0⟩, 0) := by
    unfold check_shape
    rw [bind_some (show must_Shaped (api_Program.mk p.globals p.locks p.slots p.funcs) (api_Cert.mk c.digest c.sections c.justs).sections = some q from q1), hq, if_neg (by decide), if_neg (neF hj)]
  have h5 : check_Check_l5 p.globals p.locks p.slots p.funcs c.digest c.sections c.justs 0 0 0 = some (r50 (checkM p c b a)) := by
    unfold check_Check_l5
    rw [bind_some hsh]
    dsimp only
    rw [if_neg (by decide), if_neg (by decide), bind_some (check_l1 p hg hk c hs hj b a hb ha)]
    unfold r51 r50
    by_cases h2 : (checkM p c b a).what = 0
    · rw [if_pos h2, if_pos h2]
    · rw [if_neg h2, if_neg h2]
  unfold check_Check
  rw [bind_some (digest_good hg hk)]
  dsimp only
  rw [if_neg (by decide), bind_some h5]
  unfold r50
  by_cases h2 : (checkM p c b a).what = 0
  · rw [if_pos h2, if_pos h2]
  · rw [if_neg h2, if_neg h2]
theorem accepts_good (p : api_Program) (hg : Good p) (hk : prog_Check p = some (0, 0, 0)) (c : api_Cert) (hs : Shp p c.sections) (hj : (c.justs.length : Int) = p.globals) (b a : api_Fault) (hb : must_Check p c.sections = some (b, 0)) (ha : may_Check p c.sections = some (a, 0)) : check_Accepts p c = some ((checkM p c b a).what == 0) := by
  unfold check_Accepts
  rw [bind_some (check_good p hg hk c hs hj b a hb ha)]
  dsimp only
  rw [if_pos (by decide)]
  by_cases h2 : (checkM p c b a).what = 0
  · rw [if_pos h2, h2]
  · rw [if_neg h2]
theorem checkM_ok (p : api_Program) (c : api_Cert) (b a : api_Fault) : (checkM p c b a).what = 0 ↔ (∀ i, i < 32 → shaM (progB p) i = c.digest i) ∧ b.what = 0 ∧ a.what = 0 ∧ (guardM p c.sections c.justs).what = 0 := by
  unfold checkM orF
  by_cases h : ∀ i, i < 32 → shaM (progB p) i = c.digest i
  · rw [if_pos h]
    by_cases hb : b.what = 0
    · rw [if_pos hb]
      by_cases ha : a.what = 0
      · rw [if_pos ha]; exact ⟨fun x => ⟨h, hb, ha, x⟩, fun x => x.2.2.2⟩
      · rw [if_neg ha]; exact ⟨fun x => absurd x ha, fun x => absurd x.2.2.1 ha⟩
    · rw [if_neg hb]; exact ⟨fun x => absurd x hb, fun x => absurd x.2.1 hb⟩
  · rw [if_neg h]
    exact ⟨fun x => absurd x (by decide), fun x => absurd x.1 h⟩
end Go.Bm.GoYtipjbmnfnmlkfaaDoor
