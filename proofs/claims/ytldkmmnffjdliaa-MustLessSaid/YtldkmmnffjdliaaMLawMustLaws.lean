/- The laws MustChecks, MustLess, MustUnion. -/
import Derived.Test.YtldkmmnffjdliaaMLawMust
namespace Go.Bm.GoYtldkmmnffjdliaa
set_option autoImplicit false
set_option linter.unusedVariables false
set_option linter.unusedSimpArgs false
set_option maxRecDepth 100000
theorem awake15 : alibilaw15_awake = some true := alibilaw15_awake_le 40 _ (by kernel_rfl)
theorem findO_all {β : Type} {q : Nat → Option β} : ∀ {m i : Nat}, (∀ k, i ≤ k → k < i + m → q k = none) → findO q i m = none
  | 0, i, h => rfl
  | m + 1, i, h => by
    rw [findO_succ, h i (Nat.le_refl _) (by omega)]
    exact findO_all fun k h1 h2 => h k (by omega) (by omega)
/-- Nothing is wrong. -/
def Fine (p : api_Program) (l : List api_Section) (u : List W32) (fm : W32) : Prop := ∀ f, f < p.funcs.length → ¬ (fm.getLsbD f = true ∧ (sec l f).entry ≠ 0#32) ∧ subb (hld l f 0) (sec l f).entry = true ∧ ∀ i, i < (List.getD p.funcs f []).length → nodeW p l u f i = 0
theorem fine_of {p : api_Program} {l : List api_Section} {u : List W32} {fm : W32} (hl : l.length = p.funcs.length) (h : Fine p l u fm) : checkW p l u fm = ⟨0, 0, 0⟩ := by
  unfold checkW
  rw [findO_all]
  intro f _ hf
  obtain ⟨h1, h2, h3⟩ := h f (by omega)
  have : findO (nodeO p l u f) 0 (List.getD p.funcs f []).length = none := findO_all fun i _ hi => if_pos (h3 i (by omega))
  unfold funcO
  rw [funcW_r h1 h2, this]
  rfl
theorem fine_to {p : api_Program} {l : List api_Section} {u : List W32} {fm : W32} (hl : l.length = p.funcs.length) (h : (checkW p l u fm).what = 0) : Fine p l u fm := by
  have hno : findO (funcO p l u fm) 0 l.length = none := by
    cases hq : findO (funcO p l u fm) 0 l.length with
    | none => rfl
    | some x =>
      exfalso
      have h1 := (findO_some hq).2.2
      unfold checkW at h
      rw [hq] at h
      have h2 : x.2.2 = 0 := h
      unfold funcO at h1
      split at h1
      · cases h1
      · rename_i h3
        have := Option.some.inj h1
        rw [this] at h3
        exact h3 h2
  intro f hf
  have h1 := findO_none hno f (Nat.zero_le _) (by omega)
  unfold funcO at h1
  split at h1
  · rename_i h2
    have g1 : ¬ (fm.getLsbD f = true ∧ (sec l f).entry ≠ 0#32) := fun h => by rw [funcW_2 h] at h2; exact absurd h2 (by decide)
    have g2 : subb (hld l f 0) (sec l f).entry = true := by
      cases hs : subb (hld l f 0) (sec l f).entry with
      | true => rfl
      | false => rw [funcW_3 g1 (by rw [hs]; decide)] at h2; exact absurd h2 (by decide)
    rw [funcW_r g1 g2] at h2
    refine ⟨g1, g2, fun i hi => ?_⟩
    cases hq : findO (nodeO p l u f) 0 (List.getD p.funcs f []).length with
    | none =>
      have := findO_none hq i (Nat.zero_le _) (by omega)
      unfold nodeO at this
      split at this
      · assumption
      · cases this
    | some x =>
      exfalso
      rw [hq] at h2
      have h3 : x.2 = 0 := h2
      have h4 := (findO_some hq).2.2
      unfold nodeO at h4
      split at h4
      · cases h4
      · rename_i h5
        rw [Option.some.inj h4] at h5
        exact h5 h3
  · cases h1
theorem nodeW_zero {p : api_Program} {l : List api_Section} {u : List W32} {f i : Nat} (h : nodeW p l u f i = 0) : ((nde p f i).kind = 7 → subb (sec l (nde p f i).arg.toNat).entry (hld l f i) = true) ∧ ((nde p f i).kind = 9 → subb (sec l f).exit (hld l f i) = true) ∧ (succ (nde p f i)).all (fun y => subb (hld l f y.toNat) (bhd u l (nde p f i) (hld l f i))) = true := by
  have h7 : (nde p f i).kind = 7 → subb (sec l (nde p f i).arg.toNat).entry (hld l f i) = true := fun hk => by
    cases hs : subb (sec l (nde p f i).arg.toNat).entry (hld l f i) with
    | true => rfl
    | false => rw [nodeW_5 hk (by rw [hs]; decide)] at h; cases h
  have h9 : (nde p f i).kind = 9 → subb (sec l f).exit (hld l f i) = true := fun hk => by
    cases hs : subb (sec l f).exit (hld l f i) with
    | true => rfl
    | false => rw [nodeW_4 hk (by rw [hs]; decide)] at h; cases h
  refine ⟨h7, h9, ?_⟩
  rw [nodeW_r h7 h9] at h
  split at h
  · assumption
  · cases h
theorem mustChecks (p : api_Program) (l : List api_Section) : alibilaw15_MustChecks p l = some true := by
  unfold alibilaw15_MustChecks
  rw [awake15]
  simp only [bind, Option.bind_some, Bool.not_true, Bool.false_eq_true, if_false]
  obtain ⟨sm, s1, s2⟩ := small_eq p
  rw [s1]
  simp only [Option.bind_some]
  cases sm with
  | false => rfl
  | true =>
    rw [if_neg (by decide)]
    obtain ⟨fw, f1⟩ := few_eq l
    rw [f1]
    simp only [Option.bind_some]
    cases fw with
    | false => rfl
    | true =>
      rw [if_neg (by decide)]
      have hn := (s2 rfl).1
      obtain ⟨sb, b1, b2, b3⟩ := shaped_eq p l (by omega)
      obtain ⟨⟨ra, rb, re⟩, r1, r2, r3, r4⟩ := check_eq p
      by_cases he : re = 0
      · obtain ⟨r5, hg⟩ := r3 he
        rw [r5] at r1 r2
        obtain ⟨u, fm, k1, k2, k3⟩ := must_good p hg r1
        obtain ⟨c1, c2⟩ := refcheck_eq p hg l k1
        have fin : ∀ w : api_Fault, must_Check p l = some (w, 0) → alibiref15_Check p l = some w → (Option.bind (must_Check p l) fun v16 => Option.bind (must_Shaped p l) fun v18 => Option.bind (alibiref15_Shaped p l) fun v20 => if (!(v18 == v20)) = true then some false else Option.bind (alibiref05_Check p) fun v23 => if ((v23.2.2 : Int) != 0) = true then if ((v16.2 : Int) == v23.2.2) = true then some (((v16.1.func : Int) == (0 : Int)) && (((v16.1.node : Int) == (0 : Int)) && (((v16.1.what : Int) == (0 : Int)) && true))) else some false else if ((v16.2 : Int) == 0) = true then Option.bind (alibiref15_Check p l) fun v28 => some (((v16.1.func : Int) == (v28.func : Int)) && (((v16.1.node : Int) == (v28.node : Int)) && (((v16.1.what : Int) == (v28.what : Int)) && true))) else some false) = some true := by
          intro w w1 w2
          rw [w1]
          simp only [Option.bind_some]
          rw [b1]
          simp only [Option.bind_some]
          rw [b2]
          simp only [Option.bind_some]
          rw [if_neg (by simp), r2]
          simp only [Option.bind_some]
          rw [if_neg (by decide), if_pos (by decide), w2]
          simp
        by_cases hs : Shp p l
        · exact fin _ (k2 l hs) (c1 hs)
        · exact fin _ (k3 l hs) (c2 hs)
      · rw [must_bad p r1 he]
        simp only [Option.bind_some]
        rw [b1]
        simp only [Option.bind_some]
        rw [b2]
        simp only [Option.bind_some]
        rw [if_neg (by simp), r2]
        simp only [Option.bind_some]
        rw [if_pos (neT he), if_pos (eqT rfl)]
        rfl
theorem subb_zero (a : W32) : subb 0#32 a = true := subb_iff.2 fun i h => by simp at h
theorem getD_rep_w (n i : Nat) : List.getD (List.replicate n (0#32 : W32)) i 0#32 = 0#32 := by
  simp only [List.getD, List.getElem?_replicate]
  split <;> rfl
theorem less_l5 (p : api_Program) (hlen : ∀ f, (List.getD p.funcs f []).length ≤ 65536) (hn : p.funcs.length ≤ 65536) : ∀ (m f : Nat) (t : List api_Section), f + m = p.funcs.length → t.length = f → (∀ g, g < f → sec t g = ⟨0#32, 0#32, List.replicate (List.getD p.funcs g []).length 0#32, 0#32, 0#32, List.replicate (List.getD p.funcs g []).length 0#32⟩) →
    ∃ t', alibilaw15_MustLess_l5 t p.globals p.locks p.slots p.funcs (f : Int) = some t' ∧ t'.length = p.funcs.length ∧ ∀ g, g < p.funcs.length → sec t' g = ⟨0#32, 0#32, List.replicate (List.getD p.funcs g []).length 0#32, 0#32, 0#32, List.replicate (List.getD p.funcs g []).length 0#32⟩
  | 0, f, t, h, h1, h2 => by
    rw [alibilaw15_MustLess_l5, if_neg (by simp only [decide_eq_true_eq]; omega)]
    exact ⟨t, rfl, by omega, fun g hg => h2 g (by omega)⟩
  | m + 1, f, t, h, h1, h2 => by
    have hl := hlen f
    rw [alibilaw15_MustLess_l5, if_pos (decide_eq_true (by omega)), if_pos (decide_eq_true (by omega)), if_pos (decide_eq_true (by omega)), Int.toNat_natCast f, if_pos (decide_eq_true (by omega)), if_pos (decide_eq_true (by simp only [reach]; omega)), if_pos (Nat.ble_eq_true_of_le (by simp only [List.length_singleton, reach]; omega)), inc f (by omega), Int.toNat_natCast]
    refine less_l5 p hlen hn m (f + 1) _ (by omega) (by simp [h1]) fun g hg => ?_
    show List.getD (t ++ [_]) g d_api_Section = _
    rw [getD_snoc]
    split
    · rename_i e
      have : g = f := by omega
      subst this
      rfl
    · exact h2 g (by omega)
theorem mustLess (p : api_Program) : alibilaw15_MustLess p = some true := by
  unfold alibilaw15_MustLess
  rw [awake15]
  simp only [bind, Option.bind_some, Bool.not_true, Bool.false_eq_true, if_false]
  obtain ⟨sm, s1, s2⟩ := small_eq p
  rw [s1]
  simp only [Option.bind_some]
  cases sm with
  | false => rfl
  | true =>
    rw [if_neg (by decide)]
    have hn := (s2 rfl).1
    have hlen := (s2 rfl).2
    obtain ⟨l, l1, l2, l3⟩ := less_l5 p (fun f => by have := hlen f; omega) (by omega) p.funcs.length 0 [] (by omega) rfl (fun g hg => by omega)
    rw [show ((0 : Nat) : Int) = 0 from rfl] at l1
    rw [l1]
    simp only [Option.bind_some]
    obtain ⟨⟨ra, rb, re⟩, r1, r2, r3, r4⟩ := check_eq p
    by_cases he : re = 0
    · obtain ⟨r5, hg⟩ := r3 he
      rw [r5] at r1 r2
      obtain ⟨u, fm, k1, k2, k3⟩ := must_good p hg r1
      have hs : Shp p l := ⟨l2, fun f hf => by rw [l3 f hf]; simp⟩
      have hh : ∀ f i, f < p.funcs.length → hld l f i = 0#32 := fun f i hf => by
        show List.getD (sec l f).held i 0#32 = _
        rw [l3 f hf]
        exact getD_rep_w _ _
      have hf : Fine p l u fm := fun f hf => ⟨fun h => h.2 (by rw [l3 f hf]), by rw [hh f 0 hf]; exact subb_zero _, fun i hi => by
        rw [nodeW_r (fun hk => by
          have hc : 0 ≤ (nde p f i).arg ∧ (nde p f i).arg < p.funcs.length := hg.calls f i hf hi hk
          rw [l3 _ (by omega)]
          exact subb_zero _) (fun hk => by rw [l3 f hf]; exact subb_zero _), if_pos]
        rw [List.all_eq_true]
        intro y _
        rw [hh f _ hf]
        exact subb_zero _⟩
      rw [k2 l hs, fine_of l2 hf]
      simp only [Option.bind_some]
      rw [r2]
      rfl
    · rw [must_bad p r1 he]
      simp only [Option.bind_some]
      rw [r2]
      simp only [Option.bind_some]
      rw [if_pos (eqT rfl)]
      rfl
theorem subb_or {a b c d : W32} (h : subb a c = true) (k : subb b d = true) : subb (a ||| b) (c ||| d) = true := subb_iff.2 fun i hi => by
  rw [BitVec.getLsbD_or, Bool.or_eq_true] at hi ⊢
  exact hi.imp (subb_iff.1 h i) (subb_iff.1 k i)
theorem subb_or1 {a b c : W32} (h : subb a c = true) (k : subb b c = true) : subb (a ||| b) c = true := subb_iff.2 fun i hi => by
  rw [BitVec.getLsbD_or, Bool.or_eq_true] at hi
  exact hi.elim (subb_iff.1 h i) (subb_iff.1 k i)
theorem subb_trans {a b c : W32} (h : subb a b = true) (k : subb b c = true) : subb a c = true := subb_iff.2 fun i hi => subb_iff.1 k i (subb_iff.1 h i hi)
theorem bhd_mono {u : List W32} {l z : List api_Section} {x : api_Node} {h k : W32} (hh : subb h k = true) (hx : x.kind = 7 → subb (List.getD l x.arg.toNat d_api_Section).exit (List.getD z x.arg.toNat d_api_Section).exit = true) : subb (bhd u l x h) (bhd u z x k) = true := by
  unfold bhd
  split
  · exact subb_or hh (subb_iff.2 fun i hi => hi)
  · split
    · refine subb_iff.2 fun i hi => ?_
      rw [BitVec.getLsbD_and, Bool.and_eq_true] at hi ⊢
      exact ⟨subb_iff.1 hh i hi.1, hi.2⟩
    · split
      · rename_i h7
        refine subb_or (subb_iff.2 fun i hi => ?_) (hx h7)
        rw [BitVec.getLsbD_and, Bool.and_eq_true] at hi ⊢
        exact ⟨subb_iff.1 hh i hi.1, hi.2⟩
      · exact hh
theorem union_l13 (z0 : List api_Section) (x2 : List W32) (x3 x4 x5 : Int) (fs : FS) (x7 x8 x9 x10 : W32) (a b : List api_Section) (f : Nat) (ha : f < a.length) (hb : f < b.length) (hl : (List.getD b f d_api_Section).held.length = (List.getD a f d_api_Section).held.length) (hle : (List.getD a f d_api_Section).held.length ≤ 65536) : ∀ (m i : Nat) (x : List W32), i + m = (List.getD a f d_api_Section).held.length → x.length = i → (∀ j, j < i → List.getD x j 0#32 = hld a f j ||| hld b f j) →
    ∃ x', alibilaw15_MustUnion_l13 z0 x x2 x3 x4 x5 fs x7 x8 x9 x10 a b (f : Int) (i : Int) = some x' ∧ x'.length = (List.getD a f d_api_Section).held.length ∧ ∀ j, j < (List.getD a f d_api_Section).held.length → List.getD x' j 0#32 = hld a f j ||| hld b f j
  | 0, i, x, h, h1, h2 => by
    rw [alibilaw15_MustUnion_l13, if_pos (decide_eq_true (by omega)), if_pos (decide_eq_true (by omega)), Int.toNat_natCast f, if_neg (by simp only [decide_eq_true_eq]; omega)]
    exact ⟨x, rfl, by omega, fun j hj => h2 j (by omega)⟩
  | m + 1, i, x, h, h1, h2 => by
    rw [alibilaw15_MustUnion_l13, if_pos (decide_eq_true (by omega)), if_pos (decide_eq_true (by omega)), Int.toNat_natCast f, if_pos (decide_eq_true (by omega)), if_pos (decide_eq_true (by omega)), if_pos (decide_eq_true (by omega)), if_pos (decide_eq_true (by omega)), if_pos (decide_eq_true (by omega)), Int.toNat_natCast i, if_pos (Nat.ble_eq_true_of_le (by simp only [List.length_singleton, reach]; omega)), inc i (by omega)]
    refine union_l13 z0 x2 x3 x4 x5 fs x7 x8 x9 x10 a b f ha hb hl hle m (i + 1) _ (by omega) (by simp [h1]) fun j hj => ?_
    rw [getD_snoc]
    split
    · rename_i e
      have : j = i := by omega
      subst this
      rfl
    · exact h2 j (by omega)
/-- A section that tells what either tells. -/
structure Both (p : api_Program) (a b : List api_Section) (f : Nat) (s : api_Section) : Prop where
  entry : s.entry = (sec a f).entry ||| (sec b f).entry
  exit : s.exit = (sec a f).exit ||| (sec b f).exit
  hl : s.held.length = (List.getD p.funcs f []).length
  held : ∀ j, j < (List.getD p.funcs f []).length → List.getD s.held j 0#32 = hld a f j ||| hld b f j
  live : s.live.length = (List.getD p.funcs f []).length
theorem union_l9 (p : api_Program) (hg : Good p) (a b : List api_Section) (ha : Shp p a) (hb : Shp p b) : ∀ (m f : Nat) (z : List api_Section), f + m = a.length → z.length = f → (∀ g, g < f → Both p a b g (sec z g)) → ∃ z', alibilaw15_MustUnion_l9 z p.globals p.locks p.slots p.funcs a b (f : Int) = some z' ∧ z'.length = p.funcs.length ∧ ∀ g, g < p.funcs.length → Both p a b g (sec z' g)
  | 0, f, z, h, h1, h2 => by
    have hal := ha.1
    rw [alibilaw15_MustUnion_l9, if_neg (by simp only [decide_eq_true_eq]; omega)]
    exact ⟨z, rfl, by omega, fun g hg => h2 g (by omega)⟩
  | m + 1, f, z, h, h1, h2 => by
    have hal := ha.1
    have hbl := hb.1
    have hn := hg.funcs.2
    have hle := hg.le f
    obtain ⟨a1, a2⟩ : (List.getD a f d_api_Section).held.length = (List.getD p.funcs f []).length ∧ (List.getD a f d_api_Section).live.length = (List.getD p.funcs f []).length := ha.2 f (by omega)
    obtain ⟨b1, b2⟩ : (List.getD b f d_api_Section).held.length = (List.getD p.funcs f []).length ∧ (List.getD b f d_api_Section).live.length = (List.getD p.funcs f []).length := hb.2 f (by omega)
    obtain ⟨x, q1, q2, q3⟩ := union_l13 z (([] : List W32) ++ (List.getD a f d_api_Section).live) p.globals p.locks p.slots p.funcs ((List.getD a f d_api_Section).entry ||| (List.getD b f d_api_Section).entry) ((List.getD a f d_api_Section).exit ||| (List.getD b f d_api_Section).exit) 0#32 0#32 a b f (by omega) (by omega) (by omega) (by omega) (List.getD a f d_api_Section).held.length 0 [] (by omega) rfl (fun j hj => by omega)
    rw [show ((0 : Nat) : Int) = 0 from rfl] at q1
    rw [alibilaw15_MustUnion_l9, if_pos (decide_eq_true (by omega)), if_pos (decide_eq_true (by omega)), if_pos (decide_eq_true (by omega)), if_pos (decide_eq_true (by omega)), Int.toNat_natCast f, if_pos (Nat.ble_eq_true_of_le (by simp only [List.length_nil, reach]; omega)), bind_some q1, if_pos (Nat.ble_eq_true_of_le (by simp only [List.length_singleton, reach]; omega)), inc f (by omega)]
    refine union_l9 p hg a b ha hb m (f + 1) _ (by omega) (by simp [h1]) fun g hgf => ?_
    show Both p a b g (List.getD (z ++ [_]) g d_api_Section)
    rw [getD_snoc]
    split
    · rename_i e
      have : g = f := by omega
      subst this
      exact ⟨rfl, rfl, by show x.length = _; omega, fun j hj => q3 j (by omega), by simpa using a2⟩
    · exact h2 g (by omega)
theorem mustUnion (p : api_Program) (a b : List api_Section) : alibilaw15_MustUnion p a b = some true := by
  unfold alibilaw15_MustUnion
  rw [awake15]
  simp only [bind, Option.bind_some, Bool.not_true, Bool.false_eq_true, if_false]
  obtain ⟨sm, s1, s2⟩ := small_eq p
  rw [s1]
  simp only [Option.bind_some]
  cases sm with
  | false => rfl
  | true =>
  rw [if_neg (by decide)]
  obtain ⟨fa, f1⟩ := few_eq a
  rw [f1]
  simp only [Option.bind_some]
  cases fa with
  | false => rfl
  | true =>
  rw [if_neg (by decide)]
  obtain ⟨fb, f2⟩ := few_eq b
  rw [f2]
  simp only [Option.bind_some]
  cases fb with
  | false => rfl
  | true =>
  rw [if_neg (by decide)]
  obtain ⟨⟨ra, rb, re⟩, r1, r2, r3, r4⟩ := check_eq p
  by_cases he : re = 0
  · obtain ⟨r5, hg⟩ := r3 he
    rw [r5] at r1
    obtain ⟨u, fm, k1, k2, k3⟩ := must_good p hg r1
    have hn := hg.funcs.2
    have hcheck : ∀ l, ∃ w : api_Fault, must_Check p l = some (w, 0) ∧ (w.what = 0 → Shp p l ∧ Fine p l u fm) := fun l => by
      by_cases hs : Shp p l
      · exact ⟨_, k2 l hs, fun h => ⟨hs, fine_to hs.1 h⟩⟩
      · exact ⟨_, k3 l hs, fun h => by cases h⟩
    obtain ⟨wa, a1, a2⟩ := hcheck a
    obtain ⟨wb, b1, b2⟩ := hcheck b
    rw [a1]
    simp only [Option.bind_some]
    rw [b1]
    simp only [Option.bind_some]
    rw [if_neg (by decide)]
    by_cases ha : wa.what = 0
    · rw [if_neg (neF ha)]
      by_cases hb : wb.what = 0
      · rw [if_neg (neF hb)]
        obtain ⟨sa, fina⟩ := a2 ha
        obtain ⟨sb, finb⟩ := b2 hb
        obtain ⟨z, z1, z2, z3⟩ := union_l9 p hg a b sa sb a.length 0 [] (by omega) rfl (fun g hg => by omega)
        rw [show ((0 : Nat) : Int) = 0 from rfl] at z1
        rw [z1]
        simp only [Option.bind_some]
        have sz : Shp p z := ⟨z2, fun f hf => ⟨(z3 f hf).hl, (z3 f hf).live⟩⟩
        have fz : Fine p z u fm := fun f hf => by
          obtain ⟨x1, x2, x3⟩ := fina f hf
          obtain ⟨y1, y2, y3⟩ := finb f hf
          have hlp := (hg.len f hf).1
          have e0 : hld z f 0 = hld a f 0 ||| hld b f 0 := (z3 f hf).held 0 hlp
          refine ⟨fun h => ?_, by rw [e0, (z3 f hf).entry]; exact subb_or x2 y2, fun i hi => ?_⟩
          · have g1 : (sec a f).entry = 0#32 := Classical.byContradiction fun h2 => x1 ⟨h.1, h2⟩
            have g2 : (sec b f).entry = 0#32 := Classical.byContradiction fun h2 => y1 ⟨h.1, h2⟩
            apply h.2
            rw [(z3 f hf).entry, g1, g2]
            rfl
          · obtain ⟨p1, p2, p3⟩ := nodeW_zero (x3 i hi)
            obtain ⟨q1, q2, q3⟩ := nodeW_zero (y3 i hi)
            have ei : hld z f i = hld a f i ||| hld b f i := (z3 f hf).held i hi
            have hok := hg.node f i hf hi
            have hjr := succ_ok hok (by omega)
            have hc : (nde p f i).kind = 7 → (nde p f i).arg.toNat < p.funcs.length := fun hk => by
              have h1 : 0 ≤ (nde p f i).arg ∧ (nde p f i).arg < p.funcs.length := hok.call hk
              omega
            rw [nodeW_r (fun hk => by rw [ei, (z3 _ (hc hk)).entry]; exact subb_or (p1 hk) (q1 hk)) (fun hk => by rw [ei, (z3 f hf).exit]; exact subb_or (p2 hk) (q2 hk)), if_pos]
            rw [List.all_eq_true] at p3 q3 ⊢
            intro y hy
            have hyr := hjr y hy
            have ey : hld z f y.toNat = hld a f y.toNat ||| hld b f y.toNat := (z3 f hf).held y.toNat (by omega)
            rw [ey, ei]
            refine subb_or1 (subb_trans (p3 y hy) (bhd_mono (subb_iff.2 fun j hj => ?_) fun hk => ?_)) (subb_trans (q3 y hy) (bhd_mono (subb_iff.2 fun j hj => ?_) fun hk => ?_))
            · rw [BitVec.getLsbD_or, hj, Bool.true_or]
            · have := (z3 _ (hc hk)).exit
              rw [show (List.getD z (nde p f i).arg.toNat d_api_Section).exit = _ from this]
              refine subb_iff.2 fun j hj => ?_
              rw [BitVec.getLsbD_or, hj, Bool.true_or]
            · rw [BitVec.getLsbD_or, hj, Bool.or_true]
            · have := (z3 _ (hc hk)).exit
              rw [show (List.getD z (nde p f i).arg.toNat d_api_Section).exit = _ from this]
              refine subb_iff.2 fun j hj => ?_
              rw [BitVec.getLsbD_or, hj, Bool.or_true]
        rw [k2 z sz, fine_of z2 fz]
        rfl
      · rw [if_pos (neT hb)]
    · rw [if_pos (neT ha)]
  · rw [must_bad p r1 he, must_bad p r1 he]
    simp only [Option.bind_some]
    rw [if_pos (neT he)]
end Go.Bm.GoYtldkmmnffjdliaa
