/- The laws MayChecks, MayMore, MayMeet. -/
import Derived.Test.YtldkmmnffjdliaaYLawMay
namespace Go.Bm.GoYtldkmmnffjdliaa
set_option autoImplicit false
set_option linter.unusedVariables false
set_option linter.unusedSimpArgs false
set_option maxRecDepth 100000
theorem awake16 : alibilaw16_awake = some true := alibilaw16_awake_le 40 _ (by kernel_rfl)
theorem findO_all {β : Type} {q : Nat → Option β} : ∀ {m i : Nat}, (∀ k, i ≤ k → k < i + m → q k = none) → findO q i m = none
  | 0, i, h => rfl
  | m + 1, i, h => by
    rw [findO_succ, h i (Nat.le_refl _) (by omega)]
    exact findO_all fun k h1 h2 => h k (by omega) (by omega)
/-- Nothing is wrong. -/
def FineL (p : api_Program) (l : List api_Section) (bg : W32) : Prop := ∀ f, f < p.funcs.length → subb (sec l f).liveEntry (liv l f 0) = true ∧ ∀ i, i < (List.getD p.funcs f []).length → nodeL p l bg f i = 0
theorem fineL_of {p : api_Program} {l : List api_Section} {bg : W32} (hl : l.length = p.funcs.length) (h : FineL p l bg) : checkL p l bg = ⟨0, 0, 0⟩ := by
  unfold checkL
  rw [findO_all]
  intro f _ hf
  obtain ⟨h2, h3⟩ := h f (by omega)
  have : findO (nodeLO p l bg f) 0 (List.getD p.funcs f []).length = none := findO_all fun i _ hi => if_pos (h3 i (by omega))
  unfold funcLO
  rw [if_neg (by rw [h2]; decide), this]
  rfl
theorem fineL_to {p : api_Program} {l : List api_Section} {bg : W32} (hl : l.length = p.funcs.length) (h : (checkL p l bg).what = 0) : FineL p l bg := by
  have hnz : ∀ f x, funcLO p l bg f = some x → x.2 ≠ 0 := fun f x hx => by
    unfold funcLO at hx
    split at hx
    · rw [← Option.some.inj hx]; decide
    · cases hq : findO (nodeLO p l bg f) 0 (List.getD p.funcs f []).length with
      | none => rw [hq] at hx; cases hx
      | some z =>
        rw [hq] at hx
        have h4 := (findO_some hq).2.2
        unfold nodeLO at h4
        split at h4
        · cases h4
        · rename_i h5
          rw [Option.some.inj h4] at h5
          have := Option.some.inj hx
          rw [← this]
          exact h5
  have hno : findO (funcLO p l bg) 0 l.length = none := by
    cases hq : findO (funcLO p l bg) 0 l.length with
    | none => rfl
    | some x =>
      exfalso
      have h1 := (findO_some hq).2.2
      unfold checkL at h
      rw [hq] at h
      exact hnz _ _ h1 h
  intro f hf
  have h1 := findO_none hno f (Nat.zero_le _) (by omega)
  unfold funcLO at h1
  split at h1
  · cases h1
  · rename_i h2
    refine ⟨by simpa using h2, fun i hi => ?_⟩
    cases hq : findO (nodeLO p l bg f) 0 (List.getD p.funcs f []).length with
    | none =>
      have := findO_none hq i (Nat.zero_le _) (by omega)
      unfold nodeLO at this
      split at this
      · assumption
      · cases this
    | some x => rw [hq] at h1; cases h1
theorem mayChecks (p : api_Program) (l : List api_Section) : alibilaw16_MayChecks p l = some true := by
  unfold alibilaw16_MayChecks
  rw [awake16]
  simp only [bind, Option.bind_some, Bool.not_true, Bool.false_eq_true, if_false]
  obtain ⟨sm, s1, s2⟩ := small_eq p
  rw [s1]
  simp only [Option.bind_some]
  cases sm with
  | false => rfl
  | true =>
    rw [if_neg (by decide)]
    obtain ⟨fw, f1⟩ := few_eq l
    rw [f1]
    simp only [Option.bind_some]
    cases fw with
    | false => rfl
    | true =>
      rw [if_neg (by decide)]
      have hlost : may_Lost p = some p.slots := rfl
      obtain ⟨⟨ra, rb, re⟩, r1, r2, r3, r4⟩ := check_eq p
      by_cases he : re = 0
      · obtain ⟨r5, hg⟩ := r3 he
        rw [r5] at r1 r2
        obtain ⟨bg, k1, k2, k3⟩ := may_good p hg r1
        obtain ⟨c1, c2⟩ := refcheck16_eq p hg l k1
        have hw : ∃ w : api_Fault, may_Check p l = some (w, 0) ∧ alibiref16_Check p l = some w := by
          by_cases hs : Shp p l
          · exact ⟨_, k2 l hs, c1 hs⟩
          · exact ⟨_, k3 l hs, c2 hs⟩
        obtain ⟨w, w1, w2⟩ := hw
        rw [w1]
        simp only [Option.bind_some]
        rw [hlost]
        simp only [Option.bind_some]
        rw [if_neg (neF rfl), r2]
        simp only [Option.bind_some]
        rw [if_neg (by decide), if_pos (by decide), w2]
        simp
      · rw [may_bad p r1 he]
        simp only [Option.bind_some]
        rw [hlost]
        simp only [Option.bind_some]
        rw [if_neg (neF rfl), r2]
        simp only [Option.bind_some]
        rw [if_pos (neT he), if_pos (eqT rfl)]
        rfl
/-! ### all may live -/
theorem more_l10 (fs : FS) (f : Nat) (hf : f < fs.length) (hle : (List.getD fs f []).length ≤ 65536) (z0 : List api_Section) (x3 x4 x5 : Int) (x7 x8 x9 x10 : W32) (x11 : Int) : ∀ (m i : Nat) (x y : List W32), i + m = (List.getD fs f []).length → x.length = i → y.length = i → (∀ j, j < i → List.getD y j 0#32 = 511#32) →
    ∃ x' y', alibilaw16_MayMore_l10 z0 x y x3 x4 x5 fs x7 x8 x9 x10 x11 (f : Int) (i : Int) = some (x', y') ∧ x'.length = (List.getD fs f []).length ∧ y'.length = (List.getD fs f []).length ∧ ∀ j, j < (List.getD fs f []).length → List.getD y' j 0#32 = 511#32
  | 0, i, x, y, h, h1, h2, h3 => by
    rw [alibilaw16_MayMore_l10, if_pos (decide_eq_true (by omega)), if_pos (decide_eq_true (by omega)), Int.toNat_natCast f, if_neg (by simp only [decide_eq_true_eq]; omega)]
    exact ⟨x, y, rfl, by omega, by omega, fun j hj => h3 j (by omega)⟩
  | m + 1, i, x, y, h, h1, h2, h3 => by
    rw [alibilaw16_MayMore_l10, if_pos (decide_eq_true (by omega)), if_pos (decide_eq_true (by omega)), Int.toNat_natCast f, if_pos (decide_eq_true (by omega)), if_pos (Nat.ble_eq_true_of_le (by simp only [List.length_singleton, reach]; omega)), if_pos (Nat.ble_eq_true_of_le (by simp only [List.length_singleton, reach]; omega)), inc i (by omega)]
    refine more_l10 fs f hf hle z0 x3 x4 x5 x7 x8 x9 x10 x11 m (i + 1) _ _ (by omega) (by simp [h1]) (by simp [h2]) fun j hj => ?_
    rw [getD_snoc]
    split
    · rfl
    · exact h3 j (by omega)
/-- A section that tells that all may live. -/
structure All (p : api_Program) (f : Nat) (s : api_Section) : Prop where
  entry : s.liveEntry = 511#32
  exit : s.liveExit = 511#32
  hl : s.held.length = (List.getD p.funcs f []).length
  ll : s.live.length = (List.getD p.funcs f []).length
  live : ∀ j, j < (List.getD p.funcs f []).length → List.getD s.live j 0#32 = 511#32
theorem more_l6 (p : api_Program) (hlen : ∀ f, (List.getD p.funcs f []).length ≤ 65536) (hn : p.funcs.length ≤ 65536) : ∀ (m f : Nat) (z : List api_Section), f + m = p.funcs.length → z.length = f → (∀ g, g < f → All p g (sec z g)) → ∃ z', alibilaw16_MayMore_l6 z p.globals p.locks p.slots p.funcs 0 (f : Int) = some z' ∧ z'.length = p.funcs.length ∧ ∀ g, g < p.funcs.length → All p g (sec z' g)
  | 0, f, z, h, h1, h2 => by
    rw [alibilaw16_MayMore_l6, if_neg (by simp only [decide_eq_true_eq]; omega)]
    exact ⟨z, rfl, by omega, fun g hg => h2 g (by omega)⟩
  | m + 1, f, z, h, h1, h2 => by
    obtain ⟨x, y, q1, q2, q3, q4⟩ := more_l10 p.funcs f (by omega) (hlen f) z p.globals p.locks p.slots 0#32 0#32 511#32 511#32 0 (List.getD p.funcs f []).length 0 [] [] (by omega) rfl rfl (fun j hj => by omega)
    rw [show ((0 : Nat) : Int) = 0 from rfl] at q1
    rw [alibilaw16_MayMore_l6, if_pos (decide_eq_true (by omega)), if_pos (by decide), bind_some q1, if_pos (Nat.ble_eq_true_of_le (by simp only [List.length_singleton, reach]; omega)), inc f (by omega)]
    refine more_l6 p hlen hn m (f + 1) _ (by omega) (by simp [h1]) fun g hg => ?_
    show All p g (List.getD (z ++ [_]) g d_api_Section)
    rw [getD_snoc]
    split
    · rename_i e
      have : g = f := by omega
      subst this
      exact ⟨rfl, rfl, q2, q3, q4⟩
    · exact h2 g (by omega)
theorem subb_refl (a : W32) : subb a a = true := subb_iff.2 fun i h => h
theorem bit511 (k : Nat) (hk : k ≤ 8) : (511#32).getLsbD k = true := by
  have : ∀ k, k ≤ 8 → (511#32).getLsbD k = true := by decide
  exact this k hk
theorem one511 {id : Int} (h0 : 0 ≤ id) (h8 : id ≤ 8) : subb (one id) 511#32 = true := subb_iff.2 fun i hi => by
  have := (one_bit id i).1 hi
  exact bit511 i (by omega)
theorem subb_or1 {a b c : W32} (h : subb a c = true) (k : subb b c = true) : subb (a ||| b) c = true := subb_iff.2 fun i hi => by
  rw [BitVec.getLsbD_or, Bool.or_eq_true] at hi
  exact hi.elim (subb_iff.1 h i) (subb_iff.1 k i)
theorem subb_zero (a : W32) : subb 0#32 a = true := subb_iff.2 fun i h => by simp at h
theorem mayMore (p : api_Program) : alibilaw16_MayMore p = some true := by
  unfold alibilaw16_MayMore
  rw [awake16]
  simp only [bind, Option.bind_some, Bool.not_true, Bool.false_eq_true, if_false]
  obtain ⟨sm, s1, s2⟩ := small_eq p
  rw [s1]
  simp only [Option.bind_some]
  cases sm with
  | false => rfl
  | true =>
    rw [if_neg (by decide)]
    have hn := (s2 rfl).1
    have hlen := (s2 rfl).2
    obtain ⟨⟨ra, rb, re⟩, r1, r2, r3, r4⟩ := check_eq p
    rw [r2]
    simp only [Option.bind_some]
    by_cases he : re = 0
    · obtain ⟨r5, hg⟩ := r3 he
      rw [r5] at r1
      subst he
      obtain ⟨l, l1, l2, l3⟩ := more_l6 p (fun f => by have := hlen f; omega) (by omega) p.funcs.length 0 [] (by omega) rfl (fun g hg => by omega)
      rw [show ((0 : Nat) : Int) = 0 from rfl] at l1
      rw [l1]
      simp only [Option.bind_some]
      obtain ⟨bg, k1, k2, k3⟩ := may_good p hg r1
      have hs : Shp p l := ⟨l2, fun f hf => ⟨(l3 f hf).hl, (l3 f hf).ll⟩⟩
      have hh : ∀ f i, f < p.funcs.length → i < (List.getD p.funcs f []).length → liv l f i = 511#32 := fun f i hf hi => (l3 f hf).live i hi
      have hf : FineL p l bg := fun f hf => by
        have hlp := (hg.len f hf).1
        refine ⟨by rw [hh f 0 hf hlp, (l3 f hf).entry]; exact subb_refl _, fun i hi => ?_⟩
        have hok := hg.node f i hf hi
        have hjr := succ_ok hok (by omega)
        have hsl := hg.slots
        have hsp : (nde p f i).kind = 5 → 0 ≤ (nde p f i).arg ∧ (nde p f i).arg < p.funcs.length ∧ 0 ≤ (nde p f i).alt ∧ (nde p f i).alt < p.slots := hok.spawn
        have hc : (nde p f i).kind = 7 → 0 ≤ (nde p f i).arg ∧ (nde p f i).arg < p.funcs.length := hok.call
        rw [nodeL_r (fun hk => by
          have h1 := hc hk
          rw [hh f i hf hi, (l3 _ (by omega)).entry]; exact subb_refl _) (fun hk => by rw [hh f i hf hi, (l3 f hf).exit]; exact subb_refl _) (fun hk => by
          have h1 := hsp hk
          rw [(l3 _ (by omega)).entry]
          unfold hasb
          rw [if_pos (by omega)]
          exact bit511 _ (by omega)), if_pos]
        unfold onL
        rw [List.all_eq_true]
        intro y hy
        have hyr := hjr y hy
        rw [hh f i hf hi, hh f y.toNat hf (by omega)]
        unfold lbh
        split
        · rename_i hk
          have h1 := hsp hk
          refine subb_or1 (subb_or1 (subb_refl _) (one511 h1.2.2.1 (by omega))) ?_
          split
          · exact one511 hsl.1 hsl.2
          · exact subb_zero _
        · split
          · refine subb_iff.2 fun j hj => ?_
            rw [BitVec.getLsbD_and, Bool.and_eq_true] at hj
            exact hj.1
          · split
            · rename_i hk
              have h1 := hc hk
              unfold xit
              rw [if_pos hk, show (List.getD l (nde p f i).arg.toNat d_api_Section).liveExit = 511#32 from (l3 _ (by omega)).exit]
              exact subb_refl _
            · exact subb_refl _
      rw [k2 l hs, fineL_of l2 hf]
      rfl
    · have hl : alibilaw16_MayMore_l6 [] p.globals p.locks p.slots p.funcs re 0 = some [] := by
        rw [alibilaw16_MayMore_l6]
        split
        · rw [if_neg (eqF he)]
        · rfl
      rw [hl]
      simp only [Option.bind_some]
      rw [may_bad p r1 he]
      simp only [Option.bind_some]
      rw [if_pos (eqT rfl)]
      rfl
/-! ### what both tell -/
theorem subb_and {a b c d : W32} (h : subb a c = true) (k : subb b d = true) : subb (a &&& b) (c &&& d) = true := subb_iff.2 fun i hi => by
  rw [BitVec.getLsbD_and, Bool.and_eq_true] at hi ⊢
  exact ⟨subb_iff.1 h i hi.1, subb_iff.1 k i hi.2⟩
theorem subb_and2 {a b c : W32} (h : subb c a = true) (k : subb c b = true) : subb c (a &&& b) = true := subb_iff.2 fun i hi => by
  rw [BitVec.getLsbD_and, Bool.and_eq_true]
  exact ⟨subb_iff.1 h i hi, subb_iff.1 k i hi⟩
theorem subb_trans {a b c : W32} (h : subb a b = true) (k : subb b c = true) : subb a c = true := subb_iff.2 fun i hi => subb_iff.1 k i (subb_iff.1 h i hi)
theorem subb_or {a b c d : W32} (h : subb a c = true) (k : subb b d = true) : subb (a ||| b) (c ||| d) = true := subb_iff.2 fun i hi => by
  rw [BitVec.getLsbD_or, Bool.or_eq_true] at hi ⊢
  exact hi.imp (subb_iff.1 h i) (subb_iff.1 k i)
theorem lbh_mono {x : api_Node} {h k e g : W32} {lost : Int} {bb : Bool} (hh : subb h k = true) (he : subb e g = true) : subb (lbh x h e lost bb) (lbh x k g lost bb) = true := by
  unfold lbh
  split
  · refine subb_or (subb_or hh (subb_refl _)) ?_
    split
    · rename_i hc
      rw [if_pos (hc.imp (fun x => x) fun h1 => hasb_mono hh h1)]
      exact subb_refl _
    · exact subb_zero _
  · split
    · refine subb_iff.2 fun i hi => ?_
      rw [BitVec.getLsbD_and, Bool.and_eq_true] at hi ⊢
      exact ⟨subb_iff.1 hh i hi.1, hi.2⟩
    · split
      · exact he
      · exact hh
theorem meet_l13 (z0 : List api_Section) (x1 : List W32) (x3 x4 x5 : Int) (fs : FS) (x7 x8 x9 x10 : W32) (a b : List api_Section) (f : Nat) (ha : f < a.length) (hb : f < b.length) (hl : (List.getD b f d_api_Section).live.length = (List.getD a f d_api_Section).live.length) (hle : (List.getD a f d_api_Section).live.length ≤ 65536) : ∀ (m i : Nat) (x : List W32), i + m = (List.getD a f d_api_Section).live.length → x.length = i → (∀ j, j < i → List.getD x j 0#32 = liv a f j &&& liv b f j) →
    ∃ x', alibilaw16_MayMeet_l13 z0 x1 x x3 x4 x5 fs x7 x8 x9 x10 a b (f : Int) (i : Int) = some x' ∧ x'.length = (List.getD a f d_api_Section).live.length ∧ ∀ j, j < (List.getD a f d_api_Section).live.length → List.getD x' j 0#32 = liv a f j &&& liv b f j
  | 0, i, x, h, h1, h2 => by
    rw [alibilaw16_MayMeet_l13, if_pos (decide_eq_true (by omega)), if_pos (decide_eq_true (by omega)), Int.toNat_natCast f, if_neg (by simp only [decide_eq_true_eq]; omega)]
    exact ⟨x, rfl, by omega, fun j hj => h2 j (by omega)⟩
  | m + 1, i, x, h, h1, h2 => by
    rw [alibilaw16_MayMeet_l13, if_pos (decide_eq_true (by omega)), if_pos (decide_eq_true (by omega)), Int.toNat_natCast f, if_pos (decide_eq_true (by omega)), if_pos (decide_eq_true (by omega)), if_pos (decide_eq_true (by omega)), if_pos (decide_eq_true (by omega)), if_pos (decide_eq_true (by omega)), Int.toNat_natCast i, if_pos (Nat.ble_eq_true_of_le (by simp only [List.length_singleton, reach]; omega)), inc i (by omega)]
    refine meet_l13 z0 x1 x3 x4 x5 fs x7 x8 x9 x10 a b f ha hb hl hle m (i + 1) _ (by omega) (by simp [h1]) fun j hj => ?_
    rw [getD_snoc]
    split
    · rename_i e
      have : j = i := by omega
      subst this
      rfl
    · exact h2 j (by omega)
/-- A section that tells what both tell. -/
structure Meet (p : api_Program) (a b : List api_Section) (f : Nat) (s : api_Section) : Prop where
  entry : s.liveEntry = (sec a f).liveEntry &&& (sec b f).liveEntry
  exit : s.liveExit = (sec a f).liveExit &&& (sec b f).liveExit
  hl : s.held.length = (List.getD p.funcs f []).length
  ll : s.live.length = (List.getD p.funcs f []).length
  live : ∀ j, j < (List.getD p.funcs f []).length → List.getD s.live j 0#32 = liv a f j &&& liv b f j
theorem meet_l9 (p : api_Program) (hg : Good p) (a b : List api_Section) (ha : Shp p a) (hb : Shp p b) : ∀ (m f : Nat) (z : List api_Section), f + m = a.length → z.length = f → (∀ g, g < f → Meet p a b g (sec z g)) → ∃ z', alibilaw16_MayMeet_l9 z p.globals p.locks p.slots p.funcs a b (f : Int) = some z' ∧ z'.length = p.funcs.length ∧ ∀ g, g < p.funcs.length → Meet p a b g (sec z' g)
  | 0, f, z, h, h1, h2 => by
    have hal := ha.1
    rw [alibilaw16_MayMeet_l9, if_neg (by simp only [decide_eq_true_eq]; omega)]
    exact ⟨z, rfl, by omega, fun g hg => h2 g (by omega)⟩
  | m + 1, f, z, h, h1, h2 => by
    have hal := ha.1
    have hbl := hb.1
    have hn := hg.funcs.2
    have hle := hg.le f
    obtain ⟨a1, a2⟩ : (List.getD a f d_api_Section).held.length = (List.getD p.funcs f []).length ∧ (List.getD a f d_api_Section).live.length = (List.getD p.funcs f []).length := ha.2 f (by omega)
    obtain ⟨b1, b2⟩ : (List.getD b f d_api_Section).held.length = (List.getD p.funcs f []).length ∧ (List.getD b f d_api_Section).live.length = (List.getD p.funcs f []).length := hb.2 f (by omega)
    obtain ⟨x, q1, q2, q3⟩ := meet_l13 z (([] : List W32) ++ (List.getD a f d_api_Section).held) p.globals p.locks p.slots p.funcs 0#32 0#32 ((List.getD a f d_api_Section).liveEntry &&& (List.getD b f d_api_Section).liveEntry) ((List.getD a f d_api_Section).liveExit &&& (List.getD b f d_api_Section).liveExit) a b f (by omega) (by omega) (by omega) (by omega) (List.getD a f d_api_Section).live.length 0 [] (by omega) rfl (fun j hj => by omega)
    rw [show ((0 : Nat) : Int) = 0 from rfl] at q1
    rw [alibilaw16_MayMeet_l9, if_pos (decide_eq_true (by omega)), if_pos (decide_eq_true (by omega)), if_pos (decide_eq_true (by omega)), if_pos (decide_eq_true (by omega)), Int.toNat_natCast f, if_pos (Nat.ble_eq_true_of_le (by simp only [List.length_nil, reach]; omega)), bind_some q1, if_pos (Nat.ble_eq_true_of_le (by simp only [List.length_singleton, reach]; omega)), inc f (by omega)]
    refine meet_l9 p hg a b ha hb m (f + 1) _ (by omega) (by simp [h1]) fun g hgf => ?_
    show Meet p a b g (List.getD (z ++ [_]) g d_api_Section)
    rw [getD_snoc]
    split
    · rename_i e
      have : g = f := by omega
      subst this
      exact ⟨rfl, rfl, by simpa using a1, by show x.length = _; omega, fun j hj => q3 j (by omega)⟩
    · exact h2 g (by omega)
theorem mayMeet (p : api_Program) (a b : List api_Section) : alibilaw16_MayMeet p a b = some true := by
  unfold alibilaw16_MayMeet
  rw [awake16]
  simp only [bind, Option.bind_some, Bool.not_true, Bool.false_eq_true, if_false]
  obtain ⟨sm, s1, s2⟩ := small_eq p
  rw [s1]
  simp only [Option.bind_some]
  cases sm with
  | false => rfl
  | true =>
  rw [if_neg (by decide)]
  obtain ⟨fa, f1⟩ := few_eq a
  rw [f1]
  simp only [Option.bind_some]
  cases fa with
  | false => rfl
  | true =>
  rw [if_neg (by decide)]
  obtain ⟨fb, f2⟩ := few_eq b
  rw [f2]
  simp only [Option.bind_some]
  cases fb with
  | false => rfl
  | true =>
  rw [if_neg (by decide)]
  obtain ⟨⟨ra, rb, re⟩, r1, r2, r3, r4⟩ := check_eq p
  by_cases he : re = 0
  · obtain ⟨r5, hg⟩ := r3 he
    rw [r5] at r1
    obtain ⟨bg, k1, k2, k3⟩ := may_good p hg r1
    have hn := hg.funcs.2
    have hcheck : ∀ l, ∃ w : api_Fault, may_Check p l = some (w, 0) ∧ (w.what = 0 → Shp p l ∧ FineL p l bg) := fun l => by
      by_cases hs : Shp p l
      · exact ⟨_, k2 l hs, fun h => ⟨hs, fineL_to hs.1 h⟩⟩
      · exact ⟨_, k3 l hs, fun h => by cases h⟩
    obtain ⟨wa, a1, a2⟩ := hcheck a
    obtain ⟨wb, b1, b2⟩ := hcheck b
    rw [a1]
    simp only [Option.bind_some]
    rw [b1]
    simp only [Option.bind_some]
    rw [if_neg (by decide)]
    by_cases ha : wa.what = 0
    · rw [if_neg (neF ha)]
      by_cases hb : wb.what = 0
      · rw [if_neg (neF hb)]
        obtain ⟨sa, fina⟩ := a2 ha
        obtain ⟨sb, finb⟩ := b2 hb
        have hal := sa.1
        obtain ⟨z, z1, z2, z3⟩ := meet_l9 p hg a b sa sb a.length 0 [] (by omega) rfl (fun g hg => by omega)
        rw [show ((0 : Nat) : Int) = 0 from rfl] at z1
        rw [z1]
        simp only [Option.bind_some]
        have sz : Shp p z := ⟨z2, fun f hf => ⟨(z3 f hf).hl, (z3 f hf).ll⟩⟩
        have fz : FineL p z bg := fun f hf => by
          obtain ⟨x2, x3⟩ := fina f hf
          obtain ⟨y2, y3⟩ := finb f hf
          have hlp := (hg.len f hf).1
          have e0 : liv z f 0 = liv a f 0 &&& liv b f 0 := (z3 f hf).live 0 hlp
          refine ⟨by rw [e0, (z3 f hf).entry]; exact subb_and x2 y2, fun i hi => ?_⟩
          obtain ⟨p7, p9, p5, p3⟩ := nodeL_zero (x3 i hi)
          obtain ⟨q7, q9, q5, q3⟩ := nodeL_zero (y3 i hi)
          have ei : liv z f i = liv a f i &&& liv b f i := (z3 f hf).live i hi
          have hok := hg.node f i hf hi
          have hjr := succ_ok hok (by omega)
          have hsl := hg.slots
          have hsp : (nde p f i).kind = 5 → (nde p f i).arg.toNat < p.funcs.length := fun hk => by
            have h1 : 0 ≤ (nde p f i).arg ∧ (nde p f i).arg < p.funcs.length ∧ 0 ≤ (nde p f i).alt ∧ (nde p f i).alt < p.slots := hok.spawn hk
            omega
          have hc : (nde p f i).kind = 7 → (nde p f i).arg.toNat < p.funcs.length := fun hk => by
            have h1 : 0 ≤ (nde p f i).arg ∧ (nde p f i).arg < p.funcs.length := hok.call hk
            omega
          have land : ∀ c d : W32, subb (c &&& d) c = true := fun c d => subb_iff.2 fun j hj => by
            rw [BitVec.getLsbD_and, Bool.and_eq_true] at hj; exact hj.1
          have rand : ∀ c d : W32, subb (c &&& d) d = true := fun c d => subb_iff.2 fun j hj => by
            rw [BitVec.getLsbD_and, Bool.and_eq_true] at hj; exact hj.2
          have ex : xit z (nde p f i) = xit a (nde p f i) &&& xit b (nde p f i) := by
            unfold xit
            by_cases hk : (nde p f i).kind = 7
            · rw [if_pos hk, if_pos hk, if_pos hk]
              exact (z3 _ (hc hk)).exit
            · rw [if_neg hk, if_neg hk, if_neg hk]; rfl
          rw [nodeL_r (fun hk => by rw [ei, (z3 _ (hc hk)).entry]; exact subb_and (p7 hk) (q7 hk)) (fun hk => by rw [ei, (z3 f hf).exit]; exact subb_and (p9 hk) (q9 hk)) (fun hk => by
            have h1 := p5 hk
            have h2 := q5 hk
            rw [(z3 _ (hsp hk)).entry]
            unfold hasb at h1 h2 ⊢
            rw [if_pos (by omega)] at h1 h2 ⊢
            rw [BitVec.getLsbD_and, h1, h2]
            rfl), if_pos]
          unfold onL at p3 q3 ⊢
          rw [List.all_eq_true] at p3 q3 ⊢
          intro y hy
          have hyr := hjr y hy
          have ey : liv z f y.toNat = liv a f y.toNat &&& liv b f y.toNat := (z3 f hf).live y.toNat (by omega)
          rw [ey, ei, ex]
          exact subb_and2 (subb_trans (lbh_mono (land _ _) (land _ _)) (p3 y hy)) (subb_trans (lbh_mono (rand _ _) (rand _ _)) (q3 y hy))
        rw [k2 z sz, fineL_of z2 fz]
        rfl
      · rw [if_pos (neT hb)]
    · rw [if_pos (neT ha)]
  · rw [may_bad p r1 he, may_bad p r1 he]
    simp only [Option.bind_some]
    rw [if_pos (neT he)]
end Go.Bm.GoYtldkmmnffjdliaa
