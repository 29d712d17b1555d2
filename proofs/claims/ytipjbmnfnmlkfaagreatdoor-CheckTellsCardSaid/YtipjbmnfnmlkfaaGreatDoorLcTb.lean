import Derived.Test.YtipjbmnfnmlkfaaGreatDoorLcTa
namespace Go.Bm.GoYtipjbmnfnmlkfaaGreatDoor
set_option autoImplicit false
set_option linter.unusedVariables false
set_option linter.unusedSimpArgs false
set_option maxRecDepth 100000
theorem refbehind_eq (p : api_Program) (hg : Good p) (l : List api_Section) (hl : l.length = p.funcs.length) {u : List W32} {fm : W32} (hk : Know p u fm) (x : api_Node) (hx : x.kind = 7 → 0 ≤ x.arg ∧ x.arg < p.funcs.length) (lock : Nat) (hlk : lock < 32) (h : W32) : alibiref15_Behind p l x (lock : Int) (h.getLsbD lock) = some ((bhd u l x h).getLsbD lock) := by
  unfold alibiref15_Behind bhd
  by_cases h3 : x.kind = 3
  · rw [if_pos (eqT h3), if_pos h3]
    have e : (h ||| one x.arg).getLsbD lock = (h.getLsbD lock || ((lock : Int) == x.arg)) := by
      rw [BitVec.getLsbD_or]
      congr 1
      rw [Bool.eq_iff_iff, one_bit, beq_iff_eq]
      exact ⟨fun h => h.1.symm, fun h => ⟨h.symm, hlk⟩⟩
    rw [e]
    cases h.getLsbD lock <;> rfl
  · rw [if_neg (eqF h3), if_neg h3]
    by_cases h4 : x.kind = 4
    · rw [if_pos (eqT h4), if_pos h4]
      have e : (h &&& ~~~(one x.arg)).getLsbD lock = (h.getLsbD lock && ((lock : Int) != x.arg)) := by
        rw [BitVec.getLsbD_and, BitVec.getLsbD_not, decide_eq_true hlk, Bool.true_and]
        congr 1
        have : (one x.arg).getLsbD lock = ((lock : Int) == x.arg) := by
          rw [Bool.eq_iff_iff, one_bit, beq_iff_eq]
          exact ⟨fun h => h.1.symm, fun h => ⟨h.symm, hlk⟩⟩
        rw [this]
        rfl
      rw [e]
      cases h.getLsbD lock <;> rfl
    · rw [if_neg (eqF h4), if_neg h4]
      by_cases h7 : x.kind = 7
      · obtain ⟨a1, a2⟩ := hx h7
        obtain ⟨c, hcc⟩ : ∃ c : Nat, x.arg = (c : Int) := ⟨_, (Int.toNat_of_nonneg a1).symm⟩
        obtain ⟨t, t1, t2, t3⟩ := refgather_eq p hg c (by omega) 4 4
        obtain ⟨g, g1, g2⟩ := refbehind_l10 t (by have := t2.length_le (by omega); omega) x.kind x.arg x.next x.alt l lock (h.getLsbD lock) t.length 0 false (by omega)
        rw [show ((0 : Nat) : Int) = 0 from rfl] at g1
        rw [List.drop_zero] at g2
        have hgu : g = (List.getD u c 0#32).getLsbD lock := by
          rw [Bool.eq_iff_iff, g2, t3, hk.ub c (by omega), mayU]
          simp
        rw [if_pos (eqT h7), if_pos h7, bind_some (show alibiref14_Gather p x.arg 4 4 = some t by rw [hcc]; exact t1), bind_some g1]
        have hex : alibiref03_Has (List.getD l c d_api_Section).exit (lock : Int) = some ((List.getD l c d_api_Section).exit.getLsbD lock) := by rw [refhas_eq, if_pos (by omega), Int.toNat_natCast]
        have e : ((h &&& ~~~(List.getD u x.arg.toNat 0#32)) ||| (List.getD l x.arg.toNat d_api_Section).exit).getLsbD lock = ((h.getLsbD lock && !g) || (List.getD l c d_api_Section).exit.getLsbD lock) := by
          rw [hcc, Int.toNat_natCast, BitVec.getLsbD_or, BitVec.getLsbD_and, BitVec.getLsbD_not, decide_eq_true hlk, Bool.true_and, hgu]
        rw [e]
        cases hb : h.getLsbD lock with
        | true =>
          rw [if_pos rfl]
          cases g with
          | true => rw [if_neg (by decide), if_pos (decide_eq_true a1), if_pos (decide_eq_true (by omega)), hcc, Int.toNat_natCast, bind_some hex]; simp
          | false => rw [if_pos (by decide)]; simp
        | false => rw [if_neg (by decide), if_pos (decide_eq_true a1), if_pos (decide_eq_true (by omega)), hcc, Int.toNat_natCast, bind_some hex]; simp
      · rw [if_neg (eqF h7), if_neg h7]
theorem refnode_l12 (p : api_Program) (hg : Good p) (l : List api_Section) (hl : l.length = p.funcs.length) {u : List W32} {fm : W32} (hk : Know p u fm) (f : Nat) (hf : f < p.funcs.length) (x : api_Node) (hx : x.kind = 7 → 0 ≤ x.arg ∧ x.arg < p.funcs.length) (h : W32) (js : List Int) (hjl : js.length ≤ 2) (hj : ∀ y ∈ js, 0 ≤ y ∧ y < ((List.getD l f d_api_Section).held.length : Int)) (k : Nat) (hkl : k < js.length) :
    ∀ (m i : Nat), i + m = 32 → ∃ c, alibiref15_Node_l12 js p.globals p.locks p.slots p.funcs x.kind x.arg x.next x.alt l (f : Int) h (k : Int) (i : Int) = some (if c = true then .x1 else .x0 3) ∧ (c = true ↔ ∀ b, i ≤ b → (hld l f js[k].toNat).getLsbD b = true → (bhd u l x h).getLsbD b = true)
  | 0, i, hi => by
    rw [alibiref15_Node_l12, if_neg (by simp only [decide_eq_true_eq]; omega)]
    exact ⟨true, rfl, ⟨fun _ b hb h1 => by have := bit_lt h1; omega, fun _ => rfl⟩⟩
  | m + 1, i, hi => by
    have hg0 : List.getD js k 0 = js[k] := by simp [List.getD, hkl]
    have hr := hj _ (List.getElem_mem hkl)
    obtain ⟨c, ih, hc⟩ := refnode_l12 p hg l hl hk f hf x hx h js hjl hj k hkl m (i + 1) (by omega)
    have eb : alibiref15_Behind (api_Program.mk p.globals p.locks p.slots p.funcs) l (api_Node.mk x.kind x.arg x.next x.alt) (i : Int) (h.getLsbD i) = some ((bhd u l x h).getLsbD i) := refbehind_eq p hg l hl hk x hx i (by omega) h
    rw [alibiref15_Node_l12, if_pos (decide_eq_true (by omega)), if_pos (decide_eq_true (by omega)), if_pos (decide_eq_true (by omega)), if_pos (decide_eq_true (by omega)), if_pos (decide_eq_true (by omega)), Int.toNat_natCast k, hg0, if_pos (decide_eq_true hr.1), Int.toNat_natCast f, if_pos (decide_eq_true hr.2), bind_some (show alibiref03_Has (List.getD (List.getD l f d_api_Section).held js[k].toNat 0#32) (i : Int) = some ((hld l f js[k].toNat).getLsbD i) by rw [refhas_eq, if_pos (by omega), Int.toNat_natCast]), inc i (by omega), ih]
    have skip : ((hld l f js[k].toNat).getLsbD i = true → (bhd u l x h).getLsbD i = true) → (c = true ↔ ∀ b, i ≤ b → (hld l f js[k].toNat).getLsbD b = true → (bhd u l x h).getLsbD b = true) := fun h0 => by
      rw [hc]
      exact ⟨fun h1 b hb ha => by
        rcases Nat.eq_or_lt_of_le hb with rfl | hb
        · exact h0 ha
        · exact h1 b hb ha, fun h1 b hb => h1 b (by omega)⟩
    by_cases ha : (hld l f js[k].toNat).getLsbD i = true
    · rw [if_pos ha, bind_some (show alibiref03_Has h (i : Int) = some (h.getLsbD i) by rw [refhas_eq, if_pos (by omega), Int.toNat_natCast]), bind_some eb]
      by_cases hb : (bhd u l x h).getLsbD i = true
      · rw [if_neg (by rw [hb]; decide)]
        exact ⟨c, rfl, skip fun _ => hb⟩
      · rw [if_pos (by simpa using hb)]
        exact ⟨false, rfl, ⟨(fun h => by cases h), fun h1 => absurd (h1 i (Nat.le_refl _) ha) hb⟩⟩
    · rw [if_neg ha]
      exact ⟨c, rfl, skip fun h => absurd h ha⟩
theorem refnode_l9 (p : api_Program) (hg : Good p) (l : List api_Section) (hl : l.length = p.funcs.length) {u : List W32} {fm : W32} (hk : Know p u fm) (f : Nat) (hf : f < p.funcs.length) (x : api_Node) (hx : x.kind = 7 → 0 ≤ x.arg ∧ x.arg < p.funcs.length) (h : W32) (js : List Int) (hjl : js.length ≤ 2) (hj : ∀ y ∈ js, 0 ≤ y ∧ y < ((List.getD l f d_api_Section).held.length : Int)) :
    ∀ (m k : Nat), k + m = js.length → alibiref15_Node_l9 js p.globals p.locks p.slots p.funcs x.kind x.arg x.next x.alt l (f : Int) h (k : Int) = some (if (js.drop k).all (fun y => subb (hld l f y.toNat) (bhd u l x h)) = true then .x1 else .x0 3)
  | 0, k, hi => by
    rw [alibiref15_Node_l9, if_neg (by simp only [decide_eq_true_eq]; omega), List.drop_eq_nil_of_le (by omega)]
    rfl
  | m + 1, k, hi => by
    have hlt : k < js.length := by omega
    obtain ⟨c, q1, q2⟩ := refnode_l12 p hg l hl hk f hf x hx h js hjl hj k hlt 32 0 rfl
    rw [show ((0 : Nat) : Int) = 0 from rfl] at q1
    have hcs : c = subb (hld l f js[k].toNat) (bhd u l x h) := by
      rw [Bool.eq_iff_iff, q2, subb_iff]
      exact ⟨fun h b => h b (Nat.zero_le _), fun h b _ => h b⟩
    rw [alibiref15_Node_l9, if_pos (decide_eq_true (by omega)), bind_some q1, inc k (by omega), refnode_l9 p hg l hl hk f hf x hx h js hjl hj m (k + 1) (by omega), all_cons_drop hlt, hcs]
    cases subb (hld l f js[k].toNat) (bhd u l x h) with
    | false => rfl
    | true => rfl
theorem refnode_eq (p : api_Program) (hg : Good p) (l : List api_Section) (hs : Shp p l) {u : List W32} {fm : W32} (hkn : Know p u fm) (f i : Nat) (hf : f < p.funcs.length) (hi : i < (List.getD p.funcs f []).length) : alibiref15_Node p l (f : Int) (i : Int) = some (nodeW p l u f i) := by
  have hl := hs.1
  have hh : (List.getD l f d_api_Section).held.length = (List.getD p.funcs f []).length := (hs.2 f hf).1
  have hok := hg.node f i hf hi
  have hc := hok.call
  have hcn : (nde p f i).kind = 7 → 0 ≤ (nde p f i).arg ∧ (nde p f i).arg < p.funcs.length := hok.call
  have hle := hg.le f
  have hjr := succ_ok hok (by omega)
  have h7 := refnode_l9 p hg l hl hkn f hf (nde p f i) hcn (hld l f i) (succ (nde p f i)) (succ_len _) (fun y hy => by have := hjr y hy; omega) (succ (nde p f i)).length 0 (by omega)
  rw [show ((0 : Nat) : Int) = 0 from rfl, List.drop_zero] at h7
  unfold alibiref15_Node
  rw [if_pos (decide_eq_true (by omega)), if_pos (decide_eq_true (by omega)), if_pos (decide_eq_true (by omega)), Int.toNat_natCast f, if_pos (decide_eq_true (by omega)), if_pos (decide_eq_true (by omega)), if_pos (decide_eq_true (by omega)), Int.toNat_natCast i]
  by_cases hk7 : (List.getD (List.getD p.funcs f []) i d_api_Node).kind = 7
  · have ha := hc hk7
    rw [if_pos (eqT hk7), if_pos (decide_eq_true ha.1), if_pos (decide_eq_true (by omega)), bind_some (refwithin_eq _ _)]
    by_cases he : subb (List.getD l (List.getD (List.getD p.funcs f []) i d_api_Node).arg.toNat d_api_Section).entry (List.getD (List.getD l f d_api_Section).held i 0#32) = true
    · rw [he, if_neg (by decide), if_neg (eqF (by omega)), bind_some (refsucc_eq _), bind_some h7, nodeW_r (fun _ => he) (fun h => absurd (hk7.symm.trans h) (by decide))]
      by_cases ha : (succ (nde p f i)).all (fun y => subb (hld l f y.toNat) (bhd u l (nde p f i) (hld l f i))) = true
      · rw [if_pos ha, if_pos ha]
      · rw [if_neg ha, if_neg ha]
    · rw [if_pos (by simpa using he), nodeW_5 hk7 he]
  · rw [if_neg (eqF hk7)]
    by_cases hk9 : (List.getD (List.getD p.funcs f []) i d_api_Node).kind = 9
    · rw [if_pos (eqT hk9), bind_some (refwithin_eq _ _)]
      by_cases he : subb (List.getD l f d_api_Section).exit (List.getD (List.getD l f d_api_Section).held i 0#32) = true
      · rw [he, if_neg (by decide), bind_some (refsucc_eq _), bind_some h7, nodeW_r (fun h => absurd h hk7) (fun _ => he)]
        by_cases ha : (succ (nde p f i)).all (fun y => subb (hld l f y.toNat) (bhd u l (nde p f i) (hld l f i))) = true
        · rw [if_pos ha, if_pos ha]
        · rw [if_neg ha, if_neg ha]
      · rw [if_pos (by simpa using he), nodeW_4 hk9 he]
    · rw [if_neg (eqF hk9), bind_some (refsucc_eq _), bind_some h7, nodeW_r (fun h => absurd h hk7) (fun h => absurd h hk9)]
      by_cases ha : (succ (nde p f i)).all (fun y => subb (hld l f y.toNat) (bhd u l (nde p f i) (hld l f i))) = true
      · rw [if_pos ha, if_pos ha]
      · rw [if_neg ha, if_neg ha]
theorem refcheck_l11 (p : api_Program) (hg : Good p) (l : List api_Section) (hs : Shp p l) {u : List W32} {fm : W32} (hkn : Know p u fm) (x4 x5 x6 : Int) (f : Nat) (hf : f < p.funcs.length) : ∀ (m i : Nat), i + m = (List.getD p.funcs f []).length → alibiref15_Check_l11 p.globals p.locks p.slots p.funcs x4 x5 x6 l (f : Int) (i : Int) = some (match findO (nodeO p l u f) i m with | some (k, w) => .x0 k w | none => .x1)
  | 0, i, h => by
    rw [alibiref15_Check_l11, if_pos (decide_eq_true (by omega)), if_pos (decide_eq_true (by omega)), Int.toNat_natCast, if_neg (by simp only [decide_eq_true_eq]; omega)]
    rfl
  | m + 1, i, h => by
    have hle := hg.le f
    have e := refnode_eq p hg l hs hkn f i hf (by omega)
    rw [alibiref15_Check_l11, if_pos (decide_eq_true (by omega)), if_pos (decide_eq_true (by omega)), Int.toNat_natCast, if_pos (decide_eq_true (by omega)), bind_some (show alibiref15_Node (api_Program.mk p.globals p.locks p.slots p.funcs) l (f : Int) (i : Int) = _ from e), inc i (by omega), refcheck_l11 p hg l hs hkn x4 x5 x6 f hf m (i + 1) (by omega), findO_succ]
    unfold nodeO
    by_cases h0 : nodeW p l u f i = 0
    · rw [if_neg (neF h0), if_pos h0]
    · rw [if_pos (neT h0), if_neg h0]
def r4 : Option (Nat × (Int × Int)) → alibiref15_Check_l4_R
  | some (f, (k, w)) => .x0 f k w
  | none => .x1
theorem refcheck_l4 (p : api_Program) (hg : Good p) (l : List api_Section) (hs : Shp p l) {u : List W32} {fm : W32} (hkn : Know p u fm) : ∀ (m f : Nat), f + m = l.length → alibiref15_Check_l4 p.globals p.locks p.slots p.funcs 0 0 0 l (f : Int) = some (r4 (findO (funcO p l u fm) f m))
  | 0, f, h => by rw [alibiref15_Check_l4, if_neg (by simp only [decide_eq_true_eq]; omega)]; rfl
  | m + 1, f, h => by
    have hl := hs.1
    have hn := hg.funcs.2
    have hh : (List.getD l f d_api_Section).held.length = (List.getD p.funcs f []).length := (hs.2 f (by omega)).1
    have hp := (hg.len f (by omega)).1
    have ih := refcheck_l4 p hg l hs hkn m (f + 1) (by omega)
    have h7 := refcheck_l11 p hg l hs hkn 0 0 0 f (by omega) (List.getD p.funcs f []).length 0 (by omega)
    rw [show ((0 : Nat) : Int) = 0 from rfl] at h7
    rw [alibiref15_Check_l4, if_pos (decide_eq_true (by omega)), inc f (by omega), ih, Int.toNat_natCast f]
    have rest : ∀ (y : Option alibiref15_Check_l4_R), (if decide ((0 : Int) < ((List.length ((List.getD l f d_api_Section).held) : Nat) : Int)) = true then bind (alibiref03_Within (List.getD ((List.getD l f d_api_Section).held) 0 (0#32)) ((List.getD l f d_api_Section).entry)) fun v => if (!v) = true then some (.x0 f (-1) 3) else y else none) = if subb (hld l f 0) (sec l f).entry = false then some (.x0 f (-1) 3) else y := fun y => by
      rw [if_pos (decide_eq_true (by omega)), bind_some (refwithin_eq _ _)]
      cases subb (hld l f 0) (sec l f).entry <;> rfl
    have fin : ∀ (G : alibiref15_Check_l11_R → Option alibiref15_Check_l4_R), (∀ a b, G (.x0 a b) = some (.x0 f a b)) → G .x1 = some (r4 (findO (funcO p l u fm) (f + 1) m)) → ¬ (fm.getLsbD f = true ∧ (sec l f).entry ≠ 0#32) → (if subb (hld l f 0) (sec l f).entry = false then some (.x0 f (-1) 3) else bind (alibiref15_Check_l11 p.globals p.locks p.slots p.funcs 0 0 0 l (f : Int) 0) G) =
        some (r4 (findO (funcO p l u fm) f (m + 1))) := by
      intro G hG0 hG1 hno
      rw [findO_succ]
      by_cases hsb : subb (hld l f 0) (sec l f).entry = false
      · have hO : funcO p l u fm f = some (-1, 3) := by
          unfold funcO
          rw [funcW_3 hno (by rw [hsb]; decide)]
          rfl
        rw [if_pos hsb, hO] <;> rfl
      · have hst : subb (hld l f 0) (sec l f).entry = true := by simpa using hsb
        rw [if_neg hsb, bind_some h7]
        cases hq : findO (nodeO p l u f) 0 (List.getD p.funcs f []).length with
        | none =>
          have hO : funcO p l u fm f = none := by
            unfold funcO
            rw [funcW_r hno hst, hq]
            rfl
          rw [hO]
          exact hG1
        | some z =>
          have hw : z.2 ≠ 0 := by
            have := (findO_some hq).2.2
            unfold nodeO at this
            split at this
            · cases this
            · rename_i h0
              rw [← Option.some.inj this]
              exact h0
          have hO : funcO p l u fm f = some ((z.1 : Int), z.2) := by
            unfold funcO
            rw [funcW_r hno hst, hq]
            exact if_neg hw
          rw [hO]
          exact hG0 z.1 z.2
    have two : fm.getLsbD f = true ∧ (sec l f).entry ≠ 0#32 → funcO p l u fm f = some (-1, 2) := fun h => by
      unfold funcO funcW
      rw [if_pos h]
      rfl
    by_cases h0 : f = 0
    · have hfm : fm.getLsbD f = true := (hkn.fb f (by omega)).2 (.inl h0)
      rw [if_pos (eqT (by omega)), if_pos (decide_eq_true (by omega)), if_pos (decide_eq_true (by omega))]
      by_cases he : (List.getD l f d_api_Section).entry = 0#32
      · rw [if_neg (by simpa using he)]
        exact (rest _).trans (fin _ (fun _ _ => rfl) rfl fun h => h.2 he)
      · rw [if_pos (by simpa using he), findO_succ, two ⟨hfm, he⟩] <;> rfl
    · obtain ⟨b, b1, b2⟩ := refbegun_eq p hg f (by omega)
      rw [if_neg (eqF (by omega)), bind_some (show alibiref15_Begun (api_Program.mk p.globals p.locks p.slots p.funcs) (f : Int) = some b from b1)]
      by_cases hb : b = true
      · have hfm : fm.getLsbD f = true := (hkn.fb f (by omega)).2 (.inr (b2.1 hb))
        rw [if_pos hb, if_pos (decide_eq_true (by omega)), if_pos (decide_eq_true (by omega))]
        by_cases he : (List.getD l f d_api_Section).entry = 0#32
        · rw [if_neg (by simpa using he)]
          exact (rest _).trans (fin _ (fun _ _ => rfl) rfl fun h => h.2 he)
        · rw [if_pos (by simpa using he), findO_succ, two ⟨hfm, he⟩] <;> rfl
      · have hfm : ¬ fm.getLsbD f = true := fun h => ((hkn.fb f (by omega)).1 h).elim h0 fun h => hb (b2.2 h)
        rw [if_neg hb, if_pos (decide_eq_true (by omega)), if_pos (decide_eq_true (by omega))]
        exact (rest _).trans (fin _ (fun _ _ => rfl) rfl fun h => hfm h.1)
theorem refcheck_eq (p : api_Program) (hg : Good p) (l : List api_Section) {u : List W32} {fm : W32} (hkn : Know p u fm) : (Shp p l → alibiref15_Check p l = some (checkW p l u fm)) ∧ (¬ Shp p l → alibiref15_Check p l = some ⟨-1, -1, 1⟩) := by
  have hn := hg.funcs.2
  obtain ⟨b, _, b1, b2⟩ := shaped_eq p l (by omega)
  refine ⟨fun hs => ?_, fun hs => ?_⟩
  · have hb := b2.2 hs
    have h4 := refcheck_l4 p hg l hs hkn l.length 0 (by omega)
    rw [show ((0 : Nat) : Int) = 0 from rfl] at h4
    unfold alibiref15_Check
    rw [bind_some b1, hb, if_neg (by decide), bind_some h4]
    unfold checkW
    cases findO (funcO p l u fm) 0 l.length with
    | some y => rfl
    | none => rfl
  · have hb : b = false := by
      cases b with
      | false => rfl
      | true => exact absurd (b2.1 rfl) hs
    unfold alibiref15_Check
    rw [bind_some b1, hb, if_pos (by decide)]
theorem findO_all {β : Type} {q : Nat → Option β} : ∀ {m i : Nat}, (∀ k, i ≤ k → k < i + m → q k = none) → findO q i m = none
  | 0, i, h => rfl
  | m + 1, i, h => by
    rw [findO_succ, h i (Nat.le_refl _) (by omega)]
    exact findO_all fun k h1 h2 => h k (by omega) (by omega)
def Fine (p : api_Program) (l : List api_Section) (u : List W32) (fm : W32) : Prop := ∀ f, f < p.funcs.length → ¬ (fm.getLsbD f = true ∧ (sec l f).entry ≠ 0#32) ∧ subb (hld l f 0) (sec l f).entry = true ∧ ∀ i, i < (List.getD p.funcs f []).length → nodeW p l u f i = 0
theorem fine_of {p : api_Program} {l : List api_Section} {u : List W32} {fm : W32} (hl : l.length = p.funcs.length) (h : Fine p l u fm) : checkW p l u fm = ⟨0, 0, 0⟩ := by
  unfold checkW
  rw [findO_all]
  intro f _ hf
  obtain ⟨h1, h2, h3⟩ := h f (by omega)
  have : findO (nodeO p l u f) 0 (List.getD p.funcs f []).length = none := findO_all fun i _ hi => if_pos (h3 i (by omega))
  unfold funcO
  rw [funcW_r h1 h2, this]
  rfl
abbrev liv (l : List api_Section) (f i : Nat) : W32 := List.getD (sec l f).live i 0#32
def hasb (m : W32) (id : Int) : Bool := if 0 ≤ id ∧ id < 32 then m.getLsbD id.toNat else false
theorem hasb_nat (m : W32) {k : Nat} (hk : k < 32) : hasb m (k : Int) = m.getLsbD k := by
  unfold hasb
  rw [if_pos (by omega), Int.toNat_natCast]
def lbh (x : api_Node) (live exit : W32) (lost : Int) (bg : Bool) : W32 :=
  if x.kind = 5 then (live ||| one x.alt) ||| (if bg = true ∨ hasb live x.alt = true then one lost else 0#32)
  else if x.kind = 6 then live &&& ~~~(one x.arg) else if x.kind = 7 then exit else live
theorem lbh_bg {x : api_Node} (h : x.kind ≠ 5) (live exit : W32) (lost : Int) (b b' : Bool) : lbh x live exit lost b = lbh x live exit lost b' := by
  unfold lbh
  rw [if_neg h, if_neg h]
theorem may_behind_eq (x : api_Node) (live exit : W32) (lost : Int) (bg : Bool) : may_Behind x live exit lost bg = some (lbh x live exit lost bg) := by
  unfold may_Behind lbh
  by_cases h5 : x.kind = 5
  · rw [if_pos (eqT h5), if_pos h5, bind_some (one_eq _)]
    by_cases hb : bg = true
    · rw [if_pos hb, if_pos (.inl hb), bind_some (one_eq _)]
    · rw [if_neg hb, bind_some (show sets_Has live x.alt = some (hasb live x.alt) from has_eq _ _)]
      by_cases hh : hasb live x.alt = true
      · rw [if_pos hh, if_pos (.inr hh), bind_some (one_eq _)]
      · rw [if_neg hh, if_neg (fun h => h.elim hb hh), BitVec.or_zero]
  · rw [if_neg (eqF h5), if_neg h5]
    by_cases h6 : x.kind = 6
    · rw [if_pos (eqT h6), if_pos h6, bind_some (one_eq _)]
    · rw [if_neg (eqF h6), if_neg h6]
      by_cases h7 : x.kind = 7
      · rw [if_pos (eqT h7), if_pos h7]
      · rw [if_neg (eqF h7), if_neg h7]
theorem one_bitb (id : Int) {k : Nat} (hk : k < 32) : (one id).getLsbD k = ((k : Int) == id) := by
  rw [Bool.eq_iff_iff, one_bit, beq_iff_eq]
  exact ⟨fun h => h.1.symm, fun h => ⟨h.symm, hk⟩⟩
theorem refbehind16_eq (x : api_Node) (live exit : W32) (lost : Int) (bg : Bool) (k : Nat) (hk : k < 32) : alibiref16_Behind x live exit lost bg (k : Int) = some ((lbh x live exit lost bg).getLsbD k) := by
  unfold alibiref16_Behind lbh
  rw [bind_some (show alibiref03_Has live (k : Int) = some (live.getLsbD k) by rw [refhas_eq, if_pos (by omega), Int.toNat_natCast])]
  by_cases h5 : x.kind = 5
  · rw [if_pos (eqT h5), if_pos h5, BitVec.getLsbD_or, BitVec.getLsbD_or, one_bitb _ hk]
    cases hl : live.getLsbD k with
    | true => rw [if_pos rfl]; simp
    | false =>
      rw [if_neg (by decide)]
      by_cases ha : (k : Int) = x.alt
      · rw [if_pos (eqT ha), show ((k : Int) == x.alt) = true from eqT ha]; simp
      · have hab : ((k : Int) == x.alt) = false := by simpa using ha
        rw [if_neg (eqF ha), hab]
        by_cases hlo : (k : Int) = lost
        · rw [if_pos (eqT hlo)]
          have h1 : (one lost).getLsbD k = true := by rw [one_bitb _ hk]; exact eqT hlo
          by_cases hb : bg = true
          · rw [if_pos hb, if_pos (.inl hb), h1]; rfl
          · rw [if_neg hb, bind_some (show alibiref03_Has live x.alt = some (hasb live x.alt) from refhas_eq _ _)]
            by_cases hh : hasb live x.alt = true
            · rw [if_pos (.inr hh), h1, hh]; rfl
            · rw [if_neg (fun h => h.elim hb hh)]
              have : hasb live x.alt = false := by simpa using hh
              rw [this]; simp
        · rw [if_neg (eqF hlo)]
          have h1 : (one lost).getLsbD k = false := by rw [one_bitb _ hk]; simpa using hlo
          split
          · rw [h1]; rfl
          · simp
  · rw [if_neg (eqF h5), if_neg h5]
    by_cases h6 : x.kind = 6
    · rw [if_pos (eqT h6), if_pos h6, BitVec.getLsbD_and, BitVec.getLsbD_not, decide_eq_true hk, Bool.true_and, one_bitb _ hk]
      cases live.getLsbD k with
      | true => rfl
      | false => rfl
    · rw [if_neg (eqF h6), if_neg h6]
      by_cases h7 : x.kind = 7
      · rw [if_pos (eqT h7), if_pos h7, bind_some (show alibiref03_Has exit (k : Int) = some (exit.getLsbD k) by rw [refhas_eq, if_pos (by omega), Int.toNat_natCast])]
      · rw [if_neg (eqF h7), if_neg h7]
theorem may_l15 (p : api_Program) (l : List api_Section) (bg : W32) (f : Nat) (hf : f < l.length) (x : api_Node) (h e : W32) (js : List Int) (hjl : js.length ≤ 2) (hj : ∀ y ∈ js, 0 ≤ y ∧ y < ((List.getD l f d_api_Section).live.length : Int)) :
    ∀ (m k : Nat), k + m = js.length → may_checker_node_l15 js p.globals p.locks p.slots p.funcs l bg x.kind x.arg x.next x.alt (f : Int) h e (js.length : Int) (k : Int) = some (if (js.drop k).all (fun y => subb (lbh x h e p.slots (hasb bg x.arg)) (liv l f y.toNat)) = true then .x1 else .x0 6)
  | 0, k, hk => by
    rw [may_checker_node_l15, if_neg (by simp only [decide_eq_true_eq]; omega), List.drop_eq_nil_of_le (by omega)]
    rfl
  | m + 1, k, hk => by
    have hlt : k < js.length := by omega
    have hg : List.getD js k 0 = js[k] := by simp [List.getD, hlt]
    have hr := hj _ (List.getElem_mem hlt)
    rw [may_checker_node_l15, if_pos (decide_eq_true (by omega)), if_pos (decide_eq_true (by omega)), if_pos (decide_eq_true (by omega)), bind_some (show may_Lost (api_Program.mk p.globals p.locks p.slots p.funcs) = some p.slots from rfl), bind_some (show sets_Has bg x.arg = some (hasb bg x.arg) from has_eq _ _), bind_some (show may_Behind (api_Node.mk x.kind x.arg x.next x.alt) h e p.slots (hasb bg x.arg) = some (lbh x h e p.slots (hasb bg x.arg)) from may_behind_eq x h e p.slots (hasb bg x.arg)), if_pos (decide_eq_true (by omega)), if_pos (decide_eq_true (by omega)), Int.toNat_natCast k, hg, if_pos (decide_eq_true hr.1), Int.toNat_natCast f, if_pos (decide_eq_true hr.2), bind_some (within_eq2 _ _), inc k (by omega), may_l15 p l bg f hf x h e js hjl hj m (k + 1) (by omega), all_cons_drop hlt]
    cases hs : subb (lbh x h e p.slots (hasb bg x.arg)) (List.getD (List.getD l f d_api_Section).live js[k].toNat 0#32) with
    | false => rfl
    | true => rfl
def xit (l : List api_Section) (x : api_Node) : W32 := if x.kind = 7 then (List.getD l x.arg.toNat d_api_Section).liveExit else 0#32
def onL (p : api_Program) (l : List api_Section) (bg : W32) (f i : Nat) : Bool := (succ (nde p f i)).all fun y => subb (lbh (nde p f i) (liv l f i) (xit l (nde p f i)) p.slots (hasb bg (nde p f i).arg)) (liv l f y.toNat)
def nodeL (p : api_Program) (l : List api_Section) (bg : W32) (f i : Nat) : Int :=
  if (nde p f i).kind = 7 ∧ subb (liv l f i) (sec l (nde p f i).arg.toNat).liveEntry = false then 6
  else if (nde p f i).kind = 9 ∧ subb (liv l f i) (sec l f).liveExit = false then 6
  else if (nde p f i).kind = 5 ∧ hasb (sec l (nde p f i).arg.toNat).liveEntry p.slots = false then 7
  else if onL p l bg f i = true then 0 else 6
theorem onL_eq {p : api_Program} {l : List api_Section} {bg : W32} {f i : Nat} {e : W32} (hx : xit l (nde p f i) = e) : ((succ (nde p f i)).all fun y => subb (lbh (nde p f i) (liv l f i) e p.slots (hasb bg (nde p f i).arg)) (liv l f y.toNat)) = onL p l bg f i := by subst hx; rfl
theorem nodeL_7 {p : api_Program} {l : List api_Section} {bg : W32} {f i : Nat} (h : (nde p f i).kind = 7) (h2 : ¬ subb (liv l f i) (sec l (nde p f i).arg.toNat).liveEntry = true) : nodeL p l bg f i = 6 := if_pos ⟨h, by simpa using h2⟩
theorem nodeL_9 {p : api_Program} {l : List api_Section} {bg : W32} {f i : Nat} (h : (nde p f i).kind = 9) (h2 : ¬ subb (liv l f i) (sec l f).liveExit = true) : nodeL p l bg f i = 6 := by
  unfold nodeL
  rw [if_neg (by rintro ⟨h3, _⟩; exact absurd (h.symm.trans h3) (by decide)), if_pos ⟨h, by simpa using h2⟩]
theorem nodeL_5 {p : api_Program} {l : List api_Section} {bg : W32} {f i : Nat} (h : (nde p f i).kind = 5) (h2 : ¬ hasb (sec l (nde p f i).arg.toNat).liveEntry p.slots = true) : nodeL p l bg f i = 7 := by
  unfold nodeL
  rw [if_neg (by rintro ⟨h3, _⟩; exact absurd (h.symm.trans h3) (by decide)), if_neg (by rintro ⟨h3, _⟩; exact absurd (h.symm.trans h3) (by decide)), if_pos ⟨h, by simpa using h2⟩]
theorem nodeL_r {p : api_Program} {l : List api_Section} {bg : W32} {f i : Nat} (h7 : (nde p f i).kind = 7 → subb (liv l f i) (sec l (nde p f i).arg.toNat).liveEntry = true) (h9 : (nde p f i).kind = 9 → subb (liv l f i) (sec l f).liveExit = true) (h5 : (nde p f i).kind = 5 → hasb (sec l (nde p f i).arg.toNat).liveEntry p.slots = true) : nodeL p l bg f i = if onL p l bg f i = true then 0 else 6 := by
  unfold nodeL
  rw [if_neg (by rintro ⟨h3, h4⟩; rw [h7 h3] at h4; cases h4), if_neg (by rintro ⟨h3, h4⟩; rw [h9 h3] at h4; cases h4), if_neg (by rintro ⟨h3, h4⟩; rw [h5 h3] at h4; cases h4)]
theorem may_node (p : api_Program) (hg : Good p) (l : List api_Section) (hs : Shp p l) (bg : W32) (f i : Nat) (hf : f < p.funcs.length) (hi : i < (List.getD p.funcs f []).length) : may_checker_node ⟨p, l, bg⟩ (f : Int) (i : Int) = some (nodeL p l bg f i) := by
  have hl := hs.1
  have hh : (List.getD l f d_api_Section).live.length = (List.getD p.funcs f []).length := (hs.2 f hf).2
  have hok := hg.node f i hf hi
  have hc := hok.call
  have hsp := hok.spawn
  have hle := hg.le f
  have hjr := succ_ok hok (by omega)
  have h15 : ∀ e, may_checker_node_l15 (succ (nde p f i)) p.globals p.locks p.slots p.funcs l bg (nde p f i).kind (nde p f i).arg (nde p f i).next (nde p f i).alt (f : Int) (liv l f i) e ((succ (nde p f i)).length : Int) 0 = some (if (succ (nde p f i)).all (fun y => subb (lbh (nde p f i) (liv l f i) e p.slots (hasb bg (nde p f i).arg)) (liv l f y.toNat)) = true then .x1 else .x0 6) := fun e => by
    have := may_l15 p l bg f (by omega) (nde p f i) (liv l f i) e (succ (nde p f i)) (succ_len _) (fun y hy => by have := hjr y hy; omega) (succ (nde p f i)).length 0 (by omega)
    rw [show ((0 : Nat) : Int) = 0 from rfl, List.drop_zero] at this
    exact this
  unfold may_checker_node
  dsimp only
  rw [if_pos (decide_eq_true (by omega)), if_pos (decide_eq_true (by omega)), if_pos (decide_eq_true (by omega)), Int.toNat_natCast f, if_pos (decide_eq_true (by omega)), if_pos (decide_eq_true (by omega)), if_pos (decide_eq_true (by omega)), Int.toNat_natCast i]
  by_cases hk7 : (List.getD (List.getD p.funcs f []) i d_api_Node).kind = 7
  · have ha := hc hk7
    have hx : xit l (nde p f i) = (List.getD l (List.getD (List.getD p.funcs f []) i d_api_Node).arg.toNat d_api_Section).liveExit := if_pos hk7
    rw [if_pos (eqT hk7), if_pos (decide_eq_true ha.1), if_pos (decide_eq_true (by omega)), bind_some (within_eq2 _ _)]
    by_cases he : subb (List.getD (List.getD l f d_api_Section).live i 0#32) (List.getD l (List.getD (List.getD p.funcs f []) i d_api_Node).arg.toNat d_api_Section).liveEntry = true
    · rw [he, if_neg (by decide), bind_some (succ_eq _), bind_some (h15 _), nodeL_r (fun _ => he) (fun h => absurd (hk7.symm.trans h) (by decide)) (fun h => absurd (hk7.symm.trans h) (by decide)), onL_eq hx]
      by_cases ho : onL p l bg f i = true
      · rw [if_pos ho, if_pos ho]
      · rw [if_neg ho, if_neg ho]
    · rw [if_pos (by simpa using he), nodeL_7 hk7 he]
  · have hx : xit l (nde p f i) = 0#32 := if_neg hk7
    rw [if_neg (eqF hk7)]
    by_cases hk9 : (List.getD (List.getD p.funcs f []) i d_api_Node).kind = 9
    · rw [if_pos (eqT hk9), bind_some (within_eq2 _ _)]
      by_cases he : subb (List.getD (List.getD l f d_api_Section).live i 0#32) (List.getD l f d_api_Section).liveExit = true
      · rw [he, if_neg (by decide), bind_some (succ_eq _), bind_some (h15 _), nodeL_r (fun h => absurd h hk7) (fun _ => he) (fun h => absurd (hk9.symm.trans h) (by decide)), onL_eq hx]
        by_cases ho : onL p l bg f i = true
        · rw [if_pos ho, if_pos ho]
        · rw [if_neg ho, if_neg ho]
      · rw [if_pos (by simpa using he), nodeL_9 hk9 he]
    · rw [if_neg (eqF hk9)]
      by_cases hk5 : (List.getD (List.getD p.funcs f []) i d_api_Node).kind = 5
      · have ha := hsp hk5
        rw [if_pos (eqT hk5), if_pos (decide_eq_true ha.1), if_pos (decide_eq_true (by omega)), bind_some (show may_Lost p = some p.slots from rfl), bind_some (show sets_Has _ p.slots = some (hasb _ p.slots) from has_eq _ _)]
        by_cases he : hasb (List.getD l (List.getD (List.getD p.funcs f []) i d_api_Node).arg.toNat d_api_Section).liveEntry p.slots = true
        · rw [he, if_neg (by decide), bind_some (succ_eq _), bind_some (h15 _), nodeL_r (fun h => absurd h hk7) (fun h => absurd h hk9) (fun _ => he), onL_eq hx]
          by_cases ho : onL p l bg f i = true
          · rw [if_pos ho, if_pos ho]
          · rw [if_neg ho, if_neg ho]
        · rw [if_pos (by simpa using he), nodeL_5 hk5 he]
      · rw [if_neg (eqF hk5), bind_some (succ_eq _), bind_some (h15 _), nodeL_r (fun h => absurd h hk7) (fun h => absurd h hk9) (fun h => absurd h hk5), onL_eq hx]
        by_cases ho : onL p l bg f i = true
        · rw [if_pos ho, if_pos ho]
        · rw [if_neg ho, if_neg ho]
def nodeLO (p : api_Program) (l : List api_Section) (bg : W32) (f i : Nat) : Option Int := if nodeL p l bg f i = 0 then none else some (nodeL p l bg f i)
def m13 : Option (Nat × Int) → may_Check_l13_R
  | some (k, w) => .x0 k w 0
  | none => .x1
theorem may_l13 (p : api_Program) (hg : Good p) (l : List api_Section) (hs : Shp p l) (bg : W32) (f : Nat) (hf : f < p.funcs.length) (x4 x5 x6 : Int) (x14 : List api_Section) (x15 x16 : Int) : ∀ (m i : Nat), i + m = (List.getD p.funcs f []).length → may_Check_l13 p.globals p.locks p.slots p.funcs x4 x5 x6 p.globals p.locks p.slots p.funcs l bg (f : Int) x14 x15 x16 ((List.getD p.funcs f []).length : Int) (i : Int) = some (m13 (findO (nodeLO p l bg f) i m))
  | 0, i, h => by rw [may_Check_l13, if_neg (by simp only [decide_eq_true_eq]; omega)]; rfl
  | m + 1, i, h => by
    have hle := hg.le f
    have e := may_node p hg l hs bg f i hf (by omega)
    rw [may_Check_l13, if_pos (decide_eq_true (by omega)), bind_some (show may_checker_node (may_checker.mk (api_Program.mk p.globals p.locks p.slots p.funcs) l bg) (f : Int) (i : Int) = _ from e), inc i (by omega), may_l13 p hg l hs bg f hf x4 x5 x6 x14 x15 x16 m (i + 1) (by omega), findO_succ]
    unfold nodeLO
    by_cases h0 : nodeL p l bg f i = 0
    · rw [if_neg (neF h0), if_pos h0]
    · rw [if_pos (neT h0), if_neg h0]
      rfl
def funcLO (p : api_Program) (l : List api_Section) (bg : W32) (f : Nat) : Option (Int × Int) :=
  if subb (sec l f).liveEntry (liv l f 0) = false then some (-1, 6) else (findO (nodeLO p l bg f) 0 (List.getD p.funcs f []).length).map fun x => ((x.1 : Int), x.2)
def m8 : Option (Nat × (Int × Int)) → may_Check_l8_R
  | some (f, (k, w)) => .x0 f k w 0
  | none => .x1
theorem may_l8 (p : api_Program) (hg : Good p) (l : List api_Section) (hs : Shp p l) (bg : W32) : ∀ (m f : Nat), f + m = l.length → may_Check_l8 p.globals p.locks p.slots p.funcs 0 0 0 p.globals p.locks p.slots p.funcs l bg l (l.length : Int) (f : Int) = some (m8 (findO (funcLO p l bg) f m))
  | 0, f, h => by rw [may_Check_l8, if_neg (by simp only [decide_eq_true_eq]; omega)]; rfl
  | m + 1, f, h => by
    have hl := hs.1
    have hn := hg.funcs.2
    have hh : (List.getD l f d_api_Section).live.length = (List.getD p.funcs f []).length := (hs.2 f (by omega)).2
    have hp := (hg.len f (by omega)).1
    have h13 := may_l13 p hg l hs bg f (by omega) 0 0 0 l (l.length : Int) (f : Int) (List.getD p.funcs f []).length 0 (by omega)
    rw [show ((0 : Nat) : Int) = 0 from rfl] at h13
    rw [may_Check_l8, if_pos (decide_eq_true (by omega)), if_pos (decide_eq_true (by omega)), if_pos (decide_eq_true (by omega)), Int.toNat_natCast f, if_pos (decide_eq_true (by omega)), bind_some (within_eq2 _ _), inc f (by omega), may_l8 p hg l hs bg m (f + 1) (by omega), findO_succ]
    by_cases hsb : subb (List.getD l f d_api_Section).liveEntry (List.getD (List.getD l f d_api_Section).live 0 0#32) = true
    · have hO : funcLO p l bg f = (findO (nodeLO p l bg f) 0 (List.getD p.funcs f []).length).map fun x => ((x.1 : Int), x.2) := if_neg (by intro h; exact absurd (hsb.symm.trans h) (by decide))
      rw [hsb, if_neg (by decide), if_pos (decide_eq_true (by omega)), bind_some h13, hO]
      cases findO (nodeLO p l bg f) 0 (List.getD p.funcs f []).length with
      | none => rfl
      | some z => rfl
    · have hO : funcLO p l bg f = some (-1, 6) := if_pos (by simpa using hsb)
      rw [if_pos (by simpa using hsb), hO] <;> rfl
def checkL (p : api_Program) (l : List api_Section) (bg : W32) : api_Fault := match findO (funcLO p l bg) 0 l.length with | some (f, (k, w)) => ⟨f, k, w⟩ | none => ⟨0, 0, 0⟩
def KnowL (p : api_Program) (bg : W32) : Prop := ∀ b, bg.getLsbD b = true ↔ b < p.funcs.length ∧ Spawns p.funcs b
theorem may_good (p : api_Program) (hg : Good p) (hk : prog_Check p = some (0, 0, 0)) : ∃ bg, KnowL p bg ∧ (∀ l, Shp p l → may_Check p l = some (checkL p l bg, 0)) ∧ ∀ l, ¬ Shp p l → may_Check p l = some (⟨-1, -1, 1⟩, 0) := by
  have hn := hg.funcs.2
  obtain ⟨bg, u1, u2⟩ := begins_eq p hg hk
  refine ⟨bg, u2, fun l hs => ?_, fun l hs => ?_⟩
  · obtain ⟨b, b1, _, b2⟩ := shaped_eq p l (by omega)
    have hb := b2.2 hs
    have h8 := may_l8 p hg l hs bg l.length 0 (by omega)
    rw [show ((0 : Nat) : Int) = 0 from rfl] at h8
    unfold may_Check
    rw [bind_some u1, if_neg (show ¬ ((0 : Int) != 0) = true by decide), bind_some b1, hb, if_neg (by decide), bind_some h8]
    unfold checkL
    cases findO (funcLO p l bg) 0 l.length with
    | some y => rfl
    | none => rfl
  · obtain ⟨b, b1, _, b2⟩ := shaped_eq p l (by omega)
    have hb : b = false := by
      cases b with
      | false => rfl
      | true => exact absurd (b2.1 rfl) hs
    unfold may_Check
    rw [bind_some u1, if_neg (show ¬ ((0 : Int) != 0) = true by decide), bind_some b1, hb, if_pos (by decide)]
theorem gather5 (p : api_Program) (hg : Good p) (f : Nat) (hf : f < p.funcs.length) : ∃ t, alibiref14_Gather p (f : Int) 5 5 = some t ∧ (t.length > 0 ↔ Spawns p.funcs f) := by
  have hn := hg.funcs.2
  obtain ⟨c1, c2, c3, c4⟩ := refgather_eq p hg f hf 5 5
  refine ⟨c1, c2, ?_⟩
  constructor
  · intro hl
    cases c1 with
    | nil => simp at hl
    | cons y ys =>
      have h0 := c3.nat y (by simp)
      obtain ⟨b, rfl⟩ : ∃ b : Nat, y = (b : Int) := ⟨y.toNat, by omega⟩
      obtain ⟨_, g, g1, j, g2, g3, g4⟩ := (c4 b).1 (by simp)
      exact ⟨g, g1, j, g2, g3.elim (fun x => x) fun x => x⟩
  · rintro ⟨g, g1, j, g2, g3⟩
    have hgn : g < p.funcs.length := path_closed (S := fun x => x < p.funcs.length) (fun x _ y e => (e.lt hg.calls).2) g1 hf
    have harg := (hg.node g j hgn g2).spawn g3
    obtain ⟨b, hb⟩ : ∃ b : Nat, (List.getD (List.getD p.funcs g []) j d_api_Node).arg = (b : Int) := ⟨_, (Int.toNat_of_nonneg harg.1).symm⟩
    have := (c4 b).2 ⟨by omega, g, g1, j, g2, .inl g3, hb⟩
    exact List.length_pos_of_mem this
theorem refnode16_l20 (p : api_Program) (l : List api_Section) (f : Nat) (hf : f < l.length) (x : api_Node) (h e : W32) (bb : Bool) (js : List Int) (hjl : js.length ≤ 2) (hj : ∀ y ∈ js, 0 ≤ y ∧ y < ((List.getD l f d_api_Section).live.length : Int)) (k : Nat) (hkl : k < js.length) :
    ∀ (m i : Nat), i + m = 32 → ∃ c, alibiref16_Node_l20 js p.globals p.locks p.slots p.funcs x.kind x.arg x.next x.alt l (f : Int) h e bb (k : Int) (i : Int) = some (if c = true then .x1 else .x0 6) ∧ (c = true ↔ ∀ b, i ≤ b → (lbh x h e p.slots bb).getLsbD b = true → (liv l f js[k].toNat).getLsbD b = true)
  | 0, i, hi => by
    rw [alibiref16_Node_l20, if_neg (by simp only [decide_eq_true_eq]; omega)]
    exact ⟨true, rfl, ⟨fun _ b hb h1 => by have := bit_lt h1; omega, fun _ => rfl⟩⟩
  | m + 1, i, hi => by
    have hg0 : List.getD js k 0 = js[k] := by simp [List.getD, hkl]
    have hr := hj _ (List.getElem_mem hkl)
    obtain ⟨c, ih, hc⟩ := refnode16_l20 p l f hf x h e bb js hjl hj k hkl m (i + 1) (by omega)
    have skip : ((lbh x h e p.slots bb).getLsbD i = true → (liv l f js[k].toNat).getLsbD i = true) → (c = true ↔ ∀ b, i ≤ b → (lbh x h e p.slots bb).getLsbD b = true → (liv l f js[k].toNat).getLsbD b = true) := fun h0 => by
      rw [hc]
      exact ⟨fun h1 b hb ha => by
        rcases Nat.eq_or_lt_of_le hb with rfl | hb
        · exact h0 ha
        · exact h1 b hb ha, fun h1 b hb => h1 b (by omega)⟩
    rw [alibiref16_Node_l20, if_pos (decide_eq_true (by omega)), bind_some (show alibiref16_Behind (api_Node.mk x.kind x.arg x.next x.alt) h e p.slots bb (i : Int) = some ((lbh x h e p.slots bb).getLsbD i) from refbehind16_eq x h e p.slots bb i (by omega)), inc i (by omega), ih]
    by_cases ha : (lbh x h e p.slots bb).getLsbD i = true
    · rw [if_pos ha, if_pos (decide_eq_true (by omega)), if_pos (decide_eq_true (by omega)), if_pos (decide_eq_true (by omega)), if_pos (decide_eq_true (by omega)), Int.toNat_natCast k, hg0, if_pos (decide_eq_true hr.1), Int.toNat_natCast f, if_pos (decide_eq_true hr.2), bind_some (show alibiref03_Has (List.getD (List.getD l f d_api_Section).live js[k].toNat 0#32) (i : Int) = some ((liv l f js[k].toNat).getLsbD i) by rw [refhas_eq, if_pos (by omega), Int.toNat_natCast])]
      by_cases hb : (liv l f js[k].toNat).getLsbD i = true
      · rw [if_neg (by rw [hb]; decide)]
        exact ⟨c, rfl, skip fun _ => hb⟩
      · rw [if_pos (by simpa using hb)]
        exact ⟨false, rfl, ⟨(fun h => by cases h), fun h1 => absurd (h1 i (Nat.le_refl _) ha) hb⟩⟩
    · rw [if_neg ha]
      exact ⟨c, rfl, skip fun h => absurd h ha⟩
theorem refnode16_l17 (p : api_Program) (l : List api_Section) (f : Nat) (hf : f < l.length) (x : api_Node) (h e : W32) (bb : Bool) (js : List Int) (hjl : js.length ≤ 2) (hj : ∀ y ∈ js, 0 ≤ y ∧ y < ((List.getD l f d_api_Section).live.length : Int)) :
    ∀ (m k : Nat), k + m = js.length → alibiref16_Node_l17 js p.globals p.locks p.slots p.funcs x.kind x.arg x.next x.alt l (f : Int) h e bb (k : Int) = some (if (js.drop k).all (fun y => subb (lbh x h e p.slots bb) (liv l f y.toNat)) = true then .x1 else .x0 6)
  | 0, k, hi => by
    rw [alibiref16_Node_l17, if_neg (by simp only [decide_eq_true_eq]; omega), List.drop_eq_nil_of_le (by omega)]
    rfl
  | m + 1, k, hi => by
    have hlt : k < js.length := by omega
    obtain ⟨c, q1, q2⟩ := refnode16_l20 p l f hf x h e bb js hjl hj k hlt 32 0 rfl
    rw [show ((0 : Nat) : Int) = 0 from rfl] at q1
    have hcs : c = subb (lbh x h e p.slots bb) (liv l f js[k].toNat) := by
      rw [Bool.eq_iff_iff, q2, subb_iff]
      exact ⟨fun h b => h b (Nat.zero_le _), fun h b _ => h b⟩
    rw [alibiref16_Node_l17, if_pos (decide_eq_true (by omega)), bind_some q1, inc k (by omega), refnode16_l17 p l f hf x h e bb js hjl hj m (k + 1) (by omega), all_cons_drop hlt, hcs]
    cases subb (lbh x h e p.slots bb) (liv l f js[k].toNat) with
    | false => rfl
    | true => rfl
theorem refnode16_eq (p : api_Program) (hg : Good p) (l : List api_Section) (hs : Shp p l) {bg : W32} (hkn : KnowL p bg) (f i : Nat) (hf : f < p.funcs.length) (hi : i < (List.getD p.funcs f []).length) : alibiref16_Node p l (f : Int) (i : Int) = some (nodeL p l bg f i) := by
  have hl := hs.1
  have hn := hg.funcs.2
  have hh : (List.getD l f d_api_Section).live.length = (List.getD p.funcs f []).length := (hs.2 f hf).2
  have hok := hg.node f i hf hi
  have hc := hok.call
  have hsp := hok.spawn
  have hle := hg.le f
  have hjr := succ_ok hok (by omega)
  have h17 : ∀ e bb, alibiref16_Node_l17 (succ (nde p f i)) p.globals p.locks p.slots p.funcs (nde p f i).kind (nde p f i).arg (nde p f i).next (nde p f i).alt l (f : Int) (liv l f i) e bb 0 = some (if (succ (nde p f i)).all (fun y => subb (lbh (nde p f i) (liv l f i) e p.slots bb) (liv l f y.toNat)) = true then .x1 else .x0 6) := fun e bb => by
    have := refnode16_l17 p l f (by omega) (nde p f i) (liv l f i) e bb (succ (nde p f i)) (succ_len _) (fun y hy => by have := hjr y hy; omega) (succ (nde p f i)).length 0 (by omega)
    rw [show ((0 : Nat) : Int) = 0 from rfl, List.drop_zero] at this
    exact this
  have hbn : ∀ b, (nde p f i).kind ≠ 5 → ∀ e, (succ (nde p f i)).all (fun y => subb (lbh (nde p f i) (liv l f i) e p.slots b) (liv l f y.toNat)) = (succ (nde p f i)).all (fun y => subb (lbh (nde p f i) (liv l f i) e p.slots (hasb bg (nde p f i).arg)) (liv l f y.toNat)) := fun b hk e => by
    rw [lbh_bg hk (liv l f i) e p.slots b (hasb bg (nde p f i).arg)]
  unfold alibiref16_Node
  rw [if_pos (decide_eq_true (by omega)), if_pos (decide_eq_true (by omega)), if_pos (decide_eq_true (by omega)), Int.toNat_natCast f, if_pos (decide_eq_true (by omega)), if_pos (decide_eq_true (by omega)), if_pos (decide_eq_true (by omega)), Int.toNat_natCast i]
  by_cases hk7 : (List.getD (List.getD p.funcs f []) i d_api_Node).kind = 7
  · have ha := hc hk7
    have hx : xit l (nde p f i) = (List.getD l (List.getD (List.getD p.funcs f []) i d_api_Node).arg.toNat d_api_Section).liveExit := if_pos hk7
    rw [if_pos (eqT hk7), if_pos (decide_eq_true ha.1), if_pos (decide_eq_true (by omega)), bind_some (refwithin_eq _ _)]
    by_cases he : subb (List.getD (List.getD l f d_api_Section).live i 0#32) (List.getD l (List.getD (List.getD p.funcs f []) i d_api_Node).arg.toNat d_api_Section).liveEntry = true
    · rw [he, if_neg (by decide), if_neg (eqF (by omega)), if_neg (eqF (by omega)), bind_some (refsucc_eq _), bind_some (h17 _ _), hbn false (by show (nde p f i).kind ≠ 5; intro h; exact absurd (hk7.symm.trans h) (by decide)), nodeL_r (fun _ => he) (fun h => absurd (hk7.symm.trans h) (by decide)) (fun h => absurd (hk7.symm.trans h) (by decide)), onL_eq hx]
      by_cases ho : onL p l bg f i = true
      · rw [if_pos ho, if_pos ho]
      · rw [if_neg ho, if_neg ho]
    · rw [if_pos (by simpa using he), nodeL_7 hk7 he]
  · have hx : xit l (nde p f i) = 0#32 := if_neg hk7
    rw [if_neg (eqF hk7)]
    by_cases hk9 : (List.getD (List.getD p.funcs f []) i d_api_Node).kind = 9
    · rw [if_pos (eqT hk9), bind_some (refwithin_eq _ _)]
      by_cases he : subb (List.getD (List.getD l f d_api_Section).live i 0#32) (List.getD l f d_api_Section).liveExit = true
      · rw [he, if_neg (by decide), if_neg (eqF (by omega)), bind_some (refsucc_eq _), bind_some (h17 _ _), hbn false (by show (nde p f i).kind ≠ 5; intro h; exact absurd (hk9.symm.trans h) (by decide)), nodeL_r (fun h => absurd h hk7) (fun _ => he) (fun h => absurd (hk9.symm.trans h) (by decide)), onL_eq hx]
        by_cases ho : onL p l bg f i = true
        · rw [if_pos ho, if_pos ho]
        · rw [if_neg ho, if_neg ho]
      · rw [if_pos (by simpa using he), nodeL_9 hk9 he]
    · rw [if_neg (eqF hk9)]
      by_cases hk5 : (List.getD (List.getD p.funcs f []) i d_api_Node).kind = 5
      · have ha := hsp hk5
        obtain ⟨c, hcc⟩ : ∃ c : Nat, (List.getD (List.getD p.funcs f []) i d_api_Node).arg = (c : Int) := ⟨_, (Int.toNat_of_nonneg ha.1).symm⟩
        obtain ⟨t, t1, t2⟩ := gather5 p hg c (by omega)
        have hb : (decide (((t.length : Nat) : Int) > 0)) = hasb bg (nde p f i).arg := by
          rw [show (nde p f i).arg = (c : Int) from hcc, hasb_nat _ (by omega), Bool.eq_iff_iff, decide_eq_true_iff, hkn c]
          constructor
          · intro h; exact ⟨by omega, t2.1 (by omega)⟩
          · intro h; have := t2.2 h.2; omega
        rw [if_pos (eqT hk5), if_pos (decide_eq_true ha.1), if_pos (decide_eq_true (by omega)), bind_some (show alibiref03_Has _ p.slots = some (hasb _ p.slots) from refhas_eq _ _)]
        by_cases he : hasb (List.getD l (List.getD (List.getD p.funcs f []) i d_api_Node).arg.toNat d_api_Section).liveEntry p.slots = true
        · rw [he, if_neg (by decide), bind_some (show alibiref14_Gather p (List.getD (List.getD p.funcs f []) i d_api_Node).arg 5 5 = some t by rw [hcc]; exact t1), bind_some (refsucc_eq _), bind_some (h17 _ _), hb, nodeL_r (fun h => absurd h hk7) (fun h => absurd h hk9) (fun _ => he), onL_eq hx]
          by_cases ho : onL p l bg f i = true
          · rw [if_pos ho, if_pos ho]
          · rw [if_neg ho, if_neg ho]
        · rw [if_pos (by simpa using he), nodeL_5 hk5 he]
      · rw [if_neg (eqF hk5), bind_some (refsucc_eq _), bind_some (h17 _ _), hbn false hk5, nodeL_r (fun h => absurd h hk7) (fun h => absurd h hk9) (fun h => absurd h hk5), onL_eq hx]
        by_cases ho : onL p l bg f i = true
        · rw [if_pos ho, if_pos ho]
        · rw [if_neg ho, if_neg ho]
def r9 : Option (Nat × Int) → alibiref16_Check_l9_R
  | some (k, w) => .x0 k w
  | none => .x1
theorem refcheck16_l9 (p : api_Program) (hg : Good p) (l : List api_Section) (hs : Shp p l) {bg : W32} (hkn : KnowL p bg) (x4 x5 x6 : Int) (f : Nat) (hf : f < p.funcs.length) : ∀ (m i : Nat), i + m = (List.getD p.funcs f []).length → alibiref16_Check_l9 p.globals p.locks p.slots p.funcs x4 x5 x6 l (f : Int) (i : Int) = some (r9 (findO (nodeLO p l bg f) i m))
  | 0, i, h => by
    rw [alibiref16_Check_l9, if_pos (decide_eq_true (by omega)), if_pos (decide_eq_true (by omega)), Int.toNat_natCast, if_neg (by simp only [decide_eq_true_eq]; omega)]
    rfl
  | m + 1, i, h => by
    have hle := hg.le f
    have e := refnode16_eq p hg l hs hkn f i hf (by omega)
    rw [alibiref16_Check_l9, if_pos (decide_eq_true (by omega)), if_pos (decide_eq_true (by omega)), Int.toNat_natCast, if_pos (decide_eq_true (by omega)), bind_some (show alibiref16_Node (api_Program.mk p.globals p.locks p.slots p.funcs) l (f : Int) (i : Int) = _ from e), inc i (by omega), refcheck16_l9 p hg l hs hkn x4 x5 x6 f hf m (i + 1) (by omega), findO_succ]
    unfold nodeLO
    by_cases h0 : nodeL p l bg f i = 0
    · rw [if_neg (neF h0), if_pos h0]
    · rw [if_pos (neT h0), if_neg h0]
      rfl
def r4y : Option (Nat × (Int × Int)) → alibiref16_Check_l4_R
  | some (f, (k, w)) => .x0 f k w
  | none => .x1
theorem refcheck16_l4 (p : api_Program) (hg : Good p) (l : List api_Section) (hs : Shp p l) {bg : W32} (hkn : KnowL p bg) : ∀ (m f : Nat), f + m = l.length → alibiref16_Check_l4 p.globals p.locks p.slots p.funcs 0 0 0 l (f : Int) = some (r4y (findO (funcLO p l bg) f m))
  | 0, f, h => by rw [alibiref16_Check_l4, if_neg (by simp only [decide_eq_true_eq]; omega)]; rfl
  | m + 1, f, h => by
    have hl := hs.1
    have hn := hg.funcs.2
    have hh : (List.getD l f d_api_Section).live.length = (List.getD p.funcs f []).length := (hs.2 f (by omega)).2
    have hp := (hg.len f (by omega)).1
    have h9 := refcheck16_l9 p hg l hs hkn 0 0 0 f (by omega) (List.getD p.funcs f []).length 0 (by omega)
    rw [show ((0 : Nat) : Int) = 0 from rfl] at h9
    rw [alibiref16_Check_l4, if_pos (decide_eq_true (by omega)), if_pos (decide_eq_true (by omega)), if_pos (decide_eq_true (by omega)), Int.toNat_natCast f, if_pos (decide_eq_true (by omega)), bind_some (refwithin_eq _ _), inc f (by omega), refcheck16_l4 p hg l hs hkn m (f + 1) (by omega), findO_succ]
    by_cases hsb : subb (List.getD l f d_api_Section).liveEntry (List.getD (List.getD l f d_api_Section).live 0 0#32) = true
    · have hO : funcLO p l bg f = (findO (nodeLO p l bg f) 0 (List.getD p.funcs f []).length).map fun x => ((x.1 : Int), x.2) := if_neg (by intro h; exact absurd (hsb.symm.trans h) (by decide))
      rw [hsb, if_neg (by decide), bind_some h9, hO]
      cases findO (nodeLO p l bg f) 0 (List.getD p.funcs f []).length with
      | none => rfl
      | some z => rfl
    · have hO : funcLO p l bg f = some (-1, 6) := if_pos (by simpa using hsb)
      rw [if_pos (by simpa using hsb), hO] <;> rfl
theorem refcheck16_eq (p : api_Program) (hg : Good p) (l : List api_Section) {bg : W32} (hkn : KnowL p bg) : (Shp p l → alibiref16_Check p l = some (checkL p l bg)) ∧ (¬ Shp p l → alibiref16_Check p l = some ⟨-1, -1, 1⟩) := by
  have hn := hg.funcs.2
  obtain ⟨b, _, b1, b2⟩ := shaped_eq p l (by omega)
  refine ⟨fun hs => ?_, fun hs => ?_⟩
  · have hb := b2.2 hs
    have h4 := refcheck16_l4 p hg l hs hkn l.length 0 (by omega)
    rw [show ((0 : Nat) : Int) = 0 from rfl] at h4
    unfold alibiref16_Check
    rw [bind_some b1, hb, if_neg (by decide), bind_some h4]
    unfold checkL
    cases findO (funcLO p l bg) 0 l.length with
    | some y => rfl
    | none => rfl
  · have hb : b = false := by
      cases b with
      | false => rfl
      | true => exact absurd (b2.1 rfl) hs
    unfold alibiref16_Check
    rw [bind_some b1, hb, if_pos (by decide)]
def FineL (p : api_Program) (l : List api_Section) (bg : W32) : Prop := ∀ f, f < p.funcs.length → subb (sec l f).liveEntry (liv l f 0) = true ∧ ∀ i, i < (List.getD p.funcs f []).length → nodeL p l bg f i = 0
theorem fineL_of {p : api_Program} {l : List api_Section} {bg : W32} (hl : l.length = p.funcs.length) (h : FineL p l bg) : checkL p l bg = ⟨0, 0, 0⟩ := by
  unfold checkL
  rw [findO_all]
  intro f _ hf
  obtain ⟨h2, h3⟩ := h f (by omega)
  have : findO (nodeLO p l bg f) 0 (List.getD p.funcs f []).length = none := findO_all fun i _ hi => if_pos (h3 i (by omega))
  unfold funcLO
  rw [if_neg (by rw [h2]; decide), this]
  rfl
theorem check_eqP (p : api_Program) : ∃ r, prog_Check p = some r ∧ (r.2.2 = 0 → r = (0, 0, 0) ∧ Good p) ∧ 0 ≤ r.2.2 ∧ r.2.2 ≤ 8 := by
  obtain ⟨r, a, _, c⟩ := check_eq p
  exact ⟨r, a, c⟩
abbrev B8 := BitVec 8
def putB (n : Nat) : List B8 := if n < 128 then [BitVec.ofNat 8 n] else BitVec.ofNat 8 (128 + n % 128) :: putB (n / 128)
  termination_by n
  decreasing_by omega
theorem putB_lt {n : Nat} (h : n < 128) : putB n = [BitVec.ofNat 8 n] := by rw [putB, if_pos h]
theorem putB_ge {n : Nat} (h : ¬ n < 128) : putB n = BitVec.ofNat 8 (128 + n % 128) :: putB (n / 128) := by rw [putB, if_neg h]
theorem putB_len : ∀ (k n : Nat), n < 128 ^ (k + 1) → (putB n).length ≤ k + 1
  | 0, n, h => by rw [putB_lt (by simpa using h)]; simp
  | k + 1, n, h => by
    by_cases h1 : n < 128
    · rw [putB_lt h1]; simp
    · rw [putB_ge h1, List.length_cons]
      have := putB_len k (n / 128) (Nat.div_lt_of_lt_mul (by rw [Nat.pow_succ, Nat.mul_comm] at h; exact h))
      omega
theorem putB_len5 {n : Nat} (h : n < 4294967296) : (putB n).length ≤ 5 := putB_len 4 n (Nat.lt_of_lt_of_le h (by decide))
theorem or128 (x : BitVec 32) : (BitVec.setWidth 8 x ||| 128#8) = BitVec.ofNat 8 (128 + x.toNat % 128) := by
  apply BitVec.eq_of_toNat_eq
  have key : ∀ m, m < 256 → m ||| 128 = (128 + m % 128) % 256 := by decide
  rw [BitVec.toNat_or, BitVec.toNat_setWidth, BitVec.toNat_ofNat]
  show x.toNat % 256 ||| 128 = (128 + x.toNat % 128) % 256
  rw [key _ (Nat.mod_lt _ (by decide)), Nat.mod_mod_of_dvd _ (by decide : 128 ∣ 256)]
theorem ble_of {a : Nat} (h : a ≤ 100000000000000) : Nat.ble (a * 1) reach = true := Nat.ble_eq_true_of_le (by unfold reach; omega)
theorem put_l2 : ∀ (k : Nat) (x0 : List B8) (x1 : BitVec 32), x1.toNat < 128 ^ (k + 1) → x0.length + k ≤ 1000000000 → ∃ z y, varint_Put_l2 x0 x1 = some (x0 ++ z, y) ∧ z.length ≤ k ∧ z ++ [BitVec.setWidth 8 y] = putB x1.toNat
  | k, x0, x1, h, hl => by
    by_cases h1 : x1.toNat < 128
    · refine ⟨[], x1, ?_, by simp, ?_⟩
      · rw [varint_Put_l2, if_neg (by simp only [decide_eq_true_eq, BitVec.le_def]; show ¬ 128 ≤ x1.toNat; omega), List.append_nil]
      · rw [putB_lt h1]
        simp [← BitVec.ofNat_toNat]
    · cases k with
      | zero => exact absurd (by simpa using h) h1
      | succ k =>
        have hs : (x1 >>> (BitVec.toNat (7#64))).toNat = x1.toNat / 128 := by
          rw [BitVec.toNat_ushiftRight, Nat.shiftRight_eq_div_pow]; rfl
        obtain ⟨z, y, q1, q2, q3⟩ := put_l2 k (x0 ++ [(BitVec.setWidth 8 x1) ||| (128#8)]) (x1 >>> (BitVec.toNat (7#64))) (by
          rw [hs]; exact Nat.div_lt_of_lt_mul (by rw [Nat.pow_succ, Nat.mul_comm] at h; exact h)) (by rw [List.length_append]; simp; omega)
        refine ⟨((BitVec.setWidth 8 x1) ||| (128#8)) :: z, y, ?_, by rw [List.length_cons]; omega, ?_⟩
        · rw [varint_Put_l2, if_pos (by simp only [decide_eq_true_eq, BitVec.le_def]; show 128 ≤ x1.toNat; omega), if_pos (ble_of (by simp; omega)), q1, List.append_assoc]
          rfl
        · rw [putB_ge h1, List.cons_append, q3, hs, or128]
theorem put_eq (n : BitVec 32) : varint_Put n = some (putB n.toNat) := by
  obtain ⟨z, y, q1, q2, q3⟩ := put_l2 4 [] n (Nat.lt_of_lt_of_le n.isLt (by decide)) (by simp)
  unfold varint_Put
  rw [bind_some q1]
  simp only [List.nil_append]
  rw [if_pos (ble_of (by simp; omega)), q3]
theorem num_eq (l : List B8) (n : Int) (h0 : 0 ≤ n) (h : n < 4294967296) (hl : l.length ≤ 1000000000) : wire_Writer_Num l n = some (l ++ putB n.toNat) := by
  have e : (BitVec.ofInt 32 n).toNat = n.toNat := by rw [BitVec.toNat_ofInt]; simp; omega
  unfold wire_Writer_Num
  rw [bind_some (put_eq _), e, if_pos (ble_of (by have := putB_len5 (n := n.toNat) (by omega); omega))]
def nodeB (x : api_Node) : List B8 := putB x.kind.toNat ++ (if x.kind = 9 then [] else if x.kind = 0 then putB x.next.toNat else if x.kind = 5 then putB x.arg.toNat ++ (putB x.next.toNat ++ putB x.alt.toNat) else if x.kind = 8 then putB x.next.toNat ++ putB x.alt.toNat else putB x.arg.toNat ++ putB x.next.toNat)
def nodesB (l : List api_Node) : Nat → Nat → List B8
  | _, 0 => []
  | i, m + 1 => nodeB (List.getD l i d_api_Node) ++ nodesB l (i + 1) m
def funcsB (fs : FS) : Nat → Nat → List B8
  | _, 0 => []
  | f, m + 1 => putB (List.getD fs f []).length ++ nodesB (List.getD fs f []) 0 (List.getD fs f []).length ++ funcsB fs (f + 1) m
def progB (p : api_Program) : List B8 := [97#8, 108#8, 112#8, 49#8] ++ (putB p.globals.toNat ++ (putB p.locks.toNat ++ (putB p.slots.toNat ++ (putB p.funcs.length ++ funcsB p.funcs 0 p.funcs.length))))
def Sm (x : api_Node) : Prop := (0 ≤ x.kind ∧ x.kind ≤ 9) ∧ (x.kind ≠ 9 → 0 ≤ x.next ∧ x.next < 65536) ∧ (x.kind ≠ 9 → x.kind ≠ 0 → x.kind ≠ 8 → 0 ≤ x.arg ∧ x.arg < 65536) ∧ (x.kind = 5 ∨ x.kind = 8 → 0 ≤ x.alt ∧ x.alt < 65536)
theorem sm_of {p : api_Program} (hg : Good p) {f i : Nat} (hf : f < p.funcs.length) (hi : i < (List.getD p.funcs f []).length) : Sm (List.getD (List.getD p.funcs f []) i d_api_Node) := by
  have h := hg.node f i hf hi
  have h1 := hg.globals
  have h2 := hg.locks
  have h3 := hg.slots
  have h4 := hg.funcs
  have h5 := hg.le f
  generalize List.getD (List.getD p.funcs f []) i d_api_Node = x at h
  have k := h.kind
  refine ⟨k, fun h9 => ?_, fun h9 h0 h8 => ?_, fun hh => ?_⟩
  · have := h.next h9; omega
  · have a1 := h.glob; have a2 := h.lock; have a3 := h.spawn; have a4 := h.join; have a5 := h.call
    omega
  · have a3 := h.spawn; have a6 := h.alt
    omega
theorem nodeB_len {x : api_Node} (h : Sm x) : (nodeB x).length ≤ 20 := by
  obtain ⟨h1, h2, h3, h4⟩ := h
  have q0 := putB_len5 (n := x.kind.toNat) (by omega)
  unfold nodeB
  rw [List.length_append]
  split
  · simp; omega
  · rename_i k9
    have q1 := putB_len5 (n := x.next.toNat) (by have := h2 k9; omega)
    split
    · omega
    · rename_i k0
      split
      · have q2 := putB_len5 (n := x.arg.toNat) (by have := h3 k9 k0 (by omega); omega)
        have q3 := putB_len5 (n := x.alt.toNat) (by have := h4 (.inl ‹_›); omega)
        simp only [List.length_append]; omega
      · split
        · have q3 := putB_len5 (n := x.alt.toNat) (by have := h4 (.inr ‹_›); omega)
          simp only [List.length_append]; omega
        · have q2 := putB_len5 (n := x.arg.toNat) (by have := h3 k9 k0 ‹_›; omega)
          simp only [List.length_append]; omega
theorem nodesB_len {l : List api_Node} (h : ∀ i, i < l.length → Sm (List.getD l i d_api_Node)) : ∀ (m i : Nat), i + m ≤ l.length → (nodesB l i m).length ≤ 20 * m
  | 0, i, hi => by simp [nodesB]
  | m + 1, i, hi => by
    have h1 := nodeB_len (h i (by omega))
    have h2 := nodesB_len h m (i + 1) (by omega)
    simp only [nodesB, List.length_append]; omega
theorem write_l16 (x1 : FS) (x2 x3 : Int) (l : List api_Node) (hle : l.length ≤ 65536) (h : ∀ i, i < l.length → Sm (List.getD l i d_api_Node)) : ∀ (m i : Nat) (b : List B8), i + m = l.length → b.length + 20 * m ≤ 1000000000 → pcode_Write_l16 b x1 x2 x3 l (l.length : Int) (i : Int) = some (b ++ nodesB l i m)
  | 0, i, b, hi, hb => by
    rw [pcode_Write_l16, if_neg (by simp only [decide_eq_true_eq]; omega), nodesB, List.append_nil]
  | m + 1, i, b, hi, hb => by
    rw [pcode_Write_l16, if_pos (decide_eq_true (by omega)), if_pos (decide_eq_true (by omega)), if_pos (decide_eq_true (by omega)), Int.toNat_natCast i, inc i (by omega)]
    have hx := h i (by omega)
    have hl := nodeB_len hx
    have hw := write_l16 x1 x2 x3 l hle h m (i + 1) (b ++ nodeB (List.getD l i d_api_Node)) (by omega) (by rw [List.length_append]; omega)
    rw [nodesB, ← List.append_assoc, ← hw]
    generalize List.getD l i d_api_Node = x at hx hl
    obtain ⟨h1, h2, h3, h4⟩ := hx
    have q0 := putB_len5 (n := x.kind.toNat) (by omega)
    rw [bind_some (num_eq b x.kind (by omega) (by omega) (by omega))]
    unfold pcode_parts nodeB
    by_cases k9 : x.kind = 9
    · rw [if_pos (eqT k9), if_pos k9, List.append_nil]
      rfl
    rw [if_neg (eqF k9), if_neg k9]
    have n2 := h2 k9
    have q1 := putB_len5 (n := x.next.toNat) (by omega)
    by_cases k0 : x.kind = 0
    · rw [if_pos (eqT k0), if_pos k0]
      simp only [bind, Option.bind_some, pcode_Write_l20_1, pcode_Write_l20_2]
      rw [num_eq _ x.next (by omega) (by omega) (by rw [List.length_append]; omega)]
      simp only [Option.bind_some, List.append_assoc]
    rw [if_neg (eqF k0), if_neg k0]
    by_cases k5 : x.kind = 5
    · have n3 := h3 k9 k0 (by omega)
      have n4 := h4 (.inl k5)
      have q2 := putB_len5 (n := x.arg.toNat) (by omega)
      rw [if_pos (eqT k5), if_pos k5]
      simp only [bind, Option.bind_some, pcode_Write_l20_3, pcode_Write_l20_4, pcode_Write_l20_5, pcode_Write_l20_6]
      rw [num_eq _ x.arg (by omega) (by omega) (by rw [List.length_append]; omega)]
      simp only [Option.bind_some]
      rw [num_eq _ x.next (by omega) (by omega) (by simp only [List.length_append]; omega)]
      simp only [Option.bind_some]
      rw [num_eq _ x.alt (by omega) (by omega) (by simp only [List.length_append]; omega)]
      simp only [Option.bind_some, List.append_assoc]
    rw [if_neg (eqF k5), if_neg k5]
    by_cases k8 : x.kind = 8
    · have n4 := h4 (.inr k8)
      rw [if_pos (eqT k8), if_pos k8]
      simp only [bind, Option.bind_some, pcode_Write_l20_7, pcode_Write_l20_8, pcode_Write_l20_9]
      rw [num_eq _ x.next (by omega) (by omega) (by simp only [List.length_append]; omega)]
      simp only [Option.bind_some]
      rw [num_eq _ x.alt (by omega) (by omega) (by simp only [List.length_append]; omega)]
      simp only [Option.bind_some, List.append_assoc]
    · have n3 := h3 k9 k0 k8
      have q2 := putB_len5 (n := x.arg.toNat) (by omega)
      rw [if_neg (eqF k8), if_neg k8]
      simp only [bind, Option.bind_some, pcode_Write_l20_10, pcode_Write_l20_11, pcode_Write_l20_12]
      rw [num_eq _ x.arg (by omega) (by omega) (by simp only [List.length_append]; omega)]
      simp only [Option.bind_some]
      rw [num_eq _ x.next (by omega) (by omega) (by simp only [List.length_append]; omega)]
      simp only [Option.bind_some, List.append_assoc]
theorem funcsB_len {p : api_Program} (hg : Good p) : ∀ (m f : Nat), f + m ≤ p.funcs.length → (funcsB p.funcs f m).length ≤ 1285 * m
  | 0, f, hi => by simp [funcsB]
  | m + 1, f, hi => by
    have hle := hg.le f
    have h1 := nodesB_len (fun i hi' => sm_of hg (f := f) (by omega) hi') (List.getD p.funcs f []).length 0 (by omega)
    have h2 := funcsB_len hg m (f + 1) (by omega)
    have h3 := putB_len5 (n := (List.getD p.funcs f []).length) (by omega)
    simp only [funcsB, List.length_append]; omega
theorem write_l12 {p : api_Program} (hg : Good p) : ∀ (m f : Nat) (b : List B8), f + m = p.funcs.length → b.length + 1285 * m ≤ 100000000 → pcode_Write_l12 b p.funcs (p.funcs.length : Int) (f : Int) = some (b ++ funcsB p.funcs f m)
  | 0, f, b, hi, hb => by
    rw [pcode_Write_l12, if_neg (by simp only [decide_eq_true_eq]; omega), funcsB, List.append_nil]
  | m + 1, f, b, hi, hb => by
    have hn := hg.funcs
    have hle := hg.le f
    have h3 := putB_len5 (n := (List.getD p.funcs f []).length) (by omega)
    have h1 := nodesB_len (fun i hi' => sm_of hg (f := f) (by omega) hi') (List.getD p.funcs f []).length 0 (by omega)
    have hw := write_l12 hg m (f + 1) (b ++ (putB (List.getD p.funcs f []).length ++ nodesB (List.getD p.funcs f []) 0 (List.getD p.funcs f []).length)) (by omega) (by simp only [List.length_append]; omega)
    rw [pcode_Write_l12, if_pos (decide_eq_true (by omega)), if_pos (decide_eq_true (by omega)), if_pos (decide_eq_true (by omega)), Int.toNat_natCast f, inc f (by omega), bind_some (num_eq b _ (by omega) (by omega) (by omega)), Int.toNat_natCast]
    have h16 := write_l16 p.funcs (p.funcs.length : Int) (f : Int) (List.getD p.funcs f []) (by omega) (fun i hi' => sm_of hg (f := f) (by omega) hi') (List.getD p.funcs f []).length 0 (b ++ putB (List.getD p.funcs f []).length) (by omega) (by rw [List.length_append]; omega)
    rw [show ((0 : Nat) : Int) = 0 from rfl] at h16
    rw [bind_some h16, List.append_assoc, hw, funcsB]
    simp only [List.append_assoc]
theorem progB_len {p : api_Program} (hg : Good p) : (progB p).length ≤ 30000 := by
  have h1 := hg.globals; have h2 := hg.locks; have h3 := hg.slots; have h4 := hg.funcs
  have h := funcsB_len hg p.funcs.length 0 (by omega)
  have q1 := putB_len5 (n := p.globals.toNat) (by omega)
  have q2 := putB_len5 (n := p.locks.toNat) (by omega)
  have q3 := putB_len5 (n := p.slots.toNat) (by omega)
  have q4 := putB_len5 (n := p.funcs.length) (by omega)
  unfold progB
  simp only [List.length_append, List.length_cons, List.length_nil]
  omega
def numsB (l : List Int) : Nat → Nat → List B8
  | _, 0 => []
  | i, m + 1 => putB (List.getD l i 0).toNat ++ numsB l (i + 1) m
theorem write_l7 (p : api_Program) (l : List Int) (hle : l.length ≤ 65536) (h : ∀ i, i < l.length → 0 ≤ List.getD l i 0 ∧ List.getD l i 0 < 65536) : ∀ (m i : Nat) (b : List B8), i + m = l.length → b.length + 5 * m ≤ 1000000000 → pcode_Write_l7 b l p.globals p.locks p.slots p.funcs (l.length : Int) (i : Int) = some (b ++ numsB l i m)
  | 0, i, b, hi, hb => by
    rw [pcode_Write_l7, if_neg (by simp only [decide_eq_true_eq]; omega), numsB, List.append_nil]
  | m + 1, i, b, hi, hb => by
    have hx := h i (by omega)
    have q := putB_len5 (n := (List.getD l i 0).toNat) (by omega)
    have hw := write_l7 p l hle h m (i + 1) (b ++ putB (List.getD l i 0).toNat) (by omega) (by rw [List.length_append]; omega)
    rw [pcode_Write_l7, if_pos (decide_eq_true (by omega)), if_pos (decide_eq_true (by omega)), if_pos (decide_eq_true (by omega)), Int.toNat_natCast i, inc i (by omega), bind_some (num_eq b _ hx.1 (by omega) (by omega)), hw, numsB, List.append_assoc]
theorem write_good {p : api_Program} (hg : Good p) (hk : prog_Check p = some (0, 0, 0)) : pcode_Write p = some (0, progB p) := by
  have h1 := hg.globals; have h2 := hg.locks; have h3 := hg.slots; have h4 := hg.funcs
  have q1 := putB_len5 (n := p.globals.toNat) (by omega)
  have q2 := putB_len5 (n := p.locks.toNat) (by omega)
  have q3 := putB_len5 (n := p.slots.toNat) (by omega)
  have q4 := putB_len5 (n := p.funcs.length) (by omega)
  unfold pcode_Write
  rw [bind_some hk, if_neg (by decide)]
  unfold wire_Writer_Raw
  rw [if_pos (by decide), bind_some rfl, List.nil_append]
  have h7 := write_l7 p [p.globals, p.locks, p.slots, (p.funcs.length : Int)] (by simp) (fun i hi => by
    have : i = 0 ∨ i = 1 ∨ i = 2 ∨ i = 3 := by simp at hi; omega
    rcases this with rfl | rfl | rfl | rfl
    · show 0 ≤ p.globals ∧ p.globals < 65536; omega
    · show 0 ≤ p.locks ∧ p.locks < 65536; omega
    · show 0 ≤ p.slots ∧ p.slots < 65536; omega
    · show 0 ≤ (p.funcs.length : Int) ∧ (p.funcs.length : Int) < 65536; omega) 4 0 [97#8, 108#8, 112#8, 49#8] rfl (by simp)
  have e7 : numsB [p.globals, p.locks, p.slots, (p.funcs.length : Int)] 0 4 = putB p.globals.toNat ++ (putB p.locks.toNat ++ (putB p.slots.toNat ++ (putB p.funcs.length ++ []))) := rfl
  rw [e7, List.append_nil] at h7
  rw [bind_some (show pcode_Write_l7 [97#8, 108#8, 112#8, 49#8] [p.globals, p.locks, p.slots, (p.funcs.length : Int)] p.globals p.locks p.slots p.funcs _ 0 = _ from h7)]
  have h12 := write_l12 hg p.funcs.length 0 ([97#8, 108#8, 112#8, 49#8] ++ (putB p.globals.toNat ++ (putB p.locks.toNat ++ (putB p.slots.toNat ++ putB p.funcs.length)))) (by omega) (by simp only [List.length_append, List.length_cons, List.length_nil]; omega)
  rw [show ((0 : Nat) : Int) = 0 from rfl] at h12
  have hl := progB_len hg
  have ep : [97#8, 108#8, 112#8, 49#8] ++ (putB p.globals.toNat ++ (putB p.locks.toNat ++ (putB p.slots.toNat ++ putB p.funcs.length))) ++ funcsB p.funcs 0 p.funcs.length = progB p := by
    unfold progB; simp only [List.append_assoc]
  rw [bind_some h12, ep]
  unfold wire_Writer_Bytes
  rw [if_pos (ble_of (by simp; omega)), List.nil_append]
  rfl
theorem write_bad {p : api_Program} {a b e : Int} (hk : prog_Check p = some (a, b, e)) (he : e ≠ 0) : pcode_Write p = some (e, []) := by
  unfold pcode_Write
  rw [bind_some hk, if_pos (neT he)]
def rotr (x : W32) (n : Nat) : W32 := (x <<< (32 - n)) ||| (x >>> n)
theorem mul4 (i : Nat) (h : i ≤ 1000000) : iMul 4 (i : Int) = ((4 * i : Nat) : Int) := by rw [iMul_eq (by omega) (by omega)]; omega
theorem mul8 (i : Nat) (h : i ≤ 1000000) : iMul 8 (i : Int) = ((8 * i : Nat) : Int) := by rw [iMul_eq (by omega) (by omega)]; omega
theorem sub_nat (i k : Nat) (h : i ≤ 1000000) (h2 : k ≤ i) : iSub (i : Int) (k : Int) = ((i - k : Nat) : Int) := by rw [iSub_eq (by omega) (by omega)]; omega
theorem upd_same {α : Type} (f : Nat → α) (i : Nat) (v : α) : upd f i v i = v := by simp [upd]
theorem upd_ne {α : Type} (f : Nat → α) {i j : Nat} (v : α) (h : j ≠ i) : upd f i v j = f j := by simp [upd, h]
theorem vput_in {α : Type} (f g : Nat → α) {n i : Nat} (h : i < n) : vput f 0 n g i = g i := by unfold vput; rw [if_pos (by omega), Nat.sub_zero]
def wordB (b : List B8) (i : Nat) : W32 := ((((BitVec.setWidth 32 (List.getD b (4 * i) 0#8)) <<< 24) ||| ((BitVec.setWidth 32 (List.getD b (4 * i + 1) 0#8)) <<< 16)) ||| ((BitVec.setWidth 32 (List.getD b (4 * i + 2) 0#8)) <<< 8)) ||| (BitVec.setWidth 32 (List.getD b (4 * i + 3) 0#8))
def wNext (w : Nat → W32) (i : Nat) : W32 := ((w (i - 16) + ((rotr (w (i - 15)) 7 ^^^ rotr (w (i - 15)) 18) ^^^ (w (i - 15) >>> 3))) + w (i - 7)) + ((rotr (w (i - 2)) 17 ^^^ rotr (w (i - 2)) 19) ^^^ (w (i - 2) >>> 10))
def wN (b : List B8) : Nat → Nat → W32
  | 0 => fun i => if i < 16 then wordB b i else 0#32
  | k + 1 => upd (wN b k) (16 + k) (wNext (wN b k) (16 + k))
theorem getD_drop' (b : List B8) (k j : Nat) : List.getD (List.drop k b) j 0#8 = List.getD b (k + j) 0#8 := by simp [List.getD]
theorem word_eq (b : List B8) (i : Nat) (h : 4 * i + 4 ≤ b.length) : sha_word (List.drop (4 * i) b) = some (wordB b i) := by
  have hl : (List.drop (4 * i) b).length = b.length - 4 * i := by simp
  unfold sha_word
  rw [if_pos (decide_eq_true (by omega)), if_pos (decide_eq_true (by omega)), if_pos (decide_eq_true (by omega)), if_pos (decide_eq_true (by omega))]
  simp only [getD_drop', Nat.add_zero]
  rfl
theorem spread_l3 (x0 : Nat → W32) (b : List B8) (hb : 64 ≤ b.length) : ∀ (m i : Nat) (x : Nat → W32), i + m = 16 → (∀ j, j < i → x j = wordB b j) → ∃ y, sha_spread_l3 x0 x b (i : Int) = some y ∧ ∀ j, j < 16 → y j = wordB b j
  | 0, i, x, hi, h => by
    rw [sha_spread_l3, if_neg (by simp only [decide_eq_true_eq]; omega)]
    exact ⟨x, rfl, fun j hj => h j (by omega)⟩
  | m + 1, i, x, hi, h => by
    obtain ⟨y, q1, q2⟩ := spread_l3 x0 b hb m (i + 1) (upd x i (wordB b i)) (by omega) (fun j hj => by
      by_cases e : j = i
      · subst e; exact upd_same _ _ _
      · rw [upd_ne _ _ e]; exact h j (by omega))
    refine ⟨y, ?_, q2⟩
    rw [sha_spread_l3, if_pos (decide_eq_true (by omega)), mul4 i (by omega), if_pos (decide_eq_true (by omega)), if_pos (decide_eq_true (by omega)), Int.toNat_natCast (4 * i), List.take_of_length_le (Nat.le_refl _), bind_some (word_eq b i (by omega)), if_pos (decide_eq_true (by omega)), if_pos (decide_eq_true (by omega)), Int.toNat_natCast i, inc i (by omega)]
    exact q1
theorem turn_eq (x : W32) : sha_turn x 2 = some (rotr x 2) ∧ sha_turn x 6 = some (rotr x 6) ∧ sha_turn x 7 = some (rotr x 7) ∧ sha_turn x 11 = some (rotr x 11) ∧ sha_turn x 13 = some (rotr x 13) ∧ sha_turn x 17 = some (rotr x 17) ∧ sha_turn x 18 = some (rotr x 18) ∧ sha_turn x 19 = some (rotr x 19) ∧ sha_turn x 22 = some (rotr x 22) ∧ sha_turn x 25 = some (rotr x 25) :=
  ⟨by kernel_rfl, by kernel_rfl, by kernel_rfl, by kernel_rfl, by kernel_rfl, by kernel_rfl, by kernel_rfl, by kernel_rfl, by kernel_rfl, by kernel_rfl⟩
theorem spread_l8 (x0 : Nat → W32) (b : List B8) : ∀ (m k : Nat) (x : Nat → W32), k + m = 48 → (∀ j, j < 16 + k → x j = wN b k j) → ∃ y, sha_spread_l8 x0 x ((16 + k : Nat) : Int) = some y ∧ ∀ j, j < 64 → y j = wN b 48 j
  | 0, k, x, hk, h => by
    rw [sha_spread_l8, if_neg (by simp only [decide_eq_true_eq]; omega)]
    have : k = 48 := by omega
    subst this
    exact ⟨x, rfl, fun j hj => h j (by omega)⟩
  | m + 1, k, x, hk, h => by
    have e1 := sub_nat (16 + k) 15 (by omega) (by omega)
    have e2 := sub_nat (16 + k) 2 (by omega) (by omega)
    have e3 := sub_nat (16 + k) 16 (by omega) (by omega)
    have e4 := sub_nat (16 + k) 7 (by omega) (by omega)
    have hw : wNext x (16 + k) = wNext (wN b k) (16 + k) := by
      unfold wNext
      rw [h (16 + k - 16) (by omega), h (16 + k - 15) (by omega), h (16 + k - 7) (by omega), h (16 + k - 2) (by omega)]
    obtain ⟨y, q1, q2⟩ := spread_l8 x0 b m (k + 1) (upd x (16 + k) (wNext x (16 + k))) (by omega) (fun j hj => by
      show _ = upd (wN b k) (16 + k) (wNext (wN b k) (16 + k)) j
      by_cases e : j = 16 + k
      · subst e; rw [upd_same, upd_same, hw]
      · rw [upd_ne _ _ e, upd_ne _ _ e]; exact h j (by omega))
    refine ⟨y, ?_, q2⟩
    have t1 := turn_eq (x (16 + k - 15))
    have t2 := turn_eq (x (16 + k - 2))
    have e1 : iSub ((16 + k : Nat) : Int) 15 = ((16 + k - 15 : Nat) : Int) := e1
    have e2 : iSub ((16 + k : Nat) : Int) 2 = ((16 + k - 2 : Nat) : Int) := e2
    have e3 : iSub ((16 + k : Nat) : Int) 16 = ((16 + k - 16 : Nat) : Int) := e3
    have e4 : iSub ((16 + k : Nat) : Int) 7 = ((16 + k - 7 : Nat) : Int) := e4
    rw [sha_spread_l8, if_pos (decide_eq_true (by omega)), e1, if_pos (decide_eq_true (by omega)), if_pos (decide_eq_true (by omega)), e2, if_pos (decide_eq_true (by omega)), if_pos (decide_eq_true (by omega)), e3, if_pos (decide_eq_true (by omega)), if_pos (decide_eq_true (by omega)),
      Int.toNat_natCast (16 + k - 15), Int.toNat_natCast (16 + k - 2), Int.toNat_natCast (16 + k - 16), bind_some t1.2.2.1, bind_some t1.2.2.2.2.2.2.1, e4, if_pos (decide_eq_true (by omega)), if_pos (decide_eq_true (by omega)), Int.toNat_natCast (16 + k - 7), bind_some t2.2.2.2.2.2.1, bind_some t2.2.2.2.2.2.2.2.1, if_pos (decide_eq_true (by omega)), if_pos (decide_eq_true (by omega)), Int.toNat_natCast (16 + k), inc (16 + k) (by omega)]
    exact q1
theorem spread_eq (b : List B8) (hb : 64 ≤ b.length) : ∃ y, sha_spread b = some y ∧ ∀ j, j < 64 → y j = wN b 48 j := by
  obtain ⟨x, q1, q2⟩ := spread_l3 (fun _ => 0#32) b hb 16 0 (fun _ => 0#32) (by omega) (fun j hj => by omega)
  obtain ⟨y, q3, q4⟩ := spread_l8 (fun _ => 0#32) b 48 0 x (by omega) (fun j hj => by
    rw [q2 j (by omega)]
    show _ = if j < 16 then wordB b j else 0#32
    rw [if_pos (by omega)])
  unfold sha_spread
  rw [bind_some (show sha_spread_l3 _ _ b 0 = _ from q1), bind_some (show sha_spread_l8 _ x 16 = _ from q3)]
  exact ⟨_, rfl, fun j hj => by rw [vput_in _ _ hj]; exact q4 j hj⟩
def tmp1 (s : Nat → W32) (k w : W32) : W32 := (((s 7 + ((rotr (s 4) 6 ^^^ rotr (s 4) 11) ^^^ rotr (s 4) 25)) + ((s 4 &&& s 5) ^^^ (~~~(s 4) &&& s 6))) + k) + w
def tmp2 (s : Nat → W32) : W32 := ((rotr (s 0) 2 ^^^ rotr (s 0) 13) ^^^ rotr (s 0) 22) + (((s 0 &&& s 1) ^^^ (s 0 &&& s 2)) ^^^ (s 1 &&& s 2))
def rnd (s : Nat → W32) (k w : W32) : Nat → W32 := fun i => if i = 0 then tmp1 s k w + tmp2 s else if i = 4 then s 3 + tmp1 s k w else if i < 8 then s (i - 1) else s i
def rds (w : Nat → W32) (s : Nat → W32) : Nat → Nat → W32
  | 0 => s
  | k + 1 => rnd (rds w s k) (tab_1 k) (w k)
def comp (h : Nat → W32) (b : List B8) : Nat → W32 := fun i => if i < 8 then h i + rds (wN b 48) (vput (fun _ => 0#32) 0 8 h) 64 i else h i
theorem rnd_eq (x : Nat → W32) (t u : W32) (k w : W32) (ht : t = tmp1 x k w) (hu : u = t + tmp2 x) : upd (upd (vput x 1 7 (fun i => x (addN 0 i))) 4 ((vput x 1 7 (fun i => x (addN 0 i))) 4 + t)) 0 u = rnd x k w := by
  funext i
  subst hu ht
  unfold rnd
  by_cases h0 : i = 0
  · subst h0; rw [upd_same, if_pos rfl]
  · rw [upd_ne _ _ h0, if_neg h0]
    by_cases h4 : i = 4
    · subst h4; rw [upd_same, if_pos rfl]; rfl
    · rw [upd_ne _ _ h4, if_neg h4]
      unfold vput
      by_cases h8 : i < 8
      · rw [if_pos (by omega), if_pos h8]; rfl
      · rw [if_neg (by omega), if_neg h8]
theorem mix_l3 (x0 : List B8) (x1 : Nat → W32) (w : Nat → W32) (hw : ∀ j, j < 64 → x1 j = w j) (s : Nat → W32) (x3 : Nat → W32) (x4 x5 : Nat) (x6 : BitVec 64) : ∀ (m k : Nat), k + m = 64 → sha_State_mix_l3 x0 x1 (rds w s k) x3 x4 x5 x6 tab_1 (k : Int) = some (rds w s 64)
  | 0, k, hk => by
    have : k = 64 := by omega
    subst this
    rw [sha_State_mix_l3, if_neg (by simp)]
  | m + 1, k, hk => by
    have ih := mix_l3 x0 x1 w hw s x3 x4 x5 x6 m (k + 1) (by omega)
    have t1 := turn_eq (rds w s k 4)
    have t2 := turn_eq (rds w s k 0)
    rw [sha_State_mix_l3, if_pos (decide_eq_true (by omega)), if_pos (decide_eq_true (by omega)), if_pos (decide_eq_true (by omega)), bind_some t1.2.1, bind_some t1.2.2.2.1, bind_some t1.2.2.2.2.2.2.2.2.2, bind_some t2.1, bind_some t2.2.2.2.2.1, bind_some t2.2.2.2.2.2.2.2.2.1, Int.toNat_natCast k, inc k (by omega), hw k (by omega)]
    exact (congrArg (fun z => sha_State_mix_l3 x0 x1 z x3 x4 x5 x6 tab_1 ((k + 1 : Nat) : Int)) (rnd_eq (rds w s k) _ _ (tab_1 k) (w k) rfl rfl)).trans ih
theorem mix_l13 (x0 : List B8) (r h : Nat → W32) (x3 x4 : Nat) (x5 : BitVec 64) : ∀ (m k : Nat) (x : Nat → W32), k + m = 8 → (∀ j, x j = if j < k then h j + r j else h j) → ∃ y, sha_State_mix_l13 x0 r x x3 x4 x5 (k : Int) = some y ∧ ∀ j, y j = if j < 8 then h j + r j else h j
  | 0, k, x, hk, hx => by
    have : k = 8 := by omega
    subst this
    rw [sha_State_mix_l13, if_neg (by simp)]
    exact ⟨x, rfl, hx⟩
  | m + 1, k, x, hk, hx => by
    obtain ⟨y, q1, q2⟩ := mix_l13 x0 r h x3 x4 x5 m (k + 1) (upd x k (x k + r k)) (by omega) (fun j => by
      by_cases e : j = k
      · subst e; rw [upd_same, if_pos (by omega), hx, if_neg (by omega)]
      · rw [upd_ne _ _ e, hx]
        by_cases h1 : j < k
        · rw [if_pos h1, if_pos (by omega)]
        · rw [if_neg h1, if_neg (by omega)])
    refine ⟨y, ?_, q2⟩
    rw [sha_State_mix_l13, if_pos (decide_eq_true (by omega)), if_pos (decide_eq_true (by omega)), if_pos (decide_eq_true (by omega)), Int.toNat_natCast k, inc k (by omega)]
    exact q1
theorem mix_eq (l1 : List B8) (h : Nat → W32) (lo n : Nat) (c : BitVec 64) (b : List B8) (hb : 64 ≤ b.length) : sha_State_mix l1 h lo n c b = some (comp h b) := by
  obtain ⟨y, q1, q2⟩ := spread_eq b hb
  unfold sha_State_mix
  have q3 := mix_l3 l1 (vput (fun _ => 0#32) 0 64 y) (wN b 48) (fun j hj => by rw [vput_in _ _ hj]; exact q2 j hj) (vput (fun _ => 0#32) 0 8 h) h lo n c 64 0 (by omega)
  obtain ⟨z, q4, q5⟩ := mix_l13 l1 (rds (wN b 48) (vput (fun _ => 0#32) 0 8 h) 64) h lo n c 8 0 h (by omega) (fun j => by rw [if_neg (by omega)])
  rw [bind_some q1, bind_some (show sha_State_mix_l3 l1 (vput (fun _ => 0#32) 0 64 y) (vput (fun _ => 0#32) 0 8 h) h lo n c tab_1 0 = _ from q3), bind_some (show sha_State_mix_l13 l1 _ h lo n c 0 = _ from q4)]
  congr 1
  funext j
  exact q5 j
def blk (h : Nat → W32) (l : List B8) : Nat → Nat → W32
  | 0 => h
  | k + 1 => comp (blk h l k) (List.take 64 (List.drop (64 * k) l))
theorem blk_app (h : Nat → W32) (t b : List B8) : ∀ k, 64 * k ≤ t.length → blk h (t ++ b) k = blk h t k
  | 0, _ => rfl
  | k + 1, hk => by
    simp only [blk]
    rw [blk_app h t b k (by omega), List.drop_append_of_le_length (by omega), List.take_append_of_le_length (by simp; omega)]
theorem blk_add (h : Nat → W32) (l : List B8) (q : Nat) : ∀ k, blk (blk h l q) (List.drop (64 * q) l) k = blk h l (q + k)
  | 0 => rfl
  | k + 1 => by
    simp only [blk]
    rw [blk_add h l q k, List.drop_drop, show 64 * q + 64 * k = 64 * (q + k) by omega]
    rfl
theorem write_l2 (x0 l : List B8) (h : Nat → W32) (x3 x4 : Nat) (x5 : BitVec 64) (hl : l.length ≤ 1000000000) : ∀ (m j : Nat), j + m = l.length / 64 → sha_State_Write_l2 x0 l (blk h l j) x3 x4 x5 (64 * j) (l.length - 64 * j) = some (blk h l (l.length / 64), 64 * (l.length / 64), l.length - 64 * (l.length / 64))
  | 0, j, hj => by
    rw [sha_State_Write_l2, if_neg (by simp only [decide_eq_true_eq]; omega)]
    rw [show j = l.length / 64 by omega]
  | m + 1, j, hj => by
    have ih := write_l2 x0 l h x3 x4 x5 hl m (j + 1) (by omega)
    rw [sha_State_Write_l2, if_pos (decide_eq_true (by omega)), if_pos (decide_eq_true (by omega)), addN_eq, addN_eq, if_pos (decide_eq_true (by omega)), Nat.add_zero, bind_some (mix_eq x0 (blk h l j) x3 x4 x5 _ (by simp; omega)), show 64 * j + 64 = 64 * (j + 1) by omega, show l.length - 64 * j - 64 = l.length - 64 * (j + 1) by omega]
    exact ih
def H0 (i : Nat) : W32 := List.getD [1779033703#32, 3144134277#32, 1013904242#32, 2773480762#32, 1359893119#32, 2600822924#32, 528734635#32, 1541459225#32] i (0#32)
structure Rep (l1 : List B8) (h : Nat → W32) (lo n : Nat) (c : BitVec 64) (t : List B8) : Prop where
  hh : h = blk H0 t (t.length / 64)
  left : List.take n (List.drop lo l1) = List.drop (64 * (t.length / 64)) t
  nn : n = t.length - 64 * (t.length / 64)
  fits : lo + n ≤ l1.length
  cc : c = BitVec.ofNat 64 t.length
theorem rep_write {l1 : List B8} {h : Nat → W32} {lo n : Nat} {c : BitVec 64} {t : List B8} (r : Rep l1 h lo n c t) (b : List B8) (hs : t.length + b.length ≤ 100000000) : ∃ l' h' lo' n' c', sha_State_Write l1 h lo n c b = some (l', h', lo', n', c') ∧ Rep l' h' lo' n' c' (t ++ b) := by
  have hq := r.nn
  have hL : (List.drop (64 * (t.length / 64)) t ++ b) = List.drop (64 * (t.length / 64)) (t ++ b) := (List.drop_append_of_le_length (by omega)).symm
  have hn : (List.drop (64 * (t.length / 64)) (t ++ b)).length = t.length + b.length - 64 * (t.length / 64) := by simp
  have hd : t.length / 64 + (t.length + b.length - 64 * (t.length / 64)) / 64 = (t ++ b).length / 64 := by rw [List.length_append]; omega
  have w := write_l2 l1 (List.drop (64 * (t.length / 64)) (t ++ b)) h lo n (c + BitVec.ofInt 64 (b.length : Int)) (by rw [hn]; omega) ((List.drop (64 * (t.length / 64)) (t ++ b)).length / 64) 0 (by omega)
  rw [Nat.mul_zero, Nat.sub_zero] at w
  have w : sha_State_Write_l2 l1 (List.drop (64 * (t.length / 64)) (t ++ b)) h lo n (c + BitVec.ofInt 64 (b.length : Int)) 0 (List.drop (64 * (t.length / 64)) (t ++ b)).length = _ := w
  refine ⟨(List.drop (64 * (t.length / 64)) (t ++ b)), blk h (List.drop (64 * (t.length / 64)) (t ++ b)) ((List.drop (64 * (t.length / 64)) (t ++ b)).length / 64), 64 * ((List.drop (64 * (t.length / 64)) (t ++ b)).length / 64), (List.drop (64 * (t.length / 64)) (t ++ b)).length - 64 * ((List.drop (64 * (t.length / 64)) (t ++ b)).length / 64), c + BitVec.ofInt 64 (b.length : Int), ?_, ?_⟩
  · unfold sha_State_Write
    rw [if_pos (decide_eq_true r.fits), if_pos (ble_of (by simp; omega)), List.nil_append, r.left, if_pos (ble_of (by simp; omega)), hL, bind_some w]
  · refine ⟨?_, ?_, ?_, ?_, ?_⟩
    · rw [hn, r.hh, ← blk_app H0 t b _ (by omega), blk_add, hd]
    · rw [hn, List.take_of_length_le (by simp; omega), List.drop_drop, show 64 * (t.length / 64) + 64 * ((t.length + b.length - 64 * (t.length / 64)) / 64) = 64 * (t.length / 64 + (t.length + b.length - 64 * (t.length / 64)) / 64) by omega, hd]
    · rw [hn, ← hd, List.length_append]; omega
    · rw [hn]; omega
    · rw [r.cc, List.length_append]
      apply BitVec.eq_of_toNat_eq
      rw [BitVec.toNat_add, BitVec.toNat_ofInt, BitVec.toNat_ofNat, BitVec.toNat_ofNat]
      omega
def pz (n : Nat) : Nat := (64 + 56 - n % 64) % 64
theorem sum_l4 (x0 : List B8) (x1 : Nat → B8) (x3 : Nat → W32) (x4 x5 : Nat) (x6 x11 : BitVec 64) : ∀ (m : Nat) (l1 : List B8) (h : Nat → W32) (lo n : Nat) (c : BitVec 64) (t : List B8), m = pz t.length → t.length + m ≤ 90000000 → Rep l1 h lo n c t → ∃ l' h' lo' n' c', sha_State_Sum_l4 x0 x1 l1 x3 x4 x5 x6 h lo n c x11 = some (l', h', lo', n', c') ∧ Rep l' h' lo' n' c' (t ++ List.replicate m 0#8)
  | 0, l1, h, lo, n, c, t, hm, hs, r => by
    have hn := r.nn
    unfold pz at hm
    rw [sha_State_Sum_l4, if_neg (by simp only [bne_iff_ne, ne_eq, Decidable.not_not]; omega)]
    exact ⟨_, _, _, _, _, rfl, by rw [List.replicate_zero, List.append_nil]; exact r⟩
  | m + 1, l1, h, lo, n, c, t, hm, hs, r => by
    have hn := r.nn
    unfold pz at hm
    obtain ⟨a1, a2, a3, a4, a5, w, r'⟩ := rep_write r [0#8] (by simp; omega)
    have hp : pz (t ++ [0#8]).length = m := by unfold pz; rw [List.length_append, List.length_singleton]; omega
    obtain ⟨b1, b2, b3, b4, b5, w2, r2⟩ := sum_l4 x0 x1 x3 x4 x5 x6 x11 m a1 a2 a3 a4 a5 (t ++ [0#8]) hp.symm (by simp; omega) r'
    refine ⟨b1, b2, b3, b4, b5, ?_, ?_⟩
    · rw [sha_State_Sum_l4, if_pos (by simp only [bne_iff_ne, ne_eq]; omega), bind_some w]
      exact w2
    · rw [List.append_assoc] at r2
      exact r2
def tailB (n : Nat) : List B8 := (List.range 8).map fun i => BitVec.setWidth 8 ((BitVec.ofNat 64 n * 8#64) >>> (56 - 8 * i))
theorem sum_l8 (x0 : List B8) (x1 : Nat → B8) (x2 : List B8) (x4 : Nat → W32) (x5 x6 : Nat) (x7 : BitVec 64) (x8 : Nat → W32) (x9 x10 : Nat) (x11 x12 : BitVec 64) : ∀ (m k : Nat) (x : Nat → B8), k + m = 8 → (∀ j, j < k → x j = BitVec.setWidth 8 (x12 >>> (56 - 8 * j))) → ∃ y, sha_State_Sum_l8 x0 x1 x2 x x4 x5 x6 x7 x8 x9 x10 x11 x12 (k : Int) = some y ∧ ∀ j, j < 8 → y j = BitVec.setWidth 8 (x12 >>> (56 - 8 * j))
  | 0, k, x, hk, hx => by
    rw [sha_State_Sum_l8, if_neg (by simp only [decide_eq_true_eq]; omega)]
    exact ⟨x, rfl, fun j hj => hx j (by omega)⟩
  | m + 1, k, x, hk, hx => by
    have e1 : iSub 56 ((8 * k : Nat) : Int) = ((56 - 8 * k : Nat) : Int) := by rw [iSub_eq (by omega) (by omega)]; omega
    obtain ⟨y, q1, q2⟩ := sum_l8 x0 x1 x2 x4 x5 x6 x7 x8 x9 x10 x11 x12 m (k + 1) (upd x k (BitVec.setWidth 8 (x12 >>> (56 - 8 * k)))) (by omega) (fun j hj => by
      by_cases e : j = k
      · subst e; exact upd_same _ _ _
      · rw [upd_ne _ _ e]; exact hx j (by omega))
    refine ⟨y, ?_, q2⟩
    rw [sha_State_Sum_l8, if_pos (decide_eq_true (by omega)), mul8 k (by omega), e1, if_pos (decide_eq_true (by omega)), if_pos (decide_eq_true (by omega)), if_pos (decide_eq_true (by omega)), Int.toNat_natCast k, Int.toNat_natCast (56 - 8 * k), inc k (by omega)]
    exact q1
def outB (h : Nat → W32) (i : Nat) : B8 := BitVec.setWidth 8 (h (i / 4) >>> (24 - 8 * (i % 4)))
theorem sum_l18 (x0 : List B8) (x1 : Nat → B8) (x3 : Nat → W32) (x4 x5 : Nat) (x6 : BitVec 64) (h : Nat → W32) (q : Nat) (hq : q < 8) (x10 : Int) : ∀ (m k : Nat) (x : Nat → B8), k + m = 4 → (∀ j, j < 4 * q + k → x j = outB h j) → ∃ y, sha_State_Sum_l18 x0 x1 x x3 x4 x5 x6 (q : Int) (h q) h x10 (k : Int) = some y ∧ ∀ j, j < 4 * (q + 1) → y j = outB h j
  | 0, k, x, hk, hx => by
    rw [sha_State_Sum_l18, if_neg (by simp only [decide_eq_true_eq]; omega)]
    exact ⟨x, rfl, fun j hj => hx j (by omega)⟩
  | m + 1, k, x, hk, hx => by
    have e1 : iSub 24 ((8 * k : Nat) : Int) = ((24 - 8 * k : Nat) : Int) := by rw [iSub_eq (by omega) (by omega)]; omega
    have e2 : iAdd ((4 * q : Nat) : Int) (k : Int) = ((4 * q + k : Nat) : Int) := by rw [iAdd_eq (by omega) (by omega)]; omega
    obtain ⟨y, q1, q2⟩ := sum_l18 x0 x1 x3 x4 x5 x6 h q hq x10 m (k + 1) (upd x (4 * q + k) (BitVec.setWidth 8 (h q >>> (24 - 8 * k)))) (by omega) (fun j hj => by
      by_cases e : j = 4 * q + k
      · subst e
        rw [upd_same]
        unfold outB
        rw [show (4 * q + k) / 4 = q by omega, show (4 * q + k) % 4 = k by omega]
      · rw [upd_ne _ _ e]; exact hx j (by omega))
    refine ⟨y, ?_, q2⟩
    rw [sha_State_Sum_l18, if_pos (decide_eq_true (by omega)), mul8 k (by omega), e1, if_pos (decide_eq_true (by omega)), mul4 q (by omega), e2, if_pos (decide_eq_true (by omega)), if_pos (decide_eq_true (by omega)), Int.toNat_natCast (4 * q + k), Int.toNat_natCast (24 - 8 * k), inc k (by omega)]
    exact q1
theorem sum_l15 (x0 : List B8) (x1 : Nat → B8) (x3 : Nat → W32) (x4 x5 : Nat) (x6 : BitVec 64) (h : Nat → W32) : ∀ (m q : Nat) (x : Nat → B8), q + m = 8 → (∀ j, j < 4 * q → x j = outB h j) → ∃ y, sha_State_Sum_l15 x0 x1 x x3 x4 x5 x6 h (q : Int) = some y ∧ ∀ j, j < 32 → y j = outB h j
  | 0, q, x, hq, hx => by
    rw [sha_State_Sum_l15, if_neg (by simp only [decide_eq_true_eq]; omega)]
    exact ⟨x, rfl, fun j hj => hx j (by omega)⟩
  | m + 1, q, x, hq, hx => by
    obtain ⟨y, q1, q2⟩ := sum_l18 x0 x1 x3 x4 x5 x6 h q (by omega) (q : Int) 4 0 x (by omega) hx
    obtain ⟨z, q3, q4⟩ := sum_l15 x0 x1 x3 x4 x5 x6 h m (q + 1) y (by omega) q2
    refine ⟨z, ?_, q4⟩
    rw [sha_State_Sum_l15, if_pos (decide_eq_true (by omega)), if_pos (decide_eq_true (by omega)), if_pos (decide_eq_true (by omega)), Int.toNat_natCast q, bind_some (show sha_State_Sum_l18 x0 x1 x x3 x4 x5 x6 (q : Int) (h q) h (q : Int) 0 = _ from q1), inc q (by omega)]
    exact q3
def padB (t : List B8) : List B8 := ((t ++ [128#8]) ++ List.replicate (pz (t.length + 1)) 0#8) ++ tailB t.length
def shaM (t : List B8) (i : Nat) : B8 := if i < 32 then outB (blk H0 (padB t) ((padB t).length / 64)) i else 0#8
theorem vecL_tail (v : Nat → B8) (n : Nat) (h : ∀ j, j < 8 → v j = BitVec.setWidth 8 ((BitVec.ofNat 64 n * 8#64) >>> (56 - 8 * j))) : vecL v 0 8 = tailB n := by
  unfold tailB
  show [v 0, v 1, v 2, v 3, v 4, v 5, v 6, v 7] = _
  rw [h 0 (by omega), h 1 (by omega), h 2 (by omega), h 3 (by omega), h 4 (by omega), h 5 (by omega), h 6 (by omega), h 7 (by omega)]
  rfl
theorem sum_eq {l1 : List B8} {h : Nat → W32} {lo n : Nat} {c : BitVec 64} {t : List B8} (r : Rep l1 h lo n c t) (hs : t.length ≤ 80000000) : sha_State_Sum l1 h lo n c = some (shaM t) := by
  have hn := r.nn
  have hl : (List.take n (List.drop lo l1)).length = n := by rw [r.left]; simp; omega
  have r0 : Rep (List.take n (List.drop lo l1)) h 0 (List.take n (List.drop lo l1)).length c t := by
    refine ⟨r.hh, ?_, ?_, ?_, r.cc⟩
    · rw [List.drop_zero, List.take_length, r.left]
    · rw [hl]; exact hn
    · omega
  obtain ⟨a1, a2, a3, a4, a5, w, r1⟩ := rep_write r0 [128#8] (by simp; omega)
  have hp : pz (t ++ [128#8]).length ≤ 64 := by unfold pz; omega
  obtain ⟨b1, b2, b3, b4, b5, w2, r2⟩ := sum_l4 l1 (fun _ => 0#8) h lo n c (c * 8#64) _ a1 a2 a3 a4 a5 (t ++ [128#8]) rfl (by simp at hp ⊢; omega) r1
  obtain ⟨y, w3, q3⟩ := sum_l8 l1 (fun _ => 0#8) b1 h lo n c b2 b3 b4 b5 (c * 8#64) 8 0 (fun _ => 0#8) (by omega) (fun j hj => by omega)
  have ht : vecL y 0 8 = tailB t.length := vecL_tail y _ (fun j hj => by rw [q3 j hj, r.cc])
  obtain ⟨d1, d2, d3, d4, d5, w4, r4⟩ := rep_write r2 (vecL y 0 8) (by rw [ht]; simp [tailB] at hp ⊢; omega)
  obtain ⟨z, w5, q5⟩ := sum_l15 l1 (fun _ => 0#8) h lo n c d2 8 0 (fun _ => 0#8) (by omega) (fun j hj => by omega)
  unfold sha_State_Sum
  rw [if_pos (decide_eq_true r.fits), if_pos (ble_of (by simp; omega)), List.nil_append, bind_some w, bind_some w2, bind_some (show sha_State_Sum_l8 l1 _ b1 _ h lo n c b2 b3 b4 b5 (c * 8#64) 0 = _ from w3), bind_some w4, bind_some (show sha_State_Sum_l15 l1 _ (fun _ => 0#8) h lo n c d2 0 = _ from w5)]
  congr 1
  funext i
  unfold shaM
  by_cases hi : i < 32
  · rw [vput_in _ _ hi, if_pos hi, q5 i hi]
    have := r4.hh
    rw [ht, List.length_append, List.length_singleton] at this
    rw [this]
    rfl
  · rw [if_neg hi]; unfold vput; rw [if_neg (by omega)]
theorem of_eq (b : List B8) (hs : b.length ≤ 80000000) : sha_Of [b] = some (shaM b) := by
  have r0 : Rep [] H0 0 0 0#64 [] := ⟨rfl, rfl, rfl, Nat.le_refl _, rfl⟩
  obtain ⟨a1, a2, a3, a4, a5, w, r1⟩ := rep_write r0 b (by simp; omega)
  rw [List.nil_append] at r1
  have hN : sha_New = some ([], H0, 0#64) := rfl
  have hl : sha_Of_l3 (fun _ => 0#8) [] H0 0 0 0#64 [b] 1 0 = some (a1, a2, a3, a4, a5) := by
    rw [sha_Of_l3, if_pos (decide_eq_true (by decide)), if_pos (decide_eq_true (by decide)), if_pos (decide_eq_true (by simp))]
    show (sha_State_Write [] H0 0 0 0#64 b >>= _) = _
    rw [bind_some w, show iAdd 0 1 = 1 by kernel_rfl, sha_Of_l3, if_neg (by decide)]
  unfold sha_Of
  rw [bind_some hN]
  show (sha_Of_l3 (fun _ => 0#8) [] H0 0 0 0#64 [b] 1 0 >>= _) = _
  rw [bind_some hl, bind_some (sum_eq r1 hs)]
  congr 1
  funext i
  unfold vput shaM
  by_cases hi : i < 32
  · rw [if_pos (by omega), if_pos hi, Nat.sub_zero, if_pos hi]
  · rw [if_neg (by omega), if_neg hi]
theorem digest_good {p : api_Program} (hg : Good p) (hk : prog_Check p = some (0, 0, 0)) : pcode_Digest p = some (shaM (progB p), 0) := by
  have hl := progB_len hg
  unfold pcode_Digest
  rw [bind_some (write_good hg hk)]
  simp only []
  rw [if_neg (by decide), bind_some (of_eq (progB p) (by omega))]
  congr 2
  funext i
  unfold vput shaM
  by_cases hi : i < 32
  · rw [if_pos (by omega), if_pos hi, Nat.sub_zero, if_pos hi]
  · rw [if_neg (by omega), if_neg hi]
theorem quo_nat (a k : Nat) (h : a ≤ 1000000000000) (hk : 0 < k) : iQuo (a : Int) (k : Int) = ((a / k : Nat) : Int) := by
  have e : (a : Int).tdiv (k : Int) = ((a / k : Nat) : Int) := by rw [Int.tdiv_eq_ediv_of_nonneg (by omega)]; rfl
  unfold iQuo
  rw [e]
  have : a / k ≤ a := Nat.div_le_self _ _
  generalize a / k = q at *
  exact wrap64 (by omega) (by omega)
theorem rem_nat (a k : Nat) : iRem (a : Int) (k : Int) = ((a % k : Nat) : Int) := by
  unfold iRem
  rw [Int.tmod_eq_emod_of_nonneg (by omega)]
  rfl
theorem refPutN : ∀ (k F n : Nat), n < 128 ^ (k + 1) → k < F → n < 4294967296 → alibiref01_Put_N F (n : Int) = some (putB n)
  | k, 0, n, h, hF, h2 => by omega
  | k, F + 1, n, h, hF, h2 => by
    show alibiref01_Put_B (alibiref01_Put_N F) (n : Int) = _
    unfold alibiref01_Put_B
    by_cases hn : n < 128
    · rw [if_pos (decide_eq_true (by omega)), putB_lt hn, BitVec.ofInt_natCast]
    · have e1 : iQuo (n : Int) 128 = ((n / 128 : Nat) : Int) := quo_nat n 128 (by omega) (by omega)
      have e2 : iRem (n : Int) 128 = ((n % 128 : Nat) : Int) := rem_nat n 128
      have e3 : iAdd 128 ((n % 128 : Nat) : Int) = ((128 + n % 128 : Nat) : Int) := by rw [iAdd_eq (by omega) (by omega)]; omega
      match k with
      | 0 => exact absurd h (by simpa using hn)
      | k + 1 =>
        have ih := refPutN k F (n / 128) (by rw [Nat.div_lt_iff_lt_mul (by omega)]; rw [Nat.pow_succ] at h; exact h) (by omega) (by omega)
        rw [if_neg (by simp only [decide_eq_true_eq]; omega), e1, bind_some ih, e2, e3, BitVec.ofInt_natCast, if_pos (ble_of (by have := putB_len5 (n := n / 128) (by omega); simp; omega)), putB_ge hn]
        rfl
theorem refPut (n : Int) (h0 : 0 ≤ n) (h : n < 4294967296) : alibiref01_Put n = some (putB n.toNat) := by
  have := refPutN 4 1000 n.toNat (by omega) (by omega) (by omega)
  rw [Int.toNat_of_nonneg h0] at this
  exact this
theorem putB_len5' {n : Int} (h0 : 0 ≤ n) (h : n < 4294967296) : (putB n.toNat).length ≤ 5 := putB_len5 (by omega)
theorem ref_l4 (p : api_Program) (a b c d : Int) (ha : 0 ≤ a ∧ a < 4294967296) (hb : 0 ≤ b ∧ b < 4294967296) (hc : 0 ≤ c ∧ c < 4294967296) (hd : 0 ≤ d ∧ d < 4294967296) : alibiref07_Write_l4 [97#8, 108#8, 112#8, 49#8] [a, b, c, d] p.globals p.locks p.slots p.funcs 0 = some ([97#8, 108#8, 112#8, 49#8] ++ putB a.toNat ++ putB b.toNat ++ putB c.toNat ++ putB d.toNat) := by
  have l1 := putB_len5' ha.1 ha.2
  have l2 := putB_len5' hb.1 hb.2
  have l3 := putB_len5' hc.1 hc.2
  have l4 := putB_len5' hd.1 hd.2
  have i0 : iAdd 0 1 = 1 := by kernel_rfl
  have i1 : iAdd 1 1 = 2 := by kernel_rfl
  have i2 : iAdd 2 1 = 3 := by kernel_rfl
  have i3 : iAdd 3 1 = 4 := by kernel_rfl
  rw [alibiref07_Write_l4, if_pos (by decide), if_pos (by decide), if_pos (decide_eq_true (by simp)), show List.getD [a, b, c, d] (Int.toNat 0) 0 = a from rfl, bind_some (refPut a ha.1 ha.2), if_pos (ble_of (by simp; omega)), i0]
  rw [alibiref07_Write_l4, if_pos (by decide), if_pos (by decide), if_pos (decide_eq_true (by simp)), show List.getD [a, b, c, d] (Int.toNat 1) 0 = b from rfl, bind_some (refPut b hb.1 hb.2), if_pos (ble_of (by simp; omega)), i1]
  rw [alibiref07_Write_l4, if_pos (by decide), if_pos (by decide), if_pos (decide_eq_true (by simp)), show List.getD [a, b, c, d] (Int.toNat 2) 0 = c from rfl, bind_some (refPut c hc.1 hc.2), if_pos (ble_of (by simp; omega)), i2]
  rw [alibiref07_Write_l4, if_pos (by decide), if_pos (by decide), if_pos (decide_eq_true (by simp)), show List.getD [a, b, c, d] (Int.toNat 3) 0 = d from rfl, bind_some (refPut d hd.1 hd.2), if_pos (ble_of (by simp; omega)), i3]
  rw [alibiref07_Write_l4, if_neg (by decide)]
def toldB (s : ByteArray) (arg next alt : Int) : Nat → Nat → List B8
  | _, 0 => []
  | i, m + 1 => (if byteAt s i = 97#8 then putB arg.toNat else if byteAt s i = 110#8 then putB next.toNat else putB alt.toNat) ++ toldB s arg next alt (i + 1) m
theorem ref_l18 (p : api_Program) (x5 arg next alt x9 x10 : Int) (s : ByteArray) (hs : s.size ≤ 3) (h : ∀ i, i < s.size → if byteAt s i = 97#8 then 0 ≤ arg ∧ arg < 4294967296 else if byteAt s i = 110#8 then 0 ≤ next ∧ next < 4294967296 else 0 ≤ alt ∧ alt < 4294967296) : ∀ (m i : Nat) (b : List B8), i + m = s.size → b.length + 5 * m ≤ 1000000000 →
    alibiref07_Write_l18 b p.globals p.locks p.slots p.funcs x5 arg next alt x9 x10 s (i : Int) = some (b ++ toldB s arg next alt i m)
  | 0, i, b, hi, hb => by
    rw [alibiref07_Write_l18, if_neg (by simp only [decide_eq_true_eq]; omega)]
    simp [toldB]
  | m + 1, i, b, hi, hb => by
    have hx := h i (by omega)
    rw [alibiref07_Write_l18, if_pos (decide_eq_true (by omega)), if_pos (decide_eq_true (by omega)), if_pos (decide_eq_true (by omega)), Int.toNat_natCast i, inc i (by omega)]
    unfold toldB
    by_cases h1 : byteAt s i = 97#8
    · rw [if_pos h1] at hx
      have l1 := putB_len5' hx.1 hx.2
      rw [if_pos (by rw [h1]; rfl), if_pos h1, bind_some (refPut _ hx.1 hx.2), if_pos (ble_of (by omega)), ref_l18 p x5 arg next alt x9 x10 s hs h m (i + 1) _ (by omega) (by simp; omega), List.append_assoc]
    · rw [if_neg h1] at hx
      rw [if_neg (by simpa using h1), if_neg h1]
      by_cases h2 : byteAt s i = 110#8
      · rw [if_pos h2] at hx
        have l1 := putB_len5' hx.1 hx.2
        rw [if_pos (by rw [h2]; rfl), if_pos h2, bind_some (refPut _ hx.1 hx.2), if_pos (ble_of (by omega)), ref_l18 p x5 arg next alt x9 x10 s hs h m (i + 1) _ (by omega) (by simp; omega), List.append_assoc]
      · rw [if_neg h2] at hx
        have l1 := putB_len5' hx.1 hx.2
        rw [if_neg (by simpa using h2), if_neg h2, bind_some (refPut _ hx.1 hx.2), if_pos (ble_of (by omega)), ref_l18 p x5 arg next alt x9 x10 s hs h m (i + 1) _ (by omega) (by simp; omega), List.append_assoc]
def toldS (k : Int) : ByteArray := if k = 9 then ByteArray.mk #[] else if k = 0 then ByteArray.mk #[110] else if k = 5 then ByteArray.mk #[97, 110, 120] else if k = 8 then ByteArray.mk #[110, 120] else ByteArray.mk #[97, 110]
theorem told_eq (k : Int) : alibiref07_told k = some (toldS k) := by
  unfold alibiref07_told toldS
  by_cases h9 : k = 9
  · rw [if_pos (eqT h9), if_pos h9]
  · rw [if_neg (eqF h9), if_neg h9]
    by_cases h0 : k = 0
    · rw [if_pos (eqT h0), if_pos h0]
    · rw [if_neg (eqF h0), if_neg h0]
      by_cases h5 : k = 5
      · rw [if_pos (eqT h5), if_pos h5]
      · rw [if_neg (eqF h5), if_neg h5]
        by_cases h8 : k = 8
        · rw [if_pos (eqT h8), if_pos h8]
        · rw [if_neg (eqF h8), if_neg h8]
theorem ref_node (p : api_Program) (x : api_Node) (h : Sm x) (x9 x10 : Int) (b : List B8) (hb : b.length ≤ 900000000) : alibiref07_Write_l18 (b ++ putB x.kind.toNat) p.globals p.locks p.slots p.funcs x.kind x.arg x.next x.alt x9 x10 (toldS x.kind) 0 = some (b ++ nodeB x) := by
  have hk := h.1
  have lk := putB_len5' hk.1 (by omega)
  have hsz : (toldS x.kind).size ≤ 3 := by unfold toldS; split; decide; split; decide; split; decide; split <;> decide
  have key := ref_l18 p x.kind x.arg x.next x.alt x9 x10 (toldS x.kind) hsz
  unfold nodeB
  rw [← List.append_assoc]
  have hr := h.2
  by_cases h9 : x.kind = 9
  · rw [if_pos h9]
    have e : toldS x.kind = ByteArray.mk #[] := by unfold toldS; rw [if_pos h9]
    rw [e] at key ⊢
    exact key (fun i hi => absurd hi (by show ¬ i < 0; omega)) 0 0 _ rfl (by simp; omega)
  · rw [if_neg h9]
    have hn := h.2.1 h9
    by_cases h0 : x.kind = 0
    · rw [if_pos h0]
      have e : toldS x.kind = ByteArray.mk #[110] := by unfold toldS; rw [if_neg h9, if_pos h0]
      rw [e] at key ⊢
      have := key (fun i hi => by
        have : i = 0 := by have : i < 1 := hi; omega
        subst this
        exact ⟨by omega, by omega⟩) 1 0 (b ++ putB x.kind.toNat) rfl (by simp; omega)
      refine Eq.trans this ?_
      show some (_ ++ (putB x.next.toNat ++ [])) = _
      rw [List.append_nil]
    · rw [if_neg h0]
      by_cases h8 : x.kind = 8
      · rw [if_neg (show ¬ x.kind = 5 by omega), if_pos h8]
        have hal := h.2.2.2 (.inr h8)
        have e : toldS x.kind = ByteArray.mk #[110, 120] := by unfold toldS; rw [if_neg h9, if_neg h0, if_neg (show ¬ x.kind = 5 by omega), if_pos h8]
        rw [e] at key ⊢
        have := key (fun i hi => by
          have : i < 2 := hi
          match i, this with
          | 0, _ => exact ⟨by omega, by omega⟩
          | 1, _ => exact ⟨by omega, by omega⟩) 2 0 (b ++ putB x.kind.toNat) rfl (by simp; omega)
        refine Eq.trans this ?_
        show some (_ ++ (putB x.next.toNat ++ (putB x.alt.toNat ++ []))) = _
        rw [List.append_nil]
      · have ha := h.2.2.1 h9 h0 h8
        by_cases h5 : x.kind = 5
        · rw [if_pos h5]
          have hal := h.2.2.2 (.inl h5)
          have e : toldS x.kind = ByteArray.mk #[97, 110, 120] := by unfold toldS; rw [if_neg h9, if_neg h0, if_pos h5]
          rw [e] at key ⊢
          have := key (fun i hi => by
            have : i < 3 := hi
            match i, this with
            | 0, _ => exact ⟨by omega, by omega⟩
            | 1, _ => exact ⟨by omega, by omega⟩
            | 2, _ => exact ⟨by omega, by omega⟩) 3 0 (b ++ putB x.kind.toNat) rfl (by simp; omega)
          refine Eq.trans this ?_
          show some (_ ++ (putB x.arg.toNat ++ (putB x.next.toNat ++ (putB x.alt.toNat ++ [])))) = _
          rw [List.append_nil]
        · rw [if_neg h5, if_neg h8]
          have e : toldS x.kind = ByteArray.mk #[97, 110] := by unfold toldS; rw [if_neg h9, if_neg h0, if_neg h5, if_neg h8]
          rw [e] at key ⊢
          have := key (fun i hi => by
            have : i < 2 := hi
            match i, this with
            | 0, _ => exact ⟨by omega, by omega⟩
            | 1, _ => exact ⟨by omega, by omega⟩) 2 0 (b ++ putB x.kind.toNat) rfl (by simp; omega)
          refine Eq.trans this ?_
          show some (_ ++ (putB x.arg.toNat ++ (putB x.next.toNat ++ []))) = _
          rw [List.append_nil]
theorem ref_l12 (p : api_Program) (f : Nat) (hf : f < p.funcs.length) (hle : (List.getD p.funcs f []).length ≤ 65536) (h : ∀ i, i < (List.getD p.funcs f []).length → Sm (nde p f i)) : ∀ (m i : Nat) (b : List B8), i + m = (List.getD p.funcs f []).length → b.length + 20 * m ≤ 800000000 →
    alibiref07_Write_l12 b p.globals p.locks p.slots p.funcs (f : Int) (i : Int) = some (b ++ nodesB (List.getD p.funcs f []) i m)
  | 0, i, b, hi, hb => by
    rw [alibiref07_Write_l12, if_pos (decide_eq_true (by omega)), if_pos (decide_eq_true (by omega)), Int.toNat_natCast f, if_neg (by simp only [decide_eq_true_eq]; omega)]
    simp [nodesB]
  | m + 1, i, b, hi, hb => by
    have hs := h i (by omega)
    have hk := hs.1
    have lk := putB_len5' hk.1 (by omega)
    have ln := nodeB_len hs
    rw [alibiref07_Write_l12, if_pos (decide_eq_true (by omega)), if_pos (decide_eq_true (by omega)), Int.toNat_natCast f, if_pos (decide_eq_true (by omega)), if_pos (decide_eq_true (by omega)), if_pos (decide_eq_true (by omega)), Int.toNat_natCast i, bind_some (refPut _ hk.1 (by omega)), if_pos (ble_of (by omega)), bind_some (told_eq _), bind_some (ref_node p _ hs (f : Int) (i : Int) b (by omega)), inc i (by omega), ref_l12 p f hf hle h m (i + 1) _ (by omega) (by rw [List.length_append]; omega)]
    simp [nodesB, List.append_assoc]
theorem ref_l8 {p : api_Program} (hg : Good p) : ∀ (m f : Nat) (b : List B8), f + m = p.funcs.length → b.length + 1285 * m ≤ 100000000 →
    alibiref07_Write_l8 b p.globals p.locks p.slots p.funcs (f : Int) = some (b ++ funcsB p.funcs f m)
  | 0, f, b, hf, hb => by
    rw [alibiref07_Write_l8, if_neg (by simp only [decide_eq_true_eq]; omega)]
    simp [funcsB]
  | m + 1, f, b, hf, hb => by
    have hle := hg.le f
    have lk := putB_len5' (n := ((List.getD p.funcs f []).length : Int)) (by omega) (by omega)
    have h12 := ref_l12 p f (by omega) (by omega) (fun i hi => sm_of hg (by omega) hi) (List.getD p.funcs f []).length 0 (b ++ putB (List.getD p.funcs f []).length) (by omega) (by rw [List.length_append]; rw [Int.toNat_natCast] at lk; omega)
    have hnl := nodesB_len (l := List.getD p.funcs f []) (fun i hi => sm_of hg (by omega) hi) (List.getD p.funcs f []).length 0 (by omega)
    have hn := hg.funcs.2
    rw [alibiref07_Write_l8, if_pos (decide_eq_true (by omega)), if_pos (decide_eq_true (by omega)), if_pos (decide_eq_true (by omega)), Int.toNat_natCast f, bind_some (refPut _ (by omega) (by omega)), if_pos (ble_of (by omega)), bind_some (show alibiref07_Write_l12 (b ++ putB (Int.toNat ((List.getD p.funcs f []).length : Int))) p.globals p.locks p.slots p.funcs (f : Int) 0 = _ from h12), inc f (by omega), ref_l8 hg m (f + 1) _ (by omega) (by rw [List.length_append, List.length_append]; rw [Int.toNat_natCast] at lk; omega)]
    simp [funcsB, List.append_assoc]
theorem refWrite {p : api_Program} (hg : Good p) : alibiref07_Write p = some (progB p) := by
  have h1 := hg.globals
  have h2 := hg.locks
  have h3 := hg.slots
  have h4 := hg.funcs
  unfold alibiref07_Write
  have l1 := putB_len5' (n := p.globals) h1.1 (by omega)
  have l2 := putB_len5' (n := p.locks) h2.1 (by omega)
  have l3 := putB_len5' (n := p.slots) h3.1 (by omega)
  have l4 := putB_len5' (n := (p.funcs.length : Int)) (by omega) (by omega)
  rw [bind_some (ref_l4 p p.globals p.locks p.slots (p.funcs.length : Int) ⟨h1.1, by omega⟩ ⟨h2.1, by omega⟩ ⟨h3.1, by omega⟩ ⟨by omega, by omega⟩)]
  have h8 := ref_l8 hg p.funcs.length 0 ([97#8, 108#8, 112#8, 49#8] ++ putB p.globals.toNat ++ putB p.locks.toNat ++ putB p.slots.toNat ++ putB (p.funcs.length : Int).toNat) (by omega) (by simp at l4 ⊢; omega)
  rw [bind_some (show alibiref07_Write_l8 _ p.globals p.locks p.slots p.funcs 0 = _ from h8)]
  unfold progB
  simp [List.append_assoc]
theorem refR (x : W32) (n : Nat) (h : n ≤ 32) : alibiref02_r x (n : Int) = some (rotr x n) := by
  unfold alibiref02_r rotr
  rw [show iSub 32 (n : Int) = ((32 - n : Nat) : Int) from sub_nat 32 n (by omega) h, if_pos (decide_eq_true (by omega)), if_pos (decide_eq_true (by omega)), Int.toNat_natCast, Int.toNat_natCast, BitVec.or_comm]
theorem refRs (x : W32) : alibiref02_r x 2 = some (rotr x 2) ∧ alibiref02_r x 6 = some (rotr x 6) ∧ alibiref02_r x 7 = some (rotr x 7) ∧ alibiref02_r x 11 = some (rotr x 11) ∧ alibiref02_r x 13 = some (rotr x 13) ∧ alibiref02_r x 17 = some (rotr x 17) ∧ alibiref02_r x 18 = some (rotr x 18) ∧ alibiref02_r x 19 = some (rotr x 19) ∧ alibiref02_r x 22 = some (rotr x 22) ∧ alibiref02_r x 25 = some (rotr x 25) :=
  ⟨refR x 2 (by omega), refR x 6 (by omega), refR x 7 (by omega), refR x 11 (by omega), refR x 13 (by omega), refR x 17 (by omega), refR x 18 (by omega), refR x 19 (by omega), refR x 22 (by omega), refR x 25 (by omega)⟩
theorem ref_l3p (b : List B8) : ∀ (m : Nat) (l : List B8), m = pz l.length → l.length + m ≤ 90000000 → alibiref02_padded_l3 l b = some (l ++ List.replicate m 0#8)
  | 0, l, hm, hs => by
    unfold pz at hm
    rw [alibiref02_padded_l3, show iRem (l.length : Int) 64 = ((l.length % 64 : Nat) : Int) from rem_nat _ 64, if_neg (by simp only [bne_iff_ne, ne_eq, Decidable.not_not]; omega)]
    simp
  | m + 1, l, hm, hs => by
    unfold pz at hm
    have hp : m = pz (l ++ [0#8]).length := by unfold pz; rw [List.length_append, List.length_singleton]; omega
    rw [alibiref02_padded_l3, show iRem (l.length : Int) 64 = ((l.length % 64 : Nat) : Int) from rem_nat _ 64, if_pos (by simp only [bne_iff_ne, ne_eq]; omega), if_pos (ble_of (by simp; omega)), ref_l3p b m (l ++ [0#8]) hp (by simp; omega), List.append_assoc]
    rfl
def tl (n : Nat) : Nat → List B8
  | 0 => []
  | k + 1 => BitVec.ofNat 8 (n / 256 ^ k % 256) :: tl n k
theorem tl_len (n : Nat) : ∀ k, (tl n k).length = k
  | 0 => rfl
  | k + 1 => by simp [tl, tl_len n k]
theorem ref_l8p (x0 : List B8) (n : Nat) (hn : n ≤ 1000000000) : ∀ (m k : Nat), k + m = 8 → alibiref02_padded_l8 x0 (tl n k) ((n / 256 ^ k : Nat) : Int) (k : Int) = some (tl n 8)
  | 0, k, hk => by
    have : k = 8 := by omega
    subst this
    rw [alibiref02_padded_l8, if_neg (by decide)]
  | m + 1, k, hk => by
    have hd : n / 256 ^ k ≤ n := Nat.div_le_self _ _
    have ih := ref_l8p x0 n hn m (k + 1) (by omega)
    rw [alibiref02_padded_l8, if_pos (decide_eq_true (by omega)), if_pos (ble_of (by rw [tl_len]; simp; omega)), show iRem ((n / 256 ^ k : Nat) : Int) 256 = ((n / 256 ^ k % 256 : Nat) : Int) from rem_nat _ 256, show iQuo ((n / 256 ^ k : Nat) : Int) 256 = ((n / 256 ^ k / 256 : Nat) : Int) from quo_nat _ 256 (by omega) (by omega), BitVec.ofInt_natCast, inc k (by omega), Nat.div_div_eq_div_mul, ← Nat.pow_succ]
    exact ih
theorem tl_byte (len a : Nat) (h : len ≤ 100000000) : BitVec.ofNat 8 (8 * len / 2 ^ a % 256) = BitVec.setWidth 8 ((BitVec.ofNat 64 len * 8#64) >>> a) := by
  apply BitVec.eq_of_toNat_eq
  rw [BitVec.toNat_setWidth, BitVec.toNat_ushiftRight, BitVec.toNat_mul, BitVec.toNat_ofNat, BitVec.toNat_ofNat, BitVec.toNat_ofNat, Nat.shiftRight_eq_div_pow, show len % 2 ^ 64 * (8 % 2 ^ 64) % 2 ^ 64 = 8 * len by omega]
  omega
theorem tl_tail (len : Nat) (h : len ≤ 100000000) : tl (8 * len) 8 = tailB len := by
  unfold tailB
  show [BitVec.ofNat 8 (8 * len / 2 ^ 56 % 256), BitVec.ofNat 8 (8 * len / 2 ^ 48 % 256), BitVec.ofNat 8 (8 * len / 2 ^ 40 % 256), BitVec.ofNat 8 (8 * len / 2 ^ 32 % 256), BitVec.ofNat 8 (8 * len / 2 ^ 24 % 256), BitVec.ofNat 8 (8 * len / 2 ^ 16 % 256), BitVec.ofNat 8 (8 * len / 2 ^ 8 % 256), BitVec.ofNat 8 (8 * len / 2 ^ 0 % 256)] = _
  rw [tl_byte _ _ h, tl_byte _ _ h, tl_byte _ _ h, tl_byte _ _ h, tl_byte _ _ h, tl_byte _ _ h, tl_byte _ _ h, tl_byte _ _ h]
  rfl
theorem ref_padded (b : List B8) (h : b.length ≤ 80000000) : alibiref02_padded b = some (padB b) := by
  have hp : pz (b ++ [128#8]).length ≤ 64 := by unfold pz; omega
  have h3 := ref_l3p b (pz (b ++ [128#8]).length) (b ++ [128#8]) rfl (by simp at hp ⊢; omega)
  have h8 := ref_l8p ((b ++ [128#8]) ++ List.replicate (pz (b ++ [128#8]).length) 0#8) (8 * b.length) (by omega) 8 0 (by omega)
  unfold alibiref02_padded
  rw [if_pos (ble_of (by simp; omega)), List.nil_append, if_pos (ble_of (by simp; omega)), bind_some h3, show iMul 8 (b.length : Int) = ((8 * b.length / 256 ^ 0 : Nat) : Int) by rw [Nat.pow_zero, Nat.div_one, iMul_eq (by omega) (by omega)]; omega, bind_some (show alibiref02_padded_l8 _ [] _ 0 = _ from h8), if_pos (ble_of (by rw [tl_len]; simp at hp ⊢; omega)), tl_tail _ (by omega)]
  unfold padB
  rw [List.length_append, List.length_singleton]
theorem padB_len (b : List B8) : (padB b).length % 64 = 0 := by
  have ht : (tailB b.length).length = 8 := rfl
  unfold padB
  rw [List.length_append, List.length_append, List.length_append, List.length_replicate, List.length_singleton, ht]
  unfold pz
  omega
theorem word_alt (a b c d : B8) : (((0#32 * 256#32 + BitVec.setWidth 32 a) * 256#32 + BitVec.setWidth 32 b) * 256#32 + BitVec.setWidth 32 c) * 256#32 + BitVec.setWidth 32 d = (((BitVec.setWidth 32 a <<< 24) ||| (BitVec.setWidth 32 b <<< 16)) ||| (BitVec.setWidth 32 c <<< 8)) ||| BitVec.setWidth 32 d := by
  have ha := a.isLt
  have hb := b.isLt
  have hc := c.isLt
  have hd := d.isLt
  have e : ∀ x y : Nat, y < 256 → x * 256 + y = x <<< 8 ||| y := fun x y hy => by
    rw [← Nat.shiftLeft_add_eq_or_of_lt (show y < 2 ^ 8 by omega), Nat.shiftLeft_eq]
  apply BitVec.eq_of_toNat_eq
  simp only [BitVec.toNat_or, BitVec.toNat_shiftLeft, BitVec.toNat_setWidth, BitVec.toNat_add, BitVec.toNat_mul, BitVec.toNat_ofNat]
  rw [Nat.mod_eq_of_lt (show a.toNat < 2 ^ 32 by omega), Nat.mod_eq_of_lt (show b.toNat < 2 ^ 32 by omega), Nat.mod_eq_of_lt (show c.toNat < 2 ^ 32 by omega), Nat.mod_eq_of_lt (show d.toNat < 2 ^ 32 by omega),
    Nat.mod_eq_of_lt (show a.toNat <<< 24 < 2 ^ 32 by rw [Nat.shiftLeft_eq]; omega), Nat.mod_eq_of_lt (show b.toNat <<< 16 < 2 ^ 32 by rw [Nat.shiftLeft_eq]; omega), Nat.mod_eq_of_lt (show c.toNat <<< 8 < 2 ^ 32 by rw [Nat.shiftLeft_eq]; omega)]
  have h1 : (((a.toNat * 256 + b.toNat) * 256 + c.toNat) * 256 + d.toNat) = a.toNat <<< 24 ||| b.toNat <<< 16 ||| c.toNat <<< 8 ||| d.toNat := by
    rw [e _ _ hd, e _ _ hc, e _ _ hb, Nat.shiftLeft_or_distrib, Nat.shiftLeft_or_distrib, Nat.shiftLeft_or_distrib, ← Nat.shiftLeft_add, ← Nat.shiftLeft_add, ← Nat.shiftLeft_add]
  rw [← h1]
  omega
abbrev blkOf (l : List B8) (j : Nat) : List B8 := List.take 64 (List.drop (64 * j) l)
theorem blkOf_get (l : List B8) (j i : Nat) (hi : i < 64) : List.getD (blkOf l j) i 0#8 = List.getD l (64 * j + i) 0#8 := by
  simp [List.getD, List.getElem?_take, hi]
theorem ref_l13 (x0 : Nat → B8) (x1 x2 : List W32) (l : List B8) (x4 : List W32) (j i : Nat) (hi : i < 16) (hj : 64 * j + 64 ≤ l.length) (hl : l.length ≤ 1000000000) : alibiref02_Of_l13 x0 x1 x2 l x4 ((64 * j : Nat) : Int) (i : Int) 0#32 0 = some (wordB (blkOf l j) i) := by
  have step : ∀ (k : Nat) (acc : W32), k < 4 → alibiref02_Of_l13 x0 x1 x2 l x4 ((64 * j : Nat) : Int) (i : Int) acc (k : Int) = alibiref02_Of_l13 x0 x1 x2 l x4 ((64 * j : Nat) : Int) (i : Int) (acc * 256#32 + BitVec.setWidth 32 (List.getD (blkOf l j) (4 * i + k) 0#8)) ((k + 1 : Nat) : Int) := fun k acc hk => by
    have e1 : iAdd (iAdd ((64 * j : Nat) : Int) (iMul 4 (i : Int))) (k : Int) = ((64 * j + (4 * i + k) : Nat) : Int) := by
      have e0 : iAdd ((64 * j : Nat) : Int) ((4 * i : Nat) : Int) = ((64 * j + 4 * i : Nat) : Int) := by rw [iAdd_eq (by omega) (by omega)]; omega
      rw [mul4 i (by omega), e0, iAdd_eq (by omega) (by omega)]; omega
    rw [alibiref02_Of_l13, if_pos (decide_eq_true (by omega)), e1, if_pos (decide_eq_true (by omega)), if_pos (decide_eq_true (by omega)), Int.toNat_natCast, inc k (by omega), blkOf_get l j _ (by omega)]
  have s0 := step 0 0#32 (by omega)
  rw [show ((0 : Nat) : Int) = 0 from rfl] at s0
  rw [s0, step 1 _ (by omega), step 2 _ (by omega), step 3 _ (by omega), alibiref02_Of_l13, if_neg (by decide), word_alt]
  rfl
theorem ref_l9 (x0 : Nat → B8) (x1 x2 : List W32) (l : List B8) (j : Nat) (hj : 64 * j + 64 ≤ l.length) (hl : l.length ≤ 1000000000) : ∀ (m i : Nat) (t : List W32), i + m = 16 → t.length = i → (∀ k, k < i → List.getD t k 0#32 = wordB (blkOf l j) k) → ∃ t', alibiref02_Of_l9 x0 x1 x2 l t ((64 * j : Nat) : Int) (i : Int) = some t' ∧ t'.length = 16 ∧ ∀ k, k < 16 → List.getD t' k 0#32 = wordB (blkOf l j) k
  | 0, i, t, hi, h1, h2 => by
    rw [alibiref02_Of_l9, if_neg (by simp only [decide_eq_true_eq]; omega)]
    exact ⟨t, rfl, by omega, fun k hk => h2 k (by omega)⟩
  | m + 1, i, t, hi, h1, h2 => by
    obtain ⟨t', q1, q2, q3⟩ := ref_l9 x0 x1 x2 l j hj hl m (i + 1) (t ++ [wordB (blkOf l j) i]) (by omega) (by simp [h1]) (fun k hk => by
      rw [getD_snoc]
      split
      · rw [show k = i by omega]
      · exact h2 k (by omega))
    refine ⟨t', ?_, q2, q3⟩
    rw [alibiref02_Of_l9, if_pos (decide_eq_true (by omega)), bind_some (ref_l13 x0 x1 x2 l t j i (by omega) hj hl), if_pos (Nat.ble_eq_true_of_le (by simp only [List.length_singleton, reach]; omega)), inc i (by omega)]
    exact q1
theorem ref_l18w (x0 : Nat → B8) (x1 x2 : List W32) (l : List B8) (b : List B8) (x5 : Int) : ∀ (m k : Nat) (t : List W32), k + m = 48 → t.length = 16 + k → (∀ j, j < 16 + k → List.getD t j 0#32 = wN b k j) → ∃ t', alibiref02_Of_l18 x0 x1 x2 l t x5 ((16 + k : Nat) : Int) = some t' ∧ t'.length = 64 ∧ ∀ j, j < 64 → List.getD t' j 0#32 = wN b 48 j
  | 0, k, t, hk, h1, h2 => by
    rw [alibiref02_Of_l18, if_neg (by simp only [decide_eq_true_eq]; omega)]
    have : k = 48 := by omega
    subst this
    exact ⟨t, rfl, by omega, fun j hj => h2 j (by omega)⟩
  | m + 1, k, t, hk, h1, h2 => by
    have e1 : iSub ((16 + k : Nat) : Int) 15 = ((16 + k - 15 : Nat) : Int) := sub_nat (16 + k) 15 (by omega) (by omega)
    have e2 : iSub ((16 + k : Nat) : Int) 2 = ((16 + k - 2 : Nat) : Int) := sub_nat (16 + k) 2 (by omega) (by omega)
    have e3 : iSub ((16 + k : Nat) : Int) 16 = ((16 + k - 16 : Nat) : Int) := sub_nat (16 + k) 16 (by omega) (by omega)
    have e4 : iSub ((16 + k : Nat) : Int) 7 = ((16 + k - 7 : Nat) : Int) := sub_nat (16 + k) 7 (by omega) (by omega)
    obtain ⟨t', q1, q2, q3⟩ := ref_l18w x0 x1 x2 l b x5 m (k + 1) (t ++ [wNext (wN b k) (16 + k)]) (by omega) (by simp [h1]; omega) (fun j hj => by
      show _ = upd (wN b k) (16 + k) (wNext (wN b k) (16 + k)) j
      rw [getD_snoc]
      split
      · rw [show j = 16 + k by omega, upd_same]
      · rw [upd_ne _ _ (by omega)]; exact h2 j (by omega))
    refine ⟨t', ?_, q2, q3⟩
    have r1 := refRs (List.getD t (16 + k - 15) 0#32)
    have r2 := refRs (List.getD t (16 + k - 2) 0#32)
    rw [alibiref02_Of_l18, if_pos (decide_eq_true (by omega)), e1, if_pos (decide_eq_true (by omega)), if_pos (decide_eq_true (by omega)), e2, if_pos (decide_eq_true (by omega)), if_pos (decide_eq_true (by omega)), Int.toNat_natCast (16 + k - 15), Int.toNat_natCast (16 + k - 2), bind_some r1.2.2.1, bind_some r1.2.2.2.2.2.2.1, bind_some r2.2.2.2.2.2.1, bind_some r2.2.2.2.2.2.2.2.1, e3, if_pos (decide_eq_true (by omega)), if_pos (decide_eq_true (by omega)), e4, if_pos (decide_eq_true (by omega)), if_pos (decide_eq_true (by omega)), Int.toNat_natCast (16 + k - 16), Int.toNat_natCast (16 + k - 7), if_pos (Nat.ble_eq_true_of_le (by simp only [List.length_singleton, reach]; omega)), inc (16 + k) (by omega), h2 _ (by omega), h2 _ (by omega), h2 _ (by omega), h2 _ (by omega)]
    exact q1
abbrev t8 (s : Nat → W32) : W32 × W32 × W32 × W32 × W32 × W32 × W32 × W32 := (s 0, s 1, s 2, s 3, s 4, s 5, s 6, s 7)
theorem ref_l26 (x0 : Nat → B8) (K x2 : List W32) (l : List B8) (W : List W32) (x5 : Int) (w s : Nat → W32) (hK : K.length = 64) (hKt : ∀ j, j < 64 → List.getD K j 0#32 = tab_1 j) (hW : W.length = 64) (hWt : ∀ j, j < 64 → List.getD W j 0#32 = w j) : ∀ (m k : Nat), k + m = 64 →
    alibiref02_Of_l26 x0 K x2 l W x5 (rds w s k 0) (rds w s k 1) (rds w s k 2) (rds w s k 3) (rds w s k 4) (rds w s k 5) (rds w s k 6) (rds w s k 7) (k : Int) = some (t8 (rds w s 64))
  | 0, k, hk => by
    have : k = 64 := by omega
    subst this
    rw [alibiref02_Of_l26, if_neg (by decide)]
  | m + 1, k, hk => by
    have ih := ref_l26 x0 K x2 l W x5 w s hK hKt hW hWt m (k + 1) (by omega)
    have r1 := refRs (rds w s k 4)
    have r2 := refRs (rds w s k 0)
    rw [alibiref02_Of_l26, if_pos (decide_eq_true (by omega)), bind_some r1.2.1, bind_some r1.2.2.2.1, bind_some r1.2.2.2.2.2.2.2.2.2, if_pos (decide_eq_true (by omega)), if_pos (decide_eq_true (by omega)), if_pos (decide_eq_true (by omega)), bind_some r2.1, bind_some r2.2.2.2.2.1, bind_some r2.2.2.2.2.2.2.2.2.1, Int.toNat_natCast k, inc k (by omega), hKt k (by omega), hWt k (by omega)]
    exact ih
abbrev h8 (h : Nat → W32) : List W32 := [h 0, h 1, h 2, h 3, h 4, h 5, h 6, h 7]
theorem ref_l5 (x0 : Nat → B8) (K : List W32) (l : List B8) (h : Nat → W32) (hK : K.length = 64) (hKt : ∀ j, j < 64 → List.getD K j 0#32 = tab_1 j) (hl : l.length ≤ 100000000) (h64 : l.length % 64 = 0) : ∀ (m j : Nat), j + m = l.length / 64 → alibiref02_Of_l5 x0 K (h8 (blk h l j)) l ((64 * j : Nat) : Int) = some (h8 (blk h l (l.length / 64)))
  | 0, j, hj => by
    rw [alibiref02_Of_l5, if_neg (by simp only [decide_eq_true_eq]; omega), show j = l.length / 64 by omega]
  | m + 1, j, hj => by
    have ih := ref_l5 x0 K l h hK hKt hl h64 m (j + 1) (by omega)
    obtain ⟨t, a1, a2, a3⟩ := ref_l9 x0 K (h8 (blk h l j)) l j (by omega) (by omega) 16 0 [] (by omega) rfl (fun k hk => by omega)
    obtain ⟨W, b1, b2, b3⟩ := ref_l18w x0 K (h8 (blk h l j)) l (blkOf l j) ((64 * j : Nat) : Int) 48 0 t (by omega) (by omega) (fun i hi => by
      rw [a3 i (by omega)]
      show _ = if i < 16 then wordB (blkOf l j) i else 0#32
      rw [if_pos (by omega)])
    have r := ref_l26 x0 K (h8 (blk h l j)) l W ((64 * j : Nat) : Int) (wN (blkOf l j) 48) (vput (fun _ => 0#32) 0 8 (blk h l j)) hK hKt b2 b3 64 0 (by omega)
    have e64 : iAdd ((64 * j : Nat) : Int) 64 = ((64 * (j + 1) : Nat) : Int) := by rw [iAdd_eq (by omega) (by omega)]; omega
    have hlen : ((h8 (blk h l j)).length : Int) = 8 := rfl
    rw [alibiref02_Of_l5, if_pos (decide_eq_true (by omega)), bind_some (show alibiref02_Of_l9 x0 K (h8 (blk h l j)) l [] _ 0 = _ from a1), bind_some (show alibiref02_Of_l18 x0 K (h8 (blk h l j)) l t _ 16 = _ from b1)]
    rw [hlen, if_pos (by decide), if_pos (by decide), if_pos (by decide), if_pos (by decide), if_pos (by decide), if_pos (by decide), if_pos (by decide), if_pos (by decide)]
    rw [bind_some (show alibiref02_Of_l26 x0 K (h8 (blk h l j)) l W ((64 * j : Nat) : Int) (List.getD (h8 (blk h l j)) 0 0#32) (List.getD (h8 (blk h l j)) 1 0#32) (List.getD (h8 (blk h l j)) 2 0#32) (List.getD (h8 (blk h l j)) 3 0#32) (List.getD (h8 (blk h l j)) 4 0#32) (List.getD (h8 (blk h l j)) 5 0#32) (List.getD (h8 (blk h l j)) 6 0#32) (List.getD (h8 (blk h l j)) 7 0#32) 0 = _ from r), e64]
    exact ih
theorem mod_w (y : W32) : BitVec.setWidth 8 (y % 256#32) = BitVec.setWidth 8 y := by
  apply BitVec.eq_of_toNat_eq
  simp only [BitVec.toNat_setWidth, BitVec.toNat_umod, BitVec.toNat_ofNat]
  rw [show 256 % 2 ^ 32 = 256 from rfl]
  omega
theorem div_w (v : W32) (a : Nat) : (v >>> a) / 256#32 = v >>> (a + 8) := by
  apply BitVec.eq_of_toNat_eq
  simp only [BitVec.toNat_udiv, BitVec.toNat_ushiftRight, BitVec.toNat_ofNat, Nat.shiftRight_eq_div_pow]
  rw [show 256 % 2 ^ 32 = 2 ^ 8 from rfl, Nat.div_div_eq_div_mul, ← Nat.pow_add]
theorem ref_l38 (x0 : Nat → B8) (x1 : List W32) (h : Nat → W32) (q : Nat) (hq : q < 8) : ∀ (m k : Nat) (x : Nat → B8), k + m = 4 → (∀ j, j < 4 * q + 4 → (j < 4 * q ∨ 4 * q + (4 - k) ≤ j) → x j = outB h j) → ∃ y, alibiref02_Of_l38 x0 x1 x (q : Int) (h q >>> (8 * k)) (iSub 3 (k : Int)) = some y ∧ ∀ j, j < 4 * (q + 1) → y j = outB h j
  | 0, k, x, hk, hx => by
    have : k = 4 := by omega
    subst this
    rw [alibiref02_Of_l38, if_neg (by decide)]
    exact ⟨x, rfl, fun j hj => hx j (by omega) (by omega)⟩
  | m + 1, k, x, hk, hx => by
    have e1 : iSub 3 (k : Int) = ((3 - k : Nat) : Int) := by rw [iSub_eq (by omega) (by omega)]; omega
    have e2 : iSub ((3 - k : Nat) : Int) 1 = iSub 3 ((k + 1 : Nat) : Int) := by rw [iSub_eq (by omega) (by omega), iSub_eq (by omega) (by omega)]; omega
    have e3 : iAdd (iMul 4 (q : Int)) ((3 - k : Nat) : Int) = ((4 * q + (3 - k) : Nat) : Int) := by rw [mul4 q (by omega), iAdd_eq (by omega) (by omega)]; omega
    obtain ⟨y, q1, q2⟩ := ref_l38 x0 x1 h q hq m (k + 1) (upd x (4 * q + (3 - k)) (BitVec.setWidth 8 (h q >>> (8 * k)))) (by omega) (fun j hj hc => by
      by_cases e : j = 4 * q + (3 - k)
      · subst e
        rw [upd_same]
        unfold outB
        rw [show (4 * q + (3 - k)) / 4 = q by omega, show 24 - 8 * ((4 * q + (3 - k)) % 4) = 8 * k by omega]
      · rw [upd_ne _ _ e]; exact hx j hj (by omega))
    refine ⟨y, ?_, q2⟩
    rw [e1, alibiref02_Of_l38, if_pos (decide_eq_true (by omega)), e3, if_pos (decide_eq_true (by omega)), if_pos (decide_eq_true (by omega)), Int.toNat_natCast, mod_w, div_w, e2, show 8 * k + 8 = 8 * (k + 1) by omega]
    exact q1
theorem ref_l34 (x0 : Nat → B8) (h : Nat → W32) : ∀ (m q : Nat) (x : Nat → B8), q + m = 8 → (∀ j, j < 4 * q → x j = outB h j) → ∃ y, alibiref02_Of_l34 x0 (h8 h) x (q : Int) = some y ∧ ∀ j, j < 32 → y j = outB h j
  | 0, q, x, hq, hx => by
    rw [alibiref02_Of_l34, if_neg (by simp only [decide_eq_true_eq]; omega)]
    exact ⟨x, rfl, fun j hj => hx j (by omega)⟩
  | m + 1, q, x, hq, hx => by
    obtain ⟨y, q1, q2⟩ := ref_l38 x0 (h8 h) h q (by omega) 4 0 x (by omega) (fun j hj hc => hx j (by omega))
    obtain ⟨z, q3, q4⟩ := ref_l34 x0 h m (q + 1) y (by omega) q2
    refine ⟨z, ?_, q4⟩
    have hlen : ((h8 h).length : Int) = 8 := rfl
    have hget : List.getD (h8 h) q 0#32 = h q >>> (8 * 0) := by
      have : q < 8 := by omega
      have h0 : ∀ v : W32, v >>> (8 * 0) = v := fun v => by simp
      rw [h0]
      match q, this with
      | 0, _ => rfl | 1, _ => rfl | 2, _ => rfl | 3, _ => rfl | 4, _ => rfl | 5, _ => rfl | 6, _ => rfl | 7, _ => rfl
    rw [alibiref02_Of_l34, if_pos (decide_eq_true (by omega)), hlen, if_pos (decide_eq_true (by omega)), if_pos (decide_eq_true (by omega)), Int.toNat_natCast q, hget, bind_some (show alibiref02_Of_l38 x0 (h8 h) x (q : Int) (h q >>> (8 * 0)) 3 = _ from q1), inc q (by omega)]
    exact q3
def keysL : List W32 := (List.range 64).map tab_1
theorem hex1 : alibiref02_hex str_1 = some keysL := alibiref02_hex_le 1000 _ _ (by kernel_rfl)
theorem hex2 : alibiref02_hex str_2 = some (h8 H0) := alibiref02_hex_le 1000 _ _ (by kernel_rfl)
theorem keysL_get (j : Nat) (h : j < 64) : List.getD keysL j 0#32 = tab_1 j := by
  unfold keysL
  simp [List.getD, h]
theorem ref_of (b : List B8) (h : b.length ≤ 70000000) : alibiref02_Of b = some (shaM b) := by
  have hp : (padB b).length ≤ 80000000 := by
    have ht : (tailB b.length).length = 8 := rfl
    unfold padB
    rw [List.length_append, List.length_append, List.length_append, List.length_replicate, List.length_singleton, ht]
    unfold pz
    omega
  have h5 := ref_l5 (fun _ => 0#8) keysL (padB b) H0 rfl keysL_get (by omega) (padB_len b) ((padB b).length / 64) 0 (by omega)
  obtain ⟨y, q1, q2⟩ := ref_l34 (fun _ => 0#8) (blk H0 (padB b) ((padB b).length / 64)) 8 0 (fun _ => 0#8) (by omega) (fun j hj => by omega)
  unfold alibiref02_Of
  rw [bind_some hex1, bind_some hex2, bind_some (ref_padded b (by omega)), bind_some (show alibiref02_Of_l5 _ keysL (h8 H0) (padB b) 0 = _ from h5), bind_some (show alibiref02_Of_l34 _ _ _ 0 = _ from q1)]
  congr 1
  funext i
  unfold shaM
  by_cases hi : i < 32
  · rw [vput_in _ _ hi, if_pos hi, q2 i hi]
  · rw [if_neg hi]; unfold vput; rw [if_neg (by omega)]
def rightb (j : api_Just) (locks : Int) : Bool := if j.kind = 2 then decide (0 ≤ j.lock) && decide (j.lock < locks) else if j.kind = 0 then j.lock == 0 else if j.kind = 1 then j.lock == 0 else false
theorem right_eq (j : api_Just) (locks : Int) : guard_Right j locks = some (rightb j locks) := by
  unfold guard_Right rightb
  by_cases h2 : j.kind = 2
  · rw [if_pos (eqT h2), if_pos h2]
    by_cases h0 : 0 ≤ j.lock
    · rw [if_pos (decide_eq_true h0), decide_eq_true h0, Bool.true_and]
    · rw [if_neg (by simpa using h0), decide_eq_false h0, Bool.false_and]
  · rw [if_neg (eqF h2), if_neg h2]
    by_cases h0 : j.kind = 0
    · rw [if_pos (eqT h0), if_pos h0]
    · rw [if_neg (eqF h0), if_neg h0]
      by_cases h1 : j.kind = 1
      · rw [if_pos (eqT h1), if_pos h1]
      · rw [if_neg (eqF h1), if_neg h1]
def acc (x : api_Node) : Bool := x.kind == 1 || x.kind == 2
def holdsb (j : api_Just) (w : Bool) (h l : W32) : Bool := if l = 0#32 then true else if j.kind = 1 then !w else if j.kind = 2 then hasb h j.lock else false
theorem holds_eq (j : api_Just) (w : Bool) (h l : W32) : guard_Holds j w h l = some (holdsb j w h l) := by
  unfold guard_Holds holdsb
  by_cases h0 : l = 0#32
  · rw [if_pos (by simpa using h0), if_pos h0]
  · rw [if_neg (by simpa using h0), if_neg h0]
    by_cases h1 : j.kind = 1
    · rw [if_pos (eqT h1), if_pos h1]
    · rw [if_neg (eqF h1), if_neg h1]
      by_cases h2 : j.kind = 2
      · rw [if_pos (eqT h2), if_pos h2, bind_some (show sets_Has h j.lock = some (hasb h j.lock) from has_eq _ _)]
      · rw [if_neg (eqF h2), if_neg h2]
theorem access_eq (x : api_Node) : prog_Access x = some (x.arg, x.kind == 2, acc x) := by
  unfold prog_Access acc
  by_cases h : x.kind = 1
  · rw [if_pos (eqT h), eqT h]; rfl
  · rw [if_neg (eqF h), show (x.kind == 1) = false by simpa using h]; rfl
abbrev jus (js : List api_Just) (i : Int) : api_Just := List.getD js i.toNat d_api_Just
def grd (p : api_Program) (l : List api_Section) (js : List api_Just) (f i : Nat) : Bool := !acc (nde p f i) || holdsb (jus js (nde p f i).arg) ((nde p f i).kind == 2) (hld l f i) (liv l f i)
def grdO (p : api_Program) (l : List api_Section) (js : List api_Just) (f i : Nat) : Option Unit := if grd p l js f i = true then none else some ()
def m16 : Option (Nat × Unit) → guard_Check_l16_R
  | some (k, _) => .x0 k 8 0
  | none => .x1
theorem guard_l16 (p : api_Program) (hg : Good p) (l : List api_Section) (hs : Shp p l) (js : List api_Just) (hj : (js.length : Int) = p.globals) (f : Nat) (hf : f < p.funcs.length) (x7 x8 : Int) : ∀ (m i : Nat), i + m = (List.getD p.funcs f []).length → guard_Check_l16 0 0 0 l js (f : Int) p.funcs x7 x8 (List.getD p.funcs f []) ((List.getD p.funcs f []).length : Int) (i : Int) = some (m16 (findO (grdO p l js f) i m))
  | 0, i, h => by rw [guard_Check_l16, if_neg (by simp only [decide_eq_true_eq]; omega)]; rfl
  | m + 1, i, h => by
    have hle := hg.le f
    have ih := guard_l16 p hg l hs js hj f hf x7 x8 m (i + 1) (by omega)
    have hl := hs.1
    have h1 : (List.getD l f d_api_Section).held.length = (List.getD p.funcs f []).length := (hs.2 f hf).1
    have h2 : (List.getD l f d_api_Section).live.length = (List.getD p.funcs f []).length := (hs.2 f hf).2
    have hgl : acc (nde p f i) = true → 0 ≤ (nde p f i).arg ∧ (nde p f i).arg < p.globals := fun ha => (hg.node f i hf (by omega)).glob (by simpa [acc] using ha)
    have hsolo : may_Solo (List.getD l f d_api_Section) (i : Int) = some (liv l f i == 0#32) := by
      unfold may_Solo
      rw [if_pos (decide_eq_true (by omega)), if_pos (decide_eq_true (by omega)), if_pos (decide_eq_true (by omega)), if_pos (decide_eq_true (by omega)), Int.toNat_natCast i]
    rw [guard_Check_l16, if_pos (decide_eq_true (by omega)), if_pos (decide_eq_true (by omega)), if_pos (decide_eq_true (by omega)), Int.toNat_natCast i, bind_some (access_eq _), inc i (by omega), findO_succ, Int.toNat_natCast f]
    unfold grdO
    by_cases ha : acc (nde p f i) = true
    · have hg2 := hgl ha
      have hg2 : 0 ≤ (List.getD (List.getD p.funcs f []) i d_api_Node).arg ∧ (List.getD (List.getD p.funcs f []) i d_api_Node).arg < p.globals := hg2
      by_cases h0 : liv l f i = 0#32
      · rw [if_pos ha, if_pos (decide_eq_true (by omega)), if_pos (decide_eq_true (by omega)), bind_some (show may_Solo (List.getD l f d_api_Section) (i : Int) = some true by rw [hsolo, h0]; rfl), if_neg (by decide), if_pos (by unfold grd holdsb; rw [if_pos h0]; simp), ih]
        rfl
      · rw [if_pos ha, if_pos (decide_eq_true (by omega)), if_pos (decide_eq_true (by omega)), bind_some (show may_Solo (List.getD l f d_api_Section) (i : Int) = some false by rw [hsolo, show (liv l f i == 0#32) = false by simpa using h0]), if_pos (by decide), if_pos (decide_eq_true hg2.1), if_pos (decide_eq_true (by omega)), if_pos (decide_eq_true (by omega)), if_pos (decide_eq_true (by omega)), bind_some (holds_eq _ _ _ _)]
        have hgr : grd p l js f i = holdsb (jus js (nde p f i).arg) ((nde p f i).kind == 2) (hld l f i) (liv l f i) := by unfold grd; rw [ha]; simp
        cases hh : holdsb (jus js (nde p f i).arg) ((nde p f i).kind == 2) (hld l f i) (liv l f i) with
        | true =>
          rw [if_neg (by decide), if_pos (hgr.trans hh), ih]
          rfl
        | false =>
          rw [if_pos (by decide), if_neg (by rw [hgr, hh]; decide)]
          rfl
    · rw [if_neg ha, if_pos (by unfold grd; rw [show acc (nde p f i) = false by simpa using ha]; rfl), ih]
      rfl
def fgO (p : api_Program) (l : List api_Section) (js : List api_Just) (f : Nat) : Option Nat := (findO (grdO p l js f) 0 (List.getD p.funcs f []).length).map fun x => x.1
def m13g : Option (Nat × Nat) → guard_Check_l13_R
  | some (f, k) => .x0 f k 8 0
  | none => .x1
theorem guard_l13 (p : api_Program) (hg : Good p) (l : List api_Section) (hs : Shp p l) (js : List api_Just) (hj : (js.length : Int) = p.globals) : ∀ (m f : Nat), f + m = p.funcs.length → guard_Check_l13 0 0 0 l js p.funcs (p.funcs.length : Int) (f : Int) = some (m13g (findO (fgO p l js) f m))
  | 0, f, h => by rw [guard_Check_l13, if_neg (by simp only [decide_eq_true_eq]; omega)]; rfl
  | m + 1, f, h => by
    have hn := hg.funcs.2
    have h16 := guard_l16 p hg l hs js hj f (by omega) (p.funcs.length : Int) (f : Int) (List.getD p.funcs f []).length 0 (by omega)
    rw [show ((0 : Nat) : Int) = 0 from rfl] at h16
    rw [guard_Check_l13, if_pos (decide_eq_true (by omega)), if_pos (decide_eq_true (by omega)), if_pos (decide_eq_true (by omega)), Int.toNat_natCast f, bind_some h16, inc f (by omega), guard_l13 p hg l hs js hj m (f + 1) (by omega), findO_succ]
    unfold fgO
    cases findO (grdO p l js f) 0 (List.getD p.funcs f []).length with
    | none => rfl
    | some z => rfl
def jusO (p : api_Program) (js : List api_Just) (i : Nat) : Option Unit := if rightb (List.getD js i d_api_Just) p.locks = true then none else some ()
def m7g : Option (Nat × Unit) → guard_Check_l7_R
  | some (k, _) => .x0 (-1) k 8 0
  | none => .x1
theorem guard_l7 (p : api_Program) (l : List api_Section) (js : List api_Just) (hj : js.length ≤ 1000) : ∀ (m i : Nat), i + m = js.length → guard_Check_l7 p.globals p.locks p.slots p.funcs 0 0 0 l js js (js.length : Int) (i : Int) = some (m7g (findO (jusO p js) i m))
  | 0, i, h => by rw [guard_Check_l7, if_neg (by simp only [decide_eq_true_eq]; omega)]; rfl
  | m + 1, i, h => by
    rw [guard_Check_l7, if_pos (decide_eq_true (by omega)), if_pos (decide_eq_true (by omega)), if_pos (decide_eq_true (by omega)), Int.toNat_natCast i, bind_some (right_eq _ _), inc i (by omega), guard_l7 p l js hj m (i + 1) (by omega), findO_succ]
    unfold jusO
    cases hr : rightb (List.getD js i d_api_Just) p.locks with
    | true => rw [if_neg (by decide), if_pos rfl]
    | false => rw [if_pos (by decide), if_neg (by decide)]; rfl
def guardM (p : api_Program) (l : List api_Section) (js : List api_Just) : api_Fault := match findO (jusO p js) 0 js.length with
  | some (j, _) => ⟨-1, j, 8⟩
  | none => match findO (fgO p l js) 0 p.funcs.length with
    | some (f, k) => ⟨f, k, 8⟩
    | none => ⟨0, 0, 0⟩
theorem guard_good (p : api_Program) (hg : Good p) (hk : prog_Check p = some (0, 0, 0)) (l : List api_Section) (hs : Shp p l) (js : List api_Just) (hj : (js.length : Int) = p.globals) : guard_Check p l js = some (guardM p l js, 0) := by
  have hn := hg.funcs.2
  have hgl := hg.globals.2
  obtain ⟨b, b1, _, b2⟩ := shaped_eq p l (by omega)
  have hb := b2.2 hs
  have h7 := guard_l7 p l js (by omega) js.length 0 (by omega)
  have h13 := guard_l13 p hg l hs js hj p.funcs.length 0 (by omega)
  rw [show ((0 : Nat) : Int) = 0 from rfl] at h7 h13
  unfold guard_Check
  rw [bind_some hk, if_neg (show ¬ ((0 : Int) != 0) = true by decide), bind_some b1, hb, if_neg (by decide), if_neg (neF hj), bind_some h7]
  unfold guardM
  cases findO (jusO p js) 0 js.length with
  | some y => rfl
  | none =>
    dsimp only [m7g]
    rw [bind_some h13]
    cases findO (fgO p l js) 0 p.funcs.length with
    | some y => rfl
    | none => rfl
theorem vecEq_iff (f g : Nat → B8) : ∀ l : List Nat, vecEq (fun a b => ((BitVec.toNat a : Nat) : Int) == ((BitVec.toNat b : Nat) : Int)) f g l = true ↔ ∀ i ∈ l, f i = g i
  | [] => by simp [vecEq]
  | i :: l => by
    show ((((BitVec.toNat (f i) : Nat) : Int) == ((BitVec.toNat (g i) : Nat) : Int)) && vecEq _ f g l) = true ↔ _
    rw [Bool.and_eq_true, vecEq_iff f g l, beq_iff_eq, Int.ofNat_inj, BitVec.toNat_inj]
    simp
theorem vecEq_range (f g : Nat → B8) : vecEq (fun a b => ((BitVec.toNat a : Nat) : Int) == ((BitVec.toNat b : Nat) : Int)) f g (List.range 32) = true ↔ ∀ i, i < 32 → f i = g i := by
  rw [vecEq_iff]; simp
instance sameDec (f g : Nat → B8) : Decidable (∀ i, i < 32 → f i = g i) := decidable_of_iff _ (vecEq_range f g)
theorem vput_sha (t : List B8) : vput (fun _ => 0#8) 0 32 (shaM t) = shaM t := by
  funext i
  unfold vput shaM
  by_cases hi : i < 32
  · rw [if_pos (by omega), if_pos hi, Nat.sub_zero, if_pos hi]
  · rw [if_neg (by omega), if_neg hi]
def orF (a b : api_Fault) : api_Fault := if a.what = 0 then b else a
def r54 (a : api_Fault) : check_Check_l5_4_R := if a.what = 0 then .x1 else .x0 a.func a.node a.what 0
def r53 (a : api_Fault) : check_Check_l5_3_R := if a.what = 0 then .x1 else .x0 a.func a.node a.what 0
def r52 (a : api_Fault) : check_Check_l5_2_R := if a.what = 0 then .x1 else .x0 a.func a.node a.what 0
def r51 (a : api_Fault) : check_Check_l5_1_R := if a.what = 0 then .x1 else .x0 a.func a.node a.what 0
def r50 (a : api_Fault) : check_Check_l5_R := if a.what = 0 then .x1 else .x0 a.func a.node a.what 0
theorem check_l4 (p : api_Program) (hg : Good p) (hk : prog_Check p = some (0, 0, 0)) (c : api_Cert) (hs : Shp p c.sections) (hj : (c.justs.length : Int) = p.globals) : check_Check_l5_4 p.globals p.locks p.slots p.funcs c.digest c.sections c.justs 0 0 0 = some (r54 (guardM p c.sections c.justs)) := by
  unfold check_Check_l5_4 check_justs
  rw [bind_some (show (bind (guard_Check (api_Program.mk p.globals p.locks p.slots p.funcs) (api_Cert.mk c.digest c.sections c.justs).sections (api_Cert.mk c.digest c.sections c.justs).justs) fun v1 => some (v1.1, v1.2)) = some (guardM p c.sections c.justs, 0) by rw [show guard_Check (api_Program.mk p.globals p.locks p.slots p.funcs) (api_Cert.mk c.digest c.sections c.justs).sections (api_Cert.mk c.digest c.sections c.justs).justs = some (guardM p c.sections c.justs, 0) from guard_good p hg hk c.sections hs c.justs hj]; rfl)]
  dsimp only
  rw [if_neg (by decide)]
  unfold r54
  by_cases h : (guardM p c.sections c.justs).what = 0
  · rw [if_neg (neF h), if_pos h]; rfl
  · rw [if_pos (neT h), if_neg h]
theorem check_l3 (p : api_Program) (hg : Good p) (hk : prog_Check p = some (0, 0, 0)) (c : api_Cert) (hs : Shp p c.sections) (hj : (c.justs.length : Int) = p.globals) (a : api_Fault) (ha : may_Check p c.sections = some (a, 0)) : check_Check_l5_3 p.globals p.locks p.slots p.funcs c.digest c.sections c.justs 0 0 0 = some (r53 (orF a (guardM p c.sections c.justs))) := by
  unfold check_Check_l5_3
  rw [bind_some (show check_live (api_Program.mk p.globals p.locks p.slots p.funcs) (api_Cert.mk c.digest c.sections c.justs) = some (a, 0) by unfold check_live; rw [show may_Check _ _ = some (a, 0) from ha]; rfl)]
  dsimp only
  rw [if_neg (by decide)]
  unfold r53 orF
  by_cases h : a.what = 0
  · rw [if_neg (neF h), if_pos h, bind_some (check_l4 p hg hk c hs hj)]
    unfold r54
    by_cases h2 : (guardM p c.sections c.justs).what = 0
    · rw [if_pos h2, if_pos h2]
    · rw [if_neg h2, if_neg h2]
  · rw [if_pos (neT h), if_neg h, if_neg h]
theorem check_l2 (p : api_Program) (hg : Good p) (hk : prog_Check p = some (0, 0, 0)) (c : api_Cert) (hs : Shp p c.sections) (hj : (c.justs.length : Int) = p.globals) (b a : api_Fault) (hb : must_Check p c.sections = some (b, 0)) (ha : may_Check p c.sections = some (a, 0)) : check_Check_l5_2 p.globals p.locks p.slots p.funcs c.digest c.sections c.justs 0 0 0 = some (r52 (orF b (orF a (guardM p c.sections c.justs)))) := by
  unfold check_Check_l5_2
  rw [bind_some (show check_held (api_Program.mk p.globals p.locks p.slots p.funcs) (api_Cert.mk c.digest c.sections c.justs) = some (b, 0) by unfold check_held; rw [show must_Check _ _ = some (b, 0) from hb]; rfl)]
  dsimp only
  rw [if_neg (by decide)]
  unfold r52
  by_cases h : b.what = 0
  · rw [if_neg (neF h), show orF b (orF a (guardM p c.sections c.justs)) = orF a (guardM p c.sections c.justs) from if_pos h, bind_some (check_l3 p hg hk c hs hj a ha)]
    unfold r53
    by_cases h2 : (orF a (guardM p c.sections c.justs)).what = 0
    · rw [if_pos h2, if_pos h2]
    · rw [if_neg h2, if_neg h2]
  · rw [if_pos (neT h), show orF b (orF a (guardM p c.sections c.justs)) = b from if_neg h, if_neg h]
theorem bound_good (p : api_Program) (hg : Good p) (hk : prog_Check p = some (0, 0, 0)) (c : api_Cert) : check_bound p c = some (if (∀ i, i < 32 → shaM (progB p) i = c.digest i) then ⟨0, 0, 0⟩ else ⟨-1, -1, 9⟩, 0) := by
  unfold check_bound
  rw [bind_some (digest_good hg hk)]
  dsimp only
  rw [if_neg (by decide), vput_sha]
  by_cases h : ∀ i, i < 32 → shaM (progB p) i = c.digest i
  · rw [(vecEq_range _ _).2 h, if_neg (by decide), if_pos h]
  · rw [if_pos (by
      cases hv : vecEq (fun a b => ((BitVec.toNat a : Nat) : Int) == ((BitVec.toNat b : Nat) : Int)) (shaM (progB p)) c.digest (List.range 32) with
      | true => exact absurd ((vecEq_range _ _).1 hv) h
      | false => rfl), if_neg h]
    rfl
def checkM (p : api_Program) (c : api_Cert) (b a : api_Fault) : api_Fault :=
  if ∀ i, i < 32 → shaM (progB p) i = c.digest i then orF b (orF a (guardM p c.sections c.justs)) else ⟨-1, -1, 9⟩
theorem check_l1 (p : api_Program) (hg : Good p) (hk : prog_Check p = some (0, 0, 0)) (c : api_Cert) (hs : Shp p c.sections) (hj : (c.justs.length : Int) = p.globals) (b a : api_Fault) (hb : must_Check p c.sections = some (b, 0)) (ha : may_Check p c.sections = some (a, 0)) : check_Check_l5_1 p.globals p.locks p.slots p.funcs c.digest c.sections c.justs 0 0 0 = some (r51 (checkM p c b a)) := by
  unfold check_Check_l5_1
  rw [bind_some (show check_bound (api_Program.mk p.globals p.locks p.slots p.funcs) (api_Cert.mk c.digest c.sections c.justs) = _ from bound_good p hg hk c)]
  dsimp only
  rw [if_neg (by decide)]
  unfold checkM
  by_cases h : ∀ i, i < 32 → shaM (progB p) i = c.digest i
  · rw [if_pos h, if_pos h, if_neg (by decide), bind_some (check_l2 p hg hk c hs hj b a hb ha)]
    unfold r52 r51
    by_cases h2 : (orF b (orF a (guardM p c.sections c.justs))).what = 0
    · rw [if_pos h2, if_pos h2]
    · rw [if_neg h2, if_neg h2]
  · rw [if_neg h, if_neg h, if_pos (by decide)]; rfl
theorem check_good (p : api_Program) (hg : Good p) (hk : prog_Check p = some (0, 0, 0)) (c : api_Cert) (hs : Shp p c.sections) (hj : (c.justs.length : Int) = p.globals) (b a : api_Fault) (hb : must_Check p c.sections = some (b, 0)) (ha : may_Check p c.sections = some (a, 0)) : check_Check p c = some (if (checkM p c b a).what = 0 then ⟨0, 0, 0⟩ else checkM p c b a, 0) := by
  have hn := hg.funcs.2
  obtain ⟨q, q1, _, q2⟩ := shaped_eq p c.sections (by omega)
  have hq := q2.2 hs
  have hsh : check_shape (api_Program.mk p.globals p.locks p.slots p.funcs) (api_Cert.mk c.digest c.sections c.justs) = some (⟨0, 0, 0⟩, 0) := by
    unfold check_shape
    rw [bind_some (show must_Shaped (api_Program.mk p.globals p.locks p.slots p.funcs) (api_Cert.mk c.digest c.sections c.justs).sections = some q from q1), hq, if_neg (by decide), if_neg (neF hj)]
  have h5 : check_Check_l5 p.globals p.locks p.slots p.funcs c.digest c.sections c.justs 0 0 0 = some (r50 (checkM p c b a)) := by
    unfold check_Check_l5
    rw [bind_some hsh]
    dsimp only
    rw [if_neg (by decide), if_neg (by decide), bind_some (check_l1 p hg hk c hs hj b a hb ha)]
    unfold r51 r50
    by_cases h2 : (checkM p c b a).what = 0
    · rw [if_pos h2, if_pos h2]
    · rw [if_neg h2, if_neg h2]
  unfold check_Check
  rw [bind_some (digest_good hg hk)]
  dsimp only
  rw [if_neg (by decide), bind_some h5]
  unfold r50
  by_cases h2 : (checkM p c b a).what = 0
  · rw [if_pos h2, if_pos h2]
  · rw [if_neg h2, if_neg h2]
theorem accepts_good (p : api_Program) (hg : Good p) (hk : prog_Check p = some (0, 0, 0)) (c : api_Cert) (hs : Shp p c.sections) (hj : (c.justs.length : Int) = p.globals) (b a : api_Fault) (hb : must_Check p c.sections = some (b, 0)) (ha : may_Check p c.sections = some (a, 0)) : check_Accepts p c = some ((checkM p c b a).what == 0) := by
  unfold check_Accepts
  rw [bind_some (check_good p hg hk c hs hj b a hb ha)]
  dsimp only
  rw [if_pos (by decide)]
  by_cases h2 : (checkM p c b a).what = 0
  · rw [if_pos h2, h2]
  · rw [if_neg h2]
theorem check_shapeless (p : api_Program) (hg : Good p) (hk : prog_Check p = some (0, 0, 0)) (c : api_Cert) (h : ¬ (Shp p c.sections ∧ (c.justs.length : Int) = p.globals)) : check_Check p c = some (⟨-1, -1, 1⟩, 0) := by
  have hn := hg.funcs.2
  obtain ⟨q, q1, _, q2⟩ := shaped_eq p c.sections (by omega)
  have hsh : check_shape (api_Program.mk p.globals p.locks p.slots p.funcs) (api_Cert.mk c.digest c.sections c.justs) = some (⟨-1, -1, 1⟩, 0) := by
    unfold check_shape
    rw [bind_some (show must_Shaped (api_Program.mk p.globals p.locks p.slots p.funcs) (api_Cert.mk c.digest c.sections c.justs).sections = some q from q1)]
    cases q with
    | false => rw [if_pos (by decide)]; rfl
    | true =>
      have hs := q2.1 rfl
      rw [if_neg (by decide), if_pos (neT fun hj => h ⟨hs, hj⟩)]
      rfl
  have h5 : check_Check_l5 p.globals p.locks p.slots p.funcs c.digest c.sections c.justs 0 0 0 = some (.x0 (-1) (-1) 1 0) := by
    unfold check_Check_l5
    rw [bind_some hsh]
    dsimp only
    rw [if_neg (by decide), if_pos (by decide)]
  unfold check_Check
  rw [bind_some (digest_good hg hk)]
  dsimp only
  rw [if_neg (by decide), bind_some h5]
theorem digest_bad0 {p : api_Program} {a b e : Int} (hk : prog_Check p = some (a, b, e)) (he : e ≠ 0) : pcode_Digest p = some (vput (fun _ => 0#8) 0 32 (fun _ => 0#8), e) := by
  unfold pcode_Digest
  rw [bind_some (write_bad hk he)]
  simp only []
  rw [if_pos (by simpa using he)]
abbrev p0 : api_Program := ⟨0, 0, 0, [[⟨9, 0, 0, 0⟩]]⟩
abbrev l0 : List api_Section := [⟨0#32, 0#32, [0#32], 0#32, 0#32, [0#32]⟩]
theorem p0_check : prog_Check p0 = some (0, 0, 0) := prog_Check_le 40 _ _ (by kernel_rfl)
theorem p0_good : Good p0 := by
  obtain ⟨r, h1, h2, _⟩ := check_eqP p0
  rw [p0_check] at h1
  cases h1
  exact (h2 rfl).2
theorem p0_shp : Shp p0 l0 := ⟨rfl, fun f hf => by
  have : f = 0 := by have : f < 1 := hf; omega
  subst this
  exact ⟨rfl, rfl⟩⟩
theorem p0_fine (u : List W32) (fm : W32) : Fine p0 l0 u fm := fun f hf => by
  have : f = 0 := by have : f < 1 := hf; omega
  subst this
  refine ⟨fun h => h.2 rfl, by kernel_rfl, fun i hi => ?_⟩
  have : i = 0 := by have : i < 1 := hi; omega
  subst this
  rw [nodeW_r (fun hk => by kernel_rfl) (fun hk => by kernel_rfl), if_pos]
  rw [List.all_eq_true]
  intro y hy
  cases (show y ∈ ([] : List Int) from hy)
theorem p0_fineL (bg : W32) : FineL p0 l0 bg := fun f hf => by
  have : f = 0 := by have : f < 1 := hf; omega
  subst this
  refine ⟨by kernel_rfl, fun i hi => ?_⟩
  have : i = 0 := by have : i < 1 := hi; omega
  subst this
  rw [nodeL_r (fun hk => by kernel_rfl) (fun hk => by kernel_rfl) (fun hk => absurd hk (by decide)), if_pos]
  unfold onL
  rw [List.all_eq_true]
  intro y hy
  cases (show y ∈ ([] : List Int) from hy)
theorem p0_must : must_Check p0 l0 = some (⟨0, 0, 0⟩, 0) := by
  obtain ⟨u, fm, _, k, _⟩ := must_good p0 p0_good p0_check
  rw [k l0 p0_shp, fine_of rfl (p0_fine u fm)]
theorem p0_may : may_Check p0 l0 = some (⟨0, 0, 0⟩, 0) := by
  obtain ⟨bg, _, k, _⟩ := may_good p0 p0_good p0_check
  rw [k l0 p0_shp, fineL_of rfl (p0_fineL bg)]
theorem p0_guard : guardM p0 l0 [] = ⟨0, 0, 0⟩ := by kernel_rfl
theorem p0_checkM (d : Nat → B8) (hd : ∀ i, i < 32 → shaM (progB p0) i = d i) : checkM p0 ⟨d, l0, []⟩ ⟨0, 0, 0⟩ ⟨0, 0, 0⟩ = ⟨0, 0, 0⟩ := by
  unfold checkM orF
  rw [if_pos hd]
  exact p0_guard
theorem awake20 : alibilaw20_awake = some true := by
  have hd := digest_good p0_good p0_check
  have hc := check_good p0 p0_good p0_check ⟨shaM (progB p0), l0, []⟩ p0_shp rfl _ _ p0_must p0_may
  have ha := accepts_good p0 p0_good p0_check ⟨shaM (progB p0), l0, []⟩ p0_shp rfl _ _ p0_must p0_may
  rw [p0_checkM _ fun i _ => rfl] at hc ha
  unfold alibilaw20_awake
  rw [bind_some (show pcode_Digest _ = _ from hd)]
  dsimp only
  rw [vput_sha, bind_some (show check_Check _ _ = _ from hc), bind_some (show check_Accepts _ _ = _ from ha)]
  rw [if_pos (by decide), if_pos (by decide), if_pos (by decide), if_pos (by decide)]
  have h2 : ∀ d : Nat → B8, d 0 = shaM (progB p0) 0 + 1#8 → check_Accepts p0 ⟨d, l0, []⟩ = some false := by
    intro d h0
    rw [accepts_good p0 p0_good p0_check ⟨d, l0, []⟩ p0_shp rfl _ _ p0_must p0_may]
    have hne : ¬ ∀ i, i < 32 → shaM (progB p0) i = d i := fun h => by
      have h1 := (h 0 (by decide)).trans h0
      have h3 := congrArg BitVec.toNat h1
      rw [BitVec.toNat_add] at h3
      have h4 := (shaM (progB p0) 0).isLt
      have h5 : (1#8).toNat = 1 := rfl
      omega
    unfold checkM
    rw [if_neg hne]
    rfl
  rw [bind_some (show check_Accepts _ _ = some false from h2 _ rfl)]
  rfl
theorem refright_eq (j : api_Just) (locks : Int) : alibiref17_Right j locks = some (rightb j locks) := by
  unfold alibiref17_Right rightb
  by_cases h2 : j.kind = 2
  · rw [if_pos (eqT h2), if_pos h2]
    by_cases h0 : 0 ≤ j.lock
    · rw [if_pos (decide_eq_true h0), decide_eq_true h0, Bool.true_and]
    · rw [if_neg (by simpa using h0), decide_eq_false h0, Bool.false_and]
  · rw [if_neg (eqF h2), if_neg h2]
    by_cases h0 : j.kind = 0
    · rw [if_pos (decide_eq_true (by omega)), if_pos (decide_eq_true (by omega)), if_pos h0]
    · rw [if_neg h0]
      by_cases h1 : j.kind = 1
      · rw [if_pos (decide_eq_true (by omega)), if_pos (decide_eq_true (by omega)), if_pos h1]
      · rw [if_neg h1]
        by_cases h3 : 0 ≤ j.kind
        · rw [if_pos (decide_eq_true h3), if_neg (by simp only [decide_eq_true_eq]; omega)]
        · rw [if_neg (by simpa using h3)]
theorem refholds_eq (j : api_Just) (w : Bool) (h l : W32) : alibiref17_Holds j w h l = some (holdsb j w h l) := by
  unfold alibiref17_Holds holdsb
  by_cases h0 : l = 0#32
  · rw [if_pos (by simpa using h0), if_pos h0]
  · rw [if_neg (by simpa using h0), if_neg h0]
    by_cases h1 : j.kind = 1
    · rw [if_pos (eqT h1), if_pos h1]
      cases w with
      | false => rfl
      | true => rw [if_neg (by decide), if_neg (eqF (show ¬ j.kind = 2 by omega))]; rfl
    · rw [if_neg (eqF h1), if_neg h1]
      by_cases h2 : j.kind = 2
      · rw [if_pos (eqT h2), if_pos h2, bind_some (show alibiref03_Has h j.lock = some (hasb h j.lock) from refhas_eq _ _)]
      · rw [if_neg (eqF h2), if_neg h2]
def n12 : Option (Nat × Unit) → alibiref17_Check_l12_R
  | some (k, _) => .x0 k 8
  | none => .x1
theorem ref_g12 (p : api_Program) (hg : Good p) (l : List api_Section) (hs : Shp p l) (js : List api_Just) (hj : (js.length : Int) = p.globals) (f : Nat) (hf : f < p.funcs.length) (x4 x5 x6 : Int) : ∀ (m i : Nat), i + m = (List.getD p.funcs f []).length → alibiref17_Check_l12 p.globals p.locks p.slots p.funcs x4 x5 x6 l js (f : Int) (i : Int) = some (n12 (findO (grdO p l js f) i m))
  | 0, i, h => by rw [alibiref17_Check_l12, if_pos (decide_eq_true (by omega)), if_pos (decide_eq_true (by omega)), Int.toNat_natCast f, if_neg (by simp only [decide_eq_true_eq]; omega)]; rfl
  | m + 1, i, h => by
    have hle := hg.le f
    have ih := ref_g12 p hg l hs js hj f hf x4 x5 x6 m (i + 1) (by omega)
    have hl := hs.1
    have h1 : (List.getD l f d_api_Section).held.length = (List.getD p.funcs f []).length := (hs.2 f hf).1
    have h2 : (List.getD l f d_api_Section).live.length = (List.getD p.funcs f []).length := (hs.2 f hf).2
    have hgl : acc (nde p f i) = true → 0 ≤ (nde p f i).arg ∧ (nde p f i).arg < p.globals := fun ha => (hg.node f i hf (by omega)).glob (by simpa [acc] using ha)
    have hO1 : grd p l js f i = true → findO (grdO p l js f) i (m + 1) = findO (grdO p l js f) (i + 1) m := fun g => by
      rw [findO_succ, show grdO p l js f i = none from if_pos g]
    have hO2 : grd p l js f i = false → findO (grdO p l js f) i (m + 1) = some (i, ()) := fun g => by
      rw [findO_succ, show grdO p l js f i = some () from if_neg (by rw [g]; decide)]
    rw [alibiref17_Check_l12, if_pos (decide_eq_true (by omega)), if_pos (decide_eq_true (by omega)), Int.toNat_natCast f, if_pos (decide_eq_true (by omega)), if_pos (decide_eq_true (by omega)), if_pos (decide_eq_true (by omega)), Int.toNat_natCast i, inc i (by omega)]
    have tail : acc (nde p f i) = true → (if decide ((0 : Int) ≤ (nde p f i).arg) = true then if decide ((nde p f i).arg < (js.length : Int)) = true then if decide ((f : Int) < (l.length : Int)) = true then if decide ((i : Int) < ((List.getD l f d_api_Section).held.length : Int)) = true then if decide ((i : Int) < ((List.getD l f d_api_Section).live.length : Int)) = true then bind (alibiref17_Holds (List.getD js (nde p f i).arg.toNat d_api_Just) ((nde p f i).kind == 2) (hld l f i) (liv l f i)) fun v => if (!v) = true then some (.x0 (i : Int) 8) else alibiref17_Check_l12 p.globals p.locks p.slots p.funcs x4 x5 x6 l js (f : Int) ((i + 1 : Nat) : Int) else none else none else none else none else none) = some (n12 (findO (grdO p l js f) i (m + 1))) := fun ha => by
      have hg2 := hgl ha
      have hgr : grd p l js f i = holdsb (jus js (nde p f i).arg) ((nde p f i).kind == 2) (hld l f i) (liv l f i) := by unfold grd; rw [ha]; simp
      rw [if_pos (decide_eq_true hg2.1), if_pos (decide_eq_true (by omega)), if_pos (decide_eq_true (by omega)), if_pos (decide_eq_true (by omega)), if_pos (decide_eq_true (by omega)), bind_some (refholds_eq _ _ _ _)]
      cases hh : holdsb (jus js (nde p f i).arg) ((nde p f i).kind == 2) (hld l f i) (liv l f i) with
      | true => rw [if_neg (by decide), hO1 (hgr.trans hh), ih]
      | false => rw [if_pos (by decide), hO2 (hgr.trans hh)]; rfl
    by_cases hk1 : (nde p f i).kind = 1
    · rw [if_pos (eqT hk1)]
      exact tail (by unfold acc; rw [eqT hk1]; rfl)
    · rw [if_neg (eqF hk1)]
      by_cases hk2 : (nde p f i).kind = 2
      · rw [if_pos (eqT hk2)]
        exact tail (by unfold acc; rw [eqT hk2]; simp)
      · rw [if_neg (eqF hk2), ih, hO1 (by unfold grd acc; rw [show ((nde p f i).kind == 1) = false by simpa using hk1, show ((nde p f i).kind == 2) = false by simpa using hk2]; rfl)]
def n9 : Option (Nat × Nat) → alibiref17_Check_l9_R
  | some (f, k) => .x0 f k 8
  | none => .x1
theorem ref_g9 (p : api_Program) (hg : Good p) (l : List api_Section) (hs : Shp p l) (js : List api_Just) (hj : (js.length : Int) = p.globals) : ∀ (m f : Nat), f + m = p.funcs.length → alibiref17_Check_l9 p.globals p.locks p.slots p.funcs 0 0 0 l js (f : Int) = some (n9 (findO (fgO p l js) f m))
  | 0, f, h => by rw [alibiref17_Check_l9, if_neg (by simp only [decide_eq_true_eq]; omega)]; rfl
  | m + 1, f, h => by
    have hn := hg.funcs.2
    have h12 := ref_g12 p hg l hs js hj f (by omega) 0 0 0 (List.getD p.funcs f []).length 0 (by omega)
    rw [show ((0 : Nat) : Int) = 0 from rfl] at h12
    rw [alibiref17_Check_l9, if_pos (decide_eq_true (by omega)), bind_some h12, inc f (by omega), ref_g9 p hg l hs js hj m (f + 1) (by omega), findO_succ]
    unfold fgO
    cases findO (grdO p l js f) 0 (List.getD p.funcs f []).length with
    | none => rfl
    | some z => rfl
def n4 : Option (Nat × Unit) → alibiref17_Check_l4_R
  | some (k, _) => .x0 (-1) k 8
  | none => .x1
theorem ref_g4 (p : api_Program) (l : List api_Section) (js : List api_Just) (hj : js.length ≤ 1000) : ∀ (m i : Nat), i + m = js.length → alibiref17_Check_l4 p.globals p.locks p.slots p.funcs 0 0 0 l js (i : Int) = some (n4 (findO (jusO p js) i m))
  | 0, i, h => by rw [alibiref17_Check_l4, if_neg (by simp only [decide_eq_true_eq]; omega)]; rfl
  | m + 1, i, h => by
    rw [alibiref17_Check_l4, if_pos (decide_eq_true (by omega)), if_pos (decide_eq_true (by omega)), if_pos (decide_eq_true (by omega)), Int.toNat_natCast i, bind_some (refright_eq _ _), inc i (by omega), ref_g4 p l js hj m (i + 1) (by omega), findO_succ]
    unfold jusO
    cases hr : rightb (List.getD js i d_api_Just) p.locks with
    | true => rw [if_neg (by decide), if_pos rfl]
    | false => rw [if_pos (by decide), if_neg (by decide)]; rfl
theorem refguard_eq (p : api_Program) (hg : Good p) (l : List api_Section) (hs : Shp p l) (js : List api_Just) (hj : (js.length : Int) = p.globals) : alibiref17_Check p l js = some (guardM p l js) := by
  have hn := hg.funcs.2
  have hgl := hg.globals.2
  obtain ⟨b, _, b1, b2⟩ := shaped_eq p l (by omega)
  have hb := b2.2 hs
  have h7 := ref_g4 p l js (by omega) js.length 0 (by omega)
  have h13 := ref_g9 p hg l hs js hj p.funcs.length 0 (by omega)
  rw [show ((0 : Nat) : Int) = 0 from rfl] at h7 h13
  unfold alibiref17_Check
  rw [bind_some b1, hb, if_neg (by decide), if_neg (neF hj), bind_some h7]
  unfold guardM
  cases findO (jusO p js) 0 js.length with
  | some y => rfl
  | none =>
    dsimp only [n4]
    rw [bind_some h13]
    cases findO (fgO p l js) 0 p.funcs.length with
    | some y => rfl
    | none => rfl
theorem guardM_zero {p : api_Program} {l : List api_Section} {js : List api_Just} (h : (guardM p l js).what = 0) : guardM p l js = ⟨0, 0, 0⟩ := by
  unfold guardM at h ⊢
  cases hq : findO (jusO p js) 0 js.length with
  | some y => rw [hq] at h; exact absurd h (by show ¬ (8 : Int) = 0; decide)
  | none =>
    rw [hq] at h
    cases hq2 : findO (fgO p l js) 0 p.funcs.length with
    | some y => rw [hq2] at h; exact absurd h (by show ¬ (8 : Int) = 0; decide)
    | none => rfl
theorem both20 (p : api_Program) (hg : Good p) (hk : prog_Check p = some (0, 0, 0)) (c : api_Cert) : ∃ f, check_Check p c = some (f, 0) ∧ alibiref20_Check p c = some f ∧ check_Accepts p c = some (f.what == 0) := by
  have acc_of : ∀ f, check_Check p c = some (f, 0) → check_Accepts p c = some (f.what == 0) := fun f h => by
    unfold check_Accepts
    rw [bind_some h]
    dsimp only
    rw [if_pos (by decide)]
  have hn := hg.funcs.2
  obtain ⟨b, b0, b1, b2⟩ := shaped_eq p c.sections (by omega)
  by_cases h : Shp p c.sections ∧ (c.justs.length : Int) = p.globals
  · obtain ⟨u, fm, ku, k2, _⟩ := must_good p hg hk
    obtain ⟨bg, kb, k4, _⟩ := may_good p hg hk
    have hm := k2 _ h.1
    have hl := k4 _ h.1
    have hc := check_good p hg hk c h.1 h.2 _ _ hm hl
    have hb := b2.2 h.1
    have hlen := progB_len hg
    refine ⟨_, hc, ?_, acc_of _ hc⟩
    unfold alibiref20_Check
    rw [bind_some b1, hb, if_neg (by decide), if_neg (neF h.2), bind_some (refWrite hg), bind_some (ref_of _ (by omega))]
    unfold checkM
    by_cases hd : ∀ i, i < 32 → shaM (progB p) i = c.digest i
    · rw [(vecEq_range _ _).2 hd, if_neg (by decide), if_pos hd, bind_some ((refcheck_eq p hg c.sections ku).1 h.1)]
      unfold orF
      by_cases h1 : (checkW p c.sections u fm).what = 0
      · rw [if_neg (neF h1), if_pos h1, bind_some ((refcheck16_eq p hg c.sections kb).1 h.1)]
        by_cases h2 : (checkL p c.sections bg).what = 0
        · rw [if_neg (neF h2), if_pos h2, bind_some (refguard_eq p hg c.sections h.1 c.justs h.2)]
          by_cases h3 : (guardM p c.sections c.justs).what = 0
          · rw [if_pos h3, guardM_zero h3]
          · rw [if_neg h3]
        · rw [if_pos (neT h2), if_neg h2, if_neg h2]
      · rw [if_pos (neT h1), if_neg h1, if_neg h1]
    · rw [if_pos (by
        cases hv : vecEq (fun a b => ((BitVec.toNat a : Nat) : Int) == ((BitVec.toNat b : Nat) : Int)) (shaM (progB p)) c.digest (List.range 32) with
        | true => exact absurd ((vecEq_range _ _).1 hv) hd
        | false => rfl), if_neg hd]
      rfl
  · have hc := check_shapeless p hg hk c h
    refine ⟨_, hc, ?_, acc_of _ hc⟩
    unfold alibiref20_Check
    rw [bind_some b1]
    cases b with
    | false => rw [if_pos (by decide)]
    | true => rw [if_neg (by decide), if_pos (neT fun hj => h ⟨b2.1 rfl, hj⟩)]
theorem check_bad (p : api_Program) {a b e : Int} (hk : prog_Check p = some (a, b, e)) (he : e ≠ 0) (c : api_Cert) : check_Check p c = some (⟨0, 0, 0⟩, e) ∧ check_Accepts p c = some false := by
  have h : check_Check p c = some (⟨0, 0, 0⟩, e) := by
    unfold check_Check
    rw [bind_some (digest_bad0 hk he)]
    dsimp only
    rw [if_pos (neT he)]
  refine ⟨h, ?_⟩
  unfold check_Accepts
  rw [bind_some h]
  dsimp only
  rw [if_neg (eqF he)]
theorem fewT (c : api_Cert) : ∃ b, alibiref18_Few c = some b := by
  unfold alibiref18_Few
  by_cases h1 : (c.sections.length : Int) > 40
  · rw [if_pos (decide_eq_true h1)]; exact ⟨_, rfl⟩
  · rw [if_neg (by simpa using h1)]
    by_cases h2 : (c.justs.length : Int) > 40
    · rw [if_pos (decide_eq_true h2)]; exact ⟨_, rfl⟩
    · rw [if_neg (by simpa using h2)]
      have key : ∀ (m i : Nat), i + m = c.sections.length → ∃ r, alibiref18_Few_l4 c.digest c.sections c.justs (i : Int) = some r := by
        intro m
        induction m with
        | zero => intro i hi; rw [alibiref18_Few_l4, if_neg (by simp only [decide_eq_true_eq]; omega)]; exact ⟨_, rfl⟩
        | succ m ih =>
          intro i hi
          rw [alibiref18_Few_l4, if_pos (decide_eq_true (by omega)), if_pos (decide_eq_true (by omega)), if_pos (decide_eq_true (by omega)), inc i (by omega)]
          split
          · exact ⟨_, rfl⟩
          · split
            · exact ⟨_, rfl⟩
            · exact ih (i + 1) (by omega)
      obtain ⟨r, hr⟩ := key c.sections.length 0 (by omega)
      rw [bind_some (show alibiref18_Few_l4 _ _ _ 0 = _ from hr)]
      cases r with
      | x0 v => exact ⟨v, rfl⟩
      | x1 => exact ⟨true, rfl⟩
theorem checkTells (p : api_Program) (c : api_Cert) : alibilaw20_CheckTells p c = some true := by
  unfold alibilaw20_CheckTells
  rw [bind_some awake20, if_neg (by decide)]
  obtain ⟨sm, s1, s2⟩ := small_eq p
  rw [bind_some s1]
  cases sm with
  | false => rw [if_pos (by decide), bind_some awake20]
  | true =>
    rw [if_neg (by decide)]
    obtain ⟨fw, f1⟩ := fewT c
    rw [bind_some f1]
    cases fw with
    | false => rw [if_pos (by decide), bind_some awake20]
    | true =>
      rw [if_neg (by decide)]
      obtain ⟨⟨ra, rb, re⟩, r1, r2, r3, r4⟩ := check_eq p
      by_cases he : re = 0
      · obtain ⟨r5, hg⟩ := r3 he
        rw [r5] at r1 r2
        obtain ⟨f, q1, q2, q3⟩ := both20 p hg r1 c
        rw [bind_some q1, bind_some r2]
        dsimp only
        rw [if_neg (by decide), bind_some q2, if_pos (by decide), if_pos (by simp), bind_some q3]
        simp
      · obtain ⟨q1, q2⟩ := check_bad p r1 he c
        rw [bind_some q1, bind_some r2]
        dsimp only
        rw [if_pos (neT he), if_pos (eqT rfl), if_pos (by decide), bind_some q2]
        rfl
end Go.Bm.GoYtipjbmnfnmlkfaaGreatDoor
