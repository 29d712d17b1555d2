/- check.Check: the other answers, and the law's own example. -/
import Derived.Test.YtipjbmnfnmlkfaaDoorLawGuardF
namespace Go.Bm.GoYtipjbmnfnmlkfaaDoor
set_option autoImplicit false
set_option linter.unusedVariables false
set_option linter.unusedSimpArgs false
set_option maxRecDepth 100000
theorem check_shapeless (p : api_Program) (hg : Good p) (hk : prog_Check p = some (0, 0, 0)) (c : api_Cert) (h : ¬ (Shp p c.sections ∧ (c.justs.length : Int) = p.globals)) : check_Check p c = some (⟨-1, -1, 1⟩, 0) := by
  have hn := hg.funcs.2
  obtain ⟨q, q1, _, q2⟩ := shaped_eq p c.sections (by omega)
  have hsh : check_shape (api_Program.mk p.globals p.locks p.slots p.funcs) (api_Cert.mk c.digest c.sections c.justs) = some (⟨-1, -1, 1⟩, 0) := by
    unfold check_shape
    rw [bind_some (show must_Shaped (api_Program.mk p.globals p.locks p.slots p.funcs) (api_Cert.mk c.digest c.sections c.justs).sections = some q from q1)]
    cases q with
    | false => rw [if_pos (by decide)]; rfl
    | true =>
      have hs := q2.1 rfl
      rw [if_neg (by decide), if_pos (neT fun hj => h ⟨hs, hj⟩)]
      rfl
  have h5 : check_Check_l5 p.globals p.locks p.slots p.funcs c.digest c.sections c.justs 0 0 0 = some (.x0 (-1) (-1) 1 0) := by
    unfold check_Check_l5
    rw [bind_some hsh]
    dsimp only
    rw [if_neg (by decide), if_pos (by decide)]
  unfold check_Check
  rw [bind_some (digest_good hg hk)]
  dsimp only
  rw [if_neg (by decide), bind_some h5]
theorem must_ans (p : api_Program) (hg : Good p) (hk : prog_Check p = some (0, 0, 0)) {l : List api_Section} (hs : Shp p l) : ∃ b, must_Check p l = some (b, 0) := by
  obtain ⟨u, fm, _, k, _⟩ := must_good p hg hk
  exact ⟨_, k l hs⟩
theorem may_ans (p : api_Program) (hg : Good p) (hk : prog_Check p = some (0, 0, 0)) {l : List api_Section} (hs : Shp p l) : ∃ b, may_Check p l = some (b, 0) := by
  obtain ⟨bg, _, k, _⟩ := may_good p hg hk
  exact ⟨_, k l hs⟩
theorem check_unbound (p : api_Program) (hg : Good p) (hk : prog_Check p = some (0, 0, 0)) (c : api_Cert) (hs : Shp p c.sections) (hj : (c.justs.length : Int) = p.globals) (hd : ¬ ∀ i, i < 32 → shaM (progB p) i = c.digest i) : check_Check p c = some (⟨-1, -1, 9⟩, 0) := by
  obtain ⟨b, hb⟩ := must_ans p hg hk hs
  obtain ⟨a, ha⟩ := may_ans p hg hk hs
  rw [check_good p hg hk c hs hj b a hb ha]
  unfold checkM
  rw [if_neg hd]
  rfl
theorem check_total (p : api_Program) (hg : Good p) (hk : prog_Check p = some (0, 0, 0)) (c : api_Cert) : ∃ r, check_Check p c = some r := by
  by_cases h : Shp p c.sections ∧ (c.justs.length : Int) = p.globals
  · obtain ⟨b, hb⟩ := must_ans p hg hk h.1
    obtain ⟨a, ha⟩ := may_ans p hg hk h.1
    exact ⟨_, check_good p hg hk c h.1 h.2 b a hb ha⟩
  · exact ⟨_, check_shapeless p hg hk c h⟩
theorem digest_bad0 {p : api_Program} {a b e : Int} (hk : prog_Check p = some (a, b, e)) (he : e ≠ 0) : pcode_Digest p = some (vput (fun _ => 0#8) 0 32 (fun _ => 0#8), e) := by
  unfold pcode_Digest
  rw [bind_some (write_bad hk he)]
  simp only []
  rw [if_pos (by simpa using he)]
/-! ### the law's own example -/
abbrev p0 : api_Program := ⟨0, 0, 0, [[⟨9, 0, 0, 0⟩]]⟩
abbrev l0 : List api_Section := [⟨0#32, 0#32, [0#32], 0#32, 0#32, [0#32]⟩]
theorem p0_check : prog_Check p0 = some (0, 0, 0) := prog_Check_le 40 _ _ (by kernel_rfl)
theorem p0_good : Good p0 := by
  obtain ⟨r, h1, h2, _⟩ := check_eqP p0
  rw [p0_check] at h1
  cases h1
  exact (h2 rfl).2
theorem p0_shp : Shp p0 l0 := ⟨rfl, fun f hf => by
  have : f = 0 := by have : f < 1 := hf; omega
  subst this
  exact ⟨rfl, rfl⟩⟩
theorem p0_fine (u : List W32) (fm : W32) : Fine p0 l0 u fm := fun f hf => by
  have : f = 0 := by have : f < 1 := hf; omega
  subst this
  refine ⟨fun h => h.2 rfl, by kernel_rfl, fun i hi => ?_⟩
  have : i = 0 := by have : i < 1 := hi; omega
  subst this
  rw [nodeW_r (fun hk => by kernel_rfl) (fun hk => by kernel_rfl), if_pos]
  rw [List.all_eq_true]
  intro y hy
  cases (show y ∈ ([] : List Int) from hy)
theorem p0_fineL (bg : W32) : FineL p0 l0 bg := fun f hf => by
  have : f = 0 := by have : f < 1 := hf; omega
  subst this
  refine ⟨by kernel_rfl, fun i hi => ?_⟩
  have : i = 0 := by have : i < 1 := hi; omega
  subst this
  rw [nodeL_r (fun hk => by kernel_rfl) (fun hk => by kernel_rfl) (fun hk => absurd hk (by decide)), if_pos]
  unfold onL
  rw [List.all_eq_true]
  intro y hy
  cases (show y ∈ ([] : List Int) from hy)
theorem p0_must : must_Check p0 l0 = some (⟨0, 0, 0⟩, 0) := by
  obtain ⟨u, fm, _, k, _⟩ := must_good p0 p0_good p0_check
  rw [k l0 p0_shp, fine_of rfl (p0_fine u fm)]
theorem p0_may : may_Check p0 l0 = some (⟨0, 0, 0⟩, 0) := by
  obtain ⟨bg, _, k, _⟩ := may_good p0 p0_good p0_check
  rw [k l0 p0_shp, fineL_of rfl (p0_fineL bg)]
theorem p0_guard : guardM p0 l0 [] = ⟨0, 0, 0⟩ := by kernel_rfl
theorem p0_checkM (d : Nat → B8) (hd : ∀ i, i < 32 → shaM (progB p0) i = d i) : checkM p0 ⟨d, l0, []⟩ ⟨0, 0, 0⟩ ⟨0, 0, 0⟩ = ⟨0, 0, 0⟩ := by
  unfold checkM orF
  rw [if_pos hd]
  exact p0_guard
theorem awake20 : alibilaw20_awake = some true := by
  have hd := digest_good p0_good p0_check
  have hc := check_good p0 p0_good p0_check ⟨shaM (progB p0), l0, []⟩ p0_shp rfl _ _ p0_must p0_may
  have ha := accepts_good p0 p0_good p0_check ⟨shaM (progB p0), l0, []⟩ p0_shp rfl _ _ p0_must p0_may
  rw [p0_checkM _ fun i _ => rfl] at hc ha
  unfold alibilaw20_awake
  rw [bind_some (show pcode_Digest _ = _ from hd)]
  dsimp only
  rw [vput_sha, bind_some (show check_Check _ _ = _ from hc), bind_some (show check_Accepts _ _ = _ from ha)]
  rw [if_pos (by decide), if_pos (by decide), if_pos (by decide), if_pos (by decide)]
  have h2 : ∀ d : Nat → B8, d 0 = shaM (progB p0) 0 + 1#8 → check_Accepts p0 ⟨d, l0, []⟩ = some false := by
    intro d h0
    rw [accepts_good p0 p0_good p0_check ⟨d, l0, []⟩ p0_shp rfl _ _ p0_must p0_may]
    have hne : ¬ ∀ i, i < 32 → shaM (progB p0) i = d i := fun h => by
      have h1 := (h 0 (by decide)).trans h0
      have h3 := congrArg BitVec.toNat h1
      rw [BitVec.toNat_add] at h3
      have h4 := (shaM (progB p0) 0).isLt
      have h5 : (1#8).toNat = 1 := rfl
      omega
    unfold checkM
    rw [if_neg hne]
    rfl
  rw [bind_some (show check_Accepts _ _ = some false from h2 _ rfl)]
  rfl
/-! ### sections that tell nothing -/
theorem lessFine {p : api_Program} (hg : Good p) {l : List api_Section} (h3 : ∀ f, f < p.funcs.length → (sec l f).entry = 0#32 ∧ (sec l f).exit = 0#32 ∧ ∀ i, hld l f i = 0#32) (u : List W32) (fm : W32) : Fine p l u fm := fun f hf => ⟨fun h => h.2 (h3 f hf).1, by rw [(h3 f hf).2.2 0]; exact subb_zero _, fun i hi => by
  rw [nodeW_r (fun hk => by
    have hc : 0 ≤ (nde p f i).arg ∧ (nde p f i).arg < p.funcs.length := hg.calls f i hf hi hk
    rw [(h3 _ (by omega)).1]
    exact subb_zero _) (fun hk => by rw [(h3 f hf).2.1]; exact subb_zero _), if_pos]
  rw [List.all_eq_true]
  intro y _
  rw [(h3 f hf).2.2]
  exact subb_zero _⟩
theorem moreFine {p : api_Program} (hg : Good p) {l : List api_Section} (l3 : ∀ f, f < p.funcs.length → All p f (sec l f)) (bg : W32) : FineL p l bg := by
  have hh : ∀ f i, f < p.funcs.length → i < (List.getD p.funcs f []).length → liv l f i = 511#32 := fun f i hf hi => (l3 f hf).live i hi
  intro f hf
  have hlp := (hg.len f hf).1
  refine ⟨by rw [hh f 0 hf hlp, (l3 f hf).entry]; exact subb_refl _, fun i hi => ?_⟩
  have hok := hg.node f i hf hi
  have hjr := succ_ok hok (by omega)
  have hsl := hg.slots
  have hsp : (nde p f i).kind = 5 → 0 ≤ (nde p f i).arg ∧ (nde p f i).arg < p.funcs.length ∧ 0 ≤ (nde p f i).alt ∧ (nde p f i).alt < p.slots := hok.spawn
  have hc : (nde p f i).kind = 7 → 0 ≤ (nde p f i).arg ∧ (nde p f i).arg < p.funcs.length := hok.call
  rw [nodeL_r (fun hk => by
    have h1 := hc hk
    rw [hh f i hf hi, (l3 _ (by omega)).entry]; exact subb_refl _) (fun hk => by rw [hh f i hf hi, (l3 f hf).exit]; exact subb_refl _) (fun hk => by
    have h1 := hsp hk
    rw [(l3 _ (by omega)).entry]
    unfold hasb
    rw [if_pos (by omega)]
    exact bit511 _ (by omega)), if_pos]
  unfold onL
  rw [List.all_eq_true]
  intro y hy
  have hyr := hjr y hy
  rw [hh f i hf hi, hh f y.toNat hf (by omega)]
  unfold lbh
  split
  · rename_i hk
    have h1 := hsp hk
    refine subb_or1 (subb_or1 (subb_refl _) (one511 h1.2.2.1 (by omega))) ?_
    split
    · exact one511 hsl.1 hsl.2
    · exact subb_zero _
  · split
    · refine subb_iff.2 fun j hj => ?_
      rw [BitVec.getLsbD_and, Bool.and_eq_true] at hj
      exact hj.1
    · split
      · rename_i hk
        have h1 := hc hk
        unfold xit
        rw [if_pos hk, show (List.getD l (nde p f i).arg.toNat d_api_Section).liveExit = 511#32 from (l3 _ (by omega)).exit]
        exact subb_refl _
      · exact subb_refl _
end Go.Bm.GoYtipjbmnfnmlkfaaDoor
