/- Laws of what the claim reaches. -/
import Derived.Test.YtnjbjgmohmghoaaLtMa
namespace Go.Bm.GoYtnjbjgmohmghoaa
set_option autoImplicit false
set_option linter.unusedVariables false
set_option linter.unusedSimpArgs false
set_option maxRecDepth 100000
theorem findL_l8 (p : api_Program) (hg : Good p) (bs : List Int) (hb : Bases p bs) (v : List W32) (hv : v.length = base p.funcs p.funcs.length) : ∀ (m f : Nat) (t : List api_Section), f + m = p.funcs.length → t.length = f → (∀ g, g < f → FoundL p v g (sec t g)) → ∃ t', live_Find_l8 bs v t p.funcs (p.funcs.length : Int) (f : Int) = some t' ∧ t'.length = p.funcs.length ∧ ∀ g, g < p.funcs.length → FoundL p v g (sec t' g)
  | 0, f, t, h, hl, hget => by
    rw [live_Find_l8, if_neg (by simp only [decide_eq_true_eq]; omega)]
    exact ⟨t, rfl, by omega, fun g hg => hget g (by omega)⟩
  | m + 1, f, t, h, hl, hget => by
    have hn := hg.funcs
    have hle := hg.le f
    have hb0 := base_lt (p := p) (f := f) (by omega) (k := 0) (by omega)
    have hb1 := base_lt (p := p) (f := f) (by omega) (k := 1) (by omega)
    obtain ⟨hd, q1, q2, q3⟩ := findL_l12 p hg bs hb v hv t (List.replicate (List.getD p.funcs f []).length 0#32) 0#32 0#32 (List.getD v (base p.funcs f) 0#32) (List.getD v (base p.funcs f + 1) 0#32) f (by omega) p.funcs (p.funcs.length : Int) (f : Int) (List.getD p.funcs f []).length 0 [] (Nat.zero_add _) rfl (fun k hk => by omega)
    rw [show ((0 : Nat) : Int) = 0 from rfl] at q1
    rw [live_Find_l8, if_pos (decide_eq_true (by omega)), if_pos (decide_eq_true (by omega)), if_pos (decide_eq_true (by omega)), bind_some (entry_eq hb (by omega)), if_pos (decide_eq_true (by omega)), if_pos (decide_eq_true (by omega)), bind_some (exit_eq hg hb (by omega)), if_pos (decide_eq_true (by omega)), if_pos (decide_eq_true (by omega)), Int.toNat_natCast f, if_pos (decide_eq_true (by omega)), if_pos (decide_eq_true (by simp only [reach]; omega)), Int.toNat_natCast, Int.toNat_natCast, Int.toNat_natCast, bind_some q1, if_pos (Nat.ble_eq_true_of_le (by simp only [List.length_singleton, reach]; omega)), inc f (by omega)]
    refine findL_l8 p hg bs hb v hv m (f + 1) _ (by omega) (by rw [List.length_append, List.length_singleton]; omega) fun g hgf => ?_
    unfold sec
    rw [getD_snoc]
    split
    · rename_i e
      subst e
      rw [hl]
      exact ⟨getD_gi (by omega), getD_gi (by omega), q2, q3, rfl, rfl, rfl⟩
    · exact hget g (by omega)
theorem found_laysL {p : api_Program} {v : List W32} {t : List api_Section} (hv : v.length = base p.funcs p.funcs.length) (hl : t.length = p.funcs.length) (h : ∀ g, g < p.funcs.length → FoundL p v g (sec t g)) : LaysL p t v ∧ Shp p t :=
  ⟨⟨hv, fun f hf => (h f hf).ent.symm, fun f hf => (h f hf).exi.symm, fun f i hf hi => ((h f hf).nod i hi).symm⟩, hl, fun f hf => ⟨by rw [(h f hf).hd, List.length_replicate], (h f hf).hl⟩⟩
theorem findL_eq (p : api_Program) (hg : Good p) {bg : W32} (h : kill_Begins p = some (bg, 0)) : ∃ v t, live_Find p = some (0, t) ∧ Lfp (funcsRL p bg 0 p.funcs.length) (List.replicate (base p.funcs p.funcs.length) 0#32) v ∧ v.length = base p.funcs p.funcs.length ∧ t.length = p.funcs.length ∧ ∀ g, g < p.funcs.length → FoundL p v g (sec t g) := by
  have hn := hg.funcs
  have hbl := base_le hg p.funcs.length
  have hrl := funcsRL_len hg bg p.funcs.length 0
  obtain ⟨bs, b1, b2⟩ := lay_eq p hg
  obtain ⟨v, v1, v2⟩ := least_eq (base p.funcs p.funcs.length : Int) (funcsRL p bg 0 p.funcs.length) (by omega)
  rw [if_pos (by omega), Int.toNat_natCast] at v2
  have hv : v.length = base p.funcs p.funcs.length := by rw [v2.len, List.length_replicate]
  obtain ⟨t, t1, t2, t3⟩ := findL_l8 p hg bs b2 v hv p.funcs.length 0 [] (Nat.zero_add _) rfl (fun g h => by omega)
  rw [show ((0 : Nat) : Int) = 0 from rfl] at t1
  unfold live_Find
  rw [bind_some (rulesL_eq p hg h), if_neg (show ¬ ((0 : Int) != 0) = true by decide), bind_some b1, bind_some v1, bind_some t1]
  exact ⟨v, t, rfl, v2, hv, t2, t3⟩
theorem rulesL_bad (p : api_Program) {a b e : Int} (hk : prog_Check p = some (a, b, e)) (he : e ≠ 0) : live_Rules p = some (e, []) := by
  unfold live_Rules
  rw [bind_some (begins_bad p hk he), if_pos (neT he)]
theorem findL_bad (p : api_Program) {a b e : Int} (hk : prog_Check p = some (a, b, e)) (he : e ≠ 0) : live_Find p = some (e, []) := by
  unfold live_Find
  rw [bind_some (rulesL_bad p hk he), if_pos (neT he)]
/-- What is found is within what keeps the rules. -/
theorem least_of {p : api_Program} {bg : W32} {v w : List W32} (hv : Lfp (funcsRL p bg 0 p.funcs.length) (List.replicate (base p.funcs p.funcs.length) 0#32) v) (hw : DKeeps (funcsRL p bg 0 p.funcs.length) (base p.funcs p.funcs.length) w) (j : Int) : sub (gi v j) (gi w j) :=
  hv.best w (by rw [List.length_replicate]; exact hw) (fun j => by
    intro i hi
    have : gi (List.replicate (base p.funcs p.funcs.length) 0#32) j = 0#32 := by
      unfold gi
      split
      · simp only [List.getD, List.getElem?_replicate]
        split <;> rfl
      · rfl
    rw [this] at hi
    simp at hi) j
def exL : api_Program := ⟨0, 0, 1, [[⟨5, 1, 1, 0⟩, ⟨6, 0, 2, 0⟩, ⟨9, 0, 0, 0⟩], [⟨9, 0, 0, 0⟩]]⟩
def exT : List api_Section := [⟨0#32, 0#32, [0#32, 0#32, 0#32], 0#32, 0#32, [0#32, 1#32, 0#32]⟩, ⟨0#32, 0#32, [0#32], 2#32, 2#32, [2#32]⟩]
theorem exCheckL : prog_Check exL = some (0, 0, 0) := prog_Check_le 40 _ _ (by kernel_rfl)
theorem exGoodL : Good exL := by
  obtain ⟨r, r1, r2, _⟩ := check_eqP exL
  rw [exCheckL] at r1
  cases r1
  exact (r2 rfl).2
theorem exNot : ¬ Spawns exL.funcs 1 := by
  rintro ⟨g, h1, j, h2, h3⟩
  have hp : ∀ x, Path exL.funcs 1 x → x = 1 := fun x hx => path_closed (S := fun y => y = 1) (fun a ha b e => by
    subst ha
    obtain ⟨i, i1, i2, _⟩ := e
    exfalso
    have : i = 0 := by
      have : i < 1 := i1
      omega
    subst this
    exact absurd i2 (by decide)) hx rfl
  have := hp g h1
  subst this
  have : j = 0 := by
    have : j < 1 := h2
    omega
  subst this
  exact absurd h3 (by decide)
theorem exFineL {bg : W32} (hbg : hasb bg 1 = false) : FineL exL exT bg := by
  intro f hf
  have hf2 : f < 2 := hf
  match f, hf2 with
  | 0, _ =>
    refine ⟨by decide, fun i hi => ?_⟩
    have hi3 : i < 3 := hi
    rw [nodeL_iff]
    match i, hi3 with
    | 0, _ =>
      refine ⟨by decide, by decide, by decide, ?_⟩
      unfold onL
      rw [show hasb bg (nde exL 0 0).arg = false from hbg]
      decide
    | 1, _ =>
      refine ⟨by decide, by decide, by decide, ?_⟩
      unfold onL
      rw [lbh_bg (show (nde exL 0 1).kind ≠ 5 by decide) _ _ _ _ false]
      decide
    | 2, _ => exact ⟨by decide, by decide, by decide, rfl⟩
  | 1, _ =>
    refine ⟨by decide, fun i hi => ?_⟩
    have hi1 : i < 1 := hi
    rw [nodeL_iff]
    match i, hi1 with
    | 0, _ => exact ⟨by decide, by decide, by decide, rfl⟩
theorem sub_zero {a : W32} (h : sub a 0#32) : a = 0#32 := by
  apply BitVec.eq_of_getLsbD_eq
  intro i hi
  cases hb : a.getLsbD i with
  | false => simp
  | true => have := h i hb; simp at this
theorem awake23 : alibilaw23_awake = some true := by
  obtain ⟨bg, u1, u2⟩ := begins_eq exL exGoodL exCheckL
  have hbg : hasb bg 1 = false := by
    cases hb : hasb bg 1 with
    | false => rfl
    | true =>
      have h1 : bg.getLsbD 1 = true := hb
      exact absurd ((u2 1).1 h1).2 exNot
  obtain ⟨v, t, t1, t2, t3, t4, t5⟩ := findL_eq exL exGoodL u1
  obtain ⟨hL, hS⟩ := found_laysL t3 t4 t5
  have hk : DKeeps (funcsRL exL bg 0 exL.funcs.length) (base exL.funcs exL.funcs.length) v := by
    have := t2.keeps
    rw [List.length_replicate] at this
    exact this
  have hF := (keepsL_iff exGoodL hL).1 hk
  have hSx : Shp exL exT := by
    refine ⟨rfl, fun f hf => ?_⟩
    have hf2 : f < 2 := hf
    match f, hf2 with
    | 0, _ => exact ⟨rfl, rfl⟩
    | 1, _ => exact ⟨rfl, rfl⟩
  obtain ⟨w, w1⟩ := laysL_ex exL exT hSx
  have hb := least_of t2 ((keepsL_iff exGoodL w1).2 (exFineL hbg))
  have z0 : 0 < exL.funcs.length := by decide
  have z1 : 1 < exL.funcs.length := by decide
  have nb : ∀ f i, f < exL.funcs.length → i < (List.getD exL.funcs f []).length → sub (liv t f i) (liv exT f i) := fun f i hf hi => by
    have := hb ((base exL.funcs f + 2 + i : Nat) : Int)
    rw [w1.nod f i hf hi, hL.nod f i hf hi] at this
    exact this
  obtain ⟨a1, a2, a3, a4⟩ := nodeL_iff.1 ((hF 0 z0).2 0 (by decide))
  have h0 : liv t 0 0 = 0#32 := sub_zero (nb 0 0 z0 (by decide))
  have h2 : liv t 0 2 = 0#32 := sub_zero (nb 0 2 z0 (by decide))
  have h1 : liv t 0 1 = 1#32 := by
    refine sub.antisymm (nb 0 1 z0 (by decide)) ?_
    have c1 := List.all_eq_true.1 a4 1 (by decide)
    have c2 : subb (lbh (nde exL 0 0) (liv t 0 0) (xit t (nde exL 0 0)) exL.slots (hasb bg (nde exL 0 0).arg)) (liv t 0 1) = true := c1
    rw [h0, show hasb bg (nde exL 0 0).arg = false from hbg, show xit t (nde exL 0 0) = 0#32 from rfl] at c2
    exact subb_iff.1 (show subb 1#32 (liv t 0 1) = true from c2)
  have h3 : (sec t 1).liveEntry = 2#32 := by
    have c1 := a3 rfl
    have c2 := hb (base exL.funcs 1 : Int)
    rw [w1.ent 1 z1, hL.ent 1 z1] at c2
    refine sub.antisymm c2 ?_
    exact subb_iff.1 ((subb_one (id := 1) (by decide) (by decide) _).2 c1)
  have hll : (sec t 0).live.length = 3 := (t5 0 z0).hl
  have htl : t.length = 2 := t4
  have hl0 : ((List.getD t 0 d_api_Section).live.length : Int) = 3 := by rw [show (List.getD t 0 d_api_Section).live.length = 3 from hll]; rfl
  unfold alibilaw23_awake
  rw [bind_some (show live_Find (api_Program.mk 0 0 1 ([[api_Node.mk 5 1 1 0, api_Node.mk 6 0 2 0, api_Node.mk 9 0 0 0], [api_Node.mk 9 0 0 0]])) = some (0, t) from t1)]
  simp only []
  rw [if_pos (by decide), if_pos (eqT (by omega)), if_pos (decide_eq_true (by omega)), if_pos (eqT hl0), if_pos (decide_eq_true (by omega)), if_pos (show (List.getD (List.getD t 0 d_api_Section).live 0 0#32 == 0#32) = true by rw [show List.getD (List.getD t 0 d_api_Section).live 0 0#32 = 0#32 from h0]; decide), if_pos (decide_eq_true (by omega)), if_pos (show (List.getD (List.getD t 0 d_api_Section).live 1 0#32 == 1#32) = true by rw [show List.getD (List.getD t 0 d_api_Section).live 1 0#32 = 1#32 from h1]; decide), if_pos (decide_eq_true (by omega)), if_pos (show (List.getD (List.getD t 0 d_api_Section).live 2 0#32 == 0#32) = true by rw [show List.getD (List.getD t 0 d_api_Section).live 2 0#32 = 0#32 from h2]; decide), if_pos (decide_eq_true (by omega)), show (List.getD t 1 d_api_Section).liveEntry = 2#32 from h3]
  rfl
abbrev TS := List sem_Thread
abbrev thr (ts : TS) (t : Nat) : sem_Thread := List.getD ts t d_sem_Thread
abbrev topF (s : List sem_Frame) : sem_Frame := List.getD s (s.length - 1) d_sem_Frame
/-- The node at a place. -/
abbrev ndF (p : api_Program) (x : sem_Frame) : api_Node := List.getD (List.getD p.funcs x.func.toNat []) x.node.toNat d_api_Node
structure FrOk (p : api_Program) (x : sem_Frame) : Prop where
  f0 : 0 ≤ x.func ∧ x.func < p.funcs.length
  n0 : 0 ≤ x.node ∧ x.node < ((List.getD p.funcs x.func.toNat []).length : Int)
/-- Threads that may be, with stacks so high at most. -/
structure WF (p : api_Program) (B : Nat) (ts : TS) : Prop where
  len : ts.length ≤ 8
  hi : ∀ t, t < ts.length → (thr ts t).stack.length ≤ B
  fr : ∀ t, t < ts.length → ∀ x ∈ (thr ts t).stack, FrOk p x
theorem getD_el {α : Type} (l : List α) (i : Nat) (d : α) (h : i < l.length) : List.getD l i d = l[i] := by simp [List.getD, h]
theorem top_mem {s : List sem_Frame} (h : 0 < s.length) : topF s ∈ s := by
  unfold topF
  rw [getD_el _ _ _ (by omega)]
  exact List.getElem_mem _
def alive (ts : TS) (t : Int) : Bool := decide (0 ≤ t ∧ t < ts.length ∧ 0 < (thr ts t.toNat).stack.length)
theorem alive_iff {ts : TS} {t : Int} : alive ts t = true ↔ 0 ≤ t ∧ t < ts.length ∧ 0 < (thr ts t.toNat).stack.length := by
  unfold alive; exact decide_eq_true_iff
theorem lives_eq (ts : TS) (ow : Nat → Int) (t : Int) : sem_Config_Lives ⟨ts, ow⟩ t = some (alive ts t) := by
  unfold sem_Config_Lives
  by_cases h0 : 0 ≤ t
  · rw [if_pos (decide_eq_true h0)]
    by_cases h1 : t < (ts.length : Int)
    · rw [if_pos (decide_eq_true h1), if_pos (decide_eq_true h0), if_pos (decide_eq_true h1)]
      congr 1
      rw [Bool.eq_iff_iff, decide_eq_true_eq, alive_iff]
      show ((thr ts t.toNat).stack.length : Int) > 0 ↔ _
      omega
    · rw [if_neg (by simpa using h1)]
      congr 1
      symm
      rw [← Bool.not_eq_true, alive_iff]
      omega
  · rw [if_neg (by simpa using h0)]
    congr 1
    symm
    rw [← Bool.not_eq_true, alive_iff]
    omega
theorem dec_eq {n : Nat} (h : 0 < n) (h2 : n ≤ 1000000) : iSub (n : Int) 1 = ((n - 1 : Nat) : Int) := by rw [iSub_eq (by omega) (by omega)]; omega
/-- What a thread does next. -/
def atP (p : api_Program) (ts : TS) (t : Int) : api_Node × Bool := if alive ts t = true then (ndF p (topF (thr ts t.toNat).stack), true) else (⟨0, 0, 0, 0⟩, false)
theorem semat_eq {p : api_Program} {B : Nat} {ts : TS} (hw : WF p B ts) (hB : B ≤ 1000000) (ow : Nat → Int) (t : Int) : sem_Config_At ⟨ts, ow⟩ p t = some (atP p ts t) := by
  unfold sem_Config_At atP
  rw [bind_some (lives_eq ts ow t)]
  by_cases ha : alive ts t = true
  · obtain ⟨h0, h1, h2⟩ := alive_iff.1 ha
    rw [ha, if_neg (by decide), if_pos rfl]
    have hl : t.toNat < ts.length := by omega
    have hhi := hw.hi _ hl
    have hd := dec_eq h2 (by omega)
    have hok := hw.fr _ hl _ (top_mem h2)
    obtain ⟨q1, q2⟩ := hok.f0
    obtain ⟨q3, q4⟩ := hok.n0
    have hd' : iSub (((List.getD ts t.toNat d_sem_Thread).stack.length : Nat) : Int) 1 = (((List.getD ts t.toNat d_sem_Thread).stack.length - 1 : Nat) : Int) := hd
    have h2' : 0 < (List.getD ts t.toNat d_sem_Thread).stack.length := h2
    simp only [hd', Int.toNat_natCast]
    rw [if_pos (decide_eq_true h0), if_pos (decide_eq_true h1), if_pos (decide_eq_true (by omega)), if_pos (decide_eq_true (by omega)), if_neg (by simpa using q1), if_neg (by simpa using q2), if_neg (by simpa using q3), if_pos (decide_eq_true q1), if_pos (decide_eq_true q2), if_neg (by simpa using q4), if_pos (decide_eq_true q3), if_pos (decide_eq_true q4)]
  · rw [Bool.not_eq_true] at ha
    rw [ha, if_pos (by decide), if_neg (by decide)]
/-- May a thread do a step? -/
def enB (p : api_Program) (ts : TS) (ow : Nat → Int) (t : Int) : Bool :=
  alive ts t && (let n := ndF p (topF (thr ts t.toNat).stack)
    if n.kind = 3 then ow n.arg.toNat == 0 else if n.kind = 6 then ((thr ts t.toNat).slots n.arg.toNat == 0 || !alive ts (iSub ((thr ts t.toNat).slots n.arg.toNat) 1)) else if n.kind = 5 then decide (ts.length < 8) else true)
theorem nodeOk_at {p : api_Program} (hg : Good p) {x : sem_Frame} (h : FrOk p x) : NodeOk p (ndF p x) ((List.getD p.funcs x.func.toNat []).length : Int) := hg.node _ _ (by have := h.f0; omega) (by have := h.n0; omega)
theorem enabled_eq {p : api_Program} (hg : Good p) {B : Nat} {ts : TS} (hw : WF p B ts) (hB : B ≤ 1000000) (ow : Nat → Int) (t : Int) : sem_Config_Enabled ⟨ts, ow⟩ p t = some (enB p ts ow t) := by
  unfold sem_Config_Enabled
  rw [bind_some (semat_eq hw hB ow t)]
  by_cases ha : alive ts t = true
  · obtain ⟨h0, h1, h2⟩ := alive_iff.1 ha
    have hl : t.toNat < ts.length := by omega
    have hok := nodeOk_at hg (hw.fr _ hl _ (top_mem h2))
    have e : atP p ts t = (ndF p (topF (thr ts t.toNat).stack), true) := if_pos ha
    have e2 : enB p ts ow t = (let n := ndF p (topF (thr ts t.toNat).stack)
      if n.kind = 3 then ow n.arg.toNat == 0 else if n.kind = 6 then ((thr ts t.toNat).slots n.arg.toNat == 0 || !alive ts (iSub ((thr ts t.toNat).slots n.arg.toNat) 1)) else if n.kind = 5 then decide (ts.length < 8) else true) := by
      unfold enB; rw [ha, Bool.true_and]
    rw [e, e2]
    generalize ndF p (topF (thr ts t.toNat).stack) = n at hok ⊢
    simp only []
    have hlk := hg.locks
    have hsl := hg.slots
    rw [if_neg (by decide)]
    by_cases k3 : n.kind = 3
    · have := hok.lock (.inl k3)
      rw [if_pos (eqT k3), if_pos (decide_eq_true (by omega)), if_pos (decide_eq_true (by omega)), if_pos k3]
    · rw [if_neg (eqF k3), if_neg k3]
      by_cases k6 : n.kind = 6
      · have := hok.join k6
        rw [if_pos (eqT k6), if_pos (decide_eq_true h0), if_pos (decide_eq_true h1), if_pos (decide_eq_true (by omega)), if_pos (decide_eq_true (by omega)), if_pos k6]
        by_cases hz : (thr ts t.toNat).slots n.arg.toNat = 0
        · rw [if_pos (eqT hz), beq_iff_eq.2 hz, Bool.true_or]
        · rw [if_neg (eqF hz), bind_some (lives_eq ts ow _)]
          have : ((thr ts t.toNat).slots n.arg.toNat == 0) = false := by simpa using hz
          rw [this, Bool.false_or]
      · rw [if_neg (eqF k6), if_neg k6]
        by_cases k5 : n.kind = 5
        · rw [if_pos (eqT k5), if_pos k5]
          congr 1
          rw [Bool.eq_iff_iff, decide_eq_true_eq, decide_eq_true_eq]
          omega
        · rw [if_neg (eqF k5), if_neg k5]
  · have e : atP p ts t = (⟨0, 0, 0, 0⟩, false) := if_neg ha
    have e2 : enB p ts ow t = false := by unfold enB; rw [Bool.not_eq_true] at ha; rw [ha, Bool.false_and]
    rw [e, e2, if_pos (by decide)]
theorem cloneF (s : List sem_Frame) (h : s.length ≤ 1000000) : slices_Clone___sem_Frame_sem_Frame__q s = some s := by
  unfold slices_Clone___sem_Frame_sem_Frame__q slices_Clone___sem_Frame_sem_Frame_
  rw [if_pos (Nat.ble_eq_true_of_le (by simp only [List.length_nil, reach]; omega)), List.nil_append]
theorem cloneT (s : TS) (h : s.length ≤ 1000000) : slices_Clone___sem_Thread_sem_Thread__q s = some () := by
  unfold slices_Clone___sem_Thread_sem_Thread__q slices_Clone___sem_Thread_sem_Thread_
  rw [if_pos (Nat.ble_eq_true_of_le (by simp only [List.length_nil, reach]; omega))]
theorem copied_l3 (x0 : TS) (ts : TS) (hl : ts.length ≤ 8) (hh : ∀ t, t < ts.length → (thr ts t).stack.length ≤ 1000000) (x4 x5 x6 : Nat → Int) : ∀ (m i : Nat), i + m = ts.length → sem_Config_copied_l3 x0 ts i ts x4 x5 x6 (ts.length : Int) (i : Int) = some (ts, ts.length)
  | 0, i, h => by
    rw [sem_Config_copied_l3, if_neg (by simp only [decide_eq_true_eq]; omega), show i = ts.length by omega]
  | m + 1, i, h => by
    have hi : i < ts.length := by omega
    have e : List.set ts i (sem_Thread.mk (List.getD ts i d_sem_Thread).stack (List.getD ts i d_sem_Thread).slots) = ts := by
      rw [getD_el _ _ _ hi]
      exact List.set_getElem_self _
    rw [sem_Config_copied_l3, if_pos (decide_eq_true (by omega)), if_pos (decide_eq_true (by omega)), if_pos (decide_eq_true (by omega)), Int.toNat_natCast, bind_some (cloneF _ (hh i hi)), if_pos (decide_eq_true (by omega)), if_pos (decide_eq_true rfl), inc i (by omega), e]
    exact copied_l3 x0 ts hl hh x4 x5 x6 m (i + 1) (by omega)
theorem copied_eq {p : api_Program} {B : Nat} {ts : TS} (hw : WF p B ts) (hB : B ≤ 1000000) (ow : Nat → Int) : sem_Config_copied ⟨ts, ow⟩ = some (ow, ts) := by
  unfold sem_Config_copied
  have hl := hw.len
  have q := copied_l3 [] ts hl (fun t ht => by have := hw.hi t ht; omega) ow (fun _ => 0) ow ts.length 0 (Nat.zero_add _)
  rw [show ((0 : Nat) : Int) = 0 from rfl] at q
  rw [bind_some (cloneT ts (by omega)), bind_some q, if_pos (decide_eq_true (Nat.le_refl _))]
/-- The place at the top of a thread made another node. -/
abbrev goTo (ts : TS) (t : Nat) (n : Int) : TS := ts.set t ⟨(thr ts t).stack.set ((thr ts t).stack.length - 1) ⟨(topF (thr ts t).stack).func, n⟩, (thr ts t).slots⟩
/-- What a step makes of threads, and of who has the locks. -/
def stepP (p : api_Program) (ts : TS) (ow : Nat → Int) (t : Nat) (way : Bool) : (Nat → Int) × TS :=
  let n := ndF p (topF (thr ts t).stack)
  if n.kind = 9 then (ow, ts.set t ⟨(thr ts t).stack.take ((thr ts t).stack.length - 1), (thr ts t).slots⟩)
  else
    let ts' := goTo ts t (if n.kind = 8 ∧ way = true then n.alt else n.next)
    if n.kind = 3 then (upd ow n.arg.toNat ((t : Int) + 1), ts')
    else if n.kind = 4 then ((if ow n.arg.toNat = (t : Int) + 1 then upd ow n.arg.toNat 0 else ow), ts')
    else if n.kind = 5 then (ow, ts'.set t ⟨(thr ts' t).stack, upd (thr ts' t).slots n.alt.toNat ((ts.length : Int) + 1)⟩ ++ [⟨[⟨n.arg, 0⟩], fun _ => 0⟩])
    else if n.kind = 7 then (ow, ts'.set t ⟨(thr ts' t).stack ++ [⟨n.arg, 0⟩], (thr ts' t).slots⟩)
    else (ow, ts')
theorem thr_set (ts : TS) (t : Nat) (x : sem_Thread) (h : t < ts.length) (j : Nat) : thr (ts.set t x) j = if j = t then x else thr ts j := by
  unfold thr
  by_cases e : j = t
  · subst e; simp [List.getD, h]
  · have : t ≠ j := fun e' => e e'.symm
    rw [if_neg e]
    simp [List.getD, List.getElem?_set, this]
theorem thr_app_l (l : TS) (x : sem_Thread) (j : Nat) (h : j < l.length) : thr (l ++ [x]) j = thr l j := by
  unfold thr
  simp [List.getD, List.getElem?_append_left h]
theorem thr_app_r (l : TS) (x : sem_Thread) (j : Nat) (h : j = l.length) : thr (l ++ [x]) j = x := by
  unfold thr
  subst h
  simp [List.getD]
theorem goTo_len (ts : TS) (t : Nat) (n : Int) : (goTo ts t n).length = ts.length := by unfold goTo; simp
theorem goTo_thr (ts : TS) (t : Nat) (n : Int) (h : t < ts.length) : thr (goTo ts t n) t = ⟨(thr ts t).stack.set ((thr ts t).stack.length - 1) ⟨(topF (thr ts t).stack).func, n⟩, (thr ts t).slots⟩ := by
  unfold goTo; rw [thr_set _ _ _ h, if_pos rfl]
theorem goTo_top (ts : TS) (t : Nat) (n : Int) (h : t < ts.length) (h2 : 0 < (thr ts t).stack.length) : topF (thr (goTo ts t n) t).stack = ⟨(topF (thr ts t).stack).func, n⟩ := by
  rw [goTo_thr _ _ _ h]
  unfold topF
  simp only [List.length_set]
  rw [getD_el _ _ _ (by rw [List.length_set]; exact Nat.sub_lt h2 (by decide))]
  simp
theorem goTo_two (ts : TS) (t : Nat) (n m : Int) (h : t < ts.length) (h2 : 0 < (thr ts t).stack.length) : goTo (goTo ts t n) t m = goTo ts t m := by
  have e := goTo_thr ts t n h
  have e2 := goTo_top ts t n h h2
  show (goTo ts t n).set t ⟨(thr (goTo ts t n) t).stack.set ((thr (goTo ts t n) t).stack.length - 1) ⟨(topF (thr (goTo ts t n) t).stack).func, m⟩, (thr (goTo ts t n) t).slots⟩ = _
  rw [e2, e]
  unfold goTo
  simp
theorem top_eq {p : api_Program} {B : Nat} {ts : TS} (hw : WF p B ts) (hB : B ≤ 1000000) (ow : Nat → Int) (t : Nat) (ht : t < ts.length) (h2 : 0 < (thr ts t).stack.length) (a b c d : Int) : sem_doing_top ts ow (t : Int) a b c d = some (t, (thr ts t).stack.length - 1) := by
  have hd := dec_eq h2 (by have := hw.hi t ht; omega)
  have hd' : iSub (((List.getD ts t d_sem_Thread).stack.length : Nat) : Int) 1 = (((List.getD ts t d_sem_Thread).stack.length - 1 : Nat) : Int) := hd
  have h2' : 0 < (List.getD ts t d_sem_Thread).stack.length := h2
  unfold sem_doing_top sem_doing_thread
  rw [if_pos (decide_eq_true (by omega)), if_pos (decide_eq_true (by omega)), Int.toNat_natCast, bind_some rfl, hd', if_pos (decide_eq_true (by omega)), if_pos (decide_eq_true (by omega)), Int.toNat_natCast]
theorem thread_eq (ts : TS) (ow : Nat → Int) (t : Nat) (ht : t < ts.length) (a b c d : Int) (hl : ts.length ≤ 1000000) : sem_doing_thread ts ow (t : Int) a b c d = some t := by
  unfold sem_doing_thread
  rw [if_pos (decide_eq_true (by omega)), if_pos (decide_eq_true (by omega)), Int.toNat_natCast]
theorem wf_goTo {p : api_Program} {B : Nat} {ts : TS} (hw : WF p B ts) {t : Nat} (ht : t < ts.length) {n : Int} (h2 : 0 < (thr ts t).stack.length) (hn : 0 ≤ n ∧ n < ((List.getD p.funcs (topF (thr ts t).stack).func.toNat []).length : Int)) : WF p B (goTo ts t n) := by
  refine ⟨by rw [goTo_len]; exact hw.len, fun j hj => ?_, fun j hj x hx => ?_⟩
  · rw [goTo_len] at hj
    unfold goTo
    rw [thr_set _ _ _ ht]
    split
    · simp only [List.length_set]
      exact hw.hi t ht
    · exact hw.hi j hj
  · rw [goTo_len] at hj
    unfold goTo at hx
    rw [thr_set _ _ _ ht] at hx
    split at hx
    · rcases List.mem_or_eq_of_mem_set hx with h | h
      · exact hw.fr t ht x h
      · rw [h]
        exact ⟨(hw.fr t ht _ (top_mem h2)).f0, hn⟩
    · exact hw.fr j hj x hx
theorem wf_mono {p : api_Program} {B C : Nat} {ts : TS} (hw : WF p B ts) (h : B ≤ C) : WF p C ts := ⟨hw.len, fun t ht => Nat.le_trans (hw.hi t ht) h, hw.fr⟩
/-- What enables a step. -/
structure Goes (p : api_Program) (ts : TS) (ow : Nat → Int) (t : Nat) : Prop where
  lt : t < ts.length
  up : 0 < (thr ts t).stack.length
  lock : (ndF p (topF (thr ts t).stack)).kind = 3 → ow (ndF p (topF (thr ts t).stack)).arg.toNat = 0
  join : (ndF p (topF (thr ts t).stack)).kind = 6 → (thr ts t).slots (ndF p (topF (thr ts t).stack)).arg.toNat = 0 ∨ alive ts (iSub ((thr ts t).slots (ndF p (topF (thr ts t).stack)).arg.toNat) 1) = false
  spawn : (ndF p (topF (thr ts t).stack)).kind = 5 → ts.length < 8
theorem goes_of {p : api_Program} {ts : TS} {ow : Nat → Int} {w : Int} (h : enB p ts ow w = true) : ∃ t : Nat, w = (t : Int) ∧ Goes p ts ow t := by
  unfold enB at h
  rw [Bool.and_eq_true] at h
  obtain ⟨h1, h2⟩ := h
  obtain ⟨a0, a1, a2⟩ := alive_iff.1 h1
  obtain ⟨t, rfl⟩ : ∃ t : Nat, w = (t : Int) := ⟨w.toNat, by omega⟩
  rw [Int.toNat_natCast] at a2 h2
  simp only [] at h2
  refine ⟨t, rfl, by omega, a2, fun k => ?_, fun k => ?_, fun k => ?_⟩
  · rw [if_pos k] at h2; exact beq_iff_eq.1 h2
  · rw [if_neg (by omega), if_pos k, Bool.or_eq_true, Bool.not_eq_true'] at h2
    exact h2.imp beq_iff_eq.1 id
  · rw [if_neg (by omega), if_neg (by omega), if_pos k] at h2
    exact of_decide_eq_true h2
theorem next_ok {p : api_Program} (hg : Good p) {x : sem_Frame} (h : FrOk p x) (w : Bool) (h9 : (ndF p x).kind ≠ 9) : 0 ≤ (if (ndF p x).kind = 8 ∧ w = true then (ndF p x).alt else (ndF p x).next) ∧ (if (ndF p x).kind = 8 ∧ w = true then (ndF p x).alt else (ndF p x).next) < ((List.getD p.funcs x.func.toNat []).length : Int) := by
  have hok := nodeOk_at hg h
  have h0 := h.n0
  split
  · rename_i h8
    have := hok.alt h8.1
    omega
  · have := hok.next h9
    omega
theorem wf_step {p : api_Program} (hg : Good p) {B : Nat} {ts : TS} (hw : WF p B ts) {ow : Nat → Int} {t : Nat} (h : Goes p ts ow t) (way : Bool) : WF p (B + 1) (stepP p ts ow t way).2 := by
  have ht := h.lt
  have hfr := hw.fr t ht _ (top_mem h.up)
  have hok := nodeOk_at hg hfr
  unfold stepP
  simp only []
  by_cases k9 : (ndF p (topF (thr ts t).stack)).kind = 9
  · rw [if_pos k9]
    refine ⟨by simp [hw.len], fun j hj => ?_, fun j hj x hx => ?_⟩
    · simp only [List.length_set] at hj
      simp only [thr_set _ _ _ ht]
      split
      · have := hw.hi t ht
        simp only [List.length_take]
        omega
      · have := hw.hi j hj; omega
    · simp only [List.length_set] at hj
      simp only [thr_set _ _ _ ht] at hx
      split at hx
      · exact hw.fr t ht x (List.mem_of_mem_take hx)
      · exact hw.fr j hj x hx
  · rw [if_neg k9]
    have hnx := next_ok hg hfr way k9
    generalize hN : (if (ndF p (topF (thr ts t).stack)).kind = 8 ∧ way = true then (ndF p (topF (thr ts t).stack)).alt else (ndF p (topF (thr ts t).stack)).next) = nx at hnx
    have hw1 := wf_goTo hw ht h.up hnx
    have hl1 := goTo_len ts t nx
    have new : ∀ a : Int, 0 ≤ a ∧ a < p.funcs.length → FrOk p ⟨a, 0⟩ := fun a ha => by
      obtain ⟨f, rfl⟩ : ∃ f : Nat, a = (f : Int) := ⟨a.toNat, by omega⟩
      refine ⟨ha, Int.le_refl _, ?_⟩
      have := (hg.len f (by omega)).1
      simp only [Int.toNat_natCast]
      omega
    by_cases k3 : (ndF p (topF (thr ts t).stack)).kind = 3
    · rw [if_pos k3]; exact wf_mono hw1 (by omega)
    rw [if_neg k3]
    by_cases k4 : (ndF p (topF (thr ts t).stack)).kind = 4
    · rw [if_pos k4]; exact wf_mono hw1 (by omega)
    rw [if_neg k4]
    by_cases k5 : (ndF p (topF (thr ts t).stack)).kind = 5
    · rw [if_pos k5]
      have h8 := h.spawn k5
      have ha := hok.spawn k5
      have htl : t < (goTo ts t nx).length := by omega
      refine ⟨by simp [hl1]; omega, fun j hj => ?_, fun j hj x hx => ?_⟩
      · simp only [List.length_append, List.length_set, List.length_singleton, hl1] at hj
        rcases Nat.lt_or_ge j ts.length with hj' | hj'
        · have e : thr ((goTo ts t nx).set t ⟨(thr (goTo ts t nx) t).stack, upd (thr (goTo ts t nx) t).slots (ndF p (topF (thr ts t).stack)).alt.toNat ((ts.length : Int) + 1)⟩ ++ [⟨[⟨(ndF p (topF (thr ts t).stack)).arg, 0⟩], fun _ => 0⟩]) j = thr ((goTo ts t nx).set t ⟨(thr (goTo ts t nx) t).stack, upd (thr (goTo ts t nx) t).slots (ndF p (topF (thr ts t).stack)).alt.toNat ((ts.length : Int) + 1)⟩) j := by
            exact thr_app_l _ _ _ (by simp only [List.length_set]; omega)
          rw [e, thr_set _ _ _ htl]
          split
          · have := hw1.hi t htl; simp only []; omega
          · have := hw1.hi j (by omega); omega
        · have e : thr ((goTo ts t nx).set t ⟨(thr (goTo ts t nx) t).stack, upd (thr (goTo ts t nx) t).slots (ndF p (topF (thr ts t).stack)).alt.toNat ((ts.length : Int) + 1)⟩ ++ [⟨[⟨(ndF p (topF (thr ts t).stack)).arg, 0⟩], fun _ => 0⟩]) j = ⟨[⟨(ndF p (topF (thr ts t).stack)).arg, 0⟩], fun _ => 0⟩ := by
            exact thr_app_r _ _ _ (by simp only [List.length_set]; omega)
          rw [e]
          simp
      · simp only [List.length_append, List.length_set, List.length_singleton, hl1] at hj
        rcases Nat.lt_or_ge j ts.length with hj' | hj'
        · have e : thr ((goTo ts t nx).set t ⟨(thr (goTo ts t nx) t).stack, upd (thr (goTo ts t nx) t).slots (ndF p (topF (thr ts t).stack)).alt.toNat ((ts.length : Int) + 1)⟩ ++ [⟨[⟨(ndF p (topF (thr ts t).stack)).arg, 0⟩], fun _ => 0⟩]) j = thr ((goTo ts t nx).set t ⟨(thr (goTo ts t nx) t).stack, upd (thr (goTo ts t nx) t).slots (ndF p (topF (thr ts t).stack)).alt.toNat ((ts.length : Int) + 1)⟩) j := by
            exact thr_app_l _ _ _ (by simp only [List.length_set]; omega)
          rw [e, thr_set _ _ _ htl] at hx
          split at hx
          · exact hw1.fr t htl x hx
          · exact hw1.fr j (by omega) x hx
        · have e : thr ((goTo ts t nx).set t ⟨(thr (goTo ts t nx) t).stack, upd (thr (goTo ts t nx) t).slots (ndF p (topF (thr ts t).stack)).alt.toNat ((ts.length : Int) + 1)⟩ ++ [⟨[⟨(ndF p (topF (thr ts t).stack)).arg, 0⟩], fun _ => 0⟩]) j = ⟨[⟨(ndF p (topF (thr ts t).stack)).arg, 0⟩], fun _ => 0⟩ := by
            exact thr_app_r _ _ _ (by simp only [List.length_set]; omega)
          rw [e] at hx
          rw [List.mem_singleton.1 hx]
          exact new _ ⟨ha.1, ha.2.1⟩
    rw [if_neg k5]
    by_cases k7 : (ndF p (topF (thr ts t).stack)).kind = 7
    · rw [if_pos k7]
      have ha := hok.call k7
      have htl : t < (goTo ts t nx).length := by omega
      refine ⟨by simp [hl1, hw.len], fun j hj => ?_, fun j hj x hx => ?_⟩
      · simp only [List.length_set, hl1] at hj
        simp only [thr_set _ _ _ htl]
        split
        · have := hw1.hi t htl; simp only [List.length_append, List.length_singleton]; omega
        · have := hw1.hi j (by omega); omega
      · simp only [List.length_set, hl1] at hj
        simp only [thr_set _ _ _ htl] at hx
        split at hx
        · rcases List.mem_append.1 hx with hx | hx
          · exact hw1.fr t htl x hx
          · rw [List.mem_singleton.1 hx]; exact new _ ha
        · exact hw1.fr j (by omega) x hx
    · rw [if_neg k7]; exact wf_mono hw1 (by omega)
theorem iadd1 (t : Nat) (h : t ≤ 1000000) : iAdd (t : Int) 1 = (t : Int) + 1 := iAdd_eq (by omega) (by omega)
theorem back_eq {p : api_Program} {B : Nat} {ts : TS} (hw : WF p B ts) (hB : B ≤ 1000000) (ow : Nat → Int) (t : Nat) (ht : t < ts.length) (h2 : 0 < (thr ts t).stack.length) (a b c d : Int) : sem_doing_back ts ow (t : Int) a b c d = some (ts.set t ⟨(thr ts t).stack.take ((thr ts t).stack.length - 1), (thr ts t).slots⟩) := by
  have hl := hw.len
  have hd := dec_eq h2 (by have := hw.hi t ht; omega)
  have hd' : iSub (((List.getD ts t d_sem_Thread).stack.length : Nat) : Int) 1 = (((List.getD ts t d_sem_Thread).stack.length - 1 : Nat) : Int) := hd
  have h2' : 0 < (List.getD ts t d_sem_Thread).stack.length := h2
  unfold sem_doing_back
  rw [bind_some (thread_eq ts ow t ht a b c d (by omega)), hd', if_pos (decide_eq_true (by omega)), if_pos (decide_eq_true (by omega)), if_pos (decide_eq_true ht), Int.toNat_natCast]
theorem lock_eq (ts : TS) (ow : Nat → Int) (t : Nat) (ht : t ≤ 8) (a b c d : Int) (h0 : 0 ≤ b) (h1 : b < 16) : sem_doing_lock ts ow (t : Int) a b c d = some (upd ow b.toNat ((t : Int) + 1)) := by
  unfold sem_doing_lock
  rw [if_pos (decide_eq_true h0), if_pos (decide_eq_true (by omega)), iadd1 t (by omega)]
theorem unlock_eq (ts : TS) (ow : Nat → Int) (t : Nat) (ht : t ≤ 8) (a b c d : Int) (h0 : 0 ≤ b) (h1 : b < 16) : sem_doing_unlock ts ow (t : Int) a b c d = some (if ow b.toNat = (t : Int) + 1 then upd ow b.toNat 0 else ow) := by
  unfold sem_doing_unlock
  rw [if_pos (decide_eq_true h0), if_pos (decide_eq_true (by omega)), iadd1 t (by omega)]
  by_cases h : ow b.toNat = (t : Int) + 1
  · rw [if_pos (eqT h), if_pos h]
  · rw [if_neg (eqF h), if_neg h]
theorem spawn_eq (ts : TS) (ow : Nat → Int) (t : Nat) (ht : t < ts.length) (hl : ts.length ≤ 8) (a b c d : Int) (h0 : 0 ≤ d) (h1 : d < 8) : sem_doing_spawn ts ow (t : Int) a b c d = some (ts.set t ⟨(thr ts t).stack, upd (thr ts t).slots d.toNat ((ts.length : Int) + 1)⟩ ++ [⟨[⟨b, 0⟩], fun _ => 0⟩]) := by
  unfold sem_doing_spawn
  rw [bind_some (thread_eq ts ow t ht a b c d (by omega)), if_pos (decide_eq_true h0), if_pos (decide_eq_true (by omega)), if_pos (decide_eq_true ht), bind_some (show sem_begin b = some (fun _ => 0, [sem_Frame.mk b 0]) from rfl), if_pos (Nat.ble_eq_true_of_le (by simp only [List.length_singleton, reach]; omega)), iadd1 _ (by omega)]
theorem call_eq {p : api_Program} {B : Nat} {ts : TS} (hw : WF p B ts) (hB : B ≤ 1000000) (ow : Nat → Int) (t : Nat) (ht : t < ts.length) (a b c d : Int) : sem_doing_call ts ow (t : Int) a b c d = some (ts.set t ⟨(thr ts t).stack ++ [⟨b, 0⟩], (thr ts t).slots⟩) := by
  have hl := hw.len
  have hh : (List.getD ts t d_sem_Thread).stack.length ≤ B := hw.hi t ht
  unfold sem_doing_call
  rw [bind_some (thread_eq ts ow t ht a b c d (by omega)), if_pos (Nat.ble_eq_true_of_le (by simp only [List.length_singleton, reach]; omega)), if_pos (decide_eq_true ht)]
theorem fin10 {k : Int} (h : 0 ≤ k ∧ k ≤ 9) (h9 : k ≠ 9) : k = 0 ∨ k = 1 ∨ k = 2 ∨ k = 3 ∨ k = 4 ∨ k = 5 ∨ k = 6 ∨ k = 7 ∨ k = 8 := by omega
theorem step_eq {p : api_Program} (hg : Good p) {B : Nat} {ts : TS} (hw : WF p B ts) (hB : B ≤ 1000000) (ow : Nat → Int) (x : api_Pick) : sem_Config_Step ⟨ts, ow⟩ p x = some (if enB p ts ow x.who = true then stepP p ts ow x.who.toNat x.way else (ow, ts)) := by
  have hl := hw.len
  unfold sem_Config_Step
  rw [bind_some (enabled_eq hg hw hB ow x.who)]
  by_cases he : enB p ts ow x.who = true
  · obtain ⟨t, hwho, hG⟩ := goes_of he
    rw [if_pos he, he, if_neg (by decide), bind_some (copied_eq hw hB ow), bind_some (semat_eq hw hB ow x.who), hwho, Int.toNat_natCast]
    have ht := hG.lt
    have ha : alive ts (t : Int) = true := alive_iff.2 ⟨by omega, by omega, by rw [Int.toNat_natCast]; exact hG.up⟩
    have e : atP p ts (t : Int) = (ndF p (topF (thr ts t).stack), true) := by
      unfold atP; rw [if_pos ha, Int.toNat_natCast]
    rw [e]
    have hfr := hw.fr t ht _ (top_mem hG.up)
    have hok := nodeOk_at hg hfr
    have hnx := fun w h9 => next_ok hg hfr w h9
    unfold stepP
    generalize ndF p (topF (thr ts t).stack) = n at hok hnx ⊢
    obtain ⟨k, arg, next, alt⟩ := n
    have hlk := hg.locks
    have hsl := hg.slots
    simp only []
    have hkind : 0 ≤ k ∧ k ≤ 9 := hok.kind
    by_cases k9 : k = 9
    · rw [if_pos (eqT k9), if_pos k9, bind_some (back_eq hw hB ow t ht hG.up _ _ _ _)]
    · have hlock : k = 3 ∨ k = 4 → 0 ≤ arg ∧ arg < p.locks := hok.lock
      have hspawn : k = 5 → 0 ≤ arg ∧ arg < p.funcs.length ∧ 0 ≤ alt ∧ alt < p.slots := hok.spawn
      have hlt1 : (thr ts t).stack.length - 1 < (List.getD ts t d_sem_Thread).stack.length := Nat.sub_lt hG.up (by decide)
      rw [if_neg (eqF k9), if_neg k9, bind_some (top_eq hw hB ow t ht hG.up _ _ _ _)]
      simp only []
      rw [if_pos (decide_eq_true ht), if_pos (decide_eq_true hlt1)]
      have fin : ∀ (T : TS) (nx : Int), T = goTo ts t nx → WF p B T → (if (decide ((0 : Int) ≤ k)) = true then if (decide ((k : Int) < ((10 : Nat) : Int))) = true then if (decide (k = ((0 : Nat) : Int))) = true then some (ow, T) else if (decide (k = ((1 : Nat) : Int))) = true then some (ow, T) else if (decide (k = ((2 : Nat) : Int))) = true then some (ow, T) else if (decide (k = ((3 : Nat) : Int))) = true then bind (sem_doing_lock T ow (t : Int) k arg next alt) fun v51 => some (v51, T) else if (decide (k = ((4 : Nat) : Int))) = true then bind (sem_doing_unlock T ow (t : Int) k arg next alt) fun v54 => some (v54, T) else if (decide (k = ((5 : Nat) : Int))) = true then bind (sem_doing_spawn T ow (t : Int) k arg next alt) fun v57 => some (ow, v57) else if (decide (k = ((6 : Nat) : Int))) = true then some (ow, T) else if (decide (k = ((7 : Nat) : Int))) = true then bind (sem_doing_call T ow (t : Int) k arg next alt) fun v61 => some (ow, v61) else if (decide (k = ((8 : Nat) : Int))) = true then some (ow, T) else if (decide (k = ((9 : Nat) : Int))) = true then bind (sem_doing_nothing T ow (t : Int) k arg next alt) fun v65 => some (ow, T) else none else none else none) =
          some (if k = 3 then (upd ow arg.toNat ((t : Int) + 1), goTo ts t nx) else if k = 4 then ((if ow arg.toNat = (t : Int) + 1 then upd ow arg.toNat 0 else ow), goTo ts t nx) else if k = 5 then (ow, (goTo ts t nx).set t ⟨(thr (goTo ts t nx) t).stack, upd (thr (goTo ts t nx) t).slots alt.toNat ((ts.length : Int) + 1)⟩ ++ [⟨[⟨arg, 0⟩], fun _ => 0⟩]) else if k = 7 then (ow, (goTo ts t nx).set t ⟨(thr (goTo ts t nx) t).stack ++ [⟨arg, 0⟩], (thr (goTo ts t nx) t).slots⟩) else (ow, goTo ts t nx)) := by
        intro T nx hT hWT
        have hTl : T.length = ts.length := by rw [hT]; exact goTo_len _ _ _
        rw [← hT]
        rw [if_pos (decide_eq_true hkind.1), if_pos (decide_eq_true (by omega))]
        rcases fin10 hkind k9 with h | h | h | h | h | h | h | h | h <;> subst h
        · rfl
        · rfl
        · rfl
        · have := hlock (.inl rfl)
          rw [if_neg (by decide), if_neg (by decide), if_neg (by decide), if_pos (by decide), bind_some (lock_eq T ow t (by omega) _ _ _ _ this.1 (by omega))]
          rfl
        · have := hlock (.inr rfl)
          rw [if_neg (by decide), if_neg (by decide), if_neg (by decide), if_neg (by decide), if_pos (by decide), bind_some (unlock_eq T ow t (by omega) _ _ _ _ this.1 (by omega))]
          rfl
        · have := hspawn rfl
          rw [if_neg (by decide), if_neg (by decide), if_neg (by decide), if_neg (by decide), if_neg (by decide), if_pos (by decide), bind_some (spawn_eq T ow t (by omega) (by omega) _ _ _ _ this.2.2.1 (by omega)), hTl]
          rfl
        · rfl
        · rw [if_neg (by decide), if_neg (by decide), if_neg (by decide), if_neg (by decide), if_neg (by decide), if_neg (by decide), if_neg (by decide), if_pos (by decide), bind_some (call_eq hWT hB ow t (by omega) _ _ _ _)]
          rfl
        · rfl
      by_cases k8 : k = 8
      · rw [if_pos (eqT k8)]
        have hn0 := hnx false k9
        rw [if_neg (fun h => by cases h.2)] at hn0
        have hw1 := wf_goTo hw ht hG.up hn0
        cases hway : x.way with
        | true =>
          have hn1 := hnx true k9
          rw [if_pos ⟨k8, rfl⟩] at hn1
          have hl1 := goTo_len ts t next
          have ht1 : t < (goTo ts t next).length := by omega
          have hup1 : 0 < (thr (goTo ts t next) t).stack.length := by rw [goTo_thr _ _ _ ht]; simp only [List.length_set]; exact hG.up
          have hlt2 : (thr (goTo ts t next) t).stack.length - 1 < (List.getD (goTo ts t next) t d_sem_Thread).stack.length := Nat.sub_lt hup1 (by decide)
          have q := top_eq hw1 hB ow t ht1 hup1 k arg next alt
          have f1 := fin (goTo (goTo ts t next) t alt) alt (goTo_two ts t next alt ht hG.up) (by rw [goTo_two ts t next alt ht hG.up]; exact wf_goTo hw ht hG.up hn1)
          rw [if_pos rfl, if_pos (show k = 8 ∧ true = true from ⟨k8, rfl⟩), bind_some (show sem_doing_top (List.set ts t _) ow (t : Int) k arg next alt = _ from q)]
          simp only []
          rw [if_pos (decide_eq_true (show t < (goTo ts t next).length from ht1)), if_pos (decide_eq_true hlt2)]
          exact f1
        | false =>
          rw [if_neg (show ¬ (false = true) by decide), if_neg (show ¬ (k = 8 ∧ false = true) from fun h => by cases h.2)]
          exact fin (goTo ts t next) next rfl hw1
      · rw [if_neg (eqF k8), if_neg (show ¬ (k = 8 ∧ x.way = true) from fun h => k8 h.1)]
        have hn0 := hnx x.way k9
        rw [if_neg (fun h => k8 h.1)] at hn0
        exact fin (goTo ts t next) next rfl (wf_goTo hw ht hG.up hn0)
  · rw [if_neg he]
    rw [Bool.not_eq_true] at he
    rw [he, if_pos (by decide), bind_some (copied_eq hw hB ow)]
theorem start_good {p : api_Program} (hk : prog_Check p = some (0, 0, 0)) : sem_Start p = some (fun _ => 0, 0, [⟨[⟨0, 0⟩], fun _ => 0⟩]) := by
  unfold sem_Start
  rw [bind_some hk, if_neg (by decide), bind_some (show sem_begin 0 = some (fun _ => 0, [sem_Frame.mk 0 0]) from rfl)]
theorem start_bad {p : api_Program} {a b e : Int} (hk : prog_Check p = some (a, b, e)) (he : e ≠ 0) : sem_Start p = some (fun _ => 0, e, []) := by
  unfold sem_Start
  rw [bind_some hk, if_pos (show (e != 0) = true by simpa using he)]
theorem wf_start {p : api_Program} (hg : Good p) : WF p 1 [⟨[⟨0, 0⟩], fun _ => 0⟩] := by
  have hn := hg.funcs
  have h0 := (hg.len 0 (by omega)).1
  refine ⟨by simp, fun t ht => ?_, fun t ht x hx => ?_⟩
  · have : t = 0 := by simp at ht; omega
    subst this
    simp [thr, List.getD]
  · have : t = 0 := by simp at ht; omega
    subst this
    rw [List.mem_singleton.1 hx]
    refine ⟨⟨Int.le_refl _, by simp only []; omega⟩, Int.le_refl _, ?_⟩
    show (0 : Int) < ((List.getD p.funcs (0 : Int).toNat []).length : Int)
    rw [show (0 : Int).toNat = 0 from rfl]
    omega
abbrev fr (s : List sem_Frame) (i : Nat) : sem_Frame := List.getD s i d_sem_Frame
abbrev fn (s : List sem_Frame) (i : Nat) : Nat := (fr s i).func.toNat
theorem fr_set (s : List sem_Frame) (i : Nat) (x : sem_Frame) (h : i < s.length) (j : Nat) : fr (s.set i x) j = if j = i then x else fr s j := by
  unfold fr
  by_cases e : j = i
  · subst e; simp [List.getD, h]
  · have : i ≠ j := fun e' => e e'.symm
    rw [if_neg e]
    simp [List.getD, List.getElem?_set, this]
theorem fn_goTo (s : List sem_Frame) (n : Int) (h : 0 < s.length) (j : Nat) : fn (s.set (s.length - 1) ⟨(topF s).func, n⟩) j = fn s j := by
  unfold fn
  rw [fr_set _ _ _ (by omega)]
  split
  · rename_i e; subst e; rfl
  · rfl
theorem fr_app_l (s : List sem_Frame) (x : sem_Frame) (i : Nat) (h : i < s.length) : fr (s ++ [x]) i = fr s i := by
  unfold fr
  simp [List.getD, List.getElem?_append_left h]
theorem fr_app_r (s : List sem_Frame) (x : sem_Frame) (i : Nat) (h : i = s.length) : fr (s ++ [x]) i = x := by
  unfold fr
  subst h
  simp [List.getD]
abbrev lvo (l : List api_Section) (x : sem_Frame) : W32 := liv l x.func.toNat x.node.toNat
/-- What may live where a called function ends is told to where its caller goes on. -/
def LC (l : List api_Section) (s : List sem_Frame) : Prop := ∀ i, i + 1 < s.length → ∀ b, (sec l (fn s (i + 1))).liveExit.getLsbD b = true → (lvo l (fr s i)).getLsbD b = true
theorem lc_goTo {l : List api_Section} {s : List sem_Frame} (h : LC l s) (n : Int) : LC l (s.set (s.length - 1) ⟨(topF s).func, n⟩) := by
  intro i hi
  rw [List.length_set] at hi
  rw [fn_goTo s n (by omega), fr_set _ _ _ (by omega), if_neg (by omega)]
  exact h i hi
theorem lc_call {l : List api_Section} {s : List sem_Frame} (h : LC l s) (h0 : 0 < s.length) (x : sem_Frame) (ht : ∀ b, (sec l x.func.toNat).liveExit.getLsbD b = true → (lvo l (topF s)).getLsbD b = true) : LC l (s ++ [x]) := by
  intro i hi
  rw [List.length_append, List.length_singleton] at hi
  unfold fn
  rcases Nat.lt_or_ge (i + 1) s.length with hl | hl
  · rw [fr_app_l _ _ (i + 1) hl, fr_app_l _ _ i (by omega)]
    exact h i hl
  · rw [fr_app_r _ _ (i + 1) (by omega), fr_app_l _ _ i (by omega), show i = s.length - 1 by omega]
    exact ht
theorem fr_take (s : List sem_Frame) (i : Nat) (hi : i < s.length - 1) : fr (s.take (s.length - 1)) i = fr s i := by
  unfold fr
  unfold List.getD
  rw [List.getElem?_take, if_pos hi]
theorem lc_take {l : List api_Section} {s : List sem_Frame} (h : LC l s) : LC l (s.take (s.length - 1)) := by
  intro i hi
  rw [List.length_take] at hi
  have q := h i (by omega)
  unfold fn at q ⊢
  rw [fr_take _ i (by omega), fr_take _ (i + 1) (by omega)]
  exact q
/-- Of the first thread: either all may live out of its sight, or each that lives is in a slot of its own that is told to live, and begins nobody. -/
def Pz (p : api_Program) (bg : W32) (ts : TS) (M : W32) : Prop := M.getLsbD p.slots.toNat = true ∨ ((∀ w, 0 < w → w < ts.length → 0 < (thr ts w).stack.length → (∃ k, k < p.slots.toNat ∧ (thr ts 0).slots k = (w : Int) + 1 ∧ M.getLsbD k = true) ∧ ∀ x ∈ (thr ts w).stack, ¬ bg.getLsbD x.func.toNat = true) ∧ ∀ k, k < 8 → 0 < (thr ts 0).slots k → alive ts ((thr ts 0).slots k - 1) = true → M.getLsbD k = true)
structure LI (p : api_Program) (l : List api_Section) (bg : W32) (ts : TS) : Prop where
  lc : ∀ t, t < ts.length → LC l (thr ts t).stack
  lost : ∀ t, 0 < t → t < ts.length → 0 < (thr ts t).stack.length → (lvo l (topF (thr ts t).stack)).getLsbD p.slots.toNat = true
  pz : 0 < (thr ts 0).stack.length → Pz p bg ts (lvo l (topF (thr ts 0).stack))
  sl : ∀ k, (thr ts 0).slots k ≤ (ts.length : Int)
theorem alive_set {ts : TS} {t : Nat} (ht : t < ts.length) (hup : 0 < (thr ts t).stack.length) (x : sem_Thread) {w : Int} (h : alive (ts.set t x) w = true) : alive ts w = true := by
  obtain ⟨h0, h1, h2⟩ := alive_iff.1 h
  rw [List.length_set] at h1
  rw [thr_set _ _ _ ht] at h2
  refine alive_iff.2 ⟨h0, h1, ?_⟩
  split at h2
  · rename_i e; rw [e]; exact hup
  · exact h2
/-- A thread goes on; what lives is told to live on, but for whom it waited for. -/
theorem li_set {p : api_Program} {l : List api_Section} {bg : W32} {ts : TS} (hi : LI p l bg ts) {t : Nat} (ht : t < ts.length) (hup : 0 < (thr ts t).stack.length) (s' : List sem_Frame) (J : Nat → Prop) (h1 : LC l s') (h2 : 0 < s'.length → ∀ b, (lvo l (topF (thr ts t).stack)).getLsbD b = true → (lvo l (topF s')).getLsbD b = true ∨ J b) (h3 : (∀ y ∈ (thr ts t).stack, ¬ bg.getLsbD y.func.toNat = true) → ∀ x ∈ s', ¬ bg.getLsbD x.func.toNat = true) (hJ : ∀ b, J b → b ≠ p.slots.toNat ∧ (0 < (thr ts t).slots b → alive ts ((thr ts t).slots b - 1) = false)) : LI p l bg (ts.set t ⟨s', (thr ts t).slots⟩) := by
  have hT : ∀ j, thr (ts.set t ⟨s', (thr ts t).slots⟩) j = if j = t then ⟨s', (thr ts t).slots⟩ else thr ts j := fun j => thr_set _ _ _ ht j
  have hs0 : (thr (ts.set t ⟨s', (thr ts t).slots⟩) 0).slots = (thr ts 0).slots := by
    rw [hT]
    split
    · rename_i e; rw [← e]
    · rfl
  refine ⟨fun j hj => ?_, fun j h0 hj hu => ?_, fun hu => ?_, fun k => ?_⟩
  · rw [List.length_set] at hj
    rw [hT]
    split
    · exact h1
    · exact hi.lc j hj
  · rw [List.length_set] at hj
    rw [hT] at hu ⊢
    split at hu
    · rename_i e
      rw [if_pos e]
      subst e
      rcases h2 hu _ (hi.lost j h0 hj hup) with h | h
      · exact h
      · exact absurd rfl (hJ _ h).1
    · rename_i e
      rw [if_neg e]
      exact hi.lost j h0 hj hu
  · unfold Pz
    rw [hs0]
    rw [hT] at hu ⊢
    split at hu
    · rename_i e
      rw [if_pos e]
      subst e
      rcases hi.pz hup with h | ⟨ha, hb⟩
      · rcases h2 hu _ h with h | h
        · exact .inl h
        · exact absurd rfl (hJ _ h).1
      · refine .inr ⟨fun w w0 wl wu => ?_, fun k k8 kp ka => ?_⟩
        · rw [List.length_set] at wl
          have ew : thr (ts.set 0 ⟨s', (thr ts 0).slots⟩) w = thr ts w := by rw [hT, if_neg (by omega)]
          rw [ew] at wu ⊢
          obtain ⟨⟨k, k1, k2, k3⟩, hn⟩ := ha w w0 wl wu
          refine ⟨⟨k, k1, k2, ?_⟩, hn⟩
          rcases h2 hu _ k3 with h | h
          · exact h
          · have := (hJ _ h).2 (by omega)
            have hal : alive ts ((thr ts 0).slots k - 1) = true := alive_iff.2 ⟨by omega, by omega, by rw [k2, show (((w : Int) + 1 - 1).toNat) = w by omega]; exact wu⟩
            rw [hal] at this
            cases this
        · have hal := alive_set ht hup _ ka
          rcases h2 hu _ (hb k k8 kp hal) with h | h
          · exact h
          · have := (hJ _ h).2 kp
            rw [hal] at this
            cases this
    · rename_i e
      rw [if_neg e]
      rcases hi.pz hu with h | ⟨ha, hb⟩
      · exact .inl h
      · refine .inr ⟨fun w w0 wl wu => ?_, fun k k8 kp ka => hb k k8 kp (alive_set ht hup _ ka)⟩
        rw [List.length_set] at wl
        rw [hT] at wu ⊢
        split at wu
        · rename_i e2
          rw [if_pos e2]
          subst e2
          obtain ⟨hk, hn⟩ := ha w w0 wl hup
          exact ⟨hk, h3 hn⟩
        · rename_i e2
          rw [if_neg e2]
          exact ha w w0 wl wu
  · rw [hs0, List.length_set]
    exact hi.sl k
abbrev spawnedT (ts : TS) (t : Nat) (s1 : List sem_Frame) (sl : Nat → Int) (g : Int) : TS := ts.set t ⟨s1, sl⟩ ++ [⟨[⟨g, 0⟩], fun _ => 0⟩]
/-- A thread begins another. -/
theorem li_spawn {p : api_Program} {l : List api_Section} {bg : W32} {ts : TS} (hi : LI p l bg ts) {t : Nat} (ht : t < ts.length) (hup : 0 < (thr ts t).stack.length) (s1 : List sem_Frame) (a g : Int) (ha : 0 ≤ a ∧ a < p.slots) (hg8 : p.slots ≤ 8) (hs1 : 0 < s1.length) (h1 : LC l s1) (h2 : ∀ b, (lvo l (topF (thr ts t).stack)).getLsbD b = true → (lvo l (topF s1)).getLsbD b = true) (h3 : (lvo l (topF s1)).getLsbD a.toNat = true) (h4 : bg.getLsbD g.toNat = true ∨ (lvo l (topF (thr ts t).stack)).getLsbD a.toNat = true → (lvo l (topF s1)).getLsbD p.slots.toNat = true) (h5 : (lvo l ⟨g, 0⟩).getLsbD p.slots.toNat = true) (h6 : bg.getLsbD (topF (thr ts t).stack).func.toNat = true) : LI p l bg (spawnedT ts t s1 (upd (thr ts t).slots a.toNat ((ts.length : Int) + 1)) g) := by
  have hlen : (spawnedT ts t s1 (upd (thr ts t).slots a.toNat ((ts.length : Int) + 1)) g).length = ts.length + 1 := by simp
  have hT : ∀ j, j < ts.length → thr (spawnedT ts t s1 (upd (thr ts t).slots a.toNat ((ts.length : Int) + 1)) g) j = if j = t then ⟨s1, upd (thr ts t).slots a.toNat ((ts.length : Int) + 1)⟩ else thr ts j := fun j hj => by
    rw [thr_app_l _ _ _ (by rw [List.length_set]; exact hj), thr_set _ _ _ ht]
  have hN : thr (spawnedT ts t s1 (upd (thr ts t).slots a.toNat ((ts.length : Int) + 1)) g) ts.length = ⟨[⟨g, 0⟩], fun _ => 0⟩ := thr_app_r _ _ _ (by rw [List.length_set])
  generalize (spawnedT ts t s1 (upd (thr ts t).slots a.toNat ((ts.length : Int) + 1)) g) = ts' at hlen hT hN ⊢
  have h0l : 0 < ts.length := by omega
  have al : ∀ w : Int, w < ts.length → alive ts' w = true → alive ts w = true := fun w hw h => by
    obtain ⟨q0, q1, q2⟩ := alive_iff.1 h
    rw [hT _ (by omega)] at q2
    refine alive_iff.2 ⟨q0, hw, ?_⟩
    split at q2
    · rename_i e; rw [e]; exact hup
    · exact q2
  refine ⟨fun j hj => ?_, fun j h0 hj hu => ?_, fun hu => ?_, fun k => ?_⟩
  · rw [hlen] at hj
    rcases Nat.lt_or_ge j ts.length with hj' | hj'
    · rw [hT j hj']
      split
      · exact h1
      · exact hi.lc j hj'
    · rw [show j = ts.length by omega, hN]
      intro i hi2
      simp only [List.length_singleton] at hi2
      omega
  · rw [hlen] at hj
    rcases Nat.lt_or_ge j ts.length with hj' | hj'
    · rw [hT j hj'] at hu ⊢
      split at hu
      · rename_i e
        rw [if_pos e]
        subst e
        exact h2 _ (hi.lost j h0 hj' hup)
      · rename_i e
        rw [if_neg e]
        exact hi.lost j h0 hj' hu
    · rw [show j = ts.length by omega, hN]
      exact h5
  · unfold Pz
    rw [hT 0 h0l] at hu ⊢
    split at hu
    · rename_i e
      rw [if_pos e]
      subst e
      by_cases hc : (lvo l (topF s1)).getLsbD p.slots.toNat = true
      · exact .inl hc
      · have hng : ¬ bg.getLsbD g.toNat = true := fun h => hc (h4 (.inl h))
        have hna : ¬ (lvo l (topF (thr ts 0).stack)).getLsbD a.toNat = true := fun h => hc (h4 (.inr h))
        rcases hi.pz hup with h | ⟨pa, pb⟩
        · exact .inl (h2 _ h)
        · refine .inr ⟨fun w w0 wl wu => ?_, fun k k8 kp ka => ?_⟩
          · rw [hlen] at wl
            rcases Nat.lt_or_ge w ts.length with hw' | hw'
            · rw [hT w hw', if_neg (by omega)] at wu ⊢
              obtain ⟨⟨k, k1, k2, k3⟩, hn⟩ := pa w w0 hw' wu
              refine ⟨⟨k, k1, ?_, h2 _ k3⟩, hn⟩
              show upd _ _ _ _ = _
              unfold upd
              rw [if_neg (fun e => hna (by rw [← e]; exact k3))]
              exact k2
            · have ew : w = ts.length := by omega
              rw [ew, hN]
              refine ⟨⟨a.toNat, by omega, ?_, h3⟩, fun x hx => ?_⟩
              · show upd _ _ _ _ = _
                unfold upd
                rw [if_pos rfl]
              · rw [List.mem_singleton.1 hx]
                exact hng
          · by_cases e : k = a.toNat
            · rw [e]; exact h3
            · have eu : upd (thr ts 0).slots a.toNat ((ts.length : Int) + 1) k = (thr ts 0).slots k := by
                unfold upd
                rw [if_neg e]
              simp only [eu] at kp ka
              have := hi.sl k
              exact h2 _ (pb k k8 kp (al _ (by omega) ka))
    · rename_i e
      rw [if_neg e]
      rcases hi.pz hu with h | ⟨pa, pb⟩
      · exact .inl h
      · exact absurd h6 ((pa t (by omega) ht hup).2 _ (top_mem hup))
  · rw [hT 0 h0l, hlen]
    have := hi.sl k
    split
    · rename_i e
      simp only []
      unfold upd
      split
      · omega
      · rw [← e]; omega
    · omega
theorem hasb_slots {p : api_Program} (hg : Good p) {m : W32} (h : hasb m p.slots = true) : m.getLsbD p.slots.toNat = true := by
  have := hg.slots
  unfold hasb at h
  rw [if_pos (by omega)] at h
  exact h
theorem li_step {p : api_Program} (hg : Good p) {l : List api_Section} {bg : W32} (hk : KnowL p bg) (hF : FineL p l bg) {B : Nat} {ts : TS} (hw : WF p B ts) {ow : Nat → Int} (hi : LI p l bg ts) {t : Nat} (h : Goes p ts ow t) (way : Bool) : LI p l bg (stepP p ts ow t way).2 := by
  have ht := h.lt
  have hup := h.up
  have hfr := hw.fr t ht _ (top_mem hup)
  have hok := nodeOk_at hg hfr
  have f0 := hfr.f0
  have n0 := hfr.n0
  have hsl := hg.slots
  have hn32 := hg.funcs
  have hlc := hi.lc t ht
  obtain ⟨e7, e9, e5, eon⟩ := nodeL_zero ((hF (topF (thr ts t).stack).func.toNat (by omega)).2 (topF (thr ts t).stack).node.toNat (by omega))
  have hent : ∀ g : Nat, g < p.funcs.length → ∀ b, (sec l g).liveEntry.getLsbD b = true → (liv l g 0).getLsbD b = true := fun g hg' => subb_iff.1 (hF g hg').1
  have eon : ∀ y ∈ succ (ndF p (topF (thr ts t).stack)), ∀ b, (lbh (ndF p (topF (thr ts t).stack)) (lvo l (topF (thr ts t).stack)) (xit l (ndF p (topF (thr ts t).stack))) p.slots (hasb bg (ndF p (topF (thr ts t).stack)).arg)).getLsbD b = true → (liv l (topF (thr ts t).stack).func.toNat y.toNat).getLsbD b = true := fun y hy => subb_iff.1 (List.all_eq_true.1 eon y hy)
  have e7 : (ndF p (topF (thr ts t).stack)).kind = 7 → ∀ b, (lvo l (topF (thr ts t).stack)).getLsbD b = true → (sec l (ndF p (topF (thr ts t).stack)).arg.toNat).liveEntry.getLsbD b = true := fun k => subb_iff.1 (e7 k)
  have e9 : (ndF p (topF (thr ts t).stack)).kind = 9 → ∀ b, (lvo l (topF (thr ts t).stack)).getLsbD b = true → (sec l (topF (thr ts t).stack).func.toNat).liveExit.getLsbD b = true := fun k => subb_iff.1 (e9 k)
  have e5 : (ndF p (topF (thr ts t).stack)).kind = 5 → (sec l (ndF p (topF (thr ts t).stack)).arg.toNat).liveEntry.getLsbD p.slots.toNat = true := fun k => hasb_slots hg (e5 k)
  have hsuc : (ndF p (topF (thr ts t).stack)).kind ≠ 9 → (if (ndF p (topF (thr ts t).stack)).kind = 8 ∧ way = true then (ndF p (topF (thr ts t).stack)).alt else (ndF p (topF (thr ts t).stack)).next) ∈ succ (ndF p (topF (thr ts t).stack)) := fun k9 => by
    unfold succ
    rw [if_neg k9]
    by_cases h8 : (ndF p (topF (thr ts t).stack)).kind = 8
    · rw [if_pos h8]
      split <;> simp
    · rw [if_neg h8, if_neg (fun h => h8 h.1)]
      simp
  have hbg5 : (ndF p (topF (thr ts t).stack)).kind = 5 → bg.getLsbD (topF (thr ts t).stack).func.toNat = true := fun k => (hk _).2 ⟨by omega, _, .refl _, (topF (thr ts t).stack).node.toNat, by omega, k⟩
  have hbg7 : (ndF p (topF (thr ts t).stack)).kind = 7 → bg.getLsbD (ndF p (topF (thr ts t).stack)).arg.toNat = true → bg.getLsbD (topF (thr ts t).stack).func.toNat = true := fun k hb => by
    have ha := hok.call k
    obtain ⟨_, g, g1, g2⟩ := (hk _).1 hb
    exact (hk _).2 ⟨by omega, g, .step _ _ _ ⟨(topF (thr ts t).stack).node.toNat, by omega, k, by show (ndF p (topF (thr ts t).stack)).arg = _; omega⟩ g1, g2⟩
  have hj6 := h.join
  unfold stepP
  simp only []
  generalize ndF p (topF (thr ts t).stack) = n at hok e7 e9 e5 eon hsuc hbg5 hbg7 hj6 ⊢
  obtain ⟨k, arg, next, alt⟩ := n
  simp only [] at hok e7 e9 e5 eon hsuc hbg5 hbg7 hj6 ⊢
  have hcall : k = 7 → 0 ≤ arg ∧ arg < p.funcs.length := hok.call
  have hspawn : k = 5 → 0 ≤ arg ∧ arg < p.funcs.length ∧ 0 ≤ alt ∧ alt < p.slots := hok.spawn
  have hjoin : k = 6 → 0 ≤ arg ∧ arg < p.slots := hok.join
  by_cases k9 : k = 9
  · rw [if_pos k9]
    refine li_set hi ht hup _ (fun _ => False) (lc_take hlc) (fun hl b hb => .inl ?_) (fun hn x hx => hn x (List.mem_of_mem_take hx)) (fun b h => h.elim)
    rw [List.length_take] at hl
    have et : topF ((thr ts t).stack.take ((thr ts t).stack.length - 1)) = fr (thr ts t).stack ((thr ts t).stack.length - 2) := by
      show fr _ _ = _
      rw [List.length_take, show min ((thr ts t).stack.length - 1) (thr ts t).stack.length - 1 = (thr ts t).stack.length - 2 by omega, fr_take _ _ (by omega)]
    rw [et]
    have q := hlc ((thr ts t).stack.length - 2) (by omega) b
    rw [show (thr ts t).stack.length - 2 + 1 = (thr ts t).stack.length - 1 by omega] at q
    exact q (e9 k9 b hb)
  rw [if_neg k9]
  have eon := eon _ (hsuc k9)
  generalize (if k = 8 ∧ way = true then alt else next) = nx at eon ⊢
  have topg : topF ((thr ts t).stack.set ((thr ts t).stack.length - 1) ⟨(topF (thr ts t).stack).func, nx⟩) = ⟨(topF (thr ts t).stack).func, nx⟩ := by
    show fr _ _ = _
    rw [List.length_set, fr_set _ _ _ (by omega), if_pos rfl]
  have memg : ∀ x ∈ (thr ts t).stack.set ((thr ts t).stack.length - 1) ⟨(topF (thr ts t).stack).func, nx⟩, ∃ y ∈ (thr ts t).stack, y.func = x.func := fun x hx => by
    rcases List.mem_or_eq_of_mem_set hx with hx | hx
    · exact ⟨x, hx, rfl⟩
    · exact ⟨_, top_mem hup, by rw [hx]⟩
  have goJ : ∀ J : Nat → Prop, (∀ b, (lvo l (topF (thr ts t).stack)).getLsbD b = true → (liv l (topF (thr ts t).stack).func.toNat nx.toNat).getLsbD b = true ∨ J b) → (∀ b, J b → b ≠ p.slots.toNat ∧ (0 < (thr ts t).slots b → alive ts ((thr ts t).slots b - 1) = false)) → LI p l bg (goTo ts t nx) := fun J j1 j2 => by
    refine li_set hi ht hup _ J (lc_goTo hlc nx) (fun _ b hb => ?_) (fun hn x hx => ?_) j2
    · rw [topg]
      exact j1 b hb
    · obtain ⟨y, hy, e⟩ := memg x hx
      rw [← e]
      exact hn y hy
  have hlb : ∀ b, (lbh ⟨k, arg, next, alt⟩ (lvo l (topF (thr ts t).stack)) (xit l ⟨k, arg, next, alt⟩) p.slots (hasb bg arg)).getLsbD b = (if k = 5 then ((lvo l (topF (thr ts t).stack)) ||| one alt) ||| (if hasb bg arg = true ∨ hasb (lvo l (topF (thr ts t).stack)) alt = true then one p.slots else 0#32) else if k = 6 then (lvo l (topF (thr ts t).stack)) &&& ~~~(one arg) else if k = 7 then (xit l ⟨k, arg, next, alt⟩) else (lvo l (topF (thr ts t).stack))).getLsbD b := fun b => rfl
  have plain : k ≠ 5 → k ≠ 6 → k ≠ 7 → LI p l bg (goTo ts t nx) := fun k5 k6 k7 => by
    refine goJ (fun _ => False) (fun b hb => .inl (eon b ?_)) (fun b h => h.elim)
    rw [hlb, if_neg k5, if_neg k6, if_neg k7]
    exact hb
  by_cases k3 : k = 3
  · rw [if_pos k3]
    exact plain (by omega) (by omega) (by omega)
  rw [if_neg k3]
  by_cases k4 : k = 4
  · rw [if_pos k4]
    exact plain (by omega) (by omega) (by omega)
  rw [if_neg k4]
  by_cases k5 : k = 5
  · rw [if_pos k5]
    have ha := hspawn k5
    have e : (goTo ts t nx).set t ⟨(thr (goTo ts t nx) t).stack, upd (thr (goTo ts t nx) t).slots alt.toNat ((ts.length : Int) + 1)⟩ = ts.set t ⟨(thr ts t).stack.set ((thr ts t).stack.length - 1) ⟨(topF (thr ts t).stack).func, nx⟩, upd (thr ts t).slots alt.toNat ((ts.length : Int) + 1)⟩ := by
      rw [goTo_thr _ _ _ ht]
      unfold goTo
      rw [List.set_set]
    simp only []
    rw [e]
    refine li_spawn hi ht hup _ alt arg ⟨ha.2.2.1, ha.2.2.2⟩ (by omega) (by rw [List.length_set]; exact hup) (lc_goTo hlc nx) (fun b hb => ?_) ?_ (fun hc => ?_) ?_ (hbg5 k5)
    · rw [topg]
      refine eon b ?_
      rw [hlb, if_pos k5, BitVec.getLsbD_or, BitVec.getLsbD_or, hb]
      rfl
    · rw [topg]
      refine eon _ ?_
      rw [hlb, if_pos k5, BitVec.getLsbD_or, BitVec.getLsbD_or, (one_bit alt alt.toNat).2 (by omega), Bool.or_true]
      rfl
    · rw [topg]
      refine eon _ ?_
      have hh : hasb bg arg = true ∨ hasb (lvo l (topF (thr ts t).stack)) alt = true := by
        unfold hasb
        rw [if_pos (by omega), if_pos (by omega)]
        exact hc
      rw [hlb, if_pos k5, if_pos hh, BitVec.getLsbD_or, (one_bit p.slots p.slots.toNat).2 (by omega), Bool.or_true]
    · exact hent arg.toNat (by omega) _ (e5 k5)
  rw [if_neg k5]
  by_cases k7 : k = 7
  · rw [if_pos k7]
    have ha := hcall k7
    have e : (goTo ts t nx).set t ⟨(thr (goTo ts t nx) t).stack ++ [⟨arg, 0⟩], (thr (goTo ts t nx) t).slots⟩ = ts.set t ⟨(thr ts t).stack.set ((thr ts t).stack.length - 1) ⟨(topF (thr ts t).stack).func, nx⟩ ++ [⟨arg, 0⟩], (thr ts t).slots⟩ := by
      rw [goTo_thr _ _ _ ht]
      unfold goTo
      rw [List.set_set]
    simp only []
    rw [e]
    have et : topF ((thr ts t).stack.set ((thr ts t).stack.length - 1) ⟨(topF (thr ts t).stack).func, nx⟩ ++ [⟨arg, 0⟩]) = ⟨arg, 0⟩ := by
      show fr _ _ = _
      exact fr_app_r _ _ _ (by rw [List.length_append, List.length_singleton]; omega)
    refine li_set hi ht hup _ (fun _ => False) (lc_call (lc_goTo hlc nx) (by rw [List.length_set]; exact hup) _ fun b hb => ?_) (fun _ b hb => .inl ?_) (fun hn x hx => ?_) (fun b h => h.elim)
    · rw [topg]
      refine eon b ?_
      rw [hlb, if_neg k5, if_neg (by omega), if_pos k7]
      unfold xit
      rw [if_pos k7]
      exact hb
    · rw [et]
      exact hent arg.toNat (by omega) b (e7 k7 b hb)
    · rcases List.mem_append.1 hx with hx | hx
      · obtain ⟨y, hy, e⟩ := memg x hx
        rw [← e]
        exact hn y hy
      · rw [List.mem_singleton.1 hx]
        exact fun hb => hn _ (top_mem hup) (hbg7 k7 hb)
  rw [if_neg k7]
  by_cases k6 : k = 6
  · have ha := hjoin k6
    refine goJ (fun b => b = arg.toNat) (fun b hb => ?_) (fun b hb => ?_)
    · by_cases e : b = arg.toNat
      · exact .inr e
      · refine .inl (eon b ?_)
        have h1 : (one arg).getLsbD b = false := by
          rw [← Bool.not_eq_true, one_bit]
          omega
        have hb32 : b < 32 := by
          rcases Nat.lt_or_ge b 32 with h | h
          · exact h
          · rw [BitVec.getLsbD_of_ge _ _ h] at hb
            cases hb
        rw [hlb, if_neg k5, if_pos k6, BitVec.getLsbD_and, hb, BitVec.getLsbD_not, h1]
        simp [hb32]
    · subst hb
      refine ⟨by omega, fun hp => ?_⟩
      have hub := hw.len
      rcases hj6 k6 with h0 | h0
      · omega
      · rcases Nat.lt_or_ge 1000000 ((thr ts t).slots arg.toNat).toNat with hbig | hsm
        · rw [← Bool.not_eq_true, alive_iff]
          omega
        · rw [iSub_eq (by omega) (by omega)] at h0
          exact h0
  · exact plain k5 k6 k7
theorem li_start {p : api_Program} {l : List api_Section} {bg : W32} : LI p l bg [⟨[⟨0, 0⟩], fun _ => 0⟩] := by
  refine ⟨fun t ht => ?_, fun t h0 ht => ?_, fun hu => .inr ⟨fun w w0 wl => ?_, fun k _ kp => ?_⟩, fun k => ?_⟩
  · have : t = 0 := by simp at ht; omega
    subst this
    intro i hi
    simp [thr, List.getD] at hi
  · simp at ht; omega
  · simp at wl; omega
  · simp [thr, List.getD] at kp
  · simp [thr, List.getD]
/-- Where nobody is told to live, a thread is alone, and it is the first. -/
theorem li_alone {p : api_Program} {l : List api_Section} {bg : W32} {ts : TS} (hi : LI p l bg ts) {t : Nat} (ht : t < ts.length) (hup : 0 < (thr ts t).stack.length) (hz : lvo l (topF (thr ts t).stack) = 0#32) : t = 0 ∧ ∀ w, 0 < w → w < ts.length → (thr ts w).stack.length = 0 := by
  have h0 : t = 0 := by
    rcases Nat.eq_zero_or_pos t with h | h
    · exact h
    · have := hi.lost t h ht hup
      rw [hz] at this
      simp at this
  subst h0
  refine ⟨rfl, fun w w0 wl => ?_⟩
  rcases hi.pz hup with h | ⟨ha, _⟩
  · rw [hz] at h
    simp at h
  · rcases Nat.eq_zero_or_pos (thr ts w).stack.length with h | h
    · exact h
    · obtain ⟨⟨k, _, _, hk⟩, _⟩ := ha w w0 wl h
      rw [hz] at hk
      simp at hk
theorem lt_cnt (p : api_Program) (hg : Good p) {l : List api_Section} (hs : Shp p l) {B : Nat} (hB : B ≤ 1000000) {ts : TS} (hw : WF p B ts) (ow : Nat → Int) (x7 : List api_Pick) (x8 : Int) : ∀ (m j : Nat) (x9 : Int) (x10 : Bool), j + m = ts.length → ∃ y, alibilaw23_LiveTrue_l12 l ts p.globals p.locks p.slots p.funcs ow x7 x8 x9 x10 (j : Int) = some y ∧ ((∀ w, j ≤ w → w < ts.length → (thr ts w).stack.length = 0) → y = (x9, x10)) ∧ (x10 = false → (∀ w, j ≤ w → w < ts.length → 0 < (thr ts w).stack.length → lvo l (topF (thr ts w).stack) ≠ 0#32) → y.2 = false)
  | 0, j, x9, x10, h => by
    rw [alibilaw23_LiveTrue_l12, if_neg (by simp only [decide_eq_true_eq]; omega)]
    exact ⟨_, rfl, fun _ => rfl, fun h _ => h⟩
  | m + 1, j, x9, x10, h => by
    have hl := hw.len
    have hj : j < ts.length := by omega
    have hhi : (List.getD ts j d_sem_Thread).stack.length ≤ B := hw.hi j hj
    rw [alibilaw23_LiveTrue_l12, if_pos (decide_eq_true (by omega)), if_pos (decide_eq_true (by omega)), if_pos (decide_eq_true (by omega)), Int.toNat_natCast, inc j (by omega)]
    by_cases h0 : (List.getD ts j d_sem_Thread).stack.length = 0
    · rw [if_pos (eqT (by omega))]
      obtain ⟨y, y1, y2, y3⟩ := lt_cnt p hg hs hB hw ow x7 x8 m (j + 1) x9 x10 (by omega)
      exact ⟨y, y1, fun hd => y2 fun w a b => hd w (by omega) b, fun hx hd => y3 hx fun w a b => hd w (by omega) b⟩
    · have hup : 0 < (List.getD ts j d_sem_Thread).stack.length := by omega
      have hd0 : ¬ ∀ w, j ≤ w → w < ts.length → (thr ts w).stack.length = 0 := fun hd => h0 (hd j (Nat.le_refl _) hj)
      rw [if_neg (eqF (by omega))]
      cases x10 with
      | true =>
        rw [if_pos (show true = true from rfl)]
        obtain ⟨y, y1, _, _⟩ := lt_cnt p hg hs hB hw ow x7 x8 m (j + 1) (iAdd x9 1) true (by omega)
        exact ⟨y, y1, fun hd => absurd hd hd0, fun hx => by cases hx⟩
      | false =>
        have hd' := dec_eq hup (by omega)
        have hfr := hw.fr j hj _ (top_mem hup)
        have f0 := hfr.f0
        have n0 := hfr.n0
        have hs2 := (hs.2 (topF (thr ts j).stack).func.toNat (by omega)).2
        have hls := hs.1
        have et : List.getD (List.getD ts j d_sem_Thread).stack ((List.getD ts j d_sem_Thread).stack.length - 1) d_sem_Frame = topF (thr ts j).stack := rfl
        have es : (List.getD (List.getD l (topF (thr ts j).stack).func.toNat d_api_Section).live (topF (thr ts j).stack).node.toNat 0#32) = lvo l (topF (thr ts j).stack) := rfl
        have es2 : (List.getD l (topF (thr ts j).stack).func.toNat d_api_Section).live.length = (List.getD p.funcs (topF (thr ts j).stack).func.toNat []).length := hs2
        rw [if_neg (show ¬ (false = true) by decide), hd', if_pos (decide_eq_true (by omega)), if_pos (decide_eq_true (by omega)), Int.toNat_natCast, et, if_pos (decide_eq_true f0.1), if_pos (decide_eq_true (by omega)), if_pos (decide_eq_true n0.1), if_pos (decide_eq_true (by omega)), es]
        obtain ⟨y, y1, y2, y3⟩ := lt_cnt p hg hs hB hw ow x7 x8 m (j + 1) (iAdd x9 1) (lvo l (topF (thr ts j).stack) == 0#32) (by omega)
        refine ⟨y, y1, fun hd => absurd hd hd0, fun _ hd => y3 ?_ fun w a b => hd w (by omega) b⟩
        have := hd j (Nat.le_refl _) hj hup
        simpa using this
theorem lt_one (p : api_Program) (hg : Good p) {l : List api_Section} (hs : Shp p l) {bg : W32} {B : Nat} (hB : B ≤ 1000000) {ts : TS} (hw : WF p B ts) (hi : LI p l bg ts) (ow : Nat → Int) (x7 : List api_Pick) (x8 : Int) : ∃ y, alibilaw23_LiveTrue_l12 l ts p.globals p.locks p.slots p.funcs ow x7 x8 0 false 0 = some y ∧ (y.2 = true → y.1 = 1) := by
  have hl := hw.len
  rcases Nat.eq_zero_or_pos ts.length with h0 | h0
  · obtain ⟨y, y1, y2, _⟩ := lt_cnt p hg hs hB hw ow x7 x8 0 0 0 false (by omega)
    have := y2 fun w _ hw' => by omega
    exact ⟨y, y1, fun h => by rw [this] at h; cases h⟩
  · have nz : ∀ w, 0 < w → w < ts.length → 0 < (thr ts w).stack.length → lvo l (topF (thr ts w).stack) ≠ 0#32 := fun w w0 wl wu hz => by
      have := (li_alone hi wl wu hz).1
      omega
    by_cases hz : 0 < (thr ts 0).stack.length ∧ lvo l (topF (thr ts 0).stack) = 0#32
    · obtain ⟨hup, hz⟩ := hz
      obtain ⟨_, hd⟩ := li_alone hi h0 hup hz
      have hup' : 0 < (List.getD ts 0 d_sem_Thread).stack.length := hup
      have hhi : (List.getD ts 0 d_sem_Thread).stack.length ≤ B := hw.hi 0 h0
      have hd' := dec_eq hup' (by omega)
      have hfr := hw.fr 0 h0 _ (top_mem hup)
      have f0 := hfr.f0
      have n0 := hfr.n0
      have hs2 := (hs.2 (topF (thr ts 0).stack).func.toNat (by omega)).2
      have hls := hs.1
      have et : List.getD (List.getD ts 0 d_sem_Thread).stack ((List.getD ts 0 d_sem_Thread).stack.length - 1) d_sem_Frame = topF (thr ts 0).stack := rfl
      have es : (List.getD (List.getD l (topF (thr ts 0).stack).func.toNat d_api_Section).live (topF (thr ts 0).stack).node.toNat 0#32) = lvo l (topF (thr ts 0).stack) := rfl
      have es2 : (List.getD l (topF (thr ts 0).stack).func.toNat d_api_Section).live.length = (List.getD p.funcs (topF (thr ts 0).stack).func.toNat []).length := hs2
      obtain ⟨y, y1, y2, _⟩ := lt_cnt p hg hs hB hw ow x7 x8 (ts.length - 1) 1 1 true (by omega)
      have ey := y2 fun w a b => hd w (by omega) b
      rw [show (0 : Int) = ((0 : Nat) : Int) from rfl, alibilaw23_LiveTrue_l12, if_pos (decide_eq_true (by omega)), if_pos (decide_eq_true (by omega)), if_pos (decide_eq_true (by omega)), Int.toNat_natCast, inc 0 (by omega), if_neg (eqF (by omega)), if_neg (show ¬ (false = true) by decide), hd', if_pos (decide_eq_true (by omega)), if_pos (decide_eq_true (by omega)), Int.toNat_natCast, et, if_pos (decide_eq_true f0.1), if_pos (decide_eq_true (by omega)), if_pos (decide_eq_true n0.1), if_pos (decide_eq_true (by omega)), es, hz]
      refine ⟨y, y1, fun _ => ?_⟩
      rw [ey]
    · obtain ⟨y, y1, _, y3⟩ := lt_cnt p hg hs hB hw ow x7 x8 ts.length 0 0 false (by omega)
      have := y3 rfl fun w _ wl wu e => by
        rcases Nat.eq_zero_or_pos w with h | h
        · subst h; exact hz ⟨wu, e⟩
        · exact nz w h wl wu e
      exact ⟨y, y1, fun h => by rw [this] at h; cases h⟩
theorem lt_l8 (p : api_Program) (hg : Good p) {l : List api_Section} (hs : Shp p l) {bg : W32} (hk : KnowL p bg) (hF : FineL p l bg) (x7 : List api_Pick) (hl : x7.length ≤ 300) : ∀ (m i : Nat) (ts : TS) (ow : Nat → Int), i + m = x7.length → WF p (i + 1) ts → LI p l bg ts → alibilaw23_LiveTrue_l8 l ts p.globals p.locks p.slots p.funcs ow x7 (i : Int) = some .x1
  | m, i, ts, ow, h, hw, hi => by
    obtain ⟨y, y1, y2⟩ := lt_one p hg hs (by omega) hw hi ow x7 (i : Int)
    rw [alibilaw23_LiveTrue_l8, if_pos (decide_eq_true (by omega)), bind_some y1]
    have fin : (if (decide ((i : Int) < ((x7.length : Nat) : Int))) = true then (if (decide ((0 : Int) ≤ (i : Int))) = true then (if (decide ((i : Int) < ((x7.length : Nat) : Int))) = true then bind (sem_Config_Step (sem_Config.mk ts ow) (api_Program.mk p.globals p.locks p.slots p.funcs) (List.getD x7 (Int.toNat (i : Int)) d_api_Pick)) fun v => alibilaw23_LiveTrue_l8 l v.2 p.globals p.locks p.slots p.funcs v.1 x7 (iAdd (i : Int) 1) else none) else none) else alibilaw23_LiveTrue_l8 l ts p.globals p.locks p.slots p.funcs ow x7 (iAdd (i : Int) 1)) = some .x1 := by
      match m, h with
      | 0, h =>
        rw [if_neg (by simp only [decide_eq_true_eq]; omega), inc i (by omega), alibilaw23_LiveTrue_l8, if_neg (by simp only [decide_eq_true_eq]; omega)]
      | m + 1, h =>
        rw [if_pos (decide_eq_true (by omega)), if_pos (decide_eq_true (by omega)), if_pos (decide_eq_true (by omega)), Int.toNat_natCast, bind_some (show sem_Config_Step ⟨ts, ow⟩ (api_Program.mk p.globals p.locks p.slots p.funcs) _ = _ from step_eq hg hw (by omega) ow _), inc i (by omega)]
        generalize List.getD x7 i d_api_Pick = x
        by_cases he : enB p ts ow x.who = true
        · obtain ⟨w, hwho, hG⟩ := goes_of he
          rw [if_pos he, hwho, Int.toNat_natCast]
          exact lt_l8 p hg hs hk hF x7 hl m (i + 1) _ _ (by omega) (wf_step hg hw hG x.way) (li_step hg hk hF hw hi hG x.way)
        · rw [if_neg he]
          exact lt_l8 p hg hs hk hF x7 hl m (i + 1) _ _ (by omega) (wf_mono hw (by omega)) hi
    by_cases ha : y.2 = true
    · rw [if_pos ha, if_neg (show ¬ (y.1 != 1) = true by rw [y2 ha]; decide)]
      exact fin
    · rw [if_neg ha]
      exact fin
theorem liveTrue (p : api_Program) (x7 : List api_Pick) : alibilaw23_LiveTrue p x7 = some true := by
  unfold alibilaw23_LiveTrue
  rw [bind_some awake23, if_neg (by decide)]
  obtain ⟨sm, s1, _⟩ := small_eq p
  rw [bind_some s1]
  cases sm with
  | false => rw [if_pos (by decide), bind_some awake23]
  | true =>
    rw [if_neg (by decide)]
    by_cases hl : (x7.length : Int) > 300
    · rw [if_pos (decide_eq_true hl), bind_some awake23]
    · rw [if_neg (by simpa using hl)]
      obtain ⟨⟨ra, rb, re⟩, r1, r2, _⟩ := check_eqP p
      by_cases he : re = 0
      · obtain ⟨r5, hg⟩ := r2 he
        rw [r5] at r1
        obtain ⟨bg, h, hkn⟩ := begins_eq p hg r1
        obtain ⟨v, t, t1, t2, t3, t4, t5⟩ := findL_eq p hg h
        obtain ⟨hL, hS⟩ := found_laysL t3 t4 t5
        have hk : DKeeps (funcsRL p bg 0 p.funcs.length) (base p.funcs p.funcs.length) v := by
          have := t2.keeps
          rw [List.length_replicate] at this
          exact this
        have hF := (keepsL_iff hg hL).1 hk
        have q := lt_l8 p hg hS hkn hF x7 (by omega) x7.length 0 [⟨[⟨0, 0⟩], fun _ => 0⟩] (fun _ => 0) (Nat.zero_add _) (wf_start hg) li_start
        rw [show ((0 : Nat) : Int) = 0 from rfl] at q
        rw [bind_some t1, bind_some (start_good r1), if_neg (show ¬ ((0 : Int) != 0) = true by decide), if_neg (show ¬ ((0 : Int) != 0) = true by decide), bind_some q]
      · rw [bind_some (findL_bad p r1 he), bind_some (start_bad r1 he), if_pos (show (re != 0) = true by simpa using he)]
        simp
end Go.Bm.GoYtnjbjgmohmghoaa
