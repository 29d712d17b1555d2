/- Laws of what the claim reaches. -/
import Derived.Test.YtnjbjgmohmghoaaHtMa
namespace Go.Bm.GoYtnjbjgmohmghoaa
set_option autoImplicit false
set_option linter.unusedVariables false
set_option linter.unusedSimpArgs false
set_option maxRecDepth 100000
/-- What a thread does next. -/
def atP (p : api_Program) (ts : TS) (t : Int) : api_Node × Bool := if alive ts t = true then (ndF p (topF (thr ts t.toNat).stack), true) else (⟨0, 0, 0, 0⟩, false)
theorem semat_eq {p : api_Program} {B : Nat} {ts : TS} (hw : WF p B ts) (hB : B ≤ 1000000) (ow : Nat → Int) (t : Int) : sem_Config_At ⟨ts, ow⟩ p t = some (atP p ts t) := by
  unfold sem_Config_At atP
  rw [bind_some (lives_eq ts ow t)]
  by_cases ha : alive ts t = true
  · obtain ⟨h0, h1, h2⟩ := alive_iff.1 ha
    rw [ha, if_neg (by decide), if_pos rfl]
    have hl : t.toNat < ts.length := by omega
    have hhi := hw.hi _ hl
    have hd := dec_eq h2 (by omega)
    have hok := hw.fr _ hl _ (top_mem h2)
    obtain ⟨q1, q2⟩ := hok.f0
    obtain ⟨q3, q4⟩ := hok.n0
    have hd' : iSub (((List.getD ts t.toNat d_sem_Thread).stack.length : Nat) : Int) 1 = (((List.getD ts t.toNat d_sem_Thread).stack.length - 1 : Nat) : Int) := hd
    have h2' : 0 < (List.getD ts t.toNat d_sem_Thread).stack.length := h2
    simp only [hd', Int.toNat_natCast]
    rw [if_pos (decide_eq_true h0), if_pos (decide_eq_true h1), if_pos (decide_eq_true (by omega)), if_pos (decide_eq_true (by omega)), if_neg (by simpa using q1), if_neg (by simpa using q2), if_neg (by simpa using q3), if_pos (decide_eq_true q1), if_pos (decide_eq_true q2), if_neg (by simpa using q4), if_pos (decide_eq_true q3), if_pos (decide_eq_true q4)]
  · rw [Bool.not_eq_true] at ha
    rw [ha, if_pos (by decide), if_neg (by decide)]
/-- May a thread do a step? -/
def enB (p : api_Program) (ts : TS) (ow : Nat → Int) (t : Int) : Bool :=
  alive ts t && (let n := ndF p (topF (thr ts t.toNat).stack)
    if n.kind = 3 then ow n.arg.toNat == 0 else if n.kind = 6 then ((thr ts t.toNat).slots n.arg.toNat == 0 || !alive ts (iSub ((thr ts t.toNat).slots n.arg.toNat) 1)) else if n.kind = 5 then decide (ts.length < 8) else true)
theorem nodeOk_at {p : api_Program} (hg : Good p) {x : sem_Frame} (h : FrOk p x) : NodeOk p (ndF p x) ((List.getD p.funcs x.func.toNat []).length : Int) := hg.node _ _ (by have := h.f0; omega) (by have := h.n0; omega)
theorem enabled_eq {p : api_Program} (hg : Good p) {B : Nat} {ts : TS} (hw : WF p B ts) (hB : B ≤ 1000000) (ow : Nat → Int) (t : Int) : sem_Config_Enabled ⟨ts, ow⟩ p t = some (enB p ts ow t) := by
  unfold sem_Config_Enabled
  rw [bind_some (semat_eq hw hB ow t)]
  by_cases ha : alive ts t = true
  · obtain ⟨h0, h1, h2⟩ := alive_iff.1 ha
    have hl : t.toNat < ts.length := by omega
    have hok := nodeOk_at hg (hw.fr _ hl _ (top_mem h2))
    have e : atP p ts t = (ndF p (topF (thr ts t.toNat).stack), true) := if_pos ha
    have e2 : enB p ts ow t = (let n := ndF p (topF (thr ts t.toNat).stack)
      if n.kind = 3 then ow n.arg.toNat == 0 else if n.kind = 6 then ((thr ts t.toNat).slots n.arg.toNat == 0 || !alive ts (iSub ((thr ts t.toNat).slots n.arg.toNat) 1)) else if n.kind = 5 then decide (ts.length < 8) else true) := by
      unfold enB; rw [ha, Bool.true_and]
    rw [e, e2]
    generalize ndF p (topF (thr ts t.toNat).stack) = n at hok ⊢
    simp only []
    have hlk := hg.locks
    have hsl := hg.slots
    rw [if_neg (by decide)]
    by_cases k3 : n.kind = 3
    · have := hok.lock (.inl k3)
      rw [if_pos (eqT k3), if_pos (decide_eq_true (by omega)), if_pos (decide_eq_true (by omega)), if_pos k3]
    · rw [if_neg (eqF k3), if_neg k3]
      by_cases k6 : n.kind = 6
      · have := hok.join k6
        rw [if_pos (eqT k6), if_pos (decide_eq_true h0), if_pos (decide_eq_true h1), if_pos (decide_eq_true (by omega)), if_pos (decide_eq_true (by omega)), if_pos k6]
        by_cases hz : (thr ts t.toNat).slots n.arg.toNat = 0
        · rw [if_pos (eqT hz), beq_iff_eq.2 hz, Bool.true_or]
        · rw [if_neg (eqF hz), bind_some (lives_eq ts ow _)]
          have : ((thr ts t.toNat).slots n.arg.toNat == 0) = false := by simpa using hz
          rw [this, Bool.false_or]
      · rw [if_neg (eqF k6), if_neg k6]
        by_cases k5 : n.kind = 5
        · rw [if_pos (eqT k5), if_pos k5]
          congr 1
          rw [Bool.eq_iff_iff, decide_eq_true_eq, decide_eq_true_eq]
          omega
        · rw [if_neg (eqF k5), if_neg k5]
  · have e : atP p ts t = (⟨0, 0, 0, 0⟩, false) := if_neg ha
    have e2 : enB p ts ow t = false := by unfold enB; rw [Bool.not_eq_true] at ha; rw [ha, Bool.false_and]
    rw [e, e2, if_pos (by decide)]
theorem cloneF (s : List sem_Frame) (h : s.length ≤ 1000000) : slices_Clone___sem_Frame_sem_Frame__q s = some s := by
  unfold slices_Clone___sem_Frame_sem_Frame__q slices_Clone___sem_Frame_sem_Frame_
  rw [if_pos (Nat.ble_eq_true_of_le (by simp only [List.length_nil, reach]; omega)), List.nil_append]
theorem cloneT (s : TS) (h : s.length ≤ 1000000) : slices_Clone___sem_Thread_sem_Thread__q s = some () := by
  unfold slices_Clone___sem_Thread_sem_Thread__q slices_Clone___sem_Thread_sem_Thread_
  rw [if_pos (Nat.ble_eq_true_of_le (by simp only [List.length_nil, reach]; omega))]
theorem copied_l3 (x0 : TS) (ts : TS) (hl : ts.length ≤ 8) (hh : ∀ t, t < ts.length → (thr ts t).stack.length ≤ 1000000) (x4 x5 x6 : Nat → Int) : ∀ (m i : Nat), i + m = ts.length → sem_Config_copied_l3 x0 ts i ts x4 x5 x6 (ts.length : Int) (i : Int) = some (ts, ts.length)
  | 0, i, h => by
    rw [sem_Config_copied_l3, if_neg (by simp only [decide_eq_true_eq]; omega), show i = ts.length by omega]
  | m + 1, i, h => by
    have hi : i < ts.length := by omega
    have e : List.set ts i (sem_Thread.mk (List.getD ts i d_sem_Thread).stack (List.getD ts i d_sem_Thread).slots) = ts := by
      rw [getD_el _ _ _ hi]
      exact List.set_getElem_self _
    rw [sem_Config_copied_l3, if_pos (decide_eq_true (by omega)), if_pos (decide_eq_true (by omega)), if_pos (decide_eq_true (by omega)), Int.toNat_natCast, bind_some (cloneF _ (hh i hi)), if_pos (decide_eq_true (by omega)), if_pos (decide_eq_true rfl), inc i (by omega), e]
    exact copied_l3 x0 ts hl hh x4 x5 x6 m (i + 1) (by omega)
theorem copied_eq {p : api_Program} {B : Nat} {ts : TS} (hw : WF p B ts) (hB : B ≤ 1000000) (ow : Nat → Int) : sem_Config_copied ⟨ts, ow⟩ = some (ow, ts) := by
  unfold sem_Config_copied
  have hl := hw.len
  have q := copied_l3 [] ts hl (fun t ht => by have := hw.hi t ht; omega) ow (fun _ => 0) ow ts.length 0 (Nat.zero_add _)
  rw [show ((0 : Nat) : Int) = 0 from rfl] at q
  rw [bind_some (cloneT ts (by omega)), bind_some q, if_pos (decide_eq_true (Nat.le_refl _))]
/-- The place at the top of a thread made another node. -/
abbrev goTo (ts : TS) (t : Nat) (n : Int) : TS := ts.set t ⟨(thr ts t).stack.set ((thr ts t).stack.length - 1) ⟨(topF (thr ts t).stack).func, n⟩, (thr ts t).slots⟩
/-- What a step makes of threads, and of who has the locks. -/
def stepP (p : api_Program) (ts : TS) (ow : Nat → Int) (t : Nat) (way : Bool) : (Nat → Int) × TS :=
  let n := ndF p (topF (thr ts t).stack)
  if n.kind = 9 then (ow, ts.set t ⟨(thr ts t).stack.take ((thr ts t).stack.length - 1), (thr ts t).slots⟩)
  else
    let ts' := goTo ts t (if n.kind = 8 ∧ way = true then n.alt else n.next)
    if n.kind = 3 then (upd ow n.arg.toNat ((t : Int) + 1), ts')
    else if n.kind = 4 then ((if ow n.arg.toNat = (t : Int) + 1 then upd ow n.arg.toNat 0 else ow), ts')
    else if n.kind = 5 then (ow, ts'.set t ⟨(thr ts' t).stack, upd (thr ts' t).slots n.alt.toNat ((ts.length : Int) + 1)⟩ ++ [⟨[⟨n.arg, 0⟩], fun _ => 0⟩])
    else if n.kind = 7 then (ow, ts'.set t ⟨(thr ts' t).stack ++ [⟨n.arg, 0⟩], (thr ts' t).slots⟩)
    else (ow, ts')
theorem thr_set (ts : TS) (t : Nat) (x : sem_Thread) (h : t < ts.length) (j : Nat) : thr (ts.set t x) j = if j = t then x else thr ts j := by
  unfold thr
  by_cases e : j = t
  · subst e; simp [List.getD, h]
  · have : t ≠ j := fun e' => e e'.symm
    rw [if_neg e]
    simp [List.getD, List.getElem?_set, this]
theorem thr_app_l (l : TS) (x : sem_Thread) (j : Nat) (h : j < l.length) : thr (l ++ [x]) j = thr l j := by
  unfold thr
  simp [List.getD, List.getElem?_append_left h]
theorem thr_app_r (l : TS) (x : sem_Thread) (j : Nat) (h : j = l.length) : thr (l ++ [x]) j = x := by
  unfold thr
  subst h
  simp [List.getD]
theorem goTo_len (ts : TS) (t : Nat) (n : Int) : (goTo ts t n).length = ts.length := by unfold goTo; simp
theorem goTo_thr (ts : TS) (t : Nat) (n : Int) (h : t < ts.length) : thr (goTo ts t n) t = ⟨(thr ts t).stack.set ((thr ts t).stack.length - 1) ⟨(topF (thr ts t).stack).func, n⟩, (thr ts t).slots⟩ := by
  unfold goTo; rw [thr_set _ _ _ h, if_pos rfl]
theorem goTo_top (ts : TS) (t : Nat) (n : Int) (h : t < ts.length) (h2 : 0 < (thr ts t).stack.length) : topF (thr (goTo ts t n) t).stack = ⟨(topF (thr ts t).stack).func, n⟩ := by
  rw [goTo_thr _ _ _ h]
  unfold topF
  simp only [List.length_set]
  rw [getD_el _ _ _ (by rw [List.length_set]; exact Nat.sub_lt h2 (by decide))]
  simp
theorem goTo_two (ts : TS) (t : Nat) (n m : Int) (h : t < ts.length) (h2 : 0 < (thr ts t).stack.length) : goTo (goTo ts t n) t m = goTo ts t m := by
  have e := goTo_thr ts t n h
  have e2 := goTo_top ts t n h h2
  show (goTo ts t n).set t ⟨(thr (goTo ts t n) t).stack.set ((thr (goTo ts t n) t).stack.length - 1) ⟨(topF (thr (goTo ts t n) t).stack).func, m⟩, (thr (goTo ts t n) t).slots⟩ = _
  rw [e2, e]
  unfold goTo
  simp
theorem top_eq {p : api_Program} {B : Nat} {ts : TS} (hw : WF p B ts) (hB : B ≤ 1000000) (ow : Nat → Int) (t : Nat) (ht : t < ts.length) (h2 : 0 < (thr ts t).stack.length) (a b c d : Int) : sem_doing_top ts ow (t : Int) a b c d = some (t, (thr ts t).stack.length - 1) := by
  have hd := dec_eq h2 (by have := hw.hi t ht; omega)
  have hd' : iSub (((List.getD ts t d_sem_Thread).stack.length : Nat) : Int) 1 = (((List.getD ts t d_sem_Thread).stack.length - 1 : Nat) : Int) := hd
  have h2' : 0 < (List.getD ts t d_sem_Thread).stack.length := h2
  unfold sem_doing_top sem_doing_thread
  rw [if_pos (decide_eq_true (by omega)), if_pos (decide_eq_true (by omega)), Int.toNat_natCast, bind_some rfl, hd', if_pos (decide_eq_true (by omega)), if_pos (decide_eq_true (by omega)), Int.toNat_natCast]
theorem thread_eq (ts : TS) (ow : Nat → Int) (t : Nat) (ht : t < ts.length) (a b c d : Int) (hl : ts.length ≤ 1000000) : sem_doing_thread ts ow (t : Int) a b c d = some t := by
  unfold sem_doing_thread
  rw [if_pos (decide_eq_true (by omega)), if_pos (decide_eq_true (by omega)), Int.toNat_natCast]
theorem wf_goTo {p : api_Program} {B : Nat} {ts : TS} (hw : WF p B ts) {t : Nat} (ht : t < ts.length) {n : Int} (h2 : 0 < (thr ts t).stack.length) (hn : 0 ≤ n ∧ n < ((List.getD p.funcs (topF (thr ts t).stack).func.toNat []).length : Int)) : WF p B (goTo ts t n) := by
  refine ⟨by rw [goTo_len]; exact hw.len, fun j hj => ?_, fun j hj x hx => ?_⟩
  · rw [goTo_len] at hj
    unfold goTo
    rw [thr_set _ _ _ ht]
    split
    · simp only [List.length_set]
      exact hw.hi t ht
    · exact hw.hi j hj
  · rw [goTo_len] at hj
    unfold goTo at hx
    rw [thr_set _ _ _ ht] at hx
    split at hx
    · rcases List.mem_or_eq_of_mem_set hx with h | h
      · exact hw.fr t ht x h
      · rw [h]
        exact ⟨(hw.fr t ht _ (top_mem h2)).f0, hn⟩
    · exact hw.fr j hj x hx
theorem wf_mono {p : api_Program} {B C : Nat} {ts : TS} (hw : WF p B ts) (h : B ≤ C) : WF p C ts := ⟨hw.len, fun t ht => Nat.le_trans (hw.hi t ht) h, hw.fr⟩
/-- What enables a step. -/
structure Goes (p : api_Program) (ts : TS) (ow : Nat → Int) (t : Nat) : Prop where
  lt : t < ts.length
  up : 0 < (thr ts t).stack.length
  lock : (ndF p (topF (thr ts t).stack)).kind = 3 → ow (ndF p (topF (thr ts t).stack)).arg.toNat = 0
  join : (ndF p (topF (thr ts t).stack)).kind = 6 → (thr ts t).slots (ndF p (topF (thr ts t).stack)).arg.toNat = 0 ∨ alive ts (iSub ((thr ts t).slots (ndF p (topF (thr ts t).stack)).arg.toNat) 1) = false
  spawn : (ndF p (topF (thr ts t).stack)).kind = 5 → ts.length < 8
theorem goes_of {p : api_Program} {ts : TS} {ow : Nat → Int} {w : Int} (h : enB p ts ow w = true) : ∃ t : Nat, w = (t : Int) ∧ Goes p ts ow t := by
  unfold enB at h
  rw [Bool.and_eq_true] at h
  obtain ⟨h1, h2⟩ := h
  obtain ⟨a0, a1, a2⟩ := alive_iff.1 h1
  obtain ⟨t, rfl⟩ : ∃ t : Nat, w = (t : Int) := ⟨w.toNat, by omega⟩
  rw [Int.toNat_natCast] at a2 h2
  simp only [] at h2
  refine ⟨t, rfl, by omega, a2, fun k => ?_, fun k => ?_, fun k => ?_⟩
  · rw [if_pos k] at h2; exact beq_iff_eq.1 h2
  · rw [if_neg (by omega), if_pos k, Bool.or_eq_true, Bool.not_eq_true'] at h2
    exact h2.imp beq_iff_eq.1 id
  · rw [if_neg (by omega), if_neg (by omega), if_pos k] at h2
    exact of_decide_eq_true h2
theorem next_ok {p : api_Program} (hg : Good p) {x : sem_Frame} (h : FrOk p x) (w : Bool) (h9 : (ndF p x).kind ≠ 9) : 0 ≤ (if (ndF p x).kind = 8 ∧ w = true then (ndF p x).alt else (ndF p x).next) ∧ (if (ndF p x).kind = 8 ∧ w = true then (ndF p x).alt else (ndF p x).next) < ((List.getD p.funcs x.func.toNat []).length : Int) := by
  have hok := nodeOk_at hg h
  have h0 := h.n0
  split
  · rename_i h8
    have := hok.alt h8.1
    omega
  · have := hok.next h9
    omega
theorem wf_step {p : api_Program} (hg : Good p) {B : Nat} {ts : TS} (hw : WF p B ts) {ow : Nat → Int} {t : Nat} (h : Goes p ts ow t) (way : Bool) : WF p (B + 1) (stepP p ts ow t way).2 := by
  have ht := h.lt
  have hfr := hw.fr t ht _ (top_mem h.up)
  have hok := nodeOk_at hg hfr
  unfold stepP
  simp only []
  by_cases k9 : (ndF p (topF (thr ts t).stack)).kind = 9
  · rw [if_pos k9]
    refine ⟨by simp [hw.len], fun j hj => ?_, fun j hj x hx => ?_⟩
    · simp only [List.length_set] at hj
      simp only [thr_set _ _ _ ht]
      split
      · have := hw.hi t ht
        simp only [List.length_take]
        omega
      · have := hw.hi j hj; omega
    · simp only [List.length_set] at hj
      simp only [thr_set _ _ _ ht] at hx
      split at hx
      · exact hw.fr t ht x (List.mem_of_mem_take hx)
      · exact hw.fr j hj x hx
  · rw [if_neg k9]
    have hnx := next_ok hg hfr way k9
    generalize hN : (if (ndF p (topF (thr ts t).stack)).kind = 8 ∧ way = true then (ndF p (topF (thr ts t).stack)).alt else (ndF p (topF (thr ts t).stack)).next) = nx at hnx
    have hw1 := wf_goTo hw ht h.up hnx
    have hl1 := goTo_len ts t nx
    have new : ∀ a : Int, 0 ≤ a ∧ a < p.funcs.length → FrOk p ⟨a, 0⟩ := fun a ha => by
      obtain ⟨f, rfl⟩ : ∃ f : Nat, a = (f : Int) := ⟨a.toNat, by omega⟩
      refine ⟨ha, Int.le_refl _, ?_⟩
      have := (hg.len f (by omega)).1
      simp only [Int.toNat_natCast]
      omega
    by_cases k3 : (ndF p (topF (thr ts t).stack)).kind = 3
    · rw [if_pos k3]; exact wf_mono hw1 (by omega)
    rw [if_neg k3]
    by_cases k4 : (ndF p (topF (thr ts t).stack)).kind = 4
    · rw [if_pos k4]; exact wf_mono hw1 (by omega)
    rw [if_neg k4]
    by_cases k5 : (ndF p (topF (thr ts t).stack)).kind = 5
    · rw [if_pos k5]
      have h8 := h.spawn k5
      have ha := hok.spawn k5
      have htl : t < (goTo ts t nx).length := by omega
      refine ⟨by simp [hl1]; omega, fun j hj => ?_, fun j hj x hx => ?_⟩
      · simp only [List.length_append, List.length_set, List.length_singleton, hl1] at hj
        rcases Nat.lt_or_ge j ts.length with hj' | hj'
        · have e : thr ((goTo ts t nx).set t ⟨(thr (goTo ts t nx) t).stack, upd (thr (goTo ts t nx) t).slots (ndF p (topF (thr ts t).stack)).alt.toNat ((ts.length : Int) + 1)⟩ ++ [⟨[⟨(ndF p (topF (thr ts t).stack)).arg, 0⟩], fun _ => 0⟩]) j = thr ((goTo ts t nx).set t ⟨(thr (goTo ts t nx) t).stack, upd (thr (goTo ts t nx) t).slots (ndF p (topF (thr ts t).stack)).alt.toNat ((ts.length : Int) + 1)⟩) j := by
            exact thr_app_l _ _ _ (by simp only [List.length_set]; omega)
          rw [e, thr_set _ _ _ htl]
          split
          · have := hw1.hi t htl; simp only []; omega
          · have := hw1.hi j (by omega); omega
        · have e : thr ((goTo ts t nx).set t ⟨(thr (goTo ts t nx) t).stack, upd (thr (goTo ts t nx) t).slots (ndF p (topF (thr ts t).stack)).alt.toNat ((ts.length : Int) + 1)⟩ ++ [⟨[⟨(ndF p (topF (thr ts t).stack)).arg, 0⟩], fun _ => 0⟩]) j = ⟨[⟨(ndF p (topF (thr ts t).stack)).arg, 0⟩], fun _ => 0⟩ := by
            exact thr_app_r _ _ _ (by simp only [List.length_set]; omega)
          rw [e]
          simp
      · simp only [List.length_append, List.length_set, List.length_singleton, hl1] at hj
        rcases Nat.lt_or_ge j ts.length with hj' | hj'
        · have e : thr ((goTo ts t nx).set t ⟨(thr (goTo ts t nx) t).stack, upd (thr (goTo ts t nx) t).slots (ndF p (topF (thr ts t).stack)).alt.toNat ((ts.length : Int) + 1)⟩ ++ [⟨[⟨(ndF p (topF (thr ts t).stack)).arg, 0⟩], fun _ => 0⟩]) j = thr ((goTo ts t nx).set t ⟨(thr (goTo ts t nx) t).stack, upd (thr (goTo ts t nx) t).slots (ndF p (topF (thr ts t).stack)).alt.toNat ((ts.length : Int) + 1)⟩) j := by
            exact thr_app_l _ _ _ (by simp only [List.length_set]; omega)
          rw [e, thr_set _ _ _ htl] at hx
          split at hx
          · exact hw1.fr t htl x hx
          · exact hw1.fr j (by omega) x hx
        · have e : thr ((goTo ts t nx).set t ⟨(thr (goTo ts t nx) t).stack, upd (thr (goTo ts t nx) t).slots (ndF p (topF (thr ts t).stack)).alt.toNat ((ts.length : Int) + 1)⟩ ++ [⟨[⟨(ndF p (topF (thr ts t).stack)).arg, 0⟩], fun _ => 0⟩]) j = ⟨[⟨(ndF p (topF (thr ts t).stack)).arg, 0⟩], fun _ => 0⟩ := by
            exact thr_app_r _ _ _ (by simp only [List.length_set]; omega)
          rw [e] at hx
          rw [List.mem_singleton.1 hx]
          exact new _ ⟨ha.1, ha.2.1⟩
    rw [if_neg k5]
    by_cases k7 : (ndF p (topF (thr ts t).stack)).kind = 7
    · rw [if_pos k7]
      have ha := hok.call k7
      have htl : t < (goTo ts t nx).length := by omega
      refine ⟨by simp [hl1, hw.len], fun j hj => ?_, fun j hj x hx => ?_⟩
      · simp only [List.length_set, hl1] at hj
        simp only [thr_set _ _ _ htl]
        split
        · have := hw1.hi t htl; simp only [List.length_append, List.length_singleton]; omega
        · have := hw1.hi j (by omega); omega
      · simp only [List.length_set, hl1] at hj
        simp only [thr_set _ _ _ htl] at hx
        split at hx
        · rcases List.mem_append.1 hx with hx | hx
          · exact hw1.fr t htl x hx
          · rw [List.mem_singleton.1 hx]; exact new _ ha
        · exact hw1.fr j (by omega) x hx
    · rw [if_neg k7]; exact wf_mono hw1 (by omega)
theorem iadd1 (t : Nat) (h : t ≤ 1000000) : iAdd (t : Int) 1 = (t : Int) + 1 := iAdd_eq (by omega) (by omega)
theorem back_eq {p : api_Program} {B : Nat} {ts : TS} (hw : WF p B ts) (hB : B ≤ 1000000) (ow : Nat → Int) (t : Nat) (ht : t < ts.length) (h2 : 0 < (thr ts t).stack.length) (a b c d : Int) : sem_doing_back ts ow (t : Int) a b c d = some (ts.set t ⟨(thr ts t).stack.take ((thr ts t).stack.length - 1), (thr ts t).slots⟩) := by
  have hl := hw.len
  have hd := dec_eq h2 (by have := hw.hi t ht; omega)
  have hd' : iSub (((List.getD ts t d_sem_Thread).stack.length : Nat) : Int) 1 = (((List.getD ts t d_sem_Thread).stack.length - 1 : Nat) : Int) := hd
  have h2' : 0 < (List.getD ts t d_sem_Thread).stack.length := h2
  unfold sem_doing_back
  rw [bind_some (thread_eq ts ow t ht a b c d (by omega)), hd', if_pos (decide_eq_true (by omega)), if_pos (decide_eq_true (by omega)), if_pos (decide_eq_true ht), Int.toNat_natCast]
theorem lock_eq (ts : TS) (ow : Nat → Int) (t : Nat) (ht : t ≤ 8) (a b c d : Int) (h0 : 0 ≤ b) (h1 : b < 16) : sem_doing_lock ts ow (t : Int) a b c d = some (upd ow b.toNat ((t : Int) + 1)) := by
  unfold sem_doing_lock
  rw [if_pos (decide_eq_true h0), if_pos (decide_eq_true (by omega)), iadd1 t (by omega)]
theorem unlock_eq (ts : TS) (ow : Nat → Int) (t : Nat) (ht : t ≤ 8) (a b c d : Int) (h0 : 0 ≤ b) (h1 : b < 16) : sem_doing_unlock ts ow (t : Int) a b c d = some (if ow b.toNat = (t : Int) + 1 then upd ow b.toNat 0 else ow) := by
  unfold sem_doing_unlock
  rw [if_pos (decide_eq_true h0), if_pos (decide_eq_true (by omega)), iadd1 t (by omega)]
  by_cases h : ow b.toNat = (t : Int) + 1
  · rw [if_pos (eqT h), if_pos h]
  · rw [if_neg (eqF h), if_neg h]
theorem spawn_eq (ts : TS) (ow : Nat → Int) (t : Nat) (ht : t < ts.length) (hl : ts.length ≤ 8) (a b c d : Int) (h0 : 0 ≤ d) (h1 : d < 8) : sem_doing_spawn ts ow (t : Int) a b c d = some (ts.set t ⟨(thr ts t).stack, upd (thr ts t).slots d.toNat ((ts.length : Int) + 1)⟩ ++ [⟨[⟨b, 0⟩], fun _ => 0⟩]) := by
  unfold sem_doing_spawn
  rw [bind_some (thread_eq ts ow t ht a b c d (by omega)), if_pos (decide_eq_true h0), if_pos (decide_eq_true (by omega)), if_pos (decide_eq_true ht), bind_some (show sem_begin b = some (fun _ => 0, [sem_Frame.mk b 0]) from rfl), if_pos (Nat.ble_eq_true_of_le (by simp only [List.length_singleton, reach]; omega)), iadd1 _ (by omega)]
theorem call_eq {p : api_Program} {B : Nat} {ts : TS} (hw : WF p B ts) (hB : B ≤ 1000000) (ow : Nat → Int) (t : Nat) (ht : t < ts.length) (a b c d : Int) : sem_doing_call ts ow (t : Int) a b c d = some (ts.set t ⟨(thr ts t).stack ++ [⟨b, 0⟩], (thr ts t).slots⟩) := by
  have hl := hw.len
  have hh : (List.getD ts t d_sem_Thread).stack.length ≤ B := hw.hi t ht
  unfold sem_doing_call
  rw [bind_some (thread_eq ts ow t ht a b c d (by omega)), if_pos (Nat.ble_eq_true_of_le (by simp only [List.length_singleton, reach]; omega)), if_pos (decide_eq_true ht)]
theorem fin10 {k : Int} (h : 0 ≤ k ∧ k ≤ 9) (h9 : k ≠ 9) : k = 0 ∨ k = 1 ∨ k = 2 ∨ k = 3 ∨ k = 4 ∨ k = 5 ∨ k = 6 ∨ k = 7 ∨ k = 8 := by omega
theorem step_eq {p : api_Program} (hg : Good p) {B : Nat} {ts : TS} (hw : WF p B ts) (hB : B ≤ 1000000) (ow : Nat → Int) (x : api_Pick) : sem_Config_Step ⟨ts, ow⟩ p x = some (if enB p ts ow x.who = true then stepP p ts ow x.who.toNat x.way else (ow, ts)) := by
  have hl := hw.len
  unfold sem_Config_Step
  rw [bind_some (enabled_eq hg hw hB ow x.who)]
  by_cases he : enB p ts ow x.who = true
  · obtain ⟨t, hwho, hG⟩ := goes_of he
    rw [if_pos he, he, if_neg (by decide), bind_some (copied_eq hw hB ow), bind_some (semat_eq hw hB ow x.who), hwho, Int.toNat_natCast]
    have ht := hG.lt
    have ha : alive ts (t : Int) = true := alive_iff.2 ⟨by omega, by omega, by rw [Int.toNat_natCast]; exact hG.up⟩
    have e : atP p ts (t : Int) = (ndF p (topF (thr ts t).stack), true) := by
      unfold atP; rw [if_pos ha, Int.toNat_natCast]
    rw [e]
    have hfr := hw.fr t ht _ (top_mem hG.up)
    have hok := nodeOk_at hg hfr
    have hnx := fun w h9 => next_ok hg hfr w h9
    unfold stepP
    generalize ndF p (topF (thr ts t).stack) = n at hok hnx ⊢
    obtain ⟨k, arg, next, alt⟩ := n
    have hlk := hg.locks
    have hsl := hg.slots
    simp only []
    have hkind : 0 ≤ k ∧ k ≤ 9 := hok.kind
    by_cases k9 : k = 9
    · rw [if_pos (eqT k9), if_pos k9, bind_some (back_eq hw hB ow t ht hG.up _ _ _ _)]
    · have hlock : k = 3 ∨ k = 4 → 0 ≤ arg ∧ arg < p.locks := hok.lock
      have hspawn : k = 5 → 0 ≤ arg ∧ arg < p.funcs.length ∧ 0 ≤ alt ∧ alt < p.slots := hok.spawn
      have hlt1 : (thr ts t).stack.length - 1 < (List.getD ts t d_sem_Thread).stack.length := Nat.sub_lt hG.up (by decide)
      rw [if_neg (eqF k9), if_neg k9, bind_some (top_eq hw hB ow t ht hG.up _ _ _ _)]
      simp only []
      rw [if_pos (decide_eq_true ht), if_pos (decide_eq_true hlt1)]
      have fin : ∀ (T : TS) (nx : Int), T = goTo ts t nx → WF p B T → (if (decide ((0 : Int) ≤ k)) = true then if (decide ((k : Int) < ((10 : Nat) : Int))) = true then if (decide (k = ((0 : Nat) : Int))) = true then some (ow, T) else if (decide (k = ((1 : Nat) : Int))) = true then some (ow, T) else if (decide (k = ((2 : Nat) : Int))) = true then some (ow, T) else if (decide (k = ((3 : Nat) : Int))) = true then bind (sem_doing_lock T ow (t : Int) k arg next alt) fun v51 => some (v51, T) else if (decide (k = ((4 : Nat) : Int))) = true then bind (sem_doing_unlock T ow (t : Int) k arg next alt) fun v54 => some (v54, T) else if (decide (k = ((5 : Nat) : Int))) = true then bind (sem_doing_spawn T ow (t : Int) k arg next alt) fun v57 => some (ow, v57) else if (decide (k = ((6 : Nat) : Int))) = true then some (ow, T) else if (decide (k = ((7 : Nat) : Int))) = true then bind (sem_doing_call T ow (t : Int) k arg next alt) fun v61 => some (ow, v61) else if (decide (k = ((8 : Nat) : Int))) = true then some (ow, T) else if (decide (k = ((9 : Nat) : Int))) = true then bind (sem_doing_nothing T ow (t : Int) k arg next alt) fun v65 => some (ow, T) else none else none else none) =
          some (if k = 3 then (upd ow arg.toNat ((t : Int) + 1), goTo ts t nx) else if k = 4 then ((if ow arg.toNat = (t : Int) + 1 then upd ow arg.toNat 0 else ow), goTo ts t nx) else if k = 5 then (ow, (goTo ts t nx).set t ⟨(thr (goTo ts t nx) t).stack, upd (thr (goTo ts t nx) t).slots alt.toNat ((ts.length : Int) + 1)⟩ ++ [⟨[⟨arg, 0⟩], fun _ => 0⟩]) else if k = 7 then (ow, (goTo ts t nx).set t ⟨(thr (goTo ts t nx) t).stack ++ [⟨arg, 0⟩], (thr (goTo ts t nx) t).slots⟩) else (ow, goTo ts t nx)) := by
        intro T nx hT hWT
        have hTl : T.length = ts.length := by rw [hT]; exact goTo_len _ _ _
        rw [← hT]
        rw [if_pos (decide_eq_true hkind.1), if_pos (decide_eq_true (by omega))]
        rcases fin10 hkind k9 with h | h | h | h | h | h | h | h | h <;> subst h
        · rfl
        · rfl
        · rfl
        · have := hlock (.inl rfl)
          rw [if_neg (by decide), if_neg (by decide), if_neg (by decide), if_pos (by decide), bind_some (lock_eq T ow t (by omega) _ _ _ _ this.1 (by omega))]
          rfl
        · have := hlock (.inr rfl)
          rw [if_neg (by decide), if_neg (by decide), if_neg (by decide), if_neg (by decide), if_pos (by decide), bind_some (unlock_eq T ow t (by omega) _ _ _ _ this.1 (by omega))]
          rfl
        · have := hspawn rfl
          rw [if_neg (by decide), if_neg (by decide), if_neg (by decide), if_neg (by decide), if_neg (by decide), if_pos (by decide), bind_some (spawn_eq T ow t (by omega) (by omega) _ _ _ _ this.2.2.1 (by omega)), hTl]
          rfl
        · rfl
        · rw [if_neg (by decide), if_neg (by decide), if_neg (by decide), if_neg (by decide), if_neg (by decide), if_neg (by decide), if_neg (by decide), if_pos (by decide), bind_some (call_eq hWT hB ow t (by omega) _ _ _ _)]
          rfl
        · rfl
      by_cases k8 : k = 8
      · rw [if_pos (eqT k8)]
        have hn0 := hnx false k9
        rw [if_neg (fun h => by cases h.2)] at hn0
        have hw1 := wf_goTo hw ht hG.up hn0
        cases hway : x.way with
        | true =>
          have hn1 := hnx true k9
          rw [if_pos ⟨k8, rfl⟩] at hn1
          have hl1 := goTo_len ts t next
          have ht1 : t < (goTo ts t next).length := by omega
          have hup1 : 0 < (thr (goTo ts t next) t).stack.length := by rw [goTo_thr _ _ _ ht]; simp only [List.length_set]; exact hG.up
          have hlt2 : (thr (goTo ts t next) t).stack.length - 1 < (List.getD (goTo ts t next) t d_sem_Thread).stack.length := Nat.sub_lt hup1 (by decide)
          have q := top_eq hw1 hB ow t ht1 hup1 k arg next alt
          have f1 := fin (goTo (goTo ts t next) t alt) alt (goTo_two ts t next alt ht hG.up) (by rw [goTo_two ts t next alt ht hG.up]; exact wf_goTo hw ht hG.up hn1)
          rw [if_pos rfl, if_pos (show k = 8 ∧ true = true from ⟨k8, rfl⟩), bind_some (show sem_doing_top (List.set ts t _) ow (t : Int) k arg next alt = _ from q)]
          simp only []
          rw [if_pos (decide_eq_true (show t < (goTo ts t next).length from ht1)), if_pos (decide_eq_true hlt2)]
          exact f1
        | false =>
          rw [if_neg (show ¬ (false = true) by decide), if_neg (show ¬ (k = 8 ∧ false = true) from fun h => by cases h.2)]
          exact fin (goTo ts t next) next rfl hw1
      · rw [if_neg (eqF k8), if_neg (show ¬ (k = 8 ∧ x.way = true) from fun h => k8 h.1)]
        have hn0 := hnx x.way k9
        rw [if_neg (fun h => k8 h.1)] at hn0
        exact fin (goTo ts t next) next rfl (wf_goTo hw ht hG.up hn0)
  · rw [if_neg he]
    rw [Bool.not_eq_true] at he
    rw [he, if_pos (by decide), bind_some (copied_eq hw hB ow)]
theorem start_good {p : api_Program} (hk : prog_Check p = some (0, 0, 0)) : sem_Start p = some (fun _ => 0, 0, [⟨[⟨0, 0⟩], fun _ => 0⟩]) := by
  unfold sem_Start
  rw [bind_some hk, if_neg (by decide), bind_some (show sem_begin 0 = some (fun _ => 0, [sem_Frame.mk 0 0]) from rfl)]
theorem start_bad {p : api_Program} {a b e : Int} (hk : prog_Check p = some (a, b, e)) (he : e ≠ 0) : sem_Start p = some (fun _ => 0, e, []) := by
  unfold sem_Start
  rw [bind_some hk, if_pos (show (e != 0) = true by simpa using he)]
theorem wf_start {p : api_Program} (hg : Good p) : WF p 1 [⟨[⟨0, 0⟩], fun _ => 0⟩] := by
  have hn := hg.funcs
  have h0 := (hg.len 0 (by omega)).1
  refine ⟨by simp, fun t ht => ?_, fun t ht x hx => ?_⟩
  · have : t = 0 := by simp at ht; omega
    subst this
    simp [thr, List.getD]
  · have : t = 0 := by simp at ht; omega
    subst this
    rw [List.mem_singleton.1 hx]
    refine ⟨⟨Int.le_refl _, by simp only []; omega⟩, Int.le_refl _, ?_⟩
    show (0 : Int) < ((List.getD p.funcs (0 : Int).toNat []).length : Int)
    rw [show (0 : Int).toNat = 0 from rfl]
    omega
def Hl (ow : Nat → Int) (t b : Nat) : Prop := b < 16 ∧ ow b = (t : Int) + 1
theorem held_l3 (ow : Nat → Int) (t : Nat) (ht : t ≤ 1000) : ∀ (m i : Nat) (x : W32), i + m = 16 → ∃ y, sem_Config_Held_l3 (t : Int) x ow (i : Int) = some y ∧ ∀ b, y.getLsbD b = true ↔ x.getLsbD b = true ∨ (i ≤ b ∧ Hl ow t b)
  | 0, i, x, h => by
    rw [sem_Config_Held_l3, if_neg (by simp only [decide_eq_true_eq]; omega)]
    exact ⟨x, rfl, fun b => ⟨.inl, fun h => h.elim id fun h => by have := h.2.1; omega⟩⟩
  | m + 1, i, x, h => by
    rw [sem_Config_Held_l3, if_pos (decide_eq_true (by omega)), if_pos (decide_eq_true (by omega)), if_pos (decide_eq_true (by omega)), if_pos (decide_eq_true (by omega)), Int.toNat_natCast, iadd1 t (by omega), inc i (by omega)]
    by_cases c : ow i = (t : Int) + 1
    · rw [if_pos (eqT c), bind_some (one_eq _)]
      obtain ⟨y, y1, y2⟩ := held_l3 ow t ht m (i + 1) (x ||| one (i : Int)) (by omega)
      refine ⟨y, y1, fun b => ?_⟩
      rw [y2, BitVec.getLsbD_or, Bool.or_eq_true, one_bit]
      constructor
      · rintro ((h1 | h1) | ⟨h1, h2⟩)
        · exact .inl h1
        · have : b = i := by omega
          subst this
          exact .inr ⟨Nat.le_refl _, by omega, c⟩
        · exact .inr ⟨by omega, h2⟩
      · rintro (h1 | ⟨h1, h2⟩)
        · exact .inl (.inl h1)
        · rcases Nat.eq_or_lt_of_le h1 with rfl | h3
          · exact .inl (.inr ⟨rfl, by omega⟩)
          · exact .inr ⟨h3, h2⟩
    · rw [if_neg (eqF c)]
      obtain ⟨y, y1, y2⟩ := held_l3 ow t ht m (i + 1) x (by omega)
      refine ⟨y, y1, fun b => ?_⟩
      rw [y2]
      constructor
      · rintro (h1 | ⟨h1, h2⟩)
        · exact .inl h1
        · exact .inr ⟨by omega, h2⟩
      · rintro (h1 | ⟨h1, h2⟩)
        · exact .inl h1
        · rcases Nat.eq_or_lt_of_le h1 with rfl | h3
          · exact absurd h2.2 c
          · exact .inr ⟨h3, h2⟩
theorem held_eq (ts : TS) (ow : Nat → Int) (t : Nat) (ht : t ≤ 1000) : ∃ y, sem_Config_Held ⟨ts, ow⟩ (t : Int) = some y ∧ ∀ b, y.getLsbD b = true ↔ Hl ow t b := by
  obtain ⟨y, y1, y2⟩ := held_l3 ow t ht 16 0 0#32 rfl
  rw [show ((0 : Nat) : Int) = 0 from rfl] at y1
  unfold sem_Config_Held
  rw [bind_some y1]
  exact ⟨y, rfl, fun b => by rw [y2]; simp⟩
abbrev fr (s : List sem_Frame) (i : Nat) : sem_Frame := List.getD s i d_sem_Frame
abbrev fn (s : List sem_Frame) (i : Nat) : Nat := (fr s i).func.toNat
abbrev hd (l : List api_Section) (x : sem_Frame) : W32 := hld l x.func.toNat x.node.toNat
/-- The places below the top: what is told of them is told of the exit of what they call, or held, and stays. -/
def CI (p : api_Program) (l : List api_Section) (u : List W32) (H : Nat → Prop) (s : List sem_Frame) : Prop :=
  ∀ i, i + 1 < s.length → Edge p.funcs (fn s i) (fn s (i + 1)) ∧ ∀ b, (hd l (fr s i)).getLsbD b = true → (sec l (fn s (i + 1))).exit.getLsbD b = true ∨ (H b ∧ ¬ (List.getD u (fn s (i + 1)) 0#32).getLsbD b = true)
def TI (l : List api_Section) (H : Nat → Prop) (s : List sem_Frame) : Prop := 0 < s.length → ∀ b, (hd l (topF s)).getLsbD b = true → H b
theorem ci_path {p : api_Program} {l : List api_Section} {u : List W32} {H : Nat → Prop} {s : List sem_Frame} (h : CI p l u H s) : ∀ (m i : Nat), i + m + 1 = s.length → Path p.funcs (fn s i) (fn s (s.length - 1))
  | 0, i, hi => by rw [show s.length - 1 = i by omega]; exact .refl _
  | m + 1, i, hi => .step _ _ _ (h i (by omega)).1 (ci_path h m (i + 1) (by omega))
theorem fr_set (s : List sem_Frame) (i : Nat) (x : sem_Frame) (h : i < s.length) (j : Nat) : fr (s.set i x) j = if j = i then x else fr s j := by
  unfold fr
  by_cases e : j = i
  · subst e; simp [List.getD, h]
  · have : i ≠ j := fun e' => e e'.symm
    rw [if_neg e]
    simp [List.getD, List.getElem?_set, this]
theorem fn_goTo (s : List sem_Frame) (n : Int) (h : 0 < s.length) (j : Nat) : fn (s.set (s.length - 1) ⟨(topF s).func, n⟩) j = fn s j := by
  unfold fn
  rw [fr_set _ _ _ (by omega)]
  split
  · rename_i e; subst e; rfl
  · rfl
/-- The top goes on, and locks are taken, or given back by the function at the top. -/
theorem ci_goTo {p : api_Program} {l : List api_Section} {u : List W32} {H H' : Nat → Prop} {s : List sem_Frame} (h : CI p l u H s) (n : Int) (hu : ∀ f g b, f < p.funcs.length → Path p.funcs f g → (List.getD u g 0#32).getLsbD b = true → (List.getD u f 0#32).getLsbD b = true) (hfn : ∀ i, i < s.length → fn s i < p.funcs.length) (hH : ∀ b, H b → H' b ∨ (List.getD u (fn s (s.length - 1)) 0#32).getLsbD b = true) : CI p l u H' (s.set (s.length - 1) ⟨(topF s).func, n⟩) := by
  intro i hi
  rw [List.length_set] at hi
  rw [fn_goTo s n (by omega), fn_goTo s n (by omega)]
  obtain ⟨h1, h2⟩ := h i hi
  refine ⟨h1, fun b hb => ?_⟩
  rw [fr_set _ _ _ (by omega), if_neg (by omega)] at hb
  rcases h2 b hb with h3 | ⟨h3, h4⟩
  · exact .inl h3
  · refine .inr ⟨(hH b h3).resolve_right fun hc => h4 ?_, h4⟩
    exact hu _ _ b (hfn _ hi) (ci_path h (s.length - (i + 2)) (i + 1) (by omega)) hc
theorem ti_goTo {l : List api_Section} {H : Nat → Prop} {s : List sem_Frame} (n : Int) (h : 0 < s.length) (hn : ∀ b, (hld l (topF s).func.toNat n.toNat).getLsbD b = true → H b) : TI l H (s.set (s.length - 1) ⟨(topF s).func, n⟩) := by
  intro _ b hb
  have e : topF (s.set (s.length - 1) ⟨(topF s).func, n⟩) = ⟨(topF s).func, n⟩ := by
    show fr _ _ = _
    rw [List.length_set, fr_set _ _ _ (by omega), if_pos rfl]
  rw [e] at hb
  exact hn b hb
/-- Told sections hold of threads. -/
structure MI (p : api_Program) (l : List api_Section) (u : List W32) (ts : TS) (ow : Nat → Int) : Prop where
  ci : ∀ t, t < ts.length → CI p l u (Hl ow t) (thr ts t).stack
  ti : ∀ t, t < ts.length → TI l (Hl ow t) (thr ts t).stack
theorem ci_congr {p : api_Program} {l : List api_Section} {u : List W32} {H H' : Nat → Prop} {s : List sem_Frame} (h : CI p l u H s) (hH : ∀ b, H b → H' b) : CI p l u H' s := fun i hi => ⟨(h i hi).1, fun b hb => ((h i hi).2 b hb).imp id fun h => ⟨hH b h.1, h.2⟩⟩
theorem ti_congr {l : List api_Section} {H H' : Nat → Prop} {s : List sem_Frame} (h : TI l H s) (hH : ∀ b, H b → H' b) : TI l H' s := fun h0 b hb => hH b (h h0 b hb)
theorem u_path {p : api_Program} {u : List W32} (hub : ∀ f, f < p.funcs.length → ∀ b, (List.getD u f 0#32).getLsbD b = true ↔ May p.funcs ofU f b) (hc : CallsOk p.funcs) : ∀ f g b, f < p.funcs.length → Path p.funcs f g → (List.getD u g 0#32).getLsbD b = true → (List.getD u f 0#32).getLsbD b = true := fun f g b hf hp hb => by
  have hg : g < p.funcs.length := by
    clear hb
    induction hp with
    | refl a => exact hf
    | step a c d e h ih =>
      obtain ⟨i, h1, h2, h3⟩ := e
      have := hc a i hf h1 h2
      exact ih (by omega)
  obtain ⟨x, x1, x2⟩ := (hub g hg b).1 hb
  exact (hub f hf b).2 ⟨x, hp.trans x1, x2⟩
theorem fr_app_l (s : List sem_Frame) (x : sem_Frame) (i : Nat) (h : i < s.length) : fr (s ++ [x]) i = fr s i := by
  unfold fr
  simp [List.getD, List.getElem?_append_left h]
theorem fr_app_r (s : List sem_Frame) (x : sem_Frame) (i : Nat) (h : i = s.length) : fr (s ++ [x]) i = x := by
  unfold fr
  subst h
  simp [List.getD]
/-- One more place: the one below it is told of what it calls. -/
theorem ci_call {p : api_Program} {l : List api_Section} {u : List W32} {H : Nat → Prop} {s : List sem_Frame} (h : CI p l u H s) (h0 : 0 < s.length) (x : sem_Frame) (he : Edge p.funcs (fn s (s.length - 1)) x.func.toNat) (ht : ∀ b, (hd l (topF s)).getLsbD b = true → (sec l x.func.toNat).exit.getLsbD b = true ∨ (H b ∧ ¬ (List.getD u x.func.toNat 0#32).getLsbD b = true)) : CI p l u H (s ++ [x]) := by
  intro i hi
  rw [List.length_append, List.length_singleton] at hi
  unfold fn
  rcases Nat.lt_or_ge (i + 1) s.length with hl | hl
  · rw [fr_app_l _ _ _ (by omega), fr_app_l _ _ _ hl]
    exact h i hl
  · rw [fr_app_l _ _ _ (by omega), fr_app_r _ _ _ (by omega), show i = s.length - 1 by omega]
    exact ⟨he, ht⟩
theorem mi_step {p : api_Program} (hg : Good p) {l : List api_Section} (hs : Shp p l) {u : List W32} {fm : W32} (hk : Know p u fm) (hF : Fine p l u fm) {B : Nat} {ts : TS} (hw : WF p B ts) {ow : Nat → Int} (hi : MI p l u ts ow) {t : Nat} (h : Goes p ts ow t) (way : Bool) : MI p l u (stepP p ts ow t way).2 (stepP p ts ow t way).1 := by
  have ht := h.lt
  have hup := h.up
  have hfr := hw.fr t ht _ (top_mem hup)
  have hok := nodeOk_at hg hfr
  have hnx := next_ok hg hfr way
  have f0 := hfr.f0
  have n0 := hfr.n0
  have hci := hi.ci t ht
  have hti := hi.ti t ht hup
  have hu := u_path hk.ub hg.calls
  have hfn : ∀ i, i < (thr ts t).stack.length → fn (thr ts t).stack i < p.funcs.length := fun i hi => by
    have := (hw.fr t ht _ (show fr (thr ts t).stack i ∈ (thr ts t).stack by unfold fr; rw [getD_el _ _ _ hi]; exact List.getElem_mem _)).f0
    unfold fn
    omega
  obtain ⟨e1, e2, e3⟩ := nodeW_zero ((hF (topF (thr ts t).stack).func.toNat (by omega)).2.2 (topF (thr ts t).stack).node.toNat (by omega))
  have e3 : ∀ y ∈ succ (ndF p (topF (thr ts t).stack)), ∀ b, (hld l (topF (thr ts t).stack).func.toNat y.toNat).getLsbD b = true → (bhd u l (ndF p (topF (thr ts t).stack)) (hd l (topF (thr ts t).stack))).getLsbD b = true := fun y hy => subb_iff.1 (List.all_eq_true.1 e3 y hy)
  have e1 : (ndF p (topF (thr ts t).stack)).kind = 7 → ∀ b, (sec l (ndF p (topF (thr ts t).stack)).arg.toNat).entry.getLsbD b = true → (hd l (topF (thr ts t).stack)).getLsbD b = true := fun k => subb_iff.1 (e1 k)
  have e2 : (ndF p (topF (thr ts t).stack)).kind = 9 → ∀ b, (sec l (topF (thr ts t).stack).func.toNat).exit.getLsbD b = true → (hd l (topF (thr ts t).stack)).getLsbD b = true := fun k => subb_iff.1 (e2 k)
  have hsuc : (ndF p (topF (thr ts t).stack)).kind ≠ 9 → (if (ndF p (topF (thr ts t).stack)).kind = 8 ∧ way = true then (ndF p (topF (thr ts t).stack)).alt else (ndF p (topF (thr ts t).stack)).next) ∈ succ (ndF p (topF (thr ts t).stack)) := fun k9 => by
    unfold succ
    rw [if_neg k9]
    by_cases h8 : (ndF p (topF (thr ts t).stack)).kind = 8
    · rw [if_pos h8]
      split <;> simp
    · rw [if_neg h8, if_neg (fun h => h8 h.1)]
      simp
  have top : fn (thr ts t).stack ((thr ts t).stack.length - 1) = (topF (thr ts t).stack).func.toNat := rfl
  have hun : (ndF p (topF (thr ts t).stack)).kind = 4 → (List.getD u (topF (thr ts t).stack).func.toNat 0#32).getLsbD (ndF p (topF (thr ts t).stack)).arg.toNat = true := fun k => by
    have ha := hok.lock (.inr k)
    have hlk := hg.locks
    refine (hk.ub _ (by omega) _).2 ⟨_, .refl _, (topF (thr ts t).stack).node.toNat, by omega, ?_⟩
    show (ofU (ndF p (topF (thr ts t).stack))).getLsbD _ = true
    unfold ofU
    rw [if_pos k, one_bit]
    omega
  have hedge : (ndF p (topF (thr ts t).stack)).kind = 7 → Edge p.funcs (topF (thr ts t).stack).func.toNat (ndF p (topF (thr ts t).stack)).arg.toNat := fun k => by
    have ha := hok.call k
    exact ⟨(topF (thr ts t).stack).node.toNat, by omega, k, by show (ndF p (topF (thr ts t).stack)).arg = _; omega⟩
  have hbeg : (ndF p (topF (thr ts t).stack)).kind = 5 → ∀ b, ¬ (hld l (ndF p (topF (thr ts t).stack)).arg.toNat 0).getLsbD b = true := fun k b hb => by
    have ha := hok.spawn k
    have hfm := (hk.fb (ndF p (topF (thr ts t).stack)).arg.toNat (by omega)).2 (.inr ⟨(topF (thr ts t).stack).func.toNat, by omega, (topF (thr ts t).stack).node.toNat, by omega, k, by show (ndF p (topF (thr ts t).stack)).arg = _; omega⟩)
    obtain ⟨q1, q2, _⟩ := hF (ndF p (topF (thr ts t).stack)).arg.toNat (by omega)
    have q3 := subb_iff.1 q2 b hb
    have q4 : (sec l (ndF p (topF (thr ts t).stack)).arg.toNat).entry = 0#32 := Classical.byContradiction fun h => q1 ⟨hfm, h⟩
    rw [q4] at q3
    simp at q3
  have ho0 := h.lock
  have hent : (ndF p (topF (thr ts t).stack)).kind = 7 → ∀ b, (hld l (ndF p (topF (thr ts t).stack)).arg.toNat 0).getLsbD b = true → (sec l (ndF p (topF (thr ts t).stack)).arg.toNat).entry.getLsbD b = true := fun k => by
    have ha := hok.call k
    exact subb_iff.1 (hF (ndF p (topF (thr ts t).stack)).arg.toNat (by omega)).2.1
  unfold stepP
  simp only []
  generalize ndF p (topF (thr ts t).stack) = n at hok hnx e1 e2 e3 hsuc hun hedge hbeg hent ho0 ⊢
  obtain ⟨k, arg, next, alt⟩ := n
  simp only [] at hok hnx e1 e2 e3 hsuc hun hedge hbeg hent ho0 ⊢
  have hlk := hg.locks
  have hlock : k = 3 ∨ k = 4 → 0 ≤ arg ∧ arg < p.locks := hok.lock
  have hcall : k = 7 → 0 ≤ arg ∧ arg < p.funcs.length := hok.call
  have hspawn : k = 5 → 0 ≤ arg ∧ arg < p.funcs.length ∧ 0 ≤ alt ∧ alt < p.slots := hok.spawn
  have hb : ∀ b, (bhd u l ⟨k, arg, next, alt⟩ (hd l (topF (thr ts t).stack))).getLsbD b = true ↔ (if k = 3 then (hd l (topF (thr ts t).stack)) ||| one arg else if k = 4 then (hd l (topF (thr ts t).stack)) &&& ~~~(one arg) else if k = 7 then ((hd l (topF (thr ts t).stack)) &&& ~~~(List.getD u arg.toNat 0#32)) ||| (sec l arg.toNat).exit else (hd l (topF (thr ts t).stack))).getLsbD b = true := fun b => Iff.rfl
  by_cases k9 : k = 9
  · rw [if_pos k9]
    have lt_take : ∀ i, i < (thr ts t).stack.length - 1 → fr ((thr ts t).stack.take ((thr ts t).stack.length - 1)) i = fr (thr ts t).stack i := fun i hi => by
      unfold fr
      unfold List.getD
      rw [List.getElem?_take, if_pos hi]
    refine ⟨fun j hj => ?_, fun j hj => ?_⟩
    · simp only [List.length_set] at hj
      simp only [thr_set _ _ _ ht]
      split
      · rename_i e
        subst e
        intro i hi
        simp only [List.length_take] at hi
        have q := hci i (by omega)
        unfold fn at q ⊢
        rw [lt_take i (by omega), lt_take (i + 1) (by omega)]
        exact q
      · exact hi.ci j hj
    · simp only [List.length_set] at hj
      simp only [thr_set _ _ _ ht]
      split
      · rename_i e
        subst e
        intro h0 b hb
        simp only [List.length_take] at h0
        have et : topF ((thr ts j).stack.take ((thr ts j).stack.length - 1)) = fr (thr ts j).stack ((thr ts j).stack.length - 2) := by
          show fr _ _ = _
          rw [List.length_take, show min ((thr ts j).stack.length - 1) (thr ts j).stack.length - 1 = (thr ts j).stack.length - 2 by omega, lt_take _ (by omega)]
        rw [et] at hb
        have q := (hci ((thr ts j).stack.length - 2) (by omega)).2 b hb
        rw [show (thr ts j).stack.length - 2 + 1 = (thr ts j).stack.length - 1 by omega] at q
        rcases q with q | q
        · exact hti b (e2 k9 b q)
        · exact q.1
      · exact hi.ti j hj
  rw [if_neg k9]
  have hnx := hnx k9
  have e3 := e3 _ (hsuc k9)
  generalize (if k = 8 ∧ way = true then alt else next) = nx at hnx e3 ⊢
  have hl1 := goTo_len ts t nx
  have htl : t < (goTo ts t nx).length := by omega
  -- threads of which one has gone on, and locks that have changed
  have go : ∀ ow', (∀ b, Hl ow t b → Hl ow' t b ∨ (List.getD u (topF (thr ts t).stack).func.toNat 0#32).getLsbD b = true) → (∀ b, (bhd u l ⟨k, arg, next, alt⟩ (hd l (topF (thr ts t).stack))).getLsbD b = true → Hl ow' t b) → (∀ j b, j ≠ t → Hl ow j b → Hl ow' j b) → MI p l u (goTo ts t nx) ow' := fun ow' g1 g2 g3 => by
    refine ⟨fun j hj => ?_, fun j hj => ?_⟩
    · rw [hl1] at hj
      rw [thr_set _ _ _ ht]
      split
      · rename_i e; subst e; exact ci_goTo hci nx hu hfn g1
      · rename_i e; exact ci_congr (hi.ci j hj) fun b => g3 j b e
    · rw [hl1] at hj
      rw [thr_set _ _ _ ht]
      split
      · rename_i e; subst e; exact ti_goTo nx hup fun b hb => g2 b (e3 b hb)
      · rename_i e; exact ti_congr (hi.ti j hj) fun b => g3 j b e
  by_cases k3 : k = 3
  · rw [if_pos k3]
    have ha := hlock (.inl k3)
    have up : ∀ b, upd ow arg.toNat ((t : Int) + 1) b = if b = arg.toNat then (t : Int) + 1 else ow b := fun b => rfl
    refine go (upd ow arg.toNat ((t : Int) + 1)) (fun b hb' => .inl ⟨hb'.1, ?_⟩) (fun b hb' => ?_) (fun j b hj hb' => ⟨hb'.1, ?_⟩)
    · rw [up]
      by_cases e : b = arg.toNat
      · rw [if_pos e]
      · rw [if_neg e]; exact hb'.2
    · have := (hb b).1 hb'
      rw [if_pos k3, BitVec.getLsbD_or, Bool.or_eq_true, one_bit] at this
      rcases this with h1 | h1
      · have := hti b h1
        refine ⟨this.1, ?_⟩
        rw [up]
        by_cases e : b = arg.toNat
        · rw [if_pos e]
        · rw [if_neg e]; exact this.2
      · refine ⟨by omega, ?_⟩
        rw [up, if_pos (by omega)]
    · have := hb'.2
      rw [up, if_neg (fun e => by rw [e, ho0 k3] at this; omega)]
      exact this
  rw [if_neg k3]
  by_cases k4 : k = 4
  · rw [if_pos k4]
    have ha := hlock (.inr k4)
    have hue := hun k4
    have keep : ∀ j b, Hl ow j b → b ≠ arg.toNat ∨ j ≠ t → Hl (if ow arg.toNat = (t : Int) + 1 then upd ow arg.toNat 0 else ow) j b := fun j b h1 h2 => by
      refine ⟨h1.1, ?_⟩
      have h3 := h1.2
      split
      · rename_i e
        unfold upd
        rw [if_neg (fun e2 => by rw [e2, e] at h3; omega)]
        exact h3
      · exact h3
    refine go _ (fun b hb' => ?_) (fun b hb' => ?_) (fun j b hj hb' => keep j b hb' (.inr hj))
    · by_cases e : b = arg.toNat
      · exact .inr (by rw [e]; exact hue)
      · exact .inl (keep t b hb' (.inl e))
    · have := (hb b).1 hb'
      rw [if_neg k3, if_pos k4, BitVec.getLsbD_and, Bool.and_eq_true] at this
      refine keep t b (hti b this.1) (.inl fun e => ?_)
      have h2 := this.2
      have h4 := (one_bit arg b).2 (by omega)
      rw [BitVec.getLsbD_not, h4] at h2
      simp at h2
  rw [if_neg k4]
  have hb0 : k ≠ 7 → ∀ b, (bhd u l ⟨k, arg, next, alt⟩ (hd l (topF (thr ts t).stack))).getLsbD b = true → Hl ow t b := fun k7 b h1 => by
    have := (hb b).1 h1
    rw [if_neg k3, if_neg k4, if_neg k7] at this
    exact hti b this
  by_cases k5 : k = 5
  · rw [if_pos k5]
    have G := go ow (fun b h => .inl h) (hb0 (by omega)) (fun j b _ h => h)
    refine ⟨fun j hj => ?_, fun j hj => ?_⟩
    · rcases Nat.lt_or_ge j (goTo ts t nx).length with hj' | hj'
      · simp only []
        rw [thr_app_l _ _ _ (by simpa using hj'), thr_set _ _ _ htl]
        split
        · rename_i e; subst e; exact G.ci j hj'
        · exact G.ci j hj'
      · simp only []
        simp only [List.length_append, List.length_set, List.length_singleton] at hj
        rw [thr_app_r _ _ _ (by rw [List.length_set]; omega)]
        intro i hi
        simp only [List.length_singleton] at hi
        omega
    · rcases Nat.lt_or_ge j (goTo ts t nx).length with hj' | hj'
      · simp only []
        rw [thr_app_l _ _ _ (by simpa using hj'), thr_set _ _ _ htl]
        split
        · rename_i e; subst e; exact G.ti j hj'
        · exact G.ti j hj'
      · simp only []
        simp only [List.length_append, List.length_set, List.length_singleton] at hj
        rw [thr_app_r _ _ _ (by rw [List.length_set]; omega)]
        intro _ b h1
        exact absurd h1 (hbeg k5 b)
  rw [if_neg k5]
  by_cases k7 : k = 7
  · rw [if_pos k7]
    have ha := hcall k7
    have gtl : (thr (goTo ts t nx) t).stack = (thr ts t).stack.set ((thr ts t).stack.length - 1) ⟨(topF (thr ts t).stack).func, nx⟩ := by rw [goTo_thr _ _ _ ht]
    have gtop := goTo_top ts t nx ht hup
    refine ⟨fun j hj => ?_, fun j hj => ?_⟩
    · simp only [List.length_set] at hj
      simp only [thr_set _ _ _ htl]
      split
      · rename_i e
        subst e
        simp only []
        refine ci_call ?_ (by rw [gtl, List.length_set]; exact hup) _ ?_ fun b h1 => ?_
        · rw [gtl]
          exact ci_goTo hci nx hu hfn fun b h => .inl h
        · show Edge p.funcs (topF (thr (goTo ts j nx) j).stack).func.toNat arg.toNat
          rw [gtop]
          exact hedge k7
        · rw [gtop] at h1
          have := (hb b).1 (e3 b h1)
          rw [if_neg k3, if_neg k4, if_pos k7, BitVec.getLsbD_or, Bool.or_eq_true, BitVec.getLsbD_and, Bool.and_eq_true] at this
          rcases this with ⟨h2, h3⟩ | h2
          · refine .inr ⟨hti b h2, fun h4 => ?_⟩
            rw [BitVec.getLsbD_not] at h3
            simp only [] at h4
            rw [h4] at h3
            simp at h3
          · exact .inl h2
      · rename_i e
        have : thr (goTo ts t nx) j = thr ts j := by rw [thr_set _ _ _ ht, if_neg e]
        rw [this]
        exact hi.ci j hj
    · simp only [List.length_set] at hj
      simp only [thr_set _ _ _ htl]
      split
      · rename_i e
        subst e
        intro _ b h1
        have et : topF ((thr (goTo ts j nx) j).stack ++ [⟨arg, 0⟩]) = ⟨arg, 0⟩ := by
          show fr _ _ = _
          exact fr_app_r _ _ _ (by rw [List.length_append, List.length_singleton]; omega)
        rw [et] at h1
        exact hti b (e1 k7 b (hent k7 b h1))
      · rename_i e
        have : thr (goTo ts t nx) j = thr ts j := by rw [thr_set _ _ _ ht, if_neg e]
        rw [this]
        exact hi.ti j hj
  · rw [if_neg k7]
    exact go ow (fun b h => .inl h) (hb0 k7) (fun j b _ h => h)
/-- At the start nothing is held, and nothing is told. -/
theorem mi_start {p : api_Program} (hg : Good p) {l : List api_Section} {u : List W32} {fm : W32} (hk : Know p u fm) (hF : Fine p l u fm) (ow : Nat → Int) : MI p l u [⟨[⟨0, 0⟩], fun _ => 0⟩] ow := by
  have hn := hg.funcs
  refine ⟨fun t ht => ?_, fun t ht => ?_⟩
  · have : t = 0 := by simp at ht; omega
    subst this
    intro i hi
    simp [thr, List.getD] at hi
  · have : t = 0 := by simp at ht; omega
    subst this
    intro _ b hb
    obtain ⟨q1, q2, _⟩ := hF 0 (by omega)
    have q3 := subb_iff.1 q2 b hb
    have q4 : (sec l 0).entry = 0#32 := Classical.byContradiction fun h => q1 ⟨(hk.fb 0 (by omega)).2 (.inl rfl), h⟩
    rw [q4] at q3
    simp at q3
theorem andnot_zero {x y : W32} (h : ∀ b, x.getLsbD b = true → y.getLsbD b = true) : x &&& ~~~y = 0#32 := by
  apply BitVec.eq_of_getLsbD_eq
  intro i hi
  rw [BitVec.getLsbD_and, BitVec.getLsbD_not]
  cases e : x.getLsbD i with
  | false => simp
  | true => simp [h i e]
theorem true_h11 (p : api_Program) (hg : Good p) {l : List api_Section} (hs : Shp p l) {u : List W32} {B : Nat} (hB : B ≤ 1000000) {ts : TS} (hw : WF p B ts) {ow : Nat → Int} (hi : MI p l u ts ow) (x7 : List api_Pick) (x8 : Int) : ∀ (m j : Nat), j + m = ts.length → alibilaw22_HoldTrue_l11 l ts p.globals p.locks p.slots p.funcs ow x7 x8 (j : Int) = some .x1
  | 0, j, h => by rw [alibilaw22_HoldTrue_l11, if_neg (by simp only [decide_eq_true_eq]; omega)]
  | m + 1, j, h => by
    have hl := hw.len
    have hj : j < ts.length := by omega
    have ih := true_h11 p hg hs hB hw hi x7 x8 m (j + 1) (by omega)
    have hhi : (List.getD ts j d_sem_Thread).stack.length ≤ B := hw.hi j hj
    rw [alibilaw22_HoldTrue_l11, if_pos (decide_eq_true (by omega)), if_pos (decide_eq_true (by omega)), if_pos (decide_eq_true (by omega)), Int.toNat_natCast, inc j (by omega), ih]
    by_cases h0 : (List.getD ts j d_sem_Thread).stack.length = 0
    · rw [if_neg (by simp only [decide_eq_true_eq]; omega)]
    · have hup : 0 < (List.getD ts j d_sem_Thread).stack.length := by omega
      have hd' := dec_eq hup (by omega)
      have hfr := hw.fr j hj _ (top_mem hup)
      have f0 := hfr.f0
      have n0 := hfr.n0
      have hs2 := (hs.2 (topF (thr ts j).stack).func.toNat (by omega)).1
      have hls := hs.1
      obtain ⟨y, y1, y2⟩ := held_eq ts ow j (by omega)
      have et : List.getD (List.getD ts j d_sem_Thread).stack ((List.getD ts j d_sem_Thread).stack.length - 1) d_sem_Frame = topF (thr ts j).stack := rfl
      have es : (List.getD (List.getD l (topF (thr ts j).stack).func.toNat d_api_Section).held (topF (thr ts j).stack).node.toNat 0#32) = hd l (topF (thr ts j).stack) := rfl
      have es2 : (List.getD l (topF (thr ts j).stack).func.toNat d_api_Section).held.length = (List.getD p.funcs (topF (thr ts j).stack).func.toNat []).length := hs2
      rw [if_pos (decide_eq_true (by omega)), hd', if_pos (decide_eq_true (by omega)), if_pos (decide_eq_true (by omega)), Int.toNat_natCast, et, if_pos (decide_eq_true f0.1), if_pos (decide_eq_true (by omega)), if_pos (decide_eq_true n0.1), if_pos (decide_eq_true (by omega)), bind_some y1, es, andnot_zero (fun b hb => (y2 b).2 (hi.ti j hj hup b hb)), if_neg (by decide)]
theorem true_h8 (p : api_Program) (hg : Good p) {l : List api_Section} (hs : Shp p l) {u : List W32} {fm : W32} (hk : Know p u fm) (hF : Fine p l u fm) (x7 : List api_Pick) (hl : x7.length ≤ 300) : ∀ (m i : Nat) (ts : TS) (ow : Nat → Int), i + m = x7.length → WF p (i + 1) ts → MI p l u ts ow → alibilaw22_HoldTrue_l8 l ts p.globals p.locks p.slots p.funcs ow x7 (i : Int) = some .x1
  | m, i, ts, ow, h, hw, hi => by
    have q := true_h11 p hg hs (by omega) hw hi x7 (i : Int) ts.length 0 (Nat.zero_add _)
    rw [show ((0 : Nat) : Int) = 0 from rfl] at q
    rw [alibilaw22_HoldTrue_l8, if_pos (decide_eq_true (by omega)), bind_some q]
    simp only []
    match m, h with
    | 0, h =>
      rw [if_neg (by simp only [decide_eq_true_eq]; omega), inc i (by omega), alibilaw22_HoldTrue_l8, if_neg (by simp only [decide_eq_true_eq]; omega)]
    | m + 1, h =>
      rw [if_pos (decide_eq_true (by omega)), if_pos (decide_eq_true (by omega)), if_pos (decide_eq_true (by omega)), Int.toNat_natCast, bind_some (show sem_Config_Step ⟨ts, ow⟩ (api_Program.mk p.globals p.locks p.slots p.funcs) _ = _ from step_eq hg hw (by omega) ow _), inc i (by omega)]
      generalize List.getD x7 i d_api_Pick = x
      by_cases he : enB p ts ow x.who = true
      · obtain ⟨w, hwho, hG⟩ := goes_of he
        rw [if_pos he, hwho, Int.toNat_natCast]
        exact true_h8 p hg hs hk hF x7 hl m (i + 1) _ _ (by omega) (wf_step hg hw hG x.way) (mi_step hg hs hk hF hw hi hG x.way)
      · rw [if_neg he]
        exact true_h8 p hg hs hk hF x7 hl m (i + 1) _ _ (by omega) (wf_mono hw (by omega)) hi
theorem holdTrue (p : api_Program) (x7 : List api_Pick) : alibilaw22_HoldTrue p x7 = some true := by
  unfold alibilaw22_HoldTrue
  rw [bind_some awake22, if_neg (by decide)]
  obtain ⟨sm, s1, _⟩ := small_eq p
  rw [bind_some s1]
  cases sm with
  | false => rw [if_pos (by decide), bind_some awake22]
  | true =>
    rw [if_neg (by decide)]
    by_cases hl : (x7.length : Int) > 300
    · rw [if_pos (decide_eq_true hl), bind_some awake22]
    · rw [if_neg (by simpa using hl)]
      obtain ⟨⟨ra, rb, re⟩, r1, r2, _⟩ := check_eqP p
      by_cases he : re = 0
      · obtain ⟨r5, hg⟩ := r2 he
        rw [r5] at r1
        obtain ⟨u, fm, h, hkn⟩ := both_know p hg r1
        obtain ⟨v, t, t1, t2, t3, t4, t5⟩ := find_eq p hg h
        obtain ⟨hL, hS⟩ := found_lays t3 t4 t5
        have hk : Keeps (funcsR p u fm 0 p.funcs.length) (base p.funcs p.funcs.length) v := by
          have := t2.keeps
          rw [List.length_replicate] at this
          exact this
        have hF := (keeps_iff hg hL).1 hk
        have q := true_h8 p hg hS hkn hF x7 (by omega) x7.length 0 [⟨[⟨0, 0⟩], fun _ => 0⟩] (fun _ => 0) (Nat.zero_add _) (wf_start hg) (mi_start hg hkn hF _)
        rw [show ((0 : Nat) : Int) = 0 from rfl] at q
        rw [bind_some t1, bind_some (start_good r1), if_neg (show ¬ ((0 : Int) != 0) = true by decide), if_neg (show ¬ ((0 : Int) != 0) = true by decide), bind_some q]
      · rw [bind_some (find_bad p r1 he), bind_some (start_bad r1 he), if_pos (show (re != 0) = true by simpa using he)]
        simp
end Go.Bm.GoYtnjbjgmohmghoaa
