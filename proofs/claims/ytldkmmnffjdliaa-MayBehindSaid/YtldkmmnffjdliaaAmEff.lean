/- The abstract machine is sound: every operation. -/
import Derived.Test.YtldkmmnffjdliaaAmCallB
namespace Go.Am
set_option autoImplicit false
set_option linter.unusedVariables false
set_option linter.unusedSimpArgs false

section
variable {P : Program} {X0 X : Ctx} {st : St} {a : Act} {w : World}

theorem exec_v {s : Sem Value} {V : Value} {W : World} (h : s.run P w = .ok V W) : (do pure (Next.value (← s)) : Sem Next).run P w = .ok (.value V) W := by simp [h]
theorem exec_u {s : Sem Unit} {W : World} (h : s.run P w = .ok () W) : (do s; pure Next.skip : Sem Next).run P w = .ok .skip W := by simp [h]

/-- What is to be shown of an operation's effect. -/
def EDoes (E : Env) (X0 : Ctx) (st : St) (a : Act) (w : World) (o : Oper) (eff : Eff) : Prop :=
  ∀ (K : Act → World → Prop) (Q : Exit → Act → World → Prop), (∀ X' a' w', Inv X0 X' (eff.on o.dst st) a' w' → K a' w') → o.wp E.P a w K Q

theorem EDoes.val {E : Env} {o : Oper} {eff : Eff} {V : Value} {W : World} {X' : Ctx} (hr : (execOp a.eval o).run E.P w = .ok (.value V) W) (hI : Inv X0 X' (eff.on o.dst st) (a.put o.dst V) W) : EDoes E X0 st a w o eff :=
  fun K Q hK => wp_val hr (hK _ _ _ hI)
theorem EDoes.unit {E : Env} {o : Oper} {eff : Eff} {W : World} {X' : Ctx} (hr : (execOp a.eval o).run E.P w = .ok .skip W) (hI : Inv X0 X' (eff.on o.dst st) (a.put o.dst undef) W) : EDoes E X0 st a w o eff :=
  fun K Q hK => wp_unit hr (hK _ _ _ hI)
theorem EDoes.call {E : Env} {o : Oper} {eff : Eff} {f : FuncId} {Args : Array Value} (hr : (execOp a.eval o).run E.P w = .ok (.enter f Args) w)
    (hC : Calls E.P f Args w fun e w' => ∃ V X', e = .returned V ∧ ∀ dst, Inv X0 X' (eff.on dst st) (a.put dst V) w') : EDoes E X0 st a w o eff := by
  intro K Q hK
  unfold Oper.wp
  rw [hr, Oper.upon_enter]
  refine hC.mono ?_
  rintro e w' ⟨V, X', rfl, hI⟩
  exact hK _ _ _ (hI o.dst)

theorem callOk_sound {f : FuncId} (h : callOk P f = true) : ∃ fn c, P.funcs[f]? = some fn ∧ fn.body = some c ∧ (fn.name == "runtime.NumGoroutine") = false := by
  unfold callOk at h
  split at h
  · rename_i fn hf
    split at h
    · rename_i c hc
      exact ⟨fn, c, hf, hc, by simpa using h⟩
    · cases h
  · cases h
theorem callFunc_run {f : FuncId} (h : callOk P f = true) (Args : Array Value) (w : World) : (callFunc f Args).run P w = .ok (.enter f Args) w := by
  obtain ⟨fn, c, hf, hb, hn⟩ := callOk_sound h
  have hn' : ¬ fn.name = "runtime.NumGoroutine" := by simpa using hn
  simp [callFunc, hf, hb, hn']

theorem borrow_rho (x : Operand) : (rhoOf st x).borrow = rhoOf st x := by
  unfold rhoOf
  cases evT st.tmps x <;> rfl

/-- A move that takes the right with it. -/
theorem move_inv (h : Inv X0 X st a w) (t : TypeId) (x : Operand) (dst : Option Nat) : ∃ X', Inv X0 X' ((Eff.mk ((retype P t (evT st.tmps x)).norm) (tkOf x) []).on dst st) (a.put dst (a.eval x)) w := by
  cases x with
  | tmp s => exact h.move s dst _ fun Y π hv => (hv.retype P t).norm
  | const v => exact ⟨X, h.put dst fun _ _ => ((((VA.ofConst v).retype P t).norm).any _)⟩
  | global g => exact ⟨X, h.put dst fun _ _ => .dead _ _⟩
  | func f => exact ⟨X, h.put dst fun _ _ => .pv _ _ _ (.fn f)⟩

theorem args_sound (h : Inv X0 X st a w) : ∀ (xs : List Operand) (ts : List TypeId),
    (xs.map a.eval).length = (argsV P (rhoOf st) xs ts).length ∧ ∀ (j : Nat) (v : AV) (V : Value), (argsV P (rhoOf st) xs ts)[j]? = some v → (xs.map a.eval)[j]? = some V → VA X none v V
  | [], ts => by
    have : argsV P (rhoOf st) [] ts = [] := by cases ts <;> rfl
    rw [this]
    exact ⟨rfl, fun j v V hv => by simp at hv⟩
  | x :: xs, t :: ts => by
    obtain ⟨h1, h2⟩ := args_sound h xs ts
    refine ⟨by simpa [argsV] using h1, fun j v V hv hV => ?_⟩
    cases j with
    | zero => cases hv; cases hV; exact (h.rho x).retype P t
    | succ j => exact h2 j v V (by simpa [argsV] using hv) (by simpa using hV)
  | x :: xs, [] => by
    obtain ⟨h1, h2⟩ := args_sound h xs []
    refine ⟨by simpa [argsV] using h1, fun j v V hv hV => ?_⟩
    cases j with
    | zero => cases hv; cases hV; exact h.rho x
    | succ j => exact h2 j v V (by simpa [argsV] using hv) (by simpa using hV)

theorem map_opt (h : Inv X0 X st a w) (x : Option Operand) : (∀ v, x.map (rhoOf st) = some v → ∃ V, x.map a.eval = some V ∧ VA X none v V) ∧ (x.map (rhoOf st) = none → x.map a.eval = none) := by
  cases x with
  | none => exact ⟨fun v hv => (by cases hv), fun _ => rfl⟩
  | some x => exact ⟨fun v hv => (by cases hv; exact ⟨_, rfl, h.rho x⟩), fun hv => (by cases hv)⟩

theorem len_run {t : TypeId} {x : AV} {Vx : Value} {p : PV} (hx : VA X none x Vx) (h : lenV P t x = some p) (ty : TypeId) : ∃ V, VP X.R X.w p V ∧ (Builtin.len_ #[t] ty #[Vx]).run P w = .ok V w := by
  unfold lenV at h
  split at h
  · rename_i n e hu
    cases h
    exact ⟨_, .int _ _, by simp [Builtin.len_, run_underlying hu, goInt]⟩
  · rename_i e hu
    split at h
    · cases h
      cases hx with | pv _ _ _ hx => ?_
      cases hx
      exact ⟨_, .int _ _, by simp [Builtin.len_, run_underlying hu, goInt]⟩
    · cases h
      cases hx
      exact ⟨_, .int _ _, by simp [Builtin.len_, run_underlying hu, goInt]⟩
    · cases h
      cases hx <;> exact ⟨_, .int _ _, by simp [Builtin.len_, run_underlying hu, goInt]⟩
    · cases h
  · rename_i hu
    split at h
    · cases h
      have := hx.str_inv
      subst this
      exact ⟨_, .int _ _, by simp [Builtin.len_, run_underlying hu, goInt]⟩
    · cases h
  · cases h

theorem appendK_bind {H : List Blk} {t : TypeId} {s : AV} {tk : Option Nat} {x : AV} {R : Type} (k : Eff → Option R) : appendK P H t s tk x k = (appendK P H t s tk x some).bind k := by
  unfold appendK
  split
  · split
    · cases (Nat.ble 1 _ && Nat.ble 1 _ && Nat.beq _ _)
      · rfl
      · simp only [need]
        split
        · rfl
        · split
          · cases (Nat.beq _ _ && Nat.beq _ _)
            · rfl
            · simp only [need]
              cases Nat.ble _ reach <;> rfl
          · cases (Nat.beq _ _ && Nat.beq _ _)
            · rfl
            · simp only [need]
              cases Nat.ble _ reach <;> rfl
          · rfl
    · rfl
  · rfl

theorem builtin_sound {E : Env} (h : Inv X0 X st a w) {m : Nat} {b : Builtin} {c : Call} {R : Type} {k : Eff → Option R} {r : R} {o : Oper} (ho : o.op = .call c) (hb : c.callee = .builtin b)
    (hk : builtinK E.P (rhoOf st) (evT st.tmps) (st.heap.take m) b c.args.toList c.argTypes.toList k = some r) : ∃ eff, k eff = some r ∧ EDoes E X0 st a w o eff := by
  have hex : ∀ s : Sem Value, ∀ V W, s.run E.P w = .ok V W → (∀ cs, builtin b c.argTypes o.type cs (c.args.map a.eval) = (do pure (Next.value (← s)))) → (execOp a.eval o).run E.P w = .ok (.value V) W := by
    intro s V W hs hbi
    have : execOp a.eval o = (do let d ← resolve a.eval c o.type; invoke d.target d.args) := by simp only [execOp, ho]
    rw [this]
    simp only [resolve, hb]
    simp only [Sem.run_bind, Sem.run_pure, Result.andThen_ok, invoke]
    rw [hbi]
    simp [hs]
  unfold builtinK at hk
  split at hk
  · split at hk
    · rename_i x t hargs hts
      split at hk
      · rename_i p hp
        obtain ⟨V, hv, hrun⟩ := len_run (w := w) (h.rho x) hp o.type
        have e1 : c.args = #[x] := by rw [← Array.toArray_toList (xs := c.args), hargs]
        have e2 : c.argTypes = #[t] := by rw [← Array.toArray_toList (xs := c.argTypes), hts]
        exact ⟨_, hk, .val (hex _ V w hrun (fun cs => by simp [builtin, e1, e2])) (h.val o.dst (.pv _ _ _ hv))⟩
      · cases hk
    · cases hk
  · split at hk
    · rename_i s x t u hargs hts
      obtain ⟨htu, hk⟩ := need_some hk
      have htu := Nat.eq_of_beq_eq_true htu
      subst htu
      rw [appendK_bind] at hk
      cases he : appendK E.P (st.heap.take m) t (evT st.tmps s) (tkOf s) (retype E.P t (rhoOf st x)) some with
      | none => rw [he] at hk; cases hk
      | some eff =>
        rw [he] at hk
        obtain ⟨X', V, W, hrun, hI⟩ := append_sound h ((h.rho x).retype E.P t) he o.type o.dst
        have e1 : c.args = #[s, x] := by rw [← Array.toArray_toList (xs := c.args), hargs]
        have e2 : c.argTypes = #[t, t] := by rw [← Array.toArray_toList (xs := c.argTypes), hts]
        exact ⟨_, hk, .val (hex _ V W hrun (fun cs => by simp [builtin, e1, e2])) hI⟩
    · cases hk
  · split at hk
    · rename_i x y hargs
      split at hk
      · rename_i k1 n k2 m hx hy
        have e1 : c.args = #[x, y] := by rw [← Array.toArray_toList (xs := c.args), hargs]
        have hvx := h.rho x
        have hvy := h.rho y
        rw [hx] at hvx; rw [hy] at hvy
        have hvx := hvx.int_inv; have hvy := hvy.int_inv
        refine ⟨_, hk, .val (V := .int k1 (if m > n then m else n)) (hex (Builtin.max_ c.argTypes o.type #[a.eval x, a.eval y]) _ w ?_ (fun cs => by simp [builtin, e1])) (h.val o.dst (.pv _ _ _ (.int _ _)))⟩
        simp [Builtin.max_, Builtin.max2, hvx, hvy]
      · cases hk
    · cases hk
  · split at hk
    · rename_i x y hargs
      split at hk
      · rename_i k1 n k2 m hx hy
        have e1 : c.args = #[x, y] := by rw [← Array.toArray_toList (xs := c.args), hargs]
        have hvx := h.rho x
        have hvy := h.rho y
        rw [hx] at hvx; rw [hy] at hvy
        have hvx := hvx.int_inv; have hvy := hvy.int_inv
        refine ⟨_, hk, .val (V := .int k1 (if m < n then m else n)) (hex (Builtin.min_ c.argTypes o.type #[a.eval x, a.eval y]) _ w ?_ (fun cs => by simp [builtin, e1])) (h.val o.dst (.pv _ _ _ (.int _ _)))⟩
        simp [Builtin.min_, Builtin.min2, hvx, hvy]
      · cases hk
    · cases hk
  · cases hk

theorem recv_sound (hH : HeapOk X st.heap) (hw : X.w = w) {m : Nat} {t : TypeId} {byPtr : Bool} {v x : AV} {V : Value} (hx : VA X none v V) (hr : recvV P (st.heap.take m) t byPtr v = some x) :
    ∃ Vx, VA X none x Vx ∧ ∀ wr : Option String, (receiverAt t (.val V) byPtr wr).run P w = .ok Vx w := by
  unfold recvV at hr
  split at hr
  · rename_i e hu
    cases hr
    exact ⟨V, hx, fun wr => by simp [receiverAt, run_underlying hu, Place.get]⟩
  · rename_i e hu
    obtain ⟨U, hU, hrun⟩ := loadV_sound hH hw hx hr
    obtain ⟨A, hA⟩ := ptr_of hx hr
    refine ⟨U, hU, fun wr => ?_⟩
    subst hA
    have hrun' : (loadVar e A).run P w = .ok U w := by simpa [Instr.loadAt, Instr.sureAddr] using hrun
    cases wr with
    | none => simp [receiverAt, run_underlying hu, Place.get, asAddr, hrun']
    | some n =>
      have hs : (Builtin.ssaWrapNilChk_ #[t] t #[.pointer (some A), strVal "", strVal n]).run P w = .ok (.pointer (some A)) w := rfl
      simp [receiverAt, run_underlying hu, Place.get, hs, asAddr, hrun']
  · rename_i d hnp hu
    cases hr
    refine ⟨V, hx, fun wr => ?_⟩
    have hnp' : ∀ e, d ≠ .pointer e := fun e he => hnp e (by rw [he])
    cases d <;> first
      | exact absurd rfl (hnp' _)
      | simp [receiverAt, run_underlying hu, Place.get]
  · cases hr

theorem effK_sound {E : Env} (hC : SoundC E.P E.call) (h : Inv X0 X st a w) {quiet : Bool} {ops : List Oper} {h0 ix : Nat} {o : Oper} {R : Type} {k : Eff → Option R} {r : R}
    (hk : effK E quiet ops h0 ix o (rhoOf st) (evT st.tmps) (st.heap.take (h0 + rank ops ix)) st.heap k = some r) : ∃ eff, k eff = some r ∧ EDoes E X0 st a w o eff := by
  have hw := h.hw
  have hρ := h.rho
  have hb := borrow_rho (st := st)
  have ex : ∀ (s : Sem Value) (V : Value) (W : World), s.run E.P w = .ok V W → execOp a.eval o = (do pure (Next.value (← s))) → (execOp a.eval o).run E.P w = .ok (.value V) W := fun s V W hs he => by rw [he]; exact exec_v hs
  unfold effK at hk
  split at hk
  -- move
  · rename_i x ho
    cases ht : takesD ops o.dst with
    | true =>
      rw [ht] at hk
      obtain ⟨X', hI⟩ := move_inv (P := E.P) h o.type x o.dst
      exact ⟨_, hk, .val (by simp [execOp, ho]) hI⟩
    | false =>
      rw [ht] at hk
      exact ⟨_, hk, .val (V := a.eval x) (by simp [execOp, ho]) (h.val o.dst ((hρ x).retype _ _))⟩
  -- assign
  · rename_i x ho
    obtain ⟨X', hI⟩ := move_inv (P := E.P) h o.type x o.dst
    exact ⟨_, hk, .val (by simp [execOp, ho]) hI⟩
  -- pick
  · rename_i c x y ho
    split at hk
    · rename_i t ht
      have hk := splitB_some hk
      have hc := hρ c
      rw [ht] at hc
      have hc := hc.bool_inv
      refine ⟨_, hk, .val (V := if t = true then a.eval x else a.eval y) (by simp [execOp, ho, hc, asBool]) (h.val o.dst ?_)⟩
      cases t
      · exact hρ y
      · exact hρ x
    · cases hk
  -- alloc
  · rename_i e ho
    split at hk
    · rename_i z hz
      obtain ⟨hc, hk⟩ := need_some hk
      simp only [Bool.and_eq_true] at hc
      obtain ⟨X', V, W, hrun, hI⟩ := alloc_sound h hz (gone_sound hc.1) hc.2 o.dst
      exact ⟨_, hk, .val (ex _ V W hrun (by simp only [execOp, ho])) hI⟩
    · cases hk
  -- box
  · rename_i e x ho
    obtain ⟨hc, hk⟩ := need_some hk
    simp only [Bool.and_eq_true] at hc
    obtain ⟨c1, ⟨c2, c3⟩, c4⟩ := hc
    obtain ⟨X', V, W, hrun, hI⟩ := box_sound (P := E.P) h ((hρ x).retype E.P e) (retype_borrow e _ (hb x)) (gone_sound c1) c2 (Nat.le_of_ble_eq_true c3) c4 o.dst
    exact ⟨_, hk, .val (ex _ V W hrun (by simp only [execOp, ho])) hI⟩
  -- build
  · rename_i t parts ho
    split at hk
    · rename_i v hv
      obtain ⟨V, hv', hrun⟩ := buildV_sound (w := w) hρ hb hv
      exact ⟨_, hk, .val (ex _ V w hrun (by simp only [execOp, ho])) (h.val o.dst hv')⟩
    · cases hk
  -- buildSlice
  · rename_i t len parts ho
    split at hk
    · rename_i v hv
      obtain ⟨X', V, W, hrun, hI⟩ := buildSlice_sound h hρ hb hv o.dst
      exact ⟨_, hk, .val (ex _ V W hrun (by simp only [execOp, ho])) hI⟩
    · cases hk
  -- load
  · rename_i t x ho
    cases ht : takesD ops o.dst with
    | true =>
      rw [ht] at hk
      simp only [cond_true] at hk
      split at hk
      · rename_i v b B hv
        obtain ⟨X', V, hrun, hI⟩ := loadTake_sound h (hρ x) hv o.dst
        exact ⟨_, hk, .val (ex _ V w hrun (by simp only [execOp, ho])) hI⟩
      · cases hk
    | false =>
      rw [ht] at hk
      simp only [cond_false] at hk
      split at hk
      · rename_i v hv
        obtain ⟨V, hv', hrun⟩ := loadV_sound h.heap hw (hρ x) hv
        exact ⟨_, hk, .val (ex _ V w hrun (by simp only [execOp, ho])) (h.val o.dst hv')⟩
      · cases hk
  -- store
  · rename_i t x y ho
    split at hk
    · rename_i b B hv
      obtain ⟨hc, hk⟩ := need_some hk
      obtain ⟨X', W, hrun, hI⟩ := store_sound h (hρ x) hv
      have hex : (execOp a.eval o).run E.P w = .ok .skip W := by
        have : execOp a.eval o = (do Instr.storeAt t (a.eval x) (a.eval y); pure Next.skip) := by simp only [execOp, ho]
        rw [this]
        exact exec_u hrun
      exact ⟨_, hk, .unit hex (hI.put o.dst fun _ _ => .dead _ _)⟩
    · cases hk
  -- nilCheck
  · rename_i x ho
    have hx := hρ x
    split at hk <;> rename_i he <;> first | cases hk; done | skip
    all_goals
      rw [he] at hx
      have hp : ∃ A, a.eval x = .pointer (some A) := by
        generalize a.eval x = V at hx
        cases hx
        exact ⟨_, rfl⟩
      obtain ⟨A, hA⟩ := hp
      exact ⟨_, hk, .val (V := a.eval x) (by simp [execOp, ho, hA]) (h.val o.dst hx)⟩
  -- binOp
  · rename_i op t x y q ho
    obtain ⟨v, V, hk, hv, hrun⟩ := binK_sound (hρ x) (hρ y) hk
    refine ⟨_, hk, .val (V := V) (W := w) ?_ (h.val o.dst hv)⟩
    simp [execOp, ho, (hrun x y w).1, (hrun x y w).2]
  -- unOp
  · rename_i op t x ho
    split at hk
    · rename_i v hv
      have hx := hρ x
      unfold unV at hv
      split at hv <;> rename_i he <;> first | cases hv; done | skip
      all_goals
        cases hv
        rw [he] at hx
      · have hx := hx.bool_inv
        exact ⟨_, hk, .val (V := .bool _) (W := w) (by simp [execOp, ho, hx, Op.unary]) (h.val o.dst (.pv _ _ _ (.bool _)))⟩
      · have hx := hx.int_inv
        exact ⟨_, hk, .val (V := .int _ _) (W := w) (by simp [execOp, ho, hx, Op.unary, Op.intArith]) (h.val o.dst (.pv _ _ _ (.int _ _)))⟩
      · have hx := hx.int_inv
        exact ⟨_, hk, .val (V := .int _ _) (W := w) (by simp [execOp, ho, hx, Op.unary, Op.intBits]) (h.val o.dst (.pv _ _ _ (.int _ _)))⟩
    · cases hk
  -- convert
  · rename_i src dst x ho
    split at hk
    · rename_i ds kd kx n hsrc hdst hxx
      have hx := hρ x
      rw [hxx] at hx
      have hx := hx.int_inv
      refine ⟨_, hk, .val (V := .int kd (kd.wrap n)) (W := w) ?_ (h.val o.dst (.pv _ _ _ (.int _ _)))⟩
      simp only [execOp, ho, hx]
      simp [convert, run_underlying hsrc, run_underlying hdst, Conv.intToInt]
    · cases hk
  -- makeInterface
  · rename_i t x ho
    split at hk
    · cases hk
    · rename_i d hni hu
      refine ⟨_, hk, .val (V := .iface t (a.eval x)) (W := w) ?_ (h.val o.dst (.ifc _ _ _ _ (hρ x)))⟩
      have hni' : ∀ ms, d ≠ .interface ms := fun ms he => hni ms (by rw [he])
      cases d <;> first
        | exact absurd rfl (hni' _)
        | simp [execOp, ho, Instr.makeInterface, run_underlying hu]
    · cases hk
  -- makeFunc
  · rename_i f first caps ho
    split at hk
    · rename_i hf
      have e1 : first = #[] := by rw [← Array.toArray_toList (xs := first), hf]
      refine ⟨_, hk, .val (V := .func (.func f) #[] (caps.toList.map a.eval).toArray) (W := w) ?_ (h.val o.dst (.clo _ _ _ _ (by simp) fun j v V hv hV => ?_))⟩
      · simp only [execOp, ho, e1, Instr.makeFunc]
        have : (caps.toList.map a.eval).toArray = caps.map a.eval := by rw [← Array.toList_map, Array.toArray_toList]
        rw [this]
        simp
      · rw [List.getElem?_map] at hv hV
        cases hc : caps.toList[j]? with
        | none => rw [hc] at hv; cases hv
        | some y => rw [hc] at hv hV; cases hv; cases hV; exact hρ y
    · cases hk
  -- makeSlice
  · rename_i t l c ho
    split at hk
    · rename_i e k1 n k2 m hu hl hc
      split at hk
      · rename_i i z hi hz
        obtain ⟨hc1, hk⟩ := need_some hk
        obtain ⟨hc2, hk⟩ := need_some hk
        obtain ⟨hc3, hk⟩ := need_some hk
        obtain ⟨hc4, hk⟩ := need_some hk
        obtain ⟨hc5, hk⟩ := need_some hk
        simp only [Bool.and_eq_true] at hc1
        obtain ⟨⟨d1, d2⟩, d3⟩ := hc1
        have hvl := hρ l; rw [hl] at hvl; have hvl := hvl.int_inv
        have hvc := hρ c; rw [hc] at hvc; have hvc := hvc.int_inv
        obtain ⟨X', V, W, hrun, hI⟩ := makeSlice_sound (k1 := k1) (k2 := k2) h hu hi hz (Nat.le_of_ble_eq_true d1) (Nat.eq_of_beq_eq_true d2) (Nat.le_of_ble_eq_true d3) (of_decide_eq_true hc2) (of_decide_eq_true hc3) (of_decide_eq_true hc4) (gone_sound hc5) o.dst
        exact ⟨_, hk, .val (ex _ V W hrun (by simp only [execOp, ho, hvl, hvc])) hI⟩
      · cases hk
    · cases hk
  -- slice
  · rename_i t x lo hi mx ho
    obtain ⟨v, V, hk, hv, hrun⟩ := sliceK_sound h.heap (w := w) (hρ x) (map_opt h lo) (map_opt h hi) (map_opt h mx) hk
    exact ⟨_, hk, .val (ex _ V w hrun (by simp only [execOp, ho])) (h.val o.dst hv)⟩
  -- fieldAddr
  · rename_i s x f ho
    split at hk
    · rename_i v hv
      obtain ⟨V, hv', hrun⟩ := fieldAddr_sound (w := w) (hρ x) hv
      exact ⟨_, hk, .val (ex _ V w hrun (by simp only [execOp, ho])) (h.val o.dst hv')⟩
    · cases hk
  -- field
  · rename_i s x f ho
    split at hk
    · rename_i v hv
      obtain ⟨V, hv', hrun⟩ := field_sound (w := w) (hρ x) hv
      exact ⟨_, hk, .val (ex _ V w hrun (by simp only [execOp, ho])) (h.val o.dst hv')⟩
    · cases hk
  -- indexAddr
  · rename_i t x i ho
    obtain ⟨v, V, hk, hv, hrun⟩ := idxK_sound h.heap (w := w) (hρ x) (hρ i) hk
    exact ⟨_, hk, .val (ex _ V w hrun (by simp only [execOp, ho])) (h.val o.dst hv)⟩
  -- index
  · rename_i t x i ho
    split at hk
    · rename_i s k1 n hu hx hi
      obtain ⟨c1, hk⟩ := need_some hk
      obtain ⟨c2, hk⟩ := need_some hk
      have hvx := hρ x; rw [hx] at hvx; have hvx := hvx.str_inv
      have hvi := hρ i; rw [hi] at hvi; have hvi := hvi.int_inv
      have c1 := of_decide_eq_true c1
      have c2 := of_decide_eq_true c2
      have hlt : n.toNat < s.size := by omega
      have e1 : s[n.toNat]? = some (s[n.toNat]!) := by rw [getElem?_pos s n.toNat hlt, getElem!_pos s n.toNat hlt]
      refine ⟨_, hk, .val (V := .int .u8 (s[n.toNat]!).toNat) (W := w) ?_ (h.val o.dst (.pv _ _ _ (.int _ _)))⟩
      simp only [execOp, ho, hvx, hvi]
      simp [Instr.index, asIntOf, run_underlying hu, c1, e1]
    · cases hk
  -- typeAssert
  · rename_i x xt asserted ok ho
    split at hk
    · cases hk
    · rename_i d t v hni hu hx
      obtain ⟨hc1, hk1⟩ := need_some hk
      have hc2 := Nat.eq_of_beq_eq_true hc1
      subst hc2
      have hvx := hρ x
      rw [hx] at hvx
      have hni' : ∀ ms, d ≠ .interface ms := fun ms he => hni ms (by rw [he])
      generalize hV : a.eval x = V at hvx
      cases hvx with | ifc _ _ _ V hv => ?_
      have hrun : (Instr.typeAssert (.iface t V) xt t ok).run E.P w = .ok (if ok then .tuple #[V, .bool true] else V) w := by
        cases d <;> first
          | exact absurd rfl (hni' _)
          | (simp [Instr.typeAssert, run_underlying hu]; done)
      refine ⟨_, hk1, .val (ex _ _ w hrun (by simp only [execOp, ho, hV])) (h.val o.dst ?_)⟩
      cases ok
      · exact hv
      · refine .tup _ _ [V, .bool true] rfl fun j u U hu hU => ?_
        match j, hu, hU with
        | 0, hu, hU => cases hu; cases hU; exact hv
        | 1, hu, hU => cases hu; cases hU; exact .pv _ _ _ (.bool _)
    · cases hk
  -- extract
  · rename_i x i ho
    split at hk
    · rename_i vs hx
      split at hk
      · rename_i v hv
        have hvx := hρ x
        rw [hx] at hvx
        generalize hV : a.eval x = V at hvx
        cases hvx with | tup _ _ Vs hl hh => ?_
        have hi : i < Vs.length := by rw [hl]; exact (List.getElem?_eq_some_iff.1 hv).1
        have e1 : Vs[i]? = some Vs[i] := List.getElem?_eq_getElem hi
        refine ⟨_, hk, .val (ex (Instr.extract (.tuple Vs.toArray) i) Vs[i] w ?_ (by simp only [execOp, ho, hV])) (h.val o.dst ((hh i v _ hv e1).borrow none))⟩
        simp [Instr.extract, e1, hi]
      · cases hk
    · cases hk
  -- call
  · rename_i c ho
    have hres : execOp a.eval o = (do let d ← resolve a.eval c o.type; invoke d.target d.args) := by simp only [execOp, ho]
    split at hk
    · rename_i b hb'
      exact builtin_sound h ho hb' hk
    · rename_i f hf
      split at hk
      · rename_i g hg
        have hvf := hρ f
        rw [hg] at hvf
        generalize hV : a.eval f = V at hvf
        cases hvf with | pv _ _ _ hvf => ?_
        cases hvf
        have hok : callOk E.P g = true := by
          unfold callK at hk
          have := (need_some hk).1
          simp only [Bool.and_eq_true] at this
          exact this.1.1
        obtain ⟨hl, hA⟩ := args_sound (P := E.P) h c.args.toList c.argTypes.toList
        obtain ⟨eff, hk, hcall⟩ := call_sound hC h hl hA hk
        refine ⟨eff, hk, .call (f := g) ?_ hcall⟩
        rw [hres]
        simp [resolve, hf, hV, Deferred.ofValue, invoke, callFunc_run hok, ← Array.toList_map]
      · rename_i g caps hg
        have hvf := hρ f
        rw [hg] at hvf
        generalize hV : a.eval f = V at hvf
        cases hvf with | clo _ _ _ Caps hl' hh => ?_
        have hok : callOk E.P g = true := by
          unfold callK at hk
          have := (need_some hk).1
          simp only [Bool.and_eq_true] at this
          exact this.1.1
        obtain ⟨hl, hA⟩ := args_sound (P := E.P) h c.args.toList c.argTypes.toList
        obtain ⟨eff, hk, hcall⟩ := call_sound (Args := c.args.toList.map a.eval ++ Caps) hC h (by rw [List.length_append, List.length_append, hl, hl']) (fun j v V hv hV => by
          rcases Nat.lt_or_ge j (c.args.toList.map a.eval).length with hj | hj
          · rw [List.getElem?_append_left hj] at hV
            rw [List.getElem?_append_left (by rw [← hl]; exact hj)] at hv
            exact hA j v V hv hV
          · rw [List.getElem?_append_right hj] at hV
            rw [List.getElem?_append_right (by rw [← hl]; exact hj), ← hl] at hv
            exact hh _ v V hv hV) hk
        refine ⟨eff, hk, .call (f := g) ?_ hcall⟩
        rw [hres]
        simp [resolve, hf, hV, Deferred.ofValue, invoke, callFunc_run hok, ← Array.toList_map]
      · cases hk
    · rename_i rcv name hf
      split at hk
      · rename_i t v hg
        split at hk
        · rename_i g byPtr hm
          split at hk
          · rename_i x hx
            have hvf := hρ rcv
            rw [hg] at hvf
            generalize hV : a.eval rcv = V at hvf
            cases hvf with | ifc _ _ _ V hv => ?_
            have hok : callOk E.P g = true := by
              unfold callK at hk
              have := (need_some hk).1
              simp only [Bool.and_eq_true] at this
              exact this.1.1
            unfold methodOf at hm
            split at hm
            · rename_i i hi
              split at hm
              · rename_i md hmd
                split at hm
                · rename_i hpath
                  obtain ⟨Vx, hVx, hrecv⟩ := recv_sound h.heap hw hv hx
                  obtain ⟨hl, hA⟩ := args_sound (P := E.P) h c.args.toList c.argTypes.toList
                  obtain ⟨eff, hk, hcall⟩ := call_sound (Args := Vx :: c.args.toList.map a.eval) hC h (by simpa using hl) (fun j u U hu hU => by
                    cases j with
                    | zero => cases hu; cases hU; exact hVx
                    | succ j => exact hA j u U (by simpa using hu) (by simpa using hU)) hk
                  refine ⟨eff, hk, .call (f := g) ?_ hcall⟩
                  rw [hres]
                  have hp0 : md.path.toList = [] := by
                    have : md.path = #[] := Array.eq_empty_of_size_eq_zero hpath
                    rw [this]
                  have hmeth : ∀ n, (method (n + 1) t V name).run E.P w = .ok (g, Vx) w := fun n => by
                    unfold method
                    simp [typeInfo, hi, hmd, hp0, follow, hm, hrecv]
                  have hs : ∃ n, E.P.types.size + Made.depth = n + 1 := ⟨E.P.types.size + Made.depth - 1, by have : 0 < Made.depth := by decide
                                                                                                             omega⟩
                  obtain ⟨n, hn⟩ := hs
                  have hz : ((#[Value.iface t V] ++ c.args.map a.eval)[0]? : Option Value) = some (.iface t V) := by simp [Array.getElem?_append]
                  have hx1 : (#[Value.iface t V] ++ c.args.map a.eval).extract 1 (#[Value.iface t V] ++ c.args.map a.eval).size = c.args.map a.eval := by simp
                  have hx2 : #[Vx] ++ c.args.map a.eval = (Vx :: c.args.toList.map a.eval).toArray := by simp [← Array.toList_map]
                  simp only [resolve, hf, hV, Sem.run_bind, Sem.run_pure, Result.andThen_ok, invoke, hz, hx1, callMethod, run_program, hn, hmeth, callFunc_run hok, hx2]
                · cases hm
              · cases hm
            · cases hm
          · cases hk
        · cases hk
      · cases hk
  · cases hk
end
end Go.Am
