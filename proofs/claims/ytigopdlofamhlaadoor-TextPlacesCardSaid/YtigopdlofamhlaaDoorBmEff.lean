/- The abstract machine is sound: an operation. -/
import Derived.Test.YtigopdlofamhlaaDoorBmIce
namespace Go.Bm
set_option autoImplicit false
set_option linter.unusedVariables false
set_option linter.unusedSimpArgs false

section
variable {P : Program} {X0 X : Ctx} {st : St} {a : Act} {w : World} {ok : Ob → Prop}

theorem exec_v {s : Sem Value} {V : Value} {W : World} (h : s.run P w = .ok V W) : (do pure (Next.value (← s)) : Sem Next).run P w = .ok (.value V) W := by simp [h]
theorem exec_u {s : Sem Unit} {W : World} (h : s.run P w = .ok () W) : (do s; pure Next.skip : Sem Next).run P w = .ok .skip W := by simp [h]
/-- What is to be shown of an operation's effect. -/
def EDoes (P : Program) (X0 : Ctx) (st : St) (a : Act) (w : World) (o : Oper) (eff : Eff) : Prop :=
  ∀ (K : Act → World → Prop) (Q : Exit → Act → World → Prop), (∀ X' a' w', Inv X0 X' (eff.on o.dst st) a' w' → K a' w') → o.wp P a w K Q
theorem EDoes.val {o : Oper} {eff : Eff} {V : Value} {W : World} {X' : Ctx} (hr : (execOp a.eval o).run P w = .ok (.value V) W) (hI : Inv X0 X' (eff.on o.dst st) (a.put o.dst V) W) : EDoes P X0 st a w o eff :=
  fun K Q hK => wp_val hr (hK _ _ _ hI)
theorem EDoes.unit {o : Oper} {eff : Eff} {W : World} {X' : Ctx} (hr : (execOp a.eval o).run P w = .ok .skip W) (hI : Inv X0 X' (eff.on o.dst st) (a.put o.dst undef) W) : EDoes P X0 st a w o eff :=
  fun K Q hK => wp_unit hr (hK _ _ _ hI)
theorem EDoes.call {o : Oper} {eff : Eff} {f : FuncId} {Args : Array Value} (hr : (execOp a.eval o).run P w = .ok (.enter f Args) w)
    (hC : Calls P f Args w fun e w' => ∃ V X', e = .returned V ∧ ∀ dst, Inv X0 X' (eff.on dst st) (a.put dst V) w') : EDoes P X0 st a w o eff := by
  intro K Q hK
  unfold Oper.wp
  rw [hr, Oper.upon_enter]
  refine hC.mono ?_
  rintro e w' ⟨V, X', rfl, hI⟩
  exact hK _ _ _ (hI o.dst)

theorem callOk_sound {f : FuncId} (h : callOk P f = true) : ∃ fn c, P.funcs[f]? = some fn ∧ fn.body = some c ∧ (fn.name == "runtime.NumGoroutine") = false := by
  unfold callOk at h
  split at h
  · rename_i fn hf
    split at h
    · rename_i c hc
      exact ⟨fn, c, hf, hc, by simpa using h⟩
    · cases h
  · cases h
theorem callFunc_run {f : FuncId} (h : callOk P f = true) (Args : Array Value) (w : World) : (callFunc f Args).run P w = .ok (.enter f Args) w := by
  obtain ⟨fn, c, hf, hb, hn⟩ := callOk_sound h
  have hn' : ¬ fn.name = "runtime.NumGoroutine" := by simpa using hn
  simp [callFunc, hf, hb, hn']

theorem args_sound (h : Inv X0 X st a w) : ∀ (xs : List Operand) (ts : List TypeId),
    (xs.map a.eval).length = (argsV P (evT st.tmps) xs ts).length ∧ ∀ (j : Nat) (v : AV) (V : Value), (argsV P (evT st.tmps) xs ts)[j]? = some v → (xs.map a.eval)[j]? = some V → VA X none v V
  | [], ts => by
    have : argsV P (evT st.tmps) [] ts = [] := by cases ts <;> rfl
    rw [this]
    exact ⟨rfl, fun j v V hv => by simp at hv⟩
  | x :: xs, t :: ts => by
    obtain ⟨h1, h2⟩ := args_sound h xs ts
    refine ⟨by simpa [argsV] using h1, fun j v V hv hV => ?_⟩
    cases j with
    | zero => cases hv; cases hV; exact (h.rho x).retype P t
    | succ j => exact h2 j v V (by simpa [argsV] using hv) (by simpa using hV)
  | x :: xs, [] => by
    obtain ⟨h1, h2⟩ := args_sound h xs []
    refine ⟨by simpa [argsV] using h1, fun j v V hv hV => ?_⟩
    cases j with
    | zero => cases hv; cases hV; exact h.rho x
    | succ j => exact h2 j v V (by simpa [argsV] using hv) (by simpa using hV)

theorem map_opt (h : Inv X0 X st a w) (x : Option Operand) : (∀ v, x.map (evT st.tmps) = some v → ∃ V, x.map a.eval = some V ∧ VA X none v V) ∧ (x.map (evT st.tmps) = none → x.map a.eval = none) := by
  cases x with
  | none => exact ⟨fun v hv => (by cases hv), fun _ => rfl⟩
  | some x => exact ⟨fun v hv => (by cases hv; exact ⟨_, rfl, h.rho x⟩), fun hv => (by cases hv)⟩

theorem len_run {t : TypeId} {x : AV} {Vx : Value} {p : PV} (hx : VA X none x Vx) (h : lenV P t x = some p) (ty : TypeId) : ∃ V, VP X.R X.w p V ∧ (Builtin.len_ #[t] ty #[Vx]).run P w = .ok V w := by
  unfold lenV at h
  split at h
  · rename_i n e hu
    cases h
    exact ⟨_, .int _ _, by simp [Builtin.len_, run_underlying hu, goInt]⟩
  · rename_i e hu
    split at h
    · cases h
      cases hx with | pv _ _ _ hx => ?_
      cases hx
      exact ⟨_, .int _ _, by simp [Builtin.len_, run_underlying hu, goInt]⟩
    · cases h
      cases hx
      exact ⟨_, .int _ _, by simp [Builtin.len_, run_underlying hu, goInt]⟩
    · cases h
      cases hx <;> exact ⟨_, .int _ _, by simp [Builtin.len_, run_underlying hu, goInt]⟩
    · cases h
  · rename_i hu
    split at h
    · cases h
      have := hx.str_inv
      subst this
      exact ⟨_, .int _ _, by simp [Builtin.len_, run_underlying hu, goInt]⟩
    · cases h
  · cases h


theorem builtinE_sound (h : Inv X0 X st a w) {id : Nat} {b : Builtin} {c : Call} {o : Oper} (ho : o.op = .call c) (hb : c.callee = .builtin b) {e : Eff}
    (hk : (builtinE P (evT st.tmps) id b c.args.toList c.argTypes.toList).Gives ok (getB st.heap) e) : EDoes P X0 st a w o e := by
  have hex : ∀ s : Sem Value, ∀ V W, s.run P w = .ok V W → (∀ cs, builtin b c.argTypes o.type cs (c.args.map a.eval) = (do pure (Next.value (← s)))) → (execOp a.eval o).run P w = .ok (.value V) W := by
    intro s V W hs hbi
    have : execOp a.eval o = (do let d ← resolve a.eval c o.type; invoke d.target d.args) := by simp only [execOp, ho]
    rw [this]
    simp only [resolve, hb]
    simp only [Sem.run_bind, Sem.run_pure, Result.andThen_ok, invoke]
    rw [hbi]
    simp [hs]
  unfold builtinE at hk
  split at hk
  · split at hk
    · rename_i x t hargs hts
      obtain ⟨p, hp, hk2⟩ := gives_opt hk
      cases hk2
      obtain ⟨V, hv, hrun⟩ := len_run (w := w) (h.rho x) hp o.type
      have e1 : c.args = #[x] := by rw [← Array.toArray_toList (xs := c.args), hargs]
      have e2 : c.argTypes = #[t] := by rw [← Array.toArray_toList (xs := c.argTypes), hts]
      exact .val (hex _ V w hrun (fun cs => by simp [builtin, e1, e2])) (h.val o.dst (.pv _ _ _ hv))
    · cases hk
  · split at hk
    · rename_i s x t u hargs hts
      obtain ⟨htu, hk2⟩ := gives_chk hk
      have htu := Nat.eq_of_beq_eq_true htu
      subst htu
      obtain ⟨X', V, W, hrun, hI⟩ := appendE_sound h ((h.rho s).retype P t) ((h.rho x).retype P t) hk2 o.type o.dst
      have e1 : c.args = #[s, x] := by rw [← Array.toArray_toList (xs := c.args), hargs]
      have e2 : c.argTypes = #[t, t] := by rw [← Array.toArray_toList (xs := c.argTypes), hts]
      exact .val (hex _ V W hrun (fun cs => by simp [builtin, e1, e2])) hI
    · cases hk
  · split at hk
    · rename_i d x t u hargs hts
      obtain ⟨X', V, W, hrun, hI⟩ := copyE_sound h ((h.rho d).retype P t) ((h.rho x).retype P u) hk o.type o.dst
      have e1 : c.args = #[d, x] := by rw [← Array.toArray_toList (xs := c.args), hargs]
      have e2 : c.argTypes = #[t, u] := by rw [← Array.toArray_toList (xs := c.argTypes), hts]
      exact .val (hex _ V W hrun (fun cs => by simp [builtin, e1, e2])) hI
    · cases hk
  · split at hk
    · rename_i x y hargs
      split at hk
      · rename_i k1 n k2 m hx hy
        cases hk
        have e1 : c.args = #[x, y] := by rw [← Array.toArray_toList (xs := c.args), hargs]
        have hvx := h.rho x
        have hvy := h.rho y
        rw [hx] at hvx; rw [hy] at hvy
        have hvx := hvx.int_inv; have hvy := hvy.int_inv
        refine .val (V := .int k1 (if m > n then m else n)) (hex (Builtin.max_ c.argTypes o.type #[a.eval x, a.eval y]) _ w ?_ (fun cs => by simp [builtin, e1])) (h.val o.dst (.pv _ _ _ (.int _ _)))
        simp [Builtin.max_, Builtin.max2, hvx, hvy]
      · cases hk
    · cases hk
  · split at hk
    · rename_i x y hargs
      split at hk
      · rename_i k1 n k2 m hx hy
        cases hk
        have e1 : c.args = #[x, y] := by rw [← Array.toArray_toList (xs := c.args), hargs]
        have hvx := h.rho x
        have hvy := h.rho y
        rw [hx] at hvx; rw [hy] at hvy
        have hvx := hvx.int_inv; have hvy := hvy.int_inv
        refine .val (V := .int k1 (if m < n then m else n)) (hex (Builtin.min_ c.argTypes o.type #[a.eval x, a.eval y]) _ w ?_ (fun cs => by simp [builtin, e1])) (h.val o.dst (.pv _ _ _ (.int _ _)))
        simp [Builtin.min_, Builtin.min2, hvx, hvy]
      · cases hk
    · cases hk
  · cases hk

theorem ptr_of {κ : Option Key} {u : AV} {V : Value} (h : VA X κ u V) {H : Nat → Blk} {t : TypeId} {v : AV} (hl : (loadE P t u).Gives ok H v) : ∃ A, V = .pointer (some A) := by
  unfold loadE at hl
  obtain ⟨n, _, hl⟩ := gives_opt hl
  cases h <;> first | exact ⟨_, rfl⟩ | exact hl.elim
theorem recvE_sound (hH : HeapOk X st.heap) (hw : X.w = w) {t : TypeId} {byPtr : Bool} {v x : AV} {V : Value} (hx : VA X none v V) (hr : (recvE P t byPtr v).Gives ok (getB st.heap) x) :
    ∃ Vx, VA X none x Vx ∧ ∀ wr : Option String, (receiverAt t (.val V) byPtr wr).run P w = .ok Vx w := by
  unfold recvE at hr
  split at hr
  · rename_i e hu
    cases hr
    exact ⟨V, hx, fun wr => by simp [receiverAt, run_underlying hu, Place.get]⟩
  · rename_i e hu
    obtain ⟨U, hU, hrun⟩ := loadE_sound hH hw hx hr
    obtain ⟨A, hA⟩ := ptr_of hx hr
    refine ⟨U, hU, fun wr => ?_⟩
    subst hA
    have hrun' : (loadVar e A).run P w = .ok U w := by simpa [Instr.loadAt, Instr.sureAddr] using hrun
    cases wr with
    | none => simp [receiverAt, run_underlying hu, Place.get, asAddr, hrun']
    | some n =>
      have hs : (Builtin.ssaWrapNilChk_ #[t] t #[.pointer (some A), strVal "", strVal n]).run P w = .ok (.pointer (some A)) w := rfl
      simp [receiverAt, run_underlying hu, Place.get, hs, asAddr, hrun']
  · rename_i d hnp hu
    cases hr
    refine ⟨V, hx, fun wr => ?_⟩
    have hnp' : ∀ e, d ≠ .pointer e := fun e he => hnp e (by rw [he])
    cases d <;> first
      | exact absurd rfl (hnp' _)
      | simp [receiverAt, run_underlying hu, Place.get]
  · cases hr

theorem eql_of {t : TypeId} {V c : Value} {b : Bool} {w : World} (h1 : ∀ k n, V ≠ .int k n) (h2 : ∀ s, V ≠ .string s) (h3 : ∀ k n, V ≠ .float k n) (h4 : ∀ k m n, V ≠ .complex k m n) (h : (Op.equal t V c).run P w = .ok b w) : (binOp .eql t V c).run P w = .ok (.bool b) w ∧ (binOp .neq t V c).run P w = .ok (.bool !b) w := by
  cases V <;> first
    | exact absurd rfl (h1 _ _)
    | exact absurd rfl (h2 _)
    | exact absurd rfl (h3 _ _)
    | exact absurd rfl (h4 _ _ _)
    | (unfold binOp; simp [h])
theorem nilK_ok {t : TypeId} {v : AV} {V : Value} {x y : Operand} {b : Bool} (h : nilK (P.underlying t) v y = some b) (hv : VA X none v V) (w : World) : ∃ c, y = .const c ∧ (∀ op : BinOp, (eqGuard op t x y V c).run P w = .ok () w) ∧ (binOp .eql t V c).run P w = .ok (.bool b) w ∧ (binOp .neq t V c).run P w = .ok (.bool !b) w := by
  have go : ∀ (c : Value), y = .const c → (∀ k n, V ≠ .int k n) → (∀ s, V ≠ .string s) → (∀ k n, V ≠ .float k n) → (∀ k m n, V ≠ .complex k m n) → (∀ cs, V ≠ .agg cs) → V ≠ .nilIface → (∀ d, (Op.equalIn (d + 1) t V c).run P w = .ok b w) → ∃ c, y = .const c ∧ (∀ op : BinOp, (eqGuard op t x y V c).run P w = .ok () w) ∧ (binOp .eql t V c).run P w = .ok (.bool b) w ∧ (binOp .neq t V c).run P w = .ok (.bool !b) w := by
    intro c hc h1 h2 h3 h4 h5 h6 h7
    refine ⟨c, hc, fun op => ?_, eql_of h1 h2 h3 h4 (h7 9999)⟩
    unfold eqGuard
    cases op <;> cases V <;> first | exact absurd rfl (h5 _) | exact absurd rfl h6 | simp
  unfold nilK at h
  split at h
  · rename_i el hu
    split at h
    · cases h
      cases hv with | pv _ _ _ hp => ?_
      cases hp with | seqk _ _ _ A cap hp hb => ?_
      refine go _ rfl (by simp) (by simp) (by simp) (by simp) (by simp) (by simp) fun d => ?_
      subst hb
      unfold Op.equalIn
      cases A <;> simp [run_underlying hu]
    · cases h
  · rename_i hu
    split at h
    · cases h
      cases hv with | pv _ _ _ hp => ?_
      cases hp
      refine go _ rfl (by simp) (by simp) (by simp) (by simp) (by simp) (by simp) fun d => ?_
      unfold Op.equalIn
      simp [run_underlying hu]
    · cases h
      cases hv with | pv _ _ _ hp => ?_
      cases hp
      refine go _ rfl (by simp) (by simp) (by simp) (by simp) (by simp) (by simp) fun d => ?_
      unfold Op.equalIn
      simp [run_underlying hu]
    · cases h
  · rename_i hu
    split at h
    · cases h
      cases hv with | pv _ _ _ hp => ?_
      cases hp
      refine go _ rfl (by simp) (by simp) (by simp) (by simp) (by simp) (by simp) fun d => ?_
      unfold Op.equalIn
      simp [run_underlying hu]
    · cases h
      cases hv
      refine go _ rfl (by simp) (by simp) (by simp) (by simp) (by simp) (by simp) fun d => ?_
      unfold Op.equalIn
      simp [run_underlying hu]
    · cases h
      cases hv
      refine go _ rfl (by simp) (by simp) (by simp) (by simp) (by simp) (by simp) fun d => ?_
      unfold Op.equalIn
      simp [run_underlying hu]
    · cases h
  · cases h
theorem va_app {X : Ctx} {as bs : List AV} {As Bs : List Value} (hl : As.length = as.length) (hA : ∀ (j : Nat) (v : AV) (V : Value), as[j]? = some v → As[j]? = some V → VA X none v V) (hB : ∀ (j : Nat) (v : AV) (V : Value), bs[j]? = some v → Bs[j]? = some V → VA X none v V) : ∀ (j : Nat) (v : AV) (V : Value), (as ++ bs)[j]? = some v → (As ++ Bs)[j]? = some V → VA X none v V := fun j v V hv hV => by
  rcases Nat.lt_or_ge j As.length with hj | hj
  · rw [List.getElem?_append_left hj] at hV
    rw [List.getElem?_append_left (by omega)] at hv
    exact hA j v V hv hV
  · rw [List.getElem?_append_right hj] at hV
    rw [List.getElem?_append_right (by omega), ← hl] at hv
    exact hB _ v V hv hV
theorem opE_sound (hC : ∀ f args H r H', ok (.c f args H r H') → Does P f args H (r, H')) (h : Inv X0 X st a w) {id : Nat} {lend : Bool} {o : Oper} {e : Eff} (he : (opE P id lend o (evT st.tmps)).Gives ok (getB st.heap) e) : EDoes P X0 st a w o e := by
  have hw := h.hw
  have hρ := h.rho
  have ex : ∀ (s : Sem Value) (V : Value) (W : World), s.run P w = .ok V W → execOp a.eval o = (do pure (Next.value (← s))) → (execOp a.eval o).run P w = .ok (.value V) W := fun s V W hs he => by rw [he]; exact exec_v hs
  unfold opE at he
  split at he
  -- move
  · rename_i x ho
    cases he
    exact .val (V := a.eval x) (by simp [execOp, ho]) (h.val o.dst ((hρ x).retype _ _))
  -- assign
  · rename_i x ho
    cases lend with
    | true =>
      cases he
      exact .val (V := a.eval x) (by simp [execOp, ho]) (h.val o.dst ((hρ x).retype _ _))
    | false =>
      obtain ⟨X', hI⟩ := ice_sound h (hρ x) he o.dst
      exact .val (V := a.eval x) (by simp [execOp, ho]) hI
  -- pick
  · rename_i c x y ho
    split at he
    · rename_i t ht
      simp only [Ev.Gives] at he
      subst he
      have hc := hρ c
      rw [ht] at hc
      have hc := hc.bool_inv
      refine .val (V := if t = true then a.eval x else a.eval y) (by simp [execOp, ho, hc, asBool]) (h.val o.dst ?_)
      cases t
      · exact hρ y
      · exact hρ x
    · cases he
  -- alloc
  · rename_i et ho
    obtain ⟨z, hz, he2⟩ := gives_opt he
    obtain ⟨it, Z, hi, hZ, hf⟩ := zeroOf_sound hz
    obtain ⟨X', hI⟩ := newE_sound h (zero_rows hf) he2 et (Grew.alloc w _) o.dst
    exact .val (ex (Instr.alloc et true (.tuple #[])) (.pointer (some ⟨w.heap.size, 0, none⟩)) (w.alloc (.cells Z.cells et)) (by simp [Instr.alloc, zeroValue, typeInfo, hi, hZ, newVar, newRow]) (by simp only [execOp, ho])) hI
  -- box
  · rename_i et x ho
    have hx := (hρ x).retype P et
    have hlen : 1 ≤ (retype P et (evT st.tmps x)).cells.length := by
      unfold newE at he
      split at he
      · have := (gives_chk he).1
        simp only [Bool.and_eq_true] at this
        exact Nat.le_of_ble_eq_true this.2
      · have := (gives_chk he).1
        simp only [Bool.and_eq_true] at this
        exact Nat.le_of_ble_eq_true this.1.1
    obtain ⟨X', hI⟩ := newE_sound h (cells_rows hx hlen) he et (Grew.alloc w _) o.dst
    exact .val (ex (Instr.box et (a.eval x)) (.pointer (some ⟨w.heap.size, 0, none⟩)) (w.alloc (.cells (a.eval x).cells et)) (by simp [Instr.box, newVar, newRow]) (by simp only [execOp, ho])) hI
  -- build
  · rename_i t parts ho
    obtain ⟨v, hv, he2⟩ := gives_opt he
    cases he2
    obtain ⟨V, hv', hrun⟩ := buildV_sound (w := w) hρ hv
    exact .val (ex _ V w hrun (by simp only [execOp, ho])) (h.val o.dst hv')
  -- buildSlice
  · rename_i t len parts ho
    cases lend with
    | true =>
      obtain ⟨X', V, W, hrun, hI⟩ := buildSliceE_sound h hρ he o.dst
      exact .val (ex _ V W hrun (by simp only [execOp, ho])) hI
    | false =>
      obtain ⟨X', V, W, hrun, hI⟩ := freezeE_sound h hρ he o.dst
      exact .val (ex _ V W hrun (by simp only [execOp, ho])) hI
  -- load
  · rename_i t x ho
    obtain ⟨v, hv, he2⟩ := gives_bind he
    cases he2
    obtain ⟨V, hv', hrun⟩ := loadE_sound h.heap hw (hρ x) hv
    exact .val (ex _ V w hrun (by simp only [execOp, ho])) (h.val o.dst hv')
  -- store
  · rename_i t x y ho
    obtain ⟨X', W, hrun, hI⟩ := storeX_sound h (hρ x) ((hρ y).retype P t) he o.dst undef
    have hex : (execOp a.eval o).run P w = .ok .skip W := by
      have : execOp a.eval o = (do Instr.storeAt t (a.eval x) (a.eval y); pure Next.skip) := by simp only [execOp, ho]
      rw [this]
      exact exec_u hrun
    exact .unit hex hI
  -- nilCheck
  · rename_i x ho
    have hx := hρ x
    split at he <;> rename_i hh <;> first | (cases he; done) | skip
    all_goals
      cases he
      rw [hh] at hx
      have hp : ∃ A, a.eval x = .pointer (some A) := by
        generalize a.eval x = V at hx
        cases hx
        exact ⟨_, rfl⟩
      obtain ⟨A, hA⟩ := hp
      exact .val (V := a.eval x) (by simp [execOp, ho, hA]) (h.val o.dst hx)
  -- binOp
  · rename_i op t x y q ho
    split at he
    · rename_i b hk
      obtain ⟨c, rfl, hg, h1, h2⟩ := nilK_ok (x := x) hk (hρ x) w
      have hev : a.eval (.const c) = c := rfl
      split at he
      · cases he
        refine .val (V := .bool b) (W := w) ?_ (h.val o.dst (.pv _ _ _ (.bool _)))
        simp only [execOp, ho, hev]
        simp [hg, h1]
      · cases he
        refine .val (V := .bool !b) (W := w) ?_ (h.val o.dst (.pv _ _ _ (.bool _)))
        simp only [execOp, ho, hev]
        simp [hg, h2]
      · cases he
    · obtain ⟨v, hv, he2⟩ := gives_bind he
      cases he2
      obtain ⟨V, hv', hrun⟩ := binE_sound (hρ x) (hρ y) hv
      refine .val (V := V) (W := w) ?_ (h.val o.dst hv')
      simp [execOp, ho, (hrun x y w).1, (hrun x y w).2]
  -- unOp
  · rename_i op t x ho
    obtain ⟨v, hv, he2⟩ := gives_opt he
    cases he2
    have hx := hρ x
    unfold unV at hv
    split at hv <;> rename_i hh <;> first | (cases hv; done) | skip
    all_goals
      cases hv
      rw [hh] at hx
    · have hx := hx.bool_inv
      exact .val (V := .bool _) (W := w) (by simp [execOp, ho, hx, Op.unary]) (h.val o.dst (.pv _ _ _ (.bool _)))
    · have hx := hx.int_inv
      exact .val (V := .int _ _) (W := w) (by simp [execOp, ho, hx, Op.unary, Op.intArith]) (h.val o.dst (.pv _ _ _ (.int _ _)))
    · have hx := hx.int_inv
      exact .val (V := .int _ _) (W := w) (by simp [execOp, ho, hx, Op.unary, Op.intBits]) (h.val o.dst (.pv _ _ _ (.int _ _)))
  -- convert
  · rename_i src dst x ho
    split at he
    · rename_i ds kd kx n hsrc hdst hxx
      cases he
      have hx := hρ x
      rw [hxx] at hx
      have hx := hx.int_inv
      refine .val (V := .int kd (kd.wrap n)) (W := w) ?_ (h.val o.dst (.pv _ _ _ (.int _ _)))
      simp only [execOp, ho, hx]
      simp [convert, run_underlying hsrc, run_underlying hdst, Conv.intToInt]
    · rename_i e0 e b q lo n hsrc hdst hxx
      obtain ⟨hc, he2⟩ := gives_chk he
      cases he2
      simp only [Bool.and_eq_true] at hc
      obtain ⟨⟨c1, c2⟩, c3⟩ := hc
      have c1 := Nat.eq_of_beq_eq_true c1
      subst c1
      have hx := hρ x
      rw [hxx] at hx
      obtain ⟨X', V, W, hrun, hI⟩ := mark_sound h hdst c2 (Nat.le_of_ble_eq_true c3) hx o.dst
      exact .val (ex (convert src src (a.eval x)) V W hrun (by simp only [execOp, ho])) hI
    · rename_i e v hsrc hdst
      obtain ⟨r, hr, he2⟩ := gives_bind he
      cases he2
      obtain ⟨V, hv', hrun⟩ := strE_sound h.heap h.hw hsrc hdst (hρ x) hr
      exact .val (ex (convert src dst (a.eval x)) V w hrun (by simp only [execOp, ho])) (h.val o.dst hv')
    · cases he
  -- makeInterface
  · rename_i t x ho
    split at he
    · cases he
    · rename_i d hni hu
      cases he
      refine .val (V := .iface t (a.eval x)) (W := w) ?_ (h.val o.dst (.ifc _ _ _ _ (hρ x)))
      have hni' : ∀ ms, d ≠ .interface ms := fun ms he => hni ms (by rw [he])
      cases d <;> first
        | exact absurd rfl (hni' _)
        | simp [execOp, ho, Instr.makeInterface, run_underlying hu]
    · cases he
  -- makeFunc
  · rename_i f first caps ho
    cases he
    have e1 : (((first.toList ++ caps.toList).map a.eval).take first.toList.length).toArray = first.map a.eval := by
      rw [List.map_append, List.take_left' (by simp), ← Array.toList_map, Array.toArray_toList]
    have e2 : (((first.toList ++ caps.toList).map a.eval).drop first.toList.length).toArray = caps.map a.eval := by
      rw [List.map_append, List.drop_left' (by simp), ← Array.toList_map, Array.toArray_toList]
    refine .val (V := .func (.func f) (((first.toList ++ caps.toList).map a.eval).take first.toList.length).toArray (((first.toList ++ caps.toList).map a.eval).drop first.toList.length).toArray) (W := w) ?_ (h.val o.dst (.clo _ _ _ _ _ (by simp) fun j v V hv hV => ?_))
    · simp only [execOp, ho, Instr.makeFunc]
      rw [e1, e2]
      simp
    · rw [List.getElem?_map] at hv hV
      cases hc : (first.toList ++ caps.toList)[j]? with
      | none => rw [hc] at hv; cases hv
      | some y => rw [hc] at hv hV; cases hv; cases hV; exact hρ y
  -- makeSlice
  · rename_i t l c ho
    split at he
    · rename_i et k1 n k2 m hu hl hc
      split at he
      · rename_i i z hi hz
        obtain ⟨hc1, hc2, hc3, hc4, he2⟩ := gives_chk he
        obtain ⟨hg, he3⟩ := freshE_gives _ _ he2
        cases he3
        have hg := gone_get (hg 0 (by omega))
        rw [Nat.add_zero] at hg
        simp only [Bool.and_eq_true] at hc1
        obtain ⟨⟨⟨d1, d2⟩, d3⟩, d4⟩ := hc1
        have hvl := hρ l; rw [hl] at hvl; have hvl := hvl.int_inv
        have hvc := hρ c; rw [hc] at hvc; have hvc := hvc.int_inv
        obtain ⟨X', V, W, hrun, hI⟩ := makeSlice_sound (k1 := k1) (k2 := k2) h hu hi hz d4 (Nat.le_of_ble_eq_true d1) (Nat.eq_of_beq_eq_true d2) (Nat.le_of_ble_eq_true d3) (of_decide_eq_true hc2) (of_decide_eq_true hc3) (of_decide_eq_true hc4) hg o.dst
        exact .val (ex _ V W hrun (by simp only [execOp, ho, hvl, hvc])) hI
      · cases he
    · cases he
  -- slice
  · rename_i t x lo hi mx ho
    obtain ⟨v, hv, he2⟩ := gives_bind he
    cases he2
    obtain ⟨V, hv', hrun⟩ := sliceX_sound h.heap (w := w) (hρ x) (map_opt h lo) (map_opt h hi) (map_opt h mx) hv
    exact .val (ex _ V w hrun (by simp only [execOp, ho])) (h.val o.dst hv')
  -- fieldAddr
  · rename_i s x f ho
    obtain ⟨v, hv, he2⟩ := gives_opt he
    cases he2
    obtain ⟨V, hv', hrun⟩ := fieldAddr_sound (w := w) (hρ x) hv
    exact .val (ex _ V w hrun (by simp only [execOp, ho])) (h.val o.dst hv')
  -- field
  · rename_i s x f ho
    obtain ⟨v, hv, he2⟩ := gives_opt he
    cases he2
    obtain ⟨V, hv', hrun⟩ := field_sound (w := w) (hρ x) hv
    exact .val (ex _ V w hrun (by simp only [execOp, ho])) (h.val o.dst hv')
  -- indexAddr
  · rename_i t x i ho
    obtain ⟨v, hv, he2⟩ := gives_bind he
    cases he2
    obtain ⟨V, hv', hrun⟩ := idxE_sound h.heap (w := w) (hρ x) (hρ i) hv
    exact .val (ex _ V w hrun (by simp only [execOp, ho])) (h.val o.dst hv')
  -- index
  · rename_i t x i ho
    split at he
    · rename_i s k1 n hu hx hi
      obtain ⟨c1, c2, he2⟩ := he
      cases he2
      have hvx := hρ x; rw [hx] at hvx; have hvx := hvx.str_inv
      have hvi := hρ i; rw [hi] at hvi; have hvi := hvi.int_inv
      have c1 := of_decide_eq_true c1
      have c2 := of_decide_eq_true c2
      have hlt : n.toNat < s.size := by omega
      have e1 : s[n.toNat]? = some (s[n.toNat]!) := by rw [getElem?_pos s n.toNat hlt, getElem!_pos s n.toNat hlt]
      refine .val (V := .int .u8 (s[n.toNat]!).toNat) (W := w) ?_ (h.val o.dst (.pv _ _ _ (.int _ _)))
      simp only [execOp, ho, hvx, hvi]
      simp [Instr.index, asIntOf, run_underlying hu, c1, e1]
    · rename_i n et cs k1 iv hu hx hi
      obtain ⟨s, hs, he2⟩ := gives_opt he
      obtain ⟨c0, c1, c2, he3⟩ := gives_chk he2
      cases he3
      simp only [Bool.and_eq_true, Bool.not_eq_true'] at c0
      obtain ⟨⟨⟨d1, d2⟩, d3⟩, d4⟩ := c0
      have d1 := Nat.eq_of_beq_eq_true d1
      have d2 := Nat.eq_of_beq_eq_true d2
      subst d1
      have hvx := hρ x; rw [hx] at hvx
      obtain ⟨Cs, hV, hl, hr⟩ := hvx.agg_inv
      have hvi := hρ i; rw [hi] at hvi; have hvi := hvi.int_inv
      have c1 := of_decide_eq_true c1
      have c2 := of_decide_eq_true c2
      have hlt : iv.toNat < cs.length := by omega
      have hlt2 : iv.toNat < Cs.length := by omega
      have e1 : cs[iv.toNat]? = some cs[iv.toNat] := List.getElem?_eq_getElem hlt
      have e2 : Cs[iv.toNat]? = some Cs[iv.toNat] := List.getElem?_eq_getElem hlt2
      have e3 : (cs.getD iv.toNat dead).scal = cs[iv.toNat] := by
        rw [getD_of e1]
        have := List.all_eq_true.1 d4 _ (List.getElem_mem hlt)
        generalize cs[iv.toNat] = v at this
        cases v <;> first | rfl | cases this
      obtain ⟨d, hd⟩ := sizeT_under hs
      have hp := part_run hd hs Cs iv.toNat (by omega) (fun _ => rfl) w
      have e4 : asV P et ((Cs.drop iv.toNat).take 1) = Cs[iv.toNat] := by
        have : (Cs.drop iv.toNat).take 1 = [Cs[iv.toNat]] := by
          apply List.ext_getElem?
          intro j
          cases j with
          | zero => simp [List.getElem?_take, List.getElem?_drop, hlt2]
          | succ j => simp [List.getElem?_take]
        simp [asV, d3, this]
      rw [e4] at hp
      refine .val (V := Cs[iv.toNat]) (W := w) ?_ (h.val o.dst (by rw [e3]; exact hr _ _ _ e1 e2))
      have hc : 0 ≤ iv ∧ iv < (n : Int) := ⟨c1, c2⟩
      simp only [execOp, ho, hV, hvi]
      simp [Instr.index, asIntOf, run_underlying hu, hc, sizeOf_run hs, hp]
    · cases he
  -- typeAssert
  · rename_i x xt asserted okk ho
    split at he
    · cases he
    · rename_i d t v hni hu hx
      obtain ⟨hc1, he2⟩ := gives_chk he
      cases he2
      have hc2 := Nat.eq_of_beq_eq_true hc1
      subst hc2
      have hvx := hρ x
      rw [hx] at hvx
      have hni' : ∀ ms, d ≠ .interface ms := fun ms he => hni ms (by rw [he])
      generalize hV : a.eval x = V at hvx
      cases hvx with | ifc _ _ _ V hv => ?_
      have hrun : (Instr.typeAssert (.iface t V) xt t okk).run P w = .ok (if okk then .tuple #[V, .bool true] else V) w := by
        cases d <;> first
          | exact absurd rfl (hni' _)
          | (simp [Instr.typeAssert, run_underlying hu]; done)
      refine .val (ex _ _ w hrun (by simp only [execOp, ho, hV])) (h.val o.dst ?_)
      cases okk
      · exact hv
      · refine .tup _ _ [V, .bool true] rfl fun j u U hu hU => ?_
        match j, hu, hU with
        | 0, hu, hU => cases hu; cases hU; exact hv
        | 1, hu, hU => cases hu; cases hU; exact .pv _ _ _ (.bool _)
    · cases he
  -- extract
  · rename_i x i ho
    split at he
    · rename_i vs hx
      obtain ⟨v, hv, he2⟩ := gives_opt he
      have hvx := hρ x
      rw [hx] at hvx
      generalize hV : a.eval x = V at hvx
      cases hvx with | tup _ _ Vs hl hh => ?_
      have hi : i < Vs.length := by rw [hl]; exact (List.getElem?_eq_some_iff.1 hv).1
      have e1 : Vs[i]? = some Vs[i] := List.getElem?_eq_getElem hi
      have hrun : (Instr.extract (.tuple Vs.toArray) i).run P w = .ok Vs[i] w := by simp [Instr.extract, e1, hi]
      cases lend with
      | true =>
        cases he2
        exact .val (ex (Instr.extract (.tuple Vs.toArray) i) Vs[i] w hrun (by simp only [execOp, ho, hV])) (h.val o.dst (hh i v _ hv e1))
      | false =>
        obtain ⟨X', hI⟩ := ice_sound h (hh i v _ hv e1) he2 o.dst
        exact .val (ex (Instr.extract (.tuple Vs.toArray) i) Vs[i] w hrun (by simp only [execOp, ho, hV])) hI
    · cases he
  -- call
  · rename_i c ho
    have hres : execOp a.eval o = (do let d ← resolve a.eval c o.type; invoke d.target d.args) := by simp only [execOp, ho]
    split at he
    · rename_i b hb'
      exact builtinE_sound h ho hb' he
    · rename_i f hf
      split at he
      · rename_i g hg
        have hvf := hρ f
        rw [hg] at hvf
        generalize hV : a.eval f = V at hvf
        cases hvf with | pv _ _ _ hvf => ?_
        cases hvf
        obtain ⟨hl, hA⟩ := args_sound (P := P) h c.args.toList c.argTypes.toList
        obtain ⟨hok, hcall⟩ := callE_sound hC h hl hA he
        refine .call (f := g) ?_ hcall
        rw [hres]
        simp [resolve, hf, hV, Deferred.ofValue, invoke, callFunc_run hok, ← Array.toList_map]
      · rename_i g k caps hg
        have hvf := hρ f
        rw [hg] at hvf
        generalize hV : a.eval f = V at hvf
        cases hvf with | clo _ _ _ _ Caps hl' hh => ?_
        obtain ⟨hl, hA⟩ := args_sound (P := P) h c.args.toList c.argTypes.toList
        have htk : ∀ (j : Nat) (v : AV) (V : Value), (caps.take k)[j]? = some v → (Caps.take k)[j]? = some V → VA X none v V := fun j v V hv hV => by
          rw [List.getElem?_take] at hv hV
          split at hv
          · rename_i hj; rw [if_pos hj] at hV; exact hh j v V hv hV
          · cases hv
        have hdr : ∀ (j : Nat) (v : AV) (V : Value), (caps.drop k)[j]? = some v → (Caps.drop k)[j]? = some V → VA X none v V := fun j v V hv hV => by
          rw [List.getElem?_drop] at hv hV
          exact hh _ v V hv hV
        obtain ⟨hok, hcall⟩ := callE_sound (Args := Caps.take k ++ (c.args.toList.map a.eval ++ Caps.drop k)) hC h (by simp only [List.length_append, List.length_take, List.length_drop, hl, hl']) (va_app (by simp only [List.length_take, hl']) htk (va_app hl hA hdr)) he
        refine .call (f := g) ?_ hcall
        rw [hres]
        simp [resolve, hf, hV, Deferred.ofValue, invoke, callFunc_run hok, ← Array.toList_map]
      · cases he
    · rename_i rcv name hf
      split at he
      · rename_i t v hg
        obtain ⟨m, hm, he2⟩ := gives_opt he
        obtain ⟨g, byPtr⟩ := m
        obtain ⟨x, hx, he3⟩ := gives_bind he2
        have hvf := hρ rcv
        rw [hg] at hvf
        generalize hV : a.eval rcv = V at hvf
        cases hvf with | ifc _ _ _ V hv => ?_
        unfold methodOf at hm
        split at hm
        · rename_i i hi
          split at hm
          · rename_i md hmd
            split at hm
            · rename_i hpath
              obtain ⟨Vx, hVx, hrecv⟩ := recvE_sound h.heap hw hv hx
              obtain ⟨hl, hA⟩ := args_sound (P := P) h c.args.toList c.argTypes.toList
              obtain ⟨hok, hcall⟩ := callE_sound (Args := Vx :: c.args.toList.map a.eval) hC h (by simpa using hl) (fun j u U hu hU => by
                cases j with
                | zero => cases hu; cases hU; exact hVx
                | succ j => exact hA j u U (by simpa using hu) (by simpa using hU)) he3
              refine .call (f := g) ?_ hcall
              rw [hres]
              have hp0 : md.path.toList = [] := by
                have : md.path = #[] := Array.eq_empty_of_size_eq_zero hpath
                rw [this]
              have hmeth : ∀ n, (method (n + 1) t V name).run P w = .ok (g, Vx) w := fun n => by
                unfold method
                simp [typeInfo, hi, hmd, hp0, follow, hm, hrecv]
              have hs : ∃ n, P.types.size + Made.depth = n + 1 := ⟨P.types.size + Made.depth - 1, by
                have : 0 < Made.depth := by decide
                omega⟩
              obtain ⟨n, hn⟩ := hs
              have hz : ((#[Value.iface t V] ++ c.args.map a.eval)[0]? : Option Value) = some (.iface t V) := by simp [Array.getElem?_append]
              have hx1 : (#[Value.iface t V] ++ c.args.map a.eval).extract 1 (#[Value.iface t V] ++ c.args.map a.eval).size = c.args.map a.eval := by simp
              have hx2 : #[Vx] ++ c.args.map a.eval = (Vx :: c.args.toList.map a.eval).toArray := by simp [← Array.toList_map]
              simp only [resolve, hf, hV, Sem.run_bind, Sem.run_pure, Result.andThen_ok, invoke, hz, hx1, callMethod, run_program, hn, hmeth, callFunc_run hok, hx2]
            · cases hm
          · cases hm
        · cases hm
      · cases he
  · cases he
end
end Go.Bm
