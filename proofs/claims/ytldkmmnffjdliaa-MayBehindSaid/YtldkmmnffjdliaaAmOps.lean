/- The abstract machine is sound, operation by operation: those that leave memory alone. -/
import Derived.Test.YtldkmmnffjdliaaAmStep
import Derived.Laws.Entries
import Derived.Laws.Cells
import Derived.Laws.StructEq
import Derived.Tactics
namespace Go.Am
set_option autoImplicit false
set_option linter.unusedVariables false
set_option linter.unusedSimpArgs false

theorem wp_val {P : Program} {o : Oper} {a : Act} {w W : World} {V : Value} {K : Act → World → Prop} {Q : Exit → Act → World → Prop} (h : (execOp a.eval o).run P w = .ok (.value V) W) (hK : K (a.put o.dst V) W) : o.wp P a w K Q := by
  unfold Oper.wp; rw [h]; exact hK
theorem wp_unit {P : Program} {o : Oper} {a : Act} {w W : World} {K : Act → World → Prop} {Q : Exit → Act → World → Prop} (h : (execOp a.eval o).run P w = .ok .skip W) (hK : K (a.put o.dst undef) W) : o.wp P a w K Q := by
  unfold Oper.wp; rw [h]; exact hK

theorem need_some {R : Type} {b : Bool} {k : Option R} {r : R} (h : need b k = some r) : b = true ∧ k = some r := by
  cases b
  · cases h
  · exact ⟨rfl, h⟩
theorem splitB_some {R : Type} {b : Bool} {k : Bool → Option R} {r : R} (h : splitB b k = some r) : k b = some r := by cases b <;> exact h

theorem VA.ofConst {X : Ctx} (v : Value) : VA X none (ofConst v) v := by
  unfold Am.ofConst
  split
  · exact .pv _ _ _ (.bool _)
  · exact .pv _ _ _ (.int _ _)
  · exact .pv _ _ _ (.str _)
  · exact .nil _ _ _
  · exact .pv _ _ _ .nilPtr
  · exact .pv _ _ _ .nilFn
  · exact .pv _ _ _ .nilIf
  · exact .dead _ _

section
variable {P : Program} {X0 X : Ctx} {st : St} {a : Act} {w : World}

theorem VA.int_inv {π : Option Pos} {k : IntKind} {n : Int} {V : Value} (h : VA X π (.pv (.int k n)) V) : V = .int k n := by
  cases h with | pv _ _ _ h => cases h; rfl
theorem VA.bool_inv {π : Option Pos} {b : Bool} {V : Value} (h : VA X π (.pv (.bool b)) V) : V = .bool b := by
  cases h with | pv _ _ _ h => cases h; rfl
theorem VA.str_inv {π : Option Pos} {s : ByteArray} {V : Value} (h : VA X π (.pv (.str s)) V) : V = .string s := by
  cases h with | pv _ _ _ h => cases h; rfl
theorem VA.agg_inv {π : Option Pos} {cs : List AV} {V : Value} (h : VA X π (.agg cs) V) : ∃ Cs : List Value, V = .agg Cs.toArray ∧ Cs.length = cs.length ∧ ∀ (j : Nat) (v : AV) (V : Value), cs[j]? = some v → Cs[j]? = some V → VA X none v V := by
  cases h with | agg _ _ Cs hl h => exact ⟨Cs, rfl, hl, h⟩

theorem Inv.rho (h : Inv X0 X st a w) (x : Operand) : VA X none (rhoOf st x) (a.eval x) := by
  cases x with
  | tmp t => exact (h.tmp t).borrow none
  | const v => exact (VA.ofConst v).borrow none
  | global g => exact .dead _ _
  | func f => exact .pv _ _ _ (.fn f)

/-- An operation that leaves the world alone. -/
theorem Inv.val (h : Inv X0 X st a w) (dst : Option Nat) {v : AV} {V : Value} (hv : VA X none v V) : Inv X0 X ((Eff.mk v none []).on dst st) (a.put dst V) w :=
  h.put dst fun t _ => hv.any _

/-! ### lists of cells -/
/-- Cells, one by one. -/
def Rows (X : Ctx) (cs : List AV) (Cs : List Value) : Prop := Cs.length = cs.length ∧ ∀ (j : Nat) (v : AV) (V : Value), cs[j]? = some v → Cs[j]? = some V → VA X none v V

theorem Rows.part {cs : List AV} {Cs : List Value} (h : Rows X cs Cs) (off n : Nat) : Rows X (part cs off n) ((Cs.drop off).take n) := by
  refine ⟨by simp [Am.part, h.1], fun j v V hv hV => ?_⟩
  simp only [Am.part, List.getElem?_take, List.getElem?_drop] at hv hV
  split at hv
  · rename_i hj
    rw [if_pos hj] at hV
    exact h.2 _ v V hv hV
  · cases hv

/-- The value of a type that some cells make. -/
def asV (P : Program) (t : TypeId) (Cs : List Value) : Value := match isAggT P t with
  | true => .agg Cs.toArray
  | false => Cs.headD undef

theorem isAgg_run {t : TypeId} {d : TypeDesc} (hd : P.underlying t = some d) (w : World) : (isAgg t).run P w = .ok (isAggT P t) w := by
  simp only [isAgg, isAggT, Sem.run_bind, run_underlying hd, Result.andThen_ok, hd]
  cases d <;> simp

theorem sizeOf_run {t : TypeId} {n : Nat} (h : sizeT P t = some n) (w : World) : (sizeOf t).run P w = .ok n w := by
  unfold sizeT at h
  split at h
  · rename_i d i hu hi
    cases h
    simp [sizeOf, typeInfo, hi]
  · cases h
theorem sizeT_under {t : TypeId} {n : Nat} (h : sizeT P t = some n) : ∃ d, P.underlying t = some d := by
  unfold sizeT at h
  split at h
  · exact ⟨_, ‹_›⟩
  · cases h

theorem part_run {t : TypeId} {d : TypeDesc} {n : Nat} (hd : P.underlying t = some d) (hn : sizeT P t = some n) (Cs : List Value) (off : Nat) (hl : off + n ≤ Cs.length) (h1 : isAggT P t = false → n = 1) (w : World) :
    (Go.part t Cs.toArray off).run P w = .ok (asV P t ((Cs.drop off).take n)) w := by
  simp only [Go.part, Sem.run_bind, isAgg_run hd, Result.andThen_ok]
  cases hb : isAggT P t with
  | true =>
    simp [sizeOf_run hn, asV, hb]
  | false =>
    have := h1 hb
    subst this
    have hlt : off < Cs.length := by omega
    have e : (Cs.drop off).take 1 = [Cs[off]] := by
      apply List.ext_getElem?
      intro j
      cases j with
      | zero => simp [List.getElem?_take, List.getElem?_drop, hlt]
      | succ j => simp [List.getElem?_take]
    simp [asV, hb, e, hlt]

theorem eqV_sound (n : Nat) : ∀ (t : TypeId) (xs ys : List AV) (b : Bool), eqV P n t xs ys = some b → ∀ (X : Ctx) (Xs Ys : List Value), Rows X xs Xs → Rows X ys Ys → ∀ (d : Nat), n ≤ d → ∀ w : World,
    (∃ u, P.underlying t = some u) ∧ (isAggT P t = false → xs.length = 1 ∧ ys.length = 1) ∧ (Op.equalIn d t (asV P t Xs) (asV P t Ys)).run P w = .ok b w := by
  induction n with
  | zero => intro t xs ys b h; cases h
  | succ n ih =>
    intro t xs ys b h X Xs Ys hx hy d hd w
    obtain ⟨d, rfl⟩ : ∃ k, d = k + 1 := ⟨d - 1, by omega⟩
    unfold eqV at h
    split at h
    · rename_i hu
      have ha : isAggT P t = false := by simp [isAggT, hu]
      split at h
      · rename_i a b'
        obtain ⟨l1, r1⟩ := hx
        obtain ⟨l2, r2⟩ := hy
        obtain ⟨x, rfl⟩ := List.length_eq_one_iff.1 l1
        obtain ⟨y, rfl⟩ := List.length_eq_one_iff.1 l2
        have e1 := (r1 0 _ _ rfl rfl).bool_inv
        have e2 := (r2 0 _ _ rfl rfl).bool_inv
        subst e1 e2
        cases h
        exact ⟨⟨_, hu⟩, fun _ => ⟨rfl, rfl⟩, by simp only [asV, ha]; exact run_equalIn_bool' w d t a b' hu⟩
      · cases h
    · rename_i hu
      have ha : isAggT P t = false := by simp [isAggT, hu]
      split at h
      · rename_i k a k' b'
        split at h
        · rename_i hk
          subst hk
          obtain ⟨l1, r1⟩ := hx
          obtain ⟨l2, r2⟩ := hy
          obtain ⟨x, rfl⟩ := List.length_eq_one_iff.1 l1
          obtain ⟨y, rfl⟩ := List.length_eq_one_iff.1 l2
          have e1 := (r1 0 _ _ rfl rfl).int_inv
          have e2 := (r2 0 _ _ rfl rfl).int_inv
          subst e1 e2
          cases h
          exact ⟨⟨_, hu⟩, fun _ => ⟨rfl, rfl⟩, by simp only [asV, ha]; exact run_equalIn_int w d t k _ a b' hu⟩
        · cases h
      · cases h
    · rename_i hu
      have ha : isAggT P t = false := by simp [isAggT, hu]
      split at h
      · rename_i a b'
        obtain ⟨l1, r1⟩ := hx
        obtain ⟨l2, r2⟩ := hy
        obtain ⟨x, rfl⟩ := List.length_eq_one_iff.1 l1
        obtain ⟨y, rfl⟩ := List.length_eq_one_iff.1 l2
        have e1 := (r1 0 _ _ rfl rfl).str_inv
        have e2 := (r2 0 _ _ rfl rfl).str_inv
        subst e1 e2
        cases h
        exact ⟨⟨_, hu⟩, fun _ => ⟨rfl, rfl⟩, by simp only [asV, ha]; exact run_equalIn_string w d t a b' hu⟩
      · cases h
    · rename_i fs hu
      have ha : isAggT P t = true := by simp [isAggT, hu]
      cases hst : P.stoodInHeld t with
      | true => rw [hst] at h; cases h
      | false =>
        rw [hst] at h
        simp only [cond_false] at h
        have hf : P.fieldsOf t = fs := by simp [Program.fieldsOf, hu]
        refine ⟨⟨_, hu⟩, (fun hh => by rw [ha] at hh; cases hh), ?_⟩
        simp only [asV, ha]
        rw [run_equalIn_struct (P := P) w d t Xs.toArray Ys.toArray (by rw [hf]; exact hu) hst, hf]
        clear hf hu ha hst
        generalize fs.toList = l at h ⊢
        induction l generalizing b with
        | nil => simp at h; simp [Op.eqFields, h]
        | cons f l ihl =>
          simp only [List.foldr_cons] at h
          split at h
          · cases h
          · rename_i r hr
            cases hn : (f.name == "_") with
            | true => rw [hn] at h; cases h
            | false =>
              rw [hn] at h
              simp only [cond_false] at h
              split at h
              · cases h
              · rename_i m hm
                cases hc : (Nat.ble (f.offset + m) xs.length && Nat.ble (f.offset + m) ys.length) with
                | false => rw [hc] at h; cases h
                | true =>
                  rw [hc] at h
                  simp only [cond_true] at h
                  rw [Bool.and_eq_true] at hc
                  have c1 := Nat.le_of_ble_eq_true hc.1
                  have c2 := Nat.le_of_ble_eq_true hc.2
                  split at h
                  · rename_i b' hb
                    cases h
                    obtain ⟨⟨u, hu⟩, hag, he⟩ := ih f.type _ _ b' hb X _ _ (hx.part f.offset m) (hy.part f.offset m) d (by omega) w
                    have h1 : isAggT P f.type = false → m = 1 := fun hh => by
                      have := (hag hh).1
                      simp [Am.part] at this
                      omega
                    have p1 := part_run (P := P) hu hm Xs f.offset (by rw [hx.1]; exact c1) h1 w
                    have p2 := part_run (P := P) hu hm Ys f.offset (by rw [hy.1]; exact c2) h1 w
                    have hn' : f.name ≠ "_" := by simpa using hn
                    rw [Op.eqFields]
                    simp only [if_pos hn', Sem.run_bind, p1, p2, he, Result.andThen_ok]
                    cases b'
                    · simp
                    · simpa using ihl r hr
                  · cases h
    · cases h

theorem eqK_sound {t : TypeId} {x y : AV} {Vx Vy : Value} {R : Type} {k : Bool → Option R} {r : R} (hx : VA X none x Vx) (hy : VA X none y Vy) (h : eqK P t x y k = some r) :
    ∃ b, k b = some r ∧ ∀ (op : BinOp) (ox oy : Operand) (w : World), (eqGuard op t ox oy Vx Vy).run P w = .ok () w ∧ (binOp .eql t Vx Vy).run P w = .ok (.bool b) w ∧ (binOp .neq t Vx Vy).run P w = .ok (.bool !b) w := by
  unfold eqK at h
  split at h
  · rename_i xs ys
    cases hg : P.eqGuardType P.depth t with
    | true => rw [hg] at h; cases h
    | false =>
      rw [hg] at h
      simp only [cond_false] at h
      split at h
      · rename_i fs hu
        split at h
        · rename_i b hb
          obtain ⟨Xs, rfl, l1, r1⟩ := hx.agg_inv
          obtain ⟨Ys, rfl, l2, r2⟩ := hy.agg_inv
          have ha : isAggT P t = true := by simp [isAggT, hu]
          refine ⟨b, h, fun op ox oy w => ?_⟩
          have he := (eqV_sound 8 t xs ys b hb X Xs Ys ⟨l1, r1⟩ ⟨l2, r2⟩ 10000 (by decide) w).2.2
          simp only [asV, ha] at he
          refine ⟨?_, ?_, ?_⟩
          · unfold eqGuard
            cases op <;> simp [hg]
          · rw [run_eql_struct, he]; rfl
          · rw [run_neq_struct, he]; rfl
        · cases h
      · cases h
  · rename_i a b'
    split at h
    · rename_i b hu' hb
      have e1 := hx.bool_inv
      have e2 := hy.bool_inv
      subst e1 e2
      refine ⟨b, h, fun op ox oy w => ?_⟩
      have hr : ∀ c : Bool, Rows X [.pv (.bool c)] [.bool c] := fun c => ⟨rfl, fun j v V h1 h2 => by
        cases j with
        | zero => cases h1; cases h2; exact .pv _ _ _ (.bool _)
        | succ j => cases h1⟩
      obtain ⟨⟨u, hu⟩, _, he⟩ := eqV_sound 8 t _ _ b hb X _ _ (hr a) (hr b') 10000 (by decide) w
      have ha : isAggT P t = false := by simp [isAggT, hu']
      simp only [asV, ha, List.headD] at he
      refine ⟨?_, ?_, ?_⟩
      · unfold eqGuard
        cases op <;> simp
      · simp [binOp, Op.equal, Op.maxDepth, he]
      · simp [binOp, Op.equal, Op.maxDepth, he]
    · cases h
  · cases h

/-! ### numbers -/
theorem arith_sound {op : BinOp} {k : IntKind} {a b : Int} {p : PV} (h : arith op k a b = some p) (X : Ctx) : ∃ V, VP X.R X.w p V ∧ ∀ (t : TypeId) (w : World), (binOp op t (.int k a) (.int k b)).run P w = .ok V w := by
  cases op <;> first
    | (cases h; done)
    | (cases h; exact ⟨_, .int _ _, fun t w => by simp [binOp, Op.intArith, Op.intBits, Op.intCmp]⟩)
    | (cases h; exact ⟨_, .bool _, fun t w => by simp [binOp, Op.intArith, Op.intBits, Op.intCmp]⟩)
theorem binK_sound {op : BinOp} {t : TypeId} {x y : AV} {Vx Vy : Value} {R : Type} {k : AV → Option R} {r : R} (hx : VA X none x Vx) (hy : VA X none y Vy) (h : binK P op t x y k = some r) :
    ∃ v V, k v = some r ∧ VA X none v V ∧ ∀ (ox oy : Operand) (w : World), (eqGuard op t ox oy Vx Vy).run P w = .ok () w ∧ (binOp op t Vx Vy).run P w = .ok V w := by
  unfold binK at h
  split at h
  · rename_i kx a ky b
    have e1 := hx.int_inv
    have e2 := hy.int_inv
    subst e1 e2
    have hg : ∀ (op : BinOp) (ox oy : Operand) (w : World), (eqGuard op t ox oy (.int kx a) (.int ky b)).run P w = .ok () w := by
      intro op ox oy w
      unfold eqGuard
      cases op <;> simp
    split at h
    · obtain ⟨h1, h⟩ := need_some h
      have h1 := of_decide_eq_true h1
      refine ⟨_, _, h, .pv _ _ _ (.int _ _), fun ox oy w => ⟨hg _ ox oy w, ?_⟩⟩
      have : ¬ b < 0 := by omega
      simp [binOp, Op.shift, this]
    · obtain ⟨h1, h⟩ := need_some h
      have h1 := of_decide_eq_true h1
      refine ⟨_, _, h, .pv _ _ _ (.int _ _), fun ox oy w => ⟨hg _ ox oy w, ?_⟩⟩
      have : ¬ b < 0 := by omega
      simp [binOp, Op.shift, this]
    · obtain ⟨h1, h3⟩ := need_some h
      obtain ⟨h2, h4⟩ := need_some h3
      have h5 := of_decide_eq_true h1
      subst h5
      have h2 : ¬ b = 0 := by simpa using h2
      refine ⟨_, _, h4, .pv _ _ _ (.int _ _), fun ox oy w => ⟨hg _ ox oy w, ?_⟩⟩
      simp [binOp, Op.intDiv, h2]
    · obtain ⟨h1, h3⟩ := need_some h
      obtain ⟨h2, h4⟩ := need_some h3
      have h5 := of_decide_eq_true h1
      subst h5
      have h2 : ¬ b = 0 := by simpa using h2
      refine ⟨_, _, h4, .pv _ _ _ (.int _ _), fun ox oy w => ⟨hg _ ox oy w, ?_⟩⟩
      simp [binOp, Op.intDiv, h2]
    · rename_i op n1 n2 n3 n4
      obtain ⟨h1, h3⟩ := need_some h
      have h5 := of_decide_eq_true h1
      subst h5
      split at h3
      · rename_i p hp
        obtain ⟨V, hV, hrun⟩ := arith_sound (P := P) hp X
        exact ⟨_, _, h3, .pv _ _ _ hV, fun ox oy w => ⟨hg _ ox oy w, hrun t w⟩⟩
      · cases h3
  · rename_i a b
    have e1 := hx.str_inv
    have e2 := hy.str_inv
    subst e1 e2
    have hg : ∀ (op : BinOp) (ox oy : Operand) (w : World), (eqGuard op t ox oy (.string a) (.string b)).run P w = .ok () w := by
      intro op ox oy w
      unfold eqGuard
      cases op <;> simp
    split at h
    · exact ⟨_, _, h, .pv _ _ _ (.bool _), fun ox oy w => ⟨hg _ ox oy w, by simp [binOp, Op.stringOp]⟩⟩
    · exact ⟨_, _, h, .pv _ _ _ (.bool _), fun ox oy w => ⟨hg _ ox oy w, by simp [binOp, Op.stringOp]⟩⟩
    · obtain ⟨h1, h⟩ := need_some h
      have h1 := Nat.le_of_ble_eq_true h1
      refine ⟨_, _, h, .pv _ _ _ (.str _), fun ox oy w => ⟨hg _ ox oy w, ?_⟩⟩
      have : ¬ (((a.size + b.size : Nat) : Int) > IntKind.i64.max) := by
        have : IntKind.i64.max = 9223372036854775807 := by decide
        rw [this]; unfold reach at h1; omega
      simp only [binOp, Op.stringOp, if_neg this, Sem.run_pure]
    · cases h
  · split at h
    · obtain ⟨b, h1, h2⟩ := eqK_sound hx hy h
      exact ⟨_, _, h1, .pv _ _ _ (.bool _), fun ox oy w => ⟨(h2 .eql ox oy w).1, (h2 .eql ox oy w).2.1⟩⟩
    · obtain ⟨b, h1, h2⟩ := eqK_sound hx hy h
      exact ⟨_, _, h1, .pv _ _ _ (.bool _), fun ox oy w => ⟨(h2 .neq ox oy w).1, (h2 .neq ox oy w).2.2⟩⟩
    · cases h
end
end Go.Am
