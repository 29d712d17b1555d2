/- The abstract machine: an operation yields one effect; what comes behind is told of that effect. -/
import Derived.Test.YtldkmmnffjdliaaAmEff
namespace Go.Am
set_option autoImplicit false
set_option linter.unusedVariables false
set_option linter.unusedSimpArgs false

section
variable {P : Program} {R : Type}

theorem need_bind {A : Type} (b : Bool) (x : Option A) (k : A → Option R) : (need b x).bind k = need b (x.bind k) := by cases b <;> rfl
theorem splitB_bind {A : Type} (b : Bool) (f : Bool → Option A) (k : A → Option R) : (splitB b f).bind k = splitB b fun b => (f b).bind k := by cases b <;> rfl

theorem eqK_bind {A : Type} (t : TypeId) (x y : AV) (f : Bool → Option A) (k : A → Option R) : (eqK P t x y f).bind k = eqK P t x y fun b => (f b).bind k := by
  unfold eqK
  split
  · cases P.eqGuardType P.depth t
    · simp only [cond_false]
      split
      · split <;> rfl
      · rfl
    · rfl
  · split <;> rfl
  · rfl

theorem binK_bind {A : Type} (op : BinOp) (t : TypeId) (x y : AV) (f : AV → Option A) (k : A → Option R) : (binK P op t x y f).bind k = binK P op t x y fun v => (f v).bind k := by
  unfold binK
  split
  · split
    · rw [need_bind]
    · rw [need_bind]
    · rw [need_bind, need_bind]
    · rw [need_bind, need_bind]
    · rw [need_bind]
      congr 1
      split <;> rfl
  · split
    · rfl
    · rfl
    · rw [need_bind]
    · rfl
  · split
    · rw [eqK_bind]
    · rw [eqK_bind]
    · rfl

theorem idxK_bind {A : Type} (H : List Blk) (t : TypeId) (x ix : AV) (f : AV → Option A) (k : A → Option R) : (idxK P H t x ix f).bind k = idxK P H t x ix fun v => (f v).bind k := by
  unfold idxK
  split
  · split
    · split
      · split
        · simp only [need_bind]
        · rfl
      · rfl
    · split
      · rfl
      · split
        · simp only [need_bind]
        · split
          · simp only [need_bind]
          · rfl
        · rfl
    · rfl
  · rfl

theorem boundK_bind {A : Type} (x : Option AV) (d n : Nat) (f : Nat → Option A) (k : A → Option R) : (boundK x d n f).bind k = boundK x d n fun i => (f i).bind k := by
  unfold boundK
  split
  · rfl
  · simp only [need_bind]
  · rfl

theorem sliceK_bind {A : Type} (H : List Blk) (t : TypeId) (x : AV) (lo hi mx : Option AV) (f : AV → Option A) (k : A → Option R) : (sliceK P H t x lo hi mx f).bind k = sliceK P H t x lo hi mx fun v => (f v).bind k := by
  unfold sliceK
  split
  · split
    · rfl
    · split
      · split <;> rfl
      · rfl
      · split
        · simp only [boundK_bind, need_bind]
        · split
          · simp only [boundK_bind, need_bind]
          · rfl
        · rfl
  · split
    · rfl
    · split
      · simp only [boundK_bind]
      · rfl
  · rfl

theorem callK_bind {A : Type} (E : Env) (quiet : Bool) (g : FuncId) (args : List AV) (H : List Blk) (f : Eff → Option A) (k : A → Option R) : (callK E quiet g args H f).bind k = callK E quiet g args H fun e => (f e).bind k := by
  unfold callK
  simp only [need_bind]
  congr 1
  split
  · rw [need_bind]
  · rfl

theorem builtinK_bind {A : Type} (ρ τ : Operand → AV) (H : List Blk) (b : Builtin) (args : List Operand) (ts : List TypeId) (f : Eff → Option A) (k : A → Option R) :
    (builtinK P ρ τ H b args ts f).bind k = builtinK P ρ τ H b args ts fun e => (f e).bind k := by
  unfold builtinK
  split
  · split
    · split <;> rfl
    · rfl
  · split
    · rw [need_bind]
      congr 1
      rw [appendK_bind (k := f), appendK_bind (k := fun e => (f e).bind k), Option.bind_assoc]
    · rfl
  · split
    · split <;> rfl
    · rfl
  · split
    · split <;> rfl
    · rfl
  · rfl

theorem effK_bind' {A : Type} (E : Env) (quiet : Bool) (ops : List Oper) (h0 ix : Nat) (o : Oper) (ρ τ : Operand → AV) (H HH : List Blk) (f : Eff → Option A) (k : A → Option R) :
    (effK E quiet ops h0 ix o ρ τ H HH f).bind k = effK E quiet ops h0 ix o ρ τ H HH fun e => (f e).bind k := by
  unfold effK
  split
  · cases takesD ops o.dst <;> rfl
  · rfl
  · split
    · rw [splitB_bind]
    · rfl
  · split
    · rw [need_bind]
    · rfl
  · rw [need_bind]
  · split <;> rfl
  · split <;> rfl
  · cases takesD ops o.dst
    · simp only [cond_false]
      split <;> rfl
    · simp only [cond_true]
      split <;> rfl
  · split
    · rw [need_bind]
    · rfl
  · split <;> rfl
  · rw [binK_bind]
  · split <;> rfl
  · split <;> rfl
  · split <;> rfl
  · split <;> rfl
  · split
    · split
      · simp only [need_bind]
      · rfl
    · rfl
  · rw [sliceK_bind]
  · split <;> rfl
  · split <;> rfl
  · rw [idxK_bind]
  · split
    · simp only [need_bind]
    · rfl
  · split
    · rfl
    · rw [need_bind]
    · rfl
  · split
    · split <;> rfl
    · rfl
  · split
    · rw [builtinK_bind]
    · split
      · rw [callK_bind]
      · rw [callK_bind]
      · rfl
    · split
      · split
        · split
          · rw [callK_bind]
          · rfl
        · rfl
      · rfl
  · rfl

theorem effK_bind (E : Env) (quiet : Bool) (ops : List Oper) (h0 ix : Nat) (o : Oper) (ρ τ : Operand → AV) (H HH : List Blk) (k : Eff → Option R) :
    effK E quiet ops h0 ix o ρ τ H HH k = (effK E quiet ops h0 ix o ρ τ H HH some).bind k := by
  rw [effK_bind']
  rfl

/-! ### one operation -/
def wantO (ops : List Oper) (o : Oper) (st : St) : Option Bool := match o.guard with
  | none => some true
  | some (j, want) => match guardT ops j with
    | none => none
    | some g => match getT st g with
      | .tup _ => some false
      | _ => match (getT st g).borrow with
        | .pv (.bool b) => some (b == want)
        | _ => none
def stepD (E : Env) (quiet : Bool) (ops : List Oper) (h0 ix : Nat) (o : Oper) (st : St) : Option Eff := match wantO ops o st with
  | none => none
  | some true => effK E quiet ops h0 ix o (rhoOf st) (evT st.tmps) (st.heap.take (h0 + rank ops ix)) st.heap some
  | some false => some { val := undefV }

theorem set_known {st : St} {t : Nat} {b : Bool} (h : (getT st t).borrow = .pv (.bool b)) : st.tmps.set t (.pv (.bool b)) = st.tmps := by
  unfold getT at h
  rw [List.getD] at h
  cases hx : st.tmps[t]? with
  | none => rw [hx] at h; cases h
  | some v =>
    rw [hx] at h
    have : v = .pv (.bool b) := by
      cases v <;> first | exact h | cases h
    subst this
    exact set_self hx

theorem stepK_eq (E : Env) (quiet : Bool) (ops : List Oper) (h0 ix : Nat) (o : Oper) (st : St) (k : St → Option R) :
    stepK E quiet ops h0 ix o st k = (stepD E quiet ops h0 ix o st).bind fun e => k (e.on o.dst st) := by
  unfold stepK stepD wantO
  cases ho : o.guard with
  | none =>
    simp only [effAt]
    rw [effK_bind]
  | some jw =>
    obtain ⟨j, want⟩ := jw
    simp only []
    cases hg : guardT ops j with
    | none => rfl
    | some g =>
      simp only []
      clear ho
      by_cases ht : ∃ l, getT st g = .tup l
      · obtain ⟨l, hl⟩ := ht
        simp only [hl]
        rfl
      · have e1 : ∀ {A : Type} (x : List AV → A) (y : A), (match getT st g with | .tup l => x l | _ => y) = y := by
          intro A x y
          split
          · rename_i l hl; exact absurd ⟨l, hl⟩ ht
          · rfl
        by_cases hb : ∃ b, (getT st g).borrow = .pv (.bool b)
        · obtain ⟨b, hb⟩ := hb
          have hg : getT st g = .pv (.bool b) := by
            revert hb
            cases getT st g <;> intro hb <;> first | exact hb | cases hb
          have hs : ({ st with tmps := st.tmps.set g (.pv (.bool b)) } : St) = st := by rw [set_known hb]
          simp only [hg, branchK, AV.borrow]
          cases b <;> cases want <;> simp only [splitB] <;> rw [hs]
          · exact effK_bind ..
          · rfl
          · rfl
          · exact effK_bind ..
        · have hn : ∀ {A : Type} (k : Bool → A) (y : A), (match (getT st g).borrow with | .pv (.bool b) => k b | _ => y) = y := by
            intro A k y
            split
            · rename_i b hb'; exact absurd ⟨b, hb'⟩ hb
            · rfl
          have hl : (match getT st g with
              | .tup _ => k (setT st o.dst undefV)
              | _ => branchK st g fun b st => match b, want with
                | true, true => effAt E quiet ops h0 ix o st k
                | false, false => effAt E quiet ops h0 ix o st k
                | _, _ => k (setT st o.dst undefV)) = none := by
            split
            · rename_i l hl; exact absurd ⟨l, hl⟩ ht
            · unfold branchK
              split
              · rename_i b hb'; exact absurd ⟨b, hb'⟩ hb
              · rfl
          refine Eq.trans hl ?_
          split
          · rfl
          · rename_i hw
            split at hw
            · rename_i l hl'; exact absurd ⟨l, hl'⟩ ht
            · split at hw
              · rename_i b hb'; exact absurd ⟨b, hb'⟩ hb
              · cases hw
          · rename_i hw
            split at hw
            · rename_i l hl'; exact absurd ⟨l, hl'⟩ ht
            · split at hw
              · rename_i b hb'; exact absurd ⟨b, hb'⟩ hb
              · cases hw

/-- Operations, one behind another. -/
def runD (E : Env) (quiet : Bool) (ops : List Oper) (h0 : Nat) : List Nat → St → Option St
  | [], st => some st
  | i :: l, st => match ops[i]? with
    | none => none
    | some o => (stepD E quiet ops h0 i o st).bind fun e => runD E quiet ops h0 l (e.on o.dst st)

theorem opsK_eq (E : Env) (quiet : Bool) (ops : List Oper) (h0 : Nat) (k : St → Option R) : ∀ (rest : List Oper) (ix : Nat) (st : St), (∀ j : Nat, rest[j]? = ops[ix + j]?) →
    opsK E quiet ops h0 ix rest st k = (runD E quiet ops h0 (List.range' ix rest.length) st).bind k
  | [], ix, st, _ => rfl
  | o :: rest, ix, st, h => by
    have h0' : ops[ix]? = some o := by simpa using (h 0).symm
    simp only [opsK, List.length_cons, List.range'_succ, runD, h0']
    rw [stepK_eq, Option.bind_assoc]
    congr 1
    funext e
    exact opsK_eq E quiet ops h0 k rest (ix + 1) _ fun j => by have := h (j + 1); simpa [Nat.add_assoc, Nat.add_comm 1 j] using this
end
end Go.Am
