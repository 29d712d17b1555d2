/- The abstract machine: what comes behind code, and more rounds and deeper calls tell the same. -/
import Derived.Test.YtldkmmnffjdliaaAmCode
namespace Go.Am
set_option autoImplicit false
set_option linter.unusedVariables false
set_option linter.unusedSimpArgs false

theorem stepK_bind {A R : Type} (E : Env) (quiet : Bool) (ops : List Oper) (h0 ix : Nat) (o : Oper) (st : St) (f : St → Option A) (k : A → Option R) :
    (stepK E quiet ops h0 ix o st f).bind k = stepK E quiet ops h0 ix o st fun s => (f s).bind k := by
  rw [stepK_eq, stepK_eq, Option.bind_assoc]

theorem opsK_bind {A R : Type} (E : Env) (quiet : Bool) (ops : List Oper) (h0 : Nat) : ∀ (rest : List Oper) (ix : Nat) (st : St) (f : St → Option A) (k : A → Option R),
    (opsK E quiet ops h0 ix rest st f).bind k = opsK E quiet ops h0 ix rest st fun s => (f s).bind k
  | [], ix, st, f, k => rfl
  | o :: rest, ix, st, f, k => by
    simp only [opsK]
    rw [stepK_bind]
    congr 1
    funext s
    exact opsK_bind E quiet ops h0 rest (ix + 1) s f k

theorem branchK_bind {A R : Type} (st : St) (t : Nat) (f : Bool → St → Option A) (k : A → Option R) : (branchK st t f).bind k = branchK st t fun b s => (f b s).bind k := by
  unfold branchK
  split
  · rw [splitB_bind]
  · rfl

theorem iter_bind {A R : Type} (F : St → (St → Option A) → Option A) (G : St → (St → Option R) → Option R) (k : A → Option R) (h : ∀ s self, (F s self).bind k = G s fun s => (self s).bind k) : ∀ (n : Nat) (s : St), (iter F n s).bind k = iter G n s
  | 0, s => rfl
  | n + 1, s => by
    simp only [iter]
    rw [h]
    congr 1
    funext s'
    exact iter_bind F G k h n s'

theorem execK_bind {A R : Type} (E : Env) : ∀ (c : Code) (st : St) (f : Ex → St → Option A) (k : A → Option R), (execK E c st f).bind k = execK E c st fun e s => (f e s).bind k := by
  intro c
  induction c with
  | skip => intro st f k; rfl
  | region id ops draw =>
    intro st f k
    simp only [execK]
    rw [need_bind, opsK_bind]
  | seq a b iha ihb =>
    intro st f k
    simp only [execK]
    rw [iha]
    congr 1
    funext e s
    cases e with
    | normal => exact ihb s f k
    | exit i => rfl
    | ret => rfl
  | cond c a b iha ihb =>
    intro st f k
    unfold execK
    split
    · rw [branchK_bind]
      congr 1
      funext x s
      cases x
      · exact ihb s f k
      · exact iha s f k
    · exact iha st f k
    · exact ihb st f k
    · rfl
  | block id c ih =>
    intro st f k
    simp only [execK]
    rw [ih]
    congr 1
    funext e s
    cases e with
    | normal => rfl
    | exit i => simp only []; cases Nat.beq i id <;> rfl
    | ret => rfl
  | loop c ih =>
    intro st f k
    simp only [execK]
    refine iter_bind _ _ k (fun s self => ?_) E.fuel _
    rw [ih]
    congr 1
    funext e s'
    cases e <;> rfl
  | exit id => intro st f k; rfl
  | ret => intro st f k; rfl
  | _ => intro st f k; rfl

/-! ### more rounds, deeper calls -/
abbrev CallF := FuncId → List AV → List Blk → Option (AV × List Blk)
def Env.grown (E : Env) (c : CallF) (n : Nat) : Env := { E with call := c, fuel := n }

section
variable {E : Env} {c' : CallF} {n' : Nat}

theorem callK_mono (hc : ∀ f a H r, E.call f a H = some r → c' f a H = some r) {quiet : Bool} {f : FuncId} {args : List AV} {H : List Blk} {e : Eff} (h : callK E quiet f args H some = some e) : callK (E.grown c' n') quiet f args H some = some e := by
  unfold callK at h ⊢
  obtain ⟨h1, h2⟩ := need_some h
  simp only [Env.grown] at h1 ⊢
  rw [h1]
  simp only [need]
  split at h2
  · rename_i r H' hr
    rw [hc _ _ _ _ hr]
    exact h2
  · cases h2

theorem effK_mono (hc : ∀ f a H r, E.call f a H = some r → c' f a H = some r) {quiet : Bool} {ops : List Oper} {h0 ix : Nat} {o : Oper} {ρ τ : Operand → AV} {H HH : List Blk} {e : Eff}
    (h : effK E quiet ops h0 ix o ρ τ H HH some = some e) : effK (E.grown c' n') quiet ops h0 ix o ρ τ H HH some = some e := by
  obtain ⟨dst, op, type, pos, after, guard⟩ := o
  cases op <;> first
    | exact h
    | (rename_i f _ _; cases f <;> exact h)
    | skip
  rename_i c
  simp only [effK] at h ⊢
  cases hcc : c.callee with
  | builtin b => rw [hcc] at h; exact h
  | value f =>
    rw [hcc] at h
    simp only [] at h ⊢
    split at h
    · exact callK_mono hc h
    · exact callK_mono hc h
    · cases h
  | invoke r name =>
    rw [hcc] at h
    simp only [] at h ⊢
    split at h
    · rename_i t v hg
      split at h
      · rename_i g byPtr hm
        have hm' : methodOf (E.grown c' n').P t name = some (g, byPtr) := hm
        rw [hm']
        simp only []
        split at h
        · rename_i x hx
          have hx' : recvV (E.grown c' n').P H t byPtr v = some x := hx
          rw [hx']
          exact callK_mono hc h
        · cases h
      · cases h
    · cases h

theorem stepK_mono {R : Type} (hc : ∀ f a H r, E.call f a H = some r → c' f a H = some r) {quiet : Bool} {ops : List Oper} {h0 ix : Nat} {o : Oper} {st : St} {k k' : St → Option R} {r : R}
    (hk : ∀ s r, k s = some r → k' s = some r) (h : stepK E quiet ops h0 ix o st k = some r) : stepK (E.grown c' n') quiet ops h0 ix o st k' = some r := by
  rw [stepK_eq] at h ⊢
  cases hs : stepD E quiet ops h0 ix o st with
  | none => rw [hs] at h; cases h
  | some e =>
    rw [hs] at h
    have : stepD (E.grown c' n') quiet ops h0 ix o st = some e := by
      unfold stepD at hs ⊢
      split at hs
      · cases hs
      · exact effK_mono hc hs
      · exact hs
    rw [this]
    exact hk _ _ h

theorem opsK_mono {R : Type} (hc : ∀ f a H r, E.call f a H = some r → c' f a H = some r) {quiet : Bool} {ops : List Oper} {h0 : Nat} : ∀ (rest : List Oper) (ix : Nat) (st : St) (k k' : St → Option R) (r : R),
    (∀ s r, k s = some r → k' s = some r) → opsK E quiet ops h0 ix rest st k = some r → opsK (E.grown c' n') quiet ops h0 ix rest st k' = some r
  | [], ix, st, k, k', r, hk, h => hk st r h
  | o :: rest, ix, st, k, k', r, hk, h => by
    simp only [opsK] at h ⊢
    exact stepK_mono hc (fun s r hs => opsK_mono hc rest (ix + 1) s k k' r hk hs) h

theorem iter_mono {R : Type} {F G : St → (St → Option R) → Option R} (h : ∀ s self self' r, (∀ s r, self s = some r → self' s = some r) → F s self = some r → G s self' = some r) : ∀ (n m : Nat), n ≤ m → ∀ (s : St) (r : R), iter F n s = some r → iter G m s = some r
  | 0, _, _, s, r, hr => by cases hr
  | n + 1, 0, hle, s, r, hr => by omega
  | n + 1, m + 1, hle, s, r, hr => by
    simp only [iter] at hr ⊢
    exact h s _ _ r (fun s r hs => iter_mono h n m (by omega) s r hs) hr

theorem execK_mono {R : Type} (hc : ∀ f a H r, E.call f a H = some r → c' f a H = some r) (hn : E.fuel ≤ n') : ∀ (c : Code) (st : St) (k k' : Ex → St → Option R) (r : R),
    (∀ e s r, k e s = some r → k' e s = some r) → execK E c st k = some r → execK (E.grown c' n') c st k' = some r := by
  intro c
  induction c with
  | skip => intro st k k' r hk h; exact hk _ _ _ h
  | region id ops draw =>
    intro st k k' r hk h
    simp only [execK] at h ⊢
    obtain ⟨h1, h2⟩ := need_some h
    rw [h1]
    exact opsK_mono hc _ _ _ _ _ r (fun s r hs => hk _ _ _ hs) h2
  | seq a b iha ihb =>
    intro st k k' r hk h
    simp only [execK] at h ⊢
    refine iha st _ _ r (fun e s r hs => ?_) h
    cases e with
    | normal => exact ihb s k k' r hk hs
    | exit i => exact hk _ _ _ hs
    | ret => exact hk _ _ _ hs
  | cond c a b iha ihb =>
    intro st k k' r hk h
    unfold execK at h ⊢
    split at h
    · unfold branchK at h ⊢
      split at h
      · rename_i b hb
        have h := splitB_some h
        cases b
        · exact ihb _ k k' r hk h
        · exact iha _ k k' r hk h
      · cases h
    · exact iha st k k' r hk h
    · exact ihb st k k' r hk h
    · cases h
  | block id c ih =>
    intro st k k' r hk h
    simp only [execK] at h ⊢
    refine ih st _ _ r (fun e s r hs => ?_) h
    cases e with
    | normal => exact hk _ _ _ hs
    | exit i =>
      simp only [] at hs ⊢
      cases hb : Nat.beq i id with
      | true => rw [hb] at hs; exact hk _ _ _ hs
      | false => rw [hb] at hs; exact hk _ _ _ hs
    | ret => exact hk _ _ _ hs
  | loop c ih =>
    intro st k k' r hk h
    simp only [execK] at h ⊢
    refine iter_mono (fun s self self' r hs hr => ?_) E.fuel (E.grown c' n').fuel hn _ r h
    refine ih s _ _ r (fun e s' r he => ?_) hr
    cases e with
    | normal => exact hs _ _ he
    | exit i => exact hk _ _ _ he
    | ret => exact hk _ _ _ he
  | exit id => intro st k k' r hk h; exact hk _ _ _ h
  | ret => intro st k k' r hk h; exact hk _ _ _ h
  | _ => intro st k k' r hk h; cases h
end

theorem callN_mono {P : Program} {L : Lives} {F F' : Nat} (hF : F ≤ F') : ∀ (n n' : Nat), n ≤ n' → ∀ f a H r, callN P L F n f a H = some r → callN P L F' n' f a H = some r
  | 0, _, _, f, a, H, r, h => by cases h
  | n + 1, 0, hle, f, a, H, r, h => by omega
  | n + 1, n' + 1, hle, f, a, H, r, h => by
    unfold callN at h ⊢
    split at h
    · rename_i fn hf
      unfold bodyK at h ⊢
      split at h
      · rename_i c hc
        exact execK_mono (E := { P, call := callN P L F n, fuel := F, live := L f }) (fun f a H r => callN_mono hF n n' (by omega) f a H r) hF c _ _ _ r (fun e s r h => h) h
      · cases h
    · cases h

/-- A call ends with a result. -/
def Does (P : Program) (L : Lives) (f : FuncId) (args : List AV) (H : List Blk) (r : AV × List Blk) : Prop := ∃ F n, callN P L F n f args H = some r
end Go.Am
