/- The abstract machine by questions: what code asks for on a path (truth values, answers of calls and loops, other words for a value), and what is to be shown of the answers. -/
import Derived.Test.YtldkmmnffjdliaaAmMono
namespace Go.Am
set_option autoImplicit false
set_option linter.unusedVariables false
set_option linter.unusedSimpArgs false

/-! ### what the answers are worth -/
def loopK (E : Env) (c : Code) (m : Nat) (s : St) : Option (Ex × St) :=
  iter (fun s self => execK E c s fun e st' => match e with
    | .normal => self (headSt (E.live (firstRegion c)) m st')
    | .exit i => some (.exit i, outSt (E.live (atEnd + firstRegion c)) m st')
    | .ret => some (.ret, outSt (E.live (atEnd + firstRegion c)) m st')) E.fuel s
def Ob.holds (E : Env) (o : Ob) : Prop := match o with
  | Ob.t u v => u = v
  | Ob.e u v => u = v
  | Ob.c f a H r G => E.call f a H = some (r, G)
  | Ob.l code m s0 ex s1 => loopK E code m s0 = some (ex, s1)
def Holds (E : Env) : List Ob → Prop
  | [] => True
  | o :: l => o.holds E ∧ Holds E l
def Rel {R : Type} (E : Env) (x : Option R) (y : Ans R) : Prop := ∀ s l r, y s = some (l, r) → Holds E l → x = some r

section
variable {R : Type} {E : Env}
theorem Rel.fail (x : Option R) : Rel E x fail := fun s l r h => by cases h
theorem also_some {o : Ob} {y : Option (List Ob × R)} {l : List Ob} {r : R} (h : also o y = some (l, r)) : ∃ l', l = o :: l' ∧ y = some (l', r) := by
  unfold also at h
  split at h
  · cases h; exact ⟨_, rfl, rfl⟩
  · cases h
theorem Rel.nd {b : Bool} {x : Option R} {y : Ans R} (h : Rel E x y) : Rel E (need b x) (nd b y) := by
  intro s l r hy hl
  obtain ⟨l', rfl, hy2⟩ := also_some hy
  obtain ⟨h1, h2⟩ := hl
  have h1' : b = true := h1
  rw [h1']
  exact h s l' r hy2 h2
theorem Rel.st {b : Bool} {x : Option R} {y : Ans R} (h : Rel E x y) : Rel E (need b x) (st! b y) := by
  cases b
  · exact .fail _
  · exact h
theorem Rel.sp {b : Bool} {x : Bool → Option R} {y : Bool → Ans R} (h : ∀ b, Rel E (x b) (y b)) : Rel E (splitB b x) (sp b y) := by
  intro s l r hy hl
  unfold Am.sp at hy
  split at hy
  · rename_i d s
    obtain ⟨l', rfl, hy2⟩ := also_some hy
    obtain ⟨h1, h2⟩ := hl
    have h1' : b = d := h1
    subst h1'
    have := h b s l' r hy2 h2
    cases b <;> exact this
  · split at hy
    · exact h true _ l r hy hl
    · exact h false _ l r hy hl
  · cases hy
theorem Rel.rw {ask : Bool} {e : Eff} {x : Eff → Option R} {y : Eff → Ans R} (h : ∀ e, Rel E (x e) (y e)) : Rel E (x e) (rw! ask e y) := by
  cases ask with
  | false => exact h e
  | true =>
    intro s l r hy hl
    simp only [rw!] at hy
    split at hy
    · obtain ⟨l', rfl, hy2⟩ := also_some hy
      obtain ⟨h1, h2⟩ := hl
      have h1' : e = _ := h1
      rw [h1']
      exact h _ _ l' r hy2 h2
    · exact h e _ l r hy hl
    · cases hy

theorem Rel.eq {t : TypeId} {x y : AV} {k : Bool → Option R} {k' : Bool → Ans R} (h : ∀ b, Rel E (k b) (k' b)) : Rel E (eqK E.P t x y k) (eqG E.P t x y k') := by
  unfold eqK eqG
  split
  · cases E.P.eqGuardType E.P.depth t
    · simp only [cond_false]
      split
      · split
        · exact h _
        · exact .fail _
      · exact .fail _
    · exact .fail _
  · split
    · exact h _
    · exact .fail _
  · exact .fail _

theorem Rel.bin {op : BinOp} {t : TypeId} {x y : AV} {k : AV → Option R} {k' : AV → Ans R} (h : ∀ v, Rel E (k v) (k' v)) : Rel E (binK E.P op t x y k) (binG E.P op t x y k') := by
  unfold binK binG
  split
  · split
    · exact .nd (h _)
    · exact .nd (h _)
    · exact .st (.nd (h _))
    · exact .st (.nd (h _))
    · refine .st ?_
      split
      · exact h _
      · exact .fail _
  · split
    · exact h _
    · exact h _
    · exact .nd (h _)
    · exact .fail _
  · split
    · exact .eq fun b => h _
    · exact .eq fun b => h _
    · exact .fail _

theorem Rel.idx {H : List Blk} {t : TypeId} {x ix : AV} {k : AV → Option R} {k' : AV → Ans R} (h : ∀ v, Rel E (k v) (k' v)) : Rel E (idxK E.P H t x ix k) (idxG E.P H t x ix k') := by
  unfold idxK idxG
  split
  · split
    · split
      · split
        · exact .st (.nd (.nd (h _)))
        · exact .fail _
      · exact .fail _
    · split
      · exact .fail _
      · split
        · exact .nd (.nd (.st (h _)))
        · split
          · exact .st (.nd (.nd (h _)))
          · exact .fail _
        · exact .fail _
    · exact .fail _
  · exact .fail _

theorem Rel.bound {x : Option AV} {d n : Nat} {k : Nat → Option R} {k' : Nat → Ans R} (h : ∀ v, Rel E (k v) (k' v)) : Rel E (boundK x d n k) (boundG x d n k') := by
  unfold boundK boundG
  split
  · exact h _
  · exact .nd (.nd (h _))
  · exact .fail _

theorem Rel.slice {H : List Blk} {t : TypeId} {x : AV} {lo hi mx : Option AV} {k : AV → Option R} {k' : AV → Ans R} (h : ∀ v, Rel E (k v) (k' v)) : Rel E (sliceK E.P H t x lo hi mx k) (sliceG E.P H t x lo hi mx k') := by
  unfold sliceK sliceG
  split
  · split
    · exact .fail _
    · split
      · split
        · exact h _
        · exact h _
        · exact .fail _
      · exact .fail _
      · split
        · exact .bound fun _ => .bound fun _ => .st (h _)
        · split
          · exact .st (.bound fun _ => .bound fun _ => h _)
          · exact .fail _
        · exact .fail _
  · split
    · exact .fail _
    · split
      · exact .bound fun _ => .bound fun _ => h _
      · exact .fail _
  · exact .fail _

theorem Rel.call {quiet : Bool} {f : FuncId} {args : List AV} {H : List Blk} {k : Eff → Option R} {k' : Eff → Ans R} (h : ∀ v, Rel E (k v) (k' v)) : Rel E (callK E quiet f args H k) (callG E.P quiet f args H k') := by
  unfold callK callG
  refine .st ?_
  intro s l r hy hl
  unfold cl at hy
  split at hy
  · rename_i v H' s
    obtain ⟨l', rfl, hy2⟩ := also_some hy
    obtain ⟨h1, h2⟩ := hl
    have h1' : E.call _ _ _ = some (v, H') := h1
    rw [h1']
    exact Rel.st (h _) _ _ _ hy2 h2
  · cases hy

theorem Rel.append {H : List Blk} {t : TypeId} {s : AV} {tk : Option Nat} {x : AV} {k : Eff → Option R} {k' : Eff → Ans R} (h : ∀ v, Rel E (k v) (k' v)) : Rel E (appendK E.P H t s tk x k) (appendG E.P H t s tk x k') := by
  unfold appendK appendG
  split
  · split
    · refine .st ?_
      split
      · exact .fail _
      · split
        · exact .st (.nd (h _))
        · exact .st (.nd (h _))
        · exact .fail _
    · exact .fail _
  · exact .fail _

theorem Rel.builtin {ρ τ : Operand → AV} {H : List Blk} {b : Builtin} {args : List Operand} {ts : List TypeId} {k : Eff → Option R} {k' : Eff → Ans R} (h : ∀ v, Rel E (k v) (k' v)) :
    Rel E (builtinK E.P ρ τ H b args ts k) (builtinG E.P ρ τ H b args ts k') := by
  unfold builtinK builtinG
  split
  · split
    · split
      · exact h _
      · exact .fail _
    · exact .fail _
  · split
    · exact .st (.append h)
    · exact .fail _
  · split
    · split
      · exact h _
      · exact .fail _
    · exact .fail _
  · split
    · split
      · exact h _
      · exact .fail _
    · exact .fail _
  · exact .fail _

theorem Rel.eff {quiet : Bool} {ops : List Oper} {h0 ix : Nat} {o : Oper} {ρ τ : Operand → AV} {H HH : List Blk} {k : Eff → Option R} {k' : Eff → Ans R} (h : ∀ v, Rel E (k v) (k' v)) :
    Rel E (effK E quiet ops h0 ix o ρ τ H HH k) (effG E.P quiet ops h0 ix o ρ τ H HH k') := by
  unfold effK effG
  split
  · cases takesD ops o.dst <;> exact h _
  · exact h _
  · split
    · exact .sp fun b => h _
    · exact .fail _
  · split
    · exact .st (h _)
    · exact .fail _
  · exact .st (h _)
  · split
    · exact h _
    · exact .fail _
  · split
    · exact h _
    · exact .fail _
  · cases takesD ops o.dst
    · simp only [cond_false]
      split
      · exact h _
      · exact .fail _
    · simp only [cond_true]
      split
      · exact h _
      · exact .fail _
  · split
    · exact .st (h _)
    · exact .fail _
  · split <;> first | exact h _ | exact .fail _
  · exact .bin fun v => h _
  · split
    · exact h _
    · exact .fail _
  · split
    · exact h _
    · exact .fail _
  · split
    · exact .fail _
    · exact h _
    · exact .fail _
  · split
    · exact h _
    · exact .fail _
  · split
    · split
      · exact .st (.nd (.nd (.nd (.st (h _)))))
      · exact .fail _
    · exact .fail _
  · exact .slice fun v => h _
  · split
    · exact h _
    · exact .fail _
  · split
    · exact h _
    · exact .fail _
  · exact .idx fun v => h _
  · split
    · exact .nd (.nd (h _))
    · exact .fail _
  · split
    · exact .fail _
    · exact .st (h _)
    · exact .fail _
  · split
    · split
      · exact h _
      · exact .fail _
    · exact .fail _
  · split
    · exact .builtin h
    · split
      · exact .call h
      · exact .call h
      · exact .fail _
    · split
      · split
        · split
          · exact .call h
          · exact .fail _
        · exact .fail _
      · exact .fail _
  · exact .fail _

theorem Rel.branch {st : St} {t : Nat} {k : Bool → St → Option R} {k' : Bool → St → Ans R} (h : ∀ b s, Rel E (k b s) (k' b s)) : Rel E (branchK st t k) (branchG st t k') := by
  unfold branchK branchG
  split
  · exact .sp fun b => h _ _
  · exact .fail _

theorem Rel.step {quiet : Bool} {ops : List Oper} {h0 ix : Nat} {o : Oper} {st : St} {k : St → Option R} {k' : St → Ans R} (h : ∀ s, Rel E (k s) (k' s)) : Rel E (stepK E quiet ops h0 ix o st k) (stepG' E.P quiet ops h0 ix o st k') := by
  have h1 : ∀ st, Rel E (effAt E quiet ops h0 ix o st k) (effAtG E.P quiet ops h0 ix o st k') := fun st => .eff fun e => Rel.rw (x := fun e => k (e.on o.dst st)) fun e => h _
  unfold stepK stepG'
  split
  · exact h1 _
  · split
    · exact .fail _
    · split
      · exact h _
      · refine .branch fun b s => ?_
        split
        · exact h1 _
        · exact h1 _
        · exact h _

theorem Rel.ops {quiet : Bool} {ops : List Oper} {h0 : Nat} {k : St → Option R} {k' : St → Ans R} (h : ∀ s, Rel E (k s) (k' s)) : ∀ (rest : List Oper) (ix : Nat) (st : St), Rel E (opsK E quiet ops h0 ix rest st k) (opsG E.P quiet ops h0 ix rest st k')
  | [], ix, st => h st
  | o :: rest, ix, st => by
    simp only [opsK, opsG]
    exact .step fun s => Rel.ops h rest (ix + 1) s

theorem Rel.exec : ∀ (c : Code) (st : St) (k : Ex → St → Option R) (k' : Ex → St → Ans R), (∀ e s, Rel E (k e s) (k' e s)) → Rel E (execK E c st k) (execG E.P E.live c st k') := by
  intro c
  induction c with
  | skip => intro st k k' h; exact h _ _
  | region id ops draw =>
    intro st k k' h
    simp only [execK, execG]
    exact .st (.ops (fun s => h _ _) _ _ _)
  | seq a b iha ihb =>
    intro st k k' h
    simp only [execK, execG]
    refine iha st _ _ fun e s => ?_
    cases e with
    | normal => exact ihb s k k' h
    | exit i => exact h _ _
    | ret => exact h _ _
  | cond c a b iha ihb =>
    intro st k k' h
    unfold execK execG
    split
    · refine .branch fun b s => ?_
      cases b
      · exact ihb s k k' h
      · exact iha s k k' h
    · exact iha st k k' h
    · exact ihb st k k' h
    · exact .fail _
  | block id c ih =>
    intro st k k' h
    simp only [execK, execG]
    refine ih st _ _ fun e s => ?_
    cases e with
    | normal => exact h _ _
    | exit i =>
      simp only []
      cases Nat.beq i id <;> exact h _ _
    | ret => exact h _ _
  | loop c ih =>
    intro st k k' h
    simp only [execG]
    intro s l r hy hl
    unfold lp at hy
    split at hy
    · rename_i e x' s
      obtain ⟨l', rfl, hy2⟩ := also_some hy
      obtain ⟨h1, h2⟩ := hl
      have h1' : loopK E c st.heap.length (headSt (E.live (firstRegion c)) st.heap.length st) = some (e, x') := h1
      have hb : execK E (.loop c) st k = (loopK E c st.heap.length (headSt (E.live (firstRegion c)) st.heap.length st)).bind fun p => k p.1 p.2 := by
        simp only [execK, loopK]
        refine (iter_bind _ _ _ (fun s self => ?_) E.fuel _).symm
        rw [execK_bind]
        congr 1
        funext e s'
        cases e <;> rfl
      rw [hb, h1']
      exact h e x' _ _ _ hy2 h2
    · cases hy
  | exit id => intro st k k' h; exact h _ _
  | ret => intro st k k' h; exact h _ _
  | _ => intro st k k' h; exact .fail _
end

/-! ### calls and loops that end -/
def envN (P : Program) (L : Lives) (f : FuncId) (F n : Nat) : Env := { P, call := callN P L F n, fuel := F, live := L f }
def Loops (P : Program) (L : Lives) (f : FuncId) (c : Code) (m : Nat) (s : St) (e : Ex) (s' : St) : Prop := ∃ F n, loopK (envN P L f F n) c m s = some (e, s')
def Ob.ok (P : Program) (L : Lives) (f : FuncId) : Ob → Prop
  | .t u v => u = v
  | .e u v => u = v
  | .c g a H r G => Does P L g a H (r, G)
  | .l code m s0 ex s1 => Loops P L f code m s0 ex s1
def Oks (P : Program) (L : Lives) (f : FuncId) : List Ob → Prop
  | [] => True
  | o :: l => o.ok P L f ∧ Oks P L f l

section
variable {P : Program} {L : Lives} {f : FuncId}

theorem exec_up {R : Type} {F F' n n' : Nat} (hF : F ≤ F') (hn : n ≤ n') {c : Code} {st : St} {k k' : Ex → St → Option R} {r : R} (hk : ∀ e s r, k e s = some r → k' e s = some r) (h : execK (envN P L f F n) c st k = some r) :
    execK (envN P L f F' n') c st k' = some r :=
  execK_mono (E := envN P L f F n) (c' := callN P L F' n') (n' := F') (fun g a H r => callN_mono hF n n' hn g a H r) hF c st k k' r hk h

theorem loop_up {F F' n n' : Nat} (hF : F ≤ F') (hn : n ≤ n') {c : Code} {m : Nat} {s : St} {r : Ex × St} (h : loopK (envN P L f F n) c m s = some r) : loopK (envN P L f F' n') c m s = some r := by
  unfold loopK at h ⊢
  refine iter_mono (fun s self self' r hs hr => ?_) F F' hF s r h
  refine exec_up hF hn (fun e s r he => ?_) hr
  cases e with
  | normal => exact hs _ _ he
  | exit i => exact he
  | ret => exact he

theorem oks_holds : ∀ {l : List Ob}, Oks P L f l → ∃ F0 n0, ∀ F n, F0 ≤ F → n0 ≤ n → Holds (envN P L f F n) l
  | [], _ => ⟨0, 0, fun _ _ _ _ => trivial⟩
  | o :: l, h => by
    obtain ⟨h1, h2⟩ := h
    obtain ⟨F0, n0, hl⟩ := oks_holds h2
    cases o with
    | t b d => exact ⟨F0, n0, fun F n hF hn => ⟨h1, hl F n hF hn⟩⟩
    | e x y => exact ⟨F0, n0, fun F n hF hn => ⟨h1, hl F n hF hn⟩⟩
    | c g a H r H' =>
      obtain ⟨F1, n1, h1⟩ := h1
      exact ⟨max F0 F1, max n0 n1, fun F n hF hn => ⟨callN_mono (by omega) n1 n (by omega) g a H _ h1, hl F n (by omega) (by omega)⟩⟩
    | l c m s e s' =>
      obtain ⟨F1, n1, h1⟩ := h1
      exact ⟨max F0 F1, max n0 n1, fun F n hF hn => ⟨loop_up (by omega) (by omega) h1, hl F n (by omega) (by omega)⟩⟩

/-- A function's path. -/
theorem does {args : List AV} {H : List Blk} {script : List Say} {l : List Ob} {r : AV × List Blk} (h : funG P L f args H script = some (l, r)) (ho : Oks P L f l) : Does P L f args H r := by
  obtain ⟨F, n, hh⟩ := oks_holds ho
  refine ⟨F, n + 1, ?_⟩
  have hold := hh F n (Nat.le_refl _) (Nat.le_refl _)
  unfold funG at h
  unfold callN
  cases hf : P.funcs[f]? with
  | none => rw [hf] at h; cases h
  | some fn =>
    rw [hf] at h
    simp only [] at h ⊢
    unfold bodyG at h
    unfold bodyK
    cases hc : fn.body with
    | none => rw [hc] at h; cases h
    | some c =>
      rw [hc] at h
      simp only [] at h ⊢
      refine Rel.exec (E := envN P L f F n) c _ _ _ (fun e s => ?_) script l r h hold
      have he : Rel (envN P L f F n) (endK P fn H.length s) (endG P fn H.length s) := by
        intro s' l r' hy hl
        unfold endG at hy
        cases hr : endK P fn H.length s with
        | none => rw [hr] at hy; cases hy
        | some q => rw [hr] at hy; cases hy; rfl
      cases e with
      | normal => exact he
      | ret => exact he
      | exit i => exact .fail _

theorem round_K {c : Code} {s : St} {script : List Say} {l : List Ob} {e : Ex} {s' : St} (h : roundG P L f c s script = some (l, (e, s'))) {F n : Nat} (hold : Holds (envN P L f F n) l) {R : Type} (k : Ex → St → Option R) :
    execK (envN P L f F n) c s k = k e s' := by
  have hx := Rel.exec (E := envN P L f F n) c s (fun e s => some (e, s)) (fun e s => fin (e, s)) (fun e s => fun s' l r hy hl => by cases hy; rfl) script l _ h hold
  have hb := execK_bind (envN P L f F n) c s (fun e s => some (e, s)) (fun p : Ex × St => k p.1 p.2)
  rw [hx] at hb
  exact hb.symm

/-- A loop's last round. -/
theorem loops_last {c : Code} {m : Nat} {s : St} {script : List Say} {l : List Ob} {e : Ex} {s' : St} (h : roundG P L f c s script = some (l, (e, s'))) (ho : Oks P L f l) (he : e ≠ .normal) {s2 : St} (hs : outSt (L f (atEnd + firstRegion c)) m s' = s2) : Loops P L f c m s e s2 := by
  subst hs
  obtain ⟨F, n, hh⟩ := oks_holds ho
  refine ⟨F + 1, n, ?_⟩
  show iter _ (F + 1) s = _
  simp only [iter]
  refine (round_K (R := Ex × St) h (hh (F + 1) n (by omega) (Nat.le_refl _)) _).trans ?_
  cases e with
  | normal => exact absurd rfl he
  | exit i => rfl
  | ret => rfl

/-- A loop's round that goes on. -/
theorem loops_more {c : Code} {m : Nat} {s : St} {script : List Say} {l : List Ob} {s1 s2 : St} {e : Ex} {s' : St} (h : roundG P L f c s script = some (l, (.normal, s1))) (ho : Oks P L f l) (hs : headSt (L f (firstRegion c)) m s1 = s2) (hr : Loops P L f c m s2 e s') : Loops P L f c m s e s' := by
  obtain ⟨F, n, hh⟩ := oks_holds ho
  obtain ⟨F1, n1, hr⟩ := hr
  refine ⟨max F F1 + 1, max n n1, ?_⟩
  have hr' := loop_up (F' := max F F1) (n' := max n n1) (by omega) (by omega) hr
  show iter _ (max F F1 + 1) s = _
  simp only [iter]
  refine (round_K (R := Ex × St) h (hh (max F F1 + 1) (max n n1) (by omega) (by omega)) _).trans ?_
  show iter _ (max F F1) (headSt (L f (firstRegion c)) m s1) = _
  rw [hs]
  unfold loopK at hr'
  refine iter_mono (fun s self self' r hs hr => ?_) (max F F1) (max F F1) (Nat.le_refl _) s2 _ hr'
  refine exec_up (by omega) (Nat.le_refl _) (fun e s r he => ?_) hr
  cases e with
  | normal => exact hs _ _ he
  | exit i => exact he
  | ret => exact he
end

theorem Does.sound {P : Program} {L : Lives} (hm : P.follows .mixedOrders = true) {f : FuncId} {args : List AV} {H : List Blk} {r : AV × List Blk} (h : Does P L f args H r) :
    ∀ (X : Ctx) (Args : List Value), Args.length = args.length → (∀ (j : Nat) (v : AV) (V : Value), args[j]? = some v → Args[j]? = some V → VA X none v V) → HeapOk X H → Fresh X → (∀ g t, X.own g ≠ some (.tmp t)) →
      Calls P f Args.toArray X.w fun e w' => ∃ V X', e = .returned V ∧ X'.w = w' ∧ Fr X X' ∧ HeapOk X' r.2 ∧ Fresh X' ∧ VA X' none r.1 V := by
  obtain ⟨F, n, h⟩ := h
  obtain ⟨v, H'⟩ := r
  exact callN_sound hm L F n f args H v H' h
end Go.Am
