/- The abstract machine: what the printed texts use: rounds of loops, words for numbers, lists and rows. -/
import Derived.Test.YtldkmmnffjdliaaAmRow
namespace Go.Am
set_option autoImplicit false
set_option linter.unusedVariables false
set_option linter.unusedSimpArgs false

/-! ### numbers -/
def wAdd (k : IntKind) (a b : Int) : Int := k.wrap (a + b)
def wSub (k : IntKind) (a b : Int) : Int := k.wrap (a - b)
def wMul (k : IntKind) (a b : Int) : Int := k.wrap (a * b)
def wAnd (k : IntKind) (a b : Int) : Int := k.wrap (BitVec.ofInt k.bits a &&& BitVec.ofInt k.bits b).toNat
def wOr (k : IntKind) (a b : Int) : Int := k.wrap (BitVec.ofInt k.bits a ||| BitVec.ofInt k.bits b).toNat
def wXor (k : IntKind) (a b : Int) : Int := k.wrap (BitVec.ofInt k.bits a ^^^ BitVec.ofInt k.bits b).toNat
def wAndNot (k : IntKind) (a b : Int) : Int := k.wrap (BitVec.ofInt k.bits a &&& ~~~BitVec.ofInt k.bits b).toNat
def wShl (k : IntKind) (a b : Int) : Int := k.wrap (a * 2 ^ min b.toNat k.bits)
def wShr (k : IntKind) (a b : Int) : Int := a.fdiv (2 ^ min b.toNat k.bits)
def wQuo (k : IntKind) (a b : Int) : Int := k.wrap (a.tdiv b)

/-! ### parts of code -/
def sub : Code → List Nat → Code
  | c, [] => c
  | .seq a _, 0 :: l => sub a l
  | .seq _ b, _ :: l => sub b l
  | .cond _ a _, 0 :: l => sub a l
  | .cond _ _ b, _ :: l => sub b l
  | .block _ c, _ :: l => sub c l
  | .loop c, _ :: l => sub c l
  | .scope c, _ :: l => sub c l
  | _, _ :: _ => .skip
def codeOf (P : Program) (f : FuncId) : Code := match P.funcs[f]? with
  | some fn => fn.body.getD .skip
  | none => .skip
def look {α : Type} (k : Nat) : List (Nat × α) → Option α
  | [] => none
  | (n, v) :: l => bif Nat.beq n k then some v else look k l
def livesOf (l : List (Nat × List (Nat × List Nat))) : Lives := fun f r => match look f l with
  | some m => look r m
  | none => none

/-! ### a round of a loop, with what it leaves -/
def roundM (P : Program) (L : Lives) (f : FuncId) (c : Code) (m : Nat) (s : St) : Ans (Ex × St) := execG P (L f) c s fun e s => match e with
  | .normal => fin (.normal, headSt (L f (firstRegion c)) m s)
  | .exit i => fin (.exit i, outSt (L f (atEnd + firstRegion c)) m s)
  | .ret => fin (.ret, outSt (L f (atEnd + firstRegion c)) m s)

section
variable {P : Program} {L : Lives} {f : FuncId}
def left (L : Lives) (f : FuncId) (c : Code) (m : Nat) (e : Ex) (s : St) : St := match e with
  | .normal => headSt (L f (firstRegion c)) m s
  | .exit _ => outSt (L f (atEnd + firstRegion c)) m s
  | .ret => outSt (L f (atEnd + firstRegion c)) m s

theorem round_M {c : Code} {m : Nat} {s : St} {script : List Say} {l : List Ob} {e : Ex} {s' : St} (h : roundM P L f c m s script = some (l, (e, s'))) {F n : Nat} (hold : Holds (envN P L f F n) l) :
    ∃ s1, s' = left L f c m e s1 ∧ ∀ (R : Type) (k : Ex → St → Option R), execK (envN P L f F n) c s k = k e s1 := by
  have hx := Rel.exec (E := envN P L f F n) c s (fun e s => some (e, left L f c m e s)) (fun e s => match e with
    | .normal => fin (.normal, headSt (L f (firstRegion c)) m s)
    | .exit i => fin (.exit i, outSt (L f (atEnd + firstRegion c)) m s)
    | .ret => fin (.ret, outSt (L f (atEnd + firstRegion c)) m s)) (fun e s => fun s' l r hy hl => by cases e <;> cases hy <;> rfl) script l _ h hold
  have hb := execK_bind (envN P L f F n) c s (fun e s => some (e, s)) (fun p : Ex × St => some (p.1, left L f c m p.1 p.2))
  have hb' : (execK (envN P L f F n) c s fun e s => some (e, s)).bind (fun p => some (p.1, left L f c m p.1 p.2)) = some (e, s') := hb.trans hx
  cases hp : execK (envN P L f F n) c s fun e s => some (e, s) with
  | none => rw [hp] at hb'; cases hb'
  | some p =>
    rw [hp] at hb'
    simp only [Option.bind_some, Option.some.injEq, Prod.mk.injEq] at hb'
    obtain ⟨e1, e2⟩ := hb'
    refine ⟨p.2, by rw [← e2, e1], fun R k => ?_⟩
    have := execK_bind (envN P L f F n) c s (fun e s => some (e, s)) (fun p : Ex × St => k p.1 p.2)
    rw [hp] at this
    rw [← e1]
    exact this.symm

theorem last_round {c : Code} {m : Nat} {s : St} {script : List Say} {l : List Ob} {e : Ex} {s' : St} (h : roundM P L f c m s script = some (l, (e, s'))) (ho : Oks P L f l) (he : (match e with | .normal => false | _ => true) = true) : Loops P L f c m s e s' := by
  obtain ⟨F, n, hh⟩ := oks_holds ho
  refine ⟨F + 1, n, ?_⟩
  obtain ⟨s1, rfl, hk⟩ := round_M h (hh (F + 1) n (by omega) (Nat.le_refl _))
  show iter _ (F + 1) s = _
  simp only [iter]
  refine (hk _ _).trans ?_
  cases e with
  | normal => cases he
  | exit i => rfl
  | ret => rfl

theorem more_rounds {c : Code} {m : Nat} {s : St} {script : List Say} {l : List Ob} {s2 : St} {e : Ex} {s' : St} (h : roundM P L f c m s script = some (l, (.normal, s2))) (ho : Oks P L f l) (hr : Loops P L f c m s2 e s') : Loops P L f c m s e s' := by
  obtain ⟨F, n, hh⟩ := oks_holds ho
  obtain ⟨F1, n1, hr⟩ := hr
  refine ⟨max F F1 + 1, max n n1, ?_⟩
  have hr' := loop_up (F' := max F F1) (n' := max n n1) (by omega) (by omega) hr
  obtain ⟨s1, rfl, hk⟩ := round_M h (hh (max F F1 + 1) (max n n1) (by omega) (by omega))
  show iter _ (max F F1 + 1) s = _
  simp only [iter]
  refine (hk _ _).trans ?_
  show iter _ (max F F1) (headSt (L f (firstRegion c)) m s1) = _
  unfold loopK at hr'
  refine iter_mono (fun s self self' r hs hr => ?_) (max F F1) (max F F1) (Nat.le_refl _) _ _ hr'
  refine exec_up (by omega) (Nat.le_refl _) (fun e s r he => ?_) hr
  cases e with
  | normal => exact hs _ _ he
  | exit i => exact he
  | ret => exact he

theorem oks_cons {o : Ob} {l : List Ob} (h : o.ok P L f) (t : Oks P L f l) : Oks P L f (o :: l) := ⟨h, t⟩
theorem oks_nil : Oks P L f [] := trivial
end

theorem bind_of {A R : Type} {x : Option A} {k : A → Option R} {r : R} (h : x.bind k = some r) : ∃ v, x = some v ∧ k v = some r := by
  cases x with
  | none => cases h
  | some v => exact ⟨v, rfl, h⟩
theorem not_true {b : Bool} (h : ¬ b = true) : b = false := by cases b <;> simp_all

/-! ### lists -/
section
variable {P : Program} {e : TypeId} {α : Type}
/-- A row of a machine's block, told by a function of places. -/
def rowF (T : Ty P e α) (f : Nat → α) (i : Nat) : List AV := (T.enc (f i)).map .pv
def toL (n : Nat) (f : Nat → α) : List α := (List.range n).map f
theorem store_eff (T : Ty P e α) (f : Nat → α) (i : Nat) (x : α) (tk : Option Nat) (b sz n : Nat) : (⟨dead, tk, [(b, .arr sz n (upd (rowF T f) i ((T.enc x).map AV.pv)))]⟩ : Eff) = ⟨dead, tk, [(b, .arr sz n (rowF T (upd f i x)))]⟩ := by
  have : upd (rowF T f) i ((T.enc x).map AV.pv) = rowF T (upd f i x) := by
    funext j
    unfold upd rowF
    by_cases h : j = i
    · simp [h]
    · simp [h]
  rw [this]

theorem encF_lt (T : Ty P e α) {xs : List α} {i : Nat} (h : i < xs.length) : encF T xs i = T.enc xs[i] := by simp [encF, List.getD, h]
theorem encF_ge (T : Ty P e α) {xs : List α} {i : Nat} (h : xs.length ≤ i) : encF T xs i = T.enc T.dflt := by simp [encF, List.getD, h]

theorem lit_enc (T : Ty P e α) (z : Nat → List PV) (hz : z 0 = T.enc T.dflt) : ∀ (xs : List α) (i : Nat), litSeq z (xs.map T.enc) i = encF T xs i
  | [], i => by cases i <;> simp [litSeq, hz, encF]
  | x :: xs, 0 => by simp [litSeq, encF]
  | x :: xs, i + 1 => by
    have := lit_enc T z hz xs i
    simpa [litSeq, encF] using this

theorem lit_eff (T : Ty P e α) (xs : List α) (z : Nat → List PV) (hz : z 0 = T.enc T.dflt) : (⟨.seqR xs.length (litSeq z (xs.map T.enc)), none, []⟩ : Eff) = ⟨.seqR xs.length (encF T xs), none, []⟩ := by
  have : litSeq z (xs.map T.enc) = encF T xs := funext fun i => lit_enc T z hz xs i
  rw [this]

theorem app_enc (T : Ty P e α) (xs ys : List α) : app xs.length (encF T xs) ys.length (encF T ys) = encF T (xs ++ ys) := by
  funext i
  unfold app
  by_cases h1 : i < xs.length
  · rw [if_pos h1]; simp [encF, List.getD, List.getElem?_append_left h1]
  · rw [if_neg h1]
    by_cases h2 : i < xs.length + ys.length
    · rw [if_pos h2]; simp [encF, List.getD, List.getElem?_append_right (Nat.le_of_not_lt h1)]
    · rw [if_neg h2, encF_ge T (Nat.le_refl xs.length), encF_ge T (by rw [List.length_append]; omega)]
theorem app_eff (T : Ty P e α) (xs ys : List α) (tk : Option Nat) : (⟨.seqR (xs.length + ys.length) (app xs.length (encF T xs) ys.length (encF T ys)), tk, []⟩ : Eff) = ⟨.seqR (xs ++ ys).length (encF T (xs ++ ys)), tk, []⟩ := by
  rw [app_enc, List.length_append]
theorem app_nil (T : Ty P e α) (ys : List α) (tk : Option Nat) (z : Nat → List PV) (hz : z 0 = T.enc T.dflt) : (⟨.seqR ys.length (app 0 z ys.length (encF T ys)), tk, []⟩ : Eff) = ⟨.seqR ys.length (encF T ys), tk, []⟩ := by
  have : app 0 z ys.length (encF T ys) = encF T ys := by
    funext i
    unfold app
    rw [if_neg (Nat.not_lt_zero i)]
    by_cases h2 : i < 0 + ys.length
    · rw [if_pos h2, Nat.sub_zero]
    · rw [if_neg h2, hz, encF_ge T (by omega)]
  rw [this]
theorem slice_eff (T : Ty P e α) (xs : List α) (l h : Nat) (z : Nat → List PV) (hz : ∀ i, z i = T.enc T.dflt) (hl : l ≤ h) (hh : h ≤ xs.length) :
    (⟨.pv (.seq (h - l) fun i => if i < h - l then encF T xs (l + i) else z i), none, []⟩ : Eff) = ⟨.pv (.seq ((xs.take h).drop l).length (encF T ((xs.take h).drop l))), none, []⟩ := by
  have e1 : ((xs.take h).drop l).length = h - l := by simp; omega
  have e2 : (fun i => if i < h - l then encF T xs (l + i) else z i) = encF T ((xs.take h).drop l) := by
    funext i
    by_cases hi : i < h - l
    · rw [if_pos hi]
      simp [encF, List.getD, List.getElem?_drop, List.getElem?_take, show l + i < h by omega]
    · rw [if_neg hi, hz, encF_ge T (by rw [e1]; omega)]
  rw [e1, e2]
theorem map_toPV (l : List PV) : (l.map AV.pv).map AV.toPV = l := by
  rw [List.map_map]
  exact List.map_id l
theorem row_seq (T : Ty P e α) (n : Nat) (f : Nat → α) (hz : zeroPVs ((rowF T f 0).map AV.toPV) = T.enc T.dflt) : PV.seq n (rowSeq n 0 (rowF T f)) = .seq (toL n f).length (encF T (toL n f)) := by
  have e1 : (toL n f).length = n := by simp [toL]
  have e2 : rowSeq n 0 (rowF T f) = encF T (toL n f) := by
    funext i
    unfold rowSeq
    by_cases h : i < n
    · rw [if_pos h, Nat.zero_add, rowF, map_toPV, encF_lt T (by rw [e1]; exact h)]
      simp [toL]
    · rw [if_neg h, hz, encF_ge T (by rw [e1]; omega)]
  rw [e1, e2]
end
theorem Does.eq {P : Program} {L : Lives} {f : FuncId} {args : List AV} {H : List Blk} {r r' : AV × List Blk} (h : Does P L f args H r) (e : r = r') : Does P L f args H r' := e ▸ h
end Go.Am
