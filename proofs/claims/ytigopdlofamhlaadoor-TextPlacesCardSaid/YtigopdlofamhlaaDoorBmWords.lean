/- The abstract machine: what the printed texts use: rounds of loops, words for arrays. -/
import Derived.Test.YtigopdlofamhlaaDoorBmTy
namespace Go.Bm
set_option autoImplicit false
set_option linter.unusedVariables false
set_option linter.unusedSimpArgs false

/-! ### parts of code -/
def sub : Code → List Nat → Code
  | c, [] => c
  | .seq a _, 0 :: l => sub a l
  | .seq _ b, _ :: l => sub b l
  | .cond _ a _, 0 :: l => sub a l
  | .cond _ _ b, _ :: l => sub b l
  | .block _ c, _ :: l => sub c l
  | .loop c, _ :: l => sub c l
  | .scope c, _ :: l => sub c l
  | _, _ :: _ => .skip
def codeOf (P : Program) (f : FuncId) : Code := match P.funcs[f]? with
  | some fn => fn.body.getD .skip
  | none => .skip
def look {α : Type} (k : Nat) : List (Nat × α) → Option α
  | [] => none
  | (n, v) :: l => bif Nat.beq n k then some v else look k l
/-- Hints: of a function, of a kind, of a region. -/
def livesOf (l : List (Nat × List (Nat × List (Nat × List Nat)))) : Lives := fun f k r => match look f l with
  | some m => match look k m with
    | some q => look r q
    | none => none
  | none => none

/-! ### a round of a loop, with what it leaves -/
def left (L : Lives) (f : FuncId) (c : Code) (m : Nat) (e : Ex) (s : St) : St := match e with
  | .normal => headSt (L f) (firstRegion c) m s
  | .exit _ => outSt (L f) 1 (firstRegion c) m s
  | .ret => outSt (L f) 1 (firstRegion c) m s
def roundM (P : Program) (L : Lives) (f : FuncId) (c : Code) (m : Nat) (s : St) : Ans (Ex × St) := execE P (L f) m c s fun e s => fin (e, left L f c m e s)

section
variable {P : Program} {L : Lives} {f : FuncId}
theorem round_M (hm : P.follows .mixedOrders = true) {c : Code} {m : Nat} {s : St} {script : List Say} {l : List Ob} {e : Ex} {s2 : St} (h : roundM P L f c m s script = some (l, (e, s2))) (ho : Oks P l) {X0 X : Ctx} {a : Act} {w : World} (hX : ∀ b ρ L, X0.loc b ρ = some L → b < m) (hI : Inv X0 X s a w)
    {Q : Exit → Act → World → Prop} (hQ : ∀ X' a' w', Inv X0 X' s2 a' w' → Q e.to a' w') : c.wp P Q a w := by
  refine exec_sound hm hX c s X a w _ script l (e, s2) hI h (oks_all ho) Q fun e' st' X' a' w' s' l' he hl' hI' => ?_
  have := fin_some he
  cases this
  cases e with
  | normal =>
    obtain ⟨X2, hI2⟩ := head_sound hI' (L f) (firstRegion c) hX
    exact hQ X2 a' w' hI2
  | exit i =>
    obtain ⟨X2, hI2⟩ := out_sound hI' (L f) 1 (firstRegion c) hX
    exact hQ X2 a' w' hI2
  | ret =>
    obtain ⟨X2, hI2⟩ := out_sound hI' (L f) 1 (firstRegion c) hX
    exact hQ X2 a' w' hI2
/-- A way out of a loop. -/
def Ex.out : Ex → Bool
  | .normal => false
  | _ => true
theorem last_round (hm : P.follows .mixedOrders = true) {c : Code} {m : Nat} {s : St} {script : List Say} {l : List Ob} {e : Ex} {s' : St} (h : roundM P L f c m s script = some (l, (e, s'))) (ho : Oks P l) (he : (match e with | .normal => false | _ => true) = true) : Loops P c m s e s' :=
  ⟨1, fun X0 X a w hX hI Q hQ => by
    rw [rounds_succ]
    refine round_M hm h ho hX hI fun X' a' w' hI' => ?_
    have := hQ X' a' w' hI'
    cases e with
    | normal => cases he
    | exit i => exact this
    | ret => exact this⟩
theorem more_rounds (hm : P.follows .mixedOrders = true) {c : Code} {m : Nat} {s : St} {script : List Say} {l : List Ob} {s2 : St} {e : Ex} {s' : St} (h : roundM P L f c m s script = some (l, (.normal, s2))) (ho : Oks P l) (hr : Loops P c m s2 e s') : Loops P c m s e s' := by
  obtain ⟨n, hr⟩ := hr
  refine ⟨n + 1, fun X0 X a w hX hI Q hQ => ?_⟩
  rw [rounds_succ]
  exact round_M hm h ho hX hI fun X' a' w' hI' => hr X0 X' a' w' hX hI' Q hQ
theorem oks_cons {o : Ob} {l : List Ob} (h : o.ok P) (t : Oks P l) : Oks P (o :: l) := ⟨h, t⟩
theorem oks_nil : Oks P [] := trivial
/-- A path's answers, and what they ask, in one. -/
def Pth (P : Program) (s : List Say) (l : List Ob) : Prop := Oks P l
section
variable {s : List Say} {l : List Ob}
theorem pz : Pth P [] [] := trivial
theorem pk (t : Pth P s l) : Pth P (.keep :: s) l := t
theorem pk2 (t : Pth P s l) : Pth P (.keep :: .keep :: s) l := t
theorem pk3 (t : Pth P s l) : Pth P (.keep :: .keep :: .keep :: s) l := t
theorem pk4 (t : Pth P s l) : Pth P (.keep :: .keep :: .keep :: .keep :: s) l := t
theorem pk5 (t : Pth P s l) : Pth P (.keep :: .keep :: .keep :: .keep :: .keep :: s) l := t
theorem pk6 (t : Pth P s l) : Pth P (.keep :: .keep :: .keep :: .keep :: .keep :: .keep :: s) l := t
theorem pk7 (t : Pth P s l) : Pth P (.keep :: .keep :: .keep :: .keep :: .keep :: .keep :: .keep :: s) l := t
theorem pk8 (t : Pth P s l) : Pth P (.keep :: .keep :: .keep :: .keep :: .keep :: .keep :: .keep :: .keep :: s) l := t
theorem px (t : Pth P s l) : Pth P (.b false :: s) l := t
theorem pt (t : Pth P s l) : Pth P s (.t true true :: l) := ⟨rfl, t⟩
theorem pbt (t : Pth P s l) : Pth P (.b true :: s) (.t true true :: l) := ⟨rfl, t⟩
theorem pn {u v : Bool} (h : u = v) (t : Pth P s l) : Pth P s (.t u v :: l) := ⟨h, t⟩
theorem pb {u v : Bool} (h : u = v) (t : Pth P s l) : Pth P (.b v :: s) (.t u v :: l) := ⟨h, t⟩
theorem pe {u v : Eff} (h : u = v) (t : Pth P s l) : Pth P (.e v :: s) (.e u v :: l) := ⟨h, t⟩
theorem pc {g : FuncId} {a : List AV} {H H' : List Blk} {r : AV} (h : Does P g a H (r, H')) (t : Pth P s l) : Pth P (.c r H' :: s) (.c g a H r H' :: l) := ⟨h, t⟩
/-- Blocks that stay as they are. -/
def sameL : List (Nat × Blk) → List Ob
  | [] => []
  | x :: q => .e { val := dead, hb := [x] } { val := dead, hb := [x] } :: sameL q
theorem pu (q : List (Nat × Blk)) (t : Pth P s l) : Pth P (.u (q.map Prod.fst) :: s) (sameL q ++ l) := by
  induction q with
  | nil => exact t
  | cons x q ih => exact ⟨rfl, ih⟩
theorem pl {c : Code} {m : Nat} {x y : St} {e : Ex} (h : Loops P c m x e y) (t : Pth P s l) : Pth P (.l e y :: s) (.l c m x e y :: l) := ⟨h, t⟩
theorem pdoes (hm : P.follows .mixedOrders = true) {args : List AV} {H : List Blk} {r : AV × List Blk} (h : funE P L f args H s = some (l, r)) (ho : Pth P s l) : Does P f args H r := does hm h ho
theorem plast (hm : P.follows .mixedOrders = true) (L : Lives) (f : FuncId) {c : Code} {m : Nat} {x : St} {e : Ex} {x' : St} (h : roundM P L f c m x s = some (l, (e, x'))) (ho : Pth P s l) (he : Ex.out e = true) : Loops P c m x e x' := last_round hm h ho (by cases e <;> first | rfl | cases he)
theorem pmore (hm : P.follows .mixedOrders = true) (L : Lives) (f : FuncId) {c : Code} {m : Nat} {x x2 : St} {e : Ex} {x' : St} (h : roundM P L f c m x s = some (l, (.normal, x2))) (ho : Pth P s l) (hr : Loops P c m x2 e x') : Loops P c m x e x' := more_rounds hm h ho hr
end
theorem Does.eq {args : List AV} {H : List Blk} {r r' : AV × List Blk} (h : Does P f args H r) (e : r = r') : Does P f args H r' := e ▸ h
theorem Does.of {args args' : List AV} {H H' : List Blk} {r : AV × List Blk} (h : Does P f args H r) (e : (args', H') = (args, H)) : Does P f args' H' r := by cases e; exact h
theorem Loops.of {c : Code} {m : Nat} {s s1 s' : St} {e : Ex} (h : Loops P c m s e s') (q : s1 = s) : Loops P c m s1 e s' := q ▸ h
theorem Loops.eq {c : Code} {m : Nat} {s s1 s' : St} {e : Ex} (h : Loops P c m s e s') (q : s' = s1) : Loops P c m s e s1 := q ▸ h
end

theorem bind_of {A R : Type} {x : Option A} {k : A → Option R} {r : R} (h : x >>= k = some r) : ∃ v, x = some v ∧ k v = some r := by
  cases x with
  | none => cases h
  | some v => exact ⟨v, rfl, h⟩
theorem need_of {R : Type} {c : Bool} {a : Option R} {r : R} (h : (if c = true then a else none) = some r) : c = true ∧ a = some r := by
  cases c with
  | true => exact ⟨rfl, h⟩
  | false => cases h
theorem if_of {R : Type} {c : Bool} {a b : Option R} {r : R} (h : (if c = true then a else b) = some r) : (c = true ∧ a = some r) ∨ (c = false ∧ b = some r) := by
  cases c with
  | true => exact .inl ⟨rfl, h⟩
  | false => exact .inr ⟨rfl, h⟩
theorem not_true {b : Bool} (h : ¬ b = true) : b = false := by cases b <;> simp_all

/-! ### arrays as lists -/
section
variable {α β : Type}
/-- The rows of an array: a list's elements. -/
def encW (E : α → List AV) (d : α) (l : List α) (i : Nat) : List AV := E (l.getD i d)
def encP (E : α → List PV) (d : α) (l : List α) (i : Nat) : List PV := E (l.getD i d)
theorem getD_lt {l : List α} {i : Nat} (d : α) (h : i < l.length) : l.getD i d = l[i] := by simp [List.getD, h]
theorem getD_ge {l : List α} {i : Nat} (d : α) (h : l.length ≤ i) : l.getD i d = d := by simp [List.getD, h]

theorem upd_enc (E : α → List AV) (d : α) (l : List α) (i : Nat) (x : α) (h : i < l.length) : upd (encW E d l) i (E x) = encW E d (l.set i x) := by
  funext j
  unfold upd encW
  by_cases hj : j = i
  · subst hj; simp [List.getD, h]
  · rw [if_neg hj]
    have : i ≠ j := fun e => hj e.symm
    simp [List.getD, List.getElem?_set, this]
theorem make_enc (E : α → List AV) (d : α) (n : Nat) : (fun _ => E d) = encW E d (List.replicate n d) := by
  funext i
  unfold encW
  by_cases h : i < n
  · rw [getD_lt d (by simpa using h)]; simp
  · rw [getD_ge d (by simpa using h)]
theorem lit_enc (E : α → List AV) (d : α) : ∀ (xs : List α) , litF (E d) (xs.map E) = encW E d xs
  | [] => funext fun i => by cases i <;> rfl
  | x :: xs => funext fun i => by
    cases i with
    | zero => rfl
    | succ i =>
      have := congrFun (lit_enc E d xs) i
      simpa [litF, encW] using this
theorem app_enc (E : α → List AV) (d : α) (l ys : List α) (n m : Nat) (g : Nat → List AV) (z : List AV) (hn : n ≤ l.length) (hm : m = ys.length) (hg : ∀ i, g i = E (ys.getD i d)) (hz : z = E d) : app n (encW E d l) m g z = encW E d (l.take n ++ ys) := by
  subst hm hz
  funext i
  unfold app encW
  have hl : (l.take n).length = n := by simp; omega
  by_cases h1 : i < n
  · rw [if_pos h1]
    simp [List.getD, List.getElem?_append_left (show i < (l.take n).length by omega), List.getElem?_take, h1]
  · rw [if_neg h1]
    by_cases h2 : i < n + ys.length
    · rw [if_pos h2, hg]
      simp only [List.getD]
      rw [List.getElem?_append_right (by omega), hl]
    · rw [if_neg h2, getD_ge d (by rw [List.length_append]; omega)]
theorem snap_enc (E : α → List AV) (e : α → List PV) (d : α) (l : List α) (hs : ∀ x, snapL (E x) = e x) : (fun i => snapL (encW E d l i)) = encP e d l := funext fun i => hs _
theorem snap_part (E : α → List AV) (e : α → List PV) (d : α) (l : List α) (lo n N : Nat) (hs : ∀ x, snapL (E x) = e x) (h1 : lo + n ≤ l.length) (h2 : l.length ≤ N) :
    PV.seq n (fun i => snapL (cutF lo n N (encW E d l) i)) = .seq (List.length (List.take n (List.drop lo l))) (encP e d (List.take n (List.drop lo l))) := by
  have hl : (List.take n (List.drop lo l)).length = n := by simp; omega
  rw [hl]
  congr 1
  funext i
  unfold cutF encW encP
  by_cases h : i < n
  · rw [if_pos h, hs]
    simp [List.getD, List.getElem?_take, h]
  · rw [if_neg h, hs, getD_ge d h2, getD_ge d (by omega)]
theorem cut_enc (E : α → List AV) (d : α) (l : List α) (n N : Nat) (h1 : n ≤ l.length) (h2 : l.length ≤ N) : cutF 0 n N (encW E d l) = encW E d (List.take n l) := by
  funext i
  unfold cutF encW
  by_cases h : i < n
  · rw [if_pos h]
    simp [List.getD, List.getElem?_take, h]
  · rw [if_neg h, getD_ge d h2, getD_ge d (by simp; omega)]
theorem cut_whole (E : α → List AV) (d : α) (l : List α) (n : Nat) (h2 : l.length ≤ n) : cutF 0 n n (encW E d l) = encW E d l := by
  funext i
  unfold cutF encW
  by_cases h : i < n
  · rw [if_pos h, Nat.zero_add]
  · rw [if_neg h, getD_ge d h2, getD_ge d (by omega)]
theorem len_take (l : List α) (n : Nat) (h : n ≤ l.length) : (List.take n l).length = n := by simp; omega
theorem slice_part (e : α → List PV) (d : α) (l : List α) (lo hi : Nat) (z : Nat → List PV) (hz : ∀ i, z i = e d) (h1 : lo ≤ hi) (h2 : hi ≤ l.length) :
    PV.seq (hi - lo) (cutP lo hi (encP e d l) z) = .seq (List.length (List.drop lo (List.take hi l))) (encP e d (List.drop lo (List.take hi l))) := by
  have hl : (List.drop lo (List.take hi l)).length = hi - lo := by simp; omega
  rw [hl]
  congr 1
  funext i
  unfold cutP encP
  by_cases h : i < hi - lo
  · rw [if_pos h]
    simp [List.getD, List.getElem?_take, show lo + i < hi by omega]
  · rw [if_neg h, hz, getD_ge d (by omega)]
/-- An array of an element's cell. -/
theorem put_top (E : α → List AV) (d : α) (s : Nat) (sz n : Nat) (l : List α) (i o : Nat) (vs : List AV) (x : α) (hx : splice (E (l.getD i d)) o vs = E x) (h : i < l.length) :
    Blk.put (.arr s sz n (encW E d l)) [] i (fun cs => splice cs o vs) = .arr s sz n (encW E d (l.set i x)) := by
  show Blk.arr s sz n (upd (encW E d l) i (splice (encW E d l i) o vs)) = _
  have : splice (encW E d l i) o vs = E x := hx
  rw [this, upd_enc E d l i x h]
theorem put_in (E : α → List AV) (d : α) (s : Nat) (sz n : Nat) (l : List α) (i0 o0 : Nat) (E2 : β → List AV) (d2 : β) (sz2 : Nat) (l2 : List β) (i o : Nat) (vs : List AV) (x2 : β) (x : α)
    (hc : (E (l.getD i0 d))[o0]? = some (.own sz2 l2.length (encW E2 d2 l2))) (hx2 : splice (E2 (l2.getD i d2)) o vs = E2 x2) (hx : (E (l.getD i0 d)).set o0 (.own sz2 (l2.set i x2).length (encW E2 d2 (l2.set i x2))) = E x) (h0 : i0 < l.length) (h : i < l2.length) :
    Blk.put (.arr s sz n (encW E d l)) [(i0, o0)] i (fun cs => splice cs o vs) = .arr s sz n (encW E d (l.set i0 x)) := by
  have hc' : (encW E d l i0)[o0]? = some (.own sz2 l2.length (encW E2 d2 l2)) := hc
  have e1 : splice (encW E2 d2 l2 i) o vs = E2 x2 := hx2
  have e2 : (encW E d l i0).set o0 (.own sz2 l2.length (encW E2 d2 (l2.set i x2))) = E x := by
    have := hx
    rw [List.length_set] at this
    exact this
  simp only [Blk.put, Nd.put, hc', e1, upd_enc E2 d2 l2 i x2 h, e2, upd_enc E d l i0 x h0]
theorem eff_hole (E : α → List AV) (d : α) (s : Nat) (sz n : Nat) (l : List α) (i o : Nat) (c : List AV) (vs : List AV) (x : α) (b k : Nat) (g : List (Nat × Blk)) (sc : List (Nat × Bool)) (hx : splice c o vs = E x) (ho : hasOwn (part c o k) = false) (h : i < l.length) :
    ({ val := dead, hb := (b, Blk.put (.arr (minT (lossT (hasOwn (part (upd (encW E d l) i c i) o k))) s) sz n (upd (encW E d l) i c)) [] i (fun cs => splice cs o vs)) :: g, sc := (bif hasOwn (part (upd (encW E d l) i c i) o k) then [(b, true)] else []) ++ sc } : Eff) = { val := dead, hb := (b, .arr s sz n (encW E d (l.set i x))) :: g, sc := sc } := by
  have e1 : upd (encW E d l) i c i = c := by simp [upd]
  have e2 : Blk.put (.arr s sz n (upd (encW E d l) i c)) [] i (fun cs => splice cs o vs) = .arr s sz n (encW E d (l.set i x)) := by
    show Blk.arr s sz n (upd (upd (encW E d l) i c) i (splice (upd (encW E d l) i c i) o vs)) = _
    rw [e1, hx, ← upd_enc E d l i x h]
    congr 1
    funext j
    unfold upd
    by_cases hj : j = i <;> simp [hj]
  rw [e1, ho]
  have e3 : minT (lossT false) s = s := rfl
  rw [e3, e2]
  rfl
theorem ble_hole (f : Nat → List AV) (i k : Nat) (c : List AV) (h : Nat.ble k c.length = true) : Nat.ble k (upd f i c i).length = true := by
  simpa [upd] using h
theorem eff_hb {v : AV} {b : Nat} {B B' : Blk} {hb : List (Nat × Blk)} {sc : List (Nat × Bool)} (h : B = B') : ({ val := v, hb := (b, B) :: hb, sc := sc } : Eff) = { val := v, hb := (b, B') :: hb, sc := sc } := by rw [h]
theorem eff_make (E : α → List AV) (d : α) (b sz n : Nat) : ({ val := .ms b [] 0 n, hb := [(b, .arr 0 sz n fun _ => E d)] } : Eff) = { val := .ms b [] 0 (List.length (List.replicate n d)), hb := [(b, .arr 0 sz (List.length (List.replicate n d)) (encW E d (List.replicate n d)))] } := by
  rw [List.length_replicate, ← make_enc E d n]
theorem eff_lit (E : α → List AV) (d : α) (b sz n : Nat) (xs : List α) (hn : n = xs.length) (hb : List (Nat × Blk)) (sc : List (Nat × Bool)) : ({ val := .ms b [] 0 n, hb := (b, .arr 0 sz n (litF (E d) (xs.map E))) :: hb, sc := sc } : Eff) = { val := .ms b [] 0 (List.length xs), hb := (b, .arr 0 sz (List.length xs) (encW E d xs)) :: hb, sc := sc } := by
  rw [lit_enc, hn]
theorem eff_frz (E : α → List AV) (d : α) (b sz n : Nat) (xs : List α) (hn : n = xs.length) (hb : List (Nat × Blk)) (sc : List (Nat × Bool)) : ({ val := .ms b [] 0 n, hb := hb ++ [(b, .arr 0 sz n (litF (E d) (xs.map E)))], sc := sc } : Eff) = { val := .ms b [] 0 (List.length xs), hb := hb ++ [(b, .arr 0 sz (List.length xs) (encW E d xs))], sc := sc } := by
  rw [lit_enc, hn]
theorem eff_app (E : α → List AV) (d : α) (l ys new : List α) (b sz n m : Nat) (g : Nat → List AV) (z : List AV) (hb hb2 : List (Nat × Blk)) (sc : List (Nat × Bool)) (hn : n ≤ l.length) (hm : m = ys.length) (hg : ∀ i, g i = E (ys.getD i d)) (hz : z = E d) (hnew : l.take n ++ ys = new) :
    ({ val := .ms b [] 0 (n + m), hb := hb ++ ((b, .arr 0 sz (n + m) (app n (encW E d l) m g z)) :: hb2), sc := sc } : Eff) = { val := .ms b [] 0 (List.length new), hb := hb ++ ((b, .arr 0 sz (List.length new) (encW E d new)) :: hb2), sc := sc } := by
  rw [app_enc E d l ys n m g z hn hm hg hz, hnew]
  have : n + m = new.length := by rw [← hnew, List.length_append, List.length_take, hm]; omega
  rw [this]
theorem eff_val {v v' : AV} (h : v = v') : ({ val := v } : Eff) = { val := v' } := by rw [h]
end
end Go.Bm
