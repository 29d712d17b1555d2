import Derived.Test.YtipjbmnfnmlkfaaDoorBmTy
namespace Go.Bm
set_option autoImplicit false
set_option linter.unusedVariables false
set_option linter.unusedSimpArgs false
def sub : Code → List Nat → Code
 | c, [] => c
 | .seq a _, 0 :: l => sub a l
 | .seq _ b, _ :: l => sub b l
 | .cond _ a _, 0 :: l => sub a l
 | .cond _ _ b, _ :: l => sub b l
 | .block _ c, _ :: l => sub c l
 | .loop c, _ :: l => sub c l
 | .scope c, _ :: l => sub c l
 | _, _ :: _ => .skip
def FP (P : Program) (f : FuncId) : Code := match P.funcs[f]? with
 | some fn => fn.body.getD .skip
 | none => .skip
def EB {α : Type} (k : Nat) : List (Nat × α) → Option α
 | [] => none
 | (n, v) :: l => bif Nat.beq n k then some v else EB k l
def EC (l : List (Nat × List (Nat × List (Nat × List Nat)))) : lz := fun f k r => match EB f l with
 | some m => match EB k m with
  | some q => EB r q
  | none => none
 | none => none
def left (L : lz) (f : FuncId) (c : Code) (m : Nat) (e : Ex) (s : St) : St := match e with
 | .normal => rE (L f) (aS c) m s
 | .exit _ => qi (L f) 1 (aS c) m s
 | .ret => qi (L f) 1 (aS c) m s
def oa (P : Program) (L : lz) (f : FuncId) (c : Code) (m : Nat) (s : St) : Ans (Ex × St) := jB P (L f) m c s fun e s => fin (e, left L f c m e s)
section
variable {P : Program} {L : lz} {f : FuncId}
theorem Bb (hm : P.follows .mixedOrders = true) {c : Code} {m : Nat} {s : St} {script : List Say} {l : List Ob} {e : Ex} {s2 : St} (h : oa P L f c m s script = some (l, (e, s2))) (ho : Oks P l) {X0 X : Ctx} {a : Act} {w : World} (hX : ∀ b ρ L, X0.loc b ρ = some L → b < m) (hI : Inv X0 X s a w)
  {Q : Exit → Act → World → Prop} (hQ : ∀ X' a' w', Inv X0 X' s2 a' w' → Q e.to a' w') : c.wp P Q a w := by
 refine uQ hm hX c s X a w _ script l (e, s2) hI h (yk ho) Q fun e' st' X' a' w' s' l' he hl' hI' => ?_
 have := zM he
 cases this
 cases e with
 | normal =>
  obtain ⟨X2, hI2⟩ := tQ hI' (L f) (aS c) hX
  exact hQ X2 a' w' hI2
 | exit i =>
  obtain ⟨X2, hI2⟩ := mW hI' (L f) 1 (aS c) hX
  exact hQ X2 a' w' hI2
 | ret =>
  obtain ⟨X2, hI2⟩ := mW hI' (L f) 1 (aS c) hX
  exact hQ X2 a' w' hI2
def Ex.out : Ex → Bool
 | .normal => false
 | _ => true
theorem Ad (hm : P.follows .mixedOrders = true) {c : Code} {m : Nat} {s : St} {script : List Say} {l : List Ob} {e : Ex} {s' : St} (h : oa P L f c m s script = some (l, (e, s'))) (ho : Oks P l) (he : (match e with | .normal => false | _ => true) = true) : io P c m s e s' :=
 ⟨1, fun X0 X a w hX hI Q hQ => by
  rw [rounds_succ]
  refine Bb hm h ho hX hI fun X' a' w' hI' => ?_
  have := hQ X' a' w' hI'
  cases e with
  | normal => cases he
  | exit i => exact this
  | ret => exact this⟩
theorem yS (hm : P.follows .mixedOrders = true) {c : Code} {m : Nat} {s : St} {script : List Say} {l : List Ob} {s2 : St} {e : Ex} {s' : St} (h : oa P L f c m s script = some (l, (.normal, s2))) (ho : Oks P l) (hr : io P c m s2 e s') : io P c m s e s' := by
 obtain ⟨n, hr⟩ := hr
 refine ⟨n + 1, fun X0 X a w hX hI Q hQ => ?_⟩
 rw [rounds_succ]
 exact Bb hm h ho hX hI fun X' a' w' hI' => hr X0 X' a' w' hX hI' Q hQ
def Pth (P : Program) (s : List Say) (l : List Ob) : Prop := Oks P l
section
variable {s : List Say} {l : List Ob}
theorem pz : Pth P [] [] := trivial
def C4 : List (Nat × Blk) → List Ob
 | [] => []
 | x :: q => .e { val := dead, hb := [x] } { val := dead, hb := [x] } :: C4 q
theorem pl {c : Code} {m : Nat} {x y : St} {e : Ex} (h : io P c m x e y) (t : Pth P s l) : Pth P (.l e y :: s) (.l c m x e y :: l) := ⟨h, t⟩
theorem Gu (hm : P.follows .mixedOrders = true) (L : lz) (f : FuncId) {c : Code} {m : Nat} {x : St} {e : Ex} {x' : St} (h : oa P L f c m x s = some (l, (e, x'))) (ho : Pth P s l) (he : Ex.out e = true) : io P c m x e x' := Ad hm h ho (by cases e <;> first | rfl | cases he)
theorem Gv (hm : P.follows .mixedOrders = true) (L : lz) (f : FuncId) {c : Code} {m : Nat} {x x2 : St} {e : Ex} {x' : St} (h : oa P L f c m x s = some (l, (.normal, x2))) (ho : Pth P s l) (hr : io P c m x2 e x') : io P c m x e x' := yS hm h ho hr
end
theorem pL.eq {args : List AV} {H : List Blk} {r r' : AV × List Blk} (h : pL P f args H r) (e : r = r') : pL P f args H r' := e ▸ h
theorem pL.of {args args' : List AV} {H H' : List Blk} {r : AV × List Blk} (h : pL P f args H r) (e : (args', H') = (args, H)) : pL P f args' H' r := by cases e; exact h
theorem io.of {c : Code} {m : Nat} {s s1 s' : St} {e : Ex} (h : io P c m s e s') (q : s1 = s) : io P c m s1 e s' := q ▸ h
theorem io.eq {c : Code} {m : Nat} {s s1 s' : St} {e : Ex} (h : io P c m s e s') (q : s' = s1) : io P c m s e s1 := q ▸ h
end
theorem s9 {A R : Type} {x : Option A} {k : A → Option R} {r : R} (h : x >>= k = some r) : ∃ v, x = some v ∧ k v = some r := by
 cases x with
 | none => cases h
 | some v => exact ⟨v, rfl, h⟩
theorem not_true {b : Bool} (h : ¬ b = true) : b = false := by cases b <;> simp_all
section
variable {α β : Type}
def aZ (E : α → List AV) (d : α) (l : List α) (i : Nat) : List AV := E (l.getD i d)
def dV (E : α → List PV) (d : α) (l : List α) (i : Nat) : List PV := E (l.getD i d)
theorem Bc {l : List α} {i : Nat} (d : α) (h : i < l.length) : l.getD i d = l[i] := by simp [List.getD, h]
theorem cC {l : List α} {i : Nat} (d : α) (h : l.length ≤ i) : l.getD i d = d := by simp [List.getD, h]
theorem ED (E : α → List AV) (d : α) (l : List α) (i : Nat) (x : α) (h : i < l.length) : upd (aZ E d l) i (E x) = aZ E d (l.set i x) := by
 funext j
 unfold upd aZ
 by_cases hj : j = i
 ·subst hj; simp [List.getD, h]
 ·rw [if_neg hj]
  have : i ≠ j := fun e => hj e.symm
  simp [List.getD, List.getElem?_set, this]
theorem C5 (E : α → List AV) (d : α) (n : Nat) : (fun _ => E d) = aZ E d (List.replicate n d) := by
 funext i
 unfold aZ
 by_cases h : i < n
 ·rw [Bc d (by simpa using h)]; simp
 ·rw [cC d (by simpa using h)]
theorem Bd (E : α → List AV) (d : α) : ∀ (xs : List α) , uT (E d) (xs.map E) = aZ E d xs
 | [] => funext fun i => by cases i <;> rfl
 | x :: xs => funext fun i => by
  cases i with
  | zero => rfl
  | succ i =>
   have := congrFun (Bd E d xs) i
   simpa [uT, aZ] using this
theorem EE (E : α → List AV) (d : α) (l ys : List α) (n m : Nat) (g : Nat → List AV) (z : List AV) (hn : n ≤ l.length) (hm : m = ys.length) (hg : ∀ i, g i = E (ys.getD i d)) (hz : z = E d) : app n (aZ E d l) m g z = aZ E d (l.take n ++ ys) := by
 subst hm hz
 funext i
 unfold app aZ
 have hl : (l.take n).length = n := by simp; omega
 by_cases h1 : i < n
 ·rw [if_pos h1]
  simp [List.getD, List.getElem?_append_left (show i < (l.take n).length by omega), List.getElem?_take, h1]
 ·rw [if_neg h1]
  by_cases h2 : i < n + ys.length
  ·rw [if_pos h2, hg]
   simp only [List.getD]
   rw [List.getElem?_append_right (by omega), hl]
  ·rw [if_neg h2, cC d (by rw [List.length_append]; omega)]
theorem Cp (E : α → List AV) (e : α → List PV) (d : α) (l : List α) (lo n N : Nat) (hs : ∀ x, dn (E x) = e x) (h1 : lo + n ≤ l.length) (h2 : l.length ≤ N) :
  PV.seq n (fun i => dn (dB lo n N (aZ E d l) i)) = .seq (List.length (List.take n (List.drop lo l))) (dV e d (List.take n (List.drop lo l))) := by
 have hl : (List.take n (List.drop lo l)).length = n := by simp; omega
 rw [hl]
 congr 1
 funext i
 unfold dB aZ dV
 by_cases h : i < n
 ·rw [if_pos h, hs]
  simp [List.getD, List.getElem?_take, h]
 ·rw [if_neg h, hs, cC d h2, cC d (by omega)]
theorem mT (E : α → List AV) (d : α) (l : List α) (n N : Nat) (h1 : n ≤ l.length) (h2 : l.length ≤ N) : dB 0 n N (aZ E d l) = aZ E d (List.take n l) := by
 funext i
 unfold dB aZ
 by_cases h : i < n
 ·rw [if_pos h]
  simp [List.getD, List.getElem?_take, h]
 ·rw [if_neg h, cC d h2, cC d (by simp; omega)]
theorem ci (E : α → List AV) (d : α) (l : List α) (n : Nat) (h2 : l.length ≤ n) : dB 0 n n (aZ E d l) = aZ E d l := by
 funext i
 unfold dB aZ
 by_cases h : i < n
 ·rw [if_pos h, Nat.zero_add]
 ·rw [if_neg h, cC d h2, cC d (by omega)]
theorem kw (l : List α) (n : Nat) (h : n ≤ l.length) : (List.take n l).length = n := by simp; omega
theorem Ae (e : α → List PV) (d : α) (l : List α) (lo hi : Nat) (z : Nat → List PV) (hz : ∀ i, z i = e d) (h1 : lo ≤ hi) (h2 : hi ≤ l.length) :
  PV.seq (hi - lo) (Ea lo hi (dV e d l) z) = .seq (List.length (List.drop lo (List.take hi l))) (dV e d (List.drop lo (List.take hi l))) := by
 have hl : (List.drop lo (List.take hi l)).length = hi - lo := by simp; omega
 rw [hl]
 congr 1
 funext i
 unfold Ea dV
 by_cases h : i < hi - lo
 ·rw [if_pos h]
  simp [List.getD, List.getElem?_take, show lo + i < hi by omega]
 ·rw [if_neg h, hz, cC d (by omega)]
theorem xC (E : α → List AV) (d : α) (s : Nat) (sz n : Nat) (l : List α) (i o : Nat) (vs : List AV) (x : α) (hx : splice (E (l.getD i d)) o vs = E x) (h : i < l.length) :
  Blk.put (.arr s sz n (aZ E d l)) [] i (fun cs => splice cs o vs) = .arr s sz n (aZ E d (l.set i x)) := by
 show Blk.arr s sz n (upd (aZ E d l) i (splice (aZ E d l i) o vs)) = _
 have : splice (aZ E d l i) o vs = E x := hx
 rw [this, ED E d l i x h]
theorem kU {v : AV} {b : Nat} {B B' : Blk} {hb : List (Nat × Blk)} {sc : List (Nat × Bool)} (h : B = B') : ({ val := v, hb := (b, B) :: hb, sc := sc } : Eff) = { val := v, hb := (b, B') :: hb, sc := sc } := by rw [h]
theorem fK (E : α → List AV) (d : α) (b sz n : Nat) : ({ val := .ms b [] 0 n, hb := [(b, .arr 0 sz n fun _ => E d)] } : Eff) = { val := .ms b [] 0 (List.length (List.replicate n d)), hb := [(b, .arr 0 sz (List.length (List.replicate n d)) (aZ E d (List.replicate n d)))] } := by
 rw [List.length_replicate, ← C5 E d n]
theorem aO (E : α → List AV) (d : α) (b sz n : Nat) (xs : List α) (hn : n = xs.length) (hb : List (Nat × Blk)) (sc : List (Nat × Bool)) : ({ val := .ms b [] 0 n, hb := (b, .arr 0 sz n (uT (E d) (xs.map E))) :: hb, sc := sc } : Eff) = { val := .ms b [] 0 (List.length xs), hb := (b, .arr 0 sz (List.length xs) (aZ E d xs)) :: hb, sc := sc } := by
 rw [Bd, hn]
theorem fP (E : α → List AV) (d : α) (l ys new : List α) (b sz n m : Nat) (g : Nat → List AV) (z : List AV) (hb hb2 : List (Nat × Blk)) (sc : List (Nat × Bool)) (hn : n ≤ l.length) (hm : m = ys.length) (hg : ∀ i, g i = E (ys.getD i d)) (hz : z = E d) (hnew : l.take n ++ ys = new) :
  ({ val := .ms b [] 0 (n + m), hb := hb ++ ((b, .arr 0 sz (n + m) (app n (aZ E d l) m g z)) :: hb2), sc := sc } : Eff) = { val := .ms b [] 0 (List.length new), hb := hb ++ ((b, .arr 0 sz (List.length new) (aZ E d new)) :: hb2), sc := sc } := by
 rw [EE E d l ys n m g z hn hm hg hz, hnew]
 have : n + m = new.length := by rw [← hnew, List.length_append, List.length_take, hm]; omega
 rw [this]
theorem EF {v v' : AV} (h : v = v') : ({ val := v } : Eff) = { val := v' } := by rw [h]
end
end Go.Bm
