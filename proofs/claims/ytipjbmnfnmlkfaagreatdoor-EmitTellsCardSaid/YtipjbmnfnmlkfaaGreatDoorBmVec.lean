import Derived.Test.YtipjbmnfnmlkfaaGreatDoorBmNum
namespace Go.Bm
set_option autoImplicit false
set_option linter.unusedVariables false
set_option linter.unusedSimpArgs false
section
variable {α : Type}
def Gx (mk : α → PV) (f : Nat → α) : Nat → Nat → List PV
 | _, 0 => []
 | k, n + 1 => mk (f k) :: Gx mk f (k + 1) n
def a8 (mk : α → PV) (f : Nat → α) : Nat → Nat → List AV
 | _, 0 => []
 | k, n + 1 => .pv (mk (f k)) :: a8 mk f (k + 1) n
theorem ln (mk : α → PV) (f : Nat → α) : ∀ n k, (a8 mk f k n).length = n
 | 0, k => rfl
 | n + 1, k => by simp [a8, ln mk f n]
theorem AM (mk : α → PV) (f : Nat → α) : ∀ n k j, j < n → (Gx mk f k n).getD j .bad = mk (f (k + j))
 | n + 1, k, 0, _ => rfl
 | n + 1, k, j + 1, h => by
  have := AM mk f n (k + 1) j (by omega)
  rw [Nat.add_assoc, Nat.add_comm 1 j] at this
  simpa [Gx] using this
theorem u6 (mk : α → PV) (f : Nat → α) : ∀ n k j, j < n → (a8 mk f k n).getD j dead = .pv (mk (f (k + j)))
 | n + 1, k, 0, _ => rfl
 | n + 1, k, j + 1, h => by
  have := u6 mk f n (k + 1) j (by omega)
  rw [Nat.add_assoc, Nat.add_comm 1 j] at this
  simpa [a8] using this
theorem u7 (mk : α → PV) (f g : Nat → α) : ∀ n k, (∀ i, k ≤ i → f i = g i) → a8 mk f k n = a8 mk g k n
 | 0, k, h => rfl
 | n + 1, k, h => by simp only [a8]; rw [h k (Nat.le_refl _), u7 mk f g n (k + 1) fun i hi => h i (by omega)]
theorem AN (mk : α → PV) (f : Nat → α) (x : α) : ∀ n k j, (a8 mk f k n).set j (.pv (mk x)) = a8 mk (upd f (k + j) x) k n
 | 0, k, j => rfl
 | n + 1, k, 0 => by
  show AV.pv (mk x) :: a8 mk f (k + 1) n = .pv (mk (upd f (k + 0) x k)) :: a8 mk (upd f (k + 0) x) (k + 1) n
  rw [u7 mk f (upd f (k + 0) x) n (k + 1) fun i hi => by unfold upd; rw [if_neg (by omega)]]
  simp [upd]
 | n + 1, k, j + 1 => by
  have := AN mk f x n (k + 1) j
  show AV.pv (mk (f k)) :: (a8 mk f (k + 1) n).set j _ = .pv (mk (upd f (k + (j + 1)) x k)) :: a8 mk (upd f (k + (j + 1)) x) (k + 1) n
  rw [this, Nat.add_assoc, Nat.add_comm 1 j]
  have : upd f (k + (j + 1)) x k = f k := by unfold upd; rw [if_neg (by omega)]
  rw [this]
theorem Fb (mk : α → PV) (f : Nat → α) (m j : Nat) (h : j < m) : ({ val := .pv ((Gx mk f 0 m).getD j .bad) } : Eff) = { val := .pv (mk (f j)) } := by rw [AM mk f m 0 j h, Nat.zero_add]
theorem u9 (mk : α → PV) (f : Nat → α) (m j : Nat) (h : j < m) : ({ val := ((a8 mk f 0 m).getD j dead).scal } : Eff) = { val := .pv (mk (f j)) } := by rw [u6 mk f m 0 j h, Nat.zero_add]; rfl
theorem Ci (mk : α → PV) (pre post : List AV) (f : Nat → α) (m j : Nat) (x : α) : splice (pre ++ (a8 mk f 0 m ++ post)) pre.length ((part (pre ++ (a8 mk f 0 m ++ post)) pre.length m).set j (.pv (mk x))) = pre ++ (a8 mk (upd f j x) 0 m ++ post) := by
 have h1 : part (pre ++ (a8 mk f 0 m ++ post)) pre.length m = a8 mk f 0 m := by
  unfold part
  rw [List.drop_left, List.take_append_of_le_length (by rw [ln]; exact Nat.le_refl _), List.take_of_length_le (by rw [ln]; exact Nat.le_refl _)]
 rw [h1, AN, Nat.zero_add]
 unfold splice
 rw [ln, List.take_left, List.append_assoc]
 congr 2
 rw [← List.append_assoc, List.drop_append_of_le_length (by simp [ln]), List.drop_of_length_le (by simp [ln]), List.nil_append]
theorem Fc (mk : α → PV) (b s : Nat) (pre post : List AV) (f : Nat → α) (m j : Nat) (x : α) : ({ val := dead, hb := [(b, Blk.put (.box s (pre ++ (a8 mk f 0 m ++ post))) [] 0 fun cs => splice cs pre.length ((part cs pre.length m).set j (.pv (mk x))))] } : Eff) = { val := dead, hb := [(b, .box s (pre ++ (a8 mk (upd f j x) 0 m ++ post)))] } := by
 exact congrArg (fun c => ({ val := dead, hb := [(b, Blk.box s c)] } : Eff)) (Ci mk pre post f m j x)
theorem gh (c : AV) (b n : Nat) : ({ val := .ptr b [] 0 0, hb := [(b, .arr 0 1 n fun i => [(List.replicate n c).getD i ((List.replicate n c).headD dead)])] } : Eff) = { val := .ptr b [] 0 0, hb := [(b, .arr 0 1 n fun _ => [match n with | 0 => dead | _ => c])] } := by
 have : (fun i => [(List.replicate n c).getD i ((List.replicate n c).headD dead)]) = fun _ : Nat => [match n with | 0 => dead | _ => c] := by
  funext i
  cases n with
  | zero => simp
  | succ n =>
   simp only [List.replicate_succ, List.headD]
   rw [← List.replicate_succ]
   by_cases h : i < n + 1
   ·simp [List.getD, List.getElem?_replicate, h]
   ·simp [List.getD, List.getElem?_replicate, h]
 rw [this]
theorem oh (E : α → List AV) (s n : Nat) (f : Nat → α) (i : Nat) (x : α) (h : splice (E (f i)) 0 (E x) = E x) : Blk.put (.arr s 1 n fun k => E (f k)) [] i (fun cs => splice cs 0 (E x)) = .arr s 1 n fun k => E (upd f i x k) := by
 have : upd (fun k => E (f k)) i (E x) = fun k => E (upd f i x k) := by
  funext j
  unfold upd
  by_cases hj : j = i <;> simp [hj]
 show Blk.arr s 1 n (upd (fun k => E (f k)) i (splice (E (f i)) 0 (E x))) = _
 rw [h, this]
end
section
variable {α β : Type}
end
end Go.Bm
