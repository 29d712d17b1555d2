import Derived.Test.YtipjbmnfnmlkfaaDoorBmNum
namespace Go.Bm
set_option autoImplicit false
set_option linter.unusedVariables false
set_option linter.unusedSimpArgs false
section
variable {α : Type}
def Ez (mk : α → PV) (f : Nat → α) : Nat → Nat → List PV
 | _, 0 => []
 | k, n + 1 => mk (f k) :: Ez mk f (k + 1) n
def aL (mk : α → PV) (f : Nat → α) : Nat → Nat → List AV
 | _, 0 => []
 | k, n + 1 => .pv (mk (f k)) :: aL mk f (k + 1) n
theorem ku (mk : α → PV) (f : Nat → α) : ∀ n k, (aL mk f k n).length = n
 | 0, k => rfl
 | n + 1, k => by simp [aL, ku mk f n]
theorem yM (mk : α → PV) (f : Nat → α) : ∀ n k j, j < n → (Ez mk f k n).getD j .bad = mk (f (k + j))
 | n + 1, k, 0, _ => rfl
 | n + 1, k, j + 1, h => by
  have := yM mk f n (k + 1) j (by omega)
  rw [Nat.add_assoc, Nat.add_comm 1 j] at this
  simpa [Ez] using this
theorem tv (mk : α → PV) (f : Nat → α) : ∀ n k j, j < n → (aL mk f k n).getD j dead = .pv (mk (f (k + j)))
 | n + 1, k, 0, _ => rfl
 | n + 1, k, j + 1, h => by
  have := tv mk f n (k + 1) j (by omega)
  rw [Nat.add_assoc, Nat.add_comm 1 j] at this
  simpa [aL] using this
theorem tw (mk : α → PV) (f g : Nat → α) : ∀ n k, (∀ i, k ≤ i → f i = g i) → aL mk f k n = aL mk g k n
 | 0, k, h => rfl
 | n + 1, k, h => by simp only [aL]; rw [h k (Nat.le_refl _), tw mk f g n (k + 1) fun i hi => h i (by omega)]
theorem yN (mk : α → PV) (f : Nat → α) (x : α) : ∀ n k j, (aL mk f k n).set j (.pv (mk x)) = aL mk (upd f (k + j) x) k n
 | 0, k, j => rfl
 | n + 1, k, 0 => by
  show AV.pv (mk x) :: aL mk f (k + 1) n = .pv (mk (upd f (k + 0) x k)) :: aL mk (upd f (k + 0) x) (k + 1) n
  rw [tw mk f (upd f (k + 0) x) n (k + 1) fun i hi => by unfold upd; rw [if_neg (by omega)]]
  simp [upd]
 | n + 1, k, j + 1 => by
  have := yN mk f x n (k + 1) j
  show AV.pv (mk (f k)) :: (aL mk f (k + 1) n).set j _ = .pv (mk (upd f (k + (j + 1)) x k)) :: aL mk (upd f (k + (j + 1)) x) (k + 1) n
  rw [this, Nat.add_assoc, Nat.add_comm 1 j]
  have : upd f (k + (j + 1)) x k = f k := by unfold upd; rw [if_neg (by omega)]
  rw [this]
theorem C2 (mk : α → PV) (f : Nat → α) (m j : Nat) (h : j < m) : ({ val := .pv ((Ez mk f 0 m).getD j .bad) } : Eff) = { val := .pv (mk (f j)) } := by rw [yM mk f m 0 j h, Nat.zero_add]
theorem tx (mk : α → PV) (f : Nat → α) (m j : Nat) (h : j < m) : ({ val := ((aL mk f 0 m).getD j dead).scal } : Eff) = { val := .pv (mk (f j)) } := by rw [tv mk f m 0 j h, Nat.zero_add]; rfl
theorem Aa (mk : α → PV) (pre post : List AV) (f : Nat → α) (m j : Nat) (x : α) : splice (pre ++ (aL mk f 0 m ++ post)) pre.length ((part (pre ++ (aL mk f 0 m ++ post)) pre.length m).set j (.pv (mk x))) = pre ++ (aL mk (upd f j x) 0 m ++ post) := by
 have h1 : part (pre ++ (aL mk f 0 m ++ post)) pre.length m = aL mk f 0 m := by
  unfold part
  rw [List.drop_left, List.take_append_of_le_length (by rw [ku]; exact Nat.le_refl _), List.take_of_length_le (by rw [ku]; exact Nat.le_refl _)]
 rw [h1, yN, Nat.zero_add]
 unfold splice
 rw [ku, List.take_left, List.append_assoc]
 congr 2
 rw [← List.append_assoc, List.drop_append_of_le_length (by simp [ku]), List.drop_of_length_le (by simp [ku]), List.nil_append]
theorem C3 (mk : α → PV) (b s : Nat) (pre post : List AV) (f : Nat → α) (m j : Nat) (x : α) : ({ val := dead, hb := [(b, Blk.put (.box s (pre ++ (aL mk f 0 m ++ post))) [] 0 fun cs => splice cs pre.length ((part cs pre.length m).set j (.pv (mk x))))] } : Eff) = { val := dead, hb := [(b, .box s (pre ++ (aL mk (upd f j x) 0 m ++ post)))] } := by
 exact congrArg (fun c => ({ val := dead, hb := [(b, Blk.box s c)] } : Eff)) (Aa mk pre post f m j x)
theorem fO (c : AV) (b n : Nat) : ({ val := .ptr b [] 0 0, hb := [(b, .arr 0 1 n fun i => [(List.replicate n c).getD i ((List.replicate n c).headD dead)])] } : Eff) = { val := .ptr b [] 0 0, hb := [(b, .arr 0 1 n fun _ => [match n with | 0 => dead | _ => c])] } := by
 have : (fun i => [(List.replicate n c).getD i ((List.replicate n c).headD dead)]) = fun _ : Nat => [match n with | 0 => dead | _ => c] := by
  funext i
  cases n with
  | zero => simp
  | succ n =>
   simp only [List.replicate_succ, List.headD]
   rw [← List.replicate_succ]
   by_cases h : i < n + 1
   ·simp [List.getD, List.getElem?_replicate, h]
   ·simp [List.getD, List.getElem?_replicate, h]
 rw [this]
theorem mS (E : α → List AV) (s n : Nat) (f : Nat → α) (i : Nat) (x : α) (h : splice (E (f i)) 0 (E x) = E x) : Blk.put (.arr s 1 n fun k => E (f k)) [] i (fun cs => splice cs 0 (E x)) = .arr s 1 n fun k => E (upd f i x k) := by
 have : upd (fun k => E (f k)) i (E x) = fun k => E (upd f i x k) := by
  funext j
  unfold upd
  by_cases hj : j = i <;> simp [hj]
 show Blk.arr s 1 n (upd (fun k => E (f k)) i (splice (E (f i)) 0 (E x))) = _
 rw [h, this]
end
section
variable {α β : Type}
end
end Go.Bm
