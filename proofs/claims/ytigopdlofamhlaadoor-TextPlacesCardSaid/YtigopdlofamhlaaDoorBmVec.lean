/- The abstract machine: words for arrays of so many numbers, and for rows of which some elements own their slices. -/
import Derived.Test.YtigopdlofamhlaaDoorBmNum
namespace Go.Bm
set_option autoImplicit false
set_option linter.unusedVariables false
set_option linter.unusedSimpArgs false
section
variable {α : Type}
/-- An array's cells. -/
def vecP (mk : α → PV) (f : Nat → α) : Nat → Nat → List PV
  | _, 0 => []
  | k, n + 1 => mk (f k) :: vecP mk f (k + 1) n
def vecC (mk : α → PV) (f : Nat → α) : Nat → Nat → List AV
  | _, 0 => []
  | k, n + 1 => .pv (mk (f k)) :: vecC mk f (k + 1) n
theorem vecC_len (mk : α → PV) (f : Nat → α) : ∀ n k, (vecC mk f k n).length = n
  | 0, k => rfl
  | n + 1, k => by simp [vecC, vecC_len mk f n]
theorem vecP_get (mk : α → PV) (f : Nat → α) : ∀ n k j, j < n → (vecP mk f k n).getD j .bad = mk (f (k + j))
  | n + 1, k, 0, _ => rfl
  | n + 1, k, j + 1, h => by
    have := vecP_get mk f n (k + 1) j (by omega)
    rw [Nat.add_assoc, Nat.add_comm 1 j] at this
    simpa [vecP] using this
theorem vecC_get (mk : α → PV) (f : Nat → α) : ∀ n k j, j < n → (vecC mk f k n).getD j dead = .pv (mk (f (k + j)))
  | n + 1, k, 0, _ => rfl
  | n + 1, k, j + 1, h => by
    have := vecC_get mk f n (k + 1) j (by omega)
    rw [Nat.add_assoc, Nat.add_comm 1 j] at this
    simpa [vecC] using this
theorem vecC_congr (mk : α → PV) (f g : Nat → α) : ∀ n k, (∀ i, k ≤ i → f i = g i) → vecC mk f k n = vecC mk g k n
  | 0, k, h => rfl
  | n + 1, k, h => by simp only [vecC]; rw [h k (Nat.le_refl _), vecC_congr mk f g n (k + 1) fun i hi => h i (by omega)]
theorem vecC_set (mk : α → PV) (f : Nat → α) (x : α) : ∀ n k j, (vecC mk f k n).set j (.pv (mk x)) = vecC mk (upd f (k + j) x) k n
  | 0, k, j => rfl
  | n + 1, k, 0 => by
    show AV.pv (mk x) :: vecC mk f (k + 1) n = .pv (mk (upd f (k + 0) x k)) :: vecC mk (upd f (k + 0) x) (k + 1) n
    rw [vecC_congr mk f (upd f (k + 0) x) n (k + 1) fun i hi => by unfold upd; rw [if_neg (by omega)]]
    simp [upd]
  | n + 1, k, j + 1 => by
    have := vecC_set mk f x n (k + 1) j
    show AV.pv (mk (f k)) :: (vecC mk f (k + 1) n).set j _ = .pv (mk (upd f (k + (j + 1)) x k)) :: vecC mk (upd f (k + (j + 1)) x) (k + 1) n
    rw [this, Nat.add_assoc, Nat.add_comm 1 j]
    have : upd f (k + (j + 1)) x k = f k := by unfold upd; rw [if_neg (by omega)]
    rw [this]
theorem eff_vget (mk : α → PV) (f : Nat → α) (m j : Nat) (h : j < m) : ({ val := .pv ((vecP mk f 0 m).getD j .bad) } : Eff) = { val := .pv (mk (f j)) } := by rw [vecP_get mk f m 0 j h, Nat.zero_add]
theorem eff_aget (mk : α → PV) (f : Nat → α) (m j : Nat) (h : j < m) : ({ val := ((vecC mk f 0 m).getD j dead).scal } : Eff) = { val := .pv (mk (f j)) } := by rw [vecC_get mk f m 0 j h, Nat.zero_add]; rfl
theorem splice_vec (mk : α → PV) (pre post : List AV) (f : Nat → α) (m j : Nat) (x : α) : splice (pre ++ (vecC mk f 0 m ++ post)) pre.length ((part (pre ++ (vecC mk f 0 m ++ post)) pre.length m).set j (.pv (mk x))) = pre ++ (vecC mk (upd f j x) 0 m ++ post) := by
  have h1 : part (pre ++ (vecC mk f 0 m ++ post)) pre.length m = vecC mk f 0 m := by
    unfold part
    rw [List.drop_left, List.take_append_of_le_length (by rw [vecC_len]; exact Nat.le_refl _), List.take_of_length_le (by rw [vecC_len]; exact Nat.le_refl _)]
  rw [h1, vecC_set, Nat.zero_add]
  unfold splice
  rw [vecC_len, List.take_left, List.append_assoc]
  congr 2
  rw [← List.append_assoc, List.drop_append_of_le_length (by simp [vecC_len]), List.drop_of_length_le (by simp [vecC_len]), List.nil_append]
theorem eff_vbox (mk : α → PV) (b s : Nat) (pre post : List AV) (f : Nat → α) (m j : Nat) (x : α) : ({ val := dead, hb := [(b, Blk.put (.box s (pre ++ (vecC mk f 0 m ++ post))) [] 0 fun cs => splice cs pre.length ((part cs pre.length m).set j (.pv (mk x))))] } : Eff) = { val := dead, hb := [(b, .box s (pre ++ (vecC mk (upd f j x) 0 m ++ post)))] } := by
  exact congrArg (fun c => ({ val := dead, hb := [(b, Blk.box s c)] } : Eff)) (splice_vec mk pre post f m j x)
theorem eff_vrow {β : Type} (mk : α → PV) (E : β → List AV) (d : β) (b s sz : Nat) (l : List β) (i : Nat) (pre post : List AV) (f : Nat → α) (m j : Nat) (x : α) (y : β) (h1 : E (l.getD i d) = pre ++ (vecC mk f 0 m ++ post)) (h2 : E y = pre ++ (vecC mk (upd f j x) 0 m ++ post)) (h : i < l.length) : ({ val := dead, hb := [(b, Blk.put (.arr s sz l.length (encW E d l)) [] i fun cs => splice cs pre.length ((part cs pre.length m).set j (.pv (mk x))))] } : Eff) = { val := dead, hb := [(b, .arr s sz l.length (encW E d (l.set i y)))] } := by
  have : Blk.put (.arr s sz l.length (encW E d l)) [] i (fun cs => splice cs pre.length ((part cs pre.length m).set j (.pv (mk x)))) = .arr s sz l.length (encW E d (l.set i y)) := by
    have e0 : encW E d l i = pre ++ (vecC mk f 0 m ++ post) := h1
    have e1 : splice (encW E d l i) pre.length ((part (encW E d l i) pre.length m).set j (.pv (mk x))) = E y := by rw [e0, splice_vec, h2]
    show Blk.arr s sz l.length (upd (encW E d l) i (splice (encW E d l i) pre.length ((part (encW E d l i) pre.length m).set j (.pv (mk x))))) = _
    rw [e1, upd_enc E d l i y h]
  rw [this]
theorem eff_far (c : AV) (b n : Nat) : ({ val := .ptr b [] 0 0, hb := [(b, .arr 0 1 n fun i => [(List.replicate n c).getD i ((List.replicate n c).headD dead)])] } : Eff) = { val := .ptr b [] 0 0, hb := [(b, .arr 0 1 n fun _ => [match n with | 0 => dead | _ => c])] } := by
  have : (fun i => [(List.replicate n c).getD i ((List.replicate n c).headD dead)]) = fun _ : Nat => [match n with | 0 => dead | _ => c] := by
    funext i
    cases n with
    | zero => simp
    | succ n =>
      simp only [List.replicate_succ, List.headD]
      rw [← List.replicate_succ]
      by_cases h : i < n + 1
      · simp [List.getD, List.getElem?_replicate, h]
      · simp [List.getD, List.getElem?_replicate, h]
  rw [this]
theorem far_put (E : α → List AV) (s n : Nat) (f : Nat → α) (i : Nat) (x : α) (h : splice (E (f i)) 0 (E x) = E x) : Blk.put (.arr s 1 n fun k => E (f k)) [] i (fun cs => splice cs 0 (E x)) = .arr s 1 n fun k => E (upd f i x k) := by
  have : upd (fun k => E (f k)) i (E x) = fun k => E (upd f i x k) := by
    funext j
    unfold upd
    by_cases hj : j = i <;> simp [hj]
  show Blk.arr s 1 n (upd (fun k => E (f k)) i (splice (E (f i)) 0 (E x))) = _
  rw [h, this]
end
section
variable {α β : Type}
/-- A slice of its own array, cut. -/
theorem own_cut (E : β → List AV) (d : β) (l : List β) (sz n : Nat) (h : n ≤ l.length) : AV.own sz n (cutF 0 n l.length (encW E d l)) = .own sz (List.length (List.take n l)) (encW E d (List.take n l)) := by
  rw [cut_enc E d l n l.length h (Nat.le_refl _), len_take l n h]
theorem put_cut (E : α → List AV) (d : α) (s sz n : Nat) (l : List α) (i o : Nat) (E2 : β → List AV) (d2 : β) (sz2 : Nat) (l2 : List β) (m : Nat) (x : α) (hc : part (E (l.getD i d)) o 1 = [.own sz2 l2.length (encW E2 d2 l2)]) (hx : splice (E (l.getD i d)) o [.own sz2 (List.length (List.take m l2)) (encW E2 d2 (List.take m l2))] = E x) (h : i < l.length) (hm : m ≤ l2.length) (hn : n = l.length) :
    Blk.put (.arr s sz n (encW E d l)) [] i (fun cs => splice cs o [.own sz2 m (cutF 0 m l2.length (encW E2 d2 l2))]) = .arr s sz n (encW E d (l.set i x)) := by
  rw [own_cut E2 d2 l2 sz2 m hm]
  exact put_top E d s sz n l i o _ x hx h
/-- A row of which the first elements own their slices; those of the others are shared. -/
def encM (O S : α → List AV) (d : α) (l : List α) (k i : Nat) : List AV := match decide (k ≤ i ∧ i < l.length) with
  | true => S (l.getD i d)
  | false => O (l.getD i d)
theorem mix_in {O S : α → List AV} {d : α} {l : List α} {k i : Nat} (h1 : k ≤ i) (h2 : i < l.length) : encM O S d l k i = S (l.getD i d) := by
  unfold encM; rw [decide_eq_true ⟨h1, h2⟩]
theorem mix_out {O S : α → List AV} {d : α} {l : List α} {k i : Nat} (h : ¬ (k ≤ i ∧ i < l.length)) : encM O S d l k i = O (l.getD i d) := by
  unfold encM; rw [decide_eq_false h]
theorem mix_nil (O S : α → List AV) (d : α) : encM O S d [] 0 = encW O d [] := funext fun i => mix_out (by simp)
theorem mix_all (O S : α → List AV) (d : α) (l : List α) (k : Nat) (h : l.length ≤ k) : encM O S d l k = encW O d l := funext fun i => mix_out (by omega)
theorem mix_len (O S : α → List AV) (d : α) (l : List α) (k i n : Nat) (hk : k = i) (h : i < l.length) (hn : Nat.ble n (S (l.getD i d)).length = true) : Nat.ble n (encM O S d l k i).length = true := by
  rw [mix_in (by omega) h]; exact hn
theorem eff_mixput (O S : α → List AV) (d : α) (s sz : Nat) (l : List α) (k i o : Nat) (vs : List AV) (x : α) (b n : Nat) (g : List (Nat × Blk)) (sc : List (Nat × Bool)) (hk : k = i) (hx : splice (S (l.getD i d)) o vs = O x) (ho : hasOwn (part (S (l.getD i d)) o n) = false) (h : i < l.length) :
    ({ val := dead, hb := (b, Blk.put (.arr (minT (lossT (hasOwn (part (encM O S d l k i) o n))) s) sz l.length (encM O S d l k)) [] i fun cs => splice cs o vs) :: g, sc := (bif hasOwn (part (encM O S d l k i) o n) then [(b, true)] else []) ++ sc } : Eff) = { val := dead, hb := (b, .arr s sz l.length (encM O S d (l.set i x) (i + 1))) :: g, sc := sc } := by
  subst hk
  have e1 : encM O S d l k k = S (l.getD k d) := mix_in (Nat.le_refl _) h
  have e2 : Blk.put (.arr s sz l.length (encM O S d l k)) [] k (fun cs => splice cs o vs) = .arr s sz l.length (encM O S d (l.set k x) (k + 1)) := by
    show Blk.arr s sz l.length (upd (encM O S d l k) k (splice (encM O S d l k k) o vs)) = _
    rw [e1, hx]
    congr 1
    funext j
    unfold upd
    by_cases hj : j = k
    · subst hj
      rw [if_pos rfl, mix_out (by omega)]
      simp [List.getD, h]
    · rw [if_neg hj]
      have hne : k ≠ j := fun e => hj e.symm
      have hg : (l.set k x).getD j d = l.getD j d := by simp [List.getD, List.getElem?_set, hne]
      by_cases hr : k ≤ j ∧ j < l.length
      · rw [mix_in hr.1 hr.2, mix_in (by omega) (by rw [List.length_set]; exact hr.2), hg]
      · rw [mix_out hr, mix_out (by rw [List.length_set]; omega), hg]
  rw [e1, ho]
  have e3 : minT (lossT false) s = s := rfl
  rw [e3, e2]
  rfl
theorem eff_mix (O S : α → List AV) (d : α) (ys : List α) (b sz : Nat) (sc : List (Nat × Bool)) (hz : O d = O d := by rfl) :
    ({ val := .ms b [] 0 (List.length ([] : List α) + List.length ys), hb := [] ++ ((b, .arr 0 sz (List.length ([] : List α) + List.length ys) (app (List.length ([] : List α)) (encW O d []) (List.length ys) (fun i => S (ys.getD i d)) (encW O d [] (List.length ([] : List α))))) :: []), sc := sc } : Eff) = { val := .ms b [] 0 (List.length ys), hb := [(b, .arr 0 sz (List.length ys) (encM O S d ys 0))], sc := sc } := by
  have e : app (List.length ([] : List α)) (encW O d []) (List.length ys) (fun i => S (ys.getD i d)) (encW O d [] (List.length ([] : List α))) = encM O S d ys 0 := by
    funext i
    unfold app
    rw [if_neg (by simp)]
    by_cases h : i < ys.length
    · rw [if_pos (by simpa using h), mix_in (Nat.zero_le _) h]; rfl
    · rw [if_neg (by simpa using h), mix_out (by omega)]
      show O _ = O _
      congr 1
      simp [List.getD, h]
  rw [e]
  simp
end
/-- A table that is sliced whole. -/
theorem slice_tab {α : Type} (mk : α → PV) (E : α → List PV) (hE : ∀ x, E x = [mk x]) (d : α) (L : List α) (n : Nat) (hn : n = L.length) (cs : List PV) (hcs : cs = L.map mk) (z : List PV) (hz : z = E d) : (fun i => match decide (i < n) with | true => [cs.getD i .bad] | false => z) = encP E d L := by
  funext i
  subst hn hcs hz
  unfold encP
  by_cases h : i < L.length
  · rw [decide_eq_true h]
    simp [List.getD, h, hE]
  · rw [decide_eq_false h]
    have : L.getD i d = d := by simp [List.getD, h]
    rw [this]
/-- Bytes as a string. -/
def bytesL (l : List (BitVec 8)) : ByteArray := ⟨(l.map fun b => UInt8.ofNat b.toNat).toArray⟩
theorem bytes_ok (E : BitVec 8 → List AV) (hE : ∀ x, E x = [.pv (.int .u8 ((BitVec.toNat x : Nat) : Int))]) (d : BitVec 8) (l : List (BitVec 8)) (n : Nat) : bytesOk (encW E d l) 0 n = true := List.all_eq_true.2 fun i _ => by
  unfold encW
  rw [hE]; rfl
theorem bytes_of (E : BitVec 8 → List AV) (hE : ∀ x, E x = [.pv (.int .u8 ((BitVec.toNat x : Nat) : Int))]) (d : BitVec 8) (l : List (BitVec 8)) (n : Nat) (hn : n = l.length) : bytesOf (encW E d l) 0 n = bytesL l := by
  subst hn
  unfold bytesOf bytesL
  congr 2
  apply List.ext_getElem
  · simp
  · intro i h1 h2
    have hi : i < l.length := by simpa using h1
    simp only [List.getElem_map, List.getElem_range, Nat.zero_add]
    unfold encW
    rw [hE]
    have : l.getD i d = l[i] := by simp [List.getD, hi]
    rw [this]
    rfl
end Go.Bm
