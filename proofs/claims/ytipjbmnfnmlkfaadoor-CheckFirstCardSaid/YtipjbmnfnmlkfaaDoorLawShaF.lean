/- Digests: what the program's SHA-256 answers. -/
import Derived.Test.YtipjbmnfnmlkfaaDoorLawPutF
namespace Go.Bm.GoYtipjbmnfnmlkfaaDoor
set_option autoImplicit false
set_option linter.unusedVariables false
set_option linter.unusedSimpArgs false
set_option maxRecDepth 100000
def rotr (x : W32) (n : Nat) : W32 := (x <<< (32 - n)) ||| (x >>> n)
theorem mul4 (i : Nat) (h : i ≤ 1000000) : iMul 4 (i : Int) = ((4 * i : Nat) : Int) := by rw [iMul_eq (by omega) (by omega)]; omega
theorem mul8 (i : Nat) (h : i ≤ 1000000) : iMul 8 (i : Int) = ((8 * i : Nat) : Int) := by rw [iMul_eq (by omega) (by omega)]; omega
theorem sub_nat (i k : Nat) (h : i ≤ 1000000) (h2 : k ≤ i) : iSub (i : Int) (k : Int) = ((i - k : Nat) : Int) := by rw [iSub_eq (by omega) (by omega)]; omega
theorem upd_same {α : Type} (f : Nat → α) (i : Nat) (v : α) : upd f i v i = v := by simp [upd]
theorem upd_ne {α : Type} (f : Nat → α) {i j : Nat} (v : α) (h : j ≠ i) : upd f i v j = f j := by simp [upd, h]
theorem vput_in {α : Type} (f g : Nat → α) {n i : Nat} (h : i < n) : vput f 0 n g i = g i := by unfold vput; rw [if_pos (by omega), Nat.sub_zero]

/-! ### the words of a block -/
def wordB (b : List B8) (i : Nat) : W32 := ((((BitVec.setWidth 32 (List.getD b (4 * i) 0#8)) <<< 24) ||| ((BitVec.setWidth 32 (List.getD b (4 * i + 1) 0#8)) <<< 16)) ||| ((BitVec.setWidth 32 (List.getD b (4 * i + 2) 0#8)) <<< 8)) ||| (BitVec.setWidth 32 (List.getD b (4 * i + 3) 0#8))
def wNext (w : Nat → W32) (i : Nat) : W32 := ((w (i - 16) + ((rotr (w (i - 15)) 7 ^^^ rotr (w (i - 15)) 18) ^^^ (w (i - 15) >>> 3))) + w (i - 7)) + ((rotr (w (i - 2)) 17 ^^^ rotr (w (i - 2)) 19) ^^^ (w (i - 2) >>> 10))
def wN (b : List B8) : Nat → Nat → W32
  | 0 => fun i => if i < 16 then wordB b i else 0#32
  | k + 1 => upd (wN b k) (16 + k) (wNext (wN b k) (16 + k))
theorem getD_drop' (b : List B8) (k j : Nat) : List.getD (List.drop k b) j 0#8 = List.getD b (k + j) 0#8 := by simp [List.getD]
theorem word_eq (b : List B8) (i : Nat) (h : 4 * i + 4 ≤ b.length) : sha_word (List.drop (4 * i) b) = some (wordB b i) := by
  have hl : (List.drop (4 * i) b).length = b.length - 4 * i := by simp
  unfold sha_word
  rw [if_pos (decide_eq_true (by omega)), if_pos (decide_eq_true (by omega)), if_pos (decide_eq_true (by omega)), if_pos (decide_eq_true (by omega))]
  simp only [getD_drop', Nat.add_zero]
  rfl
theorem spread_l3 (x0 : Nat → W32) (b : List B8) (hb : 64 ≤ b.length) : ∀ (m i : Nat) (x : Nat → W32), i + m = 16 → (∀ j, j < i → x j = wordB b j) → ∃ y, sha_spread_l3 x0 x b (i : Int) = some y ∧ ∀ j, j < 16 → y j = wordB b j
  | 0, i, x, hi, h => by
    rw [sha_spread_l3, if_neg (by simp only [decide_eq_true_eq]; omega)]
    exact ⟨x, rfl, fun j hj => h j (by omega)⟩
  | m + 1, i, x, hi, h => by
    obtain ⟨y, q1, q2⟩ := spread_l3 x0 b hb m (i + 1) (upd x i (wordB b i)) (by omega) (fun j hj => by
      by_cases e : j = i
      · subst e; exact upd_same _ _ _
      · rw [upd_ne _ _ e]; exact h j (by omega))
    refine ⟨y, ?_, q2⟩
    rw [sha_spread_l3, if_pos (decide_eq_true (by omega)), mul4 i (by omega), if_pos (decide_eq_true (by omega)), if_pos (decide_eq_true (by omega)), Int.toNat_natCast (4 * i), List.take_of_length_le (Nat.le_refl _), bind_some (word_eq b i (by omega)), if_pos (decide_eq_true (by omega)), if_pos (decide_eq_true (by omega)), Int.toNat_natCast i, inc i (by omega)]
    exact q1
theorem turn_eq (x : W32) : sha_turn x 2 = some (rotr x 2) ∧ sha_turn x 6 = some (rotr x 6) ∧ sha_turn x 7 = some (rotr x 7) ∧ sha_turn x 11 = some (rotr x 11) ∧ sha_turn x 13 = some (rotr x 13) ∧ sha_turn x 17 = some (rotr x 17) ∧ sha_turn x 18 = some (rotr x 18) ∧ sha_turn x 19 = some (rotr x 19) ∧ sha_turn x 22 = some (rotr x 22) ∧ sha_turn x 25 = some (rotr x 25) :=
  ⟨by kernel_rfl, by kernel_rfl, by kernel_rfl, by kernel_rfl, by kernel_rfl, by kernel_rfl, by kernel_rfl, by kernel_rfl, by kernel_rfl, by kernel_rfl⟩
theorem spread_l8 (x0 : Nat → W32) (b : List B8) : ∀ (m k : Nat) (x : Nat → W32), k + m = 48 → (∀ j, j < 16 + k → x j = wN b k j) → ∃ y, sha_spread_l8 x0 x ((16 + k : Nat) : Int) = some y ∧ ∀ j, j < 64 → y j = wN b 48 j
  | 0, k, x, hk, h => by
    rw [sha_spread_l8, if_neg (by simp only [decide_eq_true_eq]; omega)]
    have : k = 48 := by omega
    subst this
    exact ⟨x, rfl, fun j hj => h j (by omega)⟩
  | m + 1, k, x, hk, h => by
    have e1 := sub_nat (16 + k) 15 (by omega) (by omega)
    have e2 := sub_nat (16 + k) 2 (by omega) (by omega)
    have e3 := sub_nat (16 + k) 16 (by omega) (by omega)
    have e4 := sub_nat (16 + k) 7 (by omega) (by omega)
    have hw : wNext x (16 + k) = wNext (wN b k) (16 + k) := by
      unfold wNext
      rw [h (16 + k - 16) (by omega), h (16 + k - 15) (by omega), h (16 + k - 7) (by omega), h (16 + k - 2) (by omega)]
    obtain ⟨y, q1, q2⟩ := spread_l8 x0 b m (k + 1) (upd x (16 + k) (wNext x (16 + k))) (by omega) (fun j hj => by
      show _ = upd (wN b k) (16 + k) (wNext (wN b k) (16 + k)) j
      by_cases e : j = 16 + k
      · subst e; rw [upd_same, upd_same, hw]
      · rw [upd_ne _ _ e, upd_ne _ _ e]; exact h j (by omega))
    refine ⟨y, ?_, q2⟩
    have t1 := turn_eq (x (16 + k - 15))
    have t2 := turn_eq (x (16 + k - 2))
    have e1 : iSub ((16 + k : Nat) : Int) 15 = ((16 + k - 15 : Nat) : Int) := e1
    have e2 : iSub ((16 + k : Nat) : Int) 2 = ((16 + k - 2 : Nat) : Int) := e2
    have e3 : iSub ((16 + k : Nat) : Int) 16 = ((16 + k - 16 : Nat) : Int) := e3
    have e4 : iSub ((16 + k : Nat) : Int) 7 = ((16 + k - 7 : Nat) : Int) := e4
    rw [sha_spread_l8, if_pos (decide_eq_true (by omega)), e1, if_pos (decide_eq_true (by omega)), if_pos (decide_eq_true (by omega)), e2, if_pos (decide_eq_true (by omega)), if_pos (decide_eq_true (by omega)), e3, if_pos (decide_eq_true (by omega)), if_pos (decide_eq_true (by omega)),
      Int.toNat_natCast (16 + k - 15), Int.toNat_natCast (16 + k - 2), Int.toNat_natCast (16 + k - 16), bind_some t1.2.2.1, bind_some t1.2.2.2.2.2.2.1, e4, if_pos (decide_eq_true (by omega)), if_pos (decide_eq_true (by omega)), Int.toNat_natCast (16 + k - 7), bind_some t2.2.2.2.2.2.1, bind_some t2.2.2.2.2.2.2.2.1, if_pos (decide_eq_true (by omega)), if_pos (decide_eq_true (by omega)), Int.toNat_natCast (16 + k), inc (16 + k) (by omega)]
    exact q1
theorem spread_eq (b : List B8) (hb : 64 ≤ b.length) : ∃ y, sha_spread b = some y ∧ ∀ j, j < 64 → y j = wN b 48 j := by
  obtain ⟨x, q1, q2⟩ := spread_l3 (fun _ => 0#32) b hb 16 0 (fun _ => 0#32) (by omega) (fun j hj => by omega)
  obtain ⟨y, q3, q4⟩ := spread_l8 (fun _ => 0#32) b 48 0 x (by omega) (fun j hj => by
    rw [q2 j (by omega)]
    show _ = if j < 16 then wordB b j else 0#32
    rw [if_pos (by omega)])
  unfold sha_spread
  rw [bind_some (show sha_spread_l3 _ _ b 0 = _ from q1), bind_some (show sha_spread_l8 _ x 16 = _ from q3)]
  exact ⟨_, rfl, fun j hj => by rw [vput_in _ _ hj]; exact q4 j hj⟩

/-! ### the rounds -/
def tmp1 (s : Nat → W32) (k w : W32) : W32 := (((s 7 + ((rotr (s 4) 6 ^^^ rotr (s 4) 11) ^^^ rotr (s 4) 25)) + ((s 4 &&& s 5) ^^^ (~~~(s 4) &&& s 6))) + k) + w
def tmp2 (s : Nat → W32) : W32 := ((rotr (s 0) 2 ^^^ rotr (s 0) 13) ^^^ rotr (s 0) 22) + (((s 0 &&& s 1) ^^^ (s 0 &&& s 2)) ^^^ (s 1 &&& s 2))
def rnd (s : Nat → W32) (k w : W32) : Nat → W32 := fun i => if i = 0 then tmp1 s k w + tmp2 s else if i = 4 then s 3 + tmp1 s k w else if i < 8 then s (i - 1) else s i
def rds (w : Nat → W32) (s : Nat → W32) : Nat → Nat → W32
  | 0 => s
  | k + 1 => rnd (rds w s k) (tab_0 k) (w k)
def comp (h : Nat → W32) (b : List B8) : Nat → W32 := fun i => if i < 8 then h i + rds (wN b 48) (vput (fun _ => 0#32) 0 8 h) 64 i else h i
theorem rnd_eq (x : Nat → W32) (t u : W32) (k w : W32) (ht : t = tmp1 x k w) (hu : u = t + tmp2 x) : upd (upd (vput x 1 7 (fun i => x (addN 0 i))) 4 ((vput x 1 7 (fun i => x (addN 0 i))) 4 + t)) 0 u = rnd x k w := by
  funext i
  subst hu ht
  unfold rnd
  by_cases h0 : i = 0
  · subst h0; rw [upd_same, if_pos rfl]
  · rw [upd_ne _ _ h0, if_neg h0]
    by_cases h4 : i = 4
    · subst h4; rw [upd_same, if_pos rfl]; rfl
    · rw [upd_ne _ _ h4, if_neg h4]
      unfold vput
      by_cases h8 : i < 8
      · rw [if_pos (by omega), if_pos h8]; rfl
      · rw [if_neg (by omega), if_neg h8]
theorem mix_l3 (x0 : List B8) (x1 : Nat → W32) (w : Nat → W32) (hw : ∀ j, j < 64 → x1 j = w j) (s : Nat → W32) (x3 : Nat → W32) (x4 x5 : Nat) (x6 : BitVec 64) : ∀ (m k : Nat), k + m = 64 → sha_State_mix_l3 x0 x1 (rds w s k) x3 x4 x5 x6 tab_0 (k : Int) = some (rds w s 64)
  | 0, k, hk => by
    have : k = 64 := by omega
    subst this
    rw [sha_State_mix_l3, if_neg (by simp)]
  | m + 1, k, hk => by
    have ih := mix_l3 x0 x1 w hw s x3 x4 x5 x6 m (k + 1) (by omega)
    have t1 := turn_eq (rds w s k 4)
    have t2 := turn_eq (rds w s k 0)
    rw [sha_State_mix_l3, if_pos (decide_eq_true (by omega)), if_pos (decide_eq_true (by omega)), if_pos (decide_eq_true (by omega)), bind_some t1.2.1, bind_some t1.2.2.2.1, bind_some t1.2.2.2.2.2.2.2.2.2, bind_some t2.1, bind_some t2.2.2.2.2.1, bind_some t2.2.2.2.2.2.2.2.2.1, Int.toNat_natCast k, inc k (by omega), hw k (by omega)]
    exact (congrArg (fun z => sha_State_mix_l3 x0 x1 z x3 x4 x5 x6 tab_0 ((k + 1 : Nat) : Int)) (rnd_eq (rds w s k) _ _ (tab_0 k) (w k) rfl rfl)).trans ih
theorem mix_l13 (x0 : List B8) (r h : Nat → W32) (x3 x4 : Nat) (x5 : BitVec 64) : ∀ (m k : Nat) (x : Nat → W32), k + m = 8 → (∀ j, x j = if j < k then h j + r j else h j) → ∃ y, sha_State_mix_l13 x0 r x x3 x4 x5 (k : Int) = some y ∧ ∀ j, y j = if j < 8 then h j + r j else h j
  | 0, k, x, hk, hx => by
    have : k = 8 := by omega
    subst this
    rw [sha_State_mix_l13, if_neg (by simp)]
    exact ⟨x, rfl, hx⟩
  | m + 1, k, x, hk, hx => by
    obtain ⟨y, q1, q2⟩ := mix_l13 x0 r h x3 x4 x5 m (k + 1) (upd x k (x k + r k)) (by omega) (fun j => by
      by_cases e : j = k
      · subst e; rw [upd_same, if_pos (by omega), hx, if_neg (by omega)]
      · rw [upd_ne _ _ e, hx]
        by_cases h1 : j < k
        · rw [if_pos h1, if_pos (by omega)]
        · rw [if_neg h1, if_neg (by omega)])
    refine ⟨y, ?_, q2⟩
    rw [sha_State_mix_l13, if_pos (decide_eq_true (by omega)), if_pos (decide_eq_true (by omega)), if_pos (decide_eq_true (by omega)), Int.toNat_natCast k, inc k (by omega)]
    exact q1
theorem rds_congr {w w' s : Nat → W32} (h : ∀ j, j < 64 → w j = w' j) : ∀ k, k ≤ 64 → rds w s k = rds w' s k
  | 0, _ => rfl
  | k + 1, hk => by simp only [rds]; rw [rds_congr h k (by omega), h k (by omega)]
theorem mix_eq (l1 : List B8) (h : Nat → W32) (lo n : Nat) (c : BitVec 64) (b : List B8) (hb : 64 ≤ b.length) : sha_State_mix l1 h lo n c b = some (comp h b) := by
  obtain ⟨y, q1, q2⟩ := spread_eq b hb
  unfold sha_State_mix
  have q3 := mix_l3 l1 (vput (fun _ => 0#32) 0 64 y) (wN b 48) (fun j hj => by rw [vput_in _ _ hj]; exact q2 j hj) (vput (fun _ => 0#32) 0 8 h) h lo n c 64 0 (by omega)
  obtain ⟨z, q4, q5⟩ := mix_l13 l1 (rds (wN b 48) (vput (fun _ => 0#32) 0 8 h) 64) h lo n c 8 0 h (by omega) (fun j => by rw [if_neg (by omega)])
  rw [bind_some q1, bind_some (show sha_State_mix_l3 l1 (vput (fun _ => 0#32) 0 64 y) (vput (fun _ => 0#32) 0 8 h) h lo n c tab_0 0 = _ from q3), bind_some (show sha_State_mix_l13 l1 _ h lo n c 0 = _ from q4)]
  congr 1
  funext j
  exact q5 j

/-! ### blocks, and what a state stands for -/
def blk (h : Nat → W32) (l : List B8) : Nat → Nat → W32
  | 0 => h
  | k + 1 => comp (blk h l k) (List.take 64 (List.drop (64 * k) l))
theorem blk_app (h : Nat → W32) (t b : List B8) : ∀ k, 64 * k ≤ t.length → blk h (t ++ b) k = blk h t k
  | 0, _ => rfl
  | k + 1, hk => by
    simp only [blk]
    rw [blk_app h t b k (by omega), List.drop_append_of_le_length (by omega), List.take_append_of_le_length (by simp; omega)]
theorem blk_add (h : Nat → W32) (l : List B8) (q : Nat) : ∀ k, blk (blk h l q) (List.drop (64 * q) l) k = blk h l (q + k)
  | 0 => rfl
  | k + 1 => by
    simp only [blk]
    rw [blk_add h l q k, List.drop_drop, show 64 * q + 64 * k = 64 * (q + k) by omega]
    rfl
theorem write_l2 (x0 l : List B8) (h : Nat → W32) (x3 x4 : Nat) (x5 : BitVec 64) (hl : l.length ≤ 1000000000) : ∀ (m j : Nat), j + m = l.length / 64 → sha_State_Write_l2 x0 l (blk h l j) x3 x4 x5 (64 * j) (l.length - 64 * j) = some (blk h l (l.length / 64), 64 * (l.length / 64), l.length - 64 * (l.length / 64))
  | 0, j, hj => by
    rw [sha_State_Write_l2, if_neg (by simp only [decide_eq_true_eq]; omega)]
    rw [show j = l.length / 64 by omega]
  | m + 1, j, hj => by
    have ih := write_l2 x0 l h x3 x4 x5 hl m (j + 1) (by omega)
    rw [sha_State_Write_l2, if_pos (decide_eq_true (by omega)), if_pos (decide_eq_true (by omega)), addN_eq, addN_eq, if_pos (decide_eq_true (by omega)), Nat.add_zero, bind_some (mix_eq x0 (blk h l j) x3 x4 x5 _ (by simp; omega)), show 64 * j + 64 = 64 * (j + 1) by omega, show l.length - 64 * j - 64 = l.length - 64 * (j + 1) by omega]
    exact ih
def H0 (i : Nat) : W32 := List.getD [1779033703#32, 3144134277#32, 1013904242#32, 2773480762#32, 1359893119#32, 2600822924#32, 528734635#32, 1541459225#32] i (0#32)
structure Rep (l1 : List B8) (h : Nat → W32) (lo n : Nat) (c : BitVec 64) (t : List B8) : Prop where
  hh : h = blk H0 t (t.length / 64)
  left : List.take n (List.drop lo l1) = List.drop (64 * (t.length / 64)) t
  nn : n = t.length - 64 * (t.length / 64)
  fits : lo + n ≤ l1.length
  cc : c = BitVec.ofNat 64 t.length
theorem rep_write {l1 : List B8} {h : Nat → W32} {lo n : Nat} {c : BitVec 64} {t : List B8} (r : Rep l1 h lo n c t) (b : List B8) (hs : t.length + b.length ≤ 100000000) : ∃ l' h' lo' n' c', sha_State_Write l1 h lo n c b = some (l', h', lo', n', c') ∧ Rep l' h' lo' n' c' (t ++ b) := by
  have hq := r.nn
  have hL : (List.drop (64 * (t.length / 64)) t ++ b) = List.drop (64 * (t.length / 64)) (t ++ b) := (List.drop_append_of_le_length (by omega)).symm
  have hn : (List.drop (64 * (t.length / 64)) (t ++ b)).length = t.length + b.length - 64 * (t.length / 64) := by simp
  have hd : t.length / 64 + (t.length + b.length - 64 * (t.length / 64)) / 64 = (t ++ b).length / 64 := by rw [List.length_append]; omega
  have w := write_l2 l1 (List.drop (64 * (t.length / 64)) (t ++ b)) h lo n (c + BitVec.ofInt 64 (b.length : Int)) (by rw [hn]; omega) ((List.drop (64 * (t.length / 64)) (t ++ b)).length / 64) 0 (by omega)
  rw [Nat.mul_zero, Nat.sub_zero] at w
  have w : sha_State_Write_l2 l1 (List.drop (64 * (t.length / 64)) (t ++ b)) h lo n (c + BitVec.ofInt 64 (b.length : Int)) 0 (List.drop (64 * (t.length / 64)) (t ++ b)).length = _ := w
  refine ⟨(List.drop (64 * (t.length / 64)) (t ++ b)), blk h (List.drop (64 * (t.length / 64)) (t ++ b)) ((List.drop (64 * (t.length / 64)) (t ++ b)).length / 64), 64 * ((List.drop (64 * (t.length / 64)) (t ++ b)).length / 64), (List.drop (64 * (t.length / 64)) (t ++ b)).length - 64 * ((List.drop (64 * (t.length / 64)) (t ++ b)).length / 64), c + BitVec.ofInt 64 (b.length : Int), ?_, ?_⟩
  · unfold sha_State_Write
    rw [if_pos (decide_eq_true r.fits), if_pos (ble_of (by simp; omega)), List.nil_append, r.left, if_pos (ble_of (by simp; omega)), hL, bind_some w]
  · refine ⟨?_, ?_, ?_, ?_, ?_⟩
    · rw [hn, r.hh, ← blk_app H0 t b _ (by omega), blk_add, hd]
    · rw [hn, List.take_of_length_le (by simp; omega), List.drop_drop, show 64 * (t.length / 64) + 64 * ((t.length + b.length - 64 * (t.length / 64)) / 64) = 64 * (t.length / 64 + (t.length + b.length - 64 * (t.length / 64)) / 64) by omega, hd]
    · rw [hn, ← hd, List.length_append]; omega
    · rw [hn]; omega
    · rw [r.cc, List.length_append]
      apply BitVec.eq_of_toNat_eq
      rw [BitVec.toNat_add, BitVec.toNat_ofInt, BitVec.toNat_ofNat, BitVec.toNat_ofNat]
      omega
def pz (n : Nat) : Nat := (64 + 56 - n % 64) % 64
theorem sum_l4 (x0 : List B8) (x1 : Nat → B8) (x3 : Nat → W32) (x4 x5 : Nat) (x6 x11 : BitVec 64) : ∀ (m : Nat) (l1 : List B8) (h : Nat → W32) (lo n : Nat) (c : BitVec 64) (t : List B8), m = pz t.length → t.length + m ≤ 90000000 → Rep l1 h lo n c t → ∃ l' h' lo' n' c', sha_State_Sum_l4 x0 x1 l1 x3 x4 x5 x6 h lo n c x11 = some (l', h', lo', n', c') ∧ Rep l' h' lo' n' c' (t ++ List.replicate m 0#8)
  | 0, l1, h, lo, n, c, t, hm, hs, r => by
    have hn := r.nn
    unfold pz at hm
    rw [sha_State_Sum_l4, if_neg (by simp only [bne_iff_ne, ne_eq, Decidable.not_not]; omega)]
    exact ⟨_, _, _, _, _, rfl, by rw [List.replicate_zero, List.append_nil]; exact r⟩
  | m + 1, l1, h, lo, n, c, t, hm, hs, r => by
    have hn := r.nn
    unfold pz at hm
    obtain ⟨a1, a2, a3, a4, a5, w, r'⟩ := rep_write r [0#8] (by simp; omega)
    have hp : pz (t ++ [0#8]).length = m := by unfold pz; rw [List.length_append, List.length_singleton]; omega
    obtain ⟨b1, b2, b3, b4, b5, w2, r2⟩ := sum_l4 x0 x1 x3 x4 x5 x6 x11 m a1 a2 a3 a4 a5 (t ++ [0#8]) hp.symm (by simp; omega) r'
    refine ⟨b1, b2, b3, b4, b5, ?_, ?_⟩
    · rw [sha_State_Sum_l4, if_pos (by simp only [bne_iff_ne, ne_eq]; omega), bind_some w]
      exact w2
    · rw [List.append_assoc] at r2
      exact r2
def tailB (n : Nat) : List B8 := (List.range 8).map fun i => BitVec.setWidth 8 ((BitVec.ofNat 64 n * 8#64) >>> (56 - 8 * i))
theorem sum_l8 (x0 : List B8) (x1 : Nat → B8) (x2 : List B8) (x4 : Nat → W32) (x5 x6 : Nat) (x7 : BitVec 64) (x8 : Nat → W32) (x9 x10 : Nat) (x11 x12 : BitVec 64) : ∀ (m k : Nat) (x : Nat → B8), k + m = 8 → (∀ j, j < k → x j = BitVec.setWidth 8 (x12 >>> (56 - 8 * j))) → ∃ y, sha_State_Sum_l8 x0 x1 x2 x x4 x5 x6 x7 x8 x9 x10 x11 x12 (k : Int) = some y ∧ ∀ j, j < 8 → y j = BitVec.setWidth 8 (x12 >>> (56 - 8 * j))
  | 0, k, x, hk, hx => by
    rw [sha_State_Sum_l8, if_neg (by simp only [decide_eq_true_eq]; omega)]
    exact ⟨x, rfl, fun j hj => hx j (by omega)⟩
  | m + 1, k, x, hk, hx => by
    have e1 : iSub 56 ((8 * k : Nat) : Int) = ((56 - 8 * k : Nat) : Int) := by rw [iSub_eq (by omega) (by omega)]; omega
    obtain ⟨y, q1, q2⟩ := sum_l8 x0 x1 x2 x4 x5 x6 x7 x8 x9 x10 x11 x12 m (k + 1) (upd x k (BitVec.setWidth 8 (x12 >>> (56 - 8 * k)))) (by omega) (fun j hj => by
      by_cases e : j = k
      · subst e; exact upd_same _ _ _
      · rw [upd_ne _ _ e]; exact hx j (by omega))
    refine ⟨y, ?_, q2⟩
    rw [sha_State_Sum_l8, if_pos (decide_eq_true (by omega)), mul8 k (by omega), e1, if_pos (decide_eq_true (by omega)), if_pos (decide_eq_true (by omega)), if_pos (decide_eq_true (by omega)), Int.toNat_natCast k, Int.toNat_natCast (56 - 8 * k), inc k (by omega)]
    exact q1
def outB (h : Nat → W32) (i : Nat) : B8 := BitVec.setWidth 8 (h (i / 4) >>> (24 - 8 * (i % 4)))
theorem sum_l18 (x0 : List B8) (x1 : Nat → B8) (x3 : Nat → W32) (x4 x5 : Nat) (x6 : BitVec 64) (h : Nat → W32) (q : Nat) (hq : q < 8) (x10 : Int) : ∀ (m k : Nat) (x : Nat → B8), k + m = 4 → (∀ j, j < 4 * q + k → x j = outB h j) → ∃ y, sha_State_Sum_l18 x0 x1 x x3 x4 x5 x6 (q : Int) (h q) h x10 (k : Int) = some y ∧ ∀ j, j < 4 * (q + 1) → y j = outB h j
  | 0, k, x, hk, hx => by
    rw [sha_State_Sum_l18, if_neg (by simp only [decide_eq_true_eq]; omega)]
    exact ⟨x, rfl, fun j hj => hx j (by omega)⟩
  | m + 1, k, x, hk, hx => by
    have e1 : iSub 24 ((8 * k : Nat) : Int) = ((24 - 8 * k : Nat) : Int) := by rw [iSub_eq (by omega) (by omega)]; omega
    have e2 : iAdd ((4 * q : Nat) : Int) (k : Int) = ((4 * q + k : Nat) : Int) := by rw [iAdd_eq (by omega) (by omega)]; omega
    obtain ⟨y, q1, q2⟩ := sum_l18 x0 x1 x3 x4 x5 x6 h q hq x10 m (k + 1) (upd x (4 * q + k) (BitVec.setWidth 8 (h q >>> (24 - 8 * k)))) (by omega) (fun j hj => by
      by_cases e : j = 4 * q + k
      · subst e
        rw [upd_same]
        unfold outB
        rw [show (4 * q + k) / 4 = q by omega, show (4 * q + k) % 4 = k by omega]
      · rw [upd_ne _ _ e]; exact hx j (by omega))
    refine ⟨y, ?_, q2⟩
    rw [sha_State_Sum_l18, if_pos (decide_eq_true (by omega)), mul8 k (by omega), e1, if_pos (decide_eq_true (by omega)), mul4 q (by omega), e2, if_pos (decide_eq_true (by omega)), if_pos (decide_eq_true (by omega)), Int.toNat_natCast (4 * q + k), Int.toNat_natCast (24 - 8 * k), inc k (by omega)]
    exact q1
theorem sum_l15 (x0 : List B8) (x1 : Nat → B8) (x3 : Nat → W32) (x4 x5 : Nat) (x6 : BitVec 64) (h : Nat → W32) : ∀ (m q : Nat) (x : Nat → B8), q + m = 8 → (∀ j, j < 4 * q → x j = outB h j) → ∃ y, sha_State_Sum_l15 x0 x1 x x3 x4 x5 x6 h (q : Int) = some y ∧ ∀ j, j < 32 → y j = outB h j
  | 0, q, x, hq, hx => by
    rw [sha_State_Sum_l15, if_neg (by simp only [decide_eq_true_eq]; omega)]
    exact ⟨x, rfl, fun j hj => hx j (by omega)⟩
  | m + 1, q, x, hq, hx => by
    obtain ⟨y, q1, q2⟩ := sum_l18 x0 x1 x3 x4 x5 x6 h q (by omega) (q : Int) 4 0 x (by omega) hx
    obtain ⟨z, q3, q4⟩ := sum_l15 x0 x1 x3 x4 x5 x6 h m (q + 1) y (by omega) q2
    refine ⟨z, ?_, q4⟩
    rw [sha_State_Sum_l15, if_pos (decide_eq_true (by omega)), if_pos (decide_eq_true (by omega)), if_pos (decide_eq_true (by omega)), Int.toNat_natCast q, bind_some (show sha_State_Sum_l18 x0 x1 x x3 x4 x5 x6 (q : Int) (h q) h (q : Int) 0 = _ from q1), inc q (by omega)]
    exact q3
def padB (t : List B8) : List B8 := ((t ++ [128#8]) ++ List.replicate (pz (t.length + 1)) 0#8) ++ tailB t.length
def shaM (t : List B8) (i : Nat) : B8 := if i < 32 then outB (blk H0 (padB t) ((padB t).length / 64)) i else 0#8
theorem vecL_tail (v : Nat → B8) (n : Nat) (h : ∀ j, j < 8 → v j = BitVec.setWidth 8 ((BitVec.ofNat 64 n * 8#64) >>> (56 - 8 * j))) : vecL v 0 8 = tailB n := by
  unfold tailB
  show [v 0, v 1, v 2, v 3, v 4, v 5, v 6, v 7] = _
  rw [h 0 (by omega), h 1 (by omega), h 2 (by omega), h 3 (by omega), h 4 (by omega), h 5 (by omega), h 6 (by omega), h 7 (by omega)]
  rfl
theorem sum_eq {l1 : List B8} {h : Nat → W32} {lo n : Nat} {c : BitVec 64} {t : List B8} (r : Rep l1 h lo n c t) (hs : t.length ≤ 80000000) : sha_State_Sum l1 h lo n c = some (shaM t) := by
  have hn := r.nn
  have hl : (List.take n (List.drop lo l1)).length = n := by rw [r.left]; simp; omega
  have r0 : Rep (List.take n (List.drop lo l1)) h 0 (List.take n (List.drop lo l1)).length c t := by
    refine ⟨r.hh, ?_, ?_, ?_, r.cc⟩
    · rw [List.drop_zero, List.take_length, r.left]
    · rw [hl]; exact hn
    · omega
  obtain ⟨a1, a2, a3, a4, a5, w, r1⟩ := rep_write r0 [128#8] (by simp; omega)
  have hp : pz (t ++ [128#8]).length ≤ 64 := by unfold pz; omega
  obtain ⟨b1, b2, b3, b4, b5, w2, r2⟩ := sum_l4 l1 (fun _ => 0#8) h lo n c (c * 8#64) _ a1 a2 a3 a4 a5 (t ++ [128#8]) rfl (by simp at hp ⊢; omega) r1
  obtain ⟨y, w3, q3⟩ := sum_l8 l1 (fun _ => 0#8) b1 h lo n c b2 b3 b4 b5 (c * 8#64) 8 0 (fun _ => 0#8) (by omega) (fun j hj => by omega)
  have ht : vecL y 0 8 = tailB t.length := vecL_tail y _ (fun j hj => by rw [q3 j hj, r.cc])
  obtain ⟨d1, d2, d3, d4, d5, w4, r4⟩ := rep_write r2 (vecL y 0 8) (by rw [ht]; simp [tailB] at hp ⊢; omega)
  obtain ⟨z, w5, q5⟩ := sum_l15 l1 (fun _ => 0#8) h lo n c d2 8 0 (fun _ => 0#8) (by omega) (fun j hj => by omega)
  unfold sha_State_Sum
  rw [if_pos (decide_eq_true r.fits), if_pos (ble_of (by simp; omega)), List.nil_append, bind_some w, bind_some w2, bind_some (show sha_State_Sum_l8 l1 _ b1 _ h lo n c b2 b3 b4 b5 (c * 8#64) 0 = _ from w3), bind_some w4, bind_some (show sha_State_Sum_l15 l1 _ (fun _ => 0#8) h lo n c d2 0 = _ from w5)]
  congr 1
  funext i
  unfold shaM
  by_cases hi : i < 32
  · rw [vput_in _ _ hi, if_pos hi, q5 i hi]
    have := r4.hh
    rw [ht, List.length_append, List.length_singleton] at this
    rw [this]
    rfl
  · rw [if_neg hi]; unfold vput; rw [if_neg (by omega)]
theorem of_eq (b : List B8) (hs : b.length ≤ 80000000) : sha_Of [b] = some (shaM b) := by
  have r0 : Rep [] H0 0 0 0#64 [] := ⟨rfl, rfl, rfl, Nat.le_refl _, rfl⟩
  obtain ⟨a1, a2, a3, a4, a5, w, r1⟩ := rep_write r0 b (by simp; omega)
  rw [List.nil_append] at r1
  have hN : sha_New = some ([], H0, 0#64) := rfl
  have hl : sha_Of_l3 (fun _ => 0#8) [] H0 0 0 0#64 [b] 1 0 = some (a1, a2, a3, a4, a5) := by
    rw [sha_Of_l3, if_pos (decide_eq_true (by decide)), if_pos (decide_eq_true (by decide)), if_pos (decide_eq_true (by simp))]
    show (sha_State_Write [] H0 0 0 0#64 b >>= _) = _
    rw [bind_some w, show iAdd 0 1 = 1 by kernel_rfl, sha_Of_l3, if_neg (by decide)]
  unfold sha_Of
  rw [bind_some hN]
  show (sha_Of_l3 (fun _ => 0#8) [] H0 0 0 0#64 [b] 1 0 >>= _) = _
  rw [bind_some hl, bind_some (sum_eq r1 hs)]
  congr 1
  funext i
  unfold vput shaM
  by_cases hi : i < 32
  · rw [if_pos (by omega), if_pos hi, Nat.sub_zero, if_pos hi]
  · rw [if_neg (by omega), if_neg hi]
theorem digest_good {p : api_Program} (hg : Good p) (hk : prog_Check p = some (0, 0, 0)) : pcode_Digest p = some (shaM (progB p), 0) := by
  have hl := progB_len hg
  unfold pcode_Digest
  rw [bind_some (write_good hg hk)]
  simp only []
  rw [if_neg (by decide), bind_some (of_eq (progB p) (by omega))]
  congr 2
  funext i
  unfold vput shaM
  by_cases hi : i < 32
  · rw [if_pos (by omega), if_pos hi, Nat.sub_zero, if_pos hi]
  · rw [if_neg (by omega), if_neg hi]
theorem digest_bad {p : api_Program} {a b e : Int} (hk : prog_Check p = some (a, b, e)) (he : e ≠ 0) : ∃ f, pcode_Digest p = some (f, e) := by
  unfold pcode_Digest
  rw [bind_some (write_bad hk he)]
  simp only []
  rw [if_pos (by simpa using he)]
  exact ⟨_, rfl⟩
end Go.Bm.GoYtipjbmnfnmlkfaaDoor
