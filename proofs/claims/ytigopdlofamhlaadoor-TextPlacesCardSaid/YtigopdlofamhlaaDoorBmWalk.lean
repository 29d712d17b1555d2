/- The abstract machine: walks, step by step behind their answers; short words. -/
import Derived.Test.YtigopdlofamhlaaDoorBmVec
namespace Go.Bm
set_option autoImplicit false
set_option linter.unusedVariables false
set_option linter.unusedSimpArgs false

/-- What a function does, of which the Lean function answers X. -/
def Ok (P : Program) (f : FuncId) (args : List AV) (H : List Blk) {A : Type} (X : Option A) (R : A → AV × List Blk) : Prop := ∀ r, X = some r → Does P f args H (R r)
/-- What a loop does. -/
def Ol (P : Program) (c : Code) (m : Nat) (x : St) {A : Type} (X : Option A) (e : A → Ex) (st : A → St) : Prop := ∀ r, X = some r → Loops P c m x (e r) (st r)
/-- What is left of a walk: behind some answers (s), and what was asked (l), the answers of X lead where F says. -/
def Wz (P : Program) {A T : Type} (run : Ans T) (F : A → T → Prop) (s : List Say) (l : List Ob) (X : Option A) : Prop := ∀ r, X = some r → ∃ s' l' t, Oks P l' ∧ run (s ++ s') = some (l ++ l', t) ∧ F r t
def Fd {A : Type} (R : A → AV × List Blk) : A → AV × List Blk → Prop := fun r t => t = R r
def Fl (P : Program) (c : Code) (m : Nat) {A : Type} (e : A → Ex) (st : A → St) : A → Ex × St → Prop := fun r t => (t.1 = .normal ∧ Loops P c m t.2 (e r) (st r)) ∨ (Ex.out t.1 = true ∧ t = (e r, st r))
section
variable {P : Program} {A T : Type} {run : Ans T} {F : A → T → Prop} {s : List Say} {l : List Ob} {X : Option A}
theorem wz_more {a : List Say} {b : List Ob} (hb : ∀ l', Oks P l' → Oks P (b ++ l')) (t : Wz P run F (s ++ a) (l ++ b) X) : Wz P run F s l X := fun r h => by
  obtain ⟨s', l', t, h1, h2, h3⟩ := t r h
  exact ⟨a ++ s', b ++ l', t, hb l' h1, by rw [← List.append_assoc, ← List.append_assoc]; exact h2, h3⟩
theorem wz_say {a : List Say} (t : Wz P run F (s ++ a) l X) : Wz P run F s l X := fun r h => by
  obtain ⟨s', l', t, h1, h2, h3⟩ := t r h
  exact ⟨a ++ s', l', t, h1, by rw [← List.append_assoc]; exact h2, h3⟩
theorem wz_ob {b : List Ob} (hb : ∀ l', Oks P l' → Oks P (b ++ l')) (t : Wz P run F s (l ++ b) X) : Wz P run F s l X := fun r h => by
  obtain ⟨s', l', t, h1, h2, h3⟩ := t r h
  exact ⟨s', b ++ l', t, hb l' h1, by rw [← List.append_assoc]; exact h2, h3⟩
theorem one_ok {o : Ob} (h : o.ok P) : ∀ l', Oks P l' → Oks P ([o] ++ l') := fun _ t => ⟨h, t⟩
theorem wk (n : Nat) (t : Wz P run F (s ++ List.replicate n .keep) l X) : Wz P run F s l X := wz_say t
theorem wx (t : Wz P run F (s ++ [.b false]) l X) : Wz P run F s l X := wz_say t
theorem wt (t : Wz P run F s (l ++ [.t true true]) X) : Wz P run F s l X := wz_ob (one_ok (o := .t true true) rfl) t
theorem wbt (t : Wz P run F (s ++ [.b true]) (l ++ [.t true true]) X) : Wz P run F s l X := wz_more (one_ok (o := .t true true) rfl) t
theorem wv {u v : Bool} (h : u = v) (t : Wz P run F s (l ++ [.t u v]) X) : Wz P run F s l X := wz_ob (one_ok (o := .t u v) h) t
theorem ws {u v : Bool} (h : u = v) (t : Wz P run F (s ++ [.b v]) (l ++ [.t u v]) X) : Wz P run F s l X := wz_more (one_ok (o := .t u v) h) t
theorem ww (n : Nat) (t : Wz P run F (s ++ [.b true]) (l ++ [.t (decide (n = n) && decide (0 = 0)) true]) X) : Wz P run F s l X := wz_more (one_ok (o := .t _ true) (whole_ok n)) t
theorem wy {k : Nat} (x : BitVec k) (t : Wz P run F s (l ++ [.t (decide ((0 : Int) ≤ ((BitVec.toNat x : Nat) : Int))) true]) X) : Wz P run F s l X := wz_ob (one_ok (o := .t _ true) (decide_eq_true (Int.natCast_nonneg _))) t
theorem we {u v : Eff} (h : u = v) (t : Wz P run F (s ++ [.e v]) (l ++ [.e u v]) X) : Wz P run F s l X := wz_more (one_ok (o := .e u v) h) t
theorem sameL_ok : ∀ (q : List (Nat × Blk)) (l' : List Ob), Oks P l' → Oks P (sameL q ++ l')
  | [], _, h => h
  | _ :: q, l', h => ⟨rfl, sameL_ok q l' h⟩
theorem wu (q : List (Nat × Blk)) (t : Wz P run F (s ++ [.u (q.map Prod.fst)]) (l ++ sameL q) X) : Wz P run F s l X := wz_more (sameL_ok q) t
theorem wc {B : Type} {g : FuncId} {a : List AV} {H : List Blk} {Y : Option B} {R : B → AV × List Blk} {k : B → Option A} (h : Ok P g a H Y R) (t : ∀ v, Wz P run F (s ++ [.c (R v).1 (R v).2]) (l ++ [.c g a H (R v).1 (R v).2]) (k v)) : Wz P run F s l (bind Y k) := fun r hr => by
  obtain ⟨v, h1, h2⟩ := bind_of hr
  exact wz_more (one_ok (show Ob.ok P (.c g a H (R v).1 (R v).2) from h v h1)) (t v) r h2
theorem wl {B : Type} {c : Code} {m : Nat} {x : St} {Y : Option B} {e : B → Ex} {st : B → St} {k : B → Option A} (h : Ol P c m x Y e st) (t : ∀ v, Wz P run F (s ++ [.l (e v) (st v)]) (l ++ [.l c m x (e v) (st v)]) (k v)) : Wz P run F s l (bind Y k) := fun r hr => by
  obtain ⟨v, h1, h2⟩ := bind_of hr
  exact wz_more (one_ok (show Ob.ok P (.l c m x (e v) (st v)) from h v h1)) (t v) r h2
theorem wi {c : Bool} {a b : Option A} (f : c = true → Wz P run F (s ++ [.b true]) (l ++ [.t c true]) a) (g : c = false → Wz P run F (s ++ [.b false]) (l ++ [.t c false]) b) : Wz P run F s l (if c = true then a else b) := by
  cases c with
  | true => exact wz_more (one_ok (o := .t true true) rfl) (f rfl)
  | false => exact wz_more (one_ok (o := .t false false) rfl) (g rfl)
theorem wj {c : Bool} {a b : Option A} (f : c = true → Wz P run F (s ++ [.b true]) (l ++ [.t c true]) a) (g : c = false → Wz P run F (s ++ [.b false]) l b) : Wz P run F s l (if c = true then a else b) := by
  cases c with
  | true => exact wz_more (one_ok (o := .t true true) rfl) (f rfl)
  | false => exact wz_say (g rfl)
theorem wn {c : Bool} {a : Option A} (f : c = true → Wz P run F s (l ++ [.t c true]) a) : Wz P run F s l (if c = true then a else none) := by
  cases c with
  | true => exact wz_ob (one_ok (o := .t true true) rfl) (f rfl)
  | false => exact fun r h => by cases h
theorem wq {p : Prop} [Decidable p] {a : Option A} (f : p → Wz P run F s l a) : Wz P run F s l (if decide p = true then a else none) := by
  by_cases h : p
  · rw [if_pos (decide_eq_true h)]; exact f h
  · rw [if_neg (by simpa using h)]; exact fun r h => by cases h
theorem wo : Wz P run F s l none := fun r h => by cases h
/-- Where nothing comes back. -/
theorem woi {c : Bool} {a b : Option A} (f : Wz P run F s l a) (g : Wz P run F s l b) : Wz P run F s l (if c = true then a else b) := by
  cases c with
  | true => exact f
  | false => exact g
theorem woc {B : Type} {Y : Option B} {k : B → Option A} (t : ∀ v, Wz P run F s l (k v)) : Wz P run F s l (bind Y k) := fun r hr => by
  obtain ⟨v, h1, h2⟩ := bind_of hr
  exact t v r h2
end
section
variable {P : Program} {A : Type} {s : List Say} {l : List Ob}
theorem wr {run : Ans (AV × List Blk)} {R : A → AV × List Blk} {x : A} (e : run s = some (l, R x)) : Wz P run (Fd R) s l (some x) := fun r h => by
  cases h; exact ⟨[], [], _, trivial, by rw [List.append_nil, List.append_nil]; exact e, rfl⟩
theorem wrc {run : Ans (AV × List Blk)} {R : A → AV × List Blk} {x : A} {t : AV × List Blk} (e : run s = some (l, t)) (q : t = R x) : Wz P run (Fd R) s l (some x) := wr (q ▸ e)
variable {c : Code} {m : Nat} {ex : A → Ex} {st : A → St} {run : Ans (Ex × St)}
theorem wf {x : A} (e : run s = some (l, (ex x, st x))) (o : Ex.out (ex x) = true) : Wz P run (Fl P c m ex st) s l (some x) := fun r h => by
  cases h; exact ⟨[], [], _, trivial, by rw [List.append_nil, List.append_nil]; exact e, .inr ⟨o, rfl⟩⟩
theorem wfc {x : A} {t : St} (e : run s = some (l, (ex x, t))) (o : Ex.out (ex x) = true) (q : t = st x) : Wz P run (Fl P c m ex st) s l (some x) := wf (q ▸ e) o
theorem wm {X : Option A} {x2 : St} (e : run s = some (l, (.normal, x2))) (h : Ol P c m x2 X ex st) : Wz P run (Fl P c m ex st) s l X := fun r hr => ⟨[], [], _, trivial, by rw [List.append_nil, List.append_nil]; exact e, .inl ⟨rfl, h r hr⟩⟩
theorem wmv {B : Type} {Y : Option B} {ex2 : B → Ex} {st2 : B → St} {k : B → Option A} {x2 : St} (e : run s = some (l, (.normal, x2))) (h : Ol P c m x2 Y ex2 st2) (t : ∀ v r, k v = some r → ex2 v = ex r ∧ st2 v = st r) : Wz P run (Fl P c m ex st) s l (bind Y k) := wm e fun r hr => by
  obtain ⟨v, h1, h2⟩ := bind_of hr
  obtain ⟨e1, e2⟩ := t v r h2
  have := h v h1
  rw [e1, e2] at this
  exact this
theorem wz_does (hm : P.follows .mixedOrders = true) {L : Lives} {f : FuncId} {args : List AV} {H : List Blk} {X : Option A} {R : A → AV × List Blk} (t : Wz P (funE P L f args H) (Fd R) [] [] X) : Ok P f args H X R := fun r h => by
  obtain ⟨s', l', t, h1, h2, h3⟩ := t r h
  cases h3; exact does hm h2 h1
theorem wz_loop (hm : P.follows .mixedOrders = true) {L : Lives} (f : FuncId) {x : St} {X : Option A} (t : Wz P (roundM P L f c m x) (Fl P c m ex st) [] [] X) : Ol P c m x X ex st := fun r h => by
  obtain ⟨s', l', ⟨e, x2⟩, h1, h2, h3⟩ := t r h
  rcases h3 with ⟨rfl, h3⟩ | ⟨ho, h3⟩
  · exact pmore hm L f h2 h1 h3
  · cases h3; exact plast hm L f h2 h1 ho
theorem Ok.of {f : FuncId} {args args' : List AV} {H H' : List Blk} {X : Option A} {R : A → AV × List Blk} (h : Ok P f args H X R) (e : (args', H') = (args, H)) : Ok P f args' H' X R := by cases e; exact h
theorem Ol.of {x s1 : St} {X : Option A} (h : Ol P c m x X ex st) (q : s1 = x) : Ol P c m s1 X ex st := q ▸ h
end

/-! ### arrays -/
abbrev mi (x : Int) : PV := .int .i64 x
abbrev mu (x : BitVec 32) : PV := .int .u32 ((BitVec.toNat x : Nat) : Int)
abbrev my (x : BitVec 8) : PV := .int .u8 ((BitVec.toNat x : Nat) : Int)
abbrev mb (x : Bool) : PV := .bool x
/-- Whether arrays are alike, element by element. -/
def vecEq {α : Type} (eq : α → α → Bool) (f g : Nat → α) : List Nat → Bool
  | [] => true
  | i :: is => eq (f i) (g i) && vecEq eq f g is
/-- A part of an array put anew. -/
def vput {α : Type} (f : Nat → α) (lo n : Nat) (h : Nat → α) : Nat → α := fun i => if lo ≤ i ∧ i < lo + n then h (i - lo) else f i
section
variable {α : Type} (mk : α → PV) (E : α → List AV)
theorem vecC_app (f : Nat → α) : ∀ n k, vecC mk f k (n + 1) = vecC mk f k n ++ [.pv (mk (f (k + n)))]
  | 0, k => rfl
  | n + 1, k => by
    show AV.pv (mk (f k)) :: vecC mk f (k + 1) (n + 1) = AV.pv (mk (f k)) :: (vecC mk f (k + 1) n ++ _)
    rw [vecC_app f n (k + 1), show k + 1 + n = k + (n + 1) by omega]
theorem span_vec (f : Nat → α) (hE : ∀ x, E x = [.pv (mk x)]) : ∀ n, spanL (fun i => E (f i)) 0 n = vecC mk f 0 n
  | 0 => rfl
  | n + 1 => by
    rw [vecC_app, ← span_vec f hE n]
    show spanL (fun i => E (f i)) 0 n ++ [((E (f (0 + n))).getD 0 dead).scal] = _
    rw [hE]; rfl
theorem eff_span (f : Nat → α) (n : Nat) (hE : ∀ x, E x = [.pv (mk x)]) : ({ val := .agg (spanL (fun i => E (f i)) 0 n) } : Eff) = { val := .agg (vecC mk f 0 n) } := by rw [span_vec mk E f hE]
theorem cpy_vec (f g : Nat → α) (lo n : Nat) (h : Nat → List AV) (hg : ∀ i, i < n → h i = E (g i)) : cpy (fun i => E (f i)) lo n h = fun i => E (vput f lo n g i) := by
  funext i
  unfold cpy vput
  by_cases hi : lo ≤ i ∧ i < lo + n
  · rw [if_pos hi, if_pos hi, hg _ (by omega)]
  · rw [if_neg hi, if_neg hi]
theorem eff_put (b s : Nat) (f h : Nat → α) (n : Nat) (hE : ∀ x, E x = [.pv (mk x)]) (hm : ∀ x, (AV.pv (mk x)).num = .pv (mk x)) : ({ val := dead, hb := [(b, .arr s 1 n (spanF (vecC mk h 0 n) (fun i => E (f i)) 0 n))] } : Eff) = { val := dead, hb := [(b, .arr s 1 n fun i => E (vput f 0 n h i))] } := by
  unfold spanF
  rw [cpy_vec E f h 0 n _ fun i hi => by rw [vecC_get mk h n 0 i hi, Nat.zero_add, hm, hE]]
theorem eff_cpy (b s N : Nat) (f g : Nat → α) (lo n lo2 : Nat) (hE : ∀ x, E x = [.pv (mk x)]) (hm : ∀ x, (AV.pv (mk x)).num = .pv (mk x)) : ({ val := .pv (.int .i64 n), hb := [(b, .arr s 1 N (cpy (fun i => E (f i)) lo n fun i => List.map AV.num (E (g (addN lo2 i)))))] } : Eff) = { val := .pv (.int .i64 n), hb := [(b, .arr s 1 N fun i => E (vput f lo n (fun i => g (addN lo2 i)) i))] } := by
  rw [cpy_vec E f (fun i => g (addN lo2 i)) lo n _ fun i hi => by rw [hE]; simp only [List.map_cons, List.map_nil, hm]]
end

/-! ### short words -/
abbrev vi (x : Int) : AV := .pv (.int .i64 x)
abbrev vu (x : BitVec 32) : AV := .pv (.int .u32 ((BitVec.toNat x : Nat) : Int))
abbrev vy (x : BitVec 8) : AV := .pv (.int .u8 ((BitVec.toNat x : Nat) : Int))
abbrev vb (x : Bool) : AV := .pv (.bool x)
abbrev vq {α : Type} (e : α → List PV) (d : α) (l : List α) : AV := .pv (.seq (List.length l) (encP e d l))
abbrev vo {α : Type} (sz : Nat) (o : α → List AV) (d : α) (l : List α) : AV := .own sz (List.length l) (encW o d l)
abbrev vp (b : Nat) : AV := .ptr b [] 0 0
abbrev vm (b n : Nat) : AV := .ms b [] 0 n
abbrev ml {α : Type} (b : Nat) (l : List α) : AV := .ms b [] 0 (List.length l)
abbrev ar {α : Type} (t sz : Nat) (E : α → List AV) (d : α) (l : List α) : Blk := .arr t sz (List.length l) (encW E d l)
abbrev aw {α : Type} (t sz n : Nat) (E : α → List AV) (d : α) (l : List α) : Blk := .arr t sz n (encW E d l)
def dr (n : Nat) (l : List AV) : List AV := List.replicate n dead ++ l
section
variable {α : Type}
/-- An append of one behind the other, whole ones, without slices in them. -/
theorem ea (E : α → List AV) (d : α) (l ys : List α) (b sz : Nat) (hg : ∀ i, List.map AV.scal (encW E d ys i) = E (ys.getD i d)) : ({ val := .ms b [] 0 (List.length l + List.length ys), hb := [] ++ ((b, .arr 0 sz (List.length l + List.length ys) (app (List.length l) (encW E d l) (List.length ys) (fun i => List.map AV.scal (encW E d ys i)) (encW E d l (List.length l)))) :: []), sc := [(b, false)] } : Eff) = { val := .ms b [] 0 (List.length (l ++ ys)), hb := [] ++ ((b, .arr 0 sz (List.length (l ++ ys)) (encW E d (l ++ ys))) :: []), sc := [(b, false)] } :=
  eff_app E d l ys (l ++ ys) b sz _ _ _ _ [] [] _ (Nat.le_refl _) rfl hg (congrArg E (getD_ge d (Nat.le_refl _))) (by rw [List.take_of_length_le (Nat.le_refl _)])
theorem et (E : α → List AV) (d : α) (b s sz : Nat) (l : List α) (n i o : Nat) (vs : List AV) (x : α) (hx : splice (E (l.getD i d)) o vs = E x) (h : i < l.length) : ({ val := dead, hb := [(b, Blk.put (.arr s sz n (encW E d l)) [] i (fun cs => splice cs o vs))] } : Eff) = { val := dead, hb := [(b, .arr s sz n (encW E d (l.set i x)))] } := eff_hb (put_top E d s sz n l i o vs x hx h)
theorem part_rows (E : α → List AV) (d : α) (l : List α) (lo m N : Nat) (hg : ∀ x, List.map AV.scal (E x) = E x) (h1 : lo + m ≤ l.length) (h2 : l.length ≤ N) (i : Nat) : List.map AV.scal (cutF lo m N (encW E d l) i) = E ((List.take m (List.drop lo l)).getD i d) := by
  unfold cutF encW
  by_cases h : i < m
  · rw [if_pos h, hg]
    simp [List.getD, List.getElem?_take, h]
  · rw [if_neg h, hg, getD_ge d h2, getD_ge d (by simp; omega)]
/-- A part of an array, appended. -/
theorem ep (E : α → List AV) (d : α) (l l2 : List α) (b sz n lo m N : Nat) (hg : ∀ x, List.map AV.scal (E x) = E x) (h1 : lo + m ≤ l2.length) (h2 : l2.length ≤ N) (hn : n = l.length) : ({ val := .ms b [] 0 (n + m), hb := [] ++ ((b, .arr 0 sz (n + m) (app n (encW E d l) m (fun i => List.map AV.scal (cutF lo m N (encW E d l2) i)) (encW E d l n))) :: []), sc := [(b, false)] } : Eff) = { val := .ms b [] 0 (List.length (l ++ List.take m (List.drop lo l2))), hb := [] ++ ((b, .arr 0 sz (List.length (l ++ List.take m (List.drop lo l2))) (encW E d (l ++ List.take m (List.drop lo l2)))) :: []), sc := [(b, false)] } := by
  subst hn
  exact eff_app E d l (List.take m (List.drop lo l2)) _ b sz _ m _ _ [] [] _ (Nat.le_refl _) (by simp; omega) (part_rows E d l2 lo m N hg h1 h2) (congrArg E (getD_ge d (Nat.le_refl _))) (by rw [List.take_of_length_le (Nat.le_refl _)])
theorem ep0 (E : α → List AV) (d : α) (l2 : List α) (b sz lo m N : Nat) (Z : List AV) (hg : ∀ x, List.map AV.scal (E x) = E x) (hz : Z = E d) (h1 : lo + m ≤ l2.length) (h2 : l2.length ≤ N) : ({ val := .ms b [] 0 (0 + m), hb := [(b, .arr 0 sz 0 fun _ => Z)] ++ ((b, .arr 0 sz (0 + m) (app 0 (fun _ => Z) m (fun i => List.map AV.scal (cutF lo m N (encW E d l2) i)) Z)) :: []), sc := [(b, false)] } : Eff) = { val := .ms b [] 0 (List.length (List.take m (List.drop lo l2))), hb := [(b, .arr 0 sz 0 fun _ => Z)] ++ ((b, .arr 0 sz (List.length (List.take m (List.drop lo l2))) (encW E d (List.take m (List.drop lo l2)))) :: []), sc := [(b, false)] } := by
  subst hz
  have e : (fun _ => E d) = encW E d [] := by funext i; simp [encW]
  have := eff_app E d [] (List.take m (List.drop lo l2)) _ b sz 0 m _ (E d) [(b, .arr 0 sz 0 fun _ => E d)] [] [(b, false)] (Nat.le_refl _) (by simp; omega) (part_rows E d l2 lo m N hg h1 h2) rfl rfl
  rw [← e] at this
  exact this
theorem part_len (E : α → List AV) (d : α) (l : List α) (lo n N z : Nat) (hz : ∀ x, (List.map AV.scal (E x)).length = z) : Nat.beq (List.length (List.map AV.scal (cutF lo n N (encW E d l) 0))) z = true := by
  have : (List.map AV.scal (cutF lo n N (encW E d l) 0)).length = z := by
    unfold cutF encW
    split <;> exact hz _
  rw [this, Nat.beq_refl]
/-- A part of an array of so many, as a list. -/
def vecL (f : Nat → α) (lo n : Nat) : List α := (List.range n).map fun i => f (lo + i)
theorem Ok.far {P : Program} {g : FuncId} {H : List Blk} {A : Type} {X : Option A} {R : A → AV × List Blk} (e : α → List PV) (d : α) (f : Nat → α) (lo n : Nat) {F : Nat → List PV} (pre post : List AV) (hF : ∀ i, i < n → F i = e (f (lo + i))) (h : Ok P g (pre ++ vq e d (vecL f lo n) :: post) H X R) : Ok P g (pre ++ .pv (.seq n F) :: post) H X R := fun r hr Y Args hl hA hH hFr hG => by
  refine h r hr Y Args (by simpa using hl) (fun j v V hv hV => ?_) hH hFr hG
  have hlen : (vecL f lo n).length = n := by simp [vecL]
  rcases Nat.lt_trichotomy j pre.length with h1 | h1 | h1
  · rw [List.getElem?_append_left h1] at hv
    exact hA j v V (by rw [List.getElem?_append_left h1]; exact hv) hV
  · subst h1
    rw [List.getElem?_append_right (Nat.le_refl _), Nat.sub_self] at hv
    cases hv
    have h2 := hA pre.length (.pv (.seq n F)) V (by rw [List.getElem?_append_right (Nat.le_refl _), Nat.sub_self]; rfl) hV
    cases h2 with | pv _ _ _ h2 => ?_
    cases h2 with | seq _ _ A cap sz C hn hs hAd hp => ?_
    have hE : ∀ i, i < n → encP e d (vecL f lo n) i = F i := fun i hi => by
      rw [hF i hi]; unfold encP; rw [getD_lt d (by rw [hlen]; exact hi)]; simp [vecL]
    rw [vq, hlen]
    exact .pv _ _ _ (.seq n _ A cap sz C hn (fun i hi => by rw [hE i hi]; exact hs i hi) hAd fun i j p hi hj => hp i j p hi (by rw [← hE i hi]; exact hj))
  · have h3 : ∃ k, j - pre.length = k + 1 := ⟨j - pre.length - 1, by omega⟩
    obtain ⟨k, hk⟩ := h3
    rw [List.getElem?_append_right (by omega), hk, List.getElem?_cons_succ] at hv
    exact hA j v V (by rw [List.getElem?_append_right (by omega), hk, List.getElem?_cons_succ]; exact hv) hV
end
end Go.Bm
