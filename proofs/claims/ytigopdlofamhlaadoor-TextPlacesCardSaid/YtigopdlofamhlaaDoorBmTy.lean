/- The abstract machine: from a row's reading of the arguments to the machine's values, and back to the row. -/
import Derived.Test.YtigopdlofamhlaaDoorBmCode
import Derived.ChangeShapes
import Derived.RowKit
import Derived.Carry
import Derived.OpenShut
import Derived.SizedLaws
namespace Go.Bm
open Go.ChangeShapes Go.WideShapes Go.RowKit
set_option autoImplicit false
set_option linter.unusedVariables false
set_option linter.unusedSimpArgs false

/-- Every cell that is there stays. -/
def allR (W : World) (g off : Nat) : Prop := g < W.heap.size

/-- A Go type, and the Lean type that stands for it: how its values lie, and that every reading has one. -/
structure Ty (P : Program) (t : TypeId) (α : Type) where
  enc : α → List PV
  encO : α → List AV
  dflt : α
  wf : α → Prop
  opens : ∀ {H : Type} {en : TypeId × Value → H} {W : World} {fuel : Nat} {cs : List Value} {d : DataW H} {ps : List MemPlace}, DataW.trod en P W 0 (fun _ => true) true fuel t cs = some (d, ps) → (d.weights P t).all (· ≤ reachBytes) = true →
    ∃ x, wf x ∧ cs.length = (enc x).length ∧ ∀ (j : Nat) (p : PV) (V : Value), (enc x)[j]? = some p → cs[j]? = some V → VP (allR W) W p V
  len : ∀ x, (enc x).length = P.cellsOf t
  snap : ∀ x, snapL (encO x) = enc x

section
variable {P : Program}

theorem one_cell {R : Nat → Nat → Prop} {W : World} {p : PV} {V : Value} (h : VP R W p V) : ∀ (j : Nat) (q : PV) (U : Value), [p][j]? = some q → [V][j]? = some U → VP R W q U := by
  intro j q U hq hU
  cases j with
  | zero => cases hq; cases hU; exact h
  | succ j => simp at hq

def Ty.int (t : TypeId) (k : IntKind) (hu : P.underlying t = some (.int k)) (hc : P.cellsOf t = 1) : Ty P t Int where
  enc n := [.int k n]
  encO n := [.pv (.int k n)]
  dflt := 0
  snap _ := rfl
  wf n := (Lit.int k n).wf = true
  opens h _ := by
    obtain ⟨n, rfl, hx, hw⟩ := DataW.trod_int hu h
    exact ⟨n, hw, rfl, one_cell (.int k n)⟩
  len _ := hc.symm
/-- Numbers without a sign. -/
def Ty.un (t : TypeId) (k : IntKind) (hk : k.signed = false) (hu : P.underlying t = some (.int k)) (hc : P.cellsOf t = 1) : Ty P t (BitVec k.bits) where
  enc n := [.int k n.toNat]
  encO n := [.pv (.int k n.toNat)]
  dflt := 0
  wf n := True
  snap _ := rfl
  opens h _ := by
    obtain ⟨n, rfl, hx, hw⟩ := DataW.trod_int hu h
    refine ⟨BitVec.ofInt k.bits n, trivial, rfl, ?_⟩
    have e : ((BitVec.ofInt k.bits n).toNat : Int) = n := by
      simp only [Lit.wf, Bool.and_eq_true, decide_eq_true_eq, IntKind.min, IntKind.max, hk] at hw
      have h1 : (0 : Int) ≤ n := hw.1
      have h2 : n ≤ 2 ^ k.bits - 1 := hw.2
      rw [BitVec.toNat_ofInt]
      have h3 : n % (2 ^ k.bits : Nat) = n := Int.emod_eq_of_lt h1 (by push_cast; omega)
      rw [h3]
      omega
    rw [e]
    exact one_cell (.int k n)
  len _ := hc.symm
def Ty.bool (t : TypeId) (hu : P.underlying t = some .bool) (hc : P.cellsOf t = 1) : Ty P t Bool where
  enc b := [.bool b]
  encO b := [.pv (.bool b)]
  dflt := false
  snap _ := rfl
  wf _ := True
  opens h _ := by
    obtain ⟨b, rfl, hx⟩ := DataW.trod_bool hu h
    exact ⟨b, trivial, rfl, one_cell (.bool b)⟩
  len _ := hc.symm
def Ty.str (t : TypeId) (hu : P.underlying t = some .string) (hc : P.cellsOf t = 1) : Ty P t ByteArray where
  enc s := [.str s]
  encO s := [.pv (.str s)]
  dflt := .empty
  snap _ := rfl
  wf s := s.size ≤ reachBytes
  opens h hz := by
    obtain ⟨s, rfl, hx, hs⟩ := DataW.trod_string hu h
    cases hx
    refine ⟨s, ?_, rfl, one_cell (.str s)⟩
    have := List.all_eq_true.1 hz s.data.toList.length (by simp [DataW.weights])
    simpa using this
  len _ := hc.symm

theorem weightsAll_mem {H : Type} {e : TypeId} : ∀ {ds : List (DataW H)} {d : DataW H}, d ∈ ds → ∀ n ∈ d.weights P e, n ∈ DataW.weightsAll P e ds
  | d0 :: ds, d, hd, n, hn => by
    simp only [DataW.weightsAll, List.mem_append]
    rcases List.mem_cons.1 hd with rfl | hd
    · exact .inl hn
    · exact .inr (weightsAll_mem hd n hn)

theorem cells_get {w : World} {base : Nat} {a : Addr} {n : Nat} {cs : List Value} (h : w.cells? base a n = some cs) : cs.length = n ∧ ∀ j, j < n → w.cell? (a.add j) = cs[j]? := by
  obtain ⟨h1, h2, h3⟩ := World.cells?_some h
  exact ⟨h2, h3⟩

theorem spot_none {w : World} {a : Addr} {V : Value} (h : w.cell? a = some V) : a.spot = none ∧ a.block < w.heap.size := by
  unfold World.cell? at h
  split at h
  · rename_i hb
    cases hs : a.spot with
    | none => exact ⟨rfl, (Array.getElem?_eq_some_iff.1 hb).1⟩
    | some x => rw [hs] at h; simp at h
  · cases h

/-- A slice's elements, one by one. -/
theorem each_elem {t e : TypeId} {α : Type} (T : Ty P e α) {H : Type} {en : TypeId × Value → H} {W : World} {n : Nat} {a : Addr} : ∀ (elems : List (DataW H × List MemPlace)) (k : Nat),
    (∀ i, i < elems.length → (W.cells? 0 (a.add ((k + i) * P.cellsOf e)) (P.cellsOf e)).bind (DataW.trod en P W 0 (fun _ => true) true n e) = elems[i]?) →
    (∀ y ∈ elems, (y.1.weights P e).all (· ≤ reachBytes) = true) →
    ∃ xs : List α, xs.length = elems.length ∧ (∀ x ∈ xs, T.wf x) ∧ ∀ (i j : Nat) (x : α) (p : PV), xs[i]? = some x → (T.enc x)[j]? = some p → ∃ V, W.cell? ((a.add ((k + i) * P.cellsOf e)).add j) = some V ∧ VP (allR W) W p V
  | [], k, _, _ => ⟨[], rfl, by simp, by simp⟩
  | y :: elems, k, h, hw => by
    have h0 := h 0 (by simp)
    simp only [Nat.add_zero, List.getElem?_cons_zero] at h0
    rw [Option.bind_eq_some_iff] at h0
    obtain ⟨cs, hcs, hy⟩ := h0
    obtain ⟨x, hx, hl, hc⟩ := T.opens (d := y.1) (ps := y.2) hy (hw y (by simp))
    obtain ⟨hlen, hget⟩ := cells_get hcs
    obtain ⟨xs, h1, h2, h3⟩ := each_elem (t := t) T elems (k + 1) (fun i hi => by
      have := h (i + 1) (by simpa using hi)
      rw [show k + 1 + i = k + (i + 1) by omega]
      simpa using this) (fun z hz => hw z (by simp [hz]))
    refine ⟨x :: xs, by simp [h1], fun z hz => ?_, fun i j z p hz hp => ?_⟩
    · rcases List.mem_cons.1 hz with rfl | hz
      · exact hx
      · exact h2 z hz
    · cases i with
      | zero =>
        cases hz
        have hj : j < (T.enc x).length := (List.getElem?_eq_some_iff.1 hp).1
        have hj' : j < cs.length := by omega
        have hV : cs[j]? = some cs[j] := List.getElem?_eq_getElem hj'
        exact ⟨cs[j], by rw [Nat.add_zero, hget j (by omega), hV], hc j p _ hp hV⟩
      | succ i =>
        have := h3 i j z p (by simpa using hz) hp
        rw [show k + (i + 1) = k + 1 + i by omega]
        exact this

theorem add_add (a : Addr) (h : a.spot = none) (i j : Nat) : (a.add i).add j = ⟨a.block, a.off + (i + j), none⟩ := by
  obtain ⟨b, o, s⟩ := a
  cases h
  rw [add_none, add_none, Nat.add_assoc]

def encF {α : Type} {e : TypeId} (T : Ty P e α) (xs : List α) (i : Nat) : List PV := T.enc (xs.getD i T.dflt)
/-- The rows of an array that is owned. -/
def encL {α : Type} {e : TypeId} (T : Ty P e α) (xs : List α) (i : Nat) : List AV := T.encO (xs.getD i T.dflt)

def Ty.slice {e : TypeId} {α : Type} (t : TypeId) (T : Ty P e α) (hu : P.underlying t = some (.slice e)) (hc : P.cellsOf t = 1) (he : 1 ≤ P.cellsOf e) : Ty P t (List α) where
  enc xs := [.seq xs.length (encF T xs)]
  encO xs := [.own (P.cellsOf e) xs.length (encL T xs)]
  dflt := []
  snap xs := by
    have : (fun i => snapL (encL T xs i)) = encF T xs := funext fun i => T.snap _
    simp only [snapL, snapC, this]
  wf xs := (∀ x ∈ xs, T.wf x) ∧ xs.length * P.bytesOf e ≤ reachBytes
  len _ := hc.symm
  opens h hz := by
    rename_i H en W fuel cs d ps
    rcases DataW.trod_slice hu h with ⟨rfl, hx⟩ | ⟨a, len, cap, elems, rest, n, _, rfl, hx, hb, hl, hm, hlen, hel, hsp, hns⟩
    · refine ⟨[], ⟨by simp, by simp⟩, rfl, one_cell (VP.seq0 _ _ _)⟩
    · cases hx
      have hwt : ∀ y ∈ elems, (y.1.weights P e).all (· ≤ reachBytes) = true := fun y hy => by
        refine List.all_eq_true.2 fun m hm' => List.all_eq_true.1 hz m ?_
        simp only [DataW.weights, hu, List.mem_cons, List.mem_append]
        exact .inr (.inl (weightsAll_mem (List.mem_map.2 ⟨y, hy, rfl⟩) m hm'))
      obtain ⟨xs, h1, h2, h3⟩ := each_elem (t := t) T elems 0 (fun i hi => by rw [Nat.zero_add]; exact hel i (by omega)) hwt
      have hxl : xs.length = len := h1.trans hlen
      have hbytes : (elems.length + rest.length) * P.bytesOf e ≤ reachBytes := by
        have := List.all_eq_true.1 hz ((elems.length + rest.length) * P.bytesOf e) (by simp [DataW.weights, hu])
        simpa using this
      refine ⟨xs, ⟨h2, ?_⟩, rfl, one_cell ?_⟩
      · refine Nat.le_trans (Nat.mul_le_mul_right _ ?_) hbytes
        omega
      have hgx : ∀ i, i < xs.length → ∃ x, xs[i]? = some x ∧ encF T xs i = T.enc x := fun i hi => ⟨xs[i], List.getElem?_eq_getElem hi, by simp [encF, List.getD, hi]⟩
      have hcell : ∀ i j, i < xs.length → j < P.cellsOf e → ∃ p V, (encF T xs i)[j]? = some p ∧ W.cell? ((a.add (i * P.cellsOf e)).add j) = some V ∧ VP (allR W) W p V := fun i j hi hj => by
        obtain ⟨x, hx, he'⟩ := hgx i hi
        have hj' : j < (T.enc x).length := by rw [T.len]; exact hj
        obtain ⟨V, hV, hp⟩ := h3 i j x _ hx (List.getElem?_eq_getElem hj')
        rw [Nat.zero_add] at hV
        exact ⟨_, V, by rw [he']; exact List.getElem?_eq_getElem hj', hV, hp⟩
      rw [← hxl] at hl ⊢
      refine .seq xs.length (encF T xs) (some a) cap (P.cellsOf e) (fun i j => (W.cell? ((a.add (i * P.cellsOf e)).add j)).getD undef) hl (fun i hi => ?_) (fun h0 => ?_) (fun i j p hi hp => ?_)
      · obtain ⟨x, _, he'⟩ := hgx i hi
        rw [he', T.len]
      · obtain ⟨p0, V0, _, hV0, _⟩ := hcell 0 0 h0 he
        rw [Nat.zero_mul] at hV0
        have ha0 : (a.add 0).add 0 = a := by simp [Addr.add]
        rw [ha0] at hV0
        obtain ⟨hs, hblt⟩ := spot_none hV0
        refine ⟨a.block, a.off, ?_, fun i j hi hj => ⟨hblt, ?_⟩⟩
        · obtain ⟨b, o, s⟩ := a
          cases hs
          rfl
        · obtain ⟨p, V, _, hV, _⟩ := hcell i j hi hj
          rw [add_add a hs] at hV ⊢
          rw [hV]
          rfl
      · obtain ⟨x, _, he'⟩ := hgx i hi
        have hj : j < P.cellsOf e := by rw [← T.len x, ← he']; exact (List.getElem?_eq_some_iff.1 hp).1
        obtain ⟨q, V, hq, hV, hvp⟩ := hcell i j hi hj
        rw [hp] at hq
        cases hq
        rw [hV]
        exact hvp

/-! ### arrays -/
/-- An array's cells. -/
def encV {α β : Type} (E : α → List β) (f : Nat → α) : Nat → Nat → List β
  | _, 0 => []
  | k, n + 1 => E (f k) ++ encV E f (k + 1) n
theorem encV_len {α β : Type} (E : α → List β) (f : Nat → α) (c : Nat) (h : ∀ x, (E x).length = c) : ∀ n k, (encV E f k n).length = n * c
  | 0, k => by simp [encV]
  | n + 1, k => by rw [encV, List.length_append, encV_len E f c h n, h, Nat.add_mul, Nat.one_mul, Nat.add_comm]
theorem encV_get {α β : Type} (E : α → List β) (f : Nat → α) (c : Nat) (h : ∀ x, (E x).length = c) : ∀ (n k j : Nat) (p : β), (encV E f k n)[j]? = some p → ∃ i r, i < n ∧ r < c ∧ j = i * c + r ∧ (E (f (k + i)))[r]? = some p
  | 0, k, j, p, hp => by simp [encV] at hp
  | n + 1, k, j, p, hp => by
    rw [encV] at hp
    rcases Nat.lt_or_ge j (E (f k)).length with hj | hj
    · rw [List.getElem?_append_left hj] at hp
      exact ⟨0, j, by omega, by rw [← h (f k)]; exact hj, by omega, hp⟩
    · rw [List.getElem?_append_right hj] at hp
      obtain ⟨i, r, h1, h2, h3, h4⟩ := encV_get E f c h n (k + 1) _ p hp
      have := h (f k)
      exact ⟨i + 1, r, by omega, h2, by rw [Nat.add_mul]; omega, by rw [show k + (i + 1) = k + 1 + i by omega]; exact h4⟩
theorem snapL_app : ∀ (l m : List AV), snapL (l ++ m) = snapL l ++ snapL m
  | [], m => rfl
  | v :: l, m => by simp [snapL, snapL_app l m]
theorem snap_encV {α : Type} (O : α → List AV) (E : α → List PV) (f : Nat → α) (h : ∀ x, snapL (O x) = E x) : ∀ n k, snapL (encV O f k n) = encV E f k n
  | 0, k => rfl
  | n + 1, k => by rw [encV, encV, snapL_app, h, snap_encV O E f h n]
def Ty.array {e : TypeId} {α : Type} (t : TypeId) (n : Nat) (T : Ty P e α) (hu : P.underlying t = some (.array n e)) (hc : P.cellsOf t = n * P.cellsOf e) : Ty P t (Nat → α) where
  enc f := encV T.enc f 0 n
  encO f := encV T.encO f 0 n
  dflt _ := T.dflt
  snap f := snap_encV _ _ _ T.snap _ _
  wf f := ∀ i, i < n → T.wf (f i)
  len f := by rw [encV_len _ _ _ T.len, hc]
  opens h hz := by
    rename_i H en W fuel cs d ps
    obtain ⟨xs, m, rfl, hx, hl, hn, hel⟩ := DataW.trod_array hu h
    cases hx
    have hl : cs.length = n * P.cellsOf e := by rw [← hc]; exact hl
    have hw : ∀ y ∈ xs, (y.1.weights P e).all (· ≤ reachBytes) = true := fun y hy => by
      refine List.all_eq_true.2 fun k hk => List.all_eq_true.1 hz k ?_
      simp only [DataW.weights, hu]
      exact weightsAll_mem (List.mem_map.2 ⟨y, hy, rfl⟩) k hk
    have each : ∀ i, ∃ x, i < n → T.wf x ∧ ∀ (j : Nat) (p : PV) (V : Value), (T.enc x)[j]? = some p → cs[i * P.cellsOf e + j]? = some V → VP (allR W) W p V := fun i => by
      by_cases hi : i < n
      · have h0 := hel i hi
        have hxi : xs[i]? = some (xs[i]'(by omega)) := List.getElem?_eq_getElem _
        rw [hxi] at h0
        obtain ⟨x, h1, h2, h3⟩ := T.opens (d := (xs[i]'(by omega)).1) (ps := (xs[i]'(by omega)).2) h0 (hw _ (List.getElem_mem _))
        refine ⟨x, fun _ => ⟨h1, fun j p V hp hV => h3 j p V hp ?_⟩⟩
        have hj : j < (T.enc x).length := (List.getElem?_eq_some_iff.1 hp).1
        rw [T.len] at hj
        rw [List.getElem?_take, if_pos hj, List.getElem?_drop]
        exact hV
      · exact ⟨T.dflt, fun h => absurd h hi⟩
    refine ⟨fun i => Classical.choose (each i), fun i hi => (Classical.choose_spec (each i) hi).1, by rw [encV_len _ _ _ T.len, hl], fun j p V hp hV => ?_⟩
    obtain ⟨i, r, h1, h2, h3, h4⟩ := encV_get _ _ _ T.len n 0 j p hp
    rw [Nat.zero_add] at h4
    exact (Classical.choose_spec (each i) h1).2 r p V h4 (by rw [← h3]; exact hV)

/-! ### structs -/
/-- The fields of a struct from one offset on. -/
structure TyF (P : Program) (off : Nat) (fs : List Field) (α : Type) where
  enc : α → List PV
  encO : α → List AV
  snap : ∀ x, snapL (encO x) = enc x
  dflt : α
  wf : α → Prop
  size : Nat
  len : ∀ x, (enc x).length = size
  opens : ∀ {H : Type} {en : TypeId × Value → H} {W : World} {n : Nat} {cs : List Value} (xs : List (DataW H × List MemPlace)), xs.length = fs.length → off + size ≤ cs.length →
    (∀ (i : Nat) (f : Field), fs[i]? = some f → DataW.trod en P W 0 (fun _ => true) true n f.type ((cs.drop f.offset).take (P.cellsOf f.type)) = xs[i]?) →
    (DataW.weightsEach P (fs.map (·.type)) (xs.map (·.1))).all (· ≤ reachBytes) = true →
    ∃ x, wf x ∧ ∀ (j : Nat) (p : PV) (V : Value), (enc x)[j]? = some p → cs[off + j]? = some V → VP (allR W) W p V

def TyF.nil (off : Nat) : TyF P off [] Unit where
  enc _ := []
  encO _ := []
  snap _ := rfl
  dflt := ()
  wf _ := True
  size := 0
  len _ := rfl
  opens xs _ _ _ _ := ⟨(), trivial, fun j p V hp => by simp at hp⟩

def TyF.cons {α β : Type} (off : Nat) (f : Field) (fs : List Field) (ho : f.offset = off) (T : Ty P f.type α) (F : TyF P (off + P.cellsOf f.type) fs β) : TyF P off (f :: fs) (α × β) where
  enc x := T.enc x.1 ++ F.enc x.2
  encO x := T.encO x.1 ++ F.encO x.2
  snap x := by rw [snapL_app, T.snap, F.snap]
  dflt := (T.dflt, F.dflt)
  wf x := T.wf x.1 ∧ F.wf x.2
  size := P.cellsOf f.type + F.size
  len x := by rw [List.length_append, T.len, F.len]
  opens xs hl hsz ht hw := by
    rename_i H en W n cs
    cases xs with
    | nil => simp at hl
    | cons y ys =>
      simp only [List.map_cons, DataW.weightsEach, List.all_append, Bool.and_eq_true] at hw
      have h0 := ht 0 f rfl
      simp only [List.getElem?_cons_zero] at h0
      obtain ⟨x, hx, hxl, hxc⟩ := T.opens (d := y.1) (ps := y.2) h0 hw.1
      obtain ⟨z, hz, hzc⟩ := F.opens (cs := cs) ys (by simpa using hl) (by omega) (fun i g hg => by simpa using ht (i + 1) g (by simpa using hg)) hw.2
      refine ⟨(x, z), ⟨hx, hz⟩, fun j p V hp hV => ?_⟩
      have hxlen := T.len x
      rcases Nat.lt_or_ge j (T.enc x).length with hj | hj
      · rw [List.getElem?_append_left hj] at hp
        refine hxc j p V hp ?_
        rw [List.getElem?_take, if_pos (by omega), List.getElem?_drop, ho]
        exact hV
      · rw [List.getElem?_append_right hj] at hp
        refine hzc (j - (T.enc x).length) p V hp ?_
        rw [← hV]
        congr 1
        omega

def Ty.struct {α β : Type} (t : TypeId) (fs : Array Field) (F : TyF P 0 fs.toList α) (hu : P.underlying t = some (.struct fs)) (hc : P.cellsOf t = F.size) (to : β → α) (of : α → β) (hto : ∀ x, to (of x) = x) : Ty P t β where
  enc x := F.enc (to x)
  encO x := F.encO (to x)
  snap x := F.snap _
  dflt := of F.dflt
  wf x := F.wf (to x)
  len x := by rw [F.len, hc]
  opens h hz := by
    rename_i H en W fuel cs d ps
    obtain ⟨xs, n, rfl, hx, hl, hxl, hh⟩ := DataW.trod_struct hu h
    cases hx
    obtain ⟨x, hx, hc'⟩ := F.opens (cs := cs) xs (by simpa using hxl) (by omega) (fun i f hf => hh i f (by rw [← Array.getElem?_toList]; exact hf)) (by
      refine List.all_eq_true.2 fun m hm => List.all_eq_true.1 hz m ?_
      simpa [DataW.weights, hu] using hm)
    refine ⟨of x, by rw [hto]; exact hx, by rw [F.len, hl, hc], fun j p V hp hV => ?_⟩
    rw [hto] at hp
    exact hc' j p V hp (by rw [Nat.zero_add]; exact hV)

/-! ### arguments -/
def argAV (P : Program) (t : TypeId) (cs : List PV) : AV := match isAggT P t with
  | true => .agg (cs.map .pv)
  | false => match cs with
    | [p] => .pv p
    | _ => dead

structure Args (P : Program) (ts : List TypeId) (α : Type) where
  enc : α → List AV
  wf : α → Prop
  opens : ∀ {H : Type} {en : TypeId × Value → H} {W : World} {vs : List Value} {ds : List (DataW H)} {ps : List MemPlace}, DataW.TrodAll en P W 0 (fun _ => true) true ts vs ds ps →
    (∀ (j : Nat) (t : TypeId) (v : Value), ts[j]? = some t → vs[j]? = some v → ∃ base, Value.okWide P W .any base t v) → (DataW.weightsEach P ts ds).all (· ≤ reachBytes) = true →
    ∃ x, wf x ∧ vs.length = (enc x).length ∧ ∀ (X : Ctx), X.w = W → X.R = allR W → ∀ (j : Nat) (v : AV) (V : Value), (enc x)[j]? = some v → vs[j]? = some V → VA X none v V

def Args.nil : Args P [] Unit where
  enc _ := []
  wf _ := True
  opens h _ _ := by
    obtain ⟨rfl, rfl, rfl⟩ := trodAll_nil h
    exact ⟨(), trivial, rfl, fun X _ _ j v V hv => by simp at hv⟩

theorem agg_of_okWide {W : World} {base : Nat} {t : TypeId} {v : Value} (h : Value.okWide P W .any base t v) (ha : isAggT P t = true) : ∃ cs, v = .agg cs := by
  unfold Value.okWide at h
  unfold isAggT at ha
  split at h
  · obtain ⟨cs, rfl, _⟩ := h; exact ⟨cs, rfl⟩
  · obtain ⟨cs, rfl, _⟩ := h; exact ⟨cs, rfl⟩
  · split at ha
    · rename_i h1 h2 _ _ he; exact absurd he (h1 _)
    · rename_i h1 h2 _ _ _ he; exact absurd he (h2 _ _)
    · cases ha

def Args.cons {α β : Type} {t : TypeId} {ts : List TypeId} (T : Ty P t α) (A : Args P ts β) : Args P (t :: ts) (α × β) where
  enc x := argAV P t (T.enc x.1) :: A.enc x.2
  wf x := T.wf x.1 ∧ A.wf x.2
  opens h hv hw := by
    obtain ⟨v, vs', d, ds', p, q, rfl, rfl, rfl, ⟨fuel, h1⟩, h2⟩ := trodAll_cons h
    simp only [DataW.weightsEach, List.all_append, Bool.and_eq_true] at hw
    obtain ⟨x, hx, hxl, hxc⟩ := T.opens h1 hw.1
    obtain ⟨z, hz, hzl, hzc⟩ := A.opens h2 (fun j t' v' ht' hv' => hv (j + 1) t' v' (by simpa using ht') (by simpa using hv')) hw.2
    refine ⟨(x, z), ⟨hx, hz⟩, by simp [hzl], fun X hXw hXR j u V hu hV => ?_⟩
    cases j with
    | zero =>
      cases hu; cases hV
      obtain ⟨base, hok⟩ := hv 0 t v rfl rfl
      unfold argAV
      cases ha : isAggT P t with
      | true =>
        obtain ⟨cs, rfl⟩ := agg_of_okWide hok ha
        simp only []
        have e1 : (Value.agg cs) = .agg cs.toList.toArray := by simp
        rw [e1]
        have e2 : (Value.agg cs).cells = cs := rfl
        rw [e2] at hxl hxc
        refine .agg _ _ cs.toList (by simpa using hxl) fun j u V hu hV => ?_
        rw [List.getElem?_map] at hu
        cases hp : (T.enc x)[j]? with
        | none => rw [hp] at hu; cases hu
        | some p =>
          rw [hp] at hu
          cases hu
          refine .pv _ _ _ ?_
          rw [hXw, hXR]
          exact hxc j p V hp hV
      | false =>
        simp only []
        split
        · rename_i p hp
          refine .pv _ _ _ ?_
          rw [hXw, hXR]
          have hp' : (T.enc x) = [p] := hp
          rw [hp'] at hxl hxc
          cases hcs : v.cells.toList with
          | nil => rw [hcs] at hxl; simp at hxl
          | cons c l =>
            rw [hcs] at hxl hxc
            have hl0 : l = [] := by cases l with | nil => rfl | cons _ _ => simp at hxl
            subst hl0
            have hvc : v = c := by
              have hsz : v.cells = #[c] := by rw [← Array.toArray_toList (xs := v.cells), hcs]
              cases v <;> simp [Value.cells] at hsz <;> first
                | exact hsz
                | skip
              rename_i cs
              exfalso
              unfold Value.okWide at hok
              unfold isAggT at ha
              split at hok
              · rename_i h1; rw [h1] at ha; simp at ha
              · rename_i h1; rw [h1] at ha; simp at ha
              · unfold Cell.okWide at hok
                split at hok <;> first
                  | (rename_i heq; cases heq; done)
                  | (simp [Cell.ok] at hok; done)
                  | skip
            rw [hvc]
            exact hxc 0 p c rfl rfl
        · exact .dead _ _
    | succ j => exact hzc X hXw hXR j u V (by simpa using hu) (by simpa using hV)

/-! ### the row -/
theorem bel_of {X X' : Ctx} (h : Fr X X') (hno : ∀ g, ¬ Wr X g) : Below X.w.heap.size X.w X'.w :=
  ⟨h.os, h.tape, h.output, h.size, fun g hg => (h.keep g hg).resolve_left (hno g)⟩

theorem below_all {H : Type} {en : TypeId × Value → H} (hl : laidOutB P = true) {W W' : World} (hb : Below W.heap.size W W') : ∀ {ts : List TypeId} {vs : List Value} {ds : List (DataW H)} {ps : List MemPlace},
    (∀ t ∈ ts, P.readableRec t = true ∧ t < P.types.size) → DataW.TrodAll en P W 0 (fun _ => true) true ts vs ds ps → DataW.TrodAll en P W' 0 (fun b => decide (b < W.heap.size)) true ts vs ds ps
  | [], vs, ds, ps, _, h => by
    obtain ⟨rfl, rfl, rfl⟩ := trodAll_nil h
    exact trodAll_mk0
  | t :: ts, vs, ds, ps, ht, h => by
    obtain ⟨v, vs', d, ds', p, q, rfl, rfl, rfl, h1, h2⟩ := trodAll_cons h
    have hlt : ∀ x ∈ p, x.block < W.heap.size := by
      obtain ⟨m, hm⟩ := h1
      exact DataW.trod_lt m _ _ _ hm
    obtain ⟨r1, r2⟩ := ht t (by simp)
    exact trodAll_cons_mk (Below.trod hl r1 r2 h1 hb hlt) (below_all hl hb (fun t ht' => ht t (by simp [ht'])) h2)

theorem each_all {H : Type} : ∀ {ts us : List TypeId} {ds gs : List (DataW H)}, ts.length = ds.length → ((DataW.weightsEach P (ts ++ us) (ds ++ gs)).all (· ≤ reachBytes) = true) → (DataW.weightsEach P ts ds).all (· ≤ reachBytes) = true
  | [], us, [], gs, _, _ => rfl
  | t :: ts, us, d :: ds, gs, hl, h => by
    simp only [List.cons_append, DataW.weightsEach, List.all_append, Bool.and_eq_true] at h ⊢
    exact ⟨h.1, each_all (by simpa using hl) h.2⟩
  | [], _, _ :: _, _, hl, _ => by simp at hl
  | _ :: _, _, [], _, hl, _ => by simp at hl

theorem trodAll_len {H : Type} {en : TypeId × Value → H} {W : World} {base : Nat} {spare : Nat → Bool} {held : Bool} : ∀ {ts : List TypeId} {vs : List Value} {ds : List (DataW H)} {ps : List MemPlace}, DataW.TrodAll en P W base spare held ts vs ds ps → ts.length = ds.length ∧ ts.length = vs.length
  | [], vs, ds, ps, h => by obtain ⟨rfl, rfl, rfl⟩ := trodAll_nil h; exact ⟨rfl, rfl⟩
  | t :: ts, vs, ds, ps, h => by
    obtain ⟨v, vs', d, ds', p, q, rfl, rfl, rfl, h1, h2⟩ := trodAll_cons h
    have := trodAll_len h2
    exact ⟨by simp [this.1], by simp [this.2]⟩

def baseCtx (W : World) : Ctx := { w := W, loc := fun _ _ => none, R := allR W }

/-- A law that returns true whatever its arguments hold. -/
theorem contract_of {C : Checked} {f : FuncId} {fn : Func} {s : ChangeSpec} {bt : TypeId} {α : Type} {ts : List TypeId} (hl : laidOutB C.prog = true)
    (hp : fn.params.toList = ts) (A : Args C.prog ts α) (hread : ∀ t ∈ ts, C.prog.readableRec t = true ∧ t < C.prog.types.size) (hr : fn.resultTypes = #[bt]) (hbt : C.prog.underlying bt = some .bool) (hsv : s.vars = [])
    (hs : ∀ (H : Type) (ds : List (DataW H)), ds.length = ts.length → s.fn H ds = { results := [.lit (.bool true)], args := ds })
    (D : ∀ x, A.wf x → Does C.prog f (A.enc x) [] (.pv (.bool true), [])) {H : Type} {en : TypeId × Value → H} (W : World) (base : Nat) (args : Array Value) (ds gs : List (DataW H)) (before : List MemPlace)
    (hval : ∀ (j : Nat) t v, fn.params[j]? = some t → args[j]? = some v → Value.okWide C.prog W .any base t v) (hW : DataW.Whole en C.prog fn.params.toList s.vars false W args.toList ds gs before)
    (hsz : (DataW.weightsEach C.prog (fn.params.toList ++ s.plain.varTypes C.prog) (ds ++ gs)).all (· ≤ reachBytes) = true) (hG : GloOk (baseCtx W)) :
    Calls C.prog f args W fun e W' => ∃ v, e = .returned v ∧ s.post en C.prog fn false true false false W args v W' := by
  have hW' := hW
  obtain ⟨p, q, hA, hV, rfl, hfz, hnd⟩ := hW
  rw [hsv] at hV
  obtain ⟨rfl, rfl⟩ := trodVars_none hV
  rw [hp] at hA
  obtain ⟨hlen, hlen2⟩ := trodAll_len hA
  rw [hp] at hsz
  obtain ⟨x, hx, hxl, hxc⟩ := A.opens hA (fun j t v ht hv => ⟨base, hval j t v (by rw [← Array.getElem?_toList, hp]; exact ht) (by rw [← Array.getElem?_toList]; exact hv)⟩) (each_all hlen hsz)
  have hcall := (D x hx) (baseCtx W) args.toList hxl (hxc (baseCtx W) rfl rfl) ⟨fun b B hB => (by simp at hB), fun b ρ L hb => (by cases hb), fun b ρ c τ L M hb => (by cases hb), fun b ρ L hb => (by cases hb)⟩
    (fun g hg off hr => absurd hr (by show ¬ g < W.heap.size; exact Nat.not_lt.2 hg)) hG
  rw [Array.toArray_toList] at hcall
  refine hcall.mono ?_
  rintro e W' ⟨V, X', rfl, rfl, hFr, _, _, _, hv⟩
  have hVb : V = .bool true := hv.bool_inv
  subst hVb
  have hbel : Below W.heap.size W X'.w := bel_of hFr (fun g h => by
    obtain ⟨b, ρ, L, hL, _⟩ := h
    cases hL)
  refine ⟨_, rfl, ds, [], p ++ [], [], p, [], hW', ?_, ?_, ?_, hbel.frame _, fun h => by cases h⟩
  · rw [List.append_nil, hs H ds hlen.symm, hr]
    exact trodAll_mk1 (shut_bool hbt true)
  · rw [List.append_nil, hs H ds hlen.symm, hp]
    exact below_all hl hbel hread hA
  · rw [List.append_nil, hs H ds hlen.symm, hsv]
    exact rfl
end
end Go.Bm
