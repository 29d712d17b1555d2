/- The abstract machine is sound, operation by operation: boxes, and new blocks. -/
import Derived.Test.YtigopdlofamhlaaDoorBmStore
namespace Go.Bm
set_option autoImplicit false
set_option linter.unusedVariables false
set_option linter.unusedSimpArgs false

section
variable {P : Program} {X0 X : Ctx} {st : St} {a : Act} {w : World} {ok : Ob → Prop}

theorem freshE_gives {α : Type} {H : Nat → Blk} {k : Ev α} {x : α} : ∀ (n id : Nat), (freshE id n k).Gives ok H x → (∀ j, j < n → H (id + j) = .gone) ∧ k.Gives ok H x
  | 0, id, h => ⟨fun j hj => absurd hj (Nat.not_lt_zero j), h⟩
  | n + 1, id, h => by
    simp only [freshE, Ev.Gives] at h
    split at h
    · rename_i h0
      obtain ⟨h1, h2⟩ := freshE_gives n (id + 1) h
      refine ⟨fun j hj => ?_, h2⟩
      cases j with
      | zero => exact h0
      | succ j => rw [show id + (j + 1) = id + 1 + j by omega]; exact h1 j (by omega)
    · cases h
theorem gone_get {H : List Blk} {b : Nat} (h : getB H b = .gone) : H[b]? = some .gone := getB_gone h (by simp)

/-! ### arrays without room -/
theorem Inv.nil1 (h : Inv X0 X st a w) {id sz : Nat} (hsz : 0 < sz) (f : Nat → List AV) (hg : st.heap[id]? = some .gone) :
    Inv X0 (X.node w id [] ⟨0, sz, 0, 0⟩ (fun _ _ _ => none) []) { st with heap := st.heap.set id (.arr 0 sz 0 f) } a w ∧ Stab X (X.node w id [] ⟨0, sz, 0, 0⟩ (fun _ _ _ => none) []) := by
  have hw := h.hw
  have hnone : ∀ ρ, X.loc id ρ = none := fun ρ => loc_gone h.heap (getB_of hg) ρ
  have hb : id < st.heap.length := (List.getElem?_eq_some_iff.1 hg).1
  have hren : ∀ c τ L, X.loc c τ = some L → (X.node w id [] ⟨0, sz, 0, 0⟩ (fun _ _ _ => none) []).loc c τ = some L := by
    intro c τ L hL
    by_cases hc : c = id
    · subst hc; rw [hnone] at hL; cases hL
    · rw [node_ne hc (by simp)]; exact hL
  have hS : Stab X (X.node w id [] ⟨0, sz, 0, 0⟩ (fun _ _ _ => none) []) := ⟨fun g off hr => ⟨hr, by rw [hw]; rfl⟩, hren⟩
  have hN : NodeAt X st.heap w id [] ⟨0, sz, 0, 0⟩ (fun _ _ _ => none) [] ⟨true, sz, 0, f⟩ (fun _ _ => none) :=
    NodeAt.mk' (cur := #[]) (e := 0) (fun g off hr => by rw [hw]) rfl rfl hsz (by simp) rfl (fun i hi => absurd hi (Nat.not_lt_zero i)) (fun h0 => absurd h0 (Nat.lt_irrefl 0)) (fun i j v hi => absurd hi (Nat.not_lt_zero i)) (fun _ _ _ _ => rfl)
      (fun i j κ hκ => by cases hκ) (fun i j i' j' c κ κ' σ σ' e1 => by cases e1) (fun h0 => absurd h0 (Nat.lt_irrefl 0)) (fun c τ L _ _ _ => by rw [hw])
  refine ⟨?_, hS⟩
  have hroot : RootOk (X.node w id [] ⟨0, sz, 0, 0⟩ (fun _ _ _ => none) []) id (.arr 0 sz 0 f) :=
    hN.root (fun g off hr => by rw [hw]) rfl (fun τ hτ => by cases hτ) (fun τ L hτ => by cases hτ) (fun hh => absurd rfl hh)
  exact h.node (e := { val := dead, hb := [(id, .arr 0 sz 0 f)] }) (dst := none) (V := undef) hN (.same hw.symm fun h0 => absurd h0 (Nat.lt_irrefl 0)) rfl hb (fun c hc => by cases hc) hroot (fun c τ d L hd hL => by cases hd; exact hren c τ L hL) (fun τ ht => by cases ht) fun d hd => by cases hd

theorem nilB_len (p : Bool) : ∀ (vs : List AV) (id : Nat), (nilB p id vs).1.length = vs.length
  | [], id => rfl
  | v :: vs, id => by
    cases v <;> simp [nilB, nilB_len p vs]
/-- Values that come into a box: their slices without room have blocks of their own. -/
theorem Inv.nils (p : Bool) : ∀ (vs : List AV) (id : Nat) (X : Ctx) (st : St), Inv X0 X st a w → (∀ j, j < (nilB p id vs).2.length → st.heap[id + j]? = some .gone) → vs.all nilOk = true →
    ∃ X', Stab X X' ∧ Inv X0 X' { st with heap := putBlks st.heap (nilB p id vs).2 } a w ∧ (∀ (j : Nat) (v : AV) (V : Value), (nilB p id vs).1[j]? = some v → (∀ u, vs[j]? = some u → VA X none u V) → VA X' none v V) ∧
      (∀ c, (c < id ∨ id + (nilB p id vs).2.length ≤ c) → (putBlks st.heap (nilB p id vs).2)[c]? = st.heap[c]?) ∧ (vs.all AV.oneC = true → (nilB p id vs).1.all AV.oneC = true) ∧ (∀ ρ c, (c < id ∨ id + (nilB p id vs).2.length ≤ c) → X'.loc c ρ = X.loc c ρ)
  | [], id, X, st, h, hg, hn => ⟨X, .refl X, h, fun j v V hj => (by cases hj), fun _ _ => rfl, fun _ => rfl, fun _ _ _ => rfl⟩
  | v :: vs, id, X, st, h, hg, hn => by
    simp only [List.all_cons, Bool.and_eq_true] at hn
    by_cases hv : ∃ f, v = .nil f
    · obtain ⟨f, rfl⟩ := hv
      have hz : 0 < (f 0).length := Nat.le_of_ble_eq_true hn.1
      have hg0 := hg 0 (by simp [nilB])
      rw [Nat.add_zero] at hg0
      obtain ⟨h1, hS⟩ := h.nil1 hz (fun _ => nilRow p (f 0)) hg0
      obtain ⟨X', s1, s2, s3, s4, s5, s6⟩ := Inv.nils p vs (id + 1) _ _ h1 (fun j hj => by
        have := hg (j + 1) (by simp only [nilB, List.length_cons]; omega)
        show (st.heap.set id _)[id + 1 + j]? = _
        rw [List.getElem?_set_ne (by omega), ← this]
        congr 1; omega) hn.2
      refine ⟨X', hS.trans s1, s2, fun j u V hj hu => ?_, fun c hc => ?_, fun ho => ?_, fun ρ c hc => ?_⟩
      · cases j with
        | zero =>
          cases hj
          have := hu _ rfl
          cases this with | nil _ _ A => ?_
          exact .ms none id [] 0 0 A 0 ⟨0, (f 0).length, 0, 0⟩ (s1.loc _ _ _ node_self) (Nat.le_refl _) (Nat.le_refl _) fun h0 => absurd h0 (Nat.lt_irrefl 0)
        | succ j => exact s3 j u V hj fun q hq => (hu q hq).stab hS
      · simp only [nilB, List.length_cons] at hc
        have := s4 c (by omega)
        show (putBlks (st.heap.set id _) _)[c]? = _
        refine Eq.trans this ?_
        show (st.heap.set id _)[c]? = _
        rw [List.getElem?_set_ne (by omega)]
      · simp only [List.all_cons, Bool.and_eq_true] at ho
        simp only [nilB, List.all_cons, Bool.and_eq_true]
        exact ⟨rfl, s5 ho.2⟩
      · simp only [nilB, List.length_cons] at hc
        rw [s6 ρ c (by omega), node_ne (by omega) (by simp)]
    · have e : nilB p id (v :: vs) = (v :: (nilB p id vs).1, (nilB p id vs).2) := by
        cases v <;> first | rfl | exact absurd ⟨_, rfl⟩ hv
      rw [e] at hg ⊢
      obtain ⟨X', s1, s2, s3, s4, s5, s6⟩ := Inv.nils p vs id X st h hg hn.2
      refine ⟨X', s1, s2, fun j u V hj hu => ?_, s4, fun ho => ?_, s6⟩
      · cases j with
        | zero => cases hj; exact (hu _ rfl).stab s1
        | succ j => exact s3 j u V hj hu
      · simp only [List.all_cons, Bool.and_eq_true] at ho ⊢
        exact ⟨ho.1, s5 ho.2⟩

theorem nilB_nil_of (p : Bool) (vs : List AV) (id : Nat) : ∀ x ∈ (nilB p id vs).2, id ≤ x.1 ∧ x.1 < id + (nilB p id vs).2.length := by
  induction vs generalizing id with
  | nil => intro x hx; cases hx
  | cons v vs ih =>
    intro x hx
    by_cases hv : ∃ f, v = .nil f
    · obtain ⟨f, rfl⟩ := hv
      simp only [nilB, List.mem_cons, List.length_cons] at hx ⊢
      rcases hx with rfl | hx
      · exact ⟨Nat.le_refl _, by omega⟩
      · have := ih (id + 1) x hx; omega
    · have e : nilB p id (v :: vs) = (v :: (nilB p id vs).1, (nilB p id vs).2) := by
        cases v <;> first | rfl | exact absurd ⟨_, rfl⟩ hv
      rw [e] at hx ⊢
      exact ih id x hx
theorem putBlks_append : ∀ (l m : List (Nat × Blk)) (H : List Blk), putBlks H (l ++ m) = putBlks (putBlks H l) m
  | [], m, H => rfl
  | (b, x) :: l, m, H => putBlks_append l m (H.set b x)

/-! ### a box that is written -/
/-- Cells of an element of a block that is no row. -/
theorem box_put (h : Inv X0 X st a w) {b i o : Nat} {L : Loc} {B B' : Blk} {y x' : Nd} (hL : X.loc b [] = some L) (hi : i < L.len) (hB : st.heap[b]? = some B) (hy : B.nd = some y) (hd : y.dat = false) (hx : B'.nd = some x') (hx1 : x'.dat = false) (hx2 : x'.sz = y.sz) (hx3 : x'.n = y.n) (htag : ∀ τ, keeps B'.tag τ = true → keeps B.tag τ = true)
    {ws : List AV} {Vs : List Value} (hlen : ws.length = Vs.length) (hon : o + Vs.length ≤ (y.f i).length) (hf : ∀ k, k < y.n → x'.f k = if k = i then splice (y.f i) o ws else y.f k)
    (hcell : ∀ (j : Nat) (v : AV) (V : Value), ws[j]? = some v → Vs[j]? = some V → VA X none v V ∧ V.oneCell' = true) (dst : Option Nat) (U : Value) :
    ∃ (X' : Ctx) (cur : Array Value) (ty : TypeId), RowAt w L.g cur ty ∧ i * L.sz + o + Vs.length ≤ cur.size ∧ Inv X0 X' ((Eff.mk dead [(b, B')] []).on dst st) (a.put dst U) (w.setRow L.g (splice cur.toList (i * L.sz + o) Vs).toArray) := by
  have hw := h.hw
  subst hw
  have hroot := h.heap.blk b _ hB
  have hsub : B.sub [] = some y := by simp [Blk.sub, hy, Nd.sub]
  obtain ⟨L1, hL1, hr⟩ := hroot.some hsub
  rw [hL] at hL1
  cases hL1
  have hi' : i < y.n := by rw [← hr.len]; exact hi
  have h0 := room_of hr hi
  obtain ⟨cur, ty, hb, hc, hm⟩ := hr.mem h0
  have hrow := hr.row i hi'
  rw [hrow] at hon
  have hend : (i + 1) * y.sz ≤ y.n * y.sz := Nat.mul_le_mul_right y.sz hi'
  rw [Nat.add_mul, Nat.one_mul] at hend
  have hfit := hr.fit
  have hctl : cur.toList.length = cur.size := Array.length_toList
  have hle : i * y.sz + o + Vs.length ≤ cur.toList.length := by rw [hctl]; omega
  have hsplen : o + ws.length ≤ (y.f i).length := by rw [hlen, hrow]; exact hon
  rw [hr.sz]
  let W := X.w.setRow L.g (splice cur.toList (i * y.sz + o) Vs).toArray
  have hgs : RowAt W L.g (splice cur.toList (i * y.sz + o) Vs).toArray ty := hb.set (by rw [List.size_toArray, splice_len _ _ _ hle, hctl])
  have hWr : Wr X L.g := ⟨b, [], L, hL, h0, rfl⟩
  have hWrote : Wrote X.w W L.g := Wrote.row _ _ _
  have hold : ∀ c τ M, X.loc c τ = some M → 0 < M.room → ¬ (c = b ∧ τ = []) → W.heap[M.g]? = X.w.heap[M.g]? := fun c τ M hM hm0 hne => setRow_other X.w L.g M.g _ fun e' => hne (h.heap.inj c τ b [] M L hM hL hm0 h0 e')
  let Y : Ctx := { X with w := W }
  have hS : Stab X Y := ⟨fun g off hr => ⟨hr, World.cell?_of_block (w := X.w) (a := ⟨g, off, none⟩) (setRow_other X.w L.g g _ fun e => hWr.free h.heap off (e ▸ hr))⟩, fun _ _ _ h => h⟩
  have hrel : NdRel Y b [] L x' := by
    refine ⟨hr.sz.trans hx2.symm, hr.len.trans hx3.symm, by rw [hx2]; exact hr.pos, by rw [hx2, hx3]; exact hr.fit, fun k hk => ?_, fun _ => ⟨_, ty, hgs, ?_, fun k j v V hk hv hV => ?_⟩⟩
    · rw [hx3] at hk
      rw [hf k hk, hx2]
      split
      · rw [splice_len _ _ _ hsplen]; exact hrow
      · exact hr.row k hk
    · rw [List.size_toArray, splice_len _ _ _ hle, hctl]; exact hc
    · rw [hx3] at hk
      rw [hx2] at hV
      rw [hf k hk] at hv
      have hkey : keyOf x' b [] k j = none := by unfold keyOf; rw [hx1]
      have hkey' : keyOf y b [] k j = none := by unfold keyOf; rw [hd]
      rw [hkey]
      have hjs : j < y.sz := by
        have hlt := (List.getElem?_eq_some_iff.1 hv).1
        split at hlt
        · rw [splice_len _ _ _ hsplen, hrow] at hlt; exact hlt
        · rw [hr.row k hk] at hlt; exact hlt
      rw [List.getElem?_toArray, splice_get hle] at hV
      by_cases hq : k = i ∧ o ≤ j ∧ j < o + Vs.length
      · rw [if_pos ((index_split hjs hon).2 hq)] at hV
        obtain ⟨rfl, q1, q2⟩ := hq
        rw [if_pos rfl, splice_get hsplen, if_pos (by omega)] at hv
        rw [show k * y.sz + j - (k * y.sz + o) = j - o by omega] at hV
        obtain ⟨p1, p2⟩ := hcell _ v V hv hV
        exact ⟨p1.stab hS, p2, fun hdd => by rw [hx1] at hdd; cases hdd⟩
      · rw [if_neg fun hh => hq ((index_split hjs hon).1 hh), Array.getElem?_toList] at hV
        have hv' : (y.f k)[j]? = some v := by
          split at hv
          · rename_i e1
            subst e1
            rw [splice_get hsplen, if_neg (by rw [hlen]; intro hh; exact hq ⟨rfl, hh⟩)] at hv
            exact hv
          · exact hv
        obtain ⟨p1, p2, _⟩ := hm k j v V hk hv' hV
        rw [hkey'] at p1
        exact ⟨p1.stab hS, p2, fun hdd => by rw [hx1] at hdd; cases hdd⟩
  have hblt := h.heap.lt b [] L hL
  refine ⟨Y, cur, ty, hb, by rw [← hctl]; exact hle, h.eff rfl hS.ren (h.heap.upd hS.ren (fun _ _ _ => rfl) (fun c hc τ M hM hm0 => hold c τ M hM hm0 fun hh => hc (b, B') (by simp) hh.1.symm) (fun x hx' => ?_) h.heap.inj h.heap.free) (h.fresh.wrote (Y := Y) hWrote fun _ _ => Iff.rfl) (h.fr.wrote (Y := Y) hWrote hWr (fun _ _ => Iff.rfl) fun g hg => hg) (h.base.upd (fun c _ τ M hM => hM) fun x hx' τ ht M hM => ?_) fun d _ => .dead _ _⟩
  · cases List.mem_singleton.1 hx'
    refine ⟨hblt, fun ρ => ?_⟩
    cases ρ with
    | nil =>
      have : B'.sub [] = some x' := by simp [Blk.sub, hx, Nd.sub]
      rw [this]
      exact ⟨L, hL, hrel⟩
    | cons s ρ =>
      obtain ⟨k, j⟩ := s
      have e1 : B'.sub ((k, j) :: ρ) = none := by simp [Blk.sub, hx, Nd.sub_cons, hx1]
      have e2 : B.sub ((k, j) :: ρ) = none := by simp [Blk.sub, hy, Nd.sub_cons, hd]
      rw [e1]
      exact hroot.none e2
  · cases List.mem_singleton.1 hx'
    exact h.base b B hB τ (htag τ ht) M hM
end
end Go.Bm
