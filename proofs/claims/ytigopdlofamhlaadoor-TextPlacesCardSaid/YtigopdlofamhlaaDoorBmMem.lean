/- The abstract machine is sound, operation by operation: addresses, loads, parts of slices. -/
import Derived.Test.YtigopdlofamhlaaDoorBmOps
namespace Go.Bm
set_option autoImplicit false
set_option linter.unusedVariables false
set_option linter.unusedSimpArgs false

section
variable {P : Program} {X0 X : Ctx} {st : St} {a : Act} {w : World} {ok : Ob → Prop}

theorem add_none (g o j : Nat) : (⟨g, o, none⟩ : Addr).add j = ⟨g, o + j, none⟩ := by unfold Addr.add; split <;> simp_all

/-! ### loads -/
theorem load_run {t : TypeId} {g o : Nat} {Cs : List Value} (hn : sizeT P t = some Cs.length) (h1 : isAggT P t = false → Cs.length = 1)
    (hc : ∀ (j : Nat) (V : Value), Cs[j]? = some V → w.cell? ⟨g, o + j, none⟩ = some V) : (Instr.loadAt t (.pointer (some ⟨g, o, none⟩))).run P w = .ok (asV P t Cs) w := by
  obtain ⟨d, hd⟩ := sizeT_under hn
  simp only [Instr.loadAt, Instr.sureAddr, Sem.run_bind, Sem.run_pure, Result.andThen_ok, loadVar, isAgg_run hd]
  cases hb : isAggT P t with
  | true =>
    have hl := run_loadCells_list (P := P) w ⟨g, o, none⟩ Cs (fun j V hV => by rw [add_none]; exact hc j V hV)
    simp [sizeOf_run hn, hl, asV, hb]
  | false =>
    have hl := h1 hb
    obtain ⟨V, rfl⟩ := List.length_eq_one_iff.1 hl
    have := hc 0 V rfl
    simp at this
    simp [asV, hb, this]


theorem ofCells_sound {t : TypeId} {cs : List AV} {Cs : List Value} {v : AV} (hl : Cs.length = cs.length) (h : ∀ (j : Nat) (v : AV) (V : Value), cs[j]? = some v → Cs[j]? = some V → VA X none v V) (hv : ofCells (isAggT P t) cs = some v) :
    VA X none v (asV P t Cs) ∧ (isAggT P t = false → Cs.length = 1) := by
  unfold asV
  cases hb : isAggT P t with
  | true =>
    rw [hb] at hv
    cases hv
    exact ⟨.agg none _ Cs hl h, fun h => by cases h⟩
  | false =>
    rw [hb] at hv
    simp only [ofCells] at hv
    split at hv
    · rename_i u
      cases hv
      obtain ⟨V, rfl⟩ := List.length_eq_one_iff.1 hl
      exact ⟨h 0 _ V rfl rfl, fun _ => rfl⟩
    · cases hv
theorem part_get {α : Type} {cs : List α} {off n j : Nat} {v : α} (h : (Bm.part cs off n)[j]? = some v) : j < n ∧ cs[off + j]? = some v := by
  simp only [Bm.part, List.getElem?_take, List.getElem?_drop] at h
  split at h
  · exact ⟨‹_›, h⟩
  · cases h


theorem node_of {H : List Blk} (hH : HeapOk X H) {b : Nat} {ρ : List Stp} {L : Loc} {x : Nd} (hL : X.loc b ρ = some L) (h : (nodeE b ρ).Gives ok (getB H) x) : NdRel X b ρ L x ∧ H[b]? = some (getB H b) ∧ (getB H b).sub ρ = some x := by
  obtain ⟨B, x', hB, hx, hr⟩ := hH.of_loc hL
  obtain ⟨y, h1, h2⟩ := gives_node h
  rw [getB_of hB] at h1 ⊢
  unfold Blk.sub at hx ⊢
  rw [h1] at hx ⊢
  have h3 := Nd.go_of_sub (show y.sub ρ = some x' from hx)
  rw [h2] at h3
  cases h3
  exact ⟨hr, hB, hx⟩
theorem refL_get (b : Nat) (ρ : List Stp) (i : Nat) : ∀ (cs : List AV) (o j : Nat), (refL b ρ i o cs)[j]? = (cs[j]?).map (refC b ρ i (o + j))
  | [], o, j => by simp [refL]
  | c :: cs, o, 0 => by simp [refL]
  | c :: cs, o, j + 1 => by simp [refL, refL_get b ρ i cs (o + 1) j, Nat.add_assoc, Nat.add_comm 1 j]
theorem refL_len (b : Nat) (ρ : List Stp) (i : Nat) : ∀ (cs : List AV) (o : Nat), (refL b ρ i o cs).length = cs.length
  | [], o => rfl
  | c :: cs, o => by simp [refL, refL_len b ρ i cs (o + 1)]
/-- A cell, as it is read. -/
theorem refC_sound {b : Nat} {ρ : List Stp} {i o : Nat} {x : Nd} {v : AV} {V : Value} (h : VA X (keyOf x b ρ i o) v V) : VA X none (refC b ρ i o v) V := by
  by_cases hv : isOwn v = true
  · cases v with
    | own sz n f =>
      unfold keyOf at h
      split at h
      · cases h with | own _ _ _ _ _ A cap L hL hs hl hn hA =>
        refine .ms none b _ 0 n A cap L hL hn (by omega) fun h0 => ?_
        simpa using hA h0
      · cases h
    | _ => cases hv
  · have : refC b ρ i o v = v := by cases v <;> first | rfl | exact absurd rfl hv
    rw [this]
    exact h.any (by simpa using hv) _
theorem scal_sound {κ : Option Key} {v : AV} {V : Value} (h : VA X κ v V) (ho : V.oneCell' = true) : VA X none v.scal V := by
  cases h <;> first
    | exact .pv _ _ _ (.bad _ ho)
    | exact .pv _ _ _ ‹_›
theorem spanL_len (f : Nat → List AV) (i : Nat) : ∀ n, (spanL f i n).length = n
  | 0 => rfl
  | n + 1 => by simp [spanL, spanL_len f i n]
theorem spanL_get (f : Nat → List AV) (i : Nat) : ∀ (n j : Nat), j < n → (spanL f i n)[j]? = some ((f (i + j)).getD 0 dead).scal
  | 0, j, h => by omega
  | n + 1, j, h => by
    simp only [spanL]
    by_cases hj : j < n
    · rw [List.getElem?_append_left (by rw [spanL_len]; exact hj)]
      exact spanL_get f i n j hj
    · have : j = n := by omega
      subst this
      rw [List.getElem?_append_right (by rw [spanL_len]; exact Nat.le_refl _), spanL_len]
      simp
theorem room_of {b : Nat} {ρ : List Stp} {L : Loc} {x : Nd} (h : NdRel X b ρ L x) {i : Nat} (hi : i < L.len) : 0 < L.room := by
  have h1 := h.fit
  have h2 := lt_mul_of (by rw [← h.len]; exact hi) h.pos (sz := x.sz) (n := x.n) (i := i) (j := 0)
  omega

theorem loadE_sound (hH : HeapOk X st.heap) (hw : X.w = w) {t : TypeId} {x v : AV} {Vx : Value} (hx : VA X none x Vx) (h : (loadE P t x).Gives ok (getB st.heap) v) : ∃ V, VA X none v V ∧ (Instr.loadAt t Vx).run P w = .ok V w := by
  subst hw
  unfold loadE at h
  obtain ⟨n, hn, h'⟩ := gives_opt h; clear h; revert h'; intro h
  split at h
  · rename_i b ρ i o
    obtain ⟨y, hy, h'⟩ := gives_bind h; clear h; revert h'; intro h
    cases hx with | ptr _ _ _ _ _ L hL hi => ?_
    obtain ⟨hr, _, _⟩ := node_of hH hL hy
    have h0 := room_of hr hi
    obtain ⟨cur, e, hb, hc, hm⟩ := hr.mem h0
    have hfit := hr.fit
    have hi' : i < y.n := by rw [← hr.len]; exact hi
    split at h
    · rename_i h1
      have h1 := Nat.le_of_ble_eq_true h1
      obtain ⟨u, hu, h2⟩ := gives_opt h
      cases h2
      rw [hr.row i hi'] at h1
      have hend : (i + 1) * y.sz ≤ y.n * y.sz := Nat.mul_le_mul_right y.sz hi'
      rw [Nat.add_mul, Nat.one_mul] at hend
      have hl : ((cur.toList.drop (i * y.sz + o)).take n).length = (refL b ρ i o (Bm.part (y.f i) o n)).length := by
        rw [refL_len]
        simp [Bm.part, hr.row i hi']; omega
      have hs := ofCells_sound (X := X) hl (fun j u V hu hV => by
        rw [refL_get] at hu
        cases hp : (Bm.part (y.f i) o n)[j]? with
        | none => rw [hp] at hu; cases hu
        | some q =>
          rw [hp] at hu
          cases hu
          obtain ⟨hj, hq⟩ := part_get hp
          obtain ⟨_, hV⟩ := part_get (cs := cur.toList) hV
          exact refC_sound (hm i (o + j) q V hi' hq (by rw [← Array.getElem?_toList, ← Nat.add_assoc]; exact hV)).1) hu
      have hn' : sizeT P t = some ((cur.toList.drop (i * y.sz + o)).take n).length := by rw [hn]; simp; omega
      refine ⟨_, hs.1, ?_⟩
      rw [hr.sz, load_run hn' hs.2 (fun j V hV => ?_)]
      obtain ⟨_, hV⟩ := part_get (cs := cur.toList) hV
      rw [hb.cell, ← Array.getElem?_toList]
      exact hV
    · obtain ⟨h2, h3⟩ := gives_chk h
      cases h3
      simp only [Bool.and_eq_true] at h2
      obtain ⟨⟨⟨⟨⟨g1, g2⟩, g3⟩, g4⟩, g5⟩, g6⟩ := h2
      have g2 := Nat.eq_of_beq_eq_true g2
      have g3 := Nat.eq_of_beq_eq_true g3
      have g4 := Nat.le_of_ble_eq_true g4
      subst g3
      have hl : ((cur.toList.drop i).take n).length = (spanL y.f i n).length := by rw [spanL_len]; simp; rw [g2] at hfit; omega
      have hs := ofCells_sound (X := X) (P := P) (t := t) (v := .agg (spanL y.f i n)) hl (fun j u V hu hV => by
        obtain ⟨hj, hV⟩ := part_get (cs := cur.toList) hV
        rw [spanL_get y.f i n j hj] at hu
        cases hu
        have hlen := hr.row (i + j) (by omega)
        rw [g2] at hlen
        obtain ⟨q, hq⟩ := List.length_eq_one_iff.1 hlen
        rw [hq]
        have := hm (i + j) 0 q V (by omega) (by rw [hq]; rfl) (by rw [g2, ← Array.getElem?_toList]; simpa using hV)
        exact scal_sound this.1 this.2.1) (by rw [g6]; rfl)
      have hn' : sizeT P t = some ((cur.toList.drop i).take n).length := by rw [hn]; simp; rw [g2] at hfit; omega
      refine ⟨_, hs.1, ?_⟩
      rw [hr.sz, g2, Nat.mul_one, Nat.add_zero, load_run hn' hs.2 (fun j V hV => ?_)]
      obtain ⟨_, hV⟩ := part_get (cs := cur.toList) hV
      rw [hb.cell, ← Array.getElem?_toList]
      exact hV
  · rename_i b ρ i o m k
    obtain ⟨h1, h'⟩ := gives_chk h; clear h; revert h'; intro h
    obtain ⟨y, hy, h'⟩ := gives_bind h; clear h; revert h'; intro h
    obtain ⟨h2, h3⟩ := gives_chk h
    cases h3
    simp only [Bool.and_eq_true, Bool.not_eq_true'] at h1
    have g1 := Nat.eq_of_beq_eq_true h1.1
    have h2 := Nat.le_of_ble_eq_true h2
    cases hx with | aptr _ _ _ _ _ _ _ L hL hi hk => ?_
    obtain ⟨hr, _, _⟩ := node_of hH hL hy
    have h0 := room_of hr hi
    obtain ⟨cur, e, hb, hc, hm⟩ := hr.mem h0
    have hfit := hr.fit
    have hi' : i < y.n := by rw [← hr.len]; exact hi
    have hrow := hr.row i hi'
    rw [hrow] at h2
    have hlt := lt_mul_of hi' (show o + k < y.sz by omega)
    have hV : cur[i * y.sz + (o + k)]? = some (cur[i * y.sz + (o + k)]'(by omega)) := Array.getElem?_eq_getElem _
    have hcl : (y.f i)[o + k]? = some ((y.f i)[o + k]'(by omega)) := List.getElem?_eq_getElem _
    have hv := hm i (o + k) _ _ hi' hcl hV
    have e1 : (Bm.part (y.f i) o m).getD k dead = (y.f i)[o + k]'(by omega) := by
      refine getD_of ?_
      simp only [Bm.part, List.getElem?_take, List.getElem?_drop, if_pos hk]
      exact hcl
    rw [e1]
    refine ⟨_, scal_sound hv.1 hv.2.1, ?_⟩
    have hn' : sizeT P t = some [cur[i * y.sz + (o + k)]'(by omega)].length := by rw [hn, g1]; rfl
    rw [hr.sz, load_run (Cs := [cur[i * y.sz + (o + k)]'(by omega)]) hn' (fun _ => rfl) (fun j V hV' => ?_)]
    · unfold asV; rw [h1.2]; rfl
    · cases j with
      | zero => cases hV'; rw [Nat.add_zero, hb.cell]; exact hV
      | succ j => cases hV'
  · rename_i cs off
    obtain ⟨h1, h'⟩ := gives_chk h; clear h; revert h'; intro h
    obtain ⟨u, hu, h2⟩ := gives_opt h
    cases h2
    have h1 := Nat.le_of_ble_eq_true h1
    cases hx with | pref _ _ _ g o C hc hp => ?_
    have hl : ((List.range n).map fun j => C (off + j)).length = ((Bm.part cs off n).map AV.pv).length := by simp [Bm.part]; omega
    have hs := ofCells_sound (X := X) hl (fun j u V hu hV => by
      rw [List.getElem?_map] at hu hV
      cases hu' : (Bm.part cs off n)[j]? with
      | none => rw [hu'] at hu; cases hu
      | some p =>
        rw [hu'] at hu
        cases hu
        obtain ⟨hj, hp'⟩ := part_get hu'
        rw [List.getElem?_range hj] at hV
        cases hV
        exact .pv _ _ _ (hp _ _ hp')) hu
    have hn' : sizeT P t = some ((List.range n).map fun j => C (off + j)).length := by rw [hn]; simp
    refine ⟨_, hs.1, ?_⟩
    rw [load_run hn' hs.2 (fun j V hV => ?_)]
    rw [List.getElem?_map] at hV
    by_cases hj : j < n
    · rw [List.getElem?_range hj] at hV
      cases hV
      rw [Nat.add_assoc]
      exact (hc (off + j) (by omega)).2
    · rw [List.getElem?_eq_none (by simpa using hj)] at hV; cases hV
  · cases h

/-! ### addresses of fields and elements -/
theorem fieldAddr_sound {s : TypeId} {x v : AV} {i : Nat} {Vx : Value} (hx : VA X none x Vx) (h : fieldAddrV P s x i = some v) : ∃ V, VA X none v V ∧ (Instr.fieldAt s Vx i).run P w = .ok V w := by
  unfold fieldAddrV at h
  split at h
  · cases h
  · rename_i o ho
    unfold offsOf at ho
    split at ho
    · rename_i fs hs
      split at ho
      · rename_i f hf
        split at ho
        · rename_i m hm
          cases ho
          have run : ∀ g o', (Instr.fieldAt s (.pointer (some ⟨g, o', none⟩)) i).run P w = .ok (.pointer (some ⟨g, o' + f.offset, none⟩)) w := fun g o' => by
            simp [Instr.fieldAt, run_underlying hs, hf, Instr.sureAddr, fieldPlace, sizeOf_run hm, add_none]
          split at h
          · cases h
            cases hx with | ptr _ _ _ _ _ L hL hi => exact ⟨_, .ptr _ _ _ _ _ L hL hi, by rw [run, Nat.add_assoc]⟩
          · cases h
            cases hx with | pref _ _ _ g o C hc hp => exact ⟨_, .pref _ _ _ g o C hc hp, by rw [run, Nat.add_assoc]⟩
          · cases h
        · cases ho
      · cases ho
    · cases ho

theorem field_sound {s : TypeId} {x v : AV} {i : Nat} {Vx : Value} (hx : VA X none x Vx) (h : fieldV P s x i = some v) : ∃ V, VA X none v V ∧ (Instr.field s Vx i).run P w = .ok V w := by
  unfold fieldV at h
  split at h
  · rename_i fs hs
    split at h
    · rename_i f cs hf
      split at h
      · rename_i n hn
        obtain ⟨h1, h'⟩ := bif_some h; clear h; revert h'; intro h
        have h1 := Nat.le_of_ble_eq_true h1
        obtain ⟨Cs, rfl, hl, hr⟩ := hx.agg_inv
        obtain ⟨d, hd⟩ := sizeT_under hn
        have hl' : ((Cs.drop f.offset).take n).length = (Bm.part cs f.offset n).length := by simp [Bm.part, hl]
        have hs' := ofCells_sound (X := X) hl' (fun j u V hu hV => by
          obtain ⟨hj, hu⟩ := part_get hu
          obtain ⟨_, hV⟩ := part_get (cs := Cs) hV
          exact hr _ u V hu hV) h
        refine ⟨_, hs'.1, ?_⟩
        have hp := part_run (P := P) hd hn Cs f.offset (by rw [hl]; exact h1) (fun hb => by have := hs'.2 hb; simp at this; omega) w
        simp [Instr.field, run_underlying hs, hf, asAgg, hp]
      · cases h
    · cases h
  · cases h


theorem addN_eq (lo i : Nat) : addN lo i = lo + i := by cases lo <;> simp [addN]

theorem mulN_eq (i s : Nat) : mulN i s = i * s := by
  unfold mulN
  split
  · simp
  · rfl
theorem pickE_ok {i : Int} {H : Nat → Blk} : ∀ (n k : Nat) {r : Option Nat}, (pickE i n k).Gives ok H r → ∀ m, r = some m → i = (m : Int)
  | 0, k, r, h, m, hm => by cases h; cases hm
  | n + 1, k, r, h, m, hm => by
    rcases h with ⟨h0, h⟩ | h
    · cases h; cases hm
      exact of_decide_eq_true h0
    · exact pickE_ok n (k + 1) h m hm
theorem litE_ok {i : Int} {n : Nat} {H : Nat → Blk} {r : Option Nat} (h : (litE i n).Gives ok H r) : ∀ m, r = some m → i = (m : Int) := by
  rcases h with ⟨_, h⟩ | h
  · exact pickE_ok n 0 h
  · intro m hm; cases h; cases hm
theorem idxE_sound (hH : HeapOk X st.heap) {t : TypeId} {x ix v : AV} {Vx Vi : Value} (hx : VA X none x Vx) (hi : VA X none ix Vi) (h : (idxE P t x ix).Gives ok (getB st.heap) v) :
    ∃ V, VA X none v V ∧ (Instr.indexAt t Vx Vi).run P w = .ok V w := by
  unfold idxE at h
  split at h
  · rename_i ki i
    have e1 := hi.int_inv
    subst e1
    split at h
    · rename_i n e hu
      obtain ⟨s, hs, h'⟩ := gives_opt h; clear h; revert h'; intro h
      obtain ⟨h2, h3, h⟩ := h
      have h2 := of_decide_eq_true h2
      have h3 := of_decide_eq_true h3
      have hlt : i.toNat < n := by omega
      have hc : 0 ≤ i ∧ i < (n : Int) := ⟨h2, h3⟩
      split at h
      · rename_i b ρ j o
        obtain ⟨y, hy, h'⟩ := gives_bind h; clear h; revert h'; intro h
        cases hx with | ptr _ _ _ _ _ L hL hj => ?_
        obtain ⟨hr, _, _⟩ := node_of hH hL hy
        split at h
        · rename_i g1
          obtain ⟨g2, g3, h5⟩ := gives_chk h
          cases h5
          simp only [Bool.and_eq_true] at g2
          have g1 := Nat.eq_of_beq_eq_true g1
          have g3 := Nat.le_of_ble_eq_true g3
          have g4 := Nat.eq_of_beq_eq_true g2.1
          have g5 := Nat.le_of_ble_eq_true g2.2
          subst g4
          have g6 : (i.toNat + 1) * s ≤ n * s := Nat.mul_le_mul_right s hlt
          rw [Nat.add_mul] at g6
          refine ⟨_, .ptr none b ρ (addN j (mulN i.toNat s)) 0 L hL (by rw [addN_eq, mulN_eq, hr.len]; omega), ?_⟩
          rw [addN_eq, mulN_eq, hr.sz, g1]
          simp [Instr.indexAt, asIntOf, run_underlying hu, Instr.sureAddr, hc, sizeOf_run hs, add_none]
        · obtain ⟨g2, h5⟩ := gives_chk h
          simp only [Bool.and_eq_true] at g2
          have g3 := Nat.eq_of_beq_eq_true g2.1
          subst g3
          obtain ⟨k, hk, h6⟩ := gives_bind h5
          cases h6
          have hkk := litE_ok hk
          refine ⟨.pointer (some ⟨L.g, j * L.sz + (o + i.toNat), none⟩), ?_, ?_⟩
          · cases k with
            | none => exact .aptr none b ρ j o n i.toNat L hL hj hlt
            | some k =>
              have e : i.toNat = k := by have := hkk k rfl; omega
              rw [e]
              exact .ptr none b ρ j (o + k) L hL hj
          · simp [Instr.indexAt, asIntOf, run_underlying hu, Instr.sureAddr, hc, sizeOf_run hs, add_none, Nat.add_assoc]
      · rename_i cs off
        obtain ⟨g2, h5⟩ := gives_chk h
        cases h5
        simp only [Bool.and_eq_true] at g2
        have g1 := Nat.eq_of_beq_eq_true g2.1
        subst g1
        have g2 := Nat.le_of_ble_eq_true g2.2
        cases hx with | pref _ _ _ g o C hcc hp => ?_
        have hget : (Bm.part cs off n)[i.toNat]? = cs[off + i.toNat]? := by simp [Bm.part, hlt]
        have hcl : cs[off + i.toNat]? = some (cs[off + i.toNat]'(by omega)) := List.getElem?_eq_getElem _
        have e1 : (Bm.part cs off n).getD i.toNat .bad = cs[off + i.toNat]'(by omega) := getD_of (hget.trans hcl)
        rw [e1]
        refine ⟨_, .pref none _ 0 g (o + off + i.toNat) (fun _ => C (off + i.toNat)) (fun j hj => ?_) (fun j p hj => ?_), ?_⟩
        · have hj : j = 0 := by simpa using hj
          subst hj
          rw [Nat.add_zero, Nat.add_assoc]
          exact hcc _ (by omega)
        · cases j with
          | zero => cases hj; exact hp _ _ hcl
          | succ j => cases hj
        · simp [Instr.indexAt, asIntOf, run_underlying hu, Instr.sureAddr, hc, sizeOf_run hs, add_none]
      · cases h
    · rename_i e hu
      obtain ⟨s, hs, h'⟩ := gives_opt h; clear h; revert h'; intro h
      split at h
      · rename_i n f
        obtain ⟨h2, h3, h⟩ := h
        obtain ⟨h1, h4⟩ := gives_chk h
        cases h4
        have h1 := Nat.eq_of_beq_eq_true h1
        have h2 := of_decide_eq_true h2
        have h3 := of_decide_eq_true h3
        have hlt : i.toNat < n := by omega
        cases hx with | pv _ _ _ hx => ?_
        cases hx with | seq _ _ A cap sz C hn hs' hA hp => ?_
        obtain ⟨g, o, rfl, hc⟩ := hA (by omega)
        have hsz : sz = s := (hs' _ hlt).symm.trans h1
        subst hsz
        refine ⟨_, .pref none (f i.toNat) 0 g (o + i.toNat * sz) (fun j => C i.toNat j) (fun j hj => ?_) (fun j p hj => hp _ _ _ hlt hj), ?_⟩
        · rw [h1] at hj
          have := hc i.toNat j hlt hj
          rw [← Nat.add_assoc] at this
          exact this
        · have hc : 0 ≤ i ∧ i < (n : Int) := ⟨h2, h3⟩
          simp [Instr.indexAt, asIntOf, run_underlying hu, hc, sizeOf_run hs, add_none]
      · rename_i b ρ lo n
        obtain ⟨y, hy, h'⟩ := gives_bind h; clear h; revert h'; intro h
        obtain ⟨h1, h2, h3, h4⟩ := gives_chk h
        cases h4
        have h1 := Nat.eq_of_beq_eq_true h1
        have h2 := of_decide_eq_true h2
        have h3 := of_decide_eq_true h3
        have hlt : i.toNat < n := by omega
        cases hx with | ms _ _ _ _ _ A cap L hL hn hl hA => ?_
        obtain ⟨hr, _, _⟩ := node_of hH hL hy
        obtain ⟨rfl, hroom⟩ := hA (by omega)
        refine ⟨_, .ptr none b ρ (addN lo i.toNat) 0 L hL (by rw [addN_eq]; omega), ?_⟩
        rw [addN_eq]
        have hc : 0 ≤ i ∧ i < (n : Int) := ⟨h2, h3⟩
        simp [Instr.indexAt, asIntOf, run_underlying hu, hc, sizeOf_run hs, add_none, hr.sz, h1, Nat.add_mul]
      · cases h
    · cases h
  · cases h

/-! ### parts of slices and of strings -/
theorem boundE_sound {H : Nat → Blk} {x : Option AV} {Vx : Option Value} {dflt n i : Nat} (hx : ∀ v, x = some v → ∃ V, Vx = some V ∧ VA X none v V) (hn : x = none → Vx = none) (h : (boundE x dflt n).Gives ok H i) :
    (x = none → i = dflt) ∧ (x ≠ none → i ≤ n ∧ ∃ (kk : IntKind) (z : Int), Vx = some (.int kk z) ∧ z = (i : Int)) := by
  unfold boundE at h
  split at h
  · cases h; exact ⟨fun _ => rfl, fun hh => absurd rfl hh⟩
  · rename_i kk z
    obtain ⟨h2, h3, h⟩ := h
    cases h
    have h2 := of_decide_eq_true h2
    have h3 := of_decide_eq_true h3
    obtain ⟨V, hV, hv⟩ := hx _ rfl
    have := hv.int_inv
    subst this
    exact ⟨(fun hh => by cases hh), fun _ => ⟨by omega, kk, z, hV, by omega⟩⟩
  · cases h
theorem bound_run {k : IntKind} {z : Int} {i y : Nat} (hz : z = (i : Int)) (hi : i ≤ y) (c : BoundsCode) : (Instr.sliceBound (.int k z) y c).run P w = .ok i w := by
  subst hz
  have : (0 : Int) ≤ (i : Int) ∧ (i : Int) ≤ (y : Int) := ⟨by omega, by omega⟩
  simp [Instr.sliceBound, asIntOf, this]

/-- Of bounds of a slice expression that are met. -/
theorem bounds_run {isSlice : Bool} {len cap h l : Nat} {vl vh : Option Value} (hlen : len ≤ cap) (hh : h ≤ cap) (hl : l ≤ h)
    (eh : (vh = none ∧ h = len) ∨ ∃ (k : IntKind) (z : Int), vh = some (.int k z) ∧ z = (h : Int)) (el : (vl = none ∧ l = 0) ∨ ∃ (k : IntKind) (z : Int), vl = some (.int k z) ∧ z = (l : Int)) :
    (Instr.sliceBounds isSlice len cap vl vh none).run P w = .ok (l, h, cap) w := by
  rcases eh with ⟨rfl, rfl⟩ | ⟨k, z, rfl, hz⟩ <;> rcases el with ⟨rfl, rfl⟩ | ⟨k', z', rfl, hz'⟩
  · simp [Instr.sliceBounds]
  · simp [Instr.sliceBounds, bound_run hz' hl]
  · simp [Instr.sliceBounds, bound_run hz hh]
  · simp [Instr.sliceBounds, bound_run hz hh, bound_run hz' hl]

theorem zelem_len {t : TypeId} (i : Nat) : zelem P t i = zelem P t 0 := rfl


theorem sliceE_sound (hH : HeapOk X st.heap) {t : TypeId} {x v : AV} {Vx : Value} {lo hi mx : Option AV} {Vlo Vhi Vmx : Option Value} (hx : VA X none x Vx)
    (hlo : (∀ v, lo = some v → ∃ V, Vlo = some V ∧ VA X none v V) ∧ (lo = none → Vlo = none)) (hhi : (∀ v, hi = some v → ∃ V, Vhi = some V ∧ VA X none v V) ∧ (hi = none → Vhi = none))
    (hmx : (∀ v, mx = some v → ∃ V, Vmx = some V ∧ VA X none v V) ∧ (mx = none → Vmx = none)) (h : (sliceE P t x lo hi mx).Gives ok (getB st.heap) v) :
    ∃ V, VA X none v V ∧ (Instr.sliceAt t Vx Vlo Vhi Vmx).run P w = .ok V w := by
  unfold sliceE at h
  split at h
  · rename_i e hu
    obtain ⟨z, hz, h'⟩ := gives_opt h; clear h; revert h'; intro h
    split at h
    · rename_i km
      obtain ⟨Vm, rfl, hvm⟩ := hmx.1 _ rfl
      have e0 := hvm.int_inv
      subst e0
      have key : ∀ (A : Option Addr) (n cap : Nat), Vx = .slice A n cap → ∀ kh, hi = some (.pv (.int kh 0)) → lo = none → (Instr.sliceAt t Vx Vlo Vhi (some (.int km 0))).run P w = .ok (.slice A 0 0) w := by
        intro A n cap hV kh hhi' hlo'
        subst hV hhi' hlo'
        obtain ⟨Vh, rfl, hvh⟩ := hhi.1 _ rfl
        have e1 := hvh.int_inv
        have e2 := hlo.2 rfl
        subst e1 e2
        have b1 := bound_run (P := P) (w := w) (k := km) (z := 0) (i := 0) (y := cap) rfl (Nat.zero_le _) .slice3Acap
        have b2 := bound_run (P := P) (w := w) (k := kh) (z := 0) (i := 0) (y := 0) rfl (Nat.zero_le _) .slice3B
        simp [Instr.sliceAt, run_underlying hu, Instr.slice, Instr.sliceBounds, b1, b2, sizeOf_run hz]
      split at h
      · cases h
        cases hx with | pv _ _ _ hx => ?_
        cases hx with | seq n f A cap sz C hn hs' hA hp => exact ⟨_, .nil _ _ A, key _ _ _ rfl _ rfl rfl⟩
      · cases h
        cases hx with | nil _ f A => exact ⟨_, .nil _ _ A, key _ _ _ rfl _ rfl rfl⟩
      · cases h
        cases hx with | ms _ _ _ _ _ A cap L hL hn hl hA => exact ⟨_, .nil _ _ A, key _ _ _ rfl _ rfl rfl⟩
      · cases h
    · cases h
    · have e3 := hmx.2 rfl
      subst e3
      have main : ∀ (n hh ll : Nat), (boundE hi n n).Gives ok (getB st.heap) hh → (boundE lo 0 hh).Gives ok (getB st.heap) ll → hh ≤ n ∧ ll ≤ hh ∧
          ∀ (A : Option Addr) (cap : Nat), n ≤ cap → Vx = .slice A n cap → (Instr.sliceAt t Vx Vlo Vhi none).run P w = .ok (.slice (if cap = ll then A else A.map (·.add (ll * z))) (hh - ll) (cap - ll)) w := by
        intro n hh ll h1 h2
        obtain ⟨b1, b2⟩ := boundE_sound (n := n) hhi.1 hhi.2 h1
        obtain ⟨b3, b4⟩ := boundE_sound (n := hh) hlo.1 hlo.2 h2
        have hhn : hh ≤ n := by
          cases hi with
          | none => have := b1 rfl; omega
          | some _ => exact (b2 (by simp)).1
        have hll : ll ≤ hh := by
          cases lo with
          | none => have := b3 rfl; omega
          | some _ => exact (b4 (by simp)).1
        have eh : (Vhi = none ∧ hh = n) ∨ ∃ (k : IntKind) (z : Int), Vhi = some (.int k z) ∧ z = (hh : Int) := by
          cases hi with
          | none => exact .inl ⟨hhi.2 rfl, b1 rfl⟩
          | some _ => obtain ⟨_, k, z, hk, hz⟩ := b2 (by simp); exact .inr ⟨k, z, hk, hz⟩
        have el : (Vlo = none ∧ ll = 0) ∨ ∃ (k : IntKind) (z : Int), Vlo = some (.int k z) ∧ z = (ll : Int) := by
          cases lo with
          | none => exact .inl ⟨hlo.2 rfl, b3 rfl⟩
          | some _ => obtain ⟨_, k, z, hk, hz⟩ := b4 (by simp); exact .inr ⟨k, z, hk, hz⟩
        refine ⟨hhn, hll, fun A cap hc hV => ?_⟩
        subst hV
        have hb := bounds_run (P := P) (w := w) (isSlice := true) hc (Nat.le_trans hhn hc) hll eh el
        simp [Instr.sliceAt, run_underlying hu, Instr.slice, hb, sizeOf_run hz]
      split at h
      · rename_i n f
        cases hx with | pv _ _ _ hx => ?_
        cases hx with | seq _ _ A cap sz C hn hs' hA hp => ?_
        obtain ⟨hh, g1, h'⟩ := gives_bind h; clear h; revert h'; intro h
        obtain ⟨ll, g2, h'⟩ := gives_bind h; clear h; revert h'; intro h
        obtain ⟨hhn, hll, hrun⟩ := main n hh ll g1 g2
        obtain ⟨h4, h5⟩ := gives_chk h
        cases h5
        have h4 := Nat.eq_of_beq_eq_true h4
        refine ⟨_, .pv none _ _ (.seq (hh - ll) _ _ (cap - ll) sz (fun i j => C (ll + i) j) (by omega) (fun i hi => ?_) (fun h0 => ?_) (fun i j p hi hp' => ?_)), hrun A cap hn rfl⟩
        · unfold cutP; rw [if_pos hi]; exact hs' _ (by omega)
        · obtain ⟨g, o, rfl, hc⟩ := hA (by omega)
          have hne : ¬ cap = ll := by omega
          have hszz : sz = z := (hs' ll (by omega)).symm.trans h4
          refine ⟨g, o + ll * z, by rw [if_neg hne]; simp [add_none], fun i j hi hj => ?_⟩
          have := hc (ll + i) j (by omega) hj
          rw [Nat.add_mul, hszz] at this
          rw [hszz, show o + ll * z + (i * z + j) = o + (ll * z + i * z + j) by omega]
          exact this
        · unfold cutP at hp'; rw [if_pos hi] at hp'
          exact hp _ _ _ (by omega) hp'
      · rename_i b ρ s n
        obtain ⟨y, hy, h'⟩ := gives_bind h; clear h; revert h'; intro h
        obtain ⟨h1, h'⟩ := gives_chk h; clear h; revert h'; intro h
        have h1 := Nat.eq_of_beq_eq_true h1
        obtain ⟨hh, g1, h'⟩ := gives_bind h; clear h; revert h'; intro h
        obtain ⟨ll, g2, h'⟩ := gives_bind h; clear h; revert h'; intro h
        cases h
        obtain ⟨hhn, hll, hrun⟩ := main n hh ll g1 g2
        cases hx with | ms _ _ _ _ _ A cap L hL hn hl hA => ?_
        obtain ⟨hr, _, _⟩ := node_of hH hL hy
        refine ⟨_, .ms none b ρ (addN s ll) (hh - ll) _ (cap - ll) L hL (by omega) (by rw [addN_eq]; omega) (fun h0 => ?_), hrun A cap hn rfl⟩
        obtain ⟨rfl, hroom⟩ := hA (by omega)
        rw [addN_eq, if_neg (by omega)]
        refine ⟨by simp [add_none, hr.sz, h1, Nat.add_mul], ?_⟩
        rw [show s + ll + (cap - ll) = s + cap by omega]
        exact hroom
      · cases h
  · rename_i hu
    split at h
    · cases h
    · have e3 := hmx.2 rfl
      subst e3
      split at h
      · rename_i s
        have e4 := hx.str_inv
        subst e4
        obtain ⟨hh, h1, h'⟩ := gives_bind h; clear h; revert h'; intro h
        obtain ⟨ll, h2, h'⟩ := gives_bind h; clear h; revert h'; intro h
        cases h
        obtain ⟨b1, b2⟩ := boundE_sound (n := s.size) hhi.1 hhi.2 h1
        obtain ⟨b3, b4⟩ := boundE_sound (n := hh) hlo.1 hlo.2 h2
        have hhn : hh ≤ s.size := by
          cases hi with
          | none => have := b1 rfl; omega
          | some _ => exact (b2 (by simp)).1
        have hll : ll ≤ hh := by
          cases lo with
          | none => have := b3 rfl; omega
          | some _ => exact (b4 (by simp)).1
        have eh : (Vhi = none ∧ hh = s.size) ∨ ∃ (k : IntKind) (z : Int), Vhi = some (.int k z) ∧ z = (hh : Int) := by
          cases hi with
          | none => exact .inl ⟨hhi.2 rfl, b1 rfl⟩
          | some _ => obtain ⟨_, k, z, hk, hz⟩ := b2 (by simp); exact .inr ⟨k, z, hk, hz⟩
        have el : (Vlo = none ∧ ll = 0) ∨ ∃ (k : IntKind) (z : Int), Vlo = some (.int k z) ∧ z = (ll : Int) := by
          cases lo with
          | none => exact .inl ⟨hlo.2 rfl, b3 rfl⟩
          | some _ => obtain ⟨_, k, z, hk, hz⟩ := b4 (by simp); exact .inr ⟨k, z, hk, hz⟩
        have hb := bounds_run (P := P) (w := w) (isSlice := false) (Nat.le_refl s.size) hhn hll eh el
        exact ⟨_, .pv _ _ _ (.str _), by simp [Instr.sliceAt, run_underlying hu, Instr.slice, hb]⟩
      · cases h
  · cases h
end
end Go.Bm
