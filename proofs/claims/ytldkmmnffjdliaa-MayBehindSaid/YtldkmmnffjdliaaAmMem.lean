/- The abstract machine is sound, operation by operation: addresses, loads, slices, literals of structs. -/
import Derived.Test.YtldkmmnffjdliaaAmOps
namespace Go.Am
set_option autoImplicit false
set_option linter.unusedVariables false
set_option linter.unusedSimpArgs false

section
variable {P : Program} {X0 X : Ctx} {st : St} {a : Act} {w : World}

theorem bif_some {R : Type} {b : Bool} {k : Option R} {r : R} (h : (bif b then k else none) = some r) : b = true ∧ k = some r := by
  cases b
  · cases h
  · exact ⟨rfl, h⟩

theorem getB_take {H : List Blk} {n b : Nat} {B : Blk} (h : getB (H.take n) b = B) (hB : B ≠ .gone) : H[b]? = some B := by
  unfold getB List.getD at h
  rw [List.getElem?_take] at h
  split at h
  · cases hb : H[b]? with
    | none => rw [hb] at h; exact absurd h.symm hB
    | some B' => rw [hb] at h; exact congrArg some h
  · exact absurd h.symm hB

theorem add_none (g o j : Nat) : (⟨g, o, none⟩ : Addr).add j = ⟨g, o + j, none⟩ := by unfold Addr.add; split <;> simp_all

/-! ### loads -/
theorem load_run {t : TypeId} {g o : Nat} {Cs : List Value} (hn : sizeT P t = some Cs.length) (h1 : isAggT P t = false → Cs.length = 1)
    (hc : ∀ (j : Nat) (V : Value), Cs[j]? = some V → w.cell? ⟨g, o + j, none⟩ = some V) : (Instr.loadAt t (.pointer (some ⟨g, o, none⟩))).run P w = .ok (asV P t Cs) w := by
  obtain ⟨d, hd⟩ := sizeT_under hn
  simp only [Instr.loadAt, Instr.sureAddr, Sem.run_bind, Sem.run_pure, Result.andThen_ok, loadVar, isAgg_run hd]
  cases hb : isAggT P t with
  | true =>
    have hl := run_loadCells_list (P := P) w ⟨g, o, none⟩ Cs (fun j V hV => by rw [add_none]; exact hc j V hV)
    simp [sizeOf_run hn, hl, asV, hb]
  | false =>
    have hl := h1 hb
    obtain ⟨V, rfl⟩ := List.length_eq_one_iff.1 hl
    have := hc 0 V rfl
    simp at this
    simp [asV, hb, this]

theorem ofCells_sound {t : TypeId} {cs : List AV} {Cs : List Value} {v : AV} (hl : Cs.length = cs.length) (h : ∀ (j : Nat) (v : AV) (V : Value), cs[j]? = some v → Cs[j]? = some V → ∃ π, VA X π v V) (hv : ofCells (isAggT P t) cs = some v) :
    VA X none v (asV P t Cs) ∧ (isAggT P t = false → Cs.length = 1) := by
  unfold asV
  cases hb : isAggT P t with
  | true =>
    rw [hb] at hv
    cases hv
    refine ⟨.agg none _ Cs (by simp [hl]) fun j u V hu hV => ?_, fun h => by cases h⟩
    rw [List.getElem?_map] at hu
    cases hc : cs[j]? with
    | none => rw [hc] at hu; cases hu
    | some c =>
      rw [hc] at hu
      cases hu
      obtain ⟨π, hh⟩ := h j c V hc hV
      exact hh.borrow none
  | false =>
    rw [hb] at hv
    simp only [ofCells] at hv
    split at hv
    · rename_i u
      cases hv
      obtain ⟨V, rfl⟩ := List.length_eq_one_iff.1 hl
      obtain ⟨π, hh⟩ := h 0 u V rfl rfl
      exact ⟨hh.borrow none, fun _ => rfl⟩
    · cases hv

theorem part_get {α : Type} {cs : List α} {off n j : Nat} {v : α} (h : (Am.part cs off n)[j]? = some v) : j < n ∧ cs[off + j]? = some v := by
  simp only [Am.part, List.getElem?_take, List.getElem?_drop] at h
  split at h
  · exact ⟨‹_›, h⟩
  · cases h

theorem loadV_sound (hH : HeapOk X st.heap) (hw : X.w = w) {m : Nat} {t : TypeId} {x v : AV} {Vx : Value} (hx : VA X none x Vx) (h : loadV P (st.heap.take m) t x = some v) : ∃ V, VA X none v V ∧ (Instr.loadAt t Vx).run P w = .ok V w := by
  subst hw
  unfold loadV at h
  split at h
  · cases h
  · rename_i n hn
    split at h
    · rename_i b off
      split at h
      · rename_i cs hB
        obtain ⟨h1, h⟩ := bif_some h
        have h1 := Nat.le_of_ble_eq_true h1
        cases hx with | ptr _ _ _ hd => ?_
        obtain ⟨_, cur, e, hb, hc, hr⟩ := hH.blk b _ (getB_take hB (by simp))
        have hl : ((cur.toList.drop off).take n).length = (Am.part cs off n).length := by simp [Am.part, hc]
        have hs := ofCells_sound (X := X) hl (fun j u V hu hV => by
          obtain ⟨hj, hu⟩ := part_get hu
          obtain ⟨_, hV⟩ := part_get (cs := cur.toList) hV
          exact ⟨_, (hr (off + j) u V hu (by rw [← Array.getElem?_toList]; exact hV)).1⟩) h
        have hn' : sizeT P t = some ((cur.toList.drop off).take n).length := by rw [hn]; simp; omega
        refine ⟨_, hs.1, ?_⟩
        rw [load_run hn' hs.2 (fun j V hV => ?_)]
        · obtain ⟨_, hV⟩ := part_get (cs := cur.toList) hV
          rw [cellAt hb, ← Array.getElem?_toList]
          exact hV
      · cases h
    · rename_i b i off
      split at h
      · rename_i sz len f hB
        obtain ⟨h1, h⟩ := bif_some h
        have h1 := Nat.le_of_ble_eq_true h1
        cases hx with | aptr _ _ _ _ hd hi => ?_
        obtain ⟨_, hsz, hln, hz, cur, e, hb, hc, hf, hr⟩ := hH.blk b _ (getB_take hB (by simp))
        rw [hln] at hi
        have hend : (i + 1) * sz ≤ len * sz := Nat.mul_le_mul_right sz hi
        rw [Nat.add_mul, Nat.one_mul] at hend
        have hl : ((cur.toList.drop (i * sz + off)).take n).length = (Am.part (f i) off n).length := by
          have := hf i hi
          simp [Am.part, hc, this]; omega
        have hs := ofCells_sound (X := X) hl (fun j u V hu hV => by
          obtain ⟨hj, hu⟩ := part_get hu
          obtain ⟨_, hV⟩ := part_get (cs := cur.toList) hV
          exact ⟨_, (hr i (off + j) u V hi hu (by rw [← Array.getElem?_toList, ← Nat.add_assoc]; exact hV)).1⟩) h
        have hn' : sizeT P t = some ((cur.toList.drop (i * sz + off)).take n).length := by rw [hn]; simp [hc]; omega
        refine ⟨_, hs.1, ?_⟩
        rw [hsz, load_run hn' hs.2 (fun j V hV => ?_)]
        · obtain ⟨_, hV⟩ := part_get (cs := cur.toList) hV
          rw [cellAt hb, ← Array.getElem?_toList]
          exact hV
      · cases h
    · rename_i cs off
      obtain ⟨h1, h⟩ := bif_some h
      have h1 := Nat.le_of_ble_eq_true h1
      cases hx with | pref _ _ _ g o C hc hp => ?_
      have hl : ((List.range n).map fun j => C (off + j)).length = ((Am.part cs off n).map AV.pv).length := by simp [Am.part]; omega
      have hs := ofCells_sound (X := X) hl (fun j u V hu hV => by
        rw [List.getElem?_map] at hu hV
        cases hu' : (Am.part cs off n)[j]? with
        | none => rw [hu'] at hu; cases hu
        | some p =>
          rw [hu'] at hu
          cases hu
          obtain ⟨hj, hp'⟩ := part_get hu'
          rw [List.getElem?_range hj] at hV
          cases hV
          exact ⟨none, .pv _ _ _ (hp _ _ hp')⟩) h
      have hn' : sizeT P t = some ((List.range n).map fun j => C (off + j)).length := by rw [hn]; simp
      refine ⟨_, hs.1, ?_⟩
      rw [load_run hn' hs.2 (fun j V hV => ?_)]
      · rw [List.getElem?_map] at hV
        by_cases hj : j < n
        · rw [List.getElem?_range hj] at hV
          cases hV
          rw [Nat.add_assoc]
          exact (hc (off + j) (by omega)).2
        · rw [List.getElem?_eq_none (by simpa using hj)] at hV; cases hV
    · cases h

/-! ### addresses of fields and elements -/
theorem fieldAddr_sound {s : TypeId} {x v : AV} {i : Nat} {Vx : Value} (hx : VA X none x Vx) (h : fieldAddrV P s x i = some v) : ∃ V, VA X none v V ∧ (Instr.fieldAt s Vx i).run P w = .ok V w := by
  unfold fieldAddrV at h
  split at h
  · cases h
  · rename_i o ho
    unfold offsOf at ho
    split at ho
    · rename_i fs hs
      split at ho
      · rename_i f hf
        split at ho
        · rename_i m hm
          cases ho
          have run : ∀ g o', (Instr.fieldAt s (.pointer (some ⟨g, o', none⟩)) i).run P w = .ok (.pointer (some ⟨g, o' + f.offset, none⟩)) w := fun g o' => by
            simp [Instr.fieldAt, run_underlying hs, hf, Instr.sureAddr, fieldPlace, sizeOf_run hm, add_none]
          split at h
          · cases h
            cases hx with | ptr _ _ _ hd => exact ⟨_, .ptr _ _ _ hd, run _ _⟩
          · cases h
            cases hx with | aptr _ _ _ _ hd hi => exact ⟨_, .aptr _ _ _ _ hd hi, by rw [run, Nat.add_assoc]⟩
          · cases h
            cases hx with | pref _ _ _ g o C hc hp => exact ⟨_, .pref _ _ _ g o C hc hp, by rw [run, Nat.add_assoc]⟩
          · cases h
        · cases ho
      · cases ho
    · cases ho

theorem field_sound {s : TypeId} {x v : AV} {i : Nat} {Vx : Value} (hx : VA X none x Vx) (h : fieldV P s x i = some v) : ∃ V, VA X none v V ∧ (Instr.field s Vx i).run P w = .ok V w := by
  unfold fieldV at h
  split at h
  · rename_i fs hs
    split at h
    · rename_i f cs hf
      split at h
      · rename_i n hn
        obtain ⟨h1, h⟩ := bif_some h
        have h1 := Nat.le_of_ble_eq_true h1
        obtain ⟨Cs, rfl, hl, hr⟩ := hx.agg_inv
        obtain ⟨d, hd⟩ := sizeT_under hn
        have hl' : ((Cs.drop f.offset).take n).length = (Am.part cs f.offset n).length := by simp [Am.part, hl]
        have hs' := ofCells_sound (X := X) hl' (fun j u V hu hV => by
          obtain ⟨hj, hu⟩ := part_get hu
          obtain ⟨_, hV⟩ := part_get (cs := Cs) hV
          exact ⟨none, hr _ u V hu hV⟩) h
        refine ⟨_, hs'.1, ?_⟩
        have hp := part_run (P := P) hd hn Cs f.offset (by rw [hl]; exact h1) (fun hb => by have := hs'.2 hb; simp at this; omega) w
        simp [Instr.field, run_underlying hs, hf, asAgg, hp]
      · cases h
    · cases h
  · cases h

theorem addN_eq (lo i : Nat) : addN lo i = lo + i := by cases lo <;> simp [addN]

theorem idxK_sound (hH : HeapOk X st.heap) {m : Nat} {t : TypeId} {x ix : AV} {Vx Vi : Value} {R : Type} {k : AV → Option R} {r : R} (hx : VA X none x Vx) (hi : VA X none ix Vi) (h : idxK P (st.heap.take m) t x ix k = some r) :
    ∃ v V, k v = some r ∧ VA X none v V ∧ (Instr.indexAt t Vx Vi).run P w = .ok V w := by
  unfold idxK at h
  split at h
  · rename_i ki i
    have e1 := hi.int_inv
    subst e1
    split at h
    · rename_i n e hu
      split at h
      · rename_i s b j hs
        split at h
        · rename_i sz len f hB
          obtain ⟨h1, h⟩ := need_some h
          obtain ⟨h2, h⟩ := need_some h
          obtain ⟨h3, h⟩ := need_some h
          simp only [Bool.and_eq_true] at h1
          obtain ⟨⟨c1, c2⟩, c3⟩ := h1
          have c1 := Nat.eq_of_beq_eq_true c1
          have c2 := Nat.le_of_ble_eq_true c2
          have c3 := Nat.le_of_ble_eq_true c3
          have h2 := of_decide_eq_true h2
          have h3 := of_decide_eq_true h3
          cases hx with | aptr _ _ _ _ hd hj => ?_
          obtain ⟨_, hsz, hln, hz, _⟩ := hH.blk b _ (getB_take hB (by simp))
          have hlt : i.toNat < n := by omega
          have h4 : (i.toNat + 1) * s ≤ n * s := Nat.mul_le_mul_right s hlt
          rw [Nat.add_mul, Nat.one_mul] at h4
          refine ⟨_, _, h, .aptr none b (j + i.toNat * s) 0 hd (by rw [hln]; omega), ?_⟩
          have hc : 0 ≤ i ∧ i < (n : Int) := ⟨h2, h3⟩
          simp [Instr.indexAt, asIntOf, run_underlying hu, Instr.sureAddr, hc, sizeOf_run hs, add_none, hsz, c1]
        · cases h
      · cases h
    · rename_i e hu
      split at h
      · cases h
      · rename_i s hs
        split at h
        · rename_i n f
          obtain ⟨h2, k1⟩ := need_some h
          obtain ⟨h3, k2⟩ := need_some k1
          obtain ⟨h1, k3⟩ := need_some k2
          have h1 := Nat.eq_of_beq_eq_true h1
          have h2 := of_decide_eq_true h2
          have h3 := of_decide_eq_true h3
          have hlt : i.toNat < n := by omega
          cases hx with | pv _ _ _ hx => ?_
          cases hx with | seq _ _ A cap sz C hn hs' hA hp => ?_
          obtain ⟨g, o, rfl, hc⟩ := hA (by omega)
          have hsz : sz = s := (hs' _ hlt).symm.trans h1
          subst hsz
          refine ⟨_, _, k3, .pref none (f i.toNat) 0 g (o + i.toNat * sz) (fun j => C i.toNat j) (fun j hj => ?_) (fun j p hj => hp _ _ _ hlt hj), ?_⟩
          · rw [h1] at hj
            have := hc i.toNat j hlt hj
            rw [← Nat.add_assoc] at this
            exact this
          · have hc : 0 ≤ i ∧ i < (n : Int) := ⟨h2, h3⟩
            simp [Instr.indexAt, asIntOf, run_underlying hu, hc, sizeOf_run hs, add_none]
        · rename_i b lo n
          split at h
          · rename_i sz len f hB
            obtain ⟨h1, k1⟩ := need_some h
            obtain ⟨h2, k2⟩ := need_some k1
            obtain ⟨h3, k3⟩ := need_some k2
            have h1 := Nat.eq_of_beq_eq_true h1
            have h2 := of_decide_eq_true h2
            have h3 := of_decide_eq_true h3
            subst h1
            have hlt : i.toNat < n := by omega
            cases hx with
            | ms0 => omega
            | ms _ _ _ _ cap hd hn hl =>
              obtain ⟨_, hsz, hln, hz, _⟩ := hH.blk b _ (getB_take hB (by simp))
              refine ⟨_, _, k3, .aptr none b (addN lo i.toNat) 0 hd (by rw [addN_eq]; omega), ?_⟩
              rw [addN_eq]
              have hc : 0 ≤ i ∧ i < (n : Int) := ⟨h2, h3⟩
              simp [Instr.indexAt, asIntOf, run_underlying hu, hc, sizeOf_run hs, add_none, hsz, Nat.add_mul]
          · cases h
        · cases h
    · cases h
  · cases h

/-! ### parts of slices and of strings -/
theorem boundK_sound {x : Option AV} {Vx : Option Value} {dflt n : Nat} {R : Type} {k : Nat → Option R} {r : R} (hx : ∀ v, x = some v → ∃ V, Vx = some V ∧ VA X none v V) (hn : x = none → Vx = none) (h : boundK x dflt n k = some r) :
    ∃ i, k i = some r ∧ (x = none → i = dflt) ∧ (x ≠ none → i ≤ n ∧ ∃ (kk : IntKind) (z : Int), Vx = some (.int kk z) ∧ z = (i : Int)) := by
  unfold boundK at h
  split at h
  · exact ⟨_, h, fun _ => rfl, fun hh => absurd rfl hh⟩
  · rename_i kk i
    obtain ⟨h2, h⟩ := need_some h
    obtain ⟨h3, h⟩ := need_some h
    have h2 := of_decide_eq_true h2
    have h3 := of_decide_eq_true h3
    obtain ⟨V, hV, hv⟩ := hx _ rfl
    have := hv.int_inv
    subst this
    exact ⟨_, h, (fun hh => by cases hh), fun _ => ⟨by omega, kk, i, hV, by omega⟩⟩
  · cases h

theorem bound_run {k : IntKind} {z : Int} {i y : Nat} (hz : z = (i : Int)) (hi : i ≤ y) (c : BoundsCode) : (Instr.sliceBound (.int k z) y c).run P w = .ok i w := by
  subst hz
  have : (0 : Int) ≤ (i : Int) ∧ (i : Int) ≤ (y : Int) := ⟨by omega, by omega⟩
  simp [Instr.sliceBound, asIntOf, this]

/-- Of bounds of a slice expression that are met. -/
theorem bounds_run {isSlice : Bool} {len cap h l : Nat} {vl vh : Option Value} (hlen : len ≤ cap) (hh : h ≤ cap) (hl : l ≤ h)
    (eh : (vh = none ∧ h = len) ∨ ∃ (k : IntKind) (z : Int), vh = some (.int k z) ∧ z = (h : Int)) (el : (vl = none ∧ l = 0) ∨ ∃ (k : IntKind) (z : Int), vl = some (.int k z) ∧ z = (l : Int)) :
    (Instr.sliceBounds isSlice len cap vl vh none).run P w = .ok (l, h, cap) w := by
  rcases eh with ⟨rfl, rfl⟩ | ⟨k, z, rfl, hz⟩ <;> rcases el with ⟨rfl, rfl⟩ | ⟨k', z', rfl, hz'⟩
  · simp [Instr.sliceBounds]
  · simp [Instr.sliceBounds, bound_run hz' hl]
  · simp [Instr.sliceBounds, bound_run hz hh]
  · simp [Instr.sliceBounds, bound_run hz hh, bound_run hz' hl]

theorem zelem_len {t : TypeId} (i : Nat) : zelem P t i = zelem P t 0 := rfl

theorem sliceK_sound (hH : HeapOk X st.heap) {m : Nat} {t : TypeId} {x : AV} {Vx : Value} {lo hi mx : Option AV} {Vlo Vhi Vmx : Option Value} {R : Type} {k : AV → Option R} {r : R} (hx : VA X none x Vx)
    (hlo : (∀ v, lo = some v → ∃ V, Vlo = some V ∧ VA X none v V) ∧ (lo = none → Vlo = none)) (hhi : (∀ v, hi = some v → ∃ V, Vhi = some V ∧ VA X none v V) ∧ (hi = none → Vhi = none))
    (hmx : (∀ v, mx = some v → ∃ V, Vmx = some V ∧ VA X none v V) ∧ (mx = none → Vmx = none)) (h : sliceK P (st.heap.take m) t x lo hi mx k = some r) :
    ∃ v V, k v = some r ∧ VA X none v V ∧ (Instr.sliceAt t Vx Vlo Vhi Vmx).run P w = .ok V w := by
  unfold sliceK at h
  split at h
  · rename_i e hu
    split at h
    · cases h
    · rename_i z hz
      split at h
      · rename_i km
        obtain ⟨Vm, rfl, hvm⟩ := hmx.1 _ rfl
        have e0 := hvm.int_inv
        subst e0
        have key : ∀ (A : Option Addr) (n cap : Nat), Vx = .slice A n cap → ∀ kh, hi = some (.pv (.int kh 0)) → lo = none → (Instr.sliceAt t Vx Vlo Vhi (some (.int km 0))).run P w = .ok (.slice A 0 0) w := by
          intro A n cap hV kh hhi' hlo'
          subst hV hhi' hlo'
          obtain ⟨Vh, rfl, hvh⟩ := hhi.1 _ rfl
          have e1 := hvh.int_inv
          have e2 := hlo.2 rfl
          subst e1 e2
          have b1 := bound_run (P := P) (w := w) (k := km) (z := 0) (i := 0) (y := cap) rfl (Nat.zero_le _) .slice3Acap
          have b2 := bound_run (P := P) (w := w) (k := kh) (z := 0) (i := 0) (y := 0) rfl (Nat.zero_le _) .slice3B
          simp [Instr.sliceAt, run_underlying hu, Instr.slice, Instr.sliceBounds, b1, b2, sizeOf_run hz]
        split at h
        · cases hx with | pv _ _ _ hx => ?_
          cases hx with | seq n f A cap sz C hn hs' hA hp => exact ⟨_, _, h, .nil _ _ A, key _ _ _ rfl _ rfl rfl⟩
        · cases hx with | nil _ f A => exact ⟨_, _, h, .nil _ _ A, key _ _ _ rfl _ rfl rfl⟩
        · cases h
      · cases h
      · have e3 := hmx.2 rfl
        subst e3
        have main : ∀ (n : Nat) (R : Type) (k : Nat → Nat → Option R) (r : R), (boundK hi n n fun h => boundK lo 0 h fun l => k h l) = some r → ∃ hh ll, k hh ll = some r ∧ hh ≤ n ∧ ll ≤ hh ∧
            ∀ (A : Option Addr) (cap : Nat), n ≤ cap → Vx = .slice A n cap → (Instr.sliceAt t Vx Vlo Vhi none).run P w = .ok (.slice (if cap = ll then A else A.map (·.add (ll * z))) (hh - ll) (cap - ll)) w := by
          intro n R k r h
          obtain ⟨hh, h1, b1, b2⟩ := boundK_sound (n := n) hhi.1 hhi.2 h
          obtain ⟨ll, h2, b3, b4⟩ := boundK_sound (n := hh) hlo.1 hlo.2 h1
          have hhn : hh ≤ n := by
            cases hi with
            | none => have := b1 rfl; omega
            | some _ => exact (b2 (by simp)).1
          have hll : ll ≤ hh := by
            cases lo with
            | none => have := b3 rfl; omega
            | some _ => exact (b4 (by simp)).1
          have eh : (Vhi = none ∧ hh = n) ∨ ∃ (k : IntKind) (z : Int), Vhi = some (.int k z) ∧ z = (hh : Int) := by
            cases hi with
            | none => exact .inl ⟨hhi.2 rfl, b1 rfl⟩
            | some _ => obtain ⟨_, k, z, hk, hz⟩ := b2 (by simp); exact .inr ⟨k, z, hk, hz⟩
          have el : (Vlo = none ∧ ll = 0) ∨ ∃ (k : IntKind) (z : Int), Vlo = some (.int k z) ∧ z = (ll : Int) := by
            cases lo with
            | none => exact .inl ⟨hlo.2 rfl, b3 rfl⟩
            | some _ => obtain ⟨_, k, z, hk, hz⟩ := b4 (by simp); exact .inr ⟨k, z, hk, hz⟩
          refine ⟨hh, ll, h2, hhn, hll, fun A cap hc hV => ?_⟩
          subst hV
          have hb := bounds_run (P := P) (w := w) (isSlice := true) hc (Nat.le_trans hhn hc) hll eh el
          simp [Instr.sliceAt, run_underlying hu, Instr.slice, hb, sizeOf_run hz]
        split at h
        · rename_i n f
          cases hx with | pv _ _ _ hx => ?_
          cases hx with | seq _ _ A cap sz C hn hs' hA hp => ?_
          obtain ⟨hh, ll, h3, hhn, hll, hrun⟩ := main n R _ r h
          obtain ⟨h4, h5⟩ := need_some h3
          have h4 := Nat.eq_of_beq_eq_true h4
          refine ⟨_, _, h5, .pv none _ _ (.seq (hh - ll) _ _ (cap - ll) sz (fun i j => C (ll + i) j) (by omega) (fun i hi => ?_) (fun h0 => ?_) (fun i j p hi hp' => ?_)), hrun A cap hn rfl⟩
          · rw [if_pos hi]; exact hs' _ (by omega)
          · obtain ⟨g, o, rfl, hc⟩ := hA (by omega)
            have hne : ¬ cap = ll := by omega
            have hszz : sz = z := (hs' ll (by omega)).symm.trans h4
            refine ⟨g, o + ll * z, by rw [if_neg hne]; simp [add_none], fun i j hi hj => ?_⟩
            have := hc (ll + i) j (by omega) hj
            rw [Nat.add_mul, hszz] at this
            rw [hszz, show o + ll * z + (i * z + j) = o + (ll * z + i * z + j) by omega]
            exact this
          · rw [if_pos hi] at hp'
            exact hp _ _ _ (by omega) hp'
        · rename_i b s n
          split at h
          · rename_i sz len f hB
            obtain ⟨h1, h2⟩ := need_some h
            have h1 := Nat.eq_of_beq_eq_true h1
            obtain ⟨hh, ll, h3, hhn, hll, hrun⟩ := main n R _ r h2
            cases hx with
            | ms0 _ _ _ A cap hd =>
              have e1 : hh = 0 := by omega
              have e2 : ll = 0 := by omega
              subst e1 e2
              exact ⟨_, _, h3, .ms0 _ _ _ _ _ hd, hrun A cap (Nat.zero_le _) rfl⟩
            | ms _ _ _ _ cap hd hn hl =>
              obtain ⟨_, hsz, hln, hz0, _⟩ := hH.blk b _ (getB_take hB (by simp))
              have hr := hrun _ cap hn rfl
              by_cases hc : cap = ll
              · have e1 : hh - ll = 0 := by omega
                rw [if_pos hc] at hr
                rw [e1] at hr h3
                exact ⟨_, _, h3, .ms0 _ _ _ _ _ hd, hr⟩
              · rw [if_neg hc] at hr
                refine ⟨_, _, h3, .ms none b (s + ll) (hh - ll) (cap - ll) hd (by omega) (by omega), ?_⟩
                rw [hr]
                simp [add_none, hsz, h1, Nat.add_mul]
          · cases h
        · cases h
  · rename_i hu
    split at h
    · cases h
    · have e3 := hmx.2 rfl
      subst e3
      split at h
      · rename_i s
        have e4 := hx.str_inv
        subst e4
        obtain ⟨hh, h1, b1, b2⟩ := boundK_sound (n := s.size) hhi.1 hhi.2 h
        obtain ⟨ll, h2, b3, b4⟩ := boundK_sound (n := hh) hlo.1 hlo.2 h1
        have hhn : hh ≤ s.size := by
          cases hi with
          | none => have := b1 rfl; omega
          | some _ => exact (b2 (by simp)).1
        have hll : ll ≤ hh := by
          cases lo with
          | none => have := b3 rfl; omega
          | some _ => exact (b4 (by simp)).1
        have eh : (Vhi = none ∧ hh = s.size) ∨ ∃ (k : IntKind) (z : Int), Vhi = some (.int k z) ∧ z = (hh : Int) := by
          cases hi with
          | none => exact .inl ⟨hhi.2 rfl, b1 rfl⟩
          | some _ => obtain ⟨_, k, z, hk, hz⟩ := b2 (by simp); exact .inr ⟨k, z, hk, hz⟩
        have el : (Vlo = none ∧ ll = 0) ∨ ∃ (k : IntKind) (z : Int), Vlo = some (.int k z) ∧ z = (ll : Int) := by
          cases lo with
          | none => exact .inl ⟨hlo.2 rfl, b3 rfl⟩
          | some _ => obtain ⟨_, k, z, hk, hz⟩ := b4 (by simp); exact .inr ⟨k, z, hk, hz⟩
        have hb := bounds_run (P := P) (w := w) (isSlice := false) (Nat.le_refl s.size) hhn hll eh el
        exact ⟨_, _, h2, .pv _ _ _ (.str _), by simp [Instr.sliceAt, run_underlying hu, Instr.slice, hb]⟩
      · cases h
  · cases h
end
end Go.Am
