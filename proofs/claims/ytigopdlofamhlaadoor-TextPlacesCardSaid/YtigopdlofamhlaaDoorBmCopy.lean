/- The abstract machine is sound, operation by operation: marks of bytes, copies, arrays that are sliced. -/
import Derived.Test.YtigopdlofamhlaaDoorBmAppE
import Derived.Laws.BytesString
namespace Go.Bm
set_option autoImplicit false
set_option linter.unusedVariables false
set_option linter.unusedSimpArgs false

section
variable {P : Program} {X0 X : Ctx} {st : St} {a : Act} {w W : World} {ok : Ob → Prop}

/-! ### bytes that a string shares -/
theorem NdRel.stab2 {X Y : Ctx} (hS : Stab X Y) {b : Nat} {ρ : List Stp} {L : Loc} {x : Nd} (h : NdRel X b ρ L x) (hb : 0 < L.room → ∀ cur e, RowAt X.w L.g cur e → RowAt Y.w L.g cur e) : NdRel Y b ρ L x :=
  ⟨h.sz, h.len, h.pos, h.fit, h.row, fun h0 => by
    obtain ⟨cur, e, h1, h2, h3⟩ := h.mem h0
    exact ⟨cur, e, hb h0 cur e h1, h2, fun i j v V hi hv hV => ⟨(h3 i j v V hi hv hV).1.stab hS, (h3 i j v V hi hv hV).2⟩⟩⟩
theorem Inv.frz (h : Inv X0 X st a w) {g : Nat} (hg : Wr X g) (hW : Wrote w W g) (hr : ∀ cur e, RowAt w g cur e → RowAt W g cur e) : ∃ X', Inv X0 X' st a W ∧ ∀ v V, VA X none v V → VA X' none v V := by
  have hw := h.hw
  subst hw
  have hrow : ∀ k cur e, RowAt X.w k cur e → RowAt W k cur e := fun k cur e q => by
    by_cases hk : k = g
    · subst hk; exact hr cur e q
    · exact q.to (hW.old k hk)
  have hS : Stab X { X with w := W } := ⟨fun k off hk => ⟨hk, World.cell?_of_block (w := X.w) (a := ⟨k, off, none⟩) (hW.old k fun e => hg.free h.heap off (e ▸ hk))⟩, fun _ _ _ h => h⟩
  refine ⟨{ X with w := W }, ⟨rfl, h.hd, h.tsz, fun t v V hv hV => (h.tmps t v V hv hV).stab hS, ⟨fun b B hB ρ => ?_, h.heap.lt, h.heap.inj, h.heap.free⟩, fun k hk => h.fresh k (by rw [← hW.size]; exact hk), h.fr.wrote hW hg (fun _ _ => Iff.rfl) (fun _ hk => hk), h.base, h.glo.stab hS.R⟩, fun v V hv => hv.stab hS⟩
  have := h.heap.blk b B hB ρ
  split at this
  · obtain ⟨L, h1, h2⟩ := this
    exact ⟨L, h1, h2.stab2 hS fun _ cur e q => hrow _ cur e q⟩
  · exact this
theorem freeze_row {g n : Nat} {cur : Array Value} {e : TypeId} (h : RowAt w g cur e) (hn : cur.size ≤ n) : RowAt (w.freeze ⟨g, n, none⟩ 1) g cur e ∧ Wrote w (w.freeze ⟨g, n, none⟩ 1) g := by
  obtain ⟨fr, h1, h2⟩ := h
  have hlt : g < w.heap.size := (Array.getElem?_eq_some_iff.1 h1).1
  have hv : w.heap[g] = .cells cur e fr := (Array.getElem?_eq_some_iff.1 h1).2
  refine ⟨⟨if fr.1 == fr.2 then (n, n + 1) else (min fr.1 n, max fr.2 (n + 1)), ?_, ?_⟩, ?_, ?_, rfl, rfl, rfl⟩
  · unfold World.freeze
    rw [if_neg (by decide), Array.getElem?_eq_getElem (by simpa using hlt), Array.getElem_modify]
    simp [hv]
  · by_cases he : fr.1 = fr.2
    · simp [he]; exact hn
    · rw [if_neg (by simpa using he)]
      rcases h2 with h2 | h2
      · exact absurd h2 he
      · exact .inr (by simp only; omega)
  · simp [World.freeze]
  · intro k hk
    simp [World.freeze, Array.getElem?_modify, Ne.symm hk]
theorem isU8_under {e : TypeId} (h : isU8 P e = true) : P.underlying e = some (.int .u8) := by
  unfold isU8 at h
  split at h
  · assumption
  · cases h
theorem mark_sound (h : Inv X0 X st a w) {src e : TypeId} (hu : P.underlying src = some (.slice e)) (h8 : isU8 P e = true) {b : Nat} {q : List Stp} {lo n : Nat} (hn : 1 ≤ n) {Vx : Value} (hx : VA X none (.ms b q lo n) Vx) (dst : Option Nat) :
    ∃ X' V W, (convert src src Vx).run P w = .ok V W ∧ Inv X0 X' ((Eff.mk (.ms b q lo n) [] []).on dst st) (a.put dst V) W := by
  have hw := h.hw
  subst hw
  cases hx with | ms _ _ _ _ _ A cap L hL hnc hl hA => ?_
  obtain ⟨rfl, hroom⟩ := hA (by omega)
  obtain ⟨B, x, hB, hs, hr⟩ := h.heap.of_loc hL
  have h0 : 0 < L.room := room_of hr (show lo < L.len by omega)
  obtain ⟨cur, ty, q1, q2, q3⟩ := hr.mem h0
  obtain ⟨f1, f2⟩ := freeze_row q1 (Nat.le_refl cur.size)
  have hsh : X.w.shape? L.g = some (ty, cur.size) := by
    obtain ⟨fr, q1, _⟩ := q1
    simp [World.shape?, q1]
  obtain ⟨X', hI, hv⟩ := h.frz ⟨b, q, L, hL, h0, rfl⟩ f2 (fun cur' e' k => by obtain ⟨rfl, rfl⟩ := q1.eq k; exact f1)
  refine ⟨X', _, _, ?_, hI.val dst (hv _ _ (.ms none b q lo n _ cap L hL hnc hl fun _ => ⟨rfl, hroom⟩))⟩
  simp [convert, run_underlying hu, run_underlying (isU8_under h8), markStringish, hsh]

/-! ### arrays that are sliced -/
theorem sliceA_sound (hH : HeapOk X st.heap) {t : TypeId} {x v : AV} {Vx : Value} {lo hi mx : Option AV} {Vlo Vhi Vmx : Option Value} (hx : VA X none x Vx)
    (hlo : (∀ v, lo = some v → ∃ V, Vlo = some V ∧ VA X none v V) ∧ (lo = none → Vlo = none)) (hhi : (∀ v, hi = some v → ∃ V, Vhi = some V ∧ VA X none v V) ∧ (hi = none → Vhi = none))
    (hmx : (∀ v, mx = some v → ∃ V, Vmx = some V ∧ VA X none v V) ∧ (mx = none → Vmx = none)) (h : (sliceA P t x lo hi mx).Gives ok (getB st.heap) v) :
    ∃ V, VA X none v V ∧ (Instr.sliceAt t Vx Vlo Vhi Vmx).run P w = .ok V w := by
  unfold sliceA at h
  split at h
  · rename_i n e hu
    obtain ⟨z, hz, h'⟩ := gives_opt h; clear h; revert h'; intro h
    split at h
    · rename_i b ρ j
      obtain ⟨y, hy, h'⟩ := gives_bind h; clear h; revert h'; intro h
      obtain ⟨h1, h'⟩ := gives_chk h; clear h; revert h'; intro h
      have h1 := Nat.eq_of_beq_eq_true h1
      obtain ⟨h2, h⟩ := h
      have h2 := Nat.le_of_ble_eq_true h2
      obtain ⟨hh, g1, h'⟩ := gives_bind h; clear h; revert h'; intro h
      obtain ⟨ll, g2, h'⟩ := gives_bind h; clear h; revert h'; intro h
      cases h
      have e3 := hmx.2 rfl
      subst e3
      obtain ⟨b1, b2⟩ := boundE_sound (n := n) hhi.1 hhi.2 g1
      obtain ⟨b3, b4⟩ := boundE_sound (n := hh) hlo.1 hlo.2 g2
      have hhn : hh ≤ n := by
        cases hi with
        | none => have := b1 rfl; omega
        | some _ => exact (b2 (by simp)).1
      have hll : ll ≤ hh := by
        cases lo with
        | none => have := b3 rfl; omega
        | some _ => exact (b4 (by simp)).1
      have eh : (Vhi = none ∧ hh = n) ∨ ∃ (k : IntKind) (z : Int), Vhi = some (.int k z) ∧ z = (hh : Int) := by
        cases hi with
        | none => exact .inl ⟨hhi.2 rfl, b1 rfl⟩
        | some _ => obtain ⟨_, k, z, hk, hz⟩ := b2 (by simp); exact .inr ⟨k, z, hk, hz⟩
      have el : (Vlo = none ∧ ll = 0) ∨ ∃ (k : IntKind) (z : Int), Vlo = some (.int k z) ∧ z = (ll : Int) := by
        cases lo with
        | none => exact .inl ⟨hlo.2 rfl, b3 rfl⟩
        | some _ => obtain ⟨_, k, z, hk, hz⟩ := b4 (by simp); exact .inr ⟨k, z, hk, hz⟩
      cases hx with | ptr _ _ _ _ _ L hL hi' => ?_
      obtain ⟨hr, _, _⟩ := node_of hH hL hy
      have hb := bounds_run (P := P) (w := w) (isSlice := false) (Nat.le_refl n) hhn hll eh el
      have hlen := hr.len
      have hfit := hr.fit
      refine ⟨.slice (some (if n = ll then (⟨L.g, j * L.sz + 0, none⟩ : Addr) else (⟨L.g, j * L.sz + 0, none⟩ : Addr).add (ll * z))) (hh - ll) (n - ll), .ms none b ρ (addN j ll) (hh - ll) _ (n - ll) L hL (by omega) (by rw [addN_eq]; omega) (fun h0 => ?_), ?_⟩
      · rw [addN_eq, if_neg (by omega)]
        refine ⟨by simp [add_none, hr.sz, h1, Nat.add_mul], ?_⟩
        have : (j + ll + (n - ll)) * L.sz ≤ y.n * y.sz := by
          rw [hr.sz]
          exact Nat.mul_le_mul_right _ (by omega)
        omega
      · simp [Instr.sliceAt, Instr.sureAddr, run_underlying hu, hb, sizeOf_run hz]
    · rename_i cs off
      split at h
      · obtain ⟨h1, h'⟩ := gives_chk h; clear h; revert h'; intro h
        cases h
        simp only [Bool.and_eq_true] at h1
        obtain ⟨⟨c1, c2⟩, c3⟩ := h1
        have c1 := Nat.eq_of_beq_eq_true c1
        have c2 := Nat.eq_of_beq_eq_true c2
        have c3 := Nat.eq_of_beq_eq_true c3
        subst c1 c2
        have e1 := hlo.2 rfl
        have e2 := hhi.2 rfl
        have e3 := hmx.2 rfl
        subst e1 e2 e3
        cases hx with | pref _ _ _ g o C hc hp => ?_
        have hb := bounds_run (P := P) (w := w) (isSlice := false) (Nat.le_refl n) (Nat.le_refl n) (Nat.zero_le n) (.inl ⟨rfl, rfl⟩) (.inl ⟨rfl, rfl⟩)
        refine ⟨.slice (some (if n = 0 then (⟨g, o + 0, none⟩ : Addr) else (⟨g, o + 0, none⟩ : Addr).add (0 * 1))) (n - 0) (n - 0), .pv _ _ _ ?_, ?_⟩
        · rw [Nat.sub_zero]
          refine .seq n _ _ n 1 (fun i _ => C i) (Nat.le_refl _) (fun i hi => by rw [decide_eq_true hi]; rfl) (fun h0 => ⟨g, o, by rw [if_neg (by omega)]; simp [add_none], fun i j hi hj => ?_⟩) fun i j p hi hpj => ?_
          · have : j = 0 := by omega
            subst this
            have := hc i (by omega)
            rw [show o + (i * 1 + 0) = o + i by omega]
            exact this
          · rw [decide_eq_true hi] at hpj
            cases j with
            | succ j => cases hpj
            | zero =>
              have hpj : some (cs.getD i .bad) = some p := hpj
              cases hpj
              have hi' : i < cs.length := by omega
              exact hp i _ (by rw [List.getElem?_eq_getElem hi']; simp [List.getD, hi'])
        · simp [Instr.sliceAt, Instr.sureAddr, run_underlying hu, hb, sizeOf_run hz]
      · cases h
    · cases h
  · cases h
theorem sliceX_sound (hH : HeapOk X st.heap) {t : TypeId} {x v : AV} {Vx : Value} {lo hi mx : Option AV} {Vlo Vhi Vmx : Option Value} (hx : VA X none x Vx)
    (hlo : (∀ v, lo = some v → ∃ V, Vlo = some V ∧ VA X none v V) ∧ (lo = none → Vlo = none)) (hhi : (∀ v, hi = some v → ∃ V, Vhi = some V ∧ VA X none v V) ∧ (hi = none → Vhi = none))
    (hmx : (∀ v, mx = some v → ∃ V, Vmx = some V ∧ VA X none v V) ∧ (mx = none → Vmx = none)) (h : (sliceX P t x lo hi mx).Gives ok (getB st.heap) v) :
    ∃ V, VA X none v V ∧ (Instr.sliceAt t Vx Vlo Vhi Vmx).run P w = .ok V w := by
  unfold sliceX at h
  split at h
  · exact sliceA_sound hH hx hlo hhi hmx h
  · exact sliceE_sound hH hx hlo hhi hmx h

/-! ### bytes as strings -/
theorem fold_push : ∀ (ns : List Int) (r : ByteArray), ns.foldl (fun r n => r.push (UInt8.ofNat n.toNat)) r = ⟨r.data ++ (ns.map fun n => UInt8.ofNat n.toNat).toArray⟩
  | [], r => by simp
  | n :: ns, r => by
    rw [List.foldl_cons, fold_push ns]
    congr 1
    simp [ByteArray.push]
theorem strE_sound (hH : HeapOk X st.heap) (hw : X.w = w) {src dst e : TypeId} (hs : P.underlying src = some (.slice e)) (hd : P.underlying dst = some .string) {x v : AV} {Vx : Value} (hx : VA X none x Vx) (h : (strE P e x).Gives ok (getB st.heap) v) :
    ∃ V, VA X none v V ∧ (convert src dst Vx).run P w = .ok V w := by
  subst hw
  unfold strE at h
  split at h
  · rename_i b ρ lo n
    obtain ⟨h8, h'⟩ := gives_chk h; clear h; revert h'; intro h
    obtain ⟨y, hy, h'⟩ := gives_bind h; clear h; revert h'; intro h
    obtain ⟨h1, h'⟩ := gives_chk h; clear h; revert h'; intro h
    simp only [Bool.and_eq_true] at h1
    obtain ⟨h1, h2⟩ := h1
    have h2 := Nat.eq_of_beq_eq_true h2
    obtain ⟨h3, h⟩ := h
    cases h
    have h8 := isU8_under h8
    cases hx with | ms _ _ _ _ _ A cap L hL hnc hl hA => ?_
    obtain ⟨hr, _, _⟩ := node_of hH hL hy
    refine ⟨_, .pv _ _ _ (.str _), ?_⟩
    rw [run_convert_bytes_string _ _ _ _ _ _ _ hs h8 hd]
    rcases Nat.eq_zero_or_pos n with h0 | h0
    · subst h0
      cases A with
      | none => rfl
      | some a =>
        have := run_bytesToString (P := P) X.w a 0 cap [] (by simp [loadCells, loadCellsFrom])
        exact this
    · obtain ⟨rfl, hroom⟩ := hA (by omega)
      have h00 : 0 < L.room := by
        have h5 := hr.fit
        have h6 := lt_mul_of (show 0 < y.n by have := hr.len; omega) hr.pos
        omega
      obtain ⟨cur, ty, q1, q2, q3⟩ := hr.mem h00
      have hfit := hr.fit
      have hlen := hr.len
      have hsz : L.sz = 1 := by rw [hr.sz, h2]
      rw [h2, Nat.mul_one] at hfit
      have each : ∀ i, i < n → ∃ m : Int, y.f (lo + i) = [.pv (.int .u8 m)] ∧ cur[lo + i]? = some (.int .u8 m) := fun i hi => by
        have hb := List.all_eq_true.1 h3 i (List.mem_range.2 hi)
        unfold byteC at hb
        split at hb
        · rename_i m hm
          refine ⟨m, hm, ?_⟩
          have hlt : lo + i < cur.size := by omega
          have hc : cur[(lo + i) * y.sz + 0]? = some cur[lo + i] := by
            rw [h2, Nat.mul_one, Nat.add_zero]; exact Array.getElem?_eq_getElem hlt
          obtain ⟨p1, _, _⟩ := q3 (lo + i) 0 (.pv (.int .u8 m)) _ (by omega) (by rw [hm]; rfl) hc
          rw [Array.getElem?_eq_getElem hlt]
          have p1 := p1.any rfl none
          cases p1 with | pv _ _ _ p1 => ?_
          generalize cur[lo + i] = Z at p1 ⊢
          cases p1
          rfl
        · cases hb
      let ms : Nat → Int := fun i => match y.f (lo + i) with | [.pv (.int .u8 m)] => m | _ => 0
      have hms : ∀ i, i < n → cur[lo + i]? = some (.int .u8 (ms i)) ∧ byteC (y.f (lo + i)) = some (ms i).toNat := fun i hi => by
        obtain ⟨m, m1, m2⟩ := each i hi
        have : ms i = m := by show (match y.f (lo + i) with | [.pv (.int .u8 m)] => m | _ => 0) = m; rw [m1]
        rw [this, m1]
        exact ⟨m2, rfl⟩
      have hload : (loadCells ⟨L.g, lo * L.sz, none⟩ n).run P X.w = .ok (((List.range n).map ms).map (Value.int .u8)).toArray X.w := by
        have hcl : (((List.range n).map ms).map (Value.int .u8)).length = n := by simp
        have := run_loadCells_list (P := P) (w := X.w) ⟨L.g, lo * L.sz, none⟩ (((List.range n).map ms).map (Value.int .u8)) (fun j V hV => by
          rw [add_none, q1.cell, hsz, Nat.mul_one]
          have hj : j < n := by have := (List.getElem?_eq_some_iff.1 hV).1; rw [hcl] at this; exact this
          rw [List.getElem?_map, List.getElem?_map, List.getElem?_range hj] at hV
          cases hV
          exact (hms j hj).1)
        rw [hcl] at this
        exact this
      rw [run_bytesToString X.w _ n cap _ hload, fold_push]
      congr 1
      show Value.string _ = Value.string _
      congr 1
      unfold bytesOf
      congr 1
      have : ByteArray.empty.data = #[] := rfl
      rw [this, Array.empty_append]
      congr 1
      rw [List.map_map]
      refine List.map_congr_left fun i hi => ?_
      rw [(hms i (List.mem_range.1 hi)).2]
      rfl
  · obtain ⟨h8, h'⟩ := gives_chk h; clear h; revert h'; intro h
    cases h
    have h8 := isU8_under h8
    cases hx with | nil _ f A => ?_
    refine ⟨_, .pv _ _ _ (.str _), ?_⟩
    rw [run_convert_bytes_string _ _ _ _ _ _ _ hs h8 hd]
    cases A with
    | none => rfl
    | some a =>
      have := run_bytesToString (P := P) X.w a 0 0 [] (by simp [loadCells, loadCellsFrom])
      exact this
  · cases h

/-! ### copies -/
theorem num_pv {R : Nat → Nat → Prop} {w : World} {p : PV} {V : Value} (h : VP R w p V) : ∃ q, (AV.pv p).num = .pv q ∧ ∀ R' w', VP R' w' q V := by
  cases h <;> first
    | exact ⟨_, rfl, fun _ _ => .int _ _⟩
    | exact ⟨_, rfl, fun _ _ => .bool _⟩
    | exact ⟨.bad, rfl, fun _ _ => .bad _ ‹_›⟩
    | exact ⟨.bad, rfl, fun _ _ => .bad _ rfl⟩
/-- What is copied. -/
structure SrcC (w : World) (Vx : Value) (n : Nat) (g : Nat → List AV) (A : Option Addr) (cap z : Nat) (C : Nat → Nat → Value) : Prop where
  val : Vx = .slice A n cap
  row : ∀ i, i < n → (g i).length = z
  mem : 0 < n → ∃ k o, A = some ⟨k, o, none⟩ ∧ ∀ i j, i < n → j < z → w.cell? ⟨k, o + (i * z + j), none⟩ = some (C i j)
  cell : ∀ i j v, i < n → (g i)[j]? = some v → ∃ q, v = .pv q ∧ ∀ R' w', VP R' w' q (C i j)
theorem srcC_sound (hH : HeapOk X st.heap) {x : AV} {Vx : Value} (hx : VA X none x Vx) {r : Nat × (Nat → List AV)} (h : (srcC x).Gives ok (getB st.heap) r) : ∃ A cap z C, SrcC X.w Vx r.1 r.2 A cap z C := by
  unfold srcC at h
  split at h
  · rename_i n f
    cases h
    cases hx with | pv _ _ _ hx => ?_
    cases hx with | seq _ _ A cap sz C hn hs hA hp => ?_
    refine ⟨A, cap, sz, C, rfl, fun i hi => by rw [List.length_map]; exact hs i hi, fun h0 => ?_, fun i j v hi hv => ?_⟩
    · obtain ⟨g, o, e, hc⟩ := hA h0
      exact ⟨g, o, e, fun i j hi hj => (hc i j hi hj).2⟩
    · simp only at hv
      rw [List.getElem?_map] at hv
      cases hq : (f i)[j]? with
      | none => rw [hq] at hv; cases hv
      | some p =>
        rw [hq] at hv; cases hv
        exact num_pv (hp i j p hi hq)
  · cases h
    cases hx with | nil _ f A => ?_
    exact ⟨A, 0, 0, fun _ _ => undef, rfl, fun i hi => absurd hi (Nat.not_lt_zero i), fun h0 => absurd h0 (Nat.lt_irrefl 0), fun i j v hi => absurd hi (Nat.not_lt_zero i)⟩
  · rename_i c σ lo n
    obtain ⟨y, hy, h3⟩ := gives_bind h
    obtain ⟨hd, h4⟩ := gives_chk h3
    cases h4
    cases hx with | ms _ _ _ _ _ A cap L hL hn hl hA => ?_
    obtain ⟨hr, hB, hsub⟩ := node_of hH hL hy
    have hlN : lo + n ≤ y.n := by rw [← hr.len]; exact hl
    rcases Nat.eq_zero_or_pos n with h0 | h0
    · exact ⟨A, cap, y.sz, fun _ _ => undef, by rw [h0], fun i hi => by simp only at hi; omega, fun hh => by simp only at hh; omega, fun i j v hi => by simp only at hi; omega⟩
    · obtain ⟨e1, e2⟩ := hA (by omega)
      have h00 : 0 < L.room := by
        have h5 := hr.fit
        have h6 := lt_mul_of (show 0 < y.n by omega) hr.pos
        omega
      obtain ⟨cur, e, q1, q2, q3⟩ := hr.mem h00
      have hfit := hr.fit
      have key : ∀ i j, i < n → j < y.sz → cur[(lo + i) * y.sz + j]? = some (cur.getD ((lo + i) * y.sz + j) undef) := by
        intro i j hi hj
        have := lt_mul_of (show lo + i < y.n by omega) hj
        simp [Array.getD, show (lo + i) * y.sz + j < cur.size by omega]
      refine ⟨A, cap, y.sz, fun i j => cur.getD ((lo + i) * y.sz + j) undef, rfl, fun i hi => ?_, fun _ => ⟨L.g, lo * y.sz, by rw [← hr.sz]; exact e1, fun i j hi hj => ?_⟩, fun i j v hi hv => ?_⟩
      · simp only at hi ⊢
        rw [List.length_map, addN_eq]; exact hr.row _ (by omega)
      · simp only at hi
        rw [q1.cell, show lo * y.sz + (i * y.sz + j) = (lo + i) * y.sz + j by rw [Nat.add_mul]; omega]
        exact key i j hi hj
      · simp only at hi hv
        rw [List.getElem?_map, addN_eq] at hv
        cases hq : (y.f (lo + i))[j]? with
        | none => rw [hq] at hv; cases hv
        | some u =>
          rw [hq] at hv; cases hv
          have hj : j < y.sz := by
            have := (List.getElem?_eq_some_iff.1 hq).1
            rw [hr.row (lo + i) (by omega)] at this; exact this
          obtain ⟨p1, p2, p3⟩ := q3 (lo + i) j u _ (by omega) hq (key i j hi hj)
          have p3 := p3 hd
          cases u with
          | pv p =>
            have p1 := p1.any rfl none
            cases p1 with | pv _ _ _ p1 => ?_
            exact num_pv p1
          | own _ _ _ => exact ⟨.bad, rfl, fun _ _ => .bad _ p2⟩
          | _ => exact p3.elim
  · cases h
theorem splice_all {cs vs : List AV} (h : cs.length = vs.length) : splice cs 0 vs = vs := by
  simp [splice, ← h]
theorem flatC_succ (C : Nat → Nat → Value) (sz k : Nat) : flatC C sz (k + 1) = flatC C sz k ++ (List.range sz).map fun j => C k j := by
  apply List.ext_getElem?
  intro q
  by_cases hq : q < (k + 1) * sz
  · have hz : 0 < sz := by
      rcases Nat.eq_zero_or_pos sz with h0 | h0
      · rw [h0] at hq; simp at hq
      · exact h0
    have e : q = q / sz * sz + q % sz := by rw [Nat.mul_comm]; exact (Nat.div_add_mod q sz).symm
    have h1 : q / sz < k + 1 := Nat.div_lt_of_lt_mul (by rw [Nat.mul_comm]; exact hq)
    have h2 : q % sz < sz := Nat.mod_lt _ hz
    rw [e, flatC_get C h1 h2]
    by_cases h3 : q / sz < k
    · have := lt_mul_of h3 h2
      rw [List.getElem?_append_left (by rw [flatC_len]; exact this), flatC_get C h3 h2]
    · have h4 : q / sz = k := by omega
      rw [h4, List.getElem?_append_right (by rw [flatC_len]; omega), flatC_len, show k * sz + q % sz - k * sz = q % sz by omega]
      simp [h2]
  · rw [List.getElem?_eq_none (by rw [flatC_len]; omega), List.getElem?_eq_none (by rw [List.length_append, flatC_len]; simp; rw [Nat.add_mul] at hq; omega)]
theorem splice_more {α : Type} {cs vs us : List α} {o : Nat} (h : o + vs.length + us.length ≤ cs.length) : splice (splice cs o vs) (o + vs.length) us = splice cs o (vs ++ us) := by
  apply List.ext_getElem?
  intro j
  rw [splice_get (by rw [splice_len _ _ _ (by omega)]; exact h), splice_get (by omega), splice_get (by rw [List.length_append]; omega), List.length_append]
  by_cases h1 : o + vs.length ≤ j ∧ j < o + vs.length + us.length
  · rw [if_pos h1, if_pos (by omega), List.getElem?_append_right (by omega)]
    congr 1; omega
  · rw [if_neg h1]
    by_cases h2 : o ≤ j ∧ j < o + vs.length
    · rw [if_pos h2, if_pos (by omega), List.getElem?_append_left (by omega)]
    · rw [if_neg h2, if_neg (by omega)]
theorem copy_steps (h : Inv X0 X st a w) {b s sz N lo n : Nat} {f g : Nat → List AV} {L : Loc} (hL : X.loc b [] = some L) (hB : st.heap[b]? = some (.arr s sz N f)) {cur : Array Value} {ty : TypeId} (hcur : RowAt w L.g cur ty) (hlen : lo + n ≤ N) (hsz : 0 < sz) {C : Nat → Nat → Value}
    (hrow : ∀ i, i < n → (g i).length = sz) (hcell : ∀ i j v, i < n → (g i)[j]? = some v → ∃ q, v = .pv q ∧ ∀ R' w', VP R' w' q (C i j)) (hno : ∀ i, i < n → hasOwn (f (lo + i)) = false) (hfit : N * sz ≤ cur.size) :
    ∀ k, k ≤ n → ∃ X', Inv X0 X' ⟨st.tmps, st.heap.set b (.arr s sz N (cpy f lo k g))⟩ a (w.setRow L.g (splice cur.toList (lo * sz) (flatC C sz k)).toArray) ∧ X'.loc b [] = some L
  | 0, _ => by
    have e1 : cpy f lo 0 g = f := by
      funext i; unfold cpy; rw [if_neg (by omega)]
    have e2 : st.heap.set b (.arr s sz N f) = st.heap := by
      apply List.ext_getElem?
      intro j
      rw [List.getElem?_set]
      by_cases hj : b = j
      · subst hj; rw [if_pos rfl, if_pos (List.getElem?_eq_some_iff.1 hB).1, hB]
      · rw [if_neg hj]
    have e3 : splice cur.toList (lo * sz) (flatC C sz 0) = cur.toList := by simp [flatC, splice]
    refine ⟨X, ?_, hL⟩
    obtain ⟨fr, hc, _⟩ := hcur
    rw [e1, e2, e3, Array.toArray_toList, setRow_self w L.g cur ty fr hc]
    exact h
  | k + 1, hk => by
    obtain ⟨X', hI, hL'⟩ := copy_steps h hL hB hcur hlen hsz hrow hcell hno hfit k (by omega)
    have hblt : b < st.heap.length := (List.getElem?_eq_some_iff.1 hB).1
    have hB' : (st.heap.set b (.arr s sz N (cpy f lo k g)))[b]? = some (.arr s sz N (cpy f lo k g)) := by simp [hblt]
    obtain ⟨L2, hL2, hr⟩ := (hI.heap.blk b _ hB').some (show (Blk.arr s sz N (cpy f lo k g)).sub [] = some ⟨true, sz, N, cpy f lo k g⟩ from rfl)
    rw [hL'] at hL2
    cases hL2
    have hLs : L.sz = sz := hr.sz
    have hLl : L.len = N := hr.len
    have hfk : cpy f lo k g (lo + k) = f (lo + k) := by unfold cpy; rw [if_neg (by omega)]
    have hfl : (cpy f lo k g (lo + k)).length = sz := hr.row (lo + k) (show lo + k < N by omega)
    have hgl := hrow k (by omega)
    have hVl : ((List.range sz).map fun j => C k j).length = sz := by simp
    obtain ⟨X2, cur2, ty2, q1, q2, q3, q4⟩ := row_put hI (b := b) (ρ := []) (i := lo + k) (o := 0) (L := L) (s := s) (t := s) (sz := sz) (N := N) (f := cpy f lo k g) (y := ⟨true, sz, N, cpy f lo k g⟩) hL' (by rw [hLl]; omega) hB' rfl
      (ws := g k) (Vs := (List.range sz).map fun j => C k j) (by rw [hgl, hVl]) (by simp only [hVl]; omega) (tk := []) (T0 := fun _ _ => none) (og := fun _ => none)
      (fun j v V hv hV => by
        obtain ⟨q, rfl, hq⟩ := hcell k j v (by omega) hv
        have hj : j < sz := by have := (List.getElem?_eq_some_iff.1 hv).1; omega
        rw [List.getElem?_map, List.getElem?_range hj] at hV
        cases hV
        exact .pv (hq _ _)) (fun j κ hκ => by cases hκ) (fun j j' κ hκ => by cases hκ) (fun c hc => by cases hc)
      (e := { val := dead, hb := [(b, Blk.put (.arr s sz N (cpy f lo k g)) [] (lo + k) fun cs => splice cs 0 (g k))] }) rfl (fun c hc => by cases hc) (fun hh => by
        exfalso
        have hn := hno k (by omega)
        simp only [hfk] at hh
        obtain ⟨q, hq1, hq2⟩ := List.any_eq_true.1 hh
        have : hasOwn (f (lo + k)) = true := List.any_eq_true.2 ⟨q, by unfold part at hq1; exact List.mem_of_mem_drop (List.mem_of_mem_take hq1), hq2⟩
        rw [hn] at this; cases this) (fun τ hτ => ⟨hτ, rfl⟩) rfl none undef
    refine ⟨X2, ?_, q4⟩
    have e1 : Blk.put (.arr s sz N (cpy f lo k g)) [] (lo + k) (fun cs => splice cs 0 (g k)) = .arr s sz N (cpy f lo (k + 1) g) := by
      show Blk.arr s sz N (upd (cpy f lo k g) (lo + k) (splice (cpy f lo k g (lo + k)) 0 (g k))) = _
      rw [splice_all (by rw [hfl, hgl])]
      congr 1
      funext i
      unfold upd cpy
      by_cases hi : i = lo + k
      · subst hi; rw [if_pos rfl, if_pos (by omega)]; congr 1; omega
      · rw [if_neg hi]
        by_cases h1 : lo ≤ i ∧ i < lo + k
        · rw [if_pos h1, if_pos (by omega)]
        · rw [if_neg h1, if_neg (by omega)]
    have e2 : cur2 = (splice cur.toList (lo * sz) (flatC C sz k)).toArray := by
      have := (hcur.set (cs := (splice cur.toList (lo * sz) (flatC C sz k)).toArray) (by
        rw [List.size_toArray, splice_len _ _ _ (by
          rw [flatC_len, ← Nat.add_mul, Array.length_toList]
          have := Nat.mul_le_mul_right sz (show lo + k ≤ N by omega)
          omega), Array.length_toList])).eq q1
      exact this.1.symm
    subst e2
    rw [setRow_setRow] at q3
    have e3 : splice (splice cur.toList (lo * sz) (flatC C sz k)).toArray.toList ((lo + k) * L.sz + 0) ((List.range sz).map fun j => C k j) = splice cur.toList (lo * sz) (flatC C sz (k + 1)) := by
      rw [flatC_succ, ← splice_more (by
        rw [flatC_len, hVl, Array.length_toList, ← Nat.add_mul, show (lo + k) * sz + sz = (lo + k + 1) * sz by rw [Nat.add_mul (lo + k)]; omega]
        have := Nat.mul_le_mul_right sz (show lo + k + 1 ≤ N by omega)
        omega), flatC_len, hLs]
      congr 1
      rw [Nat.add_mul]; rfl
    rw [e3] at q3
    have e4 : (Eff.mk dead [(b, Blk.put (.arr s sz N (cpy f lo k g)) [] (lo + k) fun cs => splice cs 0 (g k))] []).on none ⟨st.tmps, st.heap.set b (.arr s sz N (cpy f lo k g))⟩ = ⟨st.tmps, st.heap.set b (.arr s sz N (cpy f lo (k + 1) g))⟩ := by
      rw [e1]
      simp [Eff.on, setT, putBlks]
    have q3' : Inv X0 X2 ((Eff.mk dead [(b, Blk.put (.arr s sz N (cpy f lo k g)) [] (lo + k) fun cs => splice cs 0 (g k))] []).on none ⟨st.tmps, st.heap.set b (.arr s sz N (cpy f lo k g))⟩) a (w.setRow L.g (splice cur.toList (lo * sz) (flatC C sz (k + 1))).toArray) := q3
    rw [e4] at q3'
    exact q3'

theorem copyE_sound (h : Inv X0 X st a w) {t u : TypeId} {d x : AV} {Vd Vx : Value} (hd : VA X none d Vd) (hx : VA X none x Vx) {e : Eff} (he : (copyE P t u d x).Gives ok (getB st.heap) e) (ty : TypeId) (dst : Option Nat) :
    ∃ X' V W, (Builtin.copy_ #[t, u] ty #[Vd, Vx]).run P w = .ok V W ∧ Inv X0 X' (e.on dst st) (a.put dst V) W := by
  have hw := h.hw
  subst hw
  unfold copyE at he
  split at he
  · rename_i et eu hu hu'
    obtain ⟨z, hz, he'⟩ := gives_opt he; clear he; revert he'; intro he
    split at he
    · rename_i b lo n
      simp only [Ev.Gives] at he
      split at he
      · rename_i s sz N f hB0
        obtain ⟨h1, he'⟩ := gives_chk he; clear he; revert he'; intro he
        rw [Bool.and_eq_true] at h1
        have h1 := Nat.eq_of_beq_eq_true h1.1
        subst h1
        obtain ⟨r, hr, he'⟩ := gives_bind he; clear he; revert he'; intro he
        obtain ⟨h2, he'⟩ := gives_chk he; clear he; revert he'; intro he
        have h2 := Nat.eq_of_beq_eq_true h2
        cases hd with | ms _ _ _ _ _ A cap L hL hn hl hA => ?_
        obtain ⟨B, x0, hB, hsub, hrel⟩ := h.heap.of_loc hL
        rw [getB_of hB] at hB0
        subst hB0
        cases hsub
        have hLl : L.len = N := hrel.len
        have hLs : L.sz = sz := hrel.sz
        have hsz : 0 < sz := hrel.pos
        obtain ⟨As, cs, zs, C, hS⟩ := srcC_sound h.heap hx hr
        have hVx := hS.val
        subst hVx
        simp only [Ev.Gives] at he
        obtain ⟨h3, he⟩ := he
        subst he
        have hk : minQ (Nat.ble r.1 n) r.1 n = min r.1 n := by
          unfold minQ
          cases hq : Nat.ble r.1 n with
          | true => have := Nat.le_of_ble_eq_true hq; simp only; omega
          | false =>
            have : ¬ r.1 ≤ n := fun hh => by rw [Nat.ble_eq_true_of_le hh] at hq; cases hq
            simp only; omega
        rw [hk] at h3 ⊢
        generalize hkk : min r.1 n = k at h3 ⊢
        have hk1 : k ≤ r.1 := by omega
        have hk2 : k ≤ n := by omega
        have hrow : ∀ i, i < k → (r.2 i).length = sz := fun i hi => by
          have e1 := hS.row i (by omega)
          have e2 := hS.row 0 (by omega)
          omega
        have hzs : 0 < k → zs = sz := fun h0 => by
          have := hS.row 0 (by omega); omega
        have hno : ∀ i, i < k → hasOwn (f (lo + i)) = false := fun i hi => by
          have := List.all_eq_true.1 h3 i (List.mem_range.2 hi)
          simpa using this
        have hmin : Nat.min r.1 n = k := hkk
        have fin : ∀ X' W, Inv X0 X' ⟨st.tmps, st.heap.set b (.arr s sz N (cpy f lo k r.2))⟩ a W → Inv X0 X' ((Eff.mk (.pv (.int .i64 k)) [(b, .arr s sz N (cpy f lo k r.2))] []).on dst st) (a.put dst (.int .i64 k)) W := fun X' W hI => by
          have := hI.put dst (v := .pv (.int .i64 k)) (V := .int .i64 k) fun _ _ => .pv _ _ _ (.int _ _)
          simpa [Eff.on, putBlks] using this
        rcases Nat.eq_zero_or_pos k with h0 | h0
        · subst h0
          have e1 : cpy f lo 0 r.2 = f := by funext i; unfold cpy; rw [if_neg (by omega)]
          have e2 : st.heap.set b (.arr s sz N f) = st.heap := by
            apply List.ext_getElem?
            intro j
            rw [List.getElem?_set]
            by_cases hj : b = j
            · subst hj; rw [if_pos rfl, if_pos (List.getElem?_eq_some_iff.1 hB).1, hB]
            · rw [if_neg hj]
          refine ⟨X, .int .i64 0, X.w, ?_, fin X X.w (by rw [e1, e2]; exact h)⟩
          cases As <;> cases A <;> simp [Builtin.copy_, run_underlying hu, Builtin.lenOf, hmin, Builtin.firstCells, loadCells, loadCellsFrom, storeCells, sizeOf_run hz, goInt]
        · obtain ⟨rfl, hroom⟩ := hA (by omega)
          have h00 : 0 < L.room := room_of hrel (show lo < L.len by omega)
          obtain ⟨cur, tyc, q1, q2, _⟩ := hrel.mem h00
          have hfit := hrel.fit
          obtain ⟨X', hI, _⟩ := copy_steps h hL hB q1 (n := k) (by omega) hsz (C := C) hrow (fun i j v hi hv => hS.cell i j v (by omega) hv) hno (by simp only at hfit; omega) k (Nat.le_refl _)
          obtain ⟨k0, o0, rfl, hmem⟩ := hS.mem (by omega)
          have hz' := hzs h0
          subst hz'
          have hnews : ∀ (j : Nat) (V : Value), (flatC C zs k)[j]? = some V → X.w.cell? ((⟨k0, o0, none⟩ : Addr).add j) = some V := fun j V hV => by
            obtain ⟨p1, p2, p3, p4, p5⟩ := flatC_inv C hV
            rw [add_none, p5, p4]
            exact hmem _ _ (by omega) p3
          have hone : ∀ v ∈ flatC C zs k, v.oneCell' = true := fun v hv => by
            obtain ⟨j, hj⟩ := List.getElem?_of_mem hv
            obtain ⟨p1, p2, p3, p4, p5⟩ := flatC_inv C hj
            have hl : j % zs < (r.2 (j / zs)).length := by rw [hrow _ p2]; exact p3
            obtain ⟨q, _, hq⟩ := hS.cell _ _ _ (show j / zs < r.1 by omega) (List.getElem?_eq_getElem hl)
            rw [p4]
            exact (hq (fun _ _ => False) X.w).one
          have hf := run_firstCells_some (P := P) X.w zs k ⟨k0, o0, none⟩ r.1 cs (flatC C zs k) (flatC_len _ _ _) hnews
          have hst := run_storeCells_fr (P := P) L.g (lo * zs) tyc (flatC C zs k) 0 cur X.w q1 (by
            rw [flatC_len, Nat.add_zero, ← Nat.add_mul]
            have := Nat.mul_le_mul_right zs (show lo + k ≤ N by omega)
            simp only at hfit; omega) hone
          simp only [Nat.add_zero] at hst
          refine ⟨X', .int .i64 k, _, ?_, fin X' _ hI⟩
          rw [hLs]
          simp [Builtin.copy_, run_underlying hu, Builtin.lenOf, hmin, hf, sizeOf_run hz, hst, splice, goInt]
      · cases he
    · cases he
  · cases he

/-! ### arrays put whole -/
theorem storeX_sound (h : Inv X0 X st a w) {p : Bool} {id : Nat} {t : TypeId} {x v : AV} {Vx V : Value} (hx : VA X none x Vx) (hv : VA X none v V) {e : Eff} (he : (storeX P p id t x v).Gives ok (getB st.heap) e) (dst : Option Nat) (U : Value) :
    ∃ X' W, (Instr.storeAt t Vx V).run P w = .ok () W ∧ Inv X0 X' (e.on dst st) (a.put dst U) W := by
  unfold storeX at he
  split at he
  · rename_i b i _
    simp only [Ev.Gives] at he
    split at he
    · rename_i s N f hB0
      have hw := h.hw
      subst hw
      unfold spanE at he
      obtain ⟨n, hn, he'⟩ := gives_opt he; clear he; revert he'; intro he
      obtain ⟨h1, he'⟩ := gives_chk he; clear he; revert he'; intro he
      simp only [Bool.and_eq_true] at h1
      obtain ⟨⟨h2, h2b⟩, h5⟩ := h1
      have h2 := Nat.eq_of_beq_eq_true h2
      have h2b := Nat.le_of_ble_eq_true h2b
      simp only [Ev.Gives] at he
      obtain ⟨h3, h4, he⟩ := he
      subst he
      have h3 := Nat.le_of_ble_eq_true h3
      cases hx with | ptr _ _ _ _ _ L hL hi => ?_
      obtain ⟨B, x0, hB, hsub, hrel⟩ := h.heap.of_loc hL
      rw [getB_of hB] at hB0
      subst hB0
      cases hsub
      have hLs : L.sz = 1 := hrel.sz
      have h00 : 0 < L.room := room_of hrel hi
      obtain ⟨cur, tyc, q1, q2, _⟩ := hrel.mem h00
      have hfit := hrel.fit
      simp only at hfit
      have hrows := cells_rows hv (by omega)
      have hVl : V.cells.size = n := by have := hrows.1; rw [Array.length_toList] at this; omega
      have hcell : ∀ k, k < n → ∃ (p q : PV) (u : Value), v.cells[k]? = some (.pv p) ∧ V.cells.toList[k]? = some u ∧ (AV.pv p).num = .pv q ∧ ∀ R' w', VP R' w' q u := fun k hk => by
        have e1 : v.cells[k]? = some (v.cells[k]'(by omega)) := List.getElem?_eq_getElem _
        have e2 : V.cells.toList[k]? = some (V.cells.toList[k]'(by rw [Array.length_toList]; omega)) := List.getElem?_eq_getElem _
        have hp := List.all_eq_true.1 h5 _ (List.getElem_mem (show k < v.cells.length by omega))
        have hva := hrows.2 k _ _ e1 e2
        cases hc : v.cells[k]'(by omega) <;> (rw [hc] at hp hva e1) <;> first | (cases hp; done) | skip
        rename_i p
        cases hva with | pv _ _ _ hva => ?_
        obtain ⟨q, hq1, hq2⟩ := num_pv hva
        exact ⟨p, q, _, e1, e2, hq1, hq2⟩
      have hone : ∀ u ∈ V.cells.toList, u.oneCell' = true := fun u hu => by
        obtain ⟨k, hk⟩ := List.getElem?_of_mem hu
        have hkn : k < n := by have := (List.getElem?_eq_some_iff.1 hk).1; rw [Array.length_toList] at this; omega
        obtain ⟨p, q, u', _, e2, _, e4⟩ := hcell k hkn
        rw [hk] at e2
        cases e2
        exact (e4 (fun _ _ => False) X.w).one
      let C : Nat → Nat → Value := fun k _ => V.cells.toList.getD k undef
      have hC : ∀ k u, V.cells.toList[k]? = some u → V.cells.toList.getD k undef = u := fun k u hk => getD_of hk
      obtain ⟨X', hI, _⟩ := copy_steps h hL hB q1 (lo := i) (n := n) h3 (by decide) (C := C) (g := fun k => [(v.cells.getD k dead).num]) (fun k _ => rfl) (fun k j u hk hu => by
          have hj : j = 0 := by
            cases j with
            | zero => rfl
            | succ j => cases hu
          subst hj
          obtain ⟨p, q, u', e1, e2, e3, e4⟩ := hcell k hk
          have : some ((v.cells.getD k dead).num) = some u := hu
          rw [getD_of e1, e3] at this
          cases this
          exact ⟨q, rfl, fun R' w' => by show VP R' w' q (V.cells.toList.getD k undef); rw [hC k _ e2]; exact e4 R' w'⟩) (fun k hk => by
          have := List.all_eq_true.1 h4 k (List.mem_range.2 hk)
          simpa using this) (by omega) n (Nat.le_refl _)
      have hflat : flatC C 1 n = V.cells.toList := by
        apply List.ext_getElem?
        intro k
        by_cases hk : k < n
        · have e : k = k * 1 + 0 := by omega
          have := flatC_get C (m := n) hk (show 0 < 1 by decide)
          rw [← e] at this
          obtain ⟨p, q, u, _, e2, _⟩ := hcell k hk
          rw [this, e2]
          show some (V.cells.toList.getD k undef) = some u
          rw [hC k _ e2]
        · rw [List.getElem?_eq_none (by rw [flatC_len]; omega), List.getElem?_eq_none (by rw [Array.length_toList]; omega)]
      rw [hflat] at hI
      have hrun := store_run (P := P) (w := X.w) (V := V) (o := i * 1) hn hVl q1 (by omega) hone
      refine ⟨X', _, by rw [hLs, Nat.add_zero]; exact hrun, ?_⟩
      have := hI.put dst (v := dead) (V := U) fun _ _ => .dead _ _
      simpa [Eff.on, putBlks, spanF] using this
    · exact storeE_sound h hx hv he dst U
  · exact storeE_sound h hx hv he dst U
end
end Go.Bm
