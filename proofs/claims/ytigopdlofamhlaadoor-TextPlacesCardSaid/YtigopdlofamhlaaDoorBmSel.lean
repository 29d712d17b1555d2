/- The abstract machine is sound: blocks that are kept, loops' heads. -/
import Derived.Test.YtigopdlofamhlaaDoorBmShr
namespace Go.Bm
set_option autoImplicit false
set_option linter.unusedVariables false
set_option linter.unusedSimpArgs false

section
variable {P : Program} {X0 X : Ctx} {st : St} {a : Act} {w : World}

theorem maskL_get (l : List Nat) : ∀ (vs : List AV) (i t : Nat), (maskL l i vs)[t]? = (vs[t]?).map fun v => bif l.elem (i + t) then v else dead
  | [], i, t => by simp [maskL]
  | v :: vs, i, 0 => by simp [maskL]
  | v :: vs, i, t + 1 => by simp [maskL, maskL_get l vs (i + 1) t, Nat.add_assoc, Nat.add_comm 1 t]
theorem maskL_len (l : List Nat) : ∀ (vs : List AV) (i : Nat), (maskL l i vs).length = vs.length
  | [], i => rfl
  | v :: vs, i => by simp [maskL, maskL_len l vs (i + 1)]
theorem upTo_len : ∀ n, (upTo n).length = n
  | 0 => rfl
  | n + 1 => by rw [upTo, List.length_append, upTo_len n]; rfl
theorem upTo_get : ∀ (n b : Nat), (upTo n)[b]? = if b < n then some b else none
  | 0, b => by simp [upTo]
  | n + 1, b => by
    have hl : (upTo n).length = n := upTo_len n
    rw [upTo, List.getElem?_append, hl, upTo_get n b]
    by_cases h1 : b < n
    · simp [h1, show b < n + 1 by omega]
    · by_cases h2 : b = n
      · subst h2; simp
      · have : ¬ b < n + 1 := by omega
        have h3 : b - n ≠ 0 := by omega
        simp [h1, this, h3]
theorem upTo_lt {n b : Nat} (h : b ∈ upTo n) : b < n := by
  obtain ⟨i, hi⟩ := List.getElem?_of_mem h
  rw [upTo_get] at hi
  split at hi
  · cases hi; assumption
  · cases hi
theorem upTo_nodup : ∀ n, (upTo n).Nodup
  | 0 => List.nodup_nil
  | n + 1 => List.nodup_append.2 ⟨upTo_nodup n, by simp, fun x hx y hy => by
      have := upTo_lt hx
      simp at hy
      omega⟩
theorem fromN_mem {h n b : Nat} : ∀ {l : List Nat}, b ∈ fromN h n l → b ∈ l ∧ h ≤ b ∧ b < n
  | [], hb => by simp [fromN] at hb
  | x :: l, hb => by
    unfold fromN at hb
    cases hx : Nat.ble h x && Nat.ble (x + 1) n with
    | true =>
      rw [hx] at hb
      simp only [Bool.and_eq_true] at hx
      rcases List.mem_cons.1 hb with rfl | hb
      · exact ⟨by simp, Nat.le_of_ble_eq_true hx.1, Nat.le_of_ble_eq_true hx.2⟩
      · have := fromN_mem hb; exact ⟨by simp [this.1], this.2⟩
    | false =>
      rw [hx] at hb
      have := fromN_mem (l := l) hb
      exact ⟨by simp [this.1], this.2⟩
theorem fromN_nodup {h n : Nat} : ∀ {l : List Nat}, l.Nodup → (fromN h n l).Nodup
  | [], _ => List.nodup_nil
  | x :: l, hn => by
    have hn' := List.nodup_cons.1 hn
    unfold fromN
    cases Nat.ble h x && Nat.ble (x + 1) n with
    | true => exact List.nodup_cons.2 ⟨fun hm => hn'.1 (fromN_mem hm).1, fromN_nodup hn'.2⟩
    | false => exact fromN_nodup hn'.2
theorem reached_nodup (H : List Blk) : ∀ (n : Nat) (todo acc : List Nat), acc.Nodup → (reached H n todo acc).Nodup
  | 0, todo, acc, h => h
  | n + 1, [], acc, h => h
  | n + 1, b :: todo, acc, h => by
    unfold reached
    cases hb : acc.elem b with
    | true => exact reached_nodup H n todo acc h
    | false =>
      refine reached_nodup H n _ _ (List.nodup_append.2 ⟨h, by simp, fun x hx y hy => ?_⟩)
      simp at hy
      subst hy
      rintro rfl
      rw [List.elem_eq_true_of_mem hx] at hb
      cases hb
theorem kept_nodup (h : Nat) (vs : List AV) (H : List Blk) : (keptIds h vs H).Nodup := by
  refine List.nodup_append.2 ⟨upTo_nodup _, fromN_nodup (reached_nodup _ _ _ _ List.nodup_nil), fun x hx y hy => ?_⟩
  have h1 := upTo_lt hx
  have h2 := (fromN_mem hy).2
  omega
theorem kept_get {h b : Nat} {vs : List AV} {H : List Blk} (h1 : b < h) (h2 : b < H.length) : (keptIds h vs H)[b]? = some b := by
  unfold keptIds
  rw [List.getElem?_append_left (by rw [upTo_len]; omega), upTo_get, if_pos (by omega)]
theorem kept_lt {h b : Nat} {vs : List AV} {H : List Blk} (hb : b ∈ keptIds h vs H) : b < H.length := by
  unfold keptIds at hb
  rcases List.mem_append.1 hb with hb | hb
  · have := upTo_lt hb; omega
  · exact (fromN_mem hb).2.2
theorem kept_ge {h i b : Nat} {vs : List AV} {H : List Blk} (hi : (keptIds h vs H)[i]? = some b) (h1 : i < h) : b = i := by
  unfold keptIds at hi
  rcases Nat.lt_or_ge i (upTo (min h H.length)).length with hl | hl
  · rw [List.getElem?_append_left hl, upTo_get] at hi
    split at hi
    · exact (Option.some.inj hi).symm
    · cases hi
  · rw [List.getElem?_append_right hl] at hi
    have := (fromN_mem (List.mem_of_getElem? hi)).2
    rw [upTo_len] at hl
    omega

/-- The blocks that are kept, under new numbers; those of 'bl' stay as they are. -/
theorem sel_ok {H : List Blk} (hH : HeapOk X H) (hF : Fresh X) (hFr : Fr X0 X) (hB : Base X0 X H) {m : Nat} (vs : List AV) (hm : ∀ b ρ L, X0.loc b ρ = some L → b < m) {bl : List Nat} (hd : ∀ b ∈ keptIds m vs H, b ∉ bl) :
    HeapOk (X.inn (keptIds m vs H) bl) ((keptIds m vs H).map fun b => (getB H b).map (numR (place (keptIds m vs H)))) ∧ Fresh (X.inn (keptIds m vs H) bl) ∧ Fr X0 (X.inn (keptIds m vs H) bl) ∧ Base X0 (X.inn (keptIds m vs H) bl) ((keptIds m vs H).map fun b => (getB H b).map (numR (place (keptIds m vs H)))) := by
  have hin : ∀ b ∈ keptIds m vs H, H[b]? = some (getB H b) := fun b hb => by
    have := kept_lt hb
    simp [getB, List.getD, this]
  have h1 := hH.inn (kept_nodup m vs H) hd hin
  have hge : ∀ i b, (keptIds m vs H)[i]? = some b → i < m → b = i := fun i b hi h => kept_ge hi h
  have hget : ∀ b, b < m → b < H.length → (keptIds m vs H)[b]? = some b := fun b => kept_get
  generalize keptIds m vs H = ids at *
  have hWi : ∀ g, Wr (X.inn ids bl) g → Wr X g := by
    rintro g ⟨i, τ, L, hL, h0, rfl⟩
    obtain ⟨b, hb, hL⟩ := inn_some hL
    exact ⟨b, τ, L, hL, h0, rfl⟩
  refine ⟨⟨fun i B hi => ?_, fun b ρ L hL => ?_, h1.inj, h1.free⟩, fun g hg off hr => ?_, ⟨hFr.size, hFr.os, hFr.tape, hFr.output, hFr.keep, fun g hg => hFr.mine g (hWi g hg), fun g off hr => .inl (hFr.Rmono g off hr), fun g off hr hg => ?_⟩, fun i B hi ρ ht L hL => ?_⟩
  · rw [List.getElem?_map] at hi
    cases hb : ids[i]? with
    | none => rw [hb] at hi; cases hi
    | some b =>
      rw [hb] at hi
      have hi := Option.some.inj hi
      have := h1.blk i ((Blk.map (numR (place ids)) (getB H b)).start) (by rw [List.getElem?_map, List.getElem?_map, hb]; rfl)
      intro ρ
      have h2 := this ρ
      rw [start_sub] at h2
      rw [← hi]
      exact h2
  · have := h1.lt b ρ L hL
    simpa using this
  · rcases hr with hr | ⟨c, _, τ, M, hM, h0, rfl⟩
    · exact hF g hg off hr
    · have := hH.g_lt hM h0
      have hg : X.w.heap.size ≤ M.g := hg
      omega
  · rcases hr with hr | ⟨c, _, τ, M, hM, h0, rfl⟩
    · exact hFr.Rsame g off hr hg
    · rcases hFr.mine M.g ⟨c, τ, M, hM, h0, rfl⟩ with h2 | h2
      · omega
      · exact .inr h2
  · rw [List.getElem?_map] at hi
    cases hb : ids[i]? with
    | none => rw [hb] at hi; cases hi
    | some b =>
      rw [hb] at hi
      have hi := Option.some.inj hi
      have := hge i b hb (hm i ρ L hL)
      subst this
      rw [← hi, map_tag] at ht
      show (ids[b]?).bind (fun b => X.loc b ρ) = some L
      rw [hb]
      exact hB b _ (hin b (List.mem_of_getElem? hb)) ρ ht L hL

theorem sel_sound (h : Inv X0 X st a w) {ts : List AV} (hl : ts.length = st.tmps.length) (ht : ∀ (t : Nat) (u : AV), ts[t]? = some u → u = dead ∨ st.tmps[t]? = some u) {m : Nat} (hm : ∀ b ρ L, X0.loc b ρ = some L → b < m) : ∃ X', Inv X0 X' (selSt m ⟨ts, st.heap⟩) a w := by
  obtain ⟨h1, h2, h3, h4⟩ := sel_ok (bl := []) h.heap h.fresh h.fr h.base ts hm fun b _ hb => by cases hb
  refine ⟨X.inn (keptIds m ts st.heap) [], h.hw, h.hd, ?_, fun t v V hv hV => ?_, h1, h2, h3, h4, h.glo.stab fun g off hr => ⟨.inl hr, rfl⟩⟩
  · show a.tmps.size = (AV.mapL _ ts).length
    rw [mapL_len, hl]; exact h.tsz
  · obtain ⟨u, hu, rfl⟩ := mapL_inv hv
    have hu : VA X none u V := by
      rcases ht t u hu with rfl | hu
      · exact .dead _ _
      · exact h.tmps t u V hu hV
    exact (hu.stab (Stab.rb X [])).map (Ren.inn X _ []) none rfl

theorem nilTo_sound (p : Nat → Bool) : ∀ (l : List Nat) (st : St) (X : Ctx), Inv X0 X st a w → ∃ X', Inv X0 X' (nilTo p l st) a w
  | [], st, X, h => ⟨X, h⟩
  | t :: ts, st, X, h => by
    unfold nilTo
    split
    · rename_i f hf
      split
      · rename_i hz
        have hz := Nat.le_of_ble_eq_true hz
        have hg : (st.heap ++ [Blk.gone])[st.heap.length]? = some .gone := by simp
        have h0 := h.grow 1
        obtain ⟨h1, hS⟩ := Inv.nil1 (st := grow 1 st) h0 (id := st.heap.length) hz (fun _ => nilRow (p t) (f 0)) hg
        have e : (grow 1 st).heap.set st.heap.length (.arr 0 (f 0).length 0 fun _ => nilRow (p t) (f 0)) = st.heap ++ [.arr 0 (f 0).length 0 fun _ => nilRow (p t) (f 0)] := by
          show (st.heap ++ [Blk.gone]).set st.heap.length _ = _
          simp
        rw [e] at h1
        refine nilTo_sound p ts _ (X.node w st.heap.length [] ⟨0, (f 0).length, 0, 0⟩ (fun _ _ _ => none) []) ⟨h1.hw, h1.hd, by show a.tmps.size = (List.set _ _ _).length; rw [List.length_set]; exact h.tsz, fun s v V hv hV => ?_, h1.heap, h1.fresh, h1.fr, h1.base, h1.glo⟩
        rcases set_get _ _ _ _ _ hv with ⟨rfl, rfl, hlt⟩ | ⟨hne, hv⟩
        · have hv := h.tmps s (.nil f) V (by
            rw [List.getD_eq_getElem?_getD, List.getElem?_eq_getElem hlt] at hf
            rw [List.getElem?_eq_getElem hlt]
            exact congrArg some hf) hV
          cases hv with | nil _ _ A => ?_
          exact .ms none _ [] 0 0 A 0 ⟨0, (f 0).length, 0, 0⟩ node_self (Nat.le_refl _) (Nat.le_refl _) fun h0 => absurd h0 (Nat.lt_irrefl 0)
        · exact h1.tmps s v V hv hV
      · exact nilTo_sound p ts st X h
    · exact nilTo_sound p ts st X h

theorem untag_get (l : List Nat) : ∀ (H : List Blk) (i b : Nat), (untag l i H)[b]? = (H[b]?).map (Blk.also (limT l (i + b)))
  | [], i, b => by simp [untag]
  | B :: Bs, i, 0 => by simp [untag]
  | B :: Bs, i, b + 1 => by
    have := untag_get l Bs (i + 1) b
    rw [show i + 1 + b = i + (b + 1) by omega] at this
    simp only [untag, List.getElem?_cons_succ]
    exact this
theorem untag_len (l : List Nat) : ∀ (H : List Blk) (i : Nat), (untag l i H).length = H.length
  | [], i => rfl
  | B :: Bs, i => by simp [untag, untag_len l Bs (i + 1)]
theorem HeapOk.untag {H : List Blk} (h : HeapOk X H) (l : List Nat) : HeapOk X (untag l 0 H) := by
  refine ⟨fun b B hB ρ => ?_, fun b ρ L hL => by rw [untag_len]; exact h.lt b ρ L hL, h.inj, h.free⟩
  rw [untag_get] at hB
  cases hx : H[b]? with
  | none => rw [hx] at hB; cases hB
  | some B0 =>
    rw [hx] at hB
    rw [← Option.some.inj hB, also_sub]
    exact h.blk b B0 hx ρ
theorem Base.untag {H : List Blk} (h : Base X0 X H) (l : List Nat) : Base X0 X (untag l 0 H) := by
  intro b B hB ρ ht
  rw [untag_get] at hB
  cases hx : H[b]? with
  | none => rw [hx] at hB; cases hB
  | some B0 =>
    rw [hx] at hB
    rw [← Option.some.inj hB] at ht
    exact h b B0 hx ρ (also_tag B0 _ ht).2
theorem Inv.untag (h : Inv X0 X st a w) (l : List Nat) : Inv X0 X { st with heap := untag l 0 st.heap } a w := ⟨h.hw, h.hd, h.tsz, h.tmps, h.heap.untag l, h.fresh, h.fr, h.base.untag l, h.glo⟩

theorem mask_sound (h : Inv X0 X st a w) (l : List Nat) {m : Nat} (hm : ∀ b ρ L, X0.loc b ρ = some L → b < m) : ∃ X', Inv X0 X' (selSt m { st with tmps := maskL l 0 st.tmps }) a w :=
  sel_sound h (maskL_len l _ _) (fun t u hu => by
    rw [maskL_get] at hu
    cases hx : st.tmps[t]? with
    | none => rw [hx] at hu; cases hu
    | some x =>
      rw [hx] at hu
      simp only [Option.map_some, Option.some.injEq] at hu
      cases hb : l.elem (0 + t) with
      | true => rw [hb] at hu; exact .inr (congrArg some hu)
      | false => rw [hb] at hu; exact .inl hu.symm) hm
theorem out_sound (h : Inv X0 X st a w) (L : Nat → Nat → Option (List Nat)) (q r : Nat) {m : Nat} (hm : ∀ b ρ L, X0.loc b ρ = some L → b < m) : ∃ X', Inv X0 X' (outSt L q r m st) a w := by
  unfold outSt
  split
  · exact mask_sound h _ hm
  · exact ⟨X, h⟩
theorem head_sound (h : Inv X0 X st a w) (L : Nat → Nat → Option (List Nat)) (r : Nat) {m : Nat} (hm : ∀ b ρ L, X0.loc b ρ = some L → b < m) : ∃ X', Inv X0 X' (headSt L r m st) a w := by
  unfold headSt
  have h1 : ∃ X', Inv X0 X' (headN L r st) a w := by
    unfold headN
    split
    · exact nilTo_sound _ _ st X h
    · exact ⟨X, h⟩
  obtain ⟨X1, h1⟩ := h1
  obtain ⟨X2, h2⟩ := out_sound h1 L 0 r hm
  have h3 : ∃ X', Inv X0 X' (headC L r (outSt L 0 r m (headN L r st))) a w := by
    unfold headC
    split
    · exact h2.shrink _
    · exact ⟨X2, h2⟩
  obtain ⟨X2, h2⟩ := h3
  unfold headT
  split
  · exact ⟨X2, h2.untag _⟩
  · exact ⟨X2, h2⟩
end
end Go.Bm
