import Derived.Test.YtipjbmnfnmlkfaaDoorBmShr
namespace Go.Bm
set_option autoImplicit false
set_option linter.unusedVariables false
set_option linter.unusedSimpArgs false
section
variable {P : Program} {X0 X : Ctx} {st : St} {a : Act} {w : World}
theorem zJ (l : List Nat) : ∀ (vs : List AV) (i t : Nat), (tW l i vs)[t]? = (vs[t]?).map fun v => bif l.elem (i + t) then v else dead
 | [], i, t => by simp [tW]
 | v :: vs, i, 0 => by simp [tW]
 | v :: vs, i, t + 1 => by simp [tW, zJ l vs (i + 1) t, Nat.add_assoc, Nat.add_comm 1 t]
theorem zK (l : List Nat) : ∀ (vs : List AV) (i : Nat), (tW l i vs).length = vs.length
 | [], i => rfl
 | v :: vs, i => by simp [tW, zK l vs (i + 1)]
theorem tz : ∀ n, (yI n).length = n
 | 0 => rfl
 | n + 1 => by rw [yI, List.length_append, tz n]; rfl
theorem tA : ∀ (n b : Nat), (yI n)[b]? = if b < n then some b else none
 | 0, b => by simp [yI]
 | n + 1, b => by
  have hl : (yI n).length = n := tz n
  rw [yI, List.getElem?_append, hl, tA n b]
  by_cases h1 : b < n
  ·simp [h1, show b < n + 1 by omega]
  ·by_cases h2 : b = n
   ·subst h2; simp
   ·have : ¬ b < n + 1 := by omega
    have h3 : b - n ≠ 0 := by omega
    simp [h1, this, h3]
theorem AG {n b : Nat} (h : b ∈ yI n) : b < n := by
 obtain ⟨i, hi⟩ := List.getElem?_of_mem h
 rw [tA] at hi
 split at hi
 ·cases hi; assumption
 ·cases hi
theorem xG : ∀ n, (yI n).Nodup
 | 0 => List.nodup_nil
 | n + 1 => List.nodup_append.2 ⟨xG n, by simp, fun x hx y hy => by
   have := AG hx
   simp at hy
   omega⟩
theorem ko {h n b : Nat} : ∀ {l : List Nat}, b ∈ vF h n l → b ∈ l ∧ h ≤ b ∧ b < n
 | [], hb => by simp [vF] at hb
 | x :: l, hb => by
  unfold vF at hb
  cases hx : Nat.ble h x && Nat.ble (x + 1) n with
  | true =>
   rw [hx] at hb
   simp only [Bool.and_eq_true] at hx
   rcases List.mem_cons.1 hb with rfl | hb
   ·exact ⟨by simp, Nat.le_of_ble_eq_true hx.1, Nat.le_of_ble_eq_true hx.2⟩
   ·have := ko hb; exact ⟨by simp [this.1], this.2⟩
  | false =>
   rw [hx] at hb
   have := ko (l := l) hb
   exact ⟨by simp [this.1], this.2⟩
theorem pK {h n : Nat} : ∀ {l : List Nat}, l.Nodup → (vF h n l).Nodup
 | [], _ => List.nodup_nil
 | x :: l, hn => by
  have hn' := List.nodup_cons.1 hn
  unfold vF
  cases Nat.ble h x && Nat.ble (x + 1) n with
  | true => exact List.nodup_cons.2 ⟨fun hm => hn'.1 (ko hm).1, pK hn'.2⟩
  | false => exact pK hn'.2
theorem lE (H : List Blk) : ∀ (n : Nat) (todo acc : List Nat), acc.Nodup → (tX H n todo acc).Nodup
 | 0, todo, acc, h => h
 | n + 1, [], acc, h => h
 | n + 1, b :: todo, acc, h => by
  unfold tX
  cases hb : acc.elem b with
  | true => exact lE H n todo acc h
  | false =>
   refine lE H n _ _ (List.nodup_append.2 ⟨h, by simp, fun x hx y hy => ?_⟩)
   simp at hy
   subst hy
   rintro rfl
   rw [List.elem_eq_true_of_mem hx] at hb
   cases hb
theorem C4 (h : Nat) (vs : List AV) (H : List Blk) : (ce h vs H).Nodup := by
 refine List.nodup_append.2 ⟨xG _, pK (lE _ _ _ _ List.nodup_nil), fun x hx y hy => ?_⟩
 have h1 := AG hx
 have h2 := (ko hy).2
 omega
theorem F1 {h b : Nat} {vs : List AV} {H : List Blk} (h1 : b < h) (h2 : b < H.length) : (ce h vs H)[b]? = some b := by
 unfold ce
 rw [List.getElem?_append_left (by rw [tz]; omega), tA, if_pos (by omega)]
theorem Hl {h b : Nat} {vs : List AV} {H : List Blk} (hb : b ∈ ce h vs H) : b < H.length := by
 unfold ce at hb
 rcases List.mem_append.1 hb with hb | hb
 ·have := AG hb; omega
 ·exact (ko hb).2.2
theorem Hm {h i b : Nat} {vs : List AV} {H : List Blk} (hi : (ce h vs H)[i]? = some b) (h1 : i < h) : b = i := by
 unfold ce at hi
 rcases Nat.lt_or_ge i (yI (min h H.length)).length with hl | hl
 ·rw [List.getElem?_append_left hl, tA] at hi
  split at hi
  ·exact (Option.some.inj hi).symm
  ·cases hi
 ·rw [List.getElem?_append_right hl] at hi
  have := (ko (List.mem_of_getElem? hi)).2
  rw [tz] at hl
  omega
theorem F2 {H : List Blk} (hH : aV X H) (hF : gU X) (hFr : Fr X0 X) (hB : ke X0 X H) {m : Nat} (vs : List AV) (hm : ∀ b ρ L, X0.loc b ρ = some L → b < m) {bl : List Nat} (hd : ∀ b ∈ ce m vs H, b ∉ bl) :
  aV (X.inn (ce m vs H) bl) ((ce m vs H).map fun b => (a7 H b).map (kH (eU (ce m vs H)))) ∧ gU (X.inn (ce m vs H) bl) ∧ Fr X0 (X.inn (ce m vs H) bl) ∧ ke X0 (X.inn (ce m vs H) bl) ((ce m vs H).map fun b => (a7 H b).map (kH (eU (ce m vs H)))) := by
 have hin : ∀ b ∈ ce m vs H, H[b]? = some (a7 H b) := fun b hb => by
  have := Hl hb
  simp [a7, List.getD, this]
 have h1 := hH.inn (C4 m vs H) hd hin
 have hge : ∀ i b, (ce m vs H)[i]? = some b → i < m → b = i := fun i b hi h => Hm hi h
 have hget : ∀ b, b < m → b < H.length → (ce m vs H)[b]? = some b := fun b => F1
 generalize ce m vs H = ids at *
 have hWi : ∀ g, Wr (X.inn ids bl) g → Wr X g := by
  rintro g ⟨i, τ, L, hL, h0, rfl⟩
  obtain ⟨b, hb, hL⟩ := mn hL
  exact ⟨b, τ, L, hL, h0, rfl⟩
 refine ⟨⟨fun i B hi => ?_, fun b ρ L hL => ?_, h1.inj, h1.free⟩, fun g hg off hr => ?_, ⟨hFr.size, hFr.os, hFr.tape, hFr.output, hFr.keep, fun g hg => hFr.mine g (hWi g hg), fun g off hr => .inl (hFr.Rmono g off hr), fun g off hr hg => ?_⟩, fun i B hi ρ ht L hL => ?_⟩
 ·rw [List.getElem?_map] at hi
  cases hb : ids[i]? with
  | none => rw [hb] at hi; cases hi
  | some b =>
   rw [hb] at hi
   have hi := Option.some.inj hi
   have := h1.blk i ((Blk.map (kH (eU ids)) (a7 H b)).start) (by rw [List.getElem?_map, List.getElem?_map, hb]; rfl)
   intro ρ
   have h2 := this ρ
   rw [zO] at h2
   rw [← hi]
   exact h2
 ·have := h1.lt b ρ L hL
  simpa using this
 ·rcases hr with hr | ⟨c, _, τ, M, hM, h0, rfl⟩
  ·exact hF g hg off hr
  ·have := hH.g_lt hM h0
   have hg : X.w.heap.size ≤ M.g := hg
   omega
 ·rcases hr with hr | ⟨c, _, τ, M, hM, h0, rfl⟩
  ·exact hFr.Rsame g off hr hg
  ·rcases hFr.mine M.g ⟨c, τ, M, hM, h0, rfl⟩ with h2 | h2
   ·omega
   ·exact .inr h2
 ·rw [List.getElem?_map] at hi
  cases hb : ids[i]? with
  | none => rw [hb] at hi; cases hi
  | some b =>
   rw [hb] at hi
   have hi := Option.some.inj hi
   have := hge i b hb (hm i ρ L hL)
   subst this
   rw [← hi, AH] at ht
   show (ids[b]?).bind (fun b => X.loc b ρ) = some L
   rw [hb]
   exact hB b _ (hin b (List.mem_of_getElem? hb)) ρ ht L hL
theorem E9 (h : Inv X0 X st a w) {ts : List AV} (hl : ts.length = st.tmps.length) (ht : ∀ (t : Nat) (u : AV), ts[t]? = some u → u = dead ∨ st.tmps[t]? = some u) {m : Nat} (hm : ∀ b ρ L, X0.loc b ρ = some L → b < m) : ∃ X', Inv X0 X' (GW m ⟨ts, st.heap⟩) a w := by
 obtain ⟨h1, h2, h3, h4⟩ := F2 (bl := []) h.heap h.fresh h.fr h.base ts hm fun b _ hb => by cases hb
 refine ⟨X.inn (ce m ts st.heap) [], h.hw, h.hd, ?_, fun t v V hv hV => ?_, h1, h2, h3, h4, h.glo.stab fun g off hr => ⟨.inl hr, rfl⟩⟩
 ·show a.tmps.size = (AV.mapL _ ts).length
  rw [gY, hl]; exact h.tsz
 ·obtain ⟨u, hu, rfl⟩ := jt hv
  have hu : VA X none u V := by
   rcases ht t u hu with rfl | hu
   ·exact .dead _ _
   ·exact h.tmps t u V hu hV
  exact (hu.stab (gZ.rb X [])).map (Ren.inn X _ []) none rfl
theorem lf : ∀ (l : List Nat) (st : St) (X : Ctx), Inv X0 X st a w → ∃ X', Inv X0 X' (Ah l st) a w
 | [], st, X, h => ⟨X, h⟩
 | t :: ts, st, X, h => by
  unfold Ah
  split
  ·rename_i f hf
   split
   ·rename_i hz
    have hz := Nat.le_of_ble_eq_true hz
    have hg : (st.heap ++ [Blk.gone])[st.heap.length]? = some .gone := by simp
    have h0 := h.grow 1
    obtain ⟨h1, hS⟩ := Inv.nil1 (st := grow 1 st) h0 (id := st.heap.length) hz (fun _ => dL (f 0)) hg
    have e : (grow 1 st).heap.set st.heap.length (.arr 0 (f 0).length 0 fun _ => dL (f 0)) = st.heap ++ [.arr 0 (f 0).length 0 fun _ => dL (f 0)] := by
     show (st.heap ++ [Blk.gone]).set st.heap.length _ = _
     simp
    rw [e] at h1
    refine lf ts _ (X.node w st.heap.length [] ⟨0, (f 0).length, 0, 0⟩ (fun _ _ _ => none) []) ⟨h1.hw, h1.hd, by show a.tmps.size = (List.set _ _ _).length; rw [List.length_set]; exact h.tsz, fun s v V hv hV => ?_, h1.heap, h1.fresh, h1.fr, h1.base, h1.glo⟩
    rcases wQ _ _ _ _ _ hv with ⟨rfl, rfl, hlt⟩ | ⟨hne, hv⟩
    ·have hv := h.tmps s (.nil f) V (by
      rw [List.getD_eq_getElem?_getD, List.getElem?_eq_getElem hlt] at hf
      rw [List.getElem?_eq_getElem hlt]
      exact congrArg some hf) hV
     cases hv with | nil _ _ A => ?_
     exact .ms none _ [] 0 0 A 0 ⟨0, (f 0).length, 0, 0⟩ eo (Nat.le_refl _) (Nat.le_refl _) fun h0 => absurd h0 (Nat.lt_irrefl 0)
    ·exact h1.tmps s v V hv hV
   ·exact lf ts st X h
  ·exact lf ts st X h
theorem uL (l : List Nat) : ∀ (H : List Blk) (i b : Nat), (untag l i H)[b]? = (H[b]?).map (Blk.also (Jf l (i + b)))
 | [], i, b => by simp [untag]
 | B :: Bs, i, 0 => by simp [untag]
 | B :: Bs, i, b + 1 => by
  have := uL l Bs (i + 1) b
  rw [show i + 1 + b = i + (b + 1) by omega] at this
  simp only [untag, List.getElem?_cons_succ]
  exact this
theorem zL (l : List Nat) : ∀ (H : List Blk) (i : Nat), (untag l i H).length = H.length
 | [], i => rfl
 | B :: Bs, i => by simp [untag, zL l Bs (i + 1)]
theorem aV.untag {H : List Blk} (h : aV X H) (l : List Nat) : aV X (untag l 0 H) := by
 refine ⟨fun b B hB ρ => ?_, fun b ρ L hL => by rw [zL]; exact h.lt b ρ L hL, h.inj, h.free⟩
 rw [uL] at hB
 cases hx : H[b]? with
 | none => rw [hx] at hB; cases hB
 | some B0 =>
  rw [hx] at hB
  rw [← Option.some.inj hB, BO]
  exact h.blk b B0 hx ρ
theorem ke.untag {H : List Blk} (h : ke X0 X H) (l : List Nat) : ke X0 X (untag l 0 H) := by
 intro b B hB ρ ht
 rw [uL] at hB
 cases hx : H[b]? with
 | none => rw [hx] at hB; cases hB
 | some B0 =>
  rw [hx] at hB
  rw [← Option.some.inj hB] at ht
  exact h b B0 hx ρ (BP B0 _ ht).2
theorem Inv.untag (h : Inv X0 X st a w) (l : List Nat) : Inv X0 X { st with heap := untag l 0 st.heap } a w := ⟨h.hw, h.hd, h.tsz, h.tmps, h.heap.untag l, h.fresh, h.fr, h.base.untag l, h.glo⟩
theorem C5 (h : Inv X0 X st a w) (l : List Nat) {m : Nat} (hm : ∀ b ρ L, X0.loc b ρ = some L → b < m) : ∃ X', Inv X0 X' (GW m { st with tmps := tW l 0 st.tmps }) a w :=
 E9 h (zK l _ _) (fun t u hu => by
  rw [zJ] at hu
  cases hx : st.tmps[t]? with
  | none => rw [hx] at hu; cases hu
  | some x =>
   rw [hx] at hu
   simp only [Option.map_some, Option.some.injEq] at hu
   cases hb : l.elem (0 + t) with
   | true => rw [hb] at hu; exact .inr (congrArg some hu)
   | false => rw [hb] at hu; exact .inl hu.symm) hm
theorem qm (h : Inv X0 X st a w) (L : Nat → Nat → Option (List Nat)) (q r : Nat) {m : Nat} (hm : ∀ b ρ L, X0.loc b ρ = some L → b < m) : ∃ X', Inv X0 X' (tY L q r m st) a w := by
 unfold tY
 split
 ·exact C5 h _ hm
 ·exact ⟨X, h⟩
theorem xH (h : Inv X0 X st a w) (L : Nat → Nat → Option (List Nat)) (r : Nat) {m : Nat} (hm : ∀ b ρ L, X0.loc b ρ = some L → b < m) : ∃ X', Inv X0 X' (u5 L r m st) a w := by
 unfold u5
 have h1 : ∃ X', Inv X0 X' (EN L r st) a w := by
  unfold EN
  split
  ·exact lf _ st X h
  ·exact ⟨X, h⟩
 obtain ⟨X1, h1⟩ := h1
 obtain ⟨X2, h2⟩ := qm h1 L 0 r hm
 have h3 : ∃ X', Inv X0 X' (GX L r (tY L 0 r m (EN L r st))) a w := by
  unfold GX
  split
  ·exact h2.shrink _
  ·exact ⟨X2, h2⟩
 obtain ⟨X2, h2⟩ := h3
 unfold Ic
 split
 ·exact ⟨X2, h2.untag _⟩
 ·exact ⟨X2, h2⟩
end
end Go.Bm
