import Derived.Test.YtipjbmnfnmlkfaaGreatDoorBmShr
namespace Go.Bm
set_option autoImplicit false
set_option linter.unusedVariables false
set_option linter.unusedSimpArgs false
section
variable {P : Program} {X0 X : Ctx} {st : St} {a : Act} {w : World}
theorem yP (l : List Nat) : ∀ (vs : List AV) (i t : Nat), (rM l i vs)[t]? = (vs[t]?).map fun v => bif l.elem (i + t) then v else dead
 | [], i, t => by simp [rM]
 | v :: vs, i, 0 => by simp [rM]
 | v :: vs, i, t + 1 => by simp [rM, yP l vs (i + 1) t, Nat.add_assoc, Nat.add_comm 1 t]
theorem yQ (l : List Nat) : ∀ (vs : List AV) (i : Nat), (rM l i vs).length = vs.length
 | [], i => rfl
 | v :: vs, i => by simp [rM, yQ l vs (i + 1)]
theorem qG : ∀ n, (xg n).length = n
 | 0 => rfl
 | n + 1 => by rw [xg, List.length_append, qG n]; rfl
theorem qH : ∀ (n b : Nat), (xg n)[b]? = if b < n then some b else none
 | 0, b => by simp [xg]
 | n + 1, b => by
  have hl : (xg n).length = n := qG n
  rw [xg, List.getElem?_append, hl, qH n b]
  by_cases h1 : b < n
  ·simp [h1, show b < n + 1 by omega]
  ·by_cases h2 : b = n
   ·subst h2; simp
   ·have : ¬ b < n + 1 := by omega
    have h3 : b - n ≠ 0 := by omega
    simp [h1, this, h3]
theorem zD {n b : Nat} (h : b ∈ xg n) : b < n := by
 obtain ⟨i, hi⟩ := List.getElem?_of_mem h
 rw [qH] at hi
 split at hi
 ·cases hi; assumption
 ·cases hi
theorem vI : ∀ n, (xg n).Nodup
 | 0 => List.nodup_nil
 | n + 1 => List.nodup_append.2 ⟨vI n, by simp, fun x hx y hy => by
   have := zD hx
   simp at hy
   omega⟩
theorem ju {h n b : Nat} : ∀ {l : List Nat}, b ∈ tH h n l → b ∈ l ∧ h ≤ b ∧ b < n
 | [], hb => by simp [tH] at hb
 | x :: l, hb => by
  unfold tH at hb
  cases hx : Nat.ble h x && Nat.ble (x + 1) n with
  | true =>
   rw [hx] at hb
   simp only [Bool.and_eq_true] at hx
   rcases List.mem_cons.1 hb with rfl | hb
   ·exact ⟨by simp, Nat.le_of_ble_eq_true hx.1, Nat.le_of_ble_eq_true hx.2⟩
   ·have := ju hb; exact ⟨by simp [this.1], this.2⟩
  | false =>
   rw [hx] at hb
   have := ju (l := l) hb
   exact ⟨by simp [this.1], this.2⟩
theorem nh {h n : Nat} : ∀ {l : List Nat}, l.Nodup → (tH h n l).Nodup
 | [], _ => List.nodup_nil
 | x :: l, hn => by
  have hn' := List.nodup_cons.1 hn
  unfold tH
  cases Nat.ble h x && Nat.ble (x + 1) n with
  | true => exact List.nodup_cons.2 ⟨fun hm => hn'.1 (ju hm).1, nh hn'.2⟩
  | false => exact nh hn'.2
theorem kS (H : List Blk) : ∀ (n : Nat) (todo acc : List Nat), acc.Nodup → (rN H n todo acc).Nodup
 | 0, todo, acc, h => h
 | n + 1, [], acc, h => h
 | n + 1, b :: todo, acc, h => by
  unfold rN
  cases hb : acc.elem b with
  | true => exact kS H n todo acc h
  | false =>
   refine kS H n _ _ (List.nodup_append.2 ⟨h, by simp, fun x hx y hy => ?_⟩)
   simp at hy
   subst hy
   rintro rfl
   rw [List.elem_eq_true_of_mem hx] at hb
   cases hb
theorem CC (h : Nat) (vs : List AV) (H : List Blk) : (bE h vs H).Nodup := by
 refine List.nodup_append.2 ⟨vI _, nh (kS _ _ _ _ List.nodup_nil), fun x hx y hy => ?_⟩
 have h1 := zD hx
 have h2 := (ju hy).2
 omega
theorem FM {h b : Nat} {vs : List AV} {H : List Blk} (h1 : b < h) (h2 : b < H.length) : (bE h vs H)[b]? = some b := by
 unfold bE
 rw [List.getElem?_append_left (by rw [qG]; omega), qH, if_pos (by omega)]
theorem GP {h b : Nat} {vs : List AV} {H : List Blk} (hb : b ∈ bE h vs H) : b < H.length := by
 unfold bE at hb
 rcases List.mem_append.1 hb with hb | hb
 ·have := zD hb; omega
 ·exact (ju hb).2.2
theorem GQ {h i b : Nat} {vs : List AV} {H : List Blk} (hi : (bE h vs H)[i]? = some b) (h1 : i < h) : b = i := by
 unfold bE at hi
 rcases Nat.lt_or_ge i (xg (min h H.length)).length with hl | hl
 ·rw [List.getElem?_append_left hl, qH] at hi
  split at hi
  ·exact (Option.some.inj hi).symm
  ·cases hi
 ·rw [List.getElem?_append_right hl] at hi
  have := (ju (List.mem_of_getElem? hi)).2
  rw [qG] at hl
  omega
theorem FN {H : List Blk} (hH : aJ X H) (hF : f6 X) (hFr : Fr X0 X) (hB : jl X0 X H) {m : Nat} (vs : List AV) (hm : ∀ b ρ L, X0.loc b ρ = some L → b < m) {bl : List Nat} (hd : ∀ b ∈ bE m vs H, b ∉ bl) :
  aJ (X.inn (bE m vs H) bl) ((bE m vs H).map fun b => (aP H b).map (j8 (dH (bE m vs H)))) ∧ f6 (X.inn (bE m vs H) bl) ∧ Fr X0 (X.inn (bE m vs H) bl) ∧ jl X0 (X.inn (bE m vs H) bl) ((bE m vs H).map fun b => (aP H b).map (j8 (dH (bE m vs H)))) := by
 have hin : ∀ b ∈ bE m vs H, H[b]? = some (aP H b) := fun b hb => by
  have := GP hb
  simp [aP, List.getD, this]
 have h1 := hH.inn (CC m vs H) hd hin
 have hge : ∀ i b, (bE m vs H)[i]? = some b → i < m → b = i := fun i b hi h => GQ hi h
 have hget : ∀ b, b < m → b < H.length → (bE m vs H)[b]? = some b := fun b => FM
 generalize bE m vs H = ids at *
 have hWi : ∀ g, Wr (X.inn ids bl) g → Wr X g := by
  rintro g ⟨i, τ, L, hL, h0, rfl⟩
  obtain ⟨b, hb, hL⟩ := ls hL
  exact ⟨b, τ, L, hL, h0, rfl⟩
 refine ⟨⟨fun i B hi => ?_, fun b ρ L hL => ?_, h1.inj, h1.free⟩, fun g hg off hr => ?_, ⟨hFr.size, hFr.os, hFr.tape, hFr.output, hFr.keep, fun g hg => hFr.mine g (hWi g hg), fun g off hr => .inl (hFr.Rmono g off hr), fun g off hr hg => ?_⟩, fun i B hi ρ ht L hL => ?_⟩
 ·rw [List.getElem?_map] at hi
  cases hb : ids[i]? with
  | none => rw [hb] at hi; cases hi
  | some b =>
   rw [hb] at hi
   have hi := Option.some.inj hi
   have := h1.blk i ((Blk.map (j8 (dH ids)) (aP H b)).start) (by rw [List.getElem?_map, List.getElem?_map, hb]; rfl)
   intro ρ
   have h2 := this ρ
   rw [yS] at h2
   rw [← hi]
   exact h2
 ·have := h1.lt b ρ L hL
  simpa using this
 ·rcases hr with hr | ⟨c, _, τ, M, hM, h0, rfl⟩
  ·exact hF g hg off hr
  ·have := hH.g_lt hM h0
   have hg : X.w.heap.size ≤ M.g := hg
   omega
 ·rcases hr with hr | ⟨c, _, τ, M, hM, h0, rfl⟩
  ·exact hFr.Rsame g off hr hg
  ·rcases hFr.mine M.g ⟨c, τ, M, hM, h0, rfl⟩ with h2 | h2
   ·omega
   ·exact .inr h2
 ·rw [List.getElem?_map] at hi
  cases hb : ids[i]? with
  | none => rw [hb] at hi; cases hi
  | some b =>
   rw [hb] at hi
   have hi := Option.some.inj hi
   have := hge i b hb (hm i ρ L hL)
   subst this
   rw [← hi, zE] at ht
   show (ids[b]?).bind (fun b => X.loc b ρ) = some L
   rw [hb]
   exact hB b _ (hin b (List.mem_of_getElem? hb)) ρ ht L hL
theorem ED (h : Inv X0 X st a w) {ts : List AV} (hl : ts.length = st.tmps.length) (ht : ∀ (t : Nat) (u : AV), ts[t]? = some u → u = dead ∨ st.tmps[t]? = some u) {m : Nat} (hm : ∀ b ρ L, X0.loc b ρ = some L → b < m) : ∃ X', Inv X0 X' (Gg m ⟨ts, st.heap⟩) a w := by
 obtain ⟨h1, h2, h3, h4⟩ := FN (bl := []) h.heap h.fresh h.fr h.base ts hm fun b _ hb => by cases hb
 refine ⟨X.inn (bE m ts st.heap) [], h.hw, h.hd, ?_, fun t v V hv hV => ?_, h1, h2, h3, h4, h.glo.stab fun g off hr => ⟨.inl hr, rfl⟩⟩
 ·show a.tmps.size = (AV.mapL _ ts).length
  rw [gc, hl]; exact h.tsz
 ·obtain ⟨u, hu, rfl⟩ := iJ hv
  have hu : VA X none u V := by
   rcases ht t u hu with rfl | hu
   ·exact .dead _ _
   ·exact h.tmps t u V hu hV
  exact (hu.stab (gd.rb X [])).map (Ren.inn X _ []) none rfl
theorem kA (p : Nat → Bool) : ∀ (l : List Nat) (st : St) (X : Ctx), Inv X0 X st a w → ∃ X', Inv X0 X' (y7 p l st) a w
 | [], st, X, h => ⟨X, h⟩
 | t :: ts, st, X, h => by
  unfold y7
  split
  ·rename_i f hf
   split
   ·rename_i hz
    have hz := Nat.le_of_ble_eq_true hz
    have hg : (st.heap ++ [Blk.gone])[st.heap.length]? = some .gone := by simp
    have h0 := h.grow 1
    obtain ⟨h1, hS⟩ := Inv.nil1 (st := grow 1 st) h0 (id := st.heap.length) hz (fun _ => j7 (p t) (f 0)) hg
    have e : (grow 1 st).heap.set st.heap.length (.arr 0 (f 0).length 0 fun _ => j7 (p t) (f 0)) = st.heap ++ [.arr 0 (f 0).length 0 fun _ => j7 (p t) (f 0)] := by
     show (st.heap ++ [Blk.gone]).set st.heap.length _ = _
     simp
    rw [e] at h1
    refine kA p ts _ (X.node w st.heap.length [] ⟨0, (f 0).length, 0, 0⟩ (fun _ _ _ => none) []) ⟨h1.hw, h1.hd, by show a.tmps.size = (List.set _ _ _).length; rw [List.length_set]; exact h.tsz, fun s v V hv hV => ?_, h1.heap, h1.fresh, h1.fr, h1.base, h1.glo⟩
    rcases uz _ _ _ _ _ hv with ⟨rfl, rfl, hlt⟩ | ⟨hne, hv⟩
    ·have hv := h.tmps s (.nil f) V (by
      rw [List.getD_eq_getElem?_getD, List.getElem?_eq_getElem hlt] at hf
      rw [List.getElem?_eq_getElem hlt]
      exact congrArg some hf) hV
     cases hv with | nil _ _ A => ?_
     exact .ms none _ [] 0 0 A 0 ⟨0, (f 0).length, 0, 0⟩ cY (Nat.le_refl _) (Nat.le_refl _) fun h0 => absurd h0 (Nat.lt_irrefl 0)
    ·exact h1.tmps s v V hv hV
   ·exact kA p ts st X h
  ·exact kA p ts st X h
theorem sd (l : List Nat) : ∀ (H : List Blk) (i b : Nat), (untag l i H)[b]? = (H[b]?).map (Blk.also (Iq l (i + b)))
 | [], i, b => by simp [untag]
 | B :: Bs, i, 0 => by simp [untag]
 | B :: Bs, i, b + 1 => by
  have := sd l Bs (i + 1) b
  rw [show i + 1 + b = i + (b + 1) by omega] at this
  simp only [untag, List.getElem?_cons_succ]
  exact this
theorem yR (l : List Nat) : ∀ (H : List Blk) (i : Nat), (untag l i H).length = H.length
 | [], i => rfl
 | B :: Bs, i => by simp [untag, yR l Bs (i + 1)]
theorem aJ.untag {H : List Blk} (h : aJ X H) (l : List Nat) : aJ X (untag l 0 H) := by
 refine ⟨fun b B hB ρ => ?_, fun b ρ L hL => by rw [yR]; exact h.lt b ρ L hL, h.inj, h.free⟩
 rw [sd] at hB
 cases hx : H[b]? with
 | none => rw [hx] at hB; cases hB
 | some B0 =>
  rw [hx] at hB
  rw [← Option.some.inj hB, Bp]
  exact h.blk b B0 hx ρ
theorem jl.untag {H : List Blk} (h : jl X0 X H) (l : List Nat) : jl X0 X (untag l 0 H) := by
 intro b B hB ρ ht
 rw [sd] at hB
 cases hx : H[b]? with
 | none => rw [hx] at hB; cases hB
 | some B0 =>
  rw [hx] at hB
  rw [← Option.some.inj hB] at ht
  exact h b B0 hx ρ (Bq B0 _ ht).2
theorem Inv.untag (h : Inv X0 X st a w) (l : List Nat) : Inv X0 X { st with heap := untag l 0 st.heap } a w := ⟨h.hw, h.hd, h.tsz, h.tmps, h.heap.untag l, h.fresh, h.fr, h.base.untag l, h.glo⟩
theorem CD (h : Inv X0 X st a w) (l : List Nat) {m : Nat} (hm : ∀ b ρ L, X0.loc b ρ = some L → b < m) : ∃ X', Inv X0 X' (Gg m { st with tmps := rM l 0 st.tmps }) a w :=
 ED h (yQ l _ _) (fun t u hu => by
  rw [yP] at hu
  cases hx : st.tmps[t]? with
  | none => rw [hx] at hu; cases hu
  | some x =>
   rw [hx] at hu
   simp only [Option.map_some, Option.some.injEq] at hu
   cases hb : l.elem (0 + t) with
   | true => rw [hb] at hu; exact .inr (congrArg some hu)
   | false => rw [hb] at hu; exact .inl hu.symm) hm
theorem ow (h : Inv X0 X st a w) (L : Nat → Nat → Option (List Nat)) (q r : Nat) {m : Nat} (hm : ∀ b ρ L, X0.loc b ρ = some L → b < m) : ∃ X', Inv X0 X' (rO L q r m st) a w := by
 unfold rO
 split
 ·exact CD h _ hm
 ·exact ⟨X, h⟩
theorem vJ (h : Inv X0 X st a w) (L : Nat → Nat → Option (List Nat)) (r : Nat) {m : Nat} (hm : ∀ b ρ L, X0.loc b ρ = some L → b < m) : ∃ X', Inv X0 X' (tf L r m st) a w := by
 unfold tf
 have h1 : ∃ X', Inv X0 X' (D3 L r st) a w := by
  unfold D3
  split
  ·exact kA _ _ st X h
  ·exact ⟨X, h⟩
 obtain ⟨X1, h1⟩ := h1
 obtain ⟨X2, h2⟩ := ow h1 L 0 r hm
 have h3 : ∃ X', Inv X0 X' (Gh L r (rO L 0 r m (D3 L r st))) a w := by
  unfold Gh
  split
  ·exact h2.shrink _
  ·exact ⟨X2, h2⟩
 obtain ⟨X2, h2⟩ := h3
 unfold Hp
 split
 ·exact ⟨X2, h2.untag _⟩
 ·exact ⟨X2, h2⟩
end
end Go.Bm
