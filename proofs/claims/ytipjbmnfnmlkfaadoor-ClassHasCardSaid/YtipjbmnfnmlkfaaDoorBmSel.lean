import Derived.Test.YtipjbmnfnmlkfaaDoorBmShr
namespace Go.Bm
set_option autoImplicit false
set_option linter.unusedVariables false
set_option linter.unusedSimpArgs false
section
variable {P : Program} {X0 X : Ctx} {st : St} {a : Act} {w : World}
theorem wJ (l : List Nat) : ∀ (vs : List AV) (i t : Nat), (qg l i vs)[t]? = (vs[t]?).map fun v => bif l.elem (i + t) then v else dead
 | [], i, t => by simp [qg]
 | v :: vs, i, 0 => by simp [qg]
 | v :: vs, i, t + 1 => by simp [qg, wJ l vs (i + 1) t, Nat.add_assoc, Nat.add_comm 1 t]
theorem wK (l : List Nat) : ∀ (vs : List AV) (i : Nat), (qg l i vs).length = vs.length
 | [], i => rfl
 | v :: vs, i => by simp [qg, wK l vs (i + 1)]
theorem pJ : ∀ n, (u6 n).length = n
 | 0 => rfl
 | n + 1 => by rw [u6, List.length_append, pJ n]; rfl
theorem pK : ∀ (n b : Nat), (u6 n)[b]? = if b < n then some b else none
 | 0, b => by simp [u6]
 | n + 1, b => by
  have hl : (u6 n).length = n := pJ n
  rw [u6, List.getElem?_append, hl, pK n b]
  by_cases h1 : b < n
  ·simp [h1, show b < n + 1 by omega]
  ·by_cases h2 : b = n
   ·subst h2; simp
   ·have : ¬ b < n + 1 := by omega
    have h3 : b - n ≠ 0 := by omega
    simp [h1, this, h3]
theorem xI {n b : Nat} (h : b ∈ u6 n) : b < n := by
 obtain ⟨i, hi⟩ := List.getElem?_of_mem h
 rw [pK] at hi
 split at hi
 ·cases hi; assumption
 ·cases hi
theorem tP : ∀ n, (u6 n).Nodup
 | 0 => List.nodup_nil
 | n + 1 => List.nodup_append.2 ⟨tP n, by simp, fun x hx y hy => by
   have := xI hx
   simp at hy
   omega⟩
theorem je {h n b : Nat} : ∀ {l : List Nat}, b ∈ sv h n l → b ∈ l ∧ h ≤ b ∧ b < n
 | [], hb => by simp [sv] at hb
 | x :: l, hb => by
  unfold sv at hb
  cases hx : Nat.ble h x && Nat.ble (x + 1) n with
  | true =>
   rw [hx] at hb
   simp only [Bool.and_eq_true] at hx
   rcases List.mem_cons.1 hb with rfl | hb
   ·exact ⟨by simp, Nat.le_of_ble_eq_true hx.1, Nat.le_of_ble_eq_true hx.2⟩
   ·have := je hb; exact ⟨by simp [this.1], this.2⟩
  | false =>
   rw [hx] at hb
   have := je (l := l) hb
   exact ⟨by simp [this.1], this.2⟩
theorem lU {h n : Nat} : ∀ {l : List Nat}, l.Nodup → (sv h n l).Nodup
 | [], _ => List.nodup_nil
 | x :: l, hn => by
  have hn' := List.nodup_cons.1 hn
  unfold sv
  cases Nat.ble h x && Nat.ble (x + 1) n with
  | true => exact List.nodup_cons.2 ⟨fun hm => hn'.1 (je hm).1, lU hn'.2⟩
  | false => exact lU hn'.2
theorem kq (H : List Blk) : ∀ (n : Nat) (todo acc : List Nat), acc.Nodup → (qh H n todo acc).Nodup
 | 0, todo, acc, h => h
 | n + 1, [], acc, h => h
 | n + 1, b :: todo, acc, h => by
  unfold qh
  cases hb : acc.elem b with
  | true => exact kq H n todo acc h
  | false =>
   refine kq H n _ _ (List.nodup_append.2 ⟨h, by simp, fun x hx y hy => ?_⟩)
   simp at hy
   subst hy
   rintro rfl
   rw [List.elem_eq_true_of_mem hx] at hb
   cases hb
theorem Ai (h : Nat) (vs : List AV) (H : List Blk) : (bv h vs H).Nodup := by
 refine List.nodup_append.2 ⟨tP _, lU (kq _ _ _ _ List.nodup_nil), fun x hx y hy => ?_⟩
 have h1 := xI hx
 have h2 := (je hy).2
 omega
theorem Db {h b : Nat} {vs : List AV} {H : List Blk} (h1 : b < h) (h2 : b < H.length) : (bv h vs H)[b]? = some b := by
 unfold bv
 rw [List.getElem?_append_left (by rw [pJ]; omega), pK, if_pos (by omega)]
theorem EI {h b : Nat} {vs : List AV} {H : List Blk} (hb : b ∈ bv h vs H) : b < H.length := by
 unfold bv at hb
 rcases List.mem_append.1 hb with hb | hb
 ·have := xI hb; omega
 ·exact (je hb).2.2
theorem EJ {h i b : Nat} {vs : List AV} {H : List Blk} (hi : (bv h vs H)[i]? = some b) (h1 : i < h) : b = i := by
 unfold bv at hi
 rcases Nat.lt_or_ge i (u6 (min h H.length)).length with hl | hl
 ·rw [List.getElem?_append_left hl, pK] at hi
  split at hi
  ·exact (Option.some.inj hi).symm
  ·cases hi
 ·rw [List.getElem?_append_right hl] at hi
  have := (je (List.mem_of_getElem? hi)).2
  rw [pJ] at hl
  omega
theorem Dc {H : List Blk} (hH : aI X H) (hF : fF X) (hFr : Fr X0 X) (hB : i8 X0 X H) {m : Nat} (vs : List AV) (hm : ∀ b ρ L, X0.loc b ρ = some L → b < m) {bl : List Nat} (hd : ∀ b ∈ bv m vs H, b ∉ bl) :
  aI (X.inn (bv m vs H) bl) ((bv m vs H).map fun b => (aN H b).map (jz (dp (bv m vs H)))) ∧ fF (X.inn (bv m vs H) bl) ∧ Fr X0 (X.inn (bv m vs H) bl) ∧ i8 X0 (X.inn (bv m vs H) bl) ((bv m vs H).map fun b => (aN H b).map (jz (dp (bv m vs H)))) := by
 have hin : ∀ b ∈ bv m vs H, H[b]? = some (aN H b) := fun b hb => by
  have := EI hb
  simp [aN, List.getD, this]
 have h1 := hH.inn (Ai m vs H) hd hin
 have hge : ∀ i b, (bv m vs H)[i]? = some b → i < m → b = i := fun i b hi h => EJ hi h
 have hget : ∀ b, b < m → b < H.length → (bv m vs H)[b]? = some b := fun b => Db
 generalize bv m vs H = ids at *
 have hWi : ∀ g, Wr (X.inn ids bl) g → Wr X g := by
  rintro g ⟨i, τ, L, hL, h0, rfl⟩
  obtain ⟨b, hb, hL⟩ := kB hL
  exact ⟨b, τ, L, hL, h0, rfl⟩
 refine ⟨⟨fun i B hi => ?_, fun b ρ L hL => ?_, h1.inj, h1.free⟩, fun g hg off hr => ?_, ⟨hFr.size, hFr.os, hFr.tape, hFr.output, hFr.keep, fun g hg => hFr.mine g (hWi g hg), fun g off hr => .inl (hFr.Rmono g off hr), fun g off hr hg => ?_⟩, fun i B hi ρ ht L hL => ?_⟩
 ·rw [List.getElem?_map] at hi
  cases hb : ids[i]? with
  | none => rw [hb] at hi; cases hi
  | some b =>
   rw [hb] at hi
   have hi := Option.some.inj hi
   have := h1.blk i ((Blk.map (jz (dp ids)) (aN H b)).start) (by rw [List.getElem?_map, List.getElem?_map, hb]; rfl)
   intro ρ
   have h2 := this ρ
   rw [wM] at h2
   rw [← hi]
   exact h2
 ·have := h1.lt b ρ L hL
  simpa using this
 ·rcases hr with hr | ⟨c, _, τ, M, hM, h0, rfl⟩
  ·exact hF g hg off hr
  ·have := hH.g_lt hM h0
   have hg : X.w.heap.size ≤ M.g := hg
   omega
 ·rcases hr with hr | ⟨c, _, τ, M, hM, h0, rfl⟩
  ·exact hFr.Rsame g off hr hg
  ·rcases hFr.mine M.g ⟨c, τ, M, hM, h0, rfl⟩ with h2 | h2
   ·omega
   ·exact .inr h2
 ·rw [List.getElem?_map] at hi
  cases hb : ids[i]? with
  | none => rw [hb] at hi; cases hi
  | some b =>
   rw [hb] at hi
   have hi := Option.some.inj hi
   have := hge i b hb (hm i ρ L hL)
   subst this
   rw [← hi, xJ] at ht
   show (ids[b]?).bind (fun b => X.loc b ρ) = some L
   rw [hb]
   exact hB b _ (hin b (List.mem_of_getElem? hb)) ρ ht L hL
theorem Ct (h : Inv X0 X st a w) {ts : List AV} (hl : ts.length = st.tmps.length) (ht : ∀ (t : Nat) (u : AV), ts[t]? = some u → u = dead ∨ st.tmps[t]? = some u) {m : Nat} (hm : ∀ b ρ L, X0.loc b ρ = some L → b < m) : ∃ X', Inv X0 X' (El m ⟨ts, st.heap⟩) a w := by
 obtain ⟨h1, h2, h3, h4⟩ := Dc (bl := []) h.heap h.fresh h.fr h.base ts hm fun b _ hb => by cases hb
 refine ⟨X.inn (bv m ts st.heap) [], h.hw, h.hd, ?_, fun t v V hv hV => ?_, h1, h2, h3, h4, h.glo.stab fun g off hr => ⟨.inl hr, rfl⟩⟩
 ·show a.tmps.size = (AV.mapL _ ts).length
  rw [fI, hl]; exact h.tsz
 ·obtain ⟨u, hu, rfl⟩ := ic hv
  have hu : VA X none u V := by
   rcases ht t u hu with rfl | hu
   ·exact .dead _ _
   ·exact h.tmps t u V hu hV
  exact (hu.stab (fJ.rb X [])).map (Ren.inn X _ []) none rfl
theorem jY (p : Nat → Bool) : ∀ (l : List Nat) (st : St) (X : Ctx), Inv X0 X st a w → ∃ X', Inv X0 X' (xp p l st) a w
 | [], st, X, h => ⟨X, h⟩
 | t :: ts, st, X, h => by
  unfold xp
  split
  ·rename_i f hf
   split
   ·rename_i hz
    have hz := Nat.le_of_ble_eq_true hz
    have hg : (st.heap ++ [Blk.gone])[st.heap.length]? = some .gone := by simp
    have h0 := h.grow 1
    obtain ⟨h1, hS⟩ := Inv.nil1 (st := grow 1 st) h0 (id := st.heap.length) hz (fun _ => jy (p t) (f 0)) hg
    have e : (grow 1 st).heap.set st.heap.length (.arr 0 (f 0).length 0 fun _ => jy (p t) (f 0)) = st.heap ++ [.arr 0 (f 0).length 0 fun _ => jy (p t) (f 0)] := by
     show (st.heap ++ [Blk.gone]).set st.heap.length _ = _
     simp
    rw [e] at h1
    refine jY p ts _ (X.node w st.heap.length [] ⟨0, (f 0).length, 0, 0⟩ (fun _ _ _ => none) []) ⟨h1.hw, h1.hd, by show a.tmps.size = (List.set _ _ _).length; rw [List.length_set]; exact h.tsz, fun s v V hv hV => ?_, h1.heap, h1.fresh, h1.fr, h1.base, h1.glo⟩
    rcases tq _ _ _ _ _ hv with ⟨rfl, rfl, hlt⟩ | ⟨hne, hv⟩
    ·have hv := h.tmps s (.nil f) V (by
      rw [List.getD_eq_getElem?_getD, List.getElem?_eq_getElem hlt] at hf
      rw [List.getElem?_eq_getElem hlt]
      exact congrArg some hf) hV
     cases hv with | nil _ _ A => ?_
     exact .ms none _ [] 0 0 A 0 ⟨0, (f 0).length, 0, 0⟩ cN (Nat.le_refl _) (Nat.le_refl _) fun h0 => absurd h0 (Nat.lt_irrefl 0)
    ·exact h1.tmps s v V hv hV
   ·exact jY p ts st X h
  ·exact jY p ts st X h
theorem ra (l : List Nat) : ∀ (H : List Blk) (i b : Nat), (untag l i H)[b]? = (H[b]?).map (Blk.also (GT l (i + b)))
 | [], i, b => by simp [untag]
 | B :: Bs, i, 0 => by simp [untag]
 | B :: Bs, i, b + 1 => by
  have := ra l Bs (i + 1) b
  rw [show i + 1 + b = i + (b + 1) by omega] at this
  simp only [untag, List.getElem?_cons_succ]
  exact this
theorem wL (l : List Nat) : ∀ (H : List Blk) (i : Nat), (untag l i H).length = H.length
 | [], i => rfl
 | B :: Bs, i => by simp [untag, wL l Bs (i + 1)]
theorem aI.untag {H : List Blk} (h : aI X H) (l : List Nat) : aI X (untag l 0 H) := by
 refine ⟨fun b B hB ρ => ?_, fun b ρ L hL => by rw [wL]; exact h.lt b ρ L hL, h.inj, h.free⟩
 rw [ra] at hB
 cases hx : H[b]? with
 | none => rw [hx] at hB; cases hB
 | some B0 =>
  rw [hx] at hB
  rw [← Option.some.inj hB, yY]
  exact h.blk b B0 hx ρ
theorem i8.untag {H : List Blk} (h : i8 X0 X H) (l : List Nat) : i8 X0 X (untag l 0 H) := by
 intro b B hB ρ ht
 rw [ra] at hB
 cases hx : H[b]? with
 | none => rw [hx] at hB; cases hB
 | some B0 =>
  rw [hx] at hB
  rw [← Option.some.inj hB] at ht
  exact h b B0 hx ρ (yZ B0 _ ht).2
theorem Inv.untag (h : Inv X0 X st a w) (l : List Nat) : Inv X0 X { st with heap := untag l 0 st.heap } a w := ⟨h.hw, h.hd, h.tsz, h.tmps, h.heap.untag l, h.fresh, h.fr, h.base.untag l, h.glo⟩
theorem Aj (h : Inv X0 X st a w) (l : List Nat) {m : Nat} (hm : ∀ b ρ L, X0.loc b ρ = some L → b < m) : ∃ X', Inv X0 X' (El m { st with tmps := qg l 0 st.tmps }) a w :=
 Ct h (wK l _ _) (fun t u hu => by
  rw [wJ] at hu
  cases hx : st.tmps[t]? with
  | none => rw [hx] at hu; cases hu
  | some x =>
   rw [hx] at hu
   simp only [Option.map_some, Option.some.injEq] at hu
   cases hb : l.elem (0 + t) with
   | true => rw [hb] at hu; exact .inr (congrArg some hu)
   | false => rw [hb] at hu; exact .inl hu.symm) hm
theorem mW (h : Inv X0 X st a w) (L : Nat → Nat → Option (List Nat)) (q r : Nat) {m : Nat} (hm : ∀ b ρ L, X0.loc b ρ = some L → b < m) : ∃ X', Inv X0 X' (qi L q r m st) a w := by
 unfold qi
 split
 ·exact Aj h _ hm
 ·exact ⟨X, h⟩
theorem tQ (h : Inv X0 X st a w) (L : Nat → Nat → Option (List Nat)) (r : Nat) {m : Nat} (hm : ∀ b ρ L, X0.loc b ρ = some L → b < m) : ∃ X', Inv X0 X' (rE L r m st) a w := by
 unfold rE
 have h1 : ∃ X', Inv X0 X' (Ce L r st) a w := by
  unfold Ce
  split
  ·exact jY _ _ st X h
  ·exact ⟨X, h⟩
 obtain ⟨X1, h1⟩ := h1
 obtain ⟨X2, h2⟩ := mW h1 L 0 r hm
 have h3 : ∃ X', Inv X0 X' (Em L r (qi L 0 r m (Ce L r st))) a w := by
  unfold Em
  split
  ·exact h2.shrink _
  ·exact ⟨X2, h2⟩
 obtain ⟨X2, h2⟩ := h3
 unfold FJ
 split
 ·exact ⟨X2, h2.untag _⟩
 ·exact ⟨X2, h2⟩
end
end Go.Bm
