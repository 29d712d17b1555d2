/- The abstract machine is sound: arrays whose elements' own slices are told as they are, and stay so. -/
import Derived.Test.YtigopdlofamhlaaDoorBmFrz
namespace Go.Bm
set_option autoImplicit false
set_option linter.unusedVariables false
set_option linter.unusedSimpArgs false
section
variable {X : Ctx} {b : Nat} {B : Blk} {Q : Nat → Nat → Prop}
/-- An array's elements below a block's, told as they are. -/
theorem iceN_ok (hroot : RootOk X b B) (hQ : ∀ τ M, τ ≠ [] → X.loc b τ = some M → 0 < M.room → ∀ off, Q M.g off) {ρ : List Stp} (h0 : ρ ≠ []) {x : Nd} (hx : B.sub ρ = some x) (hd : x.dat = true) {L : Loc} (hL : X.loc b ρ = some L) {n cap : Nat} {A : Option Addr} (hn : n ≤ cap) (hl : n ≤ x.n) (hA : 0 < cap → A = some ⟨L.g, 0, none⟩)
    (ih : ∀ k j v V, k < n → (x.f k)[j]? = some v → VA X (some (b, ρ ++ [(k, j)])) v V → V.oneCell' = true → Dat v → VP Q X.w (snapC v) V) : VP Q X.w (.seq n fun i => snapL (x.f i)) (.slice A n cap) := by
  obtain ⟨L1, hL1, hr⟩ := hroot.some hx
  rw [hL] at hL1
  cases hL1
  rcases Nat.eq_zero_or_pos n with h1 | h1
  · subst h1; exact VP.seq0 _ _ _
  · have hA := hA (by omega)
    subst hA
    have h00 : 0 < L.room := by
      have h5 := hr.fit
      have h6 := lt_mul_of (show 0 < x.n by omega) hr.pos
      omega
    obtain ⟨cur, e, q1, q2, q3⟩ := hr.mem h00
    have hfit := hr.fit
    have key : ∀ i j, i < n → j < x.sz → cur[i * x.sz + j]? = some (cur.getD (i * x.sz + j) undef) := by
      intro i j hi hj
      have := lt_mul_of (show i < x.n by omega) hj
      simp [Array.getD, show i * x.sz + j < cur.size by omega]
    have hek : ∀ i j, keyOf x b ρ i j = some (b, ρ ++ [(i, j)]) := fun i j => by unfold keyOf; rw [hd]
    refine .seq n _ _ cap x.sz (fun i j => cur.getD (i * x.sz + j) undef) hn (fun i hi => by rw [snapL_len]; exact hr.row _ (by omega)) (fun _ => ⟨L.g, 0, rfl, fun i j hi hj => ?_⟩) fun i j p hi hp => ?_
    · refine ⟨hQ ρ L h0 hL h00 _, ?_⟩
      rw [q1.cell, Nat.zero_add]
      exact key i j hi hj
    · rw [snapL_get] at hp
      cases hv : (x.f i)[j]? with
      | none => rw [hv] at hp; cases hp
      | some v =>
        rw [hv] at hp
        cases hp
        have hj : j < x.sz := by
          have := (List.getElem?_eq_some_iff.1 hv).1
          rw [hr.row _ (by omega)] at this
          exact this
        obtain ⟨p1, p2, p3⟩ := q3 i j v _ (by omega) hv (key i j hi hj)
        rw [hek] at p1
        exact ih i j v _ hi hv p1 p2 (p3 hd)
mutual
theorem iceC_ok (hroot : RootOk X b B) (hX : ∀ g off, X.R g off → Q g off) (hQ : ∀ τ M, τ ≠ [] → X.loc b τ = some M → 0 < M.room → ∀ off, Q M.g off) : ∀ (v : AV) (ρ : List Stp) (V : Value), ρ ≠ [] → VA X (some (b, ρ)) v V → V.oneCell' = true → Dat v → (∀ sz n f, v = .own sz n f → B.sub ρ = some ⟨true, sz, n, f⟩) → VP Q X.w (snapC v) V
  | .own sz n f, ρ, V, h0, h, h1, hd, hs => by
    cases h with | own _ _ _ _ _ A cap L hL hLs hLl hn hA => ?_
    have hx := hs sz n f rfl
    refine iceN_ok (x := ⟨true, sz, n, f⟩) hroot hQ h0 hx rfl hL hn (Nat.le_refl _) (fun h0 => (hA h0).1) fun k j v V hk hv hva h1v hdv => ?_
    exact iceL_ok hroot hX hQ (f k) v (List.mem_of_getElem? hv) _ V (by simp) hva h1v hdv fun sz' n' f' e => by
      rw [Blk.sub_append hx, Nd.sub_cons]
      subst e
      have hv : (f k)[j]? = some (.own sz' n' f') := hv
      simp only [true_and, hk, if_true, hv, Option.bind_some]
      rfl
  | .pv p, ρ, V, h0, h, h1, hd, hs => by
    cases h; exact VP.stab (fun g off hr => ⟨hX g off hr, rfl⟩) ‹_›
  | .dead, ρ, V, h0, h, h1, hd, hs => hd.elim
  | .nil f, ρ, V, h0, h, h1, hd, hs => hd.elim
  | .ptr _ _ _ _, ρ, V, h0, h, h1, hd, hs => hd.elim
  | .aptr _ _ _ _ _ _, ρ, V, h0, h, h1, hd, hs => hd.elim
  | .pref _ _, ρ, V, h0, h, h1, hd, hs => hd.elim
  | .ms _ _ _ _, ρ, V, h0, h, h1, hd, hs => hd.elim
  | .clo _ _ _, ρ, V, h0, h, h1, hd, hs => hd.elim
  | .agg _, ρ, V, h0, h, h1, hd, hs => hd.elim
  | .tup _, ρ, V, h0, h, h1, hd, hs => hd.elim
  | .ifc _ _, ρ, V, h0, h, h1, hd, hs => hd.elim
theorem iceL_ok (hroot : RootOk X b B) (hX : ∀ g off, X.R g off → Q g off) (hQ : ∀ τ M, τ ≠ [] → X.loc b τ = some M → 0 < M.room → ∀ off, Q M.g off) : ∀ (l : List AV), ∀ v ∈ l, ∀ (ρ : List Stp) (V : Value), ρ ≠ [] → VA X (some (b, ρ)) v V → V.oneCell' = true → Dat v → (∀ sz n f, v = .own sz n f → B.sub ρ = some ⟨true, sz, n, f⟩) → VP Q X.w (snapC v) V
  | [], v, h => by cases h
  | u :: us, v, h => by
    rcases List.mem_cons.1 h with e | h
    · rw [e]; exact iceC_ok hroot hX hQ u
    · exact iceL_ok hroot hX hQ us v h
end
end

section
variable {P : Program} {X0 X : Ctx} {st : St} {a : Act} {w W : World} {ok : Ob → Prop}
/-- What a block's elements own stays as it is. -/
def Ctx.ice (X : Ctx) (b : Nat) : Ctx := { w := X.w, loc := fun c τ => if c = b ∧ τ ≠ [] then none else X.loc c τ, R := fun g off => X.R g off ∨ ∃ τ L, τ ≠ [] ∧ X.loc b τ = some L ∧ 0 < L.room ∧ L.g = g }
theorem ice_loc {b c : Nat} {τ : List Stp} {L : Loc} (h : (X.ice b).loc c τ = some L) : ¬ (c = b ∧ τ ≠ []) ∧ X.loc c τ = some L := by
  by_cases hb : c = b ∧ τ ≠ []
  · have : (X.ice b).loc c τ = none := if_pos hb
    rw [this] at h; cases h
  · have : (X.ice b).loc c τ = X.loc c τ := if_neg hb
    rw [this] at h; exact ⟨hb, h⟩
theorem ice_sound (h : Inv X0 X st a w) {v : AV} {V : Value} (hv : VA X none v V) {e : Eff} (he : (iceE v).Gives ok (getB st.heap) e) (dst : Option Nat) : ∃ X', Inv X0 X' (e.on dst st) (a.put dst V) w := by
  have hw := h.hw
  subst hw
  unfold iceE at he
  split at he <;> first | (cases he; done) | skip
  rename_i b lo n
  simp only [Ev.Gives] at he
  split at he <;> first | (cases he; done) | skip
  rename_i s sz N f hB
  cases he
  have hB := getB_gone hB (by simp)
  have hroot := h.heap.blk b _ hB
  have hS : Ren X (X.ice b) (scrR [(b, true)]) := by
    refine ⟨fun g off hr => ⟨.inl hr, rfl⟩, fun c ρ d L hc hL => ?_⟩
    obtain ⟨rfl, hs⟩ := scr_some hc
    have hn : ¬ (d = b ∧ ρ ≠ []) := fun ⟨h1, h2⟩ => by
      have := (hs (b, true) (by simp) h1.symm).2
      cases ρ with
      | nil => exact h2 rfl
      | cons _ _ => cases this
    show (if d = b ∧ ρ ≠ [] then none else X.loc d ρ) = some L
    rw [if_neg hn]; exact hL
  have hbor : ∀ g, (∃ τ L, τ ≠ [] ∧ X.loc b τ = some L ∧ 0 < L.room ∧ L.g = g) → Wr X g := fun g ⟨τ, L, _, hL, h0, e⟩ => ⟨b, τ, L, hL, h0, e⟩
  have hwr : ∀ g, Wr (X.ice b) g → Wr X g := fun g ⟨c, ρ, L, hL, h0, e⟩ => ⟨c, ρ, L, (ice_loc hL).2, h0, e⟩
  refine ⟨X.ice b, h.eff rfl hS (h.heap.upd hS (fun c hn ρ => if_neg fun hh => hn (b, .arr (minT 1 s) sz N fun i => (snapL (f i)).map AV.pv) (by simp) hh.1.symm) (fun c _ ρ L _ _ => rfl) (fun x hx => ?_) (fun c ρ d τ L M hL hM h0 h1 e => h.heap.inj c ρ d τ L M (ice_loc hL).2 (ice_loc hM).2 h0 h1 e) fun c ρ L hL h0 off hr => ?_) (fun g hg off hr => ?_)
    ⟨h.fr.size, h.fr.os, h.fr.tape, h.fr.output, h.fr.keep, fun g hg => h.fr.mine g (hwr g hg), fun g off hr => .inl (h.fr.Rmono g off hr), fun g off hr hg => ?_⟩ (h.base.upd (fun c hn ρ L hL => ?_) fun x hx ρ ht L hL => ?_) (fun d hd => ?_)⟩
  · have hx := List.mem_singleton.1 hx
    subst hx
    refine ⟨(List.getElem?_eq_some_iff.1 hB).1, fun ρ => ?_⟩
    cases ρ with
    | nil =>
      obtain ⟨L, h1, h2⟩ := hroot.some (show (Blk.arr s sz N f).sub [] = some ⟨true, sz, N, f⟩ from rfl)
      refine ⟨L, (if_neg fun hh => hh.2 rfl : (X.ice b).loc b [] = X.loc b []).trans h1, h2.sz, h2.len, h2.pos, h2.fit, fun i hi => ?_, fun h0 => ?_⟩
      · show ((snapL (f i)).map AV.pv).length = sz
        rw [List.length_map, snapL_len]; exact h2.row i hi
      · obtain ⟨cur, ty, q1, q2, q3⟩ := h2.mem h0
        refine ⟨cur, ty, q1, q2, fun i j v V hi hv hV => ?_⟩
        have hv : ((snapL (f i)).map AV.pv)[j]? = some v := hv
        rw [List.getElem?_map, snapL_get] at hv
        cases hu : (f i)[j]? with
        | none => rw [hu] at hv; cases hv
        | some u =>
          rw [hu] at hv
          cases hv
          obtain ⟨p1, p2, p3⟩ := q3 i j u V hi hu hV
          refine ⟨.pv _ _ _ (iceC_ok hroot (fun g off hr => .inl hr) (fun τ M h3 h4 h5 off => .inr ⟨τ, M, h3, h4, h5, rfl⟩) u [(i, j)] V (by simp) p1 p2 (p3 rfl) fun sz' n' f' e => ?_), p2, fun _ => trivial⟩
          subst e
          have hi : i < N := hi
          show Nd.sub ⟨true, sz, N, f⟩ ([] ++ [(i, j)]) = _
          rw [List.nil_append, Nd.sub_cons]
          simp only [true_and, hi, if_true, hu, Option.bind_some]
          rfl
    | cons t τ =>
      obtain ⟨i, o⟩ := t
      have e0 : (Blk.arr (minT 1 s) sz N fun i => (snapL (f i)).map AV.pv).sub ((i, o) :: τ) = none := by
        show Nd.sub ⟨true, sz, N, fun i => (snapL (f i)).map AV.pv⟩ ((i, o) :: τ) = none
        rw [Nd.sub]
        split
        · simp only [List.getElem?_map]
          cases (snapL (f i))[o]? <;> rfl
        · rfl
      rw [e0]
      exact if_pos ⟨rfl, by simp⟩
  · obtain ⟨hnb, hL⟩ := ice_loc hL
    rcases hr with hr | ⟨τ, M, h2, hM, h1, e⟩
    · exact h.heap.free c ρ L hL h0 off hr
    · obtain ⟨e1, e2⟩ := h.heap.inj b τ c ρ M L hM hL h1 h0 e
      exact hnb ⟨e1.symm, e2 ▸ h2⟩
  · rcases hr with hr | hr
    · exact h.fresh g hg off hr
    · have := Wr.lt h.heap (hbor g hr)
      have hg : X.w.heap.size ≤ g := hg
      omega
  · rcases hr with hr | hr
    · exact h.fr.Rsame g off hr hg
    · rcases h.fr.mine g (hbor g hr) with h1 | h1
      · exact absurd hg (by omega)
      · exact .inr h1
  · show (if c = b ∧ ρ ≠ [] then none else X.loc c ρ) = some L
    rw [if_neg fun hh => hn (b, .arr (minT 1 s) sz N fun i => (snapL (f i)).map AV.pv) (by simp) hh.1.symm]
    exact hL
  · have hx := List.mem_singleton.1 hx
    subst hx
    obtain ⟨t1, t2⟩ := keeps_min (show keeps (minT 1 s) ρ = true from ht)
    have e0 : ρ = [] := by simpa [keeps] using t1
    subst e0
    exact (if_neg fun hh => hh.2 rfl : (X.ice b).loc b [] = X.loc b []).trans (h.base b _ hB [] t2 L hL)
  · have := hv.map hS none rfl
    have e1 : AV.map (scrR [(b, true)]) (.ms b [] lo n) = .ms b [] lo n := by
      have : scrR [(b, true)] b false = some b := by simp [scrR]
      simp [AV.map, this]
    rw [e1] at this
    exact this
end
end Go.Bm
