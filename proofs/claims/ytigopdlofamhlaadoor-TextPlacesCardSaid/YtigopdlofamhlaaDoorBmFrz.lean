/- The abstract machine is sound: slices that are told as they are, and stay so. -/
import Derived.Test.YtigopdlofamhlaaDoorBmCallB
namespace Go.Bm
set_option autoImplicit false
set_option linter.unusedVariables false
set_option linter.unusedSimpArgs false
section
variable {P : Program} {X0 X : Ctx} {st : St} {a : Act} {w W : World} {ok : Ob → Prop}
/-- Some blocks are gone; their memory stays as it is. -/
def Ctx.frz (X : Ctx) (bl : List Nat) : Ctx := { w := X.w, loc := fun b ρ => if b ∈ bl then none else X.loc b ρ, R := RB X bl }
theorem frz_loc {bl : List Nat} {b : Nat} {ρ : List Stp} {L : Loc} (h : (X.frz bl).loc b ρ = some L) : b ∉ bl ∧ X.loc b ρ = some L := by
  by_cases hb : b ∈ bl
  · have : (X.frz bl).loc b ρ = none := if_pos hb
    rw [this] at h; cases h
  · have : (X.frz bl).loc b ρ = X.loc b ρ := if_neg hb
    rw [this] at h; exact ⟨hb, h⟩
theorem goneL_mem {bl : List Nat} {x : Nat × Blk} (h : x ∈ goneL bl) : x.1 ∈ bl ∧ x.2 = .gone := by
  obtain ⟨c, hc, rfl⟩ := List.mem_map.1 h
  exact ⟨hc, rfl⟩
theorem goneL_not {bl : List Nat} {b : Nat} (h : ∀ x ∈ goneL bl, x.1 ≠ b) : b ∉ bl := fun hb => h (b, .gone) (List.mem_map.2 ⟨b, hb, rfl⟩) rfl
theorem Inv.freeze (h : Inv X0 X st a w) (bl : List Nat) (hb : ∀ b ∈ bl, b < st.heap.length) : Inv X0 (X.frz bl) ((Eff.mk dead (goneL bl) (bl.map fun c => (c, false))).on none st) (a.put none undef) w := by
  have hw := h.hw
  subst hw
  have hS : Ren X (X.frz bl) (scrR (bl.map fun c => (c, false))) := by
    refine ⟨fun g off hr => ⟨.inl hr, rfl⟩, fun b ρ c L hc hL => ?_⟩
    obtain ⟨rfl, hs⟩ := scr_some hc
    have hnb : c ∉ bl := fun hcb => by
      have := (hs (c, false) (List.mem_map.2 ⟨c, hcb, rfl⟩) rfl).1
      cases this
    show (if c ∈ bl then none else X.loc c ρ) = some L
    rw [if_neg hnb]
    exact hL
  have hbor : ∀ g, Bor X bl g → Wr X g := fun g ⟨b, _, ρ, L, hL, h0, e⟩ => ⟨b, ρ, L, hL, h0, e⟩
  have hwr : ∀ g, Wr (X.frz bl) g → Wr X g := fun g ⟨b, ρ, L, hL, h0, e⟩ => ⟨b, ρ, L, (frz_loc hL).2, h0, e⟩
  refine h.eff rfl hS (h.heap.upd hS (fun b hn ρ => if_neg (goneL_not hn)) (fun b _ ρ L _ _ => rfl) (fun x hx => ?_) (fun b ρ c τ L M hL hM h0 h1 e => h.heap.inj b ρ c τ L M (frz_loc hL).2 (frz_loc hM).2 h0 h1 e) fun b ρ L hL h0 off hr => ?_) (fun g hg off hr => ?_)
    ⟨h.fr.size, h.fr.os, h.fr.tape, h.fr.output, h.fr.keep, fun g hg => h.fr.mine g (hwr g hg), fun g off hr => .inl (h.fr.Rmono g off hr), fun g off hr hg => ?_⟩ (h.base.upd (fun b hn ρ L hL => ?_) fun x hx ρ ht => ?_) (fun d hd => by cases hd)
  · obtain ⟨h1, h2⟩ := goneL_mem hx
    refine ⟨hb _ h1, fun ρ => ?_⟩
    rw [h2]
    exact if_pos h1
  · obtain ⟨hnb, hL⟩ := frz_loc hL
    rcases hr with hr | ⟨c, hc, τ, M, hM, h1, e⟩
    · exact h.heap.free b ρ L hL h0 off hr
    · have := (h.heap.inj c τ b ρ M L hM hL h1 h0 e).1
      exact hnb (this ▸ hc)
  · rcases hr with hr | hr
    · exact h.fresh g hg off hr
    · have := Wr.lt h.heap (hbor g hr)
      have hg : X.w.heap.size ≤ g := hg
      omega
  · rcases hr with hr | hr
    · exact h.fr.Rsame g off hr hg
    · rcases h.fr.mine g (hbor g hr) with h1 | h1
      · exact absurd hg (by omega)
      · exact .inr h1
  · show (if b ∈ bl then none else X.loc b ρ) = some L
    rw [if_neg (goneL_not hn)]
    exact hL
  · rw [(goneL_mem hx).2] at ht
    cases ρ <;> cases ht
theorem zipV_len : ∀ (ps : List (Nat × Operand)) (vs : List AV), vs.length = ps.length → (zipV ps vs).length = ps.length
  | [], [], _ => rfl
  | p :: ps, v :: vs, h => by simp [zipV, zipV_len ps vs (by simpa using h)]
theorem zipV_get : ∀ (ps : List (Nat × Operand)) (vs : List AV) (j : Nat) (x : Nat × AV), (zipV ps vs)[j]? = some x → ∃ p, ps[j]? = some p ∧ vs[j]? = some x.2 ∧ x.1 = p.1
  | [], _, j, x, h => by simp [zipV] at h
  | p :: ps, [], j, x, h => by simp [zipV] at h
  | p :: ps, v :: vs, 0, x, h => by cases h; exact ⟨p, rfl, rfl, rfl⟩
  | p :: ps, v :: vs, j + 1, x, h => by
    obtain ⟨q, h1, h2, h3⟩ := zipV_get ps vs j x h
    exact ⟨q, h1, h2, h3⟩
theorem snapV_lt {H : List Blk} {v : AV} {r : AV × List Nat} (h : (snapV v).Gives ok (getB H) r) : ∀ b ∈ r.2, b < H.length := by
  intro b hb
  unfold snapV at h
  split at h
  · rename_i c ρ lo n
    obtain ⟨x, h1, h2⟩ := gives_bind h
    obtain ⟨y, h3, h10⟩ := gives_node h1
    obtain ⟨h4, h5⟩ := gives_chk h2
    obtain ⟨g, _, h6⟩ := gives_bind h5
    cases h6
    rw [List.mem_singleton] at hb
    subst hb
    rcases Nat.lt_or_ge b H.length with h7 | h7
    · exact h7
    · exfalso
      have h8 : getB H b = .lit 0 0 [] := by simp [getB, List.getD, h7]
      rw [h8] at h3
      cases h3
      cases ρ with
      | nil => cases h10; exact absurd h4 (by decide)
      | cons s ρ =>
        obtain ⟨k, o⟩ := s
        simp [Nd.go] at h10
  · cases h; cases hb
  · cases h; cases hb
theorem snapVs_lt {H : List Blk} : ∀ (vs : List AV) (r : List AV × List Nat), (snapVs vs).Gives ok (getB H) r → ∀ b ∈ r.2, b < H.length
  | [], r, h, b, hb => by cases h; cases hb
  | v :: vs, r, h, b, hb => by
    obtain ⟨x, h1, h2⟩ := gives_bind h
    obtain ⟨y, h3, h4⟩ := gives_bind h2
    cases h4
    rcases List.mem_append.1 hb with hb | hb
    · exact snapV_lt h1 b hb
    · exact snapVs_lt vs y h3 b hb
theorem putBlks_gone {id : Nat} : ∀ (l : List Nat) (H : List Blk), H[id]? = some .gone → (putBlks H (goneL l))[id]? = some .gone
  | [], H, h => h
  | b :: l, H, h => by
    refine putBlks_gone l (H.set b .gone) ?_
    rw [List.getElem?_set]
    split
    · rename_i e
      subst e
      rw [if_pos (List.getElem?_eq_some_iff.1 h).1]
    · exact h
theorem on_freeze (bl : List Nat) (v : AV) (id : Nat) (B : Blk) (dst : Option Nat) (st : St) : (Eff.mk v (goneL bl ++ [(id, B)]) (bl.map fun c => (c, false))).on dst st = (Eff.mk v [(id, B)] []).on dst ((Eff.mk dead (goneL bl) (bl.map fun c => (c, false))).on none st) := by
  rw [on_eq, on_eq, on_eq]
  have e1 : ∀ l : List Blk, l.map (Blk.scr []) = l := fun l => (List.map_congr_left fun B _ => blk_nil B).trans (List.map_id' _)
  show setT ⟨_, putBlks _ (goneL bl ++ [(id, B)])⟩ dst v = setT ⟨AV.mapL (scrR []) _, putBlks ((putBlks _ (goneL bl)).map (Blk.scr [])) [(id, B)]⟩ dst v
  rw [putBlks_append, mapL_nil, e1]
  rfl
theorem freezeE_sound (h : Inv X0 X st a w) {ρ : Operand → AV} (hρ : ∀ x, VA X none (ρ x) (a.eval x)) {id : Nat} {t : TypeId} {len : Nat} {parts : Array (Nat × Operand)} {e : Eff} (he : (freezeE P ρ id t len parts.toList).Gives ok (getB st.heap) e) (dst : Option Nat) :
    ∃ X' V W, (Instr.buildSlice t len (parts.map fun (i, x) => (i, a.eval x))).run P w = .ok V W ∧ Inv X0 X' (e.on dst st) (a.put dst V) W := by
  have hw := h.hw
  unfold freezeE at he
  split at he
  · rename_i et hu
    split at he
    · rename_i n z hn hz
      obtain ⟨hc, he1⟩ := gives_chk he
      simp only [Bool.and_eq_true] at hc
      obtain ⟨⟨c1, c2⟩, c3⟩ := hc
      have c1 := Nat.le_of_ble_eq_true c1
      have c2 := Nat.le_of_ble_eq_true c2
      have c3 := Nat.eq_of_beq_eq_true c3
      obtain ⟨s, hs, he2⟩ := gives_bind he1
      obtain ⟨cs, hcs, he3⟩ := gives_opt he2
      obtain ⟨hall, he4⟩ := gives_chk he3
      obtain ⟨hg, he5⟩ := freshE_gives _ _ he4
      have hg := gone_get (hg 0 (by omega))
      rw [Nat.add_zero] at hg
      cases he5
      obtain ⟨hsl, hsv⟩ := snapVs_sound h.heap s.2 _ s hs (fun b hb => hb)
      rw [List.length_map] at hsl
      have hlt := snapVs_lt _ s hs
      have p1 : (zipV parts.toList s.1).length = ((parts.map fun (i, x) => (i, a.eval x)).toList).length := by rw [zipV_len _ _ hsl]; simp
      have p2 : ∀ (j : Nat) (x : Nat × AV) (Y : Nat × Value), (zipV parts.toList s.1)[j]? = some x → ((parts.map fun (i, x) => (i, a.eval x)).toList)[j]? = some Y → x.1 = Y.1 ∧ VA (X.rb s.2) none x.2 Y.2 := fun j x Y hx hY => by
        obtain ⟨p, h1, h2, h3⟩ := zipV_get _ _ j x hx
        rw [Array.toList_map, List.getElem?_map, h1] at hY
        cases hY
        refine ⟨h3, hsv j x.2 _ h2 fun u hu' => ?_⟩
        rw [List.getElem?_map, h1] at hu'
        cases hu'
        exact (hρ p.2).retype P _
      obtain ⟨Res, hrun, hrow, hcl⟩ := lit_run' (X := X.rb s.2) (a := a) (w := w) (P := P) (zf := AV.pv) (fun hf j p V hp hV => .pv _ _ _ ((zfit_sound (X.rb s.2) hf).2 _ p V hp hV none).2.1) p1 p2 hu hn hz c1 c2 c3 hcs
      have hRs : Res.size = len * n := by have := hrow.1; rw [Array.length_toList] at this; omega
      refine (?_ : ∃ X' , Inv X0 X' _ (a.put dst (.slice (some ⟨w.heap.size, 0, none⟩) len len)) (w.alloc (.cells Res et))).elim fun X' hI => ⟨X', _, _, hrun, hI⟩
      rw [on_freeze]
      have hG := Grew.alloc w (.cells Res et)
      have hI1 := h.freeze s.2 hlt
      have hg1 : ((Eff.mk dead (goneL s.2) (s.2.map fun c => (c, false))).on none st).heap[id]? = some .gone := by
        rw [on_eq]
        show (putBlks (st.heap.map _) (goneL s.2))[id]? = some .gone
        refine putBlks_gone s.2 _ ?_
        rw [List.getElem?_map, hg]
        rfl
      have hfget : ∀ i, i < len → litF (z.map AV.pv) (chunk n cs len) i = Bm.part cs (i * n) n := fun i hi => litF_lt _ _ _ _ (chunk_get n len cs i hi)
      have hflen : ∀ i, i < len → (Bm.part cs (i * n) n).length = n := fun i hi => by
        have := Nat.mul_le_mul_right n (show i + 1 ≤ len from hi)
        rw [Nat.add_mul, Nat.one_mul] at this
        simp [Bm.part, hcl]; omega
      refine hI1.newRow hg1 hG (sz := n) (n := len) (room := len * n) (f := litF (z.map AV.pv) (chunk n cs len)) (T := fun _ _ _ => none) (org := fun _ _ => none) (tk := []) c1 (Nat.le_refl _) (by omega) (fun i hi => by rw [hfget i hi]; exact hflen i hi)
        (fun i j v hi hv => ?_) (fun i j hn' σ => rfl) (fun i j κ hκ => by cases hκ) (fun i j i' j' c κ κ' σ σ' e1 e2 e3 => by cases e1) (fun c hc => by cases hc) rfl (fun c hc => by cases hc) dst (fun Y hY => ?_)
      · rw [hfget i hi] at hv
        obtain ⟨hj, hv⟩ := part_get hv
        have hlt2 := lt_mul_of hi hj
        have hV : Res[i * n + j]? = some (Res[i * n + j]'(by omega)) := Array.getElem?_eq_getElem _
        refine ⟨_, hV, ?_⟩
        have hva := hrow.2 _ v _ hv (by rw [Array.getElem?_toList]; exact hV)
        have hp := all_get hall hv
        cases v with
        | pv p => cases hva with | pv _ _ _ hvp => exact CellG.pv hvp
        | _ => cases hp
      · exact .ms none id [] 0 len _ len _ hY (Nat.le_refl _) (by simp only; omega) fun _ => ⟨by simp, by rw [Nat.zero_add]; exact Nat.le_refl _⟩
    · cases he
  · cases he
end
end Go.Bm
