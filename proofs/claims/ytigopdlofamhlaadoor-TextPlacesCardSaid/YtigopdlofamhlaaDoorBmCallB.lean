/- The abstract machine is sound: a call, and its caller. -/
import Derived.Test.YtigopdlofamhlaaDoorBmCall
namespace Go.Bm
set_option autoImplicit false
set_option linter.unusedVariables false
set_option linter.unusedSimpArgs false

section
variable {P : Program} {X0 X : Ctx} {st : St} {a : Act} {w W : World} {ok : Ob → Prop}

/-- What a callee is told. -/
def Ctx.inn (X : Ctx) (l bl : List Nat) : Ctx := { w := X.w, R := RB X bl, loc := fun i τ => (l[i]?).bind fun b => X.loc b τ }
theorem Ren.inn (X : Ctx) (l bl : List Nat) : Ren (X.rb bl) (X.inn l bl) (numR (place l)) := ⟨fun g off hr => ⟨hr, rfl⟩, fun b ρ c L hc hL => by
  have := place_some (show place l b = some c from hc)
  show (l[c]?).bind (fun b => X.loc b ρ) = some L
  rw [this]; exact hL⟩
theorem inn_loc {l bl : List Nat} {i b : Nat} (h : l[i]? = some b) (τ : List Stp) : (X.inn l bl).loc i τ = X.loc b τ := by
  show (l[i]?).bind (fun b => X.loc b τ) = _
  rw [h]; rfl
theorem inn_some {l bl : List Nat} {i : Nat} {τ : List Stp} {L : Loc} (h : (X.inn l bl).loc i τ = some L) : ∃ b, l[i]? = some b ∧ X.loc b τ = some L := Option.bind_eq_some_iff.1 h
theorem HeapOk.inn {H : List Blk} (h : HeapOk X H) {l bl : List Nat} (hl : l.Nodup) (hd : ∀ b ∈ l, b ∉ bl) (hin : ∀ b ∈ l, H[b]? = some (getB H b)) : HeapOk (X.inn l bl) ((l.map (getB H)).map fun B => (Blk.map (numR (place l)) B).start) := by
  have hR : Ren X (X.inn l bl) (numR (place l)) := ⟨fun g off hr => ⟨.inl hr, rfl⟩, fun b ρ c L hc hL => by
    have := place_some (show place l b = some c from hc)
    rw [inn_loc this]; exact hL⟩
  refine ⟨fun i B hB => ?_, fun i ρ L hL => ?_, fun i ρ j τ L M hL hM h0 h0' hg => ?_, fun i ρ L hL h0 off hr => ?_⟩
  · rw [List.getElem?_map, List.getElem?_map] at hB
    cases hb : l[i]? with
    | none => rw [hb] at hB; cases hB
    | some b =>
      rw [hb] at hB
      cases hB
      have hbl := hin b (List.mem_of_getElem? hb)
      exact ((h.blk b _ hbl).map hR (c := i) (fun ρ L hL => by rw [inn_loc hb]; exact hL) (fun ρ hL => by rw [inn_loc hb]; exact hL) (fun _ _ _ _ => rfl)).start
  · obtain ⟨b, hb, _⟩ := inn_some hL
    simpa using (List.getElem?_eq_some_iff.1 hb).1
  · obtain ⟨b, hb, hL⟩ := inn_some hL
    obtain ⟨c, hc, hM⟩ := inn_some hM
    obtain ⟨rfl, rfl⟩ := h.inj b ρ c τ L M hL hM h0 h0' hg
    have := place_of hl hb
    rw [place_of hl hc] at this
    exact ⟨(Option.some.inj this).symm, rfl⟩
  · obtain ⟨b, hb, hL⟩ := inn_some hL
    rcases hr with hr | ⟨c, hc, τ, M, hM, h0', hg⟩
    · exact h.free b ρ L hL h0 off hr
    · obtain ⟨rfl, _⟩ := h.inj c τ b ρ M L hM hL h0' h0 hg
      exact hd _ (List.mem_of_getElem? hb) hc

theorem callE_sound (hC : ∀ f args H r H', ok (.c f args H r H') → Does P f args H (r, H')) (h : Inv X0 X st a w) {id : Nat} {lend : Bool} {f : FuncId} {args : List AV} {Args : List Value} (hl : Args.length = args.length)
    (hA : ∀ (j : Nat) (v : AV) (V : Value), args[j]? = some v → Args[j]? = some V → VA X none v V) {e : Eff} (he : (callE P id lend f args).Gives ok (getB st.heap) e) :
    callOk P f = true ∧ Calls P f Args.toArray w fun en w' => ∃ V X', en = .returned V ∧ ∀ dst, Inv X0 X' (e.on dst st) (a.put dst V) w' := by
  have hw := h.hw
  subst hw
  unfold callE at he
  obtain ⟨hcall, he1⟩ := gives_chk he
  refine ⟨hcall, ?_⟩
  obtain ⟨s, hs, he2⟩ := gives_bind he1
  obtain ⟨l, hlr, he3⟩ := gives_bind he2
  obtain ⟨hc, he4⟩ := gives_chk he3
  obtain ⟨Bs, hBs, he5⟩ := gives_bind he4
  obtain ⟨r, H', hok, he6⟩ := he5
  obtain ⟨hlen, he7⟩ := gives_chk he6
  obtain ⟨hfr, he8⟩ := freshE_gives _ _ he7
  simp only [Bool.and_eq_true] at hc hlen
  obtain ⟨hnd, hdis⟩ := hc
  have hnd := noDup_nodup hnd
  have hdis : ∀ b ∈ l, b ∉ s.2 := fun b hb hb' => by
    have := List.all_eq_true.1 hdis b hb
    rw [List.elem_eq_true_of_mem hb'] at this
    cases this
  have hlen1 := Nat.le_of_ble_eq_true hlen.1
  have hBs := blksE_spec _ _ hBs
  have hin : ∀ b ∈ l, st.heap[b]? = some (getB st.heap b) ∧ getB st.heap b ≠ .gone := fun b hb => by
    rcases reachE_spec _ _ _ _ hlr b hb with h1 | ⟨h1, h2⟩
    · cases h1
    · exact ⟨getB_gone rfl h2, h1⟩
  -- the arguments
  have hargs : s.1.length = args.length ∧ ∀ (j : Nat) (v : AV) (V : Value), s.1[j]? = some v → Args[j]? = some V → VA (X.rb s.2) none v V := by
    cases lend with
    | true =>
      obtain ⟨k1, k2⟩ := snapAs_sound h.heap s.2 args s hs fun b hb => hb
      exact ⟨k1, fun j v V hj hV => k2 j v V hj fun u hu => hA j u V hu hV⟩
    | false =>
      cases hs
      exact ⟨rfl, fun j v V hj hV => (hA j v V hj hV).stab (Stab.rb X [])⟩
  obtain ⟨ha1, ha2⟩ := hargs
  let Xi := X.inn l s.2
  have hXi : HeapOk Xi (Bs.map fun B => (Blk.map (numR (place l)) B).start) := by rw [hBs]; exact h.heap.inn hnd hdis fun b hb => (hin b hb).1
  have hFi : Fresh Xi := fun g hg off hr => by
    rcases hr with hr | ⟨c, _, τ, M, hM, h0, rfl⟩
    · exact h.fresh g hg off hr
    · have := h.heap.g_lt hM h0
      have hg : X.w.heap.size ≤ M.g := hg
      omega
  have hcall := hC _ _ _ _ _ hok Xi Args (by rw [mapL_len, ha1]; exact hl) (fun j v V hj hV => by
    obtain ⟨u, hu, rfl⟩ := mapL_inv hj
    exact (ha2 j u V hu hV).map (Ren.inn X l s.2) none rfl) hXi hFi (h.glo.stab fun g off hr => ⟨.inl hr, rfl⟩)
  refine hcall.mono ?_
  rintro en w' ⟨V, Y, rfl, rfl, hFr, hBase, hH, hF, hv⟩
  have hH : HeapOk Y H' := hH
  have hBase : Base Xi Y H' := hBase
  have hv : VA Y none r V := hv
  -- the numbers of the blocks that come back
  let ids := backIds l id H'.length
  have hil : ids.length = H'.length := by
    show (l ++ upFrom id (H'.length - l.length)).length = _
    rw [List.length_append, upFrom_len]; omega
  have hfree : ∀ c ∈ upFrom id (H'.length - l.length), st.heap[c]? = some .gone := fun c hc => by
    have := upFrom_mem hc
    have h1 := gone_get (hfr (c - id) (by omega))
    rw [show id + (c - id) = c by omega] at h1
    exact h1
  have hidn : ids.Nodup := by
    refine List.nodup_append.2 ⟨hnd, upFrom_nodup _ _, fun x hx y hy e => ?_⟩
    subst e
    have h1 := hfree x hy
    have h2 := hin x hx
    rw [h2.1] at h1
    exact h2.2 (Option.some.inj h1)
  have hidl : ∀ (i b : Nat), l[i]? = some b → ids[i]? = some b := fun i b hb => by
    show (l ++ upFrom id (H'.length - l.length))[i]? = some b
    rw [List.getElem?_append_left (List.getElem?_eq_some_iff.1 hb).1]; exact hb
  have hidg : ∀ c ∈ ids, c ∈ l ∨ st.heap[c]? = some .gone := fun c hc => (List.mem_append.1 hc).imp (fun h => h) (hfree c)
  have hidlt : ∀ c ∈ ids, c < st.heap.length := fun c hc => by
    rcases hidg c hc with hc | hc
    · exact (List.getElem?_eq_some_iff.1 (hin c hc).1).1
    · exact (List.getElem?_eq_some_iff.1 hc).1
  have hnl : ∀ c, st.heap[c]? = some .gone → ∀ τ, X.loc c τ = none := fun c hc τ => loc_gone h.heap (getB_of hc) τ
  let R' : Nat → Nat → Prop := fun g off => Y.R g off ∧ (X.R g off ∨ ¬ Bor X s.2 g)
  let X' : Ctx := { w := Y.w, R := R', loc := fun c τ => match place ids c with | some i => Y.loc i τ | none => X.loc c τ }
  have x1 : ∀ (i c : Nat), ids[i]? = some c → ∀ τ, X'.loc c τ = Y.loc i τ := fun i c hi τ => by
    show (match place ids c with | some i => Y.loc i τ | none => X.loc c τ) = _
    rw [place_of hidn hi]
  have x2 : ∀ c, c ∉ ids → ∀ τ, X'.loc c τ = X.loc c τ := fun c hc τ => by
    show (match place ids c with | some i => Y.loc i τ | none => X.loc c τ) = _
    cases hp : place ids c with
    | none => rfl
    | some i => exact absurd (List.mem_of_getElem? (place_some hp)) hc
  have x3 : ∀ c τ L, X'.loc c τ = some L → (∃ i : Nat, ids[i]? = some c ∧ Y.loc i τ = some L) ∨ (c ∉ ids ∧ X.loc c τ = some L) := fun c τ L hL => by
    by_cases hc : c ∈ ids
    · obtain ⟨i, hi⟩ := List.getElem?_of_mem hc
      rw [x1 i c hi] at hL
      exact .inl ⟨i, hi, hL⟩
    · rw [x2 c hc] at hL; exact .inr ⟨hc, hL⟩
  -- what was not handed over is as it was
  have hWi : ∀ g, Wr Xi g → ∃ b ∈ l, ∃ τ L, X.loc b τ = some L ∧ 0 < L.room ∧ L.g = g := by
    rintro g ⟨i, τ, L, hL, h0, rfl⟩
    obtain ⟨b, hb, hL⟩ := inn_some hL
    exact ⟨b, List.mem_of_getElem? hb, τ, L, hL, h0, rfl⟩
  have hkeepR : ∀ g off, X.R g off → Y.w.cell? ⟨g, off, none⟩ = X.w.cell? ⟨g, off, none⟩ := fun g off hr => by
    rcases hFr.keep g (R_lt h.fresh hr) with hg | hg
    · obtain ⟨b, _, τ, L, hL, h0, rfl⟩ := hWi g hg
      exact absurd hr (h.heap.free b τ L hL h0 off)
    · exact World.cell?_of_block (w := X.w) (a := ⟨g, off, none⟩) hg
  have hkeep : ∀ c τ L, c ∉ l → X.loc c τ = some L → 0 < L.room → Y.w.heap[L.g]? = X.w.heap[L.g]? := fun c τ L hc hL h0 => by
    rcases hFr.keep L.g (h.heap.g_lt hL h0) with hg | hg
    · obtain ⟨b, hb, τ', M, hM, h0', hg⟩ := hWi _ hg
      obtain ⟨rfl, _⟩ := h.heap.inj b τ' c τ M L hM hL h0' h0 hg
      exact absurd hb hc
    · exact hg
  have hRR : ∀ g off, X.R g off → X'.R g off ∧ X'.w.cell? ⟨g, off, none⟩ = X.w.cell? ⟨g, off, none⟩ := fun g off hr => ⟨⟨hFr.Rmono g off (.inl hr), .inl hr⟩, hkeepR g off hr⟩
  have hren : ∀ c τ d L, scrR (scOf l H') c (!τ.isEmpty) = some d → X.loc c τ = some L → X'.loc d τ = some L := by
    intro c τ d L hd hL
    obtain ⟨rfl, hsc⟩ := scr_some hd
    by_cases hc : d ∈ ids
    · rcases hidg d hc with hcl | hcg
      · obtain ⟨i, hi⟩ := List.getElem?_of_mem hcl
        have hiH : i < H'.length := by have := (List.getElem?_eq_some_iff.1 hi).1; omega
        have hHi : H'[i]? = some (H'[i]'hiH) := List.getElem?_eq_getElem _
        have hk : keeps (H'[i]'hiH).tag τ = true := by
          cases hk : keeps (H'[i]'hiH).tag τ with
          | true => rfl
          | false =>
            exfalso
            cases τ with
            | nil =>
              obtain ⟨q, m1, m2⟩ := scOf_get hi hHi false hk
              have := (hsc _ m1 rfl).1
              rcases m2 with rfl | m2
              · cases this
              · cases m2
            | cons s0 τ =>
              have hk' : keeps (H'[i]'hiH).tag (if true = true then [(0, 0)] else []) = false := by
                revert hk
                generalize (H'[i]'hiH).tag = t
                match t with
                | 0 => intro _; rfl
                | 1 => intro _; rfl
                | n + 2 => intro h; cases h
              obtain ⟨q, m1, m2⟩ := scOf_get hi hHi true hk'
              have := (hsc _ m1 rfl).2
              simp at this
        rw [x1 i d (hidl i d hi)]
        exact hBase i _ hHi τ hk L (by show Xi.loc i τ = some L; rw [show Xi.loc i τ = X.loc d τ from inn_loc hi τ]; exact hL)
      · rw [hnl d hcg] at hL; cases hL
    · rw [x2 d hc]; exact hL
  let X'' : Ctx := X'.withR Y.R
  have hbk : Ren Y X'' (numR fun i => ids[i]?) := ⟨fun g off hr => ⟨hr, rfl⟩, fun i τ c L hc hL => by
    show X'.loc c τ = some L
    rw [x1 i c hc]; exact hL⟩
  have hstab : s.2 = [] → Stab X'' X' := fun hs2 => ⟨fun g off hr => ⟨⟨hr, .inr fun hb => by
    obtain ⟨b, hb, _⟩ := hb
    rw [hs2] at hb; cases hb⟩, rfl⟩, fun _ _ _ hL => hL⟩
  -- values and blocks that come back
  have hval : ∀ v V, VA Y none v V → (s.2 = [] → VA X' none (v.map (numR fun i => ids[i]?)) V) ∧ VA X' none (erV (v.map (numR fun i => ids[i]?))) V := by
    intro v V hv
    have h1 := hv.map hbk none rfl
    exact ⟨fun hs2 => h1.stab (hstab hs2), h1.er (R := R')⟩
  have hblk : ∀ (i c : Nat) (B : Blk), ids[i]? = some c → H'[i]? = some B → (s.2 = [] → RootOk X' c (B.map (numR fun i => ids[i]?))) ∧ RootOk X' c (erB (B.map (numR fun i => ids[i]?))) := by
    intro i c B hi hB
    have h1 := (hH.blk i B hB).map hbk (c := c) (fun ρ L hL => by show X'.loc c ρ = some L; rw [x1 i c hi]; exact hL) (fun ρ hL => by show X'.loc c ρ = none; rw [x1 i c hi]; exact hL) (fun _ _ _ _ => rfl)
    exact ⟨fun hs2 => h1.stab (hstab hs2) (fun ρ hL => hL) (fun _ _ _ _ => rfl), h1.er (R := R')⟩
  -- whose the blocks are
  have hWX : ∀ g, Wr X' g → Wr X g ∨ X.w.heap.size ≤ g := by
    rintro g ⟨c, τ, L, hL, h0, rfl⟩
    rcases x3 c τ L hL with ⟨i, hi, hL⟩ | ⟨hc, hL⟩
    · rcases hFr.mine L.g ⟨i, τ, L, hL, h0, rfl⟩ with hg | hg
      · exact .inr hg
      · obtain ⟨b, _, τ', M, hM, h0', hg⟩ := hWi _ hg
        exact .inl ⟨b, τ', M, hM, h0', hg⟩
    · exact .inl ⟨c, τ, L, hL, h0, rfl⟩
  have hinj : ∀ c τ d υ L M, X'.loc c τ = some L → X'.loc d υ = some M → 0 < L.room → 0 < M.room → L.g = M.g → c = d ∧ τ = υ := by
    have cross : ∀ (i : Nat) c τ d υ L M, ids[i]? = some c → Y.loc i τ = some L → d ∉ ids → X.loc d υ = some M → 0 < L.room → 0 < M.room → L.g = M.g → False := by
      intro i c τ d υ L M hi hL hd hM h0 h0' hg
      rcases hFr.mine L.g ⟨i, τ, L, hL, h0, rfl⟩ with hh | hh
      · have := h.heap.g_lt hM h0'
        have hh : X.w.heap.size ≤ L.g := hh
        omega
      · obtain ⟨b, hb, τ', K, hK, hk0, hk⟩ := hWi _ hh
        obtain ⟨rfl, _⟩ := h.heap.inj b τ' d υ K M hK hM hk0 h0' (hk.trans hg)
        obtain ⟨j, hj⟩ := List.getElem?_of_mem hb
        exact hd (List.mem_of_getElem? (hidl j _ hj))
    intro c τ d υ L M hL hM h0 h0' hg
    rcases x3 c τ L hL with ⟨i, hi, hL⟩ | ⟨hc, hL⟩
    · rcases x3 d υ M hM with ⟨j, hj, hM⟩ | ⟨hd, hM⟩
      · obtain ⟨rfl, rfl⟩ := hH.inj i τ j υ L M hL hM h0 h0' hg
        rw [hi] at hj
        exact ⟨Option.some.inj hj, rfl⟩
      · exact (cross i c τ d υ L M hi hL hd hM h0 h0' hg).elim
    · rcases x3 d υ M hM with ⟨j, hj, hM⟩ | ⟨hd, hM⟩
      · exact (cross j d υ c τ M L hj hM hc hL h0' h0 hg.symm).elim
      · exact h.heap.inj c τ d υ L M hL hM h0 h0' hg
  have hfreeX : ∀ c τ L, X'.loc c τ = some L → 0 < L.room → ∀ off, ¬ X'.R L.g off := by
    intro c τ L hL h0 off hr
    obtain ⟨hr1, hr2⟩ : Y.R L.g off ∧ (X.R L.g off ∨ ¬ Bor X s.2 L.g) := hr
    rcases x3 c τ L hL with ⟨i, hi, hL⟩ | ⟨hc, hL⟩
    · exact hH.free i τ L hL h0 off hr1
    · have hlt := h.heap.g_lt hL h0
      rcases hFr.Rsame L.g off hr1 hlt with hh | hh
      · rcases hh with hh | hh
        · exact h.heap.free c τ L hL h0 off hh
        · rcases hr2 with hr2 | hr2
          · exact h.heap.free c τ L hL h0 off hr2
          · exact hr2 hh
      · obtain ⟨b, hb, τ', M, hM, h0', hg⟩ := hWi _ hh
        obtain ⟨rfl, _⟩ := h.heap.inj b τ' c τ M L hM hL h0' h0 hg
        obtain ⟨j, hj⟩ := List.getElem?_of_mem hb
        exact hc (List.mem_of_getElem? (hidl j _ hj))
  have hF' : Fresh X' := fun g hg off hr => hF g hg off hr.1
  have hFr' : Fr X0 X' := by
    have hs := h.fr.size
    have hs' : X.w.heap.size ≤ Y.w.heap.size := hFr.size
    refine ⟨Nat.le_trans hs hs', hFr.os.trans h.fr.os, hFr.tape.trans h.fr.tape, hFr.output.trans h.fr.output, fun g hg => ?_, fun g hg => ?_, fun g off hr => ⟨hFr.Rmono g off (.inl (h.fr.Rmono g off hr)), .inl (h.fr.Rmono g off hr)⟩, fun g off hr hg => ?_⟩
    · rcases hFr.keep g (Nat.lt_of_lt_of_le hg hs) with hh | hh
      · obtain ⟨b, hb, τ', M, hM, h0', hgg⟩ := hWi _ hh
        rcases h.fr.mine g ⟨b, τ', M, hM, h0', hgg⟩ with h1 | h1
        · omega
        · exact .inl h1
      · exact (h.fr.keep g hg).imp (fun h => h) fun e => (show Y.w.heap[g]? = X.w.heap[g]? from hh).trans e
    · rcases hWX g hg with h1 | h1
      · exact h.fr.mine g h1
      · exact .inl (Nat.le_trans hs h1)
    · obtain ⟨hr1, hr2⟩ : Y.R g off ∧ (X.R g off ∨ ¬ Bor X s.2 g) := hr
      rcases hFr.Rsame g off hr1 (Nat.lt_of_lt_of_le hg hs) with hh | hh
      · rcases hh with hh | hh
        · exact h.fr.Rsame g off hh hg
        · rcases hr2 with hr2 | hr2
          · exact h.fr.Rsame g off hr2 hg
          · exact absurd hh hr2
      · obtain ⟨b, hb, τ', M, hM, h0', hgg⟩ := hWi _ hh
        rcases h.fr.mine g ⟨b, τ', M, hM, h0', hgg⟩ with h1 | h1
        · omega
        · exact .inr h1
  -- the effect
  have main : ∀ (val : AV) (bs : List Blk), bs.length = H'.length → (∀ (i c : Nat) (B : Blk), ids[i]? = some c → bs[i]? = some B → RootOk X' c B ∧ ∃ B0, H'[i]? = some B0 ∧ B.tag = B0.tag) → VA X' none val V → ∀ dst, Inv X0 X' ((Eff.mk val (zipB ids (alsoL Bs bs)) (scOf l H')).on dst st) (a.put dst V) Y.w := by
    intro val bs hbl hbs hv' dst
    have hmem : ∀ y ∈ zipB ids (alsoL Bs bs), ∃ (i : Nat) (B B0 : Blk) (t : Nat), ids[i]? = some y.1 ∧ y.2 = B.also t ∧ bs[i]? = some B ∧ H'[i]? = some B0 ∧ B.tag = B0.tag ∧ RootOk X' y.1 B ∧ (∀ ρ, keeps t ρ = true → ∃ b A, l[i]? = some b ∧ st.heap[b]? = some A ∧ keeps A.tag ρ = true ∧ y.1 = b) := by
      intro y hy
      obtain ⟨i, h1, h2⟩ := zipB_mem hy
      rw [alsoL_get] at h2
      cases hB : bs[i]? with
      | none => rw [hB] at h2; cases h2
      | some B =>
        rw [hB] at h2
        have h2 := Option.some.inj h2
        obtain ⟨h3, B0, h4, h5⟩ := hbs i y.1 B h1 hB
        refine ⟨i, B, B0, _, h1, h2.symm, hB, h4, h5, h3, fun ρ ht => ?_⟩
        rw [hBs, List.getElem?_map] at ht
        cases hb : l[i]? with
        | none => rw [hb] at ht; cases ht
        | some b =>
          rw [hb] at ht
          refine ⟨b, getB st.heap b, rfl, (hin b (List.mem_of_getElem? hb)).1, ht, ?_⟩
          have := hidl i b hb
          rw [h1] at this
          exact Option.some.inj this
    have hout : ∀ c, (∀ y ∈ zipB ids (alsoL Bs bs), y.1 ≠ c) → c ∉ ids := by
      intro c hc hcm
      obtain ⟨i, hi⟩ := List.getElem?_of_mem hcm
      have hlt : i < (alsoL Bs bs).length := by
        have h1 := (List.getElem?_eq_some_iff.1 hi).1
        rw [hil, ← hbl] at h1
        have h2 := alsoL_get Bs bs i
        rw [List.getElem?_eq_getElem h1] at h2
        exact (List.getElem?_eq_some_iff.1 h2).1
      obtain ⟨B, hB⟩ := zipB_of hi hlt
      exact hc _ hB rfl
    refine h.eff (Y := X') rfl ⟨hRR, hren⟩ (h.heap.upd ⟨hRR, hren⟩ (fun c hc τ => x2 c (hout c hc) τ) (fun c hc τ L hL h0 => hkeep c τ L (fun hcl => by
      obtain ⟨j, hj⟩ := List.getElem?_of_mem hcl
      exact hout c hc (List.mem_of_getElem? (hidl j _ hj))) hL h0) (fun y hy => ?_) hinj hfreeX) hF' hFr' (h.base.upd (fun c hc τ L hL => by rw [x2 c (hout c hc)]; exact hL) fun y hy τ ht L hL => ?_) fun d _ => hv'
    · obtain ⟨i, B, B0, t, h1, h2, h3, h4, h5, h6, _⟩ := hmem y hy
      rw [h2]
      exact ⟨hidlt _ (List.mem_of_getElem? h1), h6.also t⟩
    · obtain ⟨i, B, B0, t, h1, h2, h3, h4, h5, h6, h7⟩ := hmem y hy
      rw [h2] at ht
      obtain ⟨t1, t2⟩ := also_tag B t ht
      obtain ⟨b, A, h8, h9, h10, h11⟩ := h7 τ t1
      rw [x1 i y.1 h1]
      rw [h11] at hL
      exact hBase i B0 h4 τ (by rw [← h5]; exact t2) L (by rw [show Xi.loc i τ = X.loc b τ from inn_loc h8 τ]; exact h.base b A h9 τ h10 L hL)
  obtain ⟨v1, v2⟩ := hval r V hv
  split at he8
  · rename_i hs2
    cases he8
    exact ⟨V, X', rfl, main _ (H'.map (Blk.map (numR fun i => ids[i]?))) (by simp) (fun i c B hi hB => by
      rw [List.getElem?_map] at hB
      cases hB0 : H'[i]? with
      | none => rw [hB0] at hB; cases hB
      | some B0 => rw [hB0] at hB; cases hB; exact ⟨(hblk i c B0 hi hB0).1 hs2, B0, rfl, map_tag _ _⟩) (v1 hs2)⟩
  · cases he8
    exact ⟨V, X', rfl, main _ (H'.map fun B => erB (Blk.map (numR fun i => ids[i]?) B)) (by simp) (fun i c B hi hB => by
      rw [List.getElem?_map] at hB
      cases hB0 : H'[i]? with
      | none => rw [hB0] at hB; cases hB
      | some B0 => rw [hB0] at hB; cases hB; exact ⟨(hblk i c B0 hi hB0).2, B0, rfl, (er_tag _).trans (map_tag _ _)⟩) v2⟩
end
end Go.Bm
