/- The abstract machine is sound: calls. -/
import Derived.Test.YtldkmmnffjdliaaAmGrow
namespace Go.Am
set_option autoImplicit false
set_option linter.unusedVariables false
set_option linter.unusedSimpArgs false

/-- What is asked of the answers to calls. -/
def SoundC (P : Program) (c : FuncId → List AV → List Blk → Option (AV × List Blk)) : Prop :=
  ∀ (f : FuncId) (args : List AV) (H : List Blk) (r : AV) (H' : List Blk), c f args H = some (r, H') →
    ∀ (X : Ctx) (Args : List Value), Args.length = args.length → (∀ (j : Nat) (v : AV) (V : Value), args[j]? = some v → Args[j]? = some V → VA X none v V) → HeapOk X H → Fresh X → (∀ g t, X.own g ≠ some (.tmp t)) →
      Calls P f Args.toArray X.w fun e w' => ∃ V X', e = .returned V ∧ X'.w = w' ∧ Fr X X' ∧ HeapOk X' H' ∧ Fresh X' ∧ VA X' none r V

/-! ### other numbers for blocks -/
/-- Where blocks have other numbers. -/
structure Ren (X Y : Ctx) (r : Nat → Option Nat) : Prop where
  w : Y.w = X.w
  R : ∀ g off, Y.R g off ↔ X.R g off
  dom : ∀ b c, r b = some c → X.dom b → Y.dom c ∧ Y.φ c = X.φ b ∧ Y.sz c = X.sz b ∧ Y.len c = X.len b

theorem VP.ren {X Y : Ctx} {r : Nat → Option Nat} (h : Ren X Y r) {p : PV} {V : Value} (hp : VP X.R X.w p V) : VP Y.R Y.w p V :=
  hp.stab fun g off hr => ⟨(h.R g off).2 hr, by rw [h.w]⟩

theorem renL_get (r : Nat → Option Nat) : ∀ (l : List AV) (j : Nat), (AV.renL r l)[j]? = (l[j]?).map (AV.ren r)
  | [], j => by simp [AV.renL]
  | v :: l, 0 => by simp [AV.renL]
  | v :: l, j + 1 => by simp [AV.renL, renL_get r l j]
theorem renL_len (r : Nat → Option Nat) : ∀ (l : List AV), (AV.renL r l).length = l.length
  | [] => rfl
  | v :: l => by simp [AV.renL, renL_len r l]

theorem VA.ren {X Y : Ctx} {r : Nat → Option Nat} (h : Ren X Y r) {π : Option Pos} {v : AV} {V : Value} (hv : VA X π v V) : ∀ π' : Option Pos, (∀ p g, π = some p → X.own g = some p → ∃ p', π' = some p' ∧ Y.own g = some p') → VA Y π' (v.ren r) V := by
  induction hv with
  | dead π V => exact fun π' _ => .dead _ _
  | pv π p V hp => exact fun π' _ => .pv _ _ _ (hp.ren h)
  | nil π f A => exact fun π' _ => .nil _ _ _
  | seqR0 π f A => exact fun π' _ => .seqR0 _ _ _
  | seqR π n f g cap e cur sz C ho hb hsz hcur hn hm hs hR hC hh =>
    intro π' ho'
    obtain ⟨p', rfl, hg⟩ := ho' π g rfl ho
    exact .seqR p' n f g cap e cur sz C hg (by rw [h.w]; exact hb) hsz hcur hn hm hs (fun off => (h.R g off).trans (hR off)) hC (fun i j p hi hp => (hh i j p hi hp).ren h)
  | ptr π b off hd =>
    intro π' _
    simp only [AV.ren]
    split
    · rename_i c hc
      obtain ⟨d1, d2, d3, d4⟩ := h.dom b c hc hd
      rw [← d2]; exact .ptr _ _ _ d1
    · exact .pv _ _ _ (.bad _ rfl)
  | aptr π b i off hd hi =>
    intro π' _
    simp only [AV.ren]
    split
    · rename_i c hc
      obtain ⟨d1, d2, d3, d4⟩ := h.dom b c hc hd
      rw [← d2, ← d3]; exact .aptr _ _ _ _ d1 (by rw [d4]; exact hi)
    · exact .pv _ _ _ (.bad _ rfl)
  | pref π cs off g o C hc hp =>
    intro π' _
    exact .pref _ cs off g o C (fun j hj => ⟨(h.R _ _).2 (hc j hj).1, by rw [h.w]; exact (hc j hj).2⟩) (fun j p hj => (hp j p hj).ren h)
  | ms π b lo n cap hd hn hl =>
    intro π' _
    simp only [AV.ren]
    split
    · rename_i c hc
      obtain ⟨d1, d2, d3, d4⟩ := h.dom b c hc hd
      rw [← d2, ← d3]; exact .ms _ _ _ _ _ d1 hn (by rw [d4]; exact hl)
    · exact .pv _ _ _ (.bad _ rfl)
  | ms0 π b lo A cap hd =>
    intro π' _
    simp only [AV.ren]
    split
    · rename_i c hc
      exact .ms0 _ _ _ _ _ (h.dom b c hc hd).1
    · exact .pv _ _ _ (.bad _ rfl)
  | clo π f caps Caps hl hh ih =>
    intro π' _
    refine .clo _ f _ Caps (by rw [renL_len]; exact hl) fun j v V h1 h2 => ?_
    rw [renL_get] at h1
    cases hc : caps[j]? with
    | none => rw [hc] at h1; cases h1
    | some c => rw [hc] at h1; cases h1; exact ih j c V hc h2 none (fun p g hp => by cases hp)
  | agg π cs Cs hl hh ih =>
    intro π' _
    refine .agg _ _ Cs (by rw [renL_len]; exact hl) fun j v V h1 h2 => ?_
    rw [renL_get] at h1
    cases hc : cs[j]? with
    | none => rw [hc] at h1; cases h1
    | some c => rw [hc] at h1; cases h1; exact ih j c V hc h2 none (fun p g hp => by cases hp)
  | tup π cs Cs hl hh ih =>
    intro π' _
    refine .tup _ _ Cs (by rw [renL_len]; exact hl) fun j v V h1 h2 => ?_
    rw [renL_get] at h1
    cases hc : cs[j]? with
    | none => rw [hc] at h1; cases h1
    | some c => rw [hc] at h1; cases h1; exact ih j c V hc h2 none (fun p g hp => by cases hp)
  | ifc π t v V hh ih => exact fun π' _ => .ifc _ _ _ _ (ih none (fun p g hp => by cases hp))

/-- Of a block. -/
theorem BlkRel.ren {X Y : Ctx} {r : Nat → Option Nat} (h : Ren X Y r) {b c : Nat} {B : Blk} (hB : BlkRel X b B) (hr : r b = some c) (hg : ¬ X.dom b → ¬ Y.dom c)
    (ho : ∀ g j, X.own g = some (.cell b j) → Y.own g = some (.cell c j)) (ho2 : ∀ g i j, X.own g = some (.acell b i j) → Y.own g = some (.acell c i j)) : BlkRel Y c (B.ren r) := by
  cases B with
  | gone => exact hg hB
  | box cs =>
    obtain ⟨hd, cur, e, h1, h2, h3⟩ := hB
    obtain ⟨d1, d2, d3, d4⟩ := h.dom b c hr hd
    refine ⟨d1, cur, e, by rw [d2, h.w]; exact h1, by rw [h2, renL_len], fun j v V hv hV => ?_⟩
    rw [renL_get] at hv
    cases hc : cs[j]? with
    | none => rw [hc] at hv; cases hv
    | some u =>
      rw [hc] at hv
      cases hv
      obtain ⟨q1, q2⟩ := h3 j u V hc hV
      exact ⟨q1.ren h _ fun p g hp hg => by cases hp; exact ⟨_, rfl, ho g j hg⟩, q2⟩
  | arr sz n f =>
    obtain ⟨hd, hs, hl, hz, cur, e, h1, h2, h4, h3⟩ := hB
    obtain ⟨d1, d2, d3, d4⟩ := h.dom b c hr hd
    refine ⟨d1, d3.trans hs, d4.trans hl, hz, cur, e, by rw [d2, h.w]; exact h1, h2, h4, fun i j v V hi hv hV => ?_⟩
    obtain ⟨q1, q2, q3⟩ := h3 i j v V hi hv hV
    have e1 : v.ren r = v := by cases v <;> first | rfl | cases q3
    have := q1.ren h (some (.acell c i j)) fun p g hp hg => by cases hp; exact ⟨_, rfl, ho2 g i j hg⟩
    rw [e1] at this
    exact ⟨this, q2, q3⟩

/-! ### the blocks that a call is handed -/
theorem reached_nodup (H : List Blk) : ∀ (n : Nat) (todo acc : List Nat), acc.Nodup → (reached H n todo acc).Nodup
  | 0, _, _, h => h
  | _ + 1, [], _, h => h
  | n + 1, b :: todo, acc, h => by
    unfold reached
    cases hb : acc.elem b with
    | true => exact reached_nodup H n todo acc h
    | false =>
      refine reached_nodup H n _ _ ?_
      have hnb : b ∉ acc := by simpa using hb
      exact List.nodup_append.2 ⟨h, by simp, fun x hx y hy => by simp at hy; subst hy; exact fun e => hnb (e ▸ hx)⟩

theorem place_some : ∀ {l : List Nat} {b i : Nat}, place l b = some i → l[i]? = some b
  | [], _, _, h => by cases h
  | x :: xs, b, i, h => by
    unfold place at h
    cases hb : Nat.beq x b with
    | true =>
      rw [hb] at h
      cases h
      have := Nat.eq_of_beq_eq_true hb
      subst this
      rfl
    | false =>
      rw [hb] at h
      simp only [cond_false] at h
      cases hp : place xs b with
      | none => rw [hp] at h; cases h
      | some k => rw [hp] at h; cases h; have := place_some hp; simpa using this

theorem place_of : ∀ {l : List Nat} {b i : Nat}, l.Nodup → l[i]? = some b → place l b = some i
  | [], _, _, _, h => by cases h
  | x :: xs, b, 0, hn, h => by
    cases h
    unfold place
    have : Nat.beq x x = true := Nat.beq_refl x
    rw [this]; rfl
  | x :: xs, b, i + 1, hn, h => by
    have hne : x ≠ b := fun e => by
      subst e
      exact (List.nodup_cons.1 hn).1 (List.mem_of_getElem? h)
    unfold place
    cases hb : Nat.beq x b with
    | true => exact absurd (Nat.eq_of_beq_eq_true hb) hne
    | false =>
      simp only [cond_false]
      rw [place_of (List.nodup_cons.1 hn).2 (by simpa using h)]
      rfl

def Pos.inn (l : List Nat) : Pos → Option Pos
  | .tmp _ => none
  | .cell b j => (place l b).map fun i => .cell i j
  | .acell b i j => (place l b).map fun k => .acell k i j
def Pos.back (l : List Nat) : Pos → Option Pos
  | .tmp _ => none
  | .cell i j => (l[i]?).map fun b => .cell b j
  | .acell k i j => (l[k]?).map fun b => .acell b i j

/-- The callee's view. -/
def Ctx.inn (X : Ctx) (l : List Nat) : Ctx :=
  { w := X.w, φ := fun i => X.φ (l.getD i 0), sz := fun i => X.sz (l.getD i 0), len := fun i => X.len (l.getD i 0), dom := fun i => i < l.length, R := X.R, own := fun g => (X.own g).bind (Pos.inn l) }
/-- The caller's view behind it. -/
def Ctx.back (X Y : Ctx) (l : List Nat) : Ctx :=
  { w := Y.w, φ := X.φ, sz := X.sz, len := X.len, dom := X.dom, R := Y.R,
    own := fun g => if g < X.w.heap.size then (match (X.own g).bind (Pos.inn l) with | some _ => (Y.own g).bind (Pos.back l) | none => X.own g) else (Y.own g).bind (Pos.back l) }

theorem KeepBlk.same {w w' : World} {g : Nat} {may : Nat → Prop} (h : KeepBlk w w' g may) (hm : ∀ j, ¬ may j) : w'.heap[g]? = w.heap[g]? := by
  rcases h with h | ⟨c, c', t, h1, h2, h3, h4⟩
  · exact h
  · rw [h1, h2]
    have : c' = c := Array.ext_getElem? (by intro j; exact h4 j (hm j))
    rw [this]

theorem putBlks_get : ∀ (l : List Nat) (xs : List Blk) (H : List Blk) (b : Nat) (B : Blk), l.Nodup → xs.length = l.length → (putBlks H (zipB l xs))[b]? = some B →
    (∃ i : Nat, l[i]? = some b ∧ xs[i]? = some B) ∨ (b ∉ l ∧ H[b]? = some B)
  | [], [], H, b, B, _, _, h => .inr ⟨by simp, h⟩
  | x :: l, y :: xs, H, b, B, hn, hl, h => by
    have hn' := List.nodup_cons.1 hn
    rcases putBlks_get l xs (H.set x y) b B hn'.2 (by simpa using hl) h with ⟨i, h1, h2⟩ | ⟨h1, h2⟩
    · exact .inl ⟨i + 1, by simpa using h1, by simpa using h2⟩
    · rcases set_get _ _ _ _ _ h2 with ⟨rfl, rfl, _⟩ | ⟨hne, h2⟩
      · exact .inl ⟨0, rfl, rfl⟩
      · exact .inr ⟨by simp [hne, h1], h2⟩
  | [], _ :: _, _, _, _, _, hl, _ => by simp at hl
  | _ :: _, [], _, _, _, _, hl, _ => by simp at hl
theorem putBlks_len : ∀ (l : List (Nat × Blk)) (H : List Blk), (putBlks H l).length = H.length
  | [], _ => rfl
  | (b, x) :: l, H => by simp [putBlks, putBlks_len l]

section
variable {P : Program} {X0 X : Ctx} {st : St} {a : Act} {w : World}

theorem getD_nth {l : List Nat} {i b : Nat} (h : l[i]? = some b) : l.getD i 0 = b := by simp [List.getD, h]

theorem HeapOk.inn (h : HeapOk X st.heap) {l : List Nat} (hl : l.Nodup) (hd : ∀ b ∈ l, X.dom b) (n : Nat) (hH : ∀ b ∈ l, getB (st.heap.take n) b ≠ .gone) : HeapOk (X.inn l) (l.map fun b => (getB (st.heap.take n) b).ren (place l)) := by
  have hR : Ren X (X.inn l) (place l) := ⟨rfl, fun _ _ => Iff.rfl, fun b c hc hb => by
    have := place_some hc
    refine ⟨(List.getElem?_eq_some_iff.1 this).1, ?_, ?_, ?_⟩ <;> simp [Ctx.inn, this]⟩
  refine ⟨fun i B hB => ?_, fun i hi => by rw [List.length_map]; exact hi, fun i j hi hj e => ?_, fun i hi => ?_⟩
  · rw [List.getElem?_map] at hB
    cases hb : l[i]? with
    | none => rw [hb] at hB; cases hB
    | some b =>
      rw [hb] at hB
      cases hB
      have hmem := List.mem_of_getElem? hb
      have hpl := place_of hl hb
      have hBl := getB_take (B := getB (st.heap.take n) b) rfl (hH b hmem)
      refine (h.blk b _ hBl).ren hR hpl (fun hnd => absurd (hd b hmem) hnd) (fun g j hg => ?_) (fun g k j hg => ?_)
      · simp [Ctx.inn, hg, Pos.inn, hpl]
      · simp [Ctx.inn, hg, Pos.inn, hpl]
  · have hi' := List.getElem?_eq_getElem (l := l) (i := i) hi
    have hj' := List.getElem?_eq_getElem (l := l) (i := j) hj
    have e' : X.φ l[i] = X.φ l[j] := by simpa [Ctx.inn, hi', hj'] using e
    have := h.inj _ _ (hd _ (List.getElem_mem hi)) (hd _ (List.getElem_mem hj)) e'
    have q1 := place_of hl hi'
    have q2 := place_of hl hj'
    rw [this, q2] at q1
    exact (Option.some.inj q1).symm
  · have hi' := List.getElem?_eq_getElem (l := l) (i := i) hi
    obtain ⟨h1, h2⟩ := h.free _ (hd _ (List.getElem_mem hi))
    refine ⟨?_, ?_⟩
    · simp [Ctx.inn, hi', h1]
    · simpa [Ctx.inn, hi'] using h2

theorem call_back (h : Inv X0 X st a w) {l : List Nat} (hl : l.Nodup) (hd : ∀ b ∈ l, X.dom b) {Y : Ctx} {H' : List Blk} (hlen : H'.length = l.length) (hFr : Fr (X.inn l) Y) (hH : HeapOk Y H') (hF : Fresh Y) :
    Inv X0 (X.back Y l) { st with heap := putBlks st.heap (zipB l (H'.map (Blk.ren (nthO l)))) } a Y.w ∧ Ren Y (X.back Y l) (nthO l) := by
  have hw := h.hw
  have hYd : ∀ i, Y.dom i → i < l.length := fun i hi => by rw [← hlen]; exact hH.lt i hi
  have hinn : ∀ g, g < X.w.heap.size → Y.own g ≠ none → ∃ p, (X.own g).bind (Pos.inn l) = some p := fun g hg ho => by
    have := hFr.ownW g hg ho
    cases hh : (X.inn l).own g with
    | none => exact absurd hh this
    | some p => exact ⟨p, hh⟩
  -- what the callee may not write
  have hnoW : ∀ g, (X.inn l).own g = none → (∀ b ∈ l, X.φ b ≠ g) → ∀ j, ¬ Wr (X.inn l) g j := by
    intro g ho hb j hh
    rcases hh with ⟨c, hc, e⟩ | ⟨hh, _⟩
    · have hc' := List.getElem?_eq_getElem (l := l) (i := c) hc
      exact hb _ (List.getElem_mem hc) (by simpa [Ctx.inn, hc'] using e)
    · exact hh ho
  have hkeepB : ∀ g, g < X.w.heap.size → (X.inn l).own g = none → (∀ b ∈ l, X.φ b ≠ g) → Y.w.heap[g]? = X.w.heap[g]? := fun g hg ho hb =>
    KeepBlk.same (hFr.keep g hg) (hnoW g ho hb)
  have hS : Stab X (X.back Y l) := by
    refine ⟨fun g off hr => ⟨hFr.Rmono g off hr, (hFr.keep g (VP.R_lt h.fresh hr)).cell off ?_⟩, fun b hb => ⟨hb, rfl, rfl, rfl⟩⟩
    rintro (⟨c, hc, e⟩ | ⟨_, hh⟩)
    · have hc' := List.getElem?_eq_getElem (l := l) (i := c) hc
      have e' : X.φ l[c] = g := by simpa [Ctx.inn, hc'] using e
      exact (h.heap.free _ (hd _ (List.getElem_mem hc))).2 off (e' ▸ hr)
    · exact hh hr
  have hLast : ∀ p, (∀ g, X.own g = some p → (X.inn l).own g = none) → Lasts X (X.back Y l) p := by
    intro p hp g hg
    have hlt := own_lt h.fresh hg
    have ho := hp g hg
    have hb : ∀ b ∈ l, X.φ b ≠ g := fun b hb e => by have := (h.heap.free b (hd b hb)).1; rw [e, hg] at this; cases this
    refine ⟨?_, hkeepB g hlt ho hb, fun off hr => hFr.Rsame g off hlt ho hr⟩
    have ho' : (X.own g).bind (Pos.inn l) = none := ho
    show (if g < X.w.heap.size then _ else _) = _
    rw [if_pos hlt, ho']
    exact hg
  have hRen : Ren Y (X.back Y l) (nthO l) := by
    refine ⟨rfl, fun _ _ => Iff.rfl, fun i b hb hi => ?_⟩
    have hb' : l[i]? = some b := hb
    have hmem := List.mem_of_getElem? hb'
    obtain ⟨d1, d2, d3, d4⟩ := hFr.base i (hYd i hi)
    refine ⟨hd b hmem, ?_, ?_, ?_⟩
    · rw [d2]; simp [Ctx.inn, Ctx.back, hb']
    · rw [d3]; simp [Ctx.inn, Ctx.back, hb']
    · rw [d4]; simp [Ctx.inn, Ctx.back, hb']
  have hown : ∀ g p q, Y.own g = some p → Pos.back l p = some q → (X.back Y l).own g = some q := by
    intro g p q hg hq
    show (if g < X.w.heap.size then _ else _) = _
    by_cases hlt : g < X.w.heap.size
    · obtain ⟨p', hp'⟩ := hinn g hlt (by rw [hg]; simp)
      rw [if_pos hlt, hp']
      simp [hg, hq]
    · rw [if_neg hlt]; simp [hg, hq]
  refine ⟨⟨rfl, h.hd, h.tsz, fun t v V hv hV => (h.tmps t v V hv hV).stab hS fun p hp => ?_, ⟨fun b B hB => ?_, fun b hb => ?_, h.heap.inj, fun b hb => ?_⟩, fun g hg => ?_, ?_⟩, hRen⟩
  · cases hp
    exact hLast _ fun g hg => by simp [Ctx.inn, hg, Pos.inn]
  · rcases putBlks_get l _ _ b B hl (by simp [hlen]) hB with ⟨i, h1, h2⟩ | ⟨h1, h2⟩
    · rw [List.getElem?_map] at h2
      cases hB' : H'[i]? with
      | none => rw [hB'] at h2; cases h2
      | some B' =>
        rw [hB'] at h2
        cases h2
        have hil : i < l.length := (List.getElem?_eq_some_iff.1 h1).1
        refine (hH.blk i B' hB').ren hRen h1 (fun hnd => absurd (hFr.base i hil).1 hnd) (fun g j hg => hown g _ _ hg (by simp [Pos.back, h1])) (fun g k j hg => hown g _ _ hg (by simp [Pos.back, h1]))
    · have hpl : place l b = none := by
        cases hp : place l b with
        | none => rfl
        | some i => exact absurd (List.mem_of_getElem? (place_some hp)) h1
      refine (h.heap.blk b B h2).stab hS (fun hnd => hnd) (fun hb => hkeepB _ (h.heap.phi_lt hb) ?_ fun c hc e => ?_) (fun j => hLast _ fun g hg => ?_) (fun i j => hLast _ fun g hg => ?_)
      · show (X.own (X.φ b)).bind _ = none
        rw [(h.heap.free b hb).1]; rfl
      · have := h.heap.inj c b (hd c hc) hb e
        subst this
        exact h1 hc
      · simp [Ctx.inn, hg, Pos.inn, hpl]
      · simp [Ctx.inn, hg, Pos.inn, hpl]
  · rw [putBlks_len]; exact h.heap.lt b hb
  · obtain ⟨h1, h2⟩ := h.heap.free b hb
    have hlt := h.heap.phi_lt hb
    have ho : (X.inn l).own (X.φ b) = none := by show (X.own (X.φ b)).bind _ = none; rw [h1]; rfl
    refine ⟨?_, fun off hr => h2 off (hFr.Rsame _ off hlt ho hr)⟩
    show (if X.φ b < X.w.heap.size then (match (X.own (X.φ b)).bind (Pos.inn l) with | some _ => (Y.own (X.φ b)).bind (Pos.back l) | none => X.own (X.φ b)) else (Y.own (X.φ b)).bind (Pos.back l)) = none
    have ho' : (X.own (X.φ b)).bind (Pos.inn l) = none := ho
    rw [if_pos hlt, ho']
    exact h1
  · obtain ⟨h1, h2⟩ := hF g hg
    have hsz := hFr.size
    refine ⟨?_, h2⟩
    show (if g < X.w.heap.size then _ else _) = _
    have : ¬ g < X.w.heap.size := by
      have hsz' : X.w.heap.size ≤ Y.w.heap.size := hsz
      have hg' : Y.w.heap.size ≤ g := hg
      omega
    rw [if_neg this, h1]; rfl
  · refine ⟨Nat.le_trans h.fr.size hFr.size, hFr.os.trans h.fr.os, hFr.tape.trans h.fr.tape, hFr.output.trans h.fr.output, fun g hg => ?_, h.fr.mutB, fun g hg ho => ?_, fun g off hr => hFr.Rmono g off (h.fr.Rmono g off hr), fun g off hg ho hr => ?_, h.fr.base⟩
    · have hlt : g < X.w.heap.size := Nat.lt_of_lt_of_le hg h.fr.size
      refine (h.fr.keep g hg).trans ((hFr.keep g hlt).mono fun j hj => ?_)
      rcases hj with ⟨c, hc, e⟩ | ⟨h1, h2⟩
      · have hc' := List.getElem?_eq_getElem (l := l) (i := c) hc
        have e' : X.φ l[c] = g := by simpa [Ctx.inn, hc'] using e
        rcases h.fr.mutB _ (hd _ (List.getElem_mem hc)) with hm | ⟨c', hc'', e''⟩
        · omega
        · exact .inl ⟨c', hc'', e''.trans e'⟩
      · refine .inr ⟨h.fr.ownW g hg fun e => h1 ?_, fun hr => h2 (h.fr.Rmono g j hr)⟩
        show (X.own g).bind _ = none
        rw [e]; rfl
    · have hlt : g < X.w.heap.size := Nat.lt_of_lt_of_le hg h.fr.size
      refine h.fr.ownW g hg fun e => ho ?_
      show (if g < X.w.heap.size then _ else _) = _
      rw [if_pos hlt, e]; rfl
    · have hlt : g < X.w.heap.size := Nat.lt_of_lt_of_le hg h.fr.size
      have hXo : X.own g = none := by
        cases hh : X.own g with
        | none => rfl
        | some p => exact absurd ho (h.fr.ownW g hg (by rw [hh]; simp))
      exact h.fr.Rsame g off hg ho (hFr.Rsame g off hlt (by show (X.own g).bind _ = none; rw [hXo]; rfl) hr)
end
end Go.Am
