/- The abstract machine is sound, operation by operation: new variables, new slices, literals. -/
import Derived.Test.YtigopdlofamhlaaDoorBmStoreE
namespace Go.Bm
set_option autoImplicit false
set_option linter.unusedVariables false
set_option linter.unusedSimpArgs false

section
variable {P : Program} {X0 X : Ctx} {st : St} {a : Act} {w W : World} {ok : Ob → Prop}

/-- A new row. -/
theorem Inv.newRow (h : Inv X0 X st a w) {id : Nat} (hg : st.heap[id]? = some .gone) {cur : Array Value} {ty : TypeId} (hG : Grew w W (.cells cur ty)) {sz n room : Nat} {f : Nat → List AV} (hsz : 0 < sz) (hfit : n * sz ≤ room) (hroom : room ≤ cur.size) (hrow : ∀ i, i < n → (f i).length = sz)
    {T : Nat → Nat → List Stp → Option Loc} {org : Nat → Nat → Option Key} {tk : List Nat} (hcell : ∀ (i j : Nat) (v : AV), i < n → (f i)[j]? = some v → ∃ V, cur[i * sz + j]? = some V ∧ CellG X id [] i j v V (T i j) (org i j)) (hnone : ∀ i j, (i < n → (f i)[j]? = none) → ∀ σ, T i j σ = none)
    (hwhence : ∀ i j κ, org i j = some κ → κ.1 ∈ tk ∧ κ.1 ≠ id) (honce : ∀ i j i' j' c κ κ' σ σ', org i j = some (c, κ) → org i' j' = some (c, κ') → κ ++ σ = κ' ++ σ' → i = i' ∧ j = j' ∧ σ = σ') (htk : ∀ c ∈ tk, c ≠ id ∧ c < st.heap.length)
    {e : Eff} (he : e.hb = (id, .arr 0 sz n f) :: goneL tk) (hsc : ∀ c ∈ tk, (c, false) ∈ e.sc) (dst : Option Nat) {V : Value} (hv : ∀ Y : Ctx, Y.loc id [] = some ⟨w.heap.size, sz, n, room⟩ → VA Y none e.val V) :
    ∃ X', Inv X0 X' (e.on dst st) (a.put dst V) W := by
  have hw := h.hw
  subst hw
  have hnl : ∀ ρ, X.loc id ρ = none := fun ρ => loc_gone h.heap (getB_of hg) ρ
  have hlt : id < st.heap.length := (List.getElem?_eq_some_iff.1 hg).1
  let L' : Loc := ⟨X.w.heap.size, sz, n, room⟩
  have hstep : WStep X W L' := .grew _ hG fun _ => rfl
  have hN : NodeAt X st.heap W id [] L' T tk ⟨true, sz, n, f⟩ org :=
    NodeAt.mk' (cur := cur) (e := ty) (hstep.R h.heap h.fresh) rfl rfl hsz hfit rfl hrow (fun _ => ⟨RowAt.of hG.new, hroom⟩) hcell hnone (fun i j κ hκ => .inl (hwhence i j κ hκ)) honce
      (fun _ => .inl fun c τ L hL h0 e => by have := h.heap.g_lt hL h0; have e : L.g = X.w.heap.size := e; omega) (fun c τ L hL h0 _ => hG.old (h.heap.g_lt hL h0))
  have hroot : RootOk (X.node W id [] L' T tk) id (.arr 0 sz n f) :=
    hN.root (hstep.R h.heap h.fresh) rfl (fun τ hτ => by cases hτ) (fun τ L hτ => by cases hτ) (fun hh => absurd rfl hh)
  refine ⟨_, h.node hN hstep he hlt (fun c hc => ⟨(htk c hc).2, (htk c hc).1⟩) hroot (fun c τ d L hd hL => ?_) (fun τ ht => by cases ht) fun d _ => hv _ node_self⟩
  obtain ⟨rfl, hs⟩ := scr_some hd
  have hct : d ∉ tk := fun hc' => by have := (hs _ (hsc d hc') rfl).1; cases this
  have hcb : d ≠ id := fun e => by rw [e, hnl] at hL; cases hL
  rw [node_ne hcb hct]; exact hL

/-- A new block that is no row. -/
theorem Inv.newBox (h : Inv X0 X st a w) {id : Nat} (hg : st.heap[id]? = some .gone) {cur : Array Value} {ty : TypeId} (hG : Grew w W (.cells cur ty)) {B' : Blk} {x' : Nd} (hx : B'.nd = some x') (hd : x'.dat = false) (htag : B'.tag = 0) (hsz : 0 < x'.sz) (hfit : x'.n * x'.sz ≤ cur.size) (hrow : ∀ i, i < x'.n → (x'.f i).length = x'.sz)
    (hcell : ∀ (i j : Nat) (v : AV) (V : Value), i < x'.n → (x'.f i)[j]? = some v → cur[i * x'.sz + j]? = some V → VA X none v V ∧ V.oneCell' = true)
    (val : AV) (dst : Option Nat) {V : Value} (hv : ∀ Y : Ctx, Y.loc id [] = some ⟨w.heap.size, x'.sz, x'.n, x'.n * x'.sz⟩ → VA Y none val V) :
    ∃ X', Inv X0 X' ((Eff.mk val [(id, B')] []).on dst st) (a.put dst V) W := by
  have hw := h.hw
  subst hw
  have hnl : ∀ ρ, X.loc id ρ = none := fun ρ => loc_gone h.heap (getB_of hg) ρ
  have hlt : id < st.heap.length := (List.getElem?_eq_some_iff.1 hg).1
  let L' : Loc := ⟨X.w.heap.size, x'.sz, x'.n, x'.n * x'.sz⟩
  let Y : Ctx := X.node W id [] L' (fun _ _ _ => none) []
  have hstay : ∀ c τ L, X.loc c τ = some L → Y.loc c τ = some L := by
    intro c τ L hL
    have hcb : c ≠ id := fun e => by rw [e, hnl] at hL; cases hL
    show (X.node W id [] L' (fun _ _ _ => none) []).loc c τ = some L
    rw [node_ne hcb (by simp)]; exact hL
  have hS : Stab X Y := ⟨fun g off hr => ⟨hr, World.cell?_of_block (w := X.w) (a := ⟨g, off, none⟩) (hG.old (R_lt h.fresh hr))⟩, hstay⟩
  have hcases : ∀ c τ L, Y.loc c τ = some L → (c = id ∧ τ = [] ∧ L = L') ∨ X.loc c τ = some L := by
    intro c τ L hL
    rcases node_cases hL with ⟨h1, h2, h3⟩ | ⟨_, i, j, σ, _, hT⟩ | ⟨h1, _⟩
    · exact .inl ⟨h1, h2, h3⟩
    · cases hT
    · exact .inr h1
  refine ⟨Y, h.eff rfl hS.ren (h.heap.upd hS.ren (fun c hc τ => node_ne (fun e => hc (id, B') (by simp) e.symm) (by simp) τ) (fun c hc τ L hL h0 => hG.old (h.heap.g_lt hL h0)) (fun x hx' => ?_) (fun c τ d υ L M hL hM h0 h0' hgg => ?_) (fun c τ L hL h0 off hr => ?_)) (h.fresh.grew (Y := Y) hG fun _ _ => Iff.rfl) (h.fr.grew (Y := Y) hG (fun _ _ => Iff.rfl) fun g hg => ?_) (h.base.upd (fun c hc τ L hL => hstay c τ L hL) fun x hx' τ ht L hL => ?_) fun d _ => hv _ node_self⟩
  · cases List.mem_singleton.1 hx'
    refine ⟨hlt, fun ρ => ?_⟩
    cases ρ with
    | nil =>
      have : B'.sub [] = some x' := by simp [Blk.sub, hx, Nd.sub]
      rw [this]
      refine ⟨L', node_self, rfl, rfl, hsz, Nat.le_refl _, hrow, fun _ => ⟨cur, ty, RowAt.of hG.new, hfit, fun i j v V hi hv hV => ?_⟩⟩
      obtain ⟨h1, h2⟩ := hcell i j v V hi hv hV
      have hkey : keyOf x' id [] i j = none := by unfold keyOf; rw [hd]
      rw [hkey]
      exact ⟨h1.stab hS, h2, fun hdd => by rw [hd] at hdd; cases hdd⟩
    | cons s ρ =>
      obtain ⟨k, j⟩ := s
      have e1 : B'.sub ((k, j) :: ρ) = none := by simp [Blk.sub, hx, Nd.sub_cons, hd]
      rw [e1]
      exact node_below (X := X) (ρ := []) k j ρ
  · rcases hcases c τ L hL with ⟨c1, c2, c3⟩ | hL2
    · rcases hcases d υ M hM with ⟨d1, d2, d3⟩ | hM2
      · exact ⟨c1.trans d1.symm, c2.trans d2.symm⟩
      · have := h.heap.g_lt hM2 h0'
        have e : X.w.heap.size = M.g := by rw [← hgg, c3]
        omega
    · rcases hcases d υ M hM with ⟨d1, d2, d3⟩ | hM2
      · have := h.heap.g_lt hL2 h0
        have e : L.g = X.w.heap.size := by rw [hgg, d3]
        omega
      · exact h.heap.inj c τ d υ L M hL2 hM2 h0 h0' hgg
  · have hr' : X.R L.g off := hr
    rcases hcases c τ L hL with ⟨rfl, rfl, rfl⟩ | hL
    · exact h.fresh _ (Nat.le_refl _) off hr'
    · exact h.heap.free c τ L hL h0 off hr'
  · obtain ⟨c, τ, L, hL, h0, rfl⟩ := hg
    rcases hcases c τ L hL with ⟨rfl, rfl, rfl⟩ | hL
    · exact .inl rfl
    · exact .inr ⟨c, τ, L, hL, h0, rfl⟩
  · cases List.mem_singleton.1 hx'
    have ht : keeps B'.tag τ = true := ht
    rw [htag] at ht; cases ht

theorem newE_sound (h : Inv X0 X st a w) {id : Nat} {t : TypeId} {cs : List AV} {Cs : Array Value} (hr : Rows X cs Cs.toList) {e : Eff} (he : (newE P id t cs).Gives ok (getB st.heap) e) (ty : TypeId) (hG : Grew w W (.cells Cs ty)) (dst : Option Nat) :
    ∃ X', Inv X0 X' (e.on dst st) (a.put dst (.pointer (some ⟨w.heap.size, 0, none⟩))) W := by
  have hw := h.hw
  have hsz : Cs.size = cs.length := by have := hr.1; rw [Array.length_toList] at this; exact this
  unfold newE at he
  split at he
  · obtain ⟨h1, h2⟩ := gives_chk he
    obtain ⟨h3, h4⟩ := freshE_gives _ _ h2
    cases h4
    simp only [Bool.and_eq_true] at h1
    obtain ⟨h1, h5⟩ := h1
    have h5 := Nat.le_of_ble_eq_true h5
    have hg := gone_get (h3 0 (by omega))
    rw [Nat.add_zero] at hg
    refine h.newRow hg hG (sz := 1) (n := cs.length) (room := cs.length) (T := fun _ _ _ => none) (org := fun _ _ => none) (tk := []) (by omega) (by omega) (by omega) (fun i hi => rfl) (fun i j v hi hv => ?_) (fun _ _ _ _ => rfl) (fun i j κ hκ => by cases hκ) (fun i j i' j' c κ κ' σ σ' e1 => by cases e1) (fun c hc => by cases hc) rfl (fun c hc => by cases hc) dst (fun Y hY => ?_)
    · have hj : j = 0 := by
        cases j with
        | zero => rfl
        | succ j => cases hv
      subst hj
      have hci : cs[i]? = some (cs[i]'hi) := List.getElem?_eq_getElem _
      have hvi : v = cs[i]'hi := by
        have : some (cs.getD i (cs.headD dead)) = some v := hv
        rw [getD_of hci] at this
        exact (Option.some.inj this).symm
      have hV : Cs.toList[i]? = some (Cs.toList[i]'(by rw [hr.1]; exact hi)) := List.getElem?_eq_getElem _
      refine ⟨_, by rw [Nat.mul_one, Nat.add_zero, ← Array.getElem?_toList]; exact hV, ?_⟩
      have hva := hr.2 i _ _ hci hV
      have hp := all_get h1 hci
      rw [hvi]
      cases hcc : cs[i]'hi <;> (rw [hcc] at hva hp) <;> first | (cases hp; done) | skip
      cases hva; exact .pv ‹_›
    · have := VA.ptr (X := Y) none id [] 0 0 _ hY (by omega : 0 < cs.length)
      simpa using this
  · obtain ⟨h1, h2⟩ := gives_chk he
    obtain ⟨h3, h4⟩ := freshE_gives _ _ h2
    cases h4
    simp only [Bool.and_eq_true] at h1
    obtain ⟨⟨h1, h5⟩, h6⟩ := h1
    have h1 := Nat.le_of_ble_eq_true h1
    have hg := gone_get (h3 0 (by omega))
    rw [Nat.add_zero] at hg
    have hgs : ∀ j, j < (nilB false (id + 1) cs).2.length → st.heap[id + 1 + j]? = some .gone := fun j hj => by
      have := gone_get (h3 (1 + j) (by omega))
      rw [← this]; congr 1; omega
    obtain ⟨X1, s1, s2, s3, s4, s5, s6⟩ := Inv.nils false cs (id + 1) X st h hgs h6
    have hg1 : (putBlks st.heap (nilB false (id + 1) cs).2)[id]? = some .gone := by rw [s4 id (.inl (by omega))]; exact hg
    have ho := s5 h5
    have hlen := nilB_len false cs (id + 1)
    obtain ⟨X2, hI⟩ := s2.newBox hg1 hG (B' := .box 0 (nilB false (id + 1) cs).1) (x' := ⟨false, (nilB false (id + 1) cs).1.length, 1, fun _ => (nilB false (id + 1) cs).1⟩) rfl rfl rfl (by simp only; omega) (by simp only; omega) (fun i hi => rfl) (fun i j v V hi hv hV => by
      have hi0 : i = 0 := by simp only at hi; omega
      subst hi0
      simp only [Nat.zero_mul, Nat.zero_add] at hV
      rw [← Array.getElem?_toList] at hV
      have hva := s3 j v V hv fun u hu => hr.2 j u V hu hV
      exact ⟨hva, hva.one (all_get ho hv)⟩) (.ptr id [] 0 0) dst (V := .pointer (some ⟨w.heap.size, 0, none⟩)) (fun Y hY => by
      have := VA.ptr (X := Y) none id [] 0 0 _ hY (by simp only; omega)
      simpa using this)
    refine ⟨X2, ?_⟩
    have := Eff.on_two (Eff.mk (.ptr id [] 0 0) [(id, .box 0 (nilB false (id + 1) cs).1)] []) rfl (nilB false (id + 1) cs).2 dst st
    rw [this]
    exact hI

theorem mod_get {zs : Array Value} {sz i j n : Nat} (hz : zs.size = sz) (hj : j < sz) (hn : i * sz + j < n) : ((Array.range n).map (zs[· % zs.size]!))[i * sz + j]? = zs[j]? := by
  have hm : (i * sz + j) % sz = j := by rw [Nat.add_comm, Nat.add_mul_mod_self_right]; exact Nat.mod_eq_of_lt hj
  simp only [Array.getElem?_map, Array.getElem?_range, hn, if_true, Option.map_some, hz, hm]
  rw [getElem!_pos zs j (by omega)]
  simp [hz, hj]
/-- What a zero cell of a row owns: nothing, but perhaps an array without elements. -/
def zeroT : PV → List Stp → Option Loc
  | .seq _ f, [] => some ⟨0, (f 0).length, 0, 0⟩
  | _, _ => none
theorem zrows_get : ∀ (z : List PV) (j : Nat), (zrows z)[j]? = (z[j]?).map zrow
  | [], j => by simp [zrows]
  | p :: ps, 0 => by simp [zrows]
  | p :: ps, j + 1 => by simp [zrows, zrows_get ps j]
theorem zrow_pv {p : PV} (h : ∀ n f, p ≠ .seq n f) : zrow p = .pv p ∧ zeroT p = fun _ => none := by
  cases p <;> first | exact ⟨rfl, by funext σ; cases σ <;> rfl⟩ | exact absurd rfl (h _ _)
theorem zrow_G {b i j : Nat} {ρ : List Stp} {p : PV} {V : Value} (h : zfit1 V p = true) (hp : ∀ n f, p = .seq n f → 0 < (f 0).length) : CellG X b ρ i j (zrow p) V (zeroT p) none := by
  obtain ⟨h1, h2, h3, h4⟩ := zfit1_sound h X none
  by_cases hs : ∃ n f, p = .seq n f
  · obtain ⟨n, f, rfl⟩ := hs
    cases h1 with | nil _ _ A => ?_
    have := CellG.nil (X := X) (b := b) (ρ := ρ) (i := i) (j := j) (A := A) (f 0).length (hp n f rfl) fun _ => zrows (f 0)
    refine ⟨this.dat, this.one, fun Y hY hT => this.va Y hY fun σ => ?_, fun Y hY hT σ => ?_, fun σ L hT h0 => ?_⟩
    · rw [hT]; cases σ <;> rfl
    · have := this.tree Y hY (fun σ => by rw [hT]; cases σ <;> rfl) σ
      cases σ <;> exact this
    · cases σ with
      | nil => cases hT; exact absurd h0 (Nat.lt_irrefl 0)
      | cons s σ => cases hT
  · obtain ⟨e1, e2⟩ := zrow_pv (p := p) fun n f e => hs ⟨n, f, e⟩
    rw [e1, e2]
    exact CellG.pv h2
theorem zfit_get : ∀ {Vs : List Value} {ps : List PV}, zfit Vs ps = true → ∀ (j : Nat) (p : PV) (V : Value), ps[j]? = some p → Vs[j]? = some V → zfit1 V p = true
  | [], [], _ => fun j p V h => by cases h
  | v :: vs, p :: ps, h => by
    simp only [zfit, Bool.and_eq_true] at h
    intro j q V hq hV
    cases j with
    | zero => cases hq; cases hV; exact h.1
    | succ j => exact zfit_get h.2 j q V hq hV
  | [], _ :: _, h => by cases h
  | _ :: _, [], h => by cases h
theorem makeSlice_sound (h : Inv X0 X st a w) {t e : TypeId} {n m : Int} {k1 k2 : IntKind} {i : TypeInfo} {z : List PV} (hu : P.underlying t = some (.slice e)) (hi : P.info? e = some i) (hz : zeroOf P e = some z) (hok : z.all seqOk = true) (h1 : 1 ≤ i.size) (hzl : z.length = i.size) (hby : 1 ≤ i.bytes) (hn : 0 ≤ n) (hnm : n = m)
    (hr : n * i.bytes ≤ (reach : Int)) {id : Nat} (hgone : st.heap[id]? = some .gone) (dst : Option Nat) :
    ∃ X' V W, (Instr.makeSlice t (.int k1 n) (.int k2 m)).run P w = .ok V W ∧ Inv X0 X' ((Eff.mk (.ms id [] 0 n.toNat) [(id, .arr 0 i.size n.toNat fun _ => zrows z)] []).on dst st) (a.put dst V) W := by
  subst hnm
  obtain ⟨it, Z, hi', hZ, hf⟩ := zeroOf_sound hz
  rw [hi] at hi'
  cases hi'
  have hw := h.hw
  have hzc : Z.cells.size = i.size := by have := (zfit_sound X hf).1; rw [Array.length_toList] at this; omega
  have hn' : n ≤ n * i.bytes := by have := Int.mul_le_mul_of_nonneg_left (show (1 : Int) ≤ i.bytes by omega) hn; omega
  have hmax : n ≤ 140737488351232 := by unfold reach at hr; omega
  have hwr : IntKind.i64.wrap n = n := by
    have hb : IntKind.i64.bits = 64 := rfl
    have : n % 2 ^ 64 = n := Int.emod_eq_of_lt hn (by omega)
    simp only [IntKind.wrap, hb, this]
    rw [if_neg (by simp; omega)]
  let cur : Array Value := if n.toNat * i.size = 0 then (Array.range 0).map (#[][· % 0]!) else (Array.range (n.toNat * i.size)).map (Z.cells[· % Z.cells.size]!)
  have hcur : cur.size = n.toNat * i.size := by
    show (if n.toNat * i.size = 0 then (Array.range 0).map (#[][· % 0]!) else (Array.range (n.toNat * i.size)).map (Z.cells[· % Z.cells.size]!)).size = _
    split
    · rename_i h0; simp [h0]
    · simp
  have hrun : (Instr.makeSlice t (.int k1 n) (.int k2 n)).run P w = .ok (.slice (some ⟨w.heap.size, 0, none⟩) n.toNat n.toNat) (w.alloc (.cells cur e)) := by
    have hc2 : ¬ (n > n) := by omega
    simp only [Instr.makeSlice, Sem.run_bind, run_underlying hu, Result.andThen_ok, asInt, asIntOf, Sem.run_pure, typeInfo, run_program, hi, hwr]
    have hc0 : ¬ n < 0 := by omega
    have hc3 : ¬ ((i.bytes : Int) * n > 281474976710656) := by
      unfold reach at hr
      rw [Int.mul_comm] at hr
      omega
    by_cases h0 : n.toNat * i.size = 0
    · simp [hc0, hc3, sizeOf, typeInfo, hi, h0, newRow, cur]
    · simp [hc0, hc3, sizeOf, typeInfo, hi, h0, newRow, cur, zeroValue, hZ]
  have hcv : ∀ k j, k < n.toNat → j < i.size → cur[k * i.size + j]? = Z.cells[j]? := by
    intro k j hk hj
    have hlt := lt_mul_of hk hj
    have hne : ¬ (n.toNat * i.size = 0) := by omega
    show (if n.toNat * i.size = 0 then (Array.range 0).map (#[][· % 0]!) else (Array.range (n.toNat * i.size)).map (Z.cells[· % Z.cells.size]!))[k * i.size + j]? = _
    rw [if_neg hne]
    exact mod_get hzc hj hlt
  obtain ⟨X', hI⟩ := h.newRow hgone (Grew.alloc w (.cells cur e)) (sz := i.size) (n := n.toNat) (room := n.toNat * i.size) (f := fun _ => zrows z) (T := fun k j σ => if k < n.toNat then ((z[j]?).bind fun p => zeroT p σ) else none) (org := fun _ _ => none) (tk := []) h1 (Nat.le_refl _) (by omega) (fun _ _ => by rw [zrows_len]; exact hzl) (fun k j v hk hv => by
    rw [zrows_get] at hv
    cases hp : z[j]? with
    | none => rw [hp] at hv; cases hv
    | some p =>
      rw [hp] at hv
      cases hv
      have hj : j < i.size := by have := (List.getElem?_eq_some_iff.1 hp).1; omega
      have hV : Z.cells[j]? = some (Z.cells[j]'(by omega)) := Array.getElem?_eq_getElem _
      refine ⟨_, (hcv k j hk hj).trans hV, ?_⟩
      have e1 : (fun σ => if k < n.toNat then (some p).bind fun p => zeroT p σ else none) = zeroT p := by funext σ; rw [if_pos hk]; rfl
      rw [e1]
      exact zrow_G (zfit_get hf j p _ hp (by rw [Array.getElem?_toList]; exact hV)) fun m f e' => by have := all_get hok hp; rw [e'] at this; exact Nat.le_of_ble_eq_true this) (fun k j hn' σ => by
    by_cases hk : k < n.toNat
    · have := hn' hk
      rw [zrows_get, Option.map_eq_none_iff] at this
      rw [if_pos hk, this]; rfl
    · rw [if_neg hk]) (fun i j κ hκ => by cases hκ) (fun i j i' j' c κ κ' σ σ' e1 => by cases e1) (fun c hc => by cases hc) (e := { val := .ms id [] 0 n.toNat, hb := [(id, .arr 0 i.size n.toNat fun _ => zrows z)] }) rfl (fun c hc => by cases hc) dst (V := .slice (some ⟨w.heap.size, 0, none⟩) n.toNat n.toNat) (fun Y hY => by
      refine .ms none id [] 0 n.toNat _ n.toNat _ hY (Nat.le_refl _) (by simp only; omega) fun _ => ⟨by simp, by rw [Nat.zero_add]; exact Nat.le_refl _⟩)
  exact ⟨X', _, _, hrun, hI⟩
end
end Go.Bm
