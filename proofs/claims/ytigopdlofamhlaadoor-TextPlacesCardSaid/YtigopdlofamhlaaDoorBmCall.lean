/- The abstract machine is sound: calls. -/
import Derived.Test.YtigopdlofamhlaaDoorBmCopy
namespace Go.Bm
set_option autoImplicit false
set_option linter.unusedVariables false
set_option linter.unusedSimpArgs false

/-- What a function does: of whatever world it is called in. -/
def Does (P : Program) (f : FuncId) (args : List AV) (H : List Blk) (r : AV × List Blk) : Prop :=
  ∀ (X : Ctx) (Args : List Value), Args.length = args.length → (∀ (j : Nat) (v : AV) (V : Value), args[j]? = some v → Args[j]? = some V → VA X none v V) → HeapOk X H → Fresh X → GloOk X →
    Calls P f Args.toArray X.w fun e w' => ∃ V X', e = .returned V ∧ X'.w = w' ∧ Fr X X' ∧ Base X X' r.2 ∧ HeapOk X' r.2 ∧ Fresh X' ∧ VA X' none r.1 V

/-! ### values told as they are -/
theorem snapL_len : ∀ l : List AV, (snapL l).length = l.length
  | [] => rfl
  | v :: vs => by simp [snapL, snapL_len vs]
theorem snapL_get : ∀ (l : List AV) (j : Nat), (snapL l)[j]? = (l[j]?).map snapC
  | [], j => by simp [snapL]
  | v :: l, 0 => by simp [snapL]
  | v :: l, j + 1 => by simp [snapL, snapL_get l j]
/-- The blocks whose memory is lent. -/
def Bor (X : Ctx) (bl : List Nat) (g : Nat) : Prop := ∃ b ∈ bl, ∃ ρ L, X.loc b ρ = some L ∧ 0 < L.room ∧ L.g = g
def RB (X : Ctx) (bl : List Nat) (g off : Nat) : Prop := X.R g off ∨ Bor X bl g
theorem VP.rb {X : Ctx} {bl : List Nat} {p : PV} {V : Value} (h : VP X.R X.w p V) : VP (RB X bl) X.w p V := h.stab fun g off hr => ⟨.inl hr, rfl⟩
theorem RB.mono {X : Ctx} {bl bl' : List Nat} (h : ∀ b ∈ bl, b ∈ bl') {p : PV} {V : Value} (hp : VP (RB X bl) X.w p V) : VP (RB X bl') X.w p V :=
  hp.stab fun g off hr => ⟨hr.imp (fun h => h) fun ⟨b, hb, hh⟩ => ⟨b, h b hb, hh⟩, rfl⟩
section
variable {X : Ctx} {b : Nat} {B : Blk} {bl : List Nat}
/-- An array's elements, told as they are. -/
theorem snapN_ok (hroot : RootOk X b B) (hbl : b ∈ bl) {ρ : List Stp} {x : Nd} (hx : B.sub ρ = some x) (hd : x.dat = true) {L : Loc} (hL : X.loc b ρ = some L) {lo n cap : Nat} {A : Option Addr} {g : Nat → List AV} (hn : n ≤ cap) (hl : lo + n ≤ x.n) (hA : 0 < cap → A = some ⟨L.g, lo * L.sz, none⟩ ∧ (lo + cap) * L.sz ≤ L.room)
    (hg : ∀ k, k < n → g k = x.f (lo + k)) (ih : ∀ k j v V, k < n → (g k)[j]? = some v → VA X (some (b, ρ ++ [(lo + k, j)])) v V → V.oneCell' = true → Dat v → VP (RB X bl) X.w (snapC v) V) : VP (RB X bl) X.w (.seq n fun i => snapL (g i)) (.slice A n cap) := by
  obtain ⟨L1, hL1, hr⟩ := hroot.some hx
  rw [hL] at hL1
  cases hL1
  rcases Nat.eq_zero_or_pos n with h0 | h0
  · subst h0; exact VP.seq0 _ _ _
  · obtain ⟨rfl, e2⟩ := hA (by omega)
    have h00 : 0 < L.room := by
      have h5 := hr.fit
      have h6 := lt_mul_of (show 0 < x.n by omega) hr.pos
      omega
    obtain ⟨cur, e, q1, q2, q3⟩ := hr.mem h00
    have hfit := hr.fit
    have key : ∀ i j, i < n → j < x.sz → cur[(lo + i) * x.sz + j]? = some (cur.getD ((lo + i) * x.sz + j) undef) := by
      intro i j hi hj
      have := lt_mul_of (show lo + i < x.n by omega) hj
      simp [Array.getD, show (lo + i) * x.sz + j < cur.size by omega]
    have hek : ∀ i j, keyOf x b ρ i j = some (b, ρ ++ [(i, j)]) := fun i j => by unfold keyOf; rw [hd]
    refine .seq n _ _ cap x.sz (fun i j => cur.getD ((lo + i) * x.sz + j) undef) hn (fun i hi => by rw [snapL_len, hg i hi]; exact hr.row _ (by omega)) (fun _ => ⟨L.g, lo * L.sz, rfl, fun i j hi hj => ?_⟩) fun i j p hi hp => ?_
    · refine ⟨.inr ⟨b, hbl, ρ, L, hL, h00, rfl⟩, ?_⟩
      rw [hr.sz, q1.cell, show lo * x.sz + (i * x.sz + j) = (lo + i) * x.sz + j by rw [Nat.add_mul]; omega]
      exact key i j hi hj
    · rw [snapL_get] at hp
      cases hv : (g i)[j]? with
      | none => rw [hv] at hp; cases hp
      | some v =>
        rw [hv] at hp
        cases hp
        have hv' := hv
        rw [hg i hi] at hv'
        have hj : j < x.sz := by
          have := (List.getElem?_eq_some_iff.1 hv').1
          rw [hr.row _ (by omega)] at this
          exact this
        obtain ⟨p1, p2, p3⟩ := q3 (lo + i) j v _ (by omega) hv' (key i j hi hj)
        rw [hek] at p1
        exact ih i j v _ hi hv p1 p2 (p3 hd)
mutual
theorem snapC_ok (hroot : RootOk X b B) (hbl : b ∈ bl) : ∀ (v : AV) (ρ : List Stp) (V : Value), VA X (some (b, ρ)) v V → V.oneCell' = true → Dat v → (∀ sz n f, v = .own sz n f → B.sub ρ = some ⟨true, sz, n, f⟩) → VP (RB X bl) X.w (snapC v) V
  | .own sz n f, ρ, V, h, h1, hd, hs => by
    cases h with | own _ _ _ _ _ A cap L hL hLs hLl hn hA => ?_
    have hx := hs sz n f rfl
    refine snapN_ok (x := ⟨true, sz, n, f⟩) (lo := 0) hroot hbl hx rfl hL hn (by simp) (fun h0 => by have := hA h0; simpa using this) (fun k hk => by rw [Nat.zero_add]) fun k j v V hk hv hva h1v hdv => ?_
    rw [Nat.zero_add] at hva
    exact snapL_ok hroot hbl (f k) v (List.mem_of_getElem? hv) _ V hva h1v hdv fun sz' n' f' e => by
      rw [Blk.sub_append hx, Nd.sub_cons]
      subst e
      simp only [true_and, hk, if_true, hv, Option.bind_some]
      rfl
  | .pv p, ρ, V, h, h1, hd, hs => by
    cases h; exact VP.rb ‹_›
  | .dead, ρ, V, h, h1, hd, hs => hd.elim
  | .nil f, ρ, V, h, h1, hd, hs => hd.elim
  | .ptr _ _ _ _, ρ, V, h, h1, hd, hs => hd.elim
  | .aptr _ _ _ _ _ _, ρ, V, h, h1, hd, hs => hd.elim
  | .pref _ _, ρ, V, h, h1, hd, hs => hd.elim
  | .ms _ _ _ _, ρ, V, h, h1, hd, hs => hd.elim
  | .clo _ _ _, ρ, V, h, h1, hd, hs => hd.elim
  | .agg _, ρ, V, h, h1, hd, hs => hd.elim
  | .tup _, ρ, V, h, h1, hd, hs => hd.elim
  | .ifc _ _, ρ, V, h, h1, hd, hs => hd.elim
theorem snapL_ok (hroot : RootOk X b B) (hbl : b ∈ bl) : ∀ (l : List AV), ∀ v ∈ l, ∀ (ρ : List Stp) (V : Value), VA X (some (b, ρ)) v V → V.oneCell' = true → Dat v → (∀ sz n f, v = .own sz n f → B.sub ρ = some ⟨true, sz, n, f⟩) → VP (RB X bl) X.w (snapC v) V
  | [], v, h => by cases h
  | u :: us, v, h => by
    rcases List.mem_cons.1 h with e | h
    · rw [e]; exact snapC_ok hroot hbl u
    · exact snapL_ok hroot hbl us v h
end
end

section
variable {P : Program} {X0 X : Ctx} {st : St} {a : Act} {w W : World} {ok : Ob → Prop}
/-- The world that a call is told of. -/
def Ctx.rb (X : Ctx) (bl : List Nat) : Ctx := { X with R := RB X bl }
theorem Stab.rb (X : Ctx) (bl : List Nat) : Stab X (X.rb bl) := ⟨fun _ _ hr => ⟨.inl hr, rfl⟩, fun _ _ _ h => h⟩
theorem snapV_sound {H : List Blk} (hH : HeapOk X H) {v : AV} {V : Value} (hv : VA X none v V) {r : AV × List Nat} (h : (snapV v).Gives ok (getB H) r) (bl : List Nat) (hbl : ∀ b ∈ r.2, b ∈ bl) : VA (X.rb bl) none r.1 V := by
  unfold snapV at h
  split at h
  · rename_i b ρ lo n
    obtain ⟨x, hx, h1⟩ := gives_bind h
    obtain ⟨hd, h2⟩ := gives_chk h1
    obtain ⟨g, hg, h3⟩ := gives_bind h2
    cases h3
    cases hv with | ms _ _ _ _ _ A cap L hL hn hl hA => ?_
    obtain ⟨hr, hB, hsub⟩ := node_of hH hL hx
    have hroot := hH.blk b _ hB
    have hb : b ∈ bl := hbl b (by simp)
    refine .pv _ _ _ (snapN_ok hroot hb hsub hd hL hn (by rw [← hr.len]; exact hl) hA (wholeE_gives hg) fun k j v V hk hv hva h1v hdv => ?_)
    refine snapC_ok hroot hb v _ V hva h1v hdv fun sz' n' f' e => ?_
    subst e
    rw [wholeE_gives hg k hk] at hv
    rw [Blk.sub_append hsub, Nd.sub_cons, hd]
    have hlN : lo + k < x.n := by rw [← hr.len]; omega
    simp only [true_and, hlN, if_true, hv, Option.bind_some]
    rfl
  · cases h
    cases hv with | nil _ f A => exact .pv _ _ _ (VP.seq0 _ _ _)
  · cases h; exact hv.stab (Stab.rb X bl)
theorem snapVs_sound {H : List Blk} (hH : HeapOk X H) (bl : List Nat) : ∀ (vs : List AV) (r : List AV × List Nat), (snapVs vs).Gives ok (getB H) r → (∀ b ∈ r.2, b ∈ bl) → r.1.length = vs.length ∧ ∀ (j : Nat) (v : AV) (V : Value), r.1[j]? = some v → (∀ u, vs[j]? = some u → VA X none u V) → VA (X.rb bl) none v V
  | [], r, h, hb => by cases h; exact ⟨rfl, fun j v V hj => (by cases hj)⟩
  | u :: us, r, h, hb => by
    obtain ⟨r1, h1, h2⟩ := gives_bind h
    obtain ⟨r2, h3, h4⟩ := gives_bind h2
    cases h4
    obtain ⟨k1, k2⟩ := snapVs_sound hH bl us r2 h3 fun b hb' => hb b (List.mem_append_right _ hb')
    refine ⟨by simp [k1], fun j v V hj hu => ?_⟩
    cases j with
    | zero => cases hj; exact snapV_sound hH (hu u rfl) h1 bl fun b hb' => hb b (List.mem_append_left _ hb')
    | succ j => exact k2 j v V hj hu
theorem snapA_sound {H : List Blk} (hH : HeapOk X H) {v : AV} {V : Value} (hv : VA X none v V) {r : AV × List Nat} (h : (snapA v).Gives ok (getB H) r) (bl : List Nat) (hbl : ∀ b ∈ r.2, b ∈ bl) : VA (X.rb bl) none r.1 V := by
  unfold snapA at h
  split at h
  · rename_i cs
    obtain ⟨r1, h1, h2⟩ := gives_bind h
    cases h2
    obtain ⟨Cs, rfl, hl, hr⟩ := hv.agg_inv
    obtain ⟨k1, k2⟩ := snapVs_sound hH bl cs r1 h1 hbl
    exact .agg _ _ Cs (by rw [k1]; exact hl) fun j v V hj hV => k2 j v V hj fun u hu => hr j u V hu hV
  · exact snapV_sound hH hv h bl hbl
theorem snapAs_sound {H : List Blk} (hH : HeapOk X H) (bl : List Nat) : ∀ (vs : List AV) (r : List AV × List Nat), (snapAs vs).Gives ok (getB H) r → (∀ b ∈ r.2, b ∈ bl) → r.1.length = vs.length ∧ ∀ (j : Nat) (v : AV) (V : Value), r.1[j]? = some v → (∀ u, vs[j]? = some u → VA X none u V) → VA (X.rb bl) none v V
  | [], r, h, hb => by cases h; exact ⟨rfl, fun j v V hj => (by cases hj)⟩
  | u :: us, r, h, hb => by
    obtain ⟨r1, h1, h2⟩ := gives_bind h
    obtain ⟨r2, h3, h4⟩ := gives_bind h2
    cases h4
    obtain ⟨k1, k2⟩ := snapAs_sound hH bl us r2 h3 fun b hb' => hb b (List.mem_append_right _ hb')
    refine ⟨by simp [k1], fun j v V hj hu => ?_⟩
    cases j with
    | zero => cases hj; exact snapA_sound hH (hu u rfl) h1 bl fun b hb' => hb b (List.mem_append_left _ hb')
    | succ j => exact k2 j v V hj hu

/-! ### without slices whose memory is another's -/
theorem erL_len : ∀ l : List AV, (erL l).length = l.length
  | [] => rfl
  | v :: vs => by simp [erL, erL_len vs]
theorem erL_get : ∀ (l : List AV) (j : Nat), (erL l)[j]? = (l[j]?).map erV
  | [], j => by simp [erL]
  | v :: l, 0 => by simp [erL]
  | v :: l, j + 1 => by simp [erL, erL_get l j]
def Nd.er (x : Nd) : Nd := { x with f := fun i => erL (x.f i) }
theorem Nd.er_sub : ∀ (ρ : List Stp) (x : Nd), x.er.sub ρ = (x.sub ρ).map Nd.er
  | [], x => rfl
  | (i, j) :: ρ, x => by
    rw [Nd.sub_cons, Nd.sub_cons]
    show (if x.dat = true ∧ i < x.n then ((erL (x.f i))[j]?).bind fun v => v.csub ρ else none) = _
    split
    · rw [erL_get]
      cases (x.f i)[j]? with
      | none => rfl
      | some v =>
        cases v with
        | own sz n f => exact Nd.er_sub ρ ⟨true, sz, n, f⟩
        | pv p => cases p <;> rfl
        | _ => rfl
    · rfl
theorem erB_sub (B : Blk) (ρ : List Stp) : (erB B).sub ρ = (B.sub ρ).map Nd.er := by
  cases B with
  | gone => rfl
  | arr s sz n f => exact Nd.er_sub ρ ⟨true, sz, n, f⟩
  | box s cs =>
    have := Nd.er_sub ρ ⟨false, cs.length, 1, fun _ => cs⟩
    have e : (⟨false, cs.length, 1, fun _ => cs⟩ : Nd).er = ⟨false, (erL cs).length, 1, fun _ => erL cs⟩ := by simp [Nd.er, erL_len]
    rw [e] at this
    exact this
  | lit s sz rows =>
    have := Nd.er_sub ρ ⟨false, sz, rows.length, fun i => rows.getD i []⟩
    have e : (⟨false, sz, rows.length, fun i => rows.getD i []⟩ : Nd).er = ⟨false, sz, (rows.map erL).length, fun i => (rows.map erL).getD i []⟩ := by
      simp only [Nd.er, List.length_map]
      congr 1
      funext i
      simp only [List.getD, List.getElem?_map]
      cases rows[i]? <;> rfl
    rw [e] at this
    exact this
/-- The same arrays, other frozen cells. -/
def Ctx.withR (X : Ctx) (R : Nat → Nat → Prop) : Ctx := { X with R := R }
theorem VA.er {R : Nat → Nat → Prop} {κ : Option Key} {v : AV} {V : Value} (h : VA X κ v V) : VA (X.withR R) κ (erV v) V := by
  induction h with
  | dead κ V => exact .dead κ V
  | pv κ p V h =>
    cases h with
    | seq n f A cap sz C hn hs hA h => exact .pv _ _ _ (.bad _ rfl)
    | seqk b n f A cap h hb => exact .pv _ _ _ (.bad _ rfl)
    | bad V h => exact .pv _ _ _ (.bad _ h)
    | bool b => exact .pv _ _ _ (.bool b)
    | int k n => exact .pv _ _ _ (.int k n)
    | str s => exact .pv _ _ _ (.str s)
    | fn f => exact .pv _ _ _ (.fn f)
    | nilFn => exact .pv _ _ _ .nilFn
    | nilPtr => exact .pv _ _ _ .nilPtr
    | nilIf => exact .pv _ _ _ .nilIf
  | nil κ f A => exact .nil κ f A
  | own b ρ sz n f A cap L h hs hl hn hA => exact .own b ρ sz n _ A cap L h hs hl hn hA
  | ptr κ b ρ i o L h hi => exact .ptr κ b ρ i o L h hi
  | aptr κ b ρ i o m k L h hi hk => exact .aptr κ b ρ i o m k L h hi hk
  | pref κ cs off g o C hc h => exact .pv _ _ _ (.bad _ rfl)
  | ms κ b ρ lo n A cap L h hn hl hA => exact .ms κ b ρ lo n A cap L h hn hl hA
  | clo κ f k caps Caps hl h ih =>
    exact .clo κ f k _ Caps (by rw [erL_len]; exact hl) fun j v V hv hV => by
      rw [erL_get] at hv
      cases hu : caps[j]? with
      | none => rw [hu] at hv; cases hv
      | some u => rw [hu] at hv; cases hv; exact ih j u V hu hV
  | agg κ cs Cs hl h ih =>
    exact .agg κ _ Cs (by rw [erL_len]; exact hl) fun j v V hv hV => by
      rw [erL_get] at hv
      cases hu : cs[j]? with
      | none => rw [hu] at hv; cases hv
      | some u => rw [hu] at hv; cases hv; exact ih j u V hu hV
  | tup κ vs Vs hl h ih =>
    exact .tup κ _ Vs (by rw [erL_len]; exact hl) fun j v V hv hV => by
      rw [erL_get] at hv
      cases hu : vs[j]? with
      | none => rw [hu] at hv; cases hv
      | some u => rw [hu] at hv; cases hv; exact ih j u V hu hV
  | ifc κ t v V h ih => exact .ifc κ t _ V ih
theorem Dat.er {v : AV} (h : Dat v) : Dat (erV v) := by
  cases v with
  | pv p => cases p <;> trivial
  | own sz n f => trivial
  | _ => exact h.elim
theorem NdRel.er {R : Nat → Nat → Prop} {b : Nat} {ρ : List Stp} {L : Loc} {x : Nd} (h : NdRel X b ρ L x) : NdRel (X.withR R) b ρ L x.er :=
  ⟨h.sz, h.len, h.pos, h.fit, fun i hi => (erL_len _).trans (h.row i hi), fun h0 => by
    obtain ⟨cur, e, h1, h2, h3⟩ := h.mem h0
    refine ⟨cur, e, h1, h2, fun i j v V hi hv hV => ?_⟩
    have hv : (erL (x.f i))[j]? = some v := hv
    rw [erL_get] at hv
    cases hu : (x.f i)[j]? with
    | none => rw [hu] at hv; cases hv
    | some u =>
      rw [hu] at hv
      cases hv
      obtain ⟨p1, p2, p3⟩ := h3 i j u V hi hu hV
      exact ⟨p1.er, p2, fun hd => (p3 hd).er⟩⟩
theorem RootOk.er {R : Nat → Nat → Prop} {b : Nat} {B : Blk} (h : RootOk X b B) : RootOk (X.withR R) b (erB B) := by
  intro ρ
  rw [erB_sub]
  have := h ρ
  cases hx : B.sub ρ with
  | none => rw [hx] at this; exact this
  | some x =>
    rw [hx] at this
    obtain ⟨L, h1, h2⟩ := this
    exact ⟨L, h1, h2.er⟩

/-! ### numbers of blocks -/
theorem place_some : ∀ {l : List Nat} {b i : Nat}, place l b = some i → l[i]? = some b
  | [], b, i, h => by cases h
  | x :: xs, b, i, h => by
    simp only [place] at h
    cases hb : Nat.beq x b with
    | true =>
      rw [hb] at h
      cases h
      rw [Nat.eq_of_beq_eq_true hb]; rfl
    | false =>
      rw [hb] at h
      cases hp : place xs b with
      | none => rw [hp] at h; cases h
      | some j => rw [hp] at h; cases h; exact (show xs[j]? = some b from place_some hp)
theorem place_of : ∀ {l : List Nat} {b i : Nat}, l.Nodup → l[i]? = some b → place l b = some i
  | [], b, i, hn, h => by cases h
  | x :: xs, b, 0, hn, h => by cases h; simp [place, Nat.beq_refl]
  | x :: xs, b, i + 1, hn, h => by
    have hb : Nat.beq x b = false := by
      cases hq : Nat.beq x b with
      | false => rfl
      | true =>
        have := Nat.eq_of_beq_eq_true hq
        subst this
        exact absurd (List.mem_of_getElem? (show xs[i]? = some x from h)) (List.nodup_cons.1 hn).1
    simp only [place, hb]
    rw [place_of (List.nodup_cons.1 hn).2 (show xs[i]? = some b from h)]
    rfl
theorem place_none {l : List Nat} {b : Nat} (hn : l.Nodup) (h : place l b = none) : b ∉ l := by
  intro hb
  obtain ⟨i, hi⟩ := List.getElem?_of_mem hb
  rw [place_of hn hi] at h; cases h
theorem upFrom_get : ∀ (n b i : Nat), (upFrom b n)[i]? = if i < n then some (b + i) else none
  | 0, b, i => by simp [upFrom]
  | n + 1, b, 0 => by simp [upFrom]
  | n + 1, b, i + 1 => by
    simp only [upFrom, List.getElem?_cons_succ, upFrom_get n (b + 1) i]
    by_cases h : i < n
    · rw [if_pos h, if_pos (by omega)]; congr 1; omega
    · rw [if_neg h, if_neg (by omega)]
theorem upFrom_len : ∀ (n b : Nat), (upFrom b n).length = n
  | 0, b => rfl
  | n + 1, b => by simp [upFrom, upFrom_len n]
theorem upFrom_mem {n b c : Nat} (h : c ∈ upFrom b n) : b ≤ c ∧ c < b + n := by
  obtain ⟨i, hi⟩ := List.getElem?_of_mem h
  rw [upFrom_get] at hi
  split at hi
  · cases hi; omega
  · cases hi
theorem upFrom_nodup : ∀ (n b : Nat), (upFrom b n).Nodup
  | 0, b => .nil
  | n + 1, b => List.nodup_cons.2 ⟨fun h => by have := upFrom_mem h; omega, upFrom_nodup n (b + 1)⟩
theorem zipB_mem : ∀ {l : List Nat} {xs : List Blk} {y : Nat × Blk}, y ∈ zipB l xs → ∃ i : Nat, l[i]? = some y.1 ∧ xs[i]? = some y.2
  | [], xs, y, h => by cases h
  | b :: bs, [], y, h => by cases h
  | b :: bs, x :: xs, y, h => by
    rcases List.mem_cons.1 h with rfl | h
    · exact ⟨0, rfl, rfl⟩
    · obtain ⟨i, h1, h2⟩ := zipB_mem h; exact ⟨i + 1, h1, h2⟩
theorem zipB_of : ∀ {l : List Nat} {xs : List Blk} {i b : Nat}, l[i]? = some b → i < xs.length → ∃ B, (b, B) ∈ zipB l xs
  | [], xs, i, b, h, hi => by cases h
  | c :: bs, [], i, b, h, hi => absurd hi (Nat.not_lt_zero i)
  | c :: bs, x :: xs, 0, b, h, hi => by cases h; exact ⟨x, by simp [zipB]⟩
  | c :: bs, x :: xs, i + 1, b, h, hi => by
    obtain ⟨B, hB⟩ := zipB_of (l := bs) (xs := xs) h (by simpa using hi)
    exact ⟨B, List.mem_cons_of_mem _ hB⟩
theorem alsoL_get : ∀ (As Bs : List Blk) (i : Nat), (alsoL As Bs)[i]? = (Bs[i]?).map fun B => B.also (match As[i]? with | some A => A.tag | none => 0)
  | A :: As, B :: Bs, 0 => rfl
  | A :: As, B :: Bs, i + 1 => by simp only [alsoL, List.getElem?_cons_succ]; exact alsoL_get As Bs i
  | [], B :: Bs, 0 => rfl
  | [], B :: Bs, i + 1 => by simp only [alsoL, List.getElem?_cons_succ]; exact alsoL_get [] Bs i
  | [], [], i => rfl
  | A :: As, [], i => rfl
theorem also_sub (B : Blk) (s : Nat) (ρ : List Stp) : (B.also s).sub ρ = B.sub ρ := by cases B <;> rfl
theorem also_tag (B : Blk) (s : Nat) {ρ : List Stp} (h : keeps (B.also s).tag ρ = true) : keeps s ρ = true ∧ keeps B.tag ρ = true := by
  cases B <;> first | exact keeps_min h | cases h
theorem start_sub (B : Blk) (ρ : List Stp) : B.start.sub ρ = B.sub ρ := by cases B <;> rfl
theorem map_tag (B : Blk) (r : Nat → Bool → Option Nat) : (B.map r).tag = B.tag := by cases B <;> rfl
theorem er_tag (B : Blk) : (erB B).tag = B.tag := by cases B <;> rfl
theorem RootOk.also {b : Nat} {B : Blk} (h : RootOk X b B) (s : Nat) : RootOk X b (B.also s) := fun ρ => by rw [also_sub]; exact h ρ
theorem RootOk.start {b : Nat} {B : Blk} (h : RootOk X b B) : RootOk X b B.start := fun ρ => by rw [start_sub]; exact h ρ
theorem scOf_get : ∀ {l : List Nat} {xs : List Blk} {i b : Nat} {B : Blk}, l[i]? = some b → xs[i]? = some B → ∀ d, keeps B.tag (if d then [(0, 0)] else []) = false → ∃ q, (b, q) ∈ scOf l xs ∧ (q = false ∨ d = true)
  | [], xs, i, b, B, h, hi, d, hd => by cases h
  | c :: bs, [], i, b, B, h, hi, d, hd => by cases hi
  | c :: bs, x :: xs, 0, b, B, h, hi, d, hd => by
    cases h; cases hi
    unfold scOf
    match ht : x.tag with
    | 0 => exact ⟨false, by simp, .inl rfl⟩
    | 1 =>
      rw [ht] at hd
      cases d with
      | true => exact ⟨true, by simp, .inr rfl⟩
      | false => simp [keeps] at hd
    | n + 2 => rw [ht] at hd; simp [keeps] at hd
  | c :: bs, x :: xs, i + 1, b, B, h, hi, d, hd => by
    obtain ⟨q, h1, h2⟩ := scOf_get (by simpa using h) (by simpa using hi) d hd
    exact ⟨q, List.mem_append_right _ h1, h2⟩
theorem reachE_spec {H : Nat → Blk} : ∀ (n : Nat) (todo acc l : List Nat), (reachE n todo acc).Gives ok H l → ∀ b ∈ l, b ∈ acc ∨ (H b ≠ .gone ∧ H b ≠ .lit 0 0 [])
  | 0, todo, acc, l, h, b, hb => by cases h; exact .inl hb
  | n + 1, [], acc, l, h, b, hb => by cases h; exact .inl hb
  | n + 1, c :: todo, acc, l, h, b, hb => by
    unfold reachE at h
    split at h
    · exact reachE_spec n todo acc l h b hb
    · simp only [Ev.Gives] at h
      split at h
      · cases h
      · cases h
      · rename_i h1 h2
        rcases reachE_spec n _ _ l h b hb with h3 | h3
        · rcases List.mem_append.1 h3 with h3 | h3
          · exact .inl h3
          · cases List.mem_singleton.1 h3
            exact .inr ⟨h1, fun e => h2 _ _ e⟩
        · exact .inr h3
theorem blksE_spec {H : Nat → Blk} : ∀ (l : List Nat) (Bs : List Blk), (blksE l).Gives ok H Bs → Bs = l.map H
  | [], Bs, h => by cases h; rfl
  | b :: bs, Bs, h => by
    obtain ⟨Bs', h1, h2⟩ := gives_bind (show ((blksE bs).bind fun Bs => Ev.ret (H b :: Bs)).Gives ok H Bs from h)
    cases h2
    rw [blksE_spec bs Bs' h1]; rfl
end
end Go.Bm
