/- The abstract machine is sound: blocks that are cut to what is led to. -/
import Derived.Test.YtigopdlofamhlaaDoorBmOrd
namespace Go.Bm
set_option autoImplicit false
set_option linter.unusedVariables false
set_option linter.unusedSimpArgs false

section
variable {P : Program} {X0 X : Ctx} {st : St} {a : Act} {w : World} {b n : Nat}

theorem winsL_mem {v : AV} : ∀ {vs : List AV} {j : Nat}, vs[j]? = some v → ∀ x ∈ v.wins b, x ∈ AV.winsL b vs
  | u :: vs, 0, h, x, hx => by cases h; simp [AV.winsL, hx]
  | u :: vs, j + 1, h, x, hx => by
    have := winsL_mem (vs := vs) (j := j) (by simpa using h) x hx
    simp [AV.winsL, this]
theorem winsL_of {o : Option Nat} : ∀ {vs : List AV}, o ∈ AV.winsL b vs → ∃ (j : Nat) (v : AV), vs[j]? = some v ∧ o ∈ v.wins b
  | u :: vs, h => by
    simp only [AV.winsL, List.mem_append] at h
    rcases h with h | h
    · exact ⟨0, u, rfl, h⟩
    · obtain ⟨j, v, h1, h2⟩ := winsL_of h
      exact ⟨j + 1, v, by simpa using h1, h2⟩
/-- The world in which the block ends there. -/
def Ctx.shr (X : Ctx) (b n : Nat) : Ctx := { X with loc := fun c τ => if c = b then (match τ with | [] => (X.loc b []).map fun L => { L with len := n } | (i, o) :: τ => if i < n then X.loc b ((i, o) :: τ) else none) else X.loc c τ }
theorem shr_ne {c : Nat} (h : c ≠ b) (τ : List Stp) : (X.shr b n).loc c τ = X.loc c τ := by simp [Ctx.shr, h]
theorem shr_root : (X.shr b n).loc b [] = (X.loc b []).map fun L => { L with len := n } := by simp [Ctx.shr]
theorem shr_in (i o : Nat) (τ : List Stp) : (X.shr b n).loc b ((i, o) :: τ) = if i < n then X.loc b ((i, o) :: τ) else none := by simp [Ctx.shr]
theorem shr_some {c : Nat} {τ : List Stp} {L : Loc} (h : (X.shr b n).loc c τ = some L) : ∃ M, X.loc c τ = some M ∧ M.g = L.g ∧ M.room = L.room ∧ M.sz = L.sz := by
  by_cases hc : c = b
  · subst hc
    cases τ with
    | nil =>
      rw [shr_root] at h
      cases hM : X.loc c [] with
      | none => rw [hM] at h; cases h
      | some M => rw [hM] at h; cases h; exact ⟨M, rfl, rfl, rfl, rfl⟩
    | cons s τ =>
      obtain ⟨i, o⟩ := s
      rw [shr_in] at h
      split at h
      · exact ⟨L, h, rfl, rfl, rfl⟩
      · cases h
  · rw [shr_ne hc] at h
    exact ⟨L, h, rfl, rfl, rfl⟩
/-- What leads to the block's beginning alone still does. -/
theorem VA.shr {κ : Option Key} {v : AV} {V : Value} (h : VA X κ v V) : ∀ κ', κ = none → κ' = none → (∀ x ∈ v.wins b, x = some n) → VA (X.shr b n) κ' v V := by
  induction h with
  | dead κ V => exact fun κ' _ _ _ => .dead _ _
  | pv κ p V h => exact fun κ' _ _ _ => .pv _ _ _ h
  | nil κ f A => exact fun κ' _ _ _ => .nil _ _ _
  | own => exact fun κ' e => by cases e
  | ptr κ c ρ i o L h hi =>
    intro κ' _ _ hw
    by_cases hc : c = b
    · subst hc
      have := hw none (by simp [AV.wins, Nat.beq_refl])
      cases this
    · exact .ptr _ _ _ _ _ _ (by rw [shr_ne hc]; exact h) hi
  | aptr κ c ρ i o m k L h hi hk =>
    intro κ' _ _ hw
    by_cases hc : c = b
    · subst hc
      have := hw none (by simp [AV.wins, Nat.beq_refl])
      cases this
    · exact .aptr _ _ _ _ _ _ _ _ (by rw [shr_ne hc]; exact h) hi hk
  | pref κ cs off g o C hc h => exact fun κ' _ _ _ => .pref _ _ _ _ _ C hc h
  | ms κ c ρ lo m A cap L h hn hl hA =>
    intro κ' _ _ hw
    by_cases hc : c = b
    · subst hc
      cases ρ with
      | cons s ρ =>
        have := hw none (by simp [AV.wins, Nat.beq_refl])
        cases this
      | nil =>
        cases lo with
        | succ lo =>
          have := hw none (by simp [AV.wins, Nat.beq_refl])
          cases this
        | zero =>
          have := hw (some m) (by simp [AV.wins, Nat.beq_refl])
          cases this
          exact .ms _ _ _ _ _ _ cap { L with len := n } (by rw [shr_root, h]; rfl) hn (by simp) hA
    · exact .ms _ _ _ _ _ _ _ L (by rw [shr_ne hc]; exact h) hn hl hA
  | clo κ f k caps Caps hl h ih => exact fun κ' _ _ hw => .clo _ f k caps Caps hl fun j v V hv hV => ih j v V hv hV none rfl rfl fun x hx => hw x (winsL_mem hv x hx)
  | agg κ cs Cs hl h ih => exact fun κ' _ _ hw => .agg _ cs Cs hl fun j v V hv hV => ih j v V hv hV none rfl rfl fun x hx => hw x (winsL_mem hv x hx)
  | tup κ vs Vs hl h ih => exact fun κ' _ _ hw => .tup _ vs Vs hl fun j v V hv hV => ih j v V hv hV none rfl rfl fun x hx => hw x (winsL_mem hv x hx)
  | ifc κ t v V h ih => exact fun κ' _ _ hw => .ifc _ t v V (ih none rfl rfl hw)
/-- Whoever leads to a block's first elements knows of them. -/
theorem VA.win {κ : Option Key} {v : AV} {V : Value} (h : VA X κ v V) : some n ∈ v.wins b → ∃ L, X.loc b [] = some L ∧ n ≤ L.len := by
  induction h with
  | ptr κ c ρ i o L h hi => intro hw; simp only [AV.wins] at hw; cases hb : Nat.beq c b <;> rw [hb] at hw <;> simp at hw
  | aptr κ c ρ i o m k L h hi hk => intro hw; simp only [AV.wins] at hw; cases hb : Nat.beq c b <;> rw [hb] at hw <;> simp at hw
  | ms κ c ρ lo m A cap L h hn hl hA =>
    intro hw
    simp only [AV.wins] at hw
    cases hb : Nat.beq c b with
    | false => rw [hb] at hw; simp at hw
    | true =>
      have hb := Nat.eq_of_beq_eq_true hb
      subst hb
      rw [Nat.beq_refl] at hw
      cases ρ with
      | cons s ρ => simp at hw
      | nil =>
        cases lo with
        | succ lo => simp at hw
        | zero =>
          simp at hw
          subst hw
          exact ⟨L, h, by omega⟩
  | clo κ f k caps Caps hl h ih =>
    intro hw
    obtain ⟨j, v, h1, h2⟩ := winsL_of hw
    have hj : j < Caps.length := by rw [hl]; exact (List.getElem?_eq_some_iff.1 h1).1
    exact ih j v _ h1 (List.getElem?_eq_getElem hj) h2
  | agg κ cs Cs hl h ih =>
    intro hw
    obtain ⟨j, v, h1, h2⟩ := winsL_of hw
    have hj : j < Cs.length := by rw [hl]; exact (List.getElem?_eq_some_iff.1 h1).1
    exact ih j v _ h1 (List.getElem?_eq_getElem hj) h2
  | tup κ cs Cs hl h ih =>
    intro hw
    obtain ⟨j, v, h1, h2⟩ := winsL_of hw
    have hj : j < Cs.length := by rw [hl]; exact (List.getElem?_eq_some_iff.1 h1).1
    exact ih j v _ h1 (List.getElem?_eq_getElem hj) h2
  | ifc κ t v V h ih => exact ih
  | dead => intro hw; cases hw
  | pv => intro hw; cases hw
  | nil => intro hw; cases hw
  | own => intro hw; cases hw
  | pref => intro hw; cases hw

theorem shrink1_ok {H : List Blk} (hH : HeapOk X H) (hF : Fresh X) (hFr : Fr X0 X) (hB : Base X0 X H) (vs : List AV) (hvs : ∀ (j : Nat) (v : AV), vs[j]? = some v → ∃ V, VA X none v V) (b : Nat) :
    ∃ X', (X'.w = X.w ∧ X'.R = X.R) ∧ HeapOk X' (shrink1 b vs H) ∧ Fresh X' ∧ Fr X0 X' ∧ Base X0 X' (shrink1 b vs H) ∧ ∀ (j : Nat) (v : AV) (V : Value), vs[j]? = some v → VA X none v V → VA X' none v V := by
  unfold shrink1
  split
  · rename_i n hw
    split
    · rename_i s sz N f hb
      have hbH : H[b]? = some (.arr s sz N f) := by
        unfold getB at hb
        rw [List.getD_eq_getElem?_getD] at hb
        cases hx : H[b]? with
        | none => rw [hx] at hb; cases hb
        | some B => rw [hx] at hb; exact congrArg some hb
      have hmem : ∀ x, x ∈ AV.winsL b vs ++ H.flatMap (Blk.wins b) → x = some n := fun x hx => by rw [hw] at hx; simpa using hx
      have hvw : ∀ (j : Nat) (v : AV), vs[j]? = some v → ∀ x ∈ v.wins b, x = some n := fun j v hj x hx => hmem x (List.mem_append_left _ (winsL_mem hj x hx))
      have hbw : ∀ (c : Nat) (B : Blk), H[c]? = some B → ∀ x ∈ B.wins b, x = some n := fun c B hc x hx => hmem x (List.mem_append_right _ (List.mem_flatMap.2 ⟨B, List.mem_of_getElem? hc, hx⟩))
      -- the block's length
      obtain ⟨L, hL, hr⟩ := (hH.blk b _ hbH).some (ρ := []) (x := ⟨true, sz, N, f⟩) rfl
      have hnN : n ≤ N := by
        have key : ∃ L', X.loc b [] = some L' ∧ n ≤ L'.len := by
          have h0 : some n ∈ AV.winsL b vs ++ H.flatMap (Blk.wins b) := by rw [hw]; simp
          rcases List.mem_append.1 h0 with h0 | h0
          · obtain ⟨j, v, h1, h2⟩ := winsL_of h0
            obtain ⟨V, hV⟩ := hvs j v h1
            exact hV.win h2
          · obtain ⟨B, hBm, h2⟩ := List.mem_flatMap.1 h0
            obtain ⟨c, hc⟩ := List.getElem?_of_mem hBm
            have cellwin : ∀ (x : Nd) (i j : Nat) (v : AV), B.sub [] = some x → i < x.n → (x.f i)[j]? = some v → some n ∈ v.wins b → ∃ L', X.loc b [] = some L' ∧ n ≤ L'.len := by
              intro x i j v hx hi hv hwin
              obtain ⟨M, hM, hr'⟩ := (hH.blk c B hc).some hx
              have hj : j < x.sz := by rw [← hr'.row i hi]; exact (List.getElem?_eq_some_iff.1 hv).1
              have hfit := hr'.fit
              have hlt := lt_mul_of hi hj
              obtain ⟨cur, e, q1, q2, q3⟩ := hr'.mem (by omega)
              have hV : cur[i * x.sz + j]? = some (cur[i * x.sz + j]'(by omega)) := Array.getElem?_eq_getElem (by omega)
              exact (q3 i j v _ hi hv hV).1.win hwin
            cases B with
            | box s cs =>
              obtain ⟨j, v, h3, h4⟩ := winsL_of h2
              exact cellwin _ 0 j v rfl (by show 0 < 1; omega) h3 h4
            | lit s sz rows =>
              obtain ⟨row, hrow, h5⟩ := List.mem_flatMap.1 h2
              obtain ⟨i, hi⟩ := List.getElem?_of_mem hrow
              obtain ⟨j, v, h3, h4⟩ := winsL_of h5
              exact cellwin _ i j v rfl (List.getElem?_eq_some_iff.1 hi).1 (by simp only [List.getD_eq_getElem?_getD, hi, Option.getD_some]; exact h3) h4
            | arr => cases h2
            | gone => cases h2
        obtain ⟨L', h1, h2⟩ := key
        rw [hL] at h1
        cases h1
        have := hr.len
        have this : L.len = N := this
        omega
      have hcell : ∀ (c : Nat) (τ : List Stp) (κ : Option Key) (v : AV) (V : Value), c ≠ b → κ = some (c, τ) → VA X κ v V → Dat v → VA (X.shr b n) κ v V := by
        intro c τ κ v V hc hκ hv hd
        subst hκ
        cases v <;> first | exact hd.elim | skip
        · cases hv; exact .pv _ _ _ ‹_›
        · cases hv; exact .own _ _ _ _ _ _ _ _ (by rw [shr_ne hc]; assumption) ‹_› ‹_› ‹_› ‹_›
      refine ⟨X.shr b n, ⟨rfl, rfl⟩, ⟨fun c B hcB => ?_, fun c ρ M hM => ?_, fun c ρ d τ M M' hM hM' h0 h0' hg => ?_, fun c ρ M hM h0 => ?_⟩, hF, ⟨hFr.size, hFr.os, hFr.tape, hFr.output, hFr.keep, fun g hg => hFr.mine g ?_, hFr.Rmono, hFr.Rsame⟩, fun c B hcB τ ht M hM => ?_, fun j v V hj hv => hv.shr none rfl rfl (hvw j v hj)⟩
      · rw [List.getElem?_set] at hcB
        split at hcB
        · rename_i hbc
          split at hcB
          · have hcB := Option.some.inj hcB
            subst hcB
            subst hbc
            -- the block that is cut
            have hcut : ∀ i, i < n → cutF 0 n N f i = f i := fun i hi => by unfold cutF; rw [if_pos hi, Nat.zero_add]
            intro ρ
            cases ρ with
            | nil =>
              refine ⟨{ L with len := n }, by rw [shr_root, hL]; rfl, hr.sz, rfl, hr.pos, Nat.le_trans (Nat.mul_le_mul_right _ hnN) hr.fit, fun i hi => ?_, fun h0 => ?_⟩
              · show (cutF 0 n N f i).length = sz
                rw [hcut i hi]; exact hr.row i (Nat.lt_of_lt_of_le hi hnN)
              · obtain ⟨cur, e, q1, q2, q3⟩ := hr.mem h0
                refine ⟨cur, e, q1, q2, fun i j v V hi hv hV => ?_⟩
                have hi : i < n := hi
                have hv : (cutF 0 n N f i)[j]? = some v := hv
                rw [hcut i hi] at hv
                obtain ⟨h1, h2, h3⟩ := q3 i j v V (Nat.lt_of_lt_of_le hi hnN) hv hV
                refine ⟨?_, h2, h3⟩
                have hd := h3 rfl
                have h1 : VA X (some (b, [] ++ [(i, j)])) v V := h1
                show VA (X.shr b n) (some (b, [] ++ [(i, j)])) v V
                cases v <;> first | exact hd.elim | skip
                · cases h1; exact .pv _ _ _ ‹_›
                · cases h1
                  exact .own _ _ _ _ _ _ _ _ (by rw [List.nil_append, shr_in, if_pos hi]; assumption) ‹_› ‹_› ‹_› ‹_›
            | cons t τ =>
              obtain ⟨i, o⟩ := t
              have e1 : (Blk.arr 0 sz n (cutF 0 n N f)).sub ((i, o) :: τ) = if i < n then (Blk.arr s sz N f).sub ((i, o) :: τ) else none := by
                show Nd.sub ⟨true, sz, n, cutF 0 n N f⟩ ((i, o) :: τ) = if i < n then Nd.sub ⟨true, sz, N, f⟩ ((i, o) :: τ) else none
                unfold Nd.sub
                by_cases hi : i < n
                · simp only [hi, hcut i hi, true_and, if_true, Nat.lt_of_lt_of_le hi hnN]
                · simp only [hi, and_false, if_false]
              rw [e1, shr_in]
              by_cases hi : i < n
              · rw [if_pos hi, if_pos hi]
                have h2 := hH.blk b _ hbH ((i, o) :: τ)
                split at h2
                · rename_i x hx
                  obtain ⟨M, h3, h4⟩ := h2
                  refine ⟨M, h3, h4.sz, h4.len, h4.pos, h4.fit, h4.row, fun h0 => ?_⟩
                  obtain ⟨cur, e, q1, q2, q3⟩ := h4.mem h0
                  refine ⟨cur, e, q1, q2, fun i' j' v V hi' hv hV => ?_⟩
                  obtain ⟨h5, h6, h7⟩ := q3 i' j' v V hi' hv hV
                  have hdat : x.dat = true := Nd.sub_dat (by simp) (show Nd.sub ⟨true, sz, N, f⟩ ((i, o) :: τ) = some x from hx)
                  refine ⟨?_, h6, h7⟩
                  have ek : keyOf x b ((i, o) :: τ) i' j' = some (b, (i, o) :: τ ++ [(i', j')]) := by unfold keyOf; rw [hdat]
                  rw [ek] at h5 ⊢
                  have hd := h7 hdat
                  cases v <;> first | exact hd.elim | skip
                  · cases h5; exact .pv _ _ _ ‹_›
                  · cases h5
                    exact .own _ _ _ _ _ _ _ _ (by rw [List.cons_append, shr_in, if_pos hi]; assumption) ‹_› ‹_› ‹_› ‹_›
                · exact h2
              · rw [if_neg hi, if_neg hi]
          · cases hcB
        · rename_i hbc
          have hbc' : c ≠ b := fun e => hbc e.symm
          intro ρ
          rw [shr_ne hbc']
          have h2 := hH.blk c B hcB ρ
          split at h2
          · rename_i x hx
            obtain ⟨M, h3, h4⟩ := h2
            refine ⟨M, h3, h4.sz, h4.len, h4.pos, h4.fit, h4.row, fun h0 => ?_⟩
            obtain ⟨cur, e, q1, q2, q3⟩ := h4.mem h0
            refine ⟨cur, e, q1, q2, fun i' j' v V hi' hv hV => ?_⟩
            obtain ⟨h5, h6, h7⟩ := q3 i' j' v V hi' hv hV
            refine ⟨?_, h6, h7⟩
            cases hdat : x.dat with
            | true =>
              have ek : keyOf x c ρ i' j' = some (c, ρ ++ [(i', j')]) := by unfold keyOf; rw [hdat]
              rw [ek] at h5 ⊢
              exact hcell c _ _ v V hbc' rfl h5 (h7 hdat)
            | false =>
              have ek : keyOf x c ρ i' j' = none := by unfold keyOf; rw [hdat]
              rw [ek] at h5 ⊢
              refine h5.shr none rfl rfl fun y hy => hbw c B hcB y ?_
              have hρ : ρ = [] := by
                cases ρ with
                | nil => rfl
                | cons t ρ =>
                  unfold Blk.sub at hx
                  cases hnd : B.nd with
                  | none => rw [hnd] at hx; cases hx
                  | some z =>
                    rw [hnd] at hx
                    have := Nd.sub_dat (by simp) (show z.sub (t :: ρ) = some x from hx)
                    rw [hdat] at this; cases this
              subst hρ
              cases B with
              | box s cs => cases hx; exact winsL_mem hv y hy
              | lit s sz rows =>
                cases hx
                have hv : (rows.getD i' [])[j']? = some v := hv
                rw [List.getD_eq_getElem?_getD] at hv
                cases hrow : rows[i']? with
                | none => rw [hrow] at hv; cases hv
                | some row =>
                  rw [hrow] at hv
                  exact List.mem_flatMap.2 ⟨row, List.mem_of_getElem? hrow, winsL_mem hv y hy⟩
              | arr s sz N f => cases hx; cases hdat
              | gone => cases hx
          · exact h2
      · obtain ⟨M', h1, _⟩ := shr_some hM
        rw [List.length_set]
        exact hH.lt c ρ M' h1
      · obtain ⟨K, k1, k2, k3, _⟩ := shr_some hM
        obtain ⟨K', k1', k2', k3', _⟩ := shr_some hM'
        exact hH.inj c ρ d τ K K' k1 k1' (by rw [k3]; exact h0) (by rw [k3']; exact h0') (by rw [k2, k2']; exact hg)
      · obtain ⟨K, k1, k2, k3, _⟩ := shr_some hM
        have := hH.free c ρ K k1 (by rw [k3]; exact h0)
        rw [k2] at this
        exact this
      · obtain ⟨c, τ, M, hM, h0, rfl⟩ := hg
        obtain ⟨K, k1, k2, k3, _⟩ := shr_some hM
        exact ⟨c, τ, K, k1, by rw [k3]; exact h0, k2⟩
      · rw [List.getElem?_set] at hcB
        split at hcB
        · split at hcB
          · rw [← Option.some.inj hcB] at ht
            cases ht
          · cases hcB
        · rename_i hbc
          rw [shr_ne fun e => hbc e.symm]
          exact hB c B hcB τ ht M hM
    · exact ⟨X, ⟨rfl, rfl⟩, hH, hF, hFr, hB, fun _ _ _ _ h => h⟩
  · exact ⟨X, ⟨rfl, rfl⟩, hH, hF, hFr, hB, fun _ _ _ _ h => h⟩
theorem shrink_ok (vs : List AV) : ∀ (l : List Nat) (H : List Blk) (X : Ctx), HeapOk X H → Fresh X → Fr X0 X → Base X0 X H → (∀ (j : Nat) (v : AV), vs[j]? = some v → ∃ V, VA X none v V) →
    ∃ X', (X'.w = X.w ∧ X'.R = X.R) ∧ HeapOk X' (shrink l vs H) ∧ Fresh X' ∧ Fr X0 X' ∧ Base X0 X' (shrink l vs H) ∧ ∀ (j : Nat) (v : AV) (V : Value), vs[j]? = some v → VA X none v V → VA X' none v V
  | [], H, X, hH, hF, hFr, hB, hvs => ⟨X, ⟨rfl, rfl⟩, hH, hF, hFr, hB, fun _ _ _ _ h => h⟩
  | b :: l, H, X, hH, hF, hFr, hB, hvs => by
    obtain ⟨X1, w1, h1, h2, h3, h4, h5⟩ := shrink1_ok hH hF hFr hB vs hvs b
    obtain ⟨X2, w2, k1, k2, k3, k4, k5⟩ := shrink_ok vs l _ X1 h1 h2 h3 h4 fun j v hj => (hvs j v hj).imp fun V hV => h5 j v V hj hV
    exact ⟨X2, ⟨w2.1.trans w1.1, w2.2.trans w1.2⟩, k1, k2, k3, k4, fun j v V hj hv => k5 j v V hj (h5 j v V hj hv)⟩
theorem Inv.shrink (h : Inv X0 X st a w) (l : List Nat) : ∃ X', Inv X0 X' { st with heap := shrink l st.tmps st.heap } a w := by
  obtain ⟨X', w', h1, h2, h3, h4, h5⟩ := shrink_ok st.tmps l st.heap X h.heap h.fresh h.fr h.base fun j v hj => by
    have hj' : j < a.tmps.size := by rw [h.tsz]; exact (List.getElem?_eq_some_iff.1 hj).1
    exact ⟨_, h.tmps j v _ hj (Array.getElem?_eq_getElem hj')⟩
  exact ⟨X', w'.1.trans h.hw, h.hd, h.tsz, fun t v V hv hV => h5 t v V hv (h.tmps t v V hv hV), h1, h2, h3, h4, h.glo.stab fun g off hr => ⟨by rw [w'.2]; exact hr, by rw [w'.1]⟩⟩
end
end Go.Bm
