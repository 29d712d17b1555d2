/- The abstract machine is sound: what an operation sees, and operations that change places. -/
import Derived.Test.YtigopdlofamhlaaDoorBmEff
namespace Go.Bm
set_option autoImplicit false
set_option linter.unusedVariables false
set_option linter.unusedSimpArgs false

section
variable {P : Program} {X0 X : Ctx} {st st' : St} {a : Act} {w : World} {ok : Ob → Prop}

/-! ### is it wanted? -/
def wantB (ops : List Oper) (o : Oper) (tmps : List AV) : Option Bool := match o.guard with
  | none => some true
  | some (j, want) => match guardT ops j with
    | none => none
    | some g => match tmps.getD g dead with
      | .tup _ => some false
      | .pv (.bool b) => some (b == want)
      | _ => none
theorem bool_at (h : Inv X0 X st a w) {t : Nat} {b : Bool} (hb : st.tmps.getD t dead = .pv (.bool b)) : a.tmps[t]? = some (.bool b) := by
  have hv := h.tmp t
  rw [hb] at hv
  have hv := hv.bool_inv
  cases hx : a.tmps[t]? with
  | none =>
    have : a.tmps.getD t undef = undef := by simp [Array.getD_eq_getD_getElem?, hx]
    rw [this] at hv
    cases hv
  | some V =>
    have : a.tmps.getD t undef = V := by simp [Array.getD_eq_getD_getElem?, hx]
    rw [this] at hv
    rw [hv]
theorem wantB_sound (h : Inv X0 X st a w) {ops : Array Oper} {o : Oper} {b : Bool} (hw : wantB ops.toList o st.tmps = some b) : Region.wanted o (yielded ops a.tmps) = b := by
  unfold wantB at hw
  unfold Region.wanted
  cases ho : o.guard with
  | none => rw [ho] at hw; cases hw; rfl
  | some jw =>
    obtain ⟨j, want⟩ := jw
    rw [ho] at hw
    simp only [] at hw ⊢
    cases hg : guardT ops.toList j with
    | none => rw [hg] at hw; cases hw
    | some g =>
      rw [hg] at hw
      simp only [] at hw
      have hd0 : (ops[j]?).bind (·.dst) = some g := by
        unfold guardT at hg
        rw [Array.getElem?_toList] at hg
        cases hx : ops[j]? with
        | none => rw [hx] at hg; cases hg
        | some p => rw [hx] at hg; exact hg
      split at hw
      · rename_i vs ht
        cases hw
        have hv := h.tmp g
        rw [ht] at hv
        have hy : yielded ops a.tmps j = none := by
          unfold yielded
          rw [hd0]
          simp only [Option.bind_some]
          cases hx : a.tmps[g]? with
          | none => rfl
          | some V =>
            have e1 : a.tmps.getD g undef = V := by simp [Array.getD_eq_getD_getElem?, hx]
            rw [e1] at hv
            cases hv
            rfl
        rw [hy]
        rfl
      · rename_i c hc
        cases hw
        have hy : yielded ops a.tmps j = some c := by
          unfold yielded
          rw [hd0]
          simp only [Option.bind_some, bool_at h hc]
        rw [hy]
        cases c <;> cases want <;> rfl
      · cases hw
theorem branch_ok (hok : OkOb ok) {R : Type} {t : Nat} {k : Bool → St → Ans R} {s : List Say} {l : List Ob} {r : R} (h : branchE st t k s = some (l, r)) (hl : ∀ o ∈ l, ok o) :
    ∃ b s' l', st.tmps.getD t dead = .pv (.bool b) ∧ k b st s' = some (l', r) ∧ ∀ o ∈ l', ok o := by
  unfold branchE at h
  have key : ∀ b, st.tmps.getD t dead = .pv (.bool b) → (match (generalizing := false) s with | .b d :: s => moreOb [.t b d] (k d { st with tmps := st.tmps.set t (.pv (.bool d)) } s) | .keep :: s => (match (generalizing := false) b with | true => k true st s | false => k false st s) | _ => none) = some (l, r) →
      ∃ b s' l', st.tmps.getD t dead = .pv (.bool b) ∧ k b st s' = some (l', r) ∧ ∀ o ∈ l', ok o := by
    intro b hb h2; clear h
    split at h2
    · rename_i d s2
      unfold moreOb at h2
      split at h2
      · rename_i l' r' hk
        cases h2
        have hbd := hok.t _ _ (hl (.t b d) (by simp))
        subst hbd
        have hset : st.tmps.set t (.pv (.bool b)) = st.tmps := by
          apply List.ext_getElem?
          intro i
          rw [List.getElem?_set]
          by_cases e : t = i
          · subst e
            rw [if_pos rfl]
            by_cases hlt : t < st.tmps.length
            · rw [if_pos hlt, List.getElem?_eq_getElem hlt]
              rw [List.getD_eq_getElem?_getD, List.getElem?_eq_getElem hlt] at hb
              exact congrArg some hb.symm
            · rw [if_neg hlt, List.getElem?_eq_none (by omega)]
          · rw [if_neg e]
        rw [hset] at hk
        exact ⟨b, _, l', hb, hk, fun o ho => hl o (List.mem_append_right _ ho)⟩
      · cases h2
    · cases b
      · exact ⟨false, _, l, hb, h2, hl⟩
      · exact ⟨true, _, l, hb, h2, hl⟩
    · cases h2
  cases hv : getT st t with
  | pv p =>
    cases p with
    | bool b => rw [hv] at h; exact key b hv h
    | _ => rw [hv] at h; cases h
  | _ => rw [hv] at h; cases h
theorem want_ok (hok : OkOb ok) {R : Type} {ops : List Oper} {o : Oper} {k : Bool → St → Ans R} {s : List Say} {l : List Ob} {r : R} (h : wantE ops o st k s = some (l, r)) (hl : ∀ o ∈ l, ok o) :
    ∃ b s' l', wantB ops o st.tmps = some b ∧ k b st s' = some (l', r) ∧ ∀ o ∈ l', ok o := by
  unfold wantE at h
  unfold wantB
  cases ho : o.guard with
  | none =>
    rw [ho] at h
    exact ⟨true, s, l, rfl, h, hl⟩
  | some jw =>
    obtain ⟨j, want⟩ := jw
    rw [ho] at h
    simp only [] at h ⊢
    cases hg : guardT ops j with
    | none => rw [hg] at h; cases h
    | some g =>
      rw [hg] at h
      simp only [] at h ⊢
      have other : branchE st g (fun b st => k (sameB b want) st) s = some (l, r) → ∃ b s' l', (match st.tmps.getD g dead with | .tup _ => some false | .pv (.bool b) => some (b == want) | _ => none) = some b ∧ k b st s' = some (l', r) ∧ ∀ o ∈ l', ok o := by
        intro h
        obtain ⟨b, s', l', h1, h2, h3⟩ := branch_ok hok h hl
        rw [h1]
        refine ⟨_, s', l', rfl, ?_, h3⟩
        have e : sameB b want = (b == want) := by cases b <;> cases want <;> rfl
        rw [← e]
        exact h2
      cases ht : getT st g with
      | tup vs =>
        rw [ht] at h
        have ht' : st.tmps.getD g dead = .tup vs := ht
        rw [ht']
        exact ⟨false, s, l, rfl, h, hl⟩
      | _ => rw [ht] at h; exact other h

/-! ### what an operation sees -/
theorem run_congr {α : Type} {H H' : Nat → Blk} : ∀ (e : Ev α) (s : List Say) (l : List Ob) (r : List Nat) (x : α) (s' : List Say), e.run H s = some (l, r, x, s') → (∀ b ∈ r, H' b = H b) → e.run H' s = some (l, r, x, s')
  | .ret y, s, l, r, x, s', h, hr => h
  | .fail, s, l, r, x, s', h, hr => h
  | .rd b k, s, l, r, x, s', h, hr => by
    obtain ⟨r', rfl, h2⟩ := outRd_some h
    show outRd b ((k (H' b)).run H' s) = _
    rw [hr b (by simp), run_congr (k (H b)) s l r' x s' h2 fun c hc => hr c (List.mem_cons_of_mem _ hc)]
    rfl
  | .nd c k, s, l, r, x, s', h, hr => by
    obtain ⟨l', rfl, h2⟩ := outOb_some h
    show outOb (.t c true) (k.run H' s) = _
    rw [run_congr k s l' r x s' h2 hr]
    rfl
  | .sp c k, s, l, r, x, s', h, hr => by
    unfold Ev.run at h ⊢
    split at h
    · obtain ⟨l', rfl, h2⟩ := outOb_some h
      rw [run_congr _ _ l' r x s' h2 hr]
      rfl
    · cases c
      · exact run_congr (k false) _ l r x s' h hr
      · exact run_congr (k true) _ l r x s' h hr
    · cases h
  | .ch c k, s, l, r, x, s', h, hr => by
    unfold Ev.run at h ⊢
    split at h
    · obtain ⟨l', rfl, h2⟩ := outOb_some h
      rw [run_congr _ _ l' r x s' h2 hr]
      rfl
    · exact run_congr (k false) _ l r x s' h hr
    · cases h
  | .cl f a G k, s, l, r, x, s', h, hr => by
    unfold Ev.run at h ⊢
    split at h
    · obtain ⟨l', rfl, h2⟩ := outOb_some h
      rw [run_congr _ _ l' r x s' h2 hr]
      rfl
    · cases h
theorem argsV_congr {ρ ρ' : Operand → AV} : ∀ (xs : List Operand) (ts : List TypeId), (∀ x ∈ xs, ρ x = ρ' x) → argsV P ρ xs ts = argsV P ρ' xs ts
  | [], ts, _ => by cases ts <;> rfl
  | x :: xs, t :: ts, h => by simp only [argsV]; rw [h x (by simp), argsV_congr xs ts fun y hy => h y (by simp [hy])]
  | x :: xs, [], h => by simp only [argsV]; rw [h x (by simp), argsV_congr xs [] fun y hy => h y (by simp [hy])]
theorem buildV_congr {ρ ρ' : Operand → AV} (t : TypeId) (parts : List (Nat × Operand)) (h : ∀ x ∈ parts, ρ x.2 = ρ' x.2) : buildV P ρ t parts = buildV P ρ' t parts := by
  have h1 : ∀ ty : Nat → TypeId, (parts.map fun x => (x.1, retype P (ty x.1) (ρ x.2))) = parts.map fun x => (x.1, retype P (ty x.1) (ρ' x.2)) := fun ty => List.map_congr_left fun x hx => by rw [h x hx]
  have h2 : ∀ ty : TypeId, (parts.map fun x => (x.1, retype P ty (ρ x.2))) = parts.map fun x => (x.1, retype P ty (ρ' x.2)) := fun ty => h1 fun _ => ty
  unfold buildV
  split
  · rfl
  · split
    · rw [h1]
    · split
      · rw [h2]
      · rfl
    · rfl
theorem buildSliceE_congr {ρ ρ' : Operand → AV} (id : Nat) (t : TypeId) (len : Nat) (parts : List (Nat × Operand)) (h : ∀ x ∈ parts, ρ x.2 = ρ' x.2) : buildSliceE P ρ id t len parts = buildSliceE P ρ' id t len parts := by
  have h1 : ∀ ty : TypeId, (parts.map fun x => (x.1, retype P ty (ρ x.2))) = parts.map fun x => (x.1, retype P ty (ρ' x.2)) := fun ty => List.map_congr_left fun x hx => by rw [h x hx]
  unfold buildSliceE
  split
  · rename_i e _
    rw [h1]
  · rfl
theorem freezeE_congr {ρ ρ' : Operand → AV} (id : Nat) (t : TypeId) (len : Nat) (parts : List (Nat × Operand)) (h : ∀ x ∈ parts, ρ x.2 = ρ' x.2) : freezeE P ρ id t len parts = freezeE P ρ' id t len parts := by
  have h1 : ∀ ty : TypeId, (parts.map fun x => retype P ty (ρ x.2)) = parts.map fun x => retype P ty (ρ' x.2) := fun ty => List.map_congr_left fun x hx => by rw [h x hx]
  unfold freezeE
  split
  · rename_i e _
    rw [h1]
  · rfl
theorem opE_congr {id : Nat} {lend : Bool} {o : Oper} {ρ ρ' : Operand → AV} (hρ : ∀ x ∈ o.op.operands.toList, ρ x = ρ' x) : opE P id lend o ρ = opE P id lend o ρ' := by
  obtain ⟨dst, op, type, pos, after, guard⟩ := o
  cases op <;> simp only [opE]
  case move x => rw [hρ x (by simp [Op.operands])]
  case assign x => rw [hρ x (by simp [Op.operands])]
  case pick c x y => rw [hρ c (by simp [Op.operands]), hρ x (by simp [Op.operands]), hρ y (by simp [Op.operands])]
  case box e x => rw [hρ x (by simp [Op.operands])]
  case build t parts => rw [buildV_congr t parts.toList fun x hx => hρ x.2 (by simpa [Op.operands] using ⟨x.1, by simpa using hx⟩)]
  case buildSlice t len parts => rw [buildSliceE_congr id t len parts.toList fun x hx => hρ x.2 (by simpa [Op.operands] using ⟨x.1, by simpa using hx⟩), freezeE_congr id t len parts.toList fun x hx => hρ x.2 (by simpa [Op.operands] using ⟨x.1, by simpa using hx⟩)]
  case load t x => rw [hρ x (by simp [Op.operands])]
  case store t x y => rw [hρ x (by simp [Op.operands]), hρ y (by simp [Op.operands])]
  case nilCheck x => rw [hρ x (by simp [Op.operands])]
  case binOp q t x y p => rw [hρ x (by simp [Op.operands]), hρ y (by simp [Op.operands])]
  case unOp q t x => rw [hρ x (by simp [Op.operands])]
  case convert s d x => rw [hρ x (by simp [Op.operands])]
  case makeInterface t x => rw [hρ x (by simp [Op.operands])]
  case makeFunc fn first caps =>
    have : (first.toList ++ caps.toList).map ρ = (first.toList ++ caps.toList).map ρ' := List.map_congr_left fun x hx => hρ x (by simpa [Op.operands] using hx)
    cases fn <;> simp only [this]
  case makeSlice t l c => rw [hρ l (by simp [Op.operands]), hρ c (by simp [Op.operands])]
  case slice t x lo hi mx =>
    have h1 : lo.map ρ = lo.map ρ' := by cases lo with | none => rfl | some y => simp [hρ y (by simp [Op.operands])]
    have h2 : hi.map ρ = hi.map ρ' := by cases hi with | none => rfl | some y => simp [hρ y (by simp [Op.operands])]
    have h3 : mx.map ρ = mx.map ρ' := by cases mx with | none => rfl | some y => simp [hρ y (by simp [Op.operands])]
    rw [hρ x (by simp [Op.operands]), h1, h2, h3]
  case fieldAddr s x f => rw [hρ x (by simp [Op.operands])]
  case field s x f => rw [hρ x (by simp [Op.operands])]
  case indexAddr t x i => rw [hρ x (by simp [Op.operands]), hρ i (by simp [Op.operands])]
  case index t x i => rw [hρ x (by simp [Op.operands]), hρ i (by simp [Op.operands])]
  case typeAssert x t u ok => rw [hρ x (by simp [Op.operands])]
  case extract x i => rw [hρ x (by simp [Op.operands])]
  case call c =>
    cases hc : c.callee with
    | builtin b =>
      simp only []
      have hargs : ∀ x ∈ c.args.toList, ρ x = ρ' x := fun x hx => hρ x (by simpa [Op.operands, Call.operands, hc] using hx)
      cases b <;> simp only [builtinE]
      case append =>
        split
        · rename_i s x t u ha ht
          rw [hargs s (by rw [ha]; simp), hargs x (by rw [ha]; simp)]
        · rfl
      case copy =>
        split
        · rename_i s x t u ha ht
          rw [hargs s (by rw [ha]; simp), hargs x (by rw [ha]; simp)]
        · rfl
      case len =>
        split
        · rename_i x t ha ht
          rw [hargs x (by rw [ha]; simp)]
        · rfl
      case max =>
        split
        · rename_i x y ha
          rw [hargs x (by rw [ha]; simp), hargs y (by rw [ha]; simp)]
        · rfl
      case min =>
        split
        · rename_i x y ha
          rw [hargs x (by rw [ha]; simp), hargs y (by rw [ha]; simp)]
        · rfl
    | value f =>
      simp only []
      have hargs : ∀ x ∈ c.args.toList, ρ x = ρ' x := fun x hx => hρ x (by simp [Op.operands, Call.operands, hc]; exact .inr (by simpa using hx))
      rw [hρ f (by simp [Op.operands, Call.operands, hc]), argsV_congr _ _ hargs]
    | invoke r name =>
      simp only []
      have hargs : ∀ x ∈ c.args.toList, ρ x = ρ' x := fun x hx => hρ x (by simp [Op.operands, Call.operands, hc]; exact .inr (by simpa using hx))
      rw [hρ r (by simp [Op.operands, Call.operands, hc]), argsV_congr _ _ hargs]
theorem mem_opTmps {o : Oper} {t : Nat} (h : Operand.tmp t ∈ o.op.operands.toList) : t ∈ opTmps o := List.mem_filterMap.2 ⟨.tmp t, h, rfl⟩
theorem hasN_iff {l : List Nat} {d : Nat} : hasN l d = true ↔ d ∈ l := by
  induction l with
  | nil => simp [hasN]
  | cons x xs ih =>
    unfold hasN
    rw [Bool.or_eq_true, ih, List.mem_cons]
    constructor
    · rintro (h | h)
      · exact .inl (Nat.eq_of_beq_eq_true h).symm
      · exact .inr h
    · rintro (rfl | h)
      · exact .inl (Nat.beq_refl _)
      · exact .inr h
theorem apartN_ne {l m : List Nat} (h : apartN l m = true) {t : Nat} (h1 : t ∈ l) (h2 : t ∈ m) : False := by
  have := List.all_eq_true.1 h t h1
  rw [hasN_iff.2 h2] at this
  cases this
theorem wantB_congr {ops : List Oper} {o : Oper} {T T' : List AV} (h : ∀ g ∈ gTmp ops o, T.getD g dead = T'.getD g dead) : wantB ops o T = wantB ops o T' := by
  unfold wantB
  split
  · rfl
  · rename_i j want ho
    unfold gTmp guardT at *
    rw [ho] at h
    simp only [] at h ⊢
    cases hx : ops[j]? with
    | none => rfl
    | some q =>
      rw [hx] at h
      simp only [] at h ⊢
      cases hd : q.dst with
      | none => rfl
      | some g =>
        rw [hd] at h
        simp only [] at h ⊢
        rw [h g (by simp)]

/-! ### what is lost -/
def hits (sc : List (Nat × Bool)) (x : Nat × Bool) : Bool := sc.any fun s => Nat.beq s.1 x.1 && (!s.2 || x.2)
theorem missS_iff {sc l : List (Nat × Bool)} : missS sc l = true ↔ ∀ x ∈ l, hits sc x = false := by
  unfold missS hits
  rw [List.all_eq_true]
  constructor
  · intro h x hx
    rw [List.any_eq_false]
    intro s hs
    have := List.all_eq_true.1 (h s hs) x hx
    revert this
    cases Nat.beq s.1 x.1 <;> cases s.2 <;> cases x.2 <;> simp
  · intro h s hs
    rw [List.all_eq_true]
    intro x hx
    have := List.any_eq_false.1 (h x hx) s hs
    revert this
    cases Nat.beq s.1 x.1 <;> cases s.2 <;> cases x.2 <;> simp
theorem scrR_hits (sc : List (Nat × Bool)) (b : Nat) (d : Bool) : scrR sc b d = bif hits sc (b, d) then none else some b := rfl
theorem refs_one (sc : List (Nat × Bool)) (y x : Nat × Bool) (l : List (Nat × Bool)) (m : List (Nat × Bool)) (h1 : hits sc y = true → l = []) (h2 : hits sc y = false → l = [y]) (hm : m = [y] := by rfl) : x ∈ l ↔ x ∈ m ∧ hits sc x = false := by
  subst hm
  cases hh : hits sc y with
  | true =>
    rw [h1 hh]
    simp only [List.not_mem_nil, List.mem_singleton, false_iff]
    rintro ⟨rfl, h⟩
    rw [hh] at h; cases h
  | false =>
    rw [h2 hh]
    simp only [List.mem_singleton]
    exact ⟨fun h => ⟨h, h ▸ hh⟩, fun h => h.1⟩
mutual
theorem refs_scr (sc : List (Nat × Bool)) : ∀ (v : AV) (x : Nat × Bool), x ∈ (v.map (scrR sc)).refs ↔ x ∈ v.refs ∧ hits sc x = false
  | .ptr b ρ i o, x => by
    simp only [AV.map, scrR_hits]
    refine refs_one sc (b, !ρ.isEmpty) x _ _ (fun h => ?_) (fun h => ?_) <;> rw [h] <;> rfl
  | .aptr b ρ i o m k, x => by
    simp only [AV.map, scrR_hits]
    refine refs_one sc (b, !ρ.isEmpty) x _ _ (fun h => ?_) (fun h => ?_) <;> rw [h] <;> rfl
  | .ms b ρ lo n, x => by
    simp only [AV.map, scrR_hits]
    refine refs_one sc (b, !ρ.isEmpty) x _ _ (fun h => ?_) (fun h => ?_) <;> rw [h] <;> rfl
  | .clo f k caps, x => refsL_scr sc caps x
  | .agg cs, x => refsL_scr sc cs x
  | .tup vs, x => refsL_scr sc vs x
  | .ifc t v, x => refs_scr sc v x
  | .dead, x => by simp [AV.map, AV.refs]
  | .pv p, x => by simp [AV.map, AV.refs]
  | .nil f, x => by simp [AV.map, AV.refs]
  | .own sz n f, x => by simp [AV.map, AV.refs]
  | .pref cs off, x => by simp [AV.map, AV.refs]
theorem refsL_scr (sc : List (Nat × Bool)) : ∀ (l : List AV) (x : Nat × Bool), x ∈ AV.refsL (AV.mapL (scrR sc) l) ↔ x ∈ AV.refsL l ∧ hits sc x = false
  | [], x => by simp [AV.mapL, AV.refsL]
  | v :: vs, x => by
    simp only [AV.mapL, AV.refsL, List.mem_append, refs_scr sc v x, refsL_scr sc vs x]
    constructor
    · rintro (⟨h1, h2⟩ | ⟨h1, h2⟩)
      · exact ⟨.inl h1, h2⟩
      · exact ⟨.inr h1, h2⟩
    · rintro ⟨h1 | h1, h2⟩
      · exact .inl ⟨h1, h2⟩
      · exact .inr ⟨h1, h2⟩
end
mutual
theorem scr_miss {sc : List (Nat × Bool)} : ∀ (v : AV), (∀ x ∈ v.refs, hits sc x = false) → v.map (scrR sc) = v
  | .ptr b ρ i o, h => by simp only [AV.map, scrR_hits, h (b, !ρ.isEmpty) (by simp [AV.refs]), cond_false]
  | .aptr b ρ i o m k, h => by simp only [AV.map, scrR_hits, h (b, !ρ.isEmpty) (by simp [AV.refs]), cond_false]
  | .ms b ρ lo n, h => by simp only [AV.map, scrR_hits, h (b, !ρ.isEmpty) (by simp [AV.refs]), cond_false]
  | .clo f k caps, h => by simp only [AV.map]; rw [scrL_miss caps h]
  | .agg cs, h => by simp only [AV.map]; rw [scrL_miss cs h]
  | .tup vs, h => by simp only [AV.map]; rw [scrL_miss vs h]
  | .ifc t v, h => by simp only [AV.map]; rw [scr_miss v h]
  | .dead, h => rfl
  | .pv p, h => rfl
  | .nil f, h => rfl
  | .own sz n f, h => rfl
  | .pref cs off, h => rfl
theorem scrL_miss {sc : List (Nat × Bool)} : ∀ (l : List AV), (∀ x ∈ AV.refsL l, hits sc x = false) → AV.mapL (scrR sc) l = l
  | [], h => rfl
  | v :: vs, h => by
    simp only [AV.mapL]
    rw [scr_miss v fun x hx => h x (by simp [AV.refsL, hx]), scrL_miss vs fun x hx => h x (by simp [AV.refsL, hx])]
end
theorem blk_refs_scr (sc : List (Nat × Bool)) (B : Blk) (x : Nat × Bool) : x ∈ (B.map (scrR sc)).refs ↔ x ∈ B.refs ∧ hits sc x = false := by
  cases B with
  | box s cs => exact refsL_scr sc cs x
  | lit s sz rows =>
    simp only [Blk.map, Blk.refs, List.mem_flatMap, List.mem_map]
    constructor
    · rintro ⟨l, ⟨l', hl', rfl⟩, hx⟩
      obtain ⟨h1, h2⟩ := (refsL_scr sc l' x).1 hx
      exact ⟨⟨l', hl', h1⟩, h2⟩
    · rintro ⟨⟨l, hl, hx⟩, h2⟩
      exact ⟨_, ⟨l, hl, rfl⟩, (refsL_scr sc l x).2 ⟨hx, h2⟩⟩
  | arr s sz n f => simp [Blk.map, Blk.refs]
  | gone => simp [Blk.map, Blk.refs]
theorem blk_miss {sc : List (Nat × Bool)} (B : Blk) (h : ∀ x ∈ B.refs, hits sc x = false) : B.map (scrR sc) = B := by
  cases B with
  | box s cs => simp only [Blk.map]; rw [scrL_miss cs h]
  | lit s sz rows =>
    simp only [Blk.map]
    congr 1
    refine (List.map_congr_left fun l hl => scrL_miss l fun x hx => h x ?_).trans (List.map_id' rows)
    exact List.mem_flatMap.2 ⟨l, hl, hx⟩
  | arr s sz n f => rfl
  | gone => rfl
theorem scr_comm (s1 s2 : List (Nat × Bool)) (v : AV) : (v.map (scrR s1)).map (scrR s2) = (v.map (scrR s2)).map (scrR s1) := by
  rw [Bm.map_map, Bm.map_map]
  have : scrR (s1 ++ s2) = scrR (s2 ++ s1) := by
    funext b d
    simp only [scrR, List.any_append, Bool.or_comm]
  rw [this]
theorem blk_comm (s1 s2 : List (Nat × Bool)) (B : Blk) : (B.map (scrR s1)).map (scrR s2) = (B.map (scrR s2)).map (scrR s1) := by
  rw [blk_map, blk_map]
  have : scrR (s1 ++ s2) = scrR (s2 ++ s1) := by
    funext b d
    simp only [scrR, List.any_append, Bool.or_comm]
  rw [this]
end
end Go.Bm
