/- The abstract machine is sound: regions, in the text's order or in a drawn one. -/
import Derived.Test.YtldkmmnffjdliaaAmBind
namespace Go.Am
set_option autoImplicit false
set_option linter.unusedVariables false
set_option linter.unusedSimpArgs false

section
variable {X0 X : Ctx} {st : St} {a : Act} {w : World} {E : Env}

theorem bool_at (h : Inv X0 X st a w) {t : Nat} {b : Bool} (hb : (getT st t).borrow = .pv (.bool b)) : a.tmps[t]? = some (.bool b) := by
  have hv := (h.tmp t).borrow none
  have e : getT st t = st.tmps.getD t dead := rfl
  rw [← e, hb] at hv
  have hv := hv.bool_inv
  cases hx : a.tmps[t]? with
  | none =>
    have : a.tmps.getD t undef = undef := by simp [Array.getD_eq_getD_getElem?, hx]
    rw [this] at hv
    cases hv
  | some V =>
    have : a.tmps.getD t undef = V := by simp [Array.getD_eq_getD_getElem?, hx]
    rw [this] at hv
    rw [hv]

theorem wantO_sound (h : Inv X0 X st a w) {ops : Array Oper} {o : Oper} {b : Bool} (hw : wantO ops.toList o st = some b) : Region.wanted o (yielded ops a.tmps) = b := by
  unfold wantO at hw
  unfold Region.wanted
  cases ho : o.guard with
  | none => rw [ho] at hw; cases hw; rfl
  | some jw =>
    obtain ⟨j, want⟩ := jw
    rw [ho] at hw
    simp only [] at hw ⊢
    cases hg : guardT ops.toList j with
    | none => rw [hg] at hw; cases hw
    | some g =>
      rw [hg] at hw
      simp only [] at hw
      have hd0 : (ops[j]?).bind (·.dst) = some g := by
        unfold guardT at hg
        rw [Array.getElem?_toList] at hg
        cases hx : ops[j]? with
        | none => rw [hx] at hg; cases hg
        | some p => rw [hx] at hg; exact hg
      split at hw
      · rename_i vs ht
        cases hw
        have hv := h.tmp g
        have et : getT st g = st.tmps.getD g dead := rfl
        rw [← et, ht] at hv
        have hy : yielded ops a.tmps j = none := by
          unfold yielded
          rw [hd0]
          simp only [Option.bind_some]
          cases hx : a.tmps[g]? with
          | none => rfl
          | some V =>
            have e1 : a.tmps.getD g undef = V := by simp [Array.getD_eq_getD_getElem?, hx]
            rw [e1] at hv
            cases hv
            rfl
        rw [hy]
        rfl
      split at hw
      · rename_i c hc
        cases hw
        have hd : (ops[j]?).bind (·.dst) = some g := by
          unfold guardT at hg
          rw [Array.getElem?_toList] at hg
          cases hx : ops[j]? with
          | none => rw [hx] at hg; cases hg
          | some p => rw [hx] at hg; exact hg
        have hy : yielded ops a.tmps j = some c := by
          unfold yielded
          rw [hd]
          simp only [Option.bind_some, bool_at h hc]
        rw [hy]
        cases c <;> cases want <;> rfl
      · cases hw

theorem stepD_sound (hC : SoundC E.P E.call) (h : Inv X0 X st a w) {quiet : Bool} {ops : Array Oper} {h0 ix : Nat} {o : Oper} {e : Eff} (hs : stepD E quiet ops.toList h0 ix o st = some e)
    {K : Act → World → Prop} {Q : Exit → Act → World → Prop} (hK : ∀ X' a' w', Inv X0 X' (e.on o.dst st) a' w' → K a' w') :
    if Region.wanted o (yielded ops a.tmps) then o.wp E.P a w K Q ∨ (o.asks E.P a w ∧ LetsOut Q) else K (a.put o.dst undef) w := by
  unfold stepD at hs
  split at hs
  · cases hs
  · rename_i hw
    rw [wantO_sound h hw, if_pos rfl]
    obtain ⟨eff, he, hd⟩ := effK_sound hC h hs
    cases he
    exact .inl (hd K Q hK)
  · rename_i hw
    rw [wantO_sound h hw]
    simp only [Bool.false_eq_true, if_false]
    cases hs
    exact hK X _ _ (h.put o.dst fun _ _ => .tup _ [] [] rfl fun j v V hv => by simp at hv)

theorem grow_sound (h : Inv X0 X st a w) (ops : List Oper) : Inv X0 X (grow ops st) a w := by
  refine ⟨h.hw, h.hd, h.tsz, h.tmps, ⟨fun b B hB => ?_, fun b hb => ?_, h.heap.inj, h.heap.free⟩, h.fresh, h.fr⟩
  · have hB' : (st.heap ++ List.replicate (rank ops ops.length) Blk.gone)[b]? = some B := hB
    rcases Nat.lt_or_ge b st.heap.length with hlt | hge
    · rw [List.getElem?_append_left hlt] at hB'
      exact h.heap.blk b B hB'
    · rw [List.getElem?_append_right hge] at hB'
      have : B = .gone := List.eq_of_mem_replicate (List.mem_of_getElem? hB')
      subst this
      exact fun hd => absurd (h.heap.lt b hd) (by omega)
  · have := h.heap.lt b hb
    show b < (st.heap ++ _).length
    rw [List.length_append]
    omega

theorem runD_wp (hC : SoundC E.P E.call) {quiet : Bool} {ops : Array Oper} {h0 : Nat} {st' : St} {Q : Exit → Act → World → Prop} (hQ : ∀ X' a' w', Inv X0 X' st' a' w' → Q .normal a' w') :
    ∀ (l : List Nat) (st : St) (X : Ctx) (a : Act) (w : World), Inv X0 X st a w → runD E quiet ops.toList h0 l st = some st' → wpOps E.P ops Q l a w
  | [], st, X, a, w, h, hr => by
    cases hr
    exact hQ X a w h
  | i :: l, st, X, a, w, h, hr => by
    unfold runD at hr
    rw [Array.getElem?_toList] at hr
    unfold wpOps
    cases ho : ops[i]? with
    | none => rw [ho] at hr; cases hr
    | some o =>
      rw [ho] at hr
      simp only [] at hr ⊢
      cases hs : stepD E quiet ops.toList h0 i o st with
      | none => rw [hs] at hr; cases hr
      | some e =>
        rw [hs] at hr
        exact stepD_sound hC h hs fun X' a' w' h' => runD_wp hC hQ l _ X' a' w' h' hr

/-! ### what an operation sees -/
theorem argsV_congr {P : Program} {ρ ρ' : Operand → AV} : ∀ (xs : List Operand) (ts : List TypeId), (∀ x ∈ xs, ρ x = ρ' x) → argsV P ρ xs ts = argsV P ρ' xs ts
  | [], ts, _ => by cases ts <;> rfl
  | x :: xs, t :: ts, h => by simp only [argsV]; rw [h x (by simp), argsV_congr xs ts fun y hy => h y (by simp [hy])]
  | x :: xs, [], h => by simp only [argsV]; rw [h x (by simp), argsV_congr xs [] fun y hy => h y (by simp [hy])]

theorem buildV_congr {P : Program} {ρ ρ' : Operand → AV} (t : TypeId) (parts : List (Nat × Operand)) (h : ∀ x ∈ parts, ρ x.2 = ρ' x.2) : buildV P ρ t parts = buildV P ρ' t parts := by
  have h1 : ∀ ty : Nat → TypeId, (parts.map fun x => (x.1, retype P (ty x.1) (ρ x.2))) = parts.map fun x => (x.1, retype P (ty x.1) (ρ' x.2)) := fun ty => List.map_congr_left fun x hx => by rw [h x hx]
  have h2 : ∀ ty : TypeId, (parts.map fun x => (x.1, retype P ty (ρ x.2))) = parts.map fun x => (x.1, retype P ty (ρ' x.2)) := fun ty => h1 fun _ => ty
  unfold buildV
  split
  · rfl
  · split
    · rw [h1]
    · split
      · rw [h2]
      · rfl
    · rfl
theorem buildSliceV_congr {P : Program} {ρ ρ' : Operand → AV} (t : TypeId) (len : Nat) (parts : List (Nat × Operand)) (h : ∀ x ∈ parts, ρ x.2 = ρ' x.2) : buildSliceV P ρ t len parts = buildSliceV P ρ' t len parts := by
  have h1 : ∀ ty : TypeId, (parts.map fun x => (x.1, retype P ty (ρ x.2))) = parts.map fun x => (x.1, retype P ty (ρ' x.2)) := fun ty => List.map_congr_left fun x hx => by rw [h x hx]
  unfold buildSliceV
  split
  · rename_i e _
    rw [h1]
  · rfl

theorem callK_free {R : Type} (E : Env) (f : FuncId) (args : List AV) (H H' : List Blk) (k : Eff → Option R) : callK E true f args H k = callK E true f args H' k := by
  unfold callK
  cases hr : AV.refsL args with
  | nil => simp [reached]
  | cons b l =>
    have : ∀ H : List Blk, (reached H 64 (b :: l) []).isEmpty = false := by
      intro H
      have hmono : ∀ (n : Nat) (todo acc : List Nat), acc ≠ [] → reached H n todo acc ≠ [] := by
        intro n
        induction n with
        | zero => intro todo acc h; exact h
        | succ n ih =>
          intro todo acc h
          cases todo with
          | nil => exact h
          | cons x todo =>
            unfold reached
            cases acc.elem x
            · exact ih _ _ (by simp)
            · exact ih _ _ h
      have h1 : reached H 64 (b :: l) [] ≠ [] := by
        unfold reached
        simp only [List.elem, cond_false]
        exact hmono _ _ _ (by simp)
      cases hx : reached H 64 (b :: l) [] with
      | nil => exact absurd hx h1
      | cons => rfl
    simp only [this, Bool.not_true, Bool.false_or, Bool.and_false, Bool.false_and, need]

theorem effK_congr {ops : List Oper} {h0 ix : Nat} {o : Oper} {ρ ρ' τ τ' : Operand → AV} {H H' HH HH' : List Blk} (hρ : ∀ x ∈ o.op.operands.toList, ρ x = ρ' x) (hτ : ∀ x, tkOf x = tkOp o → τ x = τ' x)
    (hH : clsOf ops o = .n ∨ clsOf ops o = .a ∨ H = H') (hG : gone? HH (h0 + rank ops ix) = gone? HH' (h0 + rank ops ix)) : effK E true ops h0 ix o ρ τ H HH some = effK E true ops h0 ix o ρ' τ' H' HH' some := by
  obtain ⟨dst, op, type, pos, after, guard⟩ := o
  have hHr : clsOf ops ⟨dst, op, type, pos, after, guard⟩ ≠ .n → clsOf ops ⟨dst, op, type, pos, after, guard⟩ ≠ .a → H = H' := fun h1 h2 => (hH.resolve_left h1).resolve_left h2
  cases op <;> simp only [effK]
  case move x => rw [hτ x rfl, hρ x (by simp [Op.operands])]
  case assign x => rw [hτ x rfl]
  case pick c x y => rw [hρ c (by simp [Op.operands]), hρ x (by simp [Op.operands]), hρ y (by simp [Op.operands])]
  case alloc e => rw [hG]
  case box e x => rw [hG, hρ x (by simp [Op.operands])]
  case build t parts => rw [buildV_congr t parts.toList fun x hx => hρ x.2 (by simpa [Op.operands] using ⟨x.1, by simpa using hx⟩)]
  case buildSlice t len parts => rw [buildSliceV_congr t len parts.toList fun x hx => hρ x.2 (by simpa [Op.operands] using ⟨x.1, by simpa using hx⟩)]
  case load t x =>
    have : H = H' := hHr (by simp only [clsOf]; cases takesD ops dst <;> simp) (by simp only [clsOf]; cases takesD ops dst <;> simp)
    rw [this, hρ x (by simp [Op.operands])]
  case store t x y =>
    rw [hHr (by simp [clsOf]) (by simp [clsOf]), hρ x (by simp [Op.operands]), hτ y rfl]
  case nilCheck x => rw [hρ x (by simp [Op.operands])]
  case binOp q t x y p => rw [hρ x (by simp [Op.operands]), hρ y (by simp [Op.operands])]
  case unOp q t x => rw [hρ x (by simp [Op.operands])]
  case convert s d x => rw [hρ x (by simp [Op.operands])]
  case makeInterface t x => rw [hρ x (by simp [Op.operands])]
  case makeFunc f first caps =>
    have : caps.toList.map ρ = caps.toList.map ρ' := List.map_congr_left fun x hx => hρ x (by simp [Op.operands]; exact .inr (by simpa using hx))
    cases f <;> simp only [this]
  case makeSlice t l c => rw [hρ l (by simp [Op.operands]), hρ c (by simp [Op.operands]), hG]
  case slice t x lo hi mx =>
    have h1 : lo.map ρ = lo.map ρ' := by cases lo with | none => rfl | some y => simp [hρ y (by simp [Op.operands])]
    have h2 : hi.map ρ = hi.map ρ' := by cases hi with | none => rfl | some y => simp [hρ y (by simp [Op.operands])]
    have h3 : mx.map ρ = mx.map ρ' := by cases mx with | none => rfl | some y => simp [hρ y (by simp [Op.operands])]
    rw [hHr (by simp [clsOf]) (by simp [clsOf]), hρ x (by simp [Op.operands]), h1, h2, h3]
  case fieldAddr s x f => rw [hρ x (by simp [Op.operands])]
  case field s x f => rw [hρ x (by simp [Op.operands])]
  case indexAddr t x i => rw [hHr (by simp [clsOf]) (by simp [clsOf]), hρ x (by simp [Op.operands]), hρ i (by simp [Op.operands])]
  case index t x i => rw [hρ x (by simp [Op.operands]), hρ i (by simp [Op.operands])]
  case typeAssert x t u ok => rw [hρ x (by simp [Op.operands])]
  case extract x i => rw [hρ x (by simp [Op.operands])]
  case call c =>
    cases hc : c.callee with
    | builtin b =>
      simp only []
      have hargs : ∀ x ∈ c.args.toList, ρ x = ρ' x := fun x hx => hρ x (by simpa [Op.operands, Call.operands, hc] using hx)
      cases b <;> simp only [builtinK]
      case append =>
        have : H = H' := hHr (by simp [clsOf, hc]) (by simp [clsOf, hc])
        rw [this]
        split
        · rename_i s x t u ha ht
          rw [hτ s (by simp [tkOp, hc, ha]), hargs x (by rw [ha]; simp)]
        · rfl
      case len =>
        split
        · rename_i x t ha ht
          rw [hargs x (by rw [ha]; simp)]
        · rfl
      case max =>
        split
        · rename_i x y ha
          rw [hargs x (by rw [ha]; simp), hargs y (by rw [ha]; simp)]
        · rfl
      case min =>
        split
        · rename_i x y ha
          rw [hargs x (by rw [ha]; simp), hargs y (by rw [ha]; simp)]
        · rfl
    | value f =>
      simp only []
      have hargs : ∀ x ∈ c.args.toList, ρ x = ρ' x := fun x hx => hρ x (by simp [Op.operands, Call.operands, hc]; exact .inr (by simpa using hx))
      rw [hρ f (by simp [Op.operands, Call.operands, hc]), argsV_congr _ _ hargs]
      split
      · exact callK_free _ _ _ _ _ _
      · exact callK_free _ _ _ _ _ _
      · rfl
    | invoke r name =>
      simp only []
      have : H = H' := hHr (by simp [clsOf, hc]) (by simp [clsOf, hc])
      have hargs : ∀ x ∈ c.args.toList, ρ x = ρ' x := fun x hx => hρ x (by simp [Op.operands, Call.operands, hc]; exact .inr (by simpa using hx))
      rw [this, hρ r (by simp [Op.operands, Call.operands, hc]), argsV_congr _ _ hargs]

theorem mem_opTmps {o : Oper} {t : Nat} (h : Operand.tmp t ∈ o.op.operands.toList) : t ∈ opTmps o := List.mem_filterMap.2 ⟨.tmp t, h, rfl⟩

theorem hasN_mem {l : List Nat} {d : Nat} (h : hasN l d = false) : d ∉ l := by
  induction l with
  | nil => simp
  | cons x xs ih =>
    unfold hasN at h
    simp only [Bool.or_eq_false_iff] at h
    intro hm
    rcases List.mem_cons.1 hm with rfl | hm
    · simp [Nat.beq_refl] at h
    · exact ih h.2 hm

theorem wantO_congr {ops : List Oper} {o : Oper} {st st' : St} (h : ∀ g ∈ gTmp ops o, (getT st g).borrow = (getT st' g).borrow) : wantO ops o st = wantO ops o st' := by
  unfold wantO
  split
  · rfl
  · rename_i j want ho
    unfold gTmp guardT at *
    rw [ho] at h
    simp only [] at h ⊢
    cases hx : ops[j]? with
    | none => rfl
    | some q =>
      rw [hx] at h
      simp only [] at h ⊢
      cases hd : q.dst with
      | none => rfl
      | some g =>
        rw [hd] at h
        simp only [] at h ⊢
        have hb := h g (by simp)
        rw [hb]
        generalize getT st g = u at hb ⊢
        generalize getT st' g = u' at hb ⊢
        cases u <;> cases u' <;> first | rfl | (cases hb; done) | (cases hb; rfl)

/-- What an operation sees is alike in two states. -/
structure Same (ops : List Oper) (h0 ix : Nat) (o : Oper) (st st' : St) : Prop where
  rho : ∀ t ∈ looksL ops o, (getT st t).borrow = (getT st' t).borrow
  tau : ∀ t, tkOp o = some t → getT st t = getT st' t
  heap : clsOf ops o = .n ∨ clsOf ops o = .a ∨ st.heap.take (h0 + rank ops ix) = st'.heap.take (h0 + rank ops ix)
  gone : clsOf ops o = .a → gone? st.heap (h0 + rank ops ix) = gone? st'.heap (h0 + rank ops ix)

theorem effK_gone {ops : List Oper} {h0 ix : Nat} {o : Oper} {ρ τ : Operand → AV} {H HH HH' : List Blk} (h : clsOf ops o ≠ .a) : effK E true ops h0 ix o ρ τ H HH some = effK E true ops h0 ix o ρ τ H HH' some := by
  obtain ⟨dst, op, type, pos, after, guard⟩ := o
  cases op <;> first
    | rfl
    | exact absurd rfl h
    | (rename_i f _ _; cases f <;> rfl)

theorem stepD_congr {ops : List Oper} {h0 ix : Nat} {o : Oper} {st st' : St} (h : Same ops h0 ix o st st') : stepD E true ops h0 ix o st = stepD E true ops h0 ix o st' := by
  unfold stepD
  rw [wantO_congr fun g hg => h.rho g (List.mem_append_right _ hg)]
  split
  · rfl
  · have hρ : ∀ x ∈ o.op.operands.toList, rhoOf st x = rhoOf st' x := fun x hx => by
      cases x with
      | tmp t => exact h.rho t (List.mem_append_left _ (mem_opTmps hx))
      | const v => rfl
      | global g => rfl
      | func f => rfl
    have hτ : ∀ x, tkOf x = tkOp o → evT st.tmps x = evT st'.tmps x := fun x hx => by
      cases x with
      | tmp t => exact h.tau t hx.symm
      | const v => rfl
      | global g => rfl
      | func f => rfl
    by_cases ha : clsOf ops o = .a
    · exact effK_congr hρ hτ h.heap (h.gone ha)
    · rw [effK_gone (HH' := st'.heap) ha]
      exact effK_congr hρ hτ h.heap rfl
  · rfl

/-! ### what an operation does -/
def ShapeH (ops : List Oper) (h0 ix len : Nat) (o : Oper) (hb : List (Nat × Blk)) : Prop := match clsOf ops o with
  | .n => hb = []
  | .r => hb = []
  | .a => hb = [] ∨ ∃ B, hb = [(h0 + rank ops ix, B)]
  | .t => hb = [] ∨ ∃ b B, hb = [(b, B)] ∧ b < h0 + rank ops ix
  | .s => hb = [] ∨ ∃ b B, hb = [(b, B)] ∧ b < h0 + rank ops ix ∧ (h0 ≤ b ∨ noRS ops = true)

theorem getB_lt {H : List Blk} {n b : Nat} (h : getB (H.take n) b ≠ .gone) : b < n := by
  rcases Nat.lt_or_ge b n with hlt | hge
  · exact hlt
  · refine absurd ?_ h
    have : (H.take n)[b]? = none := List.getElem?_eq_none (by rw [List.length_take]; omega)
    simp [getB, List.getD, this]

theorem storeV_lt {P : Program} {H : List Blk} {n : Nat} {t : TypeId} {x v : AV} {b : Nat} {B : Blk} (h : storeV P (H.take n) t x v = some (b, B)) : b < n := by
  unfold storeV at h
  split at h
  · cases h
  · obtain ⟨_, h⟩ := bif_some h
    split at h
    · split at h
      · rename_i hB
        obtain ⟨_, h⟩ := bif_some h
        cases h
        exact getB_lt (H := H) (by rw [hB]; simp)
      · cases h
    · split at h
      · rename_i hB
        obtain ⟨_, h⟩ := bif_some h
        cases h
        exact getB_lt (H := H) (by rw [hB]; simp)
      · cases h
    · cases h

theorem loadTake_lt {P : Program} {H : List Blk} {n : Nat} {t : TypeId} {x v : AV} {b : Nat} {B : Blk} (h : loadTake P (H.take n) t x = some (v, b, B)) : b < n := by
  unfold loadTake at h
  split at h
  · cases hg : isAggT P t with
    | true => rw [hg] at h; cases h
    | false =>
      rw [hg] at h
      simp only [cond_false] at h
      split at h
      · split at h
        · rename_i hB
          split at h
          · cases h
            exact getB_lt (H := H) (by rw [hB]; simp)
          · cases h
        · cases h
      · split at h
        · rename_i hB
          split at h
          · cases h
            exact getB_lt (H := H) (by rw [hB]; simp)
          · cases h
        · cases h
      · cases h
  · cases h

theorem binK_some {P : Program} {op : BinOp} {t : TypeId} {x y : AV} {A : Type} {f : AV → A} {e : A} (h : (binK P op t x y fun v => some (f v)) = some e) : ∃ v, e = f v := by
  have h2 : (binK P op t x y some).bind (fun v => some (f v)) = some e := by rw [binK_bind]; exact h
  cases hx : binK P op t x y some with
  | none => rw [hx] at h2; cases h2
  | some v => rw [hx] at h2; cases h2; exact ⟨v, rfl⟩
theorem idxK_some {P : Program} {H : List Blk} {t : TypeId} {x y : AV} {A : Type} {f : AV → A} {e : A} (h : (idxK P H t x y fun v => some (f v)) = some e) : ∃ v, e = f v := by
  have h2 : (idxK P H t x y some).bind (fun v => some (f v)) = some e := by rw [idxK_bind]; exact h
  cases hx : idxK P H t x y some with
  | none => rw [hx] at h2; cases h2
  | some v => rw [hx] at h2; cases h2; exact ⟨v, rfl⟩
theorem sliceK_some {P : Program} {H : List Blk} {t : TypeId} {x : AV} {lo hi mx : Option AV} {A : Type} {f : AV → A} {e : A} (h : (sliceK P H t x lo hi mx fun v => some (f v)) = some e) : ∃ v, e = f v := by
  have h2 : (sliceK P H t x lo hi mx some).bind (fun v => some (f v)) = some e := by rw [sliceK_bind]; exact h
  cases hx : sliceK P H t x lo hi mx some with
  | none => rw [hx] at h2; cases h2
  | some v => rw [hx] at h2; cases h2; exact ⟨v, rfl⟩

theorem callK_shape {f : FuncId} {args : List AV} {H : List Blk} {e : Eff} (h : callK E true f args H some = some e) : e.tk = none ∧ e.hb = [] := by
  unfold callK at h
  obtain ⟨hc, h⟩ := need_some h
  simp only [Bool.and_eq_true, Bool.not_true, Bool.false_or] at hc
  have hnil : reached H 64 (AV.refsL args) [] = [] := by simpa using hc.1.2
  rw [hnil] at h
  split at h
  · obtain ⟨_, h⟩ := need_some h
    cases h
    exact ⟨rfl, by simp [zipB]⟩
  · cases h

theorem builtin_shape {P : Program} {ρ τ : Operand → AV} {H : List Blk} {b : Builtin} {args : List Operand} {ts : List TypeId} {e : Eff} (h : builtinK P ρ τ H b args ts some = some e) :
    e.hb = [] ∧ (e.tk = none ∨ (b = .append ∧ ∃ s x, args = [s, x] ∧ e.tk = tkOf s)) := by
  unfold builtinK at h
  split at h
  · split at h
    · split at h
      · cases h; exact ⟨rfl, .inl rfl⟩
      · cases h
    · cases h
  · split at h
    · rename_i s x t u
      obtain ⟨_, h⟩ := need_some h
      unfold appendK at h
      split at h
      · split at h
        · obtain ⟨_, h⟩ := need_some h
          split at h
          · cases h
          · split at h
            · obtain ⟨_, h⟩ := need_some h
              obtain ⟨_, h⟩ := need_some h
              cases h; exact ⟨rfl, .inr ⟨rfl, s, x, rfl, rfl⟩⟩
            · obtain ⟨_, h⟩ := need_some h
              obtain ⟨_, h⟩ := need_some h
              cases h; exact ⟨rfl, .inr ⟨rfl, s, x, rfl, rfl⟩⟩
            · cases h
        · cases h
      · cases h
    · cases h
  · split at h
    · split at h
      · cases h; exact ⟨rfl, .inl rfl⟩
      · cases h
    · cases h
  · split at h
    · split at h
      · cases h; exact ⟨rfl, .inl rfl⟩
      · cases h
    · cases h
  · cases h

theorem eff_shape {ops : List Oper} {h0 ix : Nat} {o : Oper} {ρ τ : Operand → AV} {H HH : List Blk} {e : Eff} (h : effK E true ops h0 ix o ρ τ (H.take (h0 + rank ops ix)) HH some = some e) :
    (e.tk = none ∨ e.tk = tkOp o) ∧ ShapeH ops h0 ix HH.length o e.hb := by
  obtain ⟨dst, op, type, pos, after, guard⟩ := o
  cases op <;> simp only [effK] at h
  case move x =>
    simp only [ShapeH, clsOf, tkOp]
    cases hb : takesD ops dst <;> rw [hb] at h <;> cases h <;> simp
  case assign x => simp only [ShapeH, clsOf, tkOp]; cases h; simp
  case pick c x y =>
    simp only [ShapeH, clsOf, tkOp]
    split at h
    · have h := splitB_some h; cases h; simp
    · cases h
  case alloc t =>
    simp only [ShapeH, clsOf, tkOp]
    split at h
    · obtain ⟨_, h⟩ := need_some h; cases h; simp
    · cases h
  case box t x =>
    simp only [ShapeH, clsOf, tkOp]
    obtain ⟨_, h⟩ := need_some h; cases h; simp
  case build t parts =>
    simp only [ShapeH, clsOf, tkOp]
    split at h
    · cases h; simp
    · cases h
  case buildSlice t len parts =>
    simp only [ShapeH, clsOf, tkOp]
    split at h
    · cases h; simp
    · cases h
  case load t x =>
    simp only [ShapeH, clsOf, tkOp]
    cases hb : takesD ops dst
    · rw [hb] at h
      simp only [cond_false] at h ⊢
      split at h
      · cases h; simp
      · cases h
    · rw [hb] at h
      simp only [cond_true] at h ⊢
      split at h
      · rename_i v b B hv
        have := loadTake_lt hv
        cases h
        exact ⟨.inl rfl, .inr ⟨b, B, rfl, this⟩⟩
      · cases h
  case store t x y =>
    simp only [ShapeH, clsOf, tkOp]
    split at h
    · rename_i b B hv
      have hlt := storeV_lt hv
      obtain ⟨hc, h⟩ := need_some h
      cases h
      simp only [Bool.not_true, Bool.false_or, Bool.or_eq_true] at hc
      exact ⟨.inr rfl, .inr ⟨b, B, rfl, hlt, hc.imp (fun h => Nat.le_of_ble_eq_true h) id⟩⟩
    · cases h
  case nilCheck x =>
    simp only [ShapeH, clsOf, tkOp]
    split at h <;> cases h <;> simp
  case binOp q t x y p =>
    simp only [ShapeH, clsOf, tkOp]
    obtain ⟨v, rfl⟩ := binK_some h
    simp
  case unOp q t x =>
    simp only [ShapeH, clsOf, tkOp]
    split at h <;> cases h; simp
  case convert s d x =>
    simp only [ShapeH, clsOf, tkOp]
    split at h <;> cases h; simp
  case makeInterface t x =>
    simp only [ShapeH, clsOf, tkOp]
    split at h <;> cases h; simp
  case makeFunc f first caps =>
    cases f <;> simp only [] at h <;> first
      | (cases h; done)
      | skip
    simp only [ShapeH, clsOf, tkOp]
    split at h <;> cases h; simp
  case makeSlice t l c =>
    simp only [ShapeH, clsOf, tkOp]
    split at h
    · split at h
      · obtain ⟨_, h⟩ := need_some h
        obtain ⟨_, h⟩ := need_some h
        obtain ⟨_, h⟩ := need_some h
        obtain ⟨_, h⟩ := need_some h
        obtain ⟨_, h⟩ := need_some h
        cases h; simp
      · cases h
    · cases h
  case slice t x lo hi mx =>
    simp only [ShapeH, clsOf, tkOp]
    obtain ⟨v, rfl⟩ := sliceK_some h
    simp
  case fieldAddr s x f =>
    simp only [ShapeH, clsOf, tkOp]
    split at h <;> cases h; simp
  case field s x f =>
    simp only [ShapeH, clsOf, tkOp]
    split at h <;> cases h; simp
  case indexAddr t x i =>
    simp only [ShapeH, clsOf, tkOp]
    obtain ⟨v, rfl⟩ := idxK_some h
    simp
  case index t x i =>
    simp only [ShapeH, clsOf, tkOp]
    split at h
    · obtain ⟨_, h⟩ := need_some h
      obtain ⟨_, h⟩ := need_some h
      cases h; simp
    · cases h
  case typeAssert x t u ok =>
    simp only [ShapeH, clsOf, tkOp]
    split at h
    · cases h
    · obtain ⟨_, h⟩ := need_some h
      cases h; simp
    · cases h
  case extract x i =>
    simp only [ShapeH, clsOf, tkOp]
    split at h
    · split at h <;> cases h; simp
    · cases h
  case call c =>
    cases hc : c.callee with
    | builtin b =>
      rw [hc] at h
      simp only [] at h
      obtain ⟨h1, h2⟩ := builtin_shape h
      refine ⟨?_, ?_⟩
      · rcases h2 with h2 | ⟨rfl, s, x, ha, h2⟩
        · exact .inl h2
        · refine .inr ?_
          rw [h2]
          simp [tkOp, hc, ha]
      · cases b <;> simpa [ShapeH, clsOf, hc] using h1
    | value f =>
      rw [hc] at h
      simp only [] at h
      have : e.tk = none ∧ e.hb = [] := by
        split at h
        · exact callK_shape h
        · exact callK_shape h
        · cases h
      exact ⟨.inl this.1, by simpa [ShapeH, clsOf, hc] using this.2⟩
    | invoke r name =>
      rw [hc] at h
      simp only [] at h
      have : e.tk = none ∧ e.hb = [] := by
        split at h
        · split at h
          · split at h
            · exact callK_shape h
            · cases h
          · cases h
        · cases h
      exact ⟨.inl this.1, by simpa [ShapeH, clsOf, hc] using this.2⟩
  all_goals cases h

theorem stepD_shape {ops : List Oper} {h0 ix : Nat} {o : Oper} {st : St} {e : Eff} (h : stepD E true ops h0 ix o st = some e) : (e.tk = none ∨ e.tk = tkOp o) ∧ ShapeH ops h0 ix st.heap.length o e.hb := by
  unfold stepD at h
  split at h
  · cases h
  · exact eff_shape h
  · cases h
    refine ⟨.inl rfl, ?_⟩
    unfold ShapeH
    cases clsOf ops o <;> simp
end
end Go.Am
