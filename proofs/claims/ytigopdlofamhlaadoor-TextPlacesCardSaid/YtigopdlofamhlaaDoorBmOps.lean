/- The abstract machine is sound, operation by operation: those that leave memory alone. -/
import Derived.Test.YtigopdlofamhlaaDoorBmInv
import Derived.Laws.Entries
import Derived.Laws.Cells
import Derived.Laws.StructEq
import Derived.ChangeKeysEq
import Derived.Tactics
namespace Go.Bm
set_option autoImplicit false
set_option linter.unusedVariables false
set_option linter.unusedSimpArgs false

/-! ### what an evaluation gives -/
def Ev.Gives {α : Type} (ok : Ob → Prop) (H : Nat → Blk) : Ev α → α → Prop
  | .ret y, x => y = x
  | .fail, _ => False
  | .rd b k, x => (k (H b)).Gives ok H x
  | .nd c k, x => c = true ∧ k.Gives ok H x
  | .sp c k, x => (k c).Gives ok H x
  | .ch c k, x => (c = true ∧ (k true).Gives ok H x) ∨ (k false).Gives ok H x
  | .cl f a G k, x => ∃ r G', ok (.c f a G r G') ∧ (k r G').Gives ok H x
/-- What is asked of the answers, whatever is asked of calls and loops. -/
structure OkOb (ok : Ob → Prop) : Prop where
  t : ∀ u v, ok (.t u v) → u = v
  e : ∀ u v, ok (.e u v) → u = v
theorem outOb_some {α : Type} {o : Ob} {x : Out α} {l : List Ob} {r : List Nat} {y : α} {s : List Say} (h : outOb o x = some (l, r, y, s)) : ∃ l', l = o :: l' ∧ x = some (l', r, y, s) := by
  unfold outOb at h
  split at h
  · cases h; exact ⟨_, rfl, rfl⟩
  · cases h
theorem outRd_some {α : Type} {b : Nat} {x : Out α} {l : List Ob} {r : List Nat} {y : α} {s : List Say} (h : outRd b x = some (l, r, y, s)) : ∃ r', r = b :: r' ∧ x = some (l, r', y, s) := by
  unfold outRd at h
  split at h
  · cases h; exact ⟨_, rfl, rfl⟩
  · cases h
theorem run_gives {α : Type} {ok : Ob → Prop} (hok : OkOb ok) {H : Nat → Blk} : ∀ (e : Ev α) (s : List Say) (l : List Ob) (r : List Nat) (x : α) (s' : List Say), e.run H s = some (l, r, x, s') → (∀ o ∈ l, ok o) → e.Gives ok H x
  | .ret y, s, l, r, x, s', h, hl => by cases h; rfl
  | .fail, s, l, r, x, s', h, hl => by cases h
  | .rd b k, s, l, r, x, s', h, hl => by
    obtain ⟨r', rfl, h2⟩ := outRd_some h
    exact run_gives hok (k (H b)) s l r' x s' h2 hl
  | .nd c k, s, l, r, x, s', h, hl => by
    obtain ⟨l', rfl, h2⟩ := outOb_some h
    exact ⟨hok.t _ _ (hl _ (by simp)), run_gives hok k s l' r x s' h2 fun o ho => hl o (List.mem_cons_of_mem _ ho)⟩
  | .sp c k, s, l, r, x, s', h, hl => by
    unfold Ev.run at h
    split at h
    · rename_i d s
      obtain ⟨l', rfl, h2⟩ := outOb_some h
      have hc : c = d := hok.t _ _ (hl _ (by simp))
      subst hc
      exact run_gives hok (k c) s l' r x s' h2 fun o ho => hl o (List.mem_cons_of_mem _ ho)
    · cases c
      · exact run_gives hok (k false) _ l r x s' h hl
      · exact run_gives hok (k true) _ l r x s' h hl
    · cases h
  | .ch c k, s, l, r, x, s', h, hl => by
    unfold Ev.run at h
    split at h
    · obtain ⟨l', rfl, h2⟩ := outOb_some h
      exact .inl ⟨hok.t _ _ (hl _ (by simp)), run_gives hok (k true) _ l' r x s' h2 fun o ho => hl o (List.mem_cons_of_mem _ ho)⟩
    · exact .inr (run_gives hok (k false) _ l r x s' h hl)
    · cases h
  | .cl f a G k, s, l, r, x, s', h, hl => by
    unfold Ev.run at h
    split at h
    · rename_i q G' s
      obtain ⟨l', rfl, h2⟩ := outOb_some h
      exact ⟨q, G', hl _ (by simp), run_gives hok (k q G') s l' r x s' h2 fun o ho => hl o (List.mem_cons_of_mem _ ho)⟩
    · cases h
section
variable {α β : Type} {ok : Ob → Prop} {H : Nat → Blk}
theorem gives_bind : ∀ {e : Ev α} {k : α → Ev β} {x : β}, (e.bind k).Gives ok H x → ∃ y, e.Gives ok H y ∧ (k y).Gives ok H x
  | .ret y, k, x, h => ⟨y, rfl, h⟩
  | .fail, k, x, h => h.elim
  | .rd b j, k, x, h => gives_bind (e := j (H b)) h
  | .nd c j, k, x, h => let ⟨y, h1, h2⟩ := gives_bind (e := j) h.2; ⟨y, ⟨h.1, h1⟩, h2⟩
  | .sp c j, k, x, h => gives_bind (e := j c) h
  | .ch c j, k, x, h => by
    rcases h with ⟨h0, h⟩ | h
    · obtain ⟨y, h1, h2⟩ := gives_bind (e := j true) h
      exact ⟨y, .inl ⟨h0, h1⟩, h2⟩
    · obtain ⟨y, h1, h2⟩ := gives_bind (e := j false) h
      exact ⟨y, .inr h1, h2⟩
  | .cl f a G j, k, x, h => let ⟨r, G', h0, h⟩ := h; let ⟨y, h1, h2⟩ := gives_bind (e := j r G') h; ⟨y, ⟨r, G', h0, h1⟩, h2⟩
theorem gives_chk {c : Bool} {k : Ev α} {x : α} (h : (Ev.chk c k).Gives ok H x) : c = true ∧ k.Gives ok H x := by
  cases c
  · exact h.elim
  · exact ⟨rfl, h⟩
theorem gives_opt {o : Option α} {k : α → Ev β} {x : β} (h : (Ev.opt o k).Gives ok H x) : ∃ y, o = some y ∧ (k y).Gives ok H x := by
  cases o
  · exact h.elim
  · exact ⟨_, rfl, h⟩
theorem gives_node {b : Nat} {ρ : List Stp} {x : Nd} (h : (nodeE b ρ).Gives ok H x) : ∃ y, (H b).nd = some y ∧ y.go ρ = some x := by
  obtain ⟨y, h1, h2⟩ := gives_opt (show (Ev.opt (H b).nd _).Gives ok H x from h)
  obtain ⟨z, h3, h4⟩ := gives_opt h2
  cases (show z = x from h4)
  exact ⟨y, h1, h3⟩
end

theorem wp_val {P : Program} {o : Oper} {a : Act} {w W : World} {V : Value} {K : Act → World → Prop} {Q : Exit → Act → World → Prop} (h : (execOp a.eval o).run P w = .ok (.value V) W) (hK : K (a.put o.dst V) W) : o.wp P a w K Q := by
  unfold Oper.wp; rw [h]; exact hK
theorem wp_unit {P : Program} {o : Oper} {a : Act} {w W : World} {K : Act → World → Prop} {Q : Exit → Act → World → Prop} (h : (execOp a.eval o).run P w = .ok .skip W) (hK : K (a.put o.dst undef) W) : o.wp P a w K Q := by
  unfold Oper.wp; rw [h]; exact hK
theorem bif_some {R : Type} {b : Bool} {k : Option R} {r : R} (h : (bif b then k else none) = some r) : b = true ∧ k = some r := by
  cases b
  · cases h
  · exact ⟨rfl, h⟩

theorem VA.ofConst {X : Ctx} (v : Value) : VA X none (ofConst v) v := by
  unfold Bm.ofConst
  split
  · exact .pv _ _ _ (.bool _)
  · exact .pv _ _ _ (.int _ _)
  · exact .pv _ _ _ (.str _)
  · exact .nil _ _ _
  · exact .pv _ _ _ .nilPtr
  · exact .pv _ _ _ .nilFn
  · exact .pv _ _ _ .nilIf
  · exact .dead _ _

section
variable {P : Program} {X0 X : Ctx} {st : St} {a : Act} {w : World}
theorem VA.int_inv {κ : Option Key} {k : IntKind} {n : Int} {V : Value} (h : VA X κ (.pv (.int k n)) V) : V = .int k n := by
  cases h with | pv _ _ _ h => cases h; rfl
theorem VA.bool_inv {κ : Option Key} {b : Bool} {V : Value} (h : VA X κ (.pv (.bool b)) V) : V = .bool b := by
  cases h with | pv _ _ _ h => cases h; rfl
theorem VA.str_inv {κ : Option Key} {s : ByteArray} {V : Value} (h : VA X κ (.pv (.str s)) V) : V = .string s := by
  cases h with | pv _ _ _ h => cases h; rfl
theorem VA.agg_inv {κ : Option Key} {cs : List AV} {V : Value} (h : VA X κ (.agg cs) V) : ∃ Cs : List Value, V = .agg Cs.toArray ∧ Cs.length = cs.length ∧ ∀ (j : Nat) (v : AV) (V : Value), cs[j]? = some v → Cs[j]? = some V → VA X none v V := by
  cases h with | agg _ _ Cs hl h => exact ⟨Cs, rfl, hl, h⟩
theorem Inv.rho (h : Inv X0 X st a w) (x : Operand) : VA X none (evT st.tmps x) (a.eval x) := by
  cases x with
  | tmp t => exact h.tmp t
  | const v => exact VA.ofConst v
  | global g =>
    show VA X none (match globT g with | some cs => AV.pref cs 0 | none => dead) (.pointer (some ⟨g, 0, none⟩))
    cases hg : globT g with
    | none => exact .dead _ _
    | some cs =>
      obtain ⟨C, h1, h2⟩ := h.glo g cs hg
      exact .pref none cs 0 g 0 C (fun j hj => by rw [Nat.zero_add]; exact h1 j hj) h2
  | func f => exact .pv _ _ _ (.fn f)

/-! ### lists of cells -/
/-- Cells, one by one. -/
def Rows (X : Ctx) (cs : List AV) (Cs : List Value) : Prop := Cs.length = cs.length ∧ ∀ (j : Nat) (v : AV) (V : Value), cs[j]? = some v → Cs[j]? = some V → VA X none v V

theorem Rows.part {cs : List AV} {Cs : List Value} (h : Rows X cs Cs) (off n : Nat) : Rows X (part cs off n) ((Cs.drop off).take n) := by
  refine ⟨by simp [Bm.part, h.1], fun j v V hv hV => ?_⟩
  simp only [Bm.part, List.getElem?_take, List.getElem?_drop] at hv hV
  split at hv
  · rename_i hj
    rw [if_pos hj] at hV
    exact h.2 _ v V hv hV
  · cases hv

/-- The value of a type that some cells make. -/
def asV (P : Program) (t : TypeId) (Cs : List Value) : Value := match isAggT P t with
  | true => .agg Cs.toArray
  | false => Cs.headD undef

theorem isAgg_run {t : TypeId} {d : TypeDesc} (hd : P.underlying t = some d) (w : World) : (isAgg t).run P w = .ok (isAggT P t) w := by
  simp only [isAgg, isAggT, Sem.run_bind, run_underlying hd, Result.andThen_ok, hd]
  cases d <;> simp

theorem sizeOf_run {t : TypeId} {n : Nat} (h : sizeT P t = some n) (w : World) : (sizeOf t).run P w = .ok n w := by
  unfold sizeT at h
  split at h
  · rename_i d i hu hi
    cases h
    simp [sizeOf, typeInfo, hi]
  · cases h
theorem sizeT_under {t : TypeId} {n : Nat} (h : sizeT P t = some n) : ∃ d, P.underlying t = some d := by
  unfold sizeT at h
  split at h
  · exact ⟨_, ‹_›⟩
  · cases h

theorem part_run {t : TypeId} {d : TypeDesc} {n : Nat} (hd : P.underlying t = some d) (hn : sizeT P t = some n) (Cs : List Value) (off : Nat) (hl : off + n ≤ Cs.length) (h1 : isAggT P t = false → n = 1) (w : World) :
    (Go.part t Cs.toArray off).run P w = .ok (asV P t ((Cs.drop off).take n)) w := by
  simp only [Go.part, Sem.run_bind, isAgg_run hd, Result.andThen_ok]
  cases hb : isAggT P t with
  | true =>
    simp [sizeOf_run hn, asV, hb]
  | false =>
    have := h1 hb
    subst this
    have hlt : off < Cs.length := by omega
    have e : (Cs.drop off).take 1 = [Cs[off]] := by
      apply List.ext_getElem?
      intro j
      cases j with
      | zero => simp [List.getElem?_take, List.getElem?_drop, hlt]
      | succ j => simp [List.getElem?_take]
    simp [asV, hb, e, hlt]

theorem eqV_sound (n : Nat) : ∀ (t : TypeId) (xs ys : List AV) (b : Bool), eqV P n t xs ys = some b → ∀ (X : Ctx) (Xs Ys : List Value), Rows X xs Xs → Rows X ys Ys → ∀ (d : Nat), n ≤ d → ∀ w : World,
    (∃ u, P.underlying t = some u) ∧ (isAggT P t = false → xs.length = 1 ∧ ys.length = 1) ∧ (Op.equalIn d t (asV P t Xs) (asV P t Ys)).run P w = .ok b w := by
  induction n with
  | zero => intro t xs ys b h; cases h
  | succ n ih =>
    intro t xs ys b h X Xs Ys hx hy d hd w
    obtain ⟨d, rfl⟩ : ∃ k, d = k + 1 := ⟨d - 1, by omega⟩
    unfold eqV at h
    split at h
    · rename_i hu
      have ha : isAggT P t = false := by simp [isAggT, hu]
      split at h
      · rename_i a b'
        obtain ⟨l1, r1⟩ := hx
        obtain ⟨l2, r2⟩ := hy
        obtain ⟨x, rfl⟩ := List.length_eq_one_iff.1 l1
        obtain ⟨y, rfl⟩ := List.length_eq_one_iff.1 l2
        have e1 := (r1 0 _ _ rfl rfl).bool_inv
        have e2 := (r2 0 _ _ rfl rfl).bool_inv
        subst e1 e2
        cases h
        exact ⟨⟨_, hu⟩, fun _ => ⟨rfl, rfl⟩, by simp only [asV, ha]; exact run_equalIn_bool' w d t a b' hu⟩
      · cases h
    · rename_i hu
      have ha : isAggT P t = false := by simp [isAggT, hu]
      split at h
      · rename_i k a k' b'
        split at h
        · rename_i hk
          subst hk
          obtain ⟨l1, r1⟩ := hx
          obtain ⟨l2, r2⟩ := hy
          obtain ⟨x, rfl⟩ := List.length_eq_one_iff.1 l1
          obtain ⟨y, rfl⟩ := List.length_eq_one_iff.1 l2
          have e1 := (r1 0 _ _ rfl rfl).int_inv
          have e2 := (r2 0 _ _ rfl rfl).int_inv
          subst e1 e2
          cases h
          exact ⟨⟨_, hu⟩, fun _ => ⟨rfl, rfl⟩, by simp only [asV, ha]; exact run_equalIn_int w d t k _ a b' hu⟩
        · cases h
      · cases h
    · rename_i hu
      have ha : isAggT P t = false := by simp [isAggT, hu]
      split at h
      · rename_i a b'
        obtain ⟨l1, r1⟩ := hx
        obtain ⟨l2, r2⟩ := hy
        obtain ⟨x, rfl⟩ := List.length_eq_one_iff.1 l1
        obtain ⟨y, rfl⟩ := List.length_eq_one_iff.1 l2
        have e1 := (r1 0 _ _ rfl rfl).str_inv
        have e2 := (r2 0 _ _ rfl rfl).str_inv
        subst e1 e2
        cases h
        exact ⟨⟨_, hu⟩, fun _ => ⟨rfl, rfl⟩, by simp only [asV, ha]; exact run_equalIn_string w d t a b' hu⟩
      · cases h
    · rename_i fs hu
      have ha : isAggT P t = true := by simp [isAggT, hu]
      cases hst : P.stoodInHeld t with
      | true => rw [hst] at h; cases h
      | false =>
        rw [hst] at h
        simp only [cond_false] at h
        have hf : P.fieldsOf t = fs := by simp [Program.fieldsOf, hu]
        refine ⟨⟨_, hu⟩, (fun hh => by rw [ha] at hh; cases hh), ?_⟩
        simp only [asV, ha]
        rw [run_equalIn_struct (P := P) w d t Xs.toArray Ys.toArray (by rw [hf]; exact hu) hst, hf]
        clear hf hu ha hst
        generalize fs.toList = l at h ⊢
        induction l generalizing b with
        | nil => simp at h; simp [Op.eqFields, h]
        | cons f l ihl =>
          simp only [List.foldr_cons] at h
          split at h
          · cases h
          · rename_i r hr
            cases hn : (f.name == "_") with
            | true => rw [hn] at h; cases h
            | false =>
              rw [hn] at h
              simp only [cond_false] at h
              split at h
              · cases h
              · rename_i m hm
                cases hc : (Nat.ble (f.offset + m) xs.length && Nat.ble (f.offset + m) ys.length) with
                | false => rw [hc] at h; cases h
                | true =>
                  rw [hc] at h
                  simp only [cond_true] at h
                  rw [Bool.and_eq_true] at hc
                  have c1 := Nat.le_of_ble_eq_true hc.1
                  have c2 := Nat.le_of_ble_eq_true hc.2
                  split at h
                  · rename_i b' hb
                    cases h
                    obtain ⟨⟨u, hu⟩, hag, he⟩ := ih f.type _ _ b' hb X _ _ (hx.part f.offset m) (hy.part f.offset m) d (by omega) w
                    have h1 : isAggT P f.type = false → m = 1 := fun hh => by
                      have := (hag hh).1
                      simp [Bm.part] at this
                      omega
                    have p1 := part_run (P := P) hu hm Xs f.offset (by rw [hx.1]; exact c1) h1 w
                    have p2 := part_run (P := P) hu hm Ys f.offset (by rw [hy.1]; exact c2) h1 w
                    have hn' : f.name ≠ "_" := by simpa using hn
                    rw [Op.eqFields]
                    simp only [if_pos hn', Sem.run_bind, p1, p2, he, Result.andThen_ok]
                    cases b'
                    · simp
                    · simpa using ihl r hr
                  · cases h
    · rename_i m e hu
      have ha : isAggT P t = true := by simp [isAggT, hu]
      refine ⟨⟨_, hu⟩, (fun hh => by rw [ha] at hh; cases hh), ?_⟩
      simp only [asV, ha]
      split at h
      · cases h
      · rename_i z hz
        obtain ⟨h1, h'⟩ := bif_some h
        clear h
        rw [Bool.and_eq_true] at h1
        have c1 := Nat.le_of_ble_eq_true h1.1
        have c2 := Nat.le_of_ble_eq_true h1.2
        obtain ⟨i, hi, rfl⟩ : ∃ i, P.info? e = some i ∧ i.size = z := by
          unfold sizeT at hz
          split at hz
          · cases hz; exact ⟨_, ‹_›, rfl⟩
          · cases hz
        have hce : P.cellsOf e = i.size := by simp [Program.cellsOf, hi]
        rw [run_equalIn_array (P := P) w d Xs.toArray Ys.toArray hu hi, hce]
        have hall : ∀ k ∈ List.range m, k < m := fun k hk => List.mem_range.1 hk
        revert hall h'
        generalize List.range m = l
        intro h hall
        induction l generalizing b with
        | nil => simp only [eqRow] at h; cases h; simp [Op.eqItems]
        | cons k l ihl =>
          unfold eqRow at h
          split at h
          · rename_i p q hp hq
            cases h
            have hk := hall k (by simp)
            have hkm : k * i.size + i.size ≤ m * i.size := by
              have := Nat.mul_le_mul_right i.size (show k + 1 ≤ m from hk)
              rw [Nat.add_mul, Nat.one_mul] at this; exact this
            obtain ⟨⟨u, hue⟩, hag, he⟩ := ih e _ _ p hp X _ _ (hx.part (k * i.size) i.size) (hy.part (k * i.size) i.size) d (by omega) w
            have h1 : isAggT P e = false → i.size = 1 := fun hh => by
              have := (hag hh).1
              simp [Bm.part] at this
              omega
            have p1 := part_run (P := P) hue hz Xs (k * i.size) (by rw [hx.1]; omega) h1 w
            have p2 := part_run (P := P) hue hz Ys (k * i.size) (by rw [hy.1]; omega) h1 w
            rw [Op.eqItems]
            simp only [Sem.run_bind, p1, p2, he, Result.andThen_ok]
            cases p
            · simp
            · simpa using ihl q hq fun j hj => hall j (by simp [hj])
          · cases h
    · cases h


theorem eqE_sound {t : TypeId} {x y : AV} {Vx Vy : Value} {b : Bool} (hx : VA X none x Vx) (hy : VA X none y Vy) (h : eqE P t x y = some b) :
    ∀ (op : BinOp) (ox oy : Operand) (w : World), (eqGuard op t ox oy Vx Vy).run P w = .ok () w ∧ (binOp .eql t Vx Vy).run P w = .ok (.bool b) w ∧ (binOp .neq t Vx Vy).run P w = .ok (.bool !b) w := by
  unfold eqE at h
  split at h
  · rename_i xs ys
    cases hg : P.eqGuardType P.depth t with
    | true => rw [hg] at h; cases h
    | false =>
      rw [hg] at h
      simp only [cond_false] at h
      split at h
      · rename_i fs hu
        obtain ⟨Xs, rfl, l1, r1⟩ := hx.agg_inv
        obtain ⟨Ys, rfl, l2, r2⟩ := hy.agg_inv
        have ha : isAggT P t = true := by simp [isAggT, hu]
        intro op ox oy w
        have he := (eqV_sound 8 t xs ys b h X Xs Ys ⟨l1, r1⟩ ⟨l2, r2⟩ 10000 (by decide) w).2.2
        simp only [asV, ha] at he
        refine ⟨?_, ?_, ?_⟩
        · unfold eqGuard
          cases op <;> simp [hg]
        · rw [run_eql_struct, he]; rfl
        · rw [run_neq_struct, he]; rfl
      · rename_i m e hu
        obtain ⟨Xs, rfl, l1, r1⟩ := hx.agg_inv
        obtain ⟨Ys, rfl, l2, r2⟩ := hy.agg_inv
        have ha : isAggT P t = true := by simp [isAggT, hu]
        intro op ox oy w
        have he := (eqV_sound 8 t xs ys b h X Xs Ys ⟨l1, r1⟩ ⟨l2, r2⟩ 10000 (by decide) w).2.2
        simp only [asV, ha] at he
        refine ⟨?_, ?_, ?_⟩
        · unfold eqGuard
          cases op <;> simp [hg]
        · rw [run_eql_struct, he]; rfl
        · rw [run_neq_struct, he]; rfl
      · cases h
  · rename_i a b'
    split at h
    · rename_i hu'
      have e1 := hx.bool_inv
      have e2 := hy.bool_inv
      subst e1 e2
      intro op ox oy w
      have hr : ∀ c : Bool, Rows X [.pv (.bool c)] [.bool c] := fun c => ⟨rfl, fun j v V h1 h2 => by
        cases j with
        | zero => cases h1; cases h2; exact .pv _ _ _ (.bool _)
        | succ j => cases h1⟩
      obtain ⟨⟨u, hu⟩, _, he⟩ := eqV_sound 8 t _ _ b h X _ _ (hr a) (hr b') 10000 (by decide) w
      have ha : isAggT P t = false := by simp [isAggT, hu']
      simp only [asV, ha, List.headD] at he
      refine ⟨?_, ?_, ?_⟩
      · unfold eqGuard
        cases op <;> simp
      · simp [binOp, Op.equal, Op.maxDepth, he]
      · simp [binOp, Op.equal, Op.maxDepth, he]
    · cases h
  · cases h

/-! ### numbers -/
theorem arith_sound {op : BinOp} {k : IntKind} {a b : Int} {p : PV} (h : arith op k a b = some p) (X : Ctx) : ∃ V, VP X.R X.w p V ∧ ∀ (t : TypeId) (w : World), (binOp op t (.int k a) (.int k b)).run P w = .ok V w := by
  cases op <;> first
    | (cases h; done)
    | (cases h; exact ⟨_, .int _ _, fun t w => by simp [binOp, Op.intArith, Op.intBits, Op.intCmp]⟩)
    | (cases h; exact ⟨_, .bool _, fun t w => by simp [binOp, Op.intArith, Op.intBits, Op.intCmp]⟩)

theorem binE_sound {ok : Ob → Prop} {H : Nat → Blk} {op : BinOp} {t : TypeId} {x y : AV} {Vx Vy : Value} {v : AV} (hx : VA X none x Vx) (hy : VA X none y Vy) (h : (binE P op t x y).Gives ok H v) :
    ∃ V, VA X none v V ∧ ∀ (ox oy : Operand) (w : World), (eqGuard op t ox oy Vx Vy).run P w = .ok () w ∧ (binOp op t Vx Vy).run P w = .ok V w := by
  unfold binE at h
  split at h
  · rename_i kx a ky b
    have e1 := hx.int_inv
    have e2 := hy.int_inv
    subst e1 e2
    have hg : ∀ (op : BinOp) (ox oy : Operand) (w : World), (eqGuard op t ox oy (.int kx a) (.int ky b)).run P w = .ok () w := by
      intro op ox oy w
      unfold eqGuard
      cases op <;> simp
    split at h
    · obtain ⟨h1, rfl⟩ := h
      have h1 := of_decide_eq_true h1
      refine ⟨_, .pv _ _ _ (.int _ _), fun ox oy w => ⟨hg _ ox oy w, ?_⟩⟩
      have : ¬ b < 0 := by omega
      simp [binOp, Op.shift, this]
    · obtain ⟨h1, rfl⟩ := h
      have h1 := of_decide_eq_true h1
      refine ⟨_, .pv _ _ _ (.int _ _), fun ox oy w => ⟨hg _ ox oy w, ?_⟩⟩
      have : ¬ b < 0 := by omega
      simp [binOp, Op.shift, this]
    · obtain ⟨h1, h2, rfl⟩ := gives_chk h
      have h5 := of_decide_eq_true h1
      subst h5
      have h2 : ¬ b = 0 := by simpa using h2
      refine ⟨_, .pv _ _ _ (.int _ _), fun ox oy w => ⟨hg _ ox oy w, ?_⟩⟩
      simp [binOp, Op.intDiv, h2]
    · obtain ⟨h1, h2, rfl⟩ := gives_chk h
      have h5 := of_decide_eq_true h1
      subst h5
      have h2 : ¬ b = 0 := by simpa using h2
      refine ⟨_, .pv _ _ _ (.int _ _), fun ox oy w => ⟨hg _ ox oy w, ?_⟩⟩
      simp [binOp, Op.intDiv, h2]
    · rename_i op n1 n2 n3 n4
      obtain ⟨h1, h3⟩ := gives_chk h
      have h5 := of_decide_eq_true h1
      subst h5
      obtain ⟨p, hp, rfl⟩ := gives_opt h3
      obtain ⟨V, hV, hrun⟩ := arith_sound (P := P) hp X
      exact ⟨_, .pv _ _ _ hV, fun ox oy w => ⟨hg _ ox oy w, hrun t w⟩⟩
  · rename_i a b
    have e1 := hx.str_inv
    have e2 := hy.str_inv
    subst e1 e2
    have hg : ∀ (op : BinOp) (ox oy : Operand) (w : World), (eqGuard op t ox oy (.string a) (.string b)).run P w = .ok () w := by
      intro op ox oy w
      unfold eqGuard
      cases op <;> simp
    split at h
    · cases h; exact ⟨_, .pv _ _ _ (.bool _), fun ox oy w => ⟨hg _ ox oy w, by simp [binOp, Op.stringOp]⟩⟩
    · cases h; exact ⟨_, .pv _ _ _ (.bool _), fun ox oy w => ⟨hg _ ox oy w, by simp [binOp, Op.stringOp]⟩⟩
    · obtain ⟨h1, rfl⟩ := h
      have h1 := Nat.le_of_ble_eq_true h1
      refine ⟨_, .pv _ _ _ (.str _), fun ox oy w => ⟨hg _ ox oy w, ?_⟩⟩
      have : ¬ (((a.size + b.size : Nat) : Int) > IntKind.i64.max) := by
        have : IntKind.i64.max = 9223372036854775807 := by decide
        rw [this]; unfold reach at h1; omega
      simp only [binOp, Op.stringOp, if_neg this, Sem.run_pure]
    · cases h
  · split at h
    · obtain ⟨b, h1, rfl⟩ := gives_opt h
      have h2 := eqE_sound hx hy h1
      exact ⟨_, .pv _ _ _ (.bool _), fun ox oy w => ⟨(h2 .eql ox oy w).1, (h2 .eql ox oy w).2.1⟩⟩
    · obtain ⟨b, h1, rfl⟩ := gives_opt h
      have h2 := eqE_sound hx hy h1
      exact ⟨_, .pv _ _ _ (.bool _), fun ox oy w => ⟨(h2 .neq ox oy w).1, (h2 .neq ox oy w).2.2⟩⟩
    · cases h
end
end Go.Bm
