/- A package variable that is a table of numbers: what the row says of it is what the machine needs. -/
import Derived.Test.YtigopdlofamhlaaDoorBmVec
import Derived.MakeChecks
import Derived.LaidLaws
import Derived.FnData
import Derived.OpenShut
import Derived.ChangeArms
namespace Go.Bm
set_option autoImplicit false
set_option linter.unusedVariables false
/-- A listed table's cells. -/
theorem laid_cells {P : Program} {nm : String} {g t e n : Nat} {k : IntKind} {vals : List Int} (hg : P.globalNamed nm = some g) (ht : (P.globals[g]?).map (·.type) = some t) (hu : P.underlying t = some (.array n e)) (he : P.underlying e = some (.int k)) (c1 : P.cellsOf e = 1) {W : World} (h : laidMetH P [(nm, .agg (vals.map fun v => .lit (.int k v)))] W) : g < W.heap.size ∧ ∀ (j : Nat) (v : Int), vals[j]? = some v → W.cell? ⟨g, j, none⟩ = some (.int k v) := by
  rw [MakeChecks.laidMetH_plain _ _ _ (by simp [DataW.handleName?])] at h
  obtain ⟨ps, ⟨g', t', cs, fuel, p, q, hg', ht', hv, hd, _⟩, _, _⟩ := h
  obtain rfl := Option.some.inj (hg.symm.trans hg')
  obtain rfl := Option.some.inj (ht.symm.trans ht')
  obtain ⟨xs, m, _, hx, _, hn, hel⟩ := DataW.trod_array hu hd
  simp only [Prod.mk.injEq, DataW.agg.injEq] at hx
  constructor
  · have hv2 := hv
    simp only [World.var?, hg, Option.bind_some] at hv2
    split at hv2
    · rename_i e2
      exact (Array.getElem?_eq_some_iff.1 e2).1
    · cases hv2
  · intro j v hj
    have hj2 : (xs.map (·.1))[j]? = some (.lit (.int k v)) := by
      rw [← hx.1, List.getElem?_map, hj]
      rfl
    rw [List.getElem?_map] at hj2
    cases ex : xs[j]? with
    | none => rw [ex] at hj2; cases hj2
    | some x =>
      rw [ex] at hj2
      have hxj : x.1 = .lit (.int k v) := Option.some.inj hj2
      have hjn : j < n := by
        rw [← hn]
        exact (List.getElem?_eq_some_iff.1 ex).1
      have hq := hel j hjn
      rw [ex] at hq
      obtain ⟨z, z1, z2, _⟩ := DataW.trod_int he hq
      rw [z2] at hxj
      simp only [DataW.lit.injEq, Lit.int.injEq, true_and] at hxj
      subst hxj
      rw [c1, Nat.mul_one] at z1
      have hc : cs.toList[j]? = some (.int k z) := by
        have : ((cs.toList.drop j).take 1)[0]? = some (.int k z) := by rw [z1]; rfl
        rw [List.getElem?_take, if_pos (by decide), List.getElem?_drop] at this
        simpa using this
      rw [World.var?_cell hg hv j]
      simpa using hc
theorem gloOk_one {g0 : Nat} {k : IntKind} {vals : List Int} (hT : ∀ g cs, globT g = some cs → g = g0 ∧ cs = vals.map (PV.int k)) {W : World} (hs : g0 < W.heap.size) (hc : ∀ (j : Nat) (v : Int), vals[j]? = some v → W.cell? ⟨g0, j, none⟩ = some (.int k v)) : GloOk (baseCtx W) := by
  intro g cs h
  obtain ⟨rfl, rfl⟩ := hT g cs h
  have at_ : ∀ j, j < vals.length → vals[j]? = some (vals.getD j 0) := fun j hj => by
    simp [List.getD, hj]
  refine ⟨fun j => .int k (vals.getD j 0), fun j hj => ⟨hs, ?_⟩, fun j p hp => ?_⟩
  · rw [List.length_map] at hj
    exact hc j _ (at_ j hj)
  · rw [List.getElem?_map] at hp
    cases e : vals[j]? with
    | none => rw [e] at hp; cases hp
    | some v =>
      rw [e] at hp
      obtain rfl := Option.some.inj hp
      have : vals.getD j 0 = v := by simp [List.getD, e]
      show VP _ _ (PV.int k v) (Value.int k (vals.getD j 0))
      rw [this]
      exact .int k v
theorem gloOk_of {W : World} (h : ∀ g cs, globT g = some cs → ∃ (k : IntKind) (vals : List Int), cs = vals.map (PV.int k) ∧ g < W.heap.size ∧ ∀ (j : Nat) (v : Int), vals[j]? = some v → W.cell? ⟨g, j, none⟩ = some (.int k v)) : GloOk (baseCtx W) := by
  intro g cs hg
  obtain ⟨k, vals, rfl, hs, hc⟩ := h g cs hg
  have at_ : ∀ j, j < vals.length → vals[j]? = some (vals.getD j 0) := fun j hj => by
    simp [List.getD, hj]
  refine ⟨fun j => .int k (vals.getD j 0), fun j hj => ⟨hs, ?_⟩, fun j p hp => ?_⟩
  · rw [List.length_map] at hj
    exact hc j _ (at_ j hj)
  · rw [List.getElem?_map] at hp
    cases e : vals[j]? with
    | none => rw [e] at hp; cases hp
    | some v =>
      rw [e] at hp
      obtain rfl := Option.some.inj hp
      have : vals.getD j 0 = v := by simp [List.getD, e]
      show VP _ _ (PV.int k v) (Value.int k (vals.getD j 0))
      rw [this]
      exact .int k v
theorem laid_split {P : Program} {n : String} {d : DataW Unit} {r : List (String × DataW Unit)} {W : World} (h1 : d.handleName?.isNone = true) (h2 : (r.all fun x => x.2.handleName?.isNone) = true) (h : laidMetH P ((n, d) :: r) W) : laidMetH P [(n, d)] W ∧ laidMetH P r W := by
  rw [MakeChecks.laidMetH_plain _ _ _ (by simp only [List.all_cons, h1, h2]; rfl)] at h
  rw [MakeChecks.laidMetH_plain _ _ _ (by simp only [List.all_cons, h1, List.all_nil]; rfl), MakeChecks.laidMetH_plain _ _ _ h2]
  obtain ⟨ps, ⟨g, t, cs, fuel, p, q, a1, a2, a3, a4, a5, rfl⟩, hn, hc⟩ := h
  constructor
  · refine ⟨_, ⟨g, t, cs, fuel, p, [], a1, a2, a3, a4, rfl, rfl⟩, ?_, fun b off hm => hc b off ?_⟩
    · rw [List.append_nil]
      exact (List.nodup_append.1 hn).1
    · rw [List.append_nil] at hm
      exact List.mem_append_left _ hm
  · exact ⟨q, a5, (List.nodup_append.1 hn).2.1, fun b off hm => hc b off (List.mem_append_right _ hm)⟩
end Go.Bm
