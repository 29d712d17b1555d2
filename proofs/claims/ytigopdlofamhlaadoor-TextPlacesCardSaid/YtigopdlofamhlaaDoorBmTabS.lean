/- A package variable that is a table of strings. -/
import Derived.Test.YtigopdlofamhlaaDoorBmTab
namespace Go.Bm
set_option autoImplicit false
set_option linter.unusedVariables false
/-- A listed table's cells. -/
theorem laid_cellsS {P : Program} {nm : String} {g t e n : Nat} {vals : List ByteArray} (hg : P.globalNamed nm = some g) (ht : (P.globals[g]?).map (·.type) = some t) (hu : P.underlying t = some (.array n e)) (he : P.underlying e = some .string) (c1 : P.cellsOf e = 1) {W : World} (h : laidMetH P [(nm, .agg (vals.map fun v => .lit (.string v.data.toList)))] W) : g < W.heap.size ∧ ∀ (j : Nat) (v : ByteArray), vals[j]? = some v → W.cell? ⟨g, j, none⟩ = some (.string v) := by
  rw [MakeChecks.laidMetH_plain _ _ _ (by simp [DataW.handleName?])] at h
  obtain ⟨ps, ⟨g', t', cs, fuel, p, q, hg', ht', hv, hd, _⟩, _, _⟩ := h
  obtain rfl := Option.some.inj (hg.symm.trans hg')
  obtain rfl := Option.some.inj (ht.symm.trans ht')
  obtain ⟨xs, m, _, hx, _, hn, hel⟩ := DataW.trod_array hu hd
  simp only [Prod.mk.injEq, DataW.agg.injEq] at hx
  constructor
  · have hv2 := hv
    simp only [World.var?, hg, Option.bind_some] at hv2
    split at hv2
    · rename_i e2
      exact (Array.getElem?_eq_some_iff.1 e2).1
    · cases hv2
  · intro j v hj
    have hj2 : (xs.map (·.1))[j]? = some (.lit (.string v.data.toList)) := by
      rw [← hx.1, List.getElem?_map, hj]
      rfl
    rw [List.getElem?_map] at hj2
    cases ex : xs[j]? with
    | none => rw [ex] at hj2; cases hj2
    | some x =>
      rw [ex] at hj2
      have hxj : x.1 = .lit (.string v.data.toList) := Option.some.inj hj2
      have hjn : j < n := by
        rw [← hn]
        exact (List.getElem?_eq_some_iff.1 ex).1
      have hq := hel j hjn
      rw [ex] at hq
      obtain ⟨z, z1, z2, _⟩ := DataW.trod_string he hq
      rw [z2] at hxj
      simp only [DataW.lit.injEq, Lit.string.injEq] at hxj
      have hz : z = v := ByteArray.ext (Array.toList_inj.1 hxj)
      subst hz
      rw [c1, Nat.mul_one] at z1
      have hc : cs.toList[j]? = some (.string z) := by
        have : ((cs.toList.drop j).take 1)[0]? = some (.string z) := by rw [z1]; rfl
        rw [List.getElem?_take, if_pos (by decide), List.getElem?_drop] at this
        simpa using this
      rw [World.var?_cell hg hv j]
      simpa using hc
theorem gloOk_oneS {g0 : Nat} {vals : List ByteArray} (hT : ∀ g cs, globT g = some cs → g = g0 ∧ cs = vals.map PV.str) {W : World} (hs : g0 < W.heap.size) (hc : ∀ (j : Nat) (v : ByteArray), vals[j]? = some v → W.cell? ⟨g0, j, none⟩ = some (.string v)) : GloOk (baseCtx W) := by
  intro g cs h
  obtain ⟨rfl, rfl⟩ := hT g cs h
  have at_ : ∀ j, j < vals.length → vals[j]? = some (vals.getD j ByteArray.empty) := fun j hj => by
    simp [List.getD, hj]
  refine ⟨fun j => .string (vals.getD j ByteArray.empty), fun j hj => ⟨hs, ?_⟩, fun j p hp => ?_⟩
  · rw [List.length_map] at hj
    exact hc j _ (at_ j hj)
  · rw [List.getElem?_map] at hp
    cases e : vals[j]? with
    | none => rw [e] at hp; cases hp
    | some v =>
      rw [e] at hp
      obtain rfl := Option.some.inj hp
      have : vals.getD j ByteArray.empty = v := by simp [List.getD, e]
      show VP _ _ (PV.str v) (Value.string (vals.getD j ByteArray.empty))
      rw [this]
      exact .str v
end Go.Bm
