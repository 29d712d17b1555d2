/- What is come to from behind some nodes, or others, is what is from behind all; the edges of any nodes. -/
import Derived.Test.YtldkmmnffjdliaaGLawAfter
namespace Go.Bm.GoYtldkmmnffjdliaa
set_option autoImplicit false
set_option linter.unusedVariables false
set_option linter.unusedSimpArgs false
set_option maxRecDepth 100000
theorem awake06 : alibilaw06_awake = some true := alibilaw06_awake_le 40 _ (by kernel_rfl)
theorem Aft.append {l : List api_Node} {a b : List Int} {y : Nat} : Aft l (a ++ b) y ↔ Aft l a y ∨ Aft l b y := by
  constructor
  · intro h
    induction h with
    | first h1 h2 =>
      rcases List.mem_append.1 h1 with h1 | h1
      · exact .inl (.first h1 h2)
      · exact .inr (.first h1 h2)
    | more _ h2 ih => exact ih.elim (fun h => .inl (.more h h2)) fun h => .inr (.more h h2)
  · rintro (h | h)
    · induction h with
      | first h1 h2 => exact .first (List.mem_append_left _ h1) h2
      | more _ h2 ih => exact .more ih h2
    · induction h with
      | first h1 h2 => exact .first (List.mem_append_right _ h1) h2
      | more _ h2 ih => exact .more ih h2
theorem both_l8 (l : List api_Node) (hl : l.length ≤ 65536) (x y z : List Bool) (hx : x.length = l.length) (hy : y.length = l.length) (hz : z.length = l.length) (h : ∀ i, Sn z i ↔ Sn x i ∨ Sn y i) : ∀ (m i : Nat), i + m = l.length → alibilaw06_GraphBoth_l8 x y z l (i : Int) = some .x1
  | 0, i, hi => by
    rw [alibilaw06_GraphBoth_l8, if_neg (by simp only [decide_eq_true_eq]; omega)]
  | m + 1, i, hi => by
    have h0 := h i
    unfold Sn at h0
    rw [alibilaw06_GraphBoth_l8, if_pos (decide_eq_true (by omega)), if_pos (decide_eq_true (by omega)), if_pos (decide_eq_true (by omega)), if_pos (decide_eq_true (by omega)), Int.toNat_natCast, inc i (by omega)]
    have ih := both_l8 l hl x y z hx hy hz h m (i + 1) (by omega)
    by_cases e : List.getD x i false = true
    · rw [if_pos e, if_neg (by rw [h0.2 (.inl e)]; decide)]
      exact ih
    · have : List.getD z i false = List.getD y i false := by
        rw [Bool.eq_iff_iff, h0]
        exact ⟨fun h => h.elim (fun h => absurd h e) fun h => h, .inr⟩
      rw [if_neg e, if_pos (decide_eq_true (by omega)), this, if_neg (by simp)]
      exact ih
theorem graphBoth (l : List api_Node) (a b : List Int) : alibilaw06_GraphBoth l a b = some true := by
  unfold alibilaw06_GraphBoth
  rw [bind_some awake06, if_neg (by decide)]
  by_cases h1 : ((l.length : Int)) > 100
  · rw [if_pos (decide_eq_true h1)]; rw [bind_some awake06]
  rw [if_neg (by simp only [decide_eq_true_eq]; omega)]
  by_cases h2 : ((a.length : Int)) > 100
  · rw [if_pos (decide_eq_true h2)]; rw [bind_some awake06]
  rw [if_neg (by simp only [decide_eq_true_eq]; omega)]
  by_cases h3 : ((b.length : Int)) > 100
  · rw [if_pos (decide_eq_true h3)]; rw [bind_some awake06]
  rw [if_neg (by simp only [decide_eq_true_eq]; omega)]
  obtain ⟨x, x1, x2, x3⟩ := after_eq l (by omega) a (by omega)
  obtain ⟨y, y1, y2, y3⟩ := after_eq l (by omega) b (by omega)
  obtain ⟨z, z1, z2, z3⟩ := after_eq l (by omega) ([] ++ a ++ b) (by simp only [List.nil_append, List.length_append]; omega)
  rw [bind_some x1, bind_some y1, if_pos (Nat.ble_eq_true_of_le (by simp only [List.length_nil, reach]; omega)), if_pos (Nat.ble_eq_true_of_le (by simp only [List.nil_append, reach]; omega)), bind_some z1, if_neg (by simp [x2]), if_neg (by simp [y2]), if_neg (by simp [z2])]
  have q := both_l8 l (by omega) x y z x2 y2 z2 (fun i => by rw [z3, x3, y3, List.nil_append, Aft.append]) l.length 0 (Nat.zero_add _)
  rw [show ((0 : Nat) : Int) = 0 from rfl] at q
  rw [bind_some q]
/-! ### edges -/
def edg (l : List api_Node) (i : Nat) : List graph_Edge := (succ (List.getD l i d_api_Node)).map (fun y => graph_Edge.mk (i : Int) y)
def flat (l : List api_Node) : Nat → Nat → List graph_Edge
  | _, 0 => []
  | i, m + 1 => edg l i ++ flat l (i + 1) m
theorem edg_len (l : List api_Node) (i : Nat) : (edg l i).length ≤ 2 := by
  unfold edg
  rw [List.length_map]
  exact succ_len _
theorem flat_len (l : List api_Node) : ∀ (m i : Nat), (flat l i m).length ≤ 2 * m
  | 0, i => Nat.zero_le _
  | m + 1, i => by
    have h1 := flat_len l m (i + 1)
    have h2 := edg_len l i
    rw [flat, List.length_append]
    omega
theorem edges_l6 (js : List Int) (hj : js.length ≤ 65536) (x2 : Int) (x3 : List api_Node) (x4 x5 : Int) : ∀ (m i : Nat) (x0 : List graph_Edge), i + m = js.length → x0.length + m ≤ 1000000 → graph_Edges_l6 x0 js x2 x3 x4 x5 (js.length : Int) (i : Int) = some (x0 ++ (js.drop i).map (fun y => graph_Edge.mk x2 y))
  | 0, i, x0, h, hx => by
    rw [graph_Edges_l6, if_neg (by simp only [decide_eq_true_eq]; omega), List.drop_eq_nil_of_le (by omega)]
    simp
  | m + 1, i, x0, h, hx => by
    have hlt : i < js.length := by omega
    have hd : js.drop i = js[i] :: js.drop (i + 1) := List.drop_eq_getElem_cons hlt
    have hg : List.getD js i 0 = js[i] := by simp [List.getD, hlt]
    rw [graph_Edges_l6, if_pos (decide_eq_true (by omega)), if_pos (decide_eq_true (by omega)), if_pos (decide_eq_true (by omega)), Int.toNat_natCast, hg, hd, inc i (by omega), if_pos (Nat.ble_eq_true_of_le (by simp only [List.length_singleton, reach]; omega)), edges_l6 js hj x2 x3 x4 x5 m (i + 1) _ (by omega) (by rw [List.length_append, List.length_singleton]; omega)]
    rw [List.map_cons, List.append_assoc, List.singleton_append]
theorem edges_l3 (l : List api_Node) (hl : l.length ≤ 65536) : ∀ (m i : Nat) (x0 : List graph_Edge), i + m = l.length → x0.length ≤ 2 * i → graph_Edges_l3 x0 l (l.length : Int) (i : Int) = some (x0 ++ flat l i m)
  | 0, i, x0, h, hx => by
    rw [graph_Edges_l3, if_neg (by simp only [decide_eq_true_eq]; omega)]
    simp [flat]
  | m + 1, i, x0, h, hx => by
    have hle := succ_len (List.getD l i d_api_Node)
    have q := edges_l6 (succ (List.getD l i d_api_Node)) (by omega) (i : Int) l (l.length : Int) (i : Int) _ 0 x0 (Nat.zero_add _) (by omega)
    rw [show ((0 : Nat) : Int) = 0 from rfl, List.drop_zero] at q
    have he := edg_len l i
    rw [graph_Edges_l3, if_pos (decide_eq_true (by omega)), if_pos (decide_eq_true (by omega)), if_pos (decide_eq_true (by omega)), Int.toNat_natCast, inc i (by omega), bind_some (succ_eq _), bind_some q]
    have := edges_l3 l hl m (i + 1) (x0 ++ edg l i) (by omega) (by rw [List.length_append]; omega)
    rw [show x0 ++ (succ (List.getD l i d_api_Node)).map (fun y => graph_Edge.mk (i : Int) y) = x0 ++ edg l i from rfl, this, flat, List.append_assoc]
theorem edges_eq (l : List api_Node) (hl : l.length ≤ 65536) : graph_Edges l = some (flat l 0 l.length) := by
  have q := edges_l3 l hl l.length 0 [] (Nat.zero_add _) (by simp)
  rw [show ((0 : Nat) : Int) = 0 from rfl, List.nil_append] at q
  unfold graph_Edges
  rw [bind_some q]
theorem getD_mid {α : Type} (a b : List α) (x d : α) (n : Nat) (h : n = a.length) : List.getD (a ++ x :: b) n d = x := by
  subst h
  simp [List.getD]
theorem nodes_l10 (full : List graph_Edge) (hfl : full.length ≤ 1000000) (js : List Int) (hj : js.length ≤ 65536) (x2 : List api_Node) (x3 : List Int) (x5 : Int) (rest : List graph_Edge) : ∀ (m k n : Nat) (pre : List graph_Edge), k + m = js.length → full = pre ++ ((js.drop k).map (fun y => graph_Edge.mk x5 y) ++ rest) → n = pre.length → alibilaw06_GraphNodes_l10 full js x2 x3 (n : Int) x5 (k : Int) = some (.x1 ((n + m : Nat) : Int))
  | 0, k, n, pre, h, hf, hn => by
    rw [alibilaw06_GraphNodes_l10, if_neg (by simp only [decide_eq_true_eq]; omega)]
    rfl
  | m + 1, k, n, pre, h, hf, hn => by
    have hlt : k < js.length := by omega
    have hd : js.drop k = js[k] :: js.drop (k + 1) := List.drop_eq_getElem_cons hlt
    have hg : List.getD js k 0 = js[k] := by simp [List.getD, hlt]
    rw [hd, List.map_cons, List.cons_append] at hf
    have hgf : List.getD full n d_graph_Edge = graph_Edge.mk x5 js[k] := by
      rw [hf]
      exact getD_mid _ _ _ _ _ hn
    have hnl : n < full.length := by
      rw [hf, List.length_append, List.length_cons]; omega
    rw [alibilaw06_GraphNodes_l10, if_pos (decide_eq_true (by omega)), if_neg (by simp only [decide_eq_true_eq]; omega), if_pos (decide_eq_true (by omega)), if_pos (decide_eq_true (by omega)), Int.toNat_natCast, hgf, if_neg (by simp), if_pos (decide_eq_true (by omega)), if_pos (decide_eq_true (by omega)), Int.toNat_natCast, hg, if_neg (by simp), inc n (by omega), inc k (by omega)]
    rw [nodes_l10 full hfl js hj x2 x3 x5 rest m (k + 1) (n + 1) (pre ++ [graph_Edge.mk x5 js[k]]) (by omega) (by rw [hf]; simp) (by rw [List.length_append, List.length_singleton, hn])]
    rw [show n + 1 + m = n + (m + 1) by omega]
theorem nodes_l6 (l : List api_Node) (hl : l.length ≤ 65536) (full : List graph_Edge) (hfl : full.length ≤ 1000000) (x2 : List Int) : ∀ (m i n : Nat) (pre : List graph_Edge), i + m = l.length → full = pre ++ flat l i m → n = pre.length → alibilaw06_GraphNodes_l6 full l x2 (n : Int) (i : Int) = some (.x1 (full.length : Int))
  | 0, i, n, pre, h, hf, hn => by
    rw [alibilaw06_GraphNodes_l6, if_neg (by simp only [decide_eq_true_eq]; omega)]
    rw [flat, List.append_nil] at hf
    rw [hf, hn]
  | m + 1, i, n, pre, h, hf, hn => by
    have hle := succ_len (List.getD l i d_api_Node)
    rw [flat] at hf
    have q := nodes_l10 full hfl (succ (List.getD l i d_api_Node)) (by omega) l x2 (i : Int) (flat l (i + 1) m) _ 0 n pre (Nat.zero_add _) (by rw [hf]; rfl) hn
    rw [show ((0 : Nat) : Int) = 0 from rfl] at q
    rw [alibilaw06_GraphNodes_l6, if_pos (decide_eq_true (by omega)), if_pos (decide_eq_true (by omega)), if_pos (decide_eq_true (by omega)), Int.toNat_natCast, inc i (by omega), bind_some (refsucc_eq _), bind_some q]
    exact nodes_l6 l hl full hfl x2 m (i + 1) _ (pre ++ edg l i) (by omega) (by rw [hf, List.append_assoc]) (by rw [List.length_append, hn, edg, List.length_map])
theorem nodes_l19 (a : List Bool) (ha : a.length ≤ 65536) : ∀ (m i : Nat), i + m = a.length → alibilaw06_GraphNodes_l19 a a (i : Int) = some .x1
  | 0, i, h => by
    rw [alibilaw06_GraphNodes_l19, if_neg (by simp only [decide_eq_true_eq]; omega)]
  | m + 1, i, h => by
    rw [alibilaw06_GraphNodes_l19, if_pos (decide_eq_true (by omega)), if_pos (decide_eq_true (by omega)), if_pos (decide_eq_true (by omega)), if_pos (decide_eq_true (by omega)), if_neg (by simp), inc i (by omega)]
    exact nodes_l19 a ha m (i + 1) (by omega)
theorem graphNodes (l : List api_Node) (fr : List Int) : alibilaw06_GraphNodes l fr = some true := by
  unfold alibilaw06_GraphNodes
  rw [bind_some awake06, if_neg (by decide)]
  by_cases h1 : ((l.length : Int)) > 100
  · rw [if_pos (decide_eq_true h1)]; rw [bind_some awake06]
  rw [if_neg (by simp only [decide_eq_true_eq]; omega)]
  by_cases h2 : ((fr.length : Int)) > 100
  · rw [if_pos (decide_eq_true h2)]; rw [bind_some awake06]
  rw [if_neg (by simp only [decide_eq_true_eq]; omega)]
  have hfl := flat_len l l.length 0
  have q := nodes_l6 l (by omega) (flat l 0 l.length) (by omega) fr l.length 0 0 [] (Nat.zero_add _) rfl rfl
  rw [show ((0 : Nat) : Int) = 0 from rfl] at q
  rw [bind_some (edges_eq l (by omega)), bind_some q]
  obtain ⟨x, x1, x2, x3⟩ := after_eq l (by omega) fr (by omega)
  obtain ⟨y, y1, y2, y3⟩ := refafter_eq l (by omega) fr (by omega)
  obtain rfl : x = y := sn_ext (by omega) fun i => by rw [x3, y3]
  have q2 := nodes_l19 x (by omega) x.length 0 (Nat.zero_add _)
  rw [show ((0 : Nat) : Int) = 0 from rfl] at q2
  simp only [bind, Option.bind]
  rw [x1, y1]
  simp only [bne_self_eq_false, Bool.false_eq_true, if_false]
  rw [q2]
end Go.Bm.GoYtldkmmnffjdliaa
