/- Printed by gen2.py. -/
import Derived.Test.YtdifolgbppffpaaTFa
namespace Go.Bm.GoYtdifolgbppffpaa
open Go.Proofs
set_option autoImplicit false
set_option linter.unusedVariables false
set_option linter.unusedSimpArgs false
set_option maxRecDepth 100000
set_option synthInstance.maxHeartbeats 400000
set_option synthInstance.maxSize 2048
/-- alibi/flow.at -/
def flow_at (v : List (BitVec 32)) (i : Int) : Option ((BitVec 32)) :=
  if (decide ((i : Int) < 0)) = true then
    some (0#32)
  else
    if (decide ((i : Int) ≥ (((List.length v : Nat) : Int)))) = true then
      some (0#32)
    else
      if (decide ((0 : Int) ≤ i)) = true then
        if (decide ((i : Int) < ((List.length v : Nat) : Int))) = true then
          some (List.getD v (Int.toNat i) (0#32))
        else none
      else none
theorem flow_at_ok (v : List (BitVec 32)) (i : Int) (r : (BitVec 32)) (h : flow_at v i = some r) : Does Try.prog 46 [.pv (.seq (List.length v) (encP e_u32 0#32 v)), .pv (.int .i64 i)] [] (.pv (.int .u32 (BitVec.toNat r : Nat)), []) := by
 unfold flow_at at h
 rcases if_of h with ⟨c1, h⟩ | ⟨c1, h⟩
 · have h := Option.some.inj h; subst h
   exact pdoes mixed (L := lives) (by kernel_rfl) (pk <| pb c1 <| pk5 <| pz)
 · rcases if_of h with ⟨c2, h⟩ | ⟨c2, h⟩
   · have h := Option.some.inj h; subst h
     exact pdoes mixed (L := lives) (by kernel_rfl) (pk <| pb c1 <| pk6 <| pb c2 <| pz)
   · obtain ⟨c3, h⟩ := need_of h
     obtain ⟨c4, h⟩ := need_of h
     have h := Option.some.inj h; subst h
     exact pdoes mixed (L := lives) (by kernel_rfl) (pk <| pb c1 <| pk6 <| pb c2 <| pn c3 <| pn c4 <| pk <| pz)
/-- (alibi/flow.Rule).Value -/
def flow_Rule_Value (r1 : flow_Rule) (v : List (BitVec 32)) : Option ((BitVec 32)) :=
  bind (flow_at v r1.from_) fun v1 =>
  bind (flow_at v r1.also) fun v3 =>
  if (r1.if_ == (0#32)) = true then
    some (((v1 &&& r1.keep) ||| v3) ||| r1.then_)
  else
    if ((v1 &&& r1.if_) != (0#32)) = true then
      some (((v1 &&& r1.keep) ||| v3) ||| r1.then_)
    else
      some ((v1 &&& r1.keep) ||| v3)
theorem flow_Rule_Value_ok (r1 : flow_Rule) (v : List (BitVec 32)) (r : (BitVec 32)) (h : flow_Rule_Value r1 v = some r) : Does Try.prog 22 [.agg [.pv (.int .i64 r1.to_), .pv (.int .i64 r1.from_), .pv (.int .i64 r1.also), .pv (.int .u32 (BitVec.toNat r1.keep : Nat)), .pv (.int .u32 (BitVec.toNat r1.if_ : Nat)), .pv (.int .u32 (BitVec.toNat r1.then_ : Nat))], .pv (.seq (List.length v) (encP e_u32 0#32 v))] [] (.pv (.int .u32 (BitVec.toNat r : Nat)), []) := by
 unfold flow_Rule_Value at h
 obtain ⟨v1, h2, h⟩ := bind_of h
 obtain ⟨v3, h4, h⟩ := bind_of h
 rcases if_of h with ⟨c5, h⟩ | ⟨c5, h⟩
 · have h := Option.some.inj h; subst h
   exact pdoes mixed (L := lives) (by kernel_rfl) (pk2 <| pc (flow_at_ok _ _ _ h2) <| pk2 <| pe (eff_int (k := .u32) (un_and .u32 rfl v1 r1.keep)) <| pk <| pc (flow_at_ok _ _ _ h4) <| pk <| pe (eff_int (k := .u32) (un_or .u32 rfl (v1 &&& r1.keep) v3)) <| pk <| pe (eff_bool (un_eql r1.if_ (0#32))) <| pb c5 <| pk7 <| pe (eff_int (k := .u32) (un_or .u32 rfl ((v1 &&& r1.keep) ||| v3) r1.then_)) <| pz)
 · rcases if_of h with ⟨c6, h⟩ | ⟨c6, h⟩
   · have h := Option.some.inj h; subst h
     exact pdoes mixed (L := lives) (by kernel_rfl) (pk2 <| pc (flow_at_ok _ _ _ h2) <| pk2 <| pe (eff_int (k := .u32) (un_and .u32 rfl v1 r1.keep)) <| pk <| pc (flow_at_ok _ _ _ h4) <| pk <| pe (eff_int (k := .u32) (un_or .u32 rfl (v1 &&& r1.keep) v3)) <| pk <| pe (eff_bool (un_eql r1.if_ (0#32))) <| pb c5 <| pk4 <| pe (eff_int (k := .u32) (un_and .u32 rfl v1 r1.if_)) <| pk <| pe (eff_bool (un_neq (v1 &&& r1.if_) (0#32))) <| pk <| pb c6 <| pk <| pe (eff_int (k := .u32) (un_or .u32 rfl ((v1 &&& r1.keep) ||| v3) r1.then_)) <| pz)
   · have h := Option.some.inj h; subst h
     exact pdoes mixed (L := lives) (by kernel_rfl) (pk2 <| pc (flow_at_ok _ _ _ h2) <| pk2 <| pe (eff_int (k := .u32) (un_and .u32 rfl v1 r1.keep)) <| pk <| pc (flow_at_ok _ _ _ h4) <| pk <| pe (eff_int (k := .u32) (un_or .u32 rfl (v1 &&& r1.keep) v3)) <| pk <| pe (eff_bool (un_eql r1.if_ (0#32))) <| pb c5 <| pk4 <| pe (eff_int (k := .u32) (un_and .u32 rfl v1 r1.if_)) <| pk <| pe (eff_bool (un_neq (v1 &&& r1.if_) (0#32))) <| pk <| pb c6 <| pz)
/-- alibi/flow.meet -/
def flow_meet (a : BitVec 32) (b : BitVec 32) : Option ((BitVec 32)) :=
  some (a &&& b)
theorem flow_meet_ok (a : BitVec 32) (b : BitVec 32) (r : (BitVec 32)) (h : flow_meet a b = some r) : Does Try.prog 51 [.pv (.int .u32 (BitVec.toNat a : Nat)), .pv (.int .u32 (BitVec.toNat b : Nat))] [] (.pv (.int .u32 (BitVec.toNat r : Nat)), []) := by
 unfold flow_meet at h
 have h := Option.some.inj h; subst h
 exact pdoes mixed (L := lives) (by kernel_rfl) (pe (eff_int (k := .u32) (un_and .u32 rfl a b)) <| pz)
/-- (*alibi/flow.solver).apply -/
def flow_solver_apply (l1 : List (BitVec 32)) (l2 : List (List Int)) (b0 : List flow_Rule) (r1 : flow_Rule) : Option (Bool × (List (BitVec 32))) :=
  if (decide ((0 : Int) ≤ r1.to_)) = true then
    if (decide ((r1.to_ : Int) < (((List.length l1) : Nat) : Int))) = true then
      bind (flow_Rule_Value r1 l1) fun v3 =>
      bind (flow_meet (List.getD l1 (Int.toNat r1.to_) (0#32)) v3) fun v5 =>
      some ((List.getD (List.set l1 (Int.toNat r1.to_) v5) (Int.toNat r1.to_) (0#32)) != (List.getD l1 (Int.toNat r1.to_) (0#32)), List.set l1 (Int.toNat r1.to_) v5)
    else none
  else none
theorem flow_solver_apply_ok (l1 : List (BitVec 32)) (l2 : List (List Int)) (b0 : List flow_Rule) (r1 : flow_Rule) (r : Bool × (List (BitVec 32))) (h : flow_solver_apply l1 l2 b0 r1 = some r) : Does Try.prog 73 [.ptr 0 [] 0 0, .agg [.pv (.int .i64 r1.to_), .pv (.int .i64 r1.from_), .pv (.int .i64 r1.also), .pv (.int .u32 (BitVec.toNat r1.keep : Nat)), .pv (.int .u32 (BitVec.toNat r1.if_ : Nat)), .pv (.int .u32 (BitVec.toNat r1.then_ : Nat))]] [.box 2 [.ms 1 [] 0 (List.length l1), .pv (.seq (List.length b0) (encP e_flow_Rule d_flow_Rule b0)), .ms 2 [] 0 (List.length l2), .pv (.fn 51)], .arr 2 1 (List.length l1) (encW o_u32 0#32 l1), .arr 2 1 (List.length l2) (encW o_42 ([] : List Int) l2)] (.pv (.bool r.1), [.box 2 [.ms 1 [] 0 (List.length r.2), .pv (.seq (List.length b0) (encP e_flow_Rule d_flow_Rule b0)), .ms 2 [] 0 (List.length l2), .pv (.fn 51)], .arr 2 1 (List.length r.2) (encW o_u32 0#32 r.2), .arr 2 1 (List.length l2) (encW o_42 ([] : List Int) l2)]) := by
 unfold flow_solver_apply at h
 obtain ⟨c1, h⟩ := need_of h
 obtain ⟨c2, h⟩ := need_of h
 obtain ⟨v3, h4, h⟩ := bind_of h
 obtain ⟨v5, h6, h⟩ := bind_of h
 have h := Option.some.inj h; subst h
 refine Does.eq (pdoes mixed (L := lives) (r := (.pv (.bool ((List.getD (List.set l1 (Int.toNat r1.to_) v5) (Int.toNat r1.to_) (0#32)) != (List.getD l1 (Int.toNat r1.to_) (0#32)))), [.box 2 [.ms 1 [] 0 (List.length l1), .pv (.seq (List.length b0) (encP e_flow_Rule d_flow_Rule b0)), .ms 2 [] 0 (List.length l2), .pv (.fn 51)], .arr 2 1 (List.length l1) (encW o_u32 0#32 (List.set l1 (Int.toNat r1.to_) v5)), .arr 2 1 (List.length l2) (encW o_42 ([] : List Int) l2)])) (by kernel_rfl) (pk3 <| pn c1 <| pn c2 <| pk6 <| pb (whole_ok (List.length l1)) <| pc (Does.of (args' := [.agg [.pv (.int .i64 r1.to_), .pv (.int .i64 r1.from_), .pv (.int .i64 r1.also), .pv (.int .u32 (BitVec.toNat r1.keep : Nat)), .pv (.int .u32 (BitVec.toNat r1.if_ : Nat)), .pv (.int .u32 (BitVec.toNat r1.then_ : Nat))], .pv (.seq (List.length l1) (encP e_u32 (0#32) l1))]) (H' := []) (flow_Rule_Value_ok _ _ _ h4) (by (first | rfl | (simp only [List.length_set]; done)))) <| pk <| pc (flow_meet_ok _ _ _ h6) <| pk <| pn c1 <| pn c2 <| pt <| pe (eff_hb (v := dead) (b := 1) (hb := []) (sc := []) (put_top o_u32 (0#32) 2 1 (List.length l1) l1 (Int.toNat r1.to_) 0 [.pv (.int .u32 (BitVec.toNat v5 : Nat))] v5 (by kernel_rfl) (by first | exact Nat.le_refl _ | exact Nat.zero_le _ | (simp only [decide_eq_true_eq, List.length_set, List.length_append, List.length_replicate, List.length_cons, List.length_nil, Nat.zero_add] at * <;> omega)))) <| pk2 <| pn c1 <| pn c2 <| pk <| pe (eff_bool (un_neq (List.getD (List.set l1 (Int.toNat r1.to_) v5) (Int.toNat r1.to_) (0#32)) (List.getD l1 (Int.toNat r1.to_) (0#32)))) <| pz)) ?_
 (first | rfl | (simp only [List.length_set]; done))
/-- (*alibi/flow.todo).Push -/
def flow_todo_Push (l1 : List Int) (l2 : List Bool) (x : Int) : Option ((List Int)) :=
  if (Nat.ble ((List.length l1 + List.length ([x])) * 8) reach) = true then
    some (l1 ++ ([x]))
  else none
theorem flow_todo_Push_ok (l1 : List Int) (l2 : List Bool) (x : Int) (r : (List Int)) (h : flow_todo_Push l1 l2 x = some r) : Does Try.prog 118 [.ptr 0 [] 0 0, .ifc 3 (.pv (.int .i64 x))] [.box 2 [.ms 1 [] 0 (List.length l1), .ms 2 [] 0 (List.length l2)], .arr 2 1 (List.length l1) (encW o_i64 0 l1), .arr 2 1 (List.length l2) (encW o_bool false l2)] (.tup [], [.box 2 [.ms 1 [] 0 (List.length r), .ms 2 [] 0 (List.length l2)], .arr 0 1 (List.length r) (encW o_i64 0 r), .arr 2 1 (List.length l2) (encW o_bool false l2)]) := by
 unfold flow_todo_Push at h
 obtain ⟨c1, h⟩ := need_of h
 have h := Option.some.inj h; subst h
 exact pdoes mixed (L := lives) (by kernel_rfl) (pk <| pe (eff_lit o_i64 0 3 1 1 ([x]) rfl [] []) <| pb (whole_ok (List.length ([x]))) <| pn c1 <| pe (eff_app o_i64 0 l1 ([x]) (l1 ++ ([x])) 1 1 (List.length l1) (List.length ([x])) (fun i => List.map AV.scal (encW o_i64 0 ([x]) i)) (encW o_i64 0 l1 (List.length l1)) [] [] [(1, false)] (by first | exact Nat.le_refl _ | exact Nat.zero_le _ | (simp only [decide_eq_true_eq, List.length_set, List.length_append, List.length_replicate, List.length_cons, List.length_nil, Nat.zero_add] at * <;> omega)) rfl (fun _ => by kernel_rfl) (congrArg o_i64 (getD_ge 0 (by first | exact Nat.le_refl _ | exact Nat.zero_le _ | (simp only [decide_eq_true_eq, List.length_set, List.length_append, List.length_replicate, List.length_cons, List.length_nil, Nat.zero_add] at * <;> omega)))) (by rw [List.take_of_length_le (by first | exact Nat.le_refl _ | exact Nat.zero_le _ | (simp only [decide_eq_true_eq, List.length_set, List.length_append, List.length_replicate, List.length_cons, List.length_nil, Nat.zero_add] at * <;> omega))])) <| pk <| pz)
/-- (*alibi/flow.todo).Len -/
def flow_todo_Len (l1 : List Int) (l2 : List Bool) : Option (Int) :=
  some ((((List.length l1) : Nat) : Int))
theorem flow_todo_Len_ok (l1 : List Int) (l2 : List Bool) (r : Int) (h : flow_todo_Len l1 l2 = some r) : Does Try.prog 75 [.ptr 0 [] 0 0] [.box 2 [.ms 1 [] 0 (List.length l1), .ms 2 [] 0 (List.length l2)], .arr 2 1 (List.length l1) (encW o_i64 0 l1), .arr 2 1 (List.length l2) (encW o_bool false l2)] (.pv (.int .i64 r), [.box 2 [.ms 1 [] 0 (List.length l1), .ms 2 [] 0 (List.length l2)], .arr 2 1 (List.length l1) (encW o_i64 0 l1), .arr 2 1 (List.length l2) (encW o_bool false l2)]) := by
 unfold flow_todo_Len at h
 have h := Option.some.inj h; subst h
 exact pdoes mixed (L := lives) (by kernel_rfl) (pk2 <| pz)
/-- (*alibi/flow.todo).Less -/
def flow_todo_Less (l1 : List Int) (l2 : List Bool) (i : Int) (k : Int) : Option (Bool) :=
  if (decide ((0 : Int) ≤ i)) = true then
    if (decide ((i : Int) < (((List.length l1) : Nat) : Int))) = true then
      if (decide ((0 : Int) ≤ k)) = true then
        if (decide ((k : Int) < (((List.length l1) : Nat) : Int))) = true then
          some (decide (((List.getD l1 (Int.toNat i) 0) : Int) < (List.getD l1 (Int.toNat k) 0)))
        else none
      else none
    else none
  else none
theorem flow_todo_Less_ok (l1 : List Int) (l2 : List Bool) (i : Int) (k : Int) (r : Bool) (h : flow_todo_Less l1 l2 i k = some r) : Does Try.prog 116 [.ptr 0 [] 0 0, .pv (.int .i64 i), .pv (.int .i64 k)] [.box 2 [.ms 1 [] 0 (List.length l1), .ms 2 [] 0 (List.length l2)], .arr 2 1 (List.length l1) (encW o_i64 0 l1), .arr 2 1 (List.length l2) (encW o_bool false l2)] (.pv (.bool r), [.box 2 [.ms 1 [] 0 (List.length l1), .ms 2 [] 0 (List.length l2)], .arr 2 1 (List.length l1) (encW o_i64 0 l1), .arr 2 1 (List.length l2) (encW o_bool false l2)]) := by
 unfold flow_todo_Less at h
 obtain ⟨c1, h⟩ := need_of h
 obtain ⟨c2, h⟩ := need_of h
 obtain ⟨c3, h⟩ := need_of h
 obtain ⟨c4, h⟩ := need_of h
 have h := Option.some.inj h; subst h
 exact pdoes mixed (L := lives) (by kernel_rfl) (pk <| pn c1 <| pn c2 <| pk2 <| pn c3 <| pn c4 <| pk2 <| pz)
/-- (*alibi/flow.todo).Swap -/
def flow_todo_Swap (l1 : List Int) (l2 : List Bool) (i : Int) (k : Int) : Option ((List Int)) :=
  if (decide ((0 : Int) ≤ k)) = true then
    if (decide ((k : Int) < (((List.length l1) : Nat) : Int))) = true then
      if (decide ((0 : Int) ≤ i)) = true then
        if (decide ((i : Int) < (((List.length l1) : Nat) : Int))) = true then
          some (List.set (List.set l1 (Int.toNat i) (List.getD l1 (Int.toNat k) 0)) (Int.toNat k) (List.getD l1 (Int.toNat i) 0))
        else none
      else none
    else none
  else none
theorem flow_todo_Swap_ok (l1 : List Int) (l2 : List Bool) (i : Int) (k : Int) (r : (List Int)) (h : flow_todo_Swap l1 l2 i k = some r) : Does Try.prog 119 [.ptr 0 [] 0 0, .pv (.int .i64 i), .pv (.int .i64 k)] [.box 2 [.ms 1 [] 0 (List.length l1), .ms 2 [] 0 (List.length l2)], .arr 2 1 (List.length l1) (encW o_i64 0 l1), .arr 2 1 (List.length l2) (encW o_bool false l2)] (.tup [], [.box 2 [.ms 1 [] 0 (List.length r), .ms 2 [] 0 (List.length l2)], .arr 2 1 (List.length r) (encW o_i64 0 r), .arr 2 1 (List.length l2) (encW o_bool false l2)]) := by
 unfold flow_todo_Swap at h
 obtain ⟨c1, h⟩ := need_of h
 obtain ⟨c2, h⟩ := need_of h
 obtain ⟨c3, h⟩ := need_of h
 obtain ⟨c4, h⟩ := need_of h
 have h := Option.some.inj h; subst h
 refine Does.eq (pdoes mixed (L := lives) (r := (.tup [], [.box 2 [.ms 1 [] 0 (List.length l1), .ms 2 [] 0 (List.length l2)], .arr 2 1 (List.length l1) (encW o_i64 0 (List.set (List.set l1 (Int.toNat i) (List.getD l1 (Int.toNat k) 0)) (Int.toNat k) (List.getD l1 (Int.toNat i) 0))), .arr 2 1 (List.length l2) (encW o_bool false l2)])) (by kernel_rfl) (pk3 <| pn c1 <| pn c2 <| pk2 <| pn c3 <| pn c4 <| pk <| pn c3 <| pn c4 <| pt <| pe (eff_hb (v := dead) (b := 1) (hb := []) (sc := []) (put_top o_i64 0 2 1 (List.length l1) l1 (Int.toNat i) 0 [.pv (.int .i64 (List.getD l1 (Int.toNat k) 0))] (List.getD l1 (Int.toNat k) 0) (by kernel_rfl) (by first | exact Nat.le_refl _ | exact Nat.zero_le _ | (simp only [decide_eq_true_eq, List.length_set, List.length_append, List.length_replicate, List.length_cons, List.length_nil, Nat.zero_add] at * <;> omega)))) <| pn c1 <| pn c2 <| pt <| pe (eff_hb (v := dead) (b := 1) (hb := []) (sc := []) (put_top o_i64 0 2 1 (List.length l1) (List.set l1 (Int.toNat i) (List.getD l1 (Int.toNat k) 0)) (Int.toNat k) 0 [.pv (.int .i64 (List.getD l1 (Int.toNat i) 0))] (List.getD l1 (Int.toNat i) 0) (by kernel_rfl) (by first | exact Nat.le_refl _ | exact Nat.zero_le _ | (simp only [decide_eq_true_eq, List.length_set, List.length_append, List.length_replicate, List.length_cons, List.length_nil, Nat.zero_add] at * <;> omega)))) <| pz)) ?_
 (first | rfl | (simp only [List.length_set]; done))
noncomputable def heap_up_1_l0_c : Code := sub (codeOf Try.prog 92) [0, 0]
def heap_up_1_l0 (x0 : List Int) (x1 : List Bool) (x2 : Int) : Option ((List Int)) :=
  if (((iQuo (iSub x2 1) 2) : Int) == x2) = true then
    some x0
  else
    bind (flow_todo_Less x0 x1 x2 (iQuo (iSub x2 1) 2)) fun v2 =>
    if (!v2) = true then
      some x0
    else
      bind (flow_todo_Swap x0 x1 (iQuo (iSub x2 1) 2) x2) fun v5 =>
      heap_up_1_l0 v5 x1 (iQuo (iSub x2 1) 2)
partial_fixpoint
noncomputable abbrev heap_up_1_l0_s (x0 : List Int) (x1 : List Bool) (x2 : Int) : St := ⟨.ifc 111 (.ptr 0 [] 0 0) :: .pv (.int .i64 x2) :: List.replicate 21 dead, [.box 2 [.ms 1 [] 0 (List.length x0), .ms 2 [] 0 (List.length x1)], .arr 2 1 (List.length x0) (encW o_i64 0 x0), .arr 2 1 (List.length x1) (encW o_bool false x1)]⟩
noncomputable abbrev heap_up_1_l0_e (x0 : List Int) (x1 : List Bool) (x2 : Int) (r : (List Int)) : St := ⟨List.replicate 23 dead, [.box 2 [.ms 1 [] 0 (List.length r), .ms 2 [] 0 (List.length x1)], .arr 2 1 (List.length r) (encW o_i64 0 r), .arr 2 1 (List.length x1) (encW o_bool false x1)]⟩
theorem heap_up_1_l0_ok (x0 : List Int) (x1 : List Bool) (x2 : Int) (r : (List Int)) (h : heap_up_1_l0 x0 x1 x2 = some r) : Loops Try.prog heap_up_1_l0_c 3 (heap_up_1_l0_s x0 x1 x2) (.exit 0) (heap_up_1_l0_e x0 x1 x2 r) := by
 refine heap_up_1_l0.partial_correctness x1 (fun x0 x2 r => Loops Try.prog heap_up_1_l0_c 3 (heap_up_1_l0_s x0 x1 x2) (.exit 0) (heap_up_1_l0_e x0 x1 x2 r)) ?_ x0 x2 r h
 clear h r x0 x2
 intro self ih x0 x2 r h
 rcases if_of h with ⟨c1, h⟩ | ⟨c1, h⟩
 · have h := Option.some.inj h; subst h
   exact plast mixed lives 92 (by kernel_rfl) (pk <| pn (rfl : (!decide (2 = (0 : Int))) = true) <| pk2 <| pb c1 <| pk6 <| pz) rfl
 · obtain ⟨v2, h3, h⟩ := bind_of h
   rcases if_of h with ⟨c4, h⟩ | ⟨c4, h⟩
   · have h := Option.some.inj h; subst h
     exact plast mixed lives 92 (by kernel_rfl) (pk <| pn (rfl : (!decide (2 = (0 : Int))) = true) <| pk2 <| pb c1 <| pk3 <| pc (flow_todo_Less_ok _ _ _ _ _ h3) <| pk4 <| pb c4 <| pz) rfl
   · obtain ⟨v5, h6, h⟩ := bind_of h
     exact pmore mixed lives 92 (by kernel_rfl) (pk <| pn (rfl : (!decide (2 = (0 : Int))) = true) <| pk2 <| pb c1 <| pk3 <| pc (flow_todo_Less_ok _ _ _ _ _ h3) <| pk4 <| pb c4 <| pc (flow_todo_Swap_ok _ _ _ _ _ h6) <| pk <| pz) (ih v5 (iQuo (iSub x2 1) 2) _ h)
/-- container/heap.up -/
def heap_up_1 (l1 : List Int) (l2 : List Bool) (j : Int) : Option ((List Int)) :=
  bind (heap_up_1_l0 l1 l2 j) fun v7 =>
  some v7
theorem heap_up_1_ok (l1 : List Int) (l2 : List Bool) (j : Int) (r : (List Int)) (h : heap_up_1 l1 l2 j = some r) : Does Try.prog 92 [.ifc 111 (.ptr 0 [] 0 0), .pv (.int .i64 j)] [.box 2 [.ms 1 [] 0 (List.length l1), .ms 2 [] 0 (List.length l2)], .arr 2 1 (List.length l1) (encW o_i64 0 l1), .arr 2 1 (List.length l2) (encW o_bool false l2)] (.tup [], [.box 2 [.ms 1 [] 0 (List.length r), .ms 2 [] 0 (List.length l2)], .arr 2 1 (List.length r) (encW o_i64 0 r), .arr 2 1 (List.length l2) (encW o_bool false l2)]) := by
 unfold heap_up_1 at h
 obtain ⟨v7, h8, h⟩ := bind_of h
 have h := Option.some.inj h; subst h
 exact pdoes mixed (L := lives) (by kernel_rfl) (pl (heap_up_1_l0_ok _ _ _ _ h8) <| pz)
/-- container/heap.Push -/
def heap_Push_1 (l1 : List Int) (l2 : List Bool) (x : Int) : Option ((List Int)) :=
  bind (flow_todo_Push l1 l2 x) fun v1 =>
  bind (flow_todo_Len v1 l2) fun v3 =>
  bind (heap_up_1 v1 l2 (iSub v3 1)) fun v5 =>
  some v5
theorem heap_Push_1_ok (l1 : List Int) (l2 : List Bool) (x : Int) (r : (List Int)) (h : heap_Push_1 l1 l2 x = some r) : Does Try.prog 85 [.ifc 111 (.ptr 0 [] 0 0), .ifc 3 (.pv (.int .i64 x))] [.box 2 [.ms 1 [] 0 (List.length l1), .ms 2 [] 0 (List.length l2)], .arr 2 1 (List.length l1) (encW o_i64 0 l1), .arr 2 1 (List.length l2) (encW o_bool false l2)] (.tup [], [.box 2 [.ms 1 [] 0 (List.length r), .ms 2 [] 0 (List.length l2)], .arr 0 1 (List.length r) (encW o_i64 0 r), .arr 2 1 (List.length l2) (encW o_bool false l2)]) := by
 unfold heap_Push_1 at h
 obtain ⟨v1, h2, h⟩ := bind_of h
 obtain ⟨v3, h4, h⟩ := bind_of h
 obtain ⟨v5, h6, h⟩ := bind_of h
 have h := Option.some.inj h; subst h
 exact pdoes mixed (L := lives) (by kernel_rfl) (pc (flow_todo_Push_ok _ _ _ _ h2) <| pk <| pc (flow_todo_Len_ok _ _ _ h4) <| pk2 <| pc (heap_up_1_ok _ _ _ _ h6) <| pk <| pz)
/-- (*alibi/flow.todo).add -/
def flow_todo_add (l1 : List Int) (l2 : List Bool) (i : Int) : Option ((List Int) × (List Bool)) :=
  if (decide ((0 : Int) ≤ i)) = true then
    if (decide ((i : Int) < (((List.length l2) : Nat) : Int))) = true then
      if (!(List.getD l2 (Int.toNat i) false)) = true then
        bind (heap_Push_1 l1 (List.set l2 (Int.toNat i) true) i) fun v4 =>
        some (v4, List.set l2 (Int.toNat i) true)
      else
        some (l1, l2)
    else none
  else none
theorem flow_todo_add_ok (l1 : List Int) (l2 : List Bool) (i : Int) (r : (List Int) × (List Bool)) (h : flow_todo_add l1 l2 i = some r) : Does Try.prog 74 [.ptr 0 [] 0 0, .pv (.int .i64 i)] [.box 2 [.ms 1 [] 0 (List.length l1), .ms 2 [] 0 (List.length l2)], .arr 2 1 (List.length l1) (encW o_i64 0 l1), .arr 2 1 (List.length l2) (encW o_bool false l2)] (.tup [], [.box 2 [.ms 1 [] 0 (List.length r.1), .ms 2 [] 0 (List.length r.2)], .arr 0 1 (List.length r.1) (encW o_i64 0 r.1), .arr 2 1 (List.length r.2) (encW o_bool false r.2)]) := by
 unfold flow_todo_add at h
 obtain ⟨c1, h⟩ := need_of h
 obtain ⟨c2, h⟩ := need_of h
 rcases if_of h with ⟨c3, h⟩ | ⟨c3, h⟩
 · obtain ⟨v4, h5, h⟩ := bind_of h
   have h := Option.some.inj h; subst h
   exact pdoes mixed (L := lives) (by kernel_rfl) (pk <| pn c1 <| pn c2 <| pk2 <| pb c3 <| pk <| pn c1 <| pn c2 <| pt <| pe (eff_hb (v := dead) (b := 2) (hb := []) (sc := []) (put_top o_bool false 2 1 (List.length l2) l2 (Int.toNat i) 0 [.pv (.bool true)] true (by kernel_rfl) (by first | exact Nat.le_refl _ | exact Nat.zero_le _ | (simp only [decide_eq_true_eq, List.length_set, List.length_append, List.length_replicate, List.length_cons, List.length_nil, Nat.zero_add] at * <;> omega)))) <| pc (Does.of (args' := [.ifc 111 (.ptr 0 [] 0 0), .ifc 3 (.pv (.int .i64 i))]) (H' := [.box 2 [.ms 1 [] 0 (List.length l1), .ms 2 [] 0 (List.length l2)], .arr 2 1 (List.length l1) (encW o_i64 0 l1), .arr 2 1 (List.length l2) (encW o_bool false (List.set l2 (Int.toNat i) true))]) (heap_Push_1_ok _ _ _ _ h5) (by (first | rfl | (simp only [List.length_set]; done)))) <| pk <| pz)
 · have h := Option.some.inj h; subst h
   exact pdoes mixed (L := lives) (by kernel_rfl) (pk <| pn c1 <| pn c2 <| pk2 <| pb c3 <| pz)
noncomputable def flow_solver_solve_l5_c : Code := sub (codeOf Try.prog 52) [1, 1, 1, 1, 0, 1, 0, 0]
def flow_solver_solve_l5 (x0 : List (BitVec 32)) (x1 : List (List Int)) (x2 : List (List Int)) (x3 : List Int) (x4 : List Bool) (x5 : List flow_Rule) (x6 : List flow_Rule) (x7 : List flow_Rule) (x8 : Int) (x9 : Int) : Option ((List (BitVec 32)) × (List (List Int)) × (List Int) × (List Bool) × (List flow_Rule)) :=
  if (decide ((x9 : Int) < x8)) = true then
    if (decide ((0 : Int) ≤ x9)) = true then
      if (decide ((x9 : Int) < ((List.length x7 : Nat) : Int))) = true then
        if (decide ((((List.getD x7 (Int.toNat x9) d_flow_Rule).to_) : Int) < 0)) = true then
          flow_solver_solve_l5 x0 x1 x2 x3 x4 x5 x6 x7 x8 (iAdd x9 1)
        else
          if (decide ((((List.getD x7 (Int.toNat x9) d_flow_Rule).to_) : Int) ≥ ((((List.length x0) : Nat) : Int)))) = true then
            flow_solver_solve_l5 x0 x1 x2 x3 x4 x5 x6 x7 x8 (iAdd x9 1)
          else
            bind (flow_solver_solve_l9 x0 x1 x2 x3 x4 x5 ([(List.getD x7 (Int.toNat x9) d_flow_Rule).from_, (List.getD x7 (Int.toNat x9) d_flow_Rule).also]) x6 ((List.getD x7 (Int.toNat x9) d_flow_Rule).to_) ((List.getD x7 (Int.toNat x9) d_flow_Rule).from_) ((List.getD x7 (Int.toNat x9) d_flow_Rule).also) ((List.getD x7 (Int.toNat x9) d_flow_Rule).keep) ((List.getD x7 (Int.toNat x9) d_flow_Rule).if_) ((List.getD x7 (Int.toNat x9) d_flow_Rule).then_) x7 x8 x9 ((((List.length ([(List.getD x7 (Int.toNat x9) d_flow_Rule).from_, (List.getD x7 (Int.toNat x9) d_flow_Rule).also])) : Nat) : Int)) 0) fun v17 =>
            if (Nat.ble ((List.length x5 + List.length ([List.getD x7 (Int.toNat x9) d_flow_Rule])) * 40) reach) = true then
              bind (flow_solver_apply x0 v17 x6 (List.getD x7 (Int.toNat x9) d_flow_Rule)) fun v20 =>
              if v20.1 = true then
                bind (flow_todo_add x3 x4 ((List.getD x7 (Int.toNat x9) d_flow_Rule).to_)) fun v23 =>
                flow_solver_solve_l5 v20.2 x1 v17 v23.1 v23.2 (x5 ++ ([List.getD x7 (Int.toNat x9) d_flow_Rule])) x6 x7 x8 (iAdd x9 1)
              else
                flow_solver_solve_l5 v20.2 x1 v17 x3 x4 (x5 ++ ([List.getD x7 (Int.toNat x9) d_flow_Rule])) x6 x7 x8 (iAdd x9 1)
            else none
      else none
    else none
  else
    some (x0, x2, x3, x4, x5)
partial_fixpoint
noncomputable abbrev flow_solver_solve_l5_s (x0 : List (BitVec 32)) (x1 : List (List Int)) (x2 : List (List Int)) (x3 : List Int) (x4 : List Bool) (x5 : List flow_Rule) (x6 : List flow_Rule) (x7 : List flow_Rule) (x8 : Int) (x9 : Int) : St := ⟨.ptr 0 [] 0 0 :: dead :: dead :: .ptr 4 [] 0 0 :: .ms 7 [] 0 (List.length x5) :: (List.replicate 27 dead ++ (.pv (.seq (List.length x7) (encP e_flow_Rule d_flow_Rule x7)) :: .pv (.int .i64 x8) :: .pv (.int .i64 x9) :: List.replicate 113 dead)), [.box 2 [.ms 1 [] 0 (List.length x0), .pv (.seq (List.length x6) (encP e_flow_Rule d_flow_Rule x6)), .ms 3 [] 0 (List.length x2), .pv (.fn 51)], .arr 2 1 (List.length x0) (encW o_u32 0#32 x0), .arr 2 1 (List.length x1) (encW o_42 ([] : List Int) x1), .arr 0 1 (List.length x2) (encW o_42 ([] : List Int) x2), .box 0 [.ms 5 [] 0 (List.length x3), .ms 6 [] 0 (List.length x4)], .arr 0 1 (List.length x3) (encW o_i64 0 x3), .arr 0 1 (List.length x4) (encW o_bool false x4), .arr 0 6 (List.length x5) (encW o_flow_Rule d_flow_Rule x5)]⟩
noncomputable abbrev flow_solver_solve_l5_e (x0 : List (BitVec 32)) (x1 : List (List Int)) (x2 : List (List Int)) (x3 : List Int) (x4 : List Bool) (x5 : List flow_Rule) (x6 : List flow_Rule) (x7 : List flow_Rule) (x8 : Int) (x9 : Int) (r : (List (BitVec 32)) × (List (List Int)) × (List Int) × (List Bool) × (List flow_Rule)) : St := ⟨.ptr 0 [] 0 0 :: dead :: dead :: .ptr 4 [] 0 0 :: .ms 7 [] 0 (List.length r.2.2.2.2) :: List.replicate 143 dead, [.box 2 [.ms 1 [] 0 (List.length r.1), .pv (.seq (List.length x6) (encP e_flow_Rule d_flow_Rule x6)), .ms 3 [] 0 (List.length r.2.1), .pv (.fn 51)], .arr 2 1 (List.length r.1) (encW o_u32 0#32 r.1), .arr 2 1 (List.length x1) (encW o_42 ([] : List Int) x1), .arr 0 1 (List.length r.2.1) (encW o_42 ([] : List Int) r.2.1), .box 0 [.ms 5 [] 0 (List.length r.2.2.1), .ms 6 [] 0 (List.length r.2.2.2.1)], .arr 0 1 (List.length r.2.2.1) (encW o_i64 0 r.2.2.1), .arr 0 1 (List.length r.2.2.2.1) (encW o_bool false r.2.2.2.1), .arr 0 6 (List.length r.2.2.2.2) (encW o_flow_Rule d_flow_Rule r.2.2.2.2)]⟩
theorem flow_solver_solve_l5_ok (x0 : List (BitVec 32)) (x1 : List (List Int)) (x2 : List (List Int)) (x3 : List Int) (x4 : List Bool) (x5 : List flow_Rule) (x6 : List flow_Rule) (x7 : List flow_Rule) (x8 : Int) (x9 : Int) (r : (List (BitVec 32)) × (List (List Int)) × (List Int) × (List Bool) × (List flow_Rule)) (h : flow_solver_solve_l5 x0 x1 x2 x3 x4 x5 x6 x7 x8 x9 = some r) : Loops Try.prog flow_solver_solve_l5_c 3 (flow_solver_solve_l5_s x0 x1 x2 x3 x4 x5 x6 x7 x8 x9) (.exit 0) (flow_solver_solve_l5_e x0 x1 x2 x3 x4 x5 x6 x7 x8 x9 r) := by
 refine flow_solver_solve_l5.partial_correctness x1 x6 x7 x8 (fun x0 x2 x3 x4 x5 x9 r => Loops Try.prog flow_solver_solve_l5_c 3 (flow_solver_solve_l5_s x0 x1 x2 x3 x4 x5 x6 x7 x8 x9) (.exit 0) (flow_solver_solve_l5_e x0 x1 x2 x3 x4 x5 x6 x7 x8 x9 r)) ?_ x0 x2 x3 x4 x5 x9 r h
 clear h r x0 x2 x3 x4 x5 x9
 intro self ih x0 x2 x3 x4 x5 x9 r h
 rcases if_of h with ⟨c4, h⟩ | ⟨c4, h⟩
 · obtain ⟨c5, h⟩ := need_of h
   obtain ⟨c6, h⟩ := need_of h
   rcases if_of h with ⟨c7, h⟩ | ⟨c7, h⟩
   · exact pmore mixed lives 52 (by kernel_rfl) (pk <| pb c4 <| pn c5 <| pn c6 <| pk5 <| pb c7 <| pk8 <| pk2 <| pz) (ih x0 x2 x3 x4 x5 (iAdd x9 1) _ h)
   · rcases if_of h with ⟨c8, h⟩ | ⟨c8, h⟩
     · exact pmore mixed lives 52 (by kernel_rfl) (pk <| pb c4 <| pn c5 <| pn c6 <| pk5 <| pb c7 <| pk8 <| pk4 <| pb c8 <| pk <| pz) (ih x0 x2 x3 x4 x5 (iAdd x9 1) _ h)
     · obtain ⟨v17, h18, h⟩ := bind_of h
       obtain ⟨c19, h⟩ := need_of h
       obtain ⟨v20, h21, h⟩ := bind_of h
       rcases if_of h with ⟨c22, h⟩ | ⟨c22, h⟩
       · obtain ⟨v23, h24, h⟩ := bind_of h
         exact pmore mixed lives 52 (by kernel_rfl) (pk <| pb c4 <| pn c5 <| pn c6 <| pk5 <| pb c7 <| pk8 <| pk4 <| pb c8 <| pk2 <| pe (eff_lit o_i64 0 9 1 2 ([(List.getD x7 (Int.toNat x9) d_flow_Rule).from_, (List.getD x7 (Int.toNat x9) d_flow_Rule).also]) rfl [] []) <| pk <| pl (flow_solver_solve_l9_ok _ _ _ _ _ _ _ _ _ _ _ _ _ _ _ _ _ _ _ _ h18) <| pk <| pe (eff_lit o_flow_Rule d_flow_Rule 9 6 1 ([List.getD x7 (Int.toNat x9) d_flow_Rule]) rfl [] []) <| pb (whole_ok (List.length ([List.getD x7 (Int.toNat x9) d_flow_Rule]))) <| pn c19 <| pe (eff_app o_flow_Rule d_flow_Rule x5 ([List.getD x7 (Int.toNat x9) d_flow_Rule]) (x5 ++ ([List.getD x7 (Int.toNat x9) d_flow_Rule])) 7 6 (List.length x5) (List.length ([List.getD x7 (Int.toNat x9) d_flow_Rule])) (fun i => List.map AV.scal (encW o_flow_Rule d_flow_Rule ([List.getD x7 (Int.toNat x9) d_flow_Rule]) i)) (encW o_flow_Rule d_flow_Rule x5 (List.length x5)) [] [] [(7, false)] (by first | exact Nat.le_refl _ | exact Nat.zero_le _ | (simp only [decide_eq_true_eq, List.length_set, List.length_append, List.length_replicate, List.length_cons, List.length_nil, Nat.zero_add] at * <;> omega)) rfl (fun _ => by kernel_rfl) (congrArg o_flow_Rule (getD_ge d_flow_Rule (by first | exact Nat.le_refl _ | exact Nat.zero_le _ | (simp only [decide_eq_true_eq, List.length_set, List.length_append, List.length_replicate, List.length_cons, List.length_nil, Nat.zero_add] at * <;> omega)))) (by rw [List.take_of_length_le (by first | exact Nat.le_refl _ | exact Nat.zero_le _ | (simp only [decide_eq_true_eq, List.length_set, List.length_append, List.length_replicate, List.length_cons, List.length_nil, Nat.zero_add] at * <;> omega))])) <| pk <| pc (flow_solver_apply_ok _ _ _ _ _ h21) <| pk <| pb c22 <| pk <| pc (flow_todo_add_ok _ _ _ _ h24) <| pk2 <| pz) (ih v20.2 v17 v23.1 v23.2 (x5 ++ ([List.getD x7 (Int.toNat x9) d_flow_Rule])) (iAdd x9 1) _ h)
       · exact pmore mixed lives 52 (by kernel_rfl) (pk <| pb c4 <| pn c5 <| pn c6 <| pk5 <| pb c7 <| pk8 <| pk4 <| pb c8 <| pk2 <| pe (eff_lit o_i64 0 9 1 2 ([(List.getD x7 (Int.toNat x9) d_flow_Rule).from_, (List.getD x7 (Int.toNat x9) d_flow_Rule).also]) rfl [] []) <| pk <| pl (flow_solver_solve_l9_ok _ _ _ _ _ _ _ _ _ _ _ _ _ _ _ _ _ _ _ _ h18) <| pk <| pe (eff_lit o_flow_Rule d_flow_Rule 9 6 1 ([List.getD x7 (Int.toNat x9) d_flow_Rule]) rfl [] []) <| pb (whole_ok (List.length ([List.getD x7 (Int.toNat x9) d_flow_Rule]))) <| pn c19 <| pe (eff_app o_flow_Rule d_flow_Rule x5 ([List.getD x7 (Int.toNat x9) d_flow_Rule]) (x5 ++ ([List.getD x7 (Int.toNat x9) d_flow_Rule])) 7 6 (List.length x5) (List.length ([List.getD x7 (Int.toNat x9) d_flow_Rule])) (fun i => List.map AV.scal (encW o_flow_Rule d_flow_Rule ([List.getD x7 (Int.toNat x9) d_flow_Rule]) i)) (encW o_flow_Rule d_flow_Rule x5 (List.length x5)) [] [] [(7, false)] (by first | exact Nat.le_refl _ | exact Nat.zero_le _ | (simp only [decide_eq_true_eq, List.length_set, List.length_append, List.length_replicate, List.length_cons, List.length_nil, Nat.zero_add] at * <;> omega)) rfl (fun _ => by kernel_rfl) (congrArg o_flow_Rule (getD_ge d_flow_Rule (by first | exact Nat.le_refl _ | exact Nat.zero_le _ | (simp only [decide_eq_true_eq, List.length_set, List.length_append, List.length_replicate, List.length_cons, List.length_nil, Nat.zero_add] at * <;> omega)))) (by rw [List.take_of_length_le (by first | exact Nat.le_refl _ | exact Nat.zero_le _ | (simp only [decide_eq_true_eq, List.length_set, List.length_append, List.length_replicate, List.length_cons, List.length_nil, Nat.zero_add] at * <;> omega))])) <| pk <| pc (flow_solver_apply_ok _ _ _ _ _ h21) <| pk <| pb c22 <| pk <| pz) (ih v20.2 v17 x3 x4 (x5 ++ ([List.getD x7 (Int.toNat x9) d_flow_Rule])) (iAdd x9 1) _ h)
 · have h := Option.some.inj h; subst h
   exact plast mixed lives 52 (by kernel_rfl) (pk <| pb c4 <| pz) rfl
noncomputable def flow_solver_solve_l19_c : Code := sub (codeOf Try.prog 52) [1, 1, 1, 1, 1, 0, 1, 0, 0]
def flow_solver_solve_l19 (x0 : List (BitVec 32)) (x1 : List (List Int)) (x2 : List (List Int)) (x3 : List Int) (x4 : List Bool) (x5 : List flow_Rule) (x6 : List flow_Rule) (x7 : Int) (x8 : Int) : Option ((List Int) × (List Bool)) :=
  if (decide ((x8 : Int) < x7)) = true then
    bind (flow_todo_add x3 x4 x8) fun v28 =>
    flow_solver_solve_l19 x0 x1 x2 v28.1 v28.2 x5 x6 x7 (iAdd x8 1)
  else
    some (x3, x4)
partial_fixpoint
noncomputable abbrev flow_solver_solve_l19_s (x0 : List (BitVec 32)) (x1 : List (List Int)) (x2 : List (List Int)) (x3 : List Int) (x4 : List Bool) (x5 : List flow_Rule) (x6 : List flow_Rule) (x7 : Int) (x8 : Int) : St := ⟨.ptr 0 [] 0 0 :: dead :: dead :: .ptr 4 [] 0 0 :: .ms 7 [] 0 (List.length x5) :: (List.replicate 101 dead ++ (.pv (.int .i64 x7) :: .pv (.int .i64 x8) :: List.replicate 40 dead)), [.box 2 [.ms 1 [] 0 (List.length x0), .pv (.seq (List.length x6) (encP e_flow_Rule d_flow_Rule x6)), .ms 3 [] 0 (List.length x2), .pv (.fn 51)], .arr 2 1 (List.length x0) (encW o_u32 0#32 x0), .arr 2 1 (List.length x1) (encW o_42 ([] : List Int) x1), .arr 0 1 (List.length x2) (encW o_42 ([] : List Int) x2), .box 0 [.ms 5 [] 0 (List.length x3), .ms 6 [] 0 (List.length x4)], .arr 0 1 (List.length x3) (encW o_i64 0 x3), .arr 0 1 (List.length x4) (encW o_bool false x4), .arr 0 6 (List.length x5) (encW o_flow_Rule d_flow_Rule x5)]⟩
noncomputable abbrev flow_solver_solve_l19_e (x0 : List (BitVec 32)) (x1 : List (List Int)) (x2 : List (List Int)) (x3 : List Int) (x4 : List Bool) (x5 : List flow_Rule) (x6 : List flow_Rule) (x7 : Int) (x8 : Int) (r : (List Int) × (List Bool)) : St := ⟨.ptr 0 [] 0 0 :: dead :: dead :: .ptr 4 [] 0 0 :: .ms 7 [] 0 (List.length x5) :: List.replicate 143 dead, [.box 2 [.ms 1 [] 0 (List.length x0), .pv (.seq (List.length x6) (encP e_flow_Rule d_flow_Rule x6)), .ms 3 [] 0 (List.length x2), .pv (.fn 51)], .arr 2 1 (List.length x0) (encW o_u32 0#32 x0), .arr 2 1 (List.length x1) (encW o_42 ([] : List Int) x1), .arr 0 1 (List.length x2) (encW o_42 ([] : List Int) x2), .box 0 [.ms 5 [] 0 (List.length r.1), .ms 6 [] 0 (List.length r.2)], .arr 0 1 (List.length r.1) (encW o_i64 0 r.1), .arr 0 1 (List.length r.2) (encW o_bool false r.2), .arr 0 6 (List.length x5) (encW o_flow_Rule d_flow_Rule x5)]⟩
theorem flow_solver_solve_l19_ok (x0 : List (BitVec 32)) (x1 : List (List Int)) (x2 : List (List Int)) (x3 : List Int) (x4 : List Bool) (x5 : List flow_Rule) (x6 : List flow_Rule) (x7 : Int) (x8 : Int) (r : (List Int) × (List Bool)) (h : flow_solver_solve_l19 x0 x1 x2 x3 x4 x5 x6 x7 x8 = some r) : Loops Try.prog flow_solver_solve_l19_c 3 (flow_solver_solve_l19_s x0 x1 x2 x3 x4 x5 x6 x7 x8) (.exit 4) (flow_solver_solve_l19_e x0 x1 x2 x3 x4 x5 x6 x7 x8 r) := by
 refine flow_solver_solve_l19.partial_correctness x0 x1 x2 x5 x6 x7 (fun x3 x4 x8 r => Loops Try.prog flow_solver_solve_l19_c 3 (flow_solver_solve_l19_s x0 x1 x2 x3 x4 x5 x6 x7 x8) (.exit 4) (flow_solver_solve_l19_e x0 x1 x2 x3 x4 x5 x6 x7 x8 r)) ?_ x3 x4 x8 r h
 clear h r x3 x4 x8
 intro self ih x3 x4 x8 r h
 rcases if_of h with ⟨c27, h⟩ | ⟨c27, h⟩
 · obtain ⟨v28, h29, h⟩ := bind_of h
   exact pmore mixed lives 52 (by kernel_rfl) (pk <| pb c27 <| pc (flow_todo_add_ok _ _ _ _ h29) <| pk2 <| pz) (ih v28.1 v28.2 (iAdd x8 1) _ h)
 · have h := Option.some.inj h; subst h
   exact plast mixed lives 52 (by kernel_rfl) (pk <| pb c27 <| pz) rfl
noncomputable def heap_down_1_l2_c : Code := sub (codeOf Try.prog 93) [1, 1, 0, 0, 0]
def heap_down_1_l2 (x0 : List Int) (x1 : List Bool) (x2 : Int) (x3 : Int) (x4 : Int) : Option ((List Int) × Int) :=
  if (decide (((iAdd (iMul 2 x4) 1) : Int) ≥ x3)) = true then
    some (x0, x4)
  else
    if (decide (((iAdd (iMul 2 x4) 1) : Int) < 0)) = true then
      some (x0, x4)
    else
      if (decide (((iAdd (iAdd (iMul 2 x4) 1) 1) : Int) < x3)) = true then
        bind (flow_todo_Less x0 x1 (iAdd (iAdd (iMul 2 x4) 1) 1) (iAdd (iMul 2 x4) 1)) fun v4 =>
        if v4 = true then
          bind (flow_todo_Less x0 x1 (iAdd (iAdd (iMul 2 x4) 1) 1) x4) fun v7 =>
          if (!v7) = true then
            some (x0, x4)
          else
            bind (flow_todo_Swap x0 x1 x4 (iAdd (iAdd (iMul 2 x4) 1) 1)) fun v10 =>
            heap_down_1_l2 v10 x1 x2 x3 (iAdd (iAdd (iMul 2 x4) 1) 1)
        else
          bind (flow_todo_Less x0 x1 (iAdd (iMul 2 x4) 1) x4) fun v12 =>
          if (!v12) = true then
            some (x0, x4)
          else
            bind (flow_todo_Swap x0 x1 x4 (iAdd (iMul 2 x4) 1)) fun v15 =>
            heap_down_1_l2 v15 x1 x2 x3 (iAdd (iMul 2 x4) 1)
      else
        bind (flow_todo_Less x0 x1 (iAdd (iMul 2 x4) 1) x4) fun v17 =>
        if (!v17) = true then
          some (x0, x4)
        else
          bind (flow_todo_Swap x0 x1 x4 (iAdd (iMul 2 x4) 1)) fun v20 =>
          heap_down_1_l2 v20 x1 x2 x3 (iAdd (iMul 2 x4) 1)
partial_fixpoint
noncomputable abbrev heap_down_1_l2_s (x0 : List Int) (x1 : List Bool) (x2 : Int) (x3 : Int) (x4 : Int) : St := ⟨.ifc 111 (.ptr 0 [] 0 0) :: .pv (.int .i64 x2) :: .pv (.int .i64 x3) :: (List.replicate 4 dead ++ (.pv (.int .i64 x4) :: List.replicate 40 dead)), [.box 2 [.ms 1 [] 0 (List.length x0), .ms 2 [] 0 (List.length x1)], .arr 2 1 (List.length x0) (encW o_i64 0 x0), .arr 2 1 (List.length x1) (encW o_bool false x1)]⟩
noncomputable abbrev heap_down_1_l2_e (x0 : List Int) (x1 : List Bool) (x2 : Int) (x3 : Int) (x4 : Int) (r : (List Int) × Int) : St := ⟨dead :: .pv (.int .i64 x2) :: (List.replicate 5 dead ++ (.pv (.int .i64 r.2) :: List.replicate 40 dead)), [.box 2 [.ms 1 [] 0 (List.length r.1), .ms 2 [] 0 (List.length x1)], .arr 2 1 (List.length r.1) (encW o_i64 0 r.1), .arr 2 1 (List.length x1) (encW o_bool false x1)]⟩
theorem heap_down_1_l2_ok (x0 : List Int) (x1 : List Bool) (x2 : Int) (x3 : Int) (x4 : Int) (r : (List Int) × Int) (h : heap_down_1_l2 x0 x1 x2 x3 x4 = some r) : Loops Try.prog heap_down_1_l2_c 3 (heap_down_1_l2_s x0 x1 x2 x3 x4) (.exit 0) (heap_down_1_l2_e x0 x1 x2 x3 x4 r) := by
 refine heap_down_1_l2.partial_correctness x1 x2 x3 (fun x0 x4 r => Loops Try.prog heap_down_1_l2_c 3 (heap_down_1_l2_s x0 x1 x2 x3 x4) (.exit 0) (heap_down_1_l2_e x0 x1 x2 x3 x4 r)) ?_ x0 x4 r h
 clear h r x0 x4
 intro self ih x0 x4 r h
 rcases if_of h with ⟨c1, h⟩ | ⟨c1, h⟩
 · have h := Option.some.inj h; subst h
   exact plast mixed lives 93 (by kernel_rfl) (pk3 <| pb c1 <| pk3 <| pz) rfl
 · rcases if_of h with ⟨c2, h⟩ | ⟨c2, h⟩
   · have h := Option.some.inj h; subst h
     exact plast mixed lives 93 (by kernel_rfl) (pk3 <| pb c1 <| pk3 <| pb c2 <| pz) rfl
   · rcases if_of h with ⟨c3, h⟩ | ⟨c3, h⟩
     · obtain ⟨v4, h5, h⟩ := bind_of h
       rcases if_of h with ⟨c6, h⟩ | ⟨c6, h⟩
       · obtain ⟨v7, h8, h⟩ := bind_of h
         rcases if_of h with ⟨c9, h⟩ | ⟨c9, h⟩
         · have h := Option.some.inj h; subst h
           exact plast mixed lives 93 (by kernel_rfl) (pk3 <| pb c1 <| pk3 <| pb c2 <| pk2 <| pb c3 <| pk3 <| pc (flow_todo_Less_ok _ _ _ _ _ h5) <| pk2 <| pb c6 <| pc (flow_todo_Less_ok _ _ _ _ _ h8) <| pk2 <| pb c9 <| pz) rfl
         · obtain ⟨v10, h11, h⟩ := bind_of h
           exact pmore mixed lives 93 (by kernel_rfl) (pk3 <| pb c1 <| pk3 <| pb c2 <| pk2 <| pb c3 <| pk3 <| pc (flow_todo_Less_ok _ _ _ _ _ h5) <| pk2 <| pb c6 <| pc (flow_todo_Less_ok _ _ _ _ _ h8) <| pk2 <| pb c9 <| pc (flow_todo_Swap_ok _ _ _ _ _ h11) <| pk <| pz) (ih v10 (iAdd (iAdd (iMul 2 x4) 1) 1) _ h)
       · obtain ⟨v12, h13, h⟩ := bind_of h
         rcases if_of h with ⟨c14, h⟩ | ⟨c14, h⟩
         · have h := Option.some.inj h; subst h
           exact plast mixed lives 93 (by kernel_rfl) (pk3 <| pb c1 <| pk3 <| pb c2 <| pk2 <| pb c3 <| pk3 <| pc (flow_todo_Less_ok _ _ _ _ _ h5) <| pk2 <| pb c6 <| pc (flow_todo_Less_ok _ _ _ _ _ h13) <| pk2 <| pb c14 <| pz) rfl
         · obtain ⟨v15, h16, h⟩ := bind_of h
           exact pmore mixed lives 93 (by kernel_rfl) (pk3 <| pb c1 <| pk3 <| pb c2 <| pk2 <| pb c3 <| pk3 <| pc (flow_todo_Less_ok _ _ _ _ _ h5) <| pk2 <| pb c6 <| pc (flow_todo_Less_ok _ _ _ _ _ h13) <| pk2 <| pb c14 <| pc (flow_todo_Swap_ok _ _ _ _ _ h16) <| pk <| pz) (ih v15 (iAdd (iMul 2 x4) 1) _ h)
     · obtain ⟨v17, h18, h⟩ := bind_of h
       rcases if_of h with ⟨c19, h⟩ | ⟨c19, h⟩
       · have h := Option.some.inj h; subst h
         exact plast mixed lives 93 (by kernel_rfl) (pk3 <| pb c1 <| pk3 <| pb c2 <| pk2 <| pb c3 <| pk5 <| pc (flow_todo_Less_ok _ _ _ _ _ h18) <| pk2 <| pb c19 <| pz) rfl
       · obtain ⟨v20, h21, h⟩ := bind_of h
         exact pmore mixed lives 93 (by kernel_rfl) (pk3 <| pb c1 <| pk3 <| pb c2 <| pk2 <| pb c3 <| pk5 <| pc (flow_todo_Less_ok _ _ _ _ _ h18) <| pk2 <| pb c19 <| pc (flow_todo_Swap_ok _ _ _ _ _ h21) <| pk <| pz) (ih v20 (iAdd (iMul 2 x4) 1) _ h)
/-- container/heap.down -/
def heap_down_1 (l1 : List Int) (l2 : List Bool) (i0 : Int) (n1 : Int) : Option (Bool × (List Int)) :=
  bind (heap_down_1_l2 l1 l2 i0 n1 i0) fun v22 =>
  some (decide ((v22.2 : Int) > i0), v22.1)
theorem heap_down_1_ok (l1 : List Int) (l2 : List Bool) (i0 : Int) (n1 : Int) (r : Bool × (List Int)) (h : heap_down_1 l1 l2 i0 n1 = some r) : Does Try.prog 93 [.ifc 111 (.ptr 0 [] 0 0), .pv (.int .i64 i0), .pv (.int .i64 n1)] [.box 2 [.ms 1 [] 0 (List.length l1), .ms 2 [] 0 (List.length l2)], .arr 2 1 (List.length l1) (encW o_i64 0 l1), .arr 2 1 (List.length l2) (encW o_bool false l2)] (.pv (.bool r.1), [.box 2 [.ms 1 [] 0 (List.length r.2), .ms 2 [] 0 (List.length l2)], .arr 2 1 (List.length r.2) (encW o_i64 0 r.2), .arr 2 1 (List.length l2) (encW o_bool false l2)]) := by
 unfold heap_down_1 at h
 obtain ⟨v22, h23, h⟩ := bind_of h
 have h := Option.some.inj h; subst h
 exact pdoes mixed (L := lives) (by kernel_rfl) (pl (heap_down_1_l2_ok _ _ _ _ _ _ h23) <| pk <| pz)
/-- (*alibi/flow.todo).Pop -/
def flow_todo_Pop (l1 : List Int) (l2 : List Bool) : Option (Int × (List Int)) :=
  if (decide ((0 : Int) ≤ (iSub ((((List.length l1) : Nat) : Int)) 1))) = true then
    if (decide (((iSub ((((List.length l1) : Nat) : Int)) 1) : Int) < (((List.length l1) : Nat) : Int))) = true then
      if (decide (((iSub ((((List.length l1) : Nat) : Int)) 1) : Int) ≤ ((List.length l1 : Nat) : Int))) = true then
        some (List.getD l1 (Int.toNat (iSub ((((List.length l1) : Nat) : Int)) 1)) 0, List.take (Int.toNat (iSub ((((List.length l1) : Nat) : Int)) 1)) l1)
      else none
    else none
  else none
theorem flow_todo_Pop_ok (l1 : List Int) (l2 : List Bool) (r : Int × (List Int)) (h : flow_todo_Pop l1 l2 = some r) : Does Try.prog 117 [.ptr 0 [] 0 0] [.box 2 [.ms 1 [] 0 (List.length l1), .ms 2 [] 0 (List.length l2)], .arr 2 1 (List.length l1) (encW o_i64 0 l1), .arr 2 1 (List.length l2) (encW o_bool false l2)] (.ifc 3 (.pv (.int .i64 r.1)), [.box 2 [.ms 1 [] 0 (List.length r.2), .ms 2 [] 0 (List.length l2)], .arr 0 1 (List.length r.2) (encW o_i64 0 r.2), .arr 2 1 (List.length l2) (encW o_bool false l2)]) := by
 unfold flow_todo_Pop at h
 obtain ⟨c1, h⟩ := need_of h
 obtain ⟨c2, h⟩ := need_of h
 obtain ⟨c3, h⟩ := need_of h
 have h := Option.some.inj h; subst h
 refine Does.eq (pdoes mixed (L := lives) (r := (.ifc 3 (.pv (.int .i64 (List.getD l1 (Int.toNat (iSub ((((List.length l1) : Nat) : Int)) 1)) 0))), [.box 2 [.ms 1 [] 0 (Int.toNat (iSub ((((List.length l1) : Nat) : Int)) 1)), .ms 2 [] 0 (List.length l2)], .arr 0 1 (Int.toNat (iSub ((((List.length l1) : Nat) : Int)) 1)) (cutF 0 (Int.toNat (iSub ((((List.length l1) : Nat) : Int)) 1)) (List.length l1) (encW o_i64 0 l1)), .arr 2 1 (List.length l2) (encW o_bool false l2)])) (by kernel_rfl) (pk4 <| pn c1 <| pn c2 <| pk5 <| pn c1 <| pn c3 <| pk2 <| pz)) ?_
 rw [cut_enc o_i64 0 l1 (Int.toNat (iSub ((((List.length l1) : Nat) : Int)) 1)) (List.length l1) (by first | exact Nat.le_refl _ | exact Nat.zero_le _ | (simp only [decide_eq_true_eq, List.length_set, List.length_append, List.length_replicate, List.length_cons, List.length_nil, Nat.zero_add] at * <;> omega)) (by first | exact Nat.le_refl _ | exact Nat.zero_le _ | (simp only [decide_eq_true_eq, List.length_set, List.length_append, List.length_replicate, List.length_cons, List.length_nil, Nat.zero_add] at * <;> omega)), len_take l1 (Int.toNat (iSub ((((List.length l1) : Nat) : Int)) 1)) (by first | exact Nat.le_refl _ | exact Nat.zero_le _ | (simp only [decide_eq_true_eq, List.length_set, List.length_append, List.length_replicate, List.length_cons, List.length_nil, Nat.zero_add] at * <;> omega))] <;> (first | rfl | (simp only [List.length_set]; done))
/-- container/heap.Pop -/
def heap_Pop_1 (l1 : List Int) (l2 : List Bool) : Option (Int × (List Int)) :=
  bind (flow_todo_Len l1 l2) fun v1 =>
  bind (flow_todo_Swap l1 l2 0 (iSub v1 1)) fun v3 =>
  bind (heap_down_1 v3 l2 0 (iSub v1 1)) fun v5 =>
  bind (flow_todo_Pop v5.2 l2) fun v7 =>
  some (v7.1, v7.2)
theorem heap_Pop_1_ok (l1 : List Int) (l2 : List Bool) (r : Int × (List Int)) (h : heap_Pop_1 l1 l2 = some r) : Does Try.prog 86 [.ifc 111 (.ptr 0 [] 0 0)] [.box 2 [.ms 1 [] 0 (List.length l1), .ms 2 [] 0 (List.length l2)], .arr 2 1 (List.length l1) (encW o_i64 0 l1), .arr 2 1 (List.length l2) (encW o_bool false l2)] (.ifc 3 (.pv (.int .i64 r.1)), [.box 2 [.ms 1 [] 0 (List.length r.2), .ms 2 [] 0 (List.length l2)], .arr 0 1 (List.length r.2) (encW o_i64 0 r.2), .arr 2 1 (List.length l2) (encW o_bool false l2)]) := by
 unfold heap_Pop_1 at h
 obtain ⟨v1, h2, h⟩ := bind_of h
 obtain ⟨v3, h4, h⟩ := bind_of h
 obtain ⟨v5, h6, h⟩ := bind_of h
 obtain ⟨v7, h8, h⟩ := bind_of h
 have h := Option.some.inj h; subst h
 exact pdoes mixed (L := lives) (by kernel_rfl) (pc (flow_todo_Len_ok _ _ _ h2) <| pk2 <| pc (flow_todo_Swap_ok _ _ _ _ _ h4) <| pk <| pc (heap_down_1_ok _ _ _ _ _ h6) <| pk <| pc (flow_todo_Pop_ok _ _ _ h8) <| pk <| pz)
/-- (*alibi/flow.todo).next -/
def flow_todo_next (l1 : List Int) (l2 : List Bool) : Option (Int × (List Int) × (List Bool)) :=
  bind (heap_Pop_1 l1 l2) fun v1 =>
  if (decide ((0 : Int) ≤ v1.1)) = true then
    if (decide ((v1.1 : Int) < (((List.length l2) : Nat) : Int))) = true then
      some (v1.1, v1.2, List.set l2 (Int.toNat v1.1) false)
    else none
  else none
theorem flow_todo_next_ok (l1 : List Int) (l2 : List Bool) (r : Int × (List Int) × (List Bool)) (h : flow_todo_next l1 l2 = some r) : Does Try.prog 76 [.ptr 0 [] 0 0] [.box 2 [.ms 1 [] 0 (List.length l1), .ms 2 [] 0 (List.length l2)], .arr 2 1 (List.length l1) (encW o_i64 0 l1), .arr 2 1 (List.length l2) (encW o_bool false l2)] (.pv (.int .i64 r.1), [.box 2 [.ms 1 [] 0 (List.length r.2.1), .ms 2 [] 0 (List.length r.2.2)], .arr 0 1 (List.length r.2.1) (encW o_i64 0 r.2.1), .arr 2 1 (List.length r.2.2) (encW o_bool false r.2.2)]) := by
 unfold flow_todo_next at h
 obtain ⟨v1, h2, h⟩ := bind_of h
 obtain ⟨c3, h⟩ := need_of h
 obtain ⟨c4, h⟩ := need_of h
 have h := Option.some.inj h; subst h
 refine Does.eq (pdoes mixed (L := lives) (r := (.pv (.int .i64 v1.1), [.box 2 [.ms 1 [] 0 (List.length v1.2), .ms 2 [] 0 (List.length l2)], .arr 0 1 (List.length v1.2) (encW o_i64 0 v1.2), .arr 2 1 (List.length l2) (encW o_bool false (List.set l2 (Int.toNat v1.1) false))])) (by kernel_rfl) (pc (heap_Pop_1_ok _ _ _ h2) <| pk2 <| pn c3 <| pn c4 <| pt <| pe (eff_hb (v := dead) (b := 2) (hb := []) (sc := []) (put_top o_bool false 2 1 (List.length l2) l2 (Int.toNat v1.1) 0 [.pv (.bool false)] false (by kernel_rfl) (by first | exact Nat.le_refl _ | exact Nat.zero_le _ | (simp only [decide_eq_true_eq, List.length_set, List.length_append, List.length_replicate, List.length_cons, List.length_nil, Nat.zero_add] at * <;> omega)))) <| pz)) ?_
 (first | rfl | (simp only [List.length_set]; done))
noncomputable def flow_solver_solve_l25_c : Code := sub (codeOf Try.prog 52) [1, 1, 1, 1, 1, 1, 0, 0, 0, 1, 0, 1, 0, 0]
def flow_solver_solve_l25 (x0 : List (BitVec 32)) (x1 : List (List Int)) (x2 : List (List Int)) (x3 : List Int) (x4 : List Bool) (x5 : List flow_Rule) (x6 : List flow_Rule) (x7 : Nat) (x8 : Int) (x9 : Int) : Option ((List (BitVec 32)) × (List Int) × (List Bool)) :=
  if (decide ((x9 : Int) < x8)) = true then
    if (decide ((0 : Int) ≤ x9)) = true then
      if (decide ((x9 : Int) < (((List.length (List.getD x2 x7 (([] : List Int)))) : Nat) : Int))) = true then
        if (decide ((0 : Int) ≤ (List.getD (List.getD x2 x7 (([] : List Int))) (Int.toNat x9) 0))) = true then
          if (decide (((List.getD (List.getD x2 x7 (([] : List Int))) (Int.toNat x9) 0) : Int) < (((List.length x5) : Nat) : Int))) = true then
            bind (flow_solver_apply x0 x2 x6 (List.getD x5 (Int.toNat (List.getD (List.getD x2 x7 (([] : List Int))) (Int.toNat x9) 0)) d_flow_Rule)) fun v44 =>
            if v44.1 = true then
              bind (flow_todo_add x3 x4 ((List.getD x5 (Int.toNat (List.getD (List.getD x2 x7 (([] : List Int))) (Int.toNat x9) 0)) d_flow_Rule).to_)) fun v47 =>
              flow_solver_solve_l25 v44.2 x1 x2 v47.1 v47.2 x5 x6 x7 x8 (iAdd x9 1)
            else
              flow_solver_solve_l25 v44.2 x1 x2 x3 x4 x5 x6 x7 x8 (iAdd x9 1)
          else none
        else none
      else none
    else none
  else
    some (x0, x3, x4)
partial_fixpoint
noncomputable abbrev flow_solver_solve_l25_s (x0 : List (BitVec 32)) (x1 : List (List Int)) (x2 : List (List Int)) (x3 : List Int) (x4 : List Bool) (x5 : List flow_Rule) (x6 : List flow_Rule) (x7 : Nat) (x8 : Int) (x9 : Int) : St := ⟨.ptr 0 [] 0 0 :: dead :: dead :: .ptr 4 [] 0 0 :: .ms 7 [] 0 (List.length x5) :: (List.replicate 119 dead ++ (.ms 3 [(x7, 0)] 0 (List.length (List.getD x2 x7 (([] : List Int)))) :: .pv (.int .i64 x8) :: .pv (.int .i64 x9) :: List.replicate 21 dead)), [.box 2 [.ms 1 [] 0 (List.length x0), .pv (.seq (List.length x6) (encP e_flow_Rule d_flow_Rule x6)), .ms 3 [] 0 (List.length x2), .pv (.fn 51)], .arr 2 1 (List.length x0) (encW o_u32 0#32 x0), .arr 2 1 (List.length x1) (encW o_42 ([] : List Int) x1), .arr 0 1 (List.length x2) (encW o_42 ([] : List Int) x2), .box 0 [.ms 5 [] 0 (List.length x3), .ms 6 [] 0 (List.length x4)], .arr 0 1 (List.length x3) (encW o_i64 0 x3), .arr 0 1 (List.length x4) (encW o_bool false x4), .arr 0 6 (List.length x5) (encW o_flow_Rule d_flow_Rule x5)]⟩
noncomputable abbrev flow_solver_solve_l25_e (x0 : List (BitVec 32)) (x1 : List (List Int)) (x2 : List (List Int)) (x3 : List Int) (x4 : List Bool) (x5 : List flow_Rule) (x6 : List flow_Rule) (x7 : Nat) (x8 : Int) (x9 : Int) (r : (List (BitVec 32)) × (List Int) × (List Bool)) : St := ⟨.ptr 0 [] 0 0 :: dead :: dead :: .ptr 4 [] 0 0 :: .ms 7 [] 0 (List.length x5) :: List.replicate 143 dead, [.box 2 [.ms 1 [] 0 (List.length r.1), .pv (.seq (List.length x6) (encP e_flow_Rule d_flow_Rule x6)), .ms 3 [] 0 (List.length x2), .pv (.fn 51)], .arr 2 1 (List.length r.1) (encW o_u32 0#32 r.1), .arr 2 1 (List.length x1) (encW o_42 ([] : List Int) x1), .arr 0 1 (List.length x2) (encW o_42 ([] : List Int) x2), .box 0 [.ms 5 [] 0 (List.length r.2.1), .ms 6 [] 0 (List.length r.2.2)], .arr 0 1 (List.length r.2.1) (encW o_i64 0 r.2.1), .arr 0 1 (List.length r.2.2) (encW o_bool false r.2.2), .arr 0 6 (List.length x5) (encW o_flow_Rule d_flow_Rule x5)]⟩
theorem flow_solver_solve_l25_ok (x0 : List (BitVec 32)) (x1 : List (List Int)) (x2 : List (List Int)) (x3 : List Int) (x4 : List Bool) (x5 : List flow_Rule) (x6 : List flow_Rule) (x7 : Nat) (x8 : Int) (x9 : Int) (r : (List (BitVec 32)) × (List Int) × (List Bool)) (h : flow_solver_solve_l25 x0 x1 x2 x3 x4 x5 x6 x7 x8 x9 = some r) : Loops Try.prog flow_solver_solve_l25_c 3 (flow_solver_solve_l25_s x0 x1 x2 x3 x4 x5 x6 x7 x8 x9) (.exit 8) (flow_solver_solve_l25_e x0 x1 x2 x3 x4 x5 x6 x7 x8 x9 r) := by
 refine flow_solver_solve_l25.partial_correctness x1 x2 x5 x6 x7 x8 (fun x0 x3 x4 x9 r => Loops Try.prog flow_solver_solve_l25_c 3 (flow_solver_solve_l25_s x0 x1 x2 x3 x4 x5 x6 x7 x8 x9) (.exit 8) (flow_solver_solve_l25_e x0 x1 x2 x3 x4 x5 x6 x7 x8 x9 r)) ?_ x0 x3 x4 x9 r h
 clear h r x0 x3 x4 x9
 intro self ih x0 x3 x4 x9 r h
 rcases if_of h with ⟨c39, h⟩ | ⟨c39, h⟩
 · obtain ⟨c40, h⟩ := need_of h
   obtain ⟨c41, h⟩ := need_of h
   obtain ⟨c42, h⟩ := need_of h
   obtain ⟨c43, h⟩ := need_of h
   obtain ⟨v44, h45, h⟩ := bind_of h
   rcases if_of h with ⟨c46, h⟩ | ⟨c46, h⟩
   · obtain ⟨v47, h48, h⟩ := bind_of h
     exact pmore mixed lives 52 (by kernel_rfl) (pk <| pb c39 <| pn c40 <| pn c41 <| pk <| pn c42 <| pn c43 <| pk <| pc (flow_solver_apply_ok _ _ _ _ _ h45) <| pk <| pb c46 <| pn c42 <| pn c43 <| pk <| pc (flow_todo_add_ok _ _ _ _ h48) <| pk2 <| pz) (ih v44.2 v47.1 v47.2 (iAdd x9 1) _ h)
   · exact pmore mixed lives 52 (by kernel_rfl) (pk <| pb c39 <| pn c40 <| pn c41 <| pk <| pn c42 <| pn c43 <| pk <| pc (flow_solver_apply_ok _ _ _ _ _ h45) <| pk <| pb c46 <| pk <| pz) (ih v44.2 x3 x4 (iAdd x9 1) _ h)
 · have h := Option.some.inj h; subst h
   exact plast mixed lives 52 (by kernel_rfl) (pk <| pb c39 <| pz) rfl
noncomputable def flow_solver_solve_l23_c : Code := sub (codeOf Try.prog 52) [1, 1, 1, 1, 1, 1, 0, 0, 0]
def flow_solver_solve_l23 (x0 : List (BitVec 32)) (x1 : List (List Int)) (x2 : List (List Int)) (x3 : List Int) (x4 : List Bool) (x5 : List flow_Rule) (x6 : List flow_Rule) : Option ((List (BitVec 32))) :=
  bind (flow_todo_Len x3 x4) fun v32 =>
  if (decide ((v32 : Int) > 0)) = true then
    bind (flow_todo_next x3 x4) fun v35 =>
    if (decide ((0 : Int) ≤ v35.1)) = true then
      if (decide ((v35.1 : Int) < (((List.length x2) : Nat) : Int))) = true then
        bind (flow_solver_solve_l25 x0 x1 x2 v35.2.1 v35.2.2 x5 x6 (Int.toNat v35.1) ((((List.length (List.getD x2 (Int.toNat v35.1) (([] : List Int)))) : Nat) : Int)) 0) fun v49 =>
        flow_solver_solve_l23 v49.1 x1 x2 v49.2.1 v49.2.2 x5 x6
      else none
    else none
  else
    some x0
partial_fixpoint
noncomputable abbrev flow_solver_solve_l23_s (x0 : List (BitVec 32)) (x1 : List (List Int)) (x2 : List (List Int)) (x3 : List Int) (x4 : List Bool) (x5 : List flow_Rule) (x6 : List flow_Rule) : St := ⟨.ptr 0 [] 0 0 :: dead :: dead :: .ptr 4 [] 0 0 :: .ms 7 [] 0 (List.length x5) :: List.replicate 143 dead, [.box 2 [.ms 1 [] 0 (List.length x0), .pv (.seq (List.length x6) (encP e_flow_Rule d_flow_Rule x6)), .ms 3 [] 0 (List.length x2), .pv (.fn 51)], .arr 2 1 (List.length x0) (encW o_u32 0#32 x0), .arr 2 1 (List.length x1) (encW o_42 ([] : List Int) x1), .arr 0 1 (List.length x2) (encW o_42 ([] : List Int) x2), .box 0 [.ms 5 [] 0 (List.length x3), .ms 6 [] 0 (List.length x4)], .arr 0 1 (List.length x3) (encW o_i64 0 x3), .arr 0 1 (List.length x4) (encW o_bool false x4), .arr 0 6 (List.length x5) (encW o_flow_Rule d_flow_Rule x5)]⟩
noncomputable abbrev flow_solver_solve_l23_e (x0 : List (BitVec 32)) (x1 : List (List Int)) (x2 : List (List Int)) (x3 : List Int) (x4 : List Bool) (x5 : List flow_Rule) (x6 : List flow_Rule) (r : (List (BitVec 32))) : St := ⟨.ptr 0 [] 0 0 :: List.replicate 147 dead, [.box 2 [.ms 1 [] 0 (List.length r), .pv (.seq (List.length x6) (encP e_flow_Rule d_flow_Rule x6)), .ms 3 [] 0 (List.length x2), .pv (.fn 51)], .arr 2 1 (List.length r) (encW o_u32 0#32 r), .arr 2 1 (List.length x1) (encW o_42 ([] : List Int) x1), .arr 0 1 (List.length x2) (encW o_42 ([] : List Int) x2)]⟩
theorem flow_solver_solve_l23_ok (x0 : List (BitVec 32)) (x1 : List (List Int)) (x2 : List (List Int)) (x3 : List Int) (x4 : List Bool) (x5 : List flow_Rule) (x6 : List flow_Rule) (r : (List (BitVec 32))) (h : flow_solver_solve_l23 x0 x1 x2 x3 x4 x5 x6 = some r) : Loops Try.prog flow_solver_solve_l23_c 3 (flow_solver_solve_l23_s x0 x1 x2 x3 x4 x5 x6) (.exit 6) (flow_solver_solve_l23_e x0 x1 x2 x3 x4 x5 x6 r) := by
 refine flow_solver_solve_l23.partial_correctness x1 x2 x5 x6 (fun x0 x3 x4 r => Loops Try.prog flow_solver_solve_l23_c 3 (flow_solver_solve_l23_s x0 x1 x2 x3 x4 x5 x6) (.exit 6) (flow_solver_solve_l23_e x0 x1 x2 x3 x4 x5 x6 r)) ?_ x0 x3 x4 r h
 clear h r x0 x3 x4
 intro self ih x0 x3 x4 r h
 obtain ⟨v32, h33, h⟩ := bind_of h
 rcases if_of h with ⟨c34, h⟩ | ⟨c34, h⟩
 · obtain ⟨v35, h36, h⟩ := bind_of h
   obtain ⟨c37, h⟩ := need_of h
   obtain ⟨c38, h⟩ := need_of h
   obtain ⟨v49, h50, h⟩ := bind_of h
   exact pmore mixed lives 52 (by kernel_rfl) (pc (flow_todo_Len_ok _ _ _ h33) <| pk2 <| pb c34 <| pk <| pc (flow_todo_next_ok _ _ _ h36) <| pk <| pn c37 <| pn c38 <| pk2 <| pl (flow_solver_solve_l25_ok _ _ _ _ _ _ _ _ _ _ _ h50) <| pz) (ih v49.1 v49.2.1 v49.2.2 _ h)
 · have h := Option.some.inj h; subst h
   exact plast mixed lives 52 (by kernel_rfl) (pc (flow_todo_Len_ok _ _ _ h33) <| pk2 <| pb c34 <| pz) rfl
/-- (*alibi/flow.solver).solve -/
def flow_solver_solve (l1 : List (BitVec 32)) (l2 : List (List Int)) (b0 : List flow_Rule) : Option ((List (BitVec 32)) × (List (List Int))) :=
  if (decide ((0 : Int) ≤ ((((List.length l1) : Nat) : Int)))) = true then
    if (decide ((((((List.length l1) : Nat) : Int)) : Int) * ((1 : Nat) : Int) ≤ ((reach : Nat) : Int))) = true then
      if (decide ((((((List.length l1) : Nat) : Int)) : Int) * ((24 : Nat) : Int) ≤ ((reach : Nat) : Int))) = true then
        bind (flow_solver_solve_l5 l1 l2 (List.replicate (Int.toNat ((((List.length l1) : Nat) : Int))) (([] : List Int))) (([] : List Int)) (List.replicate (Int.toNat ((((List.length l1) : Nat) : Int))) false) (([] : List flow_Rule)) b0 b0 (((List.length b0 : Nat) : Int)) 0) fun v25 =>
        bind (flow_solver_solve_l19 v25.1 l2 v25.2.1 v25.2.2.1 v25.2.2.2.1 v25.2.2.2.2 b0 ((((List.length v25.1) : Nat) : Int)) 0) fun v30 =>
        bind (flow_solver_solve_l23 v25.1 l2 v25.2.1 v30.1 v30.2 v25.2.2.2.2 b0) fun v51 =>
        some (v51, v25.2.1)
      else none
    else none
  else none
theorem flow_solver_solve_ok (l1 : List (BitVec 32)) (l2 : List (List Int)) (b0 : List flow_Rule) (r : (List (BitVec 32)) × (List (List Int))) (h : flow_solver_solve l1 l2 b0 = some r) : Does Try.prog 52 [.ptr 0 [] 0 0] [.box 2 [.ms 1 [] 0 (List.length l1), .pv (.seq (List.length b0) (encP e_flow_Rule d_flow_Rule b0)), .ms 2 [] 0 (List.length l2), .pv (.fn 51)], .arr 2 1 (List.length l1) (encW o_u32 0#32 l1), .arr 2 1 (List.length l2) (encW o_42 ([] : List Int) l2)] (.ms 1 [] 0 (List.length r.1), [.box 2 [.ms 1 [] 0 (List.length r.1), .pv (.seq (List.length b0) (encP e_flow_Rule d_flow_Rule b0)), .ms 3 [] 0 (List.length r.2), .pv (.fn 51)], .arr 2 1 (List.length r.1) (encW o_u32 0#32 r.1), .arr 2 1 (List.length l2) (encW o_42 ([] : List Int) l2), .arr 0 1 (List.length r.2) (encW o_42 ([] : List Int) r.2)]) := by
 unfold flow_solver_solve at h
 obtain ⟨c1, h⟩ := need_of h
 obtain ⟨c2, h⟩ := need_of h
 obtain ⟨c3, h⟩ := need_of h
 obtain ⟨v25, h26, h⟩ := bind_of h
 obtain ⟨v30, h31, h⟩ := bind_of h
 obtain ⟨v51, h52, h⟩ := bind_of h
 have h := Option.some.inj h; subst h
 exact pdoes mixed (L := lives) (by kernel_rfl) (pk2 <| pn c1 <| pn ((decide_eq_true rfl) : (decide ((((((List.length l1) : Nat) : Int)) : Int) = ((((List.length l1) : Nat) : Int)))) = true) <| pn c2 <| pe (eff_make o_bool false 3 1 (Int.toNat ((((List.length l1) : Nat) : Int)))) <| pk4 <| pn c1 <| pn ((decide_eq_true rfl) : (decide ((((((List.length l1) : Nat) : Int)) : Int) = ((((List.length l1) : Nat) : Int)))) = true) <| pn c3 <| pe (eff_make o_42 (([] : List Int)) 6 1 (Int.toNat ((((List.length l1) : Nat) : Int)))) <| pk3 <| pl (Loops.of (s1 := ⟨.ptr 0 [] 0 0 :: dead :: dead :: .ptr 4 [] 0 0 :: .ms 7 [] 0 (List.length ([] : List flow_Rule)) :: (List.replicate 27 dead ++ (.pv (.seq (List.length b0) (encP e_flow_Rule d_flow_Rule b0)) :: .pv (.int .i64 (((List.length b0 : Nat) : Int))) :: .pv (.int .i64 0) :: List.replicate 113 dead)), [.box 2 [.ms 1 [] 0 (List.length l1), .pv (.seq (List.length b0) (encP e_flow_Rule d_flow_Rule b0)), .ms 3 [] 0 (List.length (List.replicate (Int.toNat ((((List.length l1) : Nat) : Int))) (([] : List Int)))), .pv (.fn 51)], .arr 2 1 (List.length l1) (encW o_u32 0#32 l1), .arr 2 1 (List.length l2) (encW o_42 ([] : List Int) l2), .arr 0 1 (List.length (List.replicate (Int.toNat ((((List.length l1) : Nat) : Int))) (([] : List Int)))) (encW o_42 ([] : List Int) (List.replicate (Int.toNat ((((List.length l1) : Nat) : Int))) (([] : List Int)))), .box 0 [.ms 5 [] 0 (List.length ([] : List Int)), .ms 6 [] 0 (List.length (List.replicate (Int.toNat ((((List.length l1) : Nat) : Int))) false))], .arr 0 1 (List.length ([] : List Int)) (encW o_i64 0 (([] : List Int))), .arr 0 1 (List.length (List.replicate (Int.toNat ((((List.length l1) : Nat) : Int))) false)) (encW o_bool false (List.replicate (Int.toNat ((((List.length l1) : Nat) : Int))) false)), .arr 0 6 (List.length ([] : List flow_Rule)) (encW o_flow_Rule d_flow_Rule (([] : List flow_Rule)))]⟩) (flow_solver_solve_l5_ok _ _ _ _ _ _ _ _ _ _ _ h26) (by (first | rfl | (simp only [flow_solver_solve_l5_s, List.length_set]; done)))) <| pk2 <| pl (flow_solver_solve_l19_ok _ _ _ _ _ _ _ _ _ _ h31) <| pl (flow_solver_solve_l23_ok _ _ _ _ _ _ _ _ h52) <| pk <| pz)
/-- alibi/flow.Greatest -/
def flow_Greatest (n1 : Int) (top : BitVec 32) (rules : List flow_Rule) : Option ((List (BitVec 32))) :=
  bind (flow_start n1 top) fun v1 =>
  bind (flow_solver_solve v1 (([] : List (List Int))) rules) fun v3 =>
  some v3.1
theorem flow_Greatest_ok (n1 : Int) (top : BitVec 32) (rules : List flow_Rule) (r : (List (BitVec 32))) (h : flow_Greatest n1 top rules = some r) : Does Try.prog 24 [.pv (.int .i64 n1), .pv (.int .u32 (BitVec.toNat top : Nat)), .pv (.seq (List.length rules) (encP e_flow_Rule d_flow_Rule rules))] [] (.ms 0 [] 0 (List.length r), [.arr 0 1 (List.length r) (encW o_u32 0#32 r)]) := by
 unfold flow_Greatest at h
 obtain ⟨v1, h2, h⟩ := bind_of h
 obtain ⟨v3, h4, h⟩ := bind_of h
 have h := Option.some.inj h; subst h
 exact pdoes mixed (L := lives) (by kernel_rfl) (pc (flow_start_ok _ _ _ h2) <| pk3 <| pc (Does.of (args' := [.ptr 0 [] 0 0]) (H' := [.box 2 [.ms 1 [] 0 (List.length v1), .pv (.seq (List.length rules) (encP e_flow_Rule d_flow_Rule rules)), .ms 2 [] 0 (List.length ([] : List (List Int))), .pv (.fn 51)], .arr 2 1 (List.length v1) (encW o_u32 0#32 v1), .arr 2 1 (List.length ([] : List (List Int))) (encW o_42 ([] : List Int) (([] : List (List Int))))]) (flow_solver_solve_ok _ _ _ _ h4) (by (first | rfl | (simp only [List.length_set]; done)))) <| pk <| pz)
noncomputable def hold_Find_l12_c : Code := sub (codeOf Try.prog 11) [1, 1, 1, 1, 1, 1, 0, 1, 0, 0, 1, 1, 0, 0, 1, 1, 0, 1, 0, 0]
def hold_Find_l12 (x0 : List Int) (x1 : List (BitVec 32)) (x2 : List api_Section) (x3 : List (BitVec 32)) (x4 : List (BitVec 32)) (x5 : BitVec 32) (x6 : BitVec 32) (x7 : BitVec 32) (x8 : BitVec 32) (x9 : Int) (x10 : List (List api_Node)) (x11 : Int) (x12 : Int) (x13 : Int) (x14 : Int) : Option ((List (BitVec 32))) :=
  if (decide ((x14 : Int) < x13)) = true then
    bind (hold_Places_Node (hold_Places.mk x0) x9 x14) fun v24 =>
    if (decide ((0 : Int) ≤ v24)) = true then
      if (decide ((v24 : Int) < (((List.length x1) : Nat) : Int))) = true then
        if (Nat.ble ((List.length x3 + List.length ([List.getD x1 (Int.toNat v24) (0#32)])) * 4) reach) = true then
          hold_Find_l12 x0 x1 x2 (x3 ++ ([List.getD x1 (Int.toNat v24) (0#32)])) x4 x5 x6 x7 x8 x9 x10 x11 x12 x13 (iAdd x14 1)
        else none
      else none
    else none
  else
    some x3
partial_fixpoint
noncomputable abbrev hold_Find_l12_s (x0 : List Int) (x1 : List (BitVec 32)) (x2 : List api_Section) (x3 : List (BitVec 32)) (x4 : List (BitVec 32)) (x5 : BitVec 32) (x6 : BitVec 32) (x7 : BitVec 32) (x8 : BitVec 32) (x9 : Int) (x10 : List (List api_Node)) (x11 : Int) (x12 : Int) (x13 : Int) (x14 : Int) : St := ⟨(List.replicate 6 dead ++ (.ptr 0 [] 0 0 :: dead :: .ms 2 [] 0 (List.length x1) :: .ms 3 [] 0 (List.length x2) :: .pv (.int .i64 x9) :: dead :: .ptr 4 [] 0 0 :: (List.replicate 21 dead ++ (.pv (.seq (List.length x10) (encP e_62 ([] : List api_Node) x10)) :: .pv (.int .i64 x11) :: .pv (.int .i64 x12) :: (List.replicate 21 dead ++ (.pv (.int .i64 x13) :: .pv (.int .i64 x14) :: List.replicate 21 dead)))))), [.box 0 [.ms 1 [] 0 (List.length x0)], .arr 0 1 (List.length x0) (encW o_i64 0 x0), .arr 0 1 (List.length x1) (encW o_u32 0#32 x1), .arr 0 6 (List.length x2) (encW o_api_Section d_api_Section x2), .box 0 [.pv (.int .u32 (BitVec.toNat x5 : Nat)), .pv (.int .u32 (BitVec.toNat x6 : Nat)), .ms 5 [] 0 (List.length x3), .pv (.int .u32 (BitVec.toNat x7 : Nat)), .pv (.int .u32 (BitVec.toNat x8 : Nat)), .ms 6 [] 0 (List.length x4)], .arr 0 1 (List.length x3) (encW o_u32 0#32 x3), .arr 0 1 (List.length x4) (encW o_u32 0#32 x4)]⟩
noncomputable abbrev hold_Find_l12_e (x0 : List Int) (x1 : List (BitVec 32)) (x2 : List api_Section) (x3 : List (BitVec 32)) (x4 : List (BitVec 32)) (x5 : BitVec 32) (x6 : BitVec 32) (x7 : BitVec 32) (x8 : BitVec 32) (x9 : Int) (x10 : List (List api_Node)) (x11 : Int) (x12 : Int) (x13 : Int) (x14 : Int) (r : (List (BitVec 32))) : St := ⟨(List.replicate 6 dead ++ (.ptr 0 [] 0 0 :: dead :: .ms 2 [] 0 (List.length x1) :: .ms 3 [] 0 (List.length x2) :: dead :: dead :: .ptr 4 [] 0 0 :: (List.replicate 21 dead ++ (.pv (.seq (List.length x10) (encP e_62 ([] : List api_Node) x10)) :: .pv (.int .i64 x11) :: .pv (.int .i64 x12) :: List.replicate 44 dead)))), [.box 0 [.ms 1 [] 0 (List.length x0)], .arr 0 1 (List.length x0) (encW o_i64 0 x0), .arr 0 1 (List.length x1) (encW o_u32 0#32 x1), .arr 0 6 (List.length x2) (encW o_api_Section d_api_Section x2), .box 0 [.pv (.int .u32 (BitVec.toNat x5 : Nat)), .pv (.int .u32 (BitVec.toNat x6 : Nat)), .ms 5 [] 0 (List.length r), .pv (.int .u32 (BitVec.toNat x7 : Nat)), .pv (.int .u32 (BitVec.toNat x8 : Nat)), .ms 6 [] 0 (List.length x4)], .arr 0 1 (List.length r) (encW o_u32 0#32 r), .arr 0 1 (List.length x4) (encW o_u32 0#32 x4)]⟩
theorem hold_Find_l12_ok (x0 : List Int) (x1 : List (BitVec 32)) (x2 : List api_Section) (x3 : List (BitVec 32)) (x4 : List (BitVec 32)) (x5 : BitVec 32) (x6 : BitVec 32) (x7 : BitVec 32) (x8 : BitVec 32) (x9 : Int) (x10 : List (List api_Node)) (x11 : Int) (x12 : Int) (x13 : Int) (x14 : Int) (r : (List (BitVec 32))) (h : hold_Find_l12 x0 x1 x2 x3 x4 x5 x6 x7 x8 x9 x10 x11 x12 x13 x14 = some r) : Loops Try.prog hold_Find_l12_c 0 (hold_Find_l12_s x0 x1 x2 x3 x4 x5 x6 x7 x8 x9 x10 x11 x12 x13 x14) (.exit 2) (hold_Find_l12_e x0 x1 x2 x3 x4 x5 x6 x7 x8 x9 x10 x11 x12 x13 x14 r) := by
 refine hold_Find_l12.partial_correctness x0 x1 x2 x4 x5 x6 x7 x8 x9 x10 x11 x12 x13 (fun x3 x14 r => Loops Try.prog hold_Find_l12_c 0 (hold_Find_l12_s x0 x1 x2 x3 x4 x5 x6 x7 x8 x9 x10 x11 x12 x13 x14) (.exit 2) (hold_Find_l12_e x0 x1 x2 x3 x4 x5 x6 x7 x8 x9 x10 x11 x12 x13 x14 r)) ?_ x3 x14 r h
 clear h r x3 x14
 intro self ih x3 x14 r h
 rcases if_of h with ⟨c23, h⟩ | ⟨c23, h⟩
 · obtain ⟨v24, h25, h⟩ := bind_of h
   obtain ⟨c26, h⟩ := need_of h
   obtain ⟨c27, h⟩ := need_of h
   obtain ⟨c28, h⟩ := need_of h
   exact pmore mixed lives 11 (by kernel_rfl) (pk <| pb c23 <| pk2 <| pb (whole_ok (List.length x0)) <| pc (hold_Places_Node_ok _ _ _ _ h25) <| pk <| pn c26 <| pn c27 <| pk <| pe (eff_lit o_u32 (0#32) 11 1 1 ([List.getD x1 (Int.toNat v24) (0#32)]) rfl [] []) <| pb (whole_ok (List.length ([List.getD x1 (Int.toNat v24) (0#32)]))) <| pn c28 <| pe (eff_app o_u32 (0#32) x3 ([List.getD x1 (Int.toNat v24) (0#32)]) (x3 ++ ([List.getD x1 (Int.toNat v24) (0#32)])) 5 1 (List.length x3) (List.length ([List.getD x1 (Int.toNat v24) (0#32)])) (fun i => List.map AV.scal (encW o_u32 (0#32) ([List.getD x1 (Int.toNat v24) (0#32)]) i)) (encW o_u32 (0#32) x3 (List.length x3)) [] [] [(5, false)] (by first | exact Nat.le_refl _ | exact Nat.zero_le _ | (simp only [decide_eq_true_eq, List.length_set, List.length_append, List.length_replicate, List.length_cons, List.length_nil, Nat.zero_add] at * <;> omega)) rfl (fun _ => by kernel_rfl) (congrArg o_u32 (getD_ge (0#32) (by first | exact Nat.le_refl _ | exact Nat.zero_le _ | (simp only [decide_eq_true_eq, List.length_set, List.length_append, List.length_replicate, List.length_cons, List.length_nil, Nat.zero_add] at * <;> omega)))) (by rw [List.take_of_length_le (by first | exact Nat.le_refl _ | exact Nat.zero_le _ | (simp only [decide_eq_true_eq, List.length_set, List.length_append, List.length_replicate, List.length_cons, List.length_nil, Nat.zero_add] at * <;> omega))])) <| pk2 <| pz) (ih (x3 ++ ([List.getD x1 (Int.toNat v24) (0#32)])) (iAdd x14 1) _ h)
 · have h := Option.some.inj h; subst h
   exact plast mixed lives 11 (by kernel_rfl) (pk <| pb c23 <| pz) rfl
noncomputable def hold_Find_l8_c : Code := sub (codeOf Try.prog 11) [1, 1, 1, 1, 1, 1, 0, 1, 0, 0]
def hold_Find_l8 (x0 : List Int) (x1 : List (BitVec 32)) (x2 : List api_Section) (x3 : List (List api_Node)) (x4 : Int) (x5 : Int) : Option ((List api_Section)) :=
  if (decide ((x5 : Int) < x4)) = true then
    if (decide ((0 : Int) ≤ x5)) = true then
      if (decide ((x5 : Int) < ((List.length x3 : Nat) : Int))) = true then
        bind (hold_Places_Entry (hold_Places.mk x0) x5) fun v13 =>
        if (decide ((0 : Int) ≤ v13)) = true then
          if (decide ((v13 : Int) < (((List.length x1) : Nat) : Int))) = true then
            bind (hold_Places_Exit (hold_Places.mk x0) x5) fun v17 =>
            if (decide ((0 : Int) ≤ v17)) = true then
              if (decide ((v17 : Int) < (((List.length x1) : Nat) : Int))) = true then
                if (decide ((0 : Int) ≤ (((List.length (List.getD x3 (Int.toNat x5) (([] : List api_Node))) : Nat) : Int)))) = true then
                  if (decide (((((List.length (List.getD x3 (Int.toNat x5) (([] : List api_Node))) : Nat) : Int)) : Int) * ((4 : Nat) : Int) ≤ ((reach : Nat) : Int))) = true then
                    bind (hold_Find_l12 x0 x1 x2 (([] : List (BitVec 32))) (List.replicate (Int.toNat (((List.length (List.getD x3 (Int.toNat x5) (([] : List api_Node))) : Nat) : Int))) (0#32)) (List.getD x1 (Int.toNat v13) (0#32)) (List.getD x1 (Int.toNat v17) (0#32)) (0#32) (0#32) x5 x3 x4 x5 (((List.length (List.getD x3 (Int.toNat x5) (([] : List api_Node))) : Nat) : Int)) 0) fun v29 =>
                    if (Nat.ble ((List.length x2 + List.length ([api_Section.mk (List.getD x1 (Int.toNat v13) (0#32)) (List.getD x1 (Int.toNat v17) (0#32)) v29 (0#32) (0#32) (List.replicate (Int.toNat (((List.length (List.getD x3 (Int.toNat x5) (([] : List api_Node))) : Nat) : Int))) (0#32))])) * 64) reach) = true then
                      hold_Find_l8 x0 x1 (x2 ++ ([api_Section.mk (List.getD x1 (Int.toNat v13) (0#32)) (List.getD x1 (Int.toNat v17) (0#32)) v29 (0#32) (0#32) (List.replicate (Int.toNat (((List.length (List.getD x3 (Int.toNat x5) (([] : List api_Node))) : Nat) : Int))) (0#32))])) x3 x4 (iAdd x5 1)
                    else none
                  else none
                else none
              else none
            else none
          else none
        else none
      else none
    else none
  else
    some x2
partial_fixpoint
noncomputable abbrev hold_Find_l8_s (x0 : List Int) (x1 : List (BitVec 32)) (x2 : List api_Section) (x3 : List (List api_Node)) (x4 : Int) (x5 : Int) : St := ⟨(List.replicate 6 dead ++ (.ptr 0 [] 0 0 :: dead :: .ms 2 [] 0 (List.length x1) :: .ms 3 [] 0 (List.length x2) :: (List.replicate 24 dead ++ (.pv (.seq (List.length x3) (encP e_62 ([] : List api_Node) x3)) :: .pv (.int .i64 x4) :: .pv (.int .i64 x5) :: List.replicate 44 dead)))), [.box 0 [.ms 1 [] 0 (List.length x0)], .arr 0 1 (List.length x0) (encW o_i64 0 x0), .arr 0 1 (List.length x1) (encW o_u32 0#32 x1), .arr 0 6 (List.length x2) (encW o_api_Section d_api_Section x2)]⟩
noncomputable abbrev hold_Find_l8_e (x0 : List Int) (x1 : List (BitVec 32)) (x2 : List api_Section) (x3 : List (List api_Node)) (x4 : Int) (x5 : Int) (r : (List api_Section)) : St := ⟨(List.replicate 9 dead ++ (.ms 0 [] 0 (List.length r) :: List.replicate 71 dead)), [.arr 0 6 (List.length r) (encW o_api_Section d_api_Section r)]⟩
theorem hold_Find_l8_ok (x0 : List Int) (x1 : List (BitVec 32)) (x2 : List api_Section) (x3 : List (List api_Node)) (x4 : Int) (x5 : Int) (r : (List api_Section)) (h : hold_Find_l8 x0 x1 x2 x3 x4 x5 = some r) : Loops Try.prog hold_Find_l8_c 0 (hold_Find_l8_s x0 x1 x2 x3 x4 x5) (.exit 0) (hold_Find_l8_e x0 x1 x2 x3 x4 x5 r) := by
 refine hold_Find_l8.partial_correctness x0 x1 x3 x4 (fun x2 x5 r => Loops Try.prog hold_Find_l8_c 0 (hold_Find_l8_s x0 x1 x2 x3 x4 x5) (.exit 0) (hold_Find_l8_e x0 x1 x2 x3 x4 x5 r)) ?_ x2 x5 r h
 clear h r x2 x5
 intro self ih x2 x5 r h
 rcases if_of h with ⟨c10, h⟩ | ⟨c10, h⟩
 · obtain ⟨c11, h⟩ := need_of h
   obtain ⟨c12, h⟩ := need_of h
   obtain ⟨v13, h14, h⟩ := bind_of h
   obtain ⟨c15, h⟩ := need_of h
   obtain ⟨c16, h⟩ := need_of h
   obtain ⟨v17, h18, h⟩ := bind_of h
   obtain ⟨c19, h⟩ := need_of h
   obtain ⟨c20, h⟩ := need_of h
   obtain ⟨c21, h⟩ := need_of h
   obtain ⟨c22, h⟩ := need_of h
   obtain ⟨v29, h30, h⟩ := bind_of h
   obtain ⟨c31, h⟩ := need_of h
   exact pmore mixed lives 11 (by kernel_rfl) (pk <| pb c10 <| pn c11 <| pn c12 <| pk2 <| pb (whole_ok (List.length x0)) <| pc (hold_Places_Entry_ok _ _ _ h14) <| pk <| pn c15 <| pn c16 <| pk2 <| pb (whole_ok (List.length x0)) <| pc (hold_Places_Exit_ok _ _ _ h18) <| pk <| pn c19 <| pn c20 <| pk2 <| pn c21 <| pn ((decide_eq_true rfl) : (decide (((((List.length (List.getD x3 (Int.toNat x5) (([] : List api_Node))) : Nat) : Int)) : Int) = (((List.length (List.getD x3 (Int.toNat x5) (([] : List api_Node))) : Nat) : Int)))) = true) <| pn c22 <| pe (eff_make o_u32 (0#32) 12 1 (Int.toNat (((List.length (List.getD x3 (Int.toNat x5) (([] : List api_Node))) : Nat) : Int)))) <| pk4 <| pl (Loops.of (s1 := ⟨(List.replicate 6 dead ++ (.ptr 0 [] 0 0 :: dead :: .ms 2 [] 0 (List.length x1) :: .ms 3 [] 0 (List.length x2) :: .pv (.int .i64 x5) :: dead :: .ptr 4 [] 0 0 :: (List.replicate 21 dead ++ (.pv (.seq (List.length x3) (encP e_62 ([] : List api_Node) x3)) :: .pv (.int .i64 x4) :: .pv (.int .i64 x5) :: (List.replicate 21 dead ++ (.pv (.int .i64 (((List.length (List.getD x3 (Int.toNat x5) (([] : List api_Node))) : Nat) : Int))) :: .pv (.int .i64 0) :: List.replicate 21 dead)))))), [.box 0 [.ms 1 [] 0 (List.length x0)], .arr 0 1 (List.length x0) (encW o_i64 0 x0), .arr 0 1 (List.length x1) (encW o_u32 0#32 x1), .arr 0 6 (List.length x2) (encW o_api_Section d_api_Section x2), .box 0 [.pv (.int .u32 (BitVec.toNat (List.getD x1 (Int.toNat v13) (0#32)) : Nat)), .pv (.int .u32 (BitVec.toNat (List.getD x1 (Int.toNat v17) (0#32)) : Nat)), .ms 5 [] 0 (List.length ([] : List (BitVec 32))), .pv (.int .u32 (BitVec.toNat (0#32) : Nat)), .pv (.int .u32 (BitVec.toNat (0#32) : Nat)), .ms 6 [] 0 (List.length (List.replicate (Int.toNat (((List.length (List.getD x3 (Int.toNat x5) (([] : List api_Node))) : Nat) : Int))) (0#32)))], .arr 0 1 (List.length ([] : List (BitVec 32))) (encW o_u32 0#32 (([] : List (BitVec 32)))), .arr 0 1 (List.length (List.replicate (Int.toNat (((List.length (List.getD x3 (Int.toNat x5) (([] : List api_Node))) : Nat) : Int))) (0#32))) (encW o_u32 0#32 (List.replicate (Int.toNat (((List.length (List.getD x3 (Int.toNat x5) (([] : List api_Node))) : Nat) : Int))) (0#32)))]⟩) (hold_Find_l12_ok _ _ _ _ _ _ _ _ _ _ _ _ _ _ _ _ h30) (by (first | rfl | (simp only [hold_Find_l12_s, List.length_set]; done)))) <| pk <| pb (whole_ok (List.length v29)) <| pb (whole_ok (List.length (List.replicate (Int.toNat (((List.length (List.getD x3 (Int.toNat x5) (([] : List api_Node))) : Nat) : Int))) (0#32)))) <| pe (eff_lit o_api_Section d_api_Section 7 6 1 ([api_Section.mk (List.getD x1 (Int.toNat v13) (0#32)) (List.getD x1 (Int.toNat v17) (0#32)) v29 (0#32) (0#32) (List.replicate (Int.toNat (((List.length (List.getD x3 (Int.toNat x5) (([] : List api_Node))) : Nat) : Int))) (0#32))]) rfl [(5, .gone), (6, .gone)] [(5, false), (6, false)]) <| pb (whole_ok (List.length ([api_Section.mk (List.getD x1 (Int.toNat v13) (0#32)) (List.getD x1 (Int.toNat v17) (0#32)) v29 (0#32) (0#32) (List.replicate (Int.toNat (((List.length (List.getD x3 (Int.toNat x5) (([] : List api_Node))) : Nat) : Int))) (0#32))]))) <| pn c31 <| pe (eff_app o_api_Section d_api_Section x2 ([api_Section.mk (List.getD x1 (Int.toNat v13) (0#32)) (List.getD x1 (Int.toNat v17) (0#32)) v29 (0#32) (0#32) (List.replicate (Int.toNat (((List.length (List.getD x3 (Int.toNat x5) (([] : List api_Node))) : Nat) : Int))) (0#32))]) (x2 ++ ([api_Section.mk (List.getD x1 (Int.toNat v13) (0#32)) (List.getD x1 (Int.toNat v17) (0#32)) v29 (0#32) (0#32) (List.replicate (Int.toNat (((List.length (List.getD x3 (Int.toNat x5) (([] : List api_Node))) : Nat) : Int))) (0#32))])) 3 6 (List.length x2) (List.length ([api_Section.mk (List.getD x1 (Int.toNat v13) (0#32)) (List.getD x1 (Int.toNat v17) (0#32)) v29 (0#32) (0#32) (List.replicate (Int.toNat (((List.length (List.getD x3 (Int.toNat x5) (([] : List api_Node))) : Nat) : Int))) (0#32))])) (encW o_api_Section d_api_Section ([api_Section.mk (List.getD x1 (Int.toNat v13) (0#32)) (List.getD x1 (Int.toNat v17) (0#32)) v29 (0#32) (0#32) (List.replicate (Int.toNat (((List.length (List.getD x3 (Int.toNat x5) (([] : List api_Node))) : Nat) : Int))) (0#32))])) (encW o_api_Section d_api_Section x2 (List.length x2)) [] [(7, .gone)] [(3, false), (7, false)] (by first | exact Nat.le_refl _ | exact Nat.zero_le _ | (simp only [decide_eq_true_eq, List.length_set, List.length_append, List.length_replicate, List.length_cons, List.length_nil, Nat.zero_add] at * <;> omega)) rfl (fun _ => rfl) (congrArg o_api_Section (getD_ge d_api_Section (by first | exact Nat.le_refl _ | exact Nat.zero_le _ | (simp only [decide_eq_true_eq, List.length_set, List.length_append, List.length_replicate, List.length_cons, List.length_nil, Nat.zero_add] at * <;> omega)))) (by rw [List.take_of_length_le (by first | exact Nat.le_refl _ | exact Nat.zero_le _ | (simp only [decide_eq_true_eq, List.length_set, List.length_append, List.length_replicate, List.length_cons, List.length_nil, Nat.zero_add] at * <;> omega))])) <| pk <| pz) (ih (x2 ++ ([api_Section.mk (List.getD x1 (Int.toNat v13) (0#32)) (List.getD x1 (Int.toNat v17) (0#32)) v29 (0#32) (0#32) (List.replicate (Int.toNat (((List.length (List.getD x3 (Int.toNat x5) (([] : List api_Node))) : Nat) : Int))) (0#32))])) (iAdd x5 1) _ h)
 · have h := Option.some.inj h; subst h
   exact plast mixed lives 11 (by kernel_rfl) (pk <| pb c10 <| pz) rfl
/-- alibi/hold.Find -/
def hold_Find (p : api_Program) : Option (Int × (List api_Section)) :=
  bind (hold_Rules p) fun v1 =>
  if ((v1.1 : Int) != 0) = true then
    some (v1.1, ([] : List api_Section))
  else
    bind (hold_Lay p) fun v4 =>
    bind (sets_All p.locks) fun v6 =>
    bind (flow_Greatest v4.1 v6 v1.2) fun v8 =>
    bind (hold_Find_l8 v4.2 v8 (([] : List api_Section)) p.funcs (((List.length p.funcs : Nat) : Int)) 0) fun v32 =>
    some (0, v32)
theorem hold_Find_ok (p : api_Program) (r : Int × (List api_Section)) (h : hold_Find p = some r) : Does Try.prog 11 [.agg [.pv (.int .i64 p.globals), .pv (.int .i64 p.locks), .pv (.int .i64 p.slots), .pv (.seq (List.length p.funcs) (encP e_62 ([] : List api_Node) p.funcs))]] [] (.tup [.ms 0 [] 0 (List.length r.2), .pv (.int .i64 r.1)], [.arr 0 6 (List.length r.2) (encW o_api_Section d_api_Section r.2)]) := by
 unfold hold_Find at h
 obtain ⟨v1, h2, h⟩ := bind_of h
 rcases if_of h with ⟨c3, h⟩ | ⟨c3, h⟩
 · have h := Option.some.inj h; subst h
   refine Does.eq (pdoes mixed (L := lives) (r := (.tup [.ms 0 [] 0 (List.length ([] : List api_Section)), .pv (.int .i64 v1.1)], [.arr 0 6 (List.length ([] : List api_Section)) (encW o_api_Section d_api_Section (([] : List api_Section)))])) (by kernel_rfl) (pk2 <| pc (hold_Rules_ok _ _ h2) <| pk2 <| pb c3 <| pz)) ?_
   (first | rfl | (simp only [List.length_set]; done))
 · obtain ⟨v4, h5, h⟩ := bind_of h
   obtain ⟨v6, h7, h⟩ := bind_of h
   obtain ⟨v8, h9, h⟩ := bind_of h
   obtain ⟨v32, h33, h⟩ := bind_of h
   have h := Option.some.inj h; subst h
   exact pdoes mixed (L := lives) (by kernel_rfl) (pk2 <| pc (hold_Rules_ok _ _ h2) <| pk2 <| pb c3 <| pk <| pc (hold_Lay_ok _ _ h5) <| pk4 <| pc (sets_All_ok _ _ h7) <| pk <| pb (whole_ok (List.length v1.2)) <| pc (flow_Greatest_ok _ _ _ _ h9) <| pk3 <| pl (Loops.of (s1 := ⟨(List.replicate 6 dead ++ (.ptr 0 [] 0 0 :: dead :: .ms 2 [] 0 (List.length v8) :: .ms 3 [] 0 (List.length ([] : List api_Section)) :: (List.replicate 24 dead ++ (.pv (.seq (List.length p.funcs) (encP e_62 ([] : List api_Node) p.funcs)) :: .pv (.int .i64 (((List.length p.funcs : Nat) : Int))) :: .pv (.int .i64 0) :: List.replicate 44 dead)))), [.box 0 [.ms 1 [] 0 (List.length v4.2)], .arr 0 1 (List.length v4.2) (encW o_i64 0 v4.2), .arr 0 1 (List.length v8) (encW o_u32 0#32 v8), .arr 0 6 (List.length ([] : List api_Section)) (encW o_api_Section d_api_Section (([] : List api_Section)))]⟩) (hold_Find_l8_ok _ _ _ _ _ _ _ h33) (by (first | rfl | (simp only [hold_Find_l8_s, List.length_set]; done)))) <| pz)
/-- alibi/alibilaw22.awake -/
def alibilaw22_awake : Option (Bool) :=
  bind (hold_Find (api_Program.mk 0 1 0 ([[api_Node.mk 3 0 1 0, api_Node.mk 9 0 0 0]]))) fun v1 =>
  if ((v1.1 : Int) == 0) = true then
    if ((((((List.length v1.2) : Nat) : Int)) : Int) == 1) = true then
      if (decide ((0 : Int) < (((List.length v1.2) : Nat) : Int))) = true then
        if ((((((List.length ((List.getD v1.2 0 d_api_Section).held)) : Nat) : Int)) : Int) == 2) = true then
          if (decide ((0 : Int) < (((List.length ((List.getD v1.2 0 d_api_Section).held)) : Nat) : Int))) = true then
            if ((List.getD ((List.getD v1.2 0 d_api_Section).held) 0 (0#32)) == (0#32)) = true then
              if (decide ((1 : Int) < (((List.length ((List.getD v1.2 0 d_api_Section).held)) : Nat) : Int))) = true then
                if ((List.getD ((List.getD v1.2 0 d_api_Section).held) 1 (0#32)) == (1#32)) = true then
                  some (((List.getD v1.2 0 d_api_Section).exit) == (1#32))
                else
                  some false
              else none
            else
              some false
          else none
        else
          some false
      else none
    else
      some false
  else
    some false
theorem alibilaw22_awake_ok (r : Bool) (h : alibilaw22_awake = some r) : Does Try.prog 9 [] [] (.pv (.bool r), []) := by
 unfold alibilaw22_awake at h
 obtain ⟨v1, h2, h⟩ := bind_of h
 rcases if_of h with ⟨c3, h⟩ | ⟨c3, h⟩
 · rcases if_of h with ⟨c4, h⟩ | ⟨c4, h⟩
   · obtain ⟨c5, h⟩ := need_of h
     rcases if_of h with ⟨c6, h⟩ | ⟨c6, h⟩
     · obtain ⟨c7, h⟩ := need_of h
       rcases if_of h with ⟨c8, h⟩ | ⟨c8, h⟩
       · obtain ⟨c9, h⟩ := need_of h
         rcases if_of h with ⟨c10, h⟩ | ⟨c10, h⟩
         · have h := Option.some.inj h; subst h
           exact pdoes mixed (L := lives) (by kernel_rfl) (pk2 <| pe (eff_lit o_api_Node d_api_Node 0 4 2 ([api_Node.mk 3 0 1 0, api_Node.mk 9 0 0 0]) rfl [] []) <| pb (whole_ok (List.length ([api_Node.mk 3 0 1 0, api_Node.mk 9 0 0 0]))) <| pe (eff_lit o_62 (([] : List api_Node)) 1 1 1 ([[api_Node.mk 3 0 1 0, api_Node.mk 9 0 0 0]]) rfl [(0, .gone)] [(0, false)]) <| pk <| pb (whole_ok (List.length ([[api_Node.mk 3 0 1 0, api_Node.mk 9 0 0 0]]))) <| pc (Does.of (args' := [.agg [.pv (.int .i64 0), .pv (.int .i64 1), .pv (.int .i64 0), .pv (.seq (List.length ([[api_Node.mk 3 0 1 0, api_Node.mk 9 0 0 0]])) (encP e_62 (([] : List api_Node)) ([[api_Node.mk 3 0 1 0, api_Node.mk 9 0 0 0]])))]]) (H' := []) (hold_Find_ok _ _ h2) (by (first | rfl | (simp only [List.length_set]; done)))) <| pk2 <| pb c3 <| pk5 <| pb c4 <| pk <| pn (rfl : (decide ((0 : Int) ≤ 0)) = true) <| pn c5 <| pk8 <| pb c6 <| pk <| pn (rfl : (decide ((0 : Int) ≤ 0)) = true) <| pn c5 <| pk4 <| pn (rfl : (decide ((0 : Int) ≤ 0)) = true) <| pn c7 <| pk3 <| pe (eff_bool (un_eql (List.getD ((List.getD v1.2 0 d_api_Section).held) 0 (0#32)) (0#32))) <| pk <| pb c8 <| pk <| pn (rfl : (decide ((0 : Int) ≤ 0)) = true) <| pn c5 <| pk4 <| pn (rfl : (decide ((0 : Int) ≤ 1)) = true) <| pn c9 <| pk3 <| pe (eff_bool (un_eql (List.getD ((List.getD v1.2 0 d_api_Section).held) 1 (0#32)) (1#32))) <| pk <| pb c10 <| pk <| pn (rfl : (decide ((0 : Int) ≤ 0)) = true) <| pn c5 <| pk4 <| pe (eff_bool (un_eql ((List.getD v1.2 0 d_api_Section).exit) (1#32))) <| pk <| pz)
         · have h := Option.some.inj h; subst h
           exact pdoes mixed (L := lives) (by kernel_rfl) (pk2 <| pe (eff_lit o_api_Node d_api_Node 0 4 2 ([api_Node.mk 3 0 1 0, api_Node.mk 9 0 0 0]) rfl [] []) <| pb (whole_ok (List.length ([api_Node.mk 3 0 1 0, api_Node.mk 9 0 0 0]))) <| pe (eff_lit o_62 (([] : List api_Node)) 1 1 1 ([[api_Node.mk 3 0 1 0, api_Node.mk 9 0 0 0]]) rfl [(0, .gone)] [(0, false)]) <| pk <| pb (whole_ok (List.length ([[api_Node.mk 3 0 1 0, api_Node.mk 9 0 0 0]]))) <| pc (Does.of (args' := [.agg [.pv (.int .i64 0), .pv (.int .i64 1), .pv (.int .i64 0), .pv (.seq (List.length ([[api_Node.mk 3 0 1 0, api_Node.mk 9 0 0 0]])) (encP e_62 (([] : List api_Node)) ([[api_Node.mk 3 0 1 0, api_Node.mk 9 0 0 0]])))]]) (H' := []) (hold_Find_ok _ _ h2) (by (first | rfl | (simp only [List.length_set]; done)))) <| pk2 <| pb c3 <| pk5 <| pb c4 <| pk <| pn (rfl : (decide ((0 : Int) ≤ 0)) = true) <| pn c5 <| pk8 <| pb c6 <| pk <| pn (rfl : (decide ((0 : Int) ≤ 0)) = true) <| pn c5 <| pk4 <| pn (rfl : (decide ((0 : Int) ≤ 0)) = true) <| pn c7 <| pk3 <| pe (eff_bool (un_eql (List.getD ((List.getD v1.2 0 d_api_Section).held) 0 (0#32)) (0#32))) <| pk <| pb c8 <| pk <| pn (rfl : (decide ((0 : Int) ≤ 0)) = true) <| pn c5 <| pk4 <| pn (rfl : (decide ((0 : Int) ≤ 1)) = true) <| pn c9 <| pk3 <| pe (eff_bool (un_eql (List.getD ((List.getD v1.2 0 d_api_Section).held) 1 (0#32)) (1#32))) <| pk <| pb c10 <| pk5 <| pz)
       · have h := Option.some.inj h; subst h
         exact pdoes mixed (L := lives) (by kernel_rfl) (pk2 <| pe (eff_lit o_api_Node d_api_Node 0 4 2 ([api_Node.mk 3 0 1 0, api_Node.mk 9 0 0 0]) rfl [] []) <| pb (whole_ok (List.length ([api_Node.mk 3 0 1 0, api_Node.mk 9 0 0 0]))) <| pe (eff_lit o_62 (([] : List api_Node)) 1 1 1 ([[api_Node.mk 3 0 1 0, api_Node.mk 9 0 0 0]]) rfl [(0, .gone)] [(0, false)]) <| pk <| pb (whole_ok (List.length ([[api_Node.mk 3 0 1 0, api_Node.mk 9 0 0 0]]))) <| pc (Does.of (args' := [.agg [.pv (.int .i64 0), .pv (.int .i64 1), .pv (.int .i64 0), .pv (.seq (List.length ([[api_Node.mk 3 0 1 0, api_Node.mk 9 0 0 0]])) (encP e_62 (([] : List api_Node)) ([[api_Node.mk 3 0 1 0, api_Node.mk 9 0 0 0]])))]]) (H' := []) (hold_Find_ok _ _ h2) (by (first | rfl | (simp only [List.length_set]; done)))) <| pk2 <| pb c3 <| pk5 <| pb c4 <| pk <| pn (rfl : (decide ((0 : Int) ≤ 0)) = true) <| pn c5 <| pk8 <| pb c6 <| pk <| pn (rfl : (decide ((0 : Int) ≤ 0)) = true) <| pn c5 <| pk4 <| pn (rfl : (decide ((0 : Int) ≤ 0)) = true) <| pn c7 <| pk3 <| pe (eff_bool (un_eql (List.getD ((List.getD v1.2 0 d_api_Section).held) 0 (0#32)) (0#32))) <| pk <| pb c8 <| pk8 <| pk5 <| pz)
     · have h := Option.some.inj h; subst h
       exact pdoes mixed (L := lives) (by kernel_rfl) (pk2 <| pe (eff_lit o_api_Node d_api_Node 0 4 2 ([api_Node.mk 3 0 1 0, api_Node.mk 9 0 0 0]) rfl [] []) <| pb (whole_ok (List.length ([api_Node.mk 3 0 1 0, api_Node.mk 9 0 0 0]))) <| pe (eff_lit o_62 (([] : List api_Node)) 1 1 1 ([[api_Node.mk 3 0 1 0, api_Node.mk 9 0 0 0]]) rfl [(0, .gone)] [(0, false)]) <| pk <| pb (whole_ok (List.length ([[api_Node.mk 3 0 1 0, api_Node.mk 9 0 0 0]]))) <| pc (Does.of (args' := [.agg [.pv (.int .i64 0), .pv (.int .i64 1), .pv (.int .i64 0), .pv (.seq (List.length ([[api_Node.mk 3 0 1 0, api_Node.mk 9 0 0 0]])) (encP e_62 (([] : List api_Node)) ([[api_Node.mk 3 0 1 0, api_Node.mk 9 0 0 0]])))]]) (H' := []) (hold_Find_ok _ _ h2) (by (first | rfl | (simp only [List.length_set]; done)))) <| pk2 <| pb c3 <| pk5 <| pb c4 <| pk <| pn (rfl : (decide ((0 : Int) ≤ 0)) = true) <| pn c5 <| pk8 <| pb c6 <| pk8 <| pk8 <| pk5 <| pz)
   · have h := Option.some.inj h; subst h
     exact pdoes mixed (L := lives) (by kernel_rfl) (pk2 <| pe (eff_lit o_api_Node d_api_Node 0 4 2 ([api_Node.mk 3 0 1 0, api_Node.mk 9 0 0 0]) rfl [] []) <| pb (whole_ok (List.length ([api_Node.mk 3 0 1 0, api_Node.mk 9 0 0 0]))) <| pe (eff_lit o_62 (([] : List api_Node)) 1 1 1 ([[api_Node.mk 3 0 1 0, api_Node.mk 9 0 0 0]]) rfl [(0, .gone)] [(0, false)]) <| pk <| pb (whole_ok (List.length ([[api_Node.mk 3 0 1 0, api_Node.mk 9 0 0 0]]))) <| pc (Does.of (args' := [.agg [.pv (.int .i64 0), .pv (.int .i64 1), .pv (.int .i64 0), .pv (.seq (List.length ([[api_Node.mk 3 0 1 0, api_Node.mk 9 0 0 0]])) (encP e_62 (([] : List api_Node)) ([[api_Node.mk 3 0 1 0, api_Node.mk 9 0 0 0]])))]]) (H' := []) (hold_Find_ok _ _ h2) (by (first | rfl | (simp only [List.length_set]; done)))) <| pk2 <| pb c3 <| pk5 <| pb c4 <| pk8 <| pk8 <| pk8 <| pk4 <| pz)
 · have h := Option.some.inj h; subst h
   exact pdoes mixed (L := lives) (by kernel_rfl) (pk2 <| pe (eff_lit o_api_Node d_api_Node 0 4 2 ([api_Node.mk 3 0 1 0, api_Node.mk 9 0 0 0]) rfl [] []) <| pb (whole_ok (List.length ([api_Node.mk 3 0 1 0, api_Node.mk 9 0 0 0]))) <| pe (eff_lit o_62 (([] : List api_Node)) 1 1 1 ([[api_Node.mk 3 0 1 0, api_Node.mk 9 0 0 0]]) rfl [(0, .gone)] [(0, false)]) <| pk <| pb (whole_ok (List.length ([[api_Node.mk 3 0 1 0, api_Node.mk 9 0 0 0]]))) <| pc (Does.of (args' := [.agg [.pv (.int .i64 0), .pv (.int .i64 1), .pv (.int .i64 0), .pv (.seq (List.length ([[api_Node.mk 3 0 1 0, api_Node.mk 9 0 0 0]])) (encP e_62 (([] : List api_Node)) ([[api_Node.mk 3 0 1 0, api_Node.mk 9 0 0 0]])))]]) (H' := []) (hold_Find_ok _ _ h2) (by (first | rfl | (simp only [List.length_set]; done)))) <| pk2 <| pb c3 <| pk8 <| pk8 <| pk8 <| pk8 <| pz)
noncomputable def alibilaw22_small_l3_c : Code := sub (codeOf Try.prog 10) [1, 1, 0, 1, 0, 0]
def alibilaw22_small_l3 (x0 : Int) (x1 : Int) (x2 : Int) (x3 : List (List api_Node)) (x4 : Int) (x5 : Int) : Option (Int) :=
  if (decide ((x5 : Int) < (((List.length x3 : Nat) : Int)))) = true then
    if (decide ((0 : Int) ≤ x5)) = true then
      if (decide ((x5 : Int) < ((List.length x3 : Nat) : Int))) = true then
        alibilaw22_small_l3 x0 x1 x2 x3 (iAdd x4 (((List.length (List.getD x3 (Int.toNat x5) (([] : List api_Node))) : Nat) : Int))) (iAdd x5 1)
      else none
    else none
  else
    some x4
partial_fixpoint
noncomputable abbrev alibilaw22_small_l3_s (x0 : Int) (x1 : Int) (x2 : Int) (x3 : List (List api_Node)) (x4 : Int) (x5 : Int) : St := ⟨dead :: .ptr 0 [] 0 0 :: dead :: .pv (.int .i64 x4) :: .pv (.int .i64 x5) :: List.replicate 21 dead, [.box 0 [.pv (.int .i64 x0), .pv (.int .i64 x1), .pv (.int .i64 x2), .pv (.seq (List.length x3) (encP e_62 ([] : List api_Node) x3))]]⟩
noncomputable abbrev alibilaw22_small_l3_e (x0 : Int) (x1 : Int) (x2 : Int) (x3 : List (List api_Node)) (x4 : Int) (x5 : Int) (r : Int) : St := ⟨dead :: .ptr 0 [] 0 0 :: dead :: .pv (.int .i64 r) :: List.replicate 22 dead, [.box 0 [.pv (.int .i64 x0), .pv (.int .i64 x1), .pv (.int .i64 x2), .pv (.seq (List.length x3) (encP e_62 ([] : List api_Node) x3))]]⟩
theorem alibilaw22_small_l3_ok (x0 : Int) (x1 : Int) (x2 : Int) (x3 : List (List api_Node)) (x4 : Int) (x5 : Int) (r : Int) (h : alibilaw22_small_l3 x0 x1 x2 x3 x4 x5 = some r) : Loops Try.prog alibilaw22_small_l3_c 0 (alibilaw22_small_l3_s x0 x1 x2 x3 x4 x5) (.exit 0) (alibilaw22_small_l3_e x0 x1 x2 x3 x4 x5 r) := by
 refine alibilaw22_small_l3.partial_correctness x0 x1 x2 x3 (fun x4 x5 r => Loops Try.prog alibilaw22_small_l3_c 0 (alibilaw22_small_l3_s x0 x1 x2 x3 x4 x5) (.exit 0) (alibilaw22_small_l3_e x0 x1 x2 x3 x4 x5 r)) ?_ x4 x5 r h
 clear h r x4 x5
 intro self ih x4 x5 r h
 rcases if_of h with ⟨c1, h⟩ | ⟨c1, h⟩
 · obtain ⟨c2, h⟩ := need_of h
   obtain ⟨c3, h⟩ := need_of h
   exact pmore mixed lives 10 (by kernel_rfl) (pk3 <| pb c1 <| pk <| pn c2 <| pn c3 <| pk4 <| pz) (ih (iAdd x4 (((List.length (List.getD x3 (Int.toNat x5) (([] : List api_Node))) : Nat) : Int))) (iAdd x5 1) _ h)
 · have h := Option.some.inj h; subst h
   exact plast mixed lives 10 (by kernel_rfl) (pk3 <| pb c1 <| pz) rfl
noncomputable def alibiref05_Small_l4_c : Code := sub (codeOf Try.prog 14) [1, 1, 0, 1, 0, 0]
inductive alibiref05_Small_l4_R where
  | x0 (v0 : Bool)
  | x1
def alibiref05_Small_l4_R.ex : alibiref05_Small_l4_R → Ex
  | .x0 _ => .ret
  | .x1 => .exit 0
noncomputable def alibiref05_Small_l4_R.st (x0 : Int) (x1 : Int) (x2 : Int) (x3 : List (List api_Node)) (x4 : Int) : alibiref05_Small_l4_R → St
  | .x0 v0 => ⟨dead :: dead :: .pv (.bool v0) :: List.replicate 19 dead, []⟩
  | .x1 => ⟨List.replicate 22 dead, []⟩
def alibiref05_Small_l4 (x0 : Int) (x1 : Int) (x2 : Int) (x3 : List (List api_Node)) (x4 : Int) : Option (alibiref05_Small_l4_R) :=
  if (decide ((x4 : Int) < (((List.length x3 : Nat) : Int)))) = true then
    if (decide ((0 : Int) ≤ x4)) = true then
      if (decide ((x4 : Int) < ((List.length x3 : Nat) : Int))) = true then
        if (decide (((((List.length (List.getD x3 (Int.toNat x4) (([] : List api_Node))) : Nat) : Int)) : Int) > 100)) = true then
          some (.x0 false)
        else
          alibiref05_Small_l4 x0 x1 x2 x3 (iAdd x4 1)
      else none
    else none
  else
    some (.x1)
partial_fixpoint
noncomputable abbrev alibiref05_Small_l4_s (x0 : Int) (x1 : Int) (x2 : Int) (x3 : List (List api_Node)) (x4 : Int) : St := ⟨dead :: .ptr 0 [] 0 0 :: dead :: .pv (.int .i64 x4) :: List.replicate 18 dead, [.box 0 [.pv (.int .i64 x0), .pv (.int .i64 x1), .pv (.int .i64 x2), .pv (.seq (List.length x3) (encP e_62 ([] : List api_Node) x3))]]⟩
theorem alibiref05_Small_l4_ok (x0 : Int) (x1 : Int) (x2 : Int) (x3 : List (List api_Node)) (x4 : Int) (r : alibiref05_Small_l4_R) (h : alibiref05_Small_l4 x0 x1 x2 x3 x4 = some r) : Loops Try.prog alibiref05_Small_l4_c 0 (alibiref05_Small_l4_s x0 x1 x2 x3 x4) r.ex (alibiref05_Small_l4_R.st x0 x1 x2 x3 x4 r) := by
 refine alibiref05_Small_l4.partial_correctness x0 x1 x2 x3 (fun x4 r => Loops Try.prog alibiref05_Small_l4_c 0 (alibiref05_Small_l4_s x0 x1 x2 x3 x4) r.ex (alibiref05_Small_l4_R.st x0 x1 x2 x3 x4 r)) ?_ x4 r h
 clear h r x4
 intro self ih x4 r h
 rcases if_of h with ⟨c2, h⟩ | ⟨c2, h⟩
 · obtain ⟨c3, h⟩ := need_of h
   obtain ⟨c4, h⟩ := need_of h
   rcases if_of h with ⟨c5, h⟩ | ⟨c5, h⟩
   · have h := Option.some.inj h; subst h
     exact plast mixed lives 14 (by kernel_rfl) (pk3 <| pb c2 <| pk <| pn c3 <| pn c4 <| pk3 <| pb c5 <| pz) rfl
   · exact pmore mixed lives 14 (by kernel_rfl) (pk3 <| pb c2 <| pk <| pn c3 <| pn c4 <| pk3 <| pb c5 <| pk <| pz) (ih (iAdd x4 1) _ h)
 · have h := Option.some.inj h; subst h
   exact plast mixed lives 14 (by kernel_rfl) (pk3 <| pb c2 <| pz) rfl
/-- alibi/alibiref05.Small -/
def alibiref05_Small (p : api_Program) : Option (Bool) :=
  if (decide (((((List.length p.funcs : Nat) : Int)) : Int) > 40)) = true then
    some false
  else
    bind (alibiref05_Small_l4 p.globals p.locks p.slots p.funcs 0) fun q => match q with
      | .x0 v6 =>
        some v6
      | .x1 =>
        some true
theorem alibiref05_Small_ok (p : api_Program) (r : Bool) (h : alibiref05_Small p = some r) : Does Try.prog 14 [.agg [.pv (.int .i64 p.globals), .pv (.int .i64 p.locks), .pv (.int .i64 p.slots), .pv (.seq (List.length p.funcs) (encP e_62 ([] : List api_Node) p.funcs))]] [] (.pv (.bool r), []) := by
 unfold alibiref05_Small at h
 rcases if_of h with ⟨c1, h⟩ | ⟨c1, h⟩
 · have h := Option.some.inj h; subst h
   exact pdoes mixed (L := lives) (by kernel_rfl) (pk4 <| pb c1 <| pz)
 · obtain ⟨q, hq, h⟩ := bind_of h
   cases q with
   | x0 v6 =>
    have h7 := hq; clear hq
    try dsimp only at h
    have h := Option.some.inj h; subst h
    exact pdoes mixed (L := lives) (by kernel_rfl) (pk4 <| pb c1 <| pl (alibiref05_Small_l4_ok _ _ _ _ _ _ h7) <| pz)
   | x1 =>
    have h8 := hq; clear hq
    try dsimp only at h
    have h := Option.some.inj h; subst h
    exact pdoes mixed (L := lives) (by kernel_rfl) (pk4 <| pb c1 <| pl (alibiref05_Small_l4_ok _ _ _ _ _ _ h8) <| pz)
/-- alibi/alibilaw22.small -/
def alibilaw22_small (p : api_Program) : Option (Bool) :=
  bind (alibilaw22_small_l3 p.globals p.locks p.slots p.funcs 0 0) fun v4 =>
  bind (alibiref05_Small p) fun v6 =>
  if v6 = true then
    some (decide ((v4 : Int) ≤ 60))
  else
    some false
theorem alibilaw22_small_ok (p : api_Program) (r : Bool) (h : alibilaw22_small p = some r) : Does Try.prog 10 [.agg [.pv (.int .i64 p.globals), .pv (.int .i64 p.locks), .pv (.int .i64 p.slots), .pv (.seq (List.length p.funcs) (encP e_62 ([] : List api_Node) p.funcs))]] [] (.pv (.bool r), []) := by
 unfold alibilaw22_small at h
 obtain ⟨v4, h5, h⟩ := bind_of h
 obtain ⟨v6, h7, h⟩ := bind_of h
 rcases if_of h with ⟨c8, h⟩ | ⟨c8, h⟩
 · have h := Option.some.inj h; subst h
   exact pdoes mixed (L := lives) (by kernel_rfl) (pk <| pl (alibilaw22_small_l3_ok _ _ _ _ _ _ _ h5) <| pk <| pc (alibiref05_Small_ok _ _ h7) <| pk <| pb c8 <| pk3 <| pz)
 · have h := Option.some.inj h; subst h
   exact pdoes mixed (L := lives) (by kernel_rfl) (pk <| pl (alibilaw22_small_l3_ok _ _ _ _ _ _ _ h5) <| pk <| pc (alibiref05_Small_ok _ _ h7) <| pk <| pb c8 <| pk2 <| pz)
def o_str (x : ByteArray) : List AV := [.pv (.str x)]
/-- alibi/alibiref05.Row -/
def alibiref05_Row (kind : Int) : Option (ByteArray) :=
  if (decide ((kind : Int) < 0)) = true then
    some ((ByteArray.mk #[]))
  else
    if (decide ((kind : Int) > 9)) = true then
      some ((ByteArray.mk #[]))
    else
      if (decide ((0 : Int) ≤ kind)) = true then
        if (decide ((kind : Int) < (((List.length ([(ByteArray.mk #[45, 110, 45]), (ByteArray.mk #[103, 110, 45]), (ByteArray.mk #[103, 110, 45]), (ByteArray.mk #[108, 110, 45]), (ByteArray.mk #[108, 110, 45]), (ByteArray.mk #[102, 110, 115]), (ByteArray.mk #[115, 110, 45]), (ByteArray.mk #[102, 110, 45]), (ByteArray.mk #[45, 110, 110]), (ByteArray.mk #[45, 45, 45])])) : Nat) : Int))) = true then
          some (List.getD ([(ByteArray.mk #[45, 110, 45]), (ByteArray.mk #[103, 110, 45]), (ByteArray.mk #[103, 110, 45]), (ByteArray.mk #[108, 110, 45]), (ByteArray.mk #[108, 110, 45]), (ByteArray.mk #[102, 110, 115]), (ByteArray.mk #[115, 110, 45]), (ByteArray.mk #[102, 110, 45]), (ByteArray.mk #[45, 110, 110]), (ByteArray.mk #[45, 45, 45])]) (Int.toNat kind) ByteArray.empty)
        else none
      else none
theorem alibiref05_Row_ok (kind : Int) (r : ByteArray) (h : alibiref05_Row kind = some r) : Does Try.prog 66 [.pv (.int .i64 kind)] [] (.pv (.str r), []) := by
 unfold alibiref05_Row at h
 rcases if_of h with ⟨c1, h⟩ | ⟨c1, h⟩
 · have h := Option.some.inj h; subst h
   exact pdoes mixed (L := lives) (by kernel_rfl) (pk <| pb c1 <| pk3 <| pz)
 · rcases if_of h with ⟨c2, h⟩ | ⟨c2, h⟩
   · have h := Option.some.inj h; subst h
     exact pdoes mixed (L := lives) (by kernel_rfl) (pk <| pb c1 <| pk3 <| pb c2 <| pz)
   · obtain ⟨c3, h⟩ := need_of h
     obtain ⟨c4, h⟩ := need_of h
     have h := Option.some.inj h; subst h
     exact pdoes mixed (L := lives) (by kernel_rfl) (pk <| pb c1 <| pk3 <| pb c2 <| pe (eff_lit o_str ByteArray.empty 0 1 10 ([(ByteArray.mk #[45, 110, 45]), (ByteArray.mk #[103, 110, 45]), (ByteArray.mk #[103, 110, 45]), (ByteArray.mk #[108, 110, 45]), (ByteArray.mk #[108, 110, 45]), (ByteArray.mk #[102, 110, 115]), (ByteArray.mk #[115, 110, 45]), (ByteArray.mk #[102, 110, 45]), (ByteArray.mk #[45, 110, 110]), (ByteArray.mk #[45, 45, 45])]) rfl [] []) <| pn c3 <| pn c4 <| pk <| pz)
/-- alibi/alibiref05.size -/
def alibiref05_size (p : api_Program) (letter : BitVec 8) (nodes : Int) : Option (Int) :=
  if (letter == (103#8)) = true then
    some p.globals
  else
    if (letter == (108#8)) = true then
      some p.locks
    else
      if (letter == (115#8)) = true then
        some p.slots
      else
        if (letter == (102#8)) = true then
          some (((List.length p.funcs : Nat) : Int))
        else
          if (letter == (110#8)) = true then
            some (if 1 > nodes then 1 else nodes)
          else
            some 1
theorem alibiref05_size_ok (p : api_Program) (letter : BitVec 8) (nodes : Int) (r : Int) (h : alibiref05_size p letter nodes = some r) : Does Try.prog 67 [.agg [.pv (.int .i64 p.globals), .pv (.int .i64 p.locks), .pv (.int .i64 p.slots), .pv (.seq (List.length p.funcs) (encP e_62 ([] : List api_Node) p.funcs))], .pv (.int .u8 (BitVec.toNat letter : Nat)), .pv (.int .i64 nodes)] [] (.pv (.int .i64 r), []) := by
 unfold alibiref05_size at h
 rcases if_of h with ⟨c1, h⟩ | ⟨c1, h⟩
 · have h := Option.some.inj h; subst h
   exact pdoes mixed (L := lives) (by kernel_rfl) (pk <| pe (eff_bool (un_eql letter (103#8))) <| pb c1 <| pk <| pz)
 · rcases if_of h with ⟨c2, h⟩ | ⟨c2, h⟩
   · have h := Option.some.inj h; subst h
     exact pdoes mixed (L := lives) (by kernel_rfl) (pk <| pe (eff_bool (un_eql letter (103#8))) <| pb c1 <| pe (eff_bool (un_eql letter (108#8))) <| pb c2 <| pk <| pz)
   · rcases if_of h with ⟨c3, h⟩ | ⟨c3, h⟩
     · have h := Option.some.inj h; subst h
       exact pdoes mixed (L := lives) (by kernel_rfl) (pk <| pe (eff_bool (un_eql letter (103#8))) <| pb c1 <| pe (eff_bool (un_eql letter (108#8))) <| pb c2 <| pe (eff_bool (un_eql letter (115#8))) <| pb c3 <| pk <| pz)
     · rcases if_of h with ⟨c4, h⟩ | ⟨c4, h⟩
       · have h := Option.some.inj h; subst h
         exact pdoes mixed (L := lives) (by kernel_rfl) (pk <| pe (eff_bool (un_eql letter (103#8))) <| pb c1 <| pe (eff_bool (un_eql letter (108#8))) <| pb c2 <| pe (eff_bool (un_eql letter (115#8))) <| pb c3 <| pe (eff_bool (un_eql letter (102#8))) <| pb c4 <| pk2 <| pz)
       · rcases if_of h with ⟨c5, h⟩ | ⟨c5, h⟩
         · have h := Option.some.inj h; subst h
           exact pdoes mixed (L := lives) (by kernel_rfl) (pk <| pe (eff_bool (un_eql letter (103#8))) <| pb c1 <| pe (eff_bool (un_eql letter (108#8))) <| pb c2 <| pe (eff_bool (un_eql letter (115#8))) <| pb c3 <| pe (eff_bool (un_eql letter (102#8))) <| pb c4 <| pe (eff_bool (un_eql letter (110#8))) <| pb c5 <| pk <| pz)
         · have h := Option.some.inj h; subst h
           exact pdoes mixed (L := lives) (by kernel_rfl) (pk <| pe (eff_bool (un_eql letter (103#8))) <| pb c1 <| pe (eff_bool (un_eql letter (108#8))) <| pb c2 <| pe (eff_bool (un_eql letter (115#8))) <| pb c3 <| pe (eff_bool (un_eql letter (102#8))) <| pb c4 <| pe (eff_bool (un_eql letter (110#8))) <| pb c5 <| pz)
noncomputable def alibiref05_May_l6_c : Code := sub (codeOf Try.prog 34) [1, 1, 1, 1, 0, 1, 0, 0]
inductive alibiref05_May_l6_R where
  | x0 (v0 : Bool)
  | x1
def alibiref05_May_l6_R.ex : alibiref05_May_l6_R → Ex
  | .x0 _ => .ret
  | .x1 => .exit 0
noncomputable def alibiref05_May_l6_R.st (x0 : List Int) (x1 : Int) (x2 : Int) (x3 : Int) (x4 : List (List api_Node)) (x5 : Int) (x6 : ByteArray) (x7 : Int) : alibiref05_May_l6_R → St
  | .x0 v0 => ⟨(List.replicate 6 dead ++ (.pv (.bool v0) :: List.replicate 39 dead)), []⟩
  | .x1 => ⟨List.replicate 46 dead, []⟩
def alibiref05_May_l6 (x0 : List Int) (x1 : Int) (x2 : Int) (x3 : Int) (x4 : List (List api_Node)) (x5 : Int) (x6 : ByteArray) (x7 : Int) : Option (alibiref05_May_l6_R) :=
  if (decide ((x7 : Int) < 3)) = true then
    if (decide ((0 : Int) ≤ x7)) = true then
      if (decide ((x7 : Int) < ((ByteArray.size x6 : Nat) : Int))) = true then
        bind (alibiref05_size (api_Program.mk x1 x2 x3 x4) (byteAt x6 (Int.toNat x7)) x5) fun v7 =>
        if (decide ((x7 : Int) < (((List.length x0) : Nat) : Int))) = true then
          if (decide (((List.getD x0 (Int.toNat x7) 0) : Int) < 0)) = true then
            some (.x0 false)
          else
            if (decide (((List.getD x0 (Int.toNat x7) 0) : Int) ≥ v7)) = true then
              some (.x0 false)
            else
              alibiref05_May_l6 x0 x1 x2 x3 x4 x5 x6 (iAdd x7 1)
        else none
      else none
    else none
  else
    some (.x1)
partial_fixpoint
noncomputable abbrev alibiref05_May_l6_s (x0 : List Int) (x1 : Int) (x2 : Int) (x3 : Int) (x4 : List (List api_Node)) (x5 : Int) (x6 : ByteArray) (x7 : Int) : St := ⟨dead :: dead :: .pv (.int .i64 x5) :: .ptr 0 [] 0 0 :: dead :: dead :: dead :: .pv (.str x6) :: .ms 1 [] 0 (List.length x0) :: .pv (.int .i64 x7) :: List.replicate 36 dead, [.box 0 [.pv (.int .i64 x1), .pv (.int .i64 x2), .pv (.int .i64 x3), .pv (.seq (List.length x4) (encP e_62 ([] : List api_Node) x4))], .arr 0 1 (List.length x0) (encW o_i64 0 x0)]⟩
theorem alibiref05_May_l6_ok (x0 : List Int) (x1 : Int) (x2 : Int) (x3 : Int) (x4 : List (List api_Node)) (x5 : Int) (x6 : ByteArray) (x7 : Int) (r : alibiref05_May_l6_R) (h : alibiref05_May_l6 x0 x1 x2 x3 x4 x5 x6 x7 = some r) : Loops Try.prog alibiref05_May_l6_c 0 (alibiref05_May_l6_s x0 x1 x2 x3 x4 x5 x6 x7) r.ex (alibiref05_May_l6_R.st x0 x1 x2 x3 x4 x5 x6 x7 r) := by
 refine alibiref05_May_l6.partial_correctness x0 x1 x2 x3 x4 x5 x6 (fun x7 r => Loops Try.prog alibiref05_May_l6_c 0 (alibiref05_May_l6_s x0 x1 x2 x3 x4 x5 x6 x7) r.ex (alibiref05_May_l6_R.st x0 x1 x2 x3 x4 x5 x6 x7 r)) ?_ x7 r h
 clear h r x7
 intro self ih x7 r h
 rcases if_of h with ⟨c4, h⟩ | ⟨c4, h⟩
 · obtain ⟨c5, h⟩ := need_of h
   obtain ⟨c6, h⟩ := need_of h
   obtain ⟨v7, h8, h⟩ := bind_of h
   obtain ⟨c9, h⟩ := need_of h
   rcases if_of h with ⟨c10, h⟩ | ⟨c10, h⟩
   · have h := Option.some.inj h; subst h
     exact plast mixed lives 34 (by kernel_rfl) (pk <| pb c4 <| pk <| pn c5 <| pn c6 <| pk <| pc (alibiref05_size_ok _ _ _ _ h8) <| pk <| pn c5 <| pn c9 <| pk2 <| pb c10 <| pk7 <| pz) rfl
   · rcases if_of h with ⟨c11, h⟩ | ⟨c11, h⟩
     · have h := Option.some.inj h; subst h
       exact plast mixed lives 34 (by kernel_rfl) (pk <| pb c4 <| pk <| pn c5 <| pn c6 <| pk <| pc (alibiref05_size_ok _ _ _ _ h8) <| pk <| pn c5 <| pn c9 <| pk2 <| pb c10 <| pk2 <| pn c5 <| pn c9 <| pk6 <| pb c11 <| pz) rfl
     · exact pmore mixed lives 34 (by kernel_rfl) (pk <| pb c4 <| pk <| pn c5 <| pn c6 <| pk <| pc (alibiref05_size_ok _ _ _ _ h8) <| pk <| pn c5 <| pn c9 <| pk2 <| pb c10 <| pk2 <| pn c5 <| pn c9 <| pk6 <| pb c11 <| pk <| pz) (ih (iAdd x7 1) _ h)
 · have h := Option.some.inj h; subst h
   exact plast mixed lives 34 (by kernel_rfl) (pk <| pb c4 <| pz) rfl
/-- alibi/alibiref05.May -/
def alibiref05_May (p : api_Program) (n1 : api_Node) (nodes : Int) : Option (Bool) :=
  bind (alibiref05_Row n1.kind) fun v1 =>
  if (ByteArray.toList v1 == ByteArray.toList ((ByteArray.mk #[]))) = true then
    some false
  else
    bind (alibiref05_May_l6 ([n1.arg, n1.next, n1.alt]) p.globals p.locks p.slots p.funcs nodes v1 0) fun q => match q with
      | .x0 v12 =>
        some v12
      | .x1 =>
        some true
theorem alibiref05_May_ok (p : api_Program) (n1 : api_Node) (nodes : Int) (r : Bool) (h : alibiref05_May p n1 nodes = some r) : Does Try.prog 34 [.agg [.pv (.int .i64 p.globals), .pv (.int .i64 p.locks), .pv (.int .i64 p.slots), .pv (.seq (List.length p.funcs) (encP e_62 ([] : List api_Node) p.funcs))], .agg [.pv (.int .i64 n1.kind), .pv (.int .i64 n1.arg), .pv (.int .i64 n1.next), .pv (.int .i64 n1.alt)], .pv (.int .i64 nodes)] [] (.pv (.bool r), []) := by
 unfold alibiref05_May at h
 obtain ⟨v1, h2, h⟩ := bind_of h
 rcases if_of h with ⟨c3, h⟩ | ⟨c3, h⟩
 · have h := Option.some.inj h; subst h
   exact pdoes mixed (L := lives) (by kernel_rfl) (pk3 <| pc (alibiref05_Row_ok _ _ h2) <| pk2 <| pb c3 <| pz)
 · obtain ⟨q, hq, h⟩ := bind_of h
   cases q with
   | x0 v12 =>
    have h13 := hq; clear hq
    try dsimp only at h
    have h := Option.some.inj h; subst h
    exact pdoes mixed (L := lives) (by kernel_rfl) (pk3 <| pc (alibiref05_Row_ok _ _ h2) <| pk2 <| pb c3 <| pk3 <| pe (eff_lit o_i64 0 3 1 3 ([n1.arg, n1.next, n1.alt]) rfl [] []) <| pl (alibiref05_May_l6_ok _ _ _ _ _ _ _ _ _ h13) <| pz)
   | x1 =>
    have h14 := hq; clear hq
    try dsimp only at h
    have h := Option.some.inj h; subst h
    exact pdoes mixed (L := lives) (by kernel_rfl) (pk3 <| pc (alibiref05_Row_ok _ _ h2) <| pk2 <| pb c3 <| pk3 <| pe (eff_lit o_i64 0 3 1 3 ([n1.arg, n1.next, n1.alt]) rfl [] []) <| pl (alibiref05_May_l6_ok _ _ _ _ _ _ _ _ _ h14) <| pz)
noncomputable def alibiref05_Check_l14_c : Code := sub (codeOf Try.prog 12) [1, 1, 1, 1, 0, 1, 0, 0, 1, 0, 0, 1, 1, 1, 0, 0]
inductive alibiref05_Check_l14_R where
  | x0 (v0 : Int) (v1 : Int)
  | x1
def alibiref05_Check_l14_R.ex : alibiref05_Check_l14_R → Ex
  | .x0 _ _ => .ret
  | .x1 => .exit 2
noncomputable def alibiref05_Check_l14_R.st (x0 : Int) (x1 : Int) (x2 : Int) (x3 : List (List api_Node)) (x4 : Int) (x5 : Int) (x6 : Int) : alibiref05_Check_l14_R → St
  | .x0 v0 v1 => ⟨dead :: .ptr 0 [] 0 0 :: .pv (.int .i64 x5) :: .pv (.int .i64 v0) :: .pv (.int .i64 v1) :: .pv (.int .i64 x4) :: .pv (.int .i64 x5) :: List.replicate 139 dead, [.box 0 [.pv (.int .i64 x0), .pv (.int .i64 x1), .pv (.int .i64 x2), .pv (.seq (List.length x3) (encP e_62 ([] : List api_Node) x3))]]⟩
  | .x1 => ⟨dead :: .ptr 0 [] 0 0 :: dead :: dead :: dead :: .pv (.int .i64 x4) :: .pv (.int .i64 x5) :: List.replicate 139 dead, [.box 0 [.pv (.int .i64 x0), .pv (.int .i64 x1), .pv (.int .i64 x2), .pv (.seq (List.length x3) (encP e_62 ([] : List api_Node) x3))]]⟩
def alibiref05_Check_l14 (x0 : Int) (x1 : Int) (x2 : Int) (x3 : List (List api_Node)) (x4 : Int) (x5 : Int) (x6 : Int) : Option (alibiref05_Check_l14_R) :=
  if (decide ((0 : Int) ≤ x5)) = true then
    if (decide ((x5 : Int) < ((List.length x3 : Nat) : Int))) = true then
      if (decide ((x6 : Int) < (((List.length (List.getD x3 (Int.toNat x5) (([] : List api_Node))) : Nat) : Int)))) = true then
        if (decide ((0 : Int) ≤ x6)) = true then
          if (decide ((x6 : Int) < ((List.length (List.getD x3 (Int.toNat x5) (([] : List api_Node))) : Nat) : Int))) = true then
            bind (alibiref05_May (api_Program.mk x0 x1 x2 x3) (List.getD (List.getD x3 (Int.toNat x5) (([] : List api_Node))) (Int.toNat x6) d_api_Node) (((List.length (List.getD x3 (Int.toNat x5) (([] : List api_Node))) : Nat) : Int))) fun v19 =>
            if (!v19) = true then
              some (.x0 x6 3)
            else
              alibiref05_Check_l14 x0 x1 x2 x3 x4 x5 (iAdd x6 1)
          else none
        else none
      else
        some (.x1)
    else none
  else none
partial_fixpoint
noncomputable abbrev alibiref05_Check_l14_s (x0 : Int) (x1 : Int) (x2 : Int) (x3 : List (List api_Node)) (x4 : Int) (x5 : Int) (x6 : Int) : St := ⟨dead :: .ptr 0 [] 0 0 :: dead :: dead :: dead :: .pv (.int .i64 x4) :: .pv (.int .i64 x5) :: .pv (.int .i64 x6) :: List.replicate 138 dead, [.box 0 [.pv (.int .i64 x0), .pv (.int .i64 x1), .pv (.int .i64 x2), .pv (.seq (List.length x3) (encP e_62 ([] : List api_Node) x3))]]⟩
theorem alibiref05_Check_l14_ok (x0 : Int) (x1 : Int) (x2 : Int) (x3 : List (List api_Node)) (x4 : Int) (x5 : Int) (x6 : Int) (r : alibiref05_Check_l14_R) (h : alibiref05_Check_l14 x0 x1 x2 x3 x4 x5 x6 = some r) : Loops Try.prog alibiref05_Check_l14_c 0 (alibiref05_Check_l14_s x0 x1 x2 x3 x4 x5 x6) r.ex (alibiref05_Check_l14_R.st x0 x1 x2 x3 x4 x5 x6 r) := by
 refine alibiref05_Check_l14.partial_correctness x0 x1 x2 x3 x4 x5 (fun x6 r => Loops Try.prog alibiref05_Check_l14_c 0 (alibiref05_Check_l14_s x0 x1 x2 x3 x4 x5 x6) r.ex (alibiref05_Check_l14_R.st x0 x1 x2 x3 x4 x5 x6 r)) ?_ x6 r h
 clear h r x6
 intro self ih x6 r h
 obtain ⟨c14, h⟩ := need_of h
 obtain ⟨c15, h⟩ := need_of h
 rcases if_of h with ⟨c16, h⟩ | ⟨c16, h⟩
 · obtain ⟨c17, h⟩ := need_of h
   obtain ⟨c18, h⟩ := need_of h
   obtain ⟨v19, h20, h⟩ := bind_of h
   rcases if_of h with ⟨c21, h⟩ | ⟨c21, h⟩
   · have h := Option.some.inj h; subst h
     exact plast mixed lives 12 (by kernel_rfl) (pk <| pn c14 <| pn c15 <| pk3 <| pb c16 <| pk2 <| pn c14 <| pn c15 <| pk <| pn c17 <| pn c18 <| pk2 <| pn c14 <| pn c15 <| pk2 <| pc (alibiref05_May_ok _ _ _ _ h20) <| pk2 <| pb c21 <| pz) rfl
   · exact pmore mixed lives 12 (by kernel_rfl) (pk <| pn c14 <| pn c15 <| pk3 <| pb c16 <| pk2 <| pn c14 <| pn c15 <| pk <| pn c17 <| pn c18 <| pk2 <| pn c14 <| pn c15 <| pk2 <| pc (alibiref05_May_ok _ _ _ _ h20) <| pk2 <| pb c21 <| pk <| pz) (ih (iAdd x6 1) _ h)
 · have h := Option.some.inj h; subst h
   exact plast mixed lives 12 (by kernel_rfl) (pk <| pn c14 <| pn c15 <| pk3 <| pb c16 <| pz) rfl
noncomputable def alibiref05_Check_l7_c : Code := sub (codeOf Try.prog 12) [1, 1, 1, 1, 0, 1, 0, 0]
inductive alibiref05_Check_l7_R where
  | x0 (v0 : Int) (v1 : Int) (v2 : Int)
  | x1
def alibiref05_Check_l7_R.ex : alibiref05_Check_l7_R → Ex
  | .x0 _ _ _ => .ret
  | .x1 => .exit 0
noncomputable def alibiref05_Check_l7_R.st (x0 : Int) (x1 : Int) (x2 : Int) (x3 : List (List api_Node)) (x4 : Int) (x5 : Int) : alibiref05_Check_l7_R → St
  | .x0 v0 v1 v2 => ⟨dead :: .ptr 0 [] 0 0 :: .pv (.int .i64 v0) :: .pv (.int .i64 v1) :: .pv (.int .i64 v2) :: .pv (.int .i64 x4) :: List.replicate 140 dead, [.box 0 [.pv (.int .i64 x0), .pv (.int .i64 x1), .pv (.int .i64 x2), .pv (.seq (List.length x3) (encP e_62 ([] : List api_Node) x3))]]⟩
  | .x1 => ⟨dead :: .ptr 0 [] 0 0 :: dead :: dead :: dead :: .pv (.int .i64 x4) :: List.replicate 140 dead, [.box 0 [.pv (.int .i64 x0), .pv (.int .i64 x1), .pv (.int .i64 x2), .pv (.seq (List.length x3) (encP e_62 ([] : List api_Node) x3))]]⟩
def alibiref05_Check_l7 (x0 : Int) (x1 : Int) (x2 : Int) (x3 : List (List api_Node)) (x4 : Int) (x5 : Int) : Option (alibiref05_Check_l7_R) :=
  if (decide ((x5 : Int) < x4)) = true then
    if (decide ((0 : Int) ≤ x5)) = true then
      if (decide ((x5 : Int) < ((List.length x3 : Nat) : Int))) = true then
        if (((((List.length (List.getD x3 (Int.toNat x5) (([] : List api_Node))) : Nat) : Int)) : Int) == 0) = true then
          some (.x0 x5 ((-1)) 1)
        else
          if (decide (((((List.length (List.getD x3 (Int.toNat x5) (([] : List api_Node))) : Nat) : Int)) : Int) > 64)) = true then
            some (.x0 x5 ((-1)) 4)
          else
            bind (alibiref05_Check_l14 x0 x1 x2 x3 x4 x5 0) fun q => match q with
              | .x0 v22 v23 =>
                some (.x0 x5 v22 v23)
              | .x1 =>
                alibiref05_Check_l7 x0 x1 x2 x3 x4 (iAdd x5 1)
      else none
    else none
  else
    some (.x1)
partial_fixpoint
noncomputable abbrev alibiref05_Check_l7_s (x0 : Int) (x1 : Int) (x2 : Int) (x3 : List (List api_Node)) (x4 : Int) (x5 : Int) : St := ⟨dead :: .ptr 0 [] 0 0 :: dead :: dead :: dead :: .pv (.int .i64 x4) :: .pv (.int .i64 x5) :: List.replicate 139 dead, [.box 0 [.pv (.int .i64 x0), .pv (.int .i64 x1), .pv (.int .i64 x2), .pv (.seq (List.length x3) (encP e_62 ([] : List api_Node) x3))]]⟩
theorem alibiref05_Check_l7_ok (x0 : Int) (x1 : Int) (x2 : Int) (x3 : List (List api_Node)) (x4 : Int) (x5 : Int) (r : alibiref05_Check_l7_R) (h : alibiref05_Check_l7 x0 x1 x2 x3 x4 x5 = some r) : Loops Try.prog alibiref05_Check_l7_c 0 (alibiref05_Check_l7_s x0 x1 x2 x3 x4 x5) r.ex (alibiref05_Check_l7_R.st x0 x1 x2 x3 x4 x5 r) := by
 refine alibiref05_Check_l7.partial_correctness x0 x1 x2 x3 x4 (fun x5 r => Loops Try.prog alibiref05_Check_l7_c 0 (alibiref05_Check_l7_s x0 x1 x2 x3 x4 x5) r.ex (alibiref05_Check_l7_R.st x0 x1 x2 x3 x4 x5 r)) ?_ x5 r h
 clear h r x5
 intro self ih x5 r h
 rcases if_of h with ⟨c9, h⟩ | ⟨c9, h⟩
 · obtain ⟨c10, h⟩ := need_of h
   obtain ⟨c11, h⟩ := need_of h
   rcases if_of h with ⟨c12, h⟩ | ⟨c12, h⟩
   · have h := Option.some.inj h; subst h
     exact plast mixed lives 12 (by kernel_rfl) (pk <| pb c9 <| pk <| pn c10 <| pn c11 <| pk3 <| pb c12 <| pz) rfl
   · rcases if_of h with ⟨c13, h⟩ | ⟨c13, h⟩
     · have h := Option.some.inj h; subst h
       exact plast mixed lives 12 (by kernel_rfl) (pk <| pb c9 <| pk <| pn c10 <| pn c11 <| pk3 <| pb c12 <| pk <| pn c10 <| pn c11 <| pk3 <| pb c13 <| pz) rfl
     · obtain ⟨q, hq, h⟩ := bind_of h
       cases q with
       | x0 v22 v23 =>
        have h24 := hq; clear hq
        try dsimp only at h
        have h := Option.some.inj h; subst h
        exact plast mixed lives 12 (by kernel_rfl) (pk <| pb c9 <| pk <| pn c10 <| pn c11 <| pk3 <| pb c12 <| pk <| pn c10 <| pn c11 <| pk3 <| pb c13 <| pl (alibiref05_Check_l14_ok _ _ _ _ _ _ _ _ h24) <| pz) rfl
       | x1 =>
        have h25 := hq; clear hq
        try dsimp only at h
        exact pmore mixed lives 12 (by kernel_rfl) (pk <| pb c9 <| pk <| pn c10 <| pn c11 <| pk3 <| pb c12 <| pk <| pn c10 <| pn c11 <| pk3 <| pb c13 <| pl (alibiref05_Check_l14_ok _ _ _ _ _ _ _ _ h25) <| pk <| pz) (ih (iAdd x5 1) _ h)
 · have h := Option.some.inj h; subst h
   exact plast mixed lives 12 (by kernel_rfl) (pk <| pb c9 <| pz) rfl
noncomputable def alibiref05_Calls_l8_c : Code := sub (codeOf Try.prog 35) [1, 1, 1, 0, 1, 0, 0, 1, 0, 0, 1, 0, 1, 0, 0]
def alibiref05_Calls_l8 (x0 : List (List Int)) (x1 : List Int) (x2 : Int) (x3 : Int) (x4 : Int) (x5 : List (List api_Node)) (x6 : Int) (x7 : Int) (x8 : Int) : Option ((List Int)) :=
  if (decide ((0 : Int) ≤ x7)) = true then
    if (decide ((x7 : Int) < ((List.length x5 : Nat) : Int))) = true then
      if (decide ((x8 : Int) < (((List.length (List.getD x5 (Int.toNat x7) (([] : List api_Node))) : Nat) : Int)))) = true then
        if (decide ((0 : Int) ≤ x8)) = true then
          if (decide ((x8 : Int) < ((List.length (List.getD x5 (Int.toNat x7) (([] : List api_Node))) : Nat) : Int))) = true then
            if ((((List.getD (List.getD x5 (Int.toNat x7) (([] : List api_Node))) (Int.toNat x8) d_api_Node).kind) : Int) == 7) = true then
              if (decide ((0 : Int) ≤ ((List.getD (List.getD x5 (Int.toNat x7) (([] : List api_Node))) (Int.toNat x8) d_api_Node).arg))) = true then
                if (decide ((((List.getD (List.getD x5 (Int.toNat x7) (([] : List api_Node))) (Int.toNat x8) d_api_Node).arg) : Int) < (((List.length x1) : Nat) : Int))) = true then
                  alibiref05_Calls_l8 x0 (List.set x1 (Int.toNat ((List.getD (List.getD x5 (Int.toNat x7) (([] : List api_Node))) (Int.toNat x8) d_api_Node).arg)) 1) x2 x3 x4 x5 x6 x7 (iAdd x8 1)
                else none
              else none
            else
              alibiref05_Calls_l8 x0 x1 x2 x3 x4 x5 x6 x7 (iAdd x8 1)
          else none
        else none
      else
        some x1
    else none
  else none
partial_fixpoint
noncomputable abbrev alibiref05_Calls_l8_s (x0 : List (List Int)) (x1 : List Int) (x2 : Int) (x3 : Int) (x4 : Int) (x5 : List (List api_Node)) (x6 : Int) (x7 : Int) (x8 : Int) : St := ⟨dead :: .ptr 0 [] 0 0 :: dead :: .pv (.int .i64 x6) :: .ms 1 [] 0 (List.length x0) :: .pv (.int .i64 x7) :: .ms 2 [] 0 (List.length x1) :: .pv (.int .i64 x8) :: List.replicate 88 dead, [.box 0 [.pv (.int .i64 x2), .pv (.int .i64 x3), .pv (.int .i64 x4), .pv (.seq (List.length x5) (encP e_62 ([] : List api_Node) x5))], .arr 0 1 (List.length x0) (encW o_42 ([] : List Int) x0), .arr 0 1 (List.length x1) (encW o_i64 0 x1)]⟩
noncomputable abbrev alibiref05_Calls_l8_e (x0 : List (List Int)) (x1 : List Int) (x2 : Int) (x3 : Int) (x4 : Int) (x5 : List (List api_Node)) (x6 : Int) (x7 : Int) (x8 : Int) (r : (List Int)) : St := ⟨dead :: .ptr 0 [] 0 0 :: dead :: .pv (.int .i64 x6) :: .ms 1 [] 0 (List.length x0) :: .pv (.int .i64 x7) :: .ms 2 [] 0 (List.length r) :: List.replicate 89 dead, [.box 0 [.pv (.int .i64 x2), .pv (.int .i64 x3), .pv (.int .i64 x4), .pv (.seq (List.length x5) (encP e_62 ([] : List api_Node) x5))], .arr 0 1 (List.length x0) (encW o_42 ([] : List Int) x0), .arr 0 1 (List.length r) (encW o_i64 0 r)]⟩
theorem alibiref05_Calls_l8_ok (x0 : List (List Int)) (x1 : List Int) (x2 : Int) (x3 : Int) (x4 : Int) (x5 : List (List api_Node)) (x6 : Int) (x7 : Int) (x8 : Int) (r : (List Int)) (h : alibiref05_Calls_l8 x0 x1 x2 x3 x4 x5 x6 x7 x8 = some r) : Loops Try.prog alibiref05_Calls_l8_c 0 (alibiref05_Calls_l8_s x0 x1 x2 x3 x4 x5 x6 x7 x8) (.exit 2) (alibiref05_Calls_l8_e x0 x1 x2 x3 x4 x5 x6 x7 x8 r) := by
 refine alibiref05_Calls_l8.partial_correctness x0 x2 x3 x4 x5 x6 x7 (fun x1 x8 r => Loops Try.prog alibiref05_Calls_l8_c 0 (alibiref05_Calls_l8_s x0 x1 x2 x3 x4 x5 x6 x7 x8) (.exit 2) (alibiref05_Calls_l8_e x0 x1 x2 x3 x4 x5 x6 x7 x8 r)) ?_ x1 x8 r h
 clear h r x1 x8
 intro self ih x1 x8 r h
 obtain ⟨c4, h⟩ := need_of h
 obtain ⟨c5, h⟩ := need_of h
 rcases if_of h with ⟨c6, h⟩ | ⟨c6, h⟩
 · obtain ⟨c7, h⟩ := need_of h
   obtain ⟨c8, h⟩ := need_of h
   rcases if_of h with ⟨c9, h⟩ | ⟨c9, h⟩
   · obtain ⟨c10, h⟩ := need_of h
     obtain ⟨c11, h⟩ := need_of h
     exact pmore mixed lives 35 (by kernel_rfl) (pk <| pn c4 <| pn c5 <| pk3 <| pb c6 <| pk <| pn c4 <| pn c5 <| pk <| pn c7 <| pn c8 <| pk2 <| pb c9 <| pk <| pn c4 <| pn c5 <| pk <| pn c7 <| pn c8 <| pk <| pn c10 <| pn c11 <| pt <| pe (eff_hb (v := dead) (b := 2) (hb := []) (sc := []) (put_top o_i64 0 0 1 (List.length x1) x1 (Int.toNat ((List.getD (List.getD x5 (Int.toNat x7) (([] : List api_Node))) (Int.toNat x8) d_api_Node).arg)) 0 [.pv (.int .i64 1)] 1 (by kernel_rfl) (by first | exact Nat.le_refl _ | exact Nat.zero_le _ | (simp only [decide_eq_true_eq, List.length_set, List.length_append, List.length_replicate, List.length_cons, List.length_nil, Nat.zero_add] at * <;> omega)))) <| pk <| pz) (Loops.of (s1 := ⟨dead :: .ptr 0 [] 0 0 :: dead :: .pv (.int .i64 x6) :: .ms 1 [] 0 (List.length x0) :: .pv (.int .i64 x7) :: .ms 2 [] 0 (List.length x1) :: .pv (.int .i64 (iAdd x8 1)) :: List.replicate 88 dead, [.box 0 [.pv (.int .i64 x2), .pv (.int .i64 x3), .pv (.int .i64 x4), .pv (.seq (List.length x5) (encP e_62 ([] : List api_Node) x5))], .arr 0 1 (List.length x0) (encW o_42 ([] : List Int) x0), .arr 0 1 (List.length x1) (encW o_i64 0 (List.set x1 (Int.toNat ((List.getD (List.getD x5 (Int.toNat x7) (([] : List api_Node))) (Int.toNat x8) d_api_Node).arg)) 1))]⟩) (ih (List.set x1 (Int.toNat ((List.getD (List.getD x5 (Int.toNat x7) (([] : List api_Node))) (Int.toNat x8) d_api_Node).arg)) 1) (iAdd x8 1) _ h) (by (first | rfl | (simp only [alibiref05_Calls_l8_s, List.length_set]; done))))
   · exact pmore mixed lives 35 (by kernel_rfl) (pk <| pn c4 <| pn c5 <| pk3 <| pb c6 <| pk <| pn c4 <| pn c5 <| pk <| pn c7 <| pn c8 <| pk2 <| pb c9 <| pk <| pz) (ih x1 (iAdd x8 1) _ h)
 · have h := Option.some.inj h; subst h
   exact plast mixed lives 35 (by kernel_rfl) (pk <| pn c4 <| pn c5 <| pk3 <| pb c6 <| pz) rfl
noncomputable def alibiref05_Calls_l4_c : Code := sub (codeOf Try.prog 35) [1, 1, 1, 0, 1, 0, 0]
def alibiref05_Calls_l4 (x0 : List (List Int)) (x1 : Int) (x2 : Int) (x3 : Int) (x4 : List (List api_Node)) (x5 : Int) (x6 : Int) : Option ((List (List Int))) :=
  if (decide ((x6 : Int) < x5)) = true then
    if (decide ((0 : Int) ≤ x5)) = true then
      if (decide ((x5 : Int) * ((8 : Nat) : Int) ≤ ((reach : Nat) : Int))) = true then
        bind (alibiref05_Calls_l8 x0 (List.replicate (Int.toNat x5) (0 : Int)) x1 x2 x3 x4 x5 x6 0) fun v12 =>
        if (Nat.ble ((List.length x0 + List.length ([v12])) * 24) reach) = true then
          alibiref05_Calls_l4 (x0 ++ ([v12])) x1 x2 x3 x4 x5 (iAdd x6 1)
        else none
      else none
    else none
  else
    some x0
partial_fixpoint
noncomputable abbrev alibiref05_Calls_l4_s (x0 : List (List Int)) (x1 : Int) (x2 : Int) (x3 : Int) (x4 : List (List api_Node)) (x5 : Int) (x6 : Int) : St := ⟨dead :: .ptr 0 [] 0 0 :: dead :: .pv (.int .i64 x5) :: .ms 1 [] 0 (List.length x0) :: .pv (.int .i64 x6) :: List.replicate 90 dead, [.box 0 [.pv (.int .i64 x1), .pv (.int .i64 x2), .pv (.int .i64 x3), .pv (.seq (List.length x4) (encP e_62 ([] : List api_Node) x4))], .arr 0 1 (List.length x0) (encW o_42 ([] : List Int) x0)]⟩
noncomputable abbrev alibiref05_Calls_l4_e (x0 : List (List Int)) (x1 : Int) (x2 : Int) (x3 : Int) (x4 : List (List api_Node)) (x5 : Int) (x6 : Int) (r : (List (List Int))) : St := ⟨dead :: dead :: dead :: .pv (.int .i64 x5) :: .ms 0 [] 0 (List.length r) :: List.replicate 91 dead, [.arr 0 1 (List.length r) (encW o_42 ([] : List Int) r)]⟩
theorem alibiref05_Calls_l4_ok (x0 : List (List Int)) (x1 : Int) (x2 : Int) (x3 : Int) (x4 : List (List api_Node)) (x5 : Int) (x6 : Int) (r : (List (List Int))) (h : alibiref05_Calls_l4 x0 x1 x2 x3 x4 x5 x6 = some r) : Loops Try.prog alibiref05_Calls_l4_c 0 (alibiref05_Calls_l4_s x0 x1 x2 x3 x4 x5 x6) (.exit 0) (alibiref05_Calls_l4_e x0 x1 x2 x3 x4 x5 x6 r) := by
 refine alibiref05_Calls_l4.partial_correctness x1 x2 x3 x4 x5 (fun x0 x6 r => Loops Try.prog alibiref05_Calls_l4_c 0 (alibiref05_Calls_l4_s x0 x1 x2 x3 x4 x5 x6) (.exit 0) (alibiref05_Calls_l4_e x0 x1 x2 x3 x4 x5 x6 r)) ?_ x0 x6 r h
 clear h r x0 x6
 intro self ih x0 x6 r h
 rcases if_of h with ⟨c1, h⟩ | ⟨c1, h⟩
 · obtain ⟨c2, h⟩ := need_of h
   obtain ⟨c3, h⟩ := need_of h
   obtain ⟨v12, h13, h⟩ := bind_of h
   obtain ⟨c14, h⟩ := need_of h
   exact pmore mixed lives 35 (by kernel_rfl) (pk <| pb c1 <| pn c2 <| pn ((decide_eq_true rfl) : (decide ((x5 : Int) = x5)) = true) <| pn c3 <| pe (eff_make o_i64 0 2 1 (Int.toNat x5)) <| pl (alibiref05_Calls_l8_ok _ _ _ _ _ _ _ _ _ _ h13) <| pb (whole_ok (List.length v12)) <| pe (eff_lit o_42 (([] : List Int)) 3 1 1 ([v12]) rfl [(2, .gone)] [(2, false)]) <| pb (whole_ok (List.length ([v12]))) <| pn c14 <| pe (eff_app o_42 (([] : List Int)) x0 ([v12]) (x0 ++ ([v12])) 1 1 (List.length x0) (List.length ([v12])) (encW o_42 (([] : List Int)) ([v12])) (encW o_42 (([] : List Int)) x0 (List.length x0)) [] [(3, .gone)] [(1, false), (3, false)] (by first | exact Nat.le_refl _ | exact Nat.zero_le _ | (simp only [decide_eq_true_eq, List.length_set, List.length_append, List.length_replicate, List.length_cons, List.length_nil, Nat.zero_add] at * <;> omega)) rfl (fun _ => rfl) (congrArg o_42 (getD_ge (([] : List Int)) (by first | exact Nat.le_refl _ | exact Nat.zero_le _ | (simp only [decide_eq_true_eq, List.length_set, List.length_append, List.length_replicate, List.length_cons, List.length_nil, Nat.zero_add] at * <;> omega)))) (by rw [List.take_of_length_le (by first | exact Nat.le_refl _ | exact Nat.zero_le _ | (simp only [decide_eq_true_eq, List.length_set, List.length_append, List.length_replicate, List.length_cons, List.length_nil, Nat.zero_add] at * <;> omega))])) <| pk <| pz) (ih (x0 ++ ([v12])) (iAdd x6 1) _ h)
 · have h := Option.some.inj h; subst h
   exact plast mixed lives 35 (by kernel_rfl) (pk <| pb c1 <| pz) rfl
noncomputable def alibiref05_Calls_l20_c : Code := sub (codeOf Try.prog 35) [1, 1, 1, 1, 0, 1, 0, 0, 1, 0, 0, 1, 0, 0, 1, 0, 0, 1, 0, 0]
def alibiref05_Calls_l20 (x0 : List (List Int)) (x1 : Int) (x2 : Int) (x3 : Int) (x4 : Int) : Option ((List (List Int))) :=
  if (decide ((x4 : Int) < x1)) = true then
    if (decide ((0 : Int) ≤ x3)) = true then
      if (decide ((x3 : Int) < (((List.length x0) : Nat) : Int))) = true then
        if (decide ((0 : Int) ≤ x2)) = true then
          if (decide ((x2 : Int) < (((List.length (List.getD x0 (Int.toNat x3) (([] : List Int)))) : Nat) : Int))) = true then
            if (((List.getD (List.getD x0 (Int.toNat x3) (([] : List Int))) (Int.toNat x2) 0) : Int) == 1) = true then
              if (decide ((x2 : Int) < (((List.length x0) : Nat) : Int))) = true then
                if (decide ((0 : Int) ≤ x4)) = true then
                  if (decide ((x4 : Int) < (((List.length (List.getD x0 (Int.toNat x2) (([] : List Int)))) : Nat) : Int))) = true then
                    if (((List.getD (List.getD x0 (Int.toNat x2) (([] : List Int))) (Int.toNat x4) 0) : Int) == 1) = true then
                      if (decide ((x4 : Int) < (((List.length (List.getD x0 (Int.toNat x3) (([] : List Int)))) : Nat) : Int))) = true then
                        alibiref05_Calls_l20 (List.set x0 (Int.toNat x3) (List.set (List.getD x0 (Int.toNat x3) (([] : List Int))) (Int.toNat x4) 1)) x1 x2 x3 (iAdd x4 1)
                      else none
                    else
                      alibiref05_Calls_l20 x0 x1 x2 x3 (iAdd x4 1)
                  else none
                else none
              else none
            else
              alibiref05_Calls_l20 x0 x1 x2 x3 (iAdd x4 1)
          else none
        else none
      else none
    else none
  else
    some x0
partial_fixpoint
noncomputable abbrev alibiref05_Calls_l20_s (x0 : List (List Int)) (x1 : Int) (x2 : Int) (x3 : Int) (x4 : Int) : St := ⟨dead :: dead :: dead :: .pv (.int .i64 x1) :: .ms 0 [] 0 (List.length x0) :: dead :: dead :: dead :: .pv (.int .i64 x2) :: .pv (.int .i64 x3) :: .pv (.int .i64 x4) :: List.replicate 85 dead, [.arr 0 1 (List.length x0) (encW o_42 ([] : List Int) x0)]⟩
noncomputable abbrev alibiref05_Calls_l20_e (x0 : List (List Int)) (x1 : Int) (x2 : Int) (x3 : Int) (x4 : Int) (r : (List (List Int))) : St := ⟨dead :: dead :: dead :: .pv (.int .i64 x1) :: .ms 0 [] 0 (List.length r) :: dead :: dead :: dead :: .pv (.int .i64 x2) :: .pv (.int .i64 x3) :: List.replicate 86 dead, [.arr 0 1 (List.length r) (encW o_42 ([] : List Int) r)]⟩
theorem alibiref05_Calls_l20_ok (x0 : List (List Int)) (x1 : Int) (x2 : Int) (x3 : Int) (x4 : Int) (r : (List (List Int))) (h : alibiref05_Calls_l20 x0 x1 x2 x3 x4 = some r) : Loops Try.prog alibiref05_Calls_l20_c 0 (alibiref05_Calls_l20_s x0 x1 x2 x3 x4) (.exit 8) (alibiref05_Calls_l20_e x0 x1 x2 x3 x4 r) := by
 refine alibiref05_Calls_l20.partial_correctness x1 x2 x3 (fun x0 x4 r => Loops Try.prog alibiref05_Calls_l20_c 0 (alibiref05_Calls_l20_s x0 x1 x2 x3 x4) (.exit 8) (alibiref05_Calls_l20_e x0 x1 x2 x3 x4 r)) ?_ x0 x4 r h
 clear h r x0 x4
 intro self ih x0 x4 r h
 rcases if_of h with ⟨c19, h⟩ | ⟨c19, h⟩
 · obtain ⟨c20, h⟩ := need_of h
   obtain ⟨c21, h⟩ := need_of h
   obtain ⟨c22, h⟩ := need_of h
   obtain ⟨c23, h⟩ := need_of h
   rcases if_of h with ⟨c24, h⟩ | ⟨c24, h⟩
   · obtain ⟨c25, h⟩ := need_of h
     obtain ⟨c26, h⟩ := need_of h
     obtain ⟨c27, h⟩ := need_of h
     rcases if_of h with ⟨c28, h⟩ | ⟨c28, h⟩
     · obtain ⟨c29, h⟩ := need_of h
       exact pmore mixed lives 35 (by kernel_rfl) (pk <| pb c19 <| pn c20 <| pn c21 <| pk <| pn c22 <| pn c23 <| pk2 <| pb c24 <| pk2 <| pn c22 <| pn c25 <| pk4 <| pn c26 <| pn c27 <| pk5 <| pb c28 <| pn c20 <| pn c21 <| pk <| pn c26 <| pn c29 <| pt <| pe (eff_hb (v := dead) (b := 0) (hb := []) (sc := []) (put_in o_42 (([] : List Int)) 0 1 (List.length x0) x0 (Int.toNat x3) 0 o_i64 0 1 (List.getD x0 (Int.toNat x3) (([] : List Int))) (Int.toNat x4) 0 [.pv (.int .i64 1)] 1 (List.set (List.getD x0 (Int.toNat x3) (([] : List Int))) (Int.toNat x4) 1) (by kernel_rfl) (by kernel_rfl) (by kernel_rfl) (by first | exact Nat.le_refl _ | exact Nat.zero_le _ | (simp only [decide_eq_true_eq, List.length_set, List.length_append, List.length_replicate, List.length_cons, List.length_nil, Nat.zero_add] at * <;> omega)) (by first | exact Nat.le_refl _ | exact Nat.zero_le _ | (simp only [decide_eq_true_eq, List.length_set, List.length_append, List.length_replicate, List.length_cons, List.length_nil, Nat.zero_add] at * <;> omega)))) <| pk <| pz) (Loops.of (s1 := ⟨dead :: dead :: dead :: .pv (.int .i64 x1) :: .ms 0 [] 0 (List.length x0) :: dead :: dead :: dead :: .pv (.int .i64 x2) :: .pv (.int .i64 x3) :: .pv (.int .i64 (iAdd x4 1)) :: List.replicate 85 dead, [.arr 0 1 (List.length x0) (encW o_42 ([] : List Int) (List.set x0 (Int.toNat x3) (List.set (List.getD x0 (Int.toNat x3) (([] : List Int))) (Int.toNat x4) 1)))]⟩) (ih (List.set x0 (Int.toNat x3) (List.set (List.getD x0 (Int.toNat x3) (([] : List Int))) (Int.toNat x4) 1)) (iAdd x4 1) _ h) (by (first | rfl | (simp only [alibiref05_Calls_l20_s, List.length_set]; done))))
     · exact pmore mixed lives 35 (by kernel_rfl) (pk <| pb c19 <| pn c20 <| pn c21 <| pk <| pn c22 <| pn c23 <| pk2 <| pb c24 <| pk2 <| pn c22 <| pn c25 <| pk4 <| pn c26 <| pn c27 <| pk5 <| pb c28 <| pk <| pz) (ih x0 (iAdd x4 1) _ h)
   · exact pmore mixed lives 35 (by kernel_rfl) (pk <| pb c19 <| pn c20 <| pn c21 <| pk <| pn c22 <| pn c23 <| pk2 <| pb c24 <| pk8 <| pk2 <| pz) (ih x0 (iAdd x4 1) _ h)
 · have h := Option.some.inj h; subst h
   exact plast mixed lives 35 (by kernel_rfl) (pk <| pb c19 <| pz) rfl
noncomputable def alibiref05_Calls_l17_c : Code := sub (codeOf Try.prog 35) [1, 1, 1, 1, 0, 1, 0, 0, 1, 0, 0, 1, 0, 0]
def alibiref05_Calls_l17 (x0 : List (List Int)) (x1 : Int) (x2 : Int) (x3 : Int) : Option ((List (List Int))) :=
  if (decide ((x3 : Int) < x1)) = true then
    bind (alibiref05_Calls_l20 x0 x1 x2 x3 0) fun v30 =>
    alibiref05_Calls_l17 v30 x1 x2 (iAdd x3 1)
  else
    some x0
partial_fixpoint
noncomputable abbrev alibiref05_Calls_l17_s (x0 : List (List Int)) (x1 : Int) (x2 : Int) (x3 : Int) : St := ⟨dead :: dead :: dead :: .pv (.int .i64 x1) :: .ms 0 [] 0 (List.length x0) :: dead :: dead :: dead :: .pv (.int .i64 x2) :: .pv (.int .i64 x3) :: List.replicate 86 dead, [.arr 0 1 (List.length x0) (encW o_42 ([] : List Int) x0)]⟩
noncomputable abbrev alibiref05_Calls_l17_e (x0 : List (List Int)) (x1 : Int) (x2 : Int) (x3 : Int) (r : (List (List Int))) : St := ⟨dead :: dead :: dead :: .pv (.int .i64 x1) :: .ms 0 [] 0 (List.length r) :: dead :: dead :: dead :: .pv (.int .i64 x2) :: List.replicate 87 dead, [.arr 0 1 (List.length r) (encW o_42 ([] : List Int) r)]⟩
theorem alibiref05_Calls_l17_ok (x0 : List (List Int)) (x1 : Int) (x2 : Int) (x3 : Int) (r : (List (List Int))) (h : alibiref05_Calls_l17 x0 x1 x2 x3 = some r) : Loops Try.prog alibiref05_Calls_l17_c 0 (alibiref05_Calls_l17_s x0 x1 x2 x3) (.exit 6) (alibiref05_Calls_l17_e x0 x1 x2 x3 r) := by
 refine alibiref05_Calls_l17.partial_correctness x1 x2 (fun x0 x3 r => Loops Try.prog alibiref05_Calls_l17_c 0 (alibiref05_Calls_l17_s x0 x1 x2 x3) (.exit 6) (alibiref05_Calls_l17_e x0 x1 x2 x3 r)) ?_ x0 x3 r h
 clear h r x0 x3
 intro self ih x0 x3 r h
 rcases if_of h with ⟨c18, h⟩ | ⟨c18, h⟩
 · obtain ⟨v30, h31, h⟩ := bind_of h
   exact pmore mixed lives 35 (by kernel_rfl) (pk <| pb c18 <| pl (alibiref05_Calls_l20_ok _ _ _ _ _ _ h31) <| pk <| pz) (ih v30 (iAdd x3 1) _ h)
 · have h := Option.some.inj h; subst h
   exact plast mixed lives 35 (by kernel_rfl) (pk <| pb c18 <| pz) rfl
noncomputable def alibiref05_Calls_l14_c : Code := sub (codeOf Try.prog 35) [1, 1, 1, 1, 0, 1, 0, 0]
def alibiref05_Calls_l14 (x0 : List (List Int)) (x1 : Int) (x2 : Int) : Option ((List (List Int))) :=
  if (decide ((x2 : Int) < x1)) = true then
    bind (alibiref05_Calls_l17 x0 x1 x2 0) fun v32 =>
    alibiref05_Calls_l14 v32 x1 (iAdd x2 1)
  else
    some x0
partial_fixpoint
noncomputable abbrev alibiref05_Calls_l14_s (x0 : List (List Int)) (x1 : Int) (x2 : Int) : St := ⟨dead :: dead :: dead :: .pv (.int .i64 x1) :: .ms 0 [] 0 (List.length x0) :: dead :: dead :: dead :: .pv (.int .i64 x2) :: List.replicate 87 dead, [.arr 0 1 (List.length x0) (encW o_42 ([] : List Int) x0)]⟩
noncomputable abbrev alibiref05_Calls_l14_e (x0 : List (List Int)) (x1 : Int) (x2 : Int) (r : (List (List Int))) : St := ⟨(List.replicate 4 dead ++ (.ms 0 [] 0 (List.length r) :: List.replicate 91 dead)), [.arr 0 1 (List.length r) (encW o_42 ([] : List Int) r)]⟩
theorem alibiref05_Calls_l14_ok (x0 : List (List Int)) (x1 : Int) (x2 : Int) (r : (List (List Int))) (h : alibiref05_Calls_l14 x0 x1 x2 = some r) : Loops Try.prog alibiref05_Calls_l14_c 0 (alibiref05_Calls_l14_s x0 x1 x2) (.exit 4) (alibiref05_Calls_l14_e x0 x1 x2 r) := by
 refine alibiref05_Calls_l14.partial_correctness x1 (fun x0 x2 r => Loops Try.prog alibiref05_Calls_l14_c 0 (alibiref05_Calls_l14_s x0 x1 x2) (.exit 4) (alibiref05_Calls_l14_e x0 x1 x2 r)) ?_ x0 x2 r h
 clear h r x0 x2
 intro self ih x0 x2 r h
 rcases if_of h with ⟨c17, h⟩ | ⟨c17, h⟩
 · obtain ⟨v32, h33, h⟩ := bind_of h
   exact pmore mixed lives 35 (by kernel_rfl) (pk <| pb c17 <| pl (alibiref05_Calls_l17_ok _ _ _ _ _ h33) <| pk <| pz) (ih v32 (iAdd x2 1) _ h)
 · have h := Option.some.inj h; subst h
   exact plast mixed lives 35 (by kernel_rfl) (pk <| pb c17 <| pz) rfl
/-- alibi/alibiref05.Calls -/
def alibiref05_Calls (p : api_Program) : Option ((List (List Int))) :=
  bind (alibiref05_Calls_l4 (([] : List (List Int))) p.globals p.locks p.slots p.funcs (((List.length p.funcs : Nat) : Int)) 0) fun v15 =>
  bind (alibiref05_Calls_l14 v15 (((List.length p.funcs : Nat) : Int)) 0) fun v34 =>
  some v34
theorem alibiref05_Calls_ok (p : api_Program) (r : (List (List Int))) (h : alibiref05_Calls p = some r) : Does Try.prog 35 [.agg [.pv (.int .i64 p.globals), .pv (.int .i64 p.locks), .pv (.int .i64 p.slots), .pv (.seq (List.length p.funcs) (encP e_62 ([] : List api_Node) p.funcs))]] [] (.ms 0 [] 0 (List.length r), [.arr 0 1 (List.length r) (encW o_42 ([] : List Int) r)]) := by
 unfold alibiref05_Calls at h
 obtain ⟨v15, h16, h⟩ := bind_of h
 obtain ⟨v34, h35, h⟩ := bind_of h
 have h := Option.some.inj h; subst h
 exact pdoes mixed (L := lives) (by kernel_rfl) (pk3 <| pl (Loops.of (s1 := ⟨dead :: .ptr 0 [] 0 0 :: dead :: .pv (.int .i64 (((List.length p.funcs : Nat) : Int))) :: .ms 1 [] 0 (List.length ([] : List (List Int))) :: .pv (.int .i64 0) :: List.replicate 90 dead, [.box 0 [.pv (.int .i64 p.globals), .pv (.int .i64 p.locks), .pv (.int .i64 p.slots), .pv (.seq (List.length p.funcs) (encP e_62 ([] : List api_Node) p.funcs))], .arr 0 1 (List.length ([] : List (List Int))) (encW o_42 ([] : List Int) (([] : List (List Int))))]⟩) (alibiref05_Calls_l4_ok _ _ _ _ _ _ _ _ h16) (by (first | rfl | (simp only [alibiref05_Calls_l4_s, List.length_set]; done)))) <| pl (alibiref05_Calls_l14_ok _ _ _ _ h35) <| pz)
noncomputable def alibiref05_Check_l23_c : Code := sub (codeOf Try.prog 12) [1, 1, 1, 1, 1, 1, 0, 1, 0, 0, 1, 0, 0, 1, 0, 0]
inductive alibiref05_Check_l23_R where
  | x0 (v0 : Int) (v1 : Int)
  | x1
def alibiref05_Check_l23_R.ex : alibiref05_Check_l23_R → Ex
  | .x0 _ _ => .ret
  | .x1 => .exit 6
noncomputable def alibiref05_Check_l23_R.st (x0 : List (List Int)) (x1 : Int) (x2 : Int) (x3 : Int) (x4 : List (List api_Node)) (x5 : Int) (x6 : Int) (x7 : Int) : alibiref05_Check_l23_R → St
  | .x0 v0 v1 => ⟨dead :: .ptr 0 [] 0 0 :: .pv (.int .i64 x6) :: .pv (.int .i64 v0) :: .pv (.int .i64 v1) :: .pv (.int .i64 x5) :: dead :: dead :: .ms 1 [] 0 (List.length x0) :: .pv (.int .i64 x6) :: List.replicate 136 dead, [.box 0 [.pv (.int .i64 x1), .pv (.int .i64 x2), .pv (.int .i64 x3), .pv (.seq (List.length x4) (encP e_62 ([] : List api_Node) x4))], .arr 0 1 (List.length x0) (encW o_42 ([] : List Int) x0)]⟩
  | .x1 => ⟨dead :: .ptr 0 [] 0 0 :: dead :: dead :: dead :: .pv (.int .i64 x5) :: dead :: dead :: .ms 1 [] 0 (List.length x0) :: .pv (.int .i64 x6) :: List.replicate 136 dead, [.box 0 [.pv (.int .i64 x1), .pv (.int .i64 x2), .pv (.int .i64 x3), .pv (.seq (List.length x4) (encP e_62 ([] : List api_Node) x4))], .arr 0 1 (List.length x0) (encW o_42 ([] : List Int) x0)]⟩
def alibiref05_Check_l23 (x0 : List (List Int)) (x1 : Int) (x2 : Int) (x3 : Int) (x4 : List (List api_Node)) (x5 : Int) (x6 : Int) (x7 : Int) : Option (alibiref05_Check_l23_R) :=
  if (decide ((0 : Int) ≤ x6)) = true then
    if (decide ((x6 : Int) < ((List.length x4 : Nat) : Int))) = true then
      if (decide ((x7 : Int) < (((List.length (List.getD x4 (Int.toNat x6) (([] : List api_Node))) : Nat) : Int)))) = true then
        if (decide ((0 : Int) ≤ x7)) = true then
          if (decide ((x7 : Int) < ((List.length (List.getD x4 (Int.toNat x6) (([] : List api_Node))) : Nat) : Int))) = true then
            if ((((List.getD (List.getD x4 (Int.toNat x6) (([] : List api_Node))) (Int.toNat x7) d_api_Node).kind) : Int) == 7) = true then
              if ((((List.getD (List.getD x4 (Int.toNat x6) (([] : List api_Node))) (Int.toNat x7) d_api_Node).arg) : Int) == x6) = true then
                some (.x0 x7 8)
              else
                if (decide ((0 : Int) ≤ ((List.getD (List.getD x4 (Int.toNat x6) (([] : List api_Node))) (Int.toNat x7) d_api_Node).arg))) = true then
                  if (decide ((((List.getD (List.getD x4 (Int.toNat x6) (([] : List api_Node))) (Int.toNat x7) d_api_Node).arg) : Int) < (((List.length x0) : Nat) : Int))) = true then
                    if (decide ((x6 : Int) < (((List.length (List.getD x0 (Int.toNat ((List.getD (List.getD x4 (Int.toNat x6) (([] : List api_Node))) (Int.toNat x7) d_api_Node).arg)) (([] : List Int)))) : Nat) : Int))) = true then
                      if (((List.getD (List.getD x0 (Int.toNat ((List.getD (List.getD x4 (Int.toNat x6) (([] : List api_Node))) (Int.toNat x7) d_api_Node).arg)) (([] : List Int))) (Int.toNat x6) 0) : Int) == 1) = true then
                        some (.x0 x7 8)
                      else
                        alibiref05_Check_l23 x0 x1 x2 x3 x4 x5 x6 (iAdd x7 1)
                    else none
                  else none
                else none
            else
              alibiref05_Check_l23 x0 x1 x2 x3 x4 x5 x6 (iAdd x7 1)
          else none
        else none
      else
        some (.x1)
    else none
  else none
partial_fixpoint
noncomputable abbrev alibiref05_Check_l23_s (x0 : List (List Int)) (x1 : Int) (x2 : Int) (x3 : Int) (x4 : List (List api_Node)) (x5 : Int) (x6 : Int) (x7 : Int) : St := ⟨dead :: .ptr 0 [] 0 0 :: dead :: dead :: dead :: .pv (.int .i64 x5) :: dead :: dead :: .ms 1 [] 0 (List.length x0) :: .pv (.int .i64 x6) :: .pv (.int .i64 x7) :: List.replicate 135 dead, [.box 0 [.pv (.int .i64 x1), .pv (.int .i64 x2), .pv (.int .i64 x3), .pv (.seq (List.length x4) (encP e_62 ([] : List api_Node) x4))], .arr 0 1 (List.length x0) (encW o_42 ([] : List Int) x0)]⟩
theorem alibiref05_Check_l23_ok (x0 : List (List Int)) (x1 : Int) (x2 : Int) (x3 : Int) (x4 : List (List api_Node)) (x5 : Int) (x6 : Int) (x7 : Int) (r : alibiref05_Check_l23_R) (h : alibiref05_Check_l23 x0 x1 x2 x3 x4 x5 x6 x7 = some r) : Loops Try.prog alibiref05_Check_l23_c 0 (alibiref05_Check_l23_s x0 x1 x2 x3 x4 x5 x6 x7) r.ex (alibiref05_Check_l23_R.st x0 x1 x2 x3 x4 x5 x6 x7 r) := by
 refine alibiref05_Check_l23.partial_correctness x0 x1 x2 x3 x4 x5 x6 (fun x7 r => Loops Try.prog alibiref05_Check_l23_c 0 (alibiref05_Check_l23_s x0 x1 x2 x3 x4 x5 x6 x7) r.ex (alibiref05_Check_l23_R.st x0 x1 x2 x3 x4 x5 x6 x7 r)) ?_ x7 r h
 clear h r x7
 intro self ih x7 r h
 obtain ⟨c34, h⟩ := need_of h
 obtain ⟨c35, h⟩ := need_of h
 rcases if_of h with ⟨c36, h⟩ | ⟨c36, h⟩
 · obtain ⟨c37, h⟩ := need_of h
   obtain ⟨c38, h⟩ := need_of h
   rcases if_of h with ⟨c39, h⟩ | ⟨c39, h⟩
   · rcases if_of h with ⟨c40, h⟩ | ⟨c40, h⟩
     · have h := Option.some.inj h; subst h
       exact plast mixed lives 12 (by kernel_rfl) (pk <| pn c34 <| pn c35 <| pk3 <| pb c36 <| pk <| pn c34 <| pn c35 <| pk <| pn c37 <| pn c38 <| pk5 <| pb c39 <| pk6 <| pb c40 <| pk8 <| pk4 <| pz) rfl
     · obtain ⟨c41, h⟩ := need_of h
       obtain ⟨c42, h⟩ := need_of h
       obtain ⟨c43, h⟩ := need_of h
       rcases if_of h with ⟨c44, h⟩ | ⟨c44, h⟩
       · have h := Option.some.inj h; subst h
         exact plast mixed lives 12 (by kernel_rfl) (pk <| pn c34 <| pn c35 <| pk3 <| pb c36 <| pk <| pn c34 <| pn c35 <| pk <| pn c37 <| pn c38 <| pk5 <| pb c39 <| pk6 <| pb c40 <| pk4 <| pn c41 <| pn c42 <| pk4 <| pn c34 <| pn c43 <| pk7 <| pb c44 <| pz) rfl
       · exact pmore mixed lives 12 (by kernel_rfl) (pk <| pn c34 <| pn c35 <| pk3 <| pb c36 <| pk <| pn c34 <| pn c35 <| pk <| pn c37 <| pn c38 <| pk5 <| pb c39 <| pk6 <| pb c40 <| pk4 <| pn c41 <| pn c42 <| pk4 <| pn c34 <| pn c43 <| pk7 <| pb c44 <| pk <| pz) (ih (iAdd x7 1) _ h)
   · exact pmore mixed lives 12 (by kernel_rfl) (pk <| pn c34 <| pn c35 <| pk3 <| pb c36 <| pk <| pn c34 <| pn c35 <| pk <| pn c37 <| pn c38 <| pk5 <| pb c39 <| pk8 <| pz) (ih (iAdd x7 1) _ h)
 · have h := Option.some.inj h; subst h
   exact plast mixed lives 12 (by kernel_rfl) (pk <| pn c34 <| pn c35 <| pk3 <| pb c36 <| pz) rfl
noncomputable def alibiref05_Check_l20_c : Code := sub (codeOf Try.prog 12) [1, 1, 1, 1, 1, 1, 0, 1, 0, 0]
inductive alibiref05_Check_l20_R where
  | x0 (v0 : Int) (v1 : Int) (v2 : Int)
  | x1
def alibiref05_Check_l20_R.ex : alibiref05_Check_l20_R → Ex
  | .x0 _ _ _ => .ret
  | .x1 => .exit 4
noncomputable def alibiref05_Check_l20_R.st (x0 : List (List Int)) (x1 : Int) (x2 : Int) (x3 : Int) (x4 : List (List api_Node)) (x5 : Int) (x6 : Int) : alibiref05_Check_l20_R → St
  | .x0 v0 v1 v2 => ⟨dead :: dead :: .pv (.int .i64 v0) :: .pv (.int .i64 v1) :: .pv (.int .i64 v2) :: List.replicate 141 dead, []⟩
  | .x1 => ⟨List.replicate 146 dead, []⟩
def alibiref05_Check_l20 (x0 : List (List Int)) (x1 : Int) (x2 : Int) (x3 : Int) (x4 : List (List api_Node)) (x5 : Int) (x6 : Int) : Option (alibiref05_Check_l20_R) :=
  if (decide ((x6 : Int) < x5)) = true then
    bind (alibiref05_Check_l23 x0 x1 x2 x3 x4 x5 x6 0) fun q => match q with
      | .x0 v45 v46 =>
        some (.x0 x6 v45 v46)
      | .x1 =>
        alibiref05_Check_l20 x0 x1 x2 x3 x4 x5 (iAdd x6 1)
  else
    some (.x1)
partial_fixpoint
noncomputable abbrev alibiref05_Check_l20_s (x0 : List (List Int)) (x1 : Int) (x2 : Int) (x3 : Int) (x4 : List (List api_Node)) (x5 : Int) (x6 : Int) : St := ⟨dead :: .ptr 0 [] 0 0 :: dead :: dead :: dead :: .pv (.int .i64 x5) :: dead :: dead :: .ms 1 [] 0 (List.length x0) :: .pv (.int .i64 x6) :: List.replicate 136 dead, [.box 0 [.pv (.int .i64 x1), .pv (.int .i64 x2), .pv (.int .i64 x3), .pv (.seq (List.length x4) (encP e_62 ([] : List api_Node) x4))], .arr 0 1 (List.length x0) (encW o_42 ([] : List Int) x0)]⟩
theorem alibiref05_Check_l20_ok (x0 : List (List Int)) (x1 : Int) (x2 : Int) (x3 : Int) (x4 : List (List api_Node)) (x5 : Int) (x6 : Int) (r : alibiref05_Check_l20_R) (h : alibiref05_Check_l20 x0 x1 x2 x3 x4 x5 x6 = some r) : Loops Try.prog alibiref05_Check_l20_c 0 (alibiref05_Check_l20_s x0 x1 x2 x3 x4 x5 x6) r.ex (alibiref05_Check_l20_R.st x0 x1 x2 x3 x4 x5 x6 r) := by
 refine alibiref05_Check_l20.partial_correctness x0 x1 x2 x3 x4 x5 (fun x6 r => Loops Try.prog alibiref05_Check_l20_c 0 (alibiref05_Check_l20_s x0 x1 x2 x3 x4 x5 x6) r.ex (alibiref05_Check_l20_R.st x0 x1 x2 x3 x4 x5 x6 r)) ?_ x6 r h
 clear h r x6
 intro self ih x6 r h
 rcases if_of h with ⟨c33, h⟩ | ⟨c33, h⟩
 · obtain ⟨q, hq, h⟩ := bind_of h
   cases q with
   | x0 v45 v46 =>
    have h47 := hq; clear hq
    try dsimp only at h
    have h := Option.some.inj h; subst h
    exact plast mixed lives 12 (by kernel_rfl) (pk <| pb c33 <| pl (alibiref05_Check_l23_ok _ _ _ _ _ _ _ _ _ h47) <| pz) rfl
   | x1 =>
    have h48 := hq; clear hq
    try dsimp only at h
    exact pmore mixed lives 12 (by kernel_rfl) (pk <| pb c33 <| pl (alibiref05_Check_l23_ok _ _ _ _ _ _ _ _ _ h48) <| pk <| pz) (ih (iAdd x6 1) _ h)
 · have h := Option.some.inj h; subst h
   exact plast mixed lives 12 (by kernel_rfl) (pk <| pb c33 <| pz) rfl
/-- alibi/alibiref05.Check -/
def alibiref05_Check (p : api_Program) : Option (Int × Int × Int) :=
  if (decide ((p.globals : Int) < 0)) = true then
    some ((-1), (-1), 1)
  else
    if (decide ((p.locks : Int) < 0)) = true then
      some ((-1), (-1), 1)
    else
      if (decide ((p.slots : Int) < 0)) = true then
        some ((-1), (-1), 1)
      else
        if (((((List.length p.funcs : Nat) : Int)) : Int) == 0) = true then
          some ((-1), (-1), 1)
        else
          if (decide ((p.globals : Int) > 16)) = true then
            some ((-1), (-1), 4)
          else
            if (decide ((p.locks : Int) > 16)) = true then
              some ((-1), (-1), 4)
            else
              if (decide ((p.slots : Int) > 8)) = true then
                some ((-1), (-1), 4)
              else
                if (decide (((((List.length p.funcs : Nat) : Int)) : Int) > 16)) = true then
                  some ((-1), (-1), 4)
                else
                  bind (alibiref05_Check_l7 p.globals p.locks p.slots p.funcs (((List.length p.funcs : Nat) : Int)) 0) fun q => match q with
                    | .x0 v26 v27 v28 =>
                      some (v26, v27, v28)
                    | .x1 =>
                      bind (alibiref05_Calls p) fun v31 =>
                      bind (alibiref05_Check_l20 v31 p.globals p.locks p.slots p.funcs (((List.length p.funcs : Nat) : Int)) 0) fun q => match q with
                        | .x0 v49 v50 v51 =>
                          some (v49, v50, v51)
                        | .x1 =>
                          some (0, 0, 0)
theorem alibiref05_Check_ok (p : api_Program) (r : Int × Int × Int) (h : alibiref05_Check p = some r) : Does Try.prog 12 [.agg [.pv (.int .i64 p.globals), .pv (.int .i64 p.locks), .pv (.int .i64 p.slots), .pv (.seq (List.length p.funcs) (encP e_62 ([] : List api_Node) p.funcs))]] [] (.tup [.pv (.int .i64 r.1), .pv (.int .i64 r.2.1), .pv (.int .i64 r.2.2)], []) := by
 unfold alibiref05_Check at h
 rcases if_of h with ⟨c1, h⟩ | ⟨c1, h⟩
 · have h := Option.some.inj h; subst h
   exact pdoes mixed (L := lives) (by kernel_rfl) (pk5 <| pb c1 <| pk8 <| pk3 <| pz)
 · rcases if_of h with ⟨c2, h⟩ | ⟨c2, h⟩
   · have h := Option.some.inj h; subst h
     exact pdoes mixed (L := lives) (by kernel_rfl) (pk5 <| pb c1 <| pk5 <| pb c2 <| pk7 <| pz)
   · rcases if_of h with ⟨c3, h⟩ | ⟨c3, h⟩
     · have h := Option.some.inj h; subst h
       exact pdoes mixed (L := lives) (by kernel_rfl) (pk5 <| pb c1 <| pk5 <| pb c2 <| pk5 <| pb c3 <| pk3 <| pz)
     · rcases if_of h with ⟨c4, h⟩ | ⟨c4, h⟩
       · have h := Option.some.inj h; subst h
         exact pdoes mixed (L := lives) (by kernel_rfl) (pk5 <| pb c1 <| pk5 <| pb c2 <| pk5 <| pb c3 <| pk3 <| pb c4 <| pz)
       · rcases if_of h with ⟨c5, h⟩ | ⟨c5, h⟩
         · have h := Option.some.inj h; subst h
           exact pdoes mixed (L := lives) (by kernel_rfl) (pk5 <| pb c1 <| pk5 <| pb c2 <| pk5 <| pb c3 <| pk3 <| pb c4 <| pk2 <| pb c5 <| pk8 <| pk3 <| pz)
         · rcases if_of h with ⟨c6, h⟩ | ⟨c6, h⟩
           · have h := Option.some.inj h; subst h
             exact pdoes mixed (L := lives) (by kernel_rfl) (pk5 <| pb c1 <| pk5 <| pb c2 <| pk5 <| pb c3 <| pk3 <| pb c4 <| pk2 <| pb c5 <| pk5 <| pb c6 <| pk7 <| pz)
           · rcases if_of h with ⟨c7, h⟩ | ⟨c7, h⟩
             · have h := Option.some.inj h; subst h
               exact pdoes mixed (L := lives) (by kernel_rfl) (pk5 <| pb c1 <| pk5 <| pb c2 <| pk5 <| pb c3 <| pk3 <| pb c4 <| pk2 <| pb c5 <| pk5 <| pb c6 <| pk5 <| pb c7 <| pk3 <| pz)
             · rcases if_of h with ⟨c8, h⟩ | ⟨c8, h⟩
               · have h := Option.some.inj h; subst h
                 exact pdoes mixed (L := lives) (by kernel_rfl) (pk5 <| pb c1 <| pk5 <| pb c2 <| pk5 <| pb c3 <| pk3 <| pb c4 <| pk2 <| pb c5 <| pk5 <| pb c6 <| pk5 <| pb c7 <| pk3 <| pb c8 <| pz)
               · obtain ⟨q, hq, h⟩ := bind_of h
                 cases q with
                 | x0 v26 v27 v28 =>
                  have h29 := hq; clear hq
                  try dsimp only at h
                  have h := Option.some.inj h; subst h
                  exact pdoes mixed (L := lives) (by kernel_rfl) (pk5 <| pb c1 <| pk5 <| pb c2 <| pk5 <| pb c3 <| pk3 <| pb c4 <| pk2 <| pb c5 <| pk5 <| pb c6 <| pk5 <| pb c7 <| pk3 <| pb c8 <| pl (alibiref05_Check_l7_ok _ _ _ _ _ _ _ h29) <| pz)
                 | x1 =>
                  have h30 := hq; clear hq
                  try dsimp only at h
                  obtain ⟨v31, h32, h⟩ := bind_of h
                  obtain ⟨q, hq, h⟩ := bind_of h
                  cases q with
                  | x0 v49 v50 v51 =>
                   have h52 := hq; clear hq
                   try dsimp only at h
                   have h := Option.some.inj h; subst h
                   exact pdoes mixed (L := lives) (by kernel_rfl) (pk5 <| pb c1 <| pk5 <| pb c2 <| pk5 <| pb c3 <| pk3 <| pb c4 <| pk2 <| pb c5 <| pk5 <| pb c6 <| pk5 <| pb c7 <| pk3 <| pb c8 <| pl (alibiref05_Check_l7_ok _ _ _ _ _ _ _ h30) <| pk <| pc (alibiref05_Calls_ok _ _ h32) <| pk <| pl (alibiref05_Check_l20_ok _ _ _ _ _ _ _ _ h52) <| pz)
                  | x1 =>
                   have h53 := hq; clear hq
                   try dsimp only at h
                   have h := Option.some.inj h; subst h
                   exact pdoes mixed (L := lives) (by kernel_rfl) (pk5 <| pb c1 <| pk5 <| pb c2 <| pk5 <| pb c3 <| pk3 <| pb c4 <| pk2 <| pb c5 <| pk5 <| pb c6 <| pk5 <| pb c7 <| pk3 <| pb c8 <| pl (alibiref05_Check_l7_ok _ _ _ _ _ _ _ h30) <| pk <| pc (alibiref05_Calls_ok _ _ h32) <| pk <| pl (alibiref05_Check_l20_ok _ _ _ _ _ _ _ _ h53) <| pz)
noncomputable def alibiref22_Find_l3_c : Code := sub (codeOf Try.prog 13) [1, 1, 0, 1, 0, 0]
def alibiref22_Find_l3 (x0 : List Int) (x1 : Int) (x2 : Int) (x3 : Int) (x4 : List (List api_Node)) (x5 : Int) : Option ((List Int)) :=
  if (decide ((x5 : Int) < x2)) = true then
    if (Nat.ble ((List.length x0 + List.length ([x5])) * 8) reach) = true then
      alibiref22_Find_l3 (x0 ++ ([x5])) x1 x2 x3 x4 (iAdd x5 1)
    else none
  else
    some x0
partial_fixpoint
noncomputable abbrev alibiref22_Find_l3_s (x0 : List Int) (x1 : Int) (x2 : Int) (x3 : Int) (x4 : List (List api_Node)) (x5 : Int) : St := ⟨dead :: .ptr 0 [] 0 0 :: dead :: .ms 1 [] 0 (List.length x0) :: .pv (.int .i64 x5) :: List.replicate 207 dead, [.box 0 [.pv (.int .i64 x1), .pv (.int .i64 x2), .pv (.int .i64 x3), .pv (.seq (List.length x4) (encP e_62 ([] : List api_Node) x4))], .arr 0 1 (List.length x0) (encW o_i64 0 x0)]⟩
noncomputable abbrev alibiref22_Find_l3_e (x0 : List Int) (x1 : Int) (x2 : Int) (x3 : Int) (x4 : List (List api_Node)) (x5 : Int) (r : (List Int)) : St := ⟨dead :: .ptr 0 [] 0 0 :: dead :: .ms 1 [] 0 (List.length r) :: List.replicate 208 dead, [.box 0 [.pv (.int .i64 x1), .pv (.int .i64 x2), .pv (.int .i64 x3), .pv (.seq (List.length x4) (encP e_62 ([] : List api_Node) x4))], .arr 0 1 (List.length r) (encW o_i64 0 r)]⟩
theorem alibiref22_Find_l3_ok (x0 : List Int) (x1 : Int) (x2 : Int) (x3 : Int) (x4 : List (List api_Node)) (x5 : Int) (r : (List Int)) (h : alibiref22_Find_l3 x0 x1 x2 x3 x4 x5 = some r) : Loops Try.prog alibiref22_Find_l3_c 0 (alibiref22_Find_l3_s x0 x1 x2 x3 x4 x5) (.exit 0) (alibiref22_Find_l3_e x0 x1 x2 x3 x4 x5 r) := by
 refine alibiref22_Find_l3.partial_correctness x1 x2 x3 x4 (fun x0 x5 r => Loops Try.prog alibiref22_Find_l3_c 0 (alibiref22_Find_l3_s x0 x1 x2 x3 x4 x5) (.exit 0) (alibiref22_Find_l3_e x0 x1 x2 x3 x4 x5 r)) ?_ x0 x5 r h
 clear h r x0 x5
 intro self ih x0 x5 r h
 rcases if_of h with ⟨c1, h⟩ | ⟨c1, h⟩
 · obtain ⟨c2, h⟩ := need_of h
   exact pmore mixed lives 13 (by kernel_rfl) (pk2 <| pb c1 <| pe (eff_lit o_i64 0 2 1 1 ([x5]) rfl [] []) <| pb (whole_ok (List.length ([x5]))) <| pn c2 <| pe (eff_app o_i64 0 x0 ([x5]) (x0 ++ ([x5])) 1 1 (List.length x0) (List.length ([x5])) (fun i => List.map AV.scal (encW o_i64 0 ([x5]) i)) (encW o_i64 0 x0 (List.length x0)) [] [] [(1, false)] (by first | exact Nat.le_refl _ | exact Nat.zero_le _ | (simp only [decide_eq_true_eq, List.length_set, List.length_append, List.length_replicate, List.length_cons, List.length_nil, Nat.zero_add] at * <;> omega)) rfl (fun _ => by kernel_rfl) (congrArg o_i64 (getD_ge 0 (by first | exact Nat.le_refl _ | exact Nat.zero_le _ | (simp only [decide_eq_true_eq, List.length_set, List.length_append, List.length_replicate, List.length_cons, List.length_nil, Nat.zero_add] at * <;> omega)))) (by rw [List.take_of_length_le (by first | exact Nat.le_refl _ | exact Nat.zero_le _ | (simp only [decide_eq_true_eq, List.length_set, List.length_append, List.length_replicate, List.length_cons, List.length_nil, Nat.zero_add] at * <;> omega))])) <| pk <| pz) (ih (x0 ++ ([x5])) (iAdd x5 1) _ h)
 · have h := Option.some.inj h; subst h
   exact plast mixed lives 13 (by kernel_rfl) (pk2 <| pb c1 <| pz) rfl
noncomputable def alibiref03_Mask_l7_c : Code := sub (codeOf Try.prog 36) [1, 1, 0, 1, 0, 0, 1, 0, 0, 1, 0, 1, 0, 0]
def alibiref03_Mask_l7 (x0 : List Int) (x1 : BitVec 64) (x2 : Int) (x3 : BitVec 64) (x4 : Int) : Option ((BitVec 64)) :=
  if (decide ((0 : Int) ≤ x2)) = true then
    if (decide ((x2 : Int) < ((List.length x0 : Nat) : Int))) = true then
      if (decide ((x4 : Int) < (List.getD x0 (Int.toNat x2) 0))) = true then
        alibiref03_Mask_l7 x0 x1 x2 (x3 * (2#64)) (iAdd x4 1)
      else
        some x3
    else none
  else none
partial_fixpoint
noncomputable abbrev alibiref03_Mask_l7_s (x0 : List Int) (x1 : BitVec 64) (x2 : Int) (x3 : BitVec 64) (x4 : Int) : St := ⟨.pv (.seq (List.length x0) (encP e_i64 0 x0)) :: dead :: dead :: .pv (.int .u64 (BitVec.toNat x1 : Nat)) :: .pv (.int .i64 x2) :: .pv (.int .u64 (BitVec.toNat x3 : Nat)) :: .pv (.int .i64 x4) :: List.replicate 21 dead, []⟩
noncomputable abbrev alibiref03_Mask_l7_e (x0 : List Int) (x1 : BitVec 64) (x2 : Int) (x3 : BitVec 64) (x4 : Int) (r : (BitVec 64)) : St := ⟨.pv (.seq (List.length x0) (encP e_i64 0 x0)) :: dead :: dead :: .pv (.int .u64 (BitVec.toNat x1 : Nat)) :: .pv (.int .i64 x2) :: .pv (.int .u64 (BitVec.toNat r : Nat)) :: List.replicate 22 dead, []⟩
theorem alibiref03_Mask_l7_ok (x0 : List Int) (x1 : BitVec 64) (x2 : Int) (x3 : BitVec 64) (x4 : Int) (r : (BitVec 64)) (h : alibiref03_Mask_l7 x0 x1 x2 x3 x4 = some r) : Loops Try.prog alibiref03_Mask_l7_c 0 (alibiref03_Mask_l7_s x0 x1 x2 x3 x4) (.exit 2) (alibiref03_Mask_l7_e x0 x1 x2 x3 x4 r) := by
 refine alibiref03_Mask_l7.partial_correctness x0 x1 x2 (fun x3 x4 r => Loops Try.prog alibiref03_Mask_l7_c 0 (alibiref03_Mask_l7_s x0 x1 x2 x3 x4) (.exit 2) (alibiref03_Mask_l7_e x0 x1 x2 x3 x4 r)) ?_ x3 x4 r h
 clear h r x3 x4
 intro self ih x3 x4 r h
 obtain ⟨c2, h⟩ := need_of h
 obtain ⟨c3, h⟩ := need_of h
 rcases if_of h with ⟨c4, h⟩ | ⟨c4, h⟩
 · exact pmore mixed lives 36 (by kernel_rfl) (pn c2 <| pn c3 <| pk2 <| pb c4 <| pe (eff_int (k := .u64) (un_mul .u64 rfl x3 (2#64))) <| pk <| pz) (ih (x3 * (2#64)) (iAdd x4 1) _ h)
 · have h := Option.some.inj h; subst h
   exact plast mixed lives 36 (by kernel_rfl) (pn c2 <| pn c3 <| pk2 <| pb c4 <| pz) rfl
noncomputable def alibiref03_Mask_l3_c : Code := sub (codeOf Try.prog 36) [1, 1, 0, 1, 0, 0]
def alibiref03_Mask_l3 (x0 : List Int) (x1 : BitVec 64) (x2 : Int) : Option ((BitVec 64)) :=
  if (decide ((x2 : Int) < (((List.length x0 : Nat) : Int)))) = true then
    bind (alibiref03_Mask_l7 x0 x1 x2 (1#64) 0) fun v5 =>
    alibiref03_Mask_l3 x0 (x1 + v5) (iAdd x2 1)
  else
    some x1
partial_fixpoint
noncomputable abbrev alibiref03_Mask_l3_s (x0 : List Int) (x1 : BitVec 64) (x2 : Int) : St := ⟨.pv (.seq (List.length x0) (encP e_i64 0 x0)) :: dead :: dead :: .pv (.int .u64 (BitVec.toNat x1 : Nat)) :: .pv (.int .i64 x2) :: List.replicate 23 dead, []⟩
noncomputable abbrev alibiref03_Mask_l3_e (x0 : List Int) (x1 : BitVec 64) (x2 : Int) (r : (BitVec 64)) : St := ⟨dead :: dead :: dead :: .pv (.int .u64 (BitVec.toNat r : Nat)) :: List.replicate 24 dead, []⟩
theorem alibiref03_Mask_l3_ok (x0 : List Int) (x1 : BitVec 64) (x2 : Int) (r : (BitVec 64)) (h : alibiref03_Mask_l3 x0 x1 x2 = some r) : Loops Try.prog alibiref03_Mask_l3_c 0 (alibiref03_Mask_l3_s x0 x1 x2) (.exit 0) (alibiref03_Mask_l3_e x0 x1 x2 r) := by
 refine alibiref03_Mask_l3.partial_correctness x0 (fun x1 x2 r => Loops Try.prog alibiref03_Mask_l3_c 0 (alibiref03_Mask_l3_s x0 x1 x2) (.exit 0) (alibiref03_Mask_l3_e x0 x1 x2 r)) ?_ x1 x2 r h
 clear h r x1 x2
 intro self ih x1 x2 r h
 rcases if_of h with ⟨c1, h⟩ | ⟨c1, h⟩
 · obtain ⟨v5, h6, h⟩ := bind_of h
   exact pmore mixed lives 36 (by kernel_rfl) (pk2 <| pb c1 <| pl (alibiref03_Mask_l7_ok _ _ _ _ _ _ h6) <| pe (eff_int (k := .u64) (un_add .u64 rfl x1 v5)) <| pk <| pz) (ih (x1 + v5) (iAdd x2 1) _ h)
 · have h := Option.some.inj h; subst h
   exact plast mixed lives 36 (by kernel_rfl) (pk2 <| pb c1 <| pz) rfl
/-- alibi/alibiref03.Mask -/
def alibiref03_Mask (l : List Int) : Option ((BitVec 32)) :=
  bind (alibiref03_Mask_l3 l (0#64) 0) fun v7 =>
  some (BitVec.setWidth 32 v7)
theorem alibiref03_Mask_ok (l : List Int) (r : (BitVec 32)) (h : alibiref03_Mask l = some r) : Does Try.prog 36 [.pv (.seq (List.length l) (encP e_i64 0 l))] [] (.pv (.int .u32 (BitVec.toNat r : Nat)), []) := by
 unfold alibiref03_Mask at h
 obtain ⟨v7, h8, h⟩ := bind_of h
 have h := Option.some.inj h; subst h
 exact pdoes mixed (L := lives) (by kernel_rfl) (pl (alibiref03_Mask_l3_ok _ _ _ _ h8) <| pe (eff_int (k := .u32) (un_un .u32 rfl 64 v7)) <| pz)
noncomputable def alibiref22_Find_l13_c : Code := sub (codeOf Try.prog 13) [1, 1, 1, 1, 1, 0, 1, 0, 0, 1, 0, 0, 1, 0, 1, 0, 0]
def alibiref22_Find_l13 (x0 : List api_Section) (x1 : List (BitVec 32)) (x2 : List (BitVec 32)) (x3 : Int) (x4 : Int) (x5 : Int) (x6 : List (List api_Node)) (x7 : BitVec 32) (x8 : BitVec 32) (x9 : BitVec 32) (x10 : BitVec 32) (x11 : BitVec 32) (x12 : Int) (x13 : Int) : Option ((List (BitVec 32)) × (List (BitVec 32))) :=
  if (decide ((0 : Int) ≤ x12)) = true then
    if (decide ((x12 : Int) < ((List.length x6 : Nat) : Int))) = true then
      if (decide ((x13 : Int) < (((List.length (List.getD x6 (Int.toNat x12) (([] : List api_Node))) : Nat) : Int)))) = true then
        if (Nat.ble ((List.length x1 + List.length ([x11])) * 4) reach) = true then
          if (Nat.ble ((List.length x2 + List.length ([0#32])) * 4) reach) = true then
            alibiref22_Find_l13 x0 (x1 ++ ([x11])) (x2 ++ ([0#32])) x3 x4 x5 x6 x7 x8 x9 x10 x11 x12 (iAdd x13 1)
          else none
        else none
      else
        some (x1, x2)
    else none
  else none
partial_fixpoint
noncomputable abbrev alibiref22_Find_l13_s (x0 : List api_Section) (x1 : List (BitVec 32)) (x2 : List (BitVec 32)) (x3 : Int) (x4 : Int) (x5 : Int) (x6 : List (List api_Node)) (x7 : BitVec 32) (x8 : BitVec 32) (x9 : BitVec 32) (x10 : BitVec 32) (x11 : BitVec 32) (x12 : Int) (x13 : Int) : St := ⟨dead :: .ptr 0 [] 0 0 :: dead :: dead :: dead :: .pv (.int .u32 (BitVec.toNat x11 : Nat)) :: .ms 1 [] 0 (List.length x0) :: .pv (.int .i64 x12) :: .ptr 2 [] 0 0 :: .pv (.int .i64 x13) :: List.replicate 202 dead, [.box 0 [.pv (.int .i64 x3), .pv (.int .i64 x4), .pv (.int .i64 x5), .pv (.seq (List.length x6) (encP e_62 ([] : List api_Node) x6))], .arr 0 6 (List.length x0) (encW o_api_Section d_api_Section x0), .box 0 [.pv (.int .u32 (BitVec.toNat x7 : Nat)), .pv (.int .u32 (BitVec.toNat x8 : Nat)), .ms 3 [] 0 (List.length x1), .pv (.int .u32 (BitVec.toNat x9 : Nat)), .pv (.int .u32 (BitVec.toNat x10 : Nat)), .ms 4 [] 0 (List.length x2)], .arr 0 1 (List.length x1) (encW o_u32 0#32 x1), .arr 0 1 (List.length x2) (encW o_u32 0#32 x2)]⟩
noncomputable abbrev alibiref22_Find_l13_e (x0 : List api_Section) (x1 : List (BitVec 32)) (x2 : List (BitVec 32)) (x3 : Int) (x4 : Int) (x5 : Int) (x6 : List (List api_Node)) (x7 : BitVec 32) (x8 : BitVec 32) (x9 : BitVec 32) (x10 : BitVec 32) (x11 : BitVec 32) (x12 : Int) (x13 : Int) (r : (List (BitVec 32)) × (List (BitVec 32))) : St := ⟨dead :: .ptr 0 [] 0 0 :: dead :: dead :: dead :: .pv (.int .u32 (BitVec.toNat x11 : Nat)) :: .ms 1 [] 0 (List.length x0) :: .pv (.int .i64 x12) :: .ptr 2 [] 0 0 :: List.replicate 203 dead, [.box 0 [.pv (.int .i64 x3), .pv (.int .i64 x4), .pv (.int .i64 x5), .pv (.seq (List.length x6) (encP e_62 ([] : List api_Node) x6))], .arr 0 6 (List.length x0) (encW o_api_Section d_api_Section x0), .box 0 [.pv (.int .u32 (BitVec.toNat x7 : Nat)), .pv (.int .u32 (BitVec.toNat x8 : Nat)), .ms 3 [] 0 (List.length r.1), .pv (.int .u32 (BitVec.toNat x9 : Nat)), .pv (.int .u32 (BitVec.toNat x10 : Nat)), .ms 4 [] 0 (List.length r.2)], .arr 0 1 (List.length r.1) (encW o_u32 0#32 r.1), .arr 0 1 (List.length r.2) (encW o_u32 0#32 r.2)]⟩
theorem alibiref22_Find_l13_ok (x0 : List api_Section) (x1 : List (BitVec 32)) (x2 : List (BitVec 32)) (x3 : Int) (x4 : Int) (x5 : Int) (x6 : List (List api_Node)) (x7 : BitVec 32) (x8 : BitVec 32) (x9 : BitVec 32) (x10 : BitVec 32) (x11 : BitVec 32) (x12 : Int) (x13 : Int) (r : (List (BitVec 32)) × (List (BitVec 32))) (h : alibiref22_Find_l13 x0 x1 x2 x3 x4 x5 x6 x7 x8 x9 x10 x11 x12 x13 = some r) : Loops Try.prog alibiref22_Find_l13_c 0 (alibiref22_Find_l13_s x0 x1 x2 x3 x4 x5 x6 x7 x8 x9 x10 x11 x12 x13) (.exit 4) (alibiref22_Find_l13_e x0 x1 x2 x3 x4 x5 x6 x7 x8 x9 x10 x11 x12 x13 r) := by
 refine alibiref22_Find_l13.partial_correctness x0 x3 x4 x5 x6 x7 x8 x9 x10 x11 x12 (fun x1 x2 x13 r => Loops Try.prog alibiref22_Find_l13_c 0 (alibiref22_Find_l13_s x0 x1 x2 x3 x4 x5 x6 x7 x8 x9 x10 x11 x12 x13) (.exit 4) (alibiref22_Find_l13_e x0 x1 x2 x3 x4 x5 x6 x7 x8 x9 x10 x11 x12 x13 r)) ?_ x1 x2 x13 r h
 clear h r x1 x2 x13
 intro self ih x1 x2 x13 r h
 obtain ⟨c8, h⟩ := need_of h
 obtain ⟨c9, h⟩ := need_of h
 rcases if_of h with ⟨c10, h⟩ | ⟨c10, h⟩
 · obtain ⟨c11, h⟩ := need_of h
   obtain ⟨c12, h⟩ := need_of h
   exact pmore mixed lives 13 (by kernel_rfl) (pk <| pn c8 <| pn c9 <| pk3 <| pb c10 <| pk <| pe (eff_lit o_u32 (0#32) 5 1 1 ([x11]) rfl [] []) <| pb (whole_ok (List.length ([x11]))) <| pn c11 <| pe (eff_app o_u32 (0#32) x1 ([x11]) (x1 ++ ([x11])) 3 1 (List.length x1) (List.length ([x11])) (fun i => List.map AV.scal (encW o_u32 (0#32) ([x11]) i)) (encW o_u32 (0#32) x1 (List.length x1)) [] [] [(3, false)] (by first | exact Nat.le_refl _ | exact Nat.zero_le _ | (simp only [decide_eq_true_eq, List.length_set, List.length_append, List.length_replicate, List.length_cons, List.length_nil, Nat.zero_add] at * <;> omega)) rfl (fun _ => by kernel_rfl) (congrArg o_u32 (getD_ge (0#32) (by first | exact Nat.le_refl _ | exact Nat.zero_le _ | (simp only [decide_eq_true_eq, List.length_set, List.length_append, List.length_replicate, List.length_cons, List.length_nil, Nat.zero_add] at * <;> omega)))) (by rw [List.take_of_length_le (by first | exact Nat.le_refl _ | exact Nat.zero_le _ | (simp only [decide_eq_true_eq, List.length_set, List.length_append, List.length_replicate, List.length_cons, List.length_nil, Nat.zero_add] at * <;> omega))])) <| pk2 <| pe (eff_lit o_u32 (0#32) 6 1 1 ([0#32]) rfl [] []) <| pb (whole_ok (List.length ([0#32]))) <| pn c12 <| pe (eff_app o_u32 (0#32) x2 ([0#32]) (x2 ++ ([0#32])) 4 1 (List.length x2) (List.length ([0#32])) (fun i => List.map AV.scal (encW o_u32 (0#32) ([0#32]) i)) (encW o_u32 (0#32) x2 (List.length x2)) [] [] [(4, false)] (by first | exact Nat.le_refl _ | exact Nat.zero_le _ | (simp only [decide_eq_true_eq, List.length_set, List.length_append, List.length_replicate, List.length_cons, List.length_nil, Nat.zero_add] at * <;> omega)) rfl (fun _ => by kernel_rfl) (congrArg o_u32 (getD_ge (0#32) (by first | exact Nat.le_refl _ | exact Nat.zero_le _ | (simp only [decide_eq_true_eq, List.length_set, List.length_append, List.length_replicate, List.length_cons, List.length_nil, Nat.zero_add] at * <;> omega)))) (by rw [List.take_of_length_le (by first | exact Nat.le_refl _ | exact Nat.zero_le _ | (simp only [decide_eq_true_eq, List.length_set, List.length_append, List.length_replicate, List.length_cons, List.length_nil, Nat.zero_add] at * <;> omega))])) <| pk2 <| pz) (ih (x1 ++ ([x11])) (x2 ++ ([0#32])) (iAdd x13 1) _ h)
 · have h := Option.some.inj h; subst h
   exact plast mixed lives 13 (by kernel_rfl) (pk <| pn c8 <| pn c9 <| pk3 <| pb c10 <| pz) rfl
noncomputable def alibiref22_Find_l9_c : Code := sub (codeOf Try.prog 13) [1, 1, 1, 1, 1, 0, 1, 0, 0]
def alibiref22_Find_l9 (x0 : List api_Section) (x1 : Int) (x2 : Int) (x3 : Int) (x4 : List (List api_Node)) (x5 : BitVec 32) (x6 : Int) : Option ((List api_Section)) :=
  if (decide ((x6 : Int) < (((List.length x4 : Nat) : Int)))) = true then
    bind (alibiref22_Find_l13 x0 (([] : List (BitVec 32))) (([] : List (BitVec 32))) x1 x2 x3 x4 x5 x5 (0#32) (0#32) x5 x6 0) fun v13 =>
    if (Nat.ble ((List.length x0 + List.length ([api_Section.mk x5 x5 v13.1 (0#32) (0#32) v13.2])) * 64) reach) = true then
      alibiref22_Find_l9 (x0 ++ ([api_Section.mk x5 x5 v13.1 (0#32) (0#32) v13.2])) x1 x2 x3 x4 x5 (iAdd x6 1)
    else none
  else
    some x0
partial_fixpoint
noncomputable abbrev alibiref22_Find_l9_s (x0 : List api_Section) (x1 : Int) (x2 : Int) (x3 : Int) (x4 : List (List api_Node)) (x5 : BitVec 32) (x6 : Int) : St := ⟨dead :: .ptr 0 [] 0 0 :: dead :: dead :: dead :: .pv (.int .u32 (BitVec.toNat x5 : Nat)) :: .ms 1 [] 0 (List.length x0) :: .pv (.int .i64 x6) :: List.replicate 204 dead, [.box 0 [.pv (.int .i64 x1), .pv (.int .i64 x2), .pv (.int .i64 x3), .pv (.seq (List.length x4) (encP e_62 ([] : List api_Node) x4))], .arr 0 6 (List.length x0) (encW o_api_Section d_api_Section x0)]⟩
noncomputable abbrev alibiref22_Find_l9_e (x0 : List api_Section) (x1 : Int) (x2 : Int) (x3 : Int) (x4 : List (List api_Node)) (x5 : BitVec 32) (x6 : Int) (r : (List api_Section)) : St := ⟨dead :: .ptr 0 [] 0 0 :: (List.replicate 4 dead ++ (.ms 1 [] 0 (List.length r) :: List.replicate 205 dead)), [.box 0 [.pv (.int .i64 x1), .pv (.int .i64 x2), .pv (.int .i64 x3), .pv (.seq (List.length x4) (encP e_62 ([] : List api_Node) x4))], .arr 0 6 (List.length r) (encW o_api_Section d_api_Section r)]⟩
theorem alibiref22_Find_l9_ok (x0 : List api_Section) (x1 : Int) (x2 : Int) (x3 : Int) (x4 : List (List api_Node)) (x5 : BitVec 32) (x6 : Int) (r : (List api_Section)) (h : alibiref22_Find_l9 x0 x1 x2 x3 x4 x5 x6 = some r) : Loops Try.prog alibiref22_Find_l9_c 0 (alibiref22_Find_l9_s x0 x1 x2 x3 x4 x5 x6) (.exit 2) (alibiref22_Find_l9_e x0 x1 x2 x3 x4 x5 x6 r) := by
 refine alibiref22_Find_l9.partial_correctness x1 x2 x3 x4 x5 (fun x0 x6 r => Loops Try.prog alibiref22_Find_l9_c 0 (alibiref22_Find_l9_s x0 x1 x2 x3 x4 x5 x6) (.exit 2) (alibiref22_Find_l9_e x0 x1 x2 x3 x4 x5 x6 r)) ?_ x0 x6 r h
 clear h r x0 x6
 intro self ih x0 x6 r h
 rcases if_of h with ⟨c7, h⟩ | ⟨c7, h⟩
 · obtain ⟨v13, h14, h⟩ := bind_of h
   obtain ⟨c15, h⟩ := need_of h
   exact pmore mixed lives 13 (by kernel_rfl) (pk3 <| pb c7 <| pk3 <| pl (Loops.of (s1 := ⟨dead :: .ptr 0 [] 0 0 :: dead :: dead :: dead :: .pv (.int .u32 (BitVec.toNat x5 : Nat)) :: .ms 1 [] 0 (List.length x0) :: .pv (.int .i64 x6) :: .ptr 2 [] 0 0 :: .pv (.int .i64 0) :: List.replicate 202 dead, [.box 0 [.pv (.int .i64 x1), .pv (.int .i64 x2), .pv (.int .i64 x3), .pv (.seq (List.length x4) (encP e_62 ([] : List api_Node) x4))], .arr 0 6 (List.length x0) (encW o_api_Section d_api_Section x0), .box 0 [.pv (.int .u32 (BitVec.toNat x5 : Nat)), .pv (.int .u32 (BitVec.toNat x5 : Nat)), .ms 3 [] 0 (List.length ([] : List (BitVec 32))), .pv (.int .u32 (BitVec.toNat (0#32) : Nat)), .pv (.int .u32 (BitVec.toNat (0#32) : Nat)), .ms 4 [] 0 (List.length ([] : List (BitVec 32)))], .arr 0 1 (List.length ([] : List (BitVec 32))) (encW o_u32 0#32 (([] : List (BitVec 32)))), .arr 0 1 (List.length ([] : List (BitVec 32))) (encW o_u32 0#32 (([] : List (BitVec 32))))]⟩) (alibiref22_Find_l13_ok _ _ _ _ _ _ _ _ _ _ _ _ _ _ _ h14) (by (first | rfl | (simp only [alibiref22_Find_l13_s, List.length_set]; done)))) <| pk <| pb (whole_ok (List.length v13.1)) <| pb (whole_ok (List.length v13.2)) <| pe (eff_lit o_api_Section d_api_Section 5 6 1 ([api_Section.mk x5 x5 v13.1 (0#32) (0#32) v13.2]) rfl [(3, .gone), (4, .gone)] [(3, false), (4, false)]) <| pb (whole_ok (List.length ([api_Section.mk x5 x5 v13.1 (0#32) (0#32) v13.2]))) <| pn c15 <| pe (eff_app o_api_Section d_api_Section x0 ([api_Section.mk x5 x5 v13.1 (0#32) (0#32) v13.2]) (x0 ++ ([api_Section.mk x5 x5 v13.1 (0#32) (0#32) v13.2])) 1 6 (List.length x0) (List.length ([api_Section.mk x5 x5 v13.1 (0#32) (0#32) v13.2])) (encW o_api_Section d_api_Section ([api_Section.mk x5 x5 v13.1 (0#32) (0#32) v13.2])) (encW o_api_Section d_api_Section x0 (List.length x0)) [] [(5, .gone)] [(1, false), (5, false)] (by first | exact Nat.le_refl _ | exact Nat.zero_le _ | (simp only [decide_eq_true_eq, List.length_set, List.length_append, List.length_replicate, List.length_cons, List.length_nil, Nat.zero_add] at * <;> omega)) rfl (fun _ => rfl) (congrArg o_api_Section (getD_ge d_api_Section (by first | exact Nat.le_refl _ | exact Nat.zero_le _ | (simp only [decide_eq_true_eq, List.length_set, List.length_append, List.length_replicate, List.length_cons, List.length_nil, Nat.zero_add] at * <;> omega)))) (by rw [List.take_of_length_le (by first | exact Nat.le_refl _ | exact Nat.zero_le _ | (simp only [decide_eq_true_eq, List.length_set, List.length_append, List.length_replicate, List.length_cons, List.length_nil, Nat.zero_add] at * <;> omega))])) <| pk <| pz) (ih (x0 ++ ([api_Section.mk x5 x5 v13.1 (0#32) (0#32) v13.2])) (iAdd x6 1) _ h)
 · have h := Option.some.inj h; subst h
   exact plast mixed lives 13 (by kernel_rfl) (pk3 <| pb c7 <| pz) rfl
def e_api_Section (x : api_Section) : List PV := [.int .u32 (BitVec.toNat x.entry : Nat), .int .u32 (BitVec.toNat x.exit : Nat), .seq (List.length x.held) (encP e_u32 0#32 x.held), .int .u32 (BitVec.toNat x.liveEntry : Nat), .int .u32 (BitVec.toNat x.liveExit : Nat), .seq (List.length x.live) (encP e_u32 0#32 x.live)]
noncomputable def alibiref15_Shaped_l4_c : Code := sub (codeOf Try.prog 18) [1, 1, 0, 1, 0, 0]
inductive alibiref15_Shaped_l4_R where
  | x0 (v0 : Bool)
  | x1
def alibiref15_Shaped_l4_R.ex : alibiref15_Shaped_l4_R → Ex
  | .x0 _ => .ret
  | .x1 => .exit 0
noncomputable def alibiref15_Shaped_l4_R.st (x0 : Int) (x1 : Int) (x2 : Int) (x3 : List (List api_Node)) (x4 : List api_Section) (x5 : Int) : alibiref15_Shaped_l4_R → St
  | .x0 v0 => ⟨(List.replicate 4 dead ++ (.pv (.bool v0) :: List.replicate 41 dead)), []⟩
  | .x1 => ⟨List.replicate 46 dead, []⟩
def alibiref15_Shaped_l4 (x0 : Int) (x1 : Int) (x2 : Int) (x3 : List (List api_Node)) (x4 : List api_Section) (x5 : Int) : Option (alibiref15_Shaped_l4_R) :=
  if (decide ((x5 : Int) < (((List.length x4 : Nat) : Int)))) = true then
    if (decide ((0 : Int) ≤ x5)) = true then
      if (decide ((x5 : Int) < ((List.length x4 : Nat) : Int))) = true then
        if (decide ((x5 : Int) < ((List.length x3 : Nat) : Int))) = true then
          if (((((List.length ((List.getD x4 (Int.toNat x5) d_api_Section).held) : Nat) : Int)) : Int) != (((List.length (List.getD x3 (Int.toNat x5) (([] : List api_Node))) : Nat) : Int))) = true then
            some (.x0 false)
          else
            if (((((List.length ((List.getD x4 (Int.toNat x5) d_api_Section).live) : Nat) : Int)) : Int) != (((List.length (List.getD x3 (Int.toNat x5) (([] : List api_Node))) : Nat) : Int))) = true then
              some (.x0 false)
            else
              alibiref15_Shaped_l4 x0 x1 x2 x3 x4 (iAdd x5 1)
        else none
      else none
    else none
  else
    some (.x1)
partial_fixpoint
noncomputable abbrev alibiref15_Shaped_l4_s (x0 : Int) (x1 : Int) (x2 : Int) (x3 : List (List api_Node)) (x4 : List api_Section) (x5 : Int) : St := ⟨dead :: .pv (.seq (List.length x4) (encP e_api_Section d_api_Section x4)) :: .ptr 0 [] 0 0 :: dead :: dead :: .pv (.int .i64 x5) :: List.replicate 40 dead, [.box 0 [.pv (.int .i64 x0), .pv (.int .i64 x1), .pv (.int .i64 x2), .pv (.seq (List.length x3) (encP e_62 ([] : List api_Node) x3))]]⟩
theorem alibiref15_Shaped_l4_ok (x0 : Int) (x1 : Int) (x2 : Int) (x3 : List (List api_Node)) (x4 : List api_Section) (x5 : Int) (r : alibiref15_Shaped_l4_R) (h : alibiref15_Shaped_l4 x0 x1 x2 x3 x4 x5 = some r) : Loops Try.prog alibiref15_Shaped_l4_c 0 (alibiref15_Shaped_l4_s x0 x1 x2 x3 x4 x5) r.ex (alibiref15_Shaped_l4_R.st x0 x1 x2 x3 x4 x5 r) := by
 refine alibiref15_Shaped_l4.partial_correctness x0 x1 x2 x3 x4 (fun x5 r => Loops Try.prog alibiref15_Shaped_l4_c 0 (alibiref15_Shaped_l4_s x0 x1 x2 x3 x4 x5) r.ex (alibiref15_Shaped_l4_R.st x0 x1 x2 x3 x4 x5 r)) ?_ x5 r h
 clear h r x5
 intro self ih x5 r h
 rcases if_of h with ⟨c2, h⟩ | ⟨c2, h⟩
 · obtain ⟨c3, h⟩ := need_of h
   obtain ⟨c4, h⟩ := need_of h
   obtain ⟨c5, h⟩ := need_of h
   rcases if_of h with ⟨c6, h⟩ | ⟨c6, h⟩
   · have h := Option.some.inj h; subst h
     exact plast mixed lives 18 (by kernel_rfl) (pk2 <| pb c2 <| pn c3 <| pn c4 <| pk3 <| pn c3 <| pn c5 <| pk3 <| pb c6 <| pk8 <| pk6 <| pz) rfl
   · rcases if_of h with ⟨c7, h⟩ | ⟨c7, h⟩
     · have h := Option.some.inj h; subst h
       exact plast mixed lives 18 (by kernel_rfl) (pk2 <| pb c2 <| pn c3 <| pn c4 <| pk3 <| pn c3 <| pn c5 <| pk3 <| pb c6 <| pk2 <| pn c3 <| pn c4 <| pk8 <| pk2 <| pn c3 <| pn c5 <| pk7 <| pb c7 <| pz) rfl
     · exact pmore mixed lives 18 (by kernel_rfl) (pk2 <| pb c2 <| pn c3 <| pn c4 <| pk3 <| pn c3 <| pn c5 <| pk3 <| pb c6 <| pk2 <| pn c3 <| pn c4 <| pk8 <| pk2 <| pn c3 <| pn c5 <| pk7 <| pb c7 <| pk <| pz) (ih (iAdd x5 1) _ h)
 · have h := Option.some.inj h; subst h
   exact plast mixed lives 18 (by kernel_rfl) (pk2 <| pb c2 <| pz) rfl
/-- alibi/alibiref15.Shaped -/
def alibiref15_Shaped (p : api_Program) (l : List api_Section) : Option (Bool) :=
  if (((((List.length l : Nat) : Int)) : Int) != (((List.length p.funcs : Nat) : Int))) = true then
    some false
  else
    bind (alibiref15_Shaped_l4 p.globals p.locks p.slots p.funcs l 0) fun q => match q with
      | .x0 v8 =>
        some v8
      | .x1 =>
        some true
theorem alibiref15_Shaped_ok (p : api_Program) (l : List api_Section) (r : Bool) (h : alibiref15_Shaped p l = some r) : Does Try.prog 18 [.agg [.pv (.int .i64 p.globals), .pv (.int .i64 p.locks), .pv (.int .i64 p.slots), .pv (.seq (List.length p.funcs) (encP e_62 ([] : List api_Node) p.funcs))], .pv (.seq (List.length l) (encP e_api_Section d_api_Section l))] [] (.pv (.bool r), []) := by
 unfold alibiref15_Shaped at h
 rcases if_of h with ⟨c1, h⟩ | ⟨c1, h⟩
 · have h := Option.some.inj h; subst h
   exact pdoes mixed (L := lives) (by kernel_rfl) (pk5 <| pb c1 <| pz)
 · obtain ⟨q, hq, h⟩ := bind_of h
   cases q with
   | x0 v8 =>
    have h9 := hq; clear hq
    try dsimp only at h
    have h := Option.some.inj h; subst h
    exact pdoes mixed (L := lives) (by kernel_rfl) (pk5 <| pb c1 <| pl (alibiref15_Shaped_l4_ok _ _ _ _ _ _ _ h9) <| pz)
   | x1 =>
    have h10 := hq; clear hq
    try dsimp only at h
    have h := Option.some.inj h; subst h
    exact pdoes mixed (L := lives) (by kernel_rfl) (pk5 <| pb c1 <| pl (alibiref15_Shaped_l4_ok _ _ _ _ _ _ _ h10) <| pz)
structure api_Fault where
  func : Int
  node : Int
  what : Int

noncomputable def alibiref03_Has_l5_c : Code := sub (codeOf Try.prog 38) [1, 1, 1, 0, 1, 0, 0]
def alibiref03_Has_l5 (x0 : Int) (x1 : BitVec 64) (x2 : Int) : Option ((BitVec 64)) :=
  if (decide ((x2 : Int) < x0)) = true then
    alibiref03_Has_l5 x0 (x1 / (2#64)) (iAdd x2 1)
  else
    some x1
partial_fixpoint
noncomputable abbrev alibiref03_Has_l5_s (x0 : Int) (x1 : BitVec 64) (x2 : Int) : St := ⟨dead :: .pv (.int .i64 x0) :: dead :: dead :: dead :: .pv (.int .u64 (BitVec.toNat x1 : Nat)) :: .pv (.int .i64 x2) :: List.replicate 18 dead, []⟩
noncomputable abbrev alibiref03_Has_l5_e (x0 : Int) (x1 : BitVec 64) (x2 : Int) (r : (BitVec 64)) : St := ⟨(List.replicate 5 dead ++ (.pv (.int .u64 (BitVec.toNat r : Nat)) :: List.replicate 19 dead)), []⟩
theorem alibiref03_Has_l5_ok (x0 : Int) (x1 : BitVec 64) (x2 : Int) (r : (BitVec 64)) (h : alibiref03_Has_l5 x0 x1 x2 = some r) : Loops Try.prog alibiref03_Has_l5_c 0 (alibiref03_Has_l5_s x0 x1 x2) (.exit 0) (alibiref03_Has_l5_e x0 x1 x2 r) := by
 refine alibiref03_Has_l5.partial_correctness x0 (fun x1 x2 r => Loops Try.prog alibiref03_Has_l5_c 0 (alibiref03_Has_l5_s x0 x1 x2) (.exit 0) (alibiref03_Has_l5_e x0 x1 x2 r)) ?_ x1 x2 r h
 clear h r x1 x2
 intro self ih x1 x2 r h
 rcases if_of h with ⟨c3, h⟩ | ⟨c3, h⟩
 · exact pmore mixed lives 38 (by kernel_rfl) (pk <| pb c3 <| pn (rfl : (!decide (((BitVec.toNat (2#64) : Nat) : Int) = (0 : Int))) = true) <| pe (eff_int (k := .u64) (un_quo .u64 rfl x1 (2#64))) <| pk <| pz) (ih (x1 / (2#64)) (iAdd x2 1) _ h)
 · have h := Option.some.inj h; subst h
   exact plast mixed lives 38 (by kernel_rfl) (pk <| pb c3 <| pz) rfl
/-- alibi/alibiref03.Has -/
def alibiref03_Has (m : BitVec 32) (id : Int) : Option (Bool) :=
  if (decide ((id : Int) < 0)) = true then
    some false
  else
    if (decide ((id : Int) > 31)) = true then
      some false
    else
      bind (alibiref03_Has_l5 id (BitVec.setWidth 64 m) 0) fun v4 =>
      some ((v4 % (2#64)) == (1#64))
theorem alibiref03_Has_ok (m : BitVec 32) (id : Int) (r : Bool) (h : alibiref03_Has m id = some r) : Does Try.prog 38 [.pv (.int .u32 (BitVec.toNat m : Nat)), .pv (.int .i64 id)] [] (.pv (.bool r), []) := by
 unfold alibiref03_Has at h
 rcases if_of h with ⟨c1, h⟩ | ⟨c1, h⟩
 · have h := Option.some.inj h; subst h
   exact pdoes mixed (L := lives) (by kernel_rfl) (pk <| pb c1 <| pk3 <| pz)
 · rcases if_of h with ⟨c2, h⟩ | ⟨c2, h⟩
   · have h := Option.some.inj h; subst h
     exact pdoes mixed (L := lives) (by kernel_rfl) (pk <| pb c1 <| pk3 <| pb c2 <| pz)
   · obtain ⟨v4, h5, h⟩ := bind_of h
     have h := Option.some.inj h; subst h
     exact pdoes mixed (L := lives) (by kernel_rfl) (pk <| pb c1 <| pk3 <| pb c2 <| pe (eff_int (k := .u64) (un_un .u64 rfl 32 m)) <| pl (alibiref03_Has_l5_ok _ _ _ _ h5) <| pn (rfl : (!decide (((BitVec.toNat (2#64) : Nat) : Int) = (0 : Int))) = true) <| pe (eff_int (k := .u64) (un_rem .u64 v4 (2#64))) <| pe (eff_bool (un_eql (v4 % (2#64)) (1#64))) <| pz)
noncomputable def alibiref03_Within_l2_c : Code := sub (codeOf Try.prog 48) [1, 0, 1, 0, 0]
inductive alibiref03_Within_l2_R where
  | x0 (v0 : Bool)
  | x1
def alibiref03_Within_l2_R.ex : alibiref03_Within_l2_R → Ex
  | .x0 _ => .ret
  | .x1 => .exit 0
noncomputable def alibiref03_Within_l2_R.st (x0 : BitVec 32) (x1 : BitVec 32) (x2 : Int) : alibiref03_Within_l2_R → St
  | .x0 v0 => ⟨(List.replicate 4 dead ++ (.pv (.bool v0) :: List.replicate 14 dead)), []⟩
  | .x1 => ⟨List.replicate 19 dead, []⟩
def alibiref03_Within_l2 (x0 : BitVec 32) (x1 : BitVec 32) (x2 : Int) : Option (alibiref03_Within_l2_R) :=
  if (decide ((x2 : Int) < 32)) = true then
    bind (alibiref03_Has x0 x2) fun v2 =>
    if v2 = true then
      bind (alibiref03_Has x1 x2) fun v5 =>
      if (!v5) = true then
        some (.x0 false)
      else
        alibiref03_Within_l2 x0 x1 (iAdd x2 1)
    else
      alibiref03_Within_l2 x0 x1 (iAdd x2 1)
  else
    some (.x1)
partial_fixpoint
noncomputable abbrev alibiref03_Within_l2_s (x0 : BitVec 32) (x1 : BitVec 32) (x2 : Int) : St := ⟨.pv (.int .u32 (BitVec.toNat x0 : Nat)) :: .pv (.int .u32 (BitVec.toNat x1 : Nat)) :: dead :: dead :: dead :: .pv (.int .i64 x2) :: List.replicate 13 dead, []⟩
theorem alibiref03_Within_l2_ok (x0 : BitVec 32) (x1 : BitVec 32) (x2 : Int) (r : alibiref03_Within_l2_R) (h : alibiref03_Within_l2 x0 x1 x2 = some r) : Loops Try.prog alibiref03_Within_l2_c 0 (alibiref03_Within_l2_s x0 x1 x2) r.ex (alibiref03_Within_l2_R.st x0 x1 x2 r) := by
 refine alibiref03_Within_l2.partial_correctness x0 x1 (fun x2 r => Loops Try.prog alibiref03_Within_l2_c 0 (alibiref03_Within_l2_s x0 x1 x2) r.ex (alibiref03_Within_l2_R.st x0 x1 x2 r)) ?_ x2 r h
 clear h r x2
 intro self ih x2 r h
 rcases if_of h with ⟨c1, h⟩ | ⟨c1, h⟩
 · obtain ⟨v2, h3, h⟩ := bind_of h
   rcases if_of h with ⟨c4, h⟩ | ⟨c4, h⟩
   · obtain ⟨v5, h6, h⟩ := bind_of h
     rcases if_of h with ⟨c7, h⟩ | ⟨c7, h⟩
     · have h := Option.some.inj h; subst h
       exact plast mixed lives 48 (by kernel_rfl) (pk <| pb c1 <| pc (alibiref03_Has_ok _ _ _ h3) <| pk <| pb c4 <| pk2 <| pc (alibiref03_Has_ok _ _ _ h6) <| pk4 <| pb c7 <| pz) rfl
     · exact pmore mixed lives 48 (by kernel_rfl) (pk <| pb c1 <| pc (alibiref03_Has_ok _ _ _ h3) <| pk <| pb c4 <| pk2 <| pc (alibiref03_Has_ok _ _ _ h6) <| pk4 <| pb c7 <| pk <| pz) (ih (iAdd x2 1) _ h)
   · exact pmore mixed lives 48 (by kernel_rfl) (pk <| pb c1 <| pc (alibiref03_Has_ok _ _ _ h3) <| pk <| pb c4 <| pk6 <| pz) (ih (iAdd x2 1) _ h)
 · have h := Option.some.inj h; subst h
   exact plast mixed lives 48 (by kernel_rfl) (pk <| pb c1 <| pz) rfl
/-- alibi/alibiref03.Within -/
def alibiref03_Within (a : BitVec 32) (b : BitVec 32) : Option (Bool) :=
  bind (alibiref03_Within_l2 a b 0) fun q => match q with
    | .x0 v8 =>
      some v8
    | .x1 =>
      some true
theorem alibiref03_Within_ok (a : BitVec 32) (b : BitVec 32) (r : Bool) (h : alibiref03_Within a b = some r) : Does Try.prog 48 [.pv (.int .u32 (BitVec.toNat a : Nat)), .pv (.int .u32 (BitVec.toNat b : Nat))] [] (.pv (.bool r), []) := by
 unfold alibiref03_Within at h
 obtain ⟨q, hq, h⟩ := bind_of h
 cases q with
 | x0 v8 =>
  have h9 := hq; clear hq
  try dsimp only at h
  have h := Option.some.inj h; subst h
  exact pdoes mixed (L := lives) (by kernel_rfl) (pl (alibiref03_Within_l2_ok _ _ _ _ h9) <| pz)
 | x1 =>
  have h10 := hq; clear hq
  try dsimp only at h
  have h := Option.some.inj h; subst h
  exact pdoes mixed (L := lives) (by kernel_rfl) (pl (alibiref03_Within_l2_ok _ _ _ _ h10) <| pz)
/-- alibi/alibiref05.Succ -/
def alibiref05_Succ (n1 : api_Node) : Option ((List Int)) :=
  if ((n1.kind : Int) == 9) = true then
    some (([] : List Int))
  else
    if ((n1.kind : Int) == 8) = true then
      some ([n1.next, n1.alt])
    else
      some ([n1.next])
theorem alibiref05_Succ_ok (n1 : api_Node) (r : (List Int)) (h : alibiref05_Succ n1 = some r) : Does Try.prog 37 [.agg [.pv (.int .i64 n1.kind), .pv (.int .i64 n1.arg), .pv (.int .i64 n1.next), .pv (.int .i64 n1.alt)]] [] (.ms 0 [] 0 (List.length r), [.arr 0 1 (List.length r) (encW o_i64 0 r)]) := by
 unfold alibiref05_Succ at h
 rcases if_of h with ⟨c1, h⟩ | ⟨c1, h⟩
 · have h := Option.some.inj h; subst h
   refine Does.eq (pdoes mixed (L := lives) (r := (.ms 0 [] 0 (List.length ([] : List Int)), [.arr 0 1 (List.length ([] : List Int)) (encW o_i64 0 (([] : List Int)))])) (by kernel_rfl) (pk3 <| pb c1 <| pz)) ?_
   (first | rfl | (simp only [List.length_set]; done))
 · rcases if_of h with ⟨c2, h⟩ | ⟨c2, h⟩
   · have h := Option.some.inj h; subst h
     exact pdoes mixed (L := lives) (by kernel_rfl) (pk3 <| pb c1 <| pk2 <| pb c2 <| pk2 <| pe (eff_lit o_i64 0 1 1 2 ([n1.next, n1.alt]) rfl [] []) <| pz)
   · have h := Option.some.inj h; subst h
     exact pdoes mixed (L := lives) (by kernel_rfl) (pk3 <| pb c1 <| pk2 <| pb c2 <| pk <| pe (eff_lit o_i64 0 1 1 1 ([n1.next]) rfl [] []) <| pz)
noncomputable def alibiref06_Reach_l4_c : Code := sub (codeOf Try.prog 80) [1, 1, 1, 0, 1, 0, 0]
def alibiref06_Reach_l4 (x0 : List Bool) (x1 : Int) (x2 : Int) (x3 : Int) (x4 : List (List api_Node)) (x5 : List Int) (x6 : Int) (x7 : Int) : Option ((List Bool)) :=
  if (decide ((x7 : Int) < (((List.length x5 : Nat) : Int)))) = true then
    if (decide ((0 : Int) ≤ x7)) = true then
      if (decide ((x7 : Int) < ((List.length x5 : Nat) : Int))) = true then
        if (decide (((List.getD x5 (Int.toNat x7) 0) : Int) < x6)) = true then
          if (decide ((0 : Int) ≤ (List.getD x5 (Int.toNat x7) 0))) = true then
            if (decide (((List.getD x5 (Int.toNat x7) 0) : Int) < (((List.length x0) : Nat) : Int))) = true then
              alibiref06_Reach_l4 (List.set x0 (Int.toNat (List.getD x5 (Int.toNat x7) 0)) true) x1 x2 x3 x4 x5 x6 (iAdd x7 1)
            else none
          else none
        else
          alibiref06_Reach_l4 x0 x1 x2 x3 x4 x5 x6 (iAdd x7 1)
      else none
    else none
  else
    some x0
partial_fixpoint
noncomputable abbrev alibiref06_Reach_l4_s (x0 : List Bool) (x1 : Int) (x2 : Int) (x3 : Int) (x4 : List (List api_Node)) (x5 : List Int) (x6 : Int) (x7 : Int) : St := ⟨dead :: .pv (.seq (List.length x5) (encP e_i64 0 x5)) :: .ptr 0 [] 0 0 :: dead :: dead :: .pv (.int .i64 x6) :: .ms 1 [] 0 (List.length x0) :: .pv (.int .i64 x7) :: List.replicate 87 dead, [.box 0 [.pv (.int .i64 x1), .pv (.int .i64 x2), .pv (.int .i64 x3), .pv (.seq (List.length x4) (encP e_62 ([] : List api_Node) x4))], .arr 0 1 (List.length x0) (encW o_bool false x0)]⟩
noncomputable abbrev alibiref06_Reach_l4_e (x0 : List Bool) (x1 : Int) (x2 : Int) (x3 : Int) (x4 : List (List api_Node)) (x5 : List Int) (x6 : Int) (x7 : Int) (r : (List Bool)) : St := ⟨dead :: dead :: .ptr 0 [] 0 0 :: dead :: dead :: .pv (.int .i64 x6) :: .ms 1 [] 0 (List.length r) :: List.replicate 88 dead, [.box 0 [.pv (.int .i64 x1), .pv (.int .i64 x2), .pv (.int .i64 x3), .pv (.seq (List.length x4) (encP e_62 ([] : List api_Node) x4))], .arr 0 1 (List.length r) (encW o_bool false r)]⟩
theorem alibiref06_Reach_l4_ok (x0 : List Bool) (x1 : Int) (x2 : Int) (x3 : Int) (x4 : List (List api_Node)) (x5 : List Int) (x6 : Int) (x7 : Int) (r : (List Bool)) (h : alibiref06_Reach_l4 x0 x1 x2 x3 x4 x5 x6 x7 = some r) : Loops Try.prog alibiref06_Reach_l4_c 0 (alibiref06_Reach_l4_s x0 x1 x2 x3 x4 x5 x6 x7) (.exit 0) (alibiref06_Reach_l4_e x0 x1 x2 x3 x4 x5 x6 x7 r) := by
 refine alibiref06_Reach_l4.partial_correctness x1 x2 x3 x4 x5 x6 (fun x0 x7 r => Loops Try.prog alibiref06_Reach_l4_c 0 (alibiref06_Reach_l4_s x0 x1 x2 x3 x4 x5 x6 x7) (.exit 0) (alibiref06_Reach_l4_e x0 x1 x2 x3 x4 x5 x6 x7 r)) ?_ x0 x7 r h
 clear h r x0 x7
 intro self ih x0 x7 r h
 rcases if_of h with ⟨c3, h⟩ | ⟨c3, h⟩
 · obtain ⟨c4, h⟩ := need_of h
   obtain ⟨c5, h⟩ := need_of h
   rcases if_of h with ⟨c6, h⟩ | ⟨c6, h⟩
   · obtain ⟨c7, h⟩ := need_of h
     obtain ⟨c8, h⟩ := need_of h
     exact pmore mixed lives 80 (by kernel_rfl) (pk2 <| pb c3 <| pn c4 <| pn c5 <| pk2 <| pb c6 <| pn c4 <| pn c5 <| pk <| pn c7 <| pn c8 <| pt <| pe (eff_hb (v := dead) (b := 1) (hb := []) (sc := []) (put_top o_bool false 0 1 (List.length x0) x0 (Int.toNat (List.getD x5 (Int.toNat x7) 0)) 0 [.pv (.bool true)] true (by kernel_rfl) (by first | exact Nat.le_refl _ | exact Nat.zero_le _ | (simp only [decide_eq_true_eq, List.length_set, List.length_append, List.length_replicate, List.length_cons, List.length_nil, Nat.zero_add] at * <;> omega)))) <| pk <| pz) (Loops.of (s1 := ⟨dead :: .pv (.seq (List.length x5) (encP e_i64 0 x5)) :: .ptr 0 [] 0 0 :: dead :: dead :: .pv (.int .i64 x6) :: .ms 1 [] 0 (List.length x0) :: .pv (.int .i64 (iAdd x7 1)) :: List.replicate 87 dead, [.box 0 [.pv (.int .i64 x1), .pv (.int .i64 x2), .pv (.int .i64 x3), .pv (.seq (List.length x4) (encP e_62 ([] : List api_Node) x4))], .arr 0 1 (List.length x0) (encW o_bool false (List.set x0 (Int.toNat (List.getD x5 (Int.toNat x7) 0)) true))]⟩) (ih (List.set x0 (Int.toNat (List.getD x5 (Int.toNat x7) 0)) true) (iAdd x7 1) _ h) (by (first | rfl | (simp only [alibiref06_Reach_l4_s, List.length_set]; done))))
   · exact pmore mixed lives 80 (by kernel_rfl) (pk2 <| pb c3 <| pn c4 <| pn c5 <| pk2 <| pb c6 <| pk <| pz) (ih x0 (iAdd x7 1) _ h)
 · have h := Option.some.inj h; subst h
   exact plast mixed lives 80 (by kernel_rfl) (pk2 <| pb c3 <| pz) rfl
noncomputable def alibiref06_Named_l7_c : Code := sub (codeOf Try.prog 72) [1, 1, 0, 1, 0, 0, 1, 0, 0, 1, 0, 1, 0, 0]
def alibiref06_Named_l7 (x0 : List Int) (x1 : List api_Node) (x2 : Int) (x3 : Int) (x4 : Bool) (x5 : Int) : Option (Bool) :=
  if (decide ((x5 : Int) < (((List.length x1 : Nat) : Int)))) = true then
    if x4 = true then
      alibiref06_Named_l7 x0 x1 x2 x3 true (iAdd x5 1)
    else
      if (decide ((0 : Int) ≤ x5)) = true then
        if (decide ((x5 : Int) < ((List.length x1 : Nat) : Int))) = true then
          if ((((List.getD x1 (Int.toNat x5) d_api_Node).kind) : Int) == x2) = true then
            alibiref06_Named_l7 x0 x1 x2 x3 ((((List.getD x1 (Int.toNat x5) d_api_Node).arg) : Int) == x3) (iAdd x5 1)
          else
            alibiref06_Named_l7 x0 x1 x2 x3 false (iAdd x5 1)
        else none
      else none
  else
    some x4
partial_fixpoint
noncomputable abbrev alibiref06_Named_l7_s (x0 : List Int) (x1 : List api_Node) (x2 : Int) (x3 : Int) (x4 : Bool) (x5 : Int) : St := ⟨.pv (.seq (List.length x1) (encP e_api_Node d_api_Node x1)) :: .pv (.int .i64 x2) :: dead :: dead :: dead :: .ms 0 [] 0 (List.length x0) :: .pv (.int .i64 x3) :: .pv (.bool x4) :: .pv (.int .i64 x5) :: List.replicate 35 dead, [.arr 0 1 (List.length x0) (encW o_i64 0 x0)]⟩
noncomputable abbrev alibiref06_Named_l7_e (x0 : List Int) (x1 : List api_Node) (x2 : Int) (x3 : Int) (x4 : Bool) (x5 : Int) (r : Bool) : St := ⟨.pv (.seq (List.length x1) (encP e_api_Node d_api_Node x1)) :: .pv (.int .i64 x2) :: dead :: dead :: dead :: .ms 0 [] 0 (List.length x0) :: .pv (.int .i64 x3) :: .pv (.bool r) :: List.replicate 36 dead, [.arr 0 1 (List.length x0) (encW o_i64 0 x0)]⟩
theorem alibiref06_Named_l7_ok (x0 : List Int) (x1 : List api_Node) (x2 : Int) (x3 : Int) (x4 : Bool) (x5 : Int) (r : Bool) (h : alibiref06_Named_l7 x0 x1 x2 x3 x4 x5 = some r) : Loops Try.prog alibiref06_Named_l7_c 0 (alibiref06_Named_l7_s x0 x1 x2 x3 x4 x5) (.exit 2) (alibiref06_Named_l7_e x0 x1 x2 x3 x4 x5 r) := by
 refine alibiref06_Named_l7.partial_correctness x0 x1 x2 x3 (fun x4 x5 r => Loops Try.prog alibiref06_Named_l7_c 0 (alibiref06_Named_l7_s x0 x1 x2 x3 x4 x5) (.exit 2) (alibiref06_Named_l7_e x0 x1 x2 x3 x4 x5 r)) ?_ x4 x5 r h
 clear h r x4 x5
 intro self ih x4 x5 r h
 rcases if_of h with ⟨c2, h⟩ | ⟨c2, h⟩
 · rcases if_of h with ⟨c3, h⟩ | ⟨c3, h⟩
   · exact pmore mixed lives 72 (by kernel_rfl) (pk2 <| pb c2 <| pb c3 <| pk8 <| pk2 <| pz) (ih true (iAdd x5 1) _ h)
   · obtain ⟨c4, h⟩ := need_of h
     obtain ⟨c5, h⟩ := need_of h
     rcases if_of h with ⟨c6, h⟩ | ⟨c6, h⟩
     · exact pmore mixed lives 72 (by kernel_rfl) (pk2 <| pb c2 <| pb c3 <| pk2 <| pn c4 <| pn c5 <| pk7 <| pb c6 <| pk2 <| pn c4 <| pn c5 <| pk8 <| pk2 <| pz) (ih ((((List.getD x1 (Int.toNat x5) d_api_Node).arg) : Int) == x3) (iAdd x5 1) _ h)
     · exact pmore mixed lives 72 (by kernel_rfl) (pk2 <| pb c2 <| pb c3 <| pk2 <| pn c4 <| pn c5 <| pk7 <| pb c6 <| pk8 <| pk2 <| pz) (ih false (iAdd x5 1) _ h)
 · have h := Option.some.inj h; subst h
   exact plast mixed lives 72 (by kernel_rfl) (pk2 <| pb c2 <| pz) rfl
noncomputable def alibiref06_Named_l3_c : Code := sub (codeOf Try.prog 72) [1, 1, 0, 1, 0, 0]
def alibiref06_Named_l3 (x0 : List Int) (x1 : List api_Node) (x2 : Int) (x3 : Int) : Option ((List Int)) :=
  if (decide ((x3 : Int) < 32)) = true then
    bind (alibiref06_Named_l7 x0 x1 x2 x3 false 0) fun v7 =>
    if v7 = true then
      if (Nat.ble ((List.length x0 + List.length ([x3])) * 8) reach) = true then
        alibiref06_Named_l3 (x0 ++ ([x3])) x1 x2 (iAdd x3 1)
      else none
    else
      alibiref06_Named_l3 x0 x1 x2 (iAdd x3 1)
  else
    some x0
partial_fixpoint
noncomputable abbrev alibiref06_Named_l3_s (x0 : List Int) (x1 : List api_Node) (x2 : Int) (x3 : Int) : St := ⟨.pv (.seq (List.length x1) (encP e_api_Node d_api_Node x1)) :: .pv (.int .i64 x2) :: dead :: dead :: dead :: .ms 0 [] 0 (List.length x0) :: .pv (.int .i64 x3) :: List.replicate 37 dead, [.arr 0 1 (List.length x0) (encW o_i64 0 x0)]⟩
noncomputable abbrev alibiref06_Named_l3_e (x0 : List Int) (x1 : List api_Node) (x2 : Int) (x3 : Int) (r : (List Int)) : St := ⟨(List.replicate 5 dead ++ (.ms 0 [] 0 (List.length r) :: List.replicate 38 dead)), [.arr 0 1 (List.length r) (encW o_i64 0 r)]⟩
theorem alibiref06_Named_l3_ok (x0 : List Int) (x1 : List api_Node) (x2 : Int) (x3 : Int) (r : (List Int)) (h : alibiref06_Named_l3 x0 x1 x2 x3 = some r) : Loops Try.prog alibiref06_Named_l3_c 0 (alibiref06_Named_l3_s x0 x1 x2 x3) (.exit 0) (alibiref06_Named_l3_e x0 x1 x2 x3 r) := by
 refine alibiref06_Named_l3.partial_correctness x1 x2 (fun x0 x3 r => Loops Try.prog alibiref06_Named_l3_c 0 (alibiref06_Named_l3_s x0 x1 x2 x3) (.exit 0) (alibiref06_Named_l3_e x0 x1 x2 x3 r)) ?_ x0 x3 r h
 clear h r x0 x3
 intro self ih x0 x3 r h
 rcases if_of h with ⟨c1, h⟩ | ⟨c1, h⟩
 · obtain ⟨v7, h8, h⟩ := bind_of h
   rcases if_of h with ⟨c9, h⟩ | ⟨c9, h⟩
   · obtain ⟨c10, h⟩ := need_of h
     exact pmore mixed lives 72 (by kernel_rfl) (pk <| pb c1 <| pl (alibiref06_Named_l7_ok _ _ _ _ _ _ _ h8) <| pb c9 <| pe (eff_lit o_i64 0 1 1 1 ([x3]) rfl [] []) <| pb (whole_ok (List.length ([x3]))) <| pn c10 <| pe (eff_app o_i64 0 x0 ([x3]) (x0 ++ ([x3])) 0 1 (List.length x0) (List.length ([x3])) (fun i => List.map AV.scal (encW o_i64 0 ([x3]) i)) (encW o_i64 0 x0 (List.length x0)) [] [] [(0, false)] (by first | exact Nat.le_refl _ | exact Nat.zero_le _ | (simp only [decide_eq_true_eq, List.length_set, List.length_append, List.length_replicate, List.length_cons, List.length_nil, Nat.zero_add] at * <;> omega)) rfl (fun _ => by kernel_rfl) (congrArg o_i64 (getD_ge 0 (by first | exact Nat.le_refl _ | exact Nat.zero_le _ | (simp only [decide_eq_true_eq, List.length_set, List.length_append, List.length_replicate, List.length_cons, List.length_nil, Nat.zero_add] at * <;> omega)))) (by rw [List.take_of_length_le (by first | exact Nat.le_refl _ | exact Nat.zero_le _ | (simp only [decide_eq_true_eq, List.length_set, List.length_append, List.length_replicate, List.length_cons, List.length_nil, Nat.zero_add] at * <;> omega))])) <| pk <| pz) (ih (x0 ++ ([x3])) (iAdd x3 1) _ h)
   · exact pmore mixed lives 72 (by kernel_rfl) (pk <| pb c1 <| pl (alibiref06_Named_l7_ok _ _ _ _ _ _ _ h8) <| pb c9 <| pk <| pz) (ih x0 (iAdd x3 1) _ h)
 · have h := Option.some.inj h; subst h
   exact plast mixed lives 72 (by kernel_rfl) (pk <| pb c1 <| pz) rfl
/-- alibi/alibiref06.Named -/
def alibiref06_Named (l : List api_Node) (kind : Int) : Option ((List Int)) :=
  bind (alibiref06_Named_l3 (([] : List Int)) l kind 0) fun v11 =>
  some v11
theorem alibiref06_Named_ok (l : List api_Node) (kind : Int) (r : (List Int)) (h : alibiref06_Named l kind = some r) : Does Try.prog 72 [.pv (.seq (List.length l) (encP e_api_Node d_api_Node l)), .pv (.int .i64 kind)] [] (.ms 0 [] 0 (List.length r), [.arr 0 1 (List.length r) (encW o_i64 0 r)]) := by
 unfold alibiref06_Named at h
 obtain ⟨v11, h12, h⟩ := bind_of h
 have h := Option.some.inj h; subst h
 exact pdoes mixed (L := lives) (by kernel_rfl) (pl (Loops.of (s1 := ⟨.pv (.seq (List.length l) (encP e_api_Node d_api_Node l)) :: .pv (.int .i64 kind) :: dead :: dead :: dead :: .ms 0 [] 0 (List.length ([] : List Int)) :: .pv (.int .i64 0) :: List.replicate 37 dead, [.arr 0 1 (List.length ([] : List Int)) (encW o_i64 0 (([] : List Int)))]⟩) (alibiref06_Named_l3_ok _ _ _ _ _ h12) (by (first | rfl | (simp only [alibiref06_Named_l3_s, List.length_set]; done)))) <| pz)
end Go.Bm.GoYtdifolgbppffpaa
