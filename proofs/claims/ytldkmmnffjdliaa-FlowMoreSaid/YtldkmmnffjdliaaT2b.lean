/- Printed by gen2.py. -/
import Derived.Test.YtldkmmnffjdliaaT2a
namespace Go.Bm.GoYtldkmmnffjdliaa
open Go.Proofs
set_option autoImplicit false
set_option linter.unusedVariables false
set_option linter.unusedSimpArgs false
set_option maxRecDepth 100000
set_option synthInstance.maxHeartbeats 400000
set_option synthInstance.maxSize 2048
noncomputable def alibiref21_Solve_l12_c : Code := sub (codeOf Try.prog 36) [1, 1, 1, 1, 0, 1, 0, 0, 1, 0, 1, 1, 0, 0]
def alibiref21_Solve_l12 (x0 : List (BitVec 32)) (x1 : Int) (x2 : List flow_Rule) (x3 : Bool) (x4 : Bool) (x5 : Int) : Option ((List (BitVec 32)) × Bool) :=
  if (decide ((x5 : Int) < (((List.length x2 : Nat) : Int)))) = true then
    if (decide ((0 : Int) ≤ x5)) = true then
      if (decide ((x5 : Int) < ((List.length x2 : Nat) : Int))) = true then
        if (decide ((((List.getD x2 (Int.toNat x5) d_flow_Rule).to_) : Int) < 0)) = true then
          alibiref21_Solve_l12 x0 x1 x2 x3 x4 (iAdd x5 1)
        else
          if (decide ((((List.getD x2 (Int.toNat x5) d_flow_Rule).to_) : Int) ≥ x1)) = true then
            alibiref21_Solve_l12 x0 x1 x2 x3 x4 (iAdd x5 1)
          else
            bind (alibiref21_Value (List.getD x2 (Int.toNat x5) d_flow_Rule) x0) fun v17 =>
            if x3 = true then
              if (decide ((0 : Int) ≤ ((List.getD x2 (Int.toNat x5) d_flow_Rule).to_))) = true then
                if (decide ((((List.getD x2 (Int.toNat x5) d_flow_Rule).to_) : Int) < (((List.length x0) : Nat) : Int))) = true then
                  if ((v17 &&& (List.getD x0 (Int.toNat ((List.getD x2 (Int.toNat x5) d_flow_Rule).to_)) (0#32))) != (List.getD x0 (Int.toNat ((List.getD x2 (Int.toNat x5) d_flow_Rule).to_)) (0#32))) = true then
                    alibiref21_Solve_l12 (List.set x0 (Int.toNat ((List.getD x2 (Int.toNat x5) d_flow_Rule).to_)) (v17 &&& (List.getD x0 (Int.toNat ((List.getD x2 (Int.toNat x5) d_flow_Rule).to_)) (0#32)))) x1 x2 x3 true (iAdd x5 1)
                  else
                    alibiref21_Solve_l12 x0 x1 x2 x3 x4 (iAdd x5 1)
                else none
              else none
            else
              if (decide ((0 : Int) ≤ ((List.getD x2 (Int.toNat x5) d_flow_Rule).to_))) = true then
                if (decide ((((List.getD x2 (Int.toNat x5) d_flow_Rule).to_) : Int) < (((List.length x0) : Nat) : Int))) = true then
                  if ((v17 ||| (List.getD x0 (Int.toNat ((List.getD x2 (Int.toNat x5) d_flow_Rule).to_)) (0#32))) != (List.getD x0 (Int.toNat ((List.getD x2 (Int.toNat x5) d_flow_Rule).to_)) (0#32))) = true then
                    alibiref21_Solve_l12 (List.set x0 (Int.toNat ((List.getD x2 (Int.toNat x5) d_flow_Rule).to_)) (v17 ||| (List.getD x0 (Int.toNat ((List.getD x2 (Int.toNat x5) d_flow_Rule).to_)) (0#32)))) x1 x2 x3 true (iAdd x5 1)
                  else
                    alibiref21_Solve_l12 x0 x1 x2 x3 x4 (iAdd x5 1)
                else none
              else none
      else none
    else none
  else
    some (x0, x4)
partial_fixpoint
noncomputable abbrev alibiref21_Solve_l12_s (x0 : List (BitVec 32)) (x1 : Int) (x2 : List flow_Rule) (x3 : Bool) (x4 : Bool) (x5 : Int) : St := ⟨.pv (.int .i64 x1) :: dead :: .pv (.seq (List.length x2) (encP e_flow_Rule d_flow_Rule x2)) :: .pv (.bool x3) :: (List.replicate 5 dead ++ (.ms 0 [] 0 (List.length x0) :: dead :: .pv (.bool x4) :: .pv (.int .i64 x5) :: List.replicate 71 dead)), [.arr 0 1 (List.length x0) (encW o_u32 0#32 x0)]⟩
noncomputable abbrev alibiref21_Solve_l12_e (x0 : List (BitVec 32)) (x1 : Int) (x2 : List flow_Rule) (x3 : Bool) (x4 : Bool) (x5 : Int) (r : (List (BitVec 32)) × Bool) : St := ⟨.pv (.int .i64 x1) :: dead :: .pv (.seq (List.length x2) (encP e_flow_Rule d_flow_Rule x2)) :: .pv (.bool x3) :: (List.replicate 5 dead ++ (.ms 0 [] 0 (List.length r.1) :: dead :: .pv (.bool r.2) :: List.replicate 72 dead)), [.arr 0 1 (List.length r.1) (encW o_u32 0#32 r.1)]⟩
theorem alibiref21_Solve_l12_ok (x0 : List (BitVec 32)) (x1 : Int) (x2 : List flow_Rule) (x3 : Bool) (x4 : Bool) (x5 : Int) (r : (List (BitVec 32)) × Bool) (h : alibiref21_Solve_l12 x0 x1 x2 x3 x4 x5 = some r) : Loops Try.prog alibiref21_Solve_l12_c 0 (alibiref21_Solve_l12_s x0 x1 x2 x3 x4 x5) (.exit 4) (alibiref21_Solve_l12_e x0 x1 x2 x3 x4 x5 r) := by
 refine alibiref21_Solve_l12.partial_correctness x1 x2 x3 (fun x0 x4 x5 r => Loops Try.prog alibiref21_Solve_l12_c 0 (alibiref21_Solve_l12_s x0 x1 x2 x3 x4 x5) (.exit 4) (alibiref21_Solve_l12_e x0 x1 x2 x3 x4 x5 r)) ?_ x0 x4 x5 r h
 clear h r x0 x4 x5
 intro self ih x0 x4 x5 r h
 rcases if_of h with ⟨c12, h⟩ | ⟨c12, h⟩
 · obtain ⟨c13, h⟩ := need_of h
   obtain ⟨c14, h⟩ := need_of h
   rcases if_of h with ⟨c15, h⟩ | ⟨c15, h⟩
   · exact pmore mixed lives 36 (by kernel_rfl) (pk2 <| pb c12 <| pn c13 <| pn c14 <| pk2 <| pb c15 <| pk5 <| pz) (ih x0 x4 (iAdd x5 1) _ h)
   · rcases if_of h with ⟨c16, h⟩ | ⟨c16, h⟩
     · exact pmore mixed lives 36 (by kernel_rfl) (pk2 <| pb c12 <| pn c13 <| pn c14 <| pk2 <| pb c15 <| pk4 <| pb c16 <| pk <| pz) (ih x0 x4 (iAdd x5 1) _ h)
     · obtain ⟨v17, h18, h⟩ := bind_of h
       rcases if_of h with ⟨c19, h⟩ | ⟨c19, h⟩
       · obtain ⟨c20, h⟩ := need_of h
         obtain ⟨c21, h⟩ := need_of h
         rcases if_of h with ⟨c22, h⟩ | ⟨c22, h⟩
         · exact pmore mixed lives 36 (by kernel_rfl) (pk2 <| pb c12 <| pn c13 <| pn c14 <| pk2 <| pb c15 <| pk4 <| pb c16 <| pn c13 <| pn c14 <| pk <| pb (whole_ok (List.length x0)) <| pc (Does.of (args' := [.agg [.pv (.int .i64 ((List.getD x2 (Int.toNat x5) d_flow_Rule).to_)), .pv (.int .i64 ((List.getD x2 (Int.toNat x5) d_flow_Rule).from_)), .pv (.int .i64 ((List.getD x2 (Int.toNat x5) d_flow_Rule).also)), .pv (.int .u32 (BitVec.toNat ((List.getD x2 (Int.toNat x5) d_flow_Rule).keep) : Nat)), .pv (.int .u32 (BitVec.toNat ((List.getD x2 (Int.toNat x5) d_flow_Rule).if_) : Nat)), .pv (.int .u32 (BitVec.toNat ((List.getD x2 (Int.toNat x5) d_flow_Rule).then_) : Nat))], .pv (.seq (List.length x0) (encP e_u32 (0#32) x0))]) (H' := []) (alibiref21_Value_ok _ _ _ h18) (by (first | rfl | (simp only [List.length_set]; done)))) <| pk <| pb c19 <| pn c20 <| pn c21 <| pk <| pe (eff_int (k := .u32) (un_and .u32 rfl v17 (List.getD x0 (Int.toNat ((List.getD x2 (Int.toNat x5) d_flow_Rule).to_)) (0#32)))) <| pn c20 <| pn c21 <| pk <| pe (eff_bool (un_neq (v17 &&& (List.getD x0 (Int.toNat ((List.getD x2 (Int.toNat x5) d_flow_Rule).to_)) (0#32))) (List.getD x0 (Int.toNat ((List.getD x2 (Int.toNat x5) d_flow_Rule).to_)) (0#32)))) <| pb c22 <| pn c20 <| pn c21 <| pt <| pe (eff_hb (v := dead) (b := 0) (hb := []) (sc := []) (put_top o_u32 (0#32) 0 1 (List.length x0) x0 (Int.toNat ((List.getD x2 (Int.toNat x5) d_flow_Rule).to_)) 0 [.pv (.int .u32 (BitVec.toNat (v17 &&& (List.getD x0 (Int.toNat ((List.getD x2 (Int.toNat x5) d_flow_Rule).to_)) (0#32))) : Nat))] (v17 &&& (List.getD x0 (Int.toNat ((List.getD x2 (Int.toNat x5) d_flow_Rule).to_)) (0#32))) (by kernel_rfl) (by first | exact Nat.le_refl _ | exact Nat.zero_le _ | (simp only [decide_eq_true_eq, List.length_set, List.length_append, List.length_replicate, List.length_cons, List.length_nil, Nat.zero_add] at * <;> omega)))) <| pk <| pz) (Loops.of (s1 := ⟨.pv (.int .i64 x1) :: dead :: .pv (.seq (List.length x2) (encP e_flow_Rule d_flow_Rule x2)) :: .pv (.bool x3) :: (List.replicate 5 dead ++ (.ms 0 [] 0 (List.length x0) :: dead :: .pv (.bool true) :: .pv (.int .i64 (iAdd x5 1)) :: List.replicate 71 dead)), [.arr 0 1 (List.length x0) (encW o_u32 0#32 (List.set x0 (Int.toNat ((List.getD x2 (Int.toNat x5) d_flow_Rule).to_)) (v17 &&& (List.getD x0 (Int.toNat ((List.getD x2 (Int.toNat x5) d_flow_Rule).to_)) (0#32)))))]⟩) (ih (List.set x0 (Int.toNat ((List.getD x2 (Int.toNat x5) d_flow_Rule).to_)) (v17 &&& (List.getD x0 (Int.toNat ((List.getD x2 (Int.toNat x5) d_flow_Rule).to_)) (0#32)))) true (iAdd x5 1) _ h) (by (first | rfl | (simp only [alibiref21_Solve_l12_s, List.length_set]; done))))
         · exact pmore mixed lives 36 (by kernel_rfl) (pk2 <| pb c12 <| pn c13 <| pn c14 <| pk2 <| pb c15 <| pk4 <| pb c16 <| pn c13 <| pn c14 <| pk <| pb (whole_ok (List.length x0)) <| pc (Does.of (args' := [.agg [.pv (.int .i64 ((List.getD x2 (Int.toNat x5) d_flow_Rule).to_)), .pv (.int .i64 ((List.getD x2 (Int.toNat x5) d_flow_Rule).from_)), .pv (.int .i64 ((List.getD x2 (Int.toNat x5) d_flow_Rule).also)), .pv (.int .u32 (BitVec.toNat ((List.getD x2 (Int.toNat x5) d_flow_Rule).keep) : Nat)), .pv (.int .u32 (BitVec.toNat ((List.getD x2 (Int.toNat x5) d_flow_Rule).if_) : Nat)), .pv (.int .u32 (BitVec.toNat ((List.getD x2 (Int.toNat x5) d_flow_Rule).then_) : Nat))], .pv (.seq (List.length x0) (encP e_u32 (0#32) x0))]) (H' := []) (alibiref21_Value_ok _ _ _ h18) (by (first | rfl | (simp only [List.length_set]; done)))) <| pk <| pb c19 <| pn c20 <| pn c21 <| pk <| pe (eff_int (k := .u32) (un_and .u32 rfl v17 (List.getD x0 (Int.toNat ((List.getD x2 (Int.toNat x5) d_flow_Rule).to_)) (0#32)))) <| pn c20 <| pn c21 <| pk <| pe (eff_bool (un_neq (v17 &&& (List.getD x0 (Int.toNat ((List.getD x2 (Int.toNat x5) d_flow_Rule).to_)) (0#32))) (List.getD x0 (Int.toNat ((List.getD x2 (Int.toNat x5) d_flow_Rule).to_)) (0#32)))) <| pb c22 <| pk <| pz) (ih x0 x4 (iAdd x5 1) _ h)
       · obtain ⟨c23, h⟩ := need_of h
         obtain ⟨c24, h⟩ := need_of h
         rcases if_of h with ⟨c25, h⟩ | ⟨c25, h⟩
         · exact pmore mixed lives 36 (by kernel_rfl) (pk2 <| pb c12 <| pn c13 <| pn c14 <| pk2 <| pb c15 <| pk4 <| pb c16 <| pn c13 <| pn c14 <| pk <| pb (whole_ok (List.length x0)) <| pc (Does.of (args' := [.agg [.pv (.int .i64 ((List.getD x2 (Int.toNat x5) d_flow_Rule).to_)), .pv (.int .i64 ((List.getD x2 (Int.toNat x5) d_flow_Rule).from_)), .pv (.int .i64 ((List.getD x2 (Int.toNat x5) d_flow_Rule).also)), .pv (.int .u32 (BitVec.toNat ((List.getD x2 (Int.toNat x5) d_flow_Rule).keep) : Nat)), .pv (.int .u32 (BitVec.toNat ((List.getD x2 (Int.toNat x5) d_flow_Rule).if_) : Nat)), .pv (.int .u32 (BitVec.toNat ((List.getD x2 (Int.toNat x5) d_flow_Rule).then_) : Nat))], .pv (.seq (List.length x0) (encP e_u32 (0#32) x0))]) (H' := []) (alibiref21_Value_ok _ _ _ h18) (by (first | rfl | (simp only [List.length_set]; done)))) <| pk <| pb c19 <| pn c23 <| pn c24 <| pk <| pe (eff_int (k := .u32) (un_or .u32 rfl v17 (List.getD x0 (Int.toNat ((List.getD x2 (Int.toNat x5) d_flow_Rule).to_)) (0#32)))) <| pn c23 <| pn c24 <| pk <| pe (eff_bool (un_neq (v17 ||| (List.getD x0 (Int.toNat ((List.getD x2 (Int.toNat x5) d_flow_Rule).to_)) (0#32))) (List.getD x0 (Int.toNat ((List.getD x2 (Int.toNat x5) d_flow_Rule).to_)) (0#32)))) <| pb c25 <| pn c23 <| pn c24 <| pt <| pe (eff_hb (v := dead) (b := 0) (hb := []) (sc := []) (put_top o_u32 (0#32) 0 1 (List.length x0) x0 (Int.toNat ((List.getD x2 (Int.toNat x5) d_flow_Rule).to_)) 0 [.pv (.int .u32 (BitVec.toNat (v17 ||| (List.getD x0 (Int.toNat ((List.getD x2 (Int.toNat x5) d_flow_Rule).to_)) (0#32))) : Nat))] (v17 ||| (List.getD x0 (Int.toNat ((List.getD x2 (Int.toNat x5) d_flow_Rule).to_)) (0#32))) (by kernel_rfl) (by first | exact Nat.le_refl _ | exact Nat.zero_le _ | (simp only [decide_eq_true_eq, List.length_set, List.length_append, List.length_replicate, List.length_cons, List.length_nil, Nat.zero_add] at * <;> omega)))) <| pk <| pz) (Loops.of (s1 := ⟨.pv (.int .i64 x1) :: dead :: .pv (.seq (List.length x2) (encP e_flow_Rule d_flow_Rule x2)) :: .pv (.bool x3) :: (List.replicate 5 dead ++ (.ms 0 [] 0 (List.length x0) :: dead :: .pv (.bool true) :: .pv (.int .i64 (iAdd x5 1)) :: List.replicate 71 dead)), [.arr 0 1 (List.length x0) (encW o_u32 0#32 (List.set x0 (Int.toNat ((List.getD x2 (Int.toNat x5) d_flow_Rule).to_)) (v17 ||| (List.getD x0 (Int.toNat ((List.getD x2 (Int.toNat x5) d_flow_Rule).to_)) (0#32)))))]⟩) (ih (List.set x0 (Int.toNat ((List.getD x2 (Int.toNat x5) d_flow_Rule).to_)) (v17 ||| (List.getD x0 (Int.toNat ((List.getD x2 (Int.toNat x5) d_flow_Rule).to_)) (0#32)))) true (iAdd x5 1) _ h) (by (first | rfl | (simp only [alibiref21_Solve_l12_s, List.length_set]; done))))
         · exact pmore mixed lives 36 (by kernel_rfl) (pk2 <| pb c12 <| pn c13 <| pn c14 <| pk2 <| pb c15 <| pk4 <| pb c16 <| pn c13 <| pn c14 <| pk <| pb (whole_ok (List.length x0)) <| pc (Does.of (args' := [.agg [.pv (.int .i64 ((List.getD x2 (Int.toNat x5) d_flow_Rule).to_)), .pv (.int .i64 ((List.getD x2 (Int.toNat x5) d_flow_Rule).from_)), .pv (.int .i64 ((List.getD x2 (Int.toNat x5) d_flow_Rule).also)), .pv (.int .u32 (BitVec.toNat ((List.getD x2 (Int.toNat x5) d_flow_Rule).keep) : Nat)), .pv (.int .u32 (BitVec.toNat ((List.getD x2 (Int.toNat x5) d_flow_Rule).if_) : Nat)), .pv (.int .u32 (BitVec.toNat ((List.getD x2 (Int.toNat x5) d_flow_Rule).then_) : Nat))], .pv (.seq (List.length x0) (encP e_u32 (0#32) x0))]) (H' := []) (alibiref21_Value_ok _ _ _ h18) (by (first | rfl | (simp only [List.length_set]; done)))) <| pk <| pb c19 <| pn c23 <| pn c24 <| pk <| pe (eff_int (k := .u32) (un_or .u32 rfl v17 (List.getD x0 (Int.toNat ((List.getD x2 (Int.toNat x5) d_flow_Rule).to_)) (0#32)))) <| pn c23 <| pn c24 <| pk <| pe (eff_bool (un_neq (v17 ||| (List.getD x0 (Int.toNat ((List.getD x2 (Int.toNat x5) d_flow_Rule).to_)) (0#32))) (List.getD x0 (Int.toNat ((List.getD x2 (Int.toNat x5) d_flow_Rule).to_)) (0#32)))) <| pb c25 <| pk <| pz) (ih x0 x4 (iAdd x5 1) _ h)
 · have h := Option.some.inj h; subst h
   exact plast mixed lives 36 (by kernel_rfl) (pk2 <| pb c12 <| pz) rfl
noncomputable def alibiref21_Solve_l9_c : Code := sub (codeOf Try.prog 36) [1, 1, 1, 1, 0, 1, 0, 0]
def alibiref21_Solve_l9 (x0 : List (BitVec 32)) (x1 : Int) (x2 : List flow_Rule) (x3 : Bool) (x4 : Bool) : Option ((List (BitVec 32))) :=
  if x4 = true then
    bind (alibiref21_Solve_l12 x0 x1 x2 x3 false 0) fun v26 =>
    alibiref21_Solve_l9 v26.1 x1 x2 x3 v26.2
  else
    some x0
partial_fixpoint
noncomputable abbrev alibiref21_Solve_l9_s (x0 : List (BitVec 32)) (x1 : Int) (x2 : List flow_Rule) (x3 : Bool) (x4 : Bool) : St := ⟨.pv (.int .i64 x1) :: dead :: .pv (.seq (List.length x2) (encP e_flow_Rule d_flow_Rule x2)) :: .pv (.bool x3) :: (List.replicate 5 dead ++ (.ms 0 [] 0 (List.length x0) :: dead :: .pv (.bool x4) :: List.replicate 72 dead)), [.arr 0 1 (List.length x0) (encW o_u32 0#32 x0)]⟩
noncomputable abbrev alibiref21_Solve_l9_e (x0 : List (BitVec 32)) (x1 : Int) (x2 : List flow_Rule) (x3 : Bool) (x4 : Bool) (r : (List (BitVec 32))) : St := ⟨(List.replicate 9 dead ++ (.ms 0 [] 0 (List.length r) :: List.replicate 74 dead)), [.arr 0 1 (List.length r) (encW o_u32 0#32 r)]⟩
theorem alibiref21_Solve_l9_ok (x0 : List (BitVec 32)) (x1 : Int) (x2 : List flow_Rule) (x3 : Bool) (x4 : Bool) (r : (List (BitVec 32))) (h : alibiref21_Solve_l9 x0 x1 x2 x3 x4 = some r) : Loops Try.prog alibiref21_Solve_l9_c 0 (alibiref21_Solve_l9_s x0 x1 x2 x3 x4) (.exit 2) (alibiref21_Solve_l9_e x0 x1 x2 x3 x4 r) := by
 refine alibiref21_Solve_l9.partial_correctness x1 x2 x3 (fun x0 x4 r => Loops Try.prog alibiref21_Solve_l9_c 0 (alibiref21_Solve_l9_s x0 x1 x2 x3 x4) (.exit 2) (alibiref21_Solve_l9_e x0 x1 x2 x3 x4 r)) ?_ x0 x4 r h
 clear h r x0 x4
 intro self ih x0 x4 r h
 rcases if_of h with ⟨c11, h⟩ | ⟨c11, h⟩
 · obtain ⟨v26, h27, h⟩ := bind_of h
   exact pmore mixed lives 36 (by kernel_rfl) (pb c11 <| pl (alibiref21_Solve_l12_ok _ _ _ _ _ _ _ h27) <| pz) (ih v26.1 v26.2 _ h)
 · have h := Option.some.inj h; subst h
   exact plast mixed lives 36 (by kernel_rfl) (pb c11 <| pz) rfl
/-- alibi/alibiref21.Solve -/
def alibiref21_Solve (n1 : Int) (top : BitVec 32) (rules : List flow_Rule) (up : Bool) : Option ((List (BitVec 32))) :=
  if (decide ((n1 : Int) < 0)) = true then
    some (([] : List (BitVec 32)))
  else
    if (decide ((n1 : Int) > 65536)) = true then
      some (([] : List (BitVec 32)))
    else
      if (decide ((0 : Int) ≤ n1)) = true then
        if (decide ((n1 : Int) * ((4 : Nat) : Int) ≤ ((reach : Nat) : Int))) = true then
          bind (alibiref21_Solve_l5 (List.replicate (Int.toNat n1) (0#32)) n1 top rules up 0) fun v9 =>
          bind (alibiref21_Solve_l9 v9 n1 rules up true) fun v28 =>
          some v28
        else none
      else none
theorem alibiref21_Solve_ok (n1 : Int) (top : BitVec 32) (rules : List flow_Rule) (up : Bool) (r : (List (BitVec 32))) (h : alibiref21_Solve n1 top rules up = some r) : Does Try.prog 36 [.pv (.int .i64 n1), .pv (.int .u32 (BitVec.toNat top : Nat)), .pv (.seq (List.length rules) (encP e_flow_Rule d_flow_Rule rules)), .pv (.bool up)] [] (.ms 0 [] 0 (List.length r), [.arr 0 1 (List.length r) (encW o_u32 0#32 r)]) := by
 unfold alibiref21_Solve at h
 rcases if_of h with ⟨c1, h⟩ | ⟨c1, h⟩
 · have h := Option.some.inj h; subst h
   refine Does.eq (pdoes mixed (L := lives) (r := (.ms 0 [] 0 (List.length ([] : List (BitVec 32))), [.arr 0 1 (List.length ([] : List (BitVec 32))) (encW o_u32 0#32 (([] : List (BitVec 32))))])) (by kernel_rfl) (pk <| pb c1 <| pk3 <| pz)) ?_
   (first | rfl | (simp only [List.length_set]; done))
 · rcases if_of h with ⟨c2, h⟩ | ⟨c2, h⟩
   · have h := Option.some.inj h; subst h
     refine Does.eq (pdoes mixed (L := lives) (r := (.ms 0 [] 0 (List.length ([] : List (BitVec 32))), [.arr 0 1 (List.length ([] : List (BitVec 32))) (encW o_u32 0#32 (([] : List (BitVec 32))))])) (by kernel_rfl) (pk <| pb c1 <| pk3 <| pb c2 <| pz)) ?_
     (first | rfl | (simp only [List.length_set]; done))
   · obtain ⟨c3, h⟩ := need_of h
     obtain ⟨c4, h⟩ := need_of h
     obtain ⟨v9, h10, h⟩ := bind_of h
     obtain ⟨v28, h29, h⟩ := bind_of h
     have h := Option.some.inj h; subst h
     exact pdoes mixed (L := lives) (by kernel_rfl) (pk <| pb c1 <| pk3 <| pb c2 <| pn c3 <| pn ((decide_eq_true rfl) : (decide ((n1 : Int) = n1)) = true) <| pn c4 <| pe (eff_make o_u32 (0#32) 0 1 (Int.toNat n1)) <| pl (alibiref21_Solve_l5_ok _ _ _ _ _ _ _ h10) <| pl (alibiref21_Solve_l9_ok _ _ _ _ _ _ h29) <| pz)
noncomputable def alibilaw21_same_l4_c : Code := sub (codeOf Try.prog 34) [1, 1, 0, 1, 0, 0]
inductive alibilaw21_same_l4_R where
  | x0 (v0 : Bool)
  | x1
def alibilaw21_same_l4_R.ex : alibilaw21_same_l4_R → Ex
  | .x0 _ => .ret
  | .x1 => .exit 0
noncomputable def alibilaw21_same_l4_R.st (x0 : List (BitVec 32)) (x1 : List (BitVec 32)) (x2 : Int) : alibilaw21_same_l4_R → St
  | .x0 v0 => ⟨(List.replicate 4 dead ++ (.pv (.bool v0) :: List.replicate 21 dead)), []⟩
  | .x1 => ⟨List.replicate 26 dead, []⟩
def alibilaw21_same_l4 (x0 : List (BitVec 32)) (x1 : List (BitVec 32)) (x2 : Int) : Option (alibilaw21_same_l4_R) :=
  if (decide ((x2 : Int) < (((List.length x0 : Nat) : Int)))) = true then
    if (decide ((0 : Int) ≤ x2)) = true then
      if (decide ((x2 : Int) < ((List.length x0 : Nat) : Int))) = true then
        if (decide ((x2 : Int) < ((List.length x1 : Nat) : Int))) = true then
          if ((List.getD x0 (Int.toNat x2) (0#32)) != (List.getD x1 (Int.toNat x2) (0#32))) = true then
            some (.x0 false)
          else
            alibilaw21_same_l4 x0 x1 (iAdd x2 1)
        else none
      else none
    else none
  else
    some (.x1)
partial_fixpoint
noncomputable abbrev alibilaw21_same_l4_s (x0 : List (BitVec 32)) (x1 : List (BitVec 32)) (x2 : Int) : St := ⟨.pv (.seq (List.length x0) (encP e_u32 0#32 x0)) :: .pv (.seq (List.length x1) (encP e_u32 0#32 x1)) :: dead :: dead :: dead :: .pv (.int .i64 x2) :: List.replicate 20 dead, []⟩
theorem alibilaw21_same_l4_ok (x0 : List (BitVec 32)) (x1 : List (BitVec 32)) (x2 : Int) (r : alibilaw21_same_l4_R) (h : alibilaw21_same_l4 x0 x1 x2 = some r) : Loops Try.prog alibilaw21_same_l4_c 0 (alibilaw21_same_l4_s x0 x1 x2) r.ex (alibilaw21_same_l4_R.st x0 x1 x2 r) := by
 refine alibilaw21_same_l4.partial_correctness x0 x1 (fun x2 r => Loops Try.prog alibilaw21_same_l4_c 0 (alibilaw21_same_l4_s x0 x1 x2) r.ex (alibilaw21_same_l4_R.st x0 x1 x2 r)) ?_ x2 r h
 clear h r x2
 intro self ih x2 r h
 rcases if_of h with ⟨c2, h⟩ | ⟨c2, h⟩
 · obtain ⟨c3, h⟩ := need_of h
   obtain ⟨c4, h⟩ := need_of h
   obtain ⟨c5, h⟩ := need_of h
   rcases if_of h with ⟨c6, h⟩ | ⟨c6, h⟩
   · have h := Option.some.inj h; subst h
     exact plast mixed lives 34 (by kernel_rfl) (pk2 <| pb c2 <| pn c3 <| pn c4 <| pk <| pn c3 <| pn c5 <| pk <| pe (eff_bool (un_neq (List.getD x0 (Int.toNat x2) (0#32)) (List.getD x1 (Int.toNat x2) (0#32)))) <| pb c6 <| pz) rfl
   · exact pmore mixed lives 34 (by kernel_rfl) (pk2 <| pb c2 <| pn c3 <| pn c4 <| pk <| pn c3 <| pn c5 <| pk <| pe (eff_bool (un_neq (List.getD x0 (Int.toNat x2) (0#32)) (List.getD x1 (Int.toNat x2) (0#32)))) <| pb c6 <| pk <| pz) (ih (iAdd x2 1) _ h)
 · have h := Option.some.inj h; subst h
   exact plast mixed lives 34 (by kernel_rfl) (pk2 <| pb c2 <| pz) rfl
/-- alibi/alibilaw21.same -/
def alibilaw21_same (a : List (BitVec 32)) (b : List (BitVec 32)) : Option (Bool) :=
  if (((((List.length a : Nat) : Int)) : Int) != (((List.length b : Nat) : Int))) = true then
    some false
  else
    bind (alibilaw21_same_l4 a b 0) fun q => match q with
      | .x0 v7 =>
        some v7
      | .x1 =>
        some true
theorem alibilaw21_same_ok (a : List (BitVec 32)) (b : List (BitVec 32)) (r : Bool) (h : alibilaw21_same a b = some r) : Does Try.prog 34 [.pv (.seq (List.length a) (encP e_u32 0#32 a)), .pv (.seq (List.length b) (encP e_u32 0#32 b))] [] (.pv (.bool r), []) := by
 unfold alibilaw21_same at h
 rcases if_of h with ⟨c1, h⟩ | ⟨c1, h⟩
 · have h := Option.some.inj h; subst h
   exact pdoes mixed (L := lives) (by kernel_rfl) (pk3 <| pb c1 <| pz)
 · obtain ⟨q, hq, h⟩ := bind_of h
   cases q with
   | x0 v7 =>
    have h8 := hq; clear hq
    try dsimp only at h
    have h := Option.some.inj h; subst h
    exact pdoes mixed (L := lives) (by kernel_rfl) (pk3 <| pb c1 <| pl (alibilaw21_same_l4_ok _ _ _ _ h8) <| pz)
   | x1 =>
    have h9 := hq; clear hq
    try dsimp only at h
    have h := Option.some.inj h; subst h
    exact pdoes mixed (L := lives) (by kernel_rfl) (pk3 <| pb c1 <| pl (alibilaw21_same_l4_ok _ _ _ _ h9) <| pz)
/-- alibi/alibilaw21.FlowSolves -/
def alibilaw21_FlowSolves (n1 : Int) (top : BitVec 32) (l : List flow_Rule) : Option (Bool) :=
  bind (alibilaw21_awake) fun v1 =>
  if (!v1) = true then
    bind (alibilaw21_awake) fun v4 =>
    some v4
  else
    if (decide (((((List.length l : Nat) : Int)) : Int) > 60)) = true then
      bind (alibilaw21_awake) fun v7 =>
      some v7
    else
      if (decide ((n1 : Int) > 60)) = true then
        if (decide ((n1 : Int) ≤ 65536)) = true then
          bind (alibilaw21_awake) fun v11 =>
          some v11
        else
          bind (flow_Greatest n1 top l) fun v13 =>
          bind (alibilaw21_of l) fun v15 =>
          bind (alibiref21_Solve n1 top v15 true) fun v17 =>
          bind (alibilaw21_same v13 v17) fun v19 =>
          if v19 = true then
            bind (flow_Least n1 l) fun v22 =>
            bind (alibilaw21_of l) fun v24 =>
            bind (alibiref21_Solve n1 top v24 false) fun v26 =>
            bind (alibilaw21_same v22 v26) fun v28 =>
            some v28
          else
            some false
      else
        bind (flow_Greatest n1 top l) fun v30 =>
        bind (alibilaw21_of l) fun v32 =>
        bind (alibiref21_Solve n1 top v32 true) fun v34 =>
        bind (alibilaw21_same v30 v34) fun v36 =>
        if v36 = true then
          bind (flow_Least n1 l) fun v39 =>
          bind (alibilaw21_of l) fun v41 =>
          bind (alibiref21_Solve n1 top v41 false) fun v43 =>
          bind (alibilaw21_same v39 v43) fun v45 =>
          some v45
        else
          some false
theorem alibilaw21_FlowSolves_ok (n1 : Int) (top : BitVec 32) (l : List flow_Rule) (r : Bool) (h : alibilaw21_FlowSolves n1 top l = some r) : Does Try.prog 5 [.pv (.int .i64 n1), .pv (.int .u32 (BitVec.toNat top : Nat)), .pv (.seq (List.length l) (encP e_flow_Rule d_flow_Rule l))] [] (.pv (.bool r), []) := by
 unfold alibilaw21_FlowSolves at h
 obtain ⟨v1, h2, h⟩ := bind_of h
 rcases if_of h with ⟨c3, h⟩ | ⟨c3, h⟩
 · obtain ⟨v4, h5, h⟩ := bind_of h
   have h := Option.some.inj h; subst h
   exact pdoes mixed (L := lives) (by kernel_rfl) (pc (alibilaw21_awake_ok _ h2) <| pk2 <| pb c3 <| pk8 <| pk <| pc (alibilaw21_awake_ok _ h5) <| pk <| pz)
 · rcases if_of h with ⟨c6, h⟩ | ⟨c6, h⟩
   · obtain ⟨v7, h8, h⟩ := bind_of h
     have h := Option.some.inj h; subst h
     exact pdoes mixed (L := lives) (by kernel_rfl) (pc (alibilaw21_awake_ok _ h2) <| pk2 <| pb c3 <| pk5 <| pb c6 <| pk5 <| pc (alibilaw21_awake_ok _ h8) <| pk <| pz)
   · rcases if_of h with ⟨c9, h⟩ | ⟨c9, h⟩
     · rcases if_of h with ⟨c10, h⟩ | ⟨c10, h⟩
       · obtain ⟨v11, h12, h⟩ := bind_of h
         have h := Option.some.inj h; subst h
         exact pdoes mixed (L := lives) (by kernel_rfl) (pc (alibilaw21_awake_ok _ h2) <| pk2 <| pb c3 <| pk5 <| pb c6 <| pk3 <| pb c9 <| pk5 <| pb c10 <| pc (alibilaw21_awake_ok _ h12) <| pk <| pz)
       · obtain ⟨v13, h14, h⟩ := bind_of h
         obtain ⟨v15, h16, h⟩ := bind_of h
         obtain ⟨v17, h18, h⟩ := bind_of h
         obtain ⟨v19, h20, h⟩ := bind_of h
         rcases if_of h with ⟨c21, h⟩ | ⟨c21, h⟩
         · obtain ⟨v22, h23, h⟩ := bind_of h
           obtain ⟨v24, h25, h⟩ := bind_of h
           obtain ⟨v26, h27, h⟩ := bind_of h
           obtain ⟨v28, h29, h⟩ := bind_of h
           have h := Option.some.inj h; subst h
           exact pdoes mixed (L := lives) (by kernel_rfl) (pc (alibilaw21_awake_ok _ h2) <| pk2 <| pb c3 <| pk5 <| pb c6 <| pk3 <| pb c9 <| pk5 <| pb c10 <| pc (flow_Greatest_ok _ _ _ _ h14) <| pk <| pc (alibilaw21_of_ok _ _ h16) <| pk <| pb (whole_ok (List.length v15)) <| pc (alibiref21_Solve_ok _ _ _ _ _ h18) <| pk <| pb (whole_ok (List.length v13)) <| pb (whole_ok (List.length v17)) <| pc (Does.of (args' := [.pv (.seq (List.length v13) (encP e_u32 (0#32) v13)), .pv (.seq (List.length v17) (encP e_u32 (0#32) v17))]) (H' := []) (alibilaw21_same_ok _ _ _ h20) (by (first | rfl | (simp only [List.length_set]; done)))) <| pk <| pb c21 <| pk2 <| pc (flow_Least_ok _ _ _ h23) <| pk5 <| pc (alibilaw21_of_ok _ _ h25) <| pk2 <| pb (whole_ok (List.length v24)) <| pc (alibiref21_Solve_ok _ _ _ _ _ h27) <| pk2 <| pb (whole_ok (List.length v22)) <| pb (whole_ok (List.length v26)) <| pc (Does.of (args' := [.pv (.seq (List.length v22) (encP e_u32 (0#32) v22)), .pv (.seq (List.length v26) (encP e_u32 (0#32) v26))]) (H' := []) (alibilaw21_same_ok _ _ _ h29) (by (first | rfl | (simp only [List.length_set]; done)))) <| pk2 <| pz)
         · have h := Option.some.inj h; subst h
           exact pdoes mixed (L := lives) (by kernel_rfl) (pc (alibilaw21_awake_ok _ h2) <| pk2 <| pb c3 <| pk5 <| pb c6 <| pk3 <| pb c9 <| pk5 <| pb c10 <| pc (flow_Greatest_ok _ _ _ _ h14) <| pk <| pc (alibilaw21_of_ok _ _ h16) <| pk <| pb (whole_ok (List.length v15)) <| pc (alibiref21_Solve_ok _ _ _ _ _ h18) <| pk <| pb (whole_ok (List.length v13)) <| pb (whole_ok (List.length v17)) <| pc (Does.of (args' := [.pv (.seq (List.length v13) (encP e_u32 (0#32) v13)), .pv (.seq (List.length v17) (encP e_u32 (0#32) v17))]) (H' := []) (alibilaw21_same_ok _ _ _ h20) (by (first | rfl | (simp only [List.length_set]; done)))) <| pk <| pb c21 <| pk8 <| pk <| pz)
     · obtain ⟨v30, h31, h⟩ := bind_of h
       obtain ⟨v32, h33, h⟩ := bind_of h
       obtain ⟨v34, h35, h⟩ := bind_of h
       obtain ⟨v36, h37, h⟩ := bind_of h
       rcases if_of h with ⟨c38, h⟩ | ⟨c38, h⟩
       · obtain ⟨v39, h40, h⟩ := bind_of h
         obtain ⟨v41, h42, h⟩ := bind_of h
         obtain ⟨v43, h44, h⟩ := bind_of h
         obtain ⟨v45, h46, h⟩ := bind_of h
         have h := Option.some.inj h; subst h
         exact pdoes mixed (L := lives) (by kernel_rfl) (pc (alibilaw21_awake_ok _ h2) <| pk2 <| pb c3 <| pk5 <| pb c6 <| pk3 <| pb c9 <| pk5 <| pc (flow_Greatest_ok _ _ _ _ h31) <| pk <| pc (alibilaw21_of_ok _ _ h33) <| pk <| pb (whole_ok (List.length v32)) <| pc (alibiref21_Solve_ok _ _ _ _ _ h35) <| pk <| pb (whole_ok (List.length v30)) <| pb (whole_ok (List.length v34)) <| pc (Does.of (args' := [.pv (.seq (List.length v30) (encP e_u32 (0#32) v30)), .pv (.seq (List.length v34) (encP e_u32 (0#32) v34))]) (H' := []) (alibilaw21_same_ok _ _ _ h37) (by (first | rfl | (simp only [List.length_set]; done)))) <| pk <| pb c38 <| pk2 <| pc (flow_Least_ok _ _ _ h40) <| pk5 <| pc (alibilaw21_of_ok _ _ h42) <| pk2 <| pb (whole_ok (List.length v41)) <| pc (alibiref21_Solve_ok _ _ _ _ _ h44) <| pk2 <| pb (whole_ok (List.length v39)) <| pb (whole_ok (List.length v43)) <| pc (Does.of (args' := [.pv (.seq (List.length v39) (encP e_u32 (0#32) v39)), .pv (.seq (List.length v43) (encP e_u32 (0#32) v43))]) (H' := []) (alibilaw21_same_ok _ _ _ h46) (by (first | rfl | (simp only [List.length_set]; done)))) <| pk2 <| pz)
       · have h := Option.some.inj h; subst h
         exact pdoes mixed (L := lives) (by kernel_rfl) (pc (alibilaw21_awake_ok _ h2) <| pk2 <| pb c3 <| pk5 <| pb c6 <| pk3 <| pb c9 <| pk5 <| pc (flow_Greatest_ok _ _ _ _ h31) <| pk <| pc (alibilaw21_of_ok _ _ h33) <| pk <| pb (whole_ok (List.length v32)) <| pc (alibiref21_Solve_ok _ _ _ _ _ h35) <| pk <| pb (whole_ok (List.length v30)) <| pb (whole_ok (List.length v34)) <| pc (Does.of (args' := [.pv (.seq (List.length v30) (encP e_u32 (0#32) v30)), .pv (.seq (List.length v34) (encP e_u32 (0#32) v34))]) (H' := []) (alibilaw21_same_ok _ _ _ h37) (by (first | rfl | (simp only [List.length_set]; done)))) <| pk <| pb c38 <| pk8 <| pk <| pz)
noncomputable def ty5 : Ty Try.prog 5 (BitVec 8) := Ty.un 5 .u8 rfl (by kernel_rfl) (by kernel_rfl)
noncomputable def alibilaw21_FlowKeeps_l7_c : Code := sub (codeOf Try.prog 6) [1, 1, 1, 1, 0, 1, 0, 0]
inductive alibilaw21_FlowKeeps_l7_R where
  | x0 (v0 : Bool)
  | x1
def alibilaw21_FlowKeeps_l7_R.ex : alibilaw21_FlowKeeps_l7_R → Ex
  | .x0 _ => .ret
  | .x1 => .exit 0
noncomputable def alibilaw21_FlowKeeps_l7_R.st (x0 : List (BitVec 32)) (x1 : List (BitVec 32)) (x2 : BitVec 32) (x3 : List flow_Rule) (x4 : Int) : alibilaw21_FlowKeeps_l7_R → St
  | .x0 v0 => ⟨dead :: dead :: .pv (.seq (List.length x3) (encP e_flow_Rule d_flow_Rule x3)) :: dead :: dead :: dead :: .pv (.bool v0) :: .ms 0 [] 0 (List.length x0) :: .ms 1 [] 0 (List.length x1) :: List.replicate 94 dead, [.arr 0 1 (List.length x0) (encW o_u32 0#32 x0), .arr 0 1 (List.length x1) (encW o_u32 0#32 x1)]⟩
  | .x1 => ⟨dead :: dead :: .pv (.seq (List.length x3) (encP e_flow_Rule d_flow_Rule x3)) :: (List.replicate 4 dead ++ (.ms 0 [] 0 (List.length x0) :: .ms 1 [] 0 (List.length x1) :: List.replicate 94 dead)), [.arr 0 1 (List.length x0) (encW o_u32 0#32 x0), .arr 0 1 (List.length x1) (encW o_u32 0#32 x1)]⟩
def alibilaw21_FlowKeeps_l7 (x0 : List (BitVec 32)) (x1 : List (BitVec 32)) (x2 : BitVec 32) (x3 : List flow_Rule) (x4 : Int) : Option (alibilaw21_FlowKeeps_l7_R) :=
  if (decide ((x4 : Int) < ((((List.length x0) : Nat) : Int)))) = true then
    if (decide ((0 : Int) ≤ x4)) = true then
      if (decide ((x4 : Int) < (((List.length x0) : Nat) : Int))) = true then
        if (((List.getD x0 (Int.toNat x4) (0#32)) &&& ~~~x2) != (0#32)) = true then
          some (.x0 false)
        else
          alibilaw21_FlowKeeps_l7 x0 x1 x2 x3 (iAdd x4 1)
      else none
    else none
  else
    some (.x1)
partial_fixpoint
noncomputable abbrev alibilaw21_FlowKeeps_l7_s (x0 : List (BitVec 32)) (x1 : List (BitVec 32)) (x2 : BitVec 32) (x3 : List flow_Rule) (x4 : Int) : St := ⟨dead :: .pv (.int .u32 (BitVec.toNat x2 : Nat)) :: .pv (.seq (List.length x3) (encP e_flow_Rule d_flow_Rule x3)) :: (List.replicate 4 dead ++ (.ms 0 [] 0 (List.length x0) :: .ms 1 [] 0 (List.length x1) :: .pv (.int .i64 x4) :: List.replicate 93 dead)), [.arr 0 1 (List.length x0) (encW o_u32 0#32 x0), .arr 0 1 (List.length x1) (encW o_u32 0#32 x1)]⟩
theorem alibilaw21_FlowKeeps_l7_ok (x0 : List (BitVec 32)) (x1 : List (BitVec 32)) (x2 : BitVec 32) (x3 : List flow_Rule) (x4 : Int) (r : alibilaw21_FlowKeeps_l7_R) (h : alibilaw21_FlowKeeps_l7 x0 x1 x2 x3 x4 = some r) : Loops Try.prog alibilaw21_FlowKeeps_l7_c 0 (alibilaw21_FlowKeeps_l7_s x0 x1 x2 x3 x4) r.ex (alibilaw21_FlowKeeps_l7_R.st x0 x1 x2 x3 x4 r) := by
 refine alibilaw21_FlowKeeps_l7.partial_correctness x0 x1 x2 x3 (fun x4 r => Loops Try.prog alibilaw21_FlowKeeps_l7_c 0 (alibilaw21_FlowKeeps_l7_s x0 x1 x2 x3 x4) r.ex (alibilaw21_FlowKeeps_l7_R.st x0 x1 x2 x3 x4 r)) ?_ x4 r h
 clear h r x4
 intro self ih x4 r h
 rcases if_of h with ⟨c15, h⟩ | ⟨c15, h⟩
 · obtain ⟨c16, h⟩ := need_of h
   obtain ⟨c17, h⟩ := need_of h
   rcases if_of h with ⟨c18, h⟩ | ⟨c18, h⟩
   · have h := Option.some.inj h; subst h
     exact plast mixed lives 6 (by kernel_rfl) (pk2 <| pb c15 <| pn c16 <| pn c17 <| pk <| pe (eff_int (k := .u32) (un_andNot .u32 rfl (List.getD x0 (Int.toNat x4) (0#32)) x2)) <| pe (eff_bool (un_neq ((List.getD x0 (Int.toNat x4) (0#32)) &&& ~~~x2) (0#32))) <| pb c18 <| pz) rfl
   · exact pmore mixed lives 6 (by kernel_rfl) (pk2 <| pb c15 <| pn c16 <| pn c17 <| pk <| pe (eff_int (k := .u32) (un_andNot .u32 rfl (List.getD x0 (Int.toNat x4) (0#32)) x2)) <| pe (eff_bool (un_neq ((List.getD x0 (Int.toNat x4) (0#32)) &&& ~~~x2) (0#32))) <| pb c18 <| pk <| pz) (ih (iAdd x4 1) _ h)
 · have h := Option.some.inj h; subst h
   exact plast mixed lives 6 (by kernel_rfl) (pk2 <| pb c15 <| pz) rfl
noncomputable def alibilaw21_FlowKeeps_l12_c : Code := sub (codeOf Try.prog 6) [1, 1, 1, 1, 1, 0, 1, 0, 0]
inductive alibilaw21_FlowKeeps_l12_R where
  | x0 (v0 : Bool)
  | x1
def alibilaw21_FlowKeeps_l12_R.ex : alibilaw21_FlowKeeps_l12_R → Ex
  | .x0 _ => .ret
  | .x1 => .exit 2
noncomputable def alibilaw21_FlowKeeps_l12_R.st (x0 : List (BitVec 32)) (x1 : List (BitVec 32)) (x2 : List flow_Rule) (x3 : Int) : alibilaw21_FlowKeeps_l12_R → St
  | .x0 v0 => ⟨(List.replicate 6 dead ++ (.pv (.bool v0) :: List.replicate 96 dead)), []⟩
  | .x1 => ⟨List.replicate 103 dead, []⟩
def alibilaw21_FlowKeeps_l12 (x0 : List (BitVec 32)) (x1 : List (BitVec 32)) (x2 : List flow_Rule) (x3 : Int) : Option (alibilaw21_FlowKeeps_l12_R) :=
  if (decide ((x3 : Int) < (((List.length x2 : Nat) : Int)))) = true then
    if (decide ((0 : Int) ≤ x3)) = true then
      if (decide ((x3 : Int) < ((List.length x2 : Nat) : Int))) = true then
        if (decide ((((List.getD x2 (Int.toNat x3) d_flow_Rule).to_) : Int) < 0)) = true then
          alibilaw21_FlowKeeps_l12 x0 x1 x2 (iAdd x3 1)
        else
          if (decide ((((List.getD x2 (Int.toNat x3) d_flow_Rule).to_) : Int) ≥ ((((List.length x0) : Nat) : Int)))) = true then
            alibilaw21_FlowKeeps_l12 x0 x1 x2 (iAdd x3 1)
          else
            if (decide ((0 : Int) ≤ ((List.getD x2 (Int.toNat x3) d_flow_Rule).to_))) = true then
              if (decide ((((List.getD x2 (Int.toNat x3) d_flow_Rule).to_) : Int) < (((List.length x0) : Nat) : Int))) = true then
                bind (flow_Rule_Value (List.getD x2 (Int.toNat x3) d_flow_Rule) x0) fun v29 =>
                if (((List.getD x0 (Int.toNat ((List.getD x2 (Int.toNat x3) d_flow_Rule).to_)) (0#32)) &&& ~~~v29) != (0#32)) = true then
                  some (.x0 false)
                else
                  bind (flow_Rule_Value (List.getD x2 (Int.toNat x3) d_flow_Rule) x1) fun v32 =>
                  if (decide ((((List.getD x2 (Int.toNat x3) d_flow_Rule).to_) : Int) < (((List.length x1) : Nat) : Int))) = true then
                    if ((v32 &&& ~~~(List.getD x1 (Int.toNat ((List.getD x2 (Int.toNat x3) d_flow_Rule).to_)) (0#32))) != (0#32)) = true then
                      some (.x0 false)
                    else
                      alibilaw21_FlowKeeps_l12 x0 x1 x2 (iAdd x3 1)
                  else none
              else none
            else none
      else none
    else none
  else
    some (.x1)
partial_fixpoint
noncomputable abbrev alibilaw21_FlowKeeps_l12_s (x0 : List (BitVec 32)) (x1 : List (BitVec 32)) (x2 : List flow_Rule) (x3 : Int) : St := ⟨dead :: dead :: .pv (.seq (List.length x2) (encP e_flow_Rule d_flow_Rule x2)) :: (List.replicate 4 dead ++ (.ms 0 [] 0 (List.length x0) :: .ms 1 [] 0 (List.length x1) :: dead :: .pv (.int .i64 x3) :: List.replicate 92 dead)), [.arr 0 1 (List.length x0) (encW o_u32 0#32 x0), .arr 0 1 (List.length x1) (encW o_u32 0#32 x1)]⟩
theorem alibilaw21_FlowKeeps_l12_ok (x0 : List (BitVec 32)) (x1 : List (BitVec 32)) (x2 : List flow_Rule) (x3 : Int) (r : alibilaw21_FlowKeeps_l12_R) (h : alibilaw21_FlowKeeps_l12 x0 x1 x2 x3 = some r) : Loops Try.prog alibilaw21_FlowKeeps_l12_c 0 (alibilaw21_FlowKeeps_l12_s x0 x1 x2 x3) r.ex (alibilaw21_FlowKeeps_l12_R.st x0 x1 x2 x3 r) := by
 refine alibilaw21_FlowKeeps_l12.partial_correctness x0 x1 x2 (fun x3 r => Loops Try.prog alibilaw21_FlowKeeps_l12_c 0 (alibilaw21_FlowKeeps_l12_s x0 x1 x2 x3) r.ex (alibilaw21_FlowKeeps_l12_R.st x0 x1 x2 x3 r)) ?_ x3 r h
 clear h r x3
 intro self ih x3 r h
 rcases if_of h with ⟨c22, h⟩ | ⟨c22, h⟩
 · obtain ⟨c23, h⟩ := need_of h
   obtain ⟨c24, h⟩ := need_of h
   rcases if_of h with ⟨c25, h⟩ | ⟨c25, h⟩
   · exact pmore mixed lives 6 (by kernel_rfl) (pk2 <| pb c22 <| pn c23 <| pn c24 <| pk2 <| pb c25 <| pk6 <| pz) (ih (iAdd x3 1) _ h)
   · rcases if_of h with ⟨c26, h⟩ | ⟨c26, h⟩
     · exact pmore mixed lives 6 (by kernel_rfl) (pk2 <| pb c22 <| pn c23 <| pn c24 <| pk2 <| pb c25 <| pk6 <| pb c26 <| pk <| pz) (ih (iAdd x3 1) _ h)
     · obtain ⟨c27, h⟩ := need_of h
       obtain ⟨c28, h⟩ := need_of h
       obtain ⟨v29, h30, h⟩ := bind_of h
       rcases if_of h with ⟨c31, h⟩ | ⟨c31, h⟩
       · have h := Option.some.inj h; subst h
         exact plast mixed lives 6 (by kernel_rfl) (pk2 <| pb c22 <| pn c23 <| pn c24 <| pk2 <| pb c25 <| pk6 <| pb c26 <| pn c27 <| pn c28 <| pk <| pn c23 <| pn c24 <| pk <| pb (whole_ok (List.length x0)) <| pc (Does.of (args' := [.agg [.pv (.int .i64 ((List.getD x2 (Int.toNat x3) d_flow_Rule).to_)), .pv (.int .i64 ((List.getD x2 (Int.toNat x3) d_flow_Rule).from_)), .pv (.int .i64 ((List.getD x2 (Int.toNat x3) d_flow_Rule).also)), .pv (.int .u32 (BitVec.toNat ((List.getD x2 (Int.toNat x3) d_flow_Rule).keep) : Nat)), .pv (.int .u32 (BitVec.toNat ((List.getD x2 (Int.toNat x3) d_flow_Rule).if_) : Nat)), .pv (.int .u32 (BitVec.toNat ((List.getD x2 (Int.toNat x3) d_flow_Rule).then_) : Nat))], .pv (.seq (List.length x0) (encP e_u32 (0#32) x0))]) (H' := []) (flow_Rule_Value_ok _ _ _ h30) (by (first | rfl | (simp only [List.length_set]; done)))) <| pk <| pe (eff_int (k := .u32) (un_andNot .u32 rfl (List.getD x0 (Int.toNat ((List.getD x2 (Int.toNat x3) d_flow_Rule).to_)) (0#32)) v29)) <| pe (eff_bool (un_neq ((List.getD x0 (Int.toNat ((List.getD x2 (Int.toNat x3) d_flow_Rule).to_)) (0#32)) &&& ~~~v29) (0#32))) <| pb c31 <| pk8 <| pk5 <| pz) rfl
       · obtain ⟨v32, h33, h⟩ := bind_of h
         obtain ⟨c34, h⟩ := need_of h
         rcases if_of h with ⟨c35, h⟩ | ⟨c35, h⟩
         · have h := Option.some.inj h; subst h
           exact plast mixed lives 6 (by kernel_rfl) (pk2 <| pb c22 <| pn c23 <| pn c24 <| pk2 <| pb c25 <| pk6 <| pb c26 <| pn c27 <| pn c28 <| pk <| pn c23 <| pn c24 <| pk <| pb (whole_ok (List.length x0)) <| pc (Does.of (args' := [.agg [.pv (.int .i64 ((List.getD x2 (Int.toNat x3) d_flow_Rule).to_)), .pv (.int .i64 ((List.getD x2 (Int.toNat x3) d_flow_Rule).from_)), .pv (.int .i64 ((List.getD x2 (Int.toNat x3) d_flow_Rule).also)), .pv (.int .u32 (BitVec.toNat ((List.getD x2 (Int.toNat x3) d_flow_Rule).keep) : Nat)), .pv (.int .u32 (BitVec.toNat ((List.getD x2 (Int.toNat x3) d_flow_Rule).if_) : Nat)), .pv (.int .u32 (BitVec.toNat ((List.getD x2 (Int.toNat x3) d_flow_Rule).then_) : Nat))], .pv (.seq (List.length x0) (encP e_u32 (0#32) x0))]) (H' := []) (flow_Rule_Value_ok _ _ _ h30) (by (first | rfl | (simp only [List.length_set]; done)))) <| pk <| pe (eff_int (k := .u32) (un_andNot .u32 rfl (List.getD x0 (Int.toNat ((List.getD x2 (Int.toNat x3) d_flow_Rule).to_)) (0#32)) v29)) <| pe (eff_bool (un_neq ((List.getD x0 (Int.toNat ((List.getD x2 (Int.toNat x3) d_flow_Rule).to_)) (0#32)) &&& ~~~v29) (0#32))) <| pb c31 <| pk2 <| pn c23 <| pn c24 <| pk4 <| pb (whole_ok (List.length x1)) <| pc (Does.of (args' := [.agg [.pv (.int .i64 ((List.getD x2 (Int.toNat x3) d_flow_Rule).to_)), .pv (.int .i64 ((List.getD x2 (Int.toNat x3) d_flow_Rule).from_)), .pv (.int .i64 ((List.getD x2 (Int.toNat x3) d_flow_Rule).also)), .pv (.int .u32 (BitVec.toNat ((List.getD x2 (Int.toNat x3) d_flow_Rule).keep) : Nat)), .pv (.int .u32 (BitVec.toNat ((List.getD x2 (Int.toNat x3) d_flow_Rule).if_) : Nat)), .pv (.int .u32 (BitVec.toNat ((List.getD x2 (Int.toNat x3) d_flow_Rule).then_) : Nat))], .pv (.seq (List.length x1) (encP e_u32 (0#32) x1))]) (H' := []) (flow_Rule_Value_ok _ _ _ h33) (by (first | rfl | (simp only [List.length_set]; done)))) <| pk4 <| pn c27 <| pn c34 <| pk3 <| pe (eff_int (k := .u32) (un_andNot .u32 rfl v32 (List.getD x1 (Int.toNat ((List.getD x2 (Int.toNat x3) d_flow_Rule).to_)) (0#32)))) <| pk <| pe (eff_bool (un_neq (v32 &&& ~~~(List.getD x1 (Int.toNat ((List.getD x2 (Int.toNat x3) d_flow_Rule).to_)) (0#32))) (0#32))) <| pk <| pb c35 <| pz) rfl
         · exact pmore mixed lives 6 (by kernel_rfl) (pk2 <| pb c22 <| pn c23 <| pn c24 <| pk2 <| pb c25 <| pk6 <| pb c26 <| pn c27 <| pn c28 <| pk <| pn c23 <| pn c24 <| pk <| pb (whole_ok (List.length x0)) <| pc (Does.of (args' := [.agg [.pv (.int .i64 ((List.getD x2 (Int.toNat x3) d_flow_Rule).to_)), .pv (.int .i64 ((List.getD x2 (Int.toNat x3) d_flow_Rule).from_)), .pv (.int .i64 ((List.getD x2 (Int.toNat x3) d_flow_Rule).also)), .pv (.int .u32 (BitVec.toNat ((List.getD x2 (Int.toNat x3) d_flow_Rule).keep) : Nat)), .pv (.int .u32 (BitVec.toNat ((List.getD x2 (Int.toNat x3) d_flow_Rule).if_) : Nat)), .pv (.int .u32 (BitVec.toNat ((List.getD x2 (Int.toNat x3) d_flow_Rule).then_) : Nat))], .pv (.seq (List.length x0) (encP e_u32 (0#32) x0))]) (H' := []) (flow_Rule_Value_ok _ _ _ h30) (by (first | rfl | (simp only [List.length_set]; done)))) <| pk <| pe (eff_int (k := .u32) (un_andNot .u32 rfl (List.getD x0 (Int.toNat ((List.getD x2 (Int.toNat x3) d_flow_Rule).to_)) (0#32)) v29)) <| pe (eff_bool (un_neq ((List.getD x0 (Int.toNat ((List.getD x2 (Int.toNat x3) d_flow_Rule).to_)) (0#32)) &&& ~~~v29) (0#32))) <| pb c31 <| pk2 <| pn c23 <| pn c24 <| pk4 <| pb (whole_ok (List.length x1)) <| pc (Does.of (args' := [.agg [.pv (.int .i64 ((List.getD x2 (Int.toNat x3) d_flow_Rule).to_)), .pv (.int .i64 ((List.getD x2 (Int.toNat x3) d_flow_Rule).from_)), .pv (.int .i64 ((List.getD x2 (Int.toNat x3) d_flow_Rule).also)), .pv (.int .u32 (BitVec.toNat ((List.getD x2 (Int.toNat x3) d_flow_Rule).keep) : Nat)), .pv (.int .u32 (BitVec.toNat ((List.getD x2 (Int.toNat x3) d_flow_Rule).if_) : Nat)), .pv (.int .u32 (BitVec.toNat ((List.getD x2 (Int.toNat x3) d_flow_Rule).then_) : Nat))], .pv (.seq (List.length x1) (encP e_u32 (0#32) x1))]) (H' := []) (flow_Rule_Value_ok _ _ _ h33) (by (first | rfl | (simp only [List.length_set]; done)))) <| pk4 <| pn c27 <| pn c34 <| pk3 <| pe (eff_int (k := .u32) (un_andNot .u32 rfl v32 (List.getD x1 (Int.toNat ((List.getD x2 (Int.toNat x3) d_flow_Rule).to_)) (0#32)))) <| pk <| pe (eff_bool (un_neq (v32 &&& ~~~(List.getD x1 (Int.toNat ((List.getD x2 (Int.toNat x3) d_flow_Rule).to_)) (0#32))) (0#32))) <| pk <| pb c35 <| pk <| pz) (ih (iAdd x3 1) _ h)
 · have h := Option.some.inj h; subst h
   exact plast mixed lives 6 (by kernel_rfl) (pk2 <| pb c22 <| pz) rfl
/-- alibi/alibilaw21.FlowKeeps -/
def alibilaw21_FlowKeeps (n1 : BitVec 8) (top : BitVec 32) (l : List flow_Rule) : Option (Bool) :=
  bind (alibilaw21_awake) fun v1 =>
  if (!v1) = true then
    bind (alibilaw21_awake) fun v4 =>
    some v4
  else
    if (decide (((((List.length l : Nat) : Int)) : Int) > 60)) = true then
      bind (alibilaw21_awake) fun v7 =>
      some v7
    else
      bind (flow_Greatest (iRem ((BitVec.toNat n1 : Int)) 60) top l) fun v9 =>
      bind (flow_Least (iRem ((BitVec.toNat n1 : Int)) 60) l) fun v11 =>
      if ((((((List.length v9) : Nat) : Int)) : Int) != (iRem ((BitVec.toNat n1 : Int)) 60)) = true then
        some false
      else
        if ((((((List.length v11) : Nat) : Int)) : Int) != (iRem ((BitVec.toNat n1 : Int)) 60)) = true then
          some false
        else
          bind (alibilaw21_FlowKeeps_l7 v9 v11 top l 0) fun q => match q with
            | .x0 v19 =>
              some v19
            | .x1 =>
              bind (alibilaw21_FlowKeeps_l12 v9 v11 l 0) fun q => match q with
                | .x0 v36 =>
                  some v36
                | .x1 =>
                  some true
theorem alibilaw21_FlowKeeps_ok (n1 : BitVec 8) (top : BitVec 32) (l : List flow_Rule) (r : Bool) (h : alibilaw21_FlowKeeps n1 top l = some r) : Does Try.prog 6 [.pv (.int .u8 (BitVec.toNat n1 : Nat)), .pv (.int .u32 (BitVec.toNat top : Nat)), .pv (.seq (List.length l) (encP e_flow_Rule d_flow_Rule l))] [] (.pv (.bool r), []) := by
 unfold alibilaw21_FlowKeeps at h
 obtain ⟨v1, h2, h⟩ := bind_of h
 rcases if_of h with ⟨c3, h⟩ | ⟨c3, h⟩
 · obtain ⟨v4, h5, h⟩ := bind_of h
   have h := Option.some.inj h; subst h
   exact pdoes mixed (L := lives) (by kernel_rfl) (pc (alibilaw21_awake_ok _ h2) <| pk2 <| pb c3 <| pk4 <| pc (alibilaw21_awake_ok _ h5) <| pk <| pz)
 · rcases if_of h with ⟨c6, h⟩ | ⟨c6, h⟩
   · obtain ⟨v7, h8, h⟩ := bind_of h
     have h := Option.some.inj h; subst h
     exact pdoes mixed (L := lives) (by kernel_rfl) (pc (alibilaw21_awake_ok _ h2) <| pk2 <| pb c3 <| pk5 <| pb c6 <| pc (alibilaw21_awake_ok _ h8) <| pk <| pz)
   · obtain ⟨v9, h10, h⟩ := bind_of h
     obtain ⟨v11, h12, h⟩ := bind_of h
     rcases if_of h with ⟨c13, h⟩ | ⟨c13, h⟩
     · have h := Option.some.inj h; subst h
       exact pdoes mixed (L := lives) (by kernel_rfl) (pc (alibilaw21_awake_ok _ h2) <| pk2 <| pb c3 <| pk5 <| pb c6 <| pe (eff_int (k := .i64) (int_un 8 (by decide) n1)) <| pn (rfl : (!decide (60 = (0 : Int))) = true) <| pk <| pc (flow_Greatest_ok _ _ _ _ h10) <| pk <| pe (eff_int (k := .i64) (int_un 8 (by decide) n1)) <| pn (rfl : (!decide (60 = (0 : Int))) = true) <| pk <| pc (flow_Least_ok _ _ _ h12) <| pk2 <| pe (eff_int (k := .i64) (int_un 8 (by decide) n1)) <| pn (rfl : (!decide (60 = (0 : Int))) = true) <| pk2 <| pb c13 <| pk7 <| pz)
     · rcases if_of h with ⟨c14, h⟩ | ⟨c14, h⟩
       · have h := Option.some.inj h; subst h
         exact pdoes mixed (L := lives) (by kernel_rfl) (pc (alibilaw21_awake_ok _ h2) <| pk2 <| pb c3 <| pk5 <| pb c6 <| pe (eff_int (k := .i64) (int_un 8 (by decide) n1)) <| pn (rfl : (!decide (60 = (0 : Int))) = true) <| pk <| pc (flow_Greatest_ok _ _ _ _ h10) <| pk <| pe (eff_int (k := .i64) (int_un 8 (by decide) n1)) <| pn (rfl : (!decide (60 = (0 : Int))) = true) <| pk <| pc (flow_Least_ok _ _ _ h12) <| pk2 <| pe (eff_int (k := .i64) (int_un 8 (by decide) n1)) <| pn (rfl : (!decide (60 = (0 : Int))) = true) <| pk2 <| pb c13 <| pk4 <| pe (eff_int (k := .i64) (int_un 8 (by decide) n1)) <| pk <| pn (rfl : (!decide (60 = (0 : Int))) = true) <| pk4 <| pb c14 <| pz)
       · obtain ⟨q, hq, h⟩ := bind_of h
         cases q with
         | x0 v19 =>
          have h20 := hq; clear hq
          try dsimp only at h
          have h := Option.some.inj h; subst h
          exact pdoes mixed (L := lives) (by kernel_rfl) (pc (alibilaw21_awake_ok _ h2) <| pk2 <| pb c3 <| pk5 <| pb c6 <| pe (eff_int (k := .i64) (int_un 8 (by decide) n1)) <| pn (rfl : (!decide (60 = (0 : Int))) = true) <| pk <| pc (flow_Greatest_ok _ _ _ _ h10) <| pk <| pe (eff_int (k := .i64) (int_un 8 (by decide) n1)) <| pn (rfl : (!decide (60 = (0 : Int))) = true) <| pk <| pc (flow_Least_ok _ _ _ h12) <| pk2 <| pe (eff_int (k := .i64) (int_un 8 (by decide) n1)) <| pn (rfl : (!decide (60 = (0 : Int))) = true) <| pk2 <| pb c13 <| pk4 <| pe (eff_int (k := .i64) (int_un 8 (by decide) n1)) <| pk <| pn (rfl : (!decide (60 = (0 : Int))) = true) <| pk4 <| pb c14 <| pl (alibilaw21_FlowKeeps_l7_ok _ _ _ _ _ _ h20) <| pz)
         | x1 =>
          have h21 := hq; clear hq
          try dsimp only at h
          obtain ⟨q, hq, h⟩ := bind_of h
          cases q with
          | x0 v36 =>
           have h37 := hq; clear hq
           try dsimp only at h
           have h := Option.some.inj h; subst h
           exact pdoes mixed (L := lives) (by kernel_rfl) (pc (alibilaw21_awake_ok _ h2) <| pk2 <| pb c3 <| pk5 <| pb c6 <| pe (eff_int (k := .i64) (int_un 8 (by decide) n1)) <| pn (rfl : (!decide (60 = (0 : Int))) = true) <| pk <| pc (flow_Greatest_ok _ _ _ _ h10) <| pk <| pe (eff_int (k := .i64) (int_un 8 (by decide) n1)) <| pn (rfl : (!decide (60 = (0 : Int))) = true) <| pk <| pc (flow_Least_ok _ _ _ h12) <| pk2 <| pe (eff_int (k := .i64) (int_un 8 (by decide) n1)) <| pn (rfl : (!decide (60 = (0 : Int))) = true) <| pk2 <| pb c13 <| pk4 <| pe (eff_int (k := .i64) (int_un 8 (by decide) n1)) <| pk <| pn (rfl : (!decide (60 = (0 : Int))) = true) <| pk4 <| pb c14 <| pl (alibilaw21_FlowKeeps_l7_ok _ _ _ _ _ _ h21) <| pl (alibilaw21_FlowKeeps_l12_ok _ _ _ _ _ h37) <| pz)
          | x1 =>
           have h38 := hq; clear hq
           try dsimp only at h
           have h := Option.some.inj h; subst h
           exact pdoes mixed (L := lives) (by kernel_rfl) (pc (alibilaw21_awake_ok _ h2) <| pk2 <| pb c3 <| pk5 <| pb c6 <| pe (eff_int (k := .i64) (int_un 8 (by decide) n1)) <| pn (rfl : (!decide (60 = (0 : Int))) = true) <| pk <| pc (flow_Greatest_ok _ _ _ _ h10) <| pk <| pe (eff_int (k := .i64) (int_un 8 (by decide) n1)) <| pn (rfl : (!decide (60 = (0 : Int))) = true) <| pk <| pc (flow_Least_ok _ _ _ h12) <| pk2 <| pe (eff_int (k := .i64) (int_un 8 (by decide) n1)) <| pn (rfl : (!decide (60 = (0 : Int))) = true) <| pk2 <| pb c13 <| pk4 <| pe (eff_int (k := .i64) (int_un 8 (by decide) n1)) <| pk <| pn (rfl : (!decide (60 = (0 : Int))) = true) <| pk4 <| pb c14 <| pl (alibilaw21_FlowKeeps_l7_ok _ _ _ _ _ _ h21) <| pl (alibilaw21_FlowKeeps_l12_ok _ _ _ _ _ h38) <| pz)
noncomputable def alibilaw21_FlowBest_l5_c : Code := sub (codeOf Try.prog 7) [1, 1, 1, 0, 1, 0, 0]
def alibilaw21_FlowBest_l5 (x0 : List (BitVec 32)) (x1 : BitVec 32) (x2 : List flow_Rule) (x3 : Bool) (x4 : Bool) (x5 : Int) : Option (Bool) :=
  if (decide ((x5 : Int) < (((List.length x0 : Nat) : Int)))) = true then
    if x3 = true then
      if (decide ((0 : Int) ≤ x5)) = true then
        if (decide ((x5 : Int) < ((List.length x0 : Nat) : Int))) = true then
          alibilaw21_FlowBest_l5 x0 x1 x2 (((List.getD x0 (Int.toNat x5) (0#32)) &&& ~~~x1) == (0#32)) x4 (iAdd x5 1)
        else none
      else none
    else
      alibilaw21_FlowBest_l5 x0 x1 x2 false x4 (iAdd x5 1)
  else
    some x3
partial_fixpoint
noncomputable abbrev alibilaw21_FlowBest_l5_s (x0 : List (BitVec 32)) (x1 : BitVec 32) (x2 : List flow_Rule) (x3 : Bool) (x4 : Bool) (x5 : Int) : St := ⟨.pv (.seq (List.length x0) (encP e_u32 0#32 x0)) :: .pv (.int .u32 (BitVec.toNat x1 : Nat)) :: .pv (.seq (List.length x2) (encP e_flow_Rule d_flow_Rule x2)) :: (List.replicate 4 dead ++ (.pv (.bool x3) :: .pv (.bool x4) :: .pv (.int .i64 x5) :: List.replicate 161 dead)), []⟩
noncomputable abbrev alibilaw21_FlowBest_l5_e (x0 : List (BitVec 32)) (x1 : BitVec 32) (x2 : List flow_Rule) (x3 : Bool) (x4 : Bool) (x5 : Int) (r : Bool) : St := ⟨.pv (.seq (List.length x0) (encP e_u32 0#32 x0)) :: .pv (.int .u32 (BitVec.toNat x1 : Nat)) :: .pv (.seq (List.length x2) (encP e_flow_Rule d_flow_Rule x2)) :: (List.replicate 4 dead ++ (.pv (.bool r) :: .pv (.bool x4) :: List.replicate 162 dead)), []⟩
theorem alibilaw21_FlowBest_l5_ok (x0 : List (BitVec 32)) (x1 : BitVec 32) (x2 : List flow_Rule) (x3 : Bool) (x4 : Bool) (x5 : Int) (r : Bool) (h : alibilaw21_FlowBest_l5 x0 x1 x2 x3 x4 x5 = some r) : Loops Try.prog alibilaw21_FlowBest_l5_c 0 (alibilaw21_FlowBest_l5_s x0 x1 x2 x3 x4 x5) (.exit 0) (alibilaw21_FlowBest_l5_e x0 x1 x2 x3 x4 x5 r) := by
 refine alibilaw21_FlowBest_l5.partial_correctness x0 x1 x2 x4 (fun x3 x5 r => Loops Try.prog alibilaw21_FlowBest_l5_c 0 (alibilaw21_FlowBest_l5_s x0 x1 x2 x3 x4 x5) (.exit 0) (alibilaw21_FlowBest_l5_e x0 x1 x2 x3 x4 x5 r)) ?_ x3 x5 r h
 clear h r x3 x5
 intro self ih x3 x5 r h
 rcases if_of h with ⟨c12, h⟩ | ⟨c12, h⟩
 · rcases if_of h with ⟨c13, h⟩ | ⟨c13, h⟩
   · obtain ⟨c14, h⟩ := need_of h
     obtain ⟨c15, h⟩ := need_of h
     exact pmore mixed lives 7 (by kernel_rfl) (pk2 <| pb c12 <| pb c13 <| pk2 <| pn c14 <| pn c15 <| pk4 <| pe (eff_int (k := .u32) (un_andNot .u32 rfl (List.getD x0 (Int.toNat x5) (0#32)) x1)) <| pk <| pe (eff_bool (un_eql ((List.getD x0 (Int.toNat x5) (0#32)) &&& ~~~x1) (0#32))) <| pk2 <| pz) (ih (((List.getD x0 (Int.toNat x5) (0#32)) &&& ~~~x1) == (0#32)) (iAdd x5 1) _ h)
   · exact pmore mixed lives 7 (by kernel_rfl) (pk2 <| pb c12 <| pb c13 <| pk8 <| pz) (ih false (iAdd x5 1) _ h)
 · have h := Option.some.inj h; subst h
   exact plast mixed lives 7 (by kernel_rfl) (pk2 <| pb c12 <| pz) rfl
noncomputable def alibilaw21_FlowBest_l10_c : Code := sub (codeOf Try.prog 7) [1, 1, 1, 1, 1, 0, 1, 0, 0]
def alibilaw21_FlowBest_l10 (x0 : List flow_Rule) (x1 : List (BitVec 32)) (x2 : BitVec 32) (x3 : List flow_Rule) (x4 : Bool) (x5 : Bool) (x6 : Int) : Option ((List flow_Rule) × Bool × Bool) :=
  if (decide ((x6 : Int) < (((List.length x3 : Nat) : Int)))) = true then
    if (decide ((0 : Int) ≤ x6)) = true then
      if (decide ((x6 : Int) < ((List.length x3 : Nat) : Int))) = true then
        if (Nat.ble ((List.length ([List.getD x3 (Int.toNat x6) d_flow_Rule]) + List.length x0) * 40) reach) = true then
          if (decide ((((List.getD x3 (Int.toNat x6) d_flow_Rule).to_) : Int) < 0)) = true then
            alibilaw21_FlowBest_l10 ([List.getD x3 (Int.toNat x6) d_flow_Rule] ++ x0) x1 x2 x3 x4 x5 (iAdd x6 1)
          else
            if (decide ((((List.getD x3 (Int.toNat x6) d_flow_Rule).to_) : Int) ≥ (((List.length x1 : Nat) : Int)))) = true then
              alibilaw21_FlowBest_l10 ([List.getD x3 (Int.toNat x6) d_flow_Rule] ++ x0) x1 x2 x3 x4 x5 (iAdd x6 1)
            else
              if x4 = true then
                if (decide ((0 : Int) ≤ ((List.getD x3 (Int.toNat x6) d_flow_Rule).to_))) = true then
                  if (decide ((((List.getD x3 (Int.toNat x6) d_flow_Rule).to_) : Int) < ((List.length x1 : Nat) : Int))) = true then
                    bind (flow_Rule_Value (List.getD x3 (Int.toNat x6) d_flow_Rule) x1) fun v27 =>
                    if x5 = true then
                      bind (flow_Rule_Value (List.getD x3 (Int.toNat x6) d_flow_Rule) x1) fun v30 =>
                      alibilaw21_FlowBest_l10 ([List.getD x3 (Int.toNat x6) d_flow_Rule] ++ x0) x1 x2 x3 (((List.getD x1 (Int.toNat ((List.getD x3 (Int.toNat x6) d_flow_Rule).to_)) (0#32)) &&& ~~~v27) == (0#32)) ((v30 &&& ~~~(List.getD x1 (Int.toNat ((List.getD x3 (Int.toNat x6) d_flow_Rule).to_)) (0#32))) == (0#32)) (iAdd x6 1)
                    else
                      alibilaw21_FlowBest_l10 ([List.getD x3 (Int.toNat x6) d_flow_Rule] ++ x0) x1 x2 x3 (((List.getD x1 (Int.toNat ((List.getD x3 (Int.toNat x6) d_flow_Rule).to_)) (0#32)) &&& ~~~v27) == (0#32)) false (iAdd x6 1)
                  else none
                else none
              else
                if x5 = true then
                  bind (flow_Rule_Value (List.getD x3 (Int.toNat x6) d_flow_Rule) x1) fun v33 =>
                  if (decide ((0 : Int) ≤ ((List.getD x3 (Int.toNat x6) d_flow_Rule).to_))) = true then
                    if (decide ((((List.getD x3 (Int.toNat x6) d_flow_Rule).to_) : Int) < ((List.length x1 : Nat) : Int))) = true then
                      alibilaw21_FlowBest_l10 ([List.getD x3 (Int.toNat x6) d_flow_Rule] ++ x0) x1 x2 x3 false ((v33 &&& ~~~(List.getD x1 (Int.toNat ((List.getD x3 (Int.toNat x6) d_flow_Rule).to_)) (0#32))) == (0#32)) (iAdd x6 1)
                    else none
                  else none
                else
                  alibilaw21_FlowBest_l10 ([List.getD x3 (Int.toNat x6) d_flow_Rule] ++ x0) x1 x2 x3 false false (iAdd x6 1)
        else none
      else none
    else none
  else
    some (x0, x4, x5)
partial_fixpoint
noncomputable abbrev alibilaw21_FlowBest_l10_s (x0 : List flow_Rule) (x1 : List (BitVec 32)) (x2 : BitVec 32) (x3 : List flow_Rule) (x4 : Bool) (x5 : Bool) (x6 : Int) : St := ⟨.pv (.seq (List.length x1) (encP e_u32 0#32 x1)) :: .pv (.int .u32 (BitVec.toNat x2 : Nat)) :: .pv (.seq (List.length x3) (encP e_flow_Rule d_flow_Rule x3)) :: (List.replicate 4 dead ++ (.pv (.bool x4) :: .pv (.bool x5) :: dead :: .ms 0 [] 0 (List.length x0) :: .pv (.int .i64 x6) :: List.replicate 159 dead)), [.arr 0 6 (List.length x0) (encW o_flow_Rule d_flow_Rule x0)]⟩
noncomputable abbrev alibilaw21_FlowBest_l10_e (x0 : List flow_Rule) (x1 : List (BitVec 32)) (x2 : BitVec 32) (x3 : List flow_Rule) (x4 : Bool) (x5 : Bool) (x6 : Int) (r : (List flow_Rule) × Bool × Bool) : St := ⟨.pv (.seq (List.length x1) (encP e_u32 0#32 x1)) :: .pv (.int .u32 (BitVec.toNat x2 : Nat)) :: .pv (.seq (List.length x3) (encP e_flow_Rule d_flow_Rule x3)) :: (List.replicate 4 dead ++ (.pv (.bool r.2.1) :: .pv (.bool r.2.2) :: dead :: .ms 0 [] 0 (List.length r.1) :: List.replicate 160 dead)), [.arr 0 6 (List.length r.1) (encW o_flow_Rule d_flow_Rule r.1)]⟩
theorem alibilaw21_FlowBest_l10_ok (x0 : List flow_Rule) (x1 : List (BitVec 32)) (x2 : BitVec 32) (x3 : List flow_Rule) (x4 : Bool) (x5 : Bool) (x6 : Int) (r : (List flow_Rule) × Bool × Bool) (h : alibilaw21_FlowBest_l10 x0 x1 x2 x3 x4 x5 x6 = some r) : Loops Try.prog alibilaw21_FlowBest_l10_c 0 (alibilaw21_FlowBest_l10_s x0 x1 x2 x3 x4 x5 x6) (.exit 2) (alibilaw21_FlowBest_l10_e x0 x1 x2 x3 x4 x5 x6 r) := by
 refine alibilaw21_FlowBest_l10.partial_correctness x1 x2 x3 (fun x0 x4 x5 x6 r => Loops Try.prog alibilaw21_FlowBest_l10_c 0 (alibilaw21_FlowBest_l10_s x0 x1 x2 x3 x4 x5 x6) (.exit 2) (alibilaw21_FlowBest_l10_e x0 x1 x2 x3 x4 x5 x6 r)) ?_ x0 x4 x5 x6 r h
 clear h r x0 x4 x5 x6
 intro self ih x0 x4 x5 x6 r h
 rcases if_of h with ⟨c18, h⟩ | ⟨c18, h⟩
 · obtain ⟨c19, h⟩ := need_of h
   obtain ⟨c20, h⟩ := need_of h
   obtain ⟨c21, h⟩ := need_of h
   rcases if_of h with ⟨c22, h⟩ | ⟨c22, h⟩
   · exact pmore mixed lives 7 (by kernel_rfl) (pk2 <| pb c18 <| pn c19 <| pn c20 <| pk <| pe (eff_lit o_flow_Rule d_flow_Rule 1 6 1 ([List.getD x3 (Int.toNat x6) d_flow_Rule]) rfl [] []) <| pb (whole_ok (List.length x0)) <| pn c21 <| pe (eff_app o_flow_Rule d_flow_Rule ([List.getD x3 (Int.toNat x6) d_flow_Rule]) x0 ([List.getD x3 (Int.toNat x6) d_flow_Rule] ++ x0) 1 6 (List.length ([List.getD x3 (Int.toNat x6) d_flow_Rule])) (List.length x0) (fun i => List.map AV.scal (encW o_flow_Rule d_flow_Rule x0 i)) (encW o_flow_Rule d_flow_Rule ([List.getD x3 (Int.toNat x6) d_flow_Rule]) (List.length ([List.getD x3 (Int.toNat x6) d_flow_Rule]))) [] [] [(1, false)] (by first | exact Nat.le_refl _ | exact Nat.zero_le _ | (simp only [decide_eq_true_eq, List.length_set, List.length_append, List.length_replicate, List.length_cons, List.length_nil, Nat.zero_add] at * <;> omega)) rfl (fun _ => by kernel_rfl) (congrArg o_flow_Rule (getD_ge d_flow_Rule (by first | exact Nat.le_refl _ | exact Nat.zero_le _ | (simp only [decide_eq_true_eq, List.length_set, List.length_append, List.length_replicate, List.length_cons, List.length_nil, Nat.zero_add] at * <;> omega)))) (by rw [List.take_of_length_le (by first | exact Nat.le_refl _ | exact Nat.zero_le _ | (simp only [decide_eq_true_eq, List.length_set, List.length_append, List.length_replicate, List.length_cons, List.length_nil, Nat.zero_add] at * <;> omega))])) <| pn c19 <| pn c20 <| pk2 <| pb c22 <| pk6 <| pz) (ih ([List.getD x3 (Int.toNat x6) d_flow_Rule] ++ x0) x4 x5 (iAdd x6 1) _ h)
   · rcases if_of h with ⟨c23, h⟩ | ⟨c23, h⟩
     · exact pmore mixed lives 7 (by kernel_rfl) (pk2 <| pb c18 <| pn c19 <| pn c20 <| pk <| pe (eff_lit o_flow_Rule d_flow_Rule 1 6 1 ([List.getD x3 (Int.toNat x6) d_flow_Rule]) rfl [] []) <| pb (whole_ok (List.length x0)) <| pn c21 <| pe (eff_app o_flow_Rule d_flow_Rule ([List.getD x3 (Int.toNat x6) d_flow_Rule]) x0 ([List.getD x3 (Int.toNat x6) d_flow_Rule] ++ x0) 1 6 (List.length ([List.getD x3 (Int.toNat x6) d_flow_Rule])) (List.length x0) (fun i => List.map AV.scal (encW o_flow_Rule d_flow_Rule x0 i)) (encW o_flow_Rule d_flow_Rule ([List.getD x3 (Int.toNat x6) d_flow_Rule]) (List.length ([List.getD x3 (Int.toNat x6) d_flow_Rule]))) [] [] [(1, false)] (by first | exact Nat.le_refl _ | exact Nat.zero_le _ | (simp only [decide_eq_true_eq, List.length_set, List.length_append, List.length_replicate, List.length_cons, List.length_nil, Nat.zero_add] at * <;> omega)) rfl (fun _ => by kernel_rfl) (congrArg o_flow_Rule (getD_ge d_flow_Rule (by first | exact Nat.le_refl _ | exact Nat.zero_le _ | (simp only [decide_eq_true_eq, List.length_set, List.length_append, List.length_replicate, List.length_cons, List.length_nil, Nat.zero_add] at * <;> omega)))) (by rw [List.take_of_length_le (by first | exact Nat.le_refl _ | exact Nat.zero_le _ | (simp only [decide_eq_true_eq, List.length_set, List.length_append, List.length_replicate, List.length_cons, List.length_nil, Nat.zero_add] at * <;> omega))])) <| pn c19 <| pn c20 <| pk2 <| pb c22 <| pk6 <| pb c23 <| pk <| pz) (ih ([List.getD x3 (Int.toNat x6) d_flow_Rule] ++ x0) x4 x5 (iAdd x6 1) _ h)
     · rcases if_of h with ⟨c24, h⟩ | ⟨c24, h⟩
       · obtain ⟨c25, h⟩ := need_of h
         obtain ⟨c26, h⟩ := need_of h
         obtain ⟨v27, h28, h⟩ := bind_of h
         rcases if_of h with ⟨c29, h⟩ | ⟨c29, h⟩
         · obtain ⟨v30, h31, h⟩ := bind_of h
           exact pmore mixed lives 7 (by kernel_rfl) (pk2 <| pb c18 <| pn c19 <| pn c20 <| pk <| pe (eff_lit o_flow_Rule d_flow_Rule 1 6 1 ([List.getD x3 (Int.toNat x6) d_flow_Rule]) rfl [] []) <| pb (whole_ok (List.length x0)) <| pn c21 <| pe (eff_app o_flow_Rule d_flow_Rule ([List.getD x3 (Int.toNat x6) d_flow_Rule]) x0 ([List.getD x3 (Int.toNat x6) d_flow_Rule] ++ x0) 1 6 (List.length ([List.getD x3 (Int.toNat x6) d_flow_Rule])) (List.length x0) (fun i => List.map AV.scal (encW o_flow_Rule d_flow_Rule x0 i)) (encW o_flow_Rule d_flow_Rule ([List.getD x3 (Int.toNat x6) d_flow_Rule]) (List.length ([List.getD x3 (Int.toNat x6) d_flow_Rule]))) [] [] [(1, false)] (by first | exact Nat.le_refl _ | exact Nat.zero_le _ | (simp only [decide_eq_true_eq, List.length_set, List.length_append, List.length_replicate, List.length_cons, List.length_nil, Nat.zero_add] at * <;> omega)) rfl (fun _ => by kernel_rfl) (congrArg o_flow_Rule (getD_ge d_flow_Rule (by first | exact Nat.le_refl _ | exact Nat.zero_le _ | (simp only [decide_eq_true_eq, List.length_set, List.length_append, List.length_replicate, List.length_cons, List.length_nil, Nat.zero_add] at * <;> omega)))) (by rw [List.take_of_length_le (by first | exact Nat.le_refl _ | exact Nat.zero_le _ | (simp only [decide_eq_true_eq, List.length_set, List.length_append, List.length_replicate, List.length_cons, List.length_nil, Nat.zero_add] at * <;> omega))])) <| pn c19 <| pn c20 <| pk2 <| pb c22 <| pk6 <| pb c23 <| pb c24 <| pk2 <| pn c25 <| pn c26 <| pk5 <| pn c19 <| pn c20 <| pk4 <| pc (flow_Rule_Value_ok _ _ _ h28) <| pk2 <| pe (eff_int (k := .u32) (un_andNot .u32 rfl (List.getD x1 (Int.toNat ((List.getD x3 (Int.toNat x6) d_flow_Rule).to_)) (0#32)) v27)) <| pk <| pe (eff_bool (un_eql ((List.getD x1 (Int.toNat ((List.getD x3 (Int.toNat x6) d_flow_Rule).to_)) (0#32)) &&& ~~~v27) (0#32))) <| pk <| pb c29 <| pk2 <| pn c19 <| pn c20 <| pk4 <| pc (flow_Rule_Value_ok _ _ _ h31) <| pk4 <| pn c25 <| pn c26 <| pk3 <| pe (eff_int (k := .u32) (un_andNot .u32 rfl v30 (List.getD x1 (Int.toNat ((List.getD x3 (Int.toNat x6) d_flow_Rule).to_)) (0#32)))) <| pk <| pe (eff_bool (un_eql (v30 &&& ~~~(List.getD x1 (Int.toNat ((List.getD x3 (Int.toNat x6) d_flow_Rule).to_)) (0#32))) (0#32))) <| pk2 <| pz) (ih ([List.getD x3 (Int.toNat x6) d_flow_Rule] ++ x0) (((List.getD x1 (Int.toNat ((List.getD x3 (Int.toNat x6) d_flow_Rule).to_)) (0#32)) &&& ~~~v27) == (0#32)) ((v30 &&& ~~~(List.getD x1 (Int.toNat ((List.getD x3 (Int.toNat x6) d_flow_Rule).to_)) (0#32))) == (0#32)) (iAdd x6 1) _ h)
         · exact pmore mixed lives 7 (by kernel_rfl) (pk2 <| pb c18 <| pn c19 <| pn c20 <| pk <| pe (eff_lit o_flow_Rule d_flow_Rule 1 6 1 ([List.getD x3 (Int.toNat x6) d_flow_Rule]) rfl [] []) <| pb (whole_ok (List.length x0)) <| pn c21 <| pe (eff_app o_flow_Rule d_flow_Rule ([List.getD x3 (Int.toNat x6) d_flow_Rule]) x0 ([List.getD x3 (Int.toNat x6) d_flow_Rule] ++ x0) 1 6 (List.length ([List.getD x3 (Int.toNat x6) d_flow_Rule])) (List.length x0) (fun i => List.map AV.scal (encW o_flow_Rule d_flow_Rule x0 i)) (encW o_flow_Rule d_flow_Rule ([List.getD x3 (Int.toNat x6) d_flow_Rule]) (List.length ([List.getD x3 (Int.toNat x6) d_flow_Rule]))) [] [] [(1, false)] (by first | exact Nat.le_refl _ | exact Nat.zero_le _ | (simp only [decide_eq_true_eq, List.length_set, List.length_append, List.length_replicate, List.length_cons, List.length_nil, Nat.zero_add] at * <;> omega)) rfl (fun _ => by kernel_rfl) (congrArg o_flow_Rule (getD_ge d_flow_Rule (by first | exact Nat.le_refl _ | exact Nat.zero_le _ | (simp only [decide_eq_true_eq, List.length_set, List.length_append, List.length_replicate, List.length_cons, List.length_nil, Nat.zero_add] at * <;> omega)))) (by rw [List.take_of_length_le (by first | exact Nat.le_refl _ | exact Nat.zero_le _ | (simp only [decide_eq_true_eq, List.length_set, List.length_append, List.length_replicate, List.length_cons, List.length_nil, Nat.zero_add] at * <;> omega))])) <| pn c19 <| pn c20 <| pk2 <| pb c22 <| pk6 <| pb c23 <| pb c24 <| pk2 <| pn c25 <| pn c26 <| pk5 <| pn c19 <| pn c20 <| pk4 <| pc (flow_Rule_Value_ok _ _ _ h28) <| pk2 <| pe (eff_int (k := .u32) (un_andNot .u32 rfl (List.getD x1 (Int.toNat ((List.getD x3 (Int.toNat x6) d_flow_Rule).to_)) (0#32)) v27)) <| pk <| pe (eff_bool (un_eql ((List.getD x1 (Int.toNat ((List.getD x3 (Int.toNat x6) d_flow_Rule).to_)) (0#32)) &&& ~~~v27) (0#32))) <| pk <| pb c29 <| pk8 <| pk5 <| pz) (ih ([List.getD x3 (Int.toNat x6) d_flow_Rule] ++ x0) (((List.getD x1 (Int.toNat ((List.getD x3 (Int.toNat x6) d_flow_Rule).to_)) (0#32)) &&& ~~~v27) == (0#32)) false (iAdd x6 1) _ h)
       · rcases if_of h with ⟨c32, h⟩ | ⟨c32, h⟩
         · obtain ⟨v33, h34, h⟩ := bind_of h
           obtain ⟨c35, h⟩ := need_of h
           obtain ⟨c36, h⟩ := need_of h
           exact pmore mixed lives 7 (by kernel_rfl) (pk2 <| pb c18 <| pn c19 <| pn c20 <| pk <| pe (eff_lit o_flow_Rule d_flow_Rule 1 6 1 ([List.getD x3 (Int.toNat x6) d_flow_Rule]) rfl [] []) <| pb (whole_ok (List.length x0)) <| pn c21 <| pe (eff_app o_flow_Rule d_flow_Rule ([List.getD x3 (Int.toNat x6) d_flow_Rule]) x0 ([List.getD x3 (Int.toNat x6) d_flow_Rule] ++ x0) 1 6 (List.length ([List.getD x3 (Int.toNat x6) d_flow_Rule])) (List.length x0) (fun i => List.map AV.scal (encW o_flow_Rule d_flow_Rule x0 i)) (encW o_flow_Rule d_flow_Rule ([List.getD x3 (Int.toNat x6) d_flow_Rule]) (List.length ([List.getD x3 (Int.toNat x6) d_flow_Rule]))) [] [] [(1, false)] (by first | exact Nat.le_refl _ | exact Nat.zero_le _ | (simp only [decide_eq_true_eq, List.length_set, List.length_append, List.length_replicate, List.length_cons, List.length_nil, Nat.zero_add] at * <;> omega)) rfl (fun _ => by kernel_rfl) (congrArg o_flow_Rule (getD_ge d_flow_Rule (by first | exact Nat.le_refl _ | exact Nat.zero_le _ | (simp only [decide_eq_true_eq, List.length_set, List.length_append, List.length_replicate, List.length_cons, List.length_nil, Nat.zero_add] at * <;> omega)))) (by rw [List.take_of_length_le (by first | exact Nat.le_refl _ | exact Nat.zero_le _ | (simp only [decide_eq_true_eq, List.length_set, List.length_append, List.length_replicate, List.length_cons, List.length_nil, Nat.zero_add] at * <;> omega))])) <| pn c19 <| pn c20 <| pk2 <| pb c22 <| pk6 <| pb c23 <| pb c24 <| pk8 <| pk4 <| pb c32 <| pk2 <| pn c19 <| pn c20 <| pk4 <| pc (flow_Rule_Value_ok _ _ _ h34) <| pk4 <| pn c35 <| pn c36 <| pk3 <| pe (eff_int (k := .u32) (un_andNot .u32 rfl v33 (List.getD x1 (Int.toNat ((List.getD x3 (Int.toNat x6) d_flow_Rule).to_)) (0#32)))) <| pk <| pe (eff_bool (un_eql (v33 &&& ~~~(List.getD x1 (Int.toNat ((List.getD x3 (Int.toNat x6) d_flow_Rule).to_)) (0#32))) (0#32))) <| pk2 <| pz) (ih ([List.getD x3 (Int.toNat x6) d_flow_Rule] ++ x0) false ((v33 &&& ~~~(List.getD x1 (Int.toNat ((List.getD x3 (Int.toNat x6) d_flow_Rule).to_)) (0#32))) == (0#32)) (iAdd x6 1) _ h)
         · exact pmore mixed lives 7 (by kernel_rfl) (pk2 <| pb c18 <| pn c19 <| pn c20 <| pk <| pe (eff_lit o_flow_Rule d_flow_Rule 1 6 1 ([List.getD x3 (Int.toNat x6) d_flow_Rule]) rfl [] []) <| pb (whole_ok (List.length x0)) <| pn c21 <| pe (eff_app o_flow_Rule d_flow_Rule ([List.getD x3 (Int.toNat x6) d_flow_Rule]) x0 ([List.getD x3 (Int.toNat x6) d_flow_Rule] ++ x0) 1 6 (List.length ([List.getD x3 (Int.toNat x6) d_flow_Rule])) (List.length x0) (fun i => List.map AV.scal (encW o_flow_Rule d_flow_Rule x0 i)) (encW o_flow_Rule d_flow_Rule ([List.getD x3 (Int.toNat x6) d_flow_Rule]) (List.length ([List.getD x3 (Int.toNat x6) d_flow_Rule]))) [] [] [(1, false)] (by first | exact Nat.le_refl _ | exact Nat.zero_le _ | (simp only [decide_eq_true_eq, List.length_set, List.length_append, List.length_replicate, List.length_cons, List.length_nil, Nat.zero_add] at * <;> omega)) rfl (fun _ => by kernel_rfl) (congrArg o_flow_Rule (getD_ge d_flow_Rule (by first | exact Nat.le_refl _ | exact Nat.zero_le _ | (simp only [decide_eq_true_eq, List.length_set, List.length_append, List.length_replicate, List.length_cons, List.length_nil, Nat.zero_add] at * <;> omega)))) (by rw [List.take_of_length_le (by first | exact Nat.le_refl _ | exact Nat.zero_le _ | (simp only [decide_eq_true_eq, List.length_set, List.length_append, List.length_replicate, List.length_cons, List.length_nil, Nat.zero_add] at * <;> omega))])) <| pn c19 <| pn c20 <| pk2 <| pb c22 <| pk6 <| pb c23 <| pb c24 <| pk8 <| pk4 <| pb c32 <| pk8 <| pk5 <| pz) (ih ([List.getD x3 (Int.toNat x6) d_flow_Rule] ++ x0) false false (iAdd x6 1) _ h)
 · have h := Option.some.inj h; subst h
   exact plast mixed lives 7 (by kernel_rfl) (pk2 <| pb c18 <| pz) rfl
noncomputable def alibilaw21_FlowBest_l19_c : Code := sub (codeOf Try.prog 7) [1, 1, 1, 1, 1, 1, 1, 0, 1, 0, 0]
inductive alibilaw21_FlowBest_l19_R where
  | x0 (v0 : Bool)
  | x1
def alibilaw21_FlowBest_l19_R.ex : alibilaw21_FlowBest_l19_R → Ex
  | .x0 _ => .ret
  | .x1 => .exit 4
noncomputable def alibilaw21_FlowBest_l19_R.st (x0 : List flow_Rule) (x1 : List (BitVec 32)) (x2 : List (BitVec 32)) (x3 : List (BitVec 32)) (x4 : BitVec 32) (x5 : Bool) (x6 : Bool) (x7 : Int) : alibilaw21_FlowBest_l19_R → St
  | .x0 v0 => ⟨.pv (.seq (List.length x3) (encP e_u32 0#32 x3)) :: .pv (.int .u32 (BitVec.toNat x4 : Nat)) :: (List.replicate 4 dead ++ (.pv (.bool v0) :: dead :: dead :: dead :: .ms 0 [] 0 (List.length x0) :: dead :: dead :: .ms 1 [] 0 (List.length x1) :: .ms 2 [] 0 (List.length x2) :: List.replicate 156 dead)), [.arr 0 6 (List.length x0) (encW o_flow_Rule d_flow_Rule x0), .arr 0 1 (List.length x1) (encW o_u32 0#32 x1), .arr 0 1 (List.length x2) (encW o_u32 0#32 x2)]⟩
  | .x1 => ⟨.pv (.seq (List.length x3) (encP e_u32 0#32 x3)) :: .pv (.int .u32 (BitVec.toNat x4 : Nat)) :: (List.replicate 8 dead ++ (.ms 0 [] 0 (List.length x0) :: dead :: dead :: .ms 1 [] 0 (List.length x1) :: .ms 2 [] 0 (List.length x2) :: List.replicate 156 dead)), [.arr 0 6 (List.length x0) (encW o_flow_Rule d_flow_Rule x0), .arr 0 1 (List.length x1) (encW o_u32 0#32 x1), .arr 0 1 (List.length x2) (encW o_u32 0#32 x2)]⟩
def alibilaw21_FlowBest_l19 (x0 : List flow_Rule) (x1 : List (BitVec 32)) (x2 : List (BitVec 32)) (x3 : List (BitVec 32)) (x4 : BitVec 32) (x5 : Bool) (x6 : Bool) (x7 : Int) : Option (alibilaw21_FlowBest_l19_R) :=
  if (decide ((x7 : Int) < (((List.length x3 : Nat) : Int)))) = true then
    if (decide ((x7 : Int) ≥ ((((List.length x1) : Nat) : Int)))) = true then
      some (.x0 false)
    else
      if (decide ((x7 : Int) ≥ ((((List.length x2) : Nat) : Int)))) = true then
        some (.x0 false)
      else
        if x5 = true then
          if (decide ((0 : Int) ≤ x7)) = true then
            if (decide ((x7 : Int) < ((List.length x3 : Nat) : Int))) = true then
              if (decide ((x7 : Int) < (((List.length x1) : Nat) : Int))) = true then
                if (((List.getD x3 (Int.toNat x7) (0#32)) &&& ~~~(List.getD x1 (Int.toNat x7) (0#32))) != (0#32)) = true then
                  some (.x0 false)
                else
                  if x6 = true then
                    if (decide ((x7 : Int) < (((List.length x2) : Nat) : Int))) = true then
                      if (((List.getD x2 (Int.toNat x7) (0#32)) &&& ~~~(List.getD x3 (Int.toNat x7) (0#32))) != (0#32)) = true then
                        some (.x0 false)
                      else
                        alibilaw21_FlowBest_l19 x0 x1 x2 x3 x4 x5 x6 (iAdd x7 1)
                    else none
                  else
                    alibilaw21_FlowBest_l19 x0 x1 x2 x3 x4 x5 x6 (iAdd x7 1)
              else none
            else none
          else none
        else
          if x6 = true then
            if (decide ((0 : Int) ≤ x7)) = true then
              if (decide ((x7 : Int) < (((List.length x2) : Nat) : Int))) = true then
                if (decide ((x7 : Int) < ((List.length x3 : Nat) : Int))) = true then
                  if (((List.getD x2 (Int.toNat x7) (0#32)) &&& ~~~(List.getD x3 (Int.toNat x7) (0#32))) != (0#32)) = true then
                    some (.x0 false)
                  else
                    alibilaw21_FlowBest_l19 x0 x1 x2 x3 x4 x5 x6 (iAdd x7 1)
                else none
              else none
            else none
          else
            alibilaw21_FlowBest_l19 x0 x1 x2 x3 x4 x5 x6 (iAdd x7 1)
  else
    some (.x1)
partial_fixpoint
noncomputable abbrev alibilaw21_FlowBest_l19_s (x0 : List flow_Rule) (x1 : List (BitVec 32)) (x2 : List (BitVec 32)) (x3 : List (BitVec 32)) (x4 : BitVec 32) (x5 : Bool) (x6 : Bool) (x7 : Int) : St := ⟨.pv (.seq (List.length x3) (encP e_u32 0#32 x3)) :: .pv (.int .u32 (BitVec.toNat x4 : Nat)) :: (List.replicate 5 dead ++ (.pv (.bool x5) :: .pv (.bool x6) :: dead :: .ms 0 [] 0 (List.length x0) :: dead :: dead :: .ms 1 [] 0 (List.length x1) :: .ms 2 [] 0 (List.length x2) :: .pv (.int .i64 x7) :: List.replicate 155 dead)), [.arr 0 6 (List.length x0) (encW o_flow_Rule d_flow_Rule x0), .arr 0 1 (List.length x1) (encW o_u32 0#32 x1), .arr 0 1 (List.length x2) (encW o_u32 0#32 x2)]⟩
theorem alibilaw21_FlowBest_l19_ok (x0 : List flow_Rule) (x1 : List (BitVec 32)) (x2 : List (BitVec 32)) (x3 : List (BitVec 32)) (x4 : BitVec 32) (x5 : Bool) (x6 : Bool) (x7 : Int) (r : alibilaw21_FlowBest_l19_R) (h : alibilaw21_FlowBest_l19 x0 x1 x2 x3 x4 x5 x6 x7 = some r) : Loops Try.prog alibilaw21_FlowBest_l19_c 0 (alibilaw21_FlowBest_l19_s x0 x1 x2 x3 x4 x5 x6 x7) r.ex (alibilaw21_FlowBest_l19_R.st x0 x1 x2 x3 x4 x5 x6 x7 r) := by
 refine alibilaw21_FlowBest_l19.partial_correctness x0 x1 x2 x3 x4 x5 x6 (fun x7 r => Loops Try.prog alibilaw21_FlowBest_l19_c 0 (alibilaw21_FlowBest_l19_s x0 x1 x2 x3 x4 x5 x6 x7) r.ex (alibilaw21_FlowBest_l19_R.st x0 x1 x2 x3 x4 x5 x6 x7 r)) ?_ x7 r h
 clear h r x7
 intro self ih x7 r h
 rcases if_of h with ⟨c43, h⟩ | ⟨c43, h⟩
 · rcases if_of h with ⟨c44, h⟩ | ⟨c44, h⟩
   · have h := Option.some.inj h; subst h
     exact plast mixed lives 7 (by kernel_rfl) (pk2 <| pb c43 <| pk2 <| pb c44 <| pk8 <| pk5 <| pz) rfl
   · rcases if_of h with ⟨c45, h⟩ | ⟨c45, h⟩
     · have h := Option.some.inj h; subst h
       exact plast mixed lives 7 (by kernel_rfl) (pk2 <| pb c43 <| pk2 <| pb c44 <| pk6 <| pb c45 <| pk8 <| pz) rfl
     · rcases if_of h with ⟨c46, h⟩ | ⟨c46, h⟩
       · obtain ⟨c47, h⟩ := need_of h
         obtain ⟨c48, h⟩ := need_of h
         obtain ⟨c49, h⟩ := need_of h
         rcases if_of h with ⟨c50, h⟩ | ⟨c50, h⟩
         · have h := Option.some.inj h; subst h
           exact plast mixed lives 7 (by kernel_rfl) (pk2 <| pb c43 <| pk2 <| pb c44 <| pk6 <| pb c45 <| pk <| pb c46 <| pk2 <| pn c47 <| pn c48 <| pk5 <| pn c47 <| pn c49 <| pk3 <| pe (eff_int (k := .u32) (un_andNot .u32 rfl (List.getD x3 (Int.toNat x7) (0#32)) (List.getD x1 (Int.toNat x7) (0#32)))) <| pk <| pe (eff_bool (un_neq ((List.getD x3 (Int.toNat x7) (0#32)) &&& ~~~(List.getD x1 (Int.toNat x7) (0#32))) (0#32))) <| pk3 <| pb c50 <| pk4 <| pz) rfl
         · rcases if_of h with ⟨c51, h⟩ | ⟨c51, h⟩
           · obtain ⟨c52, h⟩ := need_of h
             rcases if_of h with ⟨c53, h⟩ | ⟨c53, h⟩
             · have h := Option.some.inj h; subst h
               exact plast mixed lives 7 (by kernel_rfl) (pk2 <| pb c43 <| pk2 <| pb c44 <| pk6 <| pb c45 <| pk <| pb c46 <| pk2 <| pn c47 <| pn c48 <| pk5 <| pn c47 <| pn c49 <| pk3 <| pe (eff_int (k := .u32) (un_andNot .u32 rfl (List.getD x3 (Int.toNat x7) (0#32)) (List.getD x1 (Int.toNat x7) (0#32)))) <| pk <| pe (eff_bool (un_neq ((List.getD x3 (Int.toNat x7) (0#32)) &&& ~~~(List.getD x1 (Int.toNat x7) (0#32))) (0#32))) <| pk3 <| pb c50 <| pk <| pb c51 <| pk2 <| pn c47 <| pn c52 <| pk5 <| pn c47 <| pn c48 <| pk3 <| pe (eff_int (k := .u32) (un_andNot .u32 rfl (List.getD x2 (Int.toNat x7) (0#32)) (List.getD x3 (Int.toNat x7) (0#32)))) <| pk <| pe (eff_bool (un_neq ((List.getD x2 (Int.toNat x7) (0#32)) &&& ~~~(List.getD x3 (Int.toNat x7) (0#32))) (0#32))) <| pk3 <| pb c53 <| pz) rfl
             · exact pmore mixed lives 7 (by kernel_rfl) (pk2 <| pb c43 <| pk2 <| pb c44 <| pk6 <| pb c45 <| pk <| pb c46 <| pk2 <| pn c47 <| pn c48 <| pk5 <| pn c47 <| pn c49 <| pk3 <| pe (eff_int (k := .u32) (un_andNot .u32 rfl (List.getD x3 (Int.toNat x7) (0#32)) (List.getD x1 (Int.toNat x7) (0#32)))) <| pk <| pe (eff_bool (un_neq ((List.getD x3 (Int.toNat x7) (0#32)) &&& ~~~(List.getD x1 (Int.toNat x7) (0#32))) (0#32))) <| pk3 <| pb c50 <| pk <| pb c51 <| pk2 <| pn c47 <| pn c52 <| pk5 <| pn c47 <| pn c48 <| pk3 <| pe (eff_int (k := .u32) (un_andNot .u32 rfl (List.getD x2 (Int.toNat x7) (0#32)) (List.getD x3 (Int.toNat x7) (0#32)))) <| pk <| pe (eff_bool (un_neq ((List.getD x2 (Int.toNat x7) (0#32)) &&& ~~~(List.getD x3 (Int.toNat x7) (0#32))) (0#32))) <| pk3 <| pb c53 <| pk <| pz) (ih (iAdd x7 1) _ h)
           · exact pmore mixed lives 7 (by kernel_rfl) (pk2 <| pb c43 <| pk2 <| pb c44 <| pk6 <| pb c45 <| pk <| pb c46 <| pk2 <| pn c47 <| pn c48 <| pk5 <| pn c47 <| pn c49 <| pk3 <| pe (eff_int (k := .u32) (un_andNot .u32 rfl (List.getD x3 (Int.toNat x7) (0#32)) (List.getD x1 (Int.toNat x7) (0#32)))) <| pk <| pe (eff_bool (un_neq ((List.getD x3 (Int.toNat x7) (0#32)) &&& ~~~(List.getD x1 (Int.toNat x7) (0#32))) (0#32))) <| pk3 <| pb c50 <| pk <| pb c51 <| pk8 <| pk6 <| pz) (ih (iAdd x7 1) _ h)
       · rcases if_of h with ⟨c54, h⟩ | ⟨c54, h⟩
         · obtain ⟨c55, h⟩ := need_of h
           obtain ⟨c56, h⟩ := need_of h
           obtain ⟨c57, h⟩ := need_of h
           rcases if_of h with ⟨c58, h⟩ | ⟨c58, h⟩
           · have h := Option.some.inj h; subst h
             exact plast mixed lives 7 (by kernel_rfl) (pk2 <| pb c43 <| pk2 <| pb c44 <| pk6 <| pb c45 <| pk <| pb c46 <| pk8 <| pk6 <| pb c54 <| pk2 <| pn c55 <| pn c56 <| pk5 <| pn c55 <| pn c57 <| pk3 <| pe (eff_int (k := .u32) (un_andNot .u32 rfl (List.getD x2 (Int.toNat x7) (0#32)) (List.getD x3 (Int.toNat x7) (0#32)))) <| pk <| pe (eff_bool (un_neq ((List.getD x2 (Int.toNat x7) (0#32)) &&& ~~~(List.getD x3 (Int.toNat x7) (0#32))) (0#32))) <| pk3 <| pb c58 <| pz) rfl
           · exact pmore mixed lives 7 (by kernel_rfl) (pk2 <| pb c43 <| pk2 <| pb c44 <| pk6 <| pb c45 <| pk <| pb c46 <| pk8 <| pk6 <| pb c54 <| pk2 <| pn c55 <| pn c56 <| pk5 <| pn c55 <| pn c57 <| pk3 <| pe (eff_int (k := .u32) (un_andNot .u32 rfl (List.getD x2 (Int.toNat x7) (0#32)) (List.getD x3 (Int.toNat x7) (0#32)))) <| pk <| pe (eff_bool (un_neq ((List.getD x2 (Int.toNat x7) (0#32)) &&& ~~~(List.getD x3 (Int.toNat x7) (0#32))) (0#32))) <| pk3 <| pb c58 <| pk <| pz) (ih (iAdd x7 1) _ h)
         · exact pmore mixed lives 7 (by kernel_rfl) (pk2 <| pb c43 <| pk2 <| pb c44 <| pk6 <| pb c45 <| pk <| pb c46 <| pk8 <| pk6 <| pb c54 <| pk8 <| pk6 <| pz) (ih (iAdd x7 1) _ h)
 · have h := Option.some.inj h; subst h
   exact plast mixed lives 7 (by kernel_rfl) (pk2 <| pb c43 <| pz) rfl
/-- alibi/alibilaw21.FlowBest -/
def alibilaw21_FlowBest (v : List (BitVec 32)) (top : BitVec 32) (l : List flow_Rule) : Option (Bool) :=
  bind (alibilaw21_awake) fun v1 =>
  if (!v1) = true then
    bind (alibilaw21_awake) fun v4 =>
    some v4
  else
    if (decide (((((List.length v : Nat) : Int)) : Int) > 60)) = true then
      bind (alibilaw21_awake) fun v7 =>
      some v7
    else
      if (decide (((((List.length l : Nat) : Int)) : Int) > 60)) = true then
        bind (alibilaw21_awake) fun v10 =>
        some v10
      else
        bind (alibilaw21_FlowBest_l5 v top l true true 0) fun v16 =>
        bind (alibilaw21_FlowBest_l10 (([] : List flow_Rule)) v top l v16 true 0) fun v37 =>
        bind (flow_Greatest (((List.length v : Nat) : Int)) top l) fun v39 =>
        bind (flow_Least (((List.length v : Nat) : Int)) l) fun v41 =>
        bind (alibilaw21_FlowBest_l19 v37.1 v39 v41 v top v37.2.1 v37.2.2 0) fun q => match q with
          | .x0 v59 =>
            some v59
          | .x1 =>
            bind (flow_Greatest (((List.length v : Nat) : Int)) top v37.1) fun v62 =>
            bind (alibilaw21_same v39 v62) fun v64 =>
            if v64 = true then
              bind (flow_Least (((List.length v : Nat) : Int)) v37.1) fun v67 =>
              bind (alibilaw21_same v41 v67) fun v69 =>
              some v69
            else
              some false
theorem alibilaw21_FlowBest_ok (v : List (BitVec 32)) (top : BitVec 32) (l : List flow_Rule) (r : Bool) (h : alibilaw21_FlowBest v top l = some r) : Does Try.prog 7 [.pv (.seq (List.length v) (encP e_u32 0#32 v)), .pv (.int .u32 (BitVec.toNat top : Nat)), .pv (.seq (List.length l) (encP e_flow_Rule d_flow_Rule l))] [] (.pv (.bool r), []) := by
 unfold alibilaw21_FlowBest at h
 obtain ⟨v1, h2, h⟩ := bind_of h
 rcases if_of h with ⟨c3, h⟩ | ⟨c3, h⟩
 · obtain ⟨v4, h5, h⟩ := bind_of h
   have h := Option.some.inj h; subst h
   exact pdoes mixed (L := lives) (by kernel_rfl) (pc (alibilaw21_awake_ok _ h2) <| pk2 <| pb c3 <| pk8 <| pc (alibilaw21_awake_ok _ h5) <| pk <| pz)
 · rcases if_of h with ⟨c6, h⟩ | ⟨c6, h⟩
   · obtain ⟨v7, h8, h⟩ := bind_of h
     have h := Option.some.inj h; subst h
     exact pdoes mixed (L := lives) (by kernel_rfl) (pc (alibilaw21_awake_ok _ h2) <| pk2 <| pb c3 <| pk5 <| pb c6 <| pk4 <| pc (alibilaw21_awake_ok _ h8) <| pk <| pz)
   · rcases if_of h with ⟨c9, h⟩ | ⟨c9, h⟩
     · obtain ⟨v10, h11, h⟩ := bind_of h
       have h := Option.some.inj h; subst h
       exact pdoes mixed (L := lives) (by kernel_rfl) (pc (alibilaw21_awake_ok _ h2) <| pk2 <| pb c3 <| pk5 <| pb c6 <| pk5 <| pb c9 <| pc (alibilaw21_awake_ok _ h11) <| pk <| pz)
     · obtain ⟨v16, h17, h⟩ := bind_of h
       obtain ⟨v37, h38, h⟩ := bind_of h
       obtain ⟨v39, h40, h⟩ := bind_of h
       obtain ⟨v41, h42, h⟩ := bind_of h
       obtain ⟨q, hq, h⟩ := bind_of h
       cases q with
       | x0 v59 =>
        have h60 := hq; clear hq
        try dsimp only at h
        have h := Option.some.inj h; subst h
        exact pdoes mixed (L := lives) (by kernel_rfl) (pc (alibilaw21_awake_ok _ h2) <| pk2 <| pb c3 <| pk5 <| pb c6 <| pk5 <| pb c9 <| pl (alibilaw21_FlowBest_l5_ok _ _ _ _ _ _ _ h17) <| pl (Loops.of (s1 := ⟨.pv (.seq (List.length v) (encP e_u32 0#32 v)) :: .pv (.int .u32 (BitVec.toNat top : Nat)) :: .pv (.seq (List.length l) (encP e_flow_Rule d_flow_Rule l)) :: (List.replicate 4 dead ++ (.pv (.bool v16) :: .pv (.bool true) :: dead :: .ms 0 [] 0 (List.length ([] : List flow_Rule)) :: .pv (.int .i64 0) :: List.replicate 159 dead)), [.arr 0 6 (List.length ([] : List flow_Rule)) (encW o_flow_Rule d_flow_Rule (([] : List flow_Rule)))]⟩) (alibilaw21_FlowBest_l10_ok _ _ _ _ _ _ _ _ h38) (by (first | rfl | (simp only [alibilaw21_FlowBest_l10_s, List.length_set]; done)))) <| pk <| pc (flow_Greatest_ok _ _ _ _ h40) <| pk2 <| pc (flow_Least_ok _ _ _ h42) <| pk <| pl (alibilaw21_FlowBest_l19_ok _ _ _ _ _ _ _ _ _ h60) <| pz)
       | x1 =>
        have h61 := hq; clear hq
        try dsimp only at h
        obtain ⟨v62, h63, h⟩ := bind_of h
        obtain ⟨v64, h65, h⟩ := bind_of h
        rcases if_of h with ⟨c66, h⟩ | ⟨c66, h⟩
        · obtain ⟨v67, h68, h⟩ := bind_of h
          obtain ⟨v69, h70, h⟩ := bind_of h
          have h := Option.some.inj h; subst h
          exact pdoes mixed (L := lives) (by kernel_rfl) (pc (alibilaw21_awake_ok _ h2) <| pk2 <| pb c3 <| pk5 <| pb c6 <| pk5 <| pb c9 <| pl (alibilaw21_FlowBest_l5_ok _ _ _ _ _ _ _ h17) <| pl (Loops.of (s1 := ⟨.pv (.seq (List.length v) (encP e_u32 0#32 v)) :: .pv (.int .u32 (BitVec.toNat top : Nat)) :: .pv (.seq (List.length l) (encP e_flow_Rule d_flow_Rule l)) :: (List.replicate 4 dead ++ (.pv (.bool v16) :: .pv (.bool true) :: dead :: .ms 0 [] 0 (List.length ([] : List flow_Rule)) :: .pv (.int .i64 0) :: List.replicate 159 dead)), [.arr 0 6 (List.length ([] : List flow_Rule)) (encW o_flow_Rule d_flow_Rule (([] : List flow_Rule)))]⟩) (alibilaw21_FlowBest_l10_ok _ _ _ _ _ _ _ _ h38) (by (first | rfl | (simp only [alibilaw21_FlowBest_l10_s, List.length_set]; done)))) <| pk <| pc (flow_Greatest_ok _ _ _ _ h40) <| pk2 <| pc (flow_Least_ok _ _ _ h42) <| pk <| pl (alibilaw21_FlowBest_l19_ok _ _ _ _ _ _ _ _ _ h61) <| pk <| pb (whole_ok (List.length v37.1)) <| pc (flow_Greatest_ok _ _ _ _ h63) <| pk <| pb (whole_ok (List.length v39)) <| pb (whole_ok (List.length v62)) <| pc (Does.of (args' := [.pv (.seq (List.length v39) (encP e_u32 (0#32) v39)), .pv (.seq (List.length v62) (encP e_u32 (0#32) v62))]) (H' := []) (alibilaw21_same_ok _ _ _ h65) (by (first | rfl | (simp only [List.length_set]; done)))) <| pk <| pb c66 <| pk5 <| pb (whole_ok (List.length v37.1)) <| pc (flow_Least_ok _ _ _ h68) <| pk2 <| pb (whole_ok (List.length v41)) <| pb (whole_ok (List.length v67)) <| pc (Does.of (args' := [.pv (.seq (List.length v41) (encP e_u32 (0#32) v41)), .pv (.seq (List.length v67) (encP e_u32 (0#32) v67))]) (H' := []) (alibilaw21_same_ok _ _ _ h70) (by (first | rfl | (simp only [List.length_set]; done)))) <| pk2 <| pz)
        · have h := Option.some.inj h; subst h
          exact pdoes mixed (L := lives) (by kernel_rfl) (pc (alibilaw21_awake_ok _ h2) <| pk2 <| pb c3 <| pk5 <| pb c6 <| pk5 <| pb c9 <| pl (alibilaw21_FlowBest_l5_ok _ _ _ _ _ _ _ h17) <| pl (Loops.of (s1 := ⟨.pv (.seq (List.length v) (encP e_u32 0#32 v)) :: .pv (.int .u32 (BitVec.toNat top : Nat)) :: .pv (.seq (List.length l) (encP e_flow_Rule d_flow_Rule l)) :: (List.replicate 4 dead ++ (.pv (.bool v16) :: .pv (.bool true) :: dead :: .ms 0 [] 0 (List.length ([] : List flow_Rule)) :: .pv (.int .i64 0) :: List.replicate 159 dead)), [.arr 0 6 (List.length ([] : List flow_Rule)) (encW o_flow_Rule d_flow_Rule (([] : List flow_Rule)))]⟩) (alibilaw21_FlowBest_l10_ok _ _ _ _ _ _ _ _ h38) (by (first | rfl | (simp only [alibilaw21_FlowBest_l10_s, List.length_set]; done)))) <| pk <| pc (flow_Greatest_ok _ _ _ _ h40) <| pk2 <| pc (flow_Least_ok _ _ _ h42) <| pk <| pl (alibilaw21_FlowBest_l19_ok _ _ _ _ _ _ _ _ _ h61) <| pk <| pb (whole_ok (List.length v37.1)) <| pc (flow_Greatest_ok _ _ _ _ h63) <| pk <| pb (whole_ok (List.length v39)) <| pb (whole_ok (List.length v62)) <| pc (Does.of (args' := [.pv (.seq (List.length v39) (encP e_u32 (0#32) v39)), .pv (.seq (List.length v62) (encP e_u32 (0#32) v62))]) (H' := []) (alibilaw21_same_ok _ _ _ h65) (by (first | rfl | (simp only [List.length_set]; done)))) <| pk <| pb c66 <| pk6 <| pz)
noncomputable def alibilaw21_FlowMore_l8_c : Code := sub (codeOf Try.prog 8) [1, 1, 1, 1, 1, 1, 0, 1, 0, 0]
inductive alibilaw21_FlowMore_l8_R where
  | x0 (v0 : Bool)
  | x1
def alibilaw21_FlowMore_l8_R.ex : alibilaw21_FlowMore_l8_R → Ex
  | .x0 _ => .ret
  | .x1 => .exit 0
noncomputable def alibilaw21_FlowMore_l8_R.st (x0 : List (BitVec 32)) (x1 : List (BitVec 32)) (x2 : List (BitVec 32)) (x3 : List (BitVec 32)) (x4 : BitVec 32) (x5 : List flow_Rule) (x6 : Int) (x7 : Int) : alibilaw21_FlowMore_l8_R → St
  | .x0 v0 => ⟨dead :: .pv (.int .u32 (BitVec.toNat x4 : Nat)) :: .pv (.seq (List.length x5) (encP e_flow_Rule d_flow_Rule x5)) :: (List.replicate 5 dead ++ (.pv (.bool v0) :: .pv (.int .i64 x6) :: dead :: .ms 0 [] 0 (List.length x0) :: .ms 1 [] 0 (List.length x1) :: List.replicate 108 dead)), [.arr 0 1 (List.length x0) (encW o_u32 0#32 x0), .arr 0 1 (List.length x1) (encW o_u32 0#32 x1)]⟩
  | .x1 => ⟨dead :: .pv (.int .u32 (BitVec.toNat x4 : Nat)) :: .pv (.seq (List.length x5) (encP e_flow_Rule d_flow_Rule x5)) :: (List.replicate 6 dead ++ (.pv (.int .i64 x6) :: dead :: .ms 0 [] 0 (List.length x0) :: .ms 1 [] 0 (List.length x1) :: List.replicate 108 dead)), [.arr 0 1 (List.length x0) (encW o_u32 0#32 x0), .arr 0 1 (List.length x1) (encW o_u32 0#32 x1)]⟩
def alibilaw21_FlowMore_l8 (x0 : List (BitVec 32)) (x1 : List (BitVec 32)) (x2 : List (BitVec 32)) (x3 : List (BitVec 32)) (x4 : BitVec 32) (x5 : List flow_Rule) (x6 : Int) (x7 : Int) : Option (alibilaw21_FlowMore_l8_R) :=
  if (decide ((x7 : Int) < x6)) = true then
    if (decide ((x7 : Int) ≥ ((((List.length x0) : Nat) : Int)))) = true then
      some (.x0 false)
    else
      if (decide ((x7 : Int) ≥ ((((List.length x1) : Nat) : Int)))) = true then
        some (.x0 false)
      else
        if (decide ((x7 : Int) ≥ ((((List.length x2) : Nat) : Int)))) = true then
          some (.x0 false)
        else
          if (decide ((x7 : Int) ≥ ((((List.length x3) : Nat) : Int)))) = true then
            some (.x0 false)
          else
            if (decide ((0 : Int) ≤ x7)) = true then
              if (decide ((x7 : Int) < (((List.length x2) : Nat) : Int))) = true then
                if (decide ((x7 : Int) < (((List.length x0) : Nat) : Int))) = true then
                  if (((List.getD x2 (Int.toNat x7) (0#32)) &&& ~~~(List.getD x0 (Int.toNat x7) (0#32))) != (0#32)) = true then
                    some (.x0 false)
                  else
                    if (decide ((x7 : Int) < (((List.length x1) : Nat) : Int))) = true then
                      if (decide ((x7 : Int) < (((List.length x3) : Nat) : Int))) = true then
                        if (((List.getD x1 (Int.toNat x7) (0#32)) &&& ~~~(List.getD x3 (Int.toNat x7) (0#32))) != (0#32)) = true then
                          some (.x0 false)
                        else
                          alibilaw21_FlowMore_l8 x0 x1 x2 x3 x4 x5 x6 (iAdd x7 1)
                      else none
                    else none
                else none
              else none
            else none
  else
    some (.x1)
partial_fixpoint
noncomputable abbrev alibilaw21_FlowMore_l8_s (x0 : List (BitVec 32)) (x1 : List (BitVec 32)) (x2 : List (BitVec 32)) (x3 : List (BitVec 32)) (x4 : BitVec 32) (x5 : List flow_Rule) (x6 : Int) (x7 : Int) : St := ⟨dead :: .pv (.int .u32 (BitVec.toNat x4 : Nat)) :: .pv (.seq (List.length x5) (encP e_flow_Rule d_flow_Rule x5)) :: (List.replicate 6 dead ++ (.pv (.int .i64 x6) :: dead :: .ms 0 [] 0 (List.length x0) :: .ms 1 [] 0 (List.length x1) :: .ms 2 [] 0 (List.length x2) :: .ms 3 [] 0 (List.length x3) :: .pv (.int .i64 x7) :: List.replicate 105 dead)), [.arr 0 1 (List.length x0) (encW o_u32 0#32 x0), .arr 0 1 (List.length x1) (encW o_u32 0#32 x1), .arr 0 1 (List.length x2) (encW o_u32 0#32 x2), .arr 0 1 (List.length x3) (encW o_u32 0#32 x3)]⟩
theorem alibilaw21_FlowMore_l8_ok (x0 : List (BitVec 32)) (x1 : List (BitVec 32)) (x2 : List (BitVec 32)) (x3 : List (BitVec 32)) (x4 : BitVec 32) (x5 : List flow_Rule) (x6 : Int) (x7 : Int) (r : alibilaw21_FlowMore_l8_R) (h : alibilaw21_FlowMore_l8 x0 x1 x2 x3 x4 x5 x6 x7 = some r) : Loops Try.prog alibilaw21_FlowMore_l8_c 0 (alibilaw21_FlowMore_l8_s x0 x1 x2 x3 x4 x5 x6 x7) r.ex (alibilaw21_FlowMore_l8_R.st x0 x1 x2 x3 x4 x5 x6 x7 r) := by
 refine alibilaw21_FlowMore_l8.partial_correctness x0 x1 x2 x3 x4 x5 x6 (fun x7 r => Loops Try.prog alibilaw21_FlowMore_l8_c 0 (alibilaw21_FlowMore_l8_s x0 x1 x2 x3 x4 x5 x6 x7) r.ex (alibilaw21_FlowMore_l8_R.st x0 x1 x2 x3 x4 x5 x6 x7 r)) ?_ x7 r h
 clear h r x7
 intro self ih x7 r h
 rcases if_of h with ⟨c22, h⟩ | ⟨c22, h⟩
 · rcases if_of h with ⟨c23, h⟩ | ⟨c23, h⟩
   · have h := Option.some.inj h; subst h
     exact plast mixed lives 8 (by kernel_rfl) (pk <| pb c22 <| pk2 <| pb c23 <| pk8 <| pk8 <| pk8 <| pk8 <| pk5 <| pz) rfl
   · rcases if_of h with ⟨c24, h⟩ | ⟨c24, h⟩
     · have h := Option.some.inj h; subst h
       exact plast mixed lives 8 (by kernel_rfl) (pk <| pb c22 <| pk2 <| pb c23 <| pk6 <| pb c24 <| pk8 <| pk8 <| pk8 <| pk8 <| pz) rfl
     · rcases if_of h with ⟨c25, h⟩ | ⟨c25, h⟩
       · have h := Option.some.inj h; subst h
         exact plast mixed lives 8 (by kernel_rfl) (pk <| pb c22 <| pk2 <| pb c23 <| pk6 <| pb c24 <| pk6 <| pb c25 <| pk8 <| pk8 <| pk8 <| pk3 <| pz) rfl
       · rcases if_of h with ⟨c26, h⟩ | ⟨c26, h⟩
         · have h := Option.some.inj h; subst h
           exact plast mixed lives 8 (by kernel_rfl) (pk <| pb c22 <| pk2 <| pb c23 <| pk6 <| pb c24 <| pk6 <| pb c25 <| pk6 <| pb c26 <| pk8 <| pk8 <| pk6 <| pz) rfl
         · obtain ⟨c27, h⟩ := need_of h
           obtain ⟨c28, h⟩ := need_of h
           obtain ⟨c29, h⟩ := need_of h
           rcases if_of h with ⟨c30, h⟩ | ⟨c30, h⟩
           · have h := Option.some.inj h; subst h
             exact plast mixed lives 8 (by kernel_rfl) (pk <| pb c22 <| pk2 <| pb c23 <| pk6 <| pb c24 <| pk6 <| pb c25 <| pk6 <| pb c26 <| pk2 <| pn c27 <| pn c28 <| pk5 <| pn c27 <| pn c29 <| pk3 <| pe (eff_int (k := .u32) (un_andNot .u32 rfl (List.getD x2 (Int.toNat x7) (0#32)) (List.getD x0 (Int.toNat x7) (0#32)))) <| pk <| pe (eff_bool (un_neq ((List.getD x2 (Int.toNat x7) (0#32)) &&& ~~~(List.getD x0 (Int.toNat x7) (0#32))) (0#32))) <| pk <| pb c30 <| pk8 <| pk3 <| pz) rfl
           · obtain ⟨c31, h⟩ := need_of h
             obtain ⟨c32, h⟩ := need_of h
             rcases if_of h with ⟨c33, h⟩ | ⟨c33, h⟩
             · have h := Option.some.inj h; subst h
               exact plast mixed lives 8 (by kernel_rfl) (pk <| pb c22 <| pk2 <| pb c23 <| pk6 <| pb c24 <| pk6 <| pb c25 <| pk6 <| pb c26 <| pk2 <| pn c27 <| pn c28 <| pk5 <| pn c27 <| pn c29 <| pk3 <| pe (eff_int (k := .u32) (un_andNot .u32 rfl (List.getD x2 (Int.toNat x7) (0#32)) (List.getD x0 (Int.toNat x7) (0#32)))) <| pk <| pe (eff_bool (un_neq ((List.getD x2 (Int.toNat x7) (0#32)) &&& ~~~(List.getD x0 (Int.toNat x7) (0#32))) (0#32))) <| pk <| pb c30 <| pk2 <| pn c27 <| pn c31 <| pk5 <| pn c27 <| pn c32 <| pk3 <| pe (eff_int (k := .u32) (un_andNot .u32 rfl (List.getD x1 (Int.toNat x7) (0#32)) (List.getD x3 (Int.toNat x7) (0#32)))) <| pk <| pe (eff_bool (un_neq ((List.getD x1 (Int.toNat x7) (0#32)) &&& ~~~(List.getD x3 (Int.toNat x7) (0#32))) (0#32))) <| pk <| pb c33 <| pz) rfl
             · exact pmore mixed lives 8 (by kernel_rfl) (pk <| pb c22 <| pk2 <| pb c23 <| pk6 <| pb c24 <| pk6 <| pb c25 <| pk6 <| pb c26 <| pk2 <| pn c27 <| pn c28 <| pk5 <| pn c27 <| pn c29 <| pk3 <| pe (eff_int (k := .u32) (un_andNot .u32 rfl (List.getD x2 (Int.toNat x7) (0#32)) (List.getD x0 (Int.toNat x7) (0#32)))) <| pk <| pe (eff_bool (un_neq ((List.getD x2 (Int.toNat x7) (0#32)) &&& ~~~(List.getD x0 (Int.toNat x7) (0#32))) (0#32))) <| pk <| pb c30 <| pk2 <| pn c27 <| pn c31 <| pk5 <| pn c27 <| pn c32 <| pk3 <| pe (eff_int (k := .u32) (un_andNot .u32 rfl (List.getD x1 (Int.toNat x7) (0#32)) (List.getD x3 (Int.toNat x7) (0#32)))) <| pk <| pe (eff_bool (un_neq ((List.getD x1 (Int.toNat x7) (0#32)) &&& ~~~(List.getD x3 (Int.toNat x7) (0#32))) (0#32))) <| pk <| pb c33 <| pk <| pz) (ih (iAdd x7 1) _ h)
 · have h := Option.some.inj h; subst h
   exact plast mixed lives 8 (by kernel_rfl) (pk <| pb c22 <| pz) rfl
/-- alibi/alibilaw21.FlowMore -/
def alibilaw21_FlowMore (n1 : BitVec 8) (top : BitVec 32) (l : List flow_Rule) (more : List flow_Rule) : Option (Bool) :=
  bind (alibilaw21_awake) fun v1 =>
  if (!v1) = true then
    bind (alibilaw21_awake) fun v4 =>
    some v4
  else
    if (decide (((((List.length l : Nat) : Int)) : Int) > 60)) = true then
      bind (alibilaw21_awake) fun v7 =>
      some v7
    else
      if (decide (((((List.length more : Nat) : Int)) : Int) > 60)) = true then
        bind (alibilaw21_awake) fun v10 =>
        some v10
      else
        if (Nat.ble ((List.length (([] : List flow_Rule)) + List.length l) * 40) reach) = true then
          if (Nat.ble ((List.length (([] : List flow_Rule) ++ l) + List.length more) * 40) reach) = true then
            bind (flow_Greatest (iRem ((BitVec.toNat n1 : Int)) 60) top l) fun v14 =>
            bind (flow_Least (iRem ((BitVec.toNat n1 : Int)) 60) l) fun v16 =>
            bind (flow_Greatest (iRem ((BitVec.toNat n1 : Int)) 60) top (([] : List flow_Rule) ++ l ++ more)) fun v18 =>
            bind (flow_Least (iRem ((BitVec.toNat n1 : Int)) 60) (([] : List flow_Rule) ++ l ++ more)) fun v20 =>
            bind (alibilaw21_FlowMore_l8 v14 v16 v18 v20 top l (iRem ((BitVec.toNat n1 : Int)) 60) 0) fun q => match q with
              | .x0 v34 =>
                some v34
              | .x1 =>
                if (Nat.ble ((List.length (([] : List flow_Rule) ++ l) + List.length l) * 40) reach) = true then
                  bind (flow_Greatest (iRem ((BitVec.toNat n1 : Int)) 60) top (([] : List flow_Rule) ++ l ++ l)) fun v38 =>
                  bind (alibilaw21_same v14 v38) fun v40 =>
                  if v40 = true then
                    bind (flow_Least (iRem ((BitVec.toNat n1 : Int)) 60) (([] : List flow_Rule) ++ l ++ l)) fun v43 =>
                    bind (alibilaw21_same v16 v43) fun v45 =>
                    some v45
                  else
                    some false
                else none
          else none
        else none
theorem alibilaw21_FlowMore_ok (n1 : BitVec 8) (top : BitVec 32) (l : List flow_Rule) (more : List flow_Rule) (r : Bool) (h : alibilaw21_FlowMore n1 top l more = some r) : Does Try.prog 8 [.pv (.int .u8 (BitVec.toNat n1 : Nat)), .pv (.int .u32 (BitVec.toNat top : Nat)), .pv (.seq (List.length l) (encP e_flow_Rule d_flow_Rule l)), .pv (.seq (List.length more) (encP e_flow_Rule d_flow_Rule more))] [] (.pv (.bool r), []) := by
 unfold alibilaw21_FlowMore at h
 obtain ⟨v1, h2, h⟩ := bind_of h
 rcases if_of h with ⟨c3, h⟩ | ⟨c3, h⟩
 · obtain ⟨v4, h5, h⟩ := bind_of h
   have h := Option.some.inj h; subst h
   exact pdoes mixed (L := lives) (by kernel_rfl) (pc (alibilaw21_awake_ok _ h2) <| pk2 <| pb c3 <| pk8 <| pc (alibilaw21_awake_ok _ h5) <| pk <| pz)
 · rcases if_of h with ⟨c6, h⟩ | ⟨c6, h⟩
   · obtain ⟨v7, h8, h⟩ := bind_of h
     have h := Option.some.inj h; subst h
     exact pdoes mixed (L := lives) (by kernel_rfl) (pc (alibilaw21_awake_ok _ h2) <| pk2 <| pb c3 <| pk5 <| pb c6 <| pk4 <| pc (alibilaw21_awake_ok _ h8) <| pk <| pz)
   · rcases if_of h with ⟨c9, h⟩ | ⟨c9, h⟩
     · obtain ⟨v10, h11, h⟩ := bind_of h
       have h := Option.some.inj h; subst h
       exact pdoes mixed (L := lives) (by kernel_rfl) (pc (alibilaw21_awake_ok _ h2) <| pk2 <| pb c3 <| pk5 <| pb c6 <| pk5 <| pb c9 <| pc (alibilaw21_awake_ok _ h11) <| pk <| pz)
     · obtain ⟨c12, h⟩ := need_of h
       obtain ⟨c13, h⟩ := need_of h
       obtain ⟨v14, h15, h⟩ := bind_of h
       obtain ⟨v16, h17, h⟩ := bind_of h
       obtain ⟨v18, h19, h⟩ := bind_of h
       obtain ⟨v20, h21, h⟩ := bind_of h
       obtain ⟨q, hq, h⟩ := bind_of h
       cases q with
       | x0 v34 =>
        have h35 := hq; clear hq
        try dsimp only at h
        have h := Option.some.inj h; subst h
        exact pdoes mixed (L := lives) (by kernel_rfl) (pc (alibilaw21_awake_ok _ h2) <| pk2 <| pb c3 <| pk5 <| pb c6 <| pk5 <| pb c9 <| pe (eff_int (k := .i64) (int_un 8 (by decide) n1)) <| pn (rfl : (!decide (60 = (0 : Int))) = true) <| pk <| pe (eff_lit o_flow_Rule d_flow_Rule 0 6 0 (([] : List flow_Rule)) rfl [] []) <| pn c12 <| pe (eff_app o_flow_Rule d_flow_Rule (([] : List flow_Rule)) l (([] : List flow_Rule) ++ l) 0 6 (List.length (([] : List flow_Rule))) (List.length l) (fun i => List.map AV.pv (encP e_flow_Rule d_flow_Rule l i)) (encW o_flow_Rule d_flow_Rule (([] : List flow_Rule)) (List.length (([] : List flow_Rule)))) [] [] [(0, false)] (by first | exact Nat.le_refl _ | exact Nat.zero_le _ | (simp only [decide_eq_true_eq, List.length_set, List.length_append, List.length_replicate, List.length_cons, List.length_nil, Nat.zero_add] at * <;> omega)) rfl (fun _ => by kernel_rfl) (congrArg o_flow_Rule (getD_ge d_flow_Rule (by first | exact Nat.le_refl _ | exact Nat.zero_le _ | (simp only [decide_eq_true_eq, List.length_set, List.length_append, List.length_replicate, List.length_cons, List.length_nil, Nat.zero_add] at * <;> omega)))) (by rw [List.take_of_length_le (by first | exact Nat.le_refl _ | exact Nat.zero_le _ | (simp only [decide_eq_true_eq, List.length_set, List.length_append, List.length_replicate, List.length_cons, List.length_nil, Nat.zero_add] at * <;> omega))])) <| pn c13 <| pe (eff_app o_flow_Rule d_flow_Rule (([] : List flow_Rule) ++ l) more (([] : List flow_Rule) ++ l ++ more) 0 6 (List.length (([] : List flow_Rule) ++ l)) (List.length more) (fun i => List.map AV.pv (encP e_flow_Rule d_flow_Rule more i)) (encW o_flow_Rule d_flow_Rule (([] : List flow_Rule) ++ l) (List.length (([] : List flow_Rule) ++ l))) [] [] [(0, false)] (by first | exact Nat.le_refl _ | exact Nat.zero_le _ | (simp only [decide_eq_true_eq, List.length_set, List.length_append, List.length_replicate, List.length_cons, List.length_nil, Nat.zero_add] at * <;> omega)) rfl (fun _ => by kernel_rfl) (congrArg o_flow_Rule (getD_ge d_flow_Rule (by first | exact Nat.le_refl _ | exact Nat.zero_le _ | (simp only [decide_eq_true_eq, List.length_set, List.length_append, List.length_replicate, List.length_cons, List.length_nil, Nat.zero_add] at * <;> omega)))) (by rw [List.take_of_length_le (by first | exact Nat.le_refl _ | exact Nat.zero_le _ | (simp only [decide_eq_true_eq, List.length_set, List.length_append, List.length_replicate, List.length_cons, List.length_nil, Nat.zero_add] at * <;> omega))])) <| pc (flow_Greatest_ok _ _ _ _ h15) <| pk <| pc (flow_Least_ok _ _ _ h17) <| pk <| pb (whole_ok (List.length (([] : List flow_Rule) ++ l ++ more))) <| pc (flow_Greatest_ok _ _ _ _ h19) <| pk <| pb (whole_ok (List.length (([] : List flow_Rule) ++ l ++ more))) <| pc (flow_Least_ok _ _ _ h21) <| pk <| pl (alibilaw21_FlowMore_l8_ok _ _ _ _ _ _ _ _ _ h35) <| pz)
       | x1 =>
        have h36 := hq; clear hq
        try dsimp only at h
        obtain ⟨c37, h⟩ := need_of h
        obtain ⟨v38, h39, h⟩ := bind_of h
        obtain ⟨v40, h41, h⟩ := bind_of h
        rcases if_of h with ⟨c42, h⟩ | ⟨c42, h⟩
        · obtain ⟨v43, h44, h⟩ := bind_of h
          obtain ⟨v45, h46, h⟩ := bind_of h
          have h := Option.some.inj h; subst h
          exact pdoes mixed (L := lives) (by kernel_rfl) (pc (alibilaw21_awake_ok _ h2) <| pk2 <| pb c3 <| pk5 <| pb c6 <| pk5 <| pb c9 <| pe (eff_int (k := .i64) (int_un 8 (by decide) n1)) <| pn (rfl : (!decide (60 = (0 : Int))) = true) <| pk <| pe (eff_lit o_flow_Rule d_flow_Rule 0 6 0 (([] : List flow_Rule)) rfl [] []) <| pn c12 <| pe (eff_app o_flow_Rule d_flow_Rule (([] : List flow_Rule)) l (([] : List flow_Rule) ++ l) 0 6 (List.length (([] : List flow_Rule))) (List.length l) (fun i => List.map AV.pv (encP e_flow_Rule d_flow_Rule l i)) (encW o_flow_Rule d_flow_Rule (([] : List flow_Rule)) (List.length (([] : List flow_Rule)))) [] [] [(0, false)] (by first | exact Nat.le_refl _ | exact Nat.zero_le _ | (simp only [decide_eq_true_eq, List.length_set, List.length_append, List.length_replicate, List.length_cons, List.length_nil, Nat.zero_add] at * <;> omega)) rfl (fun _ => by kernel_rfl) (congrArg o_flow_Rule (getD_ge d_flow_Rule (by first | exact Nat.le_refl _ | exact Nat.zero_le _ | (simp only [decide_eq_true_eq, List.length_set, List.length_append, List.length_replicate, List.length_cons, List.length_nil, Nat.zero_add] at * <;> omega)))) (by rw [List.take_of_length_le (by first | exact Nat.le_refl _ | exact Nat.zero_le _ | (simp only [decide_eq_true_eq, List.length_set, List.length_append, List.length_replicate, List.length_cons, List.length_nil, Nat.zero_add] at * <;> omega))])) <| pn c13 <| pe (eff_app o_flow_Rule d_flow_Rule (([] : List flow_Rule) ++ l) more (([] : List flow_Rule) ++ l ++ more) 0 6 (List.length (([] : List flow_Rule) ++ l)) (List.length more) (fun i => List.map AV.pv (encP e_flow_Rule d_flow_Rule more i)) (encW o_flow_Rule d_flow_Rule (([] : List flow_Rule) ++ l) (List.length (([] : List flow_Rule) ++ l))) [] [] [(0, false)] (by first | exact Nat.le_refl _ | exact Nat.zero_le _ | (simp only [decide_eq_true_eq, List.length_set, List.length_append, List.length_replicate, List.length_cons, List.length_nil, Nat.zero_add] at * <;> omega)) rfl (fun _ => by kernel_rfl) (congrArg o_flow_Rule (getD_ge d_flow_Rule (by first | exact Nat.le_refl _ | exact Nat.zero_le _ | (simp only [decide_eq_true_eq, List.length_set, List.length_append, List.length_replicate, List.length_cons, List.length_nil, Nat.zero_add] at * <;> omega)))) (by rw [List.take_of_length_le (by first | exact Nat.le_refl _ | exact Nat.zero_le _ | (simp only [decide_eq_true_eq, List.length_set, List.length_append, List.length_replicate, List.length_cons, List.length_nil, Nat.zero_add] at * <;> omega))])) <| pc (flow_Greatest_ok _ _ _ _ h15) <| pk <| pc (flow_Least_ok _ _ _ h17) <| pk <| pb (whole_ok (List.length (([] : List flow_Rule) ++ l ++ more))) <| pc (flow_Greatest_ok _ _ _ _ h19) <| pk <| pb (whole_ok (List.length (([] : List flow_Rule) ++ l ++ more))) <| pc (flow_Least_ok _ _ _ h21) <| pk <| pl (alibilaw21_FlowMore_l8_ok _ _ _ _ _ _ _ _ _ h36) <| pe (eff_lit o_flow_Rule d_flow_Rule 2 6 0 (([] : List flow_Rule)) rfl [] []) <| pn c12 <| pe (eff_app o_flow_Rule d_flow_Rule (([] : List flow_Rule)) l (([] : List flow_Rule) ++ l) 2 6 (List.length (([] : List flow_Rule))) (List.length l) (fun i => List.map AV.pv (encP e_flow_Rule d_flow_Rule l i)) (encW o_flow_Rule d_flow_Rule (([] : List flow_Rule)) (List.length (([] : List flow_Rule)))) [] [] [(2, false)] (by first | exact Nat.le_refl _ | exact Nat.zero_le _ | (simp only [decide_eq_true_eq, List.length_set, List.length_append, List.length_replicate, List.length_cons, List.length_nil, Nat.zero_add] at * <;> omega)) rfl (fun _ => by kernel_rfl) (congrArg o_flow_Rule (getD_ge d_flow_Rule (by first | exact Nat.le_refl _ | exact Nat.zero_le _ | (simp only [decide_eq_true_eq, List.length_set, List.length_append, List.length_replicate, List.length_cons, List.length_nil, Nat.zero_add] at * <;> omega)))) (by rw [List.take_of_length_le (by first | exact Nat.le_refl _ | exact Nat.zero_le _ | (simp only [decide_eq_true_eq, List.length_set, List.length_append, List.length_replicate, List.length_cons, List.length_nil, Nat.zero_add] at * <;> omega))])) <| pn c37 <| pe (eff_app o_flow_Rule d_flow_Rule (([] : List flow_Rule) ++ l) l (([] : List flow_Rule) ++ l ++ l) 2 6 (List.length (([] : List flow_Rule) ++ l)) (List.length l) (fun i => List.map AV.pv (encP e_flow_Rule d_flow_Rule l i)) (encW o_flow_Rule d_flow_Rule (([] : List flow_Rule) ++ l) (List.length (([] : List flow_Rule) ++ l))) [] [] [(2, false)] (by first | exact Nat.le_refl _ | exact Nat.zero_le _ | (simp only [decide_eq_true_eq, List.length_set, List.length_append, List.length_replicate, List.length_cons, List.length_nil, Nat.zero_add] at * <;> omega)) rfl (fun _ => by kernel_rfl) (congrArg o_flow_Rule (getD_ge d_flow_Rule (by first | exact Nat.le_refl _ | exact Nat.zero_le _ | (simp only [decide_eq_true_eq, List.length_set, List.length_append, List.length_replicate, List.length_cons, List.length_nil, Nat.zero_add] at * <;> omega)))) (by rw [List.take_of_length_le (by first | exact Nat.le_refl _ | exact Nat.zero_le _ | (simp only [decide_eq_true_eq, List.length_set, List.length_append, List.length_replicate, List.length_cons, List.length_nil, Nat.zero_add] at * <;> omega))])) <| pb (whole_ok (List.length (([] : List flow_Rule) ++ l ++ l))) <| pc (flow_Greatest_ok _ _ _ _ h39) <| pk <| pb (whole_ok (List.length v14)) <| pb (whole_ok (List.length v38)) <| pc (Does.of (args' := [.pv (.seq (List.length v14) (encP e_u32 (0#32) v14)), .pv (.seq (List.length v38) (encP e_u32 (0#32) v38))]) (H' := []) (alibilaw21_same_ok _ _ _ h41) (by (first | rfl | (simp only [List.length_set]; done)))) <| pk <| pb c42 <| pk3 <| pb (whole_ok (List.length (([] : List flow_Rule) ++ l ++ l))) <| pc (flow_Least_ok _ _ _ h44) <| pk2 <| pb (whole_ok (List.length v16)) <| pb (whole_ok (List.length v43)) <| pc (Does.of (args' := [.pv (.seq (List.length v16) (encP e_u32 (0#32) v16)), .pv (.seq (List.length v43) (encP e_u32 (0#32) v43))]) (H' := []) (alibilaw21_same_ok _ _ _ h46) (by (first | rfl | (simp only [List.length_set]; done)))) <| pk2 <| pz)
        · have h := Option.some.inj h; subst h
          exact pdoes mixed (L := lives) (by kernel_rfl) (pc (alibilaw21_awake_ok _ h2) <| pk2 <| pb c3 <| pk5 <| pb c6 <| pk5 <| pb c9 <| pe (eff_int (k := .i64) (int_un 8 (by decide) n1)) <| pn (rfl : (!decide (60 = (0 : Int))) = true) <| pk <| pe (eff_lit o_flow_Rule d_flow_Rule 0 6 0 (([] : List flow_Rule)) rfl [] []) <| pn c12 <| pe (eff_app o_flow_Rule d_flow_Rule (([] : List flow_Rule)) l (([] : List flow_Rule) ++ l) 0 6 (List.length (([] : List flow_Rule))) (List.length l) (fun i => List.map AV.pv (encP e_flow_Rule d_flow_Rule l i)) (encW o_flow_Rule d_flow_Rule (([] : List flow_Rule)) (List.length (([] : List flow_Rule)))) [] [] [(0, false)] (by first | exact Nat.le_refl _ | exact Nat.zero_le _ | (simp only [decide_eq_true_eq, List.length_set, List.length_append, List.length_replicate, List.length_cons, List.length_nil, Nat.zero_add] at * <;> omega)) rfl (fun _ => by kernel_rfl) (congrArg o_flow_Rule (getD_ge d_flow_Rule (by first | exact Nat.le_refl _ | exact Nat.zero_le _ | (simp only [decide_eq_true_eq, List.length_set, List.length_append, List.length_replicate, List.length_cons, List.length_nil, Nat.zero_add] at * <;> omega)))) (by rw [List.take_of_length_le (by first | exact Nat.le_refl _ | exact Nat.zero_le _ | (simp only [decide_eq_true_eq, List.length_set, List.length_append, List.length_replicate, List.length_cons, List.length_nil, Nat.zero_add] at * <;> omega))])) <| pn c13 <| pe (eff_app o_flow_Rule d_flow_Rule (([] : List flow_Rule) ++ l) more (([] : List flow_Rule) ++ l ++ more) 0 6 (List.length (([] : List flow_Rule) ++ l)) (List.length more) (fun i => List.map AV.pv (encP e_flow_Rule d_flow_Rule more i)) (encW o_flow_Rule d_flow_Rule (([] : List flow_Rule) ++ l) (List.length (([] : List flow_Rule) ++ l))) [] [] [(0, false)] (by first | exact Nat.le_refl _ | exact Nat.zero_le _ | (simp only [decide_eq_true_eq, List.length_set, List.length_append, List.length_replicate, List.length_cons, List.length_nil, Nat.zero_add] at * <;> omega)) rfl (fun _ => by kernel_rfl) (congrArg o_flow_Rule (getD_ge d_flow_Rule (by first | exact Nat.le_refl _ | exact Nat.zero_le _ | (simp only [decide_eq_true_eq, List.length_set, List.length_append, List.length_replicate, List.length_cons, List.length_nil, Nat.zero_add] at * <;> omega)))) (by rw [List.take_of_length_le (by first | exact Nat.le_refl _ | exact Nat.zero_le _ | (simp only [decide_eq_true_eq, List.length_set, List.length_append, List.length_replicate, List.length_cons, List.length_nil, Nat.zero_add] at * <;> omega))])) <| pc (flow_Greatest_ok _ _ _ _ h15) <| pk <| pc (flow_Least_ok _ _ _ h17) <| pk <| pb (whole_ok (List.length (([] : List flow_Rule) ++ l ++ more))) <| pc (flow_Greatest_ok _ _ _ _ h19) <| pk <| pb (whole_ok (List.length (([] : List flow_Rule) ++ l ++ more))) <| pc (flow_Least_ok _ _ _ h21) <| pk <| pl (alibilaw21_FlowMore_l8_ok _ _ _ _ _ _ _ _ _ h36) <| pe (eff_lit o_flow_Rule d_flow_Rule 2 6 0 (([] : List flow_Rule)) rfl [] []) <| pn c12 <| pe (eff_app o_flow_Rule d_flow_Rule (([] : List flow_Rule)) l (([] : List flow_Rule) ++ l) 2 6 (List.length (([] : List flow_Rule))) (List.length l) (fun i => List.map AV.pv (encP e_flow_Rule d_flow_Rule l i)) (encW o_flow_Rule d_flow_Rule (([] : List flow_Rule)) (List.length (([] : List flow_Rule)))) [] [] [(2, false)] (by first | exact Nat.le_refl _ | exact Nat.zero_le _ | (simp only [decide_eq_true_eq, List.length_set, List.length_append, List.length_replicate, List.length_cons, List.length_nil, Nat.zero_add] at * <;> omega)) rfl (fun _ => by kernel_rfl) (congrArg o_flow_Rule (getD_ge d_flow_Rule (by first | exact Nat.le_refl _ | exact Nat.zero_le _ | (simp only [decide_eq_true_eq, List.length_set, List.length_append, List.length_replicate, List.length_cons, List.length_nil, Nat.zero_add] at * <;> omega)))) (by rw [List.take_of_length_le (by first | exact Nat.le_refl _ | exact Nat.zero_le _ | (simp only [decide_eq_true_eq, List.length_set, List.length_append, List.length_replicate, List.length_cons, List.length_nil, Nat.zero_add] at * <;> omega))])) <| pn c37 <| pe (eff_app o_flow_Rule d_flow_Rule (([] : List flow_Rule) ++ l) l (([] : List flow_Rule) ++ l ++ l) 2 6 (List.length (([] : List flow_Rule) ++ l)) (List.length l) (fun i => List.map AV.pv (encP e_flow_Rule d_flow_Rule l i)) (encW o_flow_Rule d_flow_Rule (([] : List flow_Rule) ++ l) (List.length (([] : List flow_Rule) ++ l))) [] [] [(2, false)] (by first | exact Nat.le_refl _ | exact Nat.zero_le _ | (simp only [decide_eq_true_eq, List.length_set, List.length_append, List.length_replicate, List.length_cons, List.length_nil, Nat.zero_add] at * <;> omega)) rfl (fun _ => by kernel_rfl) (congrArg o_flow_Rule (getD_ge d_flow_Rule (by first | exact Nat.le_refl _ | exact Nat.zero_le _ | (simp only [decide_eq_true_eq, List.length_set, List.length_append, List.length_replicate, List.length_cons, List.length_nil, Nat.zero_add] at * <;> omega)))) (by rw [List.take_of_length_le (by first | exact Nat.le_refl _ | exact Nat.zero_le _ | (simp only [decide_eq_true_eq, List.length_set, List.length_append, List.length_replicate, List.length_cons, List.length_nil, Nat.zero_add] at * <;> omega))])) <| pb (whole_ok (List.length (([] : List flow_Rule) ++ l ++ l))) <| pc (flow_Greatest_ok _ _ _ _ h39) <| pk <| pb (whole_ok (List.length v14)) <| pb (whole_ok (List.length v38)) <| pc (Does.of (args' := [.pv (.seq (List.length v14) (encP e_u32 (0#32) v14)), .pv (.seq (List.length v38) (encP e_u32 (0#32) v38))]) (H' := []) (alibilaw21_same_ok _ _ _ h41) (by (first | rfl | (simp only [List.length_set]; done)))) <| pk <| pb c42 <| pk5 <| pz)
end Go.Bm.GoYtldkmmnffjdliaa
