/- Printed by gen2.py. -/
import Derived.Test.YtldkmmnffjdliaaT3a
namespace Go.Bm.GoYtldkmmnffjdliaa
open Go.Proofs
set_option autoImplicit false
set_option linter.unusedVariables false
set_option linter.unusedSimpArgs false
set_option maxRecDepth 100000
set_option synthInstance.maxHeartbeats 400000
set_option synthInstance.maxSize 2048
noncomputable def kill_gather_2_l9_c : Code := sub (codeOf Try.prog 88) [1, 1, 1, 1, 0, 1, 0, 0, 1, 1, 0, 0, 1, 1, 0, 0]
def kill_gather_2_l9 (x0 : List (BitVec 32)) (x1 : List Int) (x2 : Int) (x3 : Int) (x4 : Int) (x5 : List (List api_Node)) (x6 : Int) (x7 : Int) (x8 : Int) (x9 : List api_Node) (x10 : Int) (x11 : Int) : Option ((List (BitVec 32))) :=
  if (decide ((x11 : Int) < x10)) = true then
    if (decide ((0 : Int) ≤ x11)) = true then
      if (decide ((x11 : Int) < ((List.length x9 : Nat) : Int))) = true then
        if ((((List.getD x9 (Int.toNat x11) d_api_Node).kind) : Int) == 7) = true then
          if (decide ((0 : Int) ≤ x6)) = true then
            if (decide ((x6 : Int) < (((List.length x0) : Nat) : Int))) = true then
              if (decide ((0 : Int) ≤ ((List.getD x9 (Int.toNat x11) d_api_Node).arg))) = true then
                if (decide ((((List.getD x9 (Int.toNat x11) d_api_Node).arg) : Int) < (((List.length x0) : Nat) : Int))) = true then
                  kill_gather_2_l9 (List.set x0 (Int.toNat x6) ((List.getD x0 (Int.toNat x6) (0#32)) ||| (List.getD x0 (Int.toNat ((List.getD x9 (Int.toNat x11) d_api_Node).arg)) (0#32)))) x1 x2 x3 x4 x5 x6 x7 x8 x9 x10 (iAdd x11 1)
                else none
              else none
            else none
          else none
        else
          if (decide ((0 : Int) ≤ x6)) = true then
            if (decide ((x6 : Int) < (((List.length x0) : Nat) : Int))) = true then
              bind (kill_begins (List.getD x9 (Int.toNat x11) d_api_Node)) fun v21 =>
              kill_gather_2_l9 (List.set x0 (Int.toNat x6) ((List.getD x0 (Int.toNat x6) (0#32)) ||| v21)) x1 x2 x3 x4 x5 x6 x7 x8 x9 x10 (iAdd x11 1)
            else none
          else none
      else none
    else none
  else
    some x0
partial_fixpoint
noncomputable abbrev kill_gather_2_l9_s (x0 : List (BitVec 32)) (x1 : List Int) (x2 : Int) (x3 : Int) (x4 : Int) (x5 : List (List api_Node)) (x6 : Int) (x7 : Int) (x8 : Int) (x9 : List api_Node) (x10 : Int) (x11 : Int) : St := ⟨dead :: .pv (.fn 91) :: .ptr 0 [] 0 0 :: (List.replicate 5 dead ++ (.ms 1 [] 0 (List.length x0) :: dead :: .pv (.int .i64 x6) :: (List.replicate 14 dead ++ (.ms 2 [] 0 (List.length x1) :: .pv (.int .i64 x7) :: .pv (.int .i64 x8) :: (List.replicate 7 dead ++ (.pv (.seq (List.length x9) (encP e_api_Node d_api_Node x9)) :: .pv (.int .i64 x10) :: .pv (.int .i64 x11) :: List.replicate 29 dead)))))), [.box 0 [.pv (.int .i64 x2), .pv (.int .i64 x3), .pv (.int .i64 x4), .pv (.seq (List.length x5) (encP e_61 ([] : List api_Node) x5))], .arr 0 1 (List.length x0) (encW o_u32 0#32 x0), .arr 0 1 (List.length x1) (encW o_i64 0 x1)]⟩
noncomputable abbrev kill_gather_2_l9_e (x0 : List (BitVec 32)) (x1 : List Int) (x2 : Int) (x3 : Int) (x4 : Int) (x5 : List (List api_Node)) (x6 : Int) (x7 : Int) (x8 : Int) (x9 : List api_Node) (x10 : Int) (x11 : Int) (r : (List (BitVec 32))) : St := ⟨dead :: .pv (.fn 91) :: .ptr 0 [] 0 0 :: (List.replicate 5 dead ++ (.ms 1 [] 0 (List.length r) :: (List.replicate 16 dead ++ (.ms 2 [] 0 (List.length x1) :: .pv (.int .i64 x7) :: .pv (.int .i64 x8) :: List.replicate 39 dead)))), [.box 0 [.pv (.int .i64 x2), .pv (.int .i64 x3), .pv (.int .i64 x4), .pv (.seq (List.length x5) (encP e_61 ([] : List api_Node) x5))], .arr 0 1 (List.length r) (encW o_u32 0#32 r), .arr 0 1 (List.length x1) (encW o_i64 0 x1)]⟩
theorem kill_gather_2_l9_ok (x0 : List (BitVec 32)) (x1 : List Int) (x2 : Int) (x3 : Int) (x4 : Int) (x5 : List (List api_Node)) (x6 : Int) (x7 : Int) (x8 : Int) (x9 : List api_Node) (x10 : Int) (x11 : Int) (r : (List (BitVec 32))) (h : kill_gather_2_l9 x0 x1 x2 x3 x4 x5 x6 x7 x8 x9 x10 x11 = some r) : Loops Try.prog kill_gather_2_l9_c 0 (kill_gather_2_l9_s x0 x1 x2 x3 x4 x5 x6 x7 x8 x9 x10 x11) (.exit 2) (kill_gather_2_l9_e x0 x1 x2 x3 x4 x5 x6 x7 x8 x9 x10 x11 r) := by
 refine kill_gather_2_l9.partial_correctness x1 x2 x3 x4 x5 x6 x7 x8 x9 x10 (fun x0 x11 r => Loops Try.prog kill_gather_2_l9_c 0 (kill_gather_2_l9_s x0 x1 x2 x3 x4 x5 x6 x7 x8 x9 x10 x11) (.exit 2) (kill_gather_2_l9_e x0 x1 x2 x3 x4 x5 x6 x7 x8 x9 x10 x11 r)) ?_ x0 x11 r h
 clear h r x0 x11
 intro self ih x0 x11 r h
 rcases if_of h with ⟨c11, h⟩ | ⟨c11, h⟩
 · obtain ⟨c12, h⟩ := need_of h
   obtain ⟨c13, h⟩ := need_of h
   rcases if_of h with ⟨c14, h⟩ | ⟨c14, h⟩
   · obtain ⟨c15, h⟩ := need_of h
     obtain ⟨c16, h⟩ := need_of h
     obtain ⟨c17, h⟩ := need_of h
     obtain ⟨c18, h⟩ := need_of h
     exact pmore mixed lives 88 (by kernel_rfl) (pk <| pb c11 <| pn c12 <| pn c13 <| pk5 <| pb c14 <| pn c15 <| pn c16 <| pk2 <| pn c17 <| pn c18 <| pk <| pe (eff_int (k := .u32) (un_or .u32 rfl (List.getD x0 (Int.toNat x6) (0#32)) (List.getD x0 (Int.toNat ((List.getD x9 (Int.toNat x11) d_api_Node).arg)) (0#32)))) <| pn c15 <| pn c16 <| pt <| pe (eff_hb (v := dead) (b := 1) (hb := []) (sc := []) (put_top o_u32 (0#32) 0 1 (List.length x0) x0 (Int.toNat x6) 0 [.pv (.int .u32 (BitVec.toNat ((List.getD x0 (Int.toNat x6) (0#32)) ||| (List.getD x0 (Int.toNat ((List.getD x9 (Int.toNat x11) d_api_Node).arg)) (0#32))) : Nat))] ((List.getD x0 (Int.toNat x6) (0#32)) ||| (List.getD x0 (Int.toNat ((List.getD x9 (Int.toNat x11) d_api_Node).arg)) (0#32))) (by kernel_rfl) (by first | exact Nat.le_refl _ | exact Nat.zero_le _ | (simp only [decide_eq_true_eq, List.length_set, List.length_append, List.length_replicate, List.length_cons, List.length_nil, Nat.zero_add] at * <;> omega)))) <| pk <| pz) (Loops.of (s1 := ⟨dead :: .pv (.fn 91) :: .ptr 0 [] 0 0 :: (List.replicate 5 dead ++ (.ms 1 [] 0 (List.length x0) :: dead :: .pv (.int .i64 x6) :: (List.replicate 14 dead ++ (.ms 2 [] 0 (List.length x1) :: .pv (.int .i64 x7) :: .pv (.int .i64 x8) :: (List.replicate 7 dead ++ (.pv (.seq (List.length x9) (encP e_api_Node d_api_Node x9)) :: .pv (.int .i64 x10) :: .pv (.int .i64 (iAdd x11 1)) :: List.replicate 29 dead)))))), [.box 0 [.pv (.int .i64 x2), .pv (.int .i64 x3), .pv (.int .i64 x4), .pv (.seq (List.length x5) (encP e_61 ([] : List api_Node) x5))], .arr 0 1 (List.length x0) (encW o_u32 0#32 (List.set x0 (Int.toNat x6) ((List.getD x0 (Int.toNat x6) (0#32)) ||| (List.getD x0 (Int.toNat ((List.getD x9 (Int.toNat x11) d_api_Node).arg)) (0#32))))), .arr 0 1 (List.length x1) (encW o_i64 0 x1)]⟩) (ih (List.set x0 (Int.toNat x6) ((List.getD x0 (Int.toNat x6) (0#32)) ||| (List.getD x0 (Int.toNat ((List.getD x9 (Int.toNat x11) d_api_Node).arg)) (0#32)))) (iAdd x11 1) _ h) (by (first | rfl | (simp only [kill_gather_2_l9_s, List.length_set]; done))))
   · obtain ⟨c19, h⟩ := need_of h
     obtain ⟨c20, h⟩ := need_of h
     obtain ⟨v21, h22, h⟩ := bind_of h
     exact pmore mixed lives 88 (by kernel_rfl) (pk <| pb c11 <| pn c12 <| pn c13 <| pk5 <| pb c14 <| pn c19 <| pn c20 <| pk2 <| pc (kill_begins_ok _ _ h22) <| pk <| pe (eff_int (k := .u32) (un_or .u32 rfl (List.getD x0 (Int.toNat x6) (0#32)) v21)) <| pn c19 <| pn c20 <| pt <| pe (eff_hb (v := dead) (b := 1) (hb := []) (sc := []) (put_top o_u32 (0#32) 0 1 (List.length x0) x0 (Int.toNat x6) 0 [.pv (.int .u32 (BitVec.toNat ((List.getD x0 (Int.toNat x6) (0#32)) ||| v21) : Nat))] ((List.getD x0 (Int.toNat x6) (0#32)) ||| v21) (by kernel_rfl) (by first | exact Nat.le_refl _ | exact Nat.zero_le _ | (simp only [decide_eq_true_eq, List.length_set, List.length_append, List.length_replicate, List.length_cons, List.length_nil, Nat.zero_add] at * <;> omega)))) <| pk <| pz) (Loops.of (s1 := ⟨dead :: .pv (.fn 91) :: .ptr 0 [] 0 0 :: (List.replicate 5 dead ++ (.ms 1 [] 0 (List.length x0) :: dead :: .pv (.int .i64 x6) :: (List.replicate 14 dead ++ (.ms 2 [] 0 (List.length x1) :: .pv (.int .i64 x7) :: .pv (.int .i64 x8) :: (List.replicate 7 dead ++ (.pv (.seq (List.length x9) (encP e_api_Node d_api_Node x9)) :: .pv (.int .i64 x10) :: .pv (.int .i64 (iAdd x11 1)) :: List.replicate 29 dead)))))), [.box 0 [.pv (.int .i64 x2), .pv (.int .i64 x3), .pv (.int .i64 x4), .pv (.seq (List.length x5) (encP e_61 ([] : List api_Node) x5))], .arr 0 1 (List.length x0) (encW o_u32 0#32 (List.set x0 (Int.toNat x6) ((List.getD x0 (Int.toNat x6) (0#32)) ||| v21))), .arr 0 1 (List.length x1) (encW o_i64 0 x1)]⟩) (ih (List.set x0 (Int.toNat x6) ((List.getD x0 (Int.toNat x6) (0#32)) ||| v21)) (iAdd x11 1) _ h) (by (first | rfl | (simp only [kill_gather_2_l9_s, List.length_set]; done))))
 · have h := Option.some.inj h; subst h
   exact plast mixed lives 88 (by kernel_rfl) (pk <| pb c11 <| pz) rfl
noncomputable def kill_gather_2_l6_c : Code := sub (codeOf Try.prog 88) [1, 1, 1, 1, 0, 1, 0, 0]
def kill_gather_2_l6 (x0 : List (BitVec 32)) (x1 : List Int) (x2 : Int) (x3 : Int) (x4 : Int) (x5 : List (List api_Node)) (x6 : Int) (x7 : Int) : Option ((List (BitVec 32))) :=
  if (decide ((x7 : Int) < x6)) = true then
    if (decide ((0 : Int) ≤ x7)) = true then
      if (decide ((x7 : Int) < (((List.length x1) : Nat) : Int))) = true then
        if (decide ((0 : Int) ≤ (List.getD x1 (Int.toNat x7) 0))) = true then
          if (decide (((List.getD x1 (Int.toNat x7) 0) : Int) < ((List.length x5 : Nat) : Int))) = true then
            bind (kill_gather_2_l9 x0 x1 x2 x3 x4 x5 (List.getD x1 (Int.toNat x7) 0) x6 x7 (List.getD x5 (Int.toNat (List.getD x1 (Int.toNat x7) 0)) (([] : List api_Node))) (((List.length (List.getD x5 (Int.toNat (List.getD x1 (Int.toNat x7) 0)) (([] : List api_Node))) : Nat) : Int)) 0) fun v23 =>
            kill_gather_2_l6 v23 x1 x2 x3 x4 x5 x6 (iAdd x7 1)
          else none
        else none
      else none
    else none
  else
    some x0
partial_fixpoint
noncomputable abbrev kill_gather_2_l6_s (x0 : List (BitVec 32)) (x1 : List Int) (x2 : Int) (x3 : Int) (x4 : Int) (x5 : List (List api_Node)) (x6 : Int) (x7 : Int) : St := ⟨dead :: .pv (.fn 91) :: .ptr 0 [] 0 0 :: (List.replicate 5 dead ++ (.ms 1 [] 0 (List.length x0) :: (List.replicate 16 dead ++ (.ms 2 [] 0 (List.length x1) :: .pv (.int .i64 x6) :: .pv (.int .i64 x7) :: List.replicate 39 dead)))), [.box 0 [.pv (.int .i64 x2), .pv (.int .i64 x3), .pv (.int .i64 x4), .pv (.seq (List.length x5) (encP e_61 ([] : List api_Node) x5))], .arr 0 1 (List.length x0) (encW o_u32 0#32 x0), .arr 0 1 (List.length x1) (encW o_i64 0 x1)]⟩
noncomputable abbrev kill_gather_2_l6_e (x0 : List (BitVec 32)) (x1 : List Int) (x2 : Int) (x3 : Int) (x4 : Int) (x5 : List (List api_Node)) (x6 : Int) (x7 : Int) (r : (List (BitVec 32))) : St := ⟨(List.replicate 8 dead ++ (.ms 0 [] 0 (List.length r) :: List.replicate 58 dead)), [.arr 0 1 (List.length r) (encW o_u32 0#32 r)]⟩
theorem kill_gather_2_l6_ok (x0 : List (BitVec 32)) (x1 : List Int) (x2 : Int) (x3 : Int) (x4 : Int) (x5 : List (List api_Node)) (x6 : Int) (x7 : Int) (r : (List (BitVec 32))) (h : kill_gather_2_l6 x0 x1 x2 x3 x4 x5 x6 x7 = some r) : Loops Try.prog kill_gather_2_l6_c 0 (kill_gather_2_l6_s x0 x1 x2 x3 x4 x5 x6 x7) (.exit 0) (kill_gather_2_l6_e x0 x1 x2 x3 x4 x5 x6 x7 r) := by
 refine kill_gather_2_l6.partial_correctness x1 x2 x3 x4 x5 x6 (fun x0 x7 r => Loops Try.prog kill_gather_2_l6_c 0 (kill_gather_2_l6_s x0 x1 x2 x3 x4 x5 x6 x7) (.exit 0) (kill_gather_2_l6_e x0 x1 x2 x3 x4 x5 x6 x7 r)) ?_ x0 x7 r h
 clear h r x0 x7
 intro self ih x0 x7 r h
 rcases if_of h with ⟨c6, h⟩ | ⟨c6, h⟩
 · obtain ⟨c7, h⟩ := need_of h
   obtain ⟨c8, h⟩ := need_of h
   obtain ⟨c9, h⟩ := need_of h
   obtain ⟨c10, h⟩ := need_of h
   obtain ⟨v23, h24, h⟩ := bind_of h
   exact pmore mixed lives 88 (by kernel_rfl) (pk <| pb c6 <| pn c7 <| pn c8 <| pk2 <| pn c9 <| pn c10 <| pk2 <| pl (kill_gather_2_l9_ok _ _ _ _ _ _ _ _ _ _ _ _ _ h24) <| pk <| pz) (ih v23 (iAdd x7 1) _ h)
 · have h := Option.some.inj h; subst h
   exact plast mixed lives 88 (by kernel_rfl) (pk <| pb c6 <| pz) rfl
/-- alibi/kill.gather -/
def kill_gather_2 (p : api_Program) : Option (Int × (List (BitVec 32))) :=
  bind (graph_Order p) fun v1 =>
  if ((v1.1 : Int) != 0) = true then
    some (v1.1, ([] : List (BitVec 32)))
  else
    if (decide ((0 : Int) ≤ (((List.length p.funcs : Nat) : Int)))) = true then
      if (decide (((((List.length p.funcs : Nat) : Int)) : Int) * ((4 : Nat) : Int) ≤ ((reach : Nat) : Int))) = true then
        bind (kill_gather_2_l6 (List.replicate (Int.toNat (((List.length p.funcs : Nat) : Int))) (0#32)) v1.2 p.globals p.locks p.slots p.funcs ((((List.length v1.2) : Nat) : Int)) 0) fun v25 =>
        some (0, v25)
      else none
    else none
theorem kill_gather_2_ok (p : api_Program) (r : Int × (List (BitVec 32))) (h : kill_gather_2 p = some r) : Does Try.prog 88 [.agg [.pv (.int .i64 p.globals), .pv (.int .i64 p.locks), .pv (.int .i64 p.slots), .pv (.seq (List.length p.funcs) (encP e_61 ([] : List api_Node) p.funcs))], .pv (.fn 91)] [] (.tup [.ms 0 [] 0 (List.length r.2), .pv (.int .i64 r.1)], [.arr 0 1 (List.length r.2) (encW o_u32 0#32 r.2)]) := by
 unfold kill_gather_2 at h
 obtain ⟨v1, h2, h⟩ := bind_of h
 rcases if_of h with ⟨c3, h⟩ | ⟨c3, h⟩
 · have h := Option.some.inj h; subst h
   refine Does.eq (pdoes mixed (L := lives) (r := (.tup [.ms 0 [] 0 (List.length ([] : List (BitVec 32))), .pv (.int .i64 v1.1)], [.arr 0 1 (List.length ([] : List (BitVec 32))) (encW o_u32 0#32 (([] : List (BitVec 32))))])) (by kernel_rfl) (pk2 <| pc (graph_Order_ok _ _ h2) <| pk2 <| pb c3 <| pz)) ?_
   (first | rfl | (simp only [List.length_set]; done))
 · obtain ⟨c4, h⟩ := need_of h
   obtain ⟨c5, h⟩ := need_of h
   obtain ⟨v25, h26, h⟩ := bind_of h
   have h := Option.some.inj h; subst h
   exact pdoes mixed (L := lives) (by kernel_rfl) (pk2 <| pc (graph_Order_ok _ _ h2) <| pk2 <| pb c3 <| pk2 <| pn c4 <| pn ((decide_eq_true rfl) : (decide (((((List.length p.funcs : Nat) : Int)) : Int) = (((List.length p.funcs : Nat) : Int)))) = true) <| pn c5 <| pe (eff_make o_u32 (0#32) 2 1 (Int.toNat (((List.length p.funcs : Nat) : Int)))) <| pk <| pl (kill_gather_2_l6_ok _ _ _ _ _ _ _ _ _ h26) <| pz)
noncomputable def kill_Begins_l6_c : Code := sub (codeOf Try.prog 50) [1, 1, 1, 1, 0, 1, 0, 0]
def kill_Begins_l6 (x0 : List (BitVec 32)) (x1 : BitVec 32) (x2 : Int) (x3 : Int) : Option ((BitVec 32)) :=
  if (decide ((x3 : Int) < x2)) = true then
    if (decide ((0 : Int) ≤ x3)) = true then
      if (decide ((x3 : Int) < (((List.length x0) : Nat) : Int))) = true then
        if (decide ((0#32) < (List.getD x0 (Int.toNat x3) (0#32)))) = true then
          bind (sets_One x3) fun v8 =>
          kill_Begins_l6 x0 (x1 ||| v8) x2 (iAdd x3 1)
        else
          kill_Begins_l6 x0 x1 x2 (iAdd x3 1)
      else none
    else none
  else
    some x1
partial_fixpoint
noncomputable abbrev kill_Begins_l6_s (x0 : List (BitVec 32)) (x1 : BitVec 32) (x2 : Int) (x3 : Int) : St := ⟨(List.replicate 6 dead ++ (.pv (.int .u32 (BitVec.toNat x1 : Nat)) :: (List.replicate 10 dead ++ (.ms 0 [] 0 (List.length x0) :: .pv (.int .i64 x2) :: .pv (.int .i64 x3) :: List.replicate 12 dead)))), [.arr 0 1 (List.length x0) (encW o_u32 0#32 x0)]⟩
noncomputable abbrev kill_Begins_l6_e (x0 : List (BitVec 32)) (x1 : BitVec 32) (x2 : Int) (x3 : Int) (r : (BitVec 32)) : St := ⟨(List.replicate 6 dead ++ (.pv (.int .u32 (BitVec.toNat r : Nat)) :: List.replicate 25 dead)), []⟩
theorem kill_Begins_l6_ok (x0 : List (BitVec 32)) (x1 : BitVec 32) (x2 : Int) (x3 : Int) (r : (BitVec 32)) (h : kill_Begins_l6 x0 x1 x2 x3 = some r) : Loops Try.prog kill_Begins_l6_c 0 (kill_Begins_l6_s x0 x1 x2 x3) (.exit 0) (kill_Begins_l6_e x0 x1 x2 x3 r) := by
 refine kill_Begins_l6.partial_correctness x0 x2 (fun x1 x3 r => Loops Try.prog kill_Begins_l6_c 0 (kill_Begins_l6_s x0 x1 x2 x3) (.exit 0) (kill_Begins_l6_e x0 x1 x2 x3 r)) ?_ x1 x3 r h
 clear h r x1 x3
 intro self ih x1 x3 r h
 rcases if_of h with ⟨c4, h⟩ | ⟨c4, h⟩
 · obtain ⟨c5, h⟩ := need_of h
   obtain ⟨c6, h⟩ := need_of h
   rcases if_of h with ⟨c7, h⟩ | ⟨c7, h⟩
   · obtain ⟨v8, h9, h⟩ := bind_of h
     exact pmore mixed lives 50 (by kernel_rfl) (pk <| pb c4 <| pn c5 <| pn c6 <| pk <| pe (eff_bool (un_gtr (List.getD x0 (Int.toNat x3) (0#32)) (0#32))) <| pb c7 <| pc (sets_One_ok _ _ h9) <| pk <| pe (eff_int (k := .u32) (un_or .u32 rfl x1 v8)) <| pk <| pz) (ih (x1 ||| v8) (iAdd x3 1) _ h)
   · exact pmore mixed lives 50 (by kernel_rfl) (pk <| pb c4 <| pn c5 <| pn c6 <| pk <| pe (eff_bool (un_gtr (List.getD x0 (Int.toNat x3) (0#32)) (0#32))) <| pb c7 <| pk <| pz) (ih x1 (iAdd x3 1) _ h)
 · have h := Option.some.inj h; subst h
   exact plast mixed lives 50 (by kernel_rfl) (pk <| pb c4 <| pz) rfl
/-- alibi/kill.Begins -/
def kill_Begins (p : api_Program) : Option ((BitVec 32) × Int) :=
  bind (kill_gather_2 p) fun v1 =>
  if ((v1.1 : Int) != 0) = true then
    some (0#32, v1.1)
  else
    bind (kill_Begins_l6 v1.2 (0#32) ((((List.length v1.2) : Nat) : Int)) 0) fun v10 =>
    some (v10, 0)
theorem kill_Begins_ok (p : api_Program) (r : (BitVec 32) × Int) (h : kill_Begins p = some r) : Does Try.prog 50 [.agg [.pv (.int .i64 p.globals), .pv (.int .i64 p.locks), .pv (.int .i64 p.slots), .pv (.seq (List.length p.funcs) (encP e_61 ([] : List api_Node) p.funcs))]] [] (.tup [.pv (.int .u32 (BitVec.toNat r.1 : Nat)), .pv (.int .i64 r.2)], []) := by
 unfold kill_Begins at h
 obtain ⟨v1, h2, h⟩ := bind_of h
 rcases if_of h with ⟨c3, h⟩ | ⟨c3, h⟩
 · have h := Option.some.inj h; subst h
   exact pdoes mixed (L := lives) (by kernel_rfl) (pk2 <| pc (kill_gather_2_ok _ _ h2) <| pk2 <| pb c3 <| pz)
 · obtain ⟨v10, h11, h⟩ := bind_of h
   have h := Option.some.inj h; subst h
   exact pdoes mixed (L := lives) (by kernel_rfl) (pk2 <| pc (kill_gather_2_ok _ _ h2) <| pk2 <| pb c3 <| pk <| pl (kill_Begins_l6_ok _ _ _ _ _ h11) <| pz)
def o_str (x : ByteArray) : List AV := [.pv (.str x)]
/-- alibi/alibiref05.Row -/
def alibiref05_Row (kind : Int) : Option (ByteArray) :=
  if (decide ((kind : Int) < 0)) = true then
    some ((ByteArray.mk #[]))
  else
    if (decide ((kind : Int) > 9)) = true then
      some ((ByteArray.mk #[]))
    else
      if (decide ((0 : Int) ≤ kind)) = true then
        if (decide ((kind : Int) < (((List.length ([(ByteArray.mk #[45, 110, 45]), (ByteArray.mk #[103, 110, 45]), (ByteArray.mk #[103, 110, 45]), (ByteArray.mk #[108, 110, 45]), (ByteArray.mk #[108, 110, 45]), (ByteArray.mk #[102, 110, 115]), (ByteArray.mk #[115, 110, 45]), (ByteArray.mk #[102, 110, 45]), (ByteArray.mk #[45, 110, 110]), (ByteArray.mk #[45, 45, 45])])) : Nat) : Int))) = true then
          some (List.getD ([(ByteArray.mk #[45, 110, 45]), (ByteArray.mk #[103, 110, 45]), (ByteArray.mk #[103, 110, 45]), (ByteArray.mk #[108, 110, 45]), (ByteArray.mk #[108, 110, 45]), (ByteArray.mk #[102, 110, 115]), (ByteArray.mk #[115, 110, 45]), (ByteArray.mk #[102, 110, 45]), (ByteArray.mk #[45, 110, 110]), (ByteArray.mk #[45, 45, 45])]) (Int.toNat kind) ByteArray.empty)
        else none
      else none
theorem alibiref05_Row_ok (kind : Int) (r : ByteArray) (h : alibiref05_Row kind = some r) : Does Try.prog 120 [.pv (.int .i64 kind)] [] (.pv (.str r), []) := by
 unfold alibiref05_Row at h
 rcases if_of h with ⟨c1, h⟩ | ⟨c1, h⟩
 · have h := Option.some.inj h; subst h
   exact pdoes mixed (L := lives) (by kernel_rfl) (pk <| pb c1 <| pk3 <| pz)
 · rcases if_of h with ⟨c2, h⟩ | ⟨c2, h⟩
   · have h := Option.some.inj h; subst h
     exact pdoes mixed (L := lives) (by kernel_rfl) (pk <| pb c1 <| pk3 <| pb c2 <| pz)
   · obtain ⟨c3, h⟩ := need_of h
     obtain ⟨c4, h⟩ := need_of h
     have h := Option.some.inj h; subst h
     exact pdoes mixed (L := lives) (by kernel_rfl) (pk <| pb c1 <| pk3 <| pb c2 <| pe (eff_lit o_str ByteArray.empty 0 1 10 ([(ByteArray.mk #[45, 110, 45]), (ByteArray.mk #[103, 110, 45]), (ByteArray.mk #[103, 110, 45]), (ByteArray.mk #[108, 110, 45]), (ByteArray.mk #[108, 110, 45]), (ByteArray.mk #[102, 110, 115]), (ByteArray.mk #[115, 110, 45]), (ByteArray.mk #[102, 110, 45]), (ByteArray.mk #[45, 110, 110]), (ByteArray.mk #[45, 45, 45])]) rfl [] []) <| pn c3 <| pn c4 <| pk <| pz)
/-- alibi/alibiref05.size -/
def alibiref05_size (p : api_Program) (letter : BitVec 8) (nodes : Int) : Option (Int) :=
  if (letter == (103#8)) = true then
    some p.globals
  else
    if (letter == (108#8)) = true then
      some p.locks
    else
      if (letter == (115#8)) = true then
        some p.slots
      else
        if (letter == (102#8)) = true then
          some (((List.length p.funcs : Nat) : Int))
        else
          if (letter == (110#8)) = true then
            some (if 1 > nodes then 1 else nodes)
          else
            some 1
theorem alibiref05_size_ok (p : api_Program) (letter : BitVec 8) (nodes : Int) (r : Int) (h : alibiref05_size p letter nodes = some r) : Does Try.prog 121 [.agg [.pv (.int .i64 p.globals), .pv (.int .i64 p.locks), .pv (.int .i64 p.slots), .pv (.seq (List.length p.funcs) (encP e_61 ([] : List api_Node) p.funcs))], .pv (.int .u8 (BitVec.toNat letter : Nat)), .pv (.int .i64 nodes)] [] (.pv (.int .i64 r), []) := by
 unfold alibiref05_size at h
 rcases if_of h with ⟨c1, h⟩ | ⟨c1, h⟩
 · have h := Option.some.inj h; subst h
   exact pdoes mixed (L := lives) (by kernel_rfl) (pk <| pe (eff_bool (un_eql letter (103#8))) <| pb c1 <| pk <| pz)
 · rcases if_of h with ⟨c2, h⟩ | ⟨c2, h⟩
   · have h := Option.some.inj h; subst h
     exact pdoes mixed (L := lives) (by kernel_rfl) (pk <| pe (eff_bool (un_eql letter (103#8))) <| pb c1 <| pe (eff_bool (un_eql letter (108#8))) <| pb c2 <| pk <| pz)
   · rcases if_of h with ⟨c3, h⟩ | ⟨c3, h⟩
     · have h := Option.some.inj h; subst h
       exact pdoes mixed (L := lives) (by kernel_rfl) (pk <| pe (eff_bool (un_eql letter (103#8))) <| pb c1 <| pe (eff_bool (un_eql letter (108#8))) <| pb c2 <| pe (eff_bool (un_eql letter (115#8))) <| pb c3 <| pk <| pz)
     · rcases if_of h with ⟨c4, h⟩ | ⟨c4, h⟩
       · have h := Option.some.inj h; subst h
         exact pdoes mixed (L := lives) (by kernel_rfl) (pk <| pe (eff_bool (un_eql letter (103#8))) <| pb c1 <| pe (eff_bool (un_eql letter (108#8))) <| pb c2 <| pe (eff_bool (un_eql letter (115#8))) <| pb c3 <| pe (eff_bool (un_eql letter (102#8))) <| pb c4 <| pk2 <| pz)
       · rcases if_of h with ⟨c5, h⟩ | ⟨c5, h⟩
         · have h := Option.some.inj h; subst h
           exact pdoes mixed (L := lives) (by kernel_rfl) (pk <| pe (eff_bool (un_eql letter (103#8))) <| pb c1 <| pe (eff_bool (un_eql letter (108#8))) <| pb c2 <| pe (eff_bool (un_eql letter (115#8))) <| pb c3 <| pe (eff_bool (un_eql letter (102#8))) <| pb c4 <| pe (eff_bool (un_eql letter (110#8))) <| pb c5 <| pk <| pz)
         · have h := Option.some.inj h; subst h
           exact pdoes mixed (L := lives) (by kernel_rfl) (pk <| pe (eff_bool (un_eql letter (103#8))) <| pb c1 <| pe (eff_bool (un_eql letter (108#8))) <| pb c2 <| pe (eff_bool (un_eql letter (115#8))) <| pb c3 <| pe (eff_bool (un_eql letter (102#8))) <| pb c4 <| pe (eff_bool (un_eql letter (110#8))) <| pb c5 <| pz)
noncomputable def alibiref05_May_l6_c : Code := sub (codeOf Try.prog 82) [1, 1, 1, 1, 0, 1, 0, 0]
inductive alibiref05_May_l6_R where
  | x0 (v0 : Bool)
  | x1
def alibiref05_May_l6_R.ex : alibiref05_May_l6_R → Ex
  | .x0 _ => .ret
  | .x1 => .exit 0
noncomputable def alibiref05_May_l6_R.st (x0 : List Int) (x1 : Int) (x2 : Int) (x3 : Int) (x4 : List (List api_Node)) (x5 : Int) (x6 : ByteArray) (x7 : Int) : alibiref05_May_l6_R → St
  | .x0 v0 => ⟨(List.replicate 6 dead ++ (.pv (.bool v0) :: List.replicate 39 dead)), []⟩
  | .x1 => ⟨List.replicate 46 dead, []⟩
def alibiref05_May_l6 (x0 : List Int) (x1 : Int) (x2 : Int) (x3 : Int) (x4 : List (List api_Node)) (x5 : Int) (x6 : ByteArray) (x7 : Int) : Option (alibiref05_May_l6_R) :=
  if (decide ((x7 : Int) < 3)) = true then
    if (decide ((0 : Int) ≤ x7)) = true then
      if (decide ((x7 : Int) < ((ByteArray.size x6 : Nat) : Int))) = true then
        bind (alibiref05_size (api_Program.mk x1 x2 x3 x4) (byteAt x6 (Int.toNat x7)) x5) fun v7 =>
        if (decide ((x7 : Int) < (((List.length x0) : Nat) : Int))) = true then
          if (decide (((List.getD x0 (Int.toNat x7) 0) : Int) < 0)) = true then
            some (.x0 false)
          else
            if (decide (((List.getD x0 (Int.toNat x7) 0) : Int) ≥ v7)) = true then
              some (.x0 false)
            else
              alibiref05_May_l6 x0 x1 x2 x3 x4 x5 x6 (iAdd x7 1)
        else none
      else none
    else none
  else
    some (.x1)
partial_fixpoint
noncomputable abbrev alibiref05_May_l6_s (x0 : List Int) (x1 : Int) (x2 : Int) (x3 : Int) (x4 : List (List api_Node)) (x5 : Int) (x6 : ByteArray) (x7 : Int) : St := ⟨dead :: dead :: .pv (.int .i64 x5) :: .ptr 0 [] 0 0 :: dead :: dead :: dead :: .pv (.str x6) :: .ms 1 [] 0 (List.length x0) :: .pv (.int .i64 x7) :: List.replicate 36 dead, [.box 0 [.pv (.int .i64 x1), .pv (.int .i64 x2), .pv (.int .i64 x3), .pv (.seq (List.length x4) (encP e_61 ([] : List api_Node) x4))], .arr 0 1 (List.length x0) (encW o_i64 0 x0)]⟩
theorem alibiref05_May_l6_ok (x0 : List Int) (x1 : Int) (x2 : Int) (x3 : Int) (x4 : List (List api_Node)) (x5 : Int) (x6 : ByteArray) (x7 : Int) (r : alibiref05_May_l6_R) (h : alibiref05_May_l6 x0 x1 x2 x3 x4 x5 x6 x7 = some r) : Loops Try.prog alibiref05_May_l6_c 0 (alibiref05_May_l6_s x0 x1 x2 x3 x4 x5 x6 x7) r.ex (alibiref05_May_l6_R.st x0 x1 x2 x3 x4 x5 x6 x7 r) := by
 refine alibiref05_May_l6.partial_correctness x0 x1 x2 x3 x4 x5 x6 (fun x7 r => Loops Try.prog alibiref05_May_l6_c 0 (alibiref05_May_l6_s x0 x1 x2 x3 x4 x5 x6 x7) r.ex (alibiref05_May_l6_R.st x0 x1 x2 x3 x4 x5 x6 x7 r)) ?_ x7 r h
 clear h r x7
 intro self ih x7 r h
 rcases if_of h with ⟨c4, h⟩ | ⟨c4, h⟩
 · obtain ⟨c5, h⟩ := need_of h
   obtain ⟨c6, h⟩ := need_of h
   obtain ⟨v7, h8, h⟩ := bind_of h
   obtain ⟨c9, h⟩ := need_of h
   rcases if_of h with ⟨c10, h⟩ | ⟨c10, h⟩
   · have h := Option.some.inj h; subst h
     exact plast mixed lives 82 (by kernel_rfl) (pk <| pb c4 <| pk <| pn c5 <| pn c6 <| pk <| pc (alibiref05_size_ok _ _ _ _ h8) <| pk <| pn c5 <| pn c9 <| pk2 <| pb c10 <| pk7 <| pz) rfl
   · rcases if_of h with ⟨c11, h⟩ | ⟨c11, h⟩
     · have h := Option.some.inj h; subst h
       exact plast mixed lives 82 (by kernel_rfl) (pk <| pb c4 <| pk <| pn c5 <| pn c6 <| pk <| pc (alibiref05_size_ok _ _ _ _ h8) <| pk <| pn c5 <| pn c9 <| pk2 <| pb c10 <| pk2 <| pn c5 <| pn c9 <| pk6 <| pb c11 <| pz) rfl
     · exact pmore mixed lives 82 (by kernel_rfl) (pk <| pb c4 <| pk <| pn c5 <| pn c6 <| pk <| pc (alibiref05_size_ok _ _ _ _ h8) <| pk <| pn c5 <| pn c9 <| pk2 <| pb c10 <| pk2 <| pn c5 <| pn c9 <| pk6 <| pb c11 <| pk <| pz) (ih (iAdd x7 1) _ h)
 · have h := Option.some.inj h; subst h
   exact plast mixed lives 82 (by kernel_rfl) (pk <| pb c4 <| pz) rfl
/-- alibi/alibiref05.May -/
def alibiref05_May (p : api_Program) (n1 : api_Node) (nodes : Int) : Option (Bool) :=
  bind (alibiref05_Row n1.kind) fun v1 =>
  if (ByteArray.toList v1 == ByteArray.toList ((ByteArray.mk #[]))) = true then
    some false
  else
    bind (alibiref05_May_l6 ([n1.arg, n1.next, n1.alt]) p.globals p.locks p.slots p.funcs nodes v1 0) fun q => match q with
      | .x0 v12 =>
        some v12
      | .x1 =>
        some true
theorem alibiref05_May_ok (p : api_Program) (n1 : api_Node) (nodes : Int) (r : Bool) (h : alibiref05_May p n1 nodes = some r) : Does Try.prog 82 [.agg [.pv (.int .i64 p.globals), .pv (.int .i64 p.locks), .pv (.int .i64 p.slots), .pv (.seq (List.length p.funcs) (encP e_61 ([] : List api_Node) p.funcs))], .agg [.pv (.int .i64 n1.kind), .pv (.int .i64 n1.arg), .pv (.int .i64 n1.next), .pv (.int .i64 n1.alt)], .pv (.int .i64 nodes)] [] (.pv (.bool r), []) := by
 unfold alibiref05_May at h
 obtain ⟨v1, h2, h⟩ := bind_of h
 rcases if_of h with ⟨c3, h⟩ | ⟨c3, h⟩
 · have h := Option.some.inj h; subst h
   exact pdoes mixed (L := lives) (by kernel_rfl) (pk3 <| pc (alibiref05_Row_ok _ _ h2) <| pk2 <| pb c3 <| pz)
 · obtain ⟨q, hq, h⟩ := bind_of h
   cases q with
   | x0 v12 =>
    have h13 := hq; clear hq
    try dsimp only at h
    have h := Option.some.inj h; subst h
    exact pdoes mixed (L := lives) (by kernel_rfl) (pk3 <| pc (alibiref05_Row_ok _ _ h2) <| pk2 <| pb c3 <| pk3 <| pe (eff_lit o_i64 0 3 1 3 ([n1.arg, n1.next, n1.alt]) rfl [] []) <| pl (alibiref05_May_l6_ok _ _ _ _ _ _ _ _ _ h13) <| pz)
   | x1 =>
    have h14 := hq; clear hq
    try dsimp only at h
    have h := Option.some.inj h; subst h
    exact pdoes mixed (L := lives) (by kernel_rfl) (pk3 <| pc (alibiref05_Row_ok _ _ h2) <| pk2 <| pb c3 <| pk3 <| pe (eff_lit o_i64 0 3 1 3 ([n1.arg, n1.next, n1.alt]) rfl [] []) <| pl (alibiref05_May_l6_ok _ _ _ _ _ _ _ _ _ h14) <| pz)
noncomputable def alibiref05_Check_l14_c : Code := sub (codeOf Try.prog 41) [1, 1, 1, 1, 0, 1, 0, 0, 1, 0, 0, 1, 1, 1, 0, 0]
inductive alibiref05_Check_l14_R where
  | x0 (v0 : Int) (v1 : Int)
  | x1
def alibiref05_Check_l14_R.ex : alibiref05_Check_l14_R → Ex
  | .x0 _ _ => .ret
  | .x1 => .exit 2
noncomputable def alibiref05_Check_l14_R.st (x0 : Int) (x1 : Int) (x2 : Int) (x3 : List (List api_Node)) (x4 : Int) (x5 : Int) (x6 : Int) : alibiref05_Check_l14_R → St
  | .x0 v0 v1 => ⟨dead :: .ptr 0 [] 0 0 :: .pv (.int .i64 x5) :: .pv (.int .i64 v0) :: .pv (.int .i64 v1) :: .pv (.int .i64 x4) :: .pv (.int .i64 x5) :: List.replicate 139 dead, [.box 0 [.pv (.int .i64 x0), .pv (.int .i64 x1), .pv (.int .i64 x2), .pv (.seq (List.length x3) (encP e_61 ([] : List api_Node) x3))]]⟩
  | .x1 => ⟨dead :: .ptr 0 [] 0 0 :: dead :: dead :: dead :: .pv (.int .i64 x4) :: .pv (.int .i64 x5) :: List.replicate 139 dead, [.box 0 [.pv (.int .i64 x0), .pv (.int .i64 x1), .pv (.int .i64 x2), .pv (.seq (List.length x3) (encP e_61 ([] : List api_Node) x3))]]⟩
def alibiref05_Check_l14 (x0 : Int) (x1 : Int) (x2 : Int) (x3 : List (List api_Node)) (x4 : Int) (x5 : Int) (x6 : Int) : Option (alibiref05_Check_l14_R) :=
  if (decide ((0 : Int) ≤ x5)) = true then
    if (decide ((x5 : Int) < ((List.length x3 : Nat) : Int))) = true then
      if (decide ((x6 : Int) < (((List.length (List.getD x3 (Int.toNat x5) (([] : List api_Node))) : Nat) : Int)))) = true then
        if (decide ((0 : Int) ≤ x6)) = true then
          if (decide ((x6 : Int) < ((List.length (List.getD x3 (Int.toNat x5) (([] : List api_Node))) : Nat) : Int))) = true then
            bind (alibiref05_May (api_Program.mk x0 x1 x2 x3) (List.getD (List.getD x3 (Int.toNat x5) (([] : List api_Node))) (Int.toNat x6) d_api_Node) (((List.length (List.getD x3 (Int.toNat x5) (([] : List api_Node))) : Nat) : Int))) fun v19 =>
            if (!v19) = true then
              some (.x0 x6 3)
            else
              alibiref05_Check_l14 x0 x1 x2 x3 x4 x5 (iAdd x6 1)
          else none
        else none
      else
        some (.x1)
    else none
  else none
partial_fixpoint
noncomputable abbrev alibiref05_Check_l14_s (x0 : Int) (x1 : Int) (x2 : Int) (x3 : List (List api_Node)) (x4 : Int) (x5 : Int) (x6 : Int) : St := ⟨dead :: .ptr 0 [] 0 0 :: dead :: dead :: dead :: .pv (.int .i64 x4) :: .pv (.int .i64 x5) :: .pv (.int .i64 x6) :: List.replicate 138 dead, [.box 0 [.pv (.int .i64 x0), .pv (.int .i64 x1), .pv (.int .i64 x2), .pv (.seq (List.length x3) (encP e_61 ([] : List api_Node) x3))]]⟩
theorem alibiref05_Check_l14_ok (x0 : Int) (x1 : Int) (x2 : Int) (x3 : List (List api_Node)) (x4 : Int) (x5 : Int) (x6 : Int) (r : alibiref05_Check_l14_R) (h : alibiref05_Check_l14 x0 x1 x2 x3 x4 x5 x6 = some r) : Loops Try.prog alibiref05_Check_l14_c 0 (alibiref05_Check_l14_s x0 x1 x2 x3 x4 x5 x6) r.ex (alibiref05_Check_l14_R.st x0 x1 x2 x3 x4 x5 x6 r) := by
 refine alibiref05_Check_l14.partial_correctness x0 x1 x2 x3 x4 x5 (fun x6 r => Loops Try.prog alibiref05_Check_l14_c 0 (alibiref05_Check_l14_s x0 x1 x2 x3 x4 x5 x6) r.ex (alibiref05_Check_l14_R.st x0 x1 x2 x3 x4 x5 x6 r)) ?_ x6 r h
 clear h r x6
 intro self ih x6 r h
 obtain ⟨c14, h⟩ := need_of h
 obtain ⟨c15, h⟩ := need_of h
 rcases if_of h with ⟨c16, h⟩ | ⟨c16, h⟩
 · obtain ⟨c17, h⟩ := need_of h
   obtain ⟨c18, h⟩ := need_of h
   obtain ⟨v19, h20, h⟩ := bind_of h
   rcases if_of h with ⟨c21, h⟩ | ⟨c21, h⟩
   · have h := Option.some.inj h; subst h
     exact plast mixed lives 41 (by kernel_rfl) (pk <| pn c14 <| pn c15 <| pk3 <| pb c16 <| pk2 <| pn c14 <| pn c15 <| pk <| pn c17 <| pn c18 <| pk2 <| pn c14 <| pn c15 <| pk2 <| pc (alibiref05_May_ok _ _ _ _ h20) <| pk2 <| pb c21 <| pz) rfl
   · exact pmore mixed lives 41 (by kernel_rfl) (pk <| pn c14 <| pn c15 <| pk3 <| pb c16 <| pk2 <| pn c14 <| pn c15 <| pk <| pn c17 <| pn c18 <| pk2 <| pn c14 <| pn c15 <| pk2 <| pc (alibiref05_May_ok _ _ _ _ h20) <| pk2 <| pb c21 <| pk <| pz) (ih (iAdd x6 1) _ h)
 · have h := Option.some.inj h; subst h
   exact plast mixed lives 41 (by kernel_rfl) (pk <| pn c14 <| pn c15 <| pk3 <| pb c16 <| pz) rfl
noncomputable def alibiref05_Check_l7_c : Code := sub (codeOf Try.prog 41) [1, 1, 1, 1, 0, 1, 0, 0]
inductive alibiref05_Check_l7_R where
  | x0 (v0 : Int) (v1 : Int) (v2 : Int)
  | x1
def alibiref05_Check_l7_R.ex : alibiref05_Check_l7_R → Ex
  | .x0 _ _ _ => .ret
  | .x1 => .exit 0
noncomputable def alibiref05_Check_l7_R.st (x0 : Int) (x1 : Int) (x2 : Int) (x3 : List (List api_Node)) (x4 : Int) (x5 : Int) : alibiref05_Check_l7_R → St
  | .x0 v0 v1 v2 => ⟨dead :: .ptr 0 [] 0 0 :: .pv (.int .i64 v0) :: .pv (.int .i64 v1) :: .pv (.int .i64 v2) :: .pv (.int .i64 x4) :: List.replicate 140 dead, [.box 0 [.pv (.int .i64 x0), .pv (.int .i64 x1), .pv (.int .i64 x2), .pv (.seq (List.length x3) (encP e_61 ([] : List api_Node) x3))]]⟩
  | .x1 => ⟨dead :: .ptr 0 [] 0 0 :: dead :: dead :: dead :: .pv (.int .i64 x4) :: List.replicate 140 dead, [.box 0 [.pv (.int .i64 x0), .pv (.int .i64 x1), .pv (.int .i64 x2), .pv (.seq (List.length x3) (encP e_61 ([] : List api_Node) x3))]]⟩
def alibiref05_Check_l7 (x0 : Int) (x1 : Int) (x2 : Int) (x3 : List (List api_Node)) (x4 : Int) (x5 : Int) : Option (alibiref05_Check_l7_R) :=
  if (decide ((x5 : Int) < x4)) = true then
    if (decide ((0 : Int) ≤ x5)) = true then
      if (decide ((x5 : Int) < ((List.length x3 : Nat) : Int))) = true then
        if (((((List.length (List.getD x3 (Int.toNat x5) (([] : List api_Node))) : Nat) : Int)) : Int) == 0) = true then
          some (.x0 x5 ((-1)) 1)
        else
          if (decide (((((List.length (List.getD x3 (Int.toNat x5) (([] : List api_Node))) : Nat) : Int)) : Int) > 64)) = true then
            some (.x0 x5 ((-1)) 4)
          else
            bind (alibiref05_Check_l14 x0 x1 x2 x3 x4 x5 0) fun q => match q with
              | .x0 v22 v23 =>
                some (.x0 x5 v22 v23)
              | .x1 =>
                alibiref05_Check_l7 x0 x1 x2 x3 x4 (iAdd x5 1)
      else none
    else none
  else
    some (.x1)
partial_fixpoint
noncomputable abbrev alibiref05_Check_l7_s (x0 : Int) (x1 : Int) (x2 : Int) (x3 : List (List api_Node)) (x4 : Int) (x5 : Int) : St := ⟨dead :: .ptr 0 [] 0 0 :: dead :: dead :: dead :: .pv (.int .i64 x4) :: .pv (.int .i64 x5) :: List.replicate 139 dead, [.box 0 [.pv (.int .i64 x0), .pv (.int .i64 x1), .pv (.int .i64 x2), .pv (.seq (List.length x3) (encP e_61 ([] : List api_Node) x3))]]⟩
theorem alibiref05_Check_l7_ok (x0 : Int) (x1 : Int) (x2 : Int) (x3 : List (List api_Node)) (x4 : Int) (x5 : Int) (r : alibiref05_Check_l7_R) (h : alibiref05_Check_l7 x0 x1 x2 x3 x4 x5 = some r) : Loops Try.prog alibiref05_Check_l7_c 0 (alibiref05_Check_l7_s x0 x1 x2 x3 x4 x5) r.ex (alibiref05_Check_l7_R.st x0 x1 x2 x3 x4 x5 r) := by
 refine alibiref05_Check_l7.partial_correctness x0 x1 x2 x3 x4 (fun x5 r => Loops Try.prog alibiref05_Check_l7_c 0 (alibiref05_Check_l7_s x0 x1 x2 x3 x4 x5) r.ex (alibiref05_Check_l7_R.st x0 x1 x2 x3 x4 x5 r)) ?_ x5 r h
 clear h r x5
 intro self ih x5 r h
 rcases if_of h with ⟨c9, h⟩ | ⟨c9, h⟩
 · obtain ⟨c10, h⟩ := need_of h
   obtain ⟨c11, h⟩ := need_of h
   rcases if_of h with ⟨c12, h⟩ | ⟨c12, h⟩
   · have h := Option.some.inj h; subst h
     exact plast mixed lives 41 (by kernel_rfl) (pk <| pb c9 <| pk <| pn c10 <| pn c11 <| pk3 <| pb c12 <| pz) rfl
   · rcases if_of h with ⟨c13, h⟩ | ⟨c13, h⟩
     · have h := Option.some.inj h; subst h
       exact plast mixed lives 41 (by kernel_rfl) (pk <| pb c9 <| pk <| pn c10 <| pn c11 <| pk3 <| pb c12 <| pk <| pn c10 <| pn c11 <| pk3 <| pb c13 <| pz) rfl
     · obtain ⟨q, hq, h⟩ := bind_of h
       cases q with
       | x0 v22 v23 =>
        have h24 := hq; clear hq
        try dsimp only at h
        have h := Option.some.inj h; subst h
        exact plast mixed lives 41 (by kernel_rfl) (pk <| pb c9 <| pk <| pn c10 <| pn c11 <| pk3 <| pb c12 <| pk <| pn c10 <| pn c11 <| pk3 <| pb c13 <| pl (alibiref05_Check_l14_ok _ _ _ _ _ _ _ _ h24) <| pz) rfl
       | x1 =>
        have h25 := hq; clear hq
        try dsimp only at h
        exact pmore mixed lives 41 (by kernel_rfl) (pk <| pb c9 <| pk <| pn c10 <| pn c11 <| pk3 <| pb c12 <| pk <| pn c10 <| pn c11 <| pk3 <| pb c13 <| pl (alibiref05_Check_l14_ok _ _ _ _ _ _ _ _ h25) <| pk <| pz) (ih (iAdd x5 1) _ h)
 · have h := Option.some.inj h; subst h
   exact plast mixed lives 41 (by kernel_rfl) (pk <| pb c9 <| pz) rfl
def o_26 (x : List Int) : List AV := [.own 1 (List.length x) (encW o_i64 0 x)]
noncomputable def alibiref05_Calls_l8_c : Code := sub (codeOf Try.prog 83) [1, 1, 1, 0, 1, 0, 0, 1, 0, 0, 1, 0, 1, 0, 0]
def alibiref05_Calls_l8 (x0 : List (List Int)) (x1 : List Int) (x2 : Int) (x3 : Int) (x4 : Int) (x5 : List (List api_Node)) (x6 : Int) (x7 : Int) (x8 : Int) : Option ((List Int)) :=
  if (decide ((0 : Int) ≤ x7)) = true then
    if (decide ((x7 : Int) < ((List.length x5 : Nat) : Int))) = true then
      if (decide ((x8 : Int) < (((List.length (List.getD x5 (Int.toNat x7) (([] : List api_Node))) : Nat) : Int)))) = true then
        if (decide ((0 : Int) ≤ x8)) = true then
          if (decide ((x8 : Int) < ((List.length (List.getD x5 (Int.toNat x7) (([] : List api_Node))) : Nat) : Int))) = true then
            if ((((List.getD (List.getD x5 (Int.toNat x7) (([] : List api_Node))) (Int.toNat x8) d_api_Node).kind) : Int) == 7) = true then
              if (decide ((0 : Int) ≤ ((List.getD (List.getD x5 (Int.toNat x7) (([] : List api_Node))) (Int.toNat x8) d_api_Node).arg))) = true then
                if (decide ((((List.getD (List.getD x5 (Int.toNat x7) (([] : List api_Node))) (Int.toNat x8) d_api_Node).arg) : Int) < (((List.length x1) : Nat) : Int))) = true then
                  alibiref05_Calls_l8 x0 (List.set x1 (Int.toNat ((List.getD (List.getD x5 (Int.toNat x7) (([] : List api_Node))) (Int.toNat x8) d_api_Node).arg)) 1) x2 x3 x4 x5 x6 x7 (iAdd x8 1)
                else none
              else none
            else
              alibiref05_Calls_l8 x0 x1 x2 x3 x4 x5 x6 x7 (iAdd x8 1)
          else none
        else none
      else
        some x1
    else none
  else none
partial_fixpoint
noncomputable abbrev alibiref05_Calls_l8_s (x0 : List (List Int)) (x1 : List Int) (x2 : Int) (x3 : Int) (x4 : Int) (x5 : List (List api_Node)) (x6 : Int) (x7 : Int) (x8 : Int) : St := ⟨dead :: .ptr 0 [] 0 0 :: dead :: .pv (.int .i64 x6) :: .ms 1 [] 0 (List.length x0) :: .pv (.int .i64 x7) :: .ms 2 [] 0 (List.length x1) :: .pv (.int .i64 x8) :: List.replicate 88 dead, [.box 0 [.pv (.int .i64 x2), .pv (.int .i64 x3), .pv (.int .i64 x4), .pv (.seq (List.length x5) (encP e_61 ([] : List api_Node) x5))], .arr 0 1 (List.length x0) (encW o_26 ([] : List Int) x0), .arr 0 1 (List.length x1) (encW o_i64 0 x1)]⟩
noncomputable abbrev alibiref05_Calls_l8_e (x0 : List (List Int)) (x1 : List Int) (x2 : Int) (x3 : Int) (x4 : Int) (x5 : List (List api_Node)) (x6 : Int) (x7 : Int) (x8 : Int) (r : (List Int)) : St := ⟨dead :: .ptr 0 [] 0 0 :: dead :: .pv (.int .i64 x6) :: .ms 1 [] 0 (List.length x0) :: .pv (.int .i64 x7) :: .ms 2 [] 0 (List.length r) :: List.replicate 89 dead, [.box 0 [.pv (.int .i64 x2), .pv (.int .i64 x3), .pv (.int .i64 x4), .pv (.seq (List.length x5) (encP e_61 ([] : List api_Node) x5))], .arr 0 1 (List.length x0) (encW o_26 ([] : List Int) x0), .arr 0 1 (List.length r) (encW o_i64 0 r)]⟩
theorem alibiref05_Calls_l8_ok (x0 : List (List Int)) (x1 : List Int) (x2 : Int) (x3 : Int) (x4 : Int) (x5 : List (List api_Node)) (x6 : Int) (x7 : Int) (x8 : Int) (r : (List Int)) (h : alibiref05_Calls_l8 x0 x1 x2 x3 x4 x5 x6 x7 x8 = some r) : Loops Try.prog alibiref05_Calls_l8_c 0 (alibiref05_Calls_l8_s x0 x1 x2 x3 x4 x5 x6 x7 x8) (.exit 2) (alibiref05_Calls_l8_e x0 x1 x2 x3 x4 x5 x6 x7 x8 r) := by
 refine alibiref05_Calls_l8.partial_correctness x0 x2 x3 x4 x5 x6 x7 (fun x1 x8 r => Loops Try.prog alibiref05_Calls_l8_c 0 (alibiref05_Calls_l8_s x0 x1 x2 x3 x4 x5 x6 x7 x8) (.exit 2) (alibiref05_Calls_l8_e x0 x1 x2 x3 x4 x5 x6 x7 x8 r)) ?_ x1 x8 r h
 clear h r x1 x8
 intro self ih x1 x8 r h
 obtain ⟨c4, h⟩ := need_of h
 obtain ⟨c5, h⟩ := need_of h
 rcases if_of h with ⟨c6, h⟩ | ⟨c6, h⟩
 · obtain ⟨c7, h⟩ := need_of h
   obtain ⟨c8, h⟩ := need_of h
   rcases if_of h with ⟨c9, h⟩ | ⟨c9, h⟩
   · obtain ⟨c10, h⟩ := need_of h
     obtain ⟨c11, h⟩ := need_of h
     exact pmore mixed lives 83 (by kernel_rfl) (pk <| pn c4 <| pn c5 <| pk3 <| pb c6 <| pk <| pn c4 <| pn c5 <| pk <| pn c7 <| pn c8 <| pk2 <| pb c9 <| pk <| pn c4 <| pn c5 <| pk <| pn c7 <| pn c8 <| pk <| pn c10 <| pn c11 <| pt <| pe (eff_hb (v := dead) (b := 2) (hb := []) (sc := []) (put_top o_i64 0 0 1 (List.length x1) x1 (Int.toNat ((List.getD (List.getD x5 (Int.toNat x7) (([] : List api_Node))) (Int.toNat x8) d_api_Node).arg)) 0 [.pv (.int .i64 1)] 1 (by kernel_rfl) (by first | exact Nat.le_refl _ | exact Nat.zero_le _ | (simp only [decide_eq_true_eq, List.length_set, List.length_append, List.length_replicate, List.length_cons, List.length_nil, Nat.zero_add] at * <;> omega)))) <| pk <| pz) (Loops.of (s1 := ⟨dead :: .ptr 0 [] 0 0 :: dead :: .pv (.int .i64 x6) :: .ms 1 [] 0 (List.length x0) :: .pv (.int .i64 x7) :: .ms 2 [] 0 (List.length x1) :: .pv (.int .i64 (iAdd x8 1)) :: List.replicate 88 dead, [.box 0 [.pv (.int .i64 x2), .pv (.int .i64 x3), .pv (.int .i64 x4), .pv (.seq (List.length x5) (encP e_61 ([] : List api_Node) x5))], .arr 0 1 (List.length x0) (encW o_26 ([] : List Int) x0), .arr 0 1 (List.length x1) (encW o_i64 0 (List.set x1 (Int.toNat ((List.getD (List.getD x5 (Int.toNat x7) (([] : List api_Node))) (Int.toNat x8) d_api_Node).arg)) 1))]⟩) (ih (List.set x1 (Int.toNat ((List.getD (List.getD x5 (Int.toNat x7) (([] : List api_Node))) (Int.toNat x8) d_api_Node).arg)) 1) (iAdd x8 1) _ h) (by (first | rfl | (simp only [alibiref05_Calls_l8_s, List.length_set]; done))))
   · exact pmore mixed lives 83 (by kernel_rfl) (pk <| pn c4 <| pn c5 <| pk3 <| pb c6 <| pk <| pn c4 <| pn c5 <| pk <| pn c7 <| pn c8 <| pk2 <| pb c9 <| pk <| pz) (ih x1 (iAdd x8 1) _ h)
 · have h := Option.some.inj h; subst h
   exact plast mixed lives 83 (by kernel_rfl) (pk <| pn c4 <| pn c5 <| pk3 <| pb c6 <| pz) rfl
noncomputable def alibiref05_Calls_l4_c : Code := sub (codeOf Try.prog 83) [1, 1, 1, 0, 1, 0, 0]
def alibiref05_Calls_l4 (x0 : List (List Int)) (x1 : Int) (x2 : Int) (x3 : Int) (x4 : List (List api_Node)) (x5 : Int) (x6 : Int) : Option ((List (List Int))) :=
  if (decide ((x6 : Int) < x5)) = true then
    if (decide ((0 : Int) ≤ x5)) = true then
      if (decide ((x5 : Int) * ((8 : Nat) : Int) ≤ ((reach : Nat) : Int))) = true then
        bind (alibiref05_Calls_l8 x0 (List.replicate (Int.toNat x5) (0 : Int)) x1 x2 x3 x4 x5 x6 0) fun v12 =>
        if (Nat.ble ((List.length x0 + List.length ([v12])) * 24) reach) = true then
          alibiref05_Calls_l4 (x0 ++ ([v12])) x1 x2 x3 x4 x5 (iAdd x6 1)
        else none
      else none
    else none
  else
    some x0
partial_fixpoint
noncomputable abbrev alibiref05_Calls_l4_s (x0 : List (List Int)) (x1 : Int) (x2 : Int) (x3 : Int) (x4 : List (List api_Node)) (x5 : Int) (x6 : Int) : St := ⟨dead :: .ptr 0 [] 0 0 :: dead :: .pv (.int .i64 x5) :: .ms 1 [] 0 (List.length x0) :: .pv (.int .i64 x6) :: List.replicate 90 dead, [.box 0 [.pv (.int .i64 x1), .pv (.int .i64 x2), .pv (.int .i64 x3), .pv (.seq (List.length x4) (encP e_61 ([] : List api_Node) x4))], .arr 0 1 (List.length x0) (encW o_26 ([] : List Int) x0)]⟩
noncomputable abbrev alibiref05_Calls_l4_e (x0 : List (List Int)) (x1 : Int) (x2 : Int) (x3 : Int) (x4 : List (List api_Node)) (x5 : Int) (x6 : Int) (r : (List (List Int))) : St := ⟨dead :: dead :: dead :: .pv (.int .i64 x5) :: .ms 0 [] 0 (List.length r) :: List.replicate 91 dead, [.arr 0 1 (List.length r) (encW o_26 ([] : List Int) r)]⟩
theorem alibiref05_Calls_l4_ok (x0 : List (List Int)) (x1 : Int) (x2 : Int) (x3 : Int) (x4 : List (List api_Node)) (x5 : Int) (x6 : Int) (r : (List (List Int))) (h : alibiref05_Calls_l4 x0 x1 x2 x3 x4 x5 x6 = some r) : Loops Try.prog alibiref05_Calls_l4_c 0 (alibiref05_Calls_l4_s x0 x1 x2 x3 x4 x5 x6) (.exit 0) (alibiref05_Calls_l4_e x0 x1 x2 x3 x4 x5 x6 r) := by
 refine alibiref05_Calls_l4.partial_correctness x1 x2 x3 x4 x5 (fun x0 x6 r => Loops Try.prog alibiref05_Calls_l4_c 0 (alibiref05_Calls_l4_s x0 x1 x2 x3 x4 x5 x6) (.exit 0) (alibiref05_Calls_l4_e x0 x1 x2 x3 x4 x5 x6 r)) ?_ x0 x6 r h
 clear h r x0 x6
 intro self ih x0 x6 r h
 rcases if_of h with ⟨c1, h⟩ | ⟨c1, h⟩
 · obtain ⟨c2, h⟩ := need_of h
   obtain ⟨c3, h⟩ := need_of h
   obtain ⟨v12, h13, h⟩ := bind_of h
   obtain ⟨c14, h⟩ := need_of h
   exact pmore mixed lives 83 (by kernel_rfl) (pk <| pb c1 <| pn c2 <| pn ((decide_eq_true rfl) : (decide ((x5 : Int) = x5)) = true) <| pn c3 <| pe (eff_make o_i64 0 2 1 (Int.toNat x5)) <| pl (alibiref05_Calls_l8_ok _ _ _ _ _ _ _ _ _ _ h13) <| pb (whole_ok (List.length v12)) <| pe (eff_lit o_26 (([] : List Int)) 3 1 1 ([v12]) rfl [(2, .gone)] [(2, false)]) <| pb (whole_ok (List.length ([v12]))) <| pn c14 <| pe (eff_app o_26 (([] : List Int)) x0 ([v12]) (x0 ++ ([v12])) 1 1 (List.length x0) (List.length ([v12])) (encW o_26 (([] : List Int)) ([v12])) (encW o_26 (([] : List Int)) x0 (List.length x0)) [] [(3, .gone)] [(1, false), (3, false)] (by first | exact Nat.le_refl _ | exact Nat.zero_le _ | (simp only [decide_eq_true_eq, List.length_set, List.length_append, List.length_replicate, List.length_cons, List.length_nil, Nat.zero_add] at * <;> omega)) rfl (fun _ => rfl) (congrArg o_26 (getD_ge (([] : List Int)) (by first | exact Nat.le_refl _ | exact Nat.zero_le _ | (simp only [decide_eq_true_eq, List.length_set, List.length_append, List.length_replicate, List.length_cons, List.length_nil, Nat.zero_add] at * <;> omega)))) (by rw [List.take_of_length_le (by first | exact Nat.le_refl _ | exact Nat.zero_le _ | (simp only [decide_eq_true_eq, List.length_set, List.length_append, List.length_replicate, List.length_cons, List.length_nil, Nat.zero_add] at * <;> omega))])) <| pk <| pz) (ih (x0 ++ ([v12])) (iAdd x6 1) _ h)
 · have h := Option.some.inj h; subst h
   exact plast mixed lives 83 (by kernel_rfl) (pk <| pb c1 <| pz) rfl
noncomputable def alibiref05_Calls_l20_c : Code := sub (codeOf Try.prog 83) [1, 1, 1, 1, 0, 1, 0, 0, 1, 0, 0, 1, 0, 0, 1, 0, 0, 1, 0, 0]
def alibiref05_Calls_l20 (x0 : List (List Int)) (x1 : Int) (x2 : Int) (x3 : Int) (x4 : Int) : Option ((List (List Int))) :=
  if (decide ((x4 : Int) < x1)) = true then
    if (decide ((0 : Int) ≤ x3)) = true then
      if (decide ((x3 : Int) < (((List.length x0) : Nat) : Int))) = true then
        if (decide ((0 : Int) ≤ x2)) = true then
          if (decide ((x2 : Int) < (((List.length (List.getD x0 (Int.toNat x3) (([] : List Int)))) : Nat) : Int))) = true then
            if (((List.getD (List.getD x0 (Int.toNat x3) (([] : List Int))) (Int.toNat x2) 0) : Int) == 1) = true then
              if (decide ((x2 : Int) < (((List.length x0) : Nat) : Int))) = true then
                if (decide ((0 : Int) ≤ x4)) = true then
                  if (decide ((x4 : Int) < (((List.length (List.getD x0 (Int.toNat x2) (([] : List Int)))) : Nat) : Int))) = true then
                    if (((List.getD (List.getD x0 (Int.toNat x2) (([] : List Int))) (Int.toNat x4) 0) : Int) == 1) = true then
                      if (decide ((x4 : Int) < (((List.length (List.getD x0 (Int.toNat x3) (([] : List Int)))) : Nat) : Int))) = true then
                        alibiref05_Calls_l20 (List.set x0 (Int.toNat x3) (List.set (List.getD x0 (Int.toNat x3) (([] : List Int))) (Int.toNat x4) 1)) x1 x2 x3 (iAdd x4 1)
                      else none
                    else
                      alibiref05_Calls_l20 x0 x1 x2 x3 (iAdd x4 1)
                  else none
                else none
              else none
            else
              alibiref05_Calls_l20 x0 x1 x2 x3 (iAdd x4 1)
          else none
        else none
      else none
    else none
  else
    some x0
partial_fixpoint
noncomputable abbrev alibiref05_Calls_l20_s (x0 : List (List Int)) (x1 : Int) (x2 : Int) (x3 : Int) (x4 : Int) : St := ⟨dead :: dead :: dead :: .pv (.int .i64 x1) :: .ms 0 [] 0 (List.length x0) :: dead :: dead :: dead :: .pv (.int .i64 x2) :: .pv (.int .i64 x3) :: .pv (.int .i64 x4) :: List.replicate 85 dead, [.arr 0 1 (List.length x0) (encW o_26 ([] : List Int) x0)]⟩
noncomputable abbrev alibiref05_Calls_l20_e (x0 : List (List Int)) (x1 : Int) (x2 : Int) (x3 : Int) (x4 : Int) (r : (List (List Int))) : St := ⟨dead :: dead :: dead :: .pv (.int .i64 x1) :: .ms 0 [] 0 (List.length r) :: dead :: dead :: dead :: .pv (.int .i64 x2) :: .pv (.int .i64 x3) :: List.replicate 86 dead, [.arr 0 1 (List.length r) (encW o_26 ([] : List Int) r)]⟩
theorem alibiref05_Calls_l20_ok (x0 : List (List Int)) (x1 : Int) (x2 : Int) (x3 : Int) (x4 : Int) (r : (List (List Int))) (h : alibiref05_Calls_l20 x0 x1 x2 x3 x4 = some r) : Loops Try.prog alibiref05_Calls_l20_c 0 (alibiref05_Calls_l20_s x0 x1 x2 x3 x4) (.exit 8) (alibiref05_Calls_l20_e x0 x1 x2 x3 x4 r) := by
 refine alibiref05_Calls_l20.partial_correctness x1 x2 x3 (fun x0 x4 r => Loops Try.prog alibiref05_Calls_l20_c 0 (alibiref05_Calls_l20_s x0 x1 x2 x3 x4) (.exit 8) (alibiref05_Calls_l20_e x0 x1 x2 x3 x4 r)) ?_ x0 x4 r h
 clear h r x0 x4
 intro self ih x0 x4 r h
 rcases if_of h with ⟨c19, h⟩ | ⟨c19, h⟩
 · obtain ⟨c20, h⟩ := need_of h
   obtain ⟨c21, h⟩ := need_of h
   obtain ⟨c22, h⟩ := need_of h
   obtain ⟨c23, h⟩ := need_of h
   rcases if_of h with ⟨c24, h⟩ | ⟨c24, h⟩
   · obtain ⟨c25, h⟩ := need_of h
     obtain ⟨c26, h⟩ := need_of h
     obtain ⟨c27, h⟩ := need_of h
     rcases if_of h with ⟨c28, h⟩ | ⟨c28, h⟩
     · obtain ⟨c29, h⟩ := need_of h
       exact pmore mixed lives 83 (by kernel_rfl) (pk <| pb c19 <| pn c20 <| pn c21 <| pk <| pn c22 <| pn c23 <| pk2 <| pb c24 <| pk2 <| pn c22 <| pn c25 <| pk4 <| pn c26 <| pn c27 <| pk5 <| pb c28 <| pn c20 <| pn c21 <| pk <| pn c26 <| pn c29 <| pt <| pe (eff_hb (v := dead) (b := 0) (hb := []) (sc := []) (put_in o_26 (([] : List Int)) 0 1 (List.length x0) x0 (Int.toNat x3) 0 o_i64 0 1 (List.getD x0 (Int.toNat x3) (([] : List Int))) (Int.toNat x4) 0 [.pv (.int .i64 1)] 1 (List.set (List.getD x0 (Int.toNat x3) (([] : List Int))) (Int.toNat x4) 1) (by kernel_rfl) (by kernel_rfl) (by kernel_rfl) (by first | exact Nat.le_refl _ | exact Nat.zero_le _ | (simp only [decide_eq_true_eq, List.length_set, List.length_append, List.length_replicate, List.length_cons, List.length_nil, Nat.zero_add] at * <;> omega)) (by first | exact Nat.le_refl _ | exact Nat.zero_le _ | (simp only [decide_eq_true_eq, List.length_set, List.length_append, List.length_replicate, List.length_cons, List.length_nil, Nat.zero_add] at * <;> omega)))) <| pk <| pz) (Loops.of (s1 := ⟨dead :: dead :: dead :: .pv (.int .i64 x1) :: .ms 0 [] 0 (List.length x0) :: dead :: dead :: dead :: .pv (.int .i64 x2) :: .pv (.int .i64 x3) :: .pv (.int .i64 (iAdd x4 1)) :: List.replicate 85 dead, [.arr 0 1 (List.length x0) (encW o_26 ([] : List Int) (List.set x0 (Int.toNat x3) (List.set (List.getD x0 (Int.toNat x3) (([] : List Int))) (Int.toNat x4) 1)))]⟩) (ih (List.set x0 (Int.toNat x3) (List.set (List.getD x0 (Int.toNat x3) (([] : List Int))) (Int.toNat x4) 1)) (iAdd x4 1) _ h) (by (first | rfl | (simp only [alibiref05_Calls_l20_s, List.length_set]; done))))
     · exact pmore mixed lives 83 (by kernel_rfl) (pk <| pb c19 <| pn c20 <| pn c21 <| pk <| pn c22 <| pn c23 <| pk2 <| pb c24 <| pk2 <| pn c22 <| pn c25 <| pk4 <| pn c26 <| pn c27 <| pk5 <| pb c28 <| pk <| pz) (ih x0 (iAdd x4 1) _ h)
   · exact pmore mixed lives 83 (by kernel_rfl) (pk <| pb c19 <| pn c20 <| pn c21 <| pk <| pn c22 <| pn c23 <| pk2 <| pb c24 <| pk8 <| pk2 <| pz) (ih x0 (iAdd x4 1) _ h)
 · have h := Option.some.inj h; subst h
   exact plast mixed lives 83 (by kernel_rfl) (pk <| pb c19 <| pz) rfl
noncomputable def alibiref05_Calls_l17_c : Code := sub (codeOf Try.prog 83) [1, 1, 1, 1, 0, 1, 0, 0, 1, 0, 0, 1, 0, 0]
def alibiref05_Calls_l17 (x0 : List (List Int)) (x1 : Int) (x2 : Int) (x3 : Int) : Option ((List (List Int))) :=
  if (decide ((x3 : Int) < x1)) = true then
    bind (alibiref05_Calls_l20 x0 x1 x2 x3 0) fun v30 =>
    alibiref05_Calls_l17 v30 x1 x2 (iAdd x3 1)
  else
    some x0
partial_fixpoint
noncomputable abbrev alibiref05_Calls_l17_s (x0 : List (List Int)) (x1 : Int) (x2 : Int) (x3 : Int) : St := ⟨dead :: dead :: dead :: .pv (.int .i64 x1) :: .ms 0 [] 0 (List.length x0) :: dead :: dead :: dead :: .pv (.int .i64 x2) :: .pv (.int .i64 x3) :: List.replicate 86 dead, [.arr 0 1 (List.length x0) (encW o_26 ([] : List Int) x0)]⟩
noncomputable abbrev alibiref05_Calls_l17_e (x0 : List (List Int)) (x1 : Int) (x2 : Int) (x3 : Int) (r : (List (List Int))) : St := ⟨dead :: dead :: dead :: .pv (.int .i64 x1) :: .ms 0 [] 0 (List.length r) :: dead :: dead :: dead :: .pv (.int .i64 x2) :: List.replicate 87 dead, [.arr 0 1 (List.length r) (encW o_26 ([] : List Int) r)]⟩
theorem alibiref05_Calls_l17_ok (x0 : List (List Int)) (x1 : Int) (x2 : Int) (x3 : Int) (r : (List (List Int))) (h : alibiref05_Calls_l17 x0 x1 x2 x3 = some r) : Loops Try.prog alibiref05_Calls_l17_c 0 (alibiref05_Calls_l17_s x0 x1 x2 x3) (.exit 6) (alibiref05_Calls_l17_e x0 x1 x2 x3 r) := by
 refine alibiref05_Calls_l17.partial_correctness x1 x2 (fun x0 x3 r => Loops Try.prog alibiref05_Calls_l17_c 0 (alibiref05_Calls_l17_s x0 x1 x2 x3) (.exit 6) (alibiref05_Calls_l17_e x0 x1 x2 x3 r)) ?_ x0 x3 r h
 clear h r x0 x3
 intro self ih x0 x3 r h
 rcases if_of h with ⟨c18, h⟩ | ⟨c18, h⟩
 · obtain ⟨v30, h31, h⟩ := bind_of h
   exact pmore mixed lives 83 (by kernel_rfl) (pk <| pb c18 <| pl (alibiref05_Calls_l20_ok _ _ _ _ _ _ h31) <| pk <| pz) (ih v30 (iAdd x3 1) _ h)
 · have h := Option.some.inj h; subst h
   exact plast mixed lives 83 (by kernel_rfl) (pk <| pb c18 <| pz) rfl
noncomputable def alibiref05_Calls_l14_c : Code := sub (codeOf Try.prog 83) [1, 1, 1, 1, 0, 1, 0, 0]
def alibiref05_Calls_l14 (x0 : List (List Int)) (x1 : Int) (x2 : Int) : Option ((List (List Int))) :=
  if (decide ((x2 : Int) < x1)) = true then
    bind (alibiref05_Calls_l17 x0 x1 x2 0) fun v32 =>
    alibiref05_Calls_l14 v32 x1 (iAdd x2 1)
  else
    some x0
partial_fixpoint
noncomputable abbrev alibiref05_Calls_l14_s (x0 : List (List Int)) (x1 : Int) (x2 : Int) : St := ⟨dead :: dead :: dead :: .pv (.int .i64 x1) :: .ms 0 [] 0 (List.length x0) :: dead :: dead :: dead :: .pv (.int .i64 x2) :: List.replicate 87 dead, [.arr 0 1 (List.length x0) (encW o_26 ([] : List Int) x0)]⟩
noncomputable abbrev alibiref05_Calls_l14_e (x0 : List (List Int)) (x1 : Int) (x2 : Int) (r : (List (List Int))) : St := ⟨(List.replicate 4 dead ++ (.ms 0 [] 0 (List.length r) :: List.replicate 91 dead)), [.arr 0 1 (List.length r) (encW o_26 ([] : List Int) r)]⟩
theorem alibiref05_Calls_l14_ok (x0 : List (List Int)) (x1 : Int) (x2 : Int) (r : (List (List Int))) (h : alibiref05_Calls_l14 x0 x1 x2 = some r) : Loops Try.prog alibiref05_Calls_l14_c 0 (alibiref05_Calls_l14_s x0 x1 x2) (.exit 4) (alibiref05_Calls_l14_e x0 x1 x2 r) := by
 refine alibiref05_Calls_l14.partial_correctness x1 (fun x0 x2 r => Loops Try.prog alibiref05_Calls_l14_c 0 (alibiref05_Calls_l14_s x0 x1 x2) (.exit 4) (alibiref05_Calls_l14_e x0 x1 x2 r)) ?_ x0 x2 r h
 clear h r x0 x2
 intro self ih x0 x2 r h
 rcases if_of h with ⟨c17, h⟩ | ⟨c17, h⟩
 · obtain ⟨v32, h33, h⟩ := bind_of h
   exact pmore mixed lives 83 (by kernel_rfl) (pk <| pb c17 <| pl (alibiref05_Calls_l17_ok _ _ _ _ _ h33) <| pk <| pz) (ih v32 (iAdd x2 1) _ h)
 · have h := Option.some.inj h; subst h
   exact plast mixed lives 83 (by kernel_rfl) (pk <| pb c17 <| pz) rfl
/-- alibi/alibiref05.Calls -/
def alibiref05_Calls (p : api_Program) : Option ((List (List Int))) :=
  bind (alibiref05_Calls_l4 (([] : List (List Int))) p.globals p.locks p.slots p.funcs (((List.length p.funcs : Nat) : Int)) 0) fun v15 =>
  bind (alibiref05_Calls_l14 v15 (((List.length p.funcs : Nat) : Int)) 0) fun v34 =>
  some v34
theorem alibiref05_Calls_ok (p : api_Program) (r : (List (List Int))) (h : alibiref05_Calls p = some r) : Does Try.prog 83 [.agg [.pv (.int .i64 p.globals), .pv (.int .i64 p.locks), .pv (.int .i64 p.slots), .pv (.seq (List.length p.funcs) (encP e_61 ([] : List api_Node) p.funcs))]] [] (.ms 0 [] 0 (List.length r), [.arr 0 1 (List.length r) (encW o_26 ([] : List Int) r)]) := by
 unfold alibiref05_Calls at h
 obtain ⟨v15, h16, h⟩ := bind_of h
 obtain ⟨v34, h35, h⟩ := bind_of h
 have h := Option.some.inj h; subst h
 exact pdoes mixed (L := lives) (by kernel_rfl) (pk3 <| pl (Loops.of (s1 := ⟨dead :: .ptr 0 [] 0 0 :: dead :: .pv (.int .i64 (((List.length p.funcs : Nat) : Int))) :: .ms 1 [] 0 (List.length ([] : List (List Int))) :: .pv (.int .i64 0) :: List.replicate 90 dead, [.box 0 [.pv (.int .i64 p.globals), .pv (.int .i64 p.locks), .pv (.int .i64 p.slots), .pv (.seq (List.length p.funcs) (encP e_61 ([] : List api_Node) p.funcs))], .arr 0 1 (List.length ([] : List (List Int))) (encW o_26 ([] : List Int) (([] : List (List Int))))]⟩) (alibiref05_Calls_l4_ok _ _ _ _ _ _ _ _ h16) (by (first | rfl | (simp only [alibiref05_Calls_l4_s, List.length_set]; done)))) <| pl (alibiref05_Calls_l14_ok _ _ _ _ h35) <| pz)
noncomputable def alibiref05_Check_l23_c : Code := sub (codeOf Try.prog 41) [1, 1, 1, 1, 1, 1, 0, 1, 0, 0, 1, 0, 0, 1, 0, 0]
inductive alibiref05_Check_l23_R where
  | x0 (v0 : Int) (v1 : Int)
  | x1
def alibiref05_Check_l23_R.ex : alibiref05_Check_l23_R → Ex
  | .x0 _ _ => .ret
  | .x1 => .exit 6
noncomputable def alibiref05_Check_l23_R.st (x0 : List (List Int)) (x1 : Int) (x2 : Int) (x3 : Int) (x4 : List (List api_Node)) (x5 : Int) (x6 : Int) (x7 : Int) : alibiref05_Check_l23_R → St
  | .x0 v0 v1 => ⟨dead :: .ptr 0 [] 0 0 :: .pv (.int .i64 x6) :: .pv (.int .i64 v0) :: .pv (.int .i64 v1) :: .pv (.int .i64 x5) :: dead :: dead :: .ms 1 [] 0 (List.length x0) :: .pv (.int .i64 x6) :: List.replicate 136 dead, [.box 0 [.pv (.int .i64 x1), .pv (.int .i64 x2), .pv (.int .i64 x3), .pv (.seq (List.length x4) (encP e_61 ([] : List api_Node) x4))], .arr 0 1 (List.length x0) (encW o_26 ([] : List Int) x0)]⟩
  | .x1 => ⟨dead :: .ptr 0 [] 0 0 :: dead :: dead :: dead :: .pv (.int .i64 x5) :: dead :: dead :: .ms 1 [] 0 (List.length x0) :: .pv (.int .i64 x6) :: List.replicate 136 dead, [.box 0 [.pv (.int .i64 x1), .pv (.int .i64 x2), .pv (.int .i64 x3), .pv (.seq (List.length x4) (encP e_61 ([] : List api_Node) x4))], .arr 0 1 (List.length x0) (encW o_26 ([] : List Int) x0)]⟩
def alibiref05_Check_l23 (x0 : List (List Int)) (x1 : Int) (x2 : Int) (x3 : Int) (x4 : List (List api_Node)) (x5 : Int) (x6 : Int) (x7 : Int) : Option (alibiref05_Check_l23_R) :=
  if (decide ((0 : Int) ≤ x6)) = true then
    if (decide ((x6 : Int) < ((List.length x4 : Nat) : Int))) = true then
      if (decide ((x7 : Int) < (((List.length (List.getD x4 (Int.toNat x6) (([] : List api_Node))) : Nat) : Int)))) = true then
        if (decide ((0 : Int) ≤ x7)) = true then
          if (decide ((x7 : Int) < ((List.length (List.getD x4 (Int.toNat x6) (([] : List api_Node))) : Nat) : Int))) = true then
            if ((((List.getD (List.getD x4 (Int.toNat x6) (([] : List api_Node))) (Int.toNat x7) d_api_Node).kind) : Int) == 7) = true then
              if ((((List.getD (List.getD x4 (Int.toNat x6) (([] : List api_Node))) (Int.toNat x7) d_api_Node).arg) : Int) == x6) = true then
                some (.x0 x7 8)
              else
                if (decide ((0 : Int) ≤ ((List.getD (List.getD x4 (Int.toNat x6) (([] : List api_Node))) (Int.toNat x7) d_api_Node).arg))) = true then
                  if (decide ((((List.getD (List.getD x4 (Int.toNat x6) (([] : List api_Node))) (Int.toNat x7) d_api_Node).arg) : Int) < (((List.length x0) : Nat) : Int))) = true then
                    if (decide ((x6 : Int) < (((List.length (List.getD x0 (Int.toNat ((List.getD (List.getD x4 (Int.toNat x6) (([] : List api_Node))) (Int.toNat x7) d_api_Node).arg)) (([] : List Int)))) : Nat) : Int))) = true then
                      if (((List.getD (List.getD x0 (Int.toNat ((List.getD (List.getD x4 (Int.toNat x6) (([] : List api_Node))) (Int.toNat x7) d_api_Node).arg)) (([] : List Int))) (Int.toNat x6) 0) : Int) == 1) = true then
                        some (.x0 x7 8)
                      else
                        alibiref05_Check_l23 x0 x1 x2 x3 x4 x5 x6 (iAdd x7 1)
                    else none
                  else none
                else none
            else
              alibiref05_Check_l23 x0 x1 x2 x3 x4 x5 x6 (iAdd x7 1)
          else none
        else none
      else
        some (.x1)
    else none
  else none
partial_fixpoint
noncomputable abbrev alibiref05_Check_l23_s (x0 : List (List Int)) (x1 : Int) (x2 : Int) (x3 : Int) (x4 : List (List api_Node)) (x5 : Int) (x6 : Int) (x7 : Int) : St := ⟨dead :: .ptr 0 [] 0 0 :: dead :: dead :: dead :: .pv (.int .i64 x5) :: dead :: dead :: .ms 1 [] 0 (List.length x0) :: .pv (.int .i64 x6) :: .pv (.int .i64 x7) :: List.replicate 135 dead, [.box 0 [.pv (.int .i64 x1), .pv (.int .i64 x2), .pv (.int .i64 x3), .pv (.seq (List.length x4) (encP e_61 ([] : List api_Node) x4))], .arr 0 1 (List.length x0) (encW o_26 ([] : List Int) x0)]⟩
theorem alibiref05_Check_l23_ok (x0 : List (List Int)) (x1 : Int) (x2 : Int) (x3 : Int) (x4 : List (List api_Node)) (x5 : Int) (x6 : Int) (x7 : Int) (r : alibiref05_Check_l23_R) (h : alibiref05_Check_l23 x0 x1 x2 x3 x4 x5 x6 x7 = some r) : Loops Try.prog alibiref05_Check_l23_c 0 (alibiref05_Check_l23_s x0 x1 x2 x3 x4 x5 x6 x7) r.ex (alibiref05_Check_l23_R.st x0 x1 x2 x3 x4 x5 x6 x7 r) := by
 refine alibiref05_Check_l23.partial_correctness x0 x1 x2 x3 x4 x5 x6 (fun x7 r => Loops Try.prog alibiref05_Check_l23_c 0 (alibiref05_Check_l23_s x0 x1 x2 x3 x4 x5 x6 x7) r.ex (alibiref05_Check_l23_R.st x0 x1 x2 x3 x4 x5 x6 x7 r)) ?_ x7 r h
 clear h r x7
 intro self ih x7 r h
 obtain ⟨c34, h⟩ := need_of h
 obtain ⟨c35, h⟩ := need_of h
 rcases if_of h with ⟨c36, h⟩ | ⟨c36, h⟩
 · obtain ⟨c37, h⟩ := need_of h
   obtain ⟨c38, h⟩ := need_of h
   rcases if_of h with ⟨c39, h⟩ | ⟨c39, h⟩
   · rcases if_of h with ⟨c40, h⟩ | ⟨c40, h⟩
     · have h := Option.some.inj h; subst h
       exact plast mixed lives 41 (by kernel_rfl) (pk <| pn c34 <| pn c35 <| pk3 <| pb c36 <| pk <| pn c34 <| pn c35 <| pk <| pn c37 <| pn c38 <| pk5 <| pb c39 <| pk6 <| pb c40 <| pk8 <| pk4 <| pz) rfl
     · obtain ⟨c41, h⟩ := need_of h
       obtain ⟨c42, h⟩ := need_of h
       obtain ⟨c43, h⟩ := need_of h
       rcases if_of h with ⟨c44, h⟩ | ⟨c44, h⟩
       · have h := Option.some.inj h; subst h
         exact plast mixed lives 41 (by kernel_rfl) (pk <| pn c34 <| pn c35 <| pk3 <| pb c36 <| pk <| pn c34 <| pn c35 <| pk <| pn c37 <| pn c38 <| pk5 <| pb c39 <| pk6 <| pb c40 <| pk4 <| pn c41 <| pn c42 <| pk4 <| pn c34 <| pn c43 <| pk7 <| pb c44 <| pz) rfl
       · exact pmore mixed lives 41 (by kernel_rfl) (pk <| pn c34 <| pn c35 <| pk3 <| pb c36 <| pk <| pn c34 <| pn c35 <| pk <| pn c37 <| pn c38 <| pk5 <| pb c39 <| pk6 <| pb c40 <| pk4 <| pn c41 <| pn c42 <| pk4 <| pn c34 <| pn c43 <| pk7 <| pb c44 <| pk <| pz) (ih (iAdd x7 1) _ h)
   · exact pmore mixed lives 41 (by kernel_rfl) (pk <| pn c34 <| pn c35 <| pk3 <| pb c36 <| pk <| pn c34 <| pn c35 <| pk <| pn c37 <| pn c38 <| pk5 <| pb c39 <| pk8 <| pz) (ih (iAdd x7 1) _ h)
 · have h := Option.some.inj h; subst h
   exact plast mixed lives 41 (by kernel_rfl) (pk <| pn c34 <| pn c35 <| pk3 <| pb c36 <| pz) rfl
noncomputable def alibiref05_Check_l20_c : Code := sub (codeOf Try.prog 41) [1, 1, 1, 1, 1, 1, 0, 1, 0, 0]
inductive alibiref05_Check_l20_R where
  | x0 (v0 : Int) (v1 : Int) (v2 : Int)
  | x1
def alibiref05_Check_l20_R.ex : alibiref05_Check_l20_R → Ex
  | .x0 _ _ _ => .ret
  | .x1 => .exit 4
noncomputable def alibiref05_Check_l20_R.st (x0 : List (List Int)) (x1 : Int) (x2 : Int) (x3 : Int) (x4 : List (List api_Node)) (x5 : Int) (x6 : Int) : alibiref05_Check_l20_R → St
  | .x0 v0 v1 v2 => ⟨dead :: dead :: .pv (.int .i64 v0) :: .pv (.int .i64 v1) :: .pv (.int .i64 v2) :: List.replicate 141 dead, []⟩
  | .x1 => ⟨List.replicate 146 dead, []⟩
def alibiref05_Check_l20 (x0 : List (List Int)) (x1 : Int) (x2 : Int) (x3 : Int) (x4 : List (List api_Node)) (x5 : Int) (x6 : Int) : Option (alibiref05_Check_l20_R) :=
  if (decide ((x6 : Int) < x5)) = true then
    bind (alibiref05_Check_l23 x0 x1 x2 x3 x4 x5 x6 0) fun q => match q with
      | .x0 v45 v46 =>
        some (.x0 x6 v45 v46)
      | .x1 =>
        alibiref05_Check_l20 x0 x1 x2 x3 x4 x5 (iAdd x6 1)
  else
    some (.x1)
partial_fixpoint
noncomputable abbrev alibiref05_Check_l20_s (x0 : List (List Int)) (x1 : Int) (x2 : Int) (x3 : Int) (x4 : List (List api_Node)) (x5 : Int) (x6 : Int) : St := ⟨dead :: .ptr 0 [] 0 0 :: dead :: dead :: dead :: .pv (.int .i64 x5) :: dead :: dead :: .ms 1 [] 0 (List.length x0) :: .pv (.int .i64 x6) :: List.replicate 136 dead, [.box 0 [.pv (.int .i64 x1), .pv (.int .i64 x2), .pv (.int .i64 x3), .pv (.seq (List.length x4) (encP e_61 ([] : List api_Node) x4))], .arr 0 1 (List.length x0) (encW o_26 ([] : List Int) x0)]⟩
theorem alibiref05_Check_l20_ok (x0 : List (List Int)) (x1 : Int) (x2 : Int) (x3 : Int) (x4 : List (List api_Node)) (x5 : Int) (x6 : Int) (r : alibiref05_Check_l20_R) (h : alibiref05_Check_l20 x0 x1 x2 x3 x4 x5 x6 = some r) : Loops Try.prog alibiref05_Check_l20_c 0 (alibiref05_Check_l20_s x0 x1 x2 x3 x4 x5 x6) r.ex (alibiref05_Check_l20_R.st x0 x1 x2 x3 x4 x5 x6 r) := by
 refine alibiref05_Check_l20.partial_correctness x0 x1 x2 x3 x4 x5 (fun x6 r => Loops Try.prog alibiref05_Check_l20_c 0 (alibiref05_Check_l20_s x0 x1 x2 x3 x4 x5 x6) r.ex (alibiref05_Check_l20_R.st x0 x1 x2 x3 x4 x5 x6 r)) ?_ x6 r h
 clear h r x6
 intro self ih x6 r h
 rcases if_of h with ⟨c33, h⟩ | ⟨c33, h⟩
 · obtain ⟨q, hq, h⟩ := bind_of h
   cases q with
   | x0 v45 v46 =>
    have h47 := hq; clear hq
    try dsimp only at h
    have h := Option.some.inj h; subst h
    exact plast mixed lives 41 (by kernel_rfl) (pk <| pb c33 <| pl (alibiref05_Check_l23_ok _ _ _ _ _ _ _ _ _ h47) <| pz) rfl
   | x1 =>
    have h48 := hq; clear hq
    try dsimp only at h
    exact pmore mixed lives 41 (by kernel_rfl) (pk <| pb c33 <| pl (alibiref05_Check_l23_ok _ _ _ _ _ _ _ _ _ h48) <| pk <| pz) (ih (iAdd x6 1) _ h)
 · have h := Option.some.inj h; subst h
   exact plast mixed lives 41 (by kernel_rfl) (pk <| pb c33 <| pz) rfl
/-- alibi/alibiref05.Check -/
def alibiref05_Check (p : api_Program) : Option (Int × Int × Int) :=
  if (decide ((p.globals : Int) < 0)) = true then
    some ((-1), (-1), 1)
  else
    if (decide ((p.locks : Int) < 0)) = true then
      some ((-1), (-1), 1)
    else
      if (decide ((p.slots : Int) < 0)) = true then
        some ((-1), (-1), 1)
      else
        if (((((List.length p.funcs : Nat) : Int)) : Int) == 0) = true then
          some ((-1), (-1), 1)
        else
          if (decide ((p.globals : Int) > 16)) = true then
            some ((-1), (-1), 4)
          else
            if (decide ((p.locks : Int) > 16)) = true then
              some ((-1), (-1), 4)
            else
              if (decide ((p.slots : Int) > 8)) = true then
                some ((-1), (-1), 4)
              else
                if (decide (((((List.length p.funcs : Nat) : Int)) : Int) > 16)) = true then
                  some ((-1), (-1), 4)
                else
                  bind (alibiref05_Check_l7 p.globals p.locks p.slots p.funcs (((List.length p.funcs : Nat) : Int)) 0) fun q => match q with
                    | .x0 v26 v27 v28 =>
                      some (v26, v27, v28)
                    | .x1 =>
                      bind (alibiref05_Calls p) fun v31 =>
                      bind (alibiref05_Check_l20 v31 p.globals p.locks p.slots p.funcs (((List.length p.funcs : Nat) : Int)) 0) fun q => match q with
                        | .x0 v49 v50 v51 =>
                          some (v49, v50, v51)
                        | .x1 =>
                          some (0, 0, 0)
theorem alibiref05_Check_ok (p : api_Program) (r : Int × Int × Int) (h : alibiref05_Check p = some r) : Does Try.prog 41 [.agg [.pv (.int .i64 p.globals), .pv (.int .i64 p.locks), .pv (.int .i64 p.slots), .pv (.seq (List.length p.funcs) (encP e_61 ([] : List api_Node) p.funcs))]] [] (.tup [.pv (.int .i64 r.1), .pv (.int .i64 r.2.1), .pv (.int .i64 r.2.2)], []) := by
 unfold alibiref05_Check at h
 rcases if_of h with ⟨c1, h⟩ | ⟨c1, h⟩
 · have h := Option.some.inj h; subst h
   exact pdoes mixed (L := lives) (by kernel_rfl) (pk5 <| pb c1 <| pk8 <| pk3 <| pz)
 · rcases if_of h with ⟨c2, h⟩ | ⟨c2, h⟩
   · have h := Option.some.inj h; subst h
     exact pdoes mixed (L := lives) (by kernel_rfl) (pk5 <| pb c1 <| pk5 <| pb c2 <| pk7 <| pz)
   · rcases if_of h with ⟨c3, h⟩ | ⟨c3, h⟩
     · have h := Option.some.inj h; subst h
       exact pdoes mixed (L := lives) (by kernel_rfl) (pk5 <| pb c1 <| pk5 <| pb c2 <| pk5 <| pb c3 <| pk3 <| pz)
     · rcases if_of h with ⟨c4, h⟩ | ⟨c4, h⟩
       · have h := Option.some.inj h; subst h
         exact pdoes mixed (L := lives) (by kernel_rfl) (pk5 <| pb c1 <| pk5 <| pb c2 <| pk5 <| pb c3 <| pk3 <| pb c4 <| pz)
       · rcases if_of h with ⟨c5, h⟩ | ⟨c5, h⟩
         · have h := Option.some.inj h; subst h
           exact pdoes mixed (L := lives) (by kernel_rfl) (pk5 <| pb c1 <| pk5 <| pb c2 <| pk5 <| pb c3 <| pk3 <| pb c4 <| pk2 <| pb c5 <| pk8 <| pk3 <| pz)
         · rcases if_of h with ⟨c6, h⟩ | ⟨c6, h⟩
           · have h := Option.some.inj h; subst h
             exact pdoes mixed (L := lives) (by kernel_rfl) (pk5 <| pb c1 <| pk5 <| pb c2 <| pk5 <| pb c3 <| pk3 <| pb c4 <| pk2 <| pb c5 <| pk5 <| pb c6 <| pk7 <| pz)
           · rcases if_of h with ⟨c7, h⟩ | ⟨c7, h⟩
             · have h := Option.some.inj h; subst h
               exact pdoes mixed (L := lives) (by kernel_rfl) (pk5 <| pb c1 <| pk5 <| pb c2 <| pk5 <| pb c3 <| pk3 <| pb c4 <| pk2 <| pb c5 <| pk5 <| pb c6 <| pk5 <| pb c7 <| pk3 <| pz)
             · rcases if_of h with ⟨c8, h⟩ | ⟨c8, h⟩
               · have h := Option.some.inj h; subst h
                 exact pdoes mixed (L := lives) (by kernel_rfl) (pk5 <| pb c1 <| pk5 <| pb c2 <| pk5 <| pb c3 <| pk3 <| pb c4 <| pk2 <| pb c5 <| pk5 <| pb c6 <| pk5 <| pb c7 <| pk3 <| pb c8 <| pz)
               · obtain ⟨q, hq, h⟩ := bind_of h
                 cases q with
                 | x0 v26 v27 v28 =>
                  have h29 := hq; clear hq
                  try dsimp only at h
                  have h := Option.some.inj h; subst h
                  exact pdoes mixed (L := lives) (by kernel_rfl) (pk5 <| pb c1 <| pk5 <| pb c2 <| pk5 <| pb c3 <| pk3 <| pb c4 <| pk2 <| pb c5 <| pk5 <| pb c6 <| pk5 <| pb c7 <| pk3 <| pb c8 <| pl (alibiref05_Check_l7_ok _ _ _ _ _ _ _ h29) <| pz)
                 | x1 =>
                  have h30 := hq; clear hq
                  try dsimp only at h
                  obtain ⟨v31, h32, h⟩ := bind_of h
                  obtain ⟨q, hq, h⟩ := bind_of h
                  cases q with
                  | x0 v49 v50 v51 =>
                   have h52 := hq; clear hq
                   try dsimp only at h
                   have h := Option.some.inj h; subst h
                   exact pdoes mixed (L := lives) (by kernel_rfl) (pk5 <| pb c1 <| pk5 <| pb c2 <| pk5 <| pb c3 <| pk3 <| pb c4 <| pk2 <| pb c5 <| pk5 <| pb c6 <| pk5 <| pb c7 <| pk3 <| pb c8 <| pl (alibiref05_Check_l7_ok _ _ _ _ _ _ _ h30) <| pk <| pc (alibiref05_Calls_ok _ _ h32) <| pk <| pl (alibiref05_Check_l20_ok _ _ _ _ _ _ _ _ h52) <| pz)
                  | x1 =>
                   have h53 := hq; clear hq
                   try dsimp only at h
                   have h := Option.some.inj h; subst h
                   exact pdoes mixed (L := lives) (by kernel_rfl) (pk5 <| pb c1 <| pk5 <| pb c2 <| pk5 <| pb c3 <| pk3 <| pb c4 <| pk2 <| pb c5 <| pk5 <| pb c6 <| pk5 <| pb c7 <| pk3 <| pb c8 <| pl (alibiref05_Check_l7_ok _ _ _ _ _ _ _ h30) <| pk <| pc (alibiref05_Calls_ok _ _ h32) <| pk <| pl (alibiref05_Check_l20_ok _ _ _ _ _ _ _ _ h53) <| pz)
noncomputable def alibiref06_Reach_l4_c : Code := sub (codeOf Try.prog 92) [1, 1, 1, 0, 1, 0, 0]
def alibiref06_Reach_l4 (x0 : List Bool) (x1 : Int) (x2 : Int) (x3 : Int) (x4 : List (List api_Node)) (x5 : List Int) (x6 : Int) (x7 : Int) : Option ((List Bool)) :=
  if (decide ((x7 : Int) < (((List.length x5 : Nat) : Int)))) = true then
    if (decide ((0 : Int) ≤ x7)) = true then
      if (decide ((x7 : Int) < ((List.length x5 : Nat) : Int))) = true then
        if (decide (((List.getD x5 (Int.toNat x7) 0) : Int) < x6)) = true then
          if (decide ((0 : Int) ≤ (List.getD x5 (Int.toNat x7) 0))) = true then
            if (decide (((List.getD x5 (Int.toNat x7) 0) : Int) < (((List.length x0) : Nat) : Int))) = true then
              alibiref06_Reach_l4 (List.set x0 (Int.toNat (List.getD x5 (Int.toNat x7) 0)) true) x1 x2 x3 x4 x5 x6 (iAdd x7 1)
            else none
          else none
        else
          alibiref06_Reach_l4 x0 x1 x2 x3 x4 x5 x6 (iAdd x7 1)
      else none
    else none
  else
    some x0
partial_fixpoint
noncomputable abbrev alibiref06_Reach_l4_s (x0 : List Bool) (x1 : Int) (x2 : Int) (x3 : Int) (x4 : List (List api_Node)) (x5 : List Int) (x6 : Int) (x7 : Int) : St := ⟨dead :: .pv (.seq (List.length x5) (encP e_i64 0 x5)) :: .ptr 0 [] 0 0 :: dead :: dead :: .pv (.int .i64 x6) :: .ms 1 [] 0 (List.length x0) :: .pv (.int .i64 x7) :: List.replicate 87 dead, [.box 0 [.pv (.int .i64 x1), .pv (.int .i64 x2), .pv (.int .i64 x3), .pv (.seq (List.length x4) (encP e_61 ([] : List api_Node) x4))], .arr 0 1 (List.length x0) (encW o_bool false x0)]⟩
noncomputable abbrev alibiref06_Reach_l4_e (x0 : List Bool) (x1 : Int) (x2 : Int) (x3 : Int) (x4 : List (List api_Node)) (x5 : List Int) (x6 : Int) (x7 : Int) (r : (List Bool)) : St := ⟨dead :: dead :: .ptr 0 [] 0 0 :: dead :: dead :: .pv (.int .i64 x6) :: .ms 1 [] 0 (List.length r) :: List.replicate 88 dead, [.box 0 [.pv (.int .i64 x1), .pv (.int .i64 x2), .pv (.int .i64 x3), .pv (.seq (List.length x4) (encP e_61 ([] : List api_Node) x4))], .arr 0 1 (List.length r) (encW o_bool false r)]⟩
theorem alibiref06_Reach_l4_ok (x0 : List Bool) (x1 : Int) (x2 : Int) (x3 : Int) (x4 : List (List api_Node)) (x5 : List Int) (x6 : Int) (x7 : Int) (r : (List Bool)) (h : alibiref06_Reach_l4 x0 x1 x2 x3 x4 x5 x6 x7 = some r) : Loops Try.prog alibiref06_Reach_l4_c 0 (alibiref06_Reach_l4_s x0 x1 x2 x3 x4 x5 x6 x7) (.exit 0) (alibiref06_Reach_l4_e x0 x1 x2 x3 x4 x5 x6 x7 r) := by
 refine alibiref06_Reach_l4.partial_correctness x1 x2 x3 x4 x5 x6 (fun x0 x7 r => Loops Try.prog alibiref06_Reach_l4_c 0 (alibiref06_Reach_l4_s x0 x1 x2 x3 x4 x5 x6 x7) (.exit 0) (alibiref06_Reach_l4_e x0 x1 x2 x3 x4 x5 x6 x7 r)) ?_ x0 x7 r h
 clear h r x0 x7
 intro self ih x0 x7 r h
 rcases if_of h with ⟨c3, h⟩ | ⟨c3, h⟩
 · obtain ⟨c4, h⟩ := need_of h
   obtain ⟨c5, h⟩ := need_of h
   rcases if_of h with ⟨c6, h⟩ | ⟨c6, h⟩
   · obtain ⟨c7, h⟩ := need_of h
     obtain ⟨c8, h⟩ := need_of h
     exact pmore mixed lives 92 (by kernel_rfl) (pk2 <| pb c3 <| pn c4 <| pn c5 <| pk2 <| pb c6 <| pn c4 <| pn c5 <| pk <| pn c7 <| pn c8 <| pt <| pe (eff_hb (v := dead) (b := 1) (hb := []) (sc := []) (put_top o_bool false 0 1 (List.length x0) x0 (Int.toNat (List.getD x5 (Int.toNat x7) 0)) 0 [.pv (.bool true)] true (by kernel_rfl) (by first | exact Nat.le_refl _ | exact Nat.zero_le _ | (simp only [decide_eq_true_eq, List.length_set, List.length_append, List.length_replicate, List.length_cons, List.length_nil, Nat.zero_add] at * <;> omega)))) <| pk <| pz) (Loops.of (s1 := ⟨dead :: .pv (.seq (List.length x5) (encP e_i64 0 x5)) :: .ptr 0 [] 0 0 :: dead :: dead :: .pv (.int .i64 x6) :: .ms 1 [] 0 (List.length x0) :: .pv (.int .i64 (iAdd x7 1)) :: List.replicate 87 dead, [.box 0 [.pv (.int .i64 x1), .pv (.int .i64 x2), .pv (.int .i64 x3), .pv (.seq (List.length x4) (encP e_61 ([] : List api_Node) x4))], .arr 0 1 (List.length x0) (encW o_bool false (List.set x0 (Int.toNat (List.getD x5 (Int.toNat x7) 0)) true))]⟩) (ih (List.set x0 (Int.toNat (List.getD x5 (Int.toNat x7) 0)) true) (iAdd x7 1) _ h) (by (first | rfl | (simp only [alibiref06_Reach_l4_s, List.length_set]; done))))
   · exact pmore mixed lives 92 (by kernel_rfl) (pk2 <| pb c3 <| pn c4 <| pn c5 <| pk2 <| pb c6 <| pk <| pz) (ih x0 (iAdd x7 1) _ h)
 · have h := Option.some.inj h; subst h
   exact plast mixed lives 92 (by kernel_rfl) (pk2 <| pb c3 <| pz) rfl
noncomputable def alibiref06_Named_l7_c : Code := sub (codeOf Try.prog 85) [1, 1, 0, 1, 0, 0, 1, 0, 0, 1, 0, 1, 0, 0]
def alibiref06_Named_l7 (x0 : List Int) (x1 : List api_Node) (x2 : Int) (x3 : Int) (x4 : Bool) (x5 : Int) : Option (Bool) :=
  if (decide ((x5 : Int) < (((List.length x1 : Nat) : Int)))) = true then
    if x4 = true then
      alibiref06_Named_l7 x0 x1 x2 x3 true (iAdd x5 1)
    else
      if (decide ((0 : Int) ≤ x5)) = true then
        if (decide ((x5 : Int) < ((List.length x1 : Nat) : Int))) = true then
          if ((((List.getD x1 (Int.toNat x5) d_api_Node).kind) : Int) == x2) = true then
            alibiref06_Named_l7 x0 x1 x2 x3 ((((List.getD x1 (Int.toNat x5) d_api_Node).arg) : Int) == x3) (iAdd x5 1)
          else
            alibiref06_Named_l7 x0 x1 x2 x3 false (iAdd x5 1)
        else none
      else none
  else
    some x4
partial_fixpoint
noncomputable abbrev alibiref06_Named_l7_s (x0 : List Int) (x1 : List api_Node) (x2 : Int) (x3 : Int) (x4 : Bool) (x5 : Int) : St := ⟨.pv (.seq (List.length x1) (encP e_api_Node d_api_Node x1)) :: .pv (.int .i64 x2) :: dead :: dead :: dead :: .ms 0 [] 0 (List.length x0) :: .pv (.int .i64 x3) :: .pv (.bool x4) :: .pv (.int .i64 x5) :: List.replicate 35 dead, [.arr 0 1 (List.length x0) (encW o_i64 0 x0)]⟩
noncomputable abbrev alibiref06_Named_l7_e (x0 : List Int) (x1 : List api_Node) (x2 : Int) (x3 : Int) (x4 : Bool) (x5 : Int) (r : Bool) : St := ⟨.pv (.seq (List.length x1) (encP e_api_Node d_api_Node x1)) :: .pv (.int .i64 x2) :: dead :: dead :: dead :: .ms 0 [] 0 (List.length x0) :: .pv (.int .i64 x3) :: .pv (.bool r) :: List.replicate 36 dead, [.arr 0 1 (List.length x0) (encW o_i64 0 x0)]⟩
theorem alibiref06_Named_l7_ok (x0 : List Int) (x1 : List api_Node) (x2 : Int) (x3 : Int) (x4 : Bool) (x5 : Int) (r : Bool) (h : alibiref06_Named_l7 x0 x1 x2 x3 x4 x5 = some r) : Loops Try.prog alibiref06_Named_l7_c 0 (alibiref06_Named_l7_s x0 x1 x2 x3 x4 x5) (.exit 2) (alibiref06_Named_l7_e x0 x1 x2 x3 x4 x5 r) := by
 refine alibiref06_Named_l7.partial_correctness x0 x1 x2 x3 (fun x4 x5 r => Loops Try.prog alibiref06_Named_l7_c 0 (alibiref06_Named_l7_s x0 x1 x2 x3 x4 x5) (.exit 2) (alibiref06_Named_l7_e x0 x1 x2 x3 x4 x5 r)) ?_ x4 x5 r h
 clear h r x4 x5
 intro self ih x4 x5 r h
 rcases if_of h with ⟨c2, h⟩ | ⟨c2, h⟩
 · rcases if_of h with ⟨c3, h⟩ | ⟨c3, h⟩
   · exact pmore mixed lives 85 (by kernel_rfl) (pk2 <| pb c2 <| pb c3 <| pk8 <| pk2 <| pz) (ih true (iAdd x5 1) _ h)
   · obtain ⟨c4, h⟩ := need_of h
     obtain ⟨c5, h⟩ := need_of h
     rcases if_of h with ⟨c6, h⟩ | ⟨c6, h⟩
     · exact pmore mixed lives 85 (by kernel_rfl) (pk2 <| pb c2 <| pb c3 <| pk2 <| pn c4 <| pn c5 <| pk7 <| pb c6 <| pk2 <| pn c4 <| pn c5 <| pk8 <| pk2 <| pz) (ih ((((List.getD x1 (Int.toNat x5) d_api_Node).arg) : Int) == x3) (iAdd x5 1) _ h)
     · exact pmore mixed lives 85 (by kernel_rfl) (pk2 <| pb c2 <| pb c3 <| pk2 <| pn c4 <| pn c5 <| pk7 <| pb c6 <| pk8 <| pk2 <| pz) (ih false (iAdd x5 1) _ h)
 · have h := Option.some.inj h; subst h
   exact plast mixed lives 85 (by kernel_rfl) (pk2 <| pb c2 <| pz) rfl
noncomputable def alibiref06_Named_l3_c : Code := sub (codeOf Try.prog 85) [1, 1, 0, 1, 0, 0]
def alibiref06_Named_l3 (x0 : List Int) (x1 : List api_Node) (x2 : Int) (x3 : Int) : Option ((List Int)) :=
  if (decide ((x3 : Int) < 32)) = true then
    bind (alibiref06_Named_l7 x0 x1 x2 x3 false 0) fun v7 =>
    if v7 = true then
      if (Nat.ble ((List.length x0 + List.length ([x3])) * 8) reach) = true then
        alibiref06_Named_l3 (x0 ++ ([x3])) x1 x2 (iAdd x3 1)
      else none
    else
      alibiref06_Named_l3 x0 x1 x2 (iAdd x3 1)
  else
    some x0
partial_fixpoint
noncomputable abbrev alibiref06_Named_l3_s (x0 : List Int) (x1 : List api_Node) (x2 : Int) (x3 : Int) : St := ⟨.pv (.seq (List.length x1) (encP e_api_Node d_api_Node x1)) :: .pv (.int .i64 x2) :: dead :: dead :: dead :: .ms 0 [] 0 (List.length x0) :: .pv (.int .i64 x3) :: List.replicate 37 dead, [.arr 0 1 (List.length x0) (encW o_i64 0 x0)]⟩
noncomputable abbrev alibiref06_Named_l3_e (x0 : List Int) (x1 : List api_Node) (x2 : Int) (x3 : Int) (r : (List Int)) : St := ⟨(List.replicate 5 dead ++ (.ms 0 [] 0 (List.length r) :: List.replicate 38 dead)), [.arr 0 1 (List.length r) (encW o_i64 0 r)]⟩
theorem alibiref06_Named_l3_ok (x0 : List Int) (x1 : List api_Node) (x2 : Int) (x3 : Int) (r : (List Int)) (h : alibiref06_Named_l3 x0 x1 x2 x3 = some r) : Loops Try.prog alibiref06_Named_l3_c 0 (alibiref06_Named_l3_s x0 x1 x2 x3) (.exit 0) (alibiref06_Named_l3_e x0 x1 x2 x3 r) := by
 refine alibiref06_Named_l3.partial_correctness x1 x2 (fun x0 x3 r => Loops Try.prog alibiref06_Named_l3_c 0 (alibiref06_Named_l3_s x0 x1 x2 x3) (.exit 0) (alibiref06_Named_l3_e x0 x1 x2 x3 r)) ?_ x0 x3 r h
 clear h r x0 x3
 intro self ih x0 x3 r h
 rcases if_of h with ⟨c1, h⟩ | ⟨c1, h⟩
 · obtain ⟨v7, h8, h⟩ := bind_of h
   rcases if_of h with ⟨c9, h⟩ | ⟨c9, h⟩
   · obtain ⟨c10, h⟩ := need_of h
     exact pmore mixed lives 85 (by kernel_rfl) (pk <| pb c1 <| pl (alibiref06_Named_l7_ok _ _ _ _ _ _ _ h8) <| pb c9 <| pe (eff_lit o_i64 0 1 1 1 ([x3]) rfl [] []) <| pb (whole_ok (List.length ([x3]))) <| pn c10 <| pe (eff_app o_i64 0 x0 ([x3]) (x0 ++ ([x3])) 0 1 (List.length x0) (List.length ([x3])) (fun i => List.map AV.scal (encW o_i64 0 ([x3]) i)) (encW o_i64 0 x0 (List.length x0)) [] [] [(0, false)] (by first | exact Nat.le_refl _ | exact Nat.zero_le _ | (simp only [decide_eq_true_eq, List.length_set, List.length_append, List.length_replicate, List.length_cons, List.length_nil, Nat.zero_add] at * <;> omega)) rfl (fun _ => by kernel_rfl) (congrArg o_i64 (getD_ge 0 (by first | exact Nat.le_refl _ | exact Nat.zero_le _ | (simp only [decide_eq_true_eq, List.length_set, List.length_append, List.length_replicate, List.length_cons, List.length_nil, Nat.zero_add] at * <;> omega)))) (by rw [List.take_of_length_le (by first | exact Nat.le_refl _ | exact Nat.zero_le _ | (simp only [decide_eq_true_eq, List.length_set, List.length_append, List.length_replicate, List.length_cons, List.length_nil, Nat.zero_add] at * <;> omega))])) <| pk <| pz) (ih (x0 ++ ([x3])) (iAdd x3 1) _ h)
   · exact pmore mixed lives 85 (by kernel_rfl) (pk <| pb c1 <| pl (alibiref06_Named_l7_ok _ _ _ _ _ _ _ h8) <| pb c9 <| pk <| pz) (ih x0 (iAdd x3 1) _ h)
 · have h := Option.some.inj h; subst h
   exact plast mixed lives 85 (by kernel_rfl) (pk <| pb c1 <| pz) rfl
/-- alibi/alibiref06.Named -/
def alibiref06_Named (l : List api_Node) (kind : Int) : Option ((List Int)) :=
  bind (alibiref06_Named_l3 (([] : List Int)) l kind 0) fun v11 =>
  some v11
theorem alibiref06_Named_ok (l : List api_Node) (kind : Int) (r : (List Int)) (h : alibiref06_Named l kind = some r) : Does Try.prog 85 [.pv (.seq (List.length l) (encP e_api_Node d_api_Node l)), .pv (.int .i64 kind)] [] (.ms 0 [] 0 (List.length r), [.arr 0 1 (List.length r) (encW o_i64 0 r)]) := by
 unfold alibiref06_Named at h
 obtain ⟨v11, h12, h⟩ := bind_of h
 have h := Option.some.inj h; subst h
 exact pdoes mixed (L := lives) (by kernel_rfl) (pl (Loops.of (s1 := ⟨.pv (.seq (List.length l) (encP e_api_Node d_api_Node l)) :: .pv (.int .i64 kind) :: dead :: dead :: dead :: .ms 0 [] 0 (List.length ([] : List Int)) :: .pv (.int .i64 0) :: List.replicate 37 dead, [.arr 0 1 (List.length ([] : List Int)) (encW o_i64 0 (([] : List Int)))]⟩) (alibiref06_Named_l3_ok _ _ _ _ _ h12) (by (first | rfl | (simp only [alibiref06_Named_l3_s, List.length_set]; done)))) <| pz)
noncomputable def alibiref06_Reach_l16_c : Code := sub (codeOf Try.prog 92) [1, 1, 1, 1, 0, 1, 0, 0, 1, 0, 0, 1, 0, 0, 1, 0, 0, 1, 1, 0, 0]
def alibiref06_Reach_l16 (x0 : List Bool) (x1 : List Int) (x2 : Int) (x3 : Int) (x4 : Int) (x5 : List (List api_Node)) (x6 : Int) (x7 : Int) (x8 : Int) (x9 : Int) : Option ((List Bool)) :=
  if (decide ((x9 : Int) < ((((List.length x1) : Nat) : Int)))) = true then
    if (decide ((0 : Int) ≤ x8)) = true then
      if (decide ((x8 : Int) < (((List.length x0) : Nat) : Int))) = true then
        if (List.getD x0 (Int.toNat x8) false) = true then
          if (decide ((0 : Int) ≤ x9)) = true then
            if (decide ((x9 : Int) < (((List.length x1) : Nat) : Int))) = true then
              if (decide (((List.getD x1 (Int.toNat x9) 0) : Int) < x6)) = true then
                if (decide ((0 : Int) ≤ (List.getD x1 (Int.toNat x9) 0))) = true then
                  if (decide (((List.getD x1 (Int.toNat x9) 0) : Int) < (((List.length x0) : Nat) : Int))) = true then
                    alibiref06_Reach_l16 (List.set x0 (Int.toNat (List.getD x1 (Int.toNat x9) 0)) true) x1 x2 x3 x4 x5 x6 x7 x8 (iAdd x9 1)
                  else none
                else none
              else
                alibiref06_Reach_l16 x0 x1 x2 x3 x4 x5 x6 x7 x8 (iAdd x9 1)
            else none
          else none
        else
          alibiref06_Reach_l16 x0 x1 x2 x3 x4 x5 x6 x7 x8 (iAdd x9 1)
      else none
    else none
  else
    some x0
partial_fixpoint
noncomputable abbrev alibiref06_Reach_l16_s (x0 : List Bool) (x1 : List Int) (x2 : Int) (x3 : Int) (x4 : Int) (x5 : List (List api_Node)) (x6 : Int) (x7 : Int) (x8 : Int) (x9 : Int) : St := ⟨dead :: dead :: .ptr 0 [] 0 0 :: dead :: dead :: .pv (.int .i64 x6) :: .ms 1 [] 0 (List.length x0) :: dead :: .pv (.int .i64 x7) :: .pv (.int .i64 x8) :: .ms 2 [] 0 (List.length x1) :: .pv (.int .i64 x9) :: List.replicate 83 dead, [.box 0 [.pv (.int .i64 x2), .pv (.int .i64 x3), .pv (.int .i64 x4), .pv (.seq (List.length x5) (encP e_61 ([] : List api_Node) x5))], .arr 0 1 (List.length x0) (encW o_bool false x0), .arr 0 1 (List.length x1) (encW o_i64 0 x1)]⟩
noncomputable abbrev alibiref06_Reach_l16_e (x0 : List Bool) (x1 : List Int) (x2 : Int) (x3 : Int) (x4 : Int) (x5 : List (List api_Node)) (x6 : Int) (x7 : Int) (x8 : Int) (x9 : Int) (r : (List Bool)) : St := ⟨dead :: dead :: .ptr 0 [] 0 0 :: dead :: dead :: .pv (.int .i64 x6) :: .ms 1 [] 0 (List.length r) :: dead :: .pv (.int .i64 x7) :: .pv (.int .i64 x8) :: List.replicate 85 dead, [.box 0 [.pv (.int .i64 x2), .pv (.int .i64 x3), .pv (.int .i64 x4), .pv (.seq (List.length x5) (encP e_61 ([] : List api_Node) x5))], .arr 0 1 (List.length r) (encW o_bool false r)]⟩
theorem alibiref06_Reach_l16_ok (x0 : List Bool) (x1 : List Int) (x2 : Int) (x3 : Int) (x4 : Int) (x5 : List (List api_Node)) (x6 : Int) (x7 : Int) (x8 : Int) (x9 : Int) (r : (List Bool)) (h : alibiref06_Reach_l16 x0 x1 x2 x3 x4 x5 x6 x7 x8 x9 = some r) : Loops Try.prog alibiref06_Reach_l16_c 0 (alibiref06_Reach_l16_s x0 x1 x2 x3 x4 x5 x6 x7 x8 x9) (.exit 6) (alibiref06_Reach_l16_e x0 x1 x2 x3 x4 x5 x6 x7 x8 x9 r) := by
 refine alibiref06_Reach_l16.partial_correctness x1 x2 x3 x4 x5 x6 x7 x8 (fun x0 x9 r => Loops Try.prog alibiref06_Reach_l16_c 0 (alibiref06_Reach_l16_s x0 x1 x2 x3 x4 x5 x6 x7 x8 x9) (.exit 6) (alibiref06_Reach_l16_e x0 x1 x2 x3 x4 x5 x6 x7 x8 x9 r)) ?_ x0 x9 r h
 clear h r x0 x9
 intro self ih x0 x9 r h
 rcases if_of h with ⟨c17, h⟩ | ⟨c17, h⟩
 · obtain ⟨c18, h⟩ := need_of h
   obtain ⟨c19, h⟩ := need_of h
   rcases if_of h with ⟨c20, h⟩ | ⟨c20, h⟩
   · obtain ⟨c21, h⟩ := need_of h
     obtain ⟨c22, h⟩ := need_of h
     rcases if_of h with ⟨c23, h⟩ | ⟨c23, h⟩
     · obtain ⟨c24, h⟩ := need_of h
       obtain ⟨c25, h⟩ := need_of h
       exact pmore mixed lives 92 (by kernel_rfl) (pk2 <| pb c17 <| pn c18 <| pn c19 <| pk <| pb c20 <| pk2 <| pn c21 <| pn c22 <| pk6 <| pb c23 <| pn c21 <| pn c22 <| pk <| pn c24 <| pn c25 <| pt <| pe (eff_hb (v := dead) (b := 1) (hb := []) (sc := []) (put_top o_bool false 0 1 (List.length x0) x0 (Int.toNat (List.getD x1 (Int.toNat x9) 0)) 0 [.pv (.bool true)] true (by kernel_rfl) (by first | exact Nat.le_refl _ | exact Nat.zero_le _ | (simp only [decide_eq_true_eq, List.length_set, List.length_append, List.length_replicate, List.length_cons, List.length_nil, Nat.zero_add] at * <;> omega)))) <| pk <| pz) (Loops.of (s1 := ⟨dead :: dead :: .ptr 0 [] 0 0 :: dead :: dead :: .pv (.int .i64 x6) :: .ms 1 [] 0 (List.length x0) :: dead :: .pv (.int .i64 x7) :: .pv (.int .i64 x8) :: .ms 2 [] 0 (List.length x1) :: .pv (.int .i64 (iAdd x9 1)) :: List.replicate 83 dead, [.box 0 [.pv (.int .i64 x2), .pv (.int .i64 x3), .pv (.int .i64 x4), .pv (.seq (List.length x5) (encP e_61 ([] : List api_Node) x5))], .arr 0 1 (List.length x0) (encW o_bool false (List.set x0 (Int.toNat (List.getD x1 (Int.toNat x9) 0)) true)), .arr 0 1 (List.length x1) (encW o_i64 0 x1)]⟩) (ih (List.set x0 (Int.toNat (List.getD x1 (Int.toNat x9) 0)) true) (iAdd x9 1) _ h) (by (first | rfl | (simp only [alibiref06_Reach_l16_s, List.length_set]; done))))
     · exact pmore mixed lives 92 (by kernel_rfl) (pk2 <| pb c17 <| pn c18 <| pn c19 <| pk <| pb c20 <| pk2 <| pn c21 <| pn c22 <| pk6 <| pb c23 <| pk <| pz) (ih x0 (iAdd x9 1) _ h)
   · exact pmore mixed lives 92 (by kernel_rfl) (pk2 <| pb c17 <| pn c18 <| pn c19 <| pk <| pb c20 <| pk8 <| pz) (ih x0 (iAdd x9 1) _ h)
 · have h := Option.some.inj h; subst h
   exact plast mixed lives 92 (by kernel_rfl) (pk2 <| pb c17 <| pz) rfl
noncomputable def alibiref06_Reach_l12_c : Code := sub (codeOf Try.prog 92) [1, 1, 1, 1, 0, 1, 0, 0, 1, 0, 0, 1, 0, 0]
def alibiref06_Reach_l12 (x0 : List Bool) (x1 : Int) (x2 : Int) (x3 : Int) (x4 : List (List api_Node)) (x5 : Int) (x6 : Int) (x7 : Int) : Option ((List Bool)) :=
  if (decide ((x7 : Int) < x5)) = true then
    if (decide ((0 : Int) ≤ x7)) = true then
      if (decide ((x7 : Int) < ((List.length x4 : Nat) : Int))) = true then
        bind (alibiref06_Named (List.getD x4 (Int.toNat x7) (([] : List api_Node))) 7) fun v15 =>
        bind (alibiref06_Reach_l16 x0 v15 x1 x2 x3 x4 x5 x6 x7 0) fun v26 =>
        alibiref06_Reach_l12 v26 x1 x2 x3 x4 x5 x6 (iAdd x7 1)
      else none
    else none
  else
    some x0
partial_fixpoint
noncomputable abbrev alibiref06_Reach_l12_s (x0 : List Bool) (x1 : Int) (x2 : Int) (x3 : Int) (x4 : List (List api_Node)) (x5 : Int) (x6 : Int) (x7 : Int) : St := ⟨dead :: dead :: .ptr 0 [] 0 0 :: dead :: dead :: .pv (.int .i64 x5) :: .ms 1 [] 0 (List.length x0) :: dead :: .pv (.int .i64 x6) :: .pv (.int .i64 x7) :: List.replicate 85 dead, [.box 0 [.pv (.int .i64 x1), .pv (.int .i64 x2), .pv (.int .i64 x3), .pv (.seq (List.length x4) (encP e_61 ([] : List api_Node) x4))], .arr 0 1 (List.length x0) (encW o_bool false x0)]⟩
noncomputable abbrev alibiref06_Reach_l12_e (x0 : List Bool) (x1 : Int) (x2 : Int) (x3 : Int) (x4 : List (List api_Node)) (x5 : Int) (x6 : Int) (x7 : Int) (r : (List Bool)) : St := ⟨dead :: dead :: .ptr 0 [] 0 0 :: dead :: dead :: .pv (.int .i64 x5) :: .ms 1 [] 0 (List.length r) :: dead :: .pv (.int .i64 x6) :: List.replicate 86 dead, [.box 0 [.pv (.int .i64 x1), .pv (.int .i64 x2), .pv (.int .i64 x3), .pv (.seq (List.length x4) (encP e_61 ([] : List api_Node) x4))], .arr 0 1 (List.length r) (encW o_bool false r)]⟩
theorem alibiref06_Reach_l12_ok (x0 : List Bool) (x1 : Int) (x2 : Int) (x3 : Int) (x4 : List (List api_Node)) (x5 : Int) (x6 : Int) (x7 : Int) (r : (List Bool)) (h : alibiref06_Reach_l12 x0 x1 x2 x3 x4 x5 x6 x7 = some r) : Loops Try.prog alibiref06_Reach_l12_c 0 (alibiref06_Reach_l12_s x0 x1 x2 x3 x4 x5 x6 x7) (.exit 4) (alibiref06_Reach_l12_e x0 x1 x2 x3 x4 x5 x6 x7 r) := by
 refine alibiref06_Reach_l12.partial_correctness x1 x2 x3 x4 x5 x6 (fun x0 x7 r => Loops Try.prog alibiref06_Reach_l12_c 0 (alibiref06_Reach_l12_s x0 x1 x2 x3 x4 x5 x6 x7) (.exit 4) (alibiref06_Reach_l12_e x0 x1 x2 x3 x4 x5 x6 x7 r)) ?_ x0 x7 r h
 clear h r x0 x7
 intro self ih x0 x7 r h
 rcases if_of h with ⟨c12, h⟩ | ⟨c12, h⟩
 · obtain ⟨c13, h⟩ := need_of h
   obtain ⟨c14, h⟩ := need_of h
   obtain ⟨v15, h16, h⟩ := bind_of h
   obtain ⟨v26, h27, h⟩ := bind_of h
   exact pmore mixed lives 92 (by kernel_rfl) (pk <| pb c12 <| pk <| pn c13 <| pn c14 <| pk <| pc (alibiref06_Named_ok _ _ _ h16) <| pk <| pl (alibiref06_Reach_l16_ok _ _ _ _ _ _ _ _ _ _ _ h27) <| pk <| pz) (ih v26 (iAdd x7 1) _ h)
 · have h := Option.some.inj h; subst h
   exact plast mixed lives 92 (by kernel_rfl) (pk <| pb c12 <| pz) rfl
noncomputable def alibiref06_Reach_l9_c : Code := sub (codeOf Try.prog 92) [1, 1, 1, 1, 0, 1, 0, 0]
def alibiref06_Reach_l9 (x0 : List Bool) (x1 : Int) (x2 : Int) (x3 : Int) (x4 : List (List api_Node)) (x5 : Int) (x6 : Int) : Option ((List Bool)) :=
  if (decide ((x6 : Int) < x5)) = true then
    bind (alibiref06_Reach_l12 x0 x1 x2 x3 x4 x5 x6 0) fun v28 =>
    alibiref06_Reach_l9 v28 x1 x2 x3 x4 x5 (iAdd x6 1)
  else
    some x0
partial_fixpoint
noncomputable abbrev alibiref06_Reach_l9_s (x0 : List Bool) (x1 : Int) (x2 : Int) (x3 : Int) (x4 : List (List api_Node)) (x5 : Int) (x6 : Int) : St := ⟨dead :: dead :: .ptr 0 [] 0 0 :: dead :: dead :: .pv (.int .i64 x5) :: .ms 1 [] 0 (List.length x0) :: dead :: .pv (.int .i64 x6) :: List.replicate 86 dead, [.box 0 [.pv (.int .i64 x1), .pv (.int .i64 x2), .pv (.int .i64 x3), .pv (.seq (List.length x4) (encP e_61 ([] : List api_Node) x4))], .arr 0 1 (List.length x0) (encW o_bool false x0)]⟩
noncomputable abbrev alibiref06_Reach_l9_e (x0 : List Bool) (x1 : Int) (x2 : Int) (x3 : Int) (x4 : List (List api_Node)) (x5 : Int) (x6 : Int) (r : (List Bool)) : St := ⟨(List.replicate 5 dead ++ (.pv (.int .i64 x5) :: .ms 0 [] 0 (List.length r) :: List.replicate 88 dead)), [.arr 0 1 (List.length r) (encW o_bool false r)]⟩
theorem alibiref06_Reach_l9_ok (x0 : List Bool) (x1 : Int) (x2 : Int) (x3 : Int) (x4 : List (List api_Node)) (x5 : Int) (x6 : Int) (r : (List Bool)) (h : alibiref06_Reach_l9 x0 x1 x2 x3 x4 x5 x6 = some r) : Loops Try.prog alibiref06_Reach_l9_c 0 (alibiref06_Reach_l9_s x0 x1 x2 x3 x4 x5 x6) (.exit 2) (alibiref06_Reach_l9_e x0 x1 x2 x3 x4 x5 x6 r) := by
 refine alibiref06_Reach_l9.partial_correctness x1 x2 x3 x4 x5 (fun x0 x6 r => Loops Try.prog alibiref06_Reach_l9_c 0 (alibiref06_Reach_l9_s x0 x1 x2 x3 x4 x5 x6) (.exit 2) (alibiref06_Reach_l9_e x0 x1 x2 x3 x4 x5 x6 r)) ?_ x0 x6 r h
 clear h r x0 x6
 intro self ih x0 x6 r h
 rcases if_of h with ⟨c11, h⟩ | ⟨c11, h⟩
 · obtain ⟨v28, h29, h⟩ := bind_of h
   exact pmore mixed lives 92 (by kernel_rfl) (pk <| pb c11 <| pl (alibiref06_Reach_l12_ok _ _ _ _ _ _ _ _ _ h29) <| pk <| pz) (ih v28 (iAdd x6 1) _ h)
 · have h := Option.some.inj h; subst h
   exact plast mixed lives 92 (by kernel_rfl) (pk <| pb c11 <| pz) rfl
noncomputable def alibiref06_Reach_l22_c : Code := sub (codeOf Try.prog 92) [1, 1, 1, 1, 1, 1, 0, 1, 0, 0]
def alibiref06_Reach_l22 (x0 : List Bool) (x1 : List Int) (x2 : Int) (x3 : Int) : Option ((List Int)) :=
  if (decide ((x3 : Int) < x2)) = true then
    if (decide ((x3 : Int) < 32)) = true then
      if (decide ((0 : Int) ≤ x3)) = true then
        if (decide ((x3 : Int) < (((List.length x0) : Nat) : Int))) = true then
          if (List.getD x0 (Int.toNat x3) false) = true then
            if (Nat.ble ((List.length x1 + List.length ([x3])) * 8) reach) = true then
              alibiref06_Reach_l22 x0 (x1 ++ ([x3])) x2 (iAdd x3 1)
            else none
          else
            alibiref06_Reach_l22 x0 x1 x2 (iAdd x3 1)
        else none
      else none
    else
      some x1
  else
    some x1
partial_fixpoint
noncomputable abbrev alibiref06_Reach_l22_s (x0 : List Bool) (x1 : List Int) (x2 : Int) (x3 : Int) : St := ⟨(List.replicate 5 dead ++ (.pv (.int .i64 x2) :: .ms 0 [] 0 (List.length x0) :: (List.replicate 5 dead ++ (.ms 1 [] 0 (List.length x1) :: .pv (.int .i64 x3) :: List.replicate 81 dead)))), [.arr 0 1 (List.length x0) (encW o_bool false x0), .arr 0 1 (List.length x1) (encW o_i64 0 x1)]⟩
noncomputable abbrev alibiref06_Reach_l22_e (x0 : List Bool) (x1 : List Int) (x2 : Int) (x3 : Int) (r : (List Int)) : St := ⟨(List.replicate 12 dead ++ (.ms 0 [] 0 (List.length r) :: List.replicate 82 dead)), [.arr 0 1 (List.length r) (encW o_i64 0 r)]⟩
theorem alibiref06_Reach_l22_ok (x0 : List Bool) (x1 : List Int) (x2 : Int) (x3 : Int) (r : (List Int)) (h : alibiref06_Reach_l22 x0 x1 x2 x3 = some r) : Loops Try.prog alibiref06_Reach_l22_c 0 (alibiref06_Reach_l22_s x0 x1 x2 x3) (.exit 8) (alibiref06_Reach_l22_e x0 x1 x2 x3 r) := by
 refine alibiref06_Reach_l22.partial_correctness x0 x2 (fun x1 x3 r => Loops Try.prog alibiref06_Reach_l22_c 0 (alibiref06_Reach_l22_s x0 x1 x2 x3) (.exit 8) (alibiref06_Reach_l22_e x0 x1 x2 x3 r)) ?_ x1 x3 r h
 clear h r x1 x3
 intro self ih x1 x3 r h
 rcases if_of h with ⟨c32, h⟩ | ⟨c32, h⟩
 · rcases if_of h with ⟨c33, h⟩ | ⟨c33, h⟩
   · obtain ⟨c34, h⟩ := need_of h
     obtain ⟨c35, h⟩ := need_of h
     rcases if_of h with ⟨c36, h⟩ | ⟨c36, h⟩
     · obtain ⟨c37, h⟩ := need_of h
       exact pmore mixed lives 92 (by kernel_rfl) (pk <| pb c32 <| pk3 <| pb c33 <| pn c34 <| pn c35 <| pk <| pb c36 <| pe (eff_lit o_i64 0 2 1 1 ([x3]) rfl [] []) <| pb (whole_ok (List.length ([x3]))) <| pn c37 <| pe (eff_app o_i64 0 x1 ([x3]) (x1 ++ ([x3])) 1 1 (List.length x1) (List.length ([x3])) (fun i => List.map AV.scal (encW o_i64 0 ([x3]) i)) (encW o_i64 0 x1 (List.length x1)) [] [] [(1, false)] (by first | exact Nat.le_refl _ | exact Nat.zero_le _ | (simp only [decide_eq_true_eq, List.length_set, List.length_append, List.length_replicate, List.length_cons, List.length_nil, Nat.zero_add] at * <;> omega)) rfl (fun _ => by kernel_rfl) (congrArg o_i64 (getD_ge 0 (by first | exact Nat.le_refl _ | exact Nat.zero_le _ | (simp only [decide_eq_true_eq, List.length_set, List.length_append, List.length_replicate, List.length_cons, List.length_nil, Nat.zero_add] at * <;> omega)))) (by rw [List.take_of_length_le (by first | exact Nat.le_refl _ | exact Nat.zero_le _ | (simp only [decide_eq_true_eq, List.length_set, List.length_append, List.length_replicate, List.length_cons, List.length_nil, Nat.zero_add] at * <;> omega))])) <| pk <| pz) (ih (x1 ++ ([x3])) (iAdd x3 1) _ h)
     · exact pmore mixed lives 92 (by kernel_rfl) (pk <| pb c32 <| pk3 <| pb c33 <| pn c34 <| pn c35 <| pk <| pb c36 <| pk <| pz) (ih x1 (iAdd x3 1) _ h)
   · have h := Option.some.inj h; subst h
     exact plast mixed lives 92 (by kernel_rfl) (pk <| pb c32 <| pk3 <| pb c33 <| pz) rfl
 · have h := Option.some.inj h; subst h
   exact plast mixed lives 92 (by kernel_rfl) (pk <| pb c32 <| pk3 <| pz) rfl
/-- alibi/alibiref06.Reach -/
def alibiref06_Reach (p : api_Program) (from_ : List Int) : Option ((List Int)) :=
  if (decide ((0 : Int) ≤ (((List.length p.funcs : Nat) : Int)))) = true then
    if (decide (((((List.length p.funcs : Nat) : Int)) : Int) * ((1 : Nat) : Int) ≤ ((reach : Nat) : Int))) = true then
      bind (alibiref06_Reach_l4 (List.replicate (Int.toNat (((List.length p.funcs : Nat) : Int))) false) p.globals p.locks p.slots p.funcs from_ (((List.length p.funcs : Nat) : Int)) 0) fun v9 =>
      bind (alibiref06_Reach_l9 v9 p.globals p.locks p.slots p.funcs (((List.length p.funcs : Nat) : Int)) 0) fun v30 =>
      bind (alibiref06_Reach_l22 v30 (([] : List Int)) (((List.length p.funcs : Nat) : Int)) 0) fun v38 =>
      some v38
    else none
  else none
theorem alibiref06_Reach_ok (p : api_Program) (from_ : List Int) (r : (List Int)) (h : alibiref06_Reach p from_ = some r) : Does Try.prog 92 [.agg [.pv (.int .i64 p.globals), .pv (.int .i64 p.locks), .pv (.int .i64 p.slots), .pv (.seq (List.length p.funcs) (encP e_61 ([] : List api_Node) p.funcs))], .pv (.seq (List.length from_) (encP e_i64 0 from_))] [] (.ms 0 [] 0 (List.length r), [.arr 0 1 (List.length r) (encW o_i64 0 r)]) := by
 unfold alibiref06_Reach at h
 obtain ⟨c1, h⟩ := need_of h
 obtain ⟨c2, h⟩ := need_of h
 obtain ⟨v9, h10, h⟩ := bind_of h
 obtain ⟨v30, h31, h⟩ := bind_of h
 obtain ⟨v38, h39, h⟩ := bind_of h
 have h := Option.some.inj h; subst h
 exact pdoes mixed (L := lives) (by kernel_rfl) (pk3 <| pn c1 <| pn ((decide_eq_true rfl) : (decide (((((List.length p.funcs : Nat) : Int)) : Int) = (((List.length p.funcs : Nat) : Int)))) = true) <| pn c2 <| pe (eff_make o_bool false 1 1 (Int.toNat (((List.length p.funcs : Nat) : Int)))) <| pl (alibiref06_Reach_l4_ok _ _ _ _ _ _ _ _ _ h10) <| pl (alibiref06_Reach_l9_ok _ _ _ _ _ _ _ _ h31) <| pl (Loops.of (s1 := ⟨(List.replicate 5 dead ++ (.pv (.int .i64 (((List.length p.funcs : Nat) : Int))) :: .ms 0 [] 0 (List.length v30) :: (List.replicate 5 dead ++ (.ms 1 [] 0 (List.length ([] : List Int)) :: .pv (.int .i64 0) :: List.replicate 81 dead)))), [.arr 0 1 (List.length v30) (encW o_bool false v30), .arr 0 1 (List.length ([] : List Int)) (encW o_i64 0 (([] : List Int)))]⟩) (alibiref06_Reach_l22_ok _ _ _ _ _ h39) (by (first | rfl | (simp only [alibiref06_Reach_l22_s, List.length_set]; done)))) <| pz)
noncomputable def alibiref14_Gather_l11_c : Code := sub (codeOf Try.prog 51) [1, 1, 1, 0, 1, 0, 0, 1, 0, 0, 1, 0, 1, 0, 0, 1, 0, 0, 1, 0, 0]
def alibiref14_Gather_l11 (x0 : List Int) (x1 : List Int) (x2 : Int) (x3 : Int) (x4 : Int) (x5 : List (List api_Node)) (x6 : Int) (x7 : Int) (x8 : Int) (x9 : Bool) (x10 : Int) (x11 : Int) : Option (Bool) :=
  if (decide ((0 : Int) ≤ x10)) = true then
    if (decide ((x10 : Int) < (((List.length x0) : Nat) : Int))) = true then
      if (decide ((0 : Int) ≤ (List.getD x0 (Int.toNat x10) 0))) = true then
        if (decide (((List.getD x0 (Int.toNat x10) 0) : Int) < ((List.length x5 : Nat) : Int))) = true then
          if (decide ((x11 : Int) < (((List.length (List.getD x5 (Int.toNat (List.getD x0 (Int.toNat x10) 0)) (([] : List api_Node))) : Nat) : Int)))) = true then
            if (decide ((0 : Int) ≤ x11)) = true then
              if (decide ((x11 : Int) < ((List.length (List.getD x5 (Int.toNat (List.getD x0 (Int.toNat x10) 0)) (([] : List api_Node))) : Nat) : Int))) = true then
                if x9 = true then
                  alibiref14_Gather_l11 x0 x1 x2 x3 x4 x5 x6 x7 x8 true x10 (iAdd x11 1)
                else
                  if ((((List.getD (List.getD x5 (Int.toNat (List.getD x0 (Int.toNat x10) 0)) (([] : List api_Node))) (Int.toNat x11) d_api_Node).kind) : Int) == x6) = true then
                    alibiref14_Gather_l11 x0 x1 x2 x3 x4 x5 x6 x7 x8 ((((List.getD (List.getD x5 (Int.toNat (List.getD x0 (Int.toNat x10) 0)) (([] : List api_Node))) (Int.toNat x11) d_api_Node).arg) : Int) == x8) x10 (iAdd x11 1)
                  else
                    if ((((List.getD (List.getD x5 (Int.toNat (List.getD x0 (Int.toNat x10) 0)) (([] : List api_Node))) (Int.toNat x11) d_api_Node).kind) : Int) == x7) = true then
                      alibiref14_Gather_l11 x0 x1 x2 x3 x4 x5 x6 x7 x8 ((((List.getD (List.getD x5 (Int.toNat (List.getD x0 (Int.toNat x10) 0)) (([] : List api_Node))) (Int.toNat x11) d_api_Node).arg) : Int) == x8) x10 (iAdd x11 1)
                    else
                      alibiref14_Gather_l11 x0 x1 x2 x3 x4 x5 x6 x7 x8 false x10 (iAdd x11 1)
              else none
            else none
          else
            some x9
        else none
      else none
    else none
  else none
partial_fixpoint
noncomputable abbrev alibiref14_Gather_l11_s (x0 : List Int) (x1 : List Int) (x2 : Int) (x3 : Int) (x4 : Int) (x5 : List (List api_Node)) (x6 : Int) (x7 : Int) (x8 : Int) (x9 : Bool) (x10 : Int) (x11 : Int) : St := ⟨dead :: dead :: .pv (.int .i64 x6) :: .pv (.int .i64 x7) :: .ptr 0 [] 0 0 :: (List.replicate 4 dead ++ (.ms 1 [] 0 (List.length x0) :: .ms 2 [] 0 (List.length x1) :: .pv (.int .i64 x8) :: .pv (.bool x9) :: .pv (.int .i64 x10) :: .pv (.int .i64 x11) :: List.replicate 64 dead)), [.box 0 [.pv (.int .i64 x2), .pv (.int .i64 x3), .pv (.int .i64 x4), .pv (.seq (List.length x5) (encP e_61 ([] : List api_Node) x5))], .arr 0 1 (List.length x0) (encW o_i64 0 x0), .arr 0 1 (List.length x1) (encW o_i64 0 x1)]⟩
noncomputable abbrev alibiref14_Gather_l11_e (x0 : List Int) (x1 : List Int) (x2 : Int) (x3 : Int) (x4 : Int) (x5 : List (List api_Node)) (x6 : Int) (x7 : Int) (x8 : Int) (x9 : Bool) (x10 : Int) (x11 : Int) (r : Bool) : St := ⟨dead :: dead :: .pv (.int .i64 x6) :: .pv (.int .i64 x7) :: .ptr 0 [] 0 0 :: (List.replicate 4 dead ++ (.ms 1 [] 0 (List.length x0) :: .ms 2 [] 0 (List.length x1) :: .pv (.int .i64 x8) :: .pv (.bool r) :: .pv (.int .i64 x10) :: List.replicate 65 dead)), [.box 0 [.pv (.int .i64 x2), .pv (.int .i64 x3), .pv (.int .i64 x4), .pv (.seq (List.length x5) (encP e_61 ([] : List api_Node) x5))], .arr 0 1 (List.length x0) (encW o_i64 0 x0), .arr 0 1 (List.length x1) (encW o_i64 0 x1)]⟩
theorem alibiref14_Gather_l11_ok (x0 : List Int) (x1 : List Int) (x2 : Int) (x3 : Int) (x4 : Int) (x5 : List (List api_Node)) (x6 : Int) (x7 : Int) (x8 : Int) (x9 : Bool) (x10 : Int) (x11 : Int) (r : Bool) (h : alibiref14_Gather_l11 x0 x1 x2 x3 x4 x5 x6 x7 x8 x9 x10 x11 = some r) : Loops Try.prog alibiref14_Gather_l11_c 0 (alibiref14_Gather_l11_s x0 x1 x2 x3 x4 x5 x6 x7 x8 x9 x10 x11) (.exit 4) (alibiref14_Gather_l11_e x0 x1 x2 x3 x4 x5 x6 x7 x8 x9 x10 x11 r) := by
 refine alibiref14_Gather_l11.partial_correctness x0 x1 x2 x3 x4 x5 x6 x7 x8 x10 (fun x9 x11 r => Loops Try.prog alibiref14_Gather_l11_c 0 (alibiref14_Gather_l11_s x0 x1 x2 x3 x4 x5 x6 x7 x8 x9 x10 x11) (.exit 4) (alibiref14_Gather_l11_e x0 x1 x2 x3 x4 x5 x6 x7 x8 x9 x10 x11 r)) ?_ x9 x11 r h
 clear h r x9 x11
 intro self ih x9 x11 r h
 obtain ⟨c5, h⟩ := need_of h
 obtain ⟨c6, h⟩ := need_of h
 obtain ⟨c7, h⟩ := need_of h
 obtain ⟨c8, h⟩ := need_of h
 rcases if_of h with ⟨c9, h⟩ | ⟨c9, h⟩
 · obtain ⟨c10, h⟩ := need_of h
   obtain ⟨c11, h⟩ := need_of h
   rcases if_of h with ⟨c12, h⟩ | ⟨c12, h⟩
   · exact pmore mixed lives 51 (by kernel_rfl) (pk <| pn c5 <| pn c6 <| pk <| pn c7 <| pn c8 <| pk3 <| pb c9 <| pk <| pn c5 <| pn c6 <| pk <| pn c7 <| pn c8 <| pk <| pn c10 <| pn c11 <| pk3 <| pb c12 <| pk8 <| pk <| pz) (ih true (iAdd x11 1) _ h)
   · rcases if_of h with ⟨c13, h⟩ | ⟨c13, h⟩
     · exact pmore mixed lives 51 (by kernel_rfl) (pk <| pn c5 <| pn c6 <| pk <| pn c7 <| pn c8 <| pk3 <| pb c9 <| pk <| pn c5 <| pn c6 <| pk <| pn c7 <| pn c8 <| pk <| pn c10 <| pn c11 <| pk3 <| pb c12 <| pk6 <| pb c13 <| pk8 <| pk8 <| pz) (ih ((((List.getD (List.getD x5 (Int.toNat (List.getD x0 (Int.toNat x10) 0)) (([] : List api_Node))) (Int.toNat x11) d_api_Node).arg) : Int) == x8) (iAdd x11 1) _ h)
     · rcases if_of h with ⟨c14, h⟩ | ⟨c14, h⟩
       · exact pmore mixed lives 51 (by kernel_rfl) (pk <| pn c5 <| pn c6 <| pk <| pn c7 <| pn c8 <| pk3 <| pb c9 <| pk <| pn c5 <| pn c6 <| pk <| pn c7 <| pn c8 <| pk <| pn c10 <| pn c11 <| pk3 <| pb c12 <| pk6 <| pb c13 <| pk8 <| pb c14 <| pk8 <| pk <| pz) (ih ((((List.getD (List.getD x5 (Int.toNat (List.getD x0 (Int.toNat x10) 0)) (([] : List api_Node))) (Int.toNat x11) d_api_Node).arg) : Int) == x8) (iAdd x11 1) _ h)
       · exact pmore mixed lives 51 (by kernel_rfl) (pk <| pn c5 <| pn c6 <| pk <| pn c7 <| pn c8 <| pk3 <| pb c9 <| pk <| pn c5 <| pn c6 <| pk <| pn c7 <| pn c8 <| pk <| pn c10 <| pn c11 <| pk3 <| pb c12 <| pk6 <| pb c13 <| pk8 <| pb c14 <| pk7 <| pz) (ih false (iAdd x11 1) _ h)
 · have h := Option.some.inj h; subst h
   exact plast mixed lives 51 (by kernel_rfl) (pk <| pn c5 <| pn c6 <| pk <| pn c7 <| pn c8 <| pk3 <| pb c9 <| pz) rfl
noncomputable def alibiref14_Gather_l8_c : Code := sub (codeOf Try.prog 51) [1, 1, 1, 0, 1, 0, 0, 1, 0, 0, 1, 0, 1, 0, 0]
def alibiref14_Gather_l8 (x0 : List Int) (x1 : List Int) (x2 : Int) (x3 : Int) (x4 : Int) (x5 : List (List api_Node)) (x6 : Int) (x7 : Int) (x8 : Int) (x9 : Bool) (x10 : Int) : Option (Bool) :=
  if (decide ((x10 : Int) < ((((List.length x0) : Nat) : Int)))) = true then
    bind (alibiref14_Gather_l11 x0 x1 x2 x3 x4 x5 x6 x7 x8 x9 x10 0) fun v15 =>
    alibiref14_Gather_l8 x0 x1 x2 x3 x4 x5 x6 x7 x8 v15 (iAdd x10 1)
  else
    some x9
partial_fixpoint
noncomputable abbrev alibiref14_Gather_l8_s (x0 : List Int) (x1 : List Int) (x2 : Int) (x3 : Int) (x4 : Int) (x5 : List (List api_Node)) (x6 : Int) (x7 : Int) (x8 : Int) (x9 : Bool) (x10 : Int) : St := ⟨dead :: dead :: .pv (.int .i64 x6) :: .pv (.int .i64 x7) :: .ptr 0 [] 0 0 :: (List.replicate 4 dead ++ (.ms 1 [] 0 (List.length x0) :: .ms 2 [] 0 (List.length x1) :: .pv (.int .i64 x8) :: .pv (.bool x9) :: .pv (.int .i64 x10) :: List.replicate 65 dead)), [.box 0 [.pv (.int .i64 x2), .pv (.int .i64 x3), .pv (.int .i64 x4), .pv (.seq (List.length x5) (encP e_61 ([] : List api_Node) x5))], .arr 0 1 (List.length x0) (encW o_i64 0 x0), .arr 0 1 (List.length x1) (encW o_i64 0 x1)]⟩
noncomputable abbrev alibiref14_Gather_l8_e (x0 : List Int) (x1 : List Int) (x2 : Int) (x3 : Int) (x4 : Int) (x5 : List (List api_Node)) (x6 : Int) (x7 : Int) (x8 : Int) (x9 : Bool) (x10 : Int) (r : Bool) : St := ⟨dead :: dead :: .pv (.int .i64 x6) :: .pv (.int .i64 x7) :: .ptr 0 [] 0 0 :: (List.replicate 4 dead ++ (.ms 1 [] 0 (List.length x0) :: .ms 2 [] 0 (List.length x1) :: .pv (.int .i64 x8) :: .pv (.bool r) :: List.replicate 66 dead)), [.box 0 [.pv (.int .i64 x2), .pv (.int .i64 x3), .pv (.int .i64 x4), .pv (.seq (List.length x5) (encP e_61 ([] : List api_Node) x5))], .arr 0 1 (List.length x0) (encW o_i64 0 x0), .arr 0 1 (List.length x1) (encW o_i64 0 x1)]⟩
theorem alibiref14_Gather_l8_ok (x0 : List Int) (x1 : List Int) (x2 : Int) (x3 : Int) (x4 : Int) (x5 : List (List api_Node)) (x6 : Int) (x7 : Int) (x8 : Int) (x9 : Bool) (x10 : Int) (r : Bool) (h : alibiref14_Gather_l8 x0 x1 x2 x3 x4 x5 x6 x7 x8 x9 x10 = some r) : Loops Try.prog alibiref14_Gather_l8_c 0 (alibiref14_Gather_l8_s x0 x1 x2 x3 x4 x5 x6 x7 x8 x9 x10) (.exit 2) (alibiref14_Gather_l8_e x0 x1 x2 x3 x4 x5 x6 x7 x8 x9 x10 r) := by
 refine alibiref14_Gather_l8.partial_correctness x0 x1 x2 x3 x4 x5 x6 x7 x8 (fun x9 x10 r => Loops Try.prog alibiref14_Gather_l8_c 0 (alibiref14_Gather_l8_s x0 x1 x2 x3 x4 x5 x6 x7 x8 x9 x10) (.exit 2) (alibiref14_Gather_l8_e x0 x1 x2 x3 x4 x5 x6 x7 x8 x9 x10 r)) ?_ x9 x10 r h
 clear h r x9 x10
 intro self ih x9 x10 r h
 rcases if_of h with ⟨c4, h⟩ | ⟨c4, h⟩
 · obtain ⟨v15, h16, h⟩ := bind_of h
   exact pmore mixed lives 51 (by kernel_rfl) (pk2 <| pb c4 <| pl (alibiref14_Gather_l11_ok _ _ _ _ _ _ _ _ _ _ _ _ _ h16) <| pk <| pz) (ih v15 (iAdd x10 1) _ h)
 · have h := Option.some.inj h; subst h
   exact plast mixed lives 51 (by kernel_rfl) (pk2 <| pb c4 <| pz) rfl
noncomputable def alibiref14_Gather_l4_c : Code := sub (codeOf Try.prog 51) [1, 1, 1, 0, 1, 0, 0]
def alibiref14_Gather_l4 (x0 : List Int) (x1 : List Int) (x2 : Int) (x3 : Int) (x4 : Int) (x5 : List (List api_Node)) (x6 : Int) (x7 : Int) (x8 : Int) : Option ((List Int)) :=
  if (decide ((x8 : Int) < 32)) = true then
    bind (alibiref14_Gather_l8 x0 x1 x2 x3 x4 x5 x6 x7 x8 false 0) fun v17 =>
    if v17 = true then
      if (Nat.ble ((List.length x1 + List.length ([x8])) * 8) reach) = true then
        alibiref14_Gather_l4 x0 (x1 ++ ([x8])) x2 x3 x4 x5 x6 x7 (iAdd x8 1)
      else none
    else
      alibiref14_Gather_l4 x0 x1 x2 x3 x4 x5 x6 x7 (iAdd x8 1)
  else
    some x1
partial_fixpoint
noncomputable abbrev alibiref14_Gather_l4_s (x0 : List Int) (x1 : List Int) (x2 : Int) (x3 : Int) (x4 : Int) (x5 : List (List api_Node)) (x6 : Int) (x7 : Int) (x8 : Int) : St := ⟨dead :: dead :: .pv (.int .i64 x6) :: .pv (.int .i64 x7) :: .ptr 0 [] 0 0 :: (List.replicate 4 dead ++ (.ms 1 [] 0 (List.length x0) :: .ms 2 [] 0 (List.length x1) :: .pv (.int .i64 x8) :: List.replicate 67 dead)), [.box 0 [.pv (.int .i64 x2), .pv (.int .i64 x3), .pv (.int .i64 x4), .pv (.seq (List.length x5) (encP e_61 ([] : List api_Node) x5))], .arr 0 1 (List.length x0) (encW o_i64 0 x0), .arr 0 1 (List.length x1) (encW o_i64 0 x1)]⟩
noncomputable abbrev alibiref14_Gather_l4_e (x0 : List Int) (x1 : List Int) (x2 : Int) (x3 : Int) (x4 : Int) (x5 : List (List api_Node)) (x6 : Int) (x7 : Int) (x8 : Int) (r : (List Int)) : St := ⟨(List.replicate 10 dead ++ (.ms 0 [] 0 (List.length r) :: List.replicate 68 dead)), [.arr 0 1 (List.length r) (encW o_i64 0 r)]⟩
theorem alibiref14_Gather_l4_ok (x0 : List Int) (x1 : List Int) (x2 : Int) (x3 : Int) (x4 : Int) (x5 : List (List api_Node)) (x6 : Int) (x7 : Int) (x8 : Int) (r : (List Int)) (h : alibiref14_Gather_l4 x0 x1 x2 x3 x4 x5 x6 x7 x8 = some r) : Loops Try.prog alibiref14_Gather_l4_c 0 (alibiref14_Gather_l4_s x0 x1 x2 x3 x4 x5 x6 x7 x8) (.exit 0) (alibiref14_Gather_l4_e x0 x1 x2 x3 x4 x5 x6 x7 x8 r) := by
 refine alibiref14_Gather_l4.partial_correctness x0 x2 x3 x4 x5 x6 x7 (fun x1 x8 r => Loops Try.prog alibiref14_Gather_l4_c 0 (alibiref14_Gather_l4_s x0 x1 x2 x3 x4 x5 x6 x7 x8) (.exit 0) (alibiref14_Gather_l4_e x0 x1 x2 x3 x4 x5 x6 x7 x8 r)) ?_ x1 x8 r h
 clear h r x1 x8
 intro self ih x1 x8 r h
 rcases if_of h with ⟨c3, h⟩ | ⟨c3, h⟩
 · obtain ⟨v17, h18, h⟩ := bind_of h
   rcases if_of h with ⟨c19, h⟩ | ⟨c19, h⟩
   · obtain ⟨c20, h⟩ := need_of h
     exact pmore mixed lives 51 (by kernel_rfl) (pk <| pb c3 <| pl (alibiref14_Gather_l8_ok _ _ _ _ _ _ _ _ _ _ _ _ h18) <| pb c19 <| pe (eff_lit o_i64 0 3 1 1 ([x8]) rfl [] []) <| pb (whole_ok (List.length ([x8]))) <| pn c20 <| pe (eff_app o_i64 0 x1 ([x8]) (x1 ++ ([x8])) 2 1 (List.length x1) (List.length ([x8])) (fun i => List.map AV.scal (encW o_i64 0 ([x8]) i)) (encW o_i64 0 x1 (List.length x1)) [] [] [(2, false)] (by first | exact Nat.le_refl _ | exact Nat.zero_le _ | (simp only [decide_eq_true_eq, List.length_set, List.length_append, List.length_replicate, List.length_cons, List.length_nil, Nat.zero_add] at * <;> omega)) rfl (fun _ => by kernel_rfl) (congrArg o_i64 (getD_ge 0 (by first | exact Nat.le_refl _ | exact Nat.zero_le _ | (simp only [decide_eq_true_eq, List.length_set, List.length_append, List.length_replicate, List.length_cons, List.length_nil, Nat.zero_add] at * <;> omega)))) (by rw [List.take_of_length_le (by first | exact Nat.le_refl _ | exact Nat.zero_le _ | (simp only [decide_eq_true_eq, List.length_set, List.length_append, List.length_replicate, List.length_cons, List.length_nil, Nat.zero_add] at * <;> omega))])) <| pk <| pz) (ih (x1 ++ ([x8])) (iAdd x8 1) _ h)
   · exact pmore mixed lives 51 (by kernel_rfl) (pk <| pb c3 <| pl (alibiref14_Gather_l8_ok _ _ _ _ _ _ _ _ _ _ _ _ h18) <| pb c19 <| pk <| pz) (ih x1 (iAdd x8 1) _ h)
 · have h := Option.some.inj h; subst h
   exact plast mixed lives 51 (by kernel_rfl) (pk <| pb c3 <| pz) rfl
/-- alibi/alibiref14.Gather -/
def alibiref14_Gather (p : api_Program) (f : Int) (kind : Int) (other : Int) : Option ((List Int)) :=
  bind (alibiref06_Reach p ([f])) fun v1 =>
  bind (alibiref14_Gather_l4 v1 (([] : List Int)) p.globals p.locks p.slots p.funcs kind other 0) fun v21 =>
  some v21
theorem alibiref14_Gather_ok (p : api_Program) (f : Int) (kind : Int) (other : Int) (r : (List Int)) (h : alibiref14_Gather p f kind other = some r) : Does Try.prog 51 [.agg [.pv (.int .i64 p.globals), .pv (.int .i64 p.locks), .pv (.int .i64 p.slots), .pv (.seq (List.length p.funcs) (encP e_61 ([] : List api_Node) p.funcs))], .pv (.int .i64 f), .pv (.int .i64 kind), .pv (.int .i64 other)] [] (.ms 0 [] 0 (List.length r), [.arr 0 1 (List.length r) (encW o_i64 0 r)]) := by
 unfold alibiref14_Gather at h
 obtain ⟨v1, h2, h⟩ := bind_of h
 obtain ⟨v21, h22, h⟩ := bind_of h
 have h := Option.some.inj h; subst h
 exact pdoes mixed (L := lives) (by kernel_rfl) (pk2 <| pe (eff_lit o_i64 0 1 1 1 ([f]) rfl [] []) <| pb (whole_ok (List.length ([f]))) <| pc (alibiref06_Reach_ok _ _ _ h2) <| pk <| pl (Loops.of (s1 := ⟨dead :: dead :: .pv (.int .i64 kind) :: .pv (.int .i64 other) :: .ptr 0 [] 0 0 :: (List.replicate 4 dead ++ (.ms 1 [] 0 (List.length v1) :: .ms 2 [] 0 (List.length ([] : List Int)) :: .pv (.int .i64 0) :: List.replicate 67 dead)), [.box 0 [.pv (.int .i64 p.globals), .pv (.int .i64 p.locks), .pv (.int .i64 p.slots), .pv (.seq (List.length p.funcs) (encP e_61 ([] : List api_Node) p.funcs))], .arr 0 1 (List.length v1) (encW o_i64 0 v1), .arr 0 1 (List.length ([] : List Int)) (encW o_i64 0 (([] : List Int)))]⟩) (alibiref14_Gather_l4_ok _ _ _ _ _ _ _ _ _ _ h22) (by (first | rfl | (simp only [alibiref14_Gather_l4_s, List.length_set]; done)))) <| pz)
noncomputable def alibiref03_Mask_l7_c : Code := sub (codeOf Try.prog 28) [1, 1, 0, 1, 0, 0, 1, 0, 0, 1, 0, 1, 0, 0]
def alibiref03_Mask_l7 (x0 : List Int) (x1 : BitVec 64) (x2 : Int) (x3 : BitVec 64) (x4 : Int) : Option ((BitVec 64)) :=
  if (decide ((0 : Int) ≤ x2)) = true then
    if (decide ((x2 : Int) < ((List.length x0 : Nat) : Int))) = true then
      if (decide ((x4 : Int) < (List.getD x0 (Int.toNat x2) 0))) = true then
        alibiref03_Mask_l7 x0 x1 x2 (x3 * (2#64)) (iAdd x4 1)
      else
        some x3
    else none
  else none
partial_fixpoint
noncomputable abbrev alibiref03_Mask_l7_s (x0 : List Int) (x1 : BitVec 64) (x2 : Int) (x3 : BitVec 64) (x4 : Int) : St := ⟨.pv (.seq (List.length x0) (encP e_i64 0 x0)) :: dead :: dead :: .pv (.int .u64 (BitVec.toNat x1 : Nat)) :: .pv (.int .i64 x2) :: .pv (.int .u64 (BitVec.toNat x3 : Nat)) :: .pv (.int .i64 x4) :: List.replicate 21 dead, []⟩
noncomputable abbrev alibiref03_Mask_l7_e (x0 : List Int) (x1 : BitVec 64) (x2 : Int) (x3 : BitVec 64) (x4 : Int) (r : (BitVec 64)) : St := ⟨.pv (.seq (List.length x0) (encP e_i64 0 x0)) :: dead :: dead :: .pv (.int .u64 (BitVec.toNat x1 : Nat)) :: .pv (.int .i64 x2) :: .pv (.int .u64 (BitVec.toNat r : Nat)) :: List.replicate 22 dead, []⟩
theorem alibiref03_Mask_l7_ok (x0 : List Int) (x1 : BitVec 64) (x2 : Int) (x3 : BitVec 64) (x4 : Int) (r : (BitVec 64)) (h : alibiref03_Mask_l7 x0 x1 x2 x3 x4 = some r) : Loops Try.prog alibiref03_Mask_l7_c 0 (alibiref03_Mask_l7_s x0 x1 x2 x3 x4) (.exit 2) (alibiref03_Mask_l7_e x0 x1 x2 x3 x4 r) := by
 refine alibiref03_Mask_l7.partial_correctness x0 x1 x2 (fun x3 x4 r => Loops Try.prog alibiref03_Mask_l7_c 0 (alibiref03_Mask_l7_s x0 x1 x2 x3 x4) (.exit 2) (alibiref03_Mask_l7_e x0 x1 x2 x3 x4 r)) ?_ x3 x4 r h
 clear h r x3 x4
 intro self ih x3 x4 r h
 obtain ⟨c2, h⟩ := need_of h
 obtain ⟨c3, h⟩ := need_of h
 rcases if_of h with ⟨c4, h⟩ | ⟨c4, h⟩
 · exact pmore mixed lives 28 (by kernel_rfl) (pn c2 <| pn c3 <| pk2 <| pb c4 <| pe (eff_int (k := .u64) (un_mul .u64 rfl x3 (2#64))) <| pk <| pz) (ih (x3 * (2#64)) (iAdd x4 1) _ h)
 · have h := Option.some.inj h; subst h
   exact plast mixed lives 28 (by kernel_rfl) (pn c2 <| pn c3 <| pk2 <| pb c4 <| pz) rfl
noncomputable def alibiref03_Mask_l3_c : Code := sub (codeOf Try.prog 28) [1, 1, 0, 1, 0, 0]
def alibiref03_Mask_l3 (x0 : List Int) (x1 : BitVec 64) (x2 : Int) : Option ((BitVec 64)) :=
  if (decide ((x2 : Int) < (((List.length x0 : Nat) : Int)))) = true then
    bind (alibiref03_Mask_l7 x0 x1 x2 (1#64) 0) fun v5 =>
    alibiref03_Mask_l3 x0 (x1 + v5) (iAdd x2 1)
  else
    some x1
partial_fixpoint
noncomputable abbrev alibiref03_Mask_l3_s (x0 : List Int) (x1 : BitVec 64) (x2 : Int) : St := ⟨.pv (.seq (List.length x0) (encP e_i64 0 x0)) :: dead :: dead :: .pv (.int .u64 (BitVec.toNat x1 : Nat)) :: .pv (.int .i64 x2) :: List.replicate 23 dead, []⟩
noncomputable abbrev alibiref03_Mask_l3_e (x0 : List Int) (x1 : BitVec 64) (x2 : Int) (r : (BitVec 64)) : St := ⟨dead :: dead :: dead :: .pv (.int .u64 (BitVec.toNat r : Nat)) :: List.replicate 24 dead, []⟩
theorem alibiref03_Mask_l3_ok (x0 : List Int) (x1 : BitVec 64) (x2 : Int) (r : (BitVec 64)) (h : alibiref03_Mask_l3 x0 x1 x2 = some r) : Loops Try.prog alibiref03_Mask_l3_c 0 (alibiref03_Mask_l3_s x0 x1 x2) (.exit 0) (alibiref03_Mask_l3_e x0 x1 x2 r) := by
 refine alibiref03_Mask_l3.partial_correctness x0 (fun x1 x2 r => Loops Try.prog alibiref03_Mask_l3_c 0 (alibiref03_Mask_l3_s x0 x1 x2) (.exit 0) (alibiref03_Mask_l3_e x0 x1 x2 r)) ?_ x1 x2 r h
 clear h r x1 x2
 intro self ih x1 x2 r h
 rcases if_of h with ⟨c1, h⟩ | ⟨c1, h⟩
 · obtain ⟨v5, h6, h⟩ := bind_of h
   exact pmore mixed lives 28 (by kernel_rfl) (pk2 <| pb c1 <| pl (alibiref03_Mask_l7_ok _ _ _ _ _ _ h6) <| pe (eff_int (k := .u64) (un_add .u64 rfl x1 v5)) <| pk <| pz) (ih (x1 + v5) (iAdd x2 1) _ h)
 · have h := Option.some.inj h; subst h
   exact plast mixed lives 28 (by kernel_rfl) (pk2 <| pb c1 <| pz) rfl
/-- alibi/alibiref03.Mask -/
def alibiref03_Mask (l : List Int) : Option ((BitVec 32)) :=
  bind (alibiref03_Mask_l3 l (0#64) 0) fun v7 =>
  some (BitVec.setWidth 32 v7)
theorem alibiref03_Mask_ok (l : List Int) (r : (BitVec 32)) (h : alibiref03_Mask l = some r) : Does Try.prog 28 [.pv (.seq (List.length l) (encP e_i64 0 l))] [] (.pv (.int .u32 (BitVec.toNat r : Nat)), []) := by
 unfold alibiref03_Mask at h
 obtain ⟨v7, h8, h⟩ := bind_of h
 have h := Option.some.inj h; subst h
 exact pdoes mixed (L := lives) (by kernel_rfl) (pl (alibiref03_Mask_l3_ok _ _ _ _ h8) <| pe (eff_int (k := .u32) (un_un .u32 rfl 64 v7)) <| pz)
noncomputable def alibilaw14_KillTells_l13_c : Code := sub (codeOf Try.prog 13) [1, 1, 1, 1, 1, 1, 1, 1, 0, 1, 0, 0]
inductive alibilaw14_KillTells_l13_R where
  | x0 (v0 : List Int) (v1 : Bool)
  | x1 (v0 : List Int)
def alibilaw14_KillTells_l13_R.ex : alibilaw14_KillTells_l13_R → Ex
  | .x0 _ _ => .ret
  | .x1 _ => .exit 0
noncomputable def alibilaw14_KillTells_l13_R.st (x0 : List (BitVec 32)) (x1 : List (BitVec 32)) (x2 : List Int) (x3 : Int) (x4 : Int) (x5 : Int) (x6 : List (List api_Node)) (x7 : BitVec 32) (x8 : Int) : alibilaw14_KillTells_l13_R → St
  | .x0 v0 v1 => ⟨dead :: dead :: .pv (.bool v1) :: (List.replicate 4 dead ++ (.pv (.int .u32 (BitVec.toNat x7 : Nat)) :: (List.replicate 4 dead ++ (.ms 0 [] 0 (List.length v0) :: List.replicate 125 dead)))), [.arr 0 1 (List.length v0) (encW o_i64 0 v0)]⟩
  | .x1 v0 => ⟨(List.replicate 7 dead ++ (.pv (.int .u32 (BitVec.toNat x7 : Nat)) :: (List.replicate 4 dead ++ (.ms 0 [] 0 (List.length v0) :: List.replicate 125 dead)))), [.arr 0 1 (List.length v0) (encW o_i64 0 v0)]⟩
def alibilaw14_KillTells_l13 (x0 : List (BitVec 32)) (x1 : List (BitVec 32)) (x2 : List Int) (x3 : Int) (x4 : Int) (x5 : Int) (x6 : List (List api_Node)) (x7 : BitVec 32) (x8 : Int) : Option (alibilaw14_KillTells_l13_R) :=
  if (decide ((x8 : Int) < (((List.length x6 : Nat) : Int)))) = true then
    if (decide ((0 : Int) ≤ x8)) = true then
      if (decide ((x8 : Int) < (((List.length x0) : Nat) : Int))) = true then
        bind (alibiref14_Gather (api_Program.mk x3 x4 x5 x6) x8 4 4) fun v33 =>
        bind (alibiref03_Mask v33) fun v35 =>
        if ((List.getD x0 (Int.toNat x8) (0#32)) != v35) = true then
          some (.x0 x2 false)
        else
          if (decide ((x8 : Int) < (((List.length x1) : Nat) : Int))) = true then
            bind (alibiref14_Gather (api_Program.mk x3 x4 x5 x6) x8 1 2) fun v39 =>
            bind (alibiref03_Mask v39) fun v41 =>
            if ((List.getD x1 (Int.toNat x8) (0#32)) != v41) = true then
              some (.x0 x2 false)
            else
              bind (alibiref14_Gather (api_Program.mk x3 x4 x5 x6) x8 5 5) fun v44 =>
              if (decide ((((((List.length v44) : Nat) : Int)) : Int) > 0)) = true then
                if (Nat.ble ((List.length x2 + List.length ([x8])) * 8) reach) = true then
                  alibilaw14_KillTells_l13 x0 x1 (x2 ++ ([x8])) x3 x4 x5 x6 x7 (iAdd x8 1)
                else none
              else
                alibilaw14_KillTells_l13 x0 x1 x2 x3 x4 x5 x6 x7 (iAdd x8 1)
          else none
      else none
    else none
  else
    some (.x1 x2)
partial_fixpoint
noncomputable abbrev alibilaw14_KillTells_l13_s (x0 : List (BitVec 32)) (x1 : List (BitVec 32)) (x2 : List Int) (x3 : Int) (x4 : Int) (x5 : Int) (x6 : List (List api_Node)) (x7 : BitVec 32) (x8 : Int) : St := ⟨dead :: .ptr 0 [] 0 0 :: dead :: .ms 1 [] 0 (List.length x0) :: dead :: .ms 2 [] 0 (List.length x1) :: dead :: .pv (.int .u32 (BitVec.toNat x7 : Nat)) :: (List.replicate 4 dead ++ (.ms 3 [] 0 (List.length x2) :: .pv (.int .i64 x8) :: List.replicate 124 dead)), [.box 0 [.pv (.int .i64 x3), .pv (.int .i64 x4), .pv (.int .i64 x5), .pv (.seq (List.length x6) (encP e_61 ([] : List api_Node) x6))], .arr 0 1 (List.length x0) (encW o_u32 0#32 x0), .arr 0 1 (List.length x1) (encW o_u32 0#32 x1), .arr 0 1 (List.length x2) (encW o_i64 0 x2)]⟩
theorem alibilaw14_KillTells_l13_ok (x0 : List (BitVec 32)) (x1 : List (BitVec 32)) (x2 : List Int) (x3 : Int) (x4 : Int) (x5 : Int) (x6 : List (List api_Node)) (x7 : BitVec 32) (x8 : Int) (r : alibilaw14_KillTells_l13_R) (h : alibilaw14_KillTells_l13 x0 x1 x2 x3 x4 x5 x6 x7 x8 = some r) : Loops Try.prog alibilaw14_KillTells_l13_c 0 (alibilaw14_KillTells_l13_s x0 x1 x2 x3 x4 x5 x6 x7 x8) r.ex (alibilaw14_KillTells_l13_R.st x0 x1 x2 x3 x4 x5 x6 x7 x8 r) := by
 refine alibilaw14_KillTells_l13.partial_correctness x0 x1 x3 x4 x5 x6 x7 (fun x2 x8 r => Loops Try.prog alibilaw14_KillTells_l13_c 0 (alibilaw14_KillTells_l13_s x0 x1 x2 x3 x4 x5 x6 x7 x8) r.ex (alibilaw14_KillTells_l13_R.st x0 x1 x2 x3 x4 x5 x6 x7 x8 r)) ?_ x2 x8 r h
 clear h r x2 x8
 intro self ih x2 x8 r h
 rcases if_of h with ⟨c30, h⟩ | ⟨c30, h⟩
 · obtain ⟨c31, h⟩ := need_of h
   obtain ⟨c32, h⟩ := need_of h
   obtain ⟨v33, h34, h⟩ := bind_of h
   obtain ⟨v35, h36, h⟩ := bind_of h
   rcases if_of h with ⟨c37, h⟩ | ⟨c37, h⟩
   · have h := Option.some.inj h; subst h
     exact plast mixed lives 13 (by kernel_rfl) (pk3 <| pb c30 <| pn c31 <| pn c32 <| pk2 <| pc (alibiref14_Gather_ok _ _ _ _ _ h34) <| pk <| pb (whole_ok (List.length v33)) <| pc (alibiref03_Mask_ok _ _ h36) <| pk <| pe (eff_bool (un_neq (List.getD x0 (Int.toNat x8) (0#32)) v35)) <| pb c37 <| pk8 <| pk2 <| pz) rfl
   · obtain ⟨c38, h⟩ := need_of h
     obtain ⟨v39, h40, h⟩ := bind_of h
     obtain ⟨v41, h42, h⟩ := bind_of h
     rcases if_of h with ⟨c43, h⟩ | ⟨c43, h⟩
     · have h := Option.some.inj h; subst h
       exact plast mixed lives 13 (by kernel_rfl) (pk3 <| pb c30 <| pn c31 <| pn c32 <| pk2 <| pc (alibiref14_Gather_ok _ _ _ _ _ h34) <| pk <| pb (whole_ok (List.length v33)) <| pc (alibiref03_Mask_ok _ _ h36) <| pk <| pe (eff_bool (un_neq (List.getD x0 (Int.toNat x8) (0#32)) v35)) <| pb c37 <| pk2 <| pn c31 <| pn c38 <| pk6 <| pc (alibiref14_Gather_ok _ _ _ _ _ h40) <| pk2 <| pb (whole_ok (List.length v39)) <| pc (alibiref03_Mask_ok _ _ h42) <| pk2 <| pe (eff_bool (un_neq (List.getD x1 (Int.toNat x8) (0#32)) v41)) <| pk <| pb c43 <| pz) rfl
     · obtain ⟨v44, h45, h⟩ := bind_of h
       rcases if_of h with ⟨c46, h⟩ | ⟨c46, h⟩
       · obtain ⟨c47, h⟩ := need_of h
         exact pmore mixed lives 13 (by kernel_rfl) (pk3 <| pb c30 <| pn c31 <| pn c32 <| pk2 <| pc (alibiref14_Gather_ok _ _ _ _ _ h34) <| pk <| pb (whole_ok (List.length v33)) <| pc (alibiref03_Mask_ok _ _ h36) <| pk <| pe (eff_bool (un_neq (List.getD x0 (Int.toNat x8) (0#32)) v35)) <| pb c37 <| pk2 <| pn c31 <| pn c38 <| pk6 <| pc (alibiref14_Gather_ok _ _ _ _ _ h40) <| pk2 <| pb (whole_ok (List.length v39)) <| pc (alibiref03_Mask_ok _ _ h42) <| pk2 <| pe (eff_bool (un_neq (List.getD x1 (Int.toNat x8) (0#32)) v41)) <| pk <| pb c43 <| pk <| pc (alibiref14_Gather_ok _ _ _ _ _ h45) <| pk3 <| pb c46 <| pe (eff_lit o_i64 0 14 1 1 ([x8]) rfl [] []) <| pb (whole_ok (List.length ([x8]))) <| pn c47 <| pe (eff_app o_i64 0 x2 ([x8]) (x2 ++ ([x8])) 3 1 (List.length x2) (List.length ([x8])) (fun i => List.map AV.scal (encW o_i64 0 ([x8]) i)) (encW o_i64 0 x2 (List.length x2)) [] [] [(3, false)] (by first | exact Nat.le_refl _ | exact Nat.zero_le _ | (simp only [decide_eq_true_eq, List.length_set, List.length_append, List.length_replicate, List.length_cons, List.length_nil, Nat.zero_add] at * <;> omega)) rfl (fun _ => by kernel_rfl) (congrArg o_i64 (getD_ge 0 (by first | exact Nat.le_refl _ | exact Nat.zero_le _ | (simp only [decide_eq_true_eq, List.length_set, List.length_append, List.length_replicate, List.length_cons, List.length_nil, Nat.zero_add] at * <;> omega)))) (by rw [List.take_of_length_le (by first | exact Nat.le_refl _ | exact Nat.zero_le _ | (simp only [decide_eq_true_eq, List.length_set, List.length_append, List.length_replicate, List.length_cons, List.length_nil, Nat.zero_add] at * <;> omega))])) <| pk <| pz) (ih (x2 ++ ([x8])) (iAdd x8 1) _ h)
       · exact pmore mixed lives 13 (by kernel_rfl) (pk3 <| pb c30 <| pn c31 <| pn c32 <| pk2 <| pc (alibiref14_Gather_ok _ _ _ _ _ h34) <| pk <| pb (whole_ok (List.length v33)) <| pc (alibiref03_Mask_ok _ _ h36) <| pk <| pe (eff_bool (un_neq (List.getD x0 (Int.toNat x8) (0#32)) v35)) <| pb c37 <| pk2 <| pn c31 <| pn c38 <| pk6 <| pc (alibiref14_Gather_ok _ _ _ _ _ h40) <| pk2 <| pb (whole_ok (List.length v39)) <| pc (alibiref03_Mask_ok _ _ h42) <| pk2 <| pe (eff_bool (un_neq (List.getD x1 (Int.toNat x8) (0#32)) v41)) <| pk <| pb c43 <| pk <| pc (alibiref14_Gather_ok _ _ _ _ _ h45) <| pk3 <| pb c46 <| pk <| pz) (ih x2 (iAdd x8 1) _ h)
 · have h := Option.some.inj h; subst h
   exact plast mixed lives 13 (by kernel_rfl) (pk3 <| pb c30 <| pz) rfl
/-- alibi/alibilaw14.KillTells -/
def alibilaw14_KillTells (p : api_Program) : Option (Bool) :=
  bind (alibilaw14_awake) fun v1 =>
  if (!v1) = true then
    bind (alibilaw14_awake) fun v4 =>
    some v4
  else
    bind (alibiref05_Small p) fun v6 =>
    if (!v6) = true then
      bind (alibilaw14_awake) fun v9 =>
      some v9
    else
      bind (kill_Unlocks p) fun v11 =>
      bind (kill_Touches p) fun v13 =>
      bind (kill_Begins p) fun v15 =>
      bind (alibiref05_Check p) fun v17 =>
      if ((v17.2.2 : Int) != 0) = true then
        if ((v11.1 : Int) == v17.2.2) = true then
          if ((v13.1 : Int) == v11.1) = true then
            if ((v15.2 : Int) == v11.1) = true then
              if ((((((List.length v11.2) : Nat) : Int)) : Int) == 0) = true then
                if ((((((List.length v13.2) : Nat) : Int)) : Int) == 0) = true then
                  some (v15.1 == (0#32))
                else
                  some false
              else
                some false
            else
              some false
          else
            some false
        else
          some false
      else
        if ((v11.1 : Int) != 0) = true then
          some false
        else
          if ((v13.1 : Int) != 0) = true then
            some false
          else
            if ((v15.2 : Int) != 0) = true then
              some false
            else
              if ((((((List.length v11.2) : Nat) : Int)) : Int) != (((List.length p.funcs : Nat) : Int))) = true then
                some false
              else
                if ((((((List.length v13.2) : Nat) : Int)) : Int) != (((List.length p.funcs : Nat) : Int))) = true then
                  some false
                else
                  bind (alibilaw14_KillTells_l13 v11.2 v13.2 (([] : List Int)) p.globals p.locks p.slots p.funcs v15.1 0) fun q => match q with
                    | .x0 v48 v49 =>
                      some v49
                    | .x1 v51 =>
                      bind (alibiref03_Mask v51) fun v53 =>
                      some (v15.1 == v53)
theorem alibilaw14_KillTells_ok (p : api_Program) (r : Bool) (h : alibilaw14_KillTells p = some r) : Does Try.prog 13 [.agg [.pv (.int .i64 p.globals), .pv (.int .i64 p.locks), .pv (.int .i64 p.slots), .pv (.seq (List.length p.funcs) (encP e_61 ([] : List api_Node) p.funcs))]] [] (.pv (.bool r), []) := by
 unfold alibilaw14_KillTells at h
 obtain ⟨v1, h2, h⟩ := bind_of h
 rcases if_of h with ⟨c3, h⟩ | ⟨c3, h⟩
 · obtain ⟨v4, h5, h⟩ := bind_of h
   have h := Option.some.inj h; subst h
   exact pdoes mixed (L := lives) (by kernel_rfl) (pk <| pc (alibilaw14_awake_ok _ h2) <| pk2 <| pb c3 <| pk4 <| pc (alibilaw14_awake_ok _ h5) <| pk <| pz)
 · obtain ⟨v6, h7, h⟩ := bind_of h
   rcases if_of h with ⟨c8, h⟩ | ⟨c8, h⟩
   · obtain ⟨v9, h10, h⟩ := bind_of h
     have h := Option.some.inj h; subst h
     exact pdoes mixed (L := lives) (by kernel_rfl) (pk <| pc (alibilaw14_awake_ok _ h2) <| pk2 <| pb c3 <| pk2 <| pc (alibiref05_Small_ok _ _ h7) <| pk4 <| pb c8 <| pc (alibilaw14_awake_ok _ h10) <| pk <| pz)
   · obtain ⟨v11, h12, h⟩ := bind_of h
     obtain ⟨v13, h14, h⟩ := bind_of h
     obtain ⟨v15, h16, h⟩ := bind_of h
     obtain ⟨v17, h18, h⟩ := bind_of h
     rcases if_of h with ⟨c19, h⟩ | ⟨c19, h⟩
     · rcases if_of h with ⟨c20, h⟩ | ⟨c20, h⟩
       · rcases if_of h with ⟨c21, h⟩ | ⟨c21, h⟩
         · rcases if_of h with ⟨c22, h⟩ | ⟨c22, h⟩
           · rcases if_of h with ⟨c23, h⟩ | ⟨c23, h⟩
             · rcases if_of h with ⟨c24, h⟩ | ⟨c24, h⟩
               · have h := Option.some.inj h; subst h
                 exact pdoes mixed (L := lives) (by kernel_rfl) (pk <| pc (alibilaw14_awake_ok _ h2) <| pk2 <| pb c3 <| pk2 <| pc (alibiref05_Small_ok _ _ h7) <| pk4 <| pb c8 <| pk <| pc (kill_Unlocks_ok _ _ h12) <| pk2 <| pc (kill_Touches_ok _ _ h14) <| pk2 <| pc (kill_Begins_ok _ _ h16) <| pk2 <| pc (alibiref05_Check_ok _ _ h18) <| pk2 <| pb c19 <| pk <| pb c20 <| pk4 <| pb c21 <| pk4 <| pb c22 <| pk5 <| pb c23 <| pk5 <| pb c24 <| pk <| pe (eff_bool (un_eql v15.1 (0#32))) <| pk <| pz)
               · have h := Option.some.inj h; subst h
                 exact pdoes mixed (L := lives) (by kernel_rfl) (pk <| pc (alibilaw14_awake_ok _ h2) <| pk2 <| pb c3 <| pk2 <| pc (alibiref05_Small_ok _ _ h7) <| pk4 <| pb c8 <| pk <| pc (kill_Unlocks_ok _ _ h12) <| pk2 <| pc (kill_Touches_ok _ _ h14) <| pk2 <| pc (kill_Begins_ok _ _ h16) <| pk2 <| pc (alibiref05_Check_ok _ _ h18) <| pk2 <| pb c19 <| pk <| pb c20 <| pk4 <| pb c21 <| pk4 <| pb c22 <| pk5 <| pb c23 <| pk5 <| pb c24 <| pk2 <| pz)
             · have h := Option.some.inj h; subst h
               exact pdoes mixed (L := lives) (by kernel_rfl) (pk <| pc (alibilaw14_awake_ok _ h2) <| pk2 <| pb c3 <| pk2 <| pc (alibiref05_Small_ok _ _ h7) <| pk4 <| pb c8 <| pk <| pc (kill_Unlocks_ok _ _ h12) <| pk2 <| pc (kill_Touches_ok _ _ h14) <| pk2 <| pc (kill_Begins_ok _ _ h16) <| pk2 <| pc (alibiref05_Check_ok _ _ h18) <| pk2 <| pb c19 <| pk <| pb c20 <| pk4 <| pb c21 <| pk4 <| pb c22 <| pk5 <| pb c23 <| pk6 <| pz)
           · have h := Option.some.inj h; subst h
             exact pdoes mixed (L := lives) (by kernel_rfl) (pk <| pc (alibilaw14_awake_ok _ h2) <| pk2 <| pb c3 <| pk2 <| pc (alibiref05_Small_ok _ _ h7) <| pk4 <| pb c8 <| pk <| pc (kill_Unlocks_ok _ _ h12) <| pk2 <| pc (kill_Touches_ok _ _ h14) <| pk2 <| pc (kill_Begins_ok _ _ h16) <| pk2 <| pc (alibiref05_Check_ok _ _ h18) <| pk2 <| pb c19 <| pk <| pb c20 <| pk4 <| pb c21 <| pk4 <| pb c22 <| pk8 <| pk2 <| pz)
         · have h := Option.some.inj h; subst h
           exact pdoes mixed (L := lives) (by kernel_rfl) (pk <| pc (alibilaw14_awake_ok _ h2) <| pk2 <| pb c3 <| pk2 <| pc (alibiref05_Small_ok _ _ h7) <| pk4 <| pb c8 <| pk <| pc (kill_Unlocks_ok _ _ h12) <| pk2 <| pc (kill_Touches_ok _ _ h14) <| pk2 <| pc (kill_Begins_ok _ _ h16) <| pk2 <| pc (alibiref05_Check_ok _ _ h18) <| pk2 <| pb c19 <| pk <| pb c20 <| pk4 <| pb c21 <| pk8 <| pk6 <| pz)
       · have h := Option.some.inj h; subst h
         exact pdoes mixed (L := lives) (by kernel_rfl) (pk <| pc (alibilaw14_awake_ok _ h2) <| pk2 <| pb c3 <| pk2 <| pc (alibiref05_Small_ok _ _ h7) <| pk4 <| pb c8 <| pk <| pc (kill_Unlocks_ok _ _ h12) <| pk2 <| pc (kill_Touches_ok _ _ h14) <| pk2 <| pc (kill_Begins_ok _ _ h16) <| pk2 <| pc (alibiref05_Check_ok _ _ h18) <| pk2 <| pb c19 <| pk <| pb c20 <| pk8 <| pk8 <| pk2 <| pz)
     · rcases if_of h with ⟨c25, h⟩ | ⟨c25, h⟩
       · have h := Option.some.inj h; subst h
         exact pdoes mixed (L := lives) (by kernel_rfl) (pk <| pc (alibilaw14_awake_ok _ h2) <| pk2 <| pb c3 <| pk2 <| pc (alibiref05_Small_ok _ _ h7) <| pk4 <| pb c8 <| pk <| pc (kill_Unlocks_ok _ _ h12) <| pk2 <| pc (kill_Touches_ok _ _ h14) <| pk2 <| pc (kill_Begins_ok _ _ h16) <| pk2 <| pc (alibiref05_Check_ok _ _ h18) <| pk2 <| pb c19 <| pk <| pb c25 <| pk8 <| pk8 <| pk4 <| pz)
       · rcases if_of h with ⟨c26, h⟩ | ⟨c26, h⟩
         · have h := Option.some.inj h; subst h
           exact pdoes mixed (L := lives) (by kernel_rfl) (pk <| pc (alibilaw14_awake_ok _ h2) <| pk2 <| pb c3 <| pk2 <| pc (alibiref05_Small_ok _ _ h7) <| pk4 <| pb c8 <| pk <| pc (kill_Unlocks_ok _ _ h12) <| pk2 <| pc (kill_Touches_ok _ _ h14) <| pk2 <| pc (kill_Begins_ok _ _ h16) <| pk2 <| pc (alibiref05_Check_ok _ _ h18) <| pk2 <| pb c19 <| pk <| pb c25 <| pk3 <| pb c26 <| pk8 <| pk8 <| pk <| pz)
         · rcases if_of h with ⟨c27, h⟩ | ⟨c27, h⟩
           · have h := Option.some.inj h; subst h
             exact pdoes mixed (L := lives) (by kernel_rfl) (pk <| pc (alibilaw14_awake_ok _ h2) <| pk2 <| pb c3 <| pk2 <| pc (alibiref05_Small_ok _ _ h7) <| pk4 <| pb c8 <| pk <| pc (kill_Unlocks_ok _ _ h12) <| pk2 <| pc (kill_Touches_ok _ _ h14) <| pk2 <| pc (kill_Begins_ok _ _ h16) <| pk2 <| pc (alibiref05_Check_ok _ _ h18) <| pk2 <| pb c19 <| pk <| pb c25 <| pk3 <| pb c26 <| pk3 <| pb c27 <| pk8 <| pk6 <| pz)
           · rcases if_of h with ⟨c28, h⟩ | ⟨c28, h⟩
             · have h := Option.some.inj h; subst h
               exact pdoes mixed (L := lives) (by kernel_rfl) (pk <| pc (alibilaw14_awake_ok _ h2) <| pk2 <| pb c3 <| pk2 <| pc (alibiref05_Small_ok _ _ h7) <| pk4 <| pb c8 <| pk <| pc (kill_Unlocks_ok _ _ h12) <| pk2 <| pc (kill_Touches_ok _ _ h14) <| pk2 <| pc (kill_Begins_ok _ _ h16) <| pk2 <| pc (alibiref05_Check_ok _ _ h18) <| pk2 <| pb c19 <| pk <| pb c25 <| pk3 <| pb c26 <| pk3 <| pb c27 <| pk8 <| pk2 <| pb c28 <| pk7 <| pz)
             · rcases if_of h with ⟨c29, h⟩ | ⟨c29, h⟩
               · have h := Option.some.inj h; subst h
                 exact pdoes mixed (L := lives) (by kernel_rfl) (pk <| pc (alibilaw14_awake_ok _ h2) <| pk2 <| pb c3 <| pk2 <| pc (alibiref05_Small_ok _ _ h7) <| pk4 <| pb c8 <| pk <| pc (kill_Unlocks_ok _ _ h12) <| pk2 <| pc (kill_Touches_ok _ _ h14) <| pk2 <| pc (kill_Begins_ok _ _ h16) <| pk2 <| pc (alibiref05_Check_ok _ _ h18) <| pk2 <| pb c19 <| pk <| pb c25 <| pk3 <| pb c26 <| pk3 <| pb c27 <| pk8 <| pk2 <| pb c28 <| pk8 <| pk2 <| pb c29 <| pz)
               · obtain ⟨q, hq, h⟩ := bind_of h
                 cases q with
                 | x0 v48 v49 =>
                  have h50 := hq; clear hq
                  try dsimp only at h
                  have h := Option.some.inj h; subst h
                  exact pdoes mixed (L := lives) (by kernel_rfl) (pk <| pc (alibilaw14_awake_ok _ h2) <| pk2 <| pb c3 <| pk2 <| pc (alibiref05_Small_ok _ _ h7) <| pk4 <| pb c8 <| pk <| pc (kill_Unlocks_ok _ _ h12) <| pk2 <| pc (kill_Touches_ok _ _ h14) <| pk2 <| pc (kill_Begins_ok _ _ h16) <| pk2 <| pc (alibiref05_Check_ok _ _ h18) <| pk2 <| pb c19 <| pk <| pb c25 <| pk3 <| pb c26 <| pk3 <| pb c27 <| pk8 <| pk2 <| pb c28 <| pk8 <| pk2 <| pb c29 <| pl (Loops.of (s1 := ⟨dead :: .ptr 0 [] 0 0 :: dead :: .ms 1 [] 0 (List.length v11.2) :: dead :: .ms 2 [] 0 (List.length v13.2) :: dead :: .pv (.int .u32 (BitVec.toNat v15.1 : Nat)) :: (List.replicate 4 dead ++ (.ms 3 [] 0 (List.length ([] : List Int)) :: .pv (.int .i64 0) :: List.replicate 124 dead)), [.box 0 [.pv (.int .i64 p.globals), .pv (.int .i64 p.locks), .pv (.int .i64 p.slots), .pv (.seq (List.length p.funcs) (encP e_61 ([] : List api_Node) p.funcs))], .arr 0 1 (List.length v11.2) (encW o_u32 0#32 v11.2), .arr 0 1 (List.length v13.2) (encW o_u32 0#32 v13.2), .arr 0 1 (List.length ([] : List Int)) (encW o_i64 0 (([] : List Int)))]⟩) (alibilaw14_KillTells_l13_ok _ _ _ _ _ _ _ _ _ _ h50) (by (first | rfl | (simp only [alibilaw14_KillTells_l13_s, List.length_set]; done)))) <| pz)
                 | x1 v51 =>
                  have h52 := hq; clear hq
                  try dsimp only at h
                  obtain ⟨v53, h54, h⟩ := bind_of h
                  have h := Option.some.inj h; subst h
                  exact pdoes mixed (L := lives) (by kernel_rfl) (pk <| pc (alibilaw14_awake_ok _ h2) <| pk2 <| pb c3 <| pk2 <| pc (alibiref05_Small_ok _ _ h7) <| pk4 <| pb c8 <| pk <| pc (kill_Unlocks_ok _ _ h12) <| pk2 <| pc (kill_Touches_ok _ _ h14) <| pk2 <| pc (kill_Begins_ok _ _ h16) <| pk2 <| pc (alibiref05_Check_ok _ _ h18) <| pk2 <| pb c19 <| pk <| pb c25 <| pk3 <| pb c26 <| pk3 <| pb c27 <| pk8 <| pk2 <| pb c28 <| pk8 <| pk2 <| pb c29 <| pl (Loops.of (s1 := ⟨dead :: .ptr 0 [] 0 0 :: dead :: .ms 1 [] 0 (List.length v11.2) :: dead :: .ms 2 [] 0 (List.length v13.2) :: dead :: .pv (.int .u32 (BitVec.toNat v15.1 : Nat)) :: (List.replicate 4 dead ++ (.ms 3 [] 0 (List.length ([] : List Int)) :: .pv (.int .i64 0) :: List.replicate 124 dead)), [.box 0 [.pv (.int .i64 p.globals), .pv (.int .i64 p.locks), .pv (.int .i64 p.slots), .pv (.seq (List.length p.funcs) (encP e_61 ([] : List api_Node) p.funcs))], .arr 0 1 (List.length v11.2) (encW o_u32 0#32 v11.2), .arr 0 1 (List.length v13.2) (encW o_u32 0#32 v13.2), .arr 0 1 (List.length ([] : List Int)) (encW o_i64 0 (([] : List Int)))]⟩) (alibilaw14_KillTells_l13_ok _ _ _ _ _ _ _ _ _ _ h52) (by (first | rfl | (simp only [alibilaw14_KillTells_l13_s, List.length_set]; done)))) <| pb (whole_ok (List.length v51)) <| pc (alibiref03_Mask_ok _ _ h54) <| pk <| pe (eff_bool (un_eql v15.1 v53)) <| pz)
noncomputable def alibiref03_Has_l5_c : Code := sub (codeOf Try.prog 52) [1, 1, 1, 0, 1, 0, 0]
def alibiref03_Has_l5 (x0 : Int) (x1 : BitVec 64) (x2 : Int) : Option ((BitVec 64)) :=
  if (decide ((x2 : Int) < x0)) = true then
    alibiref03_Has_l5 x0 (x1 / (2#64)) (iAdd x2 1)
  else
    some x1
partial_fixpoint
noncomputable abbrev alibiref03_Has_l5_s (x0 : Int) (x1 : BitVec 64) (x2 : Int) : St := ⟨dead :: .pv (.int .i64 x0) :: dead :: dead :: dead :: .pv (.int .u64 (BitVec.toNat x1 : Nat)) :: .pv (.int .i64 x2) :: List.replicate 18 dead, []⟩
noncomputable abbrev alibiref03_Has_l5_e (x0 : Int) (x1 : BitVec 64) (x2 : Int) (r : (BitVec 64)) : St := ⟨(List.replicate 5 dead ++ (.pv (.int .u64 (BitVec.toNat r : Nat)) :: List.replicate 19 dead)), []⟩
theorem alibiref03_Has_l5_ok (x0 : Int) (x1 : BitVec 64) (x2 : Int) (r : (BitVec 64)) (h : alibiref03_Has_l5 x0 x1 x2 = some r) : Loops Try.prog alibiref03_Has_l5_c 0 (alibiref03_Has_l5_s x0 x1 x2) (.exit 0) (alibiref03_Has_l5_e x0 x1 x2 r) := by
 refine alibiref03_Has_l5.partial_correctness x0 (fun x1 x2 r => Loops Try.prog alibiref03_Has_l5_c 0 (alibiref03_Has_l5_s x0 x1 x2) (.exit 0) (alibiref03_Has_l5_e x0 x1 x2 r)) ?_ x1 x2 r h
 clear h r x1 x2
 intro self ih x1 x2 r h
 rcases if_of h with ⟨c3, h⟩ | ⟨c3, h⟩
 · exact pmore mixed lives 52 (by kernel_rfl) (pk <| pb c3 <| pn (rfl : (!decide (((BitVec.toNat (2#64) : Nat) : Int) = (0 : Int))) = true) <| pe (eff_int (k := .u64) (un_quo .u64 rfl x1 (2#64))) <| pk <| pz) (ih (x1 / (2#64)) (iAdd x2 1) _ h)
 · have h := Option.some.inj h; subst h
   exact plast mixed lives 52 (by kernel_rfl) (pk <| pb c3 <| pz) rfl
/-- alibi/alibiref03.Has -/
def alibiref03_Has (m : BitVec 32) (id : Int) : Option (Bool) :=
  if (decide ((id : Int) < 0)) = true then
    some false
  else
    if (decide ((id : Int) > 31)) = true then
      some false
    else
      bind (alibiref03_Has_l5 id (BitVec.setWidth 64 m) 0) fun v4 =>
      some ((v4 % (2#64)) == (1#64))
theorem alibiref03_Has_ok (m : BitVec 32) (id : Int) (r : Bool) (h : alibiref03_Has m id = some r) : Does Try.prog 52 [.pv (.int .u32 (BitVec.toNat m : Nat)), .pv (.int .i64 id)] [] (.pv (.bool r), []) := by
 unfold alibiref03_Has at h
 rcases if_of h with ⟨c1, h⟩ | ⟨c1, h⟩
 · have h := Option.some.inj h; subst h
   exact pdoes mixed (L := lives) (by kernel_rfl) (pk <| pb c1 <| pk3 <| pz)
 · rcases if_of h with ⟨c2, h⟩ | ⟨c2, h⟩
   · have h := Option.some.inj h; subst h
     exact pdoes mixed (L := lives) (by kernel_rfl) (pk <| pb c1 <| pk3 <| pb c2 <| pz)
   · obtain ⟨v4, h5, h⟩ := bind_of h
     have h := Option.some.inj h; subst h
     exact pdoes mixed (L := lives) (by kernel_rfl) (pk <| pb c1 <| pk3 <| pb c2 <| pe (eff_int (k := .u64) (un_un .u64 rfl 32 m)) <| pl (alibiref03_Has_l5_ok _ _ _ _ h5) <| pn (rfl : (!decide (((BitVec.toNat (2#64) : Nat) : Int) = (0 : Int))) = true) <| pe (eff_int (k := .u64) (un_rem .u64 v4 (2#64))) <| pe (eff_bool (un_eql (v4 % (2#64)) (1#64))) <| pz)
noncomputable def alibilaw14_KillCalls_l12_c : Code := sub (codeOf Try.prog 14) [1, 1, 1, 1, 1, 1, 0, 1, 0, 0, 1, 0, 0, 1, 0, 0]
inductive alibilaw14_KillCalls_l12_R where
  | x0 (v0 : Bool)
  | x1
def alibilaw14_KillCalls_l12_R.ex : alibilaw14_KillCalls_l12_R → Ex
  | .x0 _ => .ret
  | .x1 => .exit 2
noncomputable def alibilaw14_KillCalls_l12_R.st (x0 : List (BitVec 32)) (x1 : List (BitVec 32)) (x2 : Int) (x3 : Int) (x4 : Int) (x5 : List (List api_Node)) (x6 : BitVec 32) (x7 : Int) (x8 : Int) : alibilaw14_KillCalls_l12_R → St
  | .x0 v0 => ⟨dead :: .ptr 0 [] 0 0 :: .pv (.bool v0) :: .ms 1 [] 0 (List.length x0) :: dead :: .ms 2 [] 0 (List.length x1) :: dead :: .pv (.int .u32 (BitVec.toNat x6 : Nat)) :: dead :: .pv (.int .i64 x7) :: List.replicate 96 dead, [.box 0 [.pv (.int .i64 x2), .pv (.int .i64 x3), .pv (.int .i64 x4), .pv (.seq (List.length x5) (encP e_61 ([] : List api_Node) x5))], .arr 0 1 (List.length x0) (encW o_u32 0#32 x0), .arr 0 1 (List.length x1) (encW o_u32 0#32 x1)]⟩
  | .x1 => ⟨dead :: .ptr 0 [] 0 0 :: dead :: .ms 1 [] 0 (List.length x0) :: dead :: .ms 2 [] 0 (List.length x1) :: dead :: .pv (.int .u32 (BitVec.toNat x6 : Nat)) :: dead :: .pv (.int .i64 x7) :: List.replicate 96 dead, [.box 0 [.pv (.int .i64 x2), .pv (.int .i64 x3), .pv (.int .i64 x4), .pv (.seq (List.length x5) (encP e_61 ([] : List api_Node) x5))], .arr 0 1 (List.length x0) (encW o_u32 0#32 x0), .arr 0 1 (List.length x1) (encW o_u32 0#32 x1)]⟩
def alibilaw14_KillCalls_l12 (x0 : List (BitVec 32)) (x1 : List (BitVec 32)) (x2 : Int) (x3 : Int) (x4 : Int) (x5 : List (List api_Node)) (x6 : BitVec 32) (x7 : Int) (x8 : Int) : Option (alibilaw14_KillCalls_l12_R) :=
  if (decide ((0 : Int) ≤ x7)) = true then
    if (decide ((x7 : Int) < ((List.length x5 : Nat) : Int))) = true then
      if (decide ((x8 : Int) < (((List.length (List.getD x5 (Int.toNat x7) (([] : List api_Node))) : Nat) : Int)))) = true then
        if (decide ((0 : Int) ≤ x8)) = true then
          if (decide ((x8 : Int) < ((List.length (List.getD x5 (Int.toNat x7) (([] : List api_Node))) : Nat) : Int))) = true then
            if ((((List.getD (List.getD x5 (Int.toNat x7) (([] : List api_Node))) (Int.toNat x8) d_api_Node).kind) : Int) == 7) = true then
              if (decide ((0 : Int) ≤ ((List.getD (List.getD x5 (Int.toNat x7) (([] : List api_Node))) (Int.toNat x8) d_api_Node).arg))) = true then
                if (decide ((((List.getD (List.getD x5 (Int.toNat x7) (([] : List api_Node))) (Int.toNat x8) d_api_Node).arg) : Int) < (((List.length x0) : Nat) : Int))) = true then
                  if (decide ((x7 : Int) < (((List.length x0) : Nat) : Int))) = true then
                    if (((List.getD x0 (Int.toNat ((List.getD (List.getD x5 (Int.toNat x7) (([] : List api_Node))) (Int.toNat x8) d_api_Node).arg)) (0#32)) &&& ~~~(List.getD x0 (Int.toNat x7) (0#32))) != (0#32)) = true then
                      some (.x0 false)
                    else
                      if (decide ((((List.getD (List.getD x5 (Int.toNat x7) (([] : List api_Node))) (Int.toNat x8) d_api_Node).arg) : Int) < (((List.length x1) : Nat) : Int))) = true then
                        if (decide ((x7 : Int) < (((List.length x1) : Nat) : Int))) = true then
                          if (((List.getD x1 (Int.toNat ((List.getD (List.getD x5 (Int.toNat x7) (([] : List api_Node))) (Int.toNat x8) d_api_Node).arg)) (0#32)) &&& ~~~(List.getD x1 (Int.toNat x7) (0#32))) != (0#32)) = true then
                            some (.x0 false)
                          else
                            bind (alibiref03_Has x6 ((List.getD (List.getD x5 (Int.toNat x7) (([] : List api_Node))) (Int.toNat x8) d_api_Node).arg)) fun v32 =>
                            if v32 = true then
                              bind (alibiref03_Has x6 x7) fun v35 =>
                              if (!v35) = true then
                                some (.x0 false)
                              else
                                alibilaw14_KillCalls_l12 x0 x1 x2 x3 x4 x5 x6 x7 (iAdd x8 1)
                            else
                              alibilaw14_KillCalls_l12 x0 x1 x2 x3 x4 x5 x6 x7 (iAdd x8 1)
                        else none
                      else none
                  else none
                else none
              else none
            else
              alibilaw14_KillCalls_l12 x0 x1 x2 x3 x4 x5 x6 x7 (iAdd x8 1)
          else none
        else none
      else
        some (.x1)
    else none
  else none
partial_fixpoint
noncomputable abbrev alibilaw14_KillCalls_l12_s (x0 : List (BitVec 32)) (x1 : List (BitVec 32)) (x2 : Int) (x3 : Int) (x4 : Int) (x5 : List (List api_Node)) (x6 : BitVec 32) (x7 : Int) (x8 : Int) : St := ⟨dead :: .ptr 0 [] 0 0 :: dead :: .ms 1 [] 0 (List.length x0) :: dead :: .ms 2 [] 0 (List.length x1) :: dead :: .pv (.int .u32 (BitVec.toNat x6 : Nat)) :: dead :: .pv (.int .i64 x7) :: .pv (.int .i64 x8) :: List.replicate 95 dead, [.box 0 [.pv (.int .i64 x2), .pv (.int .i64 x3), .pv (.int .i64 x4), .pv (.seq (List.length x5) (encP e_61 ([] : List api_Node) x5))], .arr 0 1 (List.length x0) (encW o_u32 0#32 x0), .arr 0 1 (List.length x1) (encW o_u32 0#32 x1)]⟩
theorem alibilaw14_KillCalls_l12_ok (x0 : List (BitVec 32)) (x1 : List (BitVec 32)) (x2 : Int) (x3 : Int) (x4 : Int) (x5 : List (List api_Node)) (x6 : BitVec 32) (x7 : Int) (x8 : Int) (r : alibilaw14_KillCalls_l12_R) (h : alibilaw14_KillCalls_l12 x0 x1 x2 x3 x4 x5 x6 x7 x8 = some r) : Loops Try.prog alibilaw14_KillCalls_l12_c 0 (alibilaw14_KillCalls_l12_s x0 x1 x2 x3 x4 x5 x6 x7 x8) r.ex (alibilaw14_KillCalls_l12_R.st x0 x1 x2 x3 x4 x5 x6 x7 x8 r) := by
 refine alibilaw14_KillCalls_l12.partial_correctness x0 x1 x2 x3 x4 x5 x6 x7 (fun x8 r => Loops Try.prog alibilaw14_KillCalls_l12_c 0 (alibilaw14_KillCalls_l12_s x0 x1 x2 x3 x4 x5 x6 x7 x8) r.ex (alibilaw14_KillCalls_l12_R.st x0 x1 x2 x3 x4 x5 x6 x7 x8 r)) ?_ x8 r h
 clear h r x8
 intro self ih x8 r h
 obtain ⟨c19, h⟩ := need_of h
 obtain ⟨c20, h⟩ := need_of h
 rcases if_of h with ⟨c21, h⟩ | ⟨c21, h⟩
 · obtain ⟨c22, h⟩ := need_of h
   obtain ⟨c23, h⟩ := need_of h
   rcases if_of h with ⟨c24, h⟩ | ⟨c24, h⟩
   · obtain ⟨c25, h⟩ := need_of h
     obtain ⟨c26, h⟩ := need_of h
     obtain ⟨c27, h⟩ := need_of h
     rcases if_of h with ⟨c28, h⟩ | ⟨c28, h⟩
     · have h := Option.some.inj h; subst h
       exact plast mixed lives 14 (by kernel_rfl) (pk <| pn c19 <| pn c20 <| pk3 <| pb c21 <| pk <| pn c19 <| pn c20 <| pk <| pn c22 <| pn c23 <| pk5 <| pb c24 <| pk4 <| pn c25 <| pn c26 <| pk5 <| pn c19 <| pn c27 <| pk3 <| pe (eff_int (k := .u32) (un_andNot .u32 rfl (List.getD x0 (Int.toNat ((List.getD (List.getD x5 (Int.toNat x7) (([] : List api_Node))) (Int.toNat x8) d_api_Node).arg)) (0#32)) (List.getD x0 (Int.toNat x7) (0#32)))) <| pk <| pe (eff_bool (un_neq ((List.getD x0 (Int.toNat ((List.getD (List.getD x5 (Int.toNat x7) (([] : List api_Node))) (Int.toNat x8) d_api_Node).arg)) (0#32)) &&& ~~~(List.getD x0 (Int.toNat x7) (0#32))) (0#32))) <| pk <| pb c28 <| pk8 <| pk8 <| pk7 <| pz) rfl
     · obtain ⟨c29, h⟩ := need_of h
       obtain ⟨c30, h⟩ := need_of h
       rcases if_of h with ⟨c31, h⟩ | ⟨c31, h⟩
       · have h := Option.some.inj h; subst h
         exact plast mixed lives 14 (by kernel_rfl) (pk <| pn c19 <| pn c20 <| pk3 <| pb c21 <| pk <| pn c19 <| pn c20 <| pk <| pn c22 <| pn c23 <| pk5 <| pb c24 <| pk4 <| pn c25 <| pn c26 <| pk5 <| pn c19 <| pn c27 <| pk3 <| pe (eff_int (k := .u32) (un_andNot .u32 rfl (List.getD x0 (Int.toNat ((List.getD (List.getD x5 (Int.toNat x7) (([] : List api_Node))) (Int.toNat x8) d_api_Node).arg)) (0#32)) (List.getD x0 (Int.toNat x7) (0#32)))) <| pk <| pe (eff_bool (un_neq ((List.getD x0 (Int.toNat ((List.getD (List.getD x5 (Int.toNat x7) (([] : List api_Node))) (Int.toNat x8) d_api_Node).arg)) (0#32)) &&& ~~~(List.getD x0 (Int.toNat x7) (0#32))) (0#32))) <| pk <| pb c28 <| pk4 <| pn c25 <| pn c29 <| pk5 <| pn c19 <| pn c30 <| pk3 <| pe (eff_int (k := .u32) (un_andNot .u32 rfl (List.getD x1 (Int.toNat ((List.getD (List.getD x5 (Int.toNat x7) (([] : List api_Node))) (Int.toNat x8) d_api_Node).arg)) (0#32)) (List.getD x1 (Int.toNat x7) (0#32)))) <| pk <| pe (eff_bool (un_neq ((List.getD x1 (Int.toNat ((List.getD (List.getD x5 (Int.toNat x7) (([] : List api_Node))) (Int.toNat x8) d_api_Node).arg)) (0#32)) &&& ~~~(List.getD x1 (Int.toNat x7) (0#32))) (0#32))) <| pk3 <| pb c31 <| pk8 <| pk <| pz) rfl
       · obtain ⟨v32, h33, h⟩ := bind_of h
         rcases if_of h with ⟨c34, h⟩ | ⟨c34, h⟩
         · obtain ⟨v35, h36, h⟩ := bind_of h
           rcases if_of h with ⟨c37, h⟩ | ⟨c37, h⟩
           · have h := Option.some.inj h; subst h
             exact plast mixed lives 14 (by kernel_rfl) (pk <| pn c19 <| pn c20 <| pk3 <| pb c21 <| pk <| pn c19 <| pn c20 <| pk <| pn c22 <| pn c23 <| pk5 <| pb c24 <| pk4 <| pn c25 <| pn c26 <| pk5 <| pn c19 <| pn c27 <| pk3 <| pe (eff_int (k := .u32) (un_andNot .u32 rfl (List.getD x0 (Int.toNat ((List.getD (List.getD x5 (Int.toNat x7) (([] : List api_Node))) (Int.toNat x8) d_api_Node).arg)) (0#32)) (List.getD x0 (Int.toNat x7) (0#32)))) <| pk <| pe (eff_bool (un_neq ((List.getD x0 (Int.toNat ((List.getD (List.getD x5 (Int.toNat x7) (([] : List api_Node))) (Int.toNat x8) d_api_Node).arg)) (0#32)) &&& ~~~(List.getD x0 (Int.toNat x7) (0#32))) (0#32))) <| pk <| pb c28 <| pk4 <| pn c25 <| pn c29 <| pk5 <| pn c19 <| pn c30 <| pk3 <| pe (eff_int (k := .u32) (un_andNot .u32 rfl (List.getD x1 (Int.toNat ((List.getD (List.getD x5 (Int.toNat x7) (([] : List api_Node))) (Int.toNat x8) d_api_Node).arg)) (0#32)) (List.getD x1 (Int.toNat x7) (0#32)))) <| pk <| pe (eff_bool (un_neq ((List.getD x1 (Int.toNat ((List.getD (List.getD x5 (Int.toNat x7) (([] : List api_Node))) (Int.toNat x8) d_api_Node).arg)) (0#32)) &&& ~~~(List.getD x1 (Int.toNat x7) (0#32))) (0#32))) <| pk3 <| pb c31 <| pk4 <| pc (alibiref03_Has_ok _ _ _ h33) <| pk2 <| pb c34 <| pk2 <| pc (alibiref03_Has_ok _ _ _ h36) <| pk8 <| pb c37 <| pz) rfl
           · exact pmore mixed lives 14 (by kernel_rfl) (pk <| pn c19 <| pn c20 <| pk3 <| pb c21 <| pk <| pn c19 <| pn c20 <| pk <| pn c22 <| pn c23 <| pk5 <| pb c24 <| pk4 <| pn c25 <| pn c26 <| pk5 <| pn c19 <| pn c27 <| pk3 <| pe (eff_int (k := .u32) (un_andNot .u32 rfl (List.getD x0 (Int.toNat ((List.getD (List.getD x5 (Int.toNat x7) (([] : List api_Node))) (Int.toNat x8) d_api_Node).arg)) (0#32)) (List.getD x0 (Int.toNat x7) (0#32)))) <| pk <| pe (eff_bool (un_neq ((List.getD x0 (Int.toNat ((List.getD (List.getD x5 (Int.toNat x7) (([] : List api_Node))) (Int.toNat x8) d_api_Node).arg)) (0#32)) &&& ~~~(List.getD x0 (Int.toNat x7) (0#32))) (0#32))) <| pk <| pb c28 <| pk4 <| pn c25 <| pn c29 <| pk5 <| pn c19 <| pn c30 <| pk3 <| pe (eff_int (k := .u32) (un_andNot .u32 rfl (List.getD x1 (Int.toNat ((List.getD (List.getD x5 (Int.toNat x7) (([] : List api_Node))) (Int.toNat x8) d_api_Node).arg)) (0#32)) (List.getD x1 (Int.toNat x7) (0#32)))) <| pk <| pe (eff_bool (un_neq ((List.getD x1 (Int.toNat ((List.getD (List.getD x5 (Int.toNat x7) (([] : List api_Node))) (Int.toNat x8) d_api_Node).arg)) (0#32)) &&& ~~~(List.getD x1 (Int.toNat x7) (0#32))) (0#32))) <| pk3 <| pb c31 <| pk4 <| pc (alibiref03_Has_ok _ _ _ h33) <| pk2 <| pb c34 <| pk2 <| pc (alibiref03_Has_ok _ _ _ h36) <| pk8 <| pb c37 <| pk <| pz) (ih (iAdd x8 1) _ h)
         · exact pmore mixed lives 14 (by kernel_rfl) (pk <| pn c19 <| pn c20 <| pk3 <| pb c21 <| pk <| pn c19 <| pn c20 <| pk <| pn c22 <| pn c23 <| pk5 <| pb c24 <| pk4 <| pn c25 <| pn c26 <| pk5 <| pn c19 <| pn c27 <| pk3 <| pe (eff_int (k := .u32) (un_andNot .u32 rfl (List.getD x0 (Int.toNat ((List.getD (List.getD x5 (Int.toNat x7) (([] : List api_Node))) (Int.toNat x8) d_api_Node).arg)) (0#32)) (List.getD x0 (Int.toNat x7) (0#32)))) <| pk <| pe (eff_bool (un_neq ((List.getD x0 (Int.toNat ((List.getD (List.getD x5 (Int.toNat x7) (([] : List api_Node))) (Int.toNat x8) d_api_Node).arg)) (0#32)) &&& ~~~(List.getD x0 (Int.toNat x7) (0#32))) (0#32))) <| pk <| pb c28 <| pk4 <| pn c25 <| pn c29 <| pk5 <| pn c19 <| pn c30 <| pk3 <| pe (eff_int (k := .u32) (un_andNot .u32 rfl (List.getD x1 (Int.toNat ((List.getD (List.getD x5 (Int.toNat x7) (([] : List api_Node))) (Int.toNat x8) d_api_Node).arg)) (0#32)) (List.getD x1 (Int.toNat x7) (0#32)))) <| pk <| pe (eff_bool (un_neq ((List.getD x1 (Int.toNat ((List.getD (List.getD x5 (Int.toNat x7) (([] : List api_Node))) (Int.toNat x8) d_api_Node).arg)) (0#32)) &&& ~~~(List.getD x1 (Int.toNat x7) (0#32))) (0#32))) <| pk3 <| pb c31 <| pk4 <| pc (alibiref03_Has_ok _ _ _ h33) <| pk2 <| pb c34 <| pk8 <| pk2 <| pz) (ih (iAdd x8 1) _ h)
   · exact pmore mixed lives 14 (by kernel_rfl) (pk <| pn c19 <| pn c20 <| pk3 <| pb c21 <| pk <| pn c19 <| pn c20 <| pk <| pn c22 <| pn c23 <| pk5 <| pb c24 <| pk8 <| pk8 <| pk <| pz) (ih (iAdd x8 1) _ h)
 · have h := Option.some.inj h; subst h
   exact plast mixed lives 14 (by kernel_rfl) (pk <| pn c19 <| pn c20 <| pk3 <| pb c21 <| pz) rfl
noncomputable def alibilaw14_KillCalls_l9_c : Code := sub (codeOf Try.prog 14) [1, 1, 1, 1, 1, 1, 0, 1, 0, 0]
inductive alibilaw14_KillCalls_l9_R where
  | x0 (v0 : Bool)
  | x1
def alibilaw14_KillCalls_l9_R.ex : alibilaw14_KillCalls_l9_R → Ex
  | .x0 _ => .ret
  | .x1 => .exit 0
noncomputable def alibilaw14_KillCalls_l9_R.st (x0 : List (BitVec 32)) (x1 : List (BitVec 32)) (x2 : Int) (x3 : Int) (x4 : Int) (x5 : List (List api_Node)) (x6 : BitVec 32) (x7 : Int) : alibilaw14_KillCalls_l9_R → St
  | .x0 v0 => ⟨dead :: dead :: .pv (.bool v0) :: List.replicate 103 dead, []⟩
  | .x1 => ⟨List.replicate 106 dead, []⟩
def alibilaw14_KillCalls_l9 (x0 : List (BitVec 32)) (x1 : List (BitVec 32)) (x2 : Int) (x3 : Int) (x4 : Int) (x5 : List (List api_Node)) (x6 : BitVec 32) (x7 : Int) : Option (alibilaw14_KillCalls_l9_R) :=
  if (decide ((x7 : Int) < (((List.length x5 : Nat) : Int)))) = true then
    bind (alibilaw14_KillCalls_l12 x0 x1 x2 x3 x4 x5 x6 x7 0) fun q => match q with
      | .x0 v38 =>
        some (.x0 v38)
      | .x1 =>
        alibilaw14_KillCalls_l9 x0 x1 x2 x3 x4 x5 x6 (iAdd x7 1)
  else
    some (.x1)
partial_fixpoint
noncomputable abbrev alibilaw14_KillCalls_l9_s (x0 : List (BitVec 32)) (x1 : List (BitVec 32)) (x2 : Int) (x3 : Int) (x4 : Int) (x5 : List (List api_Node)) (x6 : BitVec 32) (x7 : Int) : St := ⟨dead :: .ptr 0 [] 0 0 :: dead :: .ms 1 [] 0 (List.length x0) :: dead :: .ms 2 [] 0 (List.length x1) :: dead :: .pv (.int .u32 (BitVec.toNat x6 : Nat)) :: dead :: .pv (.int .i64 x7) :: List.replicate 96 dead, [.box 0 [.pv (.int .i64 x2), .pv (.int .i64 x3), .pv (.int .i64 x4), .pv (.seq (List.length x5) (encP e_61 ([] : List api_Node) x5))], .arr 0 1 (List.length x0) (encW o_u32 0#32 x0), .arr 0 1 (List.length x1) (encW o_u32 0#32 x1)]⟩
theorem alibilaw14_KillCalls_l9_ok (x0 : List (BitVec 32)) (x1 : List (BitVec 32)) (x2 : Int) (x3 : Int) (x4 : Int) (x5 : List (List api_Node)) (x6 : BitVec 32) (x7 : Int) (r : alibilaw14_KillCalls_l9_R) (h : alibilaw14_KillCalls_l9 x0 x1 x2 x3 x4 x5 x6 x7 = some r) : Loops Try.prog alibilaw14_KillCalls_l9_c 0 (alibilaw14_KillCalls_l9_s x0 x1 x2 x3 x4 x5 x6 x7) r.ex (alibilaw14_KillCalls_l9_R.st x0 x1 x2 x3 x4 x5 x6 x7 r) := by
 refine alibilaw14_KillCalls_l9.partial_correctness x0 x1 x2 x3 x4 x5 x6 (fun x7 r => Loops Try.prog alibilaw14_KillCalls_l9_c 0 (alibilaw14_KillCalls_l9_s x0 x1 x2 x3 x4 x5 x6 x7) r.ex (alibilaw14_KillCalls_l9_R.st x0 x1 x2 x3 x4 x5 x6 x7 r)) ?_ x7 r h
 clear h r x7
 intro self ih x7 r h
 rcases if_of h with ⟨c18, h⟩ | ⟨c18, h⟩
 · obtain ⟨q, hq, h⟩ := bind_of h
   cases q with
   | x0 v38 =>
    have h39 := hq; clear hq
    try dsimp only at h
    have h := Option.some.inj h; subst h
    exact plast mixed lives 14 (by kernel_rfl) (pk3 <| pb c18 <| pl (alibilaw14_KillCalls_l12_ok _ _ _ _ _ _ _ _ _ _ h39) <| pz) rfl
   | x1 =>
    have h40 := hq; clear hq
    try dsimp only at h
    exact pmore mixed lives 14 (by kernel_rfl) (pk3 <| pb c18 <| pl (alibilaw14_KillCalls_l12_ok _ _ _ _ _ _ _ _ _ _ h40) <| pk <| pz) (ih (iAdd x7 1) _ h)
 · have h := Option.some.inj h; subst h
   exact plast mixed lives 14 (by kernel_rfl) (pk3 <| pb c18 <| pz) rfl
/-- alibi/alibilaw14.KillCalls -/
def alibilaw14_KillCalls (p : api_Program) : Option (Bool) :=
  bind (alibilaw14_awake) fun v1 =>
  if (!v1) = true then
    bind (alibilaw14_awake) fun v4 =>
    some v4
  else
    bind (alibiref05_Small p) fun v6 =>
    if (!v6) = true then
      bind (alibilaw14_awake) fun v9 =>
      some v9
    else
      bind (kill_Unlocks p) fun v11 =>
      bind (kill_Touches p) fun v13 =>
      bind (kill_Begins p) fun v15 =>
      if ((v11.1 : Int) != 0) = true then
        some ((((((List.length v11.2) : Nat) : Int)) : Int) == 0)
      else
        bind (alibilaw14_KillCalls_l9 v11.2 v13.2 p.globals p.locks p.slots p.funcs v15.1 0) fun q => match q with
          | .x0 v41 =>
            some v41
          | .x1 =>
            some true
theorem alibilaw14_KillCalls_ok (p : api_Program) (r : Bool) (h : alibilaw14_KillCalls p = some r) : Does Try.prog 14 [.agg [.pv (.int .i64 p.globals), .pv (.int .i64 p.locks), .pv (.int .i64 p.slots), .pv (.seq (List.length p.funcs) (encP e_61 ([] : List api_Node) p.funcs))]] [] (.pv (.bool r), []) := by
 unfold alibilaw14_KillCalls at h
 obtain ⟨v1, h2, h⟩ := bind_of h
 rcases if_of h with ⟨c3, h⟩ | ⟨c3, h⟩
 · obtain ⟨v4, h5, h⟩ := bind_of h
   have h := Option.some.inj h; subst h
   exact pdoes mixed (L := lives) (by kernel_rfl) (pk <| pc (alibilaw14_awake_ok _ h2) <| pk2 <| pb c3 <| pk4 <| pc (alibilaw14_awake_ok _ h5) <| pk <| pz)
 · obtain ⟨v6, h7, h⟩ := bind_of h
   rcases if_of h with ⟨c8, h⟩ | ⟨c8, h⟩
   · obtain ⟨v9, h10, h⟩ := bind_of h
     have h := Option.some.inj h; subst h
     exact pdoes mixed (L := lives) (by kernel_rfl) (pk <| pc (alibilaw14_awake_ok _ h2) <| pk2 <| pb c3 <| pk2 <| pc (alibiref05_Small_ok _ _ h7) <| pk4 <| pb c8 <| pc (alibilaw14_awake_ok _ h10) <| pk <| pz)
   · obtain ⟨v11, h12, h⟩ := bind_of h
     obtain ⟨v13, h14, h⟩ := bind_of h
     obtain ⟨v15, h16, h⟩ := bind_of h
     rcases if_of h with ⟨c17, h⟩ | ⟨c17, h⟩
     · have h := Option.some.inj h; subst h
       exact pdoes mixed (L := lives) (by kernel_rfl) (pk <| pc (alibilaw14_awake_ok _ h2) <| pk2 <| pb c3 <| pk2 <| pc (alibiref05_Small_ok _ _ h7) <| pk4 <| pb c8 <| pk <| pc (kill_Unlocks_ok _ _ h12) <| pk2 <| pc (kill_Touches_ok _ _ h14) <| pk2 <| pc (kill_Begins_ok _ _ h16) <| pk2 <| pb c17 <| pk2 <| pz)
     · obtain ⟨q, hq, h⟩ := bind_of h
       cases q with
       | x0 v41 =>
        have h42 := hq; clear hq
        try dsimp only at h
        have h := Option.some.inj h; subst h
        exact pdoes mixed (L := lives) (by kernel_rfl) (pk <| pc (alibilaw14_awake_ok _ h2) <| pk2 <| pb c3 <| pk2 <| pc (alibiref05_Small_ok _ _ h7) <| pk4 <| pb c8 <| pk <| pc (kill_Unlocks_ok _ _ h12) <| pk2 <| pc (kill_Touches_ok _ _ h14) <| pk2 <| pc (kill_Begins_ok _ _ h16) <| pk2 <| pb c17 <| pl (alibilaw14_KillCalls_l9_ok _ _ _ _ _ _ _ _ _ h42) <| pz)
       | x1 =>
        have h43 := hq; clear hq
        try dsimp only at h
        have h := Option.some.inj h; subst h
        exact pdoes mixed (L := lives) (by kernel_rfl) (pk <| pc (alibilaw14_awake_ok _ h2) <| pk2 <| pb c3 <| pk2 <| pc (alibiref05_Small_ok _ _ h7) <| pk4 <| pb c8 <| pk <| pc (kill_Unlocks_ok _ _ h12) <| pk2 <| pc (kill_Touches_ok _ _ h14) <| pk2 <| pc (kill_Begins_ok _ _ h16) <| pk2 <| pb c17 <| pl (alibilaw14_KillCalls_l9_ok _ _ _ _ _ _ _ _ _ h43) <| pz)
end Go.Bm.GoYtldkmmnffjdliaa
