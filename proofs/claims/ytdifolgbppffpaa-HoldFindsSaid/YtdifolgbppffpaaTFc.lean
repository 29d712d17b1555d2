/- Printed by gen2.py. -/
import Derived.Test.YtdifolgbppffpaaTFb
namespace Go.Bm.GoYtdifolgbppffpaa
open Go.Proofs
set_option autoImplicit false
set_option linter.unusedVariables false
set_option linter.unusedSimpArgs false
set_option maxRecDepth 100000
set_option synthInstance.maxHeartbeats 400000
set_option synthInstance.maxSize 2048
noncomputable def alibiref06_Reach_l16_c : Code := sub (codeOf Try.prog 80) [1, 1, 1, 1, 0, 1, 0, 0, 1, 0, 0, 1, 0, 0, 1, 0, 0, 1, 1, 0, 0]
def alibiref06_Reach_l16 (x0 : List Bool) (x1 : List Int) (x2 : Int) (x3 : Int) (x4 : Int) (x5 : List (List api_Node)) (x6 : Int) (x7 : Int) (x8 : Int) (x9 : Int) : Option ((List Bool)) :=
  if (decide ((x9 : Int) < ((((List.length x1) : Nat) : Int)))) = true then
    if (decide ((0 : Int) ≤ x8)) = true then
      if (decide ((x8 : Int) < (((List.length x0) : Nat) : Int))) = true then
        if (List.getD x0 (Int.toNat x8) false) = true then
          if (decide ((0 : Int) ≤ x9)) = true then
            if (decide ((x9 : Int) < (((List.length x1) : Nat) : Int))) = true then
              if (decide (((List.getD x1 (Int.toNat x9) 0) : Int) < x6)) = true then
                if (decide ((0 : Int) ≤ (List.getD x1 (Int.toNat x9) 0))) = true then
                  if (decide (((List.getD x1 (Int.toNat x9) 0) : Int) < (((List.length x0) : Nat) : Int))) = true then
                    alibiref06_Reach_l16 (List.set x0 (Int.toNat (List.getD x1 (Int.toNat x9) 0)) true) x1 x2 x3 x4 x5 x6 x7 x8 (iAdd x9 1)
                  else none
                else none
              else
                alibiref06_Reach_l16 x0 x1 x2 x3 x4 x5 x6 x7 x8 (iAdd x9 1)
            else none
          else none
        else
          alibiref06_Reach_l16 x0 x1 x2 x3 x4 x5 x6 x7 x8 (iAdd x9 1)
      else none
    else none
  else
    some x0
partial_fixpoint
noncomputable abbrev alibiref06_Reach_l16_s (x0 : List Bool) (x1 : List Int) (x2 : Int) (x3 : Int) (x4 : Int) (x5 : List (List api_Node)) (x6 : Int) (x7 : Int) (x8 : Int) (x9 : Int) : St := ⟨dead :: dead :: .ptr 0 [] 0 0 :: dead :: dead :: .pv (.int .i64 x6) :: .ms 1 [] 0 (List.length x0) :: dead :: .pv (.int .i64 x7) :: .pv (.int .i64 x8) :: .ms 2 [] 0 (List.length x1) :: .pv (.int .i64 x9) :: List.replicate 83 dead, [.box 0 [.pv (.int .i64 x2), .pv (.int .i64 x3), .pv (.int .i64 x4), .pv (.seq (List.length x5) (encP e_62 ([] : List api_Node) x5))], .arr 0 1 (List.length x0) (encW o_bool false x0), .arr 0 1 (List.length x1) (encW o_i64 0 x1)]⟩
noncomputable abbrev alibiref06_Reach_l16_e (x0 : List Bool) (x1 : List Int) (x2 : Int) (x3 : Int) (x4 : Int) (x5 : List (List api_Node)) (x6 : Int) (x7 : Int) (x8 : Int) (x9 : Int) (r : (List Bool)) : St := ⟨dead :: dead :: .ptr 0 [] 0 0 :: dead :: dead :: .pv (.int .i64 x6) :: .ms 1 [] 0 (List.length r) :: dead :: .pv (.int .i64 x7) :: .pv (.int .i64 x8) :: List.replicate 85 dead, [.box 0 [.pv (.int .i64 x2), .pv (.int .i64 x3), .pv (.int .i64 x4), .pv (.seq (List.length x5) (encP e_62 ([] : List api_Node) x5))], .arr 0 1 (List.length r) (encW o_bool false r)]⟩
theorem alibiref06_Reach_l16_ok (x0 : List Bool) (x1 : List Int) (x2 : Int) (x3 : Int) (x4 : Int) (x5 : List (List api_Node)) (x6 : Int) (x7 : Int) (x8 : Int) (x9 : Int) (r : (List Bool)) (h : alibiref06_Reach_l16 x0 x1 x2 x3 x4 x5 x6 x7 x8 x9 = some r) : Loops Try.prog alibiref06_Reach_l16_c 0 (alibiref06_Reach_l16_s x0 x1 x2 x3 x4 x5 x6 x7 x8 x9) (.exit 6) (alibiref06_Reach_l16_e x0 x1 x2 x3 x4 x5 x6 x7 x8 x9 r) := by
 refine alibiref06_Reach_l16.partial_correctness x1 x2 x3 x4 x5 x6 x7 x8 (fun x0 x9 r => Loops Try.prog alibiref06_Reach_l16_c 0 (alibiref06_Reach_l16_s x0 x1 x2 x3 x4 x5 x6 x7 x8 x9) (.exit 6) (alibiref06_Reach_l16_e x0 x1 x2 x3 x4 x5 x6 x7 x8 x9 r)) ?_ x0 x9 r h
 clear h r x0 x9
 intro self ih x0 x9 r h
 rcases if_of h with ⟨c17, h⟩ | ⟨c17, h⟩
 · obtain ⟨c18, h⟩ := need_of h
   obtain ⟨c19, h⟩ := need_of h
   rcases if_of h with ⟨c20, h⟩ | ⟨c20, h⟩
   · obtain ⟨c21, h⟩ := need_of h
     obtain ⟨c22, h⟩ := need_of h
     rcases if_of h with ⟨c23, h⟩ | ⟨c23, h⟩
     · obtain ⟨c24, h⟩ := need_of h
       obtain ⟨c25, h⟩ := need_of h
       exact pmore mixed lives 80 (by kernel_rfl) (pk2 <| pb c17 <| pn c18 <| pn c19 <| pk <| pb c20 <| pk2 <| pn c21 <| pn c22 <| pk6 <| pb c23 <| pn c21 <| pn c22 <| pk <| pn c24 <| pn c25 <| pt <| pe (eff_hb (v := dead) (b := 1) (hb := []) (sc := []) (put_top o_bool false 0 1 (List.length x0) x0 (Int.toNat (List.getD x1 (Int.toNat x9) 0)) 0 [.pv (.bool true)] true (by kernel_rfl) (by first | exact Nat.le_refl _ | exact Nat.zero_le _ | (simp only [decide_eq_true_eq, List.length_set, List.length_append, List.length_replicate, List.length_cons, List.length_nil, Nat.zero_add] at * <;> omega)))) <| pk <| pz) (Loops.of (s1 := ⟨dead :: dead :: .ptr 0 [] 0 0 :: dead :: dead :: .pv (.int .i64 x6) :: .ms 1 [] 0 (List.length x0) :: dead :: .pv (.int .i64 x7) :: .pv (.int .i64 x8) :: .ms 2 [] 0 (List.length x1) :: .pv (.int .i64 (iAdd x9 1)) :: List.replicate 83 dead, [.box 0 [.pv (.int .i64 x2), .pv (.int .i64 x3), .pv (.int .i64 x4), .pv (.seq (List.length x5) (encP e_62 ([] : List api_Node) x5))], .arr 0 1 (List.length x0) (encW o_bool false (List.set x0 (Int.toNat (List.getD x1 (Int.toNat x9) 0)) true)), .arr 0 1 (List.length x1) (encW o_i64 0 x1)]⟩) (ih (List.set x0 (Int.toNat (List.getD x1 (Int.toNat x9) 0)) true) (iAdd x9 1) _ h) (by (first | rfl | (simp only [alibiref06_Reach_l16_s, List.length_set]; done))))
     · exact pmore mixed lives 80 (by kernel_rfl) (pk2 <| pb c17 <| pn c18 <| pn c19 <| pk <| pb c20 <| pk2 <| pn c21 <| pn c22 <| pk6 <| pb c23 <| pk <| pz) (ih x0 (iAdd x9 1) _ h)
   · exact pmore mixed lives 80 (by kernel_rfl) (pk2 <| pb c17 <| pn c18 <| pn c19 <| pk <| pb c20 <| pk8 <| pz) (ih x0 (iAdd x9 1) _ h)
 · have h := Option.some.inj h; subst h
   exact plast mixed lives 80 (by kernel_rfl) (pk2 <| pb c17 <| pz) rfl
noncomputable def alibiref06_Reach_l12_c : Code := sub (codeOf Try.prog 80) [1, 1, 1, 1, 0, 1, 0, 0, 1, 0, 0, 1, 0, 0]
def alibiref06_Reach_l12 (x0 : List Bool) (x1 : Int) (x2 : Int) (x3 : Int) (x4 : List (List api_Node)) (x5 : Int) (x6 : Int) (x7 : Int) : Option ((List Bool)) :=
  if (decide ((x7 : Int) < x5)) = true then
    if (decide ((0 : Int) ≤ x7)) = true then
      if (decide ((x7 : Int) < ((List.length x4 : Nat) : Int))) = true then
        bind (alibiref06_Named (List.getD x4 (Int.toNat x7) (([] : List api_Node))) 7) fun v15 =>
        bind (alibiref06_Reach_l16 x0 v15 x1 x2 x3 x4 x5 x6 x7 0) fun v26 =>
        alibiref06_Reach_l12 v26 x1 x2 x3 x4 x5 x6 (iAdd x7 1)
      else none
    else none
  else
    some x0
partial_fixpoint
noncomputable abbrev alibiref06_Reach_l12_s (x0 : List Bool) (x1 : Int) (x2 : Int) (x3 : Int) (x4 : List (List api_Node)) (x5 : Int) (x6 : Int) (x7 : Int) : St := ⟨dead :: dead :: .ptr 0 [] 0 0 :: dead :: dead :: .pv (.int .i64 x5) :: .ms 1 [] 0 (List.length x0) :: dead :: .pv (.int .i64 x6) :: .pv (.int .i64 x7) :: List.replicate 85 dead, [.box 0 [.pv (.int .i64 x1), .pv (.int .i64 x2), .pv (.int .i64 x3), .pv (.seq (List.length x4) (encP e_62 ([] : List api_Node) x4))], .arr 0 1 (List.length x0) (encW o_bool false x0)]⟩
noncomputable abbrev alibiref06_Reach_l12_e (x0 : List Bool) (x1 : Int) (x2 : Int) (x3 : Int) (x4 : List (List api_Node)) (x5 : Int) (x6 : Int) (x7 : Int) (r : (List Bool)) : St := ⟨dead :: dead :: .ptr 0 [] 0 0 :: dead :: dead :: .pv (.int .i64 x5) :: .ms 1 [] 0 (List.length r) :: dead :: .pv (.int .i64 x6) :: List.replicate 86 dead, [.box 0 [.pv (.int .i64 x1), .pv (.int .i64 x2), .pv (.int .i64 x3), .pv (.seq (List.length x4) (encP e_62 ([] : List api_Node) x4))], .arr 0 1 (List.length r) (encW o_bool false r)]⟩
theorem alibiref06_Reach_l12_ok (x0 : List Bool) (x1 : Int) (x2 : Int) (x3 : Int) (x4 : List (List api_Node)) (x5 : Int) (x6 : Int) (x7 : Int) (r : (List Bool)) (h : alibiref06_Reach_l12 x0 x1 x2 x3 x4 x5 x6 x7 = some r) : Loops Try.prog alibiref06_Reach_l12_c 0 (alibiref06_Reach_l12_s x0 x1 x2 x3 x4 x5 x6 x7) (.exit 4) (alibiref06_Reach_l12_e x0 x1 x2 x3 x4 x5 x6 x7 r) := by
 refine alibiref06_Reach_l12.partial_correctness x1 x2 x3 x4 x5 x6 (fun x0 x7 r => Loops Try.prog alibiref06_Reach_l12_c 0 (alibiref06_Reach_l12_s x0 x1 x2 x3 x4 x5 x6 x7) (.exit 4) (alibiref06_Reach_l12_e x0 x1 x2 x3 x4 x5 x6 x7 r)) ?_ x0 x7 r h
 clear h r x0 x7
 intro self ih x0 x7 r h
 rcases if_of h with ⟨c12, h⟩ | ⟨c12, h⟩
 · obtain ⟨c13, h⟩ := need_of h
   obtain ⟨c14, h⟩ := need_of h
   obtain ⟨v15, h16, h⟩ := bind_of h
   obtain ⟨v26, h27, h⟩ := bind_of h
   exact pmore mixed lives 80 (by kernel_rfl) (pk <| pb c12 <| pk <| pn c13 <| pn c14 <| pk <| pc (alibiref06_Named_ok _ _ _ h16) <| pk <| pl (alibiref06_Reach_l16_ok _ _ _ _ _ _ _ _ _ _ _ h27) <| pk <| pz) (ih v26 (iAdd x7 1) _ h)
 · have h := Option.some.inj h; subst h
   exact plast mixed lives 80 (by kernel_rfl) (pk <| pb c12 <| pz) rfl
noncomputable def alibiref06_Reach_l9_c : Code := sub (codeOf Try.prog 80) [1, 1, 1, 1, 0, 1, 0, 0]
def alibiref06_Reach_l9 (x0 : List Bool) (x1 : Int) (x2 : Int) (x3 : Int) (x4 : List (List api_Node)) (x5 : Int) (x6 : Int) : Option ((List Bool)) :=
  if (decide ((x6 : Int) < x5)) = true then
    bind (alibiref06_Reach_l12 x0 x1 x2 x3 x4 x5 x6 0) fun v28 =>
    alibiref06_Reach_l9 v28 x1 x2 x3 x4 x5 (iAdd x6 1)
  else
    some x0
partial_fixpoint
noncomputable abbrev alibiref06_Reach_l9_s (x0 : List Bool) (x1 : Int) (x2 : Int) (x3 : Int) (x4 : List (List api_Node)) (x5 : Int) (x6 : Int) : St := ⟨dead :: dead :: .ptr 0 [] 0 0 :: dead :: dead :: .pv (.int .i64 x5) :: .ms 1 [] 0 (List.length x0) :: dead :: .pv (.int .i64 x6) :: List.replicate 86 dead, [.box 0 [.pv (.int .i64 x1), .pv (.int .i64 x2), .pv (.int .i64 x3), .pv (.seq (List.length x4) (encP e_62 ([] : List api_Node) x4))], .arr 0 1 (List.length x0) (encW o_bool false x0)]⟩
noncomputable abbrev alibiref06_Reach_l9_e (x0 : List Bool) (x1 : Int) (x2 : Int) (x3 : Int) (x4 : List (List api_Node)) (x5 : Int) (x6 : Int) (r : (List Bool)) : St := ⟨(List.replicate 5 dead ++ (.pv (.int .i64 x5) :: .ms 0 [] 0 (List.length r) :: List.replicate 88 dead)), [.arr 0 1 (List.length r) (encW o_bool false r)]⟩
theorem alibiref06_Reach_l9_ok (x0 : List Bool) (x1 : Int) (x2 : Int) (x3 : Int) (x4 : List (List api_Node)) (x5 : Int) (x6 : Int) (r : (List Bool)) (h : alibiref06_Reach_l9 x0 x1 x2 x3 x4 x5 x6 = some r) : Loops Try.prog alibiref06_Reach_l9_c 0 (alibiref06_Reach_l9_s x0 x1 x2 x3 x4 x5 x6) (.exit 2) (alibiref06_Reach_l9_e x0 x1 x2 x3 x4 x5 x6 r) := by
 refine alibiref06_Reach_l9.partial_correctness x1 x2 x3 x4 x5 (fun x0 x6 r => Loops Try.prog alibiref06_Reach_l9_c 0 (alibiref06_Reach_l9_s x0 x1 x2 x3 x4 x5 x6) (.exit 2) (alibiref06_Reach_l9_e x0 x1 x2 x3 x4 x5 x6 r)) ?_ x0 x6 r h
 clear h r x0 x6
 intro self ih x0 x6 r h
 rcases if_of h with ⟨c11, h⟩ | ⟨c11, h⟩
 · obtain ⟨v28, h29, h⟩ := bind_of h
   exact pmore mixed lives 80 (by kernel_rfl) (pk <| pb c11 <| pl (alibiref06_Reach_l12_ok _ _ _ _ _ _ _ _ _ h29) <| pk <| pz) (ih v28 (iAdd x6 1) _ h)
 · have h := Option.some.inj h; subst h
   exact plast mixed lives 80 (by kernel_rfl) (pk <| pb c11 <| pz) rfl
noncomputable def alibiref06_Reach_l22_c : Code := sub (codeOf Try.prog 80) [1, 1, 1, 1, 1, 1, 0, 1, 0, 0]
def alibiref06_Reach_l22 (x0 : List Bool) (x1 : List Int) (x2 : Int) (x3 : Int) : Option ((List Int)) :=
  if (decide ((x3 : Int) < x2)) = true then
    if (decide ((x3 : Int) < 32)) = true then
      if (decide ((0 : Int) ≤ x3)) = true then
        if (decide ((x3 : Int) < (((List.length x0) : Nat) : Int))) = true then
          if (List.getD x0 (Int.toNat x3) false) = true then
            if (Nat.ble ((List.length x1 + List.length ([x3])) * 8) reach) = true then
              alibiref06_Reach_l22 x0 (x1 ++ ([x3])) x2 (iAdd x3 1)
            else none
          else
            alibiref06_Reach_l22 x0 x1 x2 (iAdd x3 1)
        else none
      else none
    else
      some x1
  else
    some x1
partial_fixpoint
noncomputable abbrev alibiref06_Reach_l22_s (x0 : List Bool) (x1 : List Int) (x2 : Int) (x3 : Int) : St := ⟨(List.replicate 5 dead ++ (.pv (.int .i64 x2) :: .ms 0 [] 0 (List.length x0) :: (List.replicate 5 dead ++ (.ms 1 [] 0 (List.length x1) :: .pv (.int .i64 x3) :: List.replicate 81 dead)))), [.arr 0 1 (List.length x0) (encW o_bool false x0), .arr 0 1 (List.length x1) (encW o_i64 0 x1)]⟩
noncomputable abbrev alibiref06_Reach_l22_e (x0 : List Bool) (x1 : List Int) (x2 : Int) (x3 : Int) (r : (List Int)) : St := ⟨(List.replicate 12 dead ++ (.ms 0 [] 0 (List.length r) :: List.replicate 82 dead)), [.arr 0 1 (List.length r) (encW o_i64 0 r)]⟩
theorem alibiref06_Reach_l22_ok (x0 : List Bool) (x1 : List Int) (x2 : Int) (x3 : Int) (r : (List Int)) (h : alibiref06_Reach_l22 x0 x1 x2 x3 = some r) : Loops Try.prog alibiref06_Reach_l22_c 0 (alibiref06_Reach_l22_s x0 x1 x2 x3) (.exit 8) (alibiref06_Reach_l22_e x0 x1 x2 x3 r) := by
 refine alibiref06_Reach_l22.partial_correctness x0 x2 (fun x1 x3 r => Loops Try.prog alibiref06_Reach_l22_c 0 (alibiref06_Reach_l22_s x0 x1 x2 x3) (.exit 8) (alibiref06_Reach_l22_e x0 x1 x2 x3 r)) ?_ x1 x3 r h
 clear h r x1 x3
 intro self ih x1 x3 r h
 rcases if_of h with ⟨c32, h⟩ | ⟨c32, h⟩
 · rcases if_of h with ⟨c33, h⟩ | ⟨c33, h⟩
   · obtain ⟨c34, h⟩ := need_of h
     obtain ⟨c35, h⟩ := need_of h
     rcases if_of h with ⟨c36, h⟩ | ⟨c36, h⟩
     · obtain ⟨c37, h⟩ := need_of h
       exact pmore mixed lives 80 (by kernel_rfl) (pk <| pb c32 <| pk3 <| pb c33 <| pn c34 <| pn c35 <| pk <| pb c36 <| pe (eff_lit o_i64 0 2 1 1 ([x3]) rfl [] []) <| pb (whole_ok (List.length ([x3]))) <| pn c37 <| pe (eff_app o_i64 0 x1 ([x3]) (x1 ++ ([x3])) 1 1 (List.length x1) (List.length ([x3])) (fun i => List.map AV.scal (encW o_i64 0 ([x3]) i)) (encW o_i64 0 x1 (List.length x1)) [] [] [(1, false)] (by first | exact Nat.le_refl _ | exact Nat.zero_le _ | (simp only [decide_eq_true_eq, List.length_set, List.length_append, List.length_replicate, List.length_cons, List.length_nil, Nat.zero_add] at * <;> omega)) rfl (fun _ => by kernel_rfl) (congrArg o_i64 (getD_ge 0 (by first | exact Nat.le_refl _ | exact Nat.zero_le _ | (simp only [decide_eq_true_eq, List.length_set, List.length_append, List.length_replicate, List.length_cons, List.length_nil, Nat.zero_add] at * <;> omega)))) (by rw [List.take_of_length_le (by first | exact Nat.le_refl _ | exact Nat.zero_le _ | (simp only [decide_eq_true_eq, List.length_set, List.length_append, List.length_replicate, List.length_cons, List.length_nil, Nat.zero_add] at * <;> omega))])) <| pk <| pz) (ih (x1 ++ ([x3])) (iAdd x3 1) _ h)
     · exact pmore mixed lives 80 (by kernel_rfl) (pk <| pb c32 <| pk3 <| pb c33 <| pn c34 <| pn c35 <| pk <| pb c36 <| pk <| pz) (ih x1 (iAdd x3 1) _ h)
   · have h := Option.some.inj h; subst h
     exact plast mixed lives 80 (by kernel_rfl) (pk <| pb c32 <| pk3 <| pb c33 <| pz) rfl
 · have h := Option.some.inj h; subst h
   exact plast mixed lives 80 (by kernel_rfl) (pk <| pb c32 <| pk3 <| pz) rfl
/-- alibi/alibiref06.Reach -/
def alibiref06_Reach (p : api_Program) (from_ : List Int) : Option ((List Int)) :=
  if (decide ((0 : Int) ≤ (((List.length p.funcs : Nat) : Int)))) = true then
    if (decide (((((List.length p.funcs : Nat) : Int)) : Int) * ((1 : Nat) : Int) ≤ ((reach : Nat) : Int))) = true then
      bind (alibiref06_Reach_l4 (List.replicate (Int.toNat (((List.length p.funcs : Nat) : Int))) false) p.globals p.locks p.slots p.funcs from_ (((List.length p.funcs : Nat) : Int)) 0) fun v9 =>
      bind (alibiref06_Reach_l9 v9 p.globals p.locks p.slots p.funcs (((List.length p.funcs : Nat) : Int)) 0) fun v30 =>
      bind (alibiref06_Reach_l22 v30 (([] : List Int)) (((List.length p.funcs : Nat) : Int)) 0) fun v38 =>
      some v38
    else none
  else none
theorem alibiref06_Reach_ok (p : api_Program) (from_ : List Int) (r : (List Int)) (h : alibiref06_Reach p from_ = some r) : Does Try.prog 80 [.agg [.pv (.int .i64 p.globals), .pv (.int .i64 p.locks), .pv (.int .i64 p.slots), .pv (.seq (List.length p.funcs) (encP e_62 ([] : List api_Node) p.funcs))], .pv (.seq (List.length from_) (encP e_i64 0 from_))] [] (.ms 0 [] 0 (List.length r), [.arr 0 1 (List.length r) (encW o_i64 0 r)]) := by
 unfold alibiref06_Reach at h
 obtain ⟨c1, h⟩ := need_of h
 obtain ⟨c2, h⟩ := need_of h
 obtain ⟨v9, h10, h⟩ := bind_of h
 obtain ⟨v30, h31, h⟩ := bind_of h
 obtain ⟨v38, h39, h⟩ := bind_of h
 have h := Option.some.inj h; subst h
 exact pdoes mixed (L := lives) (by kernel_rfl) (pk3 <| pn c1 <| pn ((decide_eq_true rfl) : (decide (((((List.length p.funcs : Nat) : Int)) : Int) = (((List.length p.funcs : Nat) : Int)))) = true) <| pn c2 <| pe (eff_make o_bool false 1 1 (Int.toNat (((List.length p.funcs : Nat) : Int)))) <| pl (alibiref06_Reach_l4_ok _ _ _ _ _ _ _ _ _ h10) <| pl (alibiref06_Reach_l9_ok _ _ _ _ _ _ _ _ h31) <| pl (Loops.of (s1 := ⟨(List.replicate 5 dead ++ (.pv (.int .i64 (((List.length p.funcs : Nat) : Int))) :: .ms 0 [] 0 (List.length v30) :: (List.replicate 5 dead ++ (.ms 1 [] 0 (List.length ([] : List Int)) :: .pv (.int .i64 0) :: List.replicate 81 dead)))), [.arr 0 1 (List.length v30) (encW o_bool false v30), .arr 0 1 (List.length ([] : List Int)) (encW o_i64 0 (([] : List Int)))]⟩) (alibiref06_Reach_l22_ok _ _ _ _ _ h39) (by (first | rfl | (simp only [alibiref06_Reach_l22_s, List.length_set]; done)))) <| pz)
noncomputable def alibiref14_Gather_l11_c : Code := sub (codeOf Try.prog 57) [1, 1, 1, 0, 1, 0, 0, 1, 0, 0, 1, 0, 1, 0, 0, 1, 0, 0, 1, 0, 0]
def alibiref14_Gather_l11 (x0 : List Int) (x1 : List Int) (x2 : Int) (x3 : Int) (x4 : Int) (x5 : List (List api_Node)) (x6 : Int) (x7 : Int) (x8 : Int) (x9 : Bool) (x10 : Int) (x11 : Int) : Option (Bool) :=
  if (decide ((0 : Int) ≤ x10)) = true then
    if (decide ((x10 : Int) < (((List.length x0) : Nat) : Int))) = true then
      if (decide ((0 : Int) ≤ (List.getD x0 (Int.toNat x10) 0))) = true then
        if (decide (((List.getD x0 (Int.toNat x10) 0) : Int) < ((List.length x5 : Nat) : Int))) = true then
          if (decide ((x11 : Int) < (((List.length (List.getD x5 (Int.toNat (List.getD x0 (Int.toNat x10) 0)) (([] : List api_Node))) : Nat) : Int)))) = true then
            if (decide ((0 : Int) ≤ x11)) = true then
              if (decide ((x11 : Int) < ((List.length (List.getD x5 (Int.toNat (List.getD x0 (Int.toNat x10) 0)) (([] : List api_Node))) : Nat) : Int))) = true then
                if x9 = true then
                  alibiref14_Gather_l11 x0 x1 x2 x3 x4 x5 x6 x7 x8 true x10 (iAdd x11 1)
                else
                  if ((((List.getD (List.getD x5 (Int.toNat (List.getD x0 (Int.toNat x10) 0)) (([] : List api_Node))) (Int.toNat x11) d_api_Node).kind) : Int) == x6) = true then
                    alibiref14_Gather_l11 x0 x1 x2 x3 x4 x5 x6 x7 x8 ((((List.getD (List.getD x5 (Int.toNat (List.getD x0 (Int.toNat x10) 0)) (([] : List api_Node))) (Int.toNat x11) d_api_Node).arg) : Int) == x8) x10 (iAdd x11 1)
                  else
                    if ((((List.getD (List.getD x5 (Int.toNat (List.getD x0 (Int.toNat x10) 0)) (([] : List api_Node))) (Int.toNat x11) d_api_Node).kind) : Int) == x7) = true then
                      alibiref14_Gather_l11 x0 x1 x2 x3 x4 x5 x6 x7 x8 ((((List.getD (List.getD x5 (Int.toNat (List.getD x0 (Int.toNat x10) 0)) (([] : List api_Node))) (Int.toNat x11) d_api_Node).arg) : Int) == x8) x10 (iAdd x11 1)
                    else
                      alibiref14_Gather_l11 x0 x1 x2 x3 x4 x5 x6 x7 x8 false x10 (iAdd x11 1)
              else none
            else none
          else
            some x9
        else none
      else none
    else none
  else none
partial_fixpoint
noncomputable abbrev alibiref14_Gather_l11_s (x0 : List Int) (x1 : List Int) (x2 : Int) (x3 : Int) (x4 : Int) (x5 : List (List api_Node)) (x6 : Int) (x7 : Int) (x8 : Int) (x9 : Bool) (x10 : Int) (x11 : Int) : St := ⟨dead :: dead :: .pv (.int .i64 x6) :: .pv (.int .i64 x7) :: .ptr 0 [] 0 0 :: (List.replicate 4 dead ++ (.ms 1 [] 0 (List.length x0) :: .ms 2 [] 0 (List.length x1) :: .pv (.int .i64 x8) :: .pv (.bool x9) :: .pv (.int .i64 x10) :: .pv (.int .i64 x11) :: List.replicate 64 dead)), [.box 0 [.pv (.int .i64 x2), .pv (.int .i64 x3), .pv (.int .i64 x4), .pv (.seq (List.length x5) (encP e_62 ([] : List api_Node) x5))], .arr 0 1 (List.length x0) (encW o_i64 0 x0), .arr 0 1 (List.length x1) (encW o_i64 0 x1)]⟩
noncomputable abbrev alibiref14_Gather_l11_e (x0 : List Int) (x1 : List Int) (x2 : Int) (x3 : Int) (x4 : Int) (x5 : List (List api_Node)) (x6 : Int) (x7 : Int) (x8 : Int) (x9 : Bool) (x10 : Int) (x11 : Int) (r : Bool) : St := ⟨dead :: dead :: .pv (.int .i64 x6) :: .pv (.int .i64 x7) :: .ptr 0 [] 0 0 :: (List.replicate 4 dead ++ (.ms 1 [] 0 (List.length x0) :: .ms 2 [] 0 (List.length x1) :: .pv (.int .i64 x8) :: .pv (.bool r) :: .pv (.int .i64 x10) :: List.replicate 65 dead)), [.box 0 [.pv (.int .i64 x2), .pv (.int .i64 x3), .pv (.int .i64 x4), .pv (.seq (List.length x5) (encP e_62 ([] : List api_Node) x5))], .arr 0 1 (List.length x0) (encW o_i64 0 x0), .arr 0 1 (List.length x1) (encW o_i64 0 x1)]⟩
theorem alibiref14_Gather_l11_ok (x0 : List Int) (x1 : List Int) (x2 : Int) (x3 : Int) (x4 : Int) (x5 : List (List api_Node)) (x6 : Int) (x7 : Int) (x8 : Int) (x9 : Bool) (x10 : Int) (x11 : Int) (r : Bool) (h : alibiref14_Gather_l11 x0 x1 x2 x3 x4 x5 x6 x7 x8 x9 x10 x11 = some r) : Loops Try.prog alibiref14_Gather_l11_c 0 (alibiref14_Gather_l11_s x0 x1 x2 x3 x4 x5 x6 x7 x8 x9 x10 x11) (.exit 4) (alibiref14_Gather_l11_e x0 x1 x2 x3 x4 x5 x6 x7 x8 x9 x10 x11 r) := by
 refine alibiref14_Gather_l11.partial_correctness x0 x1 x2 x3 x4 x5 x6 x7 x8 x10 (fun x9 x11 r => Loops Try.prog alibiref14_Gather_l11_c 0 (alibiref14_Gather_l11_s x0 x1 x2 x3 x4 x5 x6 x7 x8 x9 x10 x11) (.exit 4) (alibiref14_Gather_l11_e x0 x1 x2 x3 x4 x5 x6 x7 x8 x9 x10 x11 r)) ?_ x9 x11 r h
 clear h r x9 x11
 intro self ih x9 x11 r h
 obtain ⟨c5, h⟩ := need_of h
 obtain ⟨c6, h⟩ := need_of h
 obtain ⟨c7, h⟩ := need_of h
 obtain ⟨c8, h⟩ := need_of h
 rcases if_of h with ⟨c9, h⟩ | ⟨c9, h⟩
 · obtain ⟨c10, h⟩ := need_of h
   obtain ⟨c11, h⟩ := need_of h
   rcases if_of h with ⟨c12, h⟩ | ⟨c12, h⟩
   · exact pmore mixed lives 57 (by kernel_rfl) (pk <| pn c5 <| pn c6 <| pk <| pn c7 <| pn c8 <| pk3 <| pb c9 <| pk <| pn c5 <| pn c6 <| pk <| pn c7 <| pn c8 <| pk <| pn c10 <| pn c11 <| pk3 <| pb c12 <| pk8 <| pk <| pz) (ih true (iAdd x11 1) _ h)
   · rcases if_of h with ⟨c13, h⟩ | ⟨c13, h⟩
     · exact pmore mixed lives 57 (by kernel_rfl) (pk <| pn c5 <| pn c6 <| pk <| pn c7 <| pn c8 <| pk3 <| pb c9 <| pk <| pn c5 <| pn c6 <| pk <| pn c7 <| pn c8 <| pk <| pn c10 <| pn c11 <| pk3 <| pb c12 <| pk6 <| pb c13 <| pk8 <| pk8 <| pz) (ih ((((List.getD (List.getD x5 (Int.toNat (List.getD x0 (Int.toNat x10) 0)) (([] : List api_Node))) (Int.toNat x11) d_api_Node).arg) : Int) == x8) (iAdd x11 1) _ h)
     · rcases if_of h with ⟨c14, h⟩ | ⟨c14, h⟩
       · exact pmore mixed lives 57 (by kernel_rfl) (pk <| pn c5 <| pn c6 <| pk <| pn c7 <| pn c8 <| pk3 <| pb c9 <| pk <| pn c5 <| pn c6 <| pk <| pn c7 <| pn c8 <| pk <| pn c10 <| pn c11 <| pk3 <| pb c12 <| pk6 <| pb c13 <| pk8 <| pb c14 <| pk8 <| pk <| pz) (ih ((((List.getD (List.getD x5 (Int.toNat (List.getD x0 (Int.toNat x10) 0)) (([] : List api_Node))) (Int.toNat x11) d_api_Node).arg) : Int) == x8) (iAdd x11 1) _ h)
       · exact pmore mixed lives 57 (by kernel_rfl) (pk <| pn c5 <| pn c6 <| pk <| pn c7 <| pn c8 <| pk3 <| pb c9 <| pk <| pn c5 <| pn c6 <| pk <| pn c7 <| pn c8 <| pk <| pn c10 <| pn c11 <| pk3 <| pb c12 <| pk6 <| pb c13 <| pk8 <| pb c14 <| pk7 <| pz) (ih false (iAdd x11 1) _ h)
 · have h := Option.some.inj h; subst h
   exact plast mixed lives 57 (by kernel_rfl) (pk <| pn c5 <| pn c6 <| pk <| pn c7 <| pn c8 <| pk3 <| pb c9 <| pz) rfl
noncomputable def alibiref14_Gather_l8_c : Code := sub (codeOf Try.prog 57) [1, 1, 1, 0, 1, 0, 0, 1, 0, 0, 1, 0, 1, 0, 0]
def alibiref14_Gather_l8 (x0 : List Int) (x1 : List Int) (x2 : Int) (x3 : Int) (x4 : Int) (x5 : List (List api_Node)) (x6 : Int) (x7 : Int) (x8 : Int) (x9 : Bool) (x10 : Int) : Option (Bool) :=
  if (decide ((x10 : Int) < ((((List.length x0) : Nat) : Int)))) = true then
    bind (alibiref14_Gather_l11 x0 x1 x2 x3 x4 x5 x6 x7 x8 x9 x10 0) fun v15 =>
    alibiref14_Gather_l8 x0 x1 x2 x3 x4 x5 x6 x7 x8 v15 (iAdd x10 1)
  else
    some x9
partial_fixpoint
noncomputable abbrev alibiref14_Gather_l8_s (x0 : List Int) (x1 : List Int) (x2 : Int) (x3 : Int) (x4 : Int) (x5 : List (List api_Node)) (x6 : Int) (x7 : Int) (x8 : Int) (x9 : Bool) (x10 : Int) : St := ⟨dead :: dead :: .pv (.int .i64 x6) :: .pv (.int .i64 x7) :: .ptr 0 [] 0 0 :: (List.replicate 4 dead ++ (.ms 1 [] 0 (List.length x0) :: .ms 2 [] 0 (List.length x1) :: .pv (.int .i64 x8) :: .pv (.bool x9) :: .pv (.int .i64 x10) :: List.replicate 65 dead)), [.box 0 [.pv (.int .i64 x2), .pv (.int .i64 x3), .pv (.int .i64 x4), .pv (.seq (List.length x5) (encP e_62 ([] : List api_Node) x5))], .arr 0 1 (List.length x0) (encW o_i64 0 x0), .arr 0 1 (List.length x1) (encW o_i64 0 x1)]⟩
noncomputable abbrev alibiref14_Gather_l8_e (x0 : List Int) (x1 : List Int) (x2 : Int) (x3 : Int) (x4 : Int) (x5 : List (List api_Node)) (x6 : Int) (x7 : Int) (x8 : Int) (x9 : Bool) (x10 : Int) (r : Bool) : St := ⟨dead :: dead :: .pv (.int .i64 x6) :: .pv (.int .i64 x7) :: .ptr 0 [] 0 0 :: (List.replicate 4 dead ++ (.ms 1 [] 0 (List.length x0) :: .ms 2 [] 0 (List.length x1) :: .pv (.int .i64 x8) :: .pv (.bool r) :: List.replicate 66 dead)), [.box 0 [.pv (.int .i64 x2), .pv (.int .i64 x3), .pv (.int .i64 x4), .pv (.seq (List.length x5) (encP e_62 ([] : List api_Node) x5))], .arr 0 1 (List.length x0) (encW o_i64 0 x0), .arr 0 1 (List.length x1) (encW o_i64 0 x1)]⟩
theorem alibiref14_Gather_l8_ok (x0 : List Int) (x1 : List Int) (x2 : Int) (x3 : Int) (x4 : Int) (x5 : List (List api_Node)) (x6 : Int) (x7 : Int) (x8 : Int) (x9 : Bool) (x10 : Int) (r : Bool) (h : alibiref14_Gather_l8 x0 x1 x2 x3 x4 x5 x6 x7 x8 x9 x10 = some r) : Loops Try.prog alibiref14_Gather_l8_c 0 (alibiref14_Gather_l8_s x0 x1 x2 x3 x4 x5 x6 x7 x8 x9 x10) (.exit 2) (alibiref14_Gather_l8_e x0 x1 x2 x3 x4 x5 x6 x7 x8 x9 x10 r) := by
 refine alibiref14_Gather_l8.partial_correctness x0 x1 x2 x3 x4 x5 x6 x7 x8 (fun x9 x10 r => Loops Try.prog alibiref14_Gather_l8_c 0 (alibiref14_Gather_l8_s x0 x1 x2 x3 x4 x5 x6 x7 x8 x9 x10) (.exit 2) (alibiref14_Gather_l8_e x0 x1 x2 x3 x4 x5 x6 x7 x8 x9 x10 r)) ?_ x9 x10 r h
 clear h r x9 x10
 intro self ih x9 x10 r h
 rcases if_of h with ⟨c4, h⟩ | ⟨c4, h⟩
 · obtain ⟨v15, h16, h⟩ := bind_of h
   exact pmore mixed lives 57 (by kernel_rfl) (pk2 <| pb c4 <| pl (alibiref14_Gather_l11_ok _ _ _ _ _ _ _ _ _ _ _ _ _ h16) <| pk <| pz) (ih v15 (iAdd x10 1) _ h)
 · have h := Option.some.inj h; subst h
   exact plast mixed lives 57 (by kernel_rfl) (pk2 <| pb c4 <| pz) rfl
noncomputable def alibiref14_Gather_l4_c : Code := sub (codeOf Try.prog 57) [1, 1, 1, 0, 1, 0, 0]
def alibiref14_Gather_l4 (x0 : List Int) (x1 : List Int) (x2 : Int) (x3 : Int) (x4 : Int) (x5 : List (List api_Node)) (x6 : Int) (x7 : Int) (x8 : Int) : Option ((List Int)) :=
  if (decide ((x8 : Int) < 32)) = true then
    bind (alibiref14_Gather_l8 x0 x1 x2 x3 x4 x5 x6 x7 x8 false 0) fun v17 =>
    if v17 = true then
      if (Nat.ble ((List.length x1 + List.length ([x8])) * 8) reach) = true then
        alibiref14_Gather_l4 x0 (x1 ++ ([x8])) x2 x3 x4 x5 x6 x7 (iAdd x8 1)
      else none
    else
      alibiref14_Gather_l4 x0 x1 x2 x3 x4 x5 x6 x7 (iAdd x8 1)
  else
    some x1
partial_fixpoint
noncomputable abbrev alibiref14_Gather_l4_s (x0 : List Int) (x1 : List Int) (x2 : Int) (x3 : Int) (x4 : Int) (x5 : List (List api_Node)) (x6 : Int) (x7 : Int) (x8 : Int) : St := ⟨dead :: dead :: .pv (.int .i64 x6) :: .pv (.int .i64 x7) :: .ptr 0 [] 0 0 :: (List.replicate 4 dead ++ (.ms 1 [] 0 (List.length x0) :: .ms 2 [] 0 (List.length x1) :: .pv (.int .i64 x8) :: List.replicate 67 dead)), [.box 0 [.pv (.int .i64 x2), .pv (.int .i64 x3), .pv (.int .i64 x4), .pv (.seq (List.length x5) (encP e_62 ([] : List api_Node) x5))], .arr 0 1 (List.length x0) (encW o_i64 0 x0), .arr 0 1 (List.length x1) (encW o_i64 0 x1)]⟩
noncomputable abbrev alibiref14_Gather_l4_e (x0 : List Int) (x1 : List Int) (x2 : Int) (x3 : Int) (x4 : Int) (x5 : List (List api_Node)) (x6 : Int) (x7 : Int) (x8 : Int) (r : (List Int)) : St := ⟨(List.replicate 10 dead ++ (.ms 0 [] 0 (List.length r) :: List.replicate 68 dead)), [.arr 0 1 (List.length r) (encW o_i64 0 r)]⟩
theorem alibiref14_Gather_l4_ok (x0 : List Int) (x1 : List Int) (x2 : Int) (x3 : Int) (x4 : Int) (x5 : List (List api_Node)) (x6 : Int) (x7 : Int) (x8 : Int) (r : (List Int)) (h : alibiref14_Gather_l4 x0 x1 x2 x3 x4 x5 x6 x7 x8 = some r) : Loops Try.prog alibiref14_Gather_l4_c 0 (alibiref14_Gather_l4_s x0 x1 x2 x3 x4 x5 x6 x7 x8) (.exit 0) (alibiref14_Gather_l4_e x0 x1 x2 x3 x4 x5 x6 x7 x8 r) := by
 refine alibiref14_Gather_l4.partial_correctness x0 x2 x3 x4 x5 x6 x7 (fun x1 x8 r => Loops Try.prog alibiref14_Gather_l4_c 0 (alibiref14_Gather_l4_s x0 x1 x2 x3 x4 x5 x6 x7 x8) (.exit 0) (alibiref14_Gather_l4_e x0 x1 x2 x3 x4 x5 x6 x7 x8 r)) ?_ x1 x8 r h
 clear h r x1 x8
 intro self ih x1 x8 r h
 rcases if_of h with ⟨c3, h⟩ | ⟨c3, h⟩
 · obtain ⟨v17, h18, h⟩ := bind_of h
   rcases if_of h with ⟨c19, h⟩ | ⟨c19, h⟩
   · obtain ⟨c20, h⟩ := need_of h
     exact pmore mixed lives 57 (by kernel_rfl) (pk <| pb c3 <| pl (alibiref14_Gather_l8_ok _ _ _ _ _ _ _ _ _ _ _ _ h18) <| pb c19 <| pe (eff_lit o_i64 0 3 1 1 ([x8]) rfl [] []) <| pb (whole_ok (List.length ([x8]))) <| pn c20 <| pe (eff_app o_i64 0 x1 ([x8]) (x1 ++ ([x8])) 2 1 (List.length x1) (List.length ([x8])) (fun i => List.map AV.scal (encW o_i64 0 ([x8]) i)) (encW o_i64 0 x1 (List.length x1)) [] [] [(2, false)] (by first | exact Nat.le_refl _ | exact Nat.zero_le _ | (simp only [decide_eq_true_eq, List.length_set, List.length_append, List.length_replicate, List.length_cons, List.length_nil, Nat.zero_add] at * <;> omega)) rfl (fun _ => by kernel_rfl) (congrArg o_i64 (getD_ge 0 (by first | exact Nat.le_refl _ | exact Nat.zero_le _ | (simp only [decide_eq_true_eq, List.length_set, List.length_append, List.length_replicate, List.length_cons, List.length_nil, Nat.zero_add] at * <;> omega)))) (by rw [List.take_of_length_le (by first | exact Nat.le_refl _ | exact Nat.zero_le _ | (simp only [decide_eq_true_eq, List.length_set, List.length_append, List.length_replicate, List.length_cons, List.length_nil, Nat.zero_add] at * <;> omega))])) <| pk <| pz) (ih (x1 ++ ([x8])) (iAdd x8 1) _ h)
   · exact pmore mixed lives 57 (by kernel_rfl) (pk <| pb c3 <| pl (alibiref14_Gather_l8_ok _ _ _ _ _ _ _ _ _ _ _ _ h18) <| pb c19 <| pk <| pz) (ih x1 (iAdd x8 1) _ h)
 · have h := Option.some.inj h; subst h
   exact plast mixed lives 57 (by kernel_rfl) (pk <| pb c3 <| pz) rfl
/-- alibi/alibiref14.Gather -/
def alibiref14_Gather (p : api_Program) (f : Int) (kind : Int) (other : Int) : Option ((List Int)) :=
  bind (alibiref06_Reach p ([f])) fun v1 =>
  bind (alibiref14_Gather_l4 v1 (([] : List Int)) p.globals p.locks p.slots p.funcs kind other 0) fun v21 =>
  some v21
theorem alibiref14_Gather_ok (p : api_Program) (f : Int) (kind : Int) (other : Int) (r : (List Int)) (h : alibiref14_Gather p f kind other = some r) : Does Try.prog 57 [.agg [.pv (.int .i64 p.globals), .pv (.int .i64 p.locks), .pv (.int .i64 p.slots), .pv (.seq (List.length p.funcs) (encP e_62 ([] : List api_Node) p.funcs))], .pv (.int .i64 f), .pv (.int .i64 kind), .pv (.int .i64 other)] [] (.ms 0 [] 0 (List.length r), [.arr 0 1 (List.length r) (encW o_i64 0 r)]) := by
 unfold alibiref14_Gather at h
 obtain ⟨v1, h2, h⟩ := bind_of h
 obtain ⟨v21, h22, h⟩ := bind_of h
 have h := Option.some.inj h; subst h
 exact pdoes mixed (L := lives) (by kernel_rfl) (pk2 <| pe (eff_lit o_i64 0 1 1 1 ([f]) rfl [] []) <| pb (whole_ok (List.length ([f]))) <| pc (alibiref06_Reach_ok _ _ _ h2) <| pk <| pl (Loops.of (s1 := ⟨dead :: dead :: .pv (.int .i64 kind) :: .pv (.int .i64 other) :: .ptr 0 [] 0 0 :: (List.replicate 4 dead ++ (.ms 1 [] 0 (List.length v1) :: .ms 2 [] 0 (List.length ([] : List Int)) :: .pv (.int .i64 0) :: List.replicate 67 dead)), [.box 0 [.pv (.int .i64 p.globals), .pv (.int .i64 p.locks), .pv (.int .i64 p.slots), .pv (.seq (List.length p.funcs) (encP e_62 ([] : List api_Node) p.funcs))], .arr 0 1 (List.length v1) (encW o_i64 0 v1), .arr 0 1 (List.length ([] : List Int)) (encW o_i64 0 (([] : List Int)))]⟩) (alibiref14_Gather_l4_ok _ _ _ _ _ _ _ _ _ _ h22) (by (first | rfl | (simp only [alibiref14_Gather_l4_s, List.length_set]; done)))) <| pz)
noncomputable def alibiref15_Behind_l10_c : Code := sub (codeOf Try.prog 39) [1, 0, 1, 0, 1, 1, 1, 1, 1, 0, 1, 1, 0, 1, 0, 0]
def alibiref15_Behind_l10 (x0 : List Int) (x1 : Int) (x2 : Int) (x3 : Int) (x4 : Int) (x5 : List api_Section) (x6 : Int) (x7 : Bool) (x8 : Bool) (x9 : Int) : Option (Bool) :=
  if (decide ((x9 : Int) < ((((List.length x0) : Nat) : Int)))) = true then
    if x8 = true then
      alibiref15_Behind_l10 x0 x1 x2 x3 x4 x5 x6 x7 true (iAdd x9 1)
    else
      if (decide ((0 : Int) ≤ x9)) = true then
        if (decide ((x9 : Int) < (((List.length x0) : Nat) : Int))) = true then
          alibiref15_Behind_l10 x0 x1 x2 x3 x4 x5 x6 x7 (((List.getD x0 (Int.toNat x9) 0) : Int) == x6) (iAdd x9 1)
        else none
      else none
  else
    some x8
partial_fixpoint
noncomputable abbrev alibiref15_Behind_l10_s (x0 : List Int) (x1 : Int) (x2 : Int) (x3 : Int) (x4 : Int) (x5 : List api_Section) (x6 : Int) (x7 : Bool) (x8 : Bool) (x9 : Int) : St := ⟨dead :: .pv (.seq (List.length x5) (encP e_api_Section d_api_Section x5)) :: dead :: .pv (.int .i64 x6) :: .pv (.bool x7) :: dead :: dead :: .ptr 0 [] 0 0 :: dead :: dead :: dead :: .pv (.bool x8) :: .ms 1 [] 0 (List.length x0) :: .pv (.int .i64 x9) :: List.replicate 57 dead, [.box 0 [.pv (.int .i64 x1), .pv (.int .i64 x2), .pv (.int .i64 x3), .pv (.int .i64 x4)], .arr 0 1 (List.length x0) (encW o_i64 0 x0)]⟩
noncomputable abbrev alibiref15_Behind_l10_e (x0 : List Int) (x1 : Int) (x2 : Int) (x3 : Int) (x4 : Int) (x5 : List api_Section) (x6 : Int) (x7 : Bool) (x8 : Bool) (x9 : Int) (r : Bool) : St := ⟨dead :: .pv (.seq (List.length x5) (encP e_api_Section d_api_Section x5)) :: dead :: .pv (.int .i64 x6) :: .pv (.bool x7) :: dead :: dead :: .ptr 0 [] 0 0 :: dead :: dead :: dead :: .pv (.bool r) :: List.replicate 59 dead, [.box 0 [.pv (.int .i64 x1), .pv (.int .i64 x2), .pv (.int .i64 x3), .pv (.int .i64 x4)]]⟩
theorem alibiref15_Behind_l10_ok (x0 : List Int) (x1 : Int) (x2 : Int) (x3 : Int) (x4 : Int) (x5 : List api_Section) (x6 : Int) (x7 : Bool) (x8 : Bool) (x9 : Int) (r : Bool) (h : alibiref15_Behind_l10 x0 x1 x2 x3 x4 x5 x6 x7 x8 x9 = some r) : Loops Try.prog alibiref15_Behind_l10_c 0 (alibiref15_Behind_l10_s x0 x1 x2 x3 x4 x5 x6 x7 x8 x9) (.exit 1) (alibiref15_Behind_l10_e x0 x1 x2 x3 x4 x5 x6 x7 x8 x9 r) := by
 refine alibiref15_Behind_l10.partial_correctness x0 x1 x2 x3 x4 x5 x6 x7 (fun x8 x9 r => Loops Try.prog alibiref15_Behind_l10_c 0 (alibiref15_Behind_l10_s x0 x1 x2 x3 x4 x5 x6 x7 x8 x9) (.exit 1) (alibiref15_Behind_l10_e x0 x1 x2 x3 x4 x5 x6 x7 x8 x9 r)) ?_ x8 x9 r h
 clear h r x8 x9
 intro self ih x8 x9 r h
 rcases if_of h with ⟨c8, h⟩ | ⟨c8, h⟩
 · rcases if_of h with ⟨c9, h⟩ | ⟨c9, h⟩
   · exact pmore mixed lives 39 (by kernel_rfl) (pk2 <| pb c8 <| pb c9 <| pk7 <| pz) (ih true (iAdd x9 1) _ h)
   · obtain ⟨c10, h⟩ := need_of h
     obtain ⟨c11, h⟩ := need_of h
     exact pmore mixed lives 39 (by kernel_rfl) (pk2 <| pb c8 <| pb c9 <| pk2 <| pn c10 <| pn c11 <| pk7 <| pz) (ih (((List.getD x0 (Int.toNat x9) 0) : Int) == x6) (iAdd x9 1) _ h)
 · have h := Option.some.inj h; subst h
   exact plast mixed lives 39 (by kernel_rfl) (pk2 <| pb c8 <| pz) rfl
/-- alibi/alibiref15.Behind -/
def alibiref15_Behind (p : api_Program) (l : List api_Section) (n1 : api_Node) (lock : Int) (held : Bool) : Option (Bool) :=
  if ((n1.kind : Int) == 3) = true then
    if held = true then
      some true
    else
      some ((lock : Int) == n1.arg)
  else
    if ((n1.kind : Int) == 4) = true then
      if held = true then
        some ((lock : Int) != n1.arg)
      else
        some false
    else
      if ((n1.kind : Int) == 7) = true then
        bind (alibiref14_Gather p n1.arg 4 4) fun v6 =>
        bind (alibiref15_Behind_l10 v6 n1.kind n1.arg n1.next n1.alt l lock held false 0) fun v12 =>
        if held = true then
          if (!v12) = true then
            some true
          else
            if (decide ((0 : Int) ≤ n1.arg)) = true then
              if (decide ((n1.arg : Int) < ((List.length l : Nat) : Int))) = true then
                bind (alibiref03_Has ((List.getD l (Int.toNat n1.arg) d_api_Section).exit) lock) fun v18 =>
                some v18
              else none
            else none
        else
          if (decide ((0 : Int) ≤ n1.arg)) = true then
            if (decide ((n1.arg : Int) < ((List.length l : Nat) : Int))) = true then
              bind (alibiref03_Has ((List.getD l (Int.toNat n1.arg) d_api_Section).exit) lock) fun v22 =>
              some v22
            else none
          else none
      else
        some held
theorem alibiref15_Behind_ok (p : api_Program) (l : List api_Section) (n1 : api_Node) (lock : Int) (held : Bool) (r : Bool) (h : alibiref15_Behind p l n1 lock held = some r) : Does Try.prog 39 [.agg [.pv (.int .i64 p.globals), .pv (.int .i64 p.locks), .pv (.int .i64 p.slots), .pv (.seq (List.length p.funcs) (encP e_62 ([] : List api_Node) p.funcs))], .pv (.seq (List.length l) (encP e_api_Section d_api_Section l)), .agg [.pv (.int .i64 n1.kind), .pv (.int .i64 n1.arg), .pv (.int .i64 n1.next), .pv (.int .i64 n1.alt)], .pv (.int .i64 lock), .pv (.bool held)] [] (.pv (.bool r), []) := by
 unfold alibiref15_Behind at h
 rcases if_of h with ⟨c1, h⟩ | ⟨c1, h⟩
 · rcases if_of h with ⟨c2, h⟩ | ⟨c2, h⟩
   · have h := Option.some.inj h; subst h
     exact pdoes mixed (L := lives) (by kernel_rfl) (pk4 <| pb c1 <| pb c2 <| pk4 <| pz)
   · have h := Option.some.inj h; subst h
     exact pdoes mixed (L := lives) (by kernel_rfl) (pk4 <| pb c1 <| pb c2 <| pk6 <| pz)
 · rcases if_of h with ⟨c3, h⟩ | ⟨c3, h⟩
   · rcases if_of h with ⟨c4, h⟩ | ⟨c4, h⟩
     · have h := Option.some.inj h; subst h
       exact pdoes mixed (L := lives) (by kernel_rfl) (pk4 <| pb c1 <| pk <| pb c3 <| pb c4 <| pk6 <| pz)
     · have h := Option.some.inj h; subst h
       exact pdoes mixed (L := lives) (by kernel_rfl) (pk4 <| pb c1 <| pk <| pb c3 <| pb c4 <| pk4 <| pz)
   · rcases if_of h with ⟨c5, h⟩ | ⟨c5, h⟩
     · obtain ⟨v6, h7, h⟩ := bind_of h
       obtain ⟨v12, h13, h⟩ := bind_of h
       rcases if_of h with ⟨c14, h⟩ | ⟨c14, h⟩
       · rcases if_of h with ⟨c15, h⟩ | ⟨c15, h⟩
         · have h := Option.some.inj h; subst h
           exact pdoes mixed (L := lives) (by kernel_rfl) (pk4 <| pb c1 <| pk <| pb c3 <| pk <| pb c5 <| pk2 <| pc (alibiref14_Gather_ok _ _ _ _ _ h7) <| pk <| pl (alibiref15_Behind_l10_ok _ _ _ _ _ _ _ _ _ _ _ h13) <| pb c14 <| pk3 <| pb c15 <| pk8 <| pz)
         · obtain ⟨c16, h⟩ := need_of h
           obtain ⟨c17, h⟩ := need_of h
           obtain ⟨v18, h19, h⟩ := bind_of h
           have h := Option.some.inj h; subst h
           exact pdoes mixed (L := lives) (by kernel_rfl) (pk4 <| pb c1 <| pk <| pb c3 <| pk <| pb c5 <| pk2 <| pc (alibiref14_Gather_ok _ _ _ _ _ h7) <| pk <| pl (alibiref15_Behind_l10_ok _ _ _ _ _ _ _ _ _ _ _ h13) <| pb c14 <| pk3 <| pb c15 <| pk4 <| pn c16 <| pn c17 <| pk5 <| pc (alibiref03_Has_ok _ _ _ h19) <| pk2 <| pz)
       · obtain ⟨c20, h⟩ := need_of h
         obtain ⟨c21, h⟩ := need_of h
         obtain ⟨v22, h23, h⟩ := bind_of h
         have h := Option.some.inj h; subst h
         exact pdoes mixed (L := lives) (by kernel_rfl) (pk4 <| pb c1 <| pk <| pb c3 <| pk <| pb c5 <| pk2 <| pc (alibiref14_Gather_ok _ _ _ _ _ h7) <| pk <| pl (alibiref15_Behind_l10_ok _ _ _ _ _ _ _ _ _ _ _ h13) <| pb c14 <| pk7 <| pn c20 <| pn c21 <| pk5 <| pc (alibiref03_Has_ok _ _ _ h23) <| pk2 <| pz)
     · have h := Option.some.inj h; subst h
       exact pdoes mixed (L := lives) (by kernel_rfl) (pk4 <| pb c1 <| pk <| pb c3 <| pk <| pb c5 <| pz)
noncomputable def alibiref15_Node_l12_c : Code := sub (codeOf Try.prog 49) [1, 1, 1, 1, 1, 1, 0, 1, 0, 0, 1, 0, 0, 1, 0, 0]
inductive alibiref15_Node_l12_R where
  | x0 (v0 : Int)
  | x1
def alibiref15_Node_l12_R.ex : alibiref15_Node_l12_R → Ex
  | .x0 _ => .ret
  | .x1 => .exit 2
noncomputable def alibiref15_Node_l12_R.st (x0 : List Int) (x1 : Int) (x2 : Int) (x3 : Int) (x4 : List (List api_Node)) (x5 : Int) (x6 : Int) (x7 : Int) (x8 : Int) (x9 : List api_Section) (x10 : Int) (x11 : BitVec 32) (x12 : Int) (x13 : Int) : alibiref15_Node_l12_R → St
  | .x0 v0 => ⟨dead :: .pv (.seq (List.length x9) (encP e_api_Section d_api_Section x9)) :: .pv (.int .i64 x10) :: dead :: .ptr 0 [] 0 0 :: dead :: dead :: dead :: .pv (.int .i64 v0) :: .ptr 1 [] 0 0 :: .pv (.int .u32 (BitVec.toNat x11 : Nat)) :: .ms 2 [] 0 (List.length x0) :: .pv (.int .i64 x12) :: List.replicate 80 dead, [.box 0 [.pv (.int .i64 x1), .pv (.int .i64 x2), .pv (.int .i64 x3), .pv (.seq (List.length x4) (encP e_62 ([] : List api_Node) x4))], .box 0 [.pv (.int .i64 x5), .pv (.int .i64 x6), .pv (.int .i64 x7), .pv (.int .i64 x8)], .arr 0 1 (List.length x0) (encW o_i64 0 x0)]⟩
  | .x1 => ⟨dead :: .pv (.seq (List.length x9) (encP e_api_Section d_api_Section x9)) :: .pv (.int .i64 x10) :: dead :: .ptr 0 [] 0 0 :: (List.replicate 4 dead ++ (.ptr 1 [] 0 0 :: .pv (.int .u32 (BitVec.toNat x11 : Nat)) :: .ms 2 [] 0 (List.length x0) :: .pv (.int .i64 x12) :: List.replicate 80 dead)), [.box 0 [.pv (.int .i64 x1), .pv (.int .i64 x2), .pv (.int .i64 x3), .pv (.seq (List.length x4) (encP e_62 ([] : List api_Node) x4))], .box 0 [.pv (.int .i64 x5), .pv (.int .i64 x6), .pv (.int .i64 x7), .pv (.int .i64 x8)], .arr 0 1 (List.length x0) (encW o_i64 0 x0)]⟩
def alibiref15_Node_l12 (x0 : List Int) (x1 : Int) (x2 : Int) (x3 : Int) (x4 : List (List api_Node)) (x5 : Int) (x6 : Int) (x7 : Int) (x8 : Int) (x9 : List api_Section) (x10 : Int) (x11 : BitVec 32) (x12 : Int) (x13 : Int) : Option (alibiref15_Node_l12_R) :=
  if (decide ((x13 : Int) < 32)) = true then
    if (decide ((0 : Int) ≤ x10)) = true then
      if (decide ((x10 : Int) < ((List.length x9 : Nat) : Int))) = true then
        if (decide ((0 : Int) ≤ x12)) = true then
          if (decide ((x12 : Int) < (((List.length x0) : Nat) : Int))) = true then
            if (decide ((0 : Int) ≤ (List.getD x0 (Int.toNat x12) 0))) = true then
              if (decide (((List.getD x0 (Int.toNat x12) 0) : Int) < ((List.length ((List.getD x9 (Int.toNat x10) d_api_Section).held) : Nat) : Int))) = true then
                bind (alibiref03_Has (List.getD ((List.getD x9 (Int.toNat x10) d_api_Section).held) (Int.toNat (List.getD x0 (Int.toNat x12) 0)) (0#32)) x13) fun v27 =>
                if v27 = true then
                  bind (alibiref03_Has x11 x13) fun v30 =>
                  bind (alibiref15_Behind (api_Program.mk x1 x2 x3 x4) x9 (api_Node.mk x5 x6 x7 x8) x13 v30) fun v32 =>
                  if (!v32) = true then
                    some (.x0 3)
                  else
                    alibiref15_Node_l12 x0 x1 x2 x3 x4 x5 x6 x7 x8 x9 x10 x11 x12 (iAdd x13 1)
                else
                  alibiref15_Node_l12 x0 x1 x2 x3 x4 x5 x6 x7 x8 x9 x10 x11 x12 (iAdd x13 1)
              else none
            else none
          else none
        else none
      else none
    else none
  else
    some (.x1)
partial_fixpoint
noncomputable abbrev alibiref15_Node_l12_s (x0 : List Int) (x1 : Int) (x2 : Int) (x3 : Int) (x4 : List (List api_Node)) (x5 : Int) (x6 : Int) (x7 : Int) (x8 : Int) (x9 : List api_Section) (x10 : Int) (x11 : BitVec 32) (x12 : Int) (x13 : Int) : St := ⟨dead :: .pv (.seq (List.length x9) (encP e_api_Section d_api_Section x9)) :: .pv (.int .i64 x10) :: dead :: .ptr 0 [] 0 0 :: (List.replicate 4 dead ++ (.ptr 1 [] 0 0 :: .pv (.int .u32 (BitVec.toNat x11 : Nat)) :: .ms 2 [] 0 (List.length x0) :: .pv (.int .i64 x12) :: .pv (.int .i64 x13) :: List.replicate 79 dead)), [.box 0 [.pv (.int .i64 x1), .pv (.int .i64 x2), .pv (.int .i64 x3), .pv (.seq (List.length x4) (encP e_62 ([] : List api_Node) x4))], .box 0 [.pv (.int .i64 x5), .pv (.int .i64 x6), .pv (.int .i64 x7), .pv (.int .i64 x8)], .arr 0 1 (List.length x0) (encW o_i64 0 x0)]⟩
theorem alibiref15_Node_l12_ok (x0 : List Int) (x1 : Int) (x2 : Int) (x3 : Int) (x4 : List (List api_Node)) (x5 : Int) (x6 : Int) (x7 : Int) (x8 : Int) (x9 : List api_Section) (x10 : Int) (x11 : BitVec 32) (x12 : Int) (x13 : Int) (r : alibiref15_Node_l12_R) (h : alibiref15_Node_l12 x0 x1 x2 x3 x4 x5 x6 x7 x8 x9 x10 x11 x12 x13 = some r) : Loops Try.prog alibiref15_Node_l12_c 0 (alibiref15_Node_l12_s x0 x1 x2 x3 x4 x5 x6 x7 x8 x9 x10 x11 x12 x13) r.ex (alibiref15_Node_l12_R.st x0 x1 x2 x3 x4 x5 x6 x7 x8 x9 x10 x11 x12 x13 r) := by
 refine alibiref15_Node_l12.partial_correctness x0 x1 x2 x3 x4 x5 x6 x7 x8 x9 x10 x11 x12 (fun x13 r => Loops Try.prog alibiref15_Node_l12_c 0 (alibiref15_Node_l12_s x0 x1 x2 x3 x4 x5 x6 x7 x8 x9 x10 x11 x12 x13) r.ex (alibiref15_Node_l12_R.st x0 x1 x2 x3 x4 x5 x6 x7 x8 x9 x10 x11 x12 x13 r)) ?_ x13 r h
 clear h r x13
 intro self ih x13 r h
 rcases if_of h with ⟨c20, h⟩ | ⟨c20, h⟩
 · obtain ⟨c21, h⟩ := need_of h
   obtain ⟨c22, h⟩ := need_of h
   obtain ⟨c23, h⟩ := need_of h
   obtain ⟨c24, h⟩ := need_of h
   obtain ⟨c25, h⟩ := need_of h
   obtain ⟨c26, h⟩ := need_of h
   obtain ⟨v27, h28, h⟩ := bind_of h
   rcases if_of h with ⟨c29, h⟩ | ⟨c29, h⟩
   · obtain ⟨v30, h31, h⟩ := bind_of h
     obtain ⟨v32, h33, h⟩ := bind_of h
     rcases if_of h with ⟨c34, h⟩ | ⟨c34, h⟩
     · have h := Option.some.inj h; subst h
       exact plast mixed lives 49 (by kernel_rfl) (pk <| pb c20 <| pn c21 <| pn c22 <| pk <| pn c23 <| pn c24 <| pk <| pn c25 <| pn c26 <| pk <| pc (alibiref03_Has_ok _ _ _ h28) <| pk <| pb c29 <| pk8 <| pc (alibiref03_Has_ok _ _ _ h31) <| pk2 <| pc (alibiref15_Behind_ok _ _ _ _ _ _ h33) <| pk4 <| pb c34 <| pz) rfl
     · exact pmore mixed lives 49 (by kernel_rfl) (pk <| pb c20 <| pn c21 <| pn c22 <| pk <| pn c23 <| pn c24 <| pk <| pn c25 <| pn c26 <| pk <| pc (alibiref03_Has_ok _ _ _ h28) <| pk <| pb c29 <| pk8 <| pc (alibiref03_Has_ok _ _ _ h31) <| pk2 <| pc (alibiref15_Behind_ok _ _ _ _ _ _ h33) <| pk4 <| pb c34 <| pk <| pz) (ih (iAdd x13 1) _ h)
   · exact pmore mixed lives 49 (by kernel_rfl) (pk <| pb c20 <| pn c21 <| pn c22 <| pk <| pn c23 <| pn c24 <| pk <| pn c25 <| pn c26 <| pk <| pc (alibiref03_Has_ok _ _ _ h28) <| pk <| pb c29 <| pk8 <| pk3 <| pz) (ih (iAdd x13 1) _ h)
 · have h := Option.some.inj h; subst h
   exact plast mixed lives 49 (by kernel_rfl) (pk <| pb c20 <| pz) rfl
noncomputable def alibiref15_Node_l9_c : Code := sub (codeOf Try.prog 49) [1, 1, 1, 1, 1, 1, 0, 1, 0, 0]
inductive alibiref15_Node_l9_R where
  | x0 (v0 : Int)
  | x1
def alibiref15_Node_l9_R.ex : alibiref15_Node_l9_R → Ex
  | .x0 _ => .ret
  | .x1 => .exit 0
noncomputable def alibiref15_Node_l9_R.st (x0 : List Int) (x1 : Int) (x2 : Int) (x3 : Int) (x4 : List (List api_Node)) (x5 : Int) (x6 : Int) (x7 : Int) (x8 : Int) (x9 : List api_Section) (x10 : Int) (x11 : BitVec 32) (x12 : Int) : alibiref15_Node_l9_R → St
  | .x0 v0 => ⟨(List.replicate 8 dead ++ (.pv (.int .i64 v0) :: List.replicate 84 dead)), []⟩
  | .x1 => ⟨List.replicate 93 dead, []⟩
def alibiref15_Node_l9 (x0 : List Int) (x1 : Int) (x2 : Int) (x3 : Int) (x4 : List (List api_Node)) (x5 : Int) (x6 : Int) (x7 : Int) (x8 : Int) (x9 : List api_Section) (x10 : Int) (x11 : BitVec 32) (x12 : Int) : Option (alibiref15_Node_l9_R) :=
  if (decide ((x12 : Int) < ((((List.length x0) : Nat) : Int)))) = true then
    bind (alibiref15_Node_l12 x0 x1 x2 x3 x4 x5 x6 x7 x8 x9 x10 x11 x12 0) fun q => match q with
      | .x0 v35 =>
        some (.x0 v35)
      | .x1 =>
        alibiref15_Node_l9 x0 x1 x2 x3 x4 x5 x6 x7 x8 x9 x10 x11 (iAdd x12 1)
  else
    some (.x1)
partial_fixpoint
noncomputable abbrev alibiref15_Node_l9_s (x0 : List Int) (x1 : Int) (x2 : Int) (x3 : Int) (x4 : List (List api_Node)) (x5 : Int) (x6 : Int) (x7 : Int) (x8 : Int) (x9 : List api_Section) (x10 : Int) (x11 : BitVec 32) (x12 : Int) : St := ⟨dead :: .pv (.seq (List.length x9) (encP e_api_Section d_api_Section x9)) :: .pv (.int .i64 x10) :: dead :: .ptr 0 [] 0 0 :: (List.replicate 4 dead ++ (.ptr 1 [] 0 0 :: .pv (.int .u32 (BitVec.toNat x11 : Nat)) :: .ms 2 [] 0 (List.length x0) :: .pv (.int .i64 x12) :: List.replicate 80 dead)), [.box 0 [.pv (.int .i64 x1), .pv (.int .i64 x2), .pv (.int .i64 x3), .pv (.seq (List.length x4) (encP e_62 ([] : List api_Node) x4))], .box 0 [.pv (.int .i64 x5), .pv (.int .i64 x6), .pv (.int .i64 x7), .pv (.int .i64 x8)], .arr 0 1 (List.length x0) (encW o_i64 0 x0)]⟩
theorem alibiref15_Node_l9_ok (x0 : List Int) (x1 : Int) (x2 : Int) (x3 : Int) (x4 : List (List api_Node)) (x5 : Int) (x6 : Int) (x7 : Int) (x8 : Int) (x9 : List api_Section) (x10 : Int) (x11 : BitVec 32) (x12 : Int) (r : alibiref15_Node_l9_R) (h : alibiref15_Node_l9 x0 x1 x2 x3 x4 x5 x6 x7 x8 x9 x10 x11 x12 = some r) : Loops Try.prog alibiref15_Node_l9_c 0 (alibiref15_Node_l9_s x0 x1 x2 x3 x4 x5 x6 x7 x8 x9 x10 x11 x12) r.ex (alibiref15_Node_l9_R.st x0 x1 x2 x3 x4 x5 x6 x7 x8 x9 x10 x11 x12 r) := by
 refine alibiref15_Node_l9.partial_correctness x0 x1 x2 x3 x4 x5 x6 x7 x8 x9 x10 x11 (fun x12 r => Loops Try.prog alibiref15_Node_l9_c 0 (alibiref15_Node_l9_s x0 x1 x2 x3 x4 x5 x6 x7 x8 x9 x10 x11 x12) r.ex (alibiref15_Node_l9_R.st x0 x1 x2 x3 x4 x5 x6 x7 x8 x9 x10 x11 x12 r)) ?_ x12 r h
 clear h r x12
 intro self ih x12 r h
 rcases if_of h with ⟨c19, h⟩ | ⟨c19, h⟩
 · obtain ⟨q, hq, h⟩ := bind_of h
   cases q with
   | x0 v35 =>
    have h36 := hq; clear hq
    try dsimp only at h
    have h := Option.some.inj h; subst h
    exact plast mixed lives 49 (by kernel_rfl) (pk2 <| pb c19 <| pl (alibiref15_Node_l12_ok _ _ _ _ _ _ _ _ _ _ _ _ _ _ _ h36) <| pz) rfl
   | x1 =>
    have h37 := hq; clear hq
    try dsimp only at h
    exact pmore mixed lives 49 (by kernel_rfl) (pk2 <| pb c19 <| pl (alibiref15_Node_l12_ok _ _ _ _ _ _ _ _ _ _ _ _ _ _ _ h37) <| pk <| pz) (ih (iAdd x12 1) _ h)
 · have h := Option.some.inj h; subst h
   exact plast mixed lives 49 (by kernel_rfl) (pk2 <| pb c19 <| pz) rfl
/-- alibi/alibiref15.Node -/
def alibiref15_Node (p : api_Program) (l : List api_Section) (f : Int) (i : Int) : Option (Int) :=
  if (decide ((0 : Int) ≤ f)) = true then
    if (decide ((f : Int) < ((List.length p.funcs : Nat) : Int))) = true then
      if (decide ((0 : Int) ≤ i)) = true then
        if (decide ((i : Int) < ((List.length (List.getD p.funcs (Int.toNat f) (([] : List api_Node))) : Nat) : Int))) = true then
          if (decide ((f : Int) < ((List.length l : Nat) : Int))) = true then
            if (decide ((i : Int) < ((List.length ((List.getD l (Int.toNat f) d_api_Section).held) : Nat) : Int))) = true then
              if ((((List.getD (List.getD p.funcs (Int.toNat f) (([] : List api_Node))) (Int.toNat i) d_api_Node).kind) : Int) == 7) = true then
                if (decide ((0 : Int) ≤ ((List.getD (List.getD p.funcs (Int.toNat f) (([] : List api_Node))) (Int.toNat i) d_api_Node).arg))) = true then
                  if (decide ((((List.getD (List.getD p.funcs (Int.toNat f) (([] : List api_Node))) (Int.toNat i) d_api_Node).arg) : Int) < ((List.length l : Nat) : Int))) = true then
                    bind (alibiref03_Within ((List.getD l (Int.toNat ((List.getD (List.getD p.funcs (Int.toNat f) (([] : List api_Node))) (Int.toNat i) d_api_Node).arg)) d_api_Section).entry) (List.getD ((List.getD l (Int.toNat f) d_api_Section).held) (Int.toNat i) (0#32))) fun v10 =>
                    if (!v10) = true then
                      some 5
                    else
                      if ((((List.getD (List.getD p.funcs (Int.toNat f) (([] : List api_Node))) (Int.toNat i) d_api_Node).kind) : Int) == 9) = true then
                        bind (alibiref03_Within ((List.getD l (Int.toNat f) d_api_Section).exit) (List.getD ((List.getD l (Int.toNat f) d_api_Section).held) (Int.toNat i) (0#32))) fun v14 =>
                        if (!v14) = true then
                          some 4
                        else
                          bind (alibiref05_Succ (List.getD (List.getD p.funcs (Int.toNat f) (([] : List api_Node))) (Int.toNat i) d_api_Node)) fun v17 =>
                          bind (alibiref15_Node_l9 v17 p.globals p.locks p.slots p.funcs ((List.getD (List.getD p.funcs (Int.toNat f) (([] : List api_Node))) (Int.toNat i) d_api_Node).kind) ((List.getD (List.getD p.funcs (Int.toNat f) (([] : List api_Node))) (Int.toNat i) d_api_Node).arg) ((List.getD (List.getD p.funcs (Int.toNat f) (([] : List api_Node))) (Int.toNat i) d_api_Node).next) ((List.getD (List.getD p.funcs (Int.toNat f) (([] : List api_Node))) (Int.toNat i) d_api_Node).alt) l f (List.getD ((List.getD l (Int.toNat f) d_api_Section).held) (Int.toNat i) (0#32)) 0) fun q => match q with
                            | .x0 v38 =>
                              some v38
                            | .x1 =>
                              some 0
                      else
                        bind (alibiref05_Succ (List.getD (List.getD p.funcs (Int.toNat f) (([] : List api_Node))) (Int.toNat i) d_api_Node)) fun v41 =>
                        bind (alibiref15_Node_l9 v41 p.globals p.locks p.slots p.funcs ((List.getD (List.getD p.funcs (Int.toNat f) (([] : List api_Node))) (Int.toNat i) d_api_Node).kind) ((List.getD (List.getD p.funcs (Int.toNat f) (([] : List api_Node))) (Int.toNat i) d_api_Node).arg) ((List.getD (List.getD p.funcs (Int.toNat f) (([] : List api_Node))) (Int.toNat i) d_api_Node).next) ((List.getD (List.getD p.funcs (Int.toNat f) (([] : List api_Node))) (Int.toNat i) d_api_Node).alt) l f (List.getD ((List.getD l (Int.toNat f) d_api_Section).held) (Int.toNat i) (0#32)) 0) fun q => match q with
                          | .x0 v43 =>
                            some v43
                          | .x1 =>
                            some 0
                  else none
                else none
              else
                if ((((List.getD (List.getD p.funcs (Int.toNat f) (([] : List api_Node))) (Int.toNat i) d_api_Node).kind) : Int) == 9) = true then
                  bind (alibiref03_Within ((List.getD l (Int.toNat f) d_api_Section).exit) (List.getD ((List.getD l (Int.toNat f) d_api_Section).held) (Int.toNat i) (0#32))) fun v47 =>
                  if (!v47) = true then
                    some 4
                  else
                    bind (alibiref05_Succ (List.getD (List.getD p.funcs (Int.toNat f) (([] : List api_Node))) (Int.toNat i) d_api_Node)) fun v50 =>
                    bind (alibiref15_Node_l9 v50 p.globals p.locks p.slots p.funcs ((List.getD (List.getD p.funcs (Int.toNat f) (([] : List api_Node))) (Int.toNat i) d_api_Node).kind) ((List.getD (List.getD p.funcs (Int.toNat f) (([] : List api_Node))) (Int.toNat i) d_api_Node).arg) ((List.getD (List.getD p.funcs (Int.toNat f) (([] : List api_Node))) (Int.toNat i) d_api_Node).next) ((List.getD (List.getD p.funcs (Int.toNat f) (([] : List api_Node))) (Int.toNat i) d_api_Node).alt) l f (List.getD ((List.getD l (Int.toNat f) d_api_Section).held) (Int.toNat i) (0#32)) 0) fun q => match q with
                      | .x0 v52 =>
                        some v52
                      | .x1 =>
                        some 0
                else
                  bind (alibiref05_Succ (List.getD (List.getD p.funcs (Int.toNat f) (([] : List api_Node))) (Int.toNat i) d_api_Node)) fun v55 =>
                  bind (alibiref15_Node_l9 v55 p.globals p.locks p.slots p.funcs ((List.getD (List.getD p.funcs (Int.toNat f) (([] : List api_Node))) (Int.toNat i) d_api_Node).kind) ((List.getD (List.getD p.funcs (Int.toNat f) (([] : List api_Node))) (Int.toNat i) d_api_Node).arg) ((List.getD (List.getD p.funcs (Int.toNat f) (([] : List api_Node))) (Int.toNat i) d_api_Node).next) ((List.getD (List.getD p.funcs (Int.toNat f) (([] : List api_Node))) (Int.toNat i) d_api_Node).alt) l f (List.getD ((List.getD l (Int.toNat f) d_api_Section).held) (Int.toNat i) (0#32)) 0) fun q => match q with
                    | .x0 v57 =>
                      some v57
                    | .x1 =>
                      some 0
            else none
          else none
        else none
      else none
    else none
  else none
theorem alibiref15_Node_ok (p : api_Program) (l : List api_Section) (f : Int) (i : Int) (r : Int) (h : alibiref15_Node p l f i = some r) : Does Try.prog 49 [.agg [.pv (.int .i64 p.globals), .pv (.int .i64 p.locks), .pv (.int .i64 p.slots), .pv (.seq (List.length p.funcs) (encP e_62 ([] : List api_Node) p.funcs))], .pv (.seq (List.length l) (encP e_api_Section d_api_Section l)), .pv (.int .i64 f), .pv (.int .i64 i)] [] (.pv (.int .i64 r), []) := by
 unfold alibiref15_Node at h
 obtain ⟨c1, h⟩ := need_of h
 obtain ⟨c2, h⟩ := need_of h
 obtain ⟨c3, h⟩ := need_of h
 obtain ⟨c4, h⟩ := need_of h
 obtain ⟨c5, h⟩ := need_of h
 obtain ⟨c6, h⟩ := need_of h
 rcases if_of h with ⟨c7, h⟩ | ⟨c7, h⟩
 · obtain ⟨c8, h⟩ := need_of h
   obtain ⟨c9, h⟩ := need_of h
   obtain ⟨v10, h11, h⟩ := bind_of h
   rcases if_of h with ⟨c12, h⟩ | ⟨c12, h⟩
   · have h := Option.some.inj h; subst h
     exact pdoes mixed (L := lives) (by kernel_rfl) (pk2 <| pn c1 <| pn c2 <| pk <| pn c3 <| pn c4 <| pk3 <| pn c1 <| pn c5 <| pk <| pn c3 <| pn c6 <| pk3 <| pb c7 <| pk4 <| pn c8 <| pn c9 <| pk5 <| pc (alibiref03_Within_ok _ _ _ h11) <| pk4 <| pb c12 <| pz)
   · rcases if_of h with ⟨c13, h⟩ | ⟨c13, h⟩
     · obtain ⟨v14, h15, h⟩ := bind_of h
       rcases if_of h with ⟨c16, h⟩ | ⟨c16, h⟩
       · have h := Option.some.inj h; subst h
         exact pdoes mixed (L := lives) (by kernel_rfl) (pk2 <| pn c1 <| pn c2 <| pk <| pn c3 <| pn c4 <| pk3 <| pn c1 <| pn c5 <| pk <| pn c3 <| pn c6 <| pk3 <| pb c7 <| pk4 <| pn c8 <| pn c9 <| pk5 <| pc (alibiref03_Within_ok _ _ _ h11) <| pk4 <| pb c12 <| pk2 <| pb c13 <| pk2 <| pn c1 <| pn c5 <| pk5 <| pc (alibiref03_Within_ok _ _ _ h15) <| pk4 <| pb c16 <| pz)
       · obtain ⟨v17, h18, h⟩ := bind_of h
         obtain ⟨q, hq, h⟩ := bind_of h
         cases q with
         | x0 v38 =>
          have h39 := hq; clear hq
          try dsimp only at h
          have h := Option.some.inj h; subst h
          exact pdoes mixed (L := lives) (by kernel_rfl) (pk2 <| pn c1 <| pn c2 <| pk <| pn c3 <| pn c4 <| pk3 <| pn c1 <| pn c5 <| pk <| pn c3 <| pn c6 <| pk3 <| pb c7 <| pk4 <| pn c8 <| pn c9 <| pk5 <| pc (alibiref03_Within_ok _ _ _ h11) <| pk4 <| pb c12 <| pk2 <| pb c13 <| pk2 <| pn c1 <| pn c5 <| pk5 <| pc (alibiref03_Within_ok _ _ _ h15) <| pk4 <| pb c16 <| pk <| pc (alibiref05_Succ_ok _ _ h18) <| pk <| pl (alibiref15_Node_l9_ok _ _ _ _ _ _ _ _ _ _ _ _ _ _ h39) <| pz)
         | x1 =>
          have h40 := hq; clear hq
          try dsimp only at h
          have h := Option.some.inj h; subst h
          exact pdoes mixed (L := lives) (by kernel_rfl) (pk2 <| pn c1 <| pn c2 <| pk <| pn c3 <| pn c4 <| pk3 <| pn c1 <| pn c5 <| pk <| pn c3 <| pn c6 <| pk3 <| pb c7 <| pk4 <| pn c8 <| pn c9 <| pk5 <| pc (alibiref03_Within_ok _ _ _ h11) <| pk4 <| pb c12 <| pk2 <| pb c13 <| pk2 <| pn c1 <| pn c5 <| pk5 <| pc (alibiref03_Within_ok _ _ _ h15) <| pk4 <| pb c16 <| pk <| pc (alibiref05_Succ_ok _ _ h18) <| pk <| pl (alibiref15_Node_l9_ok _ _ _ _ _ _ _ _ _ _ _ _ _ _ h40) <| pz)
     · obtain ⟨v41, h42, h⟩ := bind_of h
       obtain ⟨q, hq, h⟩ := bind_of h
       cases q with
       | x0 v43 =>
        have h44 := hq; clear hq
        try dsimp only at h
        have h := Option.some.inj h; subst h
        exact pdoes mixed (L := lives) (by kernel_rfl) (pk2 <| pn c1 <| pn c2 <| pk <| pn c3 <| pn c4 <| pk3 <| pn c1 <| pn c5 <| pk <| pn c3 <| pn c6 <| pk3 <| pb c7 <| pk4 <| pn c8 <| pn c9 <| pk5 <| pc (alibiref03_Within_ok _ _ _ h11) <| pk4 <| pb c12 <| pk2 <| pb c13 <| pk8 <| pk2 <| pc (alibiref05_Succ_ok _ _ h42) <| pk <| pl (alibiref15_Node_l9_ok _ _ _ _ _ _ _ _ _ _ _ _ _ _ h44) <| pz)
       | x1 =>
        have h45 := hq; clear hq
        try dsimp only at h
        have h := Option.some.inj h; subst h
        exact pdoes mixed (L := lives) (by kernel_rfl) (pk2 <| pn c1 <| pn c2 <| pk <| pn c3 <| pn c4 <| pk3 <| pn c1 <| pn c5 <| pk <| pn c3 <| pn c6 <| pk3 <| pb c7 <| pk4 <| pn c8 <| pn c9 <| pk5 <| pc (alibiref03_Within_ok _ _ _ h11) <| pk4 <| pb c12 <| pk2 <| pb c13 <| pk8 <| pk2 <| pc (alibiref05_Succ_ok _ _ h42) <| pk <| pl (alibiref15_Node_l9_ok _ _ _ _ _ _ _ _ _ _ _ _ _ _ h45) <| pz)
 · rcases if_of h with ⟨c46, h⟩ | ⟨c46, h⟩
   · obtain ⟨v47, h48, h⟩ := bind_of h
     rcases if_of h with ⟨c49, h⟩ | ⟨c49, h⟩
     · have h := Option.some.inj h; subst h
       exact pdoes mixed (L := lives) (by kernel_rfl) (pk2 <| pn c1 <| pn c2 <| pk <| pn c3 <| pn c4 <| pk3 <| pn c1 <| pn c5 <| pk <| pn c3 <| pn c6 <| pk3 <| pb c7 <| pk8 <| pk4 <| pb c46 <| pk2 <| pn c1 <| pn c5 <| pk5 <| pc (alibiref03_Within_ok _ _ _ h48) <| pk4 <| pb c49 <| pz)
     · obtain ⟨v50, h51, h⟩ := bind_of h
       obtain ⟨q, hq, h⟩ := bind_of h
       cases q with
       | x0 v52 =>
        have h53 := hq; clear hq
        try dsimp only at h
        have h := Option.some.inj h; subst h
        exact pdoes mixed (L := lives) (by kernel_rfl) (pk2 <| pn c1 <| pn c2 <| pk <| pn c3 <| pn c4 <| pk3 <| pn c1 <| pn c5 <| pk <| pn c3 <| pn c6 <| pk3 <| pb c7 <| pk8 <| pk4 <| pb c46 <| pk2 <| pn c1 <| pn c5 <| pk5 <| pc (alibiref03_Within_ok _ _ _ h48) <| pk4 <| pb c49 <| pk <| pc (alibiref05_Succ_ok _ _ h51) <| pk <| pl (alibiref15_Node_l9_ok _ _ _ _ _ _ _ _ _ _ _ _ _ _ h53) <| pz)
       | x1 =>
        have h54 := hq; clear hq
        try dsimp only at h
        have h := Option.some.inj h; subst h
        exact pdoes mixed (L := lives) (by kernel_rfl) (pk2 <| pn c1 <| pn c2 <| pk <| pn c3 <| pn c4 <| pk3 <| pn c1 <| pn c5 <| pk <| pn c3 <| pn c6 <| pk3 <| pb c7 <| pk8 <| pk4 <| pb c46 <| pk2 <| pn c1 <| pn c5 <| pk5 <| pc (alibiref03_Within_ok _ _ _ h48) <| pk4 <| pb c49 <| pk <| pc (alibiref05_Succ_ok _ _ h51) <| pk <| pl (alibiref15_Node_l9_ok _ _ _ _ _ _ _ _ _ _ _ _ _ _ h54) <| pz)
   · obtain ⟨v55, h56, h⟩ := bind_of h
     obtain ⟨q, hq, h⟩ := bind_of h
     cases q with
     | x0 v57 =>
      have h58 := hq; clear hq
      try dsimp only at h
      have h := Option.some.inj h; subst h
      exact pdoes mixed (L := lives) (by kernel_rfl) (pk2 <| pn c1 <| pn c2 <| pk <| pn c3 <| pn c4 <| pk3 <| pn c1 <| pn c5 <| pk <| pn c3 <| pn c6 <| pk3 <| pb c7 <| pk8 <| pk4 <| pb c46 <| pk8 <| pk2 <| pc (alibiref05_Succ_ok _ _ h56) <| pk <| pl (alibiref15_Node_l9_ok _ _ _ _ _ _ _ _ _ _ _ _ _ _ h58) <| pz)
     | x1 =>
      have h59 := hq; clear hq
      try dsimp only at h
      have h := Option.some.inj h; subst h
      exact pdoes mixed (L := lives) (by kernel_rfl) (pk2 <| pn c1 <| pn c2 <| pk <| pn c3 <| pn c4 <| pk3 <| pn c1 <| pn c5 <| pk <| pn c3 <| pn c6 <| pk3 <| pb c7 <| pk8 <| pk4 <| pb c46 <| pk8 <| pk2 <| pc (alibiref05_Succ_ok _ _ h56) <| pk <| pl (alibiref15_Node_l9_ok _ _ _ _ _ _ _ _ _ _ _ _ _ _ h59) <| pz)
noncomputable def alibiref15_Check_l11_c : Code := sub (codeOf Try.prog 23) [1, 1, 0, 1, 0, 0, 1, 0, 0, 1, 1, 1, 0, 0]
inductive alibiref15_Check_l11_R where
  | x0 (v0 : Int) (v1 : Int)
  | x1
def alibiref15_Check_l11_R.ex : alibiref15_Check_l11_R → Ex
  | .x0 _ _ => .ret
  | .x1 => .exit 2
noncomputable def alibiref15_Check_l11_R.st (x0 : Int) (x1 : Int) (x2 : Int) (x3 : List (List api_Node)) (x4 : Int) (x5 : Int) (x6 : Int) (x7 : List api_Section) (x8 : Int) (x9 : Int) : alibiref15_Check_l11_R → St
  | .x0 v0 v1 => ⟨dead :: .pv (.seq (List.length x7) (encP e_api_Section d_api_Section x7)) :: .ptr 0 [] 0 0 :: dead :: .ptr 1 [] 0 0 :: .pv (.int .i64 x8) :: List.replicate 68 dead, [.box 0 [.pv (.int .i64 x0), .pv (.int .i64 x1), .pv (.int .i64 x2), .pv (.seq (List.length x3) (encP e_62 ([] : List api_Node) x3))], .box 0 [.pv (.int .i64 x8), .pv (.int .i64 v0), .pv (.int .i64 v1)]]⟩
  | .x1 => ⟨dead :: .pv (.seq (List.length x7) (encP e_api_Section d_api_Section x7)) :: .ptr 0 [] 0 0 :: dead :: .ptr 1 [] 0 0 :: .pv (.int .i64 x8) :: List.replicate 68 dead, [.box 0 [.pv (.int .i64 x0), .pv (.int .i64 x1), .pv (.int .i64 x2), .pv (.seq (List.length x3) (encP e_62 ([] : List api_Node) x3))], .box 0 [.pv (.int .i64 x4), .pv (.int .i64 x5), .pv (.int .i64 x6)]]⟩
def alibiref15_Check_l11 (x0 : Int) (x1 : Int) (x2 : Int) (x3 : List (List api_Node)) (x4 : Int) (x5 : Int) (x6 : Int) (x7 : List api_Section) (x8 : Int) (x9 : Int) : Option (alibiref15_Check_l11_R) :=
  if (decide ((0 : Int) ≤ x8)) = true then
    if (decide ((x8 : Int) < ((List.length x3 : Nat) : Int))) = true then
      if (decide ((x9 : Int) < (((List.length (List.getD x3 (Int.toNat x8) (([] : List api_Node))) : Nat) : Int)))) = true then
        bind (alibiref15_Node (api_Program.mk x0 x1 x2 x3) x7 x8 x9) fun v16 =>
        if ((v16 : Int) != 0) = true then
          some (.x0 x9 v16)
        else
          alibiref15_Check_l11 x0 x1 x2 x3 x4 x5 x6 x7 x8 (iAdd x9 1)
      else
        some (.x1)
    else none
  else none
partial_fixpoint
noncomputable abbrev alibiref15_Check_l11_s (x0 : Int) (x1 : Int) (x2 : Int) (x3 : List (List api_Node)) (x4 : Int) (x5 : Int) (x6 : Int) (x7 : List api_Section) (x8 : Int) (x9 : Int) : St := ⟨dead :: .pv (.seq (List.length x7) (encP e_api_Section d_api_Section x7)) :: .ptr 0 [] 0 0 :: dead :: .ptr 1 [] 0 0 :: .pv (.int .i64 x8) :: .pv (.int .i64 x9) :: List.replicate 67 dead, [.box 0 [.pv (.int .i64 x0), .pv (.int .i64 x1), .pv (.int .i64 x2), .pv (.seq (List.length x3) (encP e_62 ([] : List api_Node) x3))], .box 0 [.pv (.int .i64 x4), .pv (.int .i64 x5), .pv (.int .i64 x6)]]⟩
theorem alibiref15_Check_l11_ok (x0 : Int) (x1 : Int) (x2 : Int) (x3 : List (List api_Node)) (x4 : Int) (x5 : Int) (x6 : Int) (x7 : List api_Section) (x8 : Int) (x9 : Int) (r : alibiref15_Check_l11_R) (h : alibiref15_Check_l11 x0 x1 x2 x3 x4 x5 x6 x7 x8 x9 = some r) : Loops Try.prog alibiref15_Check_l11_c 0 (alibiref15_Check_l11_s x0 x1 x2 x3 x4 x5 x6 x7 x8 x9) r.ex (alibiref15_Check_l11_R.st x0 x1 x2 x3 x4 x5 x6 x7 x8 x9 r) := by
 refine alibiref15_Check_l11.partial_correctness x0 x1 x2 x3 x4 x5 x6 x7 x8 (fun x9 r => Loops Try.prog alibiref15_Check_l11_c 0 (alibiref15_Check_l11_s x0 x1 x2 x3 x4 x5 x6 x7 x8 x9) r.ex (alibiref15_Check_l11_R.st x0 x1 x2 x3 x4 x5 x6 x7 x8 x9 r)) ?_ x9 r h
 clear h r x9
 intro self ih x9 r h
 obtain ⟨c13, h⟩ := need_of h
 obtain ⟨c14, h⟩ := need_of h
 rcases if_of h with ⟨c15, h⟩ | ⟨c15, h⟩
 · obtain ⟨v16, h17, h⟩ := bind_of h
   rcases if_of h with ⟨c18, h⟩ | ⟨c18, h⟩
   · have h := Option.some.inj h; subst h
     exact plast mixed lives 23 (by kernel_rfl) (pk <| pn c13 <| pn c14 <| pk3 <| pb c15 <| pk <| pc (alibiref15_Node_ok _ _ _ _ _ h17) <| pk2 <| pb c18 <| pk2 <| pz) rfl
   · exact pmore mixed lives 23 (by kernel_rfl) (pk <| pn c13 <| pn c14 <| pk3 <| pb c15 <| pk <| pc (alibiref15_Node_ok _ _ _ _ _ h17) <| pk2 <| pb c18 <| pk <| pz) (ih (iAdd x9 1) _ h)
 · have h := Option.some.inj h; subst h
   exact plast mixed lives 23 (by kernel_rfl) (pk <| pn c13 <| pn c14 <| pk3 <| pb c15 <| pz) rfl
noncomputable def alibiref15_Begun_l6_c : Code := sub (codeOf Try.prog 47) [1, 0, 1, 0, 0, 1, 0, 0, 1, 1, 0, 0]
inductive alibiref15_Begun_l6_R where
  | x0 (v0 : Bool)
  | x1
def alibiref15_Begun_l6_R.ex : alibiref15_Begun_l6_R → Ex
  | .x0 _ => .ret
  | .x1 => .exit 2
noncomputable def alibiref15_Begun_l6_R.st (x0 : List Int) (x1 : Int) (x2 : Int) (x3 : Int) (x4 : List (List api_Node)) (x5 : Int) (x6 : Int) (x7 : Int) : alibiref15_Begun_l6_R → St
  | .x0 v0 => ⟨dead :: .pv (.int .i64 x5) :: .ptr 0 [] 0 0 :: dead :: .pv (.bool v0) :: .pv (.int .i64 x6) :: List.replicate 27 dead, [.box 0 [.pv (.int .i64 x1), .pv (.int .i64 x2), .pv (.int .i64 x3), .pv (.seq (List.length x4) (encP e_62 ([] : List api_Node) x4))]]⟩
  | .x1 => ⟨dead :: .pv (.int .i64 x5) :: .ptr 0 [] 0 0 :: dead :: dead :: .pv (.int .i64 x6) :: List.replicate 27 dead, [.box 0 [.pv (.int .i64 x1), .pv (.int .i64 x2), .pv (.int .i64 x3), .pv (.seq (List.length x4) (encP e_62 ([] : List api_Node) x4))]]⟩
def alibiref15_Begun_l6 (x0 : List Int) (x1 : Int) (x2 : Int) (x3 : Int) (x4 : List (List api_Node)) (x5 : Int) (x6 : Int) (x7 : Int) : Option (alibiref15_Begun_l6_R) :=
  if (decide ((x7 : Int) < ((((List.length x0) : Nat) : Int)))) = true then
    if (decide ((0 : Int) ≤ x7)) = true then
      if (decide ((x7 : Int) < (((List.length x0) : Nat) : Int))) = true then
        if (((List.getD x0 (Int.toNat x7) 0) : Int) == x5) = true then
          some (.x0 true)
        else
          alibiref15_Begun_l6 x0 x1 x2 x3 x4 x5 x6 (iAdd x7 1)
      else none
    else none
  else
    some (.x1)
partial_fixpoint
noncomputable abbrev alibiref15_Begun_l6_s (x0 : List Int) (x1 : Int) (x2 : Int) (x3 : Int) (x4 : List (List api_Node)) (x5 : Int) (x6 : Int) (x7 : Int) : St := ⟨dead :: .pv (.int .i64 x5) :: .ptr 0 [] 0 0 :: dead :: dead :: .pv (.int .i64 x6) :: .ms 1 [] 0 (List.length x0) :: .pv (.int .i64 x7) :: List.replicate 25 dead, [.box 0 [.pv (.int .i64 x1), .pv (.int .i64 x2), .pv (.int .i64 x3), .pv (.seq (List.length x4) (encP e_62 ([] : List api_Node) x4))], .arr 0 1 (List.length x0) (encW o_i64 0 x0)]⟩
theorem alibiref15_Begun_l6_ok (x0 : List Int) (x1 : Int) (x2 : Int) (x3 : Int) (x4 : List (List api_Node)) (x5 : Int) (x6 : Int) (x7 : Int) (r : alibiref15_Begun_l6_R) (h : alibiref15_Begun_l6 x0 x1 x2 x3 x4 x5 x6 x7 = some r) : Loops Try.prog alibiref15_Begun_l6_c 0 (alibiref15_Begun_l6_s x0 x1 x2 x3 x4 x5 x6 x7) r.ex (alibiref15_Begun_l6_R.st x0 x1 x2 x3 x4 x5 x6 x7 r) := by
 refine alibiref15_Begun_l6.partial_correctness x0 x1 x2 x3 x4 x5 x6 (fun x7 r => Loops Try.prog alibiref15_Begun_l6_c 0 (alibiref15_Begun_l6_s x0 x1 x2 x3 x4 x5 x6 x7) r.ex (alibiref15_Begun_l6_R.st x0 x1 x2 x3 x4 x5 x6 x7 r)) ?_ x7 r h
 clear h r x7
 intro self ih x7 r h
 rcases if_of h with ⟨c6, h⟩ | ⟨c6, h⟩
 · obtain ⟨c7, h⟩ := need_of h
   obtain ⟨c8, h⟩ := need_of h
   rcases if_of h with ⟨c9, h⟩ | ⟨c9, h⟩
   · have h := Option.some.inj h; subst h
     exact plast mixed lives 47 (by kernel_rfl) (pk2 <| pb c6 <| pn c7 <| pn c8 <| pk2 <| pb c9 <| pz) rfl
   · exact pmore mixed lives 47 (by kernel_rfl) (pk2 <| pb c6 <| pn c7 <| pn c8 <| pk2 <| pb c9 <| pk <| pz) (ih (iAdd x7 1) _ h)
 · have h := Option.some.inj h; subst h
   exact plast mixed lives 47 (by kernel_rfl) (pk2 <| pb c6 <| pz) rfl
noncomputable def alibiref15_Begun_l2_c : Code := sub (codeOf Try.prog 47) [1, 0, 1, 0, 0]
inductive alibiref15_Begun_l2_R where
  | x0 (v0 : Bool)
  | x1
def alibiref15_Begun_l2_R.ex : alibiref15_Begun_l2_R → Ex
  | .x0 _ => .ret
  | .x1 => .exit 0
noncomputable def alibiref15_Begun_l2_R.st (x0 : Int) (x1 : Int) (x2 : Int) (x3 : List (List api_Node)) (x4 : Int) (x5 : Int) : alibiref15_Begun_l2_R → St
  | .x0 v0 => ⟨(List.replicate 4 dead ++ (.pv (.bool v0) :: List.replicate 28 dead)), []⟩
  | .x1 => ⟨List.replicate 33 dead, []⟩
def alibiref15_Begun_l2 (x0 : Int) (x1 : Int) (x2 : Int) (x3 : List (List api_Node)) (x4 : Int) (x5 : Int) : Option (alibiref15_Begun_l2_R) :=
  if (decide ((x5 : Int) < (((List.length x3 : Nat) : Int)))) = true then
    if (decide ((0 : Int) ≤ x5)) = true then
      if (decide ((x5 : Int) < ((List.length x3 : Nat) : Int))) = true then
        bind (alibiref06_Named (List.getD x3 (Int.toNat x5) (([] : List api_Node))) 5) fun v4 =>
        bind (alibiref15_Begun_l6 v4 x0 x1 x2 x3 x4 x5 0) fun q => match q with
          | .x0 v10 =>
            some (.x0 v10)
          | .x1 =>
            alibiref15_Begun_l2 x0 x1 x2 x3 x4 (iAdd x5 1)
      else none
    else none
  else
    some (.x1)
partial_fixpoint
noncomputable abbrev alibiref15_Begun_l2_s (x0 : Int) (x1 : Int) (x2 : Int) (x3 : List (List api_Node)) (x4 : Int) (x5 : Int) : St := ⟨dead :: .pv (.int .i64 x4) :: .ptr 0 [] 0 0 :: dead :: dead :: .pv (.int .i64 x5) :: List.replicate 27 dead, [.box 0 [.pv (.int .i64 x0), .pv (.int .i64 x1), .pv (.int .i64 x2), .pv (.seq (List.length x3) (encP e_62 ([] : List api_Node) x3))]]⟩
theorem alibiref15_Begun_l2_ok (x0 : Int) (x1 : Int) (x2 : Int) (x3 : List (List api_Node)) (x4 : Int) (x5 : Int) (r : alibiref15_Begun_l2_R) (h : alibiref15_Begun_l2 x0 x1 x2 x3 x4 x5 = some r) : Loops Try.prog alibiref15_Begun_l2_c 0 (alibiref15_Begun_l2_s x0 x1 x2 x3 x4 x5) r.ex (alibiref15_Begun_l2_R.st x0 x1 x2 x3 x4 x5 r) := by
 refine alibiref15_Begun_l2.partial_correctness x0 x1 x2 x3 x4 (fun x5 r => Loops Try.prog alibiref15_Begun_l2_c 0 (alibiref15_Begun_l2_s x0 x1 x2 x3 x4 x5) r.ex (alibiref15_Begun_l2_R.st x0 x1 x2 x3 x4 x5 r)) ?_ x5 r h
 clear h r x5
 intro self ih x5 r h
 rcases if_of h with ⟨c1, h⟩ | ⟨c1, h⟩
 · obtain ⟨c2, h⟩ := need_of h
   obtain ⟨c3, h⟩ := need_of h
   obtain ⟨v4, h5, h⟩ := bind_of h
   obtain ⟨q, hq, h⟩ := bind_of h
   cases q with
   | x0 v10 =>
    have h11 := hq; clear hq
    try dsimp only at h
    have h := Option.some.inj h; subst h
    exact plast mixed lives 47 (by kernel_rfl) (pk3 <| pb c1 <| pk <| pn c2 <| pn c3 <| pk <| pc (alibiref06_Named_ok _ _ _ h5) <| pk <| pl (alibiref15_Begun_l6_ok _ _ _ _ _ _ _ _ _ h11) <| pz) rfl
   | x1 =>
    have h12 := hq; clear hq
    try dsimp only at h
    exact pmore mixed lives 47 (by kernel_rfl) (pk3 <| pb c1 <| pk <| pn c2 <| pn c3 <| pk <| pc (alibiref06_Named_ok _ _ _ h5) <| pk <| pl (alibiref15_Begun_l6_ok _ _ _ _ _ _ _ _ _ h12) <| pk <| pz) (ih (iAdd x5 1) _ h)
 · have h := Option.some.inj h; subst h
   exact plast mixed lives 47 (by kernel_rfl) (pk3 <| pb c1 <| pz) rfl
/-- alibi/alibiref15.Begun -/
def alibiref15_Begun (p : api_Program) (f : Int) : Option (Bool) :=
  bind (alibiref15_Begun_l2 p.globals p.locks p.slots p.funcs f 0) fun q => match q with
    | .x0 v13 =>
      some v13
    | .x1 =>
      some false
theorem alibiref15_Begun_ok (p : api_Program) (f : Int) (r : Bool) (h : alibiref15_Begun p f = some r) : Does Try.prog 47 [.agg [.pv (.int .i64 p.globals), .pv (.int .i64 p.locks), .pv (.int .i64 p.slots), .pv (.seq (List.length p.funcs) (encP e_62 ([] : List api_Node) p.funcs))], .pv (.int .i64 f)] [] (.pv (.bool r), []) := by
 unfold alibiref15_Begun at h
 obtain ⟨q, hq, h⟩ := bind_of h
 cases q with
 | x0 v13 =>
  have h14 := hq; clear hq
  try dsimp only at h
  have h := Option.some.inj h; subst h
  exact pdoes mixed (L := lives) (by kernel_rfl) (pk <| pl (alibiref15_Begun_l2_ok _ _ _ _ _ _ _ h14) <| pz)
 | x1 =>
  have h15 := hq; clear hq
  try dsimp only at h
  have h := Option.some.inj h; subst h
  exact pdoes mixed (L := lives) (by kernel_rfl) (pk <| pl (alibiref15_Begun_l2_ok _ _ _ _ _ _ _ h15) <| pz)
noncomputable def alibiref15_Check_l4_c : Code := sub (codeOf Try.prog 23) [1, 1, 0, 1, 0, 0]
inductive alibiref15_Check_l4_R where
  | x0 (v0 : Int) (v1 : Int) (v2 : Int)
  | x1
def alibiref15_Check_l4_R.ex : alibiref15_Check_l4_R → Ex
  | .x0 _ _ _ => .ret
  | .x1 => .exit 0
noncomputable def alibiref15_Check_l4_R.st (x0 : Int) (x1 : Int) (x2 : Int) (x3 : List (List api_Node)) (x4 : Int) (x5 : Int) (x6 : Int) (x7 : List api_Section) (x8 : Int) : alibiref15_Check_l4_R → St
  | .x0 v0 v1 v2 => ⟨(List.replicate 4 dead ++ (.ptr 0 [] 0 0 :: List.replicate 69 dead)), [.box 0 [.pv (.int .i64 v0), .pv (.int .i64 v1), .pv (.int .i64 v2)]]⟩
  | .x1 => ⟨(List.replicate 4 dead ++ (.ptr 0 [] 0 0 :: List.replicate 69 dead)), [.box 0 [.pv (.int .i64 x4), .pv (.int .i64 x5), .pv (.int .i64 x6)]]⟩
def alibiref15_Check_l4 (x0 : Int) (x1 : Int) (x2 : Int) (x3 : List (List api_Node)) (x4 : Int) (x5 : Int) (x6 : Int) (x7 : List api_Section) (x8 : Int) : Option (alibiref15_Check_l4_R) :=
  if (decide ((x8 : Int) < (((List.length x7 : Nat) : Int)))) = true then
    if ((x8 : Int) == 0) = true then
      if (decide ((0 : Int) ≤ x8)) = true then
        if (decide ((x8 : Int) < ((List.length x7 : Nat) : Int))) = true then
          if (((List.getD x7 (Int.toNat x8) d_api_Section).entry) != (0#32)) = true then
            some (.x0 x8 ((-1)) 2)
          else
            if (decide ((0 : Int) < ((List.length ((List.getD x7 (Int.toNat x8) d_api_Section).held) : Nat) : Int))) = true then
              bind (alibiref03_Within (List.getD ((List.getD x7 (Int.toNat x8) d_api_Section).held) 0 (0#32)) ((List.getD x7 (Int.toNat x8) d_api_Section).entry)) fun v10 =>
              if (!v10) = true then
                some (.x0 x8 ((-1)) 3)
              else
                bind (alibiref15_Check_l11 x0 x1 x2 x3 x4 x5 x6 x7 x8 0) fun q => match q with
                  | .x0 v19 v20 =>
                    some (.x0 x8 v19 v20)
                  | .x1 =>
                    alibiref15_Check_l4 x0 x1 x2 x3 x4 x5 x6 x7 (iAdd x8 1)
            else none
        else none
      else none
    else
      bind (alibiref15_Begun (api_Program.mk x0 x1 x2 x3) x8) fun v23 =>
      if v23 = true then
        if (decide ((0 : Int) ≤ x8)) = true then
          if (decide ((x8 : Int) < ((List.length x7 : Nat) : Int))) = true then
            if (((List.getD x7 (Int.toNat x8) d_api_Section).entry) != (0#32)) = true then
              some (.x0 x8 ((-1)) 2)
            else
              if (decide ((0 : Int) < ((List.length ((List.getD x7 (Int.toNat x8) d_api_Section).held) : Nat) : Int))) = true then
                bind (alibiref03_Within (List.getD ((List.getD x7 (Int.toNat x8) d_api_Section).held) 0 (0#32)) ((List.getD x7 (Int.toNat x8) d_api_Section).entry)) fun v30 =>
                if (!v30) = true then
                  some (.x0 x8 ((-1)) 3)
                else
                  bind (alibiref15_Check_l11 x0 x1 x2 x3 x4 x5 x6 x7 x8 0) fun q => match q with
                    | .x0 v33 v34 =>
                      some (.x0 x8 v33 v34)
                    | .x1 =>
                      alibiref15_Check_l4 x0 x1 x2 x3 x4 x5 x6 x7 (iAdd x8 1)
              else none
          else none
        else none
      else
        if (decide ((0 : Int) ≤ x8)) = true then
          if (decide ((x8 : Int) < ((List.length x7 : Nat) : Int))) = true then
            if (decide ((0 : Int) < ((List.length ((List.getD x7 (Int.toNat x8) d_api_Section).held) : Nat) : Int))) = true then
              bind (alibiref03_Within (List.getD ((List.getD x7 (Int.toNat x8) d_api_Section).held) 0 (0#32)) ((List.getD x7 (Int.toNat x8) d_api_Section).entry)) fun v40 =>
              if (!v40) = true then
                some (.x0 x8 ((-1)) 3)
              else
                bind (alibiref15_Check_l11 x0 x1 x2 x3 x4 x5 x6 x7 x8 0) fun q => match q with
                  | .x0 v43 v44 =>
                    some (.x0 x8 v43 v44)
                  | .x1 =>
                    alibiref15_Check_l4 x0 x1 x2 x3 x4 x5 x6 x7 (iAdd x8 1)
            else none
          else none
        else none
  else
    some (.x1)
partial_fixpoint
noncomputable abbrev alibiref15_Check_l4_s (x0 : Int) (x1 : Int) (x2 : Int) (x3 : List (List api_Node)) (x4 : Int) (x5 : Int) (x6 : Int) (x7 : List api_Section) (x8 : Int) : St := ⟨dead :: .pv (.seq (List.length x7) (encP e_api_Section d_api_Section x7)) :: .ptr 0 [] 0 0 :: dead :: .ptr 1 [] 0 0 :: .pv (.int .i64 x8) :: List.replicate 68 dead, [.box 0 [.pv (.int .i64 x0), .pv (.int .i64 x1), .pv (.int .i64 x2), .pv (.seq (List.length x3) (encP e_62 ([] : List api_Node) x3))], .box 0 [.pv (.int .i64 x4), .pv (.int .i64 x5), .pv (.int .i64 x6)]]⟩
theorem alibiref15_Check_l4_ok (x0 : Int) (x1 : Int) (x2 : Int) (x3 : List (List api_Node)) (x4 : Int) (x5 : Int) (x6 : Int) (x7 : List api_Section) (x8 : Int) (r : alibiref15_Check_l4_R) (h : alibiref15_Check_l4 x0 x1 x2 x3 x4 x5 x6 x7 x8 = some r) : Loops Try.prog alibiref15_Check_l4_c 0 (alibiref15_Check_l4_s x0 x1 x2 x3 x4 x5 x6 x7 x8) r.ex (alibiref15_Check_l4_R.st x0 x1 x2 x3 x4 x5 x6 x7 x8 r) := by
 refine alibiref15_Check_l4.partial_correctness x0 x1 x2 x3 x4 x5 x6 x7 (fun x8 r => Loops Try.prog alibiref15_Check_l4_c 0 (alibiref15_Check_l4_s x0 x1 x2 x3 x4 x5 x6 x7 x8) r.ex (alibiref15_Check_l4_R.st x0 x1 x2 x3 x4 x5 x6 x7 x8 r)) ?_ x8 r h
 clear h r x8
 intro self ih x8 r h
 rcases if_of h with ⟨c4, h⟩ | ⟨c4, h⟩
 · rcases if_of h with ⟨c5, h⟩ | ⟨c5, h⟩
   · obtain ⟨c6, h⟩ := need_of h
     obtain ⟨c7, h⟩ := need_of h
     rcases if_of h with ⟨c8, h⟩ | ⟨c8, h⟩
     · have h := Option.some.inj h; subst h
       exact plast mixed lives 23 (by kernel_rfl) (pk2 <| pb c4 <| pk <| pb c5 <| pk6 <| pn c6 <| pn c7 <| pk4 <| pe (eff_bool (un_neq ((List.getD x7 (Int.toNat x8) d_api_Section).entry) (0#32))) <| pk <| pb c8 <| pk2 <| pz) rfl
     · obtain ⟨c9, h⟩ := need_of h
       obtain ⟨v10, h11, h⟩ := bind_of h
       rcases if_of h with ⟨c12, h⟩ | ⟨c12, h⟩
       · have h := Option.some.inj h; subst h
         exact plast mixed lives 23 (by kernel_rfl) (pk2 <| pb c4 <| pk <| pb c5 <| pk6 <| pn c6 <| pn c7 <| pk4 <| pe (eff_bool (un_neq ((List.getD x7 (Int.toNat x8) d_api_Section).entry) (0#32))) <| pk <| pb c8 <| pn c6 <| pn c7 <| pk <| pn (rfl : (decide ((0 : Int) ≤ 0)) = true) <| pn c9 <| pk <| pn c6 <| pn c7 <| pk <| pc (alibiref03_Within_ok _ _ _ h11) <| pk2 <| pb c12 <| pk2 <| pz) rfl
       · obtain ⟨q, hq, h⟩ := bind_of h
         cases q with
         | x0 v19 v20 =>
          have h21 := hq; clear hq
          try dsimp only at h
          have h := Option.some.inj h; subst h
          exact plast mixed lives 23 (by kernel_rfl) (pk2 <| pb c4 <| pk <| pb c5 <| pk6 <| pn c6 <| pn c7 <| pk4 <| pe (eff_bool (un_neq ((List.getD x7 (Int.toNat x8) d_api_Section).entry) (0#32))) <| pk <| pb c8 <| pn c6 <| pn c7 <| pk <| pn (rfl : (decide ((0 : Int) ≤ 0)) = true) <| pn c9 <| pk <| pn c6 <| pn c7 <| pk <| pc (alibiref03_Within_ok _ _ _ h11) <| pk2 <| pb c12 <| pl (alibiref15_Check_l11_ok _ _ _ _ _ _ _ _ _ _ _ h21) <| pz) rfl
         | x1 =>
          have h22 := hq; clear hq
          try dsimp only at h
          exact pmore mixed lives 23 (by kernel_rfl) (pk2 <| pb c4 <| pk <| pb c5 <| pk6 <| pn c6 <| pn c7 <| pk4 <| pe (eff_bool (un_neq ((List.getD x7 (Int.toNat x8) d_api_Section).entry) (0#32))) <| pk <| pb c8 <| pn c6 <| pn c7 <| pk <| pn (rfl : (decide ((0 : Int) ≤ 0)) = true) <| pn c9 <| pk <| pn c6 <| pn c7 <| pk <| pc (alibiref03_Within_ok _ _ _ h11) <| pk2 <| pb c12 <| pl (alibiref15_Check_l11_ok _ _ _ _ _ _ _ _ _ _ _ h22) <| pk <| pz) (ih (iAdd x8 1) _ h)
   · obtain ⟨v23, h24, h⟩ := bind_of h
     rcases if_of h with ⟨c25, h⟩ | ⟨c25, h⟩
     · obtain ⟨c26, h⟩ := need_of h
       obtain ⟨c27, h⟩ := need_of h
       rcases if_of h with ⟨c28, h⟩ | ⟨c28, h⟩
       · have h := Option.some.inj h; subst h
         exact plast mixed lives 23 (by kernel_rfl) (pk2 <| pb c4 <| pk <| pb c5 <| pk3 <| pc (alibiref15_Begun_ok _ _ _ h24) <| pk2 <| pb c25 <| pk2 <| pn c26 <| pn c27 <| pk4 <| pe (eff_bool (un_neq ((List.getD x7 (Int.toNat x8) d_api_Section).entry) (0#32))) <| pk <| pb c28 <| pk2 <| pz) rfl
       · obtain ⟨c29, h⟩ := need_of h
         obtain ⟨v30, h31, h⟩ := bind_of h
         rcases if_of h with ⟨c32, h⟩ | ⟨c32, h⟩
         · have h := Option.some.inj h; subst h
           exact plast mixed lives 23 (by kernel_rfl) (pk2 <| pb c4 <| pk <| pb c5 <| pk3 <| pc (alibiref15_Begun_ok _ _ _ h24) <| pk2 <| pb c25 <| pk2 <| pn c26 <| pn c27 <| pk4 <| pe (eff_bool (un_neq ((List.getD x7 (Int.toNat x8) d_api_Section).entry) (0#32))) <| pk <| pb c28 <| pn c26 <| pn c27 <| pk <| pn (rfl : (decide ((0 : Int) ≤ 0)) = true) <| pn c29 <| pk <| pn c26 <| pn c27 <| pk <| pc (alibiref03_Within_ok _ _ _ h31) <| pk2 <| pb c32 <| pk2 <| pz) rfl
         · obtain ⟨q, hq, h⟩ := bind_of h
           cases q with
           | x0 v33 v34 =>
            have h35 := hq; clear hq
            try dsimp only at h
            have h := Option.some.inj h; subst h
            exact plast mixed lives 23 (by kernel_rfl) (pk2 <| pb c4 <| pk <| pb c5 <| pk3 <| pc (alibiref15_Begun_ok _ _ _ h24) <| pk2 <| pb c25 <| pk2 <| pn c26 <| pn c27 <| pk4 <| pe (eff_bool (un_neq ((List.getD x7 (Int.toNat x8) d_api_Section).entry) (0#32))) <| pk <| pb c28 <| pn c26 <| pn c27 <| pk <| pn (rfl : (decide ((0 : Int) ≤ 0)) = true) <| pn c29 <| pk <| pn c26 <| pn c27 <| pk <| pc (alibiref03_Within_ok _ _ _ h31) <| pk2 <| pb c32 <| pl (alibiref15_Check_l11_ok _ _ _ _ _ _ _ _ _ _ _ h35) <| pz) rfl
           | x1 =>
            have h36 := hq; clear hq
            try dsimp only at h
            exact pmore mixed lives 23 (by kernel_rfl) (pk2 <| pb c4 <| pk <| pb c5 <| pk3 <| pc (alibiref15_Begun_ok _ _ _ h24) <| pk2 <| pb c25 <| pk2 <| pn c26 <| pn c27 <| pk4 <| pe (eff_bool (un_neq ((List.getD x7 (Int.toNat x8) d_api_Section).entry) (0#32))) <| pk <| pb c28 <| pn c26 <| pn c27 <| pk <| pn (rfl : (decide ((0 : Int) ≤ 0)) = true) <| pn c29 <| pk <| pn c26 <| pn c27 <| pk <| pc (alibiref03_Within_ok _ _ _ h31) <| pk2 <| pb c32 <| pl (alibiref15_Check_l11_ok _ _ _ _ _ _ _ _ _ _ _ h36) <| pk <| pz) (ih (iAdd x8 1) _ h)
     · obtain ⟨c37, h⟩ := need_of h
       obtain ⟨c38, h⟩ := need_of h
       obtain ⟨c39, h⟩ := need_of h
       obtain ⟨v40, h41, h⟩ := bind_of h
       rcases if_of h with ⟨c42, h⟩ | ⟨c42, h⟩
       · have h := Option.some.inj h; subst h
         exact plast mixed lives 23 (by kernel_rfl) (pk2 <| pb c4 <| pk <| pb c5 <| pk3 <| pc (alibiref15_Begun_ok _ _ _ h24) <| pk2 <| pb c25 <| pk7 <| pn c37 <| pn c38 <| pk <| pn (rfl : (decide ((0 : Int) ≤ 0)) = true) <| pn c39 <| pk <| pn c37 <| pn c38 <| pk <| pc (alibiref03_Within_ok _ _ _ h41) <| pk2 <| pb c42 <| pk2 <| pz) rfl
       · obtain ⟨q, hq, h⟩ := bind_of h
         cases q with
         | x0 v43 v44 =>
          have h45 := hq; clear hq
          try dsimp only at h
          have h := Option.some.inj h; subst h
          exact plast mixed lives 23 (by kernel_rfl) (pk2 <| pb c4 <| pk <| pb c5 <| pk3 <| pc (alibiref15_Begun_ok _ _ _ h24) <| pk2 <| pb c25 <| pk7 <| pn c37 <| pn c38 <| pk <| pn (rfl : (decide ((0 : Int) ≤ 0)) = true) <| pn c39 <| pk <| pn c37 <| pn c38 <| pk <| pc (alibiref03_Within_ok _ _ _ h41) <| pk2 <| pb c42 <| pl (alibiref15_Check_l11_ok _ _ _ _ _ _ _ _ _ _ _ h45) <| pz) rfl
         | x1 =>
          have h46 := hq; clear hq
          try dsimp only at h
          exact pmore mixed lives 23 (by kernel_rfl) (pk2 <| pb c4 <| pk <| pb c5 <| pk3 <| pc (alibiref15_Begun_ok _ _ _ h24) <| pk2 <| pb c25 <| pk7 <| pn c37 <| pn c38 <| pk <| pn (rfl : (decide ((0 : Int) ≤ 0)) = true) <| pn c39 <| pk <| pn c37 <| pn c38 <| pk <| pc (alibiref03_Within_ok _ _ _ h41) <| pk2 <| pb c42 <| pl (alibiref15_Check_l11_ok _ _ _ _ _ _ _ _ _ _ _ h46) <| pk <| pz) (ih (iAdd x8 1) _ h)
 · have h := Option.some.inj h; subst h
   exact plast mixed lives 23 (by kernel_rfl) (pk2 <| pb c4 <| pz) rfl
/-- alibi/alibiref15.Check -/
def alibiref15_Check (p : api_Program) (l : List api_Section) : Option (api_Fault) :=
  bind (alibiref15_Shaped p l) fun v1 =>
  if (!v1) = true then
    some (api_Fault.mk ((-1)) ((-1)) 1)
  else
    bind (alibiref15_Check_l4 p.globals p.locks p.slots p.funcs 0 0 0 l 0) fun q => match q with
      | .x0 v47 v48 v49 =>
        some (api_Fault.mk v47 v48 v49)
      | .x1 =>
        some (api_Fault.mk 0 0 0)
theorem alibiref15_Check_ok (p : api_Program) (l : List api_Section) (r : api_Fault) (h : alibiref15_Check p l = some r) : Does Try.prog 23 [.agg [.pv (.int .i64 p.globals), .pv (.int .i64 p.locks), .pv (.int .i64 p.slots), .pv (.seq (List.length p.funcs) (encP e_62 ([] : List api_Node) p.funcs))], .pv (.seq (List.length l) (encP e_api_Section d_api_Section l))] [] (.agg [.pv (.int .i64 r.func), .pv (.int .i64 r.node), .pv (.int .i64 r.what)], []) := by
 unfold alibiref15_Check at h
 obtain ⟨v1, h2, h⟩ := bind_of h
 rcases if_of h with ⟨c3, h⟩ | ⟨c3, h⟩
 · have h := Option.some.inj h; subst h
   exact pdoes mixed (L := lives) (by kernel_rfl) (pk3 <| pc (alibiref15_Shaped_ok _ _ _ h2) <| pk2 <| pb c3 <| pk2 <| pz)
 · obtain ⟨q, hq, h⟩ := bind_of h
   cases q with
   | x0 v47 v48 v49 =>
    have h50 := hq; clear hq
    try dsimp only at h
    have h := Option.some.inj h; subst h
    exact pdoes mixed (L := lives) (by kernel_rfl) (pk3 <| pc (alibiref15_Shaped_ok _ _ _ h2) <| pk2 <| pb c3 <| pl (alibiref15_Check_l4_ok _ _ _ _ _ _ _ _ _ _ h50) <| pz)
   | x1 =>
    have h51 := hq; clear hq
    try dsimp only at h
    have h := Option.some.inj h; subst h
    exact pdoes mixed (L := lives) (by kernel_rfl) (pk3 <| pc (alibiref15_Shaped_ok _ _ _ h2) <| pk2 <| pb c3 <| pl (alibiref15_Check_l4_ok _ _ _ _ _ _ _ _ _ _ h51) <| pk2 <| pz)
noncomputable def alibiref22_Find_l43_c : Code := sub (codeOf Try.prog 13) [1, 1, 1, 1, 1, 1, 0, 1, 0, 0, 1, 0, 0, 1, 1, 1, 1, 0, 1, 1, 1, 1, 1, 1, 1, 0, 1, 1, 1, 1, 0, 0, 1, 0, 0, 1, 0, 1, 0, 0]
def alibiref22_Find_l43 (x0 : List api_Section) (x1 : List Int) (x2 : List Int) (x3 : Int) (x4 : Int) (x5 : Int) (x6 : List (List api_Node)) (x7 : Int) (x8 : Int) (x9 : Int) (x10 : BitVec 32) (x11 : BitVec 32) (x12 : Nat) (x13 : BitVec 32) (x14 : BitVec 32) (x15 : Nat) (x16 : Int) (x17 : Int) (x18 : Int) (x19 : Int) (x20 : Int) (x21 : Int) (x22 : Int) : Option ((List Int)) :=
  if (decide ((x22 : Int) < 32)) = true then
    if (decide ((0 : Int) ≤ x21)) = true then
      if (decide ((x21 : Int) < (((List.length x1) : Nat) : Int))) = true then
        if (decide ((0 : Int) ≤ (List.getD x1 (Int.toNat x21) 0))) = true then
          if (decide (((List.getD x1 (Int.toNat x21) 0) : Int) < (((List.length ((List.getD x0 x12 d_api_Section).held)) : Nat) : Int))) = true then
            bind (alibiref03_Has (List.getD ((List.getD x0 x12 d_api_Section).held) (Int.toNat (List.getD x1 (Int.toNat x21) 0)) (0#32)) x22) fun v49 =>
            if v49 = true then
              if (decide ((0 : Int) ≤ x8)) = true then
                if (decide ((x8 : Int) < (((List.length ((List.getD x0 x12 d_api_Section).held)) : Nat) : Int))) = true then
                  bind (alibiref03_Has (List.getD ((List.getD x0 x12 d_api_Section).held) (Int.toNat x8) (0#32)) x22) fun v54 =>
                  bind (alibiref15_Behind (api_Program.mk x3 x4 x5 x6) x0 (api_Node.mk x16 x17 x18 x19) x22 v54) fun v56 =>
                  if v56 = true then
                    if (Nat.ble ((List.length x2 + List.length ([x22])) * 8) reach) = true then
                      alibiref22_Find_l43 x0 x1 (x2 ++ ([x22])) x3 x4 x5 x6 x7 x8 x9 x10 x11 x12 x13 x14 x15 x16 x17 x18 x19 x20 x21 (iAdd x22 1)
                    else none
                  else
                    alibiref22_Find_l43 x0 x1 x2 x3 x4 x5 x6 x7 x8 x9 x10 x11 x12 x13 x14 x15 x16 x17 x18 x19 x20 x21 (iAdd x22 1)
                else none
              else none
            else
              alibiref22_Find_l43 x0 x1 x2 x3 x4 x5 x6 x7 x8 x9 x10 x11 x12 x13 x14 x15 x16 x17 x18 x19 x20 x21 (iAdd x22 1)
          else none
        else none
      else none
    else none
  else
    some x2
partial_fixpoint
noncomputable abbrev alibiref22_Find_l43_s (x0 : List api_Section) (x1 : List Int) (x2 : List Int) (x3 : Int) (x4 : Int) (x5 : Int) (x6 : List (List api_Node)) (x7 : Int) (x8 : Int) (x9 : Int) (x10 : BitVec 32) (x11 : BitVec 32) (x12 : Nat) (x13 : BitVec 32) (x14 : BitVec 32) (x15 : Nat) (x16 : Int) (x17 : Int) (x18 : Int) (x19 : Int) (x20 : Int) (x21 : Int) (x22 : Int) : St := ⟨dead :: .ptr 0 [] 0 0 :: (List.replicate 4 dead ++ (.ms 1 [] 0 (List.length x0) :: dead :: dead :: dead :: .pv (.int .i64 x20) :: .ptr 2 [] 0 0 :: .ptr 3 [] 0 0 :: dead :: .ptr 4 [] 0 0 :: .ms 5 [] 0 (List.length x1) :: .pv (.int .i64 x21) :: .ms 6 [] 0 (List.length x2) :: .pv (.int .i64 x22) :: List.replicate 193 dead)), [.box 0 [.pv (.int .i64 x3), .pv (.int .i64 x4), .pv (.int .i64 x5), .pv (.seq (List.length x6) (encP e_62 ([] : List api_Node) x6))], .arr 0 6 (List.length x0) (encW o_api_Section d_api_Section x0), .box 0 [.pv (.int .i64 x7), .pv (.int .i64 x8), .pv (.int .i64 x9)], .box 0 [.pv (.int .u32 (BitVec.toNat x10 : Nat)), .pv (.int .u32 (BitVec.toNat x11 : Nat)), .ms 1 [(x12, 2)] 0 (List.length ((List.getD x0 x12 d_api_Section).held)), .pv (.int .u32 (BitVec.toNat x13 : Nat)), .pv (.int .u32 (BitVec.toNat x14 : Nat)), .ms 1 [(x15, 5)] 0 (List.length ((List.getD x0 x15 d_api_Section).live))], .box 0 [.pv (.int .i64 x16), .pv (.int .i64 x17), .pv (.int .i64 x18), .pv (.int .i64 x19)], .arr 0 1 (List.length x1) (encW o_i64 0 x1), .arr 0 1 (List.length x2) (encW o_i64 0 x2)]⟩
noncomputable abbrev alibiref22_Find_l43_e (x0 : List api_Section) (x1 : List Int) (x2 : List Int) (x3 : Int) (x4 : Int) (x5 : Int) (x6 : List (List api_Node)) (x7 : Int) (x8 : Int) (x9 : Int) (x10 : BitVec 32) (x11 : BitVec 32) (x12 : Nat) (x13 : BitVec 32) (x14 : BitVec 32) (x15 : Nat) (x16 : Int) (x17 : Int) (x18 : Int) (x19 : Int) (x20 : Int) (x21 : Int) (x22 : Int) (r : (List Int)) : St := ⟨dead :: .ptr 0 [] 0 0 :: (List.replicate 4 dead ++ (.ms 1 [] 0 (List.length x0) :: dead :: dead :: dead :: .pv (.int .i64 x20) :: .ptr 2 [] 0 0 :: .ptr 3 [] 0 0 :: dead :: .ptr 4 [] 0 0 :: .ms 5 [] 0 (List.length x1) :: .pv (.int .i64 x21) :: .ms 6 [] 0 (List.length r) :: List.replicate 194 dead)), [.box 0 [.pv (.int .i64 x3), .pv (.int .i64 x4), .pv (.int .i64 x5), .pv (.seq (List.length x6) (encP e_62 ([] : List api_Node) x6))], .arr 0 6 (List.length x0) (encW o_api_Section d_api_Section x0), .box 0 [.pv (.int .i64 x7), .pv (.int .i64 x8), .pv (.int .i64 x9)], .box 0 [.pv (.int .u32 (BitVec.toNat x10 : Nat)), .pv (.int .u32 (BitVec.toNat x11 : Nat)), .ms 1 [(x12, 2)] 0 (List.length ((List.getD x0 x12 d_api_Section).held)), .pv (.int .u32 (BitVec.toNat x13 : Nat)), .pv (.int .u32 (BitVec.toNat x14 : Nat)), .ms 1 [(x15, 5)] 0 (List.length ((List.getD x0 x15 d_api_Section).live))], .box 0 [.pv (.int .i64 x16), .pv (.int .i64 x17), .pv (.int .i64 x18), .pv (.int .i64 x19)], .arr 0 1 (List.length x1) (encW o_i64 0 x1), .arr 0 1 (List.length r) (encW o_i64 0 r)]⟩
theorem alibiref22_Find_l43_ok (x0 : List api_Section) (x1 : List Int) (x2 : List Int) (x3 : Int) (x4 : Int) (x5 : Int) (x6 : List (List api_Node)) (x7 : Int) (x8 : Int) (x9 : Int) (x10 : BitVec 32) (x11 : BitVec 32) (x12 : Nat) (x13 : BitVec 32) (x14 : BitVec 32) (x15 : Nat) (x16 : Int) (x17 : Int) (x18 : Int) (x19 : Int) (x20 : Int) (x21 : Int) (x22 : Int) (r : (List Int)) (h : alibiref22_Find_l43 x0 x1 x2 x3 x4 x5 x6 x7 x8 x9 x10 x11 x12 x13 x14 x15 x16 x17 x18 x19 x20 x21 x22 = some r) : Loops Try.prog alibiref22_Find_l43_c 0 (alibiref22_Find_l43_s x0 x1 x2 x3 x4 x5 x6 x7 x8 x9 x10 x11 x12 x13 x14 x15 x16 x17 x18 x19 x20 x21 x22) (.exit 11) (alibiref22_Find_l43_e x0 x1 x2 x3 x4 x5 x6 x7 x8 x9 x10 x11 x12 x13 x14 x15 x16 x17 x18 x19 x20 x21 x22 r) := by
 refine alibiref22_Find_l43.partial_correctness x0 x1 x3 x4 x5 x6 x7 x8 x9 x10 x11 x12 x13 x14 x15 x16 x17 x18 x19 x20 x21 (fun x2 x22 r => Loops Try.prog alibiref22_Find_l43_c 0 (alibiref22_Find_l43_s x0 x1 x2 x3 x4 x5 x6 x7 x8 x9 x10 x11 x12 x13 x14 x15 x16 x17 x18 x19 x20 x21 x22) (.exit 11) (alibiref22_Find_l43_e x0 x1 x2 x3 x4 x5 x6 x7 x8 x9 x10 x11 x12 x13 x14 x15 x16 x17 x18 x19 x20 x21 x22 r)) ?_ x2 x22 r h
 clear h r x2 x22
 intro self ih x2 x22 r h
 rcases if_of h with ⟨c44, h⟩ | ⟨c44, h⟩
 · obtain ⟨c45, h⟩ := need_of h
   obtain ⟨c46, h⟩ := need_of h
   obtain ⟨c47, h⟩ := need_of h
   obtain ⟨c48, h⟩ := need_of h
   obtain ⟨v49, h50, h⟩ := bind_of h
   rcases if_of h with ⟨c51, h⟩ | ⟨c51, h⟩
   · obtain ⟨c52, h⟩ := need_of h
     obtain ⟨c53, h⟩ := need_of h
     obtain ⟨v54, h55, h⟩ := bind_of h
     obtain ⟨v56, h57, h⟩ := bind_of h
     rcases if_of h with ⟨c58, h⟩ | ⟨c58, h⟩
     · obtain ⟨c59, h⟩ := need_of h
       exact pmore mixed lives 13 (by kernel_rfl) (pk <| pb c44 <| pk <| pn c45 <| pn c46 <| pk <| pn c47 <| pn c48 <| pk <| pc (alibiref03_Has_ok _ _ _ h50) <| pk <| pb c51 <| pk8 <| pk4 <| pn c52 <| pn c53 <| pk4 <| pc (alibiref03_Has_ok _ _ _ h55) <| pk2 <| pb (whole_ok (List.length x0)) <| pc (alibiref15_Behind_ok _ _ _ _ _ _ h57) <| pk2 <| pb c58 <| pe (eff_lit o_i64 0 7 1 1 ([x22]) rfl [] []) <| pb (whole_ok (List.length ([x22]))) <| pn c59 <| pe (eff_app o_i64 0 x2 ([x22]) (x2 ++ ([x22])) 6 1 (List.length x2) (List.length ([x22])) (fun i => List.map AV.scal (encW o_i64 0 ([x22]) i)) (encW o_i64 0 x2 (List.length x2)) [] [] [(6, false)] (by first | exact Nat.le_refl _ | exact Nat.zero_le _ | (simp only [decide_eq_true_eq, List.length_set, List.length_append, List.length_replicate, List.length_cons, List.length_nil, Nat.zero_add] at * <;> omega)) rfl (fun _ => by kernel_rfl) (congrArg o_i64 (getD_ge 0 (by first | exact Nat.le_refl _ | exact Nat.zero_le _ | (simp only [decide_eq_true_eq, List.length_set, List.length_append, List.length_replicate, List.length_cons, List.length_nil, Nat.zero_add] at * <;> omega)))) (by rw [List.take_of_length_le (by first | exact Nat.le_refl _ | exact Nat.zero_le _ | (simp only [decide_eq_true_eq, List.length_set, List.length_append, List.length_replicate, List.length_cons, List.length_nil, Nat.zero_add] at * <;> omega))])) <| pk <| pz) (ih (x2 ++ ([x22])) (iAdd x22 1) _ h)
     · exact pmore mixed lives 13 (by kernel_rfl) (pk <| pb c44 <| pk <| pn c45 <| pn c46 <| pk <| pn c47 <| pn c48 <| pk <| pc (alibiref03_Has_ok _ _ _ h50) <| pk <| pb c51 <| pk8 <| pk4 <| pn c52 <| pn c53 <| pk4 <| pc (alibiref03_Has_ok _ _ _ h55) <| pk2 <| pb (whole_ok (List.length x0)) <| pc (alibiref15_Behind_ok _ _ _ _ _ _ h57) <| pk2 <| pb c58 <| pk <| pz) (ih x2 (iAdd x22 1) _ h)
   · exact pmore mixed lives 13 (by kernel_rfl) (pk <| pb c44 <| pk <| pn c45 <| pn c46 <| pk <| pn c47 <| pn c48 <| pk <| pc (alibiref03_Has_ok _ _ _ h50) <| pk <| pb c51 <| pk8 <| pk7 <| pz) (ih x2 (iAdd x22 1) _ h)
 · have h := Option.some.inj h; subst h
   exact plast mixed lives 13 (by kernel_rfl) (pk <| pb c44 <| pz) rfl
noncomputable def alibiref22_Find_l39_c : Code := sub (codeOf Try.prog 13) [1, 1, 1, 1, 1, 1, 0, 1, 0, 0, 1, 0, 0, 1, 1, 1, 1, 0, 1, 1, 1, 1, 1, 1, 1, 0, 1, 1, 1, 1, 0, 0]
def alibiref22_Find_l39 (x0 : List api_Section) (x1 : List Int) (x2 : Int) (x3 : Int) (x4 : Int) (x5 : List (List api_Node)) (x6 : Int) (x7 : Int) (x8 : Int) (x9 : BitVec 32) (x10 : BitVec 32) (x11 : Nat) (x12 : BitVec 32) (x13 : BitVec 32) (x14 : Nat) (x15 : Int) (x16 : Int) (x17 : Int) (x18 : Int) (x19 : Int) (x20 : Int) : Option ((List api_Section)) :=
  if (decide ((x20 : Int) < ((((List.length x1) : Nat) : Int)))) = true then
    bind (alibiref22_Find_l43 x0 x1 (([] : List Int)) x2 x3 x4 x5 x6 x7 x8 x9 x10 x11 x12 x13 x14 x15 x16 x17 x18 x19 x20 0) fun v60 =>
    if (decide ((0 : Int) ≤ x20)) = true then
      if (decide ((x20 : Int) < (((List.length x1) : Nat) : Int))) = true then
        bind (alibiref03_Mask v60) fun v64 =>
        if (decide ((0 : Int) ≤ (List.getD x1 (Int.toNat x20) 0))) = true then
          if (decide (((List.getD x1 (Int.toNat x20) 0) : Int) < (((List.length ((List.getD x0 x11 d_api_Section).held)) : Nat) : Int))) = true then
            if (decide (x11 < List.length x0)) = true then
              if (decide ((List.length ((List.getD (List.set x0 x11 (api_Section.mk ((List.getD x0 x11 d_api_Section).entry) ((List.getD x0 x11 d_api_Section).exit) (List.set ((List.getD x0 x11 d_api_Section).held) (Int.toNat (List.getD x1 (Int.toNat x20) 0)) v64) ((List.getD x0 x11 d_api_Section).liveEntry) ((List.getD x0 x11 d_api_Section).liveExit) ((List.getD x0 x11 d_api_Section).live))) x11 d_api_Section).held) : Nat) = List.length ((List.getD x0 x11 d_api_Section).held))) = true then
                if (decide ((List.length ((List.getD (List.set x0 x11 (api_Section.mk ((List.getD x0 x11 d_api_Section).entry) ((List.getD x0 x11 d_api_Section).exit) (List.set ((List.getD x0 x11 d_api_Section).held) (Int.toNat (List.getD x1 (Int.toNat x20) 0)) v64) ((List.getD x0 x11 d_api_Section).liveEntry) ((List.getD x0 x11 d_api_Section).liveExit) ((List.getD x0 x11 d_api_Section).live))) x14 d_api_Section).live) : Nat) = List.length ((List.getD x0 x14 d_api_Section).live))) = true then
                  alibiref22_Find_l39 (List.set x0 x11 (api_Section.mk ((List.getD x0 x11 d_api_Section).entry) ((List.getD x0 x11 d_api_Section).exit) (List.set ((List.getD x0 x11 d_api_Section).held) (Int.toNat (List.getD x1 (Int.toNat x20) 0)) v64) ((List.getD x0 x11 d_api_Section).liveEntry) ((List.getD x0 x11 d_api_Section).liveExit) ((List.getD x0 x11 d_api_Section).live))) x1 x2 x3 x4 x5 x6 x7 x8 x9 x10 x11 x12 x13 x14 x15 x16 x17 x18 x19 (iAdd x20 1)
                else none
              else none
            else none
          else none
        else none
      else none
    else none
  else
    some x0
partial_fixpoint
noncomputable abbrev alibiref22_Find_l39_s (x0 : List api_Section) (x1 : List Int) (x2 : Int) (x3 : Int) (x4 : Int) (x5 : List (List api_Node)) (x6 : Int) (x7 : Int) (x8 : Int) (x9 : BitVec 32) (x10 : BitVec 32) (x11 : Nat) (x12 : BitVec 32) (x13 : BitVec 32) (x14 : Nat) (x15 : Int) (x16 : Int) (x17 : Int) (x18 : Int) (x19 : Int) (x20 : Int) : St := ⟨dead :: .ptr 0 [] 0 0 :: (List.replicate 4 dead ++ (.ms 1 [] 0 (List.length x0) :: dead :: dead :: dead :: .pv (.int .i64 x19) :: .ptr 2 [] 0 0 :: .ptr 3 [] 0 0 :: dead :: .ptr 4 [] 0 0 :: .ms 5 [] 0 (List.length x1) :: .pv (.int .i64 x20) :: List.replicate 195 dead)), [.box 0 [.pv (.int .i64 x2), .pv (.int .i64 x3), .pv (.int .i64 x4), .pv (.seq (List.length x5) (encP e_62 ([] : List api_Node) x5))], .arr 0 6 (List.length x0) (encW o_api_Section d_api_Section x0), .box 0 [.pv (.int .i64 x6), .pv (.int .i64 x7), .pv (.int .i64 x8)], .box 0 [.pv (.int .u32 (BitVec.toNat x9 : Nat)), .pv (.int .u32 (BitVec.toNat x10 : Nat)), .ms 1 [(x11, 2)] 0 (List.length ((List.getD x0 x11 d_api_Section).held)), .pv (.int .u32 (BitVec.toNat x12 : Nat)), .pv (.int .u32 (BitVec.toNat x13 : Nat)), .ms 1 [(x14, 5)] 0 (List.length ((List.getD x0 x14 d_api_Section).live))], .box 0 [.pv (.int .i64 x15), .pv (.int .i64 x16), .pv (.int .i64 x17), .pv (.int .i64 x18)], .arr 0 1 (List.length x1) (encW o_i64 0 x1)]⟩
noncomputable abbrev alibiref22_Find_l39_e (x0 : List api_Section) (x1 : List Int) (x2 : Int) (x3 : Int) (x4 : Int) (x5 : List (List api_Node)) (x6 : Int) (x7 : Int) (x8 : Int) (x9 : BitVec 32) (x10 : BitVec 32) (x11 : Nat) (x12 : BitVec 32) (x13 : BitVec 32) (x14 : Nat) (x15 : Int) (x16 : Int) (x17 : Int) (x18 : Int) (x19 : Int) (x20 : Int) (r : (List api_Section)) : St := ⟨dead :: .ptr 0 [] 0 0 :: (List.replicate 4 dead ++ (.ms 1 [] 0 (List.length r) :: dead :: dead :: dead :: .pv (.int .i64 x19) :: List.replicate 201 dead)), [.box 0 [.pv (.int .i64 x2), .pv (.int .i64 x3), .pv (.int .i64 x4), .pv (.seq (List.length x5) (encP e_62 ([] : List api_Node) x5))], .arr 0 6 (List.length r) (encW o_api_Section d_api_Section r)]⟩
theorem alibiref22_Find_l39_ok (x0 : List api_Section) (x1 : List Int) (x2 : Int) (x3 : Int) (x4 : Int) (x5 : List (List api_Node)) (x6 : Int) (x7 : Int) (x8 : Int) (x9 : BitVec 32) (x10 : BitVec 32) (x11 : Nat) (x12 : BitVec 32) (x13 : BitVec 32) (x14 : Nat) (x15 : Int) (x16 : Int) (x17 : Int) (x18 : Int) (x19 : Int) (x20 : Int) (r : (List api_Section)) (h : alibiref22_Find_l39 x0 x1 x2 x3 x4 x5 x6 x7 x8 x9 x10 x11 x12 x13 x14 x15 x16 x17 x18 x19 x20 = some r) : Loops Try.prog alibiref22_Find_l39_c 0 (alibiref22_Find_l39_s x0 x1 x2 x3 x4 x5 x6 x7 x8 x9 x10 x11 x12 x13 x14 x15 x16 x17 x18 x19 x20) (.exit 9) (alibiref22_Find_l39_e x0 x1 x2 x3 x4 x5 x6 x7 x8 x9 x10 x11 x12 x13 x14 x15 x16 x17 x18 x19 x20 r) := by
 refine alibiref22_Find_l39.partial_correctness x1 x2 x3 x4 x5 x6 x7 x8 x9 x10 x11 x12 x13 x14 x15 x16 x17 x18 x19 (fun x0 x20 r => Loops Try.prog alibiref22_Find_l39_c 0 (alibiref22_Find_l39_s x0 x1 x2 x3 x4 x5 x6 x7 x8 x9 x10 x11 x12 x13 x14 x15 x16 x17 x18 x19 x20) (.exit 9) (alibiref22_Find_l39_e x0 x1 x2 x3 x4 x5 x6 x7 x8 x9 x10 x11 x12 x13 x14 x15 x16 x17 x18 x19 x20 r)) ?_ x0 x20 r h
 clear h r x0 x20
 intro self ih x0 x20 r h
 rcases if_of h with ⟨c43, h⟩ | ⟨c43, h⟩
 · obtain ⟨v60, h61, h⟩ := bind_of h
   obtain ⟨c62, h⟩ := need_of h
   obtain ⟨c63, h⟩ := need_of h
   obtain ⟨v64, h65, h⟩ := bind_of h
   obtain ⟨c66, h⟩ := need_of h
   obtain ⟨c67, h⟩ := need_of h
   obtain ⟨e68, h⟩ := need_of h; replace e68 := of_decide_eq_true e68
   obtain ⟨e69, h⟩ := need_of h; replace e69 := of_decide_eq_true e69
   obtain ⟨e70, h⟩ := need_of h; replace e70 := of_decide_eq_true e70
   exact pmore mixed lives 13 (by kernel_rfl) (pk2 <| pb c43 <| pl (Loops.of (s1 := ⟨dead :: .ptr 0 [] 0 0 :: (List.replicate 4 dead ++ (.ms 1 [] 0 (List.length x0) :: dead :: dead :: dead :: .pv (.int .i64 x19) :: .ptr 2 [] 0 0 :: .ptr 3 [] 0 0 :: dead :: .ptr 4 [] 0 0 :: .ms 5 [] 0 (List.length x1) :: .pv (.int .i64 x20) :: .ms 6 [] 0 (List.length ([] : List Int)) :: .pv (.int .i64 0) :: List.replicate 193 dead)), [.box 0 [.pv (.int .i64 x2), .pv (.int .i64 x3), .pv (.int .i64 x4), .pv (.seq (List.length x5) (encP e_62 ([] : List api_Node) x5))], .arr 0 6 (List.length x0) (encW o_api_Section d_api_Section x0), .box 0 [.pv (.int .i64 x6), .pv (.int .i64 x7), .pv (.int .i64 x8)], .box 0 [.pv (.int .u32 (BitVec.toNat x9 : Nat)), .pv (.int .u32 (BitVec.toNat x10 : Nat)), .ms 1 [(x11, 2)] 0 (List.length ((List.getD x0 x11 d_api_Section).held)), .pv (.int .u32 (BitVec.toNat x12 : Nat)), .pv (.int .u32 (BitVec.toNat x13 : Nat)), .ms 1 [(x14, 5)] 0 (List.length ((List.getD x0 x14 d_api_Section).live))], .box 0 [.pv (.int .i64 x15), .pv (.int .i64 x16), .pv (.int .i64 x17), .pv (.int .i64 x18)], .arr 0 1 (List.length x1) (encW o_i64 0 x1), .arr 0 1 (List.length ([] : List Int)) (encW o_i64 0 (([] : List Int)))]⟩) (alibiref22_Find_l43_ok _ _ _ _ _ _ _ _ _ _ _ _ _ _ _ _ _ _ _ _ _ _ _ _ h61) (by (first | rfl | (simp only [alibiref22_Find_l43_s, List.length_set]; done)))) <| pk <| pn c62 <| pn c63 <| pk <| pb (whole_ok (List.length v60)) <| pc (alibiref03_Mask_ok _ _ h65) <| pk <| pn c66 <| pn c67 <| pt <| pe (eff_hb (v := dead) (b := 1) (hb := []) (sc := []) (put_in o_api_Section d_api_Section 0 6 (List.length x0) x0 x11 2 o_u32 (0#32) 1 ((List.getD x0 x11 d_api_Section).held) (Int.toNat (List.getD x1 (Int.toNat x20) 0)) 0 [.pv (.int .u32 (BitVec.toNat v64 : Nat))] v64 (api_Section.mk ((List.getD x0 x11 d_api_Section).entry) ((List.getD x0 x11 d_api_Section).exit) (List.set ((List.getD x0 x11 d_api_Section).held) (Int.toNat (List.getD x1 (Int.toNat x20) 0)) v64) ((List.getD x0 x11 d_api_Section).liveEntry) ((List.getD x0 x11 d_api_Section).liveExit) ((List.getD x0 x11 d_api_Section).live)) (by kernel_rfl) (by kernel_rfl) (by kernel_rfl) (by first | exact Nat.le_refl _ | exact Nat.zero_le _ | (simp only [decide_eq_true_eq, List.length_set, List.length_append, List.length_replicate, List.length_cons, List.length_nil, Nat.zero_add] at * <;> omega)) (by first | exact Nat.le_refl _ | exact Nat.zero_le _ | (simp only [decide_eq_true_eq, List.length_set, List.length_append, List.length_replicate, List.length_cons, List.length_nil, Nat.zero_add] at * <;> omega)))) <| pk <| pz) (Loops.of (s1 := ⟨dead :: .ptr 0 [] 0 0 :: (List.replicate 4 dead ++ (.ms 1 [] 0 (List.length x0) :: dead :: dead :: dead :: .pv (.int .i64 x19) :: .ptr 2 [] 0 0 :: .ptr 3 [] 0 0 :: dead :: .ptr 4 [] 0 0 :: .ms 5 [] 0 (List.length x1) :: .pv (.int .i64 (iAdd x20 1)) :: List.replicate 195 dead)), [.box 0 [.pv (.int .i64 x2), .pv (.int .i64 x3), .pv (.int .i64 x4), .pv (.seq (List.length x5) (encP e_62 ([] : List api_Node) x5))], .arr 0 6 (List.length x0) (encW o_api_Section d_api_Section (List.set x0 x11 (api_Section.mk ((List.getD x0 x11 d_api_Section).entry) ((List.getD x0 x11 d_api_Section).exit) (List.set ((List.getD x0 x11 d_api_Section).held) (Int.toNat (List.getD x1 (Int.toNat x20) 0)) v64) ((List.getD x0 x11 d_api_Section).liveEntry) ((List.getD x0 x11 d_api_Section).liveExit) ((List.getD x0 x11 d_api_Section).live)))), .box 0 [.pv (.int .i64 x6), .pv (.int .i64 x7), .pv (.int .i64 x8)], .box 0 [.pv (.int .u32 (BitVec.toNat x9 : Nat)), .pv (.int .u32 (BitVec.toNat x10 : Nat)), .ms 1 [(x11, 2)] 0 (List.length ((List.getD x0 x11 d_api_Section).held)), .pv (.int .u32 (BitVec.toNat x12 : Nat)), .pv (.int .u32 (BitVec.toNat x13 : Nat)), .ms 1 [(x14, 5)] 0 (List.length ((List.getD x0 x14 d_api_Section).live))], .box 0 [.pv (.int .i64 x15), .pv (.int .i64 x16), .pv (.int .i64 x17), .pv (.int .i64 x18)], .arr 0 1 (List.length x1) (encW o_i64 0 x1)]⟩) (ih (List.set x0 x11 (api_Section.mk ((List.getD x0 x11 d_api_Section).entry) ((List.getD x0 x11 d_api_Section).exit) (List.set ((List.getD x0 x11 d_api_Section).held) (Int.toNat (List.getD x1 (Int.toNat x20) 0)) v64) ((List.getD x0 x11 d_api_Section).liveEntry) ((List.getD x0 x11 d_api_Section).liveExit) ((List.getD x0 x11 d_api_Section).live))) (iAdd x20 1) _ h) (by (first | rfl | (simp only [alibiref22_Find_l39_s, List.length_set, e68, e69, e70]; done))))
 · have h := Option.some.inj h; subst h
   exact plast mixed lives 13 (by kernel_rfl) (pk2 <| pb c43 <| pz) rfl
noncomputable def alibiref22_Find_l19_c : Code := sub (codeOf Try.prog 13) [1, 1, 1, 1, 1, 1, 0, 1, 0, 0]
inductive alibiref22_Find_l19_R where
  | x0 (v0 : List api_Section)
  | x1 (v0 : List api_Section)
def alibiref22_Find_l19_R.ex : alibiref22_Find_l19_R → Ex
  | .x0 _ => .ret
  | .x1 _ => .exit 6
noncomputable def alibiref22_Find_l19_R.st (x0 : List api_Section) (x1 : Int) (x2 : Int) (x3 : Int) (x4 : List (List api_Node)) (x5 : Int) : alibiref22_Find_l19_R → St
  | .x0 v0 => ⟨dead :: dead :: .ms 0 [] 0 (List.length v0) :: dead :: dead :: dead :: .ms 0 [] 0 (List.length v0) :: List.replicate 205 dead, [.arr 0 6 (List.length v0) (encW o_api_Section d_api_Section v0)]⟩
  | .x1 v0 => ⟨(List.replicate 6 dead ++ (.ms 0 [] 0 (List.length v0) :: List.replicate 205 dead)), [.arr 0 6 (List.length v0) (encW o_api_Section d_api_Section v0)]⟩
def alibiref22_Find_l19 (x0 : List api_Section) (x1 : Int) (x2 : Int) (x3 : Int) (x4 : List (List api_Node)) (x5 : Int) : Option (alibiref22_Find_l19_R) :=
  if (decide ((x5 : Int) < 200000)) = true then
    bind (alibiref15_Check (api_Program.mk x1 x2 x3 x4) x0) fun v19 =>
    if ((v19.what : Int) == 0) = true then
      some (.x0 x0)
    else
      if (decide ((0 : Int) ≤ v19.func)) = true then
        if (decide ((v19.func : Int) < (((List.length x0) : Nat) : Int))) = true then
          if ((v19.what : Int) == 2) = true then
            alibiref22_Find_l19 (List.set x0 (Int.toNat v19.func) (api_Section.mk (0#32) ((List.getD x0 (Int.toNat v19.func) d_api_Section).exit) ((List.getD x0 (Int.toNat v19.func) d_api_Section).held) ((List.getD x0 (Int.toNat v19.func) d_api_Section).liveEntry) ((List.getD x0 (Int.toNat v19.func) d_api_Section).liveExit) ((List.getD x0 (Int.toNat v19.func) d_api_Section).live))) x1 x2 x3 x4 (iAdd x5 1)
          else
            if ((v19.what : Int) == 5) = true then
              if (decide ((v19.func : Int) < ((List.length x4 : Nat) : Int))) = true then
                if (decide ((0 : Int) ≤ v19.node)) = true then
                  if (decide ((v19.node : Int) < ((List.length (List.getD x4 (Int.toNat v19.func) (([] : List api_Node))) : Nat) : Int))) = true then
                    if (decide ((0 : Int) ≤ ((List.getD (List.getD x4 (Int.toNat v19.func) (([] : List api_Node))) (Int.toNat v19.node) d_api_Node).arg))) = true then
                      if (decide ((((List.getD (List.getD x4 (Int.toNat v19.func) (([] : List api_Node))) (Int.toNat v19.node) d_api_Node).arg) : Int) < (((List.length x0) : Nat) : Int))) = true then
                        if (decide ((v19.node : Int) < (((List.length ((List.getD x0 (Int.toNat v19.func) d_api_Section).held)) : Nat) : Int))) = true then
                          alibiref22_Find_l19 (List.set x0 (Int.toNat ((List.getD (List.getD x4 (Int.toNat v19.func) (([] : List api_Node))) (Int.toNat v19.node) d_api_Node).arg)) (api_Section.mk (((List.getD x0 (Int.toNat ((List.getD (List.getD x4 (Int.toNat v19.func) (([] : List api_Node))) (Int.toNat v19.node) d_api_Node).arg)) d_api_Section).entry) &&& (List.getD ((List.getD x0 (Int.toNat v19.func) d_api_Section).held) (Int.toNat v19.node) (0#32))) ((List.getD x0 (Int.toNat ((List.getD (List.getD x4 (Int.toNat v19.func) (([] : List api_Node))) (Int.toNat v19.node) d_api_Node).arg)) d_api_Section).exit) ((List.getD x0 (Int.toNat ((List.getD (List.getD x4 (Int.toNat v19.func) (([] : List api_Node))) (Int.toNat v19.node) d_api_Node).arg)) d_api_Section).held) ((List.getD x0 (Int.toNat ((List.getD (List.getD x4 (Int.toNat v19.func) (([] : List api_Node))) (Int.toNat v19.node) d_api_Node).arg)) d_api_Section).liveEntry) ((List.getD x0 (Int.toNat ((List.getD (List.getD x4 (Int.toNat v19.func) (([] : List api_Node))) (Int.toNat v19.node) d_api_Node).arg)) d_api_Section).liveExit) ((List.getD x0 (Int.toNat ((List.getD (List.getD x4 (Int.toNat v19.func) (([] : List api_Node))) (Int.toNat v19.node) d_api_Node).arg)) d_api_Section).live))) x1 x2 x3 x4 (iAdd x5 1)
                        else none
                      else none
                    else none
                  else none
                else none
              else none
            else
              if ((v19.what : Int) == 4) = true then
                if (decide ((0 : Int) ≤ v19.node)) = true then
                  if (decide ((v19.node : Int) < (((List.length ((List.getD x0 (Int.toNat v19.func) d_api_Section).held)) : Nat) : Int))) = true then
                    alibiref22_Find_l19 (List.set x0 (Int.toNat v19.func) (api_Section.mk ((List.getD x0 (Int.toNat v19.func) d_api_Section).entry) (((List.getD x0 (Int.toNat v19.func) d_api_Section).exit) &&& (List.getD ((List.getD x0 (Int.toNat v19.func) d_api_Section).held) (Int.toNat v19.node) (0#32))) ((List.getD x0 (Int.toNat v19.func) d_api_Section).held) ((List.getD x0 (Int.toNat v19.func) d_api_Section).liveEntry) ((List.getD x0 (Int.toNat v19.func) d_api_Section).liveExit) ((List.getD x0 (Int.toNat v19.func) d_api_Section).live))) x1 x2 x3 x4 (iAdd x5 1)
                  else none
                else none
              else
                if ((v19.what : Int) == 3) = true then
                  if (decide ((v19.node : Int) < 0)) = true then
                    if (decide ((0 : Int) < (((List.length ((List.getD x0 (Int.toNat v19.func) d_api_Section).held)) : Nat) : Int))) = true then
                      alibiref22_Find_l19 (List.set x0 (Int.toNat v19.func) (api_Section.mk ((List.getD x0 (Int.toNat v19.func) d_api_Section).entry) ((List.getD x0 (Int.toNat v19.func) d_api_Section).exit) (List.set ((List.getD x0 (Int.toNat v19.func) d_api_Section).held) 0 ((List.getD ((List.getD x0 (Int.toNat v19.func) d_api_Section).held) 0 (0#32)) &&& ((List.getD x0 (Int.toNat v19.func) d_api_Section).entry))) ((List.getD x0 (Int.toNat v19.func) d_api_Section).liveEntry) ((List.getD x0 (Int.toNat v19.func) d_api_Section).liveExit) ((List.getD x0 (Int.toNat v19.func) d_api_Section).live))) x1 x2 x3 x4 (iAdd x5 1)
                    else none
                  else
                    if (decide ((v19.func : Int) < ((List.length x4 : Nat) : Int))) = true then
                      if (decide ((0 : Int) ≤ v19.node)) = true then
                        if (decide ((v19.node : Int) < ((List.length (List.getD x4 (Int.toNat v19.func) (([] : List api_Node))) : Nat) : Int))) = true then
                          bind (alibiref05_Succ (List.getD (List.getD x4 (Int.toNat v19.func) (([] : List api_Node))) (Int.toNat v19.node) d_api_Node)) fun v41 =>
                          bind (alibiref22_Find_l39 x0 v41 x1 x2 x3 x4 v19.func v19.node v19.what ((List.getD x0 (Int.toNat v19.func) d_api_Section).entry) ((List.getD x0 (Int.toNat v19.func) d_api_Section).exit) (Int.toNat v19.func) ((List.getD x0 (Int.toNat v19.func) d_api_Section).liveEntry) ((List.getD x0 (Int.toNat v19.func) d_api_Section).liveExit) (Int.toNat v19.func) ((List.getD (List.getD x4 (Int.toNat v19.func) (([] : List api_Node))) (Int.toNat v19.node) d_api_Node).kind) ((List.getD (List.getD x4 (Int.toNat v19.func) (([] : List api_Node))) (Int.toNat v19.node) d_api_Node).arg) ((List.getD (List.getD x4 (Int.toNat v19.func) (([] : List api_Node))) (Int.toNat v19.node) d_api_Node).next) ((List.getD (List.getD x4 (Int.toNat v19.func) (([] : List api_Node))) (Int.toNat v19.node) d_api_Node).alt) x5 0) fun v71 =>
                          alibiref22_Find_l19 v71 x1 x2 x3 x4 (iAdd x5 1)
                        else none
                      else none
                    else none
                else
                  alibiref22_Find_l19 x0 x1 x2 x3 x4 (iAdd x5 1)
        else none
      else none
  else
    some (.x1 x0)
partial_fixpoint
noncomputable abbrev alibiref22_Find_l19_s (x0 : List api_Section) (x1 : Int) (x2 : Int) (x3 : Int) (x4 : List (List api_Node)) (x5 : Int) : St := ⟨dead :: .ptr 0 [] 0 0 :: (List.replicate 4 dead ++ (.ms 1 [] 0 (List.length x0) :: dead :: dead :: dead :: .pv (.int .i64 x5) :: List.replicate 201 dead)), [.box 0 [.pv (.int .i64 x1), .pv (.int .i64 x2), .pv (.int .i64 x3), .pv (.seq (List.length x4) (encP e_62 ([] : List api_Node) x4))], .arr 0 6 (List.length x0) (encW o_api_Section d_api_Section x0)]⟩
theorem alibiref22_Find_l19_ok (x0 : List api_Section) (x1 : Int) (x2 : Int) (x3 : Int) (x4 : List (List api_Node)) (x5 : Int) (r : alibiref22_Find_l19_R) (h : alibiref22_Find_l19 x0 x1 x2 x3 x4 x5 = some r) : Loops Try.prog alibiref22_Find_l19_c 0 (alibiref22_Find_l19_s x0 x1 x2 x3 x4 x5) r.ex (alibiref22_Find_l19_R.st x0 x1 x2 x3 x4 x5 r) := by
 refine alibiref22_Find_l19.partial_correctness x1 x2 x3 x4 (fun x0 x5 r => Loops Try.prog alibiref22_Find_l19_c 0 (alibiref22_Find_l19_s x0 x1 x2 x3 x4 x5) r.ex (alibiref22_Find_l19_R.st x0 x1 x2 x3 x4 x5 r)) ?_ x0 x5 r h
 clear h r x0 x5
 intro self ih x0 x5 r h
 rcases if_of h with ⟨c18, h⟩ | ⟨c18, h⟩
 · obtain ⟨v19, h20, h⟩ := bind_of h
   rcases if_of h with ⟨c21, h⟩ | ⟨c21, h⟩
   · have h := Option.some.inj h; subst h
     exact plast mixed lives 13 (by kernel_rfl) (pk <| pb c18 <| pk <| pb (whole_ok (List.length x0)) <| pc (alibiref15_Check_ok _ _ _ h20) <| pk5 <| pb c21 <| pz) rfl
   · obtain ⟨c22, h⟩ := need_of h
     obtain ⟨c23, h⟩ := need_of h
     rcases if_of h with ⟨c24, h⟩ | ⟨c24, h⟩
     · exact pmore mixed lives 13 (by kernel_rfl) (pk <| pb c18 <| pk <| pb (whole_ok (List.length x0)) <| pc (alibiref15_Check_ok _ _ _ h20) <| pk5 <| pb c21 <| pk <| pn c22 <| pn c23 <| pk5 <| pb c24 <| pk <| pn c22 <| pn c23 <| pt <| pe (eff_hb (v := dead) (b := 1) (hb := []) (sc := []) (put_top o_api_Section d_api_Section 0 6 (List.length x0) x0 (Int.toNat v19.func) 0 [.pv (.int .u32 (BitVec.toNat (0#32) : Nat))] (api_Section.mk (0#32) ((List.getD x0 (Int.toNat v19.func) d_api_Section).exit) ((List.getD x0 (Int.toNat v19.func) d_api_Section).held) ((List.getD x0 (Int.toNat v19.func) d_api_Section).liveEntry) ((List.getD x0 (Int.toNat v19.func) d_api_Section).liveExit) ((List.getD x0 (Int.toNat v19.func) d_api_Section).live)) (by kernel_rfl) (by first | exact Nat.le_refl _ | exact Nat.zero_le _ | (simp only [decide_eq_true_eq, List.length_set, List.length_append, List.length_replicate, List.length_cons, List.length_nil, Nat.zero_add] at * <;> omega)))) <| pk <| pz) (Loops.of (s1 := ⟨dead :: .ptr 0 [] 0 0 :: (List.replicate 4 dead ++ (.ms 1 [] 0 (List.length x0) :: dead :: dead :: dead :: .pv (.int .i64 (iAdd x5 1)) :: List.replicate 201 dead)), [.box 0 [.pv (.int .i64 x1), .pv (.int .i64 x2), .pv (.int .i64 x3), .pv (.seq (List.length x4) (encP e_62 ([] : List api_Node) x4))], .arr 0 6 (List.length x0) (encW o_api_Section d_api_Section (List.set x0 (Int.toNat v19.func) (api_Section.mk (0#32) ((List.getD x0 (Int.toNat v19.func) d_api_Section).exit) ((List.getD x0 (Int.toNat v19.func) d_api_Section).held) ((List.getD x0 (Int.toNat v19.func) d_api_Section).liveEntry) ((List.getD x0 (Int.toNat v19.func) d_api_Section).liveExit) ((List.getD x0 (Int.toNat v19.func) d_api_Section).live))))]⟩) (ih (List.set x0 (Int.toNat v19.func) (api_Section.mk (0#32) ((List.getD x0 (Int.toNat v19.func) d_api_Section).exit) ((List.getD x0 (Int.toNat v19.func) d_api_Section).held) ((List.getD x0 (Int.toNat v19.func) d_api_Section).liveEntry) ((List.getD x0 (Int.toNat v19.func) d_api_Section).liveExit) ((List.getD x0 (Int.toNat v19.func) d_api_Section).live))) (iAdd x5 1) _ h) (by (first | rfl | (simp only [alibiref22_Find_l19_s, List.length_set]; done))))
     · rcases if_of h with ⟨c25, h⟩ | ⟨c25, h⟩
       · obtain ⟨c26, h⟩ := need_of h
         obtain ⟨c27, h⟩ := need_of h
         obtain ⟨c28, h⟩ := need_of h
         obtain ⟨c29, h⟩ := need_of h
         obtain ⟨c30, h⟩ := need_of h
         obtain ⟨c31, h⟩ := need_of h
         exact pmore mixed lives 13 (by kernel_rfl) (pk <| pb c18 <| pk <| pb (whole_ok (List.length x0)) <| pc (alibiref15_Check_ok _ _ _ h20) <| pk5 <| pb c21 <| pk <| pn c22 <| pn c23 <| pk5 <| pb c24 <| pk <| pb c25 <| pk2 <| pn c22 <| pn c26 <| pk2 <| pn c27 <| pn c28 <| pk <| pn c29 <| pn c30 <| pk3 <| pn c27 <| pn c31 <| pk <| pe (eff_int (k := .u32) (un_and .u32 rfl ((List.getD x0 (Int.toNat ((List.getD (List.getD x4 (Int.toNat v19.func) (([] : List api_Node))) (Int.toNat v19.node) d_api_Node).arg)) d_api_Section).entry) (List.getD ((List.getD x0 (Int.toNat v19.func) d_api_Section).held) (Int.toNat v19.node) (0#32)))) <| pn c29 <| pn c30 <| pt <| pe (eff_hb (v := dead) (b := 1) (hb := []) (sc := []) (put_top o_api_Section d_api_Section 0 6 (List.length x0) x0 (Int.toNat ((List.getD (List.getD x4 (Int.toNat v19.func) (([] : List api_Node))) (Int.toNat v19.node) d_api_Node).arg)) 0 [.pv (.int .u32 (BitVec.toNat (((List.getD x0 (Int.toNat ((List.getD (List.getD x4 (Int.toNat v19.func) (([] : List api_Node))) (Int.toNat v19.node) d_api_Node).arg)) d_api_Section).entry) &&& (List.getD ((List.getD x0 (Int.toNat v19.func) d_api_Section).held) (Int.toNat v19.node) (0#32))) : Nat))] (api_Section.mk (((List.getD x0 (Int.toNat ((List.getD (List.getD x4 (Int.toNat v19.func) (([] : List api_Node))) (Int.toNat v19.node) d_api_Node).arg)) d_api_Section).entry) &&& (List.getD ((List.getD x0 (Int.toNat v19.func) d_api_Section).held) (Int.toNat v19.node) (0#32))) ((List.getD x0 (Int.toNat ((List.getD (List.getD x4 (Int.toNat v19.func) (([] : List api_Node))) (Int.toNat v19.node) d_api_Node).arg)) d_api_Section).exit) ((List.getD x0 (Int.toNat ((List.getD (List.getD x4 (Int.toNat v19.func) (([] : List api_Node))) (Int.toNat v19.node) d_api_Node).arg)) d_api_Section).held) ((List.getD x0 (Int.toNat ((List.getD (List.getD x4 (Int.toNat v19.func) (([] : List api_Node))) (Int.toNat v19.node) d_api_Node).arg)) d_api_Section).liveEntry) ((List.getD x0 (Int.toNat ((List.getD (List.getD x4 (Int.toNat v19.func) (([] : List api_Node))) (Int.toNat v19.node) d_api_Node).arg)) d_api_Section).liveExit) ((List.getD x0 (Int.toNat ((List.getD (List.getD x4 (Int.toNat v19.func) (([] : List api_Node))) (Int.toNat v19.node) d_api_Node).arg)) d_api_Section).live)) (by kernel_rfl) (by first | exact Nat.le_refl _ | exact Nat.zero_le _ | (simp only [decide_eq_true_eq, List.length_set, List.length_append, List.length_replicate, List.length_cons, List.length_nil, Nat.zero_add] at * <;> omega)))) <| pk <| pz) (Loops.of (s1 := ⟨dead :: .ptr 0 [] 0 0 :: (List.replicate 4 dead ++ (.ms 1 [] 0 (List.length x0) :: dead :: dead :: dead :: .pv (.int .i64 (iAdd x5 1)) :: List.replicate 201 dead)), [.box 0 [.pv (.int .i64 x1), .pv (.int .i64 x2), .pv (.int .i64 x3), .pv (.seq (List.length x4) (encP e_62 ([] : List api_Node) x4))], .arr 0 6 (List.length x0) (encW o_api_Section d_api_Section (List.set x0 (Int.toNat ((List.getD (List.getD x4 (Int.toNat v19.func) (([] : List api_Node))) (Int.toNat v19.node) d_api_Node).arg)) (api_Section.mk (((List.getD x0 (Int.toNat ((List.getD (List.getD x4 (Int.toNat v19.func) (([] : List api_Node))) (Int.toNat v19.node) d_api_Node).arg)) d_api_Section).entry) &&& (List.getD ((List.getD x0 (Int.toNat v19.func) d_api_Section).held) (Int.toNat v19.node) (0#32))) ((List.getD x0 (Int.toNat ((List.getD (List.getD x4 (Int.toNat v19.func) (([] : List api_Node))) (Int.toNat v19.node) d_api_Node).arg)) d_api_Section).exit) ((List.getD x0 (Int.toNat ((List.getD (List.getD x4 (Int.toNat v19.func) (([] : List api_Node))) (Int.toNat v19.node) d_api_Node).arg)) d_api_Section).held) ((List.getD x0 (Int.toNat ((List.getD (List.getD x4 (Int.toNat v19.func) (([] : List api_Node))) (Int.toNat v19.node) d_api_Node).arg)) d_api_Section).liveEntry) ((List.getD x0 (Int.toNat ((List.getD (List.getD x4 (Int.toNat v19.func) (([] : List api_Node))) (Int.toNat v19.node) d_api_Node).arg)) d_api_Section).liveExit) ((List.getD x0 (Int.toNat ((List.getD (List.getD x4 (Int.toNat v19.func) (([] : List api_Node))) (Int.toNat v19.node) d_api_Node).arg)) d_api_Section).live))))]⟩) (ih (List.set x0 (Int.toNat ((List.getD (List.getD x4 (Int.toNat v19.func) (([] : List api_Node))) (Int.toNat v19.node) d_api_Node).arg)) (api_Section.mk (((List.getD x0 (Int.toNat ((List.getD (List.getD x4 (Int.toNat v19.func) (([] : List api_Node))) (Int.toNat v19.node) d_api_Node).arg)) d_api_Section).entry) &&& (List.getD ((List.getD x0 (Int.toNat v19.func) d_api_Section).held) (Int.toNat v19.node) (0#32))) ((List.getD x0 (Int.toNat ((List.getD (List.getD x4 (Int.toNat v19.func) (([] : List api_Node))) (Int.toNat v19.node) d_api_Node).arg)) d_api_Section).exit) ((List.getD x0 (Int.toNat ((List.getD (List.getD x4 (Int.toNat v19.func) (([] : List api_Node))) (Int.toNat v19.node) d_api_Node).arg)) d_api_Section).held) ((List.getD x0 (Int.toNat ((List.getD (List.getD x4 (Int.toNat v19.func) (([] : List api_Node))) (Int.toNat v19.node) d_api_Node).arg)) d_api_Section).liveEntry) ((List.getD x0 (Int.toNat ((List.getD (List.getD x4 (Int.toNat v19.func) (([] : List api_Node))) (Int.toNat v19.node) d_api_Node).arg)) d_api_Section).liveExit) ((List.getD x0 (Int.toNat ((List.getD (List.getD x4 (Int.toNat v19.func) (([] : List api_Node))) (Int.toNat v19.node) d_api_Node).arg)) d_api_Section).live))) (iAdd x5 1) _ h) (by (first | rfl | (simp only [alibiref22_Find_l19_s, List.length_set]; done))))
       · rcases if_of h with ⟨c32, h⟩ | ⟨c32, h⟩
         · obtain ⟨c33, h⟩ := need_of h
           obtain ⟨c34, h⟩ := need_of h
           exact pmore mixed lives 13 (by kernel_rfl) (pk <| pb c18 <| pk <| pb (whole_ok (List.length x0)) <| pc (alibiref15_Check_ok _ _ _ h20) <| pk5 <| pb c21 <| pk <| pn c22 <| pn c23 <| pk5 <| pb c24 <| pk <| pb c25 <| pk <| pb c32 <| pk4 <| pn c33 <| pn c34 <| pk <| pe (eff_int (k := .u32) (un_and .u32 rfl ((List.getD x0 (Int.toNat v19.func) d_api_Section).exit) (List.getD ((List.getD x0 (Int.toNat v19.func) d_api_Section).held) (Int.toNat v19.node) (0#32)))) <| pn c22 <| pn c23 <| pt <| pe (eff_hb (v := dead) (b := 1) (hb := []) (sc := []) (put_top o_api_Section d_api_Section 0 6 (List.length x0) x0 (Int.toNat v19.func) 1 [.pv (.int .u32 (BitVec.toNat (((List.getD x0 (Int.toNat v19.func) d_api_Section).exit) &&& (List.getD ((List.getD x0 (Int.toNat v19.func) d_api_Section).held) (Int.toNat v19.node) (0#32))) : Nat))] (api_Section.mk ((List.getD x0 (Int.toNat v19.func) d_api_Section).entry) (((List.getD x0 (Int.toNat v19.func) d_api_Section).exit) &&& (List.getD ((List.getD x0 (Int.toNat v19.func) d_api_Section).held) (Int.toNat v19.node) (0#32))) ((List.getD x0 (Int.toNat v19.func) d_api_Section).held) ((List.getD x0 (Int.toNat v19.func) d_api_Section).liveEntry) ((List.getD x0 (Int.toNat v19.func) d_api_Section).liveExit) ((List.getD x0 (Int.toNat v19.func) d_api_Section).live)) (by kernel_rfl) (by first | exact Nat.le_refl _ | exact Nat.zero_le _ | (simp only [decide_eq_true_eq, List.length_set, List.length_append, List.length_replicate, List.length_cons, List.length_nil, Nat.zero_add] at * <;> omega)))) <| pk <| pz) (Loops.of (s1 := ⟨dead :: .ptr 0 [] 0 0 :: (List.replicate 4 dead ++ (.ms 1 [] 0 (List.length x0) :: dead :: dead :: dead :: .pv (.int .i64 (iAdd x5 1)) :: List.replicate 201 dead)), [.box 0 [.pv (.int .i64 x1), .pv (.int .i64 x2), .pv (.int .i64 x3), .pv (.seq (List.length x4) (encP e_62 ([] : List api_Node) x4))], .arr 0 6 (List.length x0) (encW o_api_Section d_api_Section (List.set x0 (Int.toNat v19.func) (api_Section.mk ((List.getD x0 (Int.toNat v19.func) d_api_Section).entry) (((List.getD x0 (Int.toNat v19.func) d_api_Section).exit) &&& (List.getD ((List.getD x0 (Int.toNat v19.func) d_api_Section).held) (Int.toNat v19.node) (0#32))) ((List.getD x0 (Int.toNat v19.func) d_api_Section).held) ((List.getD x0 (Int.toNat v19.func) d_api_Section).liveEntry) ((List.getD x0 (Int.toNat v19.func) d_api_Section).liveExit) ((List.getD x0 (Int.toNat v19.func) d_api_Section).live))))]⟩) (ih (List.set x0 (Int.toNat v19.func) (api_Section.mk ((List.getD x0 (Int.toNat v19.func) d_api_Section).entry) (((List.getD x0 (Int.toNat v19.func) d_api_Section).exit) &&& (List.getD ((List.getD x0 (Int.toNat v19.func) d_api_Section).held) (Int.toNat v19.node) (0#32))) ((List.getD x0 (Int.toNat v19.func) d_api_Section).held) ((List.getD x0 (Int.toNat v19.func) d_api_Section).liveEntry) ((List.getD x0 (Int.toNat v19.func) d_api_Section).liveExit) ((List.getD x0 (Int.toNat v19.func) d_api_Section).live))) (iAdd x5 1) _ h) (by (first | rfl | (simp only [alibiref22_Find_l19_s, List.length_set]; done))))
         · rcases if_of h with ⟨c35, h⟩ | ⟨c35, h⟩
           · rcases if_of h with ⟨c36, h⟩ | ⟨c36, h⟩
             · obtain ⟨c37, h⟩ := need_of h
               exact pmore mixed lives 13 (by kernel_rfl) (pk <| pb c18 <| pk <| pb (whole_ok (List.length x0)) <| pc (alibiref15_Check_ok _ _ _ h20) <| pk5 <| pb c21 <| pk <| pn c22 <| pn c23 <| pk5 <| pb c24 <| pk <| pb c25 <| pk <| pb c32 <| pk <| pb c35 <| pk2 <| pb c36 <| pk2 <| pn (rfl : (decide ((0 : Int) ≤ 0)) = true) <| pn c37 <| pk2 <| pe (eff_int (k := .u32) (un_and .u32 rfl (List.getD ((List.getD x0 (Int.toNat v19.func) d_api_Section).held) 0 (0#32)) ((List.getD x0 (Int.toNat v19.func) d_api_Section).entry))) <| pn (rfl : (decide ((0 : Int) ≤ 0)) = true) <| pn c37 <| pt <| pe (eff_hb (v := dead) (b := 1) (hb := []) (sc := []) (put_in o_api_Section d_api_Section 0 6 (List.length x0) x0 (Int.toNat v19.func) 2 o_u32 (0#32) 1 ((List.getD x0 (Int.toNat v19.func) d_api_Section).held) 0 0 [.pv (.int .u32 (BitVec.toNat ((List.getD ((List.getD x0 (Int.toNat v19.func) d_api_Section).held) 0 (0#32)) &&& ((List.getD x0 (Int.toNat v19.func) d_api_Section).entry)) : Nat))] ((List.getD ((List.getD x0 (Int.toNat v19.func) d_api_Section).held) 0 (0#32)) &&& ((List.getD x0 (Int.toNat v19.func) d_api_Section).entry)) (api_Section.mk ((List.getD x0 (Int.toNat v19.func) d_api_Section).entry) ((List.getD x0 (Int.toNat v19.func) d_api_Section).exit) (List.set ((List.getD x0 (Int.toNat v19.func) d_api_Section).held) 0 ((List.getD ((List.getD x0 (Int.toNat v19.func) d_api_Section).held) 0 (0#32)) &&& ((List.getD x0 (Int.toNat v19.func) d_api_Section).entry))) ((List.getD x0 (Int.toNat v19.func) d_api_Section).liveEntry) ((List.getD x0 (Int.toNat v19.func) d_api_Section).liveExit) ((List.getD x0 (Int.toNat v19.func) d_api_Section).live)) (by kernel_rfl) (by kernel_rfl) (by kernel_rfl) (by first | exact Nat.le_refl _ | exact Nat.zero_le _ | (simp only [decide_eq_true_eq, List.length_set, List.length_append, List.length_replicate, List.length_cons, List.length_nil, Nat.zero_add] at * <;> omega)) (by first | exact Nat.le_refl _ | exact Nat.zero_le _ | (simp only [decide_eq_true_eq, List.length_set, List.length_append, List.length_replicate, List.length_cons, List.length_nil, Nat.zero_add] at * <;> omega)))) <| pk <| pz) (Loops.of (s1 := ⟨dead :: .ptr 0 [] 0 0 :: (List.replicate 4 dead ++ (.ms 1 [] 0 (List.length x0) :: dead :: dead :: dead :: .pv (.int .i64 (iAdd x5 1)) :: List.replicate 201 dead)), [.box 0 [.pv (.int .i64 x1), .pv (.int .i64 x2), .pv (.int .i64 x3), .pv (.seq (List.length x4) (encP e_62 ([] : List api_Node) x4))], .arr 0 6 (List.length x0) (encW o_api_Section d_api_Section (List.set x0 (Int.toNat v19.func) (api_Section.mk ((List.getD x0 (Int.toNat v19.func) d_api_Section).entry) ((List.getD x0 (Int.toNat v19.func) d_api_Section).exit) (List.set ((List.getD x0 (Int.toNat v19.func) d_api_Section).held) 0 ((List.getD ((List.getD x0 (Int.toNat v19.func) d_api_Section).held) 0 (0#32)) &&& ((List.getD x0 (Int.toNat v19.func) d_api_Section).entry))) ((List.getD x0 (Int.toNat v19.func) d_api_Section).liveEntry) ((List.getD x0 (Int.toNat v19.func) d_api_Section).liveExit) ((List.getD x0 (Int.toNat v19.func) d_api_Section).live))))]⟩) (ih (List.set x0 (Int.toNat v19.func) (api_Section.mk ((List.getD x0 (Int.toNat v19.func) d_api_Section).entry) ((List.getD x0 (Int.toNat v19.func) d_api_Section).exit) (List.set ((List.getD x0 (Int.toNat v19.func) d_api_Section).held) 0 ((List.getD ((List.getD x0 (Int.toNat v19.func) d_api_Section).held) 0 (0#32)) &&& ((List.getD x0 (Int.toNat v19.func) d_api_Section).entry))) ((List.getD x0 (Int.toNat v19.func) d_api_Section).liveEntry) ((List.getD x0 (Int.toNat v19.func) d_api_Section).liveExit) ((List.getD x0 (Int.toNat v19.func) d_api_Section).live))) (iAdd x5 1) _ h) (by (first | rfl | (simp only [alibiref22_Find_l19_s, List.length_set]; done))))
             · obtain ⟨c38, h⟩ := need_of h
               obtain ⟨c39, h⟩ := need_of h
               obtain ⟨c40, h⟩ := need_of h
               obtain ⟨v41, h42, h⟩ := bind_of h
               obtain ⟨v71, h72, h⟩ := bind_of h
               exact pmore mixed lives 13 (by kernel_rfl) (pk <| pb c18 <| pk <| pb (whole_ok (List.length x0)) <| pc (alibiref15_Check_ok _ _ _ h20) <| pk5 <| pb c21 <| pk <| pn c22 <| pn c23 <| pk5 <| pb c24 <| pk <| pb c25 <| pk <| pb c32 <| pk <| pb c35 <| pk2 <| pb c36 <| pk2 <| pn c22 <| pn c38 <| pk2 <| pn c39 <| pn c40 <| pk4 <| pc (alibiref05_Succ_ok _ _ h42) <| pk <| pl (alibiref22_Find_l39_ok _ _ _ _ _ _ _ _ _ _ _ _ _ _ _ _ _ _ _ _ _ _ h72) <| pk <| pz) (ih v71 (iAdd x5 1) _ h)
           · exact pmore mixed lives 13 (by kernel_rfl) (pk <| pb c18 <| pk <| pb (whole_ok (List.length x0)) <| pc (alibiref15_Check_ok _ _ _ h20) <| pk5 <| pb c21 <| pk <| pn c22 <| pn c23 <| pk5 <| pb c24 <| pk <| pb c25 <| pk <| pb c32 <| pk <| pb c35 <| pk <| pz) (ih x0 (iAdd x5 1) _ h)
 · have h := Option.some.inj h; subst h
   exact plast mixed lives 13 (by kernel_rfl) (pk <| pb c18 <| pz) rfl
/-- alibi/alibiref22.Find -/
def alibiref22_Find (p : api_Program) : Option ((List api_Section)) :=
  bind (alibiref22_Find_l3 (([] : List Int)) p.globals p.locks p.slots p.funcs 0) fun v3 =>
  bind (alibiref03_Mask v3) fun v5 =>
  bind (alibiref22_Find_l9 (([] : List api_Section)) p.globals p.locks p.slots p.funcs v5 0) fun v16 =>
  bind (alibiref22_Find_l19 v16 p.globals p.locks p.slots p.funcs 0) fun q => match q with
    | .x0 v73 =>
      some v73
    | .x1 v75 =>
      some v75
theorem alibiref22_Find_ok (p : api_Program) (r : (List api_Section)) (h : alibiref22_Find p = some r) : Does Try.prog 13 [.agg [.pv (.int .i64 p.globals), .pv (.int .i64 p.locks), .pv (.int .i64 p.slots), .pv (.seq (List.length p.funcs) (encP e_62 ([] : List api_Node) p.funcs))]] [] (.ms 0 [] 0 (List.length r), [.arr 0 6 (List.length r) (encW o_api_Section d_api_Section r)]) := by
 unfold alibiref22_Find at h
 obtain ⟨v3, h4, h⟩ := bind_of h
 obtain ⟨v5, h6, h⟩ := bind_of h
 obtain ⟨v16, h17, h⟩ := bind_of h
 obtain ⟨q, hq, h⟩ := bind_of h
 cases q with
 | x0 v73 =>
  have h74 := hq; clear hq
  try dsimp only at h
  have h := Option.some.inj h; subst h
  exact pdoes mixed (L := lives) (by kernel_rfl) (pk <| pl (Loops.of (s1 := ⟨dead :: .ptr 0 [] 0 0 :: dead :: .ms 1 [] 0 (List.length ([] : List Int)) :: .pv (.int .i64 0) :: List.replicate 207 dead, [.box 0 [.pv (.int .i64 p.globals), .pv (.int .i64 p.locks), .pv (.int .i64 p.slots), .pv (.seq (List.length p.funcs) (encP e_62 ([] : List api_Node) p.funcs))], .arr 0 1 (List.length ([] : List Int)) (encW o_i64 0 (([] : List Int)))]⟩) (alibiref22_Find_l3_ok _ _ _ _ _ _ _ h4) (by (first | rfl | (simp only [alibiref22_Find_l3_s, List.length_set]; done)))) <| pb (whole_ok (List.length v3)) <| pc (alibiref03_Mask_ok _ _ h6) <| pk <| pl (Loops.of (s1 := ⟨dead :: .ptr 0 [] 0 0 :: dead :: dead :: dead :: .pv (.int .u32 (BitVec.toNat v5 : Nat)) :: .ms 1 [] 0 (List.length ([] : List api_Section)) :: .pv (.int .i64 0) :: List.replicate 204 dead, [.box 0 [.pv (.int .i64 p.globals), .pv (.int .i64 p.locks), .pv (.int .i64 p.slots), .pv (.seq (List.length p.funcs) (encP e_62 ([] : List api_Node) p.funcs))], .arr 0 6 (List.length ([] : List api_Section)) (encW o_api_Section d_api_Section (([] : List api_Section)))]⟩) (alibiref22_Find_l9_ok _ _ _ _ _ _ _ _ h17) (by (first | rfl | (simp only [alibiref22_Find_l9_s, List.length_set]; done)))) <| pl (alibiref22_Find_l19_ok _ _ _ _ _ _ _ h74) <| pz)
 | x1 v75 =>
  have h76 := hq; clear hq
  try dsimp only at h
  have h := Option.some.inj h; subst h
  exact pdoes mixed (L := lives) (by kernel_rfl) (pk <| pl (Loops.of (s1 := ⟨dead :: .ptr 0 [] 0 0 :: dead :: .ms 1 [] 0 (List.length ([] : List Int)) :: .pv (.int .i64 0) :: List.replicate 207 dead, [.box 0 [.pv (.int .i64 p.globals), .pv (.int .i64 p.locks), .pv (.int .i64 p.slots), .pv (.seq (List.length p.funcs) (encP e_62 ([] : List api_Node) p.funcs))], .arr 0 1 (List.length ([] : List Int)) (encW o_i64 0 (([] : List Int)))]⟩) (alibiref22_Find_l3_ok _ _ _ _ _ _ _ h4) (by (first | rfl | (simp only [alibiref22_Find_l3_s, List.length_set]; done)))) <| pb (whole_ok (List.length v3)) <| pc (alibiref03_Mask_ok _ _ h6) <| pk <| pl (Loops.of (s1 := ⟨dead :: .ptr 0 [] 0 0 :: dead :: dead :: dead :: .pv (.int .u32 (BitVec.toNat v5 : Nat)) :: .ms 1 [] 0 (List.length ([] : List api_Section)) :: .pv (.int .i64 0) :: List.replicate 204 dead, [.box 0 [.pv (.int .i64 p.globals), .pv (.int .i64 p.locks), .pv (.int .i64 p.slots), .pv (.seq (List.length p.funcs) (encP e_62 ([] : List api_Node) p.funcs))], .arr 0 6 (List.length ([] : List api_Section)) (encW o_api_Section d_api_Section (([] : List api_Section)))]⟩) (alibiref22_Find_l9_ok _ _ _ _ _ _ _ _ h17) (by (first | rfl | (simp only [alibiref22_Find_l9_s, List.length_set]; done)))) <| pl (alibiref22_Find_l19_ok _ _ _ _ _ _ _ h76) <| pz)
noncomputable def alibilaw22_HoldFinds_l16_c : Code := sub (codeOf Try.prog 3) [1, 1, 1, 1, 1, 1, 0, 1, 0, 0, 1, 0, 0, 1, 1, 0, 0]
inductive alibilaw22_HoldFinds_l16_R where
  | x0 (v0 : Bool)
  | x1
def alibilaw22_HoldFinds_l16_R.ex : alibilaw22_HoldFinds_l16_R → Ex
  | .x0 _ => .ret
  | .x1 => .exit 2
noncomputable def alibilaw22_HoldFinds_l16_R.st (x0 : List api_Section) (x1 : List api_Section) (x2 : Int) (x3 : Int) : alibilaw22_HoldFinds_l16_R → St
  | .x0 v0 => ⟨dead :: dead :: .pv (.bool v0) :: .ms 0 [] 0 (List.length x0) :: (List.replicate 4 dead ++ (.ms 1 [] 0 (List.length x1) :: .pv (.int .i64 x2) :: List.replicate 155 dead)), [.arr 0 6 (List.length x0) (encW o_api_Section d_api_Section x0), .arr 0 6 (List.length x1) (encW o_api_Section d_api_Section x1)]⟩
  | .x1 => ⟨dead :: dead :: dead :: .ms 0 [] 0 (List.length x0) :: (List.replicate 4 dead ++ (.ms 1 [] 0 (List.length x1) :: .pv (.int .i64 x2) :: List.replicate 155 dead)), [.arr 0 6 (List.length x0) (encW o_api_Section d_api_Section x0), .arr 0 6 (List.length x1) (encW o_api_Section d_api_Section x1)]⟩
def alibilaw22_HoldFinds_l16 (x0 : List api_Section) (x1 : List api_Section) (x2 : Int) (x3 : Int) : Option (alibilaw22_HoldFinds_l16_R) :=
  if (decide ((0 : Int) ≤ x2)) = true then
    if (decide ((x2 : Int) < (((List.length x1) : Nat) : Int))) = true then
      if (decide ((x3 : Int) < ((((List.length ((List.getD x1 (Int.toNat x2) d_api_Section).held)) : Nat) : Int)))) = true then
        if (decide ((x2 : Int) < (((List.length x0) : Nat) : Int))) = true then
          if (decide ((0 : Int) ≤ x3)) = true then
            if (decide ((x3 : Int) < (((List.length ((List.getD x0 (Int.toNat x2) d_api_Section).held)) : Nat) : Int))) = true then
              if (decide ((x3 : Int) < (((List.length ((List.getD x1 (Int.toNat x2) d_api_Section).held)) : Nat) : Int))) = true then
                if ((List.getD ((List.getD x0 (Int.toNat x2) d_api_Section).held) (Int.toNat x3) (0#32)) != (List.getD ((List.getD x1 (Int.toNat x2) d_api_Section).held) (Int.toNat x3) (0#32))) = true then
                  some (.x0 false)
                else
                  if (decide ((x3 : Int) < (((List.length ((List.getD x0 (Int.toNat x2) d_api_Section).live)) : Nat) : Int))) = true then
                    if ((List.getD ((List.getD x0 (Int.toNat x2) d_api_Section).live) (Int.toNat x3) (0#32)) != (0#32)) = true then
                      some (.x0 false)
                    else
                      alibilaw22_HoldFinds_l16 x0 x1 x2 (iAdd x3 1)
                  else none
              else none
            else none
          else none
        else none
      else
        some (.x1)
    else none
  else none
partial_fixpoint
noncomputable abbrev alibilaw22_HoldFinds_l16_s (x0 : List api_Section) (x1 : List api_Section) (x2 : Int) (x3 : Int) : St := ⟨dead :: dead :: dead :: .ms 0 [] 0 (List.length x0) :: (List.replicate 4 dead ++ (.ms 1 [] 0 (List.length x1) :: .pv (.int .i64 x2) :: .pv (.int .i64 x3) :: List.replicate 154 dead)), [.arr 0 6 (List.length x0) (encW o_api_Section d_api_Section x0), .arr 0 6 (List.length x1) (encW o_api_Section d_api_Section x1)]⟩
theorem alibilaw22_HoldFinds_l16_ok (x0 : List api_Section) (x1 : List api_Section) (x2 : Int) (x3 : Int) (r : alibilaw22_HoldFinds_l16_R) (h : alibilaw22_HoldFinds_l16 x0 x1 x2 x3 = some r) : Loops Try.prog alibilaw22_HoldFinds_l16_c 0 (alibilaw22_HoldFinds_l16_s x0 x1 x2 x3) r.ex (alibilaw22_HoldFinds_l16_R.st x0 x1 x2 x3 r) := by
 refine alibilaw22_HoldFinds_l16.partial_correctness x0 x1 x2 (fun x3 r => Loops Try.prog alibilaw22_HoldFinds_l16_c 0 (alibilaw22_HoldFinds_l16_s x0 x1 x2 x3) r.ex (alibilaw22_HoldFinds_l16_R.st x0 x1 x2 x3 r)) ?_ x3 r h
 clear h r x3
 intro self ih x3 r h
 obtain ⟨c31, h⟩ := need_of h
 obtain ⟨c32, h⟩ := need_of h
 rcases if_of h with ⟨c33, h⟩ | ⟨c33, h⟩
 · obtain ⟨c34, h⟩ := need_of h
   obtain ⟨c35, h⟩ := need_of h
   obtain ⟨c36, h⟩ := need_of h
   obtain ⟨c37, h⟩ := need_of h
   rcases if_of h with ⟨c38, h⟩ | ⟨c38, h⟩
   · have h := Option.some.inj h; subst h
     exact plast mixed lives 3 (by kernel_rfl) (pn c31 <| pn c32 <| pk3 <| pb c33 <| pn c31 <| pn c34 <| pk <| pn c35 <| pn c36 <| pk <| pn c31 <| pn c32 <| pk <| pn c35 <| pn c37 <| pk <| pe (eff_bool (un_neq (List.getD ((List.getD x0 (Int.toNat x2) d_api_Section).held) (Int.toNat x3) (0#32)) (List.getD ((List.getD x1 (Int.toNat x2) d_api_Section).held) (Int.toNat x3) (0#32)))) <| pb c38 <| pk8 <| pk2 <| pz) rfl
   · obtain ⟨c39, h⟩ := need_of h
     rcases if_of h with ⟨c40, h⟩ | ⟨c40, h⟩
     · have h := Option.some.inj h; subst h
       exact plast mixed lives 3 (by kernel_rfl) (pn c31 <| pn c32 <| pk3 <| pb c33 <| pn c31 <| pn c34 <| pk <| pn c35 <| pn c36 <| pk <| pn c31 <| pn c32 <| pk <| pn c35 <| pn c37 <| pk <| pe (eff_bool (un_neq (List.getD ((List.getD x0 (Int.toNat x2) d_api_Section).held) (Int.toNat x3) (0#32)) (List.getD ((List.getD x1 (Int.toNat x2) d_api_Section).held) (Int.toNat x3) (0#32)))) <| pb c38 <| pk2 <| pn c31 <| pn c34 <| pk5 <| pn c35 <| pn c39 <| pk3 <| pe (eff_bool (un_neq (List.getD ((List.getD x0 (Int.toNat x2) d_api_Section).live) (Int.toNat x3) (0#32)) (0#32))) <| pk <| pb c40 <| pz) rfl
     · exact pmore mixed lives 3 (by kernel_rfl) (pn c31 <| pn c32 <| pk3 <| pb c33 <| pn c31 <| pn c34 <| pk <| pn c35 <| pn c36 <| pk <| pn c31 <| pn c32 <| pk <| pn c35 <| pn c37 <| pk <| pe (eff_bool (un_neq (List.getD ((List.getD x0 (Int.toNat x2) d_api_Section).held) (Int.toNat x3) (0#32)) (List.getD ((List.getD x1 (Int.toNat x2) d_api_Section).held) (Int.toNat x3) (0#32)))) <| pb c38 <| pk2 <| pn c31 <| pn c34 <| pk5 <| pn c35 <| pn c39 <| pk3 <| pe (eff_bool (un_neq (List.getD ((List.getD x0 (Int.toNat x2) d_api_Section).live) (Int.toNat x3) (0#32)) (0#32))) <| pk <| pb c40 <| pk <| pz) (ih (iAdd x3 1) _ h)
 · have h := Option.some.inj h; subst h
   exact plast mixed lives 3 (by kernel_rfl) (pn c31 <| pn c32 <| pk3 <| pb c33 <| pz) rfl
noncomputable def alibilaw22_HoldFinds_l11_c : Code := sub (codeOf Try.prog 3) [1, 1, 1, 1, 1, 1, 0, 1, 0, 0]
inductive alibilaw22_HoldFinds_l11_R where
  | x0 (v0 : Bool)
  | x1
def alibilaw22_HoldFinds_l11_R.ex : alibilaw22_HoldFinds_l11_R → Ex
  | .x0 _ => .ret
  | .x1 => .exit 0
noncomputable def alibilaw22_HoldFinds_l11_R.st (x0 : List api_Section) (x1 : List api_Section) (x2 : Int) : alibilaw22_HoldFinds_l11_R → St
  | .x0 v0 => ⟨dead :: dead :: .pv (.bool v0) :: List.replicate 162 dead, []⟩
  | .x1 => ⟨List.replicate 165 dead, []⟩
def alibilaw22_HoldFinds_l11 (x0 : List api_Section) (x1 : List api_Section) (x2 : Int) : Option (alibilaw22_HoldFinds_l11_R) :=
  if (decide ((x2 : Int) < ((((List.length x0) : Nat) : Int)))) = true then
    if (decide ((0 : Int) ≤ x2)) = true then
      if (decide ((x2 : Int) < (((List.length x0) : Nat) : Int))) = true then
        if (decide ((x2 : Int) < (((List.length x1) : Nat) : Int))) = true then
          if (((List.getD x0 (Int.toNat x2) d_api_Section).entry) != ((List.getD x1 (Int.toNat x2) d_api_Section).entry)) = true then
            some (.x0 false)
          else
            if (((List.getD x0 (Int.toNat x2) d_api_Section).exit) != ((List.getD x1 (Int.toNat x2) d_api_Section).exit)) = true then
              some (.x0 false)
            else
              if (((List.getD x0 (Int.toNat x2) d_api_Section).liveEntry) != (0#32)) = true then
                some (.x0 false)
              else
                if (((List.getD x0 (Int.toNat x2) d_api_Section).liveExit) != (0#32)) = true then
                  some (.x0 false)
                else
                  if ((((((List.length ((List.getD x0 (Int.toNat x2) d_api_Section).held)) : Nat) : Int)) : Int) != ((((List.length ((List.getD x1 (Int.toNat x2) d_api_Section).held)) : Nat) : Int))) = true then
                    some (.x0 false)
                  else
                    if ((((((List.length ((List.getD x0 (Int.toNat x2) d_api_Section).live)) : Nat) : Int)) : Int) != ((((List.length ((List.getD x1 (Int.toNat x2) d_api_Section).live)) : Nat) : Int))) = true then
                      some (.x0 false)
                    else
                      bind (alibilaw22_HoldFinds_l16 x0 x1 x2 0) fun q => match q with
                        | .x0 v41 =>
                          some (.x0 v41)
                        | .x1 =>
                          alibilaw22_HoldFinds_l11 x0 x1 (iAdd x2 1)
        else none
      else none
    else none
  else
    some (.x1)
partial_fixpoint
noncomputable abbrev alibilaw22_HoldFinds_l11_s (x0 : List api_Section) (x1 : List api_Section) (x2 : Int) : St := ⟨dead :: dead :: dead :: .ms 0 [] 0 (List.length x0) :: (List.replicate 4 dead ++ (.ms 1 [] 0 (List.length x1) :: .pv (.int .i64 x2) :: List.replicate 155 dead)), [.arr 0 6 (List.length x0) (encW o_api_Section d_api_Section x0), .arr 0 6 (List.length x1) (encW o_api_Section d_api_Section x1)]⟩
theorem alibilaw22_HoldFinds_l11_ok (x0 : List api_Section) (x1 : List api_Section) (x2 : Int) (r : alibilaw22_HoldFinds_l11_R) (h : alibilaw22_HoldFinds_l11 x0 x1 x2 = some r) : Loops Try.prog alibilaw22_HoldFinds_l11_c 0 (alibilaw22_HoldFinds_l11_s x0 x1 x2) r.ex (alibilaw22_HoldFinds_l11_R.st x0 x1 x2 r) := by
 refine alibilaw22_HoldFinds_l11.partial_correctness x0 x1 (fun x2 r => Loops Try.prog alibilaw22_HoldFinds_l11_c 0 (alibilaw22_HoldFinds_l11_s x0 x1 x2) r.ex (alibilaw22_HoldFinds_l11_R.st x0 x1 x2 r)) ?_ x2 r h
 clear h r x2
 intro self ih x2 r h
 rcases if_of h with ⟨c21, h⟩ | ⟨c21, h⟩
 · obtain ⟨c22, h⟩ := need_of h
   obtain ⟨c23, h⟩ := need_of h
   obtain ⟨c24, h⟩ := need_of h
   rcases if_of h with ⟨c25, h⟩ | ⟨c25, h⟩
   · have h := Option.some.inj h; subst h
     exact plast mixed lives 3 (by kernel_rfl) (pk2 <| pb c21 <| pn c22 <| pn c23 <| pk <| pn c22 <| pn c24 <| pk <| pe (eff_bool (un_neq ((List.getD x0 (Int.toNat x2) d_api_Section).entry) ((List.getD x1 (Int.toNat x2) d_api_Section).entry))) <| pb c25 <| pk8 <| pk8 <| pk8 <| pk8 <| pk8 <| pk8 <| pk6 <| pz) rfl
   · rcases if_of h with ⟨c26, h⟩ | ⟨c26, h⟩
     · have h := Option.some.inj h; subst h
       exact plast mixed lives 3 (by kernel_rfl) (pk2 <| pb c21 <| pn c22 <| pn c23 <| pk <| pn c22 <| pn c24 <| pk <| pe (eff_bool (un_neq ((List.getD x0 (Int.toNat x2) d_api_Section).entry) ((List.getD x1 (Int.toNat x2) d_api_Section).entry))) <| pb c25 <| pk2 <| pn c22 <| pn c23 <| pk6 <| pn c22 <| pn c24 <| pk4 <| pe (eff_bool (un_neq ((List.getD x0 (Int.toNat x2) d_api_Section).exit) ((List.getD x1 (Int.toNat x2) d_api_Section).exit))) <| pk <| pb c26 <| pk8 <| pk8 <| pk8 <| pk8 <| pk8 <| pk2 <| pz) rfl
     · rcases if_of h with ⟨c27, h⟩ | ⟨c27, h⟩
       · have h := Option.some.inj h; subst h
         exact plast mixed lives 3 (by kernel_rfl) (pk2 <| pb c21 <| pn c22 <| pn c23 <| pk <| pn c22 <| pn c24 <| pk <| pe (eff_bool (un_neq ((List.getD x0 (Int.toNat x2) d_api_Section).entry) ((List.getD x1 (Int.toNat x2) d_api_Section).entry))) <| pb c25 <| pk2 <| pn c22 <| pn c23 <| pk6 <| pn c22 <| pn c24 <| pk4 <| pe (eff_bool (un_neq ((List.getD x0 (Int.toNat x2) d_api_Section).exit) ((List.getD x1 (Int.toNat x2) d_api_Section).exit))) <| pk <| pb c26 <| pk2 <| pn c22 <| pn c23 <| pk4 <| pe (eff_bool (un_neq ((List.getD x0 (Int.toNat x2) d_api_Section).liveEntry) (0#32))) <| pk <| pb c27 <| pk8 <| pk8 <| pk8 <| pk8 <| pk3 <| pz) rfl
       · rcases if_of h with ⟨c28, h⟩ | ⟨c28, h⟩
         · have h := Option.some.inj h; subst h
           exact plast mixed lives 3 (by kernel_rfl) (pk2 <| pb c21 <| pn c22 <| pn c23 <| pk <| pn c22 <| pn c24 <| pk <| pe (eff_bool (un_neq ((List.getD x0 (Int.toNat x2) d_api_Section).entry) ((List.getD x1 (Int.toNat x2) d_api_Section).entry))) <| pb c25 <| pk2 <| pn c22 <| pn c23 <| pk6 <| pn c22 <| pn c24 <| pk4 <| pe (eff_bool (un_neq ((List.getD x0 (Int.toNat x2) d_api_Section).exit) ((List.getD x1 (Int.toNat x2) d_api_Section).exit))) <| pk <| pb c26 <| pk2 <| pn c22 <| pn c23 <| pk4 <| pe (eff_bool (un_neq ((List.getD x0 (Int.toNat x2) d_api_Section).liveEntry) (0#32))) <| pk <| pb c27 <| pk2 <| pn c22 <| pn c23 <| pk4 <| pe (eff_bool (un_neq ((List.getD x0 (Int.toNat x2) d_api_Section).liveExit) (0#32))) <| pk <| pb c28 <| pk8 <| pk8 <| pk8 <| pk4 <| pz) rfl
         · rcases if_of h with ⟨c29, h⟩ | ⟨c29, h⟩
           · have h := Option.some.inj h; subst h
             exact plast mixed lives 3 (by kernel_rfl) (pk2 <| pb c21 <| pn c22 <| pn c23 <| pk <| pn c22 <| pn c24 <| pk <| pe (eff_bool (un_neq ((List.getD x0 (Int.toNat x2) d_api_Section).entry) ((List.getD x1 (Int.toNat x2) d_api_Section).entry))) <| pb c25 <| pk2 <| pn c22 <| pn c23 <| pk6 <| pn c22 <| pn c24 <| pk4 <| pe (eff_bool (un_neq ((List.getD x0 (Int.toNat x2) d_api_Section).exit) ((List.getD x1 (Int.toNat x2) d_api_Section).exit))) <| pk <| pb c26 <| pk2 <| pn c22 <| pn c23 <| pk4 <| pe (eff_bool (un_neq ((List.getD x0 (Int.toNat x2) d_api_Section).liveEntry) (0#32))) <| pk <| pb c27 <| pk2 <| pn c22 <| pn c23 <| pk4 <| pe (eff_bool (un_neq ((List.getD x0 (Int.toNat x2) d_api_Section).liveExit) (0#32))) <| pk <| pb c28 <| pk2 <| pn c22 <| pn c23 <| pk8 <| pn c22 <| pn c24 <| pk8 <| pb c29 <| pk8 <| pk6 <| pz) rfl
           · rcases if_of h with ⟨c30, h⟩ | ⟨c30, h⟩
             · have h := Option.some.inj h; subst h
               exact plast mixed lives 3 (by kernel_rfl) (pk2 <| pb c21 <| pn c22 <| pn c23 <| pk <| pn c22 <| pn c24 <| pk <| pe (eff_bool (un_neq ((List.getD x0 (Int.toNat x2) d_api_Section).entry) ((List.getD x1 (Int.toNat x2) d_api_Section).entry))) <| pb c25 <| pk2 <| pn c22 <| pn c23 <| pk6 <| pn c22 <| pn c24 <| pk4 <| pe (eff_bool (un_neq ((List.getD x0 (Int.toNat x2) d_api_Section).exit) ((List.getD x1 (Int.toNat x2) d_api_Section).exit))) <| pk <| pb c26 <| pk2 <| pn c22 <| pn c23 <| pk4 <| pe (eff_bool (un_neq ((List.getD x0 (Int.toNat x2) d_api_Section).liveEntry) (0#32))) <| pk <| pb c27 <| pk2 <| pn c22 <| pn c23 <| pk4 <| pe (eff_bool (un_neq ((List.getD x0 (Int.toNat x2) d_api_Section).liveExit) (0#32))) <| pk <| pb c28 <| pk2 <| pn c22 <| pn c23 <| pk8 <| pn c22 <| pn c24 <| pk8 <| pb c29 <| pk2 <| pn c22 <| pn c23 <| pk8 <| pn c22 <| pn c24 <| pk8 <| pb c30 <| pz) rfl
             · obtain ⟨q, hq, h⟩ := bind_of h
               cases q with
               | x0 v41 =>
                have h42 := hq; clear hq
                try dsimp only at h
                have h := Option.some.inj h; subst h
                exact plast mixed lives 3 (by kernel_rfl) (pk2 <| pb c21 <| pn c22 <| pn c23 <| pk <| pn c22 <| pn c24 <| pk <| pe (eff_bool (un_neq ((List.getD x0 (Int.toNat x2) d_api_Section).entry) ((List.getD x1 (Int.toNat x2) d_api_Section).entry))) <| pb c25 <| pk2 <| pn c22 <| pn c23 <| pk6 <| pn c22 <| pn c24 <| pk4 <| pe (eff_bool (un_neq ((List.getD x0 (Int.toNat x2) d_api_Section).exit) ((List.getD x1 (Int.toNat x2) d_api_Section).exit))) <| pk <| pb c26 <| pk2 <| pn c22 <| pn c23 <| pk4 <| pe (eff_bool (un_neq ((List.getD x0 (Int.toNat x2) d_api_Section).liveEntry) (0#32))) <| pk <| pb c27 <| pk2 <| pn c22 <| pn c23 <| pk4 <| pe (eff_bool (un_neq ((List.getD x0 (Int.toNat x2) d_api_Section).liveExit) (0#32))) <| pk <| pb c28 <| pk2 <| pn c22 <| pn c23 <| pk8 <| pn c22 <| pn c24 <| pk8 <| pb c29 <| pk2 <| pn c22 <| pn c23 <| pk8 <| pn c22 <| pn c24 <| pk8 <| pb c30 <| pl (alibilaw22_HoldFinds_l16_ok _ _ _ _ _ h42) <| pz) rfl
               | x1 =>
                have h43 := hq; clear hq
                try dsimp only at h
                exact pmore mixed lives 3 (by kernel_rfl) (pk2 <| pb c21 <| pn c22 <| pn c23 <| pk <| pn c22 <| pn c24 <| pk <| pe (eff_bool (un_neq ((List.getD x0 (Int.toNat x2) d_api_Section).entry) ((List.getD x1 (Int.toNat x2) d_api_Section).entry))) <| pb c25 <| pk2 <| pn c22 <| pn c23 <| pk6 <| pn c22 <| pn c24 <| pk4 <| pe (eff_bool (un_neq ((List.getD x0 (Int.toNat x2) d_api_Section).exit) ((List.getD x1 (Int.toNat x2) d_api_Section).exit))) <| pk <| pb c26 <| pk2 <| pn c22 <| pn c23 <| pk4 <| pe (eff_bool (un_neq ((List.getD x0 (Int.toNat x2) d_api_Section).liveEntry) (0#32))) <| pk <| pb c27 <| pk2 <| pn c22 <| pn c23 <| pk4 <| pe (eff_bool (un_neq ((List.getD x0 (Int.toNat x2) d_api_Section).liveExit) (0#32))) <| pk <| pb c28 <| pk2 <| pn c22 <| pn c23 <| pk8 <| pn c22 <| pn c24 <| pk8 <| pb c29 <| pk2 <| pn c22 <| pn c23 <| pk8 <| pn c22 <| pn c24 <| pk8 <| pb c30 <| pl (alibilaw22_HoldFinds_l16_ok _ _ _ _ _ h43) <| pk <| pz) (ih (iAdd x2 1) _ h)
 · have h := Option.some.inj h; subst h
   exact plast mixed lives 3 (by kernel_rfl) (pk2 <| pb c21 <| pz) rfl
/-- alibi/alibilaw22.HoldFinds -/
def alibilaw22_HoldFinds (p : api_Program) : Option (Bool) :=
  bind (alibilaw22_awake) fun v1 =>
  if (!v1) = true then
    bind (alibilaw22_awake) fun v4 =>
    some v4
  else
    bind (alibilaw22_small p) fun v6 =>
    if (!v6) = true then
      bind (alibilaw22_awake) fun v9 =>
      some v9
    else
      bind (hold_Find p) fun v11 =>
      bind (alibiref05_Check p) fun v13 =>
      if ((v13.2.2 : Int) != 0) = true then
        if ((v11.1 : Int) == v13.2.2) = true then
          some ((((((List.length v11.2) : Nat) : Int)) : Int) == 0)
        else
          some false
      else
        bind (alibiref22_Find p) fun v17 =>
        if ((v11.1 : Int) != 0) = true then
          some false
        else
          if ((((((List.length v11.2) : Nat) : Int)) : Int) != ((((List.length v17) : Nat) : Int))) = true then
            some false
          else
            bind (alibilaw22_HoldFinds_l11 v11.2 v17 0) fun q => match q with
              | .x0 v44 =>
                some v44
              | .x1 =>
                some true
theorem alibilaw22_HoldFinds_ok (p : api_Program) (r : Bool) (h : alibilaw22_HoldFinds p = some r) : Does Try.prog 3 [.agg [.pv (.int .i64 p.globals), .pv (.int .i64 p.locks), .pv (.int .i64 p.slots), .pv (.seq (List.length p.funcs) (encP e_62 ([] : List api_Node) p.funcs))]] [] (.pv (.bool r), []) := by
 unfold alibilaw22_HoldFinds at h
 obtain ⟨v1, h2, h⟩ := bind_of h
 rcases if_of h with ⟨c3, h⟩ | ⟨c3, h⟩
 · obtain ⟨v4, h5, h⟩ := bind_of h
   have h := Option.some.inj h; subst h
   exact pdoes mixed (L := lives) (by kernel_rfl) (pk <| pc (alibilaw22_awake_ok _ h2) <| pk2 <| pb c3 <| pk4 <| pc (alibilaw22_awake_ok _ h5) <| pk <| pz)
 · obtain ⟨v6, h7, h⟩ := bind_of h
   rcases if_of h with ⟨c8, h⟩ | ⟨c8, h⟩
   · obtain ⟨v9, h10, h⟩ := bind_of h
     have h := Option.some.inj h; subst h
     exact pdoes mixed (L := lives) (by kernel_rfl) (pk <| pc (alibilaw22_awake_ok _ h2) <| pk2 <| pb c3 <| pk2 <| pc (alibilaw22_small_ok _ _ h7) <| pk4 <| pb c8 <| pc (alibilaw22_awake_ok _ h10) <| pk <| pz)
   · obtain ⟨v11, h12, h⟩ := bind_of h
     obtain ⟨v13, h14, h⟩ := bind_of h
     rcases if_of h with ⟨c15, h⟩ | ⟨c15, h⟩
     · rcases if_of h with ⟨c16, h⟩ | ⟨c16, h⟩
       · have h := Option.some.inj h; subst h
         exact pdoes mixed (L := lives) (by kernel_rfl) (pk <| pc (alibilaw22_awake_ok _ h2) <| pk2 <| pb c3 <| pk2 <| pc (alibilaw22_small_ok _ _ h7) <| pk4 <| pb c8 <| pk <| pc (hold_Find_ok _ _ h12) <| pk2 <| pc (alibiref05_Check_ok _ _ h14) <| pk2 <| pb c15 <| pk <| pb c16 <| pk5 <| pz)
       · have h := Option.some.inj h; subst h
         exact pdoes mixed (L := lives) (by kernel_rfl) (pk <| pc (alibilaw22_awake_ok _ h2) <| pk2 <| pb c3 <| pk2 <| pc (alibilaw22_small_ok _ _ h7) <| pk4 <| pb c8 <| pk <| pc (hold_Find_ok _ _ h12) <| pk2 <| pc (alibiref05_Check_ok _ _ h14) <| pk2 <| pb c15 <| pk <| pb c16 <| pk3 <| pz)
     · obtain ⟨v17, h18, h⟩ := bind_of h
       rcases if_of h with ⟨c19, h⟩ | ⟨c19, h⟩
       · have h := Option.some.inj h; subst h
         exact pdoes mixed (L := lives) (by kernel_rfl) (pk <| pc (alibilaw22_awake_ok _ h2) <| pk2 <| pb c3 <| pk2 <| pc (alibilaw22_small_ok _ _ h7) <| pk4 <| pb c8 <| pk <| pc (hold_Find_ok _ _ h12) <| pk2 <| pc (alibiref05_Check_ok _ _ h14) <| pk2 <| pb c15 <| pk <| pc (alibiref22_Find_ok _ _ h18) <| pk2 <| pb c19 <| pk6 <| pz)
       · rcases if_of h with ⟨c20, h⟩ | ⟨c20, h⟩
         · have h := Option.some.inj h; subst h
           exact pdoes mixed (L := lives) (by kernel_rfl) (pk <| pc (alibilaw22_awake_ok _ h2) <| pk2 <| pb c3 <| pk2 <| pc (alibilaw22_small_ok _ _ h7) <| pk4 <| pb c8 <| pk <| pc (hold_Find_ok _ _ h12) <| pk2 <| pc (alibiref05_Check_ok _ _ h14) <| pk2 <| pb c15 <| pk <| pc (alibiref22_Find_ok _ _ h18) <| pk2 <| pb c19 <| pk8 <| pb c20 <| pz)
         · obtain ⟨q, hq, h⟩ := bind_of h
           cases q with
           | x0 v44 =>
            have h45 := hq; clear hq
            try dsimp only at h
            have h := Option.some.inj h; subst h
            exact pdoes mixed (L := lives) (by kernel_rfl) (pk <| pc (alibilaw22_awake_ok _ h2) <| pk2 <| pb c3 <| pk2 <| pc (alibilaw22_small_ok _ _ h7) <| pk4 <| pb c8 <| pk <| pc (hold_Find_ok _ _ h12) <| pk2 <| pc (alibiref05_Check_ok _ _ h14) <| pk2 <| pb c15 <| pk <| pc (alibiref22_Find_ok _ _ h18) <| pk2 <| pb c19 <| pk8 <| pb c20 <| pl (alibilaw22_HoldFinds_l11_ok _ _ _ _ h45) <| pz)
           | x1 =>
            have h46 := hq; clear hq
            try dsimp only at h
            have h := Option.some.inj h; subst h
            exact pdoes mixed (L := lives) (by kernel_rfl) (pk <| pc (alibilaw22_awake_ok _ h2) <| pk2 <| pb c3 <| pk2 <| pc (alibilaw22_small_ok _ _ h7) <| pk4 <| pb c8 <| pk <| pc (hold_Find_ok _ _ h12) <| pk2 <| pc (alibiref05_Check_ok _ _ h14) <| pk2 <| pb c15 <| pk <| pc (alibiref22_Find_ok _ _ h18) <| pk2 <| pb c19 <| pk8 <| pb c20 <| pl (alibilaw22_HoldFinds_l11_ok _ _ _ _ h46) <| pz)
end Go.Bm.GoYtdifolgbppffpaa
