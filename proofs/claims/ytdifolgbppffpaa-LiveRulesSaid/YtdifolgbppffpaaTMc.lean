/- Printed by gen2.py. -/
import Derived.Test.YtdifolgbppffpaaTMb
namespace Go.Bm.GoYtdifolgbppffpaa
open Go.Proofs
set_option autoImplicit false
set_option linter.unusedVariables false
set_option linter.unusedSimpArgs false
set_option maxRecDepth 100000
set_option synthInstance.maxHeartbeats 400000
set_option synthInstance.maxSize 2048
noncomputable def alibiref03_Within_l2_c : Code := sub (codeOf Try.prog 48) [1, 0, 1, 0, 0]
inductive alibiref03_Within_l2_R where
  | x0 (v0 : Bool)
  | x1
def alibiref03_Within_l2_R.ex : alibiref03_Within_l2_R → Ex
  | .x0 _ => .ret
  | .x1 => .exit 0
noncomputable def alibiref03_Within_l2_R.st (x0 : BitVec 32) (x1 : BitVec 32) (x2 : Int) : alibiref03_Within_l2_R → St
  | .x0 v0 => ⟨(List.replicate 4 dead ++ (.pv (.bool v0) :: List.replicate 14 dead)), []⟩
  | .x1 => ⟨List.replicate 19 dead, []⟩
def alibiref03_Within_l2 (x0 : BitVec 32) (x1 : BitVec 32) (x2 : Int) : Option (alibiref03_Within_l2_R) :=
  if (decide ((x2 : Int) < 32)) = true then
    bind (alibiref03_Has x0 x2) fun v2 =>
    if v2 = true then
      bind (alibiref03_Has x1 x2) fun v5 =>
      if (!v5) = true then
        some (.x0 false)
      else
        alibiref03_Within_l2 x0 x1 (iAdd x2 1)
    else
      alibiref03_Within_l2 x0 x1 (iAdd x2 1)
  else
    some (.x1)
partial_fixpoint
noncomputable abbrev alibiref03_Within_l2_s (x0 : BitVec 32) (x1 : BitVec 32) (x2 : Int) : St := ⟨.pv (.int .u32 (BitVec.toNat x0 : Nat)) :: .pv (.int .u32 (BitVec.toNat x1 : Nat)) :: dead :: dead :: dead :: .pv (.int .i64 x2) :: List.replicate 13 dead, []⟩
theorem alibiref03_Within_l2_ok (x0 : BitVec 32) (x1 : BitVec 32) (x2 : Int) (r : alibiref03_Within_l2_R) (h : alibiref03_Within_l2 x0 x1 x2 = some r) : Loops Try.prog alibiref03_Within_l2_c 0 (alibiref03_Within_l2_s x0 x1 x2) r.ex (alibiref03_Within_l2_R.st x0 x1 x2 r) := by
 refine alibiref03_Within_l2.partial_correctness x0 x1 (fun x2 r => Loops Try.prog alibiref03_Within_l2_c 0 (alibiref03_Within_l2_s x0 x1 x2) r.ex (alibiref03_Within_l2_R.st x0 x1 x2 r)) ?_ x2 r h
 clear h r x2
 intro self ih x2 r h
 rcases if_of h with ⟨c1, h⟩ | ⟨c1, h⟩
 · obtain ⟨v2, h3, h⟩ := bind_of h
   rcases if_of h with ⟨c4, h⟩ | ⟨c4, h⟩
   · obtain ⟨v5, h6, h⟩ := bind_of h
     rcases if_of h with ⟨c7, h⟩ | ⟨c7, h⟩
     · have h := Option.some.inj h; subst h
       exact plast mixed lives 48 (by kernel_rfl) (pk <| pb c1 <| pc (alibiref03_Has_ok _ _ _ h3) <| pk <| pb c4 <| pk2 <| pc (alibiref03_Has_ok _ _ _ h6) <| pk4 <| pb c7 <| pz) rfl
     · exact pmore mixed lives 48 (by kernel_rfl) (pk <| pb c1 <| pc (alibiref03_Has_ok _ _ _ h3) <| pk <| pb c4 <| pk2 <| pc (alibiref03_Has_ok _ _ _ h6) <| pk4 <| pb c7 <| pk <| pz) (ih (iAdd x2 1) _ h)
   · exact pmore mixed lives 48 (by kernel_rfl) (pk <| pb c1 <| pc (alibiref03_Has_ok _ _ _ h3) <| pk <| pb c4 <| pk6 <| pz) (ih (iAdd x2 1) _ h)
 · have h := Option.some.inj h; subst h
   exact plast mixed lives 48 (by kernel_rfl) (pk <| pb c1 <| pz) rfl
/-- alibi/alibiref03.Within -/
def alibiref03_Within (a : BitVec 32) (b : BitVec 32) : Option (Bool) :=
  bind (alibiref03_Within_l2 a b 0) fun q => match q with
    | .x0 v8 =>
      some v8
    | .x1 =>
      some true
theorem alibiref03_Within_ok (a : BitVec 32) (b : BitVec 32) (r : Bool) (h : alibiref03_Within a b = some r) : Does Try.prog 48 [.pv (.int .u32 (BitVec.toNat a : Nat)), .pv (.int .u32 (BitVec.toNat b : Nat))] [] (.pv (.bool r), []) := by
 unfold alibiref03_Within at h
 obtain ⟨q, hq, h⟩ := bind_of h
 cases q with
 | x0 v8 =>
  have h9 := hq; clear hq
  try dsimp only at h
  have h := Option.some.inj h; subst h
  exact pdoes mixed (L := lives) (by kernel_rfl) (pl (alibiref03_Within_l2_ok _ _ _ _ h9) <| pz)
 | x1 =>
  have h10 := hq; clear hq
  try dsimp only at h
  have h := Option.some.inj h; subst h
  exact pdoes mixed (L := lives) (by kernel_rfl) (pl (alibiref03_Within_l2_ok _ _ _ _ h10) <| pz)
noncomputable def alibiref06_Reach_l4_c : Code := sub (codeOf Try.prog 80) [1, 1, 1, 0, 1, 0, 0]
def alibiref06_Reach_l4 (x0 : List Bool) (x1 : Int) (x2 : Int) (x3 : Int) (x4 : List (List api_Node)) (x5 : List Int) (x6 : Int) (x7 : Int) : Option ((List Bool)) :=
  if (decide ((x7 : Int) < (((List.length x5 : Nat) : Int)))) = true then
    if (decide ((0 : Int) ≤ x7)) = true then
      if (decide ((x7 : Int) < ((List.length x5 : Nat) : Int))) = true then
        if (decide (((List.getD x5 (Int.toNat x7) 0) : Int) < x6)) = true then
          if (decide ((0 : Int) ≤ (List.getD x5 (Int.toNat x7) 0))) = true then
            if (decide (((List.getD x5 (Int.toNat x7) 0) : Int) < (((List.length x0) : Nat) : Int))) = true then
              alibiref06_Reach_l4 (List.set x0 (Int.toNat (List.getD x5 (Int.toNat x7) 0)) true) x1 x2 x3 x4 x5 x6 (iAdd x7 1)
            else none
          else none
        else
          alibiref06_Reach_l4 x0 x1 x2 x3 x4 x5 x6 (iAdd x7 1)
      else none
    else none
  else
    some x0
partial_fixpoint
noncomputable abbrev alibiref06_Reach_l4_s (x0 : List Bool) (x1 : Int) (x2 : Int) (x3 : Int) (x4 : List (List api_Node)) (x5 : List Int) (x6 : Int) (x7 : Int) : St := ⟨dead :: .pv (.seq (List.length x5) (encP e_i64 0 x5)) :: .ptr 0 [] 0 0 :: dead :: dead :: .pv (.int .i64 x6) :: .ms 1 [] 0 (List.length x0) :: .pv (.int .i64 x7) :: List.replicate 87 dead, [.box 0 [.pv (.int .i64 x1), .pv (.int .i64 x2), .pv (.int .i64 x3), .pv (.seq (List.length x4) (encP e_62 ([] : List api_Node) x4))], .arr 0 1 (List.length x0) (encW o_bool false x0)]⟩
noncomputable abbrev alibiref06_Reach_l4_e (x0 : List Bool) (x1 : Int) (x2 : Int) (x3 : Int) (x4 : List (List api_Node)) (x5 : List Int) (x6 : Int) (x7 : Int) (r : (List Bool)) : St := ⟨dead :: dead :: .ptr 0 [] 0 0 :: dead :: dead :: .pv (.int .i64 x6) :: .ms 1 [] 0 (List.length r) :: List.replicate 88 dead, [.box 0 [.pv (.int .i64 x1), .pv (.int .i64 x2), .pv (.int .i64 x3), .pv (.seq (List.length x4) (encP e_62 ([] : List api_Node) x4))], .arr 0 1 (List.length r) (encW o_bool false r)]⟩
theorem alibiref06_Reach_l4_ok (x0 : List Bool) (x1 : Int) (x2 : Int) (x3 : Int) (x4 : List (List api_Node)) (x5 : List Int) (x6 : Int) (x7 : Int) (r : (List Bool)) (h : alibiref06_Reach_l4 x0 x1 x2 x3 x4 x5 x6 x7 = some r) : Loops Try.prog alibiref06_Reach_l4_c 0 (alibiref06_Reach_l4_s x0 x1 x2 x3 x4 x5 x6 x7) (.exit 0) (alibiref06_Reach_l4_e x0 x1 x2 x3 x4 x5 x6 x7 r) := by
 refine alibiref06_Reach_l4.partial_correctness x1 x2 x3 x4 x5 x6 (fun x0 x7 r => Loops Try.prog alibiref06_Reach_l4_c 0 (alibiref06_Reach_l4_s x0 x1 x2 x3 x4 x5 x6 x7) (.exit 0) (alibiref06_Reach_l4_e x0 x1 x2 x3 x4 x5 x6 x7 r)) ?_ x0 x7 r h
 clear h r x0 x7
 intro self ih x0 x7 r h
 rcases if_of h with ⟨c3, h⟩ | ⟨c3, h⟩
 · obtain ⟨c4, h⟩ := need_of h
   obtain ⟨c5, h⟩ := need_of h
   rcases if_of h with ⟨c6, h⟩ | ⟨c6, h⟩
   · obtain ⟨c7, h⟩ := need_of h
     obtain ⟨c8, h⟩ := need_of h
     exact pmore mixed lives 80 (by kernel_rfl) (pk2 <| pb c3 <| pn c4 <| pn c5 <| pk2 <| pb c6 <| pn c4 <| pn c5 <| pk <| pn c7 <| pn c8 <| pt <| pe (eff_hb (v := dead) (b := 1) (hb := []) (sc := []) (put_top o_bool false 0 1 (List.length x0) x0 (Int.toNat (List.getD x5 (Int.toNat x7) 0)) 0 [.pv (.bool true)] true (by kernel_rfl) (by first | exact Nat.le_refl _ | exact Nat.zero_le _ | (simp only [decide_eq_true_eq, List.length_set, List.length_append, List.length_replicate, List.length_cons, List.length_nil, Nat.zero_add] at * <;> omega)))) <| pk <| pz) (Loops.of (s1 := ⟨dead :: .pv (.seq (List.length x5) (encP e_i64 0 x5)) :: .ptr 0 [] 0 0 :: dead :: dead :: .pv (.int .i64 x6) :: .ms 1 [] 0 (List.length x0) :: .pv (.int .i64 (iAdd x7 1)) :: List.replicate 87 dead, [.box 0 [.pv (.int .i64 x1), .pv (.int .i64 x2), .pv (.int .i64 x3), .pv (.seq (List.length x4) (encP e_62 ([] : List api_Node) x4))], .arr 0 1 (List.length x0) (encW o_bool false (List.set x0 (Int.toNat (List.getD x5 (Int.toNat x7) 0)) true))]⟩) (ih (List.set x0 (Int.toNat (List.getD x5 (Int.toNat x7) 0)) true) (iAdd x7 1) _ h) (by (first | rfl | (simp only [alibiref06_Reach_l4_s, List.length_set]; done))))
   · exact pmore mixed lives 80 (by kernel_rfl) (pk2 <| pb c3 <| pn c4 <| pn c5 <| pk2 <| pb c6 <| pk <| pz) (ih x0 (iAdd x7 1) _ h)
 · have h := Option.some.inj h; subst h
   exact plast mixed lives 80 (by kernel_rfl) (pk2 <| pb c3 <| pz) rfl
noncomputable def alibiref06_Named_l7_c : Code := sub (codeOf Try.prog 72) [1, 1, 0, 1, 0, 0, 1, 0, 0, 1, 0, 1, 0, 0]
def alibiref06_Named_l7 (x0 : List Int) (x1 : List api_Node) (x2 : Int) (x3 : Int) (x4 : Bool) (x5 : Int) : Option (Bool) :=
  if (decide ((x5 : Int) < (((List.length x1 : Nat) : Int)))) = true then
    if x4 = true then
      alibiref06_Named_l7 x0 x1 x2 x3 true (iAdd x5 1)
    else
      if (decide ((0 : Int) ≤ x5)) = true then
        if (decide ((x5 : Int) < ((List.length x1 : Nat) : Int))) = true then
          if ((((List.getD x1 (Int.toNat x5) d_api_Node).kind) : Int) == x2) = true then
            alibiref06_Named_l7 x0 x1 x2 x3 ((((List.getD x1 (Int.toNat x5) d_api_Node).arg) : Int) == x3) (iAdd x5 1)
          else
            alibiref06_Named_l7 x0 x1 x2 x3 false (iAdd x5 1)
        else none
      else none
  else
    some x4
partial_fixpoint
noncomputable abbrev alibiref06_Named_l7_s (x0 : List Int) (x1 : List api_Node) (x2 : Int) (x3 : Int) (x4 : Bool) (x5 : Int) : St := ⟨.pv (.seq (List.length x1) (encP e_api_Node d_api_Node x1)) :: .pv (.int .i64 x2) :: dead :: dead :: dead :: .ms 0 [] 0 (List.length x0) :: .pv (.int .i64 x3) :: .pv (.bool x4) :: .pv (.int .i64 x5) :: List.replicate 35 dead, [.arr 0 1 (List.length x0) (encW o_i64 0 x0)]⟩
noncomputable abbrev alibiref06_Named_l7_e (x0 : List Int) (x1 : List api_Node) (x2 : Int) (x3 : Int) (x4 : Bool) (x5 : Int) (r : Bool) : St := ⟨.pv (.seq (List.length x1) (encP e_api_Node d_api_Node x1)) :: .pv (.int .i64 x2) :: dead :: dead :: dead :: .ms 0 [] 0 (List.length x0) :: .pv (.int .i64 x3) :: .pv (.bool r) :: List.replicate 36 dead, [.arr 0 1 (List.length x0) (encW o_i64 0 x0)]⟩
theorem alibiref06_Named_l7_ok (x0 : List Int) (x1 : List api_Node) (x2 : Int) (x3 : Int) (x4 : Bool) (x5 : Int) (r : Bool) (h : alibiref06_Named_l7 x0 x1 x2 x3 x4 x5 = some r) : Loops Try.prog alibiref06_Named_l7_c 0 (alibiref06_Named_l7_s x0 x1 x2 x3 x4 x5) (.exit 2) (alibiref06_Named_l7_e x0 x1 x2 x3 x4 x5 r) := by
 refine alibiref06_Named_l7.partial_correctness x0 x1 x2 x3 (fun x4 x5 r => Loops Try.prog alibiref06_Named_l7_c 0 (alibiref06_Named_l7_s x0 x1 x2 x3 x4 x5) (.exit 2) (alibiref06_Named_l7_e x0 x1 x2 x3 x4 x5 r)) ?_ x4 x5 r h
 clear h r x4 x5
 intro self ih x4 x5 r h
 rcases if_of h with ⟨c2, h⟩ | ⟨c2, h⟩
 · rcases if_of h with ⟨c3, h⟩ | ⟨c3, h⟩
   · exact pmore mixed lives 72 (by kernel_rfl) (pk2 <| pb c2 <| pb c3 <| pk8 <| pk2 <| pz) (ih true (iAdd x5 1) _ h)
   · obtain ⟨c4, h⟩ := need_of h
     obtain ⟨c5, h⟩ := need_of h
     rcases if_of h with ⟨c6, h⟩ | ⟨c6, h⟩
     · exact pmore mixed lives 72 (by kernel_rfl) (pk2 <| pb c2 <| pb c3 <| pk2 <| pn c4 <| pn c5 <| pk7 <| pb c6 <| pk2 <| pn c4 <| pn c5 <| pk8 <| pk2 <| pz) (ih ((((List.getD x1 (Int.toNat x5) d_api_Node).arg) : Int) == x3) (iAdd x5 1) _ h)
     · exact pmore mixed lives 72 (by kernel_rfl) (pk2 <| pb c2 <| pb c3 <| pk2 <| pn c4 <| pn c5 <| pk7 <| pb c6 <| pk8 <| pk2 <| pz) (ih false (iAdd x5 1) _ h)
 · have h := Option.some.inj h; subst h
   exact plast mixed lives 72 (by kernel_rfl) (pk2 <| pb c2 <| pz) rfl
noncomputable def alibiref06_Named_l3_c : Code := sub (codeOf Try.prog 72) [1, 1, 0, 1, 0, 0]
def alibiref06_Named_l3 (x0 : List Int) (x1 : List api_Node) (x2 : Int) (x3 : Int) : Option ((List Int)) :=
  if (decide ((x3 : Int) < 32)) = true then
    bind (alibiref06_Named_l7 x0 x1 x2 x3 false 0) fun v7 =>
    if v7 = true then
      if (Nat.ble ((List.length x0 + List.length ([x3])) * 8) reach) = true then
        alibiref06_Named_l3 (x0 ++ ([x3])) x1 x2 (iAdd x3 1)
      else none
    else
      alibiref06_Named_l3 x0 x1 x2 (iAdd x3 1)
  else
    some x0
partial_fixpoint
noncomputable abbrev alibiref06_Named_l3_s (x0 : List Int) (x1 : List api_Node) (x2 : Int) (x3 : Int) : St := ⟨.pv (.seq (List.length x1) (encP e_api_Node d_api_Node x1)) :: .pv (.int .i64 x2) :: dead :: dead :: dead :: .ms 0 [] 0 (List.length x0) :: .pv (.int .i64 x3) :: List.replicate 37 dead, [.arr 0 1 (List.length x0) (encW o_i64 0 x0)]⟩
noncomputable abbrev alibiref06_Named_l3_e (x0 : List Int) (x1 : List api_Node) (x2 : Int) (x3 : Int) (r : (List Int)) : St := ⟨(List.replicate 5 dead ++ (.ms 0 [] 0 (List.length r) :: List.replicate 38 dead)), [.arr 0 1 (List.length r) (encW o_i64 0 r)]⟩
theorem alibiref06_Named_l3_ok (x0 : List Int) (x1 : List api_Node) (x2 : Int) (x3 : Int) (r : (List Int)) (h : alibiref06_Named_l3 x0 x1 x2 x3 = some r) : Loops Try.prog alibiref06_Named_l3_c 0 (alibiref06_Named_l3_s x0 x1 x2 x3) (.exit 0) (alibiref06_Named_l3_e x0 x1 x2 x3 r) := by
 refine alibiref06_Named_l3.partial_correctness x1 x2 (fun x0 x3 r => Loops Try.prog alibiref06_Named_l3_c 0 (alibiref06_Named_l3_s x0 x1 x2 x3) (.exit 0) (alibiref06_Named_l3_e x0 x1 x2 x3 r)) ?_ x0 x3 r h
 clear h r x0 x3
 intro self ih x0 x3 r h
 rcases if_of h with ⟨c1, h⟩ | ⟨c1, h⟩
 · obtain ⟨v7, h8, h⟩ := bind_of h
   rcases if_of h with ⟨c9, h⟩ | ⟨c9, h⟩
   · obtain ⟨c10, h⟩ := need_of h
     exact pmore mixed lives 72 (by kernel_rfl) (pk <| pb c1 <| pl (alibiref06_Named_l7_ok _ _ _ _ _ _ _ h8) <| pb c9 <| pe (eff_lit o_i64 0 1 1 1 ([x3]) rfl [] []) <| pb (whole_ok (List.length ([x3]))) <| pn c10 <| pe (eff_app o_i64 0 x0 ([x3]) (x0 ++ ([x3])) 0 1 (List.length x0) (List.length ([x3])) (fun i => List.map AV.scal (encW o_i64 0 ([x3]) i)) (encW o_i64 0 x0 (List.length x0)) [] [] [(0, false)] (by first | exact Nat.le_refl _ | exact Nat.zero_le _ | (simp only [decide_eq_true_eq, List.length_set, List.length_append, List.length_replicate, List.length_cons, List.length_nil, Nat.zero_add] at * <;> omega)) rfl (fun _ => by kernel_rfl) (congrArg o_i64 (getD_ge 0 (by first | exact Nat.le_refl _ | exact Nat.zero_le _ | (simp only [decide_eq_true_eq, List.length_set, List.length_append, List.length_replicate, List.length_cons, List.length_nil, Nat.zero_add] at * <;> omega)))) (by rw [List.take_of_length_le (by first | exact Nat.le_refl _ | exact Nat.zero_le _ | (simp only [decide_eq_true_eq, List.length_set, List.length_append, List.length_replicate, List.length_cons, List.length_nil, Nat.zero_add] at * <;> omega))])) <| pk <| pz) (ih (x0 ++ ([x3])) (iAdd x3 1) _ h)
   · exact pmore mixed lives 72 (by kernel_rfl) (pk <| pb c1 <| pl (alibiref06_Named_l7_ok _ _ _ _ _ _ _ h8) <| pb c9 <| pk <| pz) (ih x0 (iAdd x3 1) _ h)
 · have h := Option.some.inj h; subst h
   exact plast mixed lives 72 (by kernel_rfl) (pk <| pb c1 <| pz) rfl
/-- alibi/alibiref06.Named -/
def alibiref06_Named (l : List api_Node) (kind : Int) : Option ((List Int)) :=
  bind (alibiref06_Named_l3 (([] : List Int)) l kind 0) fun v11 =>
  some v11
theorem alibiref06_Named_ok (l : List api_Node) (kind : Int) (r : (List Int)) (h : alibiref06_Named l kind = some r) : Does Try.prog 72 [.pv (.seq (List.length l) (encP e_api_Node d_api_Node l)), .pv (.int .i64 kind)] [] (.ms 0 [] 0 (List.length r), [.arr 0 1 (List.length r) (encW o_i64 0 r)]) := by
 unfold alibiref06_Named at h
 obtain ⟨v11, h12, h⟩ := bind_of h
 have h := Option.some.inj h; subst h
 exact pdoes mixed (L := lives) (by kernel_rfl) (pl (Loops.of (s1 := ⟨.pv (.seq (List.length l) (encP e_api_Node d_api_Node l)) :: .pv (.int .i64 kind) :: dead :: dead :: dead :: .ms 0 [] 0 (List.length ([] : List Int)) :: .pv (.int .i64 0) :: List.replicate 37 dead, [.arr 0 1 (List.length ([] : List Int)) (encW o_i64 0 (([] : List Int)))]⟩) (alibiref06_Named_l3_ok _ _ _ _ _ h12) (by (first | rfl | (simp only [alibiref06_Named_l3_s, List.length_set]; done)))) <| pz)
noncomputable def alibiref06_Reach_l16_c : Code := sub (codeOf Try.prog 80) [1, 1, 1, 1, 0, 1, 0, 0, 1, 0, 0, 1, 0, 0, 1, 0, 0, 1, 1, 0, 0]
def alibiref06_Reach_l16 (x0 : List Bool) (x1 : List Int) (x2 : Int) (x3 : Int) (x4 : Int) (x5 : List (List api_Node)) (x6 : Int) (x7 : Int) (x8 : Int) (x9 : Int) : Option ((List Bool)) :=
  if (decide ((x9 : Int) < ((((List.length x1) : Nat) : Int)))) = true then
    if (decide ((0 : Int) ≤ x8)) = true then
      if (decide ((x8 : Int) < (((List.length x0) : Nat) : Int))) = true then
        if (List.getD x0 (Int.toNat x8) false) = true then
          if (decide ((0 : Int) ≤ x9)) = true then
            if (decide ((x9 : Int) < (((List.length x1) : Nat) : Int))) = true then
              if (decide (((List.getD x1 (Int.toNat x9) 0) : Int) < x6)) = true then
                if (decide ((0 : Int) ≤ (List.getD x1 (Int.toNat x9) 0))) = true then
                  if (decide (((List.getD x1 (Int.toNat x9) 0) : Int) < (((List.length x0) : Nat) : Int))) = true then
                    alibiref06_Reach_l16 (List.set x0 (Int.toNat (List.getD x1 (Int.toNat x9) 0)) true) x1 x2 x3 x4 x5 x6 x7 x8 (iAdd x9 1)
                  else none
                else none
              else
                alibiref06_Reach_l16 x0 x1 x2 x3 x4 x5 x6 x7 x8 (iAdd x9 1)
            else none
          else none
        else
          alibiref06_Reach_l16 x0 x1 x2 x3 x4 x5 x6 x7 x8 (iAdd x9 1)
      else none
    else none
  else
    some x0
partial_fixpoint
noncomputable abbrev alibiref06_Reach_l16_s (x0 : List Bool) (x1 : List Int) (x2 : Int) (x3 : Int) (x4 : Int) (x5 : List (List api_Node)) (x6 : Int) (x7 : Int) (x8 : Int) (x9 : Int) : St := ⟨dead :: dead :: .ptr 0 [] 0 0 :: dead :: dead :: .pv (.int .i64 x6) :: .ms 1 [] 0 (List.length x0) :: dead :: .pv (.int .i64 x7) :: .pv (.int .i64 x8) :: .ms 2 [] 0 (List.length x1) :: .pv (.int .i64 x9) :: List.replicate 83 dead, [.box 0 [.pv (.int .i64 x2), .pv (.int .i64 x3), .pv (.int .i64 x4), .pv (.seq (List.length x5) (encP e_62 ([] : List api_Node) x5))], .arr 0 1 (List.length x0) (encW o_bool false x0), .arr 0 1 (List.length x1) (encW o_i64 0 x1)]⟩
noncomputable abbrev alibiref06_Reach_l16_e (x0 : List Bool) (x1 : List Int) (x2 : Int) (x3 : Int) (x4 : Int) (x5 : List (List api_Node)) (x6 : Int) (x7 : Int) (x8 : Int) (x9 : Int) (r : (List Bool)) : St := ⟨dead :: dead :: .ptr 0 [] 0 0 :: dead :: dead :: .pv (.int .i64 x6) :: .ms 1 [] 0 (List.length r) :: dead :: .pv (.int .i64 x7) :: .pv (.int .i64 x8) :: List.replicate 85 dead, [.box 0 [.pv (.int .i64 x2), .pv (.int .i64 x3), .pv (.int .i64 x4), .pv (.seq (List.length x5) (encP e_62 ([] : List api_Node) x5))], .arr 0 1 (List.length r) (encW o_bool false r)]⟩
theorem alibiref06_Reach_l16_ok (x0 : List Bool) (x1 : List Int) (x2 : Int) (x3 : Int) (x4 : Int) (x5 : List (List api_Node)) (x6 : Int) (x7 : Int) (x8 : Int) (x9 : Int) (r : (List Bool)) (h : alibiref06_Reach_l16 x0 x1 x2 x3 x4 x5 x6 x7 x8 x9 = some r) : Loops Try.prog alibiref06_Reach_l16_c 0 (alibiref06_Reach_l16_s x0 x1 x2 x3 x4 x5 x6 x7 x8 x9) (.exit 6) (alibiref06_Reach_l16_e x0 x1 x2 x3 x4 x5 x6 x7 x8 x9 r) := by
 refine alibiref06_Reach_l16.partial_correctness x1 x2 x3 x4 x5 x6 x7 x8 (fun x0 x9 r => Loops Try.prog alibiref06_Reach_l16_c 0 (alibiref06_Reach_l16_s x0 x1 x2 x3 x4 x5 x6 x7 x8 x9) (.exit 6) (alibiref06_Reach_l16_e x0 x1 x2 x3 x4 x5 x6 x7 x8 x9 r)) ?_ x0 x9 r h
 clear h r x0 x9
 intro self ih x0 x9 r h
 rcases if_of h with ⟨c17, h⟩ | ⟨c17, h⟩
 · obtain ⟨c18, h⟩ := need_of h
   obtain ⟨c19, h⟩ := need_of h
   rcases if_of h with ⟨c20, h⟩ | ⟨c20, h⟩
   · obtain ⟨c21, h⟩ := need_of h
     obtain ⟨c22, h⟩ := need_of h
     rcases if_of h with ⟨c23, h⟩ | ⟨c23, h⟩
     · obtain ⟨c24, h⟩ := need_of h
       obtain ⟨c25, h⟩ := need_of h
       exact pmore mixed lives 80 (by kernel_rfl) (pk2 <| pb c17 <| pn c18 <| pn c19 <| pk <| pb c20 <| pk2 <| pn c21 <| pn c22 <| pk6 <| pb c23 <| pn c21 <| pn c22 <| pk <| pn c24 <| pn c25 <| pt <| pe (eff_hb (v := dead) (b := 1) (hb := []) (sc := []) (put_top o_bool false 0 1 (List.length x0) x0 (Int.toNat (List.getD x1 (Int.toNat x9) 0)) 0 [.pv (.bool true)] true (by kernel_rfl) (by first | exact Nat.le_refl _ | exact Nat.zero_le _ | (simp only [decide_eq_true_eq, List.length_set, List.length_append, List.length_replicate, List.length_cons, List.length_nil, Nat.zero_add] at * <;> omega)))) <| pk <| pz) (Loops.of (s1 := ⟨dead :: dead :: .ptr 0 [] 0 0 :: dead :: dead :: .pv (.int .i64 x6) :: .ms 1 [] 0 (List.length x0) :: dead :: .pv (.int .i64 x7) :: .pv (.int .i64 x8) :: .ms 2 [] 0 (List.length x1) :: .pv (.int .i64 (iAdd x9 1)) :: List.replicate 83 dead, [.box 0 [.pv (.int .i64 x2), .pv (.int .i64 x3), .pv (.int .i64 x4), .pv (.seq (List.length x5) (encP e_62 ([] : List api_Node) x5))], .arr 0 1 (List.length x0) (encW o_bool false (List.set x0 (Int.toNat (List.getD x1 (Int.toNat x9) 0)) true)), .arr 0 1 (List.length x1) (encW o_i64 0 x1)]⟩) (ih (List.set x0 (Int.toNat (List.getD x1 (Int.toNat x9) 0)) true) (iAdd x9 1) _ h) (by (first | rfl | (simp only [alibiref06_Reach_l16_s, List.length_set]; done))))
     · exact pmore mixed lives 80 (by kernel_rfl) (pk2 <| pb c17 <| pn c18 <| pn c19 <| pk <| pb c20 <| pk2 <| pn c21 <| pn c22 <| pk6 <| pb c23 <| pk <| pz) (ih x0 (iAdd x9 1) _ h)
   · exact pmore mixed lives 80 (by kernel_rfl) (pk2 <| pb c17 <| pn c18 <| pn c19 <| pk <| pb c20 <| pk8 <| pz) (ih x0 (iAdd x9 1) _ h)
 · have h := Option.some.inj h; subst h
   exact plast mixed lives 80 (by kernel_rfl) (pk2 <| pb c17 <| pz) rfl
noncomputable def alibiref06_Reach_l12_c : Code := sub (codeOf Try.prog 80) [1, 1, 1, 1, 0, 1, 0, 0, 1, 0, 0, 1, 0, 0]
def alibiref06_Reach_l12 (x0 : List Bool) (x1 : Int) (x2 : Int) (x3 : Int) (x4 : List (List api_Node)) (x5 : Int) (x6 : Int) (x7 : Int) : Option ((List Bool)) :=
  if (decide ((x7 : Int) < x5)) = true then
    if (decide ((0 : Int) ≤ x7)) = true then
      if (decide ((x7 : Int) < ((List.length x4 : Nat) : Int))) = true then
        bind (alibiref06_Named (List.getD x4 (Int.toNat x7) (([] : List api_Node))) 7) fun v15 =>
        bind (alibiref06_Reach_l16 x0 v15 x1 x2 x3 x4 x5 x6 x7 0) fun v26 =>
        alibiref06_Reach_l12 v26 x1 x2 x3 x4 x5 x6 (iAdd x7 1)
      else none
    else none
  else
    some x0
partial_fixpoint
noncomputable abbrev alibiref06_Reach_l12_s (x0 : List Bool) (x1 : Int) (x2 : Int) (x3 : Int) (x4 : List (List api_Node)) (x5 : Int) (x6 : Int) (x7 : Int) : St := ⟨dead :: dead :: .ptr 0 [] 0 0 :: dead :: dead :: .pv (.int .i64 x5) :: .ms 1 [] 0 (List.length x0) :: dead :: .pv (.int .i64 x6) :: .pv (.int .i64 x7) :: List.replicate 85 dead, [.box 0 [.pv (.int .i64 x1), .pv (.int .i64 x2), .pv (.int .i64 x3), .pv (.seq (List.length x4) (encP e_62 ([] : List api_Node) x4))], .arr 0 1 (List.length x0) (encW o_bool false x0)]⟩
noncomputable abbrev alibiref06_Reach_l12_e (x0 : List Bool) (x1 : Int) (x2 : Int) (x3 : Int) (x4 : List (List api_Node)) (x5 : Int) (x6 : Int) (x7 : Int) (r : (List Bool)) : St := ⟨dead :: dead :: .ptr 0 [] 0 0 :: dead :: dead :: .pv (.int .i64 x5) :: .ms 1 [] 0 (List.length r) :: dead :: .pv (.int .i64 x6) :: List.replicate 86 dead, [.box 0 [.pv (.int .i64 x1), .pv (.int .i64 x2), .pv (.int .i64 x3), .pv (.seq (List.length x4) (encP e_62 ([] : List api_Node) x4))], .arr 0 1 (List.length r) (encW o_bool false r)]⟩
theorem alibiref06_Reach_l12_ok (x0 : List Bool) (x1 : Int) (x2 : Int) (x3 : Int) (x4 : List (List api_Node)) (x5 : Int) (x6 : Int) (x7 : Int) (r : (List Bool)) (h : alibiref06_Reach_l12 x0 x1 x2 x3 x4 x5 x6 x7 = some r) : Loops Try.prog alibiref06_Reach_l12_c 0 (alibiref06_Reach_l12_s x0 x1 x2 x3 x4 x5 x6 x7) (.exit 4) (alibiref06_Reach_l12_e x0 x1 x2 x3 x4 x5 x6 x7 r) := by
 refine alibiref06_Reach_l12.partial_correctness x1 x2 x3 x4 x5 x6 (fun x0 x7 r => Loops Try.prog alibiref06_Reach_l12_c 0 (alibiref06_Reach_l12_s x0 x1 x2 x3 x4 x5 x6 x7) (.exit 4) (alibiref06_Reach_l12_e x0 x1 x2 x3 x4 x5 x6 x7 r)) ?_ x0 x7 r h
 clear h r x0 x7
 intro self ih x0 x7 r h
 rcases if_of h with ⟨c12, h⟩ | ⟨c12, h⟩
 · obtain ⟨c13, h⟩ := need_of h
   obtain ⟨c14, h⟩ := need_of h
   obtain ⟨v15, h16, h⟩ := bind_of h
   obtain ⟨v26, h27, h⟩ := bind_of h
   exact pmore mixed lives 80 (by kernel_rfl) (pk <| pb c12 <| pk <| pn c13 <| pn c14 <| pk <| pc (alibiref06_Named_ok _ _ _ h16) <| pk <| pl (alibiref06_Reach_l16_ok _ _ _ _ _ _ _ _ _ _ _ h27) <| pk <| pz) (ih v26 (iAdd x7 1) _ h)
 · have h := Option.some.inj h; subst h
   exact plast mixed lives 80 (by kernel_rfl) (pk <| pb c12 <| pz) rfl
noncomputable def alibiref06_Reach_l9_c : Code := sub (codeOf Try.prog 80) [1, 1, 1, 1, 0, 1, 0, 0]
def alibiref06_Reach_l9 (x0 : List Bool) (x1 : Int) (x2 : Int) (x3 : Int) (x4 : List (List api_Node)) (x5 : Int) (x6 : Int) : Option ((List Bool)) :=
  if (decide ((x6 : Int) < x5)) = true then
    bind (alibiref06_Reach_l12 x0 x1 x2 x3 x4 x5 x6 0) fun v28 =>
    alibiref06_Reach_l9 v28 x1 x2 x3 x4 x5 (iAdd x6 1)
  else
    some x0
partial_fixpoint
noncomputable abbrev alibiref06_Reach_l9_s (x0 : List Bool) (x1 : Int) (x2 : Int) (x3 : Int) (x4 : List (List api_Node)) (x5 : Int) (x6 : Int) : St := ⟨dead :: dead :: .ptr 0 [] 0 0 :: dead :: dead :: .pv (.int .i64 x5) :: .ms 1 [] 0 (List.length x0) :: dead :: .pv (.int .i64 x6) :: List.replicate 86 dead, [.box 0 [.pv (.int .i64 x1), .pv (.int .i64 x2), .pv (.int .i64 x3), .pv (.seq (List.length x4) (encP e_62 ([] : List api_Node) x4))], .arr 0 1 (List.length x0) (encW o_bool false x0)]⟩
noncomputable abbrev alibiref06_Reach_l9_e (x0 : List Bool) (x1 : Int) (x2 : Int) (x3 : Int) (x4 : List (List api_Node)) (x5 : Int) (x6 : Int) (r : (List Bool)) : St := ⟨(List.replicate 5 dead ++ (.pv (.int .i64 x5) :: .ms 0 [] 0 (List.length r) :: List.replicate 88 dead)), [.arr 0 1 (List.length r) (encW o_bool false r)]⟩
theorem alibiref06_Reach_l9_ok (x0 : List Bool) (x1 : Int) (x2 : Int) (x3 : Int) (x4 : List (List api_Node)) (x5 : Int) (x6 : Int) (r : (List Bool)) (h : alibiref06_Reach_l9 x0 x1 x2 x3 x4 x5 x6 = some r) : Loops Try.prog alibiref06_Reach_l9_c 0 (alibiref06_Reach_l9_s x0 x1 x2 x3 x4 x5 x6) (.exit 2) (alibiref06_Reach_l9_e x0 x1 x2 x3 x4 x5 x6 r) := by
 refine alibiref06_Reach_l9.partial_correctness x1 x2 x3 x4 x5 (fun x0 x6 r => Loops Try.prog alibiref06_Reach_l9_c 0 (alibiref06_Reach_l9_s x0 x1 x2 x3 x4 x5 x6) (.exit 2) (alibiref06_Reach_l9_e x0 x1 x2 x3 x4 x5 x6 r)) ?_ x0 x6 r h
 clear h r x0 x6
 intro self ih x0 x6 r h
 rcases if_of h with ⟨c11, h⟩ | ⟨c11, h⟩
 · obtain ⟨v28, h29, h⟩ := bind_of h
   exact pmore mixed lives 80 (by kernel_rfl) (pk <| pb c11 <| pl (alibiref06_Reach_l12_ok _ _ _ _ _ _ _ _ _ h29) <| pk <| pz) (ih v28 (iAdd x6 1) _ h)
 · have h := Option.some.inj h; subst h
   exact plast mixed lives 80 (by kernel_rfl) (pk <| pb c11 <| pz) rfl
noncomputable def alibiref06_Reach_l22_c : Code := sub (codeOf Try.prog 80) [1, 1, 1, 1, 1, 1, 0, 1, 0, 0]
def alibiref06_Reach_l22 (x0 : List Bool) (x1 : List Int) (x2 : Int) (x3 : Int) : Option ((List Int)) :=
  if (decide ((x3 : Int) < x2)) = true then
    if (decide ((x3 : Int) < 32)) = true then
      if (decide ((0 : Int) ≤ x3)) = true then
        if (decide ((x3 : Int) < (((List.length x0) : Nat) : Int))) = true then
          if (List.getD x0 (Int.toNat x3) false) = true then
            if (Nat.ble ((List.length x1 + List.length ([x3])) * 8) reach) = true then
              alibiref06_Reach_l22 x0 (x1 ++ ([x3])) x2 (iAdd x3 1)
            else none
          else
            alibiref06_Reach_l22 x0 x1 x2 (iAdd x3 1)
        else none
      else none
    else
      some x1
  else
    some x1
partial_fixpoint
noncomputable abbrev alibiref06_Reach_l22_s (x0 : List Bool) (x1 : List Int) (x2 : Int) (x3 : Int) : St := ⟨(List.replicate 5 dead ++ (.pv (.int .i64 x2) :: .ms 0 [] 0 (List.length x0) :: (List.replicate 5 dead ++ (.ms 1 [] 0 (List.length x1) :: .pv (.int .i64 x3) :: List.replicate 81 dead)))), [.arr 0 1 (List.length x0) (encW o_bool false x0), .arr 0 1 (List.length x1) (encW o_i64 0 x1)]⟩
noncomputable abbrev alibiref06_Reach_l22_e (x0 : List Bool) (x1 : List Int) (x2 : Int) (x3 : Int) (r : (List Int)) : St := ⟨(List.replicate 12 dead ++ (.ms 0 [] 0 (List.length r) :: List.replicate 82 dead)), [.arr 0 1 (List.length r) (encW o_i64 0 r)]⟩
theorem alibiref06_Reach_l22_ok (x0 : List Bool) (x1 : List Int) (x2 : Int) (x3 : Int) (r : (List Int)) (h : alibiref06_Reach_l22 x0 x1 x2 x3 = some r) : Loops Try.prog alibiref06_Reach_l22_c 0 (alibiref06_Reach_l22_s x0 x1 x2 x3) (.exit 8) (alibiref06_Reach_l22_e x0 x1 x2 x3 r) := by
 refine alibiref06_Reach_l22.partial_correctness x0 x2 (fun x1 x3 r => Loops Try.prog alibiref06_Reach_l22_c 0 (alibiref06_Reach_l22_s x0 x1 x2 x3) (.exit 8) (alibiref06_Reach_l22_e x0 x1 x2 x3 r)) ?_ x1 x3 r h
 clear h r x1 x3
 intro self ih x1 x3 r h
 rcases if_of h with ⟨c32, h⟩ | ⟨c32, h⟩
 · rcases if_of h with ⟨c33, h⟩ | ⟨c33, h⟩
   · obtain ⟨c34, h⟩ := need_of h
     obtain ⟨c35, h⟩ := need_of h
     rcases if_of h with ⟨c36, h⟩ | ⟨c36, h⟩
     · obtain ⟨c37, h⟩ := need_of h
       exact pmore mixed lives 80 (by kernel_rfl) (pk <| pb c32 <| pk3 <| pb c33 <| pn c34 <| pn c35 <| pk <| pb c36 <| pe (eff_lit o_i64 0 2 1 1 ([x3]) rfl [] []) <| pb (whole_ok (List.length ([x3]))) <| pn c37 <| pe (eff_app o_i64 0 x1 ([x3]) (x1 ++ ([x3])) 1 1 (List.length x1) (List.length ([x3])) (fun i => List.map AV.scal (encW o_i64 0 ([x3]) i)) (encW o_i64 0 x1 (List.length x1)) [] [] [(1, false)] (by first | exact Nat.le_refl _ | exact Nat.zero_le _ | (simp only [decide_eq_true_eq, List.length_set, List.length_append, List.length_replicate, List.length_cons, List.length_nil, Nat.zero_add] at * <;> omega)) rfl (fun _ => by kernel_rfl) (congrArg o_i64 (getD_ge 0 (by first | exact Nat.le_refl _ | exact Nat.zero_le _ | (simp only [decide_eq_true_eq, List.length_set, List.length_append, List.length_replicate, List.length_cons, List.length_nil, Nat.zero_add] at * <;> omega)))) (by rw [List.take_of_length_le (by first | exact Nat.le_refl _ | exact Nat.zero_le _ | (simp only [decide_eq_true_eq, List.length_set, List.length_append, List.length_replicate, List.length_cons, List.length_nil, Nat.zero_add] at * <;> omega))])) <| pk <| pz) (ih (x1 ++ ([x3])) (iAdd x3 1) _ h)
     · exact pmore mixed lives 80 (by kernel_rfl) (pk <| pb c32 <| pk3 <| pb c33 <| pn c34 <| pn c35 <| pk <| pb c36 <| pk <| pz) (ih x1 (iAdd x3 1) _ h)
   · have h := Option.some.inj h; subst h
     exact plast mixed lives 80 (by kernel_rfl) (pk <| pb c32 <| pk3 <| pb c33 <| pz) rfl
 · have h := Option.some.inj h; subst h
   exact plast mixed lives 80 (by kernel_rfl) (pk <| pb c32 <| pk3 <| pz) rfl
/-- alibi/alibiref06.Reach -/
def alibiref06_Reach (p : api_Program) (from_ : List Int) : Option ((List Int)) :=
  if (decide ((0 : Int) ≤ (((List.length p.funcs : Nat) : Int)))) = true then
    if (decide (((((List.length p.funcs : Nat) : Int)) : Int) * ((1 : Nat) : Int) ≤ ((reach : Nat) : Int))) = true then
      bind (alibiref06_Reach_l4 (List.replicate (Int.toNat (((List.length p.funcs : Nat) : Int))) false) p.globals p.locks p.slots p.funcs from_ (((List.length p.funcs : Nat) : Int)) 0) fun v9 =>
      bind (alibiref06_Reach_l9 v9 p.globals p.locks p.slots p.funcs (((List.length p.funcs : Nat) : Int)) 0) fun v30 =>
      bind (alibiref06_Reach_l22 v30 (([] : List Int)) (((List.length p.funcs : Nat) : Int)) 0) fun v38 =>
      some v38
    else none
  else none
theorem alibiref06_Reach_ok (p : api_Program) (from_ : List Int) (r : (List Int)) (h : alibiref06_Reach p from_ = some r) : Does Try.prog 80 [.agg [.pv (.int .i64 p.globals), .pv (.int .i64 p.locks), .pv (.int .i64 p.slots), .pv (.seq (List.length p.funcs) (encP e_62 ([] : List api_Node) p.funcs))], .pv (.seq (List.length from_) (encP e_i64 0 from_))] [] (.ms 0 [] 0 (List.length r), [.arr 0 1 (List.length r) (encW o_i64 0 r)]) := by
 unfold alibiref06_Reach at h
 obtain ⟨c1, h⟩ := need_of h
 obtain ⟨c2, h⟩ := need_of h
 obtain ⟨v9, h10, h⟩ := bind_of h
 obtain ⟨v30, h31, h⟩ := bind_of h
 obtain ⟨v38, h39, h⟩ := bind_of h
 have h := Option.some.inj h; subst h
 exact pdoes mixed (L := lives) (by kernel_rfl) (pk3 <| pn c1 <| pn ((decide_eq_true rfl) : (decide (((((List.length p.funcs : Nat) : Int)) : Int) = (((List.length p.funcs : Nat) : Int)))) = true) <| pn c2 <| pe (eff_make o_bool false 1 1 (Int.toNat (((List.length p.funcs : Nat) : Int)))) <| pl (alibiref06_Reach_l4_ok _ _ _ _ _ _ _ _ _ h10) <| pl (alibiref06_Reach_l9_ok _ _ _ _ _ _ _ _ h31) <| pl (Loops.of (s1 := ⟨(List.replicate 5 dead ++ (.pv (.int .i64 (((List.length p.funcs : Nat) : Int))) :: .ms 0 [] 0 (List.length v30) :: (List.replicate 5 dead ++ (.ms 1 [] 0 (List.length ([] : List Int)) :: .pv (.int .i64 0) :: List.replicate 81 dead)))), [.arr 0 1 (List.length v30) (encW o_bool false v30), .arr 0 1 (List.length ([] : List Int)) (encW o_i64 0 (([] : List Int)))]⟩) (alibiref06_Reach_l22_ok _ _ _ _ _ h39) (by (first | rfl | (simp only [alibiref06_Reach_l22_s, List.length_set]; done)))) <| pz)
noncomputable def alibiref14_Gather_l11_c : Code := sub (codeOf Try.prog 57) [1, 1, 1, 0, 1, 0, 0, 1, 0, 0, 1, 0, 1, 0, 0, 1, 0, 0, 1, 0, 0]
def alibiref14_Gather_l11 (x0 : List Int) (x1 : List Int) (x2 : Int) (x3 : Int) (x4 : Int) (x5 : List (List api_Node)) (x6 : Int) (x7 : Int) (x8 : Int) (x9 : Bool) (x10 : Int) (x11 : Int) : Option (Bool) :=
  if (decide ((0 : Int) ≤ x10)) = true then
    if (decide ((x10 : Int) < (((List.length x0) : Nat) : Int))) = true then
      if (decide ((0 : Int) ≤ (List.getD x0 (Int.toNat x10) 0))) = true then
        if (decide (((List.getD x0 (Int.toNat x10) 0) : Int) < ((List.length x5 : Nat) : Int))) = true then
          if (decide ((x11 : Int) < (((List.length (List.getD x5 (Int.toNat (List.getD x0 (Int.toNat x10) 0)) (([] : List api_Node))) : Nat) : Int)))) = true then
            if (decide ((0 : Int) ≤ x11)) = true then
              if (decide ((x11 : Int) < ((List.length (List.getD x5 (Int.toNat (List.getD x0 (Int.toNat x10) 0)) (([] : List api_Node))) : Nat) : Int))) = true then
                if x9 = true then
                  alibiref14_Gather_l11 x0 x1 x2 x3 x4 x5 x6 x7 x8 true x10 (iAdd x11 1)
                else
                  if ((((List.getD (List.getD x5 (Int.toNat (List.getD x0 (Int.toNat x10) 0)) (([] : List api_Node))) (Int.toNat x11) d_api_Node).kind) : Int) == x6) = true then
                    alibiref14_Gather_l11 x0 x1 x2 x3 x4 x5 x6 x7 x8 ((((List.getD (List.getD x5 (Int.toNat (List.getD x0 (Int.toNat x10) 0)) (([] : List api_Node))) (Int.toNat x11) d_api_Node).arg) : Int) == x8) x10 (iAdd x11 1)
                  else
                    if ((((List.getD (List.getD x5 (Int.toNat (List.getD x0 (Int.toNat x10) 0)) (([] : List api_Node))) (Int.toNat x11) d_api_Node).kind) : Int) == x7) = true then
                      alibiref14_Gather_l11 x0 x1 x2 x3 x4 x5 x6 x7 x8 ((((List.getD (List.getD x5 (Int.toNat (List.getD x0 (Int.toNat x10) 0)) (([] : List api_Node))) (Int.toNat x11) d_api_Node).arg) : Int) == x8) x10 (iAdd x11 1)
                    else
                      alibiref14_Gather_l11 x0 x1 x2 x3 x4 x5 x6 x7 x8 false x10 (iAdd x11 1)
              else none
            else none
          else
            some x9
        else none
      else none
    else none
  else none
partial_fixpoint
noncomputable abbrev alibiref14_Gather_l11_s (x0 : List Int) (x1 : List Int) (x2 : Int) (x3 : Int) (x4 : Int) (x5 : List (List api_Node)) (x6 : Int) (x7 : Int) (x8 : Int) (x9 : Bool) (x10 : Int) (x11 : Int) : St := ⟨dead :: dead :: .pv (.int .i64 x6) :: .pv (.int .i64 x7) :: .ptr 0 [] 0 0 :: (List.replicate 4 dead ++ (.ms 1 [] 0 (List.length x0) :: .ms 2 [] 0 (List.length x1) :: .pv (.int .i64 x8) :: .pv (.bool x9) :: .pv (.int .i64 x10) :: .pv (.int .i64 x11) :: List.replicate 64 dead)), [.box 0 [.pv (.int .i64 x2), .pv (.int .i64 x3), .pv (.int .i64 x4), .pv (.seq (List.length x5) (encP e_62 ([] : List api_Node) x5))], .arr 0 1 (List.length x0) (encW o_i64 0 x0), .arr 0 1 (List.length x1) (encW o_i64 0 x1)]⟩
noncomputable abbrev alibiref14_Gather_l11_e (x0 : List Int) (x1 : List Int) (x2 : Int) (x3 : Int) (x4 : Int) (x5 : List (List api_Node)) (x6 : Int) (x7 : Int) (x8 : Int) (x9 : Bool) (x10 : Int) (x11 : Int) (r : Bool) : St := ⟨dead :: dead :: .pv (.int .i64 x6) :: .pv (.int .i64 x7) :: .ptr 0 [] 0 0 :: (List.replicate 4 dead ++ (.ms 1 [] 0 (List.length x0) :: .ms 2 [] 0 (List.length x1) :: .pv (.int .i64 x8) :: .pv (.bool r) :: .pv (.int .i64 x10) :: List.replicate 65 dead)), [.box 0 [.pv (.int .i64 x2), .pv (.int .i64 x3), .pv (.int .i64 x4), .pv (.seq (List.length x5) (encP e_62 ([] : List api_Node) x5))], .arr 0 1 (List.length x0) (encW o_i64 0 x0), .arr 0 1 (List.length x1) (encW o_i64 0 x1)]⟩
theorem alibiref14_Gather_l11_ok (x0 : List Int) (x1 : List Int) (x2 : Int) (x3 : Int) (x4 : Int) (x5 : List (List api_Node)) (x6 : Int) (x7 : Int) (x8 : Int) (x9 : Bool) (x10 : Int) (x11 : Int) (r : Bool) (h : alibiref14_Gather_l11 x0 x1 x2 x3 x4 x5 x6 x7 x8 x9 x10 x11 = some r) : Loops Try.prog alibiref14_Gather_l11_c 0 (alibiref14_Gather_l11_s x0 x1 x2 x3 x4 x5 x6 x7 x8 x9 x10 x11) (.exit 4) (alibiref14_Gather_l11_e x0 x1 x2 x3 x4 x5 x6 x7 x8 x9 x10 x11 r) := by
 refine alibiref14_Gather_l11.partial_correctness x0 x1 x2 x3 x4 x5 x6 x7 x8 x10 (fun x9 x11 r => Loops Try.prog alibiref14_Gather_l11_c 0 (alibiref14_Gather_l11_s x0 x1 x2 x3 x4 x5 x6 x7 x8 x9 x10 x11) (.exit 4) (alibiref14_Gather_l11_e x0 x1 x2 x3 x4 x5 x6 x7 x8 x9 x10 x11 r)) ?_ x9 x11 r h
 clear h r x9 x11
 intro self ih x9 x11 r h
 obtain ⟨c5, h⟩ := need_of h
 obtain ⟨c6, h⟩ := need_of h
 obtain ⟨c7, h⟩ := need_of h
 obtain ⟨c8, h⟩ := need_of h
 rcases if_of h with ⟨c9, h⟩ | ⟨c9, h⟩
 · obtain ⟨c10, h⟩ := need_of h
   obtain ⟨c11, h⟩ := need_of h
   rcases if_of h with ⟨c12, h⟩ | ⟨c12, h⟩
   · exact pmore mixed lives 57 (by kernel_rfl) (pk <| pn c5 <| pn c6 <| pk <| pn c7 <| pn c8 <| pk3 <| pb c9 <| pk <| pn c5 <| pn c6 <| pk <| pn c7 <| pn c8 <| pk <| pn c10 <| pn c11 <| pk3 <| pb c12 <| pk8 <| pk <| pz) (ih true (iAdd x11 1) _ h)
   · rcases if_of h with ⟨c13, h⟩ | ⟨c13, h⟩
     · exact pmore mixed lives 57 (by kernel_rfl) (pk <| pn c5 <| pn c6 <| pk <| pn c7 <| pn c8 <| pk3 <| pb c9 <| pk <| pn c5 <| pn c6 <| pk <| pn c7 <| pn c8 <| pk <| pn c10 <| pn c11 <| pk3 <| pb c12 <| pk6 <| pb c13 <| pk8 <| pk8 <| pz) (ih ((((List.getD (List.getD x5 (Int.toNat (List.getD x0 (Int.toNat x10) 0)) (([] : List api_Node))) (Int.toNat x11) d_api_Node).arg) : Int) == x8) (iAdd x11 1) _ h)
     · rcases if_of h with ⟨c14, h⟩ | ⟨c14, h⟩
       · exact pmore mixed lives 57 (by kernel_rfl) (pk <| pn c5 <| pn c6 <| pk <| pn c7 <| pn c8 <| pk3 <| pb c9 <| pk <| pn c5 <| pn c6 <| pk <| pn c7 <| pn c8 <| pk <| pn c10 <| pn c11 <| pk3 <| pb c12 <| pk6 <| pb c13 <| pk8 <| pb c14 <| pk8 <| pk <| pz) (ih ((((List.getD (List.getD x5 (Int.toNat (List.getD x0 (Int.toNat x10) 0)) (([] : List api_Node))) (Int.toNat x11) d_api_Node).arg) : Int) == x8) (iAdd x11 1) _ h)
       · exact pmore mixed lives 57 (by kernel_rfl) (pk <| pn c5 <| pn c6 <| pk <| pn c7 <| pn c8 <| pk3 <| pb c9 <| pk <| pn c5 <| pn c6 <| pk <| pn c7 <| pn c8 <| pk <| pn c10 <| pn c11 <| pk3 <| pb c12 <| pk6 <| pb c13 <| pk8 <| pb c14 <| pk7 <| pz) (ih false (iAdd x11 1) _ h)
 · have h := Option.some.inj h; subst h
   exact plast mixed lives 57 (by kernel_rfl) (pk <| pn c5 <| pn c6 <| pk <| pn c7 <| pn c8 <| pk3 <| pb c9 <| pz) rfl
noncomputable def alibiref14_Gather_l8_c : Code := sub (codeOf Try.prog 57) [1, 1, 1, 0, 1, 0, 0, 1, 0, 0, 1, 0, 1, 0, 0]
def alibiref14_Gather_l8 (x0 : List Int) (x1 : List Int) (x2 : Int) (x3 : Int) (x4 : Int) (x5 : List (List api_Node)) (x6 : Int) (x7 : Int) (x8 : Int) (x9 : Bool) (x10 : Int) : Option (Bool) :=
  if (decide ((x10 : Int) < ((((List.length x0) : Nat) : Int)))) = true then
    bind (alibiref14_Gather_l11 x0 x1 x2 x3 x4 x5 x6 x7 x8 x9 x10 0) fun v15 =>
    alibiref14_Gather_l8 x0 x1 x2 x3 x4 x5 x6 x7 x8 v15 (iAdd x10 1)
  else
    some x9
partial_fixpoint
noncomputable abbrev alibiref14_Gather_l8_s (x0 : List Int) (x1 : List Int) (x2 : Int) (x3 : Int) (x4 : Int) (x5 : List (List api_Node)) (x6 : Int) (x7 : Int) (x8 : Int) (x9 : Bool) (x10 : Int) : St := ⟨dead :: dead :: .pv (.int .i64 x6) :: .pv (.int .i64 x7) :: .ptr 0 [] 0 0 :: (List.replicate 4 dead ++ (.ms 1 [] 0 (List.length x0) :: .ms 2 [] 0 (List.length x1) :: .pv (.int .i64 x8) :: .pv (.bool x9) :: .pv (.int .i64 x10) :: List.replicate 65 dead)), [.box 0 [.pv (.int .i64 x2), .pv (.int .i64 x3), .pv (.int .i64 x4), .pv (.seq (List.length x5) (encP e_62 ([] : List api_Node) x5))], .arr 0 1 (List.length x0) (encW o_i64 0 x0), .arr 0 1 (List.length x1) (encW o_i64 0 x1)]⟩
noncomputable abbrev alibiref14_Gather_l8_e (x0 : List Int) (x1 : List Int) (x2 : Int) (x3 : Int) (x4 : Int) (x5 : List (List api_Node)) (x6 : Int) (x7 : Int) (x8 : Int) (x9 : Bool) (x10 : Int) (r : Bool) : St := ⟨dead :: dead :: .pv (.int .i64 x6) :: .pv (.int .i64 x7) :: .ptr 0 [] 0 0 :: (List.replicate 4 dead ++ (.ms 1 [] 0 (List.length x0) :: .ms 2 [] 0 (List.length x1) :: .pv (.int .i64 x8) :: .pv (.bool r) :: List.replicate 66 dead)), [.box 0 [.pv (.int .i64 x2), .pv (.int .i64 x3), .pv (.int .i64 x4), .pv (.seq (List.length x5) (encP e_62 ([] : List api_Node) x5))], .arr 0 1 (List.length x0) (encW o_i64 0 x0), .arr 0 1 (List.length x1) (encW o_i64 0 x1)]⟩
theorem alibiref14_Gather_l8_ok (x0 : List Int) (x1 : List Int) (x2 : Int) (x3 : Int) (x4 : Int) (x5 : List (List api_Node)) (x6 : Int) (x7 : Int) (x8 : Int) (x9 : Bool) (x10 : Int) (r : Bool) (h : alibiref14_Gather_l8 x0 x1 x2 x3 x4 x5 x6 x7 x8 x9 x10 = some r) : Loops Try.prog alibiref14_Gather_l8_c 0 (alibiref14_Gather_l8_s x0 x1 x2 x3 x4 x5 x6 x7 x8 x9 x10) (.exit 2) (alibiref14_Gather_l8_e x0 x1 x2 x3 x4 x5 x6 x7 x8 x9 x10 r) := by
 refine alibiref14_Gather_l8.partial_correctness x0 x1 x2 x3 x4 x5 x6 x7 x8 (fun x9 x10 r => Loops Try.prog alibiref14_Gather_l8_c 0 (alibiref14_Gather_l8_s x0 x1 x2 x3 x4 x5 x6 x7 x8 x9 x10) (.exit 2) (alibiref14_Gather_l8_e x0 x1 x2 x3 x4 x5 x6 x7 x8 x9 x10 r)) ?_ x9 x10 r h
 clear h r x9 x10
 intro self ih x9 x10 r h
 rcases if_of h with ⟨c4, h⟩ | ⟨c4, h⟩
 · obtain ⟨v15, h16, h⟩ := bind_of h
   exact pmore mixed lives 57 (by kernel_rfl) (pk2 <| pb c4 <| pl (alibiref14_Gather_l11_ok _ _ _ _ _ _ _ _ _ _ _ _ _ h16) <| pk <| pz) (ih v15 (iAdd x10 1) _ h)
 · have h := Option.some.inj h; subst h
   exact plast mixed lives 57 (by kernel_rfl) (pk2 <| pb c4 <| pz) rfl
noncomputable def alibiref14_Gather_l4_c : Code := sub (codeOf Try.prog 57) [1, 1, 1, 0, 1, 0, 0]
def alibiref14_Gather_l4 (x0 : List Int) (x1 : List Int) (x2 : Int) (x3 : Int) (x4 : Int) (x5 : List (List api_Node)) (x6 : Int) (x7 : Int) (x8 : Int) : Option ((List Int)) :=
  if (decide ((x8 : Int) < 32)) = true then
    bind (alibiref14_Gather_l8 x0 x1 x2 x3 x4 x5 x6 x7 x8 false 0) fun v17 =>
    if v17 = true then
      if (Nat.ble ((List.length x1 + List.length ([x8])) * 8) reach) = true then
        alibiref14_Gather_l4 x0 (x1 ++ ([x8])) x2 x3 x4 x5 x6 x7 (iAdd x8 1)
      else none
    else
      alibiref14_Gather_l4 x0 x1 x2 x3 x4 x5 x6 x7 (iAdd x8 1)
  else
    some x1
partial_fixpoint
noncomputable abbrev alibiref14_Gather_l4_s (x0 : List Int) (x1 : List Int) (x2 : Int) (x3 : Int) (x4 : Int) (x5 : List (List api_Node)) (x6 : Int) (x7 : Int) (x8 : Int) : St := ⟨dead :: dead :: .pv (.int .i64 x6) :: .pv (.int .i64 x7) :: .ptr 0 [] 0 0 :: (List.replicate 4 dead ++ (.ms 1 [] 0 (List.length x0) :: .ms 2 [] 0 (List.length x1) :: .pv (.int .i64 x8) :: List.replicate 67 dead)), [.box 0 [.pv (.int .i64 x2), .pv (.int .i64 x3), .pv (.int .i64 x4), .pv (.seq (List.length x5) (encP e_62 ([] : List api_Node) x5))], .arr 0 1 (List.length x0) (encW o_i64 0 x0), .arr 0 1 (List.length x1) (encW o_i64 0 x1)]⟩
noncomputable abbrev alibiref14_Gather_l4_e (x0 : List Int) (x1 : List Int) (x2 : Int) (x3 : Int) (x4 : Int) (x5 : List (List api_Node)) (x6 : Int) (x7 : Int) (x8 : Int) (r : (List Int)) : St := ⟨(List.replicate 10 dead ++ (.ms 0 [] 0 (List.length r) :: List.replicate 68 dead)), [.arr 0 1 (List.length r) (encW o_i64 0 r)]⟩
theorem alibiref14_Gather_l4_ok (x0 : List Int) (x1 : List Int) (x2 : Int) (x3 : Int) (x4 : Int) (x5 : List (List api_Node)) (x6 : Int) (x7 : Int) (x8 : Int) (r : (List Int)) (h : alibiref14_Gather_l4 x0 x1 x2 x3 x4 x5 x6 x7 x8 = some r) : Loops Try.prog alibiref14_Gather_l4_c 0 (alibiref14_Gather_l4_s x0 x1 x2 x3 x4 x5 x6 x7 x8) (.exit 0) (alibiref14_Gather_l4_e x0 x1 x2 x3 x4 x5 x6 x7 x8 r) := by
 refine alibiref14_Gather_l4.partial_correctness x0 x2 x3 x4 x5 x6 x7 (fun x1 x8 r => Loops Try.prog alibiref14_Gather_l4_c 0 (alibiref14_Gather_l4_s x0 x1 x2 x3 x4 x5 x6 x7 x8) (.exit 0) (alibiref14_Gather_l4_e x0 x1 x2 x3 x4 x5 x6 x7 x8 r)) ?_ x1 x8 r h
 clear h r x1 x8
 intro self ih x1 x8 r h
 rcases if_of h with ⟨c3, h⟩ | ⟨c3, h⟩
 · obtain ⟨v17, h18, h⟩ := bind_of h
   rcases if_of h with ⟨c19, h⟩ | ⟨c19, h⟩
   · obtain ⟨c20, h⟩ := need_of h
     exact pmore mixed lives 57 (by kernel_rfl) (pk <| pb c3 <| pl (alibiref14_Gather_l8_ok _ _ _ _ _ _ _ _ _ _ _ _ h18) <| pb c19 <| pe (eff_lit o_i64 0 3 1 1 ([x8]) rfl [] []) <| pb (whole_ok (List.length ([x8]))) <| pn c20 <| pe (eff_app o_i64 0 x1 ([x8]) (x1 ++ ([x8])) 2 1 (List.length x1) (List.length ([x8])) (fun i => List.map AV.scal (encW o_i64 0 ([x8]) i)) (encW o_i64 0 x1 (List.length x1)) [] [] [(2, false)] (by first | exact Nat.le_refl _ | exact Nat.zero_le _ | (simp only [decide_eq_true_eq, List.length_set, List.length_append, List.length_replicate, List.length_cons, List.length_nil, Nat.zero_add] at * <;> omega)) rfl (fun _ => by kernel_rfl) (congrArg o_i64 (getD_ge 0 (by first | exact Nat.le_refl _ | exact Nat.zero_le _ | (simp only [decide_eq_true_eq, List.length_set, List.length_append, List.length_replicate, List.length_cons, List.length_nil, Nat.zero_add] at * <;> omega)))) (by rw [List.take_of_length_le (by first | exact Nat.le_refl _ | exact Nat.zero_le _ | (simp only [decide_eq_true_eq, List.length_set, List.length_append, List.length_replicate, List.length_cons, List.length_nil, Nat.zero_add] at * <;> omega))])) <| pk <| pz) (ih (x1 ++ ([x8])) (iAdd x8 1) _ h)
   · exact pmore mixed lives 57 (by kernel_rfl) (pk <| pb c3 <| pl (alibiref14_Gather_l8_ok _ _ _ _ _ _ _ _ _ _ _ _ h18) <| pb c19 <| pk <| pz) (ih x1 (iAdd x8 1) _ h)
 · have h := Option.some.inj h; subst h
   exact plast mixed lives 57 (by kernel_rfl) (pk <| pb c3 <| pz) rfl
/-- alibi/alibiref14.Gather -/
def alibiref14_Gather (p : api_Program) (f : Int) (kind : Int) (other : Int) : Option ((List Int)) :=
  bind (alibiref06_Reach p ([f])) fun v1 =>
  bind (alibiref14_Gather_l4 v1 (([] : List Int)) p.globals p.locks p.slots p.funcs kind other 0) fun v21 =>
  some v21
theorem alibiref14_Gather_ok (p : api_Program) (f : Int) (kind : Int) (other : Int) (r : (List Int)) (h : alibiref14_Gather p f kind other = some r) : Does Try.prog 57 [.agg [.pv (.int .i64 p.globals), .pv (.int .i64 p.locks), .pv (.int .i64 p.slots), .pv (.seq (List.length p.funcs) (encP e_62 ([] : List api_Node) p.funcs))], .pv (.int .i64 f), .pv (.int .i64 kind), .pv (.int .i64 other)] [] (.ms 0 [] 0 (List.length r), [.arr 0 1 (List.length r) (encW o_i64 0 r)]) := by
 unfold alibiref14_Gather at h
 obtain ⟨v1, h2, h⟩ := bind_of h
 obtain ⟨v21, h22, h⟩ := bind_of h
 have h := Option.some.inj h; subst h
 exact pdoes mixed (L := lives) (by kernel_rfl) (pk2 <| pe (eff_lit o_i64 0 1 1 1 ([f]) rfl [] []) <| pb (whole_ok (List.length ([f]))) <| pc (alibiref06_Reach_ok _ _ _ h2) <| pk <| pl (Loops.of (s1 := ⟨dead :: dead :: .pv (.int .i64 kind) :: .pv (.int .i64 other) :: .ptr 0 [] 0 0 :: (List.replicate 4 dead ++ (.ms 1 [] 0 (List.length v1) :: .ms 2 [] 0 (List.length ([] : List Int)) :: .pv (.int .i64 0) :: List.replicate 67 dead)), [.box 0 [.pv (.int .i64 p.globals), .pv (.int .i64 p.locks), .pv (.int .i64 p.slots), .pv (.seq (List.length p.funcs) (encP e_62 ([] : List api_Node) p.funcs))], .arr 0 1 (List.length v1) (encW o_i64 0 v1), .arr 0 1 (List.length ([] : List Int)) (encW o_i64 0 (([] : List Int)))]⟩) (alibiref14_Gather_l4_ok _ _ _ _ _ _ _ _ _ _ h22) (by (first | rfl | (simp only [alibiref14_Gather_l4_s, List.length_set]; done)))) <| pz)
/-- alibi/alibiref05.Succ -/
def alibiref05_Succ (n1 : api_Node) : Option ((List Int)) :=
  if ((n1.kind : Int) == 9) = true then
    some (([] : List Int))
  else
    if ((n1.kind : Int) == 8) = true then
      some ([n1.next, n1.alt])
    else
      some ([n1.next])
theorem alibiref05_Succ_ok (n1 : api_Node) (r : (List Int)) (h : alibiref05_Succ n1 = some r) : Does Try.prog 37 [.agg [.pv (.int .i64 n1.kind), .pv (.int .i64 n1.arg), .pv (.int .i64 n1.next), .pv (.int .i64 n1.alt)]] [] (.ms 0 [] 0 (List.length r), [.arr 0 1 (List.length r) (encW o_i64 0 r)]) := by
 unfold alibiref05_Succ at h
 rcases if_of h with ⟨c1, h⟩ | ⟨c1, h⟩
 · have h := Option.some.inj h; subst h
   refine Does.eq (pdoes mixed (L := lives) (r := (.ms 0 [] 0 (List.length ([] : List Int)), [.arr 0 1 (List.length ([] : List Int)) (encW o_i64 0 (([] : List Int)))])) (by kernel_rfl) (pk3 <| pb c1 <| pz)) ?_
   (first | rfl | (simp only [List.length_set]; done))
 · rcases if_of h with ⟨c2, h⟩ | ⟨c2, h⟩
   · have h := Option.some.inj h; subst h
     exact pdoes mixed (L := lives) (by kernel_rfl) (pk3 <| pb c1 <| pk2 <| pb c2 <| pk2 <| pe (eff_lit o_i64 0 1 1 2 ([n1.next, n1.alt]) rfl [] []) <| pz)
   · have h := Option.some.inj h; subst h
     exact pdoes mixed (L := lives) (by kernel_rfl) (pk3 <| pb c1 <| pk2 <| pb c2 <| pk <| pe (eff_lit o_i64 0 1 1 1 ([n1.next]) rfl [] []) <| pz)
/-- alibi/alibiref16.Behind -/
def alibiref16_Behind (n1 : api_Node) (live : BitVec 32) (exit : BitVec 32) (lost : Int) (begins : Bool) (id : Int) : Option (Bool) :=
  bind (alibiref03_Has live id) fun v1 =>
  if ((n1.kind : Int) == 5) = true then
    if v1 = true then
      some true
    else
      if ((id : Int) == n1.alt) = true then
        some true
      else
        if ((id : Int) == lost) = true then
          if begins = true then
            some true
          else
            bind (alibiref03_Has live n1.alt) fun v8 =>
            some v8
        else
          some false
  else
    if ((n1.kind : Int) == 6) = true then
      if v1 = true then
        some ((id : Int) != n1.arg)
      else
        some false
    else
      if ((n1.kind : Int) == 7) = true then
        bind (alibiref03_Has exit id) fun v13 =>
        some v13
      else
        some v1
theorem alibiref16_Behind_ok (n1 : api_Node) (live : BitVec 32) (exit : BitVec 32) (lost : Int) (begins : Bool) (id : Int) (r : Bool) (h : alibiref16_Behind n1 live exit lost begins id = some r) : Does Try.prog 58 [.agg [.pv (.int .i64 n1.kind), .pv (.int .i64 n1.arg), .pv (.int .i64 n1.next), .pv (.int .i64 n1.alt)], .pv (.int .u32 (BitVec.toNat live : Nat)), .pv (.int .u32 (BitVec.toNat exit : Nat)), .pv (.int .i64 lost), .pv (.bool begins), .pv (.int .i64 id)] [] (.pv (.bool r), []) := by
 unfold alibiref16_Behind at h
 obtain ⟨v1, h2, h⟩ := bind_of h
 rcases if_of h with ⟨c3, h⟩ | ⟨c3, h⟩
 · rcases if_of h with ⟨c4, h⟩ | ⟨c4, h⟩
   · have h := Option.some.inj h; subst h
     exact pdoes mixed (L := lives) (by kernel_rfl) (pk <| pc (alibiref03_Has_ok _ _ _ h2) <| pk3 <| pb c3 <| pb c4 <| pk8 <| pk2 <| pz)
   · rcases if_of h with ⟨c5, h⟩ | ⟨c5, h⟩
     · have h := Option.some.inj h; subst h
       exact pdoes mixed (L := lives) (by kernel_rfl) (pk <| pc (alibiref03_Has_ok _ _ _ h2) <| pk3 <| pb c3 <| pb c4 <| pk6 <| pb c5 <| pk5 <| pz)
     · rcases if_of h with ⟨c6, h⟩ | ⟨c6, h⟩
       · rcases if_of h with ⟨c7, h⟩ | ⟨c7, h⟩
         · have h := Option.some.inj h; subst h
           exact pdoes mixed (L := lives) (by kernel_rfl) (pk <| pc (alibiref03_Has_ok _ _ _ h2) <| pk3 <| pb c3 <| pb c4 <| pk6 <| pb c5 <| pk4 <| pb c6 <| pk <| pb c7 <| pk8 <| pz)
         · obtain ⟨v8, h9, h⟩ := bind_of h
           have h := Option.some.inj h; subst h
           exact pdoes mixed (L := lives) (by kernel_rfl) (pk <| pc (alibiref03_Has_ok _ _ _ h2) <| pk3 <| pb c3 <| pb c4 <| pk6 <| pb c5 <| pk4 <| pb c6 <| pk <| pb c7 <| pk4 <| pc (alibiref03_Has_ok _ _ _ h9) <| pk6 <| pz)
       · have h := Option.some.inj h; subst h
         exact pdoes mixed (L := lives) (by kernel_rfl) (pk <| pc (alibiref03_Has_ok _ _ _ h2) <| pk3 <| pb c3 <| pb c4 <| pk6 <| pb c5 <| pk4 <| pb c6 <| pk5 <| pz)
 · rcases if_of h with ⟨c10, h⟩ | ⟨c10, h⟩
   · rcases if_of h with ⟨c11, h⟩ | ⟨c11, h⟩
     · have h := Option.some.inj h; subst h
       exact pdoes mixed (L := lives) (by kernel_rfl) (pk <| pc (alibiref03_Has_ok _ _ _ h2) <| pk3 <| pb c3 <| pk <| pb c10 <| pb c11 <| pk6 <| pz)
     · have h := Option.some.inj h; subst h
       exact pdoes mixed (L := lives) (by kernel_rfl) (pk <| pc (alibiref03_Has_ok _ _ _ h2) <| pk3 <| pb c3 <| pk <| pb c10 <| pb c11 <| pk4 <| pz)
   · rcases if_of h with ⟨c12, h⟩ | ⟨c12, h⟩
     · obtain ⟨v13, h14, h⟩ := bind_of h
       have h := Option.some.inj h; subst h
       exact pdoes mixed (L := lives) (by kernel_rfl) (pk <| pc (alibiref03_Has_ok _ _ _ h2) <| pk3 <| pb c3 <| pk <| pb c10 <| pk <| pb c12 <| pc (alibiref03_Has_ok _ _ _ h14) <| pk <| pz)
     · have h := Option.some.inj h; subst h
       exact pdoes mixed (L := lives) (by kernel_rfl) (pk <| pc (alibiref03_Has_ok _ _ _ h2) <| pk3 <| pb c3 <| pk <| pb c10 <| pk <| pb c12 <| pz)
noncomputable def alibiref16_Node_l20_c : Code := sub (codeOf Try.prog 63) [1, 1, 1, 1, 1, 1, 1, 1, 1, 0, 1, 0, 0, 1, 0, 0, 1, 0, 0]
inductive alibiref16_Node_l20_R where
  | x0 (v0 : Int)
  | x1
def alibiref16_Node_l20_R.ex : alibiref16_Node_l20_R → Ex
  | .x0 _ => .ret
  | .x1 => .exit 2
noncomputable def alibiref16_Node_l20_R.st (x0 : List Int) (x1 : Int) (x2 : Int) (x3 : Int) (x4 : List (List api_Node)) (x5 : Int) (x6 : Int) (x7 : Int) (x8 : Int) (x9 : List api_Section) (x10 : Int) (x11 : BitVec 32) (x12 : BitVec 32) (x13 : Bool) (x14 : Int) (x15 : Int) : alibiref16_Node_l20_R → St
  | .x0 v0 => ⟨dead :: .pv (.seq (List.length x9) (encP e_api_Section d_api_Section x9)) :: .pv (.int .i64 x10) :: dead :: .ptr 0 [] 0 0 :: dead :: dead :: dead :: .pv (.int .i64 v0) :: .ptr 1 [] 0 0 :: .pv (.int .u32 (BitVec.toNat x11 : Nat)) :: .pv (.int .u32 (BitVec.toNat x12 : Nat)) :: .pv (.bool x13) :: .ms 2 [] 0 (List.length x0) :: .pv (.int .i64 x14) :: List.replicate 103 dead, [.box 0 [.pv (.int .i64 x1), .pv (.int .i64 x2), .pv (.int .i64 x3), .pv (.seq (List.length x4) (encP e_62 ([] : List api_Node) x4))], .box 0 [.pv (.int .i64 x5), .pv (.int .i64 x6), .pv (.int .i64 x7), .pv (.int .i64 x8)], .arr 0 1 (List.length x0) (encW o_i64 0 x0)]⟩
  | .x1 => ⟨dead :: .pv (.seq (List.length x9) (encP e_api_Section d_api_Section x9)) :: .pv (.int .i64 x10) :: dead :: .ptr 0 [] 0 0 :: (List.replicate 4 dead ++ (.ptr 1 [] 0 0 :: .pv (.int .u32 (BitVec.toNat x11 : Nat)) :: .pv (.int .u32 (BitVec.toNat x12 : Nat)) :: .pv (.bool x13) :: .ms 2 [] 0 (List.length x0) :: .pv (.int .i64 x14) :: List.replicate 103 dead)), [.box 0 [.pv (.int .i64 x1), .pv (.int .i64 x2), .pv (.int .i64 x3), .pv (.seq (List.length x4) (encP e_62 ([] : List api_Node) x4))], .box 0 [.pv (.int .i64 x5), .pv (.int .i64 x6), .pv (.int .i64 x7), .pv (.int .i64 x8)], .arr 0 1 (List.length x0) (encW o_i64 0 x0)]⟩
def alibiref16_Node_l20 (x0 : List Int) (x1 : Int) (x2 : Int) (x3 : Int) (x4 : List (List api_Node)) (x5 : Int) (x6 : Int) (x7 : Int) (x8 : Int) (x9 : List api_Section) (x10 : Int) (x11 : BitVec 32) (x12 : BitVec 32) (x13 : Bool) (x14 : Int) (x15 : Int) : Option (alibiref16_Node_l20_R) :=
  if (decide ((x15 : Int) < 32)) = true then
    bind (alibiref16_Behind (api_Node.mk x5 x6 x7 x8) x11 x12 x3 x13 x15) fun v27 =>
    if v27 = true then
      if (decide ((0 : Int) ≤ x10)) = true then
        if (decide ((x10 : Int) < ((List.length x9 : Nat) : Int))) = true then
          if (decide ((0 : Int) ≤ x14)) = true then
            if (decide ((x14 : Int) < (((List.length x0) : Nat) : Int))) = true then
              if (decide ((0 : Int) ≤ (List.getD x0 (Int.toNat x14) 0))) = true then
                if (decide (((List.getD x0 (Int.toNat x14) 0) : Int) < ((List.length ((List.getD x9 (Int.toNat x10) d_api_Section).live) : Nat) : Int))) = true then
                  bind (alibiref03_Has (List.getD ((List.getD x9 (Int.toNat x10) d_api_Section).live) (Int.toNat (List.getD x0 (Int.toNat x14) 0)) (0#32)) x15) fun v36 =>
                  if (!v36) = true then
                    some (.x0 6)
                  else
                    alibiref16_Node_l20 x0 x1 x2 x3 x4 x5 x6 x7 x8 x9 x10 x11 x12 x13 x14 (iAdd x15 1)
                else none
              else none
            else none
          else none
        else none
      else none
    else
      alibiref16_Node_l20 x0 x1 x2 x3 x4 x5 x6 x7 x8 x9 x10 x11 x12 x13 x14 (iAdd x15 1)
  else
    some (.x1)
partial_fixpoint
noncomputable abbrev alibiref16_Node_l20_s (x0 : List Int) (x1 : Int) (x2 : Int) (x3 : Int) (x4 : List (List api_Node)) (x5 : Int) (x6 : Int) (x7 : Int) (x8 : Int) (x9 : List api_Section) (x10 : Int) (x11 : BitVec 32) (x12 : BitVec 32) (x13 : Bool) (x14 : Int) (x15 : Int) : St := ⟨dead :: .pv (.seq (List.length x9) (encP e_api_Section d_api_Section x9)) :: .pv (.int .i64 x10) :: dead :: .ptr 0 [] 0 0 :: (List.replicate 4 dead ++ (.ptr 1 [] 0 0 :: .pv (.int .u32 (BitVec.toNat x11 : Nat)) :: .pv (.int .u32 (BitVec.toNat x12 : Nat)) :: .pv (.bool x13) :: .ms 2 [] 0 (List.length x0) :: .pv (.int .i64 x14) :: .pv (.int .i64 x15) :: List.replicate 102 dead)), [.box 0 [.pv (.int .i64 x1), .pv (.int .i64 x2), .pv (.int .i64 x3), .pv (.seq (List.length x4) (encP e_62 ([] : List api_Node) x4))], .box 0 [.pv (.int .i64 x5), .pv (.int .i64 x6), .pv (.int .i64 x7), .pv (.int .i64 x8)], .arr 0 1 (List.length x0) (encW o_i64 0 x0)]⟩
theorem alibiref16_Node_l20_ok (x0 : List Int) (x1 : Int) (x2 : Int) (x3 : Int) (x4 : List (List api_Node)) (x5 : Int) (x6 : Int) (x7 : Int) (x8 : Int) (x9 : List api_Section) (x10 : Int) (x11 : BitVec 32) (x12 : BitVec 32) (x13 : Bool) (x14 : Int) (x15 : Int) (r : alibiref16_Node_l20_R) (h : alibiref16_Node_l20 x0 x1 x2 x3 x4 x5 x6 x7 x8 x9 x10 x11 x12 x13 x14 x15 = some r) : Loops Try.prog alibiref16_Node_l20_c 0 (alibiref16_Node_l20_s x0 x1 x2 x3 x4 x5 x6 x7 x8 x9 x10 x11 x12 x13 x14 x15) r.ex (alibiref16_Node_l20_R.st x0 x1 x2 x3 x4 x5 x6 x7 x8 x9 x10 x11 x12 x13 x14 x15 r) := by
 refine alibiref16_Node_l20.partial_correctness x0 x1 x2 x3 x4 x5 x6 x7 x8 x9 x10 x11 x12 x13 x14 (fun x15 r => Loops Try.prog alibiref16_Node_l20_c 0 (alibiref16_Node_l20_s x0 x1 x2 x3 x4 x5 x6 x7 x8 x9 x10 x11 x12 x13 x14 x15) r.ex (alibiref16_Node_l20_R.st x0 x1 x2 x3 x4 x5 x6 x7 x8 x9 x10 x11 x12 x13 x14 x15 r)) ?_ x15 r h
 clear h r x15
 intro self ih x15 r h
 rcases if_of h with ⟨c26, h⟩ | ⟨c26, h⟩
 · obtain ⟨v27, h28, h⟩ := bind_of h
   rcases if_of h with ⟨c29, h⟩ | ⟨c29, h⟩
   · obtain ⟨c30, h⟩ := need_of h
     obtain ⟨c31, h⟩ := need_of h
     obtain ⟨c32, h⟩ := need_of h
     obtain ⟨c33, h⟩ := need_of h
     obtain ⟨c34, h⟩ := need_of h
     obtain ⟨c35, h⟩ := need_of h
     obtain ⟨v36, h37, h⟩ := bind_of h
     rcases if_of h with ⟨c38, h⟩ | ⟨c38, h⟩
     · have h := Option.some.inj h; subst h
       exact plast mixed lives 63 (by kernel_rfl) (pk <| pb c26 <| pk2 <| pc (alibiref16_Behind_ok _ _ _ _ _ _ _ h28) <| pk <| pb c29 <| pk2 <| pn c30 <| pn c31 <| pk6 <| pn c32 <| pn c33 <| pk3 <| pn c34 <| pn c35 <| pk4 <| pc (alibiref03_Has_ok _ _ _ h37) <| pk4 <| pb c38 <| pz) rfl
     · exact pmore mixed lives 63 (by kernel_rfl) (pk <| pb c26 <| pk2 <| pc (alibiref16_Behind_ok _ _ _ _ _ _ _ h28) <| pk <| pb c29 <| pk2 <| pn c30 <| pn c31 <| pk6 <| pn c32 <| pn c33 <| pk3 <| pn c34 <| pn c35 <| pk4 <| pc (alibiref03_Has_ok _ _ _ h37) <| pk4 <| pb c38 <| pk <| pz) (ih (iAdd x15 1) _ h)
   · exact pmore mixed lives 63 (by kernel_rfl) (pk <| pb c26 <| pk2 <| pc (alibiref16_Behind_ok _ _ _ _ _ _ _ h28) <| pk <| pb c29 <| pk8 <| pk8 <| pz) (ih (iAdd x15 1) _ h)
 · have h := Option.some.inj h; subst h
   exact plast mixed lives 63 (by kernel_rfl) (pk <| pb c26 <| pz) rfl
noncomputable def alibiref16_Node_l17_c : Code := sub (codeOf Try.prog 63) [1, 1, 1, 1, 1, 1, 1, 1, 1, 0, 1, 0, 0]
inductive alibiref16_Node_l17_R where
  | x0 (v0 : Int)
  | x1
def alibiref16_Node_l17_R.ex : alibiref16_Node_l17_R → Ex
  | .x0 _ => .ret
  | .x1 => .exit 0
noncomputable def alibiref16_Node_l17_R.st (x0 : List Int) (x1 : Int) (x2 : Int) (x3 : Int) (x4 : List (List api_Node)) (x5 : Int) (x6 : Int) (x7 : Int) (x8 : Int) (x9 : List api_Section) (x10 : Int) (x11 : BitVec 32) (x12 : BitVec 32) (x13 : Bool) (x14 : Int) : alibiref16_Node_l17_R → St
  | .x0 v0 => ⟨(List.replicate 8 dead ++ (.pv (.int .i64 v0) :: List.replicate 109 dead)), []⟩
  | .x1 => ⟨List.replicate 118 dead, []⟩
def alibiref16_Node_l17 (x0 : List Int) (x1 : Int) (x2 : Int) (x3 : Int) (x4 : List (List api_Node)) (x5 : Int) (x6 : Int) (x7 : Int) (x8 : Int) (x9 : List api_Section) (x10 : Int) (x11 : BitVec 32) (x12 : BitVec 32) (x13 : Bool) (x14 : Int) : Option (alibiref16_Node_l17_R) :=
  if (decide ((x14 : Int) < ((((List.length x0) : Nat) : Int)))) = true then
    bind (alibiref16_Node_l20 x0 x1 x2 x3 x4 x5 x6 x7 x8 x9 x10 x11 x12 x13 x14 0) fun q => match q with
      | .x0 v39 =>
        some (.x0 v39)
      | .x1 =>
        alibiref16_Node_l17 x0 x1 x2 x3 x4 x5 x6 x7 x8 x9 x10 x11 x12 x13 (iAdd x14 1)
  else
    some (.x1)
partial_fixpoint
noncomputable abbrev alibiref16_Node_l17_s (x0 : List Int) (x1 : Int) (x2 : Int) (x3 : Int) (x4 : List (List api_Node)) (x5 : Int) (x6 : Int) (x7 : Int) (x8 : Int) (x9 : List api_Section) (x10 : Int) (x11 : BitVec 32) (x12 : BitVec 32) (x13 : Bool) (x14 : Int) : St := ⟨dead :: .pv (.seq (List.length x9) (encP e_api_Section d_api_Section x9)) :: .pv (.int .i64 x10) :: dead :: .ptr 0 [] 0 0 :: (List.replicate 4 dead ++ (.ptr 1 [] 0 0 :: .pv (.int .u32 (BitVec.toNat x11 : Nat)) :: .pv (.int .u32 (BitVec.toNat x12 : Nat)) :: .pv (.bool x13) :: .ms 2 [] 0 (List.length x0) :: .pv (.int .i64 x14) :: List.replicate 103 dead)), [.box 0 [.pv (.int .i64 x1), .pv (.int .i64 x2), .pv (.int .i64 x3), .pv (.seq (List.length x4) (encP e_62 ([] : List api_Node) x4))], .box 0 [.pv (.int .i64 x5), .pv (.int .i64 x6), .pv (.int .i64 x7), .pv (.int .i64 x8)], .arr 0 1 (List.length x0) (encW o_i64 0 x0)]⟩
theorem alibiref16_Node_l17_ok (x0 : List Int) (x1 : Int) (x2 : Int) (x3 : Int) (x4 : List (List api_Node)) (x5 : Int) (x6 : Int) (x7 : Int) (x8 : Int) (x9 : List api_Section) (x10 : Int) (x11 : BitVec 32) (x12 : BitVec 32) (x13 : Bool) (x14 : Int) (r : alibiref16_Node_l17_R) (h : alibiref16_Node_l17 x0 x1 x2 x3 x4 x5 x6 x7 x8 x9 x10 x11 x12 x13 x14 = some r) : Loops Try.prog alibiref16_Node_l17_c 0 (alibiref16_Node_l17_s x0 x1 x2 x3 x4 x5 x6 x7 x8 x9 x10 x11 x12 x13 x14) r.ex (alibiref16_Node_l17_R.st x0 x1 x2 x3 x4 x5 x6 x7 x8 x9 x10 x11 x12 x13 x14 r) := by
 refine alibiref16_Node_l17.partial_correctness x0 x1 x2 x3 x4 x5 x6 x7 x8 x9 x10 x11 x12 x13 (fun x14 r => Loops Try.prog alibiref16_Node_l17_c 0 (alibiref16_Node_l17_s x0 x1 x2 x3 x4 x5 x6 x7 x8 x9 x10 x11 x12 x13 x14) r.ex (alibiref16_Node_l17_R.st x0 x1 x2 x3 x4 x5 x6 x7 x8 x9 x10 x11 x12 x13 x14 r)) ?_ x14 r h
 clear h r x14
 intro self ih x14 r h
 rcases if_of h with ⟨c25, h⟩ | ⟨c25, h⟩
 · obtain ⟨q, hq, h⟩ := bind_of h
   cases q with
   | x0 v39 =>
    have h40 := hq; clear hq
    try dsimp only at h
    have h := Option.some.inj h; subst h
    exact plast mixed lives 63 (by kernel_rfl) (pk2 <| pb c25 <| pl (alibiref16_Node_l20_ok _ _ _ _ _ _ _ _ _ _ _ _ _ _ _ _ _ h40) <| pz) rfl
   | x1 =>
    have h41 := hq; clear hq
    try dsimp only at h
    exact pmore mixed lives 63 (by kernel_rfl) (pk2 <| pb c25 <| pl (alibiref16_Node_l20_ok _ _ _ _ _ _ _ _ _ _ _ _ _ _ _ _ _ h41) <| pk <| pz) (ih (iAdd x14 1) _ h)
 · have h := Option.some.inj h; subst h
   exact plast mixed lives 63 (by kernel_rfl) (pk2 <| pb c25 <| pz) rfl
/-- alibi/alibiref16.Node -/
def alibiref16_Node (p : api_Program) (l : List api_Section) (f : Int) (i : Int) : Option (Int) :=
  if (decide ((0 : Int) ≤ f)) = true then
    if (decide ((f : Int) < ((List.length p.funcs : Nat) : Int))) = true then
      if (decide ((0 : Int) ≤ i)) = true then
        if (decide ((i : Int) < ((List.length (List.getD p.funcs (Int.toNat f) (([] : List api_Node))) : Nat) : Int))) = true then
          if (decide ((f : Int) < ((List.length l : Nat) : Int))) = true then
            if (decide ((i : Int) < ((List.length ((List.getD l (Int.toNat f) d_api_Section).live) : Nat) : Int))) = true then
              if ((((List.getD (List.getD p.funcs (Int.toNat f) (([] : List api_Node))) (Int.toNat i) d_api_Node).kind) : Int) == 7) = true then
                if (decide ((0 : Int) ≤ ((List.getD (List.getD p.funcs (Int.toNat f) (([] : List api_Node))) (Int.toNat i) d_api_Node).arg))) = true then
                  if (decide ((((List.getD (List.getD p.funcs (Int.toNat f) (([] : List api_Node))) (Int.toNat i) d_api_Node).arg) : Int) < ((List.length l : Nat) : Int))) = true then
                    bind (alibiref03_Within (List.getD ((List.getD l (Int.toNat f) d_api_Section).live) (Int.toNat i) (0#32)) ((List.getD l (Int.toNat ((List.getD (List.getD p.funcs (Int.toNat f) (([] : List api_Node))) (Int.toNat i) d_api_Node).arg)) d_api_Section).liveEntry)) fun v10 =>
                    if (!v10) = true then
                      some 6
                    else
                      if ((((List.getD (List.getD p.funcs (Int.toNat f) (([] : List api_Node))) (Int.toNat i) d_api_Node).kind) : Int) == 9) = true then
                        bind (alibiref03_Within (List.getD ((List.getD l (Int.toNat f) d_api_Section).live) (Int.toNat i) (0#32)) ((List.getD l (Int.toNat f) d_api_Section).liveExit)) fun v14 =>
                        if (!v14) = true then
                          some 6
                        else
                          if ((((List.getD (List.getD p.funcs (Int.toNat f) (([] : List api_Node))) (Int.toNat i) d_api_Node).kind) : Int) == 5) = true then
                            bind (alibiref03_Has ((List.getD l (Int.toNat ((List.getD (List.getD p.funcs (Int.toNat f) (([] : List api_Node))) (Int.toNat i) d_api_Node).arg)) d_api_Section).liveEntry) p.slots) fun v18 =>
                            if (!v18) = true then
                              some 7
                            else
                              bind (alibiref14_Gather p ((List.getD (List.getD p.funcs (Int.toNat f) (([] : List api_Node))) (Int.toNat i) d_api_Node).arg) 5 5) fun v21 =>
                              bind (alibiref05_Succ (List.getD (List.getD p.funcs (Int.toNat f) (([] : List api_Node))) (Int.toNat i) d_api_Node)) fun v23 =>
                              bind (alibiref16_Node_l17 v23 p.globals p.locks p.slots p.funcs ((List.getD (List.getD p.funcs (Int.toNat f) (([] : List api_Node))) (Int.toNat i) d_api_Node).kind) ((List.getD (List.getD p.funcs (Int.toNat f) (([] : List api_Node))) (Int.toNat i) d_api_Node).arg) ((List.getD (List.getD p.funcs (Int.toNat f) (([] : List api_Node))) (Int.toNat i) d_api_Node).next) ((List.getD (List.getD p.funcs (Int.toNat f) (([] : List api_Node))) (Int.toNat i) d_api_Node).alt) l f (List.getD ((List.getD l (Int.toNat f) d_api_Section).live) (Int.toNat i) (0#32)) ((List.getD l (Int.toNat ((List.getD (List.getD p.funcs (Int.toNat f) (([] : List api_Node))) (Int.toNat i) d_api_Node).arg)) d_api_Section).liveExit) (decide ((((((List.length v21) : Nat) : Int)) : Int) > 0)) 0) fun q => match q with
                                | .x0 v42 =>
                                  some v42
                                | .x1 =>
                                  some 0
                          else
                            bind (alibiref05_Succ (List.getD (List.getD p.funcs (Int.toNat f) (([] : List api_Node))) (Int.toNat i) d_api_Node)) fun v45 =>
                            bind (alibiref16_Node_l17 v45 p.globals p.locks p.slots p.funcs ((List.getD (List.getD p.funcs (Int.toNat f) (([] : List api_Node))) (Int.toNat i) d_api_Node).kind) ((List.getD (List.getD p.funcs (Int.toNat f) (([] : List api_Node))) (Int.toNat i) d_api_Node).arg) ((List.getD (List.getD p.funcs (Int.toNat f) (([] : List api_Node))) (Int.toNat i) d_api_Node).next) ((List.getD (List.getD p.funcs (Int.toNat f) (([] : List api_Node))) (Int.toNat i) d_api_Node).alt) l f (List.getD ((List.getD l (Int.toNat f) d_api_Section).live) (Int.toNat i) (0#32)) ((List.getD l (Int.toNat ((List.getD (List.getD p.funcs (Int.toNat f) (([] : List api_Node))) (Int.toNat i) d_api_Node).arg)) d_api_Section).liveExit) false 0) fun q => match q with
                              | .x0 v47 =>
                                some v47
                              | .x1 =>
                                some 0
                      else
                        if ((((List.getD (List.getD p.funcs (Int.toNat f) (([] : List api_Node))) (Int.toNat i) d_api_Node).kind) : Int) == 5) = true then
                          bind (alibiref03_Has ((List.getD l (Int.toNat ((List.getD (List.getD p.funcs (Int.toNat f) (([] : List api_Node))) (Int.toNat i) d_api_Node).arg)) d_api_Section).liveEntry) p.slots) fun v51 =>
                          if (!v51) = true then
                            some 7
                          else
                            bind (alibiref14_Gather p ((List.getD (List.getD p.funcs (Int.toNat f) (([] : List api_Node))) (Int.toNat i) d_api_Node).arg) 5 5) fun v54 =>
                            bind (alibiref05_Succ (List.getD (List.getD p.funcs (Int.toNat f) (([] : List api_Node))) (Int.toNat i) d_api_Node)) fun v56 =>
                            bind (alibiref16_Node_l17 v56 p.globals p.locks p.slots p.funcs ((List.getD (List.getD p.funcs (Int.toNat f) (([] : List api_Node))) (Int.toNat i) d_api_Node).kind) ((List.getD (List.getD p.funcs (Int.toNat f) (([] : List api_Node))) (Int.toNat i) d_api_Node).arg) ((List.getD (List.getD p.funcs (Int.toNat f) (([] : List api_Node))) (Int.toNat i) d_api_Node).next) ((List.getD (List.getD p.funcs (Int.toNat f) (([] : List api_Node))) (Int.toNat i) d_api_Node).alt) l f (List.getD ((List.getD l (Int.toNat f) d_api_Section).live) (Int.toNat i) (0#32)) ((List.getD l (Int.toNat ((List.getD (List.getD p.funcs (Int.toNat f) (([] : List api_Node))) (Int.toNat i) d_api_Node).arg)) d_api_Section).liveExit) (decide ((((((List.length v54) : Nat) : Int)) : Int) > 0)) 0) fun q => match q with
                              | .x0 v58 =>
                                some v58
                              | .x1 =>
                                some 0
                        else
                          bind (alibiref05_Succ (List.getD (List.getD p.funcs (Int.toNat f) (([] : List api_Node))) (Int.toNat i) d_api_Node)) fun v61 =>
                          bind (alibiref16_Node_l17 v61 p.globals p.locks p.slots p.funcs ((List.getD (List.getD p.funcs (Int.toNat f) (([] : List api_Node))) (Int.toNat i) d_api_Node).kind) ((List.getD (List.getD p.funcs (Int.toNat f) (([] : List api_Node))) (Int.toNat i) d_api_Node).arg) ((List.getD (List.getD p.funcs (Int.toNat f) (([] : List api_Node))) (Int.toNat i) d_api_Node).next) ((List.getD (List.getD p.funcs (Int.toNat f) (([] : List api_Node))) (Int.toNat i) d_api_Node).alt) l f (List.getD ((List.getD l (Int.toNat f) d_api_Section).live) (Int.toNat i) (0#32)) ((List.getD l (Int.toNat ((List.getD (List.getD p.funcs (Int.toNat f) (([] : List api_Node))) (Int.toNat i) d_api_Node).arg)) d_api_Section).liveExit) false 0) fun q => match q with
                            | .x0 v63 =>
                              some v63
                            | .x1 =>
                              some 0
                  else none
                else none
              else
                if ((((List.getD (List.getD p.funcs (Int.toNat f) (([] : List api_Node))) (Int.toNat i) d_api_Node).kind) : Int) == 9) = true then
                  bind (alibiref03_Within (List.getD ((List.getD l (Int.toNat f) d_api_Section).live) (Int.toNat i) (0#32)) ((List.getD l (Int.toNat f) d_api_Section).liveExit)) fun v67 =>
                  if (!v67) = true then
                    some 6
                  else
                    if ((((List.getD (List.getD p.funcs (Int.toNat f) (([] : List api_Node))) (Int.toNat i) d_api_Node).kind) : Int) == 5) = true then
                      if (decide ((0 : Int) ≤ ((List.getD (List.getD p.funcs (Int.toNat f) (([] : List api_Node))) (Int.toNat i) d_api_Node).arg))) = true then
                        if (decide ((((List.getD (List.getD p.funcs (Int.toNat f) (([] : List api_Node))) (Int.toNat i) d_api_Node).arg) : Int) < ((List.length l : Nat) : Int))) = true then
                          bind (alibiref03_Has ((List.getD l (Int.toNat ((List.getD (List.getD p.funcs (Int.toNat f) (([] : List api_Node))) (Int.toNat i) d_api_Node).arg)) d_api_Section).liveEntry) p.slots) fun v73 =>
                          if (!v73) = true then
                            some 7
                          else
                            bind (alibiref14_Gather p ((List.getD (List.getD p.funcs (Int.toNat f) (([] : List api_Node))) (Int.toNat i) d_api_Node).arg) 5 5) fun v76 =>
                            bind (alibiref05_Succ (List.getD (List.getD p.funcs (Int.toNat f) (([] : List api_Node))) (Int.toNat i) d_api_Node)) fun v78 =>
                            bind (alibiref16_Node_l17 v78 p.globals p.locks p.slots p.funcs ((List.getD (List.getD p.funcs (Int.toNat f) (([] : List api_Node))) (Int.toNat i) d_api_Node).kind) ((List.getD (List.getD p.funcs (Int.toNat f) (([] : List api_Node))) (Int.toNat i) d_api_Node).arg) ((List.getD (List.getD p.funcs (Int.toNat f) (([] : List api_Node))) (Int.toNat i) d_api_Node).next) ((List.getD (List.getD p.funcs (Int.toNat f) (([] : List api_Node))) (Int.toNat i) d_api_Node).alt) l f (List.getD ((List.getD l (Int.toNat f) d_api_Section).live) (Int.toNat i) (0#32)) (0#32) (decide ((((((List.length v76) : Nat) : Int)) : Int) > 0)) 0) fun q => match q with
                              | .x0 v80 =>
                                some v80
                              | .x1 =>
                                some 0
                        else none
                      else none
                    else
                      bind (alibiref05_Succ (List.getD (List.getD p.funcs (Int.toNat f) (([] : List api_Node))) (Int.toNat i) d_api_Node)) fun v83 =>
                      bind (alibiref16_Node_l17 v83 p.globals p.locks p.slots p.funcs ((List.getD (List.getD p.funcs (Int.toNat f) (([] : List api_Node))) (Int.toNat i) d_api_Node).kind) ((List.getD (List.getD p.funcs (Int.toNat f) (([] : List api_Node))) (Int.toNat i) d_api_Node).arg) ((List.getD (List.getD p.funcs (Int.toNat f) (([] : List api_Node))) (Int.toNat i) d_api_Node).next) ((List.getD (List.getD p.funcs (Int.toNat f) (([] : List api_Node))) (Int.toNat i) d_api_Node).alt) l f (List.getD ((List.getD l (Int.toNat f) d_api_Section).live) (Int.toNat i) (0#32)) (0#32) false 0) fun q => match q with
                        | .x0 v85 =>
                          some v85
                        | .x1 =>
                          some 0
                else
                  if ((((List.getD (List.getD p.funcs (Int.toNat f) (([] : List api_Node))) (Int.toNat i) d_api_Node).kind) : Int) == 5) = true then
                    if (decide ((0 : Int) ≤ ((List.getD (List.getD p.funcs (Int.toNat f) (([] : List api_Node))) (Int.toNat i) d_api_Node).arg))) = true then
                      if (decide ((((List.getD (List.getD p.funcs (Int.toNat f) (([] : List api_Node))) (Int.toNat i) d_api_Node).arg) : Int) < ((List.length l : Nat) : Int))) = true then
                        bind (alibiref03_Has ((List.getD l (Int.toNat ((List.getD (List.getD p.funcs (Int.toNat f) (([] : List api_Node))) (Int.toNat i) d_api_Node).arg)) d_api_Section).liveEntry) p.slots) fun v91 =>
                        if (!v91) = true then
                          some 7
                        else
                          bind (alibiref14_Gather p ((List.getD (List.getD p.funcs (Int.toNat f) (([] : List api_Node))) (Int.toNat i) d_api_Node).arg) 5 5) fun v94 =>
                          bind (alibiref05_Succ (List.getD (List.getD p.funcs (Int.toNat f) (([] : List api_Node))) (Int.toNat i) d_api_Node)) fun v96 =>
                          bind (alibiref16_Node_l17 v96 p.globals p.locks p.slots p.funcs ((List.getD (List.getD p.funcs (Int.toNat f) (([] : List api_Node))) (Int.toNat i) d_api_Node).kind) ((List.getD (List.getD p.funcs (Int.toNat f) (([] : List api_Node))) (Int.toNat i) d_api_Node).arg) ((List.getD (List.getD p.funcs (Int.toNat f) (([] : List api_Node))) (Int.toNat i) d_api_Node).next) ((List.getD (List.getD p.funcs (Int.toNat f) (([] : List api_Node))) (Int.toNat i) d_api_Node).alt) l f (List.getD ((List.getD l (Int.toNat f) d_api_Section).live) (Int.toNat i) (0#32)) (0#32) (decide ((((((List.length v94) : Nat) : Int)) : Int) > 0)) 0) fun q => match q with
                            | .x0 v98 =>
                              some v98
                            | .x1 =>
                              some 0
                      else none
                    else none
                  else
                    bind (alibiref05_Succ (List.getD (List.getD p.funcs (Int.toNat f) (([] : List api_Node))) (Int.toNat i) d_api_Node)) fun v101 =>
                    bind (alibiref16_Node_l17 v101 p.globals p.locks p.slots p.funcs ((List.getD (List.getD p.funcs (Int.toNat f) (([] : List api_Node))) (Int.toNat i) d_api_Node).kind) ((List.getD (List.getD p.funcs (Int.toNat f) (([] : List api_Node))) (Int.toNat i) d_api_Node).arg) ((List.getD (List.getD p.funcs (Int.toNat f) (([] : List api_Node))) (Int.toNat i) d_api_Node).next) ((List.getD (List.getD p.funcs (Int.toNat f) (([] : List api_Node))) (Int.toNat i) d_api_Node).alt) l f (List.getD ((List.getD l (Int.toNat f) d_api_Section).live) (Int.toNat i) (0#32)) (0#32) false 0) fun q => match q with
                      | .x0 v103 =>
                        some v103
                      | .x1 =>
                        some 0
            else none
          else none
        else none
      else none
    else none
  else none
theorem alibiref16_Node_ok (p : api_Program) (l : List api_Section) (f : Int) (i : Int) (r : Int) (h : alibiref16_Node p l f i = some r) : Does Try.prog 63 [.agg [.pv (.int .i64 p.globals), .pv (.int .i64 p.locks), .pv (.int .i64 p.slots), .pv (.seq (List.length p.funcs) (encP e_62 ([] : List api_Node) p.funcs))], .pv (.seq (List.length l) (encP e_api_Section d_api_Section l)), .pv (.int .i64 f), .pv (.int .i64 i)] [] (.pv (.int .i64 r), []) := by
 unfold alibiref16_Node at h
 obtain ⟨c1, h⟩ := need_of h
 obtain ⟨c2, h⟩ := need_of h
 obtain ⟨c3, h⟩ := need_of h
 obtain ⟨c4, h⟩ := need_of h
 obtain ⟨c5, h⟩ := need_of h
 obtain ⟨c6, h⟩ := need_of h
 rcases if_of h with ⟨c7, h⟩ | ⟨c7, h⟩
 · obtain ⟨c8, h⟩ := need_of h
   obtain ⟨c9, h⟩ := need_of h
   obtain ⟨v10, h11, h⟩ := bind_of h
   rcases if_of h with ⟨c12, h⟩ | ⟨c12, h⟩
   · have h := Option.some.inj h; subst h
     exact pdoes mixed (L := lives) (by kernel_rfl) (pk2 <| pn c1 <| pn c2 <| pk <| pn c3 <| pn c4 <| pk3 <| pn c1 <| pn c5 <| pk <| pn c3 <| pn c6 <| pk3 <| pb c7 <| pk <| pn c8 <| pn c9 <| pk2 <| pn c8 <| pn c9 <| pk <| pc (alibiref03_Within_ok _ _ _ h11) <| pk2 <| pb c12 <| pz)
   · rcases if_of h with ⟨c13, h⟩ | ⟨c13, h⟩
     · obtain ⟨v14, h15, h⟩ := bind_of h
       rcases if_of h with ⟨c16, h⟩ | ⟨c16, h⟩
       · have h := Option.some.inj h; subst h
         exact pdoes mixed (L := lives) (by kernel_rfl) (pk2 <| pn c1 <| pn c2 <| pk <| pn c3 <| pn c4 <| pk3 <| pn c1 <| pn c5 <| pk <| pn c3 <| pn c6 <| pk3 <| pb c7 <| pk <| pn c8 <| pn c9 <| pk2 <| pn c8 <| pn c9 <| pk <| pc (alibiref03_Within_ok _ _ _ h11) <| pk2 <| pb c12 <| pk2 <| pb c13 <| pk3 <| pn c1 <| pn c5 <| pk4 <| pc (alibiref03_Within_ok _ _ _ h15) <| pk4 <| pb c16 <| pz)
       · rcases if_of h with ⟨c17, h⟩ | ⟨c17, h⟩
         · obtain ⟨v18, h19, h⟩ := bind_of h
           rcases if_of h with ⟨c20, h⟩ | ⟨c20, h⟩
           · have h := Option.some.inj h; subst h
             exact pdoes mixed (L := lives) (by kernel_rfl) (pk2 <| pn c1 <| pn c2 <| pk <| pn c3 <| pn c4 <| pk3 <| pn c1 <| pn c5 <| pk <| pn c3 <| pn c6 <| pk3 <| pb c7 <| pk <| pn c8 <| pn c9 <| pk2 <| pn c8 <| pn c9 <| pk <| pc (alibiref03_Within_ok _ _ _ h11) <| pk2 <| pb c12 <| pk2 <| pb c13 <| pk3 <| pn c1 <| pn c5 <| pk4 <| pc (alibiref03_Within_ok _ _ _ h15) <| pk4 <| pb c16 <| pk2 <| pb c17 <| pk <| pn c8 <| pn c9 <| pk2 <| pc (alibiref03_Has_ok _ _ _ h19) <| pk2 <| pb c20 <| pz)
           · obtain ⟨v21, h22, h⟩ := bind_of h
             obtain ⟨v23, h24, h⟩ := bind_of h
             obtain ⟨q, hq, h⟩ := bind_of h
             cases q with
             | x0 v42 =>
              have h43 := hq; clear hq
              try dsimp only at h
              have h := Option.some.inj h; subst h
              exact pdoes mixed (L := lives) (by kernel_rfl) (pk2 <| pn c1 <| pn c2 <| pk <| pn c3 <| pn c4 <| pk3 <| pn c1 <| pn c5 <| pk <| pn c3 <| pn c6 <| pk3 <| pb c7 <| pk <| pn c8 <| pn c9 <| pk2 <| pn c8 <| pn c9 <| pk <| pc (alibiref03_Within_ok _ _ _ h11) <| pk2 <| pb c12 <| pk2 <| pb c13 <| pk3 <| pn c1 <| pn c5 <| pk4 <| pc (alibiref03_Within_ok _ _ _ h15) <| pk4 <| pb c16 <| pk2 <| pb c17 <| pk <| pn c8 <| pn c9 <| pk2 <| pc (alibiref03_Has_ok _ _ _ h19) <| pk2 <| pb c20 <| pk2 <| pc (alibiref14_Gather_ok _ _ _ _ _ h22) <| pk4 <| pc (alibiref05_Succ_ok _ _ h24) <| pk <| pl (alibiref16_Node_l17_ok _ _ _ _ _ _ _ _ _ _ _ _ _ _ _ _ h43) <| pz)
             | x1 =>
              have h44 := hq; clear hq
              try dsimp only at h
              have h := Option.some.inj h; subst h
              exact pdoes mixed (L := lives) (by kernel_rfl) (pk2 <| pn c1 <| pn c2 <| pk <| pn c3 <| pn c4 <| pk3 <| pn c1 <| pn c5 <| pk <| pn c3 <| pn c6 <| pk3 <| pb c7 <| pk <| pn c8 <| pn c9 <| pk2 <| pn c8 <| pn c9 <| pk <| pc (alibiref03_Within_ok _ _ _ h11) <| pk2 <| pb c12 <| pk2 <| pb c13 <| pk3 <| pn c1 <| pn c5 <| pk4 <| pc (alibiref03_Within_ok _ _ _ h15) <| pk4 <| pb c16 <| pk2 <| pb c17 <| pk <| pn c8 <| pn c9 <| pk2 <| pc (alibiref03_Has_ok _ _ _ h19) <| pk2 <| pb c20 <| pk2 <| pc (alibiref14_Gather_ok _ _ _ _ _ h22) <| pk4 <| pc (alibiref05_Succ_ok _ _ h24) <| pk <| pl (alibiref16_Node_l17_ok _ _ _ _ _ _ _ _ _ _ _ _ _ _ _ _ h44) <| pz)
         · obtain ⟨v45, h46, h⟩ := bind_of h
           obtain ⟨q, hq, h⟩ := bind_of h
           cases q with
           | x0 v47 =>
            have h48 := hq; clear hq
            try dsimp only at h
            have h := Option.some.inj h; subst h
            exact pdoes mixed (L := lives) (by kernel_rfl) (pk2 <| pn c1 <| pn c2 <| pk <| pn c3 <| pn c4 <| pk3 <| pn c1 <| pn c5 <| pk <| pn c3 <| pn c6 <| pk3 <| pb c7 <| pk <| pn c8 <| pn c9 <| pk2 <| pn c8 <| pn c9 <| pk <| pc (alibiref03_Within_ok _ _ _ h11) <| pk2 <| pb c12 <| pk2 <| pb c13 <| pk3 <| pn c1 <| pn c5 <| pk4 <| pc (alibiref03_Within_ok _ _ _ h15) <| pk4 <| pb c16 <| pk2 <| pb c17 <| pk <| pc (alibiref05_Succ_ok _ _ h46) <| pk <| pl (alibiref16_Node_l17_ok _ _ _ _ _ _ _ _ _ _ _ _ _ _ _ _ h48) <| pz)
           | x1 =>
            have h49 := hq; clear hq
            try dsimp only at h
            have h := Option.some.inj h; subst h
            exact pdoes mixed (L := lives) (by kernel_rfl) (pk2 <| pn c1 <| pn c2 <| pk <| pn c3 <| pn c4 <| pk3 <| pn c1 <| pn c5 <| pk <| pn c3 <| pn c6 <| pk3 <| pb c7 <| pk <| pn c8 <| pn c9 <| pk2 <| pn c8 <| pn c9 <| pk <| pc (alibiref03_Within_ok _ _ _ h11) <| pk2 <| pb c12 <| pk2 <| pb c13 <| pk3 <| pn c1 <| pn c5 <| pk4 <| pc (alibiref03_Within_ok _ _ _ h15) <| pk4 <| pb c16 <| pk2 <| pb c17 <| pk <| pc (alibiref05_Succ_ok _ _ h46) <| pk <| pl (alibiref16_Node_l17_ok _ _ _ _ _ _ _ _ _ _ _ _ _ _ _ _ h49) <| pz)
     · rcases if_of h with ⟨c50, h⟩ | ⟨c50, h⟩
       · obtain ⟨v51, h52, h⟩ := bind_of h
         rcases if_of h with ⟨c53, h⟩ | ⟨c53, h⟩
         · have h := Option.some.inj h; subst h
           exact pdoes mixed (L := lives) (by kernel_rfl) (pk2 <| pn c1 <| pn c2 <| pk <| pn c3 <| pn c4 <| pk3 <| pn c1 <| pn c5 <| pk <| pn c3 <| pn c6 <| pk3 <| pb c7 <| pk <| pn c8 <| pn c9 <| pk2 <| pn c8 <| pn c9 <| pk <| pc (alibiref03_Within_ok _ _ _ h11) <| pk2 <| pb c12 <| pk2 <| pb c13 <| pk8 <| pk3 <| pb c50 <| pk <| pn c8 <| pn c9 <| pk2 <| pc (alibiref03_Has_ok _ _ _ h52) <| pk2 <| pb c53 <| pz)
         · obtain ⟨v54, h55, h⟩ := bind_of h
           obtain ⟨v56, h57, h⟩ := bind_of h
           obtain ⟨q, hq, h⟩ := bind_of h
           cases q with
           | x0 v58 =>
            have h59 := hq; clear hq
            try dsimp only at h
            have h := Option.some.inj h; subst h
            exact pdoes mixed (L := lives) (by kernel_rfl) (pk2 <| pn c1 <| pn c2 <| pk <| pn c3 <| pn c4 <| pk3 <| pn c1 <| pn c5 <| pk <| pn c3 <| pn c6 <| pk3 <| pb c7 <| pk <| pn c8 <| pn c9 <| pk2 <| pn c8 <| pn c9 <| pk <| pc (alibiref03_Within_ok _ _ _ h11) <| pk2 <| pb c12 <| pk2 <| pb c13 <| pk8 <| pk3 <| pb c50 <| pk <| pn c8 <| pn c9 <| pk2 <| pc (alibiref03_Has_ok _ _ _ h52) <| pk2 <| pb c53 <| pk2 <| pc (alibiref14_Gather_ok _ _ _ _ _ h55) <| pk4 <| pc (alibiref05_Succ_ok _ _ h57) <| pk <| pl (alibiref16_Node_l17_ok _ _ _ _ _ _ _ _ _ _ _ _ _ _ _ _ h59) <| pz)
           | x1 =>
            have h60 := hq; clear hq
            try dsimp only at h
            have h := Option.some.inj h; subst h
            exact pdoes mixed (L := lives) (by kernel_rfl) (pk2 <| pn c1 <| pn c2 <| pk <| pn c3 <| pn c4 <| pk3 <| pn c1 <| pn c5 <| pk <| pn c3 <| pn c6 <| pk3 <| pb c7 <| pk <| pn c8 <| pn c9 <| pk2 <| pn c8 <| pn c9 <| pk <| pc (alibiref03_Within_ok _ _ _ h11) <| pk2 <| pb c12 <| pk2 <| pb c13 <| pk8 <| pk3 <| pb c50 <| pk <| pn c8 <| pn c9 <| pk2 <| pc (alibiref03_Has_ok _ _ _ h52) <| pk2 <| pb c53 <| pk2 <| pc (alibiref14_Gather_ok _ _ _ _ _ h55) <| pk4 <| pc (alibiref05_Succ_ok _ _ h57) <| pk <| pl (alibiref16_Node_l17_ok _ _ _ _ _ _ _ _ _ _ _ _ _ _ _ _ h60) <| pz)
       · obtain ⟨v61, h62, h⟩ := bind_of h
         obtain ⟨q, hq, h⟩ := bind_of h
         cases q with
         | x0 v63 =>
          have h64 := hq; clear hq
          try dsimp only at h
          have h := Option.some.inj h; subst h
          exact pdoes mixed (L := lives) (by kernel_rfl) (pk2 <| pn c1 <| pn c2 <| pk <| pn c3 <| pn c4 <| pk3 <| pn c1 <| pn c5 <| pk <| pn c3 <| pn c6 <| pk3 <| pb c7 <| pk <| pn c8 <| pn c9 <| pk2 <| pn c8 <| pn c9 <| pk <| pc (alibiref03_Within_ok _ _ _ h11) <| pk2 <| pb c12 <| pk2 <| pb c13 <| pk8 <| pk3 <| pb c50 <| pk <| pc (alibiref05_Succ_ok _ _ h62) <| pk <| pl (alibiref16_Node_l17_ok _ _ _ _ _ _ _ _ _ _ _ _ _ _ _ _ h64) <| pz)
         | x1 =>
          have h65 := hq; clear hq
          try dsimp only at h
          have h := Option.some.inj h; subst h
          exact pdoes mixed (L := lives) (by kernel_rfl) (pk2 <| pn c1 <| pn c2 <| pk <| pn c3 <| pn c4 <| pk3 <| pn c1 <| pn c5 <| pk <| pn c3 <| pn c6 <| pk3 <| pb c7 <| pk <| pn c8 <| pn c9 <| pk2 <| pn c8 <| pn c9 <| pk <| pc (alibiref03_Within_ok _ _ _ h11) <| pk2 <| pb c12 <| pk2 <| pb c13 <| pk8 <| pk3 <| pb c50 <| pk <| pc (alibiref05_Succ_ok _ _ h62) <| pk <| pl (alibiref16_Node_l17_ok _ _ _ _ _ _ _ _ _ _ _ _ _ _ _ _ h65) <| pz)
 · rcases if_of h with ⟨c66, h⟩ | ⟨c66, h⟩
   · obtain ⟨v67, h68, h⟩ := bind_of h
     rcases if_of h with ⟨c69, h⟩ | ⟨c69, h⟩
     · have h := Option.some.inj h; subst h
       exact pdoes mixed (L := lives) (by kernel_rfl) (pk2 <| pn c1 <| pn c2 <| pk <| pn c3 <| pn c4 <| pk3 <| pn c1 <| pn c5 <| pk <| pn c3 <| pn c6 <| pk3 <| pb c7 <| pk2 <| pb c66 <| pk3 <| pn c1 <| pn c5 <| pk4 <| pc (alibiref03_Within_ok _ _ _ h68) <| pk4 <| pb c69 <| pz)
     · rcases if_of h with ⟨c70, h⟩ | ⟨c70, h⟩
       · obtain ⟨c71, h⟩ := need_of h
         obtain ⟨c72, h⟩ := need_of h
         obtain ⟨v73, h74, h⟩ := bind_of h
         rcases if_of h with ⟨c75, h⟩ | ⟨c75, h⟩
         · have h := Option.some.inj h; subst h
           exact pdoes mixed (L := lives) (by kernel_rfl) (pk2 <| pn c1 <| pn c2 <| pk <| pn c3 <| pn c4 <| pk3 <| pn c1 <| pn c5 <| pk <| pn c3 <| pn c6 <| pk3 <| pb c7 <| pk2 <| pb c66 <| pk3 <| pn c1 <| pn c5 <| pk4 <| pc (alibiref03_Within_ok _ _ _ h68) <| pk4 <| pb c69 <| pk2 <| pb c70 <| pk <| pn c71 <| pn c72 <| pk2 <| pc (alibiref03_Has_ok _ _ _ h74) <| pk2 <| pb c75 <| pz)
         · obtain ⟨v76, h77, h⟩ := bind_of h
           obtain ⟨v78, h79, h⟩ := bind_of h
           obtain ⟨q, hq, h⟩ := bind_of h
           cases q with
           | x0 v80 =>
            have h81 := hq; clear hq
            try dsimp only at h
            have h := Option.some.inj h; subst h
            exact pdoes mixed (L := lives) (by kernel_rfl) (pk2 <| pn c1 <| pn c2 <| pk <| pn c3 <| pn c4 <| pk3 <| pn c1 <| pn c5 <| pk <| pn c3 <| pn c6 <| pk3 <| pb c7 <| pk2 <| pb c66 <| pk3 <| pn c1 <| pn c5 <| pk4 <| pc (alibiref03_Within_ok _ _ _ h68) <| pk4 <| pb c69 <| pk2 <| pb c70 <| pk <| pn c71 <| pn c72 <| pk2 <| pc (alibiref03_Has_ok _ _ _ h74) <| pk2 <| pb c75 <| pk2 <| pc (alibiref14_Gather_ok _ _ _ _ _ h77) <| pk4 <| pc (alibiref05_Succ_ok _ _ h79) <| pk <| pl (alibiref16_Node_l17_ok _ _ _ _ _ _ _ _ _ _ _ _ _ _ _ _ h81) <| pz)
           | x1 =>
            have h82 := hq; clear hq
            try dsimp only at h
            have h := Option.some.inj h; subst h
            exact pdoes mixed (L := lives) (by kernel_rfl) (pk2 <| pn c1 <| pn c2 <| pk <| pn c3 <| pn c4 <| pk3 <| pn c1 <| pn c5 <| pk <| pn c3 <| pn c6 <| pk3 <| pb c7 <| pk2 <| pb c66 <| pk3 <| pn c1 <| pn c5 <| pk4 <| pc (alibiref03_Within_ok _ _ _ h68) <| pk4 <| pb c69 <| pk2 <| pb c70 <| pk <| pn c71 <| pn c72 <| pk2 <| pc (alibiref03_Has_ok _ _ _ h74) <| pk2 <| pb c75 <| pk2 <| pc (alibiref14_Gather_ok _ _ _ _ _ h77) <| pk4 <| pc (alibiref05_Succ_ok _ _ h79) <| pk <| pl (alibiref16_Node_l17_ok _ _ _ _ _ _ _ _ _ _ _ _ _ _ _ _ h82) <| pz)
       · obtain ⟨v83, h84, h⟩ := bind_of h
         obtain ⟨q, hq, h⟩ := bind_of h
         cases q with
         | x0 v85 =>
          have h86 := hq; clear hq
          try dsimp only at h
          have h := Option.some.inj h; subst h
          exact pdoes mixed (L := lives) (by kernel_rfl) (pk2 <| pn c1 <| pn c2 <| pk <| pn c3 <| pn c4 <| pk3 <| pn c1 <| pn c5 <| pk <| pn c3 <| pn c6 <| pk3 <| pb c7 <| pk2 <| pb c66 <| pk3 <| pn c1 <| pn c5 <| pk4 <| pc (alibiref03_Within_ok _ _ _ h68) <| pk4 <| pb c69 <| pk2 <| pb c70 <| pk <| pc (alibiref05_Succ_ok _ _ h84) <| pk <| pl (alibiref16_Node_l17_ok _ _ _ _ _ _ _ _ _ _ _ _ _ _ _ _ h86) <| pz)
         | x1 =>
          have h87 := hq; clear hq
          try dsimp only at h
          have h := Option.some.inj h; subst h
          exact pdoes mixed (L := lives) (by kernel_rfl) (pk2 <| pn c1 <| pn c2 <| pk <| pn c3 <| pn c4 <| pk3 <| pn c1 <| pn c5 <| pk <| pn c3 <| pn c6 <| pk3 <| pb c7 <| pk2 <| pb c66 <| pk3 <| pn c1 <| pn c5 <| pk4 <| pc (alibiref03_Within_ok _ _ _ h68) <| pk4 <| pb c69 <| pk2 <| pb c70 <| pk <| pc (alibiref05_Succ_ok _ _ h84) <| pk <| pl (alibiref16_Node_l17_ok _ _ _ _ _ _ _ _ _ _ _ _ _ _ _ _ h87) <| pz)
   · rcases if_of h with ⟨c88, h⟩ | ⟨c88, h⟩
     · obtain ⟨c89, h⟩ := need_of h
       obtain ⟨c90, h⟩ := need_of h
       obtain ⟨v91, h92, h⟩ := bind_of h
       rcases if_of h with ⟨c93, h⟩ | ⟨c93, h⟩
       · have h := Option.some.inj h; subst h
         exact pdoes mixed (L := lives) (by kernel_rfl) (pk2 <| pn c1 <| pn c2 <| pk <| pn c3 <| pn c4 <| pk3 <| pn c1 <| pn c5 <| pk <| pn c3 <| pn c6 <| pk3 <| pb c7 <| pk2 <| pb c66 <| pk8 <| pk3 <| pb c88 <| pk <| pn c89 <| pn c90 <| pk2 <| pc (alibiref03_Has_ok _ _ _ h92) <| pk2 <| pb c93 <| pz)
       · obtain ⟨v94, h95, h⟩ := bind_of h
         obtain ⟨v96, h97, h⟩ := bind_of h
         obtain ⟨q, hq, h⟩ := bind_of h
         cases q with
         | x0 v98 =>
          have h99 := hq; clear hq
          try dsimp only at h
          have h := Option.some.inj h; subst h
          exact pdoes mixed (L := lives) (by kernel_rfl) (pk2 <| pn c1 <| pn c2 <| pk <| pn c3 <| pn c4 <| pk3 <| pn c1 <| pn c5 <| pk <| pn c3 <| pn c6 <| pk3 <| pb c7 <| pk2 <| pb c66 <| pk8 <| pk3 <| pb c88 <| pk <| pn c89 <| pn c90 <| pk2 <| pc (alibiref03_Has_ok _ _ _ h92) <| pk2 <| pb c93 <| pk2 <| pc (alibiref14_Gather_ok _ _ _ _ _ h95) <| pk4 <| pc (alibiref05_Succ_ok _ _ h97) <| pk <| pl (alibiref16_Node_l17_ok _ _ _ _ _ _ _ _ _ _ _ _ _ _ _ _ h99) <| pz)
         | x1 =>
          have h100 := hq; clear hq
          try dsimp only at h
          have h := Option.some.inj h; subst h
          exact pdoes mixed (L := lives) (by kernel_rfl) (pk2 <| pn c1 <| pn c2 <| pk <| pn c3 <| pn c4 <| pk3 <| pn c1 <| pn c5 <| pk <| pn c3 <| pn c6 <| pk3 <| pb c7 <| pk2 <| pb c66 <| pk8 <| pk3 <| pb c88 <| pk <| pn c89 <| pn c90 <| pk2 <| pc (alibiref03_Has_ok _ _ _ h92) <| pk2 <| pb c93 <| pk2 <| pc (alibiref14_Gather_ok _ _ _ _ _ h95) <| pk4 <| pc (alibiref05_Succ_ok _ _ h97) <| pk <| pl (alibiref16_Node_l17_ok _ _ _ _ _ _ _ _ _ _ _ _ _ _ _ _ h100) <| pz)
     · obtain ⟨v101, h102, h⟩ := bind_of h
       obtain ⟨q, hq, h⟩ := bind_of h
       cases q with
       | x0 v103 =>
        have h104 := hq; clear hq
        try dsimp only at h
        have h := Option.some.inj h; subst h
        exact pdoes mixed (L := lives) (by kernel_rfl) (pk2 <| pn c1 <| pn c2 <| pk <| pn c3 <| pn c4 <| pk3 <| pn c1 <| pn c5 <| pk <| pn c3 <| pn c6 <| pk3 <| pb c7 <| pk2 <| pb c66 <| pk8 <| pk3 <| pb c88 <| pk <| pc (alibiref05_Succ_ok _ _ h102) <| pk <| pl (alibiref16_Node_l17_ok _ _ _ _ _ _ _ _ _ _ _ _ _ _ _ _ h104) <| pz)
       | x1 =>
        have h105 := hq; clear hq
        try dsimp only at h
        have h := Option.some.inj h; subst h
        exact pdoes mixed (L := lives) (by kernel_rfl) (pk2 <| pn c1 <| pn c2 <| pk <| pn c3 <| pn c4 <| pk3 <| pn c1 <| pn c5 <| pk <| pn c3 <| pn c6 <| pk3 <| pb c7 <| pk2 <| pb c66 <| pk8 <| pk3 <| pb c88 <| pk <| pc (alibiref05_Succ_ok _ _ h102) <| pk <| pl (alibiref16_Node_l17_ok _ _ _ _ _ _ _ _ _ _ _ _ _ _ _ _ h105) <| pz)
noncomputable def alibiref16_Check_l9_c : Code := sub (codeOf Try.prog 31) [1, 1, 0, 1, 0, 0, 1, 0, 0, 1, 1, 0, 0]
inductive alibiref16_Check_l9_R where
  | x0 (v0 : Int) (v1 : Int)
  | x1
def alibiref16_Check_l9_R.ex : alibiref16_Check_l9_R → Ex
  | .x0 _ _ => .ret
  | .x1 => .exit 2
noncomputable def alibiref16_Check_l9_R.st (x0 : Int) (x1 : Int) (x2 : Int) (x3 : List (List api_Node)) (x4 : Int) (x5 : Int) (x6 : Int) (x7 : List api_Section) (x8 : Int) (x9 : Int) : alibiref16_Check_l9_R → St
  | .x0 v0 v1 => ⟨dead :: .pv (.seq (List.length x7) (encP e_api_Section d_api_Section x7)) :: .ptr 0 [] 0 0 :: dead :: .ptr 1 [] 0 0 :: .pv (.int .i64 x8) :: List.replicate 51 dead, [.box 0 [.pv (.int .i64 x0), .pv (.int .i64 x1), .pv (.int .i64 x2), .pv (.seq (List.length x3) (encP e_62 ([] : List api_Node) x3))], .box 0 [.pv (.int .i64 x8), .pv (.int .i64 v0), .pv (.int .i64 v1)]]⟩
  | .x1 => ⟨dead :: .pv (.seq (List.length x7) (encP e_api_Section d_api_Section x7)) :: .ptr 0 [] 0 0 :: dead :: .ptr 1 [] 0 0 :: .pv (.int .i64 x8) :: List.replicate 51 dead, [.box 0 [.pv (.int .i64 x0), .pv (.int .i64 x1), .pv (.int .i64 x2), .pv (.seq (List.length x3) (encP e_62 ([] : List api_Node) x3))], .box 0 [.pv (.int .i64 x4), .pv (.int .i64 x5), .pv (.int .i64 x6)]]⟩
def alibiref16_Check_l9 (x0 : Int) (x1 : Int) (x2 : Int) (x3 : List (List api_Node)) (x4 : Int) (x5 : Int) (x6 : Int) (x7 : List api_Section) (x8 : Int) (x9 : Int) : Option (alibiref16_Check_l9_R) :=
  if (decide ((0 : Int) ≤ x8)) = true then
    if (decide ((x8 : Int) < ((List.length x3 : Nat) : Int))) = true then
      if (decide ((x9 : Int) < (((List.length (List.getD x3 (Int.toNat x8) (([] : List api_Node))) : Nat) : Int)))) = true then
        bind (alibiref16_Node (api_Program.mk x0 x1 x2 x3) x7 x8 x9) fun v14 =>
        if ((v14 : Int) != 0) = true then
          some (.x0 x9 v14)
        else
          alibiref16_Check_l9 x0 x1 x2 x3 x4 x5 x6 x7 x8 (iAdd x9 1)
      else
        some (.x1)
    else none
  else none
partial_fixpoint
noncomputable abbrev alibiref16_Check_l9_s (x0 : Int) (x1 : Int) (x2 : Int) (x3 : List (List api_Node)) (x4 : Int) (x5 : Int) (x6 : Int) (x7 : List api_Section) (x8 : Int) (x9 : Int) : St := ⟨dead :: .pv (.seq (List.length x7) (encP e_api_Section d_api_Section x7)) :: .ptr 0 [] 0 0 :: dead :: .ptr 1 [] 0 0 :: .pv (.int .i64 x8) :: .pv (.int .i64 x9) :: List.replicate 50 dead, [.box 0 [.pv (.int .i64 x0), .pv (.int .i64 x1), .pv (.int .i64 x2), .pv (.seq (List.length x3) (encP e_62 ([] : List api_Node) x3))], .box 0 [.pv (.int .i64 x4), .pv (.int .i64 x5), .pv (.int .i64 x6)]]⟩
theorem alibiref16_Check_l9_ok (x0 : Int) (x1 : Int) (x2 : Int) (x3 : List (List api_Node)) (x4 : Int) (x5 : Int) (x6 : Int) (x7 : List api_Section) (x8 : Int) (x9 : Int) (r : alibiref16_Check_l9_R) (h : alibiref16_Check_l9 x0 x1 x2 x3 x4 x5 x6 x7 x8 x9 = some r) : Loops Try.prog alibiref16_Check_l9_c 0 (alibiref16_Check_l9_s x0 x1 x2 x3 x4 x5 x6 x7 x8 x9) r.ex (alibiref16_Check_l9_R.st x0 x1 x2 x3 x4 x5 x6 x7 x8 x9 r) := by
 refine alibiref16_Check_l9.partial_correctness x0 x1 x2 x3 x4 x5 x6 x7 x8 (fun x9 r => Loops Try.prog alibiref16_Check_l9_c 0 (alibiref16_Check_l9_s x0 x1 x2 x3 x4 x5 x6 x7 x8 x9) r.ex (alibiref16_Check_l9_R.st x0 x1 x2 x3 x4 x5 x6 x7 x8 x9 r)) ?_ x9 r h
 clear h r x9
 intro self ih x9 r h
 obtain ⟨c11, h⟩ := need_of h
 obtain ⟨c12, h⟩ := need_of h
 rcases if_of h with ⟨c13, h⟩ | ⟨c13, h⟩
 · obtain ⟨v14, h15, h⟩ := bind_of h
   rcases if_of h with ⟨c16, h⟩ | ⟨c16, h⟩
   · have h := Option.some.inj h; subst h
     exact plast mixed lives 31 (by kernel_rfl) (pk <| pn c11 <| pn c12 <| pk3 <| pb c13 <| pk <| pc (alibiref16_Node_ok _ _ _ _ _ h15) <| pk2 <| pb c16 <| pk2 <| pz) rfl
   · exact pmore mixed lives 31 (by kernel_rfl) (pk <| pn c11 <| pn c12 <| pk3 <| pb c13 <| pk <| pc (alibiref16_Node_ok _ _ _ _ _ h15) <| pk2 <| pb c16 <| pk <| pz) (ih (iAdd x9 1) _ h)
 · have h := Option.some.inj h; subst h
   exact plast mixed lives 31 (by kernel_rfl) (pk <| pn c11 <| pn c12 <| pk3 <| pb c13 <| pz) rfl
noncomputable def alibiref16_Check_l4_c : Code := sub (codeOf Try.prog 31) [1, 1, 0, 1, 0, 0]
inductive alibiref16_Check_l4_R where
  | x0 (v0 : Int) (v1 : Int) (v2 : Int)
  | x1
def alibiref16_Check_l4_R.ex : alibiref16_Check_l4_R → Ex
  | .x0 _ _ _ => .ret
  | .x1 => .exit 0
noncomputable def alibiref16_Check_l4_R.st (x0 : Int) (x1 : Int) (x2 : Int) (x3 : List (List api_Node)) (x4 : Int) (x5 : Int) (x6 : Int) (x7 : List api_Section) (x8 : Int) : alibiref16_Check_l4_R → St
  | .x0 v0 v1 v2 => ⟨(List.replicate 4 dead ++ (.ptr 0 [] 0 0 :: List.replicate 52 dead)), [.box 0 [.pv (.int .i64 v0), .pv (.int .i64 v1), .pv (.int .i64 v2)]]⟩
  | .x1 => ⟨(List.replicate 4 dead ++ (.ptr 0 [] 0 0 :: List.replicate 52 dead)), [.box 0 [.pv (.int .i64 x4), .pv (.int .i64 x5), .pv (.int .i64 x6)]]⟩
def alibiref16_Check_l4 (x0 : Int) (x1 : Int) (x2 : Int) (x3 : List (List api_Node)) (x4 : Int) (x5 : Int) (x6 : Int) (x7 : List api_Section) (x8 : Int) : Option (alibiref16_Check_l4_R) :=
  if (decide ((x8 : Int) < (((List.length x7 : Nat) : Int)))) = true then
    if (decide ((0 : Int) ≤ x8)) = true then
      if (decide ((x8 : Int) < ((List.length x7 : Nat) : Int))) = true then
        if (decide ((0 : Int) < ((List.length ((List.getD x7 (Int.toNat x8) d_api_Section).live) : Nat) : Int))) = true then
          bind (alibiref03_Within ((List.getD x7 (Int.toNat x8) d_api_Section).liveEntry) (List.getD ((List.getD x7 (Int.toNat x8) d_api_Section).live) 0 (0#32))) fun v8 =>
          if (!v8) = true then
            some (.x0 x8 ((-1)) 6)
          else
            bind (alibiref16_Check_l9 x0 x1 x2 x3 x4 x5 x6 x7 x8 0) fun q => match q with
              | .x0 v17 v18 =>
                some (.x0 x8 v17 v18)
              | .x1 =>
                alibiref16_Check_l4 x0 x1 x2 x3 x4 x5 x6 x7 (iAdd x8 1)
        else none
      else none
    else none
  else
    some (.x1)
partial_fixpoint
noncomputable abbrev alibiref16_Check_l4_s (x0 : Int) (x1 : Int) (x2 : Int) (x3 : List (List api_Node)) (x4 : Int) (x5 : Int) (x6 : Int) (x7 : List api_Section) (x8 : Int) : St := ⟨dead :: .pv (.seq (List.length x7) (encP e_api_Section d_api_Section x7)) :: .ptr 0 [] 0 0 :: dead :: .ptr 1 [] 0 0 :: .pv (.int .i64 x8) :: List.replicate 51 dead, [.box 0 [.pv (.int .i64 x0), .pv (.int .i64 x1), .pv (.int .i64 x2), .pv (.seq (List.length x3) (encP e_62 ([] : List api_Node) x3))], .box 0 [.pv (.int .i64 x4), .pv (.int .i64 x5), .pv (.int .i64 x6)]]⟩
theorem alibiref16_Check_l4_ok (x0 : Int) (x1 : Int) (x2 : Int) (x3 : List (List api_Node)) (x4 : Int) (x5 : Int) (x6 : Int) (x7 : List api_Section) (x8 : Int) (r : alibiref16_Check_l4_R) (h : alibiref16_Check_l4 x0 x1 x2 x3 x4 x5 x6 x7 x8 = some r) : Loops Try.prog alibiref16_Check_l4_c 0 (alibiref16_Check_l4_s x0 x1 x2 x3 x4 x5 x6 x7 x8) r.ex (alibiref16_Check_l4_R.st x0 x1 x2 x3 x4 x5 x6 x7 x8 r) := by
 refine alibiref16_Check_l4.partial_correctness x0 x1 x2 x3 x4 x5 x6 x7 (fun x8 r => Loops Try.prog alibiref16_Check_l4_c 0 (alibiref16_Check_l4_s x0 x1 x2 x3 x4 x5 x6 x7 x8) r.ex (alibiref16_Check_l4_R.st x0 x1 x2 x3 x4 x5 x6 x7 x8 r)) ?_ x8 r h
 clear h r x8
 intro self ih x8 r h
 rcases if_of h with ⟨c4, h⟩ | ⟨c4, h⟩
 · obtain ⟨c5, h⟩ := need_of h
   obtain ⟨c6, h⟩ := need_of h
   obtain ⟨c7, h⟩ := need_of h
   obtain ⟨v8, h9, h⟩ := bind_of h
   rcases if_of h with ⟨c10, h⟩ | ⟨c10, h⟩
   · have h := Option.some.inj h; subst h
     exact plast mixed lives 31 (by kernel_rfl) (pk2 <| pb c4 <| pn c5 <| pn c6 <| pk <| pn c5 <| pn c6 <| pk <| pn (rfl : (decide ((0 : Int) ≤ 0)) = true) <| pn c7 <| pk <| pc (alibiref03_Within_ok _ _ _ h9) <| pk2 <| pb c10 <| pk2 <| pz) rfl
   · obtain ⟨q, hq, h⟩ := bind_of h
     cases q with
     | x0 v17 v18 =>
      have h19 := hq; clear hq
      try dsimp only at h
      have h := Option.some.inj h; subst h
      exact plast mixed lives 31 (by kernel_rfl) (pk2 <| pb c4 <| pn c5 <| pn c6 <| pk <| pn c5 <| pn c6 <| pk <| pn (rfl : (decide ((0 : Int) ≤ 0)) = true) <| pn c7 <| pk <| pc (alibiref03_Within_ok _ _ _ h9) <| pk2 <| pb c10 <| pl (alibiref16_Check_l9_ok _ _ _ _ _ _ _ _ _ _ _ h19) <| pz) rfl
     | x1 =>
      have h20 := hq; clear hq
      try dsimp only at h
      exact pmore mixed lives 31 (by kernel_rfl) (pk2 <| pb c4 <| pn c5 <| pn c6 <| pk <| pn c5 <| pn c6 <| pk <| pn (rfl : (decide ((0 : Int) ≤ 0)) = true) <| pn c7 <| pk <| pc (alibiref03_Within_ok _ _ _ h9) <| pk2 <| pb c10 <| pl (alibiref16_Check_l9_ok _ _ _ _ _ _ _ _ _ _ _ h20) <| pk <| pz) (ih (iAdd x8 1) _ h)
 · have h := Option.some.inj h; subst h
   exact plast mixed lives 31 (by kernel_rfl) (pk2 <| pb c4 <| pz) rfl
/-- alibi/alibiref16.Check -/
def alibiref16_Check (p : api_Program) (l : List api_Section) : Option (api_Fault) :=
  bind (alibiref15_Shaped p l) fun v1 =>
  if (!v1) = true then
    some (api_Fault.mk ((-1)) ((-1)) 1)
  else
    bind (alibiref16_Check_l4 p.globals p.locks p.slots p.funcs 0 0 0 l 0) fun q => match q with
      | .x0 v21 v22 v23 =>
        some (api_Fault.mk v21 v22 v23)
      | .x1 =>
        some (api_Fault.mk 0 0 0)
theorem alibiref16_Check_ok (p : api_Program) (l : List api_Section) (r : api_Fault) (h : alibiref16_Check p l = some r) : Does Try.prog 31 [.agg [.pv (.int .i64 p.globals), .pv (.int .i64 p.locks), .pv (.int .i64 p.slots), .pv (.seq (List.length p.funcs) (encP e_62 ([] : List api_Node) p.funcs))], .pv (.seq (List.length l) (encP e_api_Section d_api_Section l))] [] (.agg [.pv (.int .i64 r.func), .pv (.int .i64 r.node), .pv (.int .i64 r.what)], []) := by
 unfold alibiref16_Check at h
 obtain ⟨v1, h2, h⟩ := bind_of h
 rcases if_of h with ⟨c3, h⟩ | ⟨c3, h⟩
 · have h := Option.some.inj h; subst h
   exact pdoes mixed (L := lives) (by kernel_rfl) (pk3 <| pc (alibiref15_Shaped_ok _ _ _ h2) <| pk2 <| pb c3 <| pk2 <| pz)
 · obtain ⟨q, hq, h⟩ := bind_of h
   cases q with
   | x0 v21 v22 v23 =>
    have h24 := hq; clear hq
    try dsimp only at h
    have h := Option.some.inj h; subst h
    exact pdoes mixed (L := lives) (by kernel_rfl) (pk3 <| pc (alibiref15_Shaped_ok _ _ _ h2) <| pk2 <| pb c3 <| pl (alibiref16_Check_l4_ok _ _ _ _ _ _ _ _ _ _ h24) <| pz)
   | x1 =>
    have h25 := hq; clear hq
    try dsimp only at h
    have h := Option.some.inj h; subst h
    exact pdoes mixed (L := lives) (by kernel_rfl) (pk3 <| pc (alibiref15_Shaped_ok _ _ _ h2) <| pk2 <| pb c3 <| pl (alibiref16_Check_l4_ok _ _ _ _ _ _ _ _ _ _ h25) <| pk2 <| pz)
/-- alibi/alibilaw23.LiveRules -/
def alibilaw23_LiveRules (p : api_Program) (l : List api_Section) : Option (Bool) :=
  bind (alibilaw23_awake) fun v1 =>
  if (!v1) = true then
    bind (alibilaw23_awake) fun v4 =>
    some v4
  else
    bind (alibiref05_Small p) fun v6 =>
    if (!v6) = true then
      bind (alibilaw23_awake) fun v9 =>
      some v9
    else
      bind (alibiref15_Few l) fun v11 =>
      if (!v11) = true then
        bind (alibilaw23_awake) fun v14 =>
        some v14
      else
        bind (live_Rules p) fun v16 =>
        bind (alibiref05_Check p) fun v18 =>
        if ((v18.2.2 : Int) != 0) = true then
          if ((v16.1 : Int) == v18.2.2) = true then
            some ((((((List.length v16.2) : Nat) : Int)) : Int) == 0)
          else
            some false
        else
          bind (hold_Lay p) fun v22 =>
          if ((v16.1 : Int) != 0) = true then
            some ((v16.1 : Int) == 0)
          else
            bind (alibiref15_Shaped p l) fun v25 =>
            if (!v25) = true then
              some ((v16.1 : Int) == 0)
            else
              if (decide ((0 : Int) ≤ v22.1)) = true then
                if (decide ((v22.1 : Int) * ((4 : Nat) : Int) ≤ ((reach : Nat) : Int))) = true then
                  bind (alibilaw23_LiveRules_l12 v16.2 v22.2 (List.replicate (Int.toNat v22.1) (0#32)) p.globals p.locks p.slots p.funcs l v22.1 0) fun q => match q with
                    | .x0 v58 v59 =>
                      some v59
                    | .x1 v61 =>
                      bind (alibilaw23_LiveRules_l23 v16.2 v61 p.globals p.locks p.slots p.funcs l v22.1 true 0) fun v73 =>
                      bind (alibiref16_Check p l) fun v75 =>
                      some (v73 == ((v75.what : Int) == 0))
                else none
              else none
theorem alibilaw23_LiveRules_ok (p : api_Program) (l : List api_Section) (r : Bool) (h : alibilaw23_LiveRules p l = some r) : Does Try.prog 7 [.agg [.pv (.int .i64 p.globals), .pv (.int .i64 p.locks), .pv (.int .i64 p.slots), .pv (.seq (List.length p.funcs) (encP e_62 ([] : List api_Node) p.funcs))], .pv (.seq (List.length l) (encP e_api_Section d_api_Section l))] [] (.pv (.bool r), []) := by
 unfold alibilaw23_LiveRules at h
 obtain ⟨v1, h2, h⟩ := bind_of h
 rcases if_of h with ⟨c3, h⟩ | ⟨c3, h⟩
 · obtain ⟨v4, h5, h⟩ := bind_of h
   have h := Option.some.inj h; subst h
   exact pdoes mixed (L := lives) (by kernel_rfl) (pk <| pc (alibilaw23_awake_ok _ h2) <| pk2 <| pb c3 <| pk8 <| pc (alibilaw23_awake_ok _ h5) <| pk <| pz)
 · obtain ⟨v6, h7, h⟩ := bind_of h
   rcases if_of h with ⟨c8, h⟩ | ⟨c8, h⟩
   · obtain ⟨v9, h10, h⟩ := bind_of h
     have h := Option.some.inj h; subst h
     exact pdoes mixed (L := lives) (by kernel_rfl) (pk <| pc (alibilaw23_awake_ok _ h2) <| pk2 <| pb c3 <| pk2 <| pc (alibiref05_Small_ok _ _ h7) <| pk4 <| pb c8 <| pk4 <| pc (alibilaw23_awake_ok _ h10) <| pk <| pz)
   · obtain ⟨v11, h12, h⟩ := bind_of h
     rcases if_of h with ⟨c13, h⟩ | ⟨c13, h⟩
     · obtain ⟨v14, h15, h⟩ := bind_of h
       have h := Option.some.inj h; subst h
       exact pdoes mixed (L := lives) (by kernel_rfl) (pk <| pc (alibilaw23_awake_ok _ h2) <| pk2 <| pb c3 <| pk2 <| pc (alibiref05_Small_ok _ _ h7) <| pk4 <| pb c8 <| pk <| pc (alibiref15_Few_ok _ _ h12) <| pk4 <| pb c13 <| pc (alibilaw23_awake_ok _ h15) <| pk <| pz)
     · obtain ⟨v16, h17, h⟩ := bind_of h
       obtain ⟨v18, h19, h⟩ := bind_of h
       rcases if_of h with ⟨c20, h⟩ | ⟨c20, h⟩
       · rcases if_of h with ⟨c21, h⟩ | ⟨c21, h⟩
         · have h := Option.some.inj h; subst h
           exact pdoes mixed (L := lives) (by kernel_rfl) (pk <| pc (alibilaw23_awake_ok _ h2) <| pk2 <| pb c3 <| pk2 <| pc (alibiref05_Small_ok _ _ h7) <| pk4 <| pb c8 <| pk <| pc (alibiref15_Few_ok _ _ h12) <| pk4 <| pb c13 <| pk <| pc (live_Rules_ok _ _ h17) <| pk2 <| pc (alibiref05_Check_ok _ _ h19) <| pk2 <| pb c20 <| pk <| pb c21 <| pk5 <| pz)
         · have h := Option.some.inj h; subst h
           exact pdoes mixed (L := lives) (by kernel_rfl) (pk <| pc (alibilaw23_awake_ok _ h2) <| pk2 <| pb c3 <| pk2 <| pc (alibiref05_Small_ok _ _ h7) <| pk4 <| pb c8 <| pk <| pc (alibiref15_Few_ok _ _ h12) <| pk4 <| pb c13 <| pk <| pc (live_Rules_ok _ _ h17) <| pk2 <| pc (alibiref05_Check_ok _ _ h19) <| pk2 <| pb c20 <| pk <| pb c21 <| pk3 <| pz)
       · obtain ⟨v22, h23, h⟩ := bind_of h
         rcases if_of h with ⟨c24, h⟩ | ⟨c24, h⟩
         · have h := Option.some.inj h; subst h
           exact pdoes mixed (L := lives) (by kernel_rfl) (pk <| pc (alibilaw23_awake_ok _ h2) <| pk2 <| pb c3 <| pk2 <| pc (alibiref05_Small_ok _ _ h7) <| pk4 <| pb c8 <| pk <| pc (alibiref15_Few_ok _ _ h12) <| pk4 <| pb c13 <| pk <| pc (live_Rules_ok _ _ h17) <| pk2 <| pc (alibiref05_Check_ok _ _ h19) <| pk2 <| pb c20 <| pk <| pc (hold_Lay_ok _ _ h23) <| pk4 <| pb c24 <| pk6 <| pz)
         · obtain ⟨v25, h26, h⟩ := bind_of h
           rcases if_of h with ⟨c27, h⟩ | ⟨c27, h⟩
           · have h := Option.some.inj h; subst h
             exact pdoes mixed (L := lives) (by kernel_rfl) (pk <| pc (alibilaw23_awake_ok _ h2) <| pk2 <| pb c3 <| pk2 <| pc (alibiref05_Small_ok _ _ h7) <| pk4 <| pb c8 <| pk <| pc (alibiref15_Few_ok _ _ h12) <| pk4 <| pb c13 <| pk <| pc (live_Rules_ok _ _ h17) <| pk2 <| pc (alibiref05_Check_ok _ _ h19) <| pk2 <| pb c20 <| pk <| pc (hold_Lay_ok _ _ h23) <| pk4 <| pb c24 <| pk3 <| pc (alibiref15_Shaped_ok _ _ _ h26) <| pk4 <| pb c27 <| pk <| pz)
           · obtain ⟨c28, h⟩ := need_of h
             obtain ⟨c29, h⟩ := need_of h
             obtain ⟨q, hq, h⟩ := bind_of h
             cases q with
             | x0 v58 v59 =>
              have h60 := hq; clear hq
              try dsimp only at h
              have h := Option.some.inj h; subst h
              exact pdoes mixed (L := lives) (by kernel_rfl) (pk <| pc (alibilaw23_awake_ok _ h2) <| pk2 <| pb c3 <| pk2 <| pc (alibiref05_Small_ok _ _ h7) <| pk4 <| pb c8 <| pk <| pc (alibiref15_Few_ok _ _ h12) <| pk4 <| pb c13 <| pk <| pc (live_Rules_ok _ _ h17) <| pk2 <| pc (alibiref05_Check_ok _ _ h19) <| pk2 <| pb c20 <| pk <| pc (hold_Lay_ok _ _ h23) <| pk4 <| pb c24 <| pk3 <| pc (alibiref15_Shaped_ok _ _ _ h26) <| pk4 <| pb c27 <| pn c28 <| pn ((decide_eq_true rfl) : (decide ((v22.1 : Int) = v22.1)) = true) <| pn c29 <| pe (eff_make o_u32 (0#32) 8 1 (Int.toNat v22.1)) <| pl (alibilaw23_LiveRules_l12_ok _ _ _ _ _ _ _ _ _ _ _ h60) <| pz)
             | x1 v61 =>
              have h62 := hq; clear hq
              try dsimp only at h
              obtain ⟨v73, h74, h⟩ := bind_of h
              obtain ⟨v75, h76, h⟩ := bind_of h
              have h := Option.some.inj h; subst h
              exact pdoes mixed (L := lives) (by kernel_rfl) (pk <| pc (alibilaw23_awake_ok _ h2) <| pk2 <| pb c3 <| pk2 <| pc (alibiref05_Small_ok _ _ h7) <| pk4 <| pb c8 <| pk <| pc (alibiref15_Few_ok _ _ h12) <| pk4 <| pb c13 <| pk <| pc (live_Rules_ok _ _ h17) <| pk2 <| pc (alibiref05_Check_ok _ _ h19) <| pk2 <| pb c20 <| pk <| pc (hold_Lay_ok _ _ h23) <| pk4 <| pb c24 <| pk3 <| pc (alibiref15_Shaped_ok _ _ _ h26) <| pk4 <| pb c27 <| pn c28 <| pn ((decide_eq_true rfl) : (decide ((v22.1 : Int) = v22.1)) = true) <| pn c29 <| pe (eff_make o_u32 (0#32) 8 1 (Int.toNat v22.1)) <| pl (alibilaw23_LiveRules_l12_ok _ _ _ _ _ _ _ _ _ _ _ h62) <| pl (alibilaw23_LiveRules_l23_ok _ _ _ _ _ _ _ _ _ _ _ h74) <| pk <| pc (alibiref16_Check_ok _ _ _ h76) <| pk4 <| pz)
end Go.Bm.GoYtdifolgbppffpaa
