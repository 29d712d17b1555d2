/- Printed by gen2.py. -/
import Derived.Test.YtldkmmnffjdliaaT7a
namespace Go.Bm.GoYtldkmmnffjdliaa
open Go.Proofs
set_option autoImplicit false
set_option linter.unusedVariables false
set_option linter.unusedSimpArgs false
set_option maxRecDepth 100000
set_option synthInstance.maxHeartbeats 400000
set_option synthInstance.maxSize 2048
noncomputable def alibiref05_Check_l23_c : Code := sub (codeOf Try.prog 41) [1, 1, 1, 1, 1, 1, 0, 1, 0, 0, 1, 0, 0, 1, 0, 0]
inductive alibiref05_Check_l23_R where
  | x0 (v0 : Int) (v1 : Int)
  | x1
def alibiref05_Check_l23_R.ex : alibiref05_Check_l23_R → Ex
  | .x0 _ _ => .ret
  | .x1 => .exit 6
noncomputable def alibiref05_Check_l23_R.st (x0 : List (List Int)) (x1 : Int) (x2 : Int) (x3 : Int) (x4 : List (List api_Node)) (x5 : Int) (x6 : Int) (x7 : Int) : alibiref05_Check_l23_R → St
  | .x0 v0 v1 => ⟨dead :: .ptr 0 [] 0 0 :: .pv (.int .i64 x6) :: .pv (.int .i64 v0) :: .pv (.int .i64 v1) :: .pv (.int .i64 x5) :: dead :: dead :: .ms 1 [] 0 (List.length x0) :: .pv (.int .i64 x6) :: List.replicate 136 dead, [.box 0 [.pv (.int .i64 x1), .pv (.int .i64 x2), .pv (.int .i64 x3), .pv (.seq (List.length x4) (encP e_61 ([] : List api_Node) x4))], .arr 0 1 (List.length x0) (encW o_26 ([] : List Int) x0)]⟩
  | .x1 => ⟨dead :: .ptr 0 [] 0 0 :: dead :: dead :: dead :: .pv (.int .i64 x5) :: dead :: dead :: .ms 1 [] 0 (List.length x0) :: .pv (.int .i64 x6) :: List.replicate 136 dead, [.box 0 [.pv (.int .i64 x1), .pv (.int .i64 x2), .pv (.int .i64 x3), .pv (.seq (List.length x4) (encP e_61 ([] : List api_Node) x4))], .arr 0 1 (List.length x0) (encW o_26 ([] : List Int) x0)]⟩
def alibiref05_Check_l23 (x0 : List (List Int)) (x1 : Int) (x2 : Int) (x3 : Int) (x4 : List (List api_Node)) (x5 : Int) (x6 : Int) (x7 : Int) : Option (alibiref05_Check_l23_R) :=
  if (decide ((0 : Int) ≤ x6)) = true then
    if (decide ((x6 : Int) < ((List.length x4 : Nat) : Int))) = true then
      if (decide ((x7 : Int) < (((List.length (List.getD x4 (Int.toNat x6) (([] : List api_Node))) : Nat) : Int)))) = true then
        if (decide ((0 : Int) ≤ x7)) = true then
          if (decide ((x7 : Int) < ((List.length (List.getD x4 (Int.toNat x6) (([] : List api_Node))) : Nat) : Int))) = true then
            if ((((List.getD (List.getD x4 (Int.toNat x6) (([] : List api_Node))) (Int.toNat x7) d_api_Node).kind) : Int) == 7) = true then
              if ((((List.getD (List.getD x4 (Int.toNat x6) (([] : List api_Node))) (Int.toNat x7) d_api_Node).arg) : Int) == x6) = true then
                some (.x0 x7 8)
              else
                if (decide ((0 : Int) ≤ ((List.getD (List.getD x4 (Int.toNat x6) (([] : List api_Node))) (Int.toNat x7) d_api_Node).arg))) = true then
                  if (decide ((((List.getD (List.getD x4 (Int.toNat x6) (([] : List api_Node))) (Int.toNat x7) d_api_Node).arg) : Int) < (((List.length x0) : Nat) : Int))) = true then
                    if (decide ((x6 : Int) < (((List.length (List.getD x0 (Int.toNat ((List.getD (List.getD x4 (Int.toNat x6) (([] : List api_Node))) (Int.toNat x7) d_api_Node).arg)) (([] : List Int)))) : Nat) : Int))) = true then
                      if (((List.getD (List.getD x0 (Int.toNat ((List.getD (List.getD x4 (Int.toNat x6) (([] : List api_Node))) (Int.toNat x7) d_api_Node).arg)) (([] : List Int))) (Int.toNat x6) 0) : Int) == 1) = true then
                        some (.x0 x7 8)
                      else
                        alibiref05_Check_l23 x0 x1 x2 x3 x4 x5 x6 (iAdd x7 1)
                    else none
                  else none
                else none
            else
              alibiref05_Check_l23 x0 x1 x2 x3 x4 x5 x6 (iAdd x7 1)
          else none
        else none
      else
        some (.x1)
    else none
  else none
partial_fixpoint
noncomputable abbrev alibiref05_Check_l23_s (x0 : List (List Int)) (x1 : Int) (x2 : Int) (x3 : Int) (x4 : List (List api_Node)) (x5 : Int) (x6 : Int) (x7 : Int) : St := ⟨dead :: .ptr 0 [] 0 0 :: dead :: dead :: dead :: .pv (.int .i64 x5) :: dead :: dead :: .ms 1 [] 0 (List.length x0) :: .pv (.int .i64 x6) :: .pv (.int .i64 x7) :: List.replicate 135 dead, [.box 0 [.pv (.int .i64 x1), .pv (.int .i64 x2), .pv (.int .i64 x3), .pv (.seq (List.length x4) (encP e_61 ([] : List api_Node) x4))], .arr 0 1 (List.length x0) (encW o_26 ([] : List Int) x0)]⟩
theorem alibiref05_Check_l23_ok (x0 : List (List Int)) (x1 : Int) (x2 : Int) (x3 : Int) (x4 : List (List api_Node)) (x5 : Int) (x6 : Int) (x7 : Int) (r : alibiref05_Check_l23_R) (h : alibiref05_Check_l23 x0 x1 x2 x3 x4 x5 x6 x7 = some r) : Loops Try.prog alibiref05_Check_l23_c 0 (alibiref05_Check_l23_s x0 x1 x2 x3 x4 x5 x6 x7) r.ex (alibiref05_Check_l23_R.st x0 x1 x2 x3 x4 x5 x6 x7 r) := by
 refine alibiref05_Check_l23.partial_correctness x0 x1 x2 x3 x4 x5 x6 (fun x7 r => Loops Try.prog alibiref05_Check_l23_c 0 (alibiref05_Check_l23_s x0 x1 x2 x3 x4 x5 x6 x7) r.ex (alibiref05_Check_l23_R.st x0 x1 x2 x3 x4 x5 x6 x7 r)) ?_ x7 r h
 clear h r x7
 intro self ih x7 r h
 obtain ⟨c34, h⟩ := need_of h
 obtain ⟨c35, h⟩ := need_of h
 rcases if_of h with ⟨c36, h⟩ | ⟨c36, h⟩
 · obtain ⟨c37, h⟩ := need_of h
   obtain ⟨c38, h⟩ := need_of h
   rcases if_of h with ⟨c39, h⟩ | ⟨c39, h⟩
   · rcases if_of h with ⟨c40, h⟩ | ⟨c40, h⟩
     · have h := Option.some.inj h; subst h
       exact plast mixed lives 41 (by kernel_rfl) (pk <| pn c34 <| pn c35 <| pk3 <| pb c36 <| pk <| pn c34 <| pn c35 <| pk <| pn c37 <| pn c38 <| pk5 <| pb c39 <| pk6 <| pb c40 <| pk8 <| pk4 <| pz) rfl
     · obtain ⟨c41, h⟩ := need_of h
       obtain ⟨c42, h⟩ := need_of h
       obtain ⟨c43, h⟩ := need_of h
       rcases if_of h with ⟨c44, h⟩ | ⟨c44, h⟩
       · have h := Option.some.inj h; subst h
         exact plast mixed lives 41 (by kernel_rfl) (pk <| pn c34 <| pn c35 <| pk3 <| pb c36 <| pk <| pn c34 <| pn c35 <| pk <| pn c37 <| pn c38 <| pk5 <| pb c39 <| pk6 <| pb c40 <| pk4 <| pn c41 <| pn c42 <| pk4 <| pn c34 <| pn c43 <| pk7 <| pb c44 <| pz) rfl
       · exact pmore mixed lives 41 (by kernel_rfl) (pk <| pn c34 <| pn c35 <| pk3 <| pb c36 <| pk <| pn c34 <| pn c35 <| pk <| pn c37 <| pn c38 <| pk5 <| pb c39 <| pk6 <| pb c40 <| pk4 <| pn c41 <| pn c42 <| pk4 <| pn c34 <| pn c43 <| pk7 <| pb c44 <| pk <| pz) (ih (iAdd x7 1) _ h)
   · exact pmore mixed lives 41 (by kernel_rfl) (pk <| pn c34 <| pn c35 <| pk3 <| pb c36 <| pk <| pn c34 <| pn c35 <| pk <| pn c37 <| pn c38 <| pk5 <| pb c39 <| pk8 <| pz) (ih (iAdd x7 1) _ h)
 · have h := Option.some.inj h; subst h
   exact plast mixed lives 41 (by kernel_rfl) (pk <| pn c34 <| pn c35 <| pk3 <| pb c36 <| pz) rfl
noncomputable def alibiref05_Check_l20_c : Code := sub (codeOf Try.prog 41) [1, 1, 1, 1, 1, 1, 0, 1, 0, 0]
inductive alibiref05_Check_l20_R where
  | x0 (v0 : Int) (v1 : Int) (v2 : Int)
  | x1
def alibiref05_Check_l20_R.ex : alibiref05_Check_l20_R → Ex
  | .x0 _ _ _ => .ret
  | .x1 => .exit 4
noncomputable def alibiref05_Check_l20_R.st (x0 : List (List Int)) (x1 : Int) (x2 : Int) (x3 : Int) (x4 : List (List api_Node)) (x5 : Int) (x6 : Int) : alibiref05_Check_l20_R → St
  | .x0 v0 v1 v2 => ⟨dead :: dead :: .pv (.int .i64 v0) :: .pv (.int .i64 v1) :: .pv (.int .i64 v2) :: List.replicate 141 dead, []⟩
  | .x1 => ⟨List.replicate 146 dead, []⟩
def alibiref05_Check_l20 (x0 : List (List Int)) (x1 : Int) (x2 : Int) (x3 : Int) (x4 : List (List api_Node)) (x5 : Int) (x6 : Int) : Option (alibiref05_Check_l20_R) :=
  if (decide ((x6 : Int) < x5)) = true then
    bind (alibiref05_Check_l23 x0 x1 x2 x3 x4 x5 x6 0) fun q => match q with
      | .x0 v45 v46 =>
        some (.x0 x6 v45 v46)
      | .x1 =>
        alibiref05_Check_l20 x0 x1 x2 x3 x4 x5 (iAdd x6 1)
  else
    some (.x1)
partial_fixpoint
noncomputable abbrev alibiref05_Check_l20_s (x0 : List (List Int)) (x1 : Int) (x2 : Int) (x3 : Int) (x4 : List (List api_Node)) (x5 : Int) (x6 : Int) : St := ⟨dead :: .ptr 0 [] 0 0 :: dead :: dead :: dead :: .pv (.int .i64 x5) :: dead :: dead :: .ms 1 [] 0 (List.length x0) :: .pv (.int .i64 x6) :: List.replicate 136 dead, [.box 0 [.pv (.int .i64 x1), .pv (.int .i64 x2), .pv (.int .i64 x3), .pv (.seq (List.length x4) (encP e_61 ([] : List api_Node) x4))], .arr 0 1 (List.length x0) (encW o_26 ([] : List Int) x0)]⟩
theorem alibiref05_Check_l20_ok (x0 : List (List Int)) (x1 : Int) (x2 : Int) (x3 : Int) (x4 : List (List api_Node)) (x5 : Int) (x6 : Int) (r : alibiref05_Check_l20_R) (h : alibiref05_Check_l20 x0 x1 x2 x3 x4 x5 x6 = some r) : Loops Try.prog alibiref05_Check_l20_c 0 (alibiref05_Check_l20_s x0 x1 x2 x3 x4 x5 x6) r.ex (alibiref05_Check_l20_R.st x0 x1 x2 x3 x4 x5 x6 r) := by
 refine alibiref05_Check_l20.partial_correctness x0 x1 x2 x3 x4 x5 (fun x6 r => Loops Try.prog alibiref05_Check_l20_c 0 (alibiref05_Check_l20_s x0 x1 x2 x3 x4 x5 x6) r.ex (alibiref05_Check_l20_R.st x0 x1 x2 x3 x4 x5 x6 r)) ?_ x6 r h
 clear h r x6
 intro self ih x6 r h
 rcases if_of h with ⟨c33, h⟩ | ⟨c33, h⟩
 · obtain ⟨q, hq, h⟩ := bind_of h
   cases q with
   | x0 v45 v46 =>
    have h47 := hq; clear hq
    try dsimp only at h
    have h := Option.some.inj h; subst h
    exact plast mixed lives 41 (by kernel_rfl) (pk <| pb c33 <| pl (alibiref05_Check_l23_ok _ _ _ _ _ _ _ _ _ h47) <| pz) rfl
   | x1 =>
    have h48 := hq; clear hq
    try dsimp only at h
    exact pmore mixed lives 41 (by kernel_rfl) (pk <| pb c33 <| pl (alibiref05_Check_l23_ok _ _ _ _ _ _ _ _ _ h48) <| pk <| pz) (ih (iAdd x6 1) _ h)
 · have h := Option.some.inj h; subst h
   exact plast mixed lives 41 (by kernel_rfl) (pk <| pb c33 <| pz) rfl
/-- alibi/alibiref05.Check -/
def alibiref05_Check (p : api_Program) : Option (Int × Int × Int) :=
  if (decide ((p.globals : Int) < 0)) = true then
    some ((-1), (-1), 1)
  else
    if (decide ((p.locks : Int) < 0)) = true then
      some ((-1), (-1), 1)
    else
      if (decide ((p.slots : Int) < 0)) = true then
        some ((-1), (-1), 1)
      else
        if (((((List.length p.funcs : Nat) : Int)) : Int) == 0) = true then
          some ((-1), (-1), 1)
        else
          if (decide ((p.globals : Int) > 16)) = true then
            some ((-1), (-1), 4)
          else
            if (decide ((p.locks : Int) > 16)) = true then
              some ((-1), (-1), 4)
            else
              if (decide ((p.slots : Int) > 8)) = true then
                some ((-1), (-1), 4)
              else
                if (decide (((((List.length p.funcs : Nat) : Int)) : Int) > 16)) = true then
                  some ((-1), (-1), 4)
                else
                  bind (alibiref05_Check_l7 p.globals p.locks p.slots p.funcs (((List.length p.funcs : Nat) : Int)) 0) fun q => match q with
                    | .x0 v26 v27 v28 =>
                      some (v26, v27, v28)
                    | .x1 =>
                      bind (alibiref05_Calls p) fun v31 =>
                      bind (alibiref05_Check_l20 v31 p.globals p.locks p.slots p.funcs (((List.length p.funcs : Nat) : Int)) 0) fun q => match q with
                        | .x0 v49 v50 v51 =>
                          some (v49, v50, v51)
                        | .x1 =>
                          some (0, 0, 0)
theorem alibiref05_Check_ok (p : api_Program) (r : Int × Int × Int) (h : alibiref05_Check p = some r) : Does Try.prog 41 [.agg [.pv (.int .i64 p.globals), .pv (.int .i64 p.locks), .pv (.int .i64 p.slots), .pv (.seq (List.length p.funcs) (encP e_61 ([] : List api_Node) p.funcs))]] [] (.tup [.pv (.int .i64 r.1), .pv (.int .i64 r.2.1), .pv (.int .i64 r.2.2)], []) := by
 unfold alibiref05_Check at h
 rcases if_of h with ⟨c1, h⟩ | ⟨c1, h⟩
 · have h := Option.some.inj h; subst h
   exact pdoes mixed (L := lives) (by kernel_rfl) (pk5 <| pb c1 <| pk8 <| pk3 <| pz)
 · rcases if_of h with ⟨c2, h⟩ | ⟨c2, h⟩
   · have h := Option.some.inj h; subst h
     exact pdoes mixed (L := lives) (by kernel_rfl) (pk5 <| pb c1 <| pk5 <| pb c2 <| pk7 <| pz)
   · rcases if_of h with ⟨c3, h⟩ | ⟨c3, h⟩
     · have h := Option.some.inj h; subst h
       exact pdoes mixed (L := lives) (by kernel_rfl) (pk5 <| pb c1 <| pk5 <| pb c2 <| pk5 <| pb c3 <| pk3 <| pz)
     · rcases if_of h with ⟨c4, h⟩ | ⟨c4, h⟩
       · have h := Option.some.inj h; subst h
         exact pdoes mixed (L := lives) (by kernel_rfl) (pk5 <| pb c1 <| pk5 <| pb c2 <| pk5 <| pb c3 <| pk3 <| pb c4 <| pz)
       · rcases if_of h with ⟨c5, h⟩ | ⟨c5, h⟩
         · have h := Option.some.inj h; subst h
           exact pdoes mixed (L := lives) (by kernel_rfl) (pk5 <| pb c1 <| pk5 <| pb c2 <| pk5 <| pb c3 <| pk3 <| pb c4 <| pk2 <| pb c5 <| pk8 <| pk3 <| pz)
         · rcases if_of h with ⟨c6, h⟩ | ⟨c6, h⟩
           · have h := Option.some.inj h; subst h
             exact pdoes mixed (L := lives) (by kernel_rfl) (pk5 <| pb c1 <| pk5 <| pb c2 <| pk5 <| pb c3 <| pk3 <| pb c4 <| pk2 <| pb c5 <| pk5 <| pb c6 <| pk7 <| pz)
           · rcases if_of h with ⟨c7, h⟩ | ⟨c7, h⟩
             · have h := Option.some.inj h; subst h
               exact pdoes mixed (L := lives) (by kernel_rfl) (pk5 <| pb c1 <| pk5 <| pb c2 <| pk5 <| pb c3 <| pk3 <| pb c4 <| pk2 <| pb c5 <| pk5 <| pb c6 <| pk5 <| pb c7 <| pk3 <| pz)
             · rcases if_of h with ⟨c8, h⟩ | ⟨c8, h⟩
               · have h := Option.some.inj h; subst h
                 exact pdoes mixed (L := lives) (by kernel_rfl) (pk5 <| pb c1 <| pk5 <| pb c2 <| pk5 <| pb c3 <| pk3 <| pb c4 <| pk2 <| pb c5 <| pk5 <| pb c6 <| pk5 <| pb c7 <| pk3 <| pb c8 <| pz)
               · obtain ⟨q, hq, h⟩ := bind_of h
                 cases q with
                 | x0 v26 v27 v28 =>
                  have h29 := hq; clear hq
                  try dsimp only at h
                  have h := Option.some.inj h; subst h
                  exact pdoes mixed (L := lives) (by kernel_rfl) (pk5 <| pb c1 <| pk5 <| pb c2 <| pk5 <| pb c3 <| pk3 <| pb c4 <| pk2 <| pb c5 <| pk5 <| pb c6 <| pk5 <| pb c7 <| pk3 <| pb c8 <| pl (alibiref05_Check_l7_ok _ _ _ _ _ _ _ h29) <| pz)
                 | x1 =>
                  have h30 := hq; clear hq
                  try dsimp only at h
                  obtain ⟨v31, h32, h⟩ := bind_of h
                  obtain ⟨q, hq, h⟩ := bind_of h
                  cases q with
                  | x0 v49 v50 v51 =>
                   have h52 := hq; clear hq
                   try dsimp only at h
                   have h := Option.some.inj h; subst h
                   exact pdoes mixed (L := lives) (by kernel_rfl) (pk5 <| pb c1 <| pk5 <| pb c2 <| pk5 <| pb c3 <| pk3 <| pb c4 <| pk2 <| pb c5 <| pk5 <| pb c6 <| pk5 <| pb c7 <| pk3 <| pb c8 <| pl (alibiref05_Check_l7_ok _ _ _ _ _ _ _ h30) <| pk <| pc (alibiref05_Calls_ok _ _ h32) <| pk <| pl (alibiref05_Check_l20_ok _ _ _ _ _ _ _ _ h52) <| pz)
                  | x1 =>
                   have h53 := hq; clear hq
                   try dsimp only at h
                   have h := Option.some.inj h; subst h
                   exact pdoes mixed (L := lives) (by kernel_rfl) (pk5 <| pb c1 <| pk5 <| pb c2 <| pk5 <| pb c3 <| pk3 <| pb c4 <| pk2 <| pb c5 <| pk5 <| pb c6 <| pk5 <| pb c7 <| pk3 <| pb c8 <| pl (alibiref05_Check_l7_ok _ _ _ _ _ _ _ h30) <| pk <| pc (alibiref05_Calls_ok _ _ h32) <| pk <| pl (alibiref05_Check_l20_ok _ _ _ _ _ _ _ _ h53) <| pz)
noncomputable def alibiref06_has_l2_c : Code := sub (codeOf Try.prog 84) [1, 0, 1, 0, 0]
inductive alibiref06_has_l2_R where
  | x0 (v0 : Bool)
  | x1
def alibiref06_has_l2_R.ex : alibiref06_has_l2_R → Ex
  | .x0 _ => .ret
  | .x1 => .exit 0
noncomputable def alibiref06_has_l2_R.st (x0 : List Int) (x1 : Int) (x2 : Int) : alibiref06_has_l2_R → St
  | .x0 v0 => ⟨(List.replicate 4 dead ++ (.pv (.bool v0) :: List.replicate 13 dead)), []⟩
  | .x1 => ⟨List.replicate 18 dead, []⟩
def alibiref06_has_l2 (x0 : List Int) (x1 : Int) (x2 : Int) : Option (alibiref06_has_l2_R) :=
  if (decide ((x2 : Int) < (((List.length x0 : Nat) : Int)))) = true then
    if (decide ((0 : Int) ≤ x2)) = true then
      if (decide ((x2 : Int) < ((List.length x0 : Nat) : Int))) = true then
        if (((List.getD x0 (Int.toNat x2) 0) : Int) == x1) = true then
          some (.x0 true)
        else
          alibiref06_has_l2 x0 x1 (iAdd x2 1)
      else none
    else none
  else
    some (.x1)
partial_fixpoint
noncomputable abbrev alibiref06_has_l2_s (x0 : List Int) (x1 : Int) (x2 : Int) : St := ⟨.pv (.seq (List.length x0) (encP e_i64 0 x0)) :: .pv (.int .i64 x1) :: dead :: dead :: dead :: .pv (.int .i64 x2) :: List.replicate 12 dead, []⟩
theorem alibiref06_has_l2_ok (x0 : List Int) (x1 : Int) (x2 : Int) (r : alibiref06_has_l2_R) (h : alibiref06_has_l2 x0 x1 x2 = some r) : Loops Try.prog alibiref06_has_l2_c 0 (alibiref06_has_l2_s x0 x1 x2) r.ex (alibiref06_has_l2_R.st x0 x1 x2 r) := by
 refine alibiref06_has_l2.partial_correctness x0 x1 (fun x2 r => Loops Try.prog alibiref06_has_l2_c 0 (alibiref06_has_l2_s x0 x1 x2) r.ex (alibiref06_has_l2_R.st x0 x1 x2 r)) ?_ x2 r h
 clear h r x2
 intro self ih x2 r h
 rcases if_of h with ⟨c1, h⟩ | ⟨c1, h⟩
 · obtain ⟨c2, h⟩ := need_of h
   obtain ⟨c3, h⟩ := need_of h
   rcases if_of h with ⟨c4, h⟩ | ⟨c4, h⟩
   · have h := Option.some.inj h; subst h
     exact plast mixed lives 84 (by kernel_rfl) (pk2 <| pb c1 <| pn c2 <| pn c3 <| pk2 <| pb c4 <| pz) rfl
   · exact pmore mixed lives 84 (by kernel_rfl) (pk2 <| pb c1 <| pn c2 <| pn c3 <| pk2 <| pb c4 <| pk <| pz) (ih (iAdd x2 1) _ h)
 · have h := Option.some.inj h; subst h
   exact plast mixed lives 84 (by kernel_rfl) (pk2 <| pb c1 <| pz) rfl
/-- alibi/alibiref06.has -/
def alibiref06_has (l : List Int) (n1 : Int) : Option (Bool) :=
  bind (alibiref06_has_l2 l n1 0) fun q => match q with
    | .x0 v5 =>
      some v5
    | .x1 =>
      some false
theorem alibiref06_has_ok (l : List Int) (n1 : Int) (r : Bool) (h : alibiref06_has l n1 = some r) : Does Try.prog 84 [.pv (.seq (List.length l) (encP e_i64 0 l)), .pv (.int .i64 n1)] [] (.pv (.bool r), []) := by
 unfold alibiref06_has at h
 obtain ⟨q, hq, h⟩ := bind_of h
 cases q with
 | x0 v5 =>
  have h6 := hq; clear hq
  try dsimp only at h
  have h := Option.some.inj h; subst h
  exact pdoes mixed (L := lives) (by kernel_rfl) (pl (alibiref06_has_l2_ok _ _ _ _ h6) <| pz)
 | x1 =>
  have h7 := hq; clear hq
  try dsimp only at h
  have h := Option.some.inj h; subst h
  exact pdoes mixed (L := lives) (by kernel_rfl) (pl (alibiref06_has_l2_ok _ _ _ _ h7) <| pz)
noncomputable def alibiref06_Named_l7_c : Code := sub (codeOf Try.prog 85) [1, 1, 0, 1, 0, 0, 1, 0, 0, 1, 0, 1, 0, 0]
def alibiref06_Named_l7 (x0 : List Int) (x1 : List api_Node) (x2 : Int) (x3 : Int) (x4 : Bool) (x5 : Int) : Option (Bool) :=
  if (decide ((x5 : Int) < (((List.length x1 : Nat) : Int)))) = true then
    if x4 = true then
      alibiref06_Named_l7 x0 x1 x2 x3 true (iAdd x5 1)
    else
      if (decide ((0 : Int) ≤ x5)) = true then
        if (decide ((x5 : Int) < ((List.length x1 : Nat) : Int))) = true then
          if ((((List.getD x1 (Int.toNat x5) d_api_Node).kind) : Int) == x2) = true then
            alibiref06_Named_l7 x0 x1 x2 x3 ((((List.getD x1 (Int.toNat x5) d_api_Node).arg) : Int) == x3) (iAdd x5 1)
          else
            alibiref06_Named_l7 x0 x1 x2 x3 false (iAdd x5 1)
        else none
      else none
  else
    some x4
partial_fixpoint
noncomputable abbrev alibiref06_Named_l7_s (x0 : List Int) (x1 : List api_Node) (x2 : Int) (x3 : Int) (x4 : Bool) (x5 : Int) : St := ⟨.pv (.seq (List.length x1) (encP e_api_Node d_api_Node x1)) :: .pv (.int .i64 x2) :: dead :: dead :: dead :: .ms 0 [] 0 (List.length x0) :: .pv (.int .i64 x3) :: .pv (.bool x4) :: .pv (.int .i64 x5) :: List.replicate 35 dead, [.arr 0 1 (List.length x0) (encW o_i64 0 x0)]⟩
noncomputable abbrev alibiref06_Named_l7_e (x0 : List Int) (x1 : List api_Node) (x2 : Int) (x3 : Int) (x4 : Bool) (x5 : Int) (r : Bool) : St := ⟨.pv (.seq (List.length x1) (encP e_api_Node d_api_Node x1)) :: .pv (.int .i64 x2) :: dead :: dead :: dead :: .ms 0 [] 0 (List.length x0) :: .pv (.int .i64 x3) :: .pv (.bool r) :: List.replicate 36 dead, [.arr 0 1 (List.length x0) (encW o_i64 0 x0)]⟩
theorem alibiref06_Named_l7_ok (x0 : List Int) (x1 : List api_Node) (x2 : Int) (x3 : Int) (x4 : Bool) (x5 : Int) (r : Bool) (h : alibiref06_Named_l7 x0 x1 x2 x3 x4 x5 = some r) : Loops Try.prog alibiref06_Named_l7_c 0 (alibiref06_Named_l7_s x0 x1 x2 x3 x4 x5) (.exit 2) (alibiref06_Named_l7_e x0 x1 x2 x3 x4 x5 r) := by
 refine alibiref06_Named_l7.partial_correctness x0 x1 x2 x3 (fun x4 x5 r => Loops Try.prog alibiref06_Named_l7_c 0 (alibiref06_Named_l7_s x0 x1 x2 x3 x4 x5) (.exit 2) (alibiref06_Named_l7_e x0 x1 x2 x3 x4 x5 r)) ?_ x4 x5 r h
 clear h r x4 x5
 intro self ih x4 x5 r h
 rcases if_of h with ⟨c2, h⟩ | ⟨c2, h⟩
 · rcases if_of h with ⟨c3, h⟩ | ⟨c3, h⟩
   · exact pmore mixed lives 85 (by kernel_rfl) (pk2 <| pb c2 <| pb c3 <| pk8 <| pk2 <| pz) (ih true (iAdd x5 1) _ h)
   · obtain ⟨c4, h⟩ := need_of h
     obtain ⟨c5, h⟩ := need_of h
     rcases if_of h with ⟨c6, h⟩ | ⟨c6, h⟩
     · exact pmore mixed lives 85 (by kernel_rfl) (pk2 <| pb c2 <| pb c3 <| pk2 <| pn c4 <| pn c5 <| pk7 <| pb c6 <| pk2 <| pn c4 <| pn c5 <| pk8 <| pk2 <| pz) (ih ((((List.getD x1 (Int.toNat x5) d_api_Node).arg) : Int) == x3) (iAdd x5 1) _ h)
     · exact pmore mixed lives 85 (by kernel_rfl) (pk2 <| pb c2 <| pb c3 <| pk2 <| pn c4 <| pn c5 <| pk7 <| pb c6 <| pk8 <| pk2 <| pz) (ih false (iAdd x5 1) _ h)
 · have h := Option.some.inj h; subst h
   exact plast mixed lives 85 (by kernel_rfl) (pk2 <| pb c2 <| pz) rfl
noncomputable def alibiref06_Named_l3_c : Code := sub (codeOf Try.prog 85) [1, 1, 0, 1, 0, 0]
def alibiref06_Named_l3 (x0 : List Int) (x1 : List api_Node) (x2 : Int) (x3 : Int) : Option ((List Int)) :=
  if (decide ((x3 : Int) < 32)) = true then
    bind (alibiref06_Named_l7 x0 x1 x2 x3 false 0) fun v7 =>
    if v7 = true then
      if (Nat.ble ((List.length x0 + List.length ([x3])) * 8) reach) = true then
        alibiref06_Named_l3 (x0 ++ ([x3])) x1 x2 (iAdd x3 1)
      else none
    else
      alibiref06_Named_l3 x0 x1 x2 (iAdd x3 1)
  else
    some x0
partial_fixpoint
noncomputable abbrev alibiref06_Named_l3_s (x0 : List Int) (x1 : List api_Node) (x2 : Int) (x3 : Int) : St := ⟨.pv (.seq (List.length x1) (encP e_api_Node d_api_Node x1)) :: .pv (.int .i64 x2) :: dead :: dead :: dead :: .ms 0 [] 0 (List.length x0) :: .pv (.int .i64 x3) :: List.replicate 37 dead, [.arr 0 1 (List.length x0) (encW o_i64 0 x0)]⟩
noncomputable abbrev alibiref06_Named_l3_e (x0 : List Int) (x1 : List api_Node) (x2 : Int) (x3 : Int) (r : (List Int)) : St := ⟨(List.replicate 5 dead ++ (.ms 0 [] 0 (List.length r) :: List.replicate 38 dead)), [.arr 0 1 (List.length r) (encW o_i64 0 r)]⟩
theorem alibiref06_Named_l3_ok (x0 : List Int) (x1 : List api_Node) (x2 : Int) (x3 : Int) (r : (List Int)) (h : alibiref06_Named_l3 x0 x1 x2 x3 = some r) : Loops Try.prog alibiref06_Named_l3_c 0 (alibiref06_Named_l3_s x0 x1 x2 x3) (.exit 0) (alibiref06_Named_l3_e x0 x1 x2 x3 r) := by
 refine alibiref06_Named_l3.partial_correctness x1 x2 (fun x0 x3 r => Loops Try.prog alibiref06_Named_l3_c 0 (alibiref06_Named_l3_s x0 x1 x2 x3) (.exit 0) (alibiref06_Named_l3_e x0 x1 x2 x3 r)) ?_ x0 x3 r h
 clear h r x0 x3
 intro self ih x0 x3 r h
 rcases if_of h with ⟨c1, h⟩ | ⟨c1, h⟩
 · obtain ⟨v7, h8, h⟩ := bind_of h
   rcases if_of h with ⟨c9, h⟩ | ⟨c9, h⟩
   · obtain ⟨c10, h⟩ := need_of h
     exact pmore mixed lives 85 (by kernel_rfl) (pk <| pb c1 <| pl (alibiref06_Named_l7_ok _ _ _ _ _ _ _ h8) <| pb c9 <| pe (eff_lit o_i64 0 1 1 1 ([x3]) rfl [] []) <| pb (whole_ok (List.length ([x3]))) <| pn c10 <| pe (eff_app o_i64 0 x0 ([x3]) (x0 ++ ([x3])) 0 1 (List.length x0) (List.length ([x3])) (fun i => List.map AV.scal (encW o_i64 0 ([x3]) i)) (encW o_i64 0 x0 (List.length x0)) [] [] [(0, false)] (by first | exact Nat.le_refl _ | exact Nat.zero_le _ | (simp only [decide_eq_true_eq, List.length_set, List.length_append, List.length_replicate, List.length_cons, List.length_nil, Nat.zero_add] at * <;> omega)) rfl (fun _ => by kernel_rfl) (congrArg o_i64 (getD_ge 0 (by first | exact Nat.le_refl _ | exact Nat.zero_le _ | (simp only [decide_eq_true_eq, List.length_set, List.length_append, List.length_replicate, List.length_cons, List.length_nil, Nat.zero_add] at * <;> omega)))) (by rw [List.take_of_length_le (by first | exact Nat.le_refl _ | exact Nat.zero_le _ | (simp only [decide_eq_true_eq, List.length_set, List.length_append, List.length_replicate, List.length_cons, List.length_nil, Nat.zero_add] at * <;> omega))])) <| pk <| pz) (ih (x0 ++ ([x3])) (iAdd x3 1) _ h)
   · exact pmore mixed lives 85 (by kernel_rfl) (pk <| pb c1 <| pl (alibiref06_Named_l7_ok _ _ _ _ _ _ _ h8) <| pb c9 <| pk <| pz) (ih x0 (iAdd x3 1) _ h)
 · have h := Option.some.inj h; subst h
   exact plast mixed lives 85 (by kernel_rfl) (pk <| pb c1 <| pz) rfl
/-- alibi/alibiref06.Named -/
def alibiref06_Named (l : List api_Node) (kind : Int) : Option ((List Int)) :=
  bind (alibiref06_Named_l3 (([] : List Int)) l kind 0) fun v11 =>
  some v11
theorem alibiref06_Named_ok (l : List api_Node) (kind : Int) (r : (List Int)) (h : alibiref06_Named l kind = some r) : Does Try.prog 85 [.pv (.seq (List.length l) (encP e_api_Node d_api_Node l)), .pv (.int .i64 kind)] [] (.ms 0 [] 0 (List.length r), [.arr 0 1 (List.length r) (encW o_i64 0 r)]) := by
 unfold alibiref06_Named at h
 obtain ⟨v11, h12, h⟩ := bind_of h
 have h := Option.some.inj h; subst h
 exact pdoes mixed (L := lives) (by kernel_rfl) (pl (Loops.of (s1 := ⟨.pv (.seq (List.length l) (encP e_api_Node d_api_Node l)) :: .pv (.int .i64 kind) :: dead :: dead :: dead :: .ms 0 [] 0 (List.length ([] : List Int)) :: .pv (.int .i64 0) :: List.replicate 37 dead, [.arr 0 1 (List.length ([] : List Int)) (encW o_i64 0 (([] : List Int)))]⟩) (alibiref06_Named_l3_ok _ _ _ _ _ h12) (by (first | rfl | (simp only [alibiref06_Named_l3_s, List.length_set]; done)))) <| pz)
noncomputable def alibiref06_Order_l10_c : Code := sub (codeOf Try.prog 42) [1, 1, 0, 0, 0, 1, 0, 1, 0, 1, 0, 0, 1, 0, 0, 1, 1, 0, 1, 0, 0]
def alibiref06_Order_l10 (x0 : List Int) (x1 : List Int) (x2 : Int) (x3 : Int) (x4 : Int) (x5 : List (List api_Node)) (x6 : Int) (x7 : Int) (x8 : Bool) (x9 : Int) : Option (Bool) :=
  if (decide ((x9 : Int) < ((((List.length x1) : Nat) : Int)))) = true then
    if x8 = true then
      if (decide ((0 : Int) ≤ x9)) = true then
        if (decide ((x9 : Int) < (((List.length x1) : Nat) : Int))) = true then
          bind (alibiref06_has x0 (List.getD x1 (Int.toNat x9) 0)) fun v13 =>
          alibiref06_Order_l10 x0 x1 x2 x3 x4 x5 x6 x7 v13 (iAdd x9 1)
        else none
      else none
    else
      alibiref06_Order_l10 x0 x1 x2 x3 x4 x5 x6 x7 false (iAdd x9 1)
  else
    some x8
partial_fixpoint
noncomputable abbrev alibiref06_Order_l10_s (x0 : List Int) (x1 : List Int) (x2 : Int) (x3 : Int) (x4 : Int) (x5 : List (List api_Node)) (x6 : Int) (x7 : Int) (x8 : Bool) (x9 : Int) : St := ⟨dead :: .ptr 0 [] 0 0 :: dead :: .ms 1 [] 0 (List.length x0) :: .pv (.int .i64 x6) :: .pv (.int .i64 x7) :: .pv (.bool x8) :: .ms 2 [] 0 (List.length x1) :: .pv (.int .i64 x9) :: List.replicate 49 dead, [.box 0 [.pv (.int .i64 x2), .pv (.int .i64 x3), .pv (.int .i64 x4), .pv (.seq (List.length x5) (encP e_61 ([] : List api_Node) x5))], .arr 0 1 (List.length x0) (encW o_i64 0 x0), .arr 0 1 (List.length x1) (encW o_i64 0 x1)]⟩
noncomputable abbrev alibiref06_Order_l10_e (x0 : List Int) (x1 : List Int) (x2 : Int) (x3 : Int) (x4 : Int) (x5 : List (List api_Node)) (x6 : Int) (x7 : Int) (x8 : Bool) (x9 : Int) (r : Bool) : St := ⟨dead :: .ptr 0 [] 0 0 :: dead :: .ms 1 [] 0 (List.length x0) :: .pv (.int .i64 x6) :: .pv (.int .i64 x7) :: .pv (.bool r) :: List.replicate 51 dead, [.box 0 [.pv (.int .i64 x2), .pv (.int .i64 x3), .pv (.int .i64 x4), .pv (.seq (List.length x5) (encP e_61 ([] : List api_Node) x5))], .arr 0 1 (List.length x0) (encW o_i64 0 x0)]⟩
theorem alibiref06_Order_l10_ok (x0 : List Int) (x1 : List Int) (x2 : Int) (x3 : Int) (x4 : Int) (x5 : List (List api_Node)) (x6 : Int) (x7 : Int) (x8 : Bool) (x9 : Int) (r : Bool) (h : alibiref06_Order_l10 x0 x1 x2 x3 x4 x5 x6 x7 x8 x9 = some r) : Loops Try.prog alibiref06_Order_l10_c 0 (alibiref06_Order_l10_s x0 x1 x2 x3 x4 x5 x6 x7 x8 x9) (.exit 4) (alibiref06_Order_l10_e x0 x1 x2 x3 x4 x5 x6 x7 x8 x9 r) := by
 refine alibiref06_Order_l10.partial_correctness x0 x1 x2 x3 x4 x5 x6 x7 (fun x8 x9 r => Loops Try.prog alibiref06_Order_l10_c 0 (alibiref06_Order_l10_s x0 x1 x2 x3 x4 x5 x6 x7 x8 x9) (.exit 4) (alibiref06_Order_l10_e x0 x1 x2 x3 x4 x5 x6 x7 x8 x9 r)) ?_ x8 x9 r h
 clear h r x8 x9
 intro self ih x8 x9 r h
 rcases if_of h with ⟨c9, h⟩ | ⟨c9, h⟩
 · rcases if_of h with ⟨c10, h⟩ | ⟨c10, h⟩
   · obtain ⟨c11, h⟩ := need_of h
     obtain ⟨c12, h⟩ := need_of h
     obtain ⟨v13, h14, h⟩ := bind_of h
     exact pmore mixed lives 42 (by kernel_rfl) (pk2 <| pb c9 <| pb c10 <| pk3 <| pn c11 <| pn c12 <| pk3 <| pb (whole_ok (List.length x0)) <| pc (alibiref06_has_ok _ _ _ h14) <| pk3 <| pz) (ih v13 (iAdd x9 1) _ h)
   · exact pmore mixed lives 42 (by kernel_rfl) (pk2 <| pb c9 <| pb c10 <| pk7 <| pz) (ih false (iAdd x9 1) _ h)
 · have h := Option.some.inj h; subst h
   exact plast mixed lives 42 (by kernel_rfl) (pk2 <| pb c9 <| pz) rfl
noncomputable def alibiref06_Order_l5_c : Code := sub (codeOf Try.prog 42) [1, 1, 0, 0, 0, 1, 0, 1, 0, 1, 0, 0]
def alibiref06_Order_l5 (x0 : List Int) (x1 : Int) (x2 : Int) (x3 : Int) (x4 : List (List api_Node)) (x5 : Int) (x6 : Int) : Option (Int) :=
  if (decide ((x6 : Int) ≥ 0)) = true then
    bind (alibiref06_has x0 x6) fun v3 =>
    if (decide ((0 : Int) ≤ x6)) = true then
      if (decide ((x6 : Int) < ((List.length x4 : Nat) : Int))) = true then
        bind (alibiref06_Named (List.getD x4 (Int.toNat x6) (([] : List api_Node))) 7) fun v7 =>
        bind (alibiref06_Order_l10 x0 v7 x1 x2 x3 x4 x5 x6 (!v3) 0) fun v15 =>
        if v15 = true then
          alibiref06_Order_l5 x0 x1 x2 x3 x4 x6 (iSub x6 1)
        else
          alibiref06_Order_l5 x0 x1 x2 x3 x4 x5 (iSub x6 1)
      else none
    else none
  else
    some x5
partial_fixpoint
noncomputable abbrev alibiref06_Order_l5_s (x0 : List Int) (x1 : Int) (x2 : Int) (x3 : Int) (x4 : List (List api_Node)) (x5 : Int) (x6 : Int) : St := ⟨dead :: .ptr 0 [] 0 0 :: dead :: .ms 1 [] 0 (List.length x0) :: .pv (.int .i64 x5) :: .pv (.int .i64 x6) :: List.replicate 52 dead, [.box 0 [.pv (.int .i64 x1), .pv (.int .i64 x2), .pv (.int .i64 x3), .pv (.seq (List.length x4) (encP e_61 ([] : List api_Node) x4))], .arr 0 1 (List.length x0) (encW o_i64 0 x0)]⟩
noncomputable abbrev alibiref06_Order_l5_e (x0 : List Int) (x1 : Int) (x2 : Int) (x3 : Int) (x4 : List (List api_Node)) (x5 : Int) (x6 : Int) (r : Int) : St := ⟨dead :: .ptr 0 [] 0 0 :: dead :: .ms 1 [] 0 (List.length x0) :: .pv (.int .i64 r) :: List.replicate 53 dead, [.box 0 [.pv (.int .i64 x1), .pv (.int .i64 x2), .pv (.int .i64 x3), .pv (.seq (List.length x4) (encP e_61 ([] : List api_Node) x4))], .arr 0 1 (List.length x0) (encW o_i64 0 x0)]⟩
theorem alibiref06_Order_l5_ok (x0 : List Int) (x1 : Int) (x2 : Int) (x3 : Int) (x4 : List (List api_Node)) (x5 : Int) (x6 : Int) (r : Int) (h : alibiref06_Order_l5 x0 x1 x2 x3 x4 x5 x6 = some r) : Loops Try.prog alibiref06_Order_l5_c 0 (alibiref06_Order_l5_s x0 x1 x2 x3 x4 x5 x6) (.exit 2) (alibiref06_Order_l5_e x0 x1 x2 x3 x4 x5 x6 r) := by
 refine alibiref06_Order_l5.partial_correctness x0 x1 x2 x3 x4 (fun x5 x6 r => Loops Try.prog alibiref06_Order_l5_c 0 (alibiref06_Order_l5_s x0 x1 x2 x3 x4 x5 x6) (.exit 2) (alibiref06_Order_l5_e x0 x1 x2 x3 x4 x5 x6 r)) ?_ x5 x6 r h
 clear h r x5 x6
 intro self ih x5 x6 r h
 rcases if_of h with ⟨c2, h⟩ | ⟨c2, h⟩
 · obtain ⟨v3, h4, h⟩ := bind_of h
   obtain ⟨c5, h⟩ := need_of h
   obtain ⟨c6, h⟩ := need_of h
   obtain ⟨v7, h8, h⟩ := bind_of h
   obtain ⟨v15, h16, h⟩ := bind_of h
   rcases if_of h with ⟨c17, h⟩ | ⟨c17, h⟩
   · exact pmore mixed lives 42 (by kernel_rfl) (pk <| pb c2 <| pb (whole_ok (List.length x0)) <| pc (alibiref06_has_ok _ _ _ h4) <| pk3 <| pn c5 <| pn c6 <| pk <| pc (alibiref06_Named_ok _ _ _ h8) <| pk <| pl (alibiref06_Order_l10_ok _ _ _ _ _ _ _ _ _ _ _ h16) <| pb c17 <| pk <| pz) (ih x6 (iSub x6 1) _ h)
   · exact pmore mixed lives 42 (by kernel_rfl) (pk <| pb c2 <| pb (whole_ok (List.length x0)) <| pc (alibiref06_has_ok _ _ _ h4) <| pk3 <| pn c5 <| pn c6 <| pk <| pc (alibiref06_Named_ok _ _ _ h8) <| pk <| pl (alibiref06_Order_l10_ok _ _ _ _ _ _ _ _ _ _ _ h16) <| pb c17 <| pk <| pz) (ih x5 (iSub x6 1) _ h)
 · have h := Option.some.inj h; subst h
   exact plast mixed lives 42 (by kernel_rfl) (pk <| pb c2 <| pz) rfl
noncomputable def alibiref06_Order_l2_c : Code := sub (codeOf Try.prog 42) [1, 1, 0, 0, 0]
inductive alibiref06_Order_l2_R where
  | x0 (v0 : List Int)
  | x1 (v0 : List Int)
def alibiref06_Order_l2_R.ex : alibiref06_Order_l2_R → Ex
  | .x0 _ => .ret
  | .x1 _ => .exit 0
noncomputable def alibiref06_Order_l2_R.st (x0 : List Int) (x1 : Int) (x2 : Int) (x3 : Int) (x4 : List (List api_Node)) : alibiref06_Order_l2_R → St
  | .x0 v0 => ⟨dead :: dead :: .ms 0 [] 0 (List.length v0) :: .ms 0 [] 0 (List.length v0) :: List.replicate 54 dead, [.arr 0 1 (List.length v0) (encW o_i64 0 v0)]⟩
  | .x1 v0 => ⟨dead :: dead :: dead :: .ms 0 [] 0 (List.length v0) :: List.replicate 54 dead, [.arr 0 1 (List.length v0) (encW o_i64 0 v0)]⟩
def alibiref06_Order_l2 (x0 : List Int) (x1 : Int) (x2 : Int) (x3 : Int) (x4 : List (List api_Node)) : Option (alibiref06_Order_l2_R) :=
  if (decide ((((((List.length x0) : Nat) : Int)) : Int) < (((List.length x4 : Nat) : Int)))) = true then
    bind (alibiref06_Order_l5 x0 x1 x2 x3 x4 ((-1)) (iSub (((List.length x4 : Nat) : Int)) 1)) fun v18 =>
    if (decide ((v18 : Int) < 0)) = true then
      some (.x0 x0)
    else
      if (Nat.ble ((List.length x0 + List.length ([v18])) * 8) reach) = true then
        alibiref06_Order_l2 (x0 ++ ([v18])) x1 x2 x3 x4
      else none
  else
    some (.x1 x0)
partial_fixpoint
noncomputable abbrev alibiref06_Order_l2_s (x0 : List Int) (x1 : Int) (x2 : Int) (x3 : Int) (x4 : List (List api_Node)) : St := ⟨dead :: .ptr 0 [] 0 0 :: dead :: .ms 1 [] 0 (List.length x0) :: List.replicate 54 dead, [.box 0 [.pv (.int .i64 x1), .pv (.int .i64 x2), .pv (.int .i64 x3), .pv (.seq (List.length x4) (encP e_61 ([] : List api_Node) x4))], .arr 0 1 (List.length x0) (encW o_i64 0 x0)]⟩
theorem alibiref06_Order_l2_ok (x0 : List Int) (x1 : Int) (x2 : Int) (x3 : Int) (x4 : List (List api_Node)) (r : alibiref06_Order_l2_R) (h : alibiref06_Order_l2 x0 x1 x2 x3 x4 = some r) : Loops Try.prog alibiref06_Order_l2_c 0 (alibiref06_Order_l2_s x0 x1 x2 x3 x4) r.ex (alibiref06_Order_l2_R.st x0 x1 x2 x3 x4 r) := by
 refine alibiref06_Order_l2.partial_correctness x1 x2 x3 x4 (fun x0 r => Loops Try.prog alibiref06_Order_l2_c 0 (alibiref06_Order_l2_s x0 x1 x2 x3 x4) r.ex (alibiref06_Order_l2_R.st x0 x1 x2 x3 x4 r)) ?_ x0 r h
 clear h r x0
 intro self ih x0 r h
 rcases if_of h with ⟨c1, h⟩ | ⟨c1, h⟩
 · obtain ⟨v18, h19, h⟩ := bind_of h
   rcases if_of h with ⟨c20, h⟩ | ⟨c20, h⟩
   · have h := Option.some.inj h; subst h
     exact plast mixed lives 42 (by kernel_rfl) (pk4 <| pb c1 <| pk3 <| pl (alibiref06_Order_l5_ok _ _ _ _ _ _ _ _ h19) <| pk <| pb c20 <| pz) rfl
   · obtain ⟨c21, h⟩ := need_of h
     exact pmore mixed lives 42 (by kernel_rfl) (pk4 <| pb c1 <| pk3 <| pl (alibiref06_Order_l5_ok _ _ _ _ _ _ _ _ h19) <| pk <| pb c20 <| pe (eff_lit o_i64 0 2 1 1 ([v18]) rfl [] []) <| pb (whole_ok (List.length ([v18]))) <| pn c21 <| pe (eff_app o_i64 0 x0 ([v18]) (x0 ++ ([v18])) 1 1 (List.length x0) (List.length ([v18])) (fun i => List.map AV.scal (encW o_i64 0 ([v18]) i)) (encW o_i64 0 x0 (List.length x0)) [] [] [(1, false)] (by first | exact Nat.le_refl _ | exact Nat.zero_le _ | (simp only [decide_eq_true_eq, List.length_set, List.length_append, List.length_replicate, List.length_cons, List.length_nil, Nat.zero_add] at * <;> omega)) rfl (fun _ => by kernel_rfl) (congrArg o_i64 (getD_ge 0 (by first | exact Nat.le_refl _ | exact Nat.zero_le _ | (simp only [decide_eq_true_eq, List.length_set, List.length_append, List.length_replicate, List.length_cons, List.length_nil, Nat.zero_add] at * <;> omega)))) (by rw [List.take_of_length_le (by first | exact Nat.le_refl _ | exact Nat.zero_le _ | (simp only [decide_eq_true_eq, List.length_set, List.length_append, List.length_replicate, List.length_cons, List.length_nil, Nat.zero_add] at * <;> omega))])) <| pz) (ih (x0 ++ ([v18])) _ h)
 · have h := Option.some.inj h; subst h
   exact plast mixed lives 42 (by kernel_rfl) (pk4 <| pb c1 <| pz) rfl
/-- alibi/alibiref06.Order -/
def alibiref06_Order (p : api_Program) : Option ((List Int)) :=
  bind (alibiref06_Order_l2 (([] : List Int)) p.globals p.locks p.slots p.funcs) fun q => match q with
    | .x0 v22 =>
      some v22
    | .x1 v24 =>
      some v24
theorem alibiref06_Order_ok (p : api_Program) (r : (List Int)) (h : alibiref06_Order p = some r) : Does Try.prog 42 [.agg [.pv (.int .i64 p.globals), .pv (.int .i64 p.locks), .pv (.int .i64 p.slots), .pv (.seq (List.length p.funcs) (encP e_61 ([] : List api_Node) p.funcs))]] [] (.ms 0 [] 0 (List.length r), [.arr 0 1 (List.length r) (encW o_i64 0 r)]) := by
 unfold alibiref06_Order at h
 obtain ⟨q, hq, h⟩ := bind_of h
 cases q with
 | x0 v22 =>
  have h23 := hq; clear hq
  try dsimp only at h
  have h := Option.some.inj h; subst h
  exact pdoes mixed (L := lives) (by kernel_rfl) (pk <| pl (Loops.of (s1 := ⟨dead :: .ptr 0 [] 0 0 :: dead :: .ms 1 [] 0 (List.length ([] : List Int)) :: List.replicate 54 dead, [.box 0 [.pv (.int .i64 p.globals), .pv (.int .i64 p.locks), .pv (.int .i64 p.slots), .pv (.seq (List.length p.funcs) (encP e_61 ([] : List api_Node) p.funcs))], .arr 0 1 (List.length ([] : List Int)) (encW o_i64 0 (([] : List Int)))]⟩) (alibiref06_Order_l2_ok _ _ _ _ _ _ h23) (by (first | rfl | (simp only [alibiref06_Order_l2_s, List.length_set]; done)))) <| pz)
 | x1 v24 =>
  have h25 := hq; clear hq
  try dsimp only at h
  have h := Option.some.inj h; subst h
  exact pdoes mixed (L := lives) (by kernel_rfl) (pk <| pl (Loops.of (s1 := ⟨dead :: .ptr 0 [] 0 0 :: dead :: .ms 1 [] 0 (List.length ([] : List Int)) :: List.replicate 54 dead, [.box 0 [.pv (.int .i64 p.globals), .pv (.int .i64 p.locks), .pv (.int .i64 p.slots), .pv (.seq (List.length p.funcs) (encP e_61 ([] : List api_Node) p.funcs))], .arr 0 1 (List.length ([] : List Int)) (encW o_i64 0 (([] : List Int)))]⟩) (alibiref06_Order_l2_ok _ _ _ _ _ _ h25) (by (first | rfl | (simp only [alibiref06_Order_l2_s, List.length_set]; done)))) <| pz)
noncomputable def alibilaw06_GraphOrders_l11_c : Code := sub (codeOf Try.prog 9) [1, 1, 1, 1, 1, 1, 0, 1, 0, 0]
inductive alibilaw06_GraphOrders_l11_R where
  | x0 (v0 : Bool)
  | x1
def alibilaw06_GraphOrders_l11_R.ex : alibilaw06_GraphOrders_l11_R → Ex
  | .x0 _ => .ret
  | .x1 => .exit 0
noncomputable def alibilaw06_GraphOrders_l11_R.st (x0 : List Int) (x1 : List Int) (x2 : Int) : alibilaw06_GraphOrders_l11_R → St
  | .x0 v0 => ⟨dead :: dead :: .pv (.bool v0) :: List.replicate 70 dead, []⟩
  | .x1 => ⟨List.replicate 73 dead, []⟩
def alibilaw06_GraphOrders_l11 (x0 : List Int) (x1 : List Int) (x2 : Int) : Option (alibilaw06_GraphOrders_l11_R) :=
  if (decide ((x2 : Int) < ((((List.length x0) : Nat) : Int)))) = true then
    if (decide ((0 : Int) ≤ x2)) = true then
      if (decide ((x2 : Int) < (((List.length x0) : Nat) : Int))) = true then
        if (decide ((x2 : Int) < (((List.length x1) : Nat) : Int))) = true then
          if (((List.getD x0 (Int.toNat x2) 0) : Int) != (List.getD x1 (Int.toNat x2) 0)) = true then
            some (.x0 false)
          else
            alibilaw06_GraphOrders_l11 x0 x1 (iAdd x2 1)
        else none
      else none
    else none
  else
    some (.x1)
partial_fixpoint
noncomputable abbrev alibilaw06_GraphOrders_l11_s (x0 : List Int) (x1 : List Int) (x2 : Int) : St := ⟨dead :: dead :: dead :: .ms 0 [] 0 (List.length x0) :: (List.replicate 4 dead ++ (.ms 1 [] 0 (List.length x1) :: .pv (.int .i64 x2) :: List.replicate 63 dead)), [.arr 0 1 (List.length x0) (encW o_i64 0 x0), .arr 0 1 (List.length x1) (encW o_i64 0 x1)]⟩
theorem alibilaw06_GraphOrders_l11_ok (x0 : List Int) (x1 : List Int) (x2 : Int) (r : alibilaw06_GraphOrders_l11_R) (h : alibilaw06_GraphOrders_l11 x0 x1 x2 = some r) : Loops Try.prog alibilaw06_GraphOrders_l11_c 0 (alibilaw06_GraphOrders_l11_s x0 x1 x2) r.ex (alibilaw06_GraphOrders_l11_R.st x0 x1 x2 r) := by
 refine alibilaw06_GraphOrders_l11.partial_correctness x0 x1 (fun x2 r => Loops Try.prog alibilaw06_GraphOrders_l11_c 0 (alibilaw06_GraphOrders_l11_s x0 x1 x2) r.ex (alibilaw06_GraphOrders_l11_R.st x0 x1 x2 r)) ?_ x2 r h
 clear h r x2
 intro self ih x2 r h
 rcases if_of h with ⟨c22, h⟩ | ⟨c22, h⟩
 · obtain ⟨c23, h⟩ := need_of h
   obtain ⟨c24, h⟩ := need_of h
   obtain ⟨c25, h⟩ := need_of h
   rcases if_of h with ⟨c26, h⟩ | ⟨c26, h⟩
   · have h := Option.some.inj h; subst h
     exact plast mixed lives 9 (by kernel_rfl) (pk2 <| pb c22 <| pn c23 <| pn c24 <| pk <| pn c23 <| pn c25 <| pk2 <| pb c26 <| pz) rfl
   · exact pmore mixed lives 9 (by kernel_rfl) (pk2 <| pb c22 <| pn c23 <| pn c24 <| pk <| pn c23 <| pn c25 <| pk2 <| pb c26 <| pk <| pz) (ih (iAdd x2 1) _ h)
 · have h := Option.some.inj h; subst h
   exact plast mixed lives 9 (by kernel_rfl) (pk2 <| pb c22 <| pz) rfl
/-- alibi/alibilaw06.GraphOrders -/
def alibilaw06_GraphOrders (p : api_Program) : Option (Bool) :=
  bind (alibilaw06_awake) fun v1 =>
  if (!v1) = true then
    bind (alibilaw06_awake) fun v4 =>
    some v4
  else
    bind (alibiref05_Small p) fun v6 =>
    if (!v6) = true then
      bind (alibilaw06_awake) fun v9 =>
      some v9
    else
      bind (graph_Order p) fun v11 =>
      bind (alibiref05_Check p) fun v13 =>
      if ((v13.2.2 : Int) != 0) = true then
        if ((v11.1 : Int) == v13.2.2) = true then
          some ((((((List.length v11.2) : Nat) : Int)) : Int) == 0)
        else
          some false
      else
        bind (alibiref06_Order p) fun v17 =>
        if ((v11.1 : Int) != 0) = true then
          some false
        else
          if ((((((List.length v11.2) : Nat) : Int)) : Int) != ((((List.length v17) : Nat) : Int))) = true then
            some false
          else
            if ((((((List.length v11.2) : Nat) : Int)) : Int) != (((List.length p.funcs : Nat) : Int))) = true then
              some false
            else
              bind (alibilaw06_GraphOrders_l11 v11.2 v17 0) fun q => match q with
                | .x0 v27 =>
                  some v27
                | .x1 =>
                  some true
theorem alibilaw06_GraphOrders_ok (p : api_Program) (r : Bool) (h : alibilaw06_GraphOrders p = some r) : Does Try.prog 9 [.agg [.pv (.int .i64 p.globals), .pv (.int .i64 p.locks), .pv (.int .i64 p.slots), .pv (.seq (List.length p.funcs) (encP e_61 ([] : List api_Node) p.funcs))]] [] (.pv (.bool r), []) := by
 unfold alibilaw06_GraphOrders at h
 obtain ⟨v1, h2, h⟩ := bind_of h
 rcases if_of h with ⟨c3, h⟩ | ⟨c3, h⟩
 · obtain ⟨v4, h5, h⟩ := bind_of h
   have h := Option.some.inj h; subst h
   exact pdoes mixed (L := lives) (by kernel_rfl) (pk <| pc (alibilaw06_awake_ok _ h2) <| pk2 <| pb c3 <| pk4 <| pc (alibilaw06_awake_ok _ h5) <| pk <| pz)
 · obtain ⟨v6, h7, h⟩ := bind_of h
   rcases if_of h with ⟨c8, h⟩ | ⟨c8, h⟩
   · obtain ⟨v9, h10, h⟩ := bind_of h
     have h := Option.some.inj h; subst h
     exact pdoes mixed (L := lives) (by kernel_rfl) (pk <| pc (alibilaw06_awake_ok _ h2) <| pk2 <| pb c3 <| pk2 <| pc (alibiref05_Small_ok _ _ h7) <| pk4 <| pb c8 <| pc (alibilaw06_awake_ok _ h10) <| pk <| pz)
   · obtain ⟨v11, h12, h⟩ := bind_of h
     obtain ⟨v13, h14, h⟩ := bind_of h
     rcases if_of h with ⟨c15, h⟩ | ⟨c15, h⟩
     · rcases if_of h with ⟨c16, h⟩ | ⟨c16, h⟩
       · have h := Option.some.inj h; subst h
         exact pdoes mixed (L := lives) (by kernel_rfl) (pk <| pc (alibilaw06_awake_ok _ h2) <| pk2 <| pb c3 <| pk2 <| pc (alibiref05_Small_ok _ _ h7) <| pk4 <| pb c8 <| pk <| pc (graph_Order_ok _ _ h12) <| pk2 <| pc (alibiref05_Check_ok _ _ h14) <| pk2 <| pb c15 <| pk <| pb c16 <| pk5 <| pz)
       · have h := Option.some.inj h; subst h
         exact pdoes mixed (L := lives) (by kernel_rfl) (pk <| pc (alibilaw06_awake_ok _ h2) <| pk2 <| pb c3 <| pk2 <| pc (alibiref05_Small_ok _ _ h7) <| pk4 <| pb c8 <| pk <| pc (graph_Order_ok _ _ h12) <| pk2 <| pc (alibiref05_Check_ok _ _ h14) <| pk2 <| pb c15 <| pk <| pb c16 <| pk3 <| pz)
     · obtain ⟨v17, h18, h⟩ := bind_of h
       rcases if_of h with ⟨c19, h⟩ | ⟨c19, h⟩
       · have h := Option.some.inj h; subst h
         exact pdoes mixed (L := lives) (by kernel_rfl) (pk <| pc (alibilaw06_awake_ok _ h2) <| pk2 <| pb c3 <| pk2 <| pc (alibiref05_Small_ok _ _ h7) <| pk4 <| pb c8 <| pk <| pc (graph_Order_ok _ _ h12) <| pk2 <| pc (alibiref05_Check_ok _ _ h14) <| pk2 <| pb c15 <| pk <| pc (alibiref06_Order_ok _ _ h18) <| pk2 <| pb c19 <| pk8 <| pk5 <| pz)
       · rcases if_of h with ⟨c20, h⟩ | ⟨c20, h⟩
         · have h := Option.some.inj h; subst h
           exact pdoes mixed (L := lives) (by kernel_rfl) (pk <| pc (alibilaw06_awake_ok _ h2) <| pk2 <| pb c3 <| pk2 <| pc (alibiref05_Small_ok _ _ h7) <| pk4 <| pb c8 <| pk <| pc (graph_Order_ok _ _ h12) <| pk2 <| pc (alibiref05_Check_ok _ _ h14) <| pk2 <| pb c15 <| pk <| pc (alibiref06_Order_ok _ _ h18) <| pk2 <| pb c19 <| pk8 <| pb c20 <| pk7 <| pz)
         · rcases if_of h with ⟨c21, h⟩ | ⟨c21, h⟩
           · have h := Option.some.inj h; subst h
             exact pdoes mixed (L := lives) (by kernel_rfl) (pk <| pc (alibilaw06_awake_ok _ h2) <| pk2 <| pb c3 <| pk2 <| pc (alibiref05_Small_ok _ _ h7) <| pk4 <| pb c8 <| pk <| pc (graph_Order_ok _ _ h12) <| pk2 <| pc (alibiref05_Check_ok _ _ h14) <| pk2 <| pb c15 <| pk <| pc (alibiref06_Order_ok _ _ h18) <| pk2 <| pb c19 <| pk8 <| pb c20 <| pk8 <| pk2 <| pb c21 <| pz)
           · obtain ⟨q, hq, h⟩ := bind_of h
             cases q with
             | x0 v27 =>
              have h28 := hq; clear hq
              try dsimp only at h
              have h := Option.some.inj h; subst h
              exact pdoes mixed (L := lives) (by kernel_rfl) (pk <| pc (alibilaw06_awake_ok _ h2) <| pk2 <| pb c3 <| pk2 <| pc (alibiref05_Small_ok _ _ h7) <| pk4 <| pb c8 <| pk <| pc (graph_Order_ok _ _ h12) <| pk2 <| pc (alibiref05_Check_ok _ _ h14) <| pk2 <| pb c15 <| pk <| pc (alibiref06_Order_ok _ _ h18) <| pk2 <| pb c19 <| pk8 <| pb c20 <| pk8 <| pk2 <| pb c21 <| pl (alibilaw06_GraphOrders_l11_ok _ _ _ _ h28) <| pz)
             | x1 =>
              have h29 := hq; clear hq
              try dsimp only at h
              have h := Option.some.inj h; subst h
              exact pdoes mixed (L := lives) (by kernel_rfl) (pk <| pc (alibilaw06_awake_ok _ h2) <| pk2 <| pb c3 <| pk2 <| pc (alibiref05_Small_ok _ _ h7) <| pk4 <| pb c8 <| pk <| pc (graph_Order_ok _ _ h12) <| pk2 <| pc (alibiref05_Check_ok _ _ h14) <| pk2 <| pb c15 <| pk <| pc (alibiref06_Order_ok _ _ h18) <| pk2 <| pb c19 <| pk8 <| pb c20 <| pk8 <| pk2 <| pb c21 <| pl (alibilaw06_GraphOrders_l11_ok _ _ _ _ h29) <| pz)
noncomputable def ty26 : Ty Try.prog 26 (List Int) := Ty.slice 26 ty3 (by kernel_rfl) (by kernel_rfl) (Nat.le_of_ble_eq_true (by kernel_rfl))
/-- alibi/prog.Succ -/
def prog_Succ (n1 : api_Node) : Option ((List Int)) :=
  if ((n1.kind : Int) == 9) = true then
    some (([] : List Int))
  else
    if ((n1.kind : Int) == 8) = true then
      some ([n1.next, n1.alt])
    else
      some ([n1.next])
theorem prog_Succ_ok (n1 : api_Node) (r : (List Int)) (h : prog_Succ n1 = some r) : Does Try.prog 87 [.agg [.pv (.int .i64 n1.kind), .pv (.int .i64 n1.arg), .pv (.int .i64 n1.next), .pv (.int .i64 n1.alt)]] [] (.ms 0 [] 0 (List.length r), [.arr 0 1 (List.length r) (encW o_i64 0 r)]) := by
 unfold prog_Succ at h
 rcases if_of h with ⟨c1, h⟩ | ⟨c1, h⟩
 · have h := Option.some.inj h; subst h
   refine Does.eq (pdoes mixed (L := lives) (r := (.ms 0 [] 0 (List.length ([] : List Int)), [.arr 0 1 (List.length ([] : List Int)) (encW o_i64 0 (([] : List Int)))])) (by kernel_rfl) (pk3 <| pb c1 <| pz)) ?_
   (first | rfl | (simp only [List.length_set]; done))
 · rcases if_of h with ⟨c2, h⟩ | ⟨c2, h⟩
   · have h := Option.some.inj h; subst h
     exact pdoes mixed (L := lives) (by kernel_rfl) (pk3 <| pb c1 <| pk <| pb c2 <| pk2 <| pe (eff_lit o_i64 0 1 1 2 ([n1.next, n1.alt]) rfl [] []) <| pz)
   · have h := Option.some.inj h; subst h
     exact pdoes mixed (L := lives) (by kernel_rfl) (pk3 <| pb c1 <| pk <| pb c2 <| pk <| pe (eff_lit o_i64 0 1 1 1 ([n1.next]) rfl [] []) <| pz)
noncomputable def graph_After_1_l2_c : Code := sub (codeOf Try.prog 86) [1, 1, 0, 0]
def graph_After_1_l2 (x0 : List Bool) (x1 : List Int) (x2 : List Int) (x3 : List api_Node) (x4 : Int) (x5 : Int) : Option ((List Bool) × (List Int)) :=
  if (decide ((x5 : Int) < x4)) = true then
    if (decide ((0 : Int) ≤ x5)) = true then
      if (decide ((x5 : Int) < (((List.length x2) : Nat) : Int))) = true then
        if (decide (((List.getD x2 (Int.toNat x5) 0) : Int) ≥ 0)) = true then
          if (decide (((List.getD x2 (Int.toNat x5) 0) : Int) < (((List.length x3 : Nat) : Int)))) = true then
            if (decide ((0 : Int) ≤ (List.getD x2 (Int.toNat x5) 0))) = true then
              if (decide (((List.getD x2 (Int.toNat x5) 0) : Int) < (((List.length x0) : Nat) : Int))) = true then
                if (!(List.getD x0 (Int.toNat (List.getD x2 (Int.toNat x5) 0)) false)) = true then
                  if (Nat.ble ((List.length x1 + List.length ([List.getD x2 (Int.toNat x5) 0])) * 8) reach) = true then
                    graph_After_1_l2 (List.set x0 (Int.toNat (List.getD x2 (Int.toNat x5) 0)) true) (x1 ++ ([List.getD x2 (Int.toNat x5) 0])) x2 x3 x4 (iAdd x5 1)
                  else none
                else
                  graph_After_1_l2 x0 x1 x2 x3 x4 (iAdd x5 1)
              else none
            else none
          else
            graph_After_1_l2 x0 x1 x2 x3 x4 (iAdd x5 1)
        else
          graph_After_1_l2 x0 x1 x2 x3 x4 (iAdd x5 1)
      else none
    else none
  else
    some (x0, x1)
partial_fixpoint
noncomputable abbrev graph_After_1_l2_s (x0 : List Bool) (x1 : List Int) (x2 : List Int) (x3 : List api_Node) (x4 : Int) (x5 : Int) : St := ⟨dead :: .ptr 0 [] 0 0 :: .ptr 1 [] 0 0 :: .ptr 3 [] 0 0 :: (List.replicate 15 dead ++ (.ms 5 [] 0 (List.length x2) :: .pv (.int .i64 x4) :: .pv (.int .i64 x5) :: List.replicate 26 dead)), [.box 2 [.pv (.seq (List.length x3) (encP e_api_Node d_api_Node x3))], .box 2 [.ms 2 [] 0 (List.length x0)], .arr 2 1 (List.length x0) (encW o_bool false x0), .box 2 [.ms 4 [] 0 (List.length x1)], .arr 0 1 (List.length x1) (encW o_i64 0 x1), .arr 0 1 (List.length x2) (encW o_i64 0 x2)]⟩
noncomputable abbrev graph_After_1_l2_e (x0 : List Bool) (x1 : List Int) (x2 : List Int) (x3 : List api_Node) (x4 : Int) (x5 : Int) (r : (List Bool) × (List Int)) : St := ⟨List.replicate 48 dead, [.box 2 [.pv (.seq (List.length x3) (encP e_api_Node d_api_Node x3))], .box 2 [.ms 2 [] 0 (List.length r.1)], .arr 2 1 (List.length r.1) (encW o_bool false r.1), .box 2 [.ms 4 [] 0 (List.length r.2)], .arr 0 1 (List.length r.2) (encW o_i64 0 r.2)]⟩
theorem graph_After_1_l2_ok (x0 : List Bool) (x1 : List Int) (x2 : List Int) (x3 : List api_Node) (x4 : Int) (x5 : Int) (r : (List Bool) × (List Int)) (h : graph_After_1_l2 x0 x1 x2 x3 x4 x5 = some r) : Loops Try.prog graph_After_1_l2_c 5 (graph_After_1_l2_s x0 x1 x2 x3 x4 x5) (.exit 0) (graph_After_1_l2_e x0 x1 x2 x3 x4 x5 r) := by
 refine graph_After_1_l2.partial_correctness x2 x3 x4 (fun x0 x1 x5 r => Loops Try.prog graph_After_1_l2_c 5 (graph_After_1_l2_s x0 x1 x2 x3 x4 x5) (.exit 0) (graph_After_1_l2_e x0 x1 x2 x3 x4 x5 r)) ?_ x0 x1 x5 r h
 clear h r x0 x1 x5
 intro self ih x0 x1 x5 r h
 rcases if_of h with ⟨c7, h⟩ | ⟨c7, h⟩
 · obtain ⟨c8, h⟩ := need_of h
   obtain ⟨c9, h⟩ := need_of h
   rcases if_of h with ⟨c10, h⟩ | ⟨c10, h⟩
   · rcases if_of h with ⟨c11, h⟩ | ⟨c11, h⟩
     · obtain ⟨c12, h⟩ := need_of h
       obtain ⟨c13, h⟩ := need_of h
       rcases if_of h with ⟨c14, h⟩ | ⟨c14, h⟩
       · obtain ⟨c15, h⟩ := need_of h
         exact pmore mixed lives 86 (by kernel_rfl) (pk <| pb c7 <| pn c8 <| pn c9 <| pk2 <| pb c10 <| pk7 <| pb c11 <| pk3 <| pn c12 <| pn c13 <| pk5 <| pb c14 <| pk <| pn c12 <| pn c13 <| pt <| pe (eff_hb (v := dead) (b := 2) (hb := []) (sc := []) (put_top o_bool false 2 1 (List.length x0) x0 (Int.toNat (List.getD x2 (Int.toNat x5) 0)) 0 [.pv (.bool true)] true (by kernel_rfl) (by first | exact Nat.le_refl _ | exact Nat.zero_le _ | (simp only [decide_eq_true_eq, List.length_set, List.length_append, List.length_replicate, List.length_cons, List.length_nil, Nat.zero_add] at * <;> omega)))) <| pk <| pe (eff_lit o_i64 0 6 1 1 ([List.getD x2 (Int.toNat x5) 0]) rfl [] []) <| pb (whole_ok (List.length ([List.getD x2 (Int.toNat x5) 0]))) <| pn c15 <| pe (eff_app o_i64 0 x1 ([List.getD x2 (Int.toNat x5) 0]) (x1 ++ ([List.getD x2 (Int.toNat x5) 0])) 4 1 (List.length x1) (List.length ([List.getD x2 (Int.toNat x5) 0])) (fun i => List.map AV.scal (encW o_i64 0 ([List.getD x2 (Int.toNat x5) 0]) i)) (encW o_i64 0 x1 (List.length x1)) [] [] [(4, false)] (by first | exact Nat.le_refl _ | exact Nat.zero_le _ | (simp only [decide_eq_true_eq, List.length_set, List.length_append, List.length_replicate, List.length_cons, List.length_nil, Nat.zero_add] at * <;> omega)) rfl (fun _ => by kernel_rfl) (congrArg o_i64 (getD_ge 0 (by first | exact Nat.le_refl _ | exact Nat.zero_le _ | (simp only [decide_eq_true_eq, List.length_set, List.length_append, List.length_replicate, List.length_cons, List.length_nil, Nat.zero_add] at * <;> omega)))) (by rw [List.take_of_length_le (by first | exact Nat.le_refl _ | exact Nat.zero_le _ | (simp only [decide_eq_true_eq, List.length_set, List.length_append, List.length_replicate, List.length_cons, List.length_nil, Nat.zero_add] at * <;> omega))])) <| pk2 <| pz) (Loops.of (s1 := ⟨dead :: .ptr 0 [] 0 0 :: .ptr 1 [] 0 0 :: .ptr 3 [] 0 0 :: (List.replicate 15 dead ++ (.ms 5 [] 0 (List.length x2) :: .pv (.int .i64 x4) :: .pv (.int .i64 (iAdd x5 1)) :: List.replicate 26 dead)), [.box 2 [.pv (.seq (List.length x3) (encP e_api_Node d_api_Node x3))], .box 2 [.ms 2 [] 0 (List.length x0)], .arr 2 1 (List.length x0) (encW o_bool false (List.set x0 (Int.toNat (List.getD x2 (Int.toNat x5) 0)) true)), .box 2 [.ms 4 [] 0 (List.length (x1 ++ ([List.getD x2 (Int.toNat x5) 0])))], .arr 0 1 (List.length (x1 ++ ([List.getD x2 (Int.toNat x5) 0]))) (cutF 0 (List.length (x1 ++ ([List.getD x2 (Int.toNat x5) 0]))) (List.length (x1 ++ ([List.getD x2 (Int.toNat x5) 0]))) (encW o_i64 0 (x1 ++ ([List.getD x2 (Int.toNat x5) 0])))), .arr 0 1 (List.length x2) (encW o_i64 0 x2)]⟩) (ih (List.set x0 (Int.toNat (List.getD x2 (Int.toNat x5) 0)) true) (x1 ++ ([List.getD x2 (Int.toNat x5) 0])) (iAdd x5 1) _ h) (by unfold graph_After_1_l2_s; rw [cut_whole o_i64 0 (x1 ++ ([List.getD x2 (Int.toNat x5) 0])) (List.length (x1 ++ ([List.getD x2 (Int.toNat x5) 0]))) (by first | exact Nat.le_refl _ | exact Nat.zero_le _ | (simp only [decide_eq_true_eq, List.length_set, List.length_append, List.length_replicate, List.length_cons, List.length_nil, Nat.zero_add] at * <;> omega))] <;> (first | rfl | (simp only [graph_After_1_l2_s, List.length_set]; done))))
       · exact pmore mixed lives 86 (by kernel_rfl) (pk <| pb c7 <| pn c8 <| pn c9 <| pk2 <| pb c10 <| pk7 <| pb c11 <| pk3 <| pn c12 <| pn c13 <| pk5 <| pb c14 <| pk <| pz) (Loops.of (s1 := ⟨dead :: .ptr 0 [] 0 0 :: .ptr 1 [] 0 0 :: .ptr 3 [] 0 0 :: (List.replicate 15 dead ++ (.ms 5 [] 0 (List.length x2) :: .pv (.int .i64 x4) :: .pv (.int .i64 (iAdd x5 1)) :: List.replicate 26 dead)), [.box 2 [.pv (.seq (List.length x3) (encP e_api_Node d_api_Node x3))], .box 2 [.ms 2 [] 0 (List.length x0)], .arr 2 1 (List.length x0) (encW o_bool false x0), .box 2 [.ms 4 [] 0 (List.length x1)], .arr 0 1 (List.length x1) (cutF 0 (List.length x1) (List.length x1) (encW o_i64 0 x1)), .arr 0 1 (List.length x2) (encW o_i64 0 x2)]⟩) (ih x0 x1 (iAdd x5 1) _ h) (by unfold graph_After_1_l2_s; rw [cut_whole o_i64 0 x1 (List.length x1) (by first | exact Nat.le_refl _ | exact Nat.zero_le _ | (simp only [decide_eq_true_eq, List.length_set, List.length_append, List.length_replicate, List.length_cons, List.length_nil, Nat.zero_add] at * <;> omega))] <;> (first | rfl | (simp only [graph_After_1_l2_s, List.length_set]; done))))
     · exact pmore mixed lives 86 (by kernel_rfl) (pk <| pb c7 <| pn c8 <| pn c9 <| pk2 <| pb c10 <| pk7 <| pb c11 <| pk7 <| pz) (Loops.of (s1 := ⟨dead :: .ptr 0 [] 0 0 :: .ptr 1 [] 0 0 :: .ptr 3 [] 0 0 :: (List.replicate 15 dead ++ (.ms 5 [] 0 (List.length x2) :: .pv (.int .i64 x4) :: .pv (.int .i64 (iAdd x5 1)) :: List.replicate 26 dead)), [.box 2 [.pv (.seq (List.length x3) (encP e_api_Node d_api_Node x3))], .box 2 [.ms 2 [] 0 (List.length x0)], .arr 2 1 (List.length x0) (encW o_bool false x0), .box 2 [.ms 4 [] 0 (List.length x1)], .arr 0 1 (List.length x1) (cutF 0 (List.length x1) (List.length x1) (encW o_i64 0 x1)), .arr 0 1 (List.length x2) (encW o_i64 0 x2)]⟩) (ih x0 x1 (iAdd x5 1) _ h) (by unfold graph_After_1_l2_s; rw [cut_whole o_i64 0 x1 (List.length x1) (by first | exact Nat.le_refl _ | exact Nat.zero_le _ | (simp only [decide_eq_true_eq, List.length_set, List.length_append, List.length_replicate, List.length_cons, List.length_nil, Nat.zero_add] at * <;> omega))] <;> (first | rfl | (simp only [graph_After_1_l2_s, List.length_set]; done))))
   · exact pmore mixed lives 86 (by kernel_rfl) (pk <| pb c7 <| pn c8 <| pn c9 <| pk2 <| pb c10 <| pk8 <| pk4 <| pz) (Loops.of (s1 := ⟨dead :: .ptr 0 [] 0 0 :: .ptr 1 [] 0 0 :: .ptr 3 [] 0 0 :: (List.replicate 15 dead ++ (.ms 5 [] 0 (List.length x2) :: .pv (.int .i64 x4) :: .pv (.int .i64 (iAdd x5 1)) :: List.replicate 26 dead)), [.box 2 [.pv (.seq (List.length x3) (encP e_api_Node d_api_Node x3))], .box 2 [.ms 2 [] 0 (List.length x0)], .arr 2 1 (List.length x0) (encW o_bool false x0), .box 2 [.ms 4 [] 0 (List.length x1)], .arr 0 1 (List.length x1) (cutF 0 (List.length x1) (List.length x1) (encW o_i64 0 x1)), .arr 0 1 (List.length x2) (encW o_i64 0 x2)]⟩) (ih x0 x1 (iAdd x5 1) _ h) (by unfold graph_After_1_l2_s; rw [cut_whole o_i64 0 x1 (List.length x1) (by first | exact Nat.le_refl _ | exact Nat.zero_le _ | (simp only [decide_eq_true_eq, List.length_set, List.length_append, List.length_replicate, List.length_cons, List.length_nil, Nat.zero_add] at * <;> omega))] <;> (first | rfl | (simp only [graph_After_1_l2_s, List.length_set]; done))))
 · have h := Option.some.inj h; subst h
   exact plast mixed lives 86 (by kernel_rfl) (pk <| pb c7 <| pz) rfl
/-- alibi/graph.After$1 -/
def graph_After_1 (l2 : List Bool) (l4 : List Int) (b0 : List api_Node) (i : Int) : Option ((List Bool) × (List Int)) :=
  if (decide ((i : Int) < 0)) = true then
    some (l2, l4)
  else
    if (decide ((i : Int) ≥ (((List.length b0 : Nat) : Int)))) = true then
      some (l2, l4)
    else
      if (decide ((0 : Int) ≤ i)) = true then
        if (decide ((i : Int) < ((List.length b0 : Nat) : Int))) = true then
          bind (prog_Succ (List.getD b0 (Int.toNat i) d_api_Node)) fun v5 =>
          bind (graph_After_1_l2 l2 l4 v5 b0 ((((List.length v5) : Nat) : Int)) 0) fun v16 =>
          some (v16.1, v16.2)
        else none
      else none
theorem graph_After_1_ok (l2 : List Bool) (l4 : List Int) (b0 : List api_Node) (i : Int) (r : (List Bool) × (List Int)) (h : graph_After_1 l2 l4 b0 i = some r) : Does Try.prog 86 [.pv (.int .i64 i), .ptr 0 [] 0 0, .ptr 1 [] 0 0, .ptr 3 [] 0 0] [.box 2 [.pv (.seq (List.length b0) (encP e_api_Node d_api_Node b0))], .box 2 [.ms 2 [] 0 (List.length l2)], .arr 2 1 (List.length l2) (encW o_bool false l2), .box 2 [.ms 4 [] 0 (List.length l4)], .arr 2 1 (List.length l4) (encW o_i64 0 l4)] (.tup [], [.box 2 [.pv (.seq (List.length b0) (encP e_api_Node d_api_Node b0))], .box 2 [.ms 2 [] 0 (List.length r.1)], .arr 2 1 (List.length r.1) (encW o_bool false r.1), .box 2 [.ms 4 [] 0 (List.length r.2)], .arr 0 1 (List.length r.2) (encW o_i64 0 r.2)]) := by
 unfold graph_After_1 at h
 rcases if_of h with ⟨c1, h⟩ | ⟨c1, h⟩
 · have h := Option.some.inj h; subst h
   refine Does.eq (pdoes mixed (L := lives) (r := (.tup [], [.box 2 [.pv (.seq (List.length b0) (encP e_api_Node d_api_Node b0))], .box 2 [.ms 2 [] 0 (List.length l2)], .arr 2 1 (List.length l2) (encW o_bool false l2), .box 2 [.ms 4 [] 0 (List.length l4)], .arr 0 1 (List.length l4) (cutF 0 (List.length l4) (List.length l4) (encW o_i64 0 l4))])) (by kernel_rfl) (pk <| pb c1 <| pk5 <| pz)) ?_
   rw [cut_whole o_i64 0 l4 (List.length l4) (by first | exact Nat.le_refl _ | exact Nat.zero_le _ | (simp only [decide_eq_true_eq, List.length_set, List.length_append, List.length_replicate, List.length_cons, List.length_nil, Nat.zero_add] at * <;> omega))] <;> (first | rfl | (simp only [List.length_set]; done))
 · rcases if_of h with ⟨c2, h⟩ | ⟨c2, h⟩
   · have h := Option.some.inj h; subst h
     refine Does.eq (pdoes mixed (L := lives) (r := (.tup [], [.box 2 [.pv (.seq (List.length b0) (encP e_api_Node d_api_Node b0))], .box 2 [.ms 2 [] 0 (List.length l2)], .arr 2 1 (List.length l2) (encW o_bool false l2), .box 2 [.ms 4 [] 0 (List.length l4)], .arr 0 1 (List.length l4) (cutF 0 (List.length l4) (List.length l4) (encW o_i64 0 l4))])) (by kernel_rfl) (pk <| pb c1 <| pk7 <| pb c2 <| pz)) ?_
     rw [cut_whole o_i64 0 l4 (List.length l4) (by first | exact Nat.le_refl _ | exact Nat.zero_le _ | (simp only [decide_eq_true_eq, List.length_set, List.length_append, List.length_replicate, List.length_cons, List.length_nil, Nat.zero_add] at * <;> omega))] <;> (first | rfl | (simp only [List.length_set]; done))
   · obtain ⟨c3, h⟩ := need_of h
     obtain ⟨c4, h⟩ := need_of h
     obtain ⟨v5, h6, h⟩ := bind_of h
     obtain ⟨v16, h17, h⟩ := bind_of h
     have h := Option.some.inj h; subst h
     refine Does.eq (pdoes mixed (L := lives) (r := (.tup [], [.box 2 [.pv (.seq (List.length b0) (encP e_api_Node d_api_Node b0))], .box 2 [.ms 2 [] 0 (List.length v16.1)], .arr 2 1 (List.length v16.1) (encW o_bool false v16.1), .box 2 [.ms 4 [] 0 (List.length v16.2)], .arr 0 1 (List.length v16.2) (cutF 0 (List.length v16.2) (List.length v16.2) (encW o_i64 0 v16.2))])) (by kernel_rfl) (pk <| pb c1 <| pk7 <| pb c2 <| pk <| pn c3 <| pn c4 <| pk <| pc (prog_Succ_ok _ _ h6) <| pk2 <| pl (Loops.of (s1 := ⟨dead :: .ptr 0 [] 0 0 :: .ptr 1 [] 0 0 :: .ptr 3 [] 0 0 :: (List.replicate 15 dead ++ (.ms 5 [] 0 (List.length v5) :: .pv (.int .i64 ((((List.length v5) : Nat) : Int))) :: .pv (.int .i64 0) :: List.replicate 26 dead)), [.box 2 [.pv (.seq (List.length b0) (encP e_api_Node d_api_Node b0))], .box 2 [.ms 2 [] 0 (List.length l2)], .arr 2 1 (List.length l2) (encW o_bool false l2), .box 2 [.ms 4 [] 0 (List.length l4)], .arr 0 1 (List.length l4) (cutF 0 (List.length l4) (List.length l4) (encW o_i64 0 l4)), .arr 0 1 (List.length v5) (encW o_i64 0 v5)]⟩) (graph_After_1_l2_ok _ _ _ _ _ _ _ h17) (by unfold graph_After_1_l2_s; rw [cut_whole o_i64 0 l4 (List.length l4) (by first | exact Nat.le_refl _ | exact Nat.zero_le _ | (simp only [decide_eq_true_eq, List.length_set, List.length_append, List.length_replicate, List.length_cons, List.length_nil, Nat.zero_add] at * <;> omega))] <;> (first | rfl | (simp only [graph_After_1_l2_s, List.length_set]; done)))) <| pz)) ?_
     rw [cut_whole o_i64 0 v16.2 (List.length v16.2) (by first | exact Nat.le_refl _ | exact Nat.zero_le _ | (simp only [decide_eq_true_eq, List.length_set, List.length_append, List.length_replicate, List.length_cons, List.length_nil, Nat.zero_add] at * <;> omega))] <;> (first | rfl | (simp only [List.length_set]; done))
noncomputable def graph_After_l5_c : Code := sub (codeOf Try.prog 43) [1, 1, 1, 1, 0, 1, 0, 0]
def graph_After_l5 (x0 : List Bool) (x1 : List Int) (x2 : List api_Node) (x3 : List Int) (x4 : Int) (x5 : Int) : Option ((List Bool) × (List Int)) :=
  if (decide ((x5 : Int) < x4)) = true then
    if (decide ((0 : Int) ≤ x5)) = true then
      if (decide ((x5 : Int) < ((List.length x3 : Nat) : Int))) = true then
        bind (graph_After_1 x0 x1 x2 (List.getD x3 (Int.toNat x5) 0)) fun v6 =>
        graph_After_l5 v6.1 v6.2 x2 x3 x4 (iAdd x5 1)
      else none
    else none
  else
    some (x0, x1)
partial_fixpoint
noncomputable abbrev graph_After_l5_s (x0 : List Bool) (x1 : List Int) (x2 : List api_Node) (x3 : List Int) (x4 : Int) (x5 : Int) : St := ⟨(List.replicate 5 dead ++ (.ptr 0 [] 0 0 :: .ptr 2 [] 0 0 :: .clo 86 [.ptr 4 [] 0 0, .ptr 0 [] 0 0, .ptr 2 [] 0 0] :: (List.replicate 7 dead ++ (.pv (.seq (List.length x3) (encP e_i64 0 x3)) :: .pv (.int .i64 x4) :: .pv (.int .i64 x5) :: List.replicate 25 dead)))), [.box 0 [.ms 1 [] 0 (List.length x0)], .arr 0 1 (List.length x0) (encW o_bool false x0), .box 0 [.ms 3 [] 0 (List.length x1)], .arr 0 1 (List.length x1) (encW o_i64 0 x1), .box 0 [.pv (.seq (List.length x2) (encP e_api_Node d_api_Node x2))]]⟩
noncomputable abbrev graph_After_l5_e (x0 : List Bool) (x1 : List Int) (x2 : List api_Node) (x3 : List Int) (x4 : Int) (x5 : Int) (r : (List Bool) × (List Int)) : St := ⟨(List.replicate 5 dead ++ (.ptr 0 [] 0 0 :: .ptr 2 [] 0 0 :: .clo 86 [.ptr 4 [] 0 0, .ptr 0 [] 0 0, .ptr 2 [] 0 0] :: List.replicate 35 dead)), [.box 0 [.ms 1 [] 0 (List.length r.1)], .arr 0 1 (List.length r.1) (encW o_bool false r.1), .box 0 [.ms 3 [] 0 (List.length r.2)], .arr 0 1 (List.length r.2) (encW o_i64 0 r.2), .box 0 [.pv (.seq (List.length x2) (encP e_api_Node d_api_Node x2))]]⟩
theorem graph_After_l5_ok (x0 : List Bool) (x1 : List Int) (x2 : List api_Node) (x3 : List Int) (x4 : Int) (x5 : Int) (r : (List Bool) × (List Int)) (h : graph_After_l5 x0 x1 x2 x3 x4 x5 = some r) : Loops Try.prog graph_After_l5_c 0 (graph_After_l5_s x0 x1 x2 x3 x4 x5) (.exit 0) (graph_After_l5_e x0 x1 x2 x3 x4 x5 r) := by
 refine graph_After_l5.partial_correctness x2 x3 x4 (fun x0 x1 x5 r => Loops Try.prog graph_After_l5_c 0 (graph_After_l5_s x0 x1 x2 x3 x4 x5) (.exit 0) (graph_After_l5_e x0 x1 x2 x3 x4 x5 r)) ?_ x0 x1 x5 r h
 clear h r x0 x1 x5
 intro self ih x0 x1 x5 r h
 rcases if_of h with ⟨c3, h⟩ | ⟨c3, h⟩
 · obtain ⟨c4, h⟩ := need_of h
   obtain ⟨c5, h⟩ := need_of h
   obtain ⟨v6, h7, h⟩ := bind_of h
   exact pmore mixed lives 43 (by kernel_rfl) (pk <| pb c3 <| pn c4 <| pn c5 <| pk <| pc (graph_After_1_ok _ _ _ _ _ h7) <| pk2 <| pz) (ih v6.1 v6.2 (iAdd x5 1) _ h)
 · have h := Option.some.inj h; subst h
   exact plast mixed lives 43 (by kernel_rfl) (pk <| pb c3 <| pz) rfl
noncomputable def graph_After_1_1_l2_c : Code := sub (codeOf Try.prog 86) [1, 1, 0, 0]
def graph_After_1_1_l2 (x0 : List Bool) (x1 : List Int) (x2 : List Int) (x3 : List api_Node) (x4 : Int) (x5 : Int) : Option ((List Bool) × (List Int)) :=
  if (decide ((x5 : Int) < x4)) = true then
    if (decide ((0 : Int) ≤ x5)) = true then
      if (decide ((x5 : Int) < (((List.length x2) : Nat) : Int))) = true then
        if (decide (((List.getD x2 (Int.toNat x5) 0) : Int) ≥ 0)) = true then
          if (decide (((List.getD x2 (Int.toNat x5) 0) : Int) < (((List.length x3 : Nat) : Int)))) = true then
            if (decide ((0 : Int) ≤ (List.getD x2 (Int.toNat x5) 0))) = true then
              if (decide (((List.getD x2 (Int.toNat x5) 0) : Int) < (((List.length x0) : Nat) : Int))) = true then
                if (!(List.getD x0 (Int.toNat (List.getD x2 (Int.toNat x5) 0)) false)) = true then
                  if (Nat.ble ((List.length x1 + List.length ([List.getD x2 (Int.toNat x5) 0])) * 8) reach) = true then
                    graph_After_1_1_l2 (List.set x0 (Int.toNat (List.getD x2 (Int.toNat x5) 0)) true) (x1 ++ ([List.getD x2 (Int.toNat x5) 0])) x2 x3 x4 (iAdd x5 1)
                  else none
                else
                  graph_After_1_1_l2 x0 x1 x2 x3 x4 (iAdd x5 1)
              else none
            else none
          else
            graph_After_1_1_l2 x0 x1 x2 x3 x4 (iAdd x5 1)
        else
          graph_After_1_1_l2 x0 x1 x2 x3 x4 (iAdd x5 1)
      else none
    else none
  else
    some (x0, x1)
partial_fixpoint
noncomputable abbrev graph_After_1_1_l2_s (x0 : List Bool) (x1 : List Int) (x2 : List Int) (x3 : List api_Node) (x4 : Int) (x5 : Int) : St := ⟨dead :: .ptr 0 [] 0 0 :: .ptr 1 [] 0 0 :: .ptr 3 [] 0 0 :: (List.replicate 15 dead ++ (.ms 5 [] 0 (List.length x2) :: .pv (.int .i64 x4) :: .pv (.int .i64 x5) :: List.replicate 26 dead)), [.box 2 [.pv (.seq (List.length x3) (encP e_api_Node d_api_Node x3))], .box 2 [.ms 2 [] 0 (List.length x0)], .arr 2 1 (List.length x0) (encW o_bool false x0), .box 2 [.ms 4 [] 0 (List.length x1)], .arr 0 1 (List.length x1) (encW o_i64 0 x1), .arr 0 1 (List.length x2) (encW o_i64 0 x2)]⟩
noncomputable abbrev graph_After_1_1_l2_e (x0 : List Bool) (x1 : List Int) (x2 : List Int) (x3 : List api_Node) (x4 : Int) (x5 : Int) (r : (List Bool) × (List Int)) : St := ⟨List.replicate 48 dead, [.box 2 [.pv (.seq (List.length x3) (encP e_api_Node d_api_Node x3))], .box 2 [.ms 2 [] 0 (List.length r.1)], .arr 2 1 (List.length r.1) (encW o_bool false r.1), .box 2 [.ms 4 [] 0 (List.length r.2)], .arr 0 1 (List.length r.2) (encW o_i64 0 r.2)]⟩
theorem graph_After_1_1_l2_ok (x0 : List Bool) (x1 : List Int) (x2 : List Int) (x3 : List api_Node) (x4 : Int) (x5 : Int) (r : (List Bool) × (List Int)) (h : graph_After_1_1_l2 x0 x1 x2 x3 x4 x5 = some r) : Loops Try.prog graph_After_1_1_l2_c 5 (graph_After_1_1_l2_s x0 x1 x2 x3 x4 x5) (.exit 0) (graph_After_1_1_l2_e x0 x1 x2 x3 x4 x5 r) := by
 refine graph_After_1_1_l2.partial_correctness x2 x3 x4 (fun x0 x1 x5 r => Loops Try.prog graph_After_1_1_l2_c 5 (graph_After_1_1_l2_s x0 x1 x2 x3 x4 x5) (.exit 0) (graph_After_1_1_l2_e x0 x1 x2 x3 x4 x5 r)) ?_ x0 x1 x5 r h
 clear h r x0 x1 x5
 intro self ih x0 x1 x5 r h
 rcases if_of h with ⟨c8, h⟩ | ⟨c8, h⟩
 · obtain ⟨c9, h⟩ := need_of h
   obtain ⟨c10, h⟩ := need_of h
   rcases if_of h with ⟨c11, h⟩ | ⟨c11, h⟩
   · rcases if_of h with ⟨c12, h⟩ | ⟨c12, h⟩
     · obtain ⟨c13, h⟩ := need_of h
       obtain ⟨c14, h⟩ := need_of h
       rcases if_of h with ⟨c15, h⟩ | ⟨c15, h⟩
       · obtain ⟨c16, h⟩ := need_of h
         exact pmore mixed lives 86 (by kernel_rfl) (pk <| pb c8 <| pn c9 <| pn c10 <| pk2 <| pb c11 <| pk7 <| pb c12 <| pk3 <| pn c13 <| pn c14 <| pk5 <| pb c15 <| pk <| pn c13 <| pn c14 <| pt <| pe (eff_hb (v := dead) (b := 2) (hb := []) (sc := []) (put_top o_bool false 2 1 (List.length x0) x0 (Int.toNat (List.getD x2 (Int.toNat x5) 0)) 0 [.pv (.bool true)] true (by kernel_rfl) (by first | exact Nat.le_refl _ | exact Nat.zero_le _ | (simp only [decide_eq_true_eq, List.length_set, List.length_append, List.length_replicate, List.length_cons, List.length_nil, Nat.zero_add] at * <;> omega)))) <| pk <| pe (eff_lit o_i64 0 6 1 1 ([List.getD x2 (Int.toNat x5) 0]) rfl [] []) <| pb (whole_ok (List.length ([List.getD x2 (Int.toNat x5) 0]))) <| pn c16 <| pe (eff_app o_i64 0 x1 ([List.getD x2 (Int.toNat x5) 0]) (x1 ++ ([List.getD x2 (Int.toNat x5) 0])) 4 1 (List.length x1) (List.length ([List.getD x2 (Int.toNat x5) 0])) (fun i => List.map AV.scal (encW o_i64 0 ([List.getD x2 (Int.toNat x5) 0]) i)) (encW o_i64 0 x1 (List.length x1)) [] [] [(4, false)] (by first | exact Nat.le_refl _ | exact Nat.zero_le _ | (simp only [decide_eq_true_eq, List.length_set, List.length_append, List.length_replicate, List.length_cons, List.length_nil, Nat.zero_add] at * <;> omega)) rfl (fun _ => by kernel_rfl) (congrArg o_i64 (getD_ge 0 (by first | exact Nat.le_refl _ | exact Nat.zero_le _ | (simp only [decide_eq_true_eq, List.length_set, List.length_append, List.length_replicate, List.length_cons, List.length_nil, Nat.zero_add] at * <;> omega)))) (by rw [List.take_of_length_le (by first | exact Nat.le_refl _ | exact Nat.zero_le _ | (simp only [decide_eq_true_eq, List.length_set, List.length_append, List.length_replicate, List.length_cons, List.length_nil, Nat.zero_add] at * <;> omega))])) <| pk2 <| pz) (Loops.of (s1 := ⟨dead :: .ptr 0 [] 0 0 :: .ptr 1 [] 0 0 :: .ptr 3 [] 0 0 :: (List.replicate 15 dead ++ (.ms 5 [] 0 (List.length x2) :: .pv (.int .i64 x4) :: .pv (.int .i64 (iAdd x5 1)) :: List.replicate 26 dead)), [.box 2 [.pv (.seq (List.length x3) (encP e_api_Node d_api_Node x3))], .box 2 [.ms 2 [] 0 (List.length x0)], .arr 2 1 (List.length x0) (encW o_bool false (List.set x0 (Int.toNat (List.getD x2 (Int.toNat x5) 0)) true)), .box 2 [.ms 4 [] 0 (List.length (x1 ++ ([List.getD x2 (Int.toNat x5) 0])))], .arr 0 1 (List.length (x1 ++ ([List.getD x2 (Int.toNat x5) 0]))) (cutF 0 (List.length (x1 ++ ([List.getD x2 (Int.toNat x5) 0]))) (List.length (x1 ++ ([List.getD x2 (Int.toNat x5) 0]))) (encW o_i64 0 (x1 ++ ([List.getD x2 (Int.toNat x5) 0])))), .arr 0 1 (List.length x2) (encW o_i64 0 x2)]⟩) (ih (List.set x0 (Int.toNat (List.getD x2 (Int.toNat x5) 0)) true) (x1 ++ ([List.getD x2 (Int.toNat x5) 0])) (iAdd x5 1) _ h) (by unfold graph_After_1_1_l2_s; rw [cut_whole o_i64 0 (x1 ++ ([List.getD x2 (Int.toNat x5) 0])) (List.length (x1 ++ ([List.getD x2 (Int.toNat x5) 0]))) (by first | exact Nat.le_refl _ | exact Nat.zero_le _ | (simp only [decide_eq_true_eq, List.length_set, List.length_append, List.length_replicate, List.length_cons, List.length_nil, Nat.zero_add] at * <;> omega))] <;> (first | rfl | (simp only [graph_After_1_1_l2_s, List.length_set]; done))))
       · exact pmore mixed lives 86 (by kernel_rfl) (pk <| pb c8 <| pn c9 <| pn c10 <| pk2 <| pb c11 <| pk7 <| pb c12 <| pk3 <| pn c13 <| pn c14 <| pk5 <| pb c15 <| pk <| pz) (Loops.of (s1 := ⟨dead :: .ptr 0 [] 0 0 :: .ptr 1 [] 0 0 :: .ptr 3 [] 0 0 :: (List.replicate 15 dead ++ (.ms 5 [] 0 (List.length x2) :: .pv (.int .i64 x4) :: .pv (.int .i64 (iAdd x5 1)) :: List.replicate 26 dead)), [.box 2 [.pv (.seq (List.length x3) (encP e_api_Node d_api_Node x3))], .box 2 [.ms 2 [] 0 (List.length x0)], .arr 2 1 (List.length x0) (encW o_bool false x0), .box 2 [.ms 4 [] 0 (List.length x1)], .arr 0 1 (List.length x1) (cutF 0 (List.length x1) (List.length x1) (encW o_i64 0 x1)), .arr 0 1 (List.length x2) (encW o_i64 0 x2)]⟩) (ih x0 x1 (iAdd x5 1) _ h) (by unfold graph_After_1_1_l2_s; rw [cut_whole o_i64 0 x1 (List.length x1) (by first | exact Nat.le_refl _ | exact Nat.zero_le _ | (simp only [decide_eq_true_eq, List.length_set, List.length_append, List.length_replicate, List.length_cons, List.length_nil, Nat.zero_add] at * <;> omega))] <;> (first | rfl | (simp only [graph_After_1_1_l2_s, List.length_set]; done))))
     · exact pmore mixed lives 86 (by kernel_rfl) (pk <| pb c8 <| pn c9 <| pn c10 <| pk2 <| pb c11 <| pk7 <| pb c12 <| pk7 <| pz) (Loops.of (s1 := ⟨dead :: .ptr 0 [] 0 0 :: .ptr 1 [] 0 0 :: .ptr 3 [] 0 0 :: (List.replicate 15 dead ++ (.ms 5 [] 0 (List.length x2) :: .pv (.int .i64 x4) :: .pv (.int .i64 (iAdd x5 1)) :: List.replicate 26 dead)), [.box 2 [.pv (.seq (List.length x3) (encP e_api_Node d_api_Node x3))], .box 2 [.ms 2 [] 0 (List.length x0)], .arr 2 1 (List.length x0) (encW o_bool false x0), .box 2 [.ms 4 [] 0 (List.length x1)], .arr 0 1 (List.length x1) (cutF 0 (List.length x1) (List.length x1) (encW o_i64 0 x1)), .arr 0 1 (List.length x2) (encW o_i64 0 x2)]⟩) (ih x0 x1 (iAdd x5 1) _ h) (by unfold graph_After_1_1_l2_s; rw [cut_whole o_i64 0 x1 (List.length x1) (by first | exact Nat.le_refl _ | exact Nat.zero_le _ | (simp only [decide_eq_true_eq, List.length_set, List.length_append, List.length_replicate, List.length_cons, List.length_nil, Nat.zero_add] at * <;> omega))] <;> (first | rfl | (simp only [graph_After_1_1_l2_s, List.length_set]; done))))
   · exact pmore mixed lives 86 (by kernel_rfl) (pk <| pb c8 <| pn c9 <| pn c10 <| pk2 <| pb c11 <| pk8 <| pk4 <| pz) (Loops.of (s1 := ⟨dead :: .ptr 0 [] 0 0 :: .ptr 1 [] 0 0 :: .ptr 3 [] 0 0 :: (List.replicate 15 dead ++ (.ms 5 [] 0 (List.length x2) :: .pv (.int .i64 x4) :: .pv (.int .i64 (iAdd x5 1)) :: List.replicate 26 dead)), [.box 2 [.pv (.seq (List.length x3) (encP e_api_Node d_api_Node x3))], .box 2 [.ms 2 [] 0 (List.length x0)], .arr 2 1 (List.length x0) (encW o_bool false x0), .box 2 [.ms 4 [] 0 (List.length x1)], .arr 0 1 (List.length x1) (cutF 0 (List.length x1) (List.length x1) (encW o_i64 0 x1)), .arr 0 1 (List.length x2) (encW o_i64 0 x2)]⟩) (ih x0 x1 (iAdd x5 1) _ h) (by unfold graph_After_1_1_l2_s; rw [cut_whole o_i64 0 x1 (List.length x1) (by first | exact Nat.le_refl _ | exact Nat.zero_le _ | (simp only [decide_eq_true_eq, List.length_set, List.length_append, List.length_replicate, List.length_cons, List.length_nil, Nat.zero_add] at * <;> omega))] <;> (first | rfl | (simp only [graph_After_1_1_l2_s, List.length_set]; done))))
 · have h := Option.some.inj h; subst h
   exact plast mixed lives 86 (by kernel_rfl) (pk <| pb c8 <| pz) rfl
/-- alibi/graph.After$1 -/
def graph_After_1_1 (l2 : List Bool) (l4 : List Int) (b0 : List api_Node) (b3 : Nat) (i : Int) : Option ((List Bool) × (List Int)) :=
  if (decide ((b3 : Nat) ≤ List.length l4)) = true then
    if (decide ((i : Int) < 0)) = true then
      some (l2, List.take b3 l4)
    else
      if (decide ((i : Int) ≥ (((List.length b0 : Nat) : Int)))) = true then
        some (l2, List.take b3 l4)
      else
        if (decide ((0 : Int) ≤ i)) = true then
          if (decide ((i : Int) < ((List.length b0 : Nat) : Int))) = true then
            bind (prog_Succ (List.getD b0 (Int.toNat i) d_api_Node)) fun v6 =>
            bind (graph_After_1_1_l2 l2 (List.take b3 l4) v6 b0 ((((List.length v6) : Nat) : Int)) 0) fun v17 =>
            some (v17.1, v17.2)
          else none
        else none
  else none
theorem graph_After_1_1_ok (l2 : List Bool) (l4 : List Int) (b0 : List api_Node) (b3 : Nat) (i : Int) (r : (List Bool) × (List Int)) (h : graph_After_1_1 l2 l4 b0 b3 i = some r) : Does Try.prog 86 [.pv (.int .i64 i), .ptr 0 [] 0 0, .ptr 1 [] 0 0, .ptr 3 [] 0 0] [.box 2 [.pv (.seq (List.length b0) (encP e_api_Node d_api_Node b0))], .box 2 [.ms 2 [] 0 (List.length l2)], .arr 2 1 (List.length l2) (encW o_bool false l2), .box 2 [.ms 4 [] 0 b3], .arr 2 1 (List.length l4) (encW o_i64 0 l4)] (.tup [], [.box 2 [.pv (.seq (List.length b0) (encP e_api_Node d_api_Node b0))], .box 2 [.ms 2 [] 0 (List.length r.1)], .arr 2 1 (List.length r.1) (encW o_bool false r.1), .box 2 [.ms 4 [] 0 (List.length r.2)], .arr 0 1 (List.length r.2) (encW o_i64 0 r.2)]) := by
 unfold graph_After_1_1 at h
 obtain ⟨e1, h⟩ := need_of h; replace e1 := of_decide_eq_true e1
 rcases if_of h with ⟨c2, h⟩ | ⟨c2, h⟩
 · have h := Option.some.inj h; subst h
   refine Does.eq (pdoes mixed (L := lives) (r := (.tup [], [.box 2 [.pv (.seq (List.length b0) (encP e_api_Node d_api_Node b0))], .box 2 [.ms 2 [] 0 (List.length l2)], .arr 2 1 (List.length l2) (encW o_bool false l2), .box 2 [.ms 4 [] 0 b3], .arr 0 1 b3 (cutF 0 b3 (List.length l4) (encW o_i64 0 l4))])) (by kernel_rfl) (pk <| pb c2 <| pk5 <| pz)) ?_
   rw [cut_enc o_i64 0 l4 b3 (List.length l4) (by first | exact Nat.le_refl _ | exact Nat.zero_le _ | (simp only [decide_eq_true_eq, List.length_set, List.length_append, List.length_replicate, List.length_cons, List.length_nil, Nat.zero_add] at * <;> omega)) (by first | exact Nat.le_refl _ | exact Nat.zero_le _ | (simp only [decide_eq_true_eq, List.length_set, List.length_append, List.length_replicate, List.length_cons, List.length_nil, Nat.zero_add] at * <;> omega)), len_take l4 b3 (by first | exact Nat.le_refl _ | exact Nat.zero_le _ | (simp only [decide_eq_true_eq, List.length_set, List.length_append, List.length_replicate, List.length_cons, List.length_nil, Nat.zero_add] at * <;> omega))] <;> (first | rfl | (simp only [List.length_set]; done))
 · rcases if_of h with ⟨c3, h⟩ | ⟨c3, h⟩
   · have h := Option.some.inj h; subst h
     refine Does.eq (pdoes mixed (L := lives) (r := (.tup [], [.box 2 [.pv (.seq (List.length b0) (encP e_api_Node d_api_Node b0))], .box 2 [.ms 2 [] 0 (List.length l2)], .arr 2 1 (List.length l2) (encW o_bool false l2), .box 2 [.ms 4 [] 0 b3], .arr 0 1 b3 (cutF 0 b3 (List.length l4) (encW o_i64 0 l4))])) (by kernel_rfl) (pk <| pb c2 <| pk7 <| pb c3 <| pz)) ?_
     rw [cut_enc o_i64 0 l4 b3 (List.length l4) (by first | exact Nat.le_refl _ | exact Nat.zero_le _ | (simp only [decide_eq_true_eq, List.length_set, List.length_append, List.length_replicate, List.length_cons, List.length_nil, Nat.zero_add] at * <;> omega)) (by first | exact Nat.le_refl _ | exact Nat.zero_le _ | (simp only [decide_eq_true_eq, List.length_set, List.length_append, List.length_replicate, List.length_cons, List.length_nil, Nat.zero_add] at * <;> omega)), len_take l4 b3 (by first | exact Nat.le_refl _ | exact Nat.zero_le _ | (simp only [decide_eq_true_eq, List.length_set, List.length_append, List.length_replicate, List.length_cons, List.length_nil, Nat.zero_add] at * <;> omega))] <;> (first | rfl | (simp only [List.length_set]; done))
   · obtain ⟨c4, h⟩ := need_of h
     obtain ⟨c5, h⟩ := need_of h
     obtain ⟨v6, h7, h⟩ := bind_of h
     obtain ⟨v17, h18, h⟩ := bind_of h
     have h := Option.some.inj h; subst h
     refine Does.eq (pdoes mixed (L := lives) (r := (.tup [], [.box 2 [.pv (.seq (List.length b0) (encP e_api_Node d_api_Node b0))], .box 2 [.ms 2 [] 0 (List.length v17.1)], .arr 2 1 (List.length v17.1) (encW o_bool false v17.1), .box 2 [.ms 4 [] 0 (List.length v17.2)], .arr 0 1 (List.length v17.2) (cutF 0 (List.length v17.2) (List.length v17.2) (encW o_i64 0 v17.2))])) (by kernel_rfl) (pk <| pb c2 <| pk7 <| pb c3 <| pk <| pn c4 <| pn c5 <| pk <| pc (prog_Succ_ok _ _ h7) <| pk2 <| pl (Loops.of (s1 := ⟨dead :: .ptr 0 [] 0 0 :: .ptr 1 [] 0 0 :: .ptr 3 [] 0 0 :: (List.replicate 15 dead ++ (.ms 5 [] 0 (List.length v6) :: .pv (.int .i64 ((((List.length v6) : Nat) : Int))) :: .pv (.int .i64 0) :: List.replicate 26 dead)), [.box 2 [.pv (.seq (List.length b0) (encP e_api_Node d_api_Node b0))], .box 2 [.ms 2 [] 0 (List.length l2)], .arr 2 1 (List.length l2) (encW o_bool false l2), .box 2 [.ms 4 [] 0 b3], .arr 0 1 b3 (cutF 0 b3 (List.length l4) (encW o_i64 0 l4)), .arr 0 1 (List.length v6) (encW o_i64 0 v6)]⟩) (graph_After_1_1_l2_ok _ _ _ _ _ _ _ h18) (by unfold graph_After_1_1_l2_s; rw [cut_enc o_i64 0 l4 b3 (List.length l4) (by first | exact Nat.le_refl _ | exact Nat.zero_le _ | (simp only [decide_eq_true_eq, List.length_set, List.length_append, List.length_replicate, List.length_cons, List.length_nil, Nat.zero_add] at * <;> omega)) (by first | exact Nat.le_refl _ | exact Nat.zero_le _ | (simp only [decide_eq_true_eq, List.length_set, List.length_append, List.length_replicate, List.length_cons, List.length_nil, Nat.zero_add] at * <;> omega)), len_take l4 b3 (by first | exact Nat.le_refl _ | exact Nat.zero_le _ | (simp only [decide_eq_true_eq, List.length_set, List.length_append, List.length_replicate, List.length_cons, List.length_nil, Nat.zero_add] at * <;> omega))] <;> (first | rfl | (simp only [graph_After_1_1_l2_s, List.length_set]; done)))) <| pz)) ?_
     rw [cut_whole o_i64 0 v17.2 (List.length v17.2) (by first | exact Nat.le_refl _ | exact Nat.zero_le _ | (simp only [decide_eq_true_eq, List.length_set, List.length_append, List.length_replicate, List.length_cons, List.length_nil, Nat.zero_add] at * <;> omega))] <;> (first | rfl | (simp only [List.length_set]; done))
noncomputable def graph_After_l9_c : Code := sub (codeOf Try.prog 43) [1, 1, 1, 1, 1, 0, 0, 0]
def graph_After_l9 (x0 : List Bool) (x1 : List Int) (x2 : List api_Node) : Option ((List Bool)) :=
  if (decide ((((((List.length x1) : Nat) : Int)) : Int) > 0)) = true then
    if (decide ((0 : Int) ≤ (iSub ((((List.length x1) : Nat) : Int)) 1))) = true then
      if (decide (((iSub ((((List.length x1) : Nat) : Int)) 1) : Int) < (((List.length x1) : Nat) : Int))) = true then
        if (decide (((iSub ((((List.length x1) : Nat) : Int)) 1) : Int) ≤ ((List.length x1 : Nat) : Int))) = true then
          bind (graph_After_1_1 x0 x1 x2 (Int.toNat (iSub ((((List.length x1) : Nat) : Int)) 1)) (List.getD x1 (Int.toNat (iSub ((((List.length x1) : Nat) : Int)) 1)) 0)) fun v14 =>
          graph_After_l9 v14.1 v14.2 x2
        else none
      else none
    else none
  else
    some x0
partial_fixpoint
noncomputable abbrev graph_After_l9_s (x0 : List Bool) (x1 : List Int) (x2 : List api_Node) : St := ⟨(List.replicate 5 dead ++ (.ptr 0 [] 0 0 :: .ptr 2 [] 0 0 :: .clo 86 [.ptr 4 [] 0 0, .ptr 0 [] 0 0, .ptr 2 [] 0 0] :: List.replicate 35 dead)), [.box 0 [.ms 1 [] 0 (List.length x0)], .arr 0 1 (List.length x0) (encW o_bool false x0), .box 0 [.ms 3 [] 0 (List.length x1)], .arr 0 1 (List.length x1) (encW o_i64 0 x1), .box 0 [.pv (.seq (List.length x2) (encP e_api_Node d_api_Node x2))]]⟩
noncomputable abbrev graph_After_l9_e (x0 : List Bool) (x1 : List Int) (x2 : List api_Node) (r : (List Bool)) : St := ⟨(List.replicate 5 dead ++ (.ptr 0 [] 0 0 :: List.replicate 37 dead)), [.box 0 [.ms 1 [] 0 (List.length r)], .arr 0 1 (List.length r) (encW o_bool false r)]⟩
theorem graph_After_l9_ok (x0 : List Bool) (x1 : List Int) (x2 : List api_Node) (r : (List Bool)) (h : graph_After_l9 x0 x1 x2 = some r) : Loops Try.prog graph_After_l9_c 0 (graph_After_l9_s x0 x1 x2) (.exit 2) (graph_After_l9_e x0 x1 x2 r) := by
 refine graph_After_l9.partial_correctness x2 (fun x0 x1 r => Loops Try.prog graph_After_l9_c 0 (graph_After_l9_s x0 x1 x2) (.exit 2) (graph_After_l9_e x0 x1 x2 r)) ?_ x0 x1 r h
 clear h r x0 x1
 intro self ih x0 x1 r h
 rcases if_of h with ⟨c10, h⟩ | ⟨c10, h⟩
 · obtain ⟨c11, h⟩ := need_of h
   obtain ⟨c12, h⟩ := need_of h
   obtain ⟨c13, h⟩ := need_of h
   obtain ⟨v14, h15, h⟩ := bind_of h
   exact pmore mixed lives 43 (by kernel_rfl) (pk3 <| pb c10 <| pk4 <| pn c11 <| pn c12 <| pk5 <| pn c11 <| pn c13 <| pk2 <| pc (graph_After_1_1_ok _ _ _ _ _ _ h15) <| pk <| pz) (ih v14.1 v14.2 _ h)
 · have h := Option.some.inj h; subst h
   exact plast mixed lives 43 (by kernel_rfl) (pk3 <| pb c10 <| pz) rfl
/-- alibi/graph.After -/
def graph_After (l : List api_Node) (from_ : List Int) : Option ((List Bool)) :=
  if (decide ((0 : Int) ≤ (((List.length l : Nat) : Int)))) = true then
    if (decide (((((List.length l : Nat) : Int)) : Int) * ((1 : Nat) : Int) ≤ ((reach : Nat) : Int))) = true then
      bind (graph_After_l5 (List.replicate (Int.toNat (((List.length l : Nat) : Int))) false) (([] : List Int)) l from_ (((List.length from_ : Nat) : Int)) 0) fun v8 =>
      bind (graph_After_l9 v8.1 v8.2 l) fun v16 =>
      some v16
    else none
  else none
theorem graph_After_ok (l : List api_Node) (from_ : List Int) (r : (List Bool)) (h : graph_After l from_ = some r) : Does Try.prog 43 [.pv (.seq (List.length l) (encP e_api_Node d_api_Node l)), .pv (.seq (List.length from_) (encP e_i64 0 from_))] [] (.ms 0 [] 0 (List.length r), [.arr 0 1 (List.length r) (encW o_bool false r)]) := by
 unfold graph_After at h
 obtain ⟨c1, h⟩ := need_of h
 obtain ⟨c2, h⟩ := need_of h
 obtain ⟨v8, h9, h⟩ := bind_of h
 obtain ⟨v16, h17, h⟩ := bind_of h
 have h := Option.some.inj h; subst h
 exact pdoes mixed (L := lives) (by kernel_rfl) (pk3 <| pn c1 <| pn ((decide_eq_true rfl) : (decide (((((List.length l : Nat) : Int)) : Int) = (((List.length l : Nat) : Int)))) = true) <| pn c2 <| pe (eff_make o_bool false 1 1 (Int.toNat (((List.length l : Nat) : Int)))) <| pk4 <| pl (Loops.of (s1 := ⟨(List.replicate 5 dead ++ (.ptr 0 [] 0 0 :: .ptr 2 [] 0 0 :: .clo 86 [.ptr 4 [] 0 0, .ptr 0 [] 0 0, .ptr 2 [] 0 0] :: (List.replicate 7 dead ++ (.pv (.seq (List.length from_) (encP e_i64 0 from_)) :: .pv (.int .i64 (((List.length from_ : Nat) : Int))) :: .pv (.int .i64 0) :: List.replicate 25 dead)))), [.box 0 [.ms 1 [] 0 (List.length (List.replicate (Int.toNat (((List.length l : Nat) : Int))) false))], .arr 0 1 (List.length (List.replicate (Int.toNat (((List.length l : Nat) : Int))) false)) (encW o_bool false (List.replicate (Int.toNat (((List.length l : Nat) : Int))) false)), .box 0 [.ms 3 [] 0 (List.length ([] : List Int))], .arr 0 1 (List.length ([] : List Int)) (encW o_i64 0 (([] : List Int))), .box 0 [.pv (.seq (List.length l) (encP e_api_Node d_api_Node l))]]⟩) (graph_After_l5_ok _ _ _ _ _ _ _ h9) (by (first | rfl | (simp only [graph_After_l5_s, List.length_set]; done)))) <| pl (graph_After_l9_ok _ _ _ _ h17) <| pk <| pz)
noncomputable def alibilaw06_GraphBoth_l8_c : Code := sub (codeOf Try.prog 10) [1, 1, 1, 1, 1, 0, 1, 0, 0]
inductive alibilaw06_GraphBoth_l8_R where
  | x0 (v0 : Bool)
  | x1
def alibilaw06_GraphBoth_l8_R.ex : alibilaw06_GraphBoth_l8_R → Ex
  | .x0 _ => .ret
  | .x1 => .exit 0
noncomputable def alibilaw06_GraphBoth_l8_R.st (x0 : List Bool) (x1 : List Bool) (x2 : List Bool) (x3 : List api_Node) (x4 : Int) : alibilaw06_GraphBoth_l8_R → St
  | .x0 v0 => ⟨(List.replicate 6 dead ++ (.pv (.bool v0) :: List.replicate 75 dead)), []⟩
  | .x1 => ⟨List.replicate 82 dead, []⟩
def alibilaw06_GraphBoth_l8 (x0 : List Bool) (x1 : List Bool) (x2 : List Bool) (x3 : List api_Node) (x4 : Int) : Option (alibilaw06_GraphBoth_l8_R) :=
  if (decide ((x4 : Int) < (((List.length x3 : Nat) : Int)))) = true then
    if (decide ((0 : Int) ≤ x4)) = true then
      if (decide ((x4 : Int) < (((List.length x2) : Nat) : Int))) = true then
        if (decide ((x4 : Int) < (((List.length x0) : Nat) : Int))) = true then
          if (List.getD x0 (Int.toNat x4) false) = true then
            if (!((List.getD x2 (Int.toNat x4) false) == true)) = true then
              some (.x0 false)
            else
              alibilaw06_GraphBoth_l8 x0 x1 x2 x3 (iAdd x4 1)
          else
            if (decide ((x4 : Int) < (((List.length x1) : Nat) : Int))) = true then
              if (!((List.getD x2 (Int.toNat x4) false) == (List.getD x1 (Int.toNat x4) false))) = true then
                some (.x0 false)
              else
                alibilaw06_GraphBoth_l8 x0 x1 x2 x3 (iAdd x4 1)
            else none
        else none
      else none
    else none
  else
    some (.x1)
partial_fixpoint
noncomputable abbrev alibilaw06_GraphBoth_l8_s (x0 : List Bool) (x1 : List Bool) (x2 : List Bool) (x3 : List api_Node) (x4 : Int) : St := ⟨.pv (.seq (List.length x3) (encP e_api_Node d_api_Node x3)) :: (List.replicate 6 dead ++ (.ms 0 [] 0 (List.length x0) :: .ms 1 [] 0 (List.length x1) :: .ms 2 [] 0 (List.length x2) :: .pv (.int .i64 x4) :: List.replicate 71 dead)), [.arr 0 1 (List.length x0) (encW o_bool false x0), .arr 0 1 (List.length x1) (encW o_bool false x1), .arr 0 1 (List.length x2) (encW o_bool false x2)]⟩
theorem alibilaw06_GraphBoth_l8_ok (x0 : List Bool) (x1 : List Bool) (x2 : List Bool) (x3 : List api_Node) (x4 : Int) (r : alibilaw06_GraphBoth_l8_R) (h : alibilaw06_GraphBoth_l8 x0 x1 x2 x3 x4 = some r) : Loops Try.prog alibilaw06_GraphBoth_l8_c 0 (alibilaw06_GraphBoth_l8_s x0 x1 x2 x3 x4) r.ex (alibilaw06_GraphBoth_l8_R.st x0 x1 x2 x3 x4 r) := by
 refine alibilaw06_GraphBoth_l8.partial_correctness x0 x1 x2 x3 (fun x4 r => Loops Try.prog alibilaw06_GraphBoth_l8_c 0 (alibilaw06_GraphBoth_l8_s x0 x1 x2 x3 x4) r.ex (alibilaw06_GraphBoth_l8_R.st x0 x1 x2 x3 x4 r)) ?_ x4 r h
 clear h r x4
 intro self ih x4 r h
 rcases if_of h with ⟨c26, h⟩ | ⟨c26, h⟩
 · obtain ⟨c27, h⟩ := need_of h
   obtain ⟨c28, h⟩ := need_of h
   obtain ⟨c29, h⟩ := need_of h
   rcases if_of h with ⟨c30, h⟩ | ⟨c30, h⟩
   · rcases if_of h with ⟨c31, h⟩ | ⟨c31, h⟩
     · have h := Option.some.inj h; subst h
       exact plast mixed lives 10 (by kernel_rfl) (pk2 <| pb c26 <| pn c27 <| pn c28 <| pk <| pn c27 <| pn c29 <| pk <| pb c30 <| pk5 <| pb c31 <| pz) rfl
     · exact pmore mixed lives 10 (by kernel_rfl) (pk2 <| pb c26 <| pn c27 <| pn c28 <| pk <| pn c27 <| pn c29 <| pk <| pb c30 <| pk5 <| pb c31 <| pk <| pz) (ih (iAdd x4 1) _ h)
   · obtain ⟨c32, h⟩ := need_of h
     rcases if_of h with ⟨c33, h⟩ | ⟨c33, h⟩
     · have h := Option.some.inj h; subst h
       exact plast mixed lives 10 (by kernel_rfl) (pk2 <| pb c26 <| pn c27 <| pn c28 <| pk <| pn c27 <| pn c29 <| pk <| pb c30 <| pk2 <| pn c27 <| pn c32 <| pk4 <| pb c33 <| pz) rfl
     · exact pmore mixed lives 10 (by kernel_rfl) (pk2 <| pb c26 <| pn c27 <| pn c28 <| pk <| pn c27 <| pn c29 <| pk <| pb c30 <| pk2 <| pn c27 <| pn c32 <| pk4 <| pb c33 <| pk <| pz) (ih (iAdd x4 1) _ h)
 · have h := Option.some.inj h; subst h
   exact plast mixed lives 10 (by kernel_rfl) (pk2 <| pb c26 <| pz) rfl
/-- alibi/alibilaw06.GraphBoth -/
def alibilaw06_GraphBoth (l : List api_Node) (a : List Int) (b : List Int) : Option (Bool) :=
  bind (alibilaw06_awake) fun v1 =>
  if (!v1) = true then
    bind (alibilaw06_awake) fun v4 =>
    some v4
  else
    if (decide (((((List.length l : Nat) : Int)) : Int) > 100)) = true then
      bind (alibilaw06_awake) fun v7 =>
      some v7
    else
      if (decide (((((List.length a : Nat) : Int)) : Int) > 100)) = true then
        bind (alibilaw06_awake) fun v10 =>
        some v10
      else
        if (decide (((((List.length b : Nat) : Int)) : Int) > 100)) = true then
          bind (alibilaw06_awake) fun v13 =>
          some v13
        else
          bind (graph_After l a) fun v15 =>
          bind (graph_After l b) fun v17 =>
          if (Nat.ble ((List.length (([] : List Int)) + List.length a) * 8) reach) = true then
            if (Nat.ble ((List.length (([] : List Int) ++ a) + List.length b) * 8) reach) = true then
              bind (graph_After l (([] : List Int) ++ a ++ b)) fun v21 =>
              if ((((((List.length v15) : Nat) : Int)) : Int) != (((List.length l : Nat) : Int))) = true then
                some false
              else
                if ((((((List.length v17) : Nat) : Int)) : Int) != (((List.length l : Nat) : Int))) = true then
                  some false
                else
                  if ((((((List.length v21) : Nat) : Int)) : Int) != (((List.length l : Nat) : Int))) = true then
                    some false
                  else
                    bind (alibilaw06_GraphBoth_l8 v15 v17 v21 l 0) fun q => match q with
                      | .x0 v34 =>
                        some v34
                      | .x1 =>
                        some true
            else none
          else none
theorem alibilaw06_GraphBoth_ok (l : List api_Node) (a : List Int) (b : List Int) (r : Bool) (h : alibilaw06_GraphBoth l a b = some r) : Does Try.prog 10 [.pv (.seq (List.length l) (encP e_api_Node d_api_Node l)), .pv (.seq (List.length a) (encP e_i64 0 a)), .pv (.seq (List.length b) (encP e_i64 0 b))] [] (.pv (.bool r), []) := by
 unfold alibilaw06_GraphBoth at h
 obtain ⟨v1, h2, h⟩ := bind_of h
 rcases if_of h with ⟨c3, h⟩ | ⟨c3, h⟩
 · obtain ⟨v4, h5, h⟩ := bind_of h
   have h := Option.some.inj h; subst h
   exact pdoes mixed (L := lives) (by kernel_rfl) (pc (alibilaw06_awake_ok _ h2) <| pk2 <| pb c3 <| pk8 <| pk4 <| pc (alibilaw06_awake_ok _ h5) <| pk <| pz)
 · rcases if_of h with ⟨c6, h⟩ | ⟨c6, h⟩
   · obtain ⟨v7, h8, h⟩ := bind_of h
     have h := Option.some.inj h; subst h
     exact pdoes mixed (L := lives) (by kernel_rfl) (pc (alibilaw06_awake_ok _ h2) <| pk2 <| pb c3 <| pk5 <| pb c6 <| pk8 <| pc (alibilaw06_awake_ok _ h8) <| pk <| pz)
   · rcases if_of h with ⟨c9, h⟩ | ⟨c9, h⟩
     · obtain ⟨v10, h11, h⟩ := bind_of h
       have h := Option.some.inj h; subst h
       exact pdoes mixed (L := lives) (by kernel_rfl) (pc (alibilaw06_awake_ok _ h2) <| pk2 <| pb c3 <| pk5 <| pb c6 <| pk5 <| pb c9 <| pk4 <| pc (alibilaw06_awake_ok _ h11) <| pk <| pz)
     · rcases if_of h with ⟨c12, h⟩ | ⟨c12, h⟩
       · obtain ⟨v13, h14, h⟩ := bind_of h
         have h := Option.some.inj h; subst h
         exact pdoes mixed (L := lives) (by kernel_rfl) (pc (alibilaw06_awake_ok _ h2) <| pk2 <| pb c3 <| pk5 <| pb c6 <| pk5 <| pb c9 <| pk5 <| pb c12 <| pc (alibilaw06_awake_ok _ h14) <| pk <| pz)
       · obtain ⟨v15, h16, h⟩ := bind_of h
         obtain ⟨v17, h18, h⟩ := bind_of h
         obtain ⟨c19, h⟩ := need_of h
         obtain ⟨c20, h⟩ := need_of h
         obtain ⟨v21, h22, h⟩ := bind_of h
         rcases if_of h with ⟨c23, h⟩ | ⟨c23, h⟩
         · have h := Option.some.inj h; subst h
           exact pdoes mixed (L := lives) (by kernel_rfl) (pc (alibilaw06_awake_ok _ h2) <| pk2 <| pb c3 <| pk5 <| pb c6 <| pk5 <| pb c9 <| pk5 <| pb c12 <| pc (graph_After_ok _ _ _ h16) <| pk <| pc (graph_After_ok _ _ _ h18) <| pk <| pe (eff_lit o_i64 0 5 1 0 (([] : List Int)) rfl [] []) <| pn c19 <| pe (eff_app o_i64 0 (([] : List Int)) a (([] : List Int) ++ a) 5 1 (List.length (([] : List Int))) (List.length a) (fun i => List.map AV.pv (encP e_i64 0 a i)) (encW o_i64 0 (([] : List Int)) (List.length (([] : List Int)))) [] [] [(5, false)] (by first | exact Nat.le_refl _ | exact Nat.zero_le _ | (simp only [decide_eq_true_eq, List.length_set, List.length_append, List.length_replicate, List.length_cons, List.length_nil, Nat.zero_add] at * <;> omega)) rfl (fun _ => by kernel_rfl) (congrArg o_i64 (getD_ge 0 (by first | exact Nat.le_refl _ | exact Nat.zero_le _ | (simp only [decide_eq_true_eq, List.length_set, List.length_append, List.length_replicate, List.length_cons, List.length_nil, Nat.zero_add] at * <;> omega)))) (by rw [List.take_of_length_le (by first | exact Nat.le_refl _ | exact Nat.zero_le _ | (simp only [decide_eq_true_eq, List.length_set, List.length_append, List.length_replicate, List.length_cons, List.length_nil, Nat.zero_add] at * <;> omega))])) <| pn c20 <| pe (eff_app o_i64 0 (([] : List Int) ++ a) b (([] : List Int) ++ a ++ b) 5 1 (List.length (([] : List Int) ++ a)) (List.length b) (fun i => List.map AV.pv (encP e_i64 0 b i)) (encW o_i64 0 (([] : List Int) ++ a) (List.length (([] : List Int) ++ a))) [] [] [(5, false)] (by first | exact Nat.le_refl _ | exact Nat.zero_le _ | (simp only [decide_eq_true_eq, List.length_set, List.length_append, List.length_replicate, List.length_cons, List.length_nil, Nat.zero_add] at * <;> omega)) rfl (fun _ => by kernel_rfl) (congrArg o_i64 (getD_ge 0 (by first | exact Nat.le_refl _ | exact Nat.zero_le _ | (simp only [decide_eq_true_eq, List.length_set, List.length_append, List.length_replicate, List.length_cons, List.length_nil, Nat.zero_add] at * <;> omega)))) (by rw [List.take_of_length_le (by first | exact Nat.le_refl _ | exact Nat.zero_le _ | (simp only [decide_eq_true_eq, List.length_set, List.length_append, List.length_replicate, List.length_cons, List.length_nil, Nat.zero_add] at * <;> omega))])) <| pb (whole_ok (List.length (([] : List Int) ++ a ++ b))) <| pc (graph_After_ok _ _ _ h22) <| pk4 <| pb c23 <| pk8 <| pk4 <| pz)
         · rcases if_of h with ⟨c24, h⟩ | ⟨c24, h⟩
           · have h := Option.some.inj h; subst h
             exact pdoes mixed (L := lives) (by kernel_rfl) (pc (alibilaw06_awake_ok _ h2) <| pk2 <| pb c3 <| pk5 <| pb c6 <| pk5 <| pb c9 <| pk5 <| pb c12 <| pc (graph_After_ok _ _ _ h16) <| pk <| pc (graph_After_ok _ _ _ h18) <| pk <| pe (eff_lit o_i64 0 5 1 0 (([] : List Int)) rfl [] []) <| pn c19 <| pe (eff_app o_i64 0 (([] : List Int)) a (([] : List Int) ++ a) 5 1 (List.length (([] : List Int))) (List.length a) (fun i => List.map AV.pv (encP e_i64 0 a i)) (encW o_i64 0 (([] : List Int)) (List.length (([] : List Int)))) [] [] [(5, false)] (by first | exact Nat.le_refl _ | exact Nat.zero_le _ | (simp only [decide_eq_true_eq, List.length_set, List.length_append, List.length_replicate, List.length_cons, List.length_nil, Nat.zero_add] at * <;> omega)) rfl (fun _ => by kernel_rfl) (congrArg o_i64 (getD_ge 0 (by first | exact Nat.le_refl _ | exact Nat.zero_le _ | (simp only [decide_eq_true_eq, List.length_set, List.length_append, List.length_replicate, List.length_cons, List.length_nil, Nat.zero_add] at * <;> omega)))) (by rw [List.take_of_length_le (by first | exact Nat.le_refl _ | exact Nat.zero_le _ | (simp only [decide_eq_true_eq, List.length_set, List.length_append, List.length_replicate, List.length_cons, List.length_nil, Nat.zero_add] at * <;> omega))])) <| pn c20 <| pe (eff_app o_i64 0 (([] : List Int) ++ a) b (([] : List Int) ++ a ++ b) 5 1 (List.length (([] : List Int) ++ a)) (List.length b) (fun i => List.map AV.pv (encP e_i64 0 b i)) (encW o_i64 0 (([] : List Int) ++ a) (List.length (([] : List Int) ++ a))) [] [] [(5, false)] (by first | exact Nat.le_refl _ | exact Nat.zero_le _ | (simp only [decide_eq_true_eq, List.length_set, List.length_append, List.length_replicate, List.length_cons, List.length_nil, Nat.zero_add] at * <;> omega)) rfl (fun _ => by kernel_rfl) (congrArg o_i64 (getD_ge 0 (by first | exact Nat.le_refl _ | exact Nat.zero_le _ | (simp only [decide_eq_true_eq, List.length_set, List.length_append, List.length_replicate, List.length_cons, List.length_nil, Nat.zero_add] at * <;> omega)))) (by rw [List.take_of_length_le (by first | exact Nat.le_refl _ | exact Nat.zero_le _ | (simp only [decide_eq_true_eq, List.length_set, List.length_append, List.length_replicate, List.length_cons, List.length_nil, Nat.zero_add] at * <;> omega))])) <| pb (whole_ok (List.length (([] : List Int) ++ a ++ b))) <| pc (graph_After_ok _ _ _ h22) <| pk4 <| pb c23 <| pk8 <| pb c24 <| pk6 <| pz)
           · rcases if_of h with ⟨c25, h⟩ | ⟨c25, h⟩
             · have h := Option.some.inj h; subst h
               exact pdoes mixed (L := lives) (by kernel_rfl) (pc (alibilaw06_awake_ok _ h2) <| pk2 <| pb c3 <| pk5 <| pb c6 <| pk5 <| pb c9 <| pk5 <| pb c12 <| pc (graph_After_ok _ _ _ h16) <| pk <| pc (graph_After_ok _ _ _ h18) <| pk <| pe (eff_lit o_i64 0 5 1 0 (([] : List Int)) rfl [] []) <| pn c19 <| pe (eff_app o_i64 0 (([] : List Int)) a (([] : List Int) ++ a) 5 1 (List.length (([] : List Int))) (List.length a) (fun i => List.map AV.pv (encP e_i64 0 a i)) (encW o_i64 0 (([] : List Int)) (List.length (([] : List Int)))) [] [] [(5, false)] (by first | exact Nat.le_refl _ | exact Nat.zero_le _ | (simp only [decide_eq_true_eq, List.length_set, List.length_append, List.length_replicate, List.length_cons, List.length_nil, Nat.zero_add] at * <;> omega)) rfl (fun _ => by kernel_rfl) (congrArg o_i64 (getD_ge 0 (by first | exact Nat.le_refl _ | exact Nat.zero_le _ | (simp only [decide_eq_true_eq, List.length_set, List.length_append, List.length_replicate, List.length_cons, List.length_nil, Nat.zero_add] at * <;> omega)))) (by rw [List.take_of_length_le (by first | exact Nat.le_refl _ | exact Nat.zero_le _ | (simp only [decide_eq_true_eq, List.length_set, List.length_append, List.length_replicate, List.length_cons, List.length_nil, Nat.zero_add] at * <;> omega))])) <| pn c20 <| pe (eff_app o_i64 0 (([] : List Int) ++ a) b (([] : List Int) ++ a ++ b) 5 1 (List.length (([] : List Int) ++ a)) (List.length b) (fun i => List.map AV.pv (encP e_i64 0 b i)) (encW o_i64 0 (([] : List Int) ++ a) (List.length (([] : List Int) ++ a))) [] [] [(5, false)] (by first | exact Nat.le_refl _ | exact Nat.zero_le _ | (simp only [decide_eq_true_eq, List.length_set, List.length_append, List.length_replicate, List.length_cons, List.length_nil, Nat.zero_add] at * <;> omega)) rfl (fun _ => by kernel_rfl) (congrArg o_i64 (getD_ge 0 (by first | exact Nat.le_refl _ | exact Nat.zero_le _ | (simp only [decide_eq_true_eq, List.length_set, List.length_append, List.length_replicate, List.length_cons, List.length_nil, Nat.zero_add] at * <;> omega)))) (by rw [List.take_of_length_le (by first | exact Nat.le_refl _ | exact Nat.zero_le _ | (simp only [decide_eq_true_eq, List.length_set, List.length_append, List.length_replicate, List.length_cons, List.length_nil, Nat.zero_add] at * <;> omega))])) <| pb (whole_ok (List.length (([] : List Int) ++ a ++ b))) <| pc (graph_After_ok _ _ _ h22) <| pk4 <| pb c23 <| pk8 <| pb c24 <| pk8 <| pb c25 <| pz)
             · obtain ⟨q, hq, h⟩ := bind_of h
               cases q with
               | x0 v34 =>
                have h35 := hq; clear hq
                try dsimp only at h
                have h := Option.some.inj h; subst h
                exact pdoes mixed (L := lives) (by kernel_rfl) (pc (alibilaw06_awake_ok _ h2) <| pk2 <| pb c3 <| pk5 <| pb c6 <| pk5 <| pb c9 <| pk5 <| pb c12 <| pc (graph_After_ok _ _ _ h16) <| pk <| pc (graph_After_ok _ _ _ h18) <| pk <| pe (eff_lit o_i64 0 5 1 0 (([] : List Int)) rfl [] []) <| pn c19 <| pe (eff_app o_i64 0 (([] : List Int)) a (([] : List Int) ++ a) 5 1 (List.length (([] : List Int))) (List.length a) (fun i => List.map AV.pv (encP e_i64 0 a i)) (encW o_i64 0 (([] : List Int)) (List.length (([] : List Int)))) [] [] [(5, false)] (by first | exact Nat.le_refl _ | exact Nat.zero_le _ | (simp only [decide_eq_true_eq, List.length_set, List.length_append, List.length_replicate, List.length_cons, List.length_nil, Nat.zero_add] at * <;> omega)) rfl (fun _ => by kernel_rfl) (congrArg o_i64 (getD_ge 0 (by first | exact Nat.le_refl _ | exact Nat.zero_le _ | (simp only [decide_eq_true_eq, List.length_set, List.length_append, List.length_replicate, List.length_cons, List.length_nil, Nat.zero_add] at * <;> omega)))) (by rw [List.take_of_length_le (by first | exact Nat.le_refl _ | exact Nat.zero_le _ | (simp only [decide_eq_true_eq, List.length_set, List.length_append, List.length_replicate, List.length_cons, List.length_nil, Nat.zero_add] at * <;> omega))])) <| pn c20 <| pe (eff_app o_i64 0 (([] : List Int) ++ a) b (([] : List Int) ++ a ++ b) 5 1 (List.length (([] : List Int) ++ a)) (List.length b) (fun i => List.map AV.pv (encP e_i64 0 b i)) (encW o_i64 0 (([] : List Int) ++ a) (List.length (([] : List Int) ++ a))) [] [] [(5, false)] (by first | exact Nat.le_refl _ | exact Nat.zero_le _ | (simp only [decide_eq_true_eq, List.length_set, List.length_append, List.length_replicate, List.length_cons, List.length_nil, Nat.zero_add] at * <;> omega)) rfl (fun _ => by kernel_rfl) (congrArg o_i64 (getD_ge 0 (by first | exact Nat.le_refl _ | exact Nat.zero_le _ | (simp only [decide_eq_true_eq, List.length_set, List.length_append, List.length_replicate, List.length_cons, List.length_nil, Nat.zero_add] at * <;> omega)))) (by rw [List.take_of_length_le (by first | exact Nat.le_refl _ | exact Nat.zero_le _ | (simp only [decide_eq_true_eq, List.length_set, List.length_append, List.length_replicate, List.length_cons, List.length_nil, Nat.zero_add] at * <;> omega))])) <| pb (whole_ok (List.length (([] : List Int) ++ a ++ b))) <| pc (graph_After_ok _ _ _ h22) <| pk4 <| pb c23 <| pk8 <| pb c24 <| pk8 <| pb c25 <| pl (alibilaw06_GraphBoth_l8_ok _ _ _ _ _ _ h35) <| pz)
               | x1 =>
                have h36 := hq; clear hq
                try dsimp only at h
                have h := Option.some.inj h; subst h
                exact pdoes mixed (L := lives) (by kernel_rfl) (pc (alibilaw06_awake_ok _ h2) <| pk2 <| pb c3 <| pk5 <| pb c6 <| pk5 <| pb c9 <| pk5 <| pb c12 <| pc (graph_After_ok _ _ _ h16) <| pk <| pc (graph_After_ok _ _ _ h18) <| pk <| pe (eff_lit o_i64 0 5 1 0 (([] : List Int)) rfl [] []) <| pn c19 <| pe (eff_app o_i64 0 (([] : List Int)) a (([] : List Int) ++ a) 5 1 (List.length (([] : List Int))) (List.length a) (fun i => List.map AV.pv (encP e_i64 0 a i)) (encW o_i64 0 (([] : List Int)) (List.length (([] : List Int)))) [] [] [(5, false)] (by first | exact Nat.le_refl _ | exact Nat.zero_le _ | (simp only [decide_eq_true_eq, List.length_set, List.length_append, List.length_replicate, List.length_cons, List.length_nil, Nat.zero_add] at * <;> omega)) rfl (fun _ => by kernel_rfl) (congrArg o_i64 (getD_ge 0 (by first | exact Nat.le_refl _ | exact Nat.zero_le _ | (simp only [decide_eq_true_eq, List.length_set, List.length_append, List.length_replicate, List.length_cons, List.length_nil, Nat.zero_add] at * <;> omega)))) (by rw [List.take_of_length_le (by first | exact Nat.le_refl _ | exact Nat.zero_le _ | (simp only [decide_eq_true_eq, List.length_set, List.length_append, List.length_replicate, List.length_cons, List.length_nil, Nat.zero_add] at * <;> omega))])) <| pn c20 <| pe (eff_app o_i64 0 (([] : List Int) ++ a) b (([] : List Int) ++ a ++ b) 5 1 (List.length (([] : List Int) ++ a)) (List.length b) (fun i => List.map AV.pv (encP e_i64 0 b i)) (encW o_i64 0 (([] : List Int) ++ a) (List.length (([] : List Int) ++ a))) [] [] [(5, false)] (by first | exact Nat.le_refl _ | exact Nat.zero_le _ | (simp only [decide_eq_true_eq, List.length_set, List.length_append, List.length_replicate, List.length_cons, List.length_nil, Nat.zero_add] at * <;> omega)) rfl (fun _ => by kernel_rfl) (congrArg o_i64 (getD_ge 0 (by first | exact Nat.le_refl _ | exact Nat.zero_le _ | (simp only [decide_eq_true_eq, List.length_set, List.length_append, List.length_replicate, List.length_cons, List.length_nil, Nat.zero_add] at * <;> omega)))) (by rw [List.take_of_length_le (by first | exact Nat.le_refl _ | exact Nat.zero_le _ | (simp only [decide_eq_true_eq, List.length_set, List.length_append, List.length_replicate, List.length_cons, List.length_nil, Nat.zero_add] at * <;> omega))])) <| pb (whole_ok (List.length (([] : List Int) ++ a ++ b))) <| pc (graph_After_ok _ _ _ h22) <| pk4 <| pb c23 <| pk8 <| pb c24 <| pk8 <| pb c25 <| pl (alibilaw06_GraphBoth_l8_ok _ _ _ _ _ _ h36) <| pz)
structure graph_Edge where
  from_ : Int
  to_ : Int

def o_graph_Edge (x : graph_Edge) : List AV := [.pv (.int .i64 x.from_), .pv (.int .i64 x.to_)]
def d_graph_Edge : graph_Edge := ⟨0, 0⟩
noncomputable def graph_Edges_l6_c : Code := sub (codeOf Try.prog 44) [1, 1, 0, 1, 0, 0, 1, 1, 0, 0, 1, 1, 0, 0]
def graph_Edges_l6 (x0 : List graph_Edge) (x1 : List Int) (x2 : Int) (x3 : List api_Node) (x4 : Int) (x5 : Int) (x6 : Int) (x7 : Int) : Option ((List graph_Edge)) :=
  if (decide ((x7 : Int) < x6)) = true then
    if (decide ((0 : Int) ≤ x7)) = true then
      if (decide ((x7 : Int) < (((List.length x1) : Nat) : Int))) = true then
        if (Nat.ble ((List.length x0 + List.length ([graph_Edge.mk x2 (List.getD x1 (Int.toNat x7) 0)])) * 16) reach) = true then
          graph_Edges_l6 (x0 ++ ([graph_Edge.mk x2 (List.getD x1 (Int.toNat x7) 0)])) x1 x2 x3 x4 x5 x6 (iAdd x7 1)
        else none
      else none
    else none
  else
    some x0
partial_fixpoint
noncomputable abbrev graph_Edges_l6_s (x0 : List graph_Edge) (x1 : List Int) (x2 : Int) (x3 : List api_Node) (x4 : Int) (x5 : Int) (x6 : Int) (x7 : Int) : St := ⟨dead :: dead :: dead :: .ms 0 [] 0 (List.length x0) :: .pv (.int .i64 x2) :: dead :: dead :: dead :: .pv (.seq (List.length x3) (encP e_api_Node d_api_Node x3)) :: .pv (.int .i64 x4) :: .pv (.int .i64 x5) :: (List.replicate 5 dead ++ (.ms 1 [] 0 (List.length x1) :: .pv (.int .i64 x6) :: .pv (.int .i64 x7) :: List.replicate 12 dead)), [.arr 0 2 (List.length x0) (encW o_graph_Edge d_graph_Edge x0), .arr 0 1 (List.length x1) (encW o_i64 0 x1)]⟩
noncomputable abbrev graph_Edges_l6_e (x0 : List graph_Edge) (x1 : List Int) (x2 : Int) (x3 : List api_Node) (x4 : Int) (x5 : Int) (x6 : Int) (x7 : Int) (r : (List graph_Edge)) : St := ⟨dead :: dead :: dead :: .ms 0 [] 0 (List.length r) :: (List.replicate 4 dead ++ (.pv (.seq (List.length x3) (encP e_api_Node d_api_Node x3)) :: .pv (.int .i64 x4) :: .pv (.int .i64 x5) :: List.replicate 20 dead)), [.arr 0 2 (List.length r) (encW o_graph_Edge d_graph_Edge r)]⟩
theorem graph_Edges_l6_ok (x0 : List graph_Edge) (x1 : List Int) (x2 : Int) (x3 : List api_Node) (x4 : Int) (x5 : Int) (x6 : Int) (x7 : Int) (r : (List graph_Edge)) (h : graph_Edges_l6 x0 x1 x2 x3 x4 x5 x6 x7 = some r) : Loops Try.prog graph_Edges_l6_c 0 (graph_Edges_l6_s x0 x1 x2 x3 x4 x5 x6 x7) (.exit 2) (graph_Edges_l6_e x0 x1 x2 x3 x4 x5 x6 x7 r) := by
 refine graph_Edges_l6.partial_correctness x1 x2 x3 x4 x5 x6 (fun x0 x7 r => Loops Try.prog graph_Edges_l6_c 0 (graph_Edges_l6_s x0 x1 x2 x3 x4 x5 x6 x7) (.exit 2) (graph_Edges_l6_e x0 x1 x2 x3 x4 x5 x6 x7 r)) ?_ x0 x7 r h
 clear h r x0 x7
 intro self ih x0 x7 r h
 rcases if_of h with ⟨c6, h⟩ | ⟨c6, h⟩
 · obtain ⟨c7, h⟩ := need_of h
   obtain ⟨c8, h⟩ := need_of h
   obtain ⟨c9, h⟩ := need_of h
   exact pmore mixed lives 44 (by kernel_rfl) (pk <| pb c6 <| pn c7 <| pn c8 <| pk2 <| pe (eff_lit o_graph_Edge d_graph_Edge 2 2 1 ([graph_Edge.mk x2 (List.getD x1 (Int.toNat x7) 0)]) rfl [] []) <| pb (whole_ok (List.length ([graph_Edge.mk x2 (List.getD x1 (Int.toNat x7) 0)]))) <| pn c9 <| pe (eff_app o_graph_Edge d_graph_Edge x0 ([graph_Edge.mk x2 (List.getD x1 (Int.toNat x7) 0)]) (x0 ++ ([graph_Edge.mk x2 (List.getD x1 (Int.toNat x7) 0)])) 0 2 (List.length x0) (List.length ([graph_Edge.mk x2 (List.getD x1 (Int.toNat x7) 0)])) (fun i => List.map AV.scal (encW o_graph_Edge d_graph_Edge ([graph_Edge.mk x2 (List.getD x1 (Int.toNat x7) 0)]) i)) (encW o_graph_Edge d_graph_Edge x0 (List.length x0)) [] [] [(0, false)] (by first | exact Nat.le_refl _ | exact Nat.zero_le _ | (simp only [decide_eq_true_eq, List.length_set, List.length_append, List.length_replicate, List.length_cons, List.length_nil, Nat.zero_add] at * <;> omega)) rfl (fun _ => by kernel_rfl) (congrArg o_graph_Edge (getD_ge d_graph_Edge (by first | exact Nat.le_refl _ | exact Nat.zero_le _ | (simp only [decide_eq_true_eq, List.length_set, List.length_append, List.length_replicate, List.length_cons, List.length_nil, Nat.zero_add] at * <;> omega)))) (by rw [List.take_of_length_le (by first | exact Nat.le_refl _ | exact Nat.zero_le _ | (simp only [decide_eq_true_eq, List.length_set, List.length_append, List.length_replicate, List.length_cons, List.length_nil, Nat.zero_add] at * <;> omega))])) <| pk <| pz) (ih (x0 ++ ([graph_Edge.mk x2 (List.getD x1 (Int.toNat x7) 0)])) (iAdd x7 1) _ h)
 · have h := Option.some.inj h; subst h
   exact plast mixed lives 44 (by kernel_rfl) (pk <| pb c6 <| pz) rfl
noncomputable def graph_Edges_l3_c : Code := sub (codeOf Try.prog 44) [1, 1, 0, 1, 0, 0]
def graph_Edges_l3 (x0 : List graph_Edge) (x1 : List api_Node) (x2 : Int) (x3 : Int) : Option ((List graph_Edge)) :=
  if (decide ((x3 : Int) < x2)) = true then
    if (decide ((0 : Int) ≤ x3)) = true then
      if (decide ((x3 : Int) < ((List.length x1 : Nat) : Int))) = true then
        bind (prog_Succ (List.getD x1 (Int.toNat x3) d_api_Node)) fun v4 =>
        bind (graph_Edges_l6 x0 v4 x3 x1 x2 x3 ((((List.length v4) : Nat) : Int)) 0) fun v10 =>
        graph_Edges_l3 v10 x1 x2 (iAdd x3 1)
      else none
    else none
  else
    some x0
partial_fixpoint
noncomputable abbrev graph_Edges_l3_s (x0 : List graph_Edge) (x1 : List api_Node) (x2 : Int) (x3 : Int) : St := ⟨dead :: dead :: dead :: .ms 0 [] 0 (List.length x0) :: (List.replicate 4 dead ++ (.pv (.seq (List.length x1) (encP e_api_Node d_api_Node x1)) :: .pv (.int .i64 x2) :: .pv (.int .i64 x3) :: List.replicate 20 dead)), [.arr 0 2 (List.length x0) (encW o_graph_Edge d_graph_Edge x0)]⟩
noncomputable abbrev graph_Edges_l3_e (x0 : List graph_Edge) (x1 : List api_Node) (x2 : Int) (x3 : Int) (r : (List graph_Edge)) : St := ⟨dead :: dead :: dead :: .ms 0 [] 0 (List.length r) :: List.replicate 27 dead, [.arr 0 2 (List.length r) (encW o_graph_Edge d_graph_Edge r)]⟩
theorem graph_Edges_l3_ok (x0 : List graph_Edge) (x1 : List api_Node) (x2 : Int) (x3 : Int) (r : (List graph_Edge)) (h : graph_Edges_l3 x0 x1 x2 x3 = some r) : Loops Try.prog graph_Edges_l3_c 0 (graph_Edges_l3_s x0 x1 x2 x3) (.exit 0) (graph_Edges_l3_e x0 x1 x2 x3 r) := by
 refine graph_Edges_l3.partial_correctness x1 x2 (fun x0 x3 r => Loops Try.prog graph_Edges_l3_c 0 (graph_Edges_l3_s x0 x1 x2 x3) (.exit 0) (graph_Edges_l3_e x0 x1 x2 x3 r)) ?_ x0 x3 r h
 clear h r x0 x3
 intro self ih x0 x3 r h
 rcases if_of h with ⟨c1, h⟩ | ⟨c1, h⟩
 · obtain ⟨c2, h⟩ := need_of h
   obtain ⟨c3, h⟩ := need_of h
   obtain ⟨v4, h5, h⟩ := bind_of h
   obtain ⟨v10, h11, h⟩ := bind_of h
   exact pmore mixed lives 44 (by kernel_rfl) (pk <| pb c1 <| pn c2 <| pn c3 <| pk4 <| pc (prog_Succ_ok _ _ h5) <| pk2 <| pl (graph_Edges_l6_ok _ _ _ _ _ _ _ _ _ h11) <| pk <| pz) (ih v10 (iAdd x3 1) _ h)
 · have h := Option.some.inj h; subst h
   exact plast mixed lives 44 (by kernel_rfl) (pk <| pb c1 <| pz) rfl
/-- alibi/graph.Edges -/
def graph_Edges (l : List api_Node) : Option ((List graph_Edge)) :=
  bind (graph_Edges_l3 (([] : List graph_Edge)) l (((List.length l : Nat) : Int)) 0) fun v12 =>
  some v12
theorem graph_Edges_ok (l : List api_Node) (r : (List graph_Edge)) (h : graph_Edges l = some r) : Does Try.prog 44 [.pv (.seq (List.length l) (encP e_api_Node d_api_Node l))] [] (.ms 0 [] 0 (List.length r), [.arr 0 2 (List.length r) (encW o_graph_Edge d_graph_Edge r)]) := by
 unfold graph_Edges at h
 obtain ⟨v12, h13, h⟩ := bind_of h
 have h := Option.some.inj h; subst h
 exact pdoes mixed (L := lives) (by kernel_rfl) (pk <| pl (Loops.of (s1 := ⟨dead :: dead :: dead :: .ms 0 [] 0 (List.length ([] : List graph_Edge)) :: (List.replicate 4 dead ++ (.pv (.seq (List.length l) (encP e_api_Node d_api_Node l)) :: .pv (.int .i64 (((List.length l : Nat) : Int))) :: .pv (.int .i64 0) :: List.replicate 20 dead)), [.arr 0 2 (List.length ([] : List graph_Edge)) (encW o_graph_Edge d_graph_Edge (([] : List graph_Edge)))]⟩) (graph_Edges_l3_ok _ _ _ _ _ h13) (by (first | rfl | (simp only [graph_Edges_l3_s, List.length_set]; done)))) <| pz)
/-- alibi/alibiref05.Succ -/
def alibiref05_Succ (n1 : api_Node) : Option ((List Int)) :=
  if ((n1.kind : Int) == 9) = true then
    some (([] : List Int))
  else
    if ((n1.kind : Int) == 8) = true then
      some ([n1.next, n1.alt])
    else
      some ([n1.next])
theorem alibiref05_Succ_ok (n1 : api_Node) (r : (List Int)) (h : alibiref05_Succ n1 = some r) : Does Try.prog 45 [.agg [.pv (.int .i64 n1.kind), .pv (.int .i64 n1.arg), .pv (.int .i64 n1.next), .pv (.int .i64 n1.alt)]] [] (.ms 0 [] 0 (List.length r), [.arr 0 1 (List.length r) (encW o_i64 0 r)]) := by
 unfold alibiref05_Succ at h
 rcases if_of h with ⟨c1, h⟩ | ⟨c1, h⟩
 · have h := Option.some.inj h; subst h
   refine Does.eq (pdoes mixed (L := lives) (r := (.ms 0 [] 0 (List.length ([] : List Int)), [.arr 0 1 (List.length ([] : List Int)) (encW o_i64 0 (([] : List Int)))])) (by kernel_rfl) (pk3 <| pb c1 <| pz)) ?_
   (first | rfl | (simp only [List.length_set]; done))
 · rcases if_of h with ⟨c2, h⟩ | ⟨c2, h⟩
   · have h := Option.some.inj h; subst h
     exact pdoes mixed (L := lives) (by kernel_rfl) (pk3 <| pb c1 <| pk2 <| pb c2 <| pk2 <| pe (eff_lit o_i64 0 1 1 2 ([n1.next, n1.alt]) rfl [] []) <| pz)
   · have h := Option.some.inj h; subst h
     exact pdoes mixed (L := lives) (by kernel_rfl) (pk3 <| pb c1 <| pk2 <| pb c2 <| pk <| pe (eff_lit o_i64 0 1 1 1 ([n1.next]) rfl [] []) <| pz)
noncomputable def alibilaw06_GraphNodes_l10_c : Code := sub (codeOf Try.prog 11) [1, 1, 1, 1, 0, 1, 0, 0, 1, 0, 0, 1, 1, 0, 0]
inductive alibilaw06_GraphNodes_l10_R where
  | x0 (v0 : Bool) (v1 : Int)
  | x1 (v0 : Int)
def alibilaw06_GraphNodes_l10_R.ex : alibilaw06_GraphNodes_l10_R → Ex
  | .x0 _ _ => .ret
  | .x1 _ => .exit 2
noncomputable def alibilaw06_GraphNodes_l10_R.st (x0 : List graph_Edge) (x1 : List Int) (x2 : List api_Node) (x3 : List Int) (x4 : Int) (x5 : Int) (x6 : Int) : alibilaw06_GraphNodes_l10_R → St
  | .x0 v0 v1 => ⟨.pv (.seq (List.length x2) (encP e_api_Node d_api_Node x2)) :: .pv (.seq (List.length x3) (encP e_i64 0 x3)) :: dead :: dead :: .pv (.bool v0) :: .ms 0 [] 0 (List.length x0) :: .pv (.int .i64 v1) :: .pv (.int .i64 x5) :: List.replicate 96 dead, [.arr 0 2 (List.length x0) (encW o_graph_Edge d_graph_Edge x0)]⟩
  | .x1 v0 => ⟨.pv (.seq (List.length x2) (encP e_api_Node d_api_Node x2)) :: .pv (.seq (List.length x3) (encP e_i64 0 x3)) :: dead :: dead :: dead :: .ms 0 [] 0 (List.length x0) :: .pv (.int .i64 v0) :: .pv (.int .i64 x5) :: List.replicate 96 dead, [.arr 0 2 (List.length x0) (encW o_graph_Edge d_graph_Edge x0)]⟩
def alibilaw06_GraphNodes_l10 (x0 : List graph_Edge) (x1 : List Int) (x2 : List api_Node) (x3 : List Int) (x4 : Int) (x5 : Int) (x6 : Int) : Option (alibilaw06_GraphNodes_l10_R) :=
  if (decide ((x6 : Int) < ((((List.length x1) : Nat) : Int)))) = true then
    if (decide ((x4 : Int) ≥ ((((List.length x0) : Nat) : Int)))) = true then
      some (.x0 false x4)
    else
      if (decide ((0 : Int) ≤ x4)) = true then
        if (decide ((x4 : Int) < (((List.length x0) : Nat) : Int))) = true then
          if ((((List.getD x0 (Int.toNat x4) d_graph_Edge).from_) : Int) != x5) = true then
            some (.x0 false x4)
          else
            if (decide ((0 : Int) ≤ x6)) = true then
              if (decide ((x6 : Int) < (((List.length x1) : Nat) : Int))) = true then
                if ((((List.getD x0 (Int.toNat x4) d_graph_Edge).to_) : Int) != (List.getD x1 (Int.toNat x6) 0)) = true then
                  some (.x0 false x4)
                else
                  alibilaw06_GraphNodes_l10 x0 x1 x2 x3 (iAdd x4 1) x5 (iAdd x6 1)
              else none
            else none
        else none
      else none
  else
    some (.x1 x4)
partial_fixpoint
noncomputable abbrev alibilaw06_GraphNodes_l10_s (x0 : List graph_Edge) (x1 : List Int) (x2 : List api_Node) (x3 : List Int) (x4 : Int) (x5 : Int) (x6 : Int) : St := ⟨.pv (.seq (List.length x2) (encP e_api_Node d_api_Node x2)) :: .pv (.seq (List.length x3) (encP e_i64 0 x3)) :: dead :: dead :: dead :: .ms 0 [] 0 (List.length x0) :: .pv (.int .i64 x4) :: .pv (.int .i64 x5) :: .ms 1 [] 0 (List.length x1) :: .pv (.int .i64 x6) :: List.replicate 94 dead, [.arr 0 2 (List.length x0) (encW o_graph_Edge d_graph_Edge x0), .arr 0 1 (List.length x1) (encW o_i64 0 x1)]⟩
theorem alibilaw06_GraphNodes_l10_ok (x0 : List graph_Edge) (x1 : List Int) (x2 : List api_Node) (x3 : List Int) (x4 : Int) (x5 : Int) (x6 : Int) (r : alibilaw06_GraphNodes_l10_R) (h : alibilaw06_GraphNodes_l10 x0 x1 x2 x3 x4 x5 x6 = some r) : Loops Try.prog alibilaw06_GraphNodes_l10_c 0 (alibilaw06_GraphNodes_l10_s x0 x1 x2 x3 x4 x5 x6) r.ex (alibilaw06_GraphNodes_l10_R.st x0 x1 x2 x3 x4 x5 x6 r) := by
 refine alibilaw06_GraphNodes_l10.partial_correctness x0 x1 x2 x3 x5 (fun x4 x6 r => Loops Try.prog alibilaw06_GraphNodes_l10_c 0 (alibilaw06_GraphNodes_l10_s x0 x1 x2 x3 x4 x5 x6) r.ex (alibilaw06_GraphNodes_l10_R.st x0 x1 x2 x3 x4 x5 x6 r)) ?_ x4 x6 r h
 clear h r x4 x6
 intro self ih x4 x6 r h
 rcases if_of h with ⟨c19, h⟩ | ⟨c19, h⟩
 · rcases if_of h with ⟨c20, h⟩ | ⟨c20, h⟩
   · have h := Option.some.inj h; subst h
     exact plast mixed lives 11 (by kernel_rfl) (pk2 <| pb c19 <| pk2 <| pb c20 <| pk8 <| pk8 <| pk3 <| pz) rfl
   · obtain ⟨c21, h⟩ := need_of h
     obtain ⟨c22, h⟩ := need_of h
     rcases if_of h with ⟨c23, h⟩ | ⟨c23, h⟩
     · have h := Option.some.inj h; subst h
       exact plast mixed lives 11 (by kernel_rfl) (pk2 <| pb c19 <| pk2 <| pb c20 <| pk2 <| pn c21 <| pn c22 <| pk7 <| pb c23 <| pk8 <| pk3 <| pz) rfl
     · obtain ⟨c24, h⟩ := need_of h
       obtain ⟨c25, h⟩ := need_of h
       rcases if_of h with ⟨c26, h⟩ | ⟨c26, h⟩
       · have h := Option.some.inj h; subst h
         exact plast mixed lives 11 (by kernel_rfl) (pk2 <| pb c19 <| pk2 <| pb c20 <| pk2 <| pn c21 <| pn c22 <| pk7 <| pb c23 <| pk2 <| pn c21 <| pn c22 <| pk6 <| pn c24 <| pn c25 <| pk5 <| pb c26 <| pz) rfl
       · exact pmore mixed lives 11 (by kernel_rfl) (pk2 <| pb c19 <| pk2 <| pb c20 <| pk2 <| pn c21 <| pn c22 <| pk7 <| pb c23 <| pk2 <| pn c21 <| pn c22 <| pk6 <| pn c24 <| pn c25 <| pk5 <| pb c26 <| pk2 <| pz) (ih (iAdd x4 1) (iAdd x6 1) _ h)
 · have h := Option.some.inj h; subst h
   exact plast mixed lives 11 (by kernel_rfl) (pk2 <| pb c19 <| pz) rfl
noncomputable def alibilaw06_GraphNodes_l6_c : Code := sub (codeOf Try.prog 11) [1, 1, 1, 1, 0, 1, 0, 0]
inductive alibilaw06_GraphNodes_l6_R where
  | x0 (v0 : Bool) (v1 : Int)
  | x1 (v0 : Int)
def alibilaw06_GraphNodes_l6_R.ex : alibilaw06_GraphNodes_l6_R → Ex
  | .x0 _ _ => .ret
  | .x1 _ => .exit 0
noncomputable def alibilaw06_GraphNodes_l6_R.st (x0 : List graph_Edge) (x1 : List api_Node) (x2 : List Int) (x3 : Int) (x4 : Int) : alibilaw06_GraphNodes_l6_R → St
  | .x0 v0 v1 => ⟨.pv (.seq (List.length x1) (encP e_api_Node d_api_Node x1)) :: .pv (.seq (List.length x2) (encP e_i64 0 x2)) :: dead :: dead :: .pv (.bool v0) :: .ms 0 [] 0 (List.length x0) :: .pv (.int .i64 v1) :: List.replicate 97 dead, [.arr 0 2 (List.length x0) (encW o_graph_Edge d_graph_Edge x0)]⟩
  | .x1 v0 => ⟨.pv (.seq (List.length x1) (encP e_api_Node d_api_Node x1)) :: .pv (.seq (List.length x2) (encP e_i64 0 x2)) :: dead :: dead :: dead :: .ms 0 [] 0 (List.length x0) :: .pv (.int .i64 v0) :: List.replicate 97 dead, [.arr 0 2 (List.length x0) (encW o_graph_Edge d_graph_Edge x0)]⟩
def alibilaw06_GraphNodes_l6 (x0 : List graph_Edge) (x1 : List api_Node) (x2 : List Int) (x3 : Int) (x4 : Int) : Option (alibilaw06_GraphNodes_l6_R) :=
  if (decide ((x4 : Int) < (((List.length x1 : Nat) : Int)))) = true then
    if (decide ((0 : Int) ≤ x4)) = true then
      if (decide ((x4 : Int) < ((List.length x1 : Nat) : Int))) = true then
        bind (alibiref05_Succ (List.getD x1 (Int.toNat x4) d_api_Node)) fun v17 =>
        bind (alibilaw06_GraphNodes_l10 x0 v17 x1 x2 x3 x4 0) fun q => match q with
          | .x0 v27 v28 =>
            some (.x0 v27 v28)
          | .x1 v30 =>
            alibilaw06_GraphNodes_l6 x0 x1 x2 v30 (iAdd x4 1)
      else none
    else none
  else
    some (.x1 x3)
partial_fixpoint
noncomputable abbrev alibilaw06_GraphNodes_l6_s (x0 : List graph_Edge) (x1 : List api_Node) (x2 : List Int) (x3 : Int) (x4 : Int) : St := ⟨.pv (.seq (List.length x1) (encP e_api_Node d_api_Node x1)) :: .pv (.seq (List.length x2) (encP e_i64 0 x2)) :: dead :: dead :: dead :: .ms 0 [] 0 (List.length x0) :: .pv (.int .i64 x3) :: .pv (.int .i64 x4) :: List.replicate 96 dead, [.arr 0 2 (List.length x0) (encW o_graph_Edge d_graph_Edge x0)]⟩
theorem alibilaw06_GraphNodes_l6_ok (x0 : List graph_Edge) (x1 : List api_Node) (x2 : List Int) (x3 : Int) (x4 : Int) (r : alibilaw06_GraphNodes_l6_R) (h : alibilaw06_GraphNodes_l6 x0 x1 x2 x3 x4 = some r) : Loops Try.prog alibilaw06_GraphNodes_l6_c 0 (alibilaw06_GraphNodes_l6_s x0 x1 x2 x3 x4) r.ex (alibilaw06_GraphNodes_l6_R.st x0 x1 x2 x3 x4 r) := by
 refine alibilaw06_GraphNodes_l6.partial_correctness x0 x1 x2 (fun x3 x4 r => Loops Try.prog alibilaw06_GraphNodes_l6_c 0 (alibilaw06_GraphNodes_l6_s x0 x1 x2 x3 x4) r.ex (alibilaw06_GraphNodes_l6_R.st x0 x1 x2 x3 x4 r)) ?_ x3 x4 r h
 clear h r x3 x4
 intro self ih x3 x4 r h
 rcases if_of h with ⟨c14, h⟩ | ⟨c14, h⟩
 · obtain ⟨c15, h⟩ := need_of h
   obtain ⟨c16, h⟩ := need_of h
   obtain ⟨v17, h18, h⟩ := bind_of h
   obtain ⟨q, hq, h⟩ := bind_of h
   cases q with
   | x0 v27 v28 =>
    have h29 := hq; clear hq
    try dsimp only at h
    have h := Option.some.inj h; subst h
    exact plast mixed lives 11 (by kernel_rfl) (pk2 <| pb c14 <| pn c15 <| pn c16 <| pk <| pc (alibiref05_Succ_ok _ _ h18) <| pk <| pl (alibilaw06_GraphNodes_l10_ok _ _ _ _ _ _ _ _ h29) <| pz) rfl
   | x1 v30 =>
    have h31 := hq; clear hq
    try dsimp only at h
    exact pmore mixed lives 11 (by kernel_rfl) (pk2 <| pb c14 <| pn c15 <| pn c16 <| pk <| pc (alibiref05_Succ_ok _ _ h18) <| pk <| pl (alibilaw06_GraphNodes_l10_ok _ _ _ _ _ _ _ _ h31) <| pk <| pz) (ih v30 (iAdd x4 1) _ h)
 · have h := Option.some.inj h; subst h
   exact plast mixed lives 11 (by kernel_rfl) (pk2 <| pb c14 <| pz) rfl
noncomputable def alibiref06_After_l11_c : Code := sub (codeOf Try.prog 46) [1, 1, 0, 1, 0, 0, 1, 0, 0, 1, 0, 0, 1, 0, 0, 1, 1, 1, 0, 0]
def alibiref06_After_l11 (x0 : List Bool) (x1 : List Int) (x2 : List api_Node) (x3 : List Int) (x4 : Int) (x5 : Int) (x6 : Int) : Option ((List Bool)) :=
  if (decide ((x6 : Int) < ((((List.length x1) : Nat) : Int)))) = true then
    if (decide ((0 : Int) ≤ x6)) = true then
      if (decide ((x6 : Int) < (((List.length x1) : Nat) : Int))) = true then
        if (decide (((List.getD x1 (Int.toNat x6) 0) : Int) ≥ 0)) = true then
          if (decide (((List.getD x1 (Int.toNat x6) 0) : Int) < (((List.length x2 : Nat) : Int)))) = true then
            if (decide ((0 : Int) ≤ (List.getD x1 (Int.toNat x6) 0))) = true then
              if (decide (((List.getD x1 (Int.toNat x6) 0) : Int) < (((List.length x0) : Nat) : Int))) = true then
                alibiref06_After_l11 (List.set x0 (Int.toNat (List.getD x1 (Int.toNat x6) 0)) true) x1 x2 x3 x4 x5 (iAdd x6 1)
              else none
            else none
          else
            alibiref06_After_l11 x0 x1 x2 x3 x4 x5 (iAdd x6 1)
        else
          alibiref06_After_l11 x0 x1 x2 x3 x4 x5 (iAdd x6 1)
      else none
    else none
  else
    some x0
partial_fixpoint
noncomputable abbrev alibiref06_After_l11_s (x0 : List Bool) (x1 : List Int) (x2 : List api_Node) (x3 : List Int) (x4 : Int) (x5 : Int) (x6 : Int) : St := ⟨.pv (.seq (List.length x2) (encP e_api_Node d_api_Node x2)) :: .pv (.seq (List.length x3) (encP e_i64 0 x3)) :: dead :: dead :: dead :: .ms 0 [] 0 (List.length x0) :: .pv (.int .i64 x4) :: .pv (.int .i64 x5) :: .ms 1 [] 0 (List.length x1) :: .pv (.int .i64 x6) :: List.replicate 58 dead, [.arr 0 1 (List.length x0) (encW o_bool false x0), .arr 0 1 (List.length x1) (encW o_i64 0 x1)]⟩
noncomputable abbrev alibiref06_After_l11_e (x0 : List Bool) (x1 : List Int) (x2 : List api_Node) (x3 : List Int) (x4 : Int) (x5 : Int) (x6 : Int) (r : (List Bool)) : St := ⟨.pv (.seq (List.length x2) (encP e_api_Node d_api_Node x2)) :: .pv (.seq (List.length x3) (encP e_i64 0 x3)) :: dead :: dead :: dead :: .ms 0 [] 0 (List.length r) :: .pv (.int .i64 x4) :: .pv (.int .i64 x5) :: List.replicate 60 dead, [.arr 0 1 (List.length r) (encW o_bool false r)]⟩
theorem alibiref06_After_l11_ok (x0 : List Bool) (x1 : List Int) (x2 : List api_Node) (x3 : List Int) (x4 : Int) (x5 : Int) (x6 : Int) (r : (List Bool)) (h : alibiref06_After_l11 x0 x1 x2 x3 x4 x5 x6 = some r) : Loops Try.prog alibiref06_After_l11_c 0 (alibiref06_After_l11_s x0 x1 x2 x3 x4 x5 x6) (.exit 4) (alibiref06_After_l11_e x0 x1 x2 x3 x4 x5 x6 r) := by
 refine alibiref06_After_l11.partial_correctness x1 x2 x3 x4 x5 (fun x0 x6 r => Loops Try.prog alibiref06_After_l11_c 0 (alibiref06_After_l11_s x0 x1 x2 x3 x4 x5 x6) (.exit 4) (alibiref06_After_l11_e x0 x1 x2 x3 x4 x5 x6 r)) ?_ x0 x6 r h
 clear h r x0 x6
 intro self ih x0 x6 r h
 rcases if_of h with ⟨c14, h⟩ | ⟨c14, h⟩
 · obtain ⟨c15, h⟩ := need_of h
   obtain ⟨c16, h⟩ := need_of h
   rcases if_of h with ⟨c17, h⟩ | ⟨c17, h⟩
   · rcases if_of h with ⟨c18, h⟩ | ⟨c18, h⟩
     · obtain ⟨c19, h⟩ := need_of h
       obtain ⟨c20, h⟩ := need_of h
       exact pmore mixed lives 46 (by kernel_rfl) (pk2 <| pb c14 <| pn c15 <| pn c16 <| pk2 <| pb c17 <| pk2 <| pn c15 <| pn c16 <| pk8 <| pb c18 <| pn c15 <| pn c16 <| pk <| pn c19 <| pn c20 <| pt <| pe (eff_hb (v := dead) (b := 0) (hb := []) (sc := []) (put_top o_bool false 0 1 (List.length x0) x0 (Int.toNat (List.getD x1 (Int.toNat x6) 0)) 0 [.pv (.bool true)] true (by kernel_rfl) (by first | exact Nat.le_refl _ | exact Nat.zero_le _ | (simp only [decide_eq_true_eq, List.length_set, List.length_append, List.length_replicate, List.length_cons, List.length_nil, Nat.zero_add] at * <;> omega)))) <| pk <| pz) (Loops.of (s1 := ⟨.pv (.seq (List.length x2) (encP e_api_Node d_api_Node x2)) :: .pv (.seq (List.length x3) (encP e_i64 0 x3)) :: dead :: dead :: dead :: .ms 0 [] 0 (List.length x0) :: .pv (.int .i64 x4) :: .pv (.int .i64 x5) :: .ms 1 [] 0 (List.length x1) :: .pv (.int .i64 (iAdd x6 1)) :: List.replicate 58 dead, [.arr 0 1 (List.length x0) (encW o_bool false (List.set x0 (Int.toNat (List.getD x1 (Int.toNat x6) 0)) true)), .arr 0 1 (List.length x1) (encW o_i64 0 x1)]⟩) (ih (List.set x0 (Int.toNat (List.getD x1 (Int.toNat x6) 0)) true) (iAdd x6 1) _ h) (by (first | rfl | (simp only [alibiref06_After_l11_s, List.length_set]; done))))
     · exact pmore mixed lives 46 (by kernel_rfl) (pk2 <| pb c14 <| pn c15 <| pn c16 <| pk2 <| pb c17 <| pk2 <| pn c15 <| pn c16 <| pk8 <| pb c18 <| pk <| pz) (ih x0 (iAdd x6 1) _ h)
   · exact pmore mixed lives 46 (by kernel_rfl) (pk2 <| pb c14 <| pn c15 <| pn c16 <| pk2 <| pb c17 <| pk8 <| pk <| pz) (ih x0 (iAdd x6 1) _ h)
 · have h := Option.some.inj h; subst h
   exact plast mixed lives 46 (by kernel_rfl) (pk2 <| pb c14 <| pz) rfl
noncomputable def alibiref06_After_l6_c : Code := sub (codeOf Try.prog 46) [1, 1, 0, 1, 0, 0, 1, 0, 0, 1, 0, 0]
def alibiref06_After_l6 (x0 : List Bool) (x1 : List api_Node) (x2 : List Int) (x3 : Int) (x4 : Int) : Option ((List Bool)) :=
  if (decide ((x4 : Int) < (((List.length x1 : Nat) : Int)))) = true then
    bind (alibiref06_has x2 x4) fun v5 =>
    if (!v5) = true then
      if (decide ((0 : Int) ≤ x4)) = true then
        if (decide ((x4 : Int) < (((List.length x0) : Nat) : Int))) = true then
          if (!(List.getD x0 (Int.toNat x4) false)) = true then
            alibiref06_After_l6 x0 x1 x2 x3 (iAdd x4 1)
          else
            if (decide ((x4 : Int) < ((List.length x1 : Nat) : Int))) = true then
              bind (alibiref05_Succ (List.getD x1 (Int.toNat x4) d_api_Node)) fun v12 =>
              bind (alibiref06_After_l11 x0 v12 x1 x2 x3 x4 0) fun v21 =>
              alibiref06_After_l6 v21 x1 x2 x3 (iAdd x4 1)
            else none
        else none
      else none
    else
      if (decide ((0 : Int) ≤ x4)) = true then
        if (decide ((x4 : Int) < ((List.length x1 : Nat) : Int))) = true then
          bind (alibiref05_Succ (List.getD x1 (Int.toNat x4) d_api_Node)) fun v25 =>
          bind (alibiref06_After_l11 x0 v25 x1 x2 x3 x4 0) fun v27 =>
          alibiref06_After_l6 v27 x1 x2 x3 (iAdd x4 1)
        else none
      else none
  else
    some x0
partial_fixpoint
noncomputable abbrev alibiref06_After_l6_s (x0 : List Bool) (x1 : List api_Node) (x2 : List Int) (x3 : Int) (x4 : Int) : St := ⟨.pv (.seq (List.length x1) (encP e_api_Node d_api_Node x1)) :: .pv (.seq (List.length x2) (encP e_i64 0 x2)) :: dead :: dead :: dead :: .ms 0 [] 0 (List.length x0) :: .pv (.int .i64 x3) :: .pv (.int .i64 x4) :: List.replicate 60 dead, [.arr 0 1 (List.length x0) (encW o_bool false x0)]⟩
noncomputable abbrev alibiref06_After_l6_e (x0 : List Bool) (x1 : List api_Node) (x2 : List Int) (x3 : Int) (x4 : Int) (r : (List Bool)) : St := ⟨.pv (.seq (List.length x1) (encP e_api_Node d_api_Node x1)) :: .pv (.seq (List.length x2) (encP e_i64 0 x2)) :: dead :: dead :: dead :: .ms 0 [] 0 (List.length r) :: .pv (.int .i64 x3) :: List.replicate 61 dead, [.arr 0 1 (List.length r) (encW o_bool false r)]⟩
theorem alibiref06_After_l6_ok (x0 : List Bool) (x1 : List api_Node) (x2 : List Int) (x3 : Int) (x4 : Int) (r : (List Bool)) (h : alibiref06_After_l6 x0 x1 x2 x3 x4 = some r) : Loops Try.prog alibiref06_After_l6_c 0 (alibiref06_After_l6_s x0 x1 x2 x3 x4) (.exit 2) (alibiref06_After_l6_e x0 x1 x2 x3 x4 r) := by
 refine alibiref06_After_l6.partial_correctness x1 x2 x3 (fun x0 x4 r => Loops Try.prog alibiref06_After_l6_c 0 (alibiref06_After_l6_s x0 x1 x2 x3 x4) (.exit 2) (alibiref06_After_l6_e x0 x1 x2 x3 x4 r)) ?_ x0 x4 r h
 clear h r x0 x4
 intro self ih x0 x4 r h
 rcases if_of h with ⟨c4, h⟩ | ⟨c4, h⟩
 · obtain ⟨v5, h6, h⟩ := bind_of h
   rcases if_of h with ⟨c7, h⟩ | ⟨c7, h⟩
   · obtain ⟨c8, h⟩ := need_of h
     obtain ⟨c9, h⟩ := need_of h
     rcases if_of h with ⟨c10, h⟩ | ⟨c10, h⟩
     · exact pmore mixed lives 46 (by kernel_rfl) (pk2 <| pb c4 <| pc (alibiref06_has_ok _ _ _ h6) <| pk2 <| pb c7 <| pk2 <| pn c8 <| pn c9 <| pk5 <| pb c10 <| pk <| pz) (ih x0 (iAdd x4 1) _ h)
     · obtain ⟨c11, h⟩ := need_of h
       obtain ⟨v12, h13, h⟩ := bind_of h
       obtain ⟨v21, h22, h⟩ := bind_of h
       exact pmore mixed lives 46 (by kernel_rfl) (pk2 <| pb c4 <| pc (alibiref06_has_ok _ _ _ h6) <| pk2 <| pb c7 <| pk2 <| pn c8 <| pn c9 <| pk5 <| pb c10 <| pn c8 <| pn c11 <| pk <| pc (alibiref05_Succ_ok _ _ h13) <| pk <| pl (alibiref06_After_l11_ok _ _ _ _ _ _ _ _ h22) <| pk <| pz) (ih v21 (iAdd x4 1) _ h)
   · obtain ⟨c23, h⟩ := need_of h
     obtain ⟨c24, h⟩ := need_of h
     obtain ⟨v25, h26, h⟩ := bind_of h
     obtain ⟨v27, h28, h⟩ := bind_of h
     exact pmore mixed lives 46 (by kernel_rfl) (pk2 <| pb c4 <| pc (alibiref06_has_ok _ _ _ h6) <| pk2 <| pb c7 <| pk6 <| pn c23 <| pn c24 <| pk <| pc (alibiref05_Succ_ok _ _ h26) <| pk <| pl (alibiref06_After_l11_ok _ _ _ _ _ _ _ _ h28) <| pk <| pz) (ih v27 (iAdd x4 1) _ h)
 · have h := Option.some.inj h; subst h
   exact plast mixed lives 46 (by kernel_rfl) (pk2 <| pb c4 <| pz) rfl
noncomputable def alibiref06_After_l3_c : Code := sub (codeOf Try.prog 46) [1, 1, 0, 1, 0, 0]
def alibiref06_After_l3 (x0 : List Bool) (x1 : List api_Node) (x2 : List Int) (x3 : Int) : Option ((List Bool)) :=
  if (decide ((x3 : Int) ≤ (((List.length x1 : Nat) : Int)))) = true then
    bind (alibiref06_After_l6 x0 x1 x2 x3 0) fun v29 =>
    alibiref06_After_l3 v29 x1 x2 (iAdd x3 1)
  else
    some x0
partial_fixpoint
noncomputable abbrev alibiref06_After_l3_s (x0 : List Bool) (x1 : List api_Node) (x2 : List Int) (x3 : Int) : St := ⟨.pv (.seq (List.length x1) (encP e_api_Node d_api_Node x1)) :: .pv (.seq (List.length x2) (encP e_i64 0 x2)) :: dead :: dead :: dead :: .ms 0 [] 0 (List.length x0) :: .pv (.int .i64 x3) :: List.replicate 61 dead, [.arr 0 1 (List.length x0) (encW o_bool false x0)]⟩
noncomputable abbrev alibiref06_After_l3_e (x0 : List Bool) (x1 : List api_Node) (x2 : List Int) (x3 : Int) (r : (List Bool)) : St := ⟨(List.replicate 5 dead ++ (.ms 0 [] 0 (List.length r) :: List.replicate 62 dead)), [.arr 0 1 (List.length r) (encW o_bool false r)]⟩
theorem alibiref06_After_l3_ok (x0 : List Bool) (x1 : List api_Node) (x2 : List Int) (x3 : Int) (r : (List Bool)) (h : alibiref06_After_l3 x0 x1 x2 x3 = some r) : Loops Try.prog alibiref06_After_l3_c 0 (alibiref06_After_l3_s x0 x1 x2 x3) (.exit 0) (alibiref06_After_l3_e x0 x1 x2 x3 r) := by
 refine alibiref06_After_l3.partial_correctness x1 x2 (fun x0 x3 r => Loops Try.prog alibiref06_After_l3_c 0 (alibiref06_After_l3_s x0 x1 x2 x3) (.exit 0) (alibiref06_After_l3_e x0 x1 x2 x3 r)) ?_ x0 x3 r h
 clear h r x0 x3
 intro self ih x0 x3 r h
 rcases if_of h with ⟨c3, h⟩ | ⟨c3, h⟩
 · obtain ⟨v29, h30, h⟩ := bind_of h
   exact pmore mixed lives 46 (by kernel_rfl) (pk2 <| pb c3 <| pl (alibiref06_After_l6_ok _ _ _ _ _ _ h30) <| pk <| pz) (ih v29 (iAdd x3 1) _ h)
 · have h := Option.some.inj h; subst h
   exact plast mixed lives 46 (by kernel_rfl) (pk2 <| pb c3 <| pz) rfl
/-- alibi/alibiref06.After -/
def alibiref06_After (l : List api_Node) (from_ : List Int) : Option ((List Bool)) :=
  if (decide ((0 : Int) ≤ (((List.length l : Nat) : Int)))) = true then
    if (decide (((((List.length l : Nat) : Int)) : Int) * ((1 : Nat) : Int) ≤ ((reach : Nat) : Int))) = true then
      bind (alibiref06_After_l3 (List.replicate (Int.toNat (((List.length l : Nat) : Int))) false) l from_ 0) fun v31 =>
      some v31
    else none
  else none
theorem alibiref06_After_ok (l : List api_Node) (from_ : List Int) (r : (List Bool)) (h : alibiref06_After l from_ = some r) : Does Try.prog 46 [.pv (.seq (List.length l) (encP e_api_Node d_api_Node l)), .pv (.seq (List.length from_) (encP e_i64 0 from_))] [] (.ms 0 [] 0 (List.length r), [.arr 0 1 (List.length r) (encW o_bool false r)]) := by
 unfold alibiref06_After at h
 obtain ⟨c1, h⟩ := need_of h
 obtain ⟨c2, h⟩ := need_of h
 obtain ⟨v31, h32, h⟩ := bind_of h
 have h := Option.some.inj h; subst h
 exact pdoes mixed (L := lives) (by kernel_rfl) (pk <| pn c1 <| pn ((decide_eq_true rfl) : (decide (((((List.length l : Nat) : Int)) : Int) = (((List.length l : Nat) : Int)))) = true) <| pn c2 <| pe (eff_make o_bool false 0 1 (Int.toNat (((List.length l : Nat) : Int)))) <| pl (alibiref06_After_l3_ok _ _ _ _ _ h32) <| pz)
noncomputable def alibilaw06_GraphNodes_l19_c : Code := sub (codeOf Try.prog 11) [1, 1, 1, 1, 1, 1, 1, 0, 1, 0, 0]
inductive alibilaw06_GraphNodes_l19_R where
  | x0 (v0 : Bool)
  | x1
def alibilaw06_GraphNodes_l19_R.ex : alibilaw06_GraphNodes_l19_R → Ex
  | .x0 _ => .ret
  | .x1 => .exit 4
noncomputable def alibilaw06_GraphNodes_l19_R.st (x0 : List Bool) (x1 : List Bool) (x2 : Int) : alibilaw06_GraphNodes_l19_R → St
  | .x0 v0 => ⟨(List.replicate 4 dead ++ (.pv (.bool v0) :: List.replicate 99 dead)), []⟩
  | .x1 => ⟨List.replicate 104 dead, []⟩
def alibilaw06_GraphNodes_l19 (x0 : List Bool) (x1 : List Bool) (x2 : Int) : Option (alibilaw06_GraphNodes_l19_R) :=
  if (decide ((x2 : Int) < ((((List.length x0) : Nat) : Int)))) = true then
    if (decide ((0 : Int) ≤ x2)) = true then
      if (decide ((x2 : Int) < (((List.length x0) : Nat) : Int))) = true then
        if (decide ((x2 : Int) < (((List.length x1) : Nat) : Int))) = true then
          if (!((List.getD x0 (Int.toNat x2) false) == (List.getD x1 (Int.toNat x2) false))) = true then
            some (.x0 false)
          else
            alibilaw06_GraphNodes_l19 x0 x1 (iAdd x2 1)
        else none
      else none
    else none
  else
    some (.x1)
partial_fixpoint
noncomputable abbrev alibilaw06_GraphNodes_l19_s (x0 : List Bool) (x1 : List Bool) (x2 : Int) : St := ⟨(List.replicate 10 dead ++ (.ms 0 [] 0 (List.length x0) :: .ms 1 [] 0 (List.length x1) :: .pv (.int .i64 x2) :: List.replicate 91 dead)), [.arr 0 1 (List.length x0) (encW o_bool false x0), .arr 0 1 (List.length x1) (encW o_bool false x1)]⟩
theorem alibilaw06_GraphNodes_l19_ok (x0 : List Bool) (x1 : List Bool) (x2 : Int) (r : alibilaw06_GraphNodes_l19_R) (h : alibilaw06_GraphNodes_l19 x0 x1 x2 = some r) : Loops Try.prog alibilaw06_GraphNodes_l19_c 0 (alibilaw06_GraphNodes_l19_s x0 x1 x2) r.ex (alibilaw06_GraphNodes_l19_R.st x0 x1 x2 r) := by
 refine alibilaw06_GraphNodes_l19.partial_correctness x0 x1 (fun x2 r => Loops Try.prog alibilaw06_GraphNodes_l19_c 0 (alibilaw06_GraphNodes_l19_s x0 x1 x2) r.ex (alibilaw06_GraphNodes_l19_R.st x0 x1 x2 r)) ?_ x2 r h
 clear h r x2
 intro self ih x2 r h
 rcases if_of h with ⟨c43, h⟩ | ⟨c43, h⟩
 · obtain ⟨c44, h⟩ := need_of h
   obtain ⟨c45, h⟩ := need_of h
   obtain ⟨c46, h⟩ := need_of h
   rcases if_of h with ⟨c47, h⟩ | ⟨c47, h⟩
   · have h := Option.some.inj h; subst h
     exact plast mixed lives 11 (by kernel_rfl) (pk2 <| pb c43 <| pn c44 <| pn c45 <| pk <| pn c44 <| pn c46 <| pk2 <| pb c47 <| pz) rfl
   · exact pmore mixed lives 11 (by kernel_rfl) (pk2 <| pb c43 <| pn c44 <| pn c45 <| pk <| pn c44 <| pn c46 <| pk2 <| pb c47 <| pk <| pz) (ih (iAdd x2 1) _ h)
 · have h := Option.some.inj h; subst h
   exact plast mixed lives 11 (by kernel_rfl) (pk2 <| pb c43 <| pz) rfl
/-- alibi/alibilaw06.GraphNodes -/
def alibilaw06_GraphNodes (l : List api_Node) (from_ : List Int) : Option (Bool) :=
  bind (alibilaw06_awake) fun v1 =>
  if (!v1) = true then
    bind (alibilaw06_awake) fun v4 =>
    some v4
  else
    if (decide (((((List.length l : Nat) : Int)) : Int) > 100)) = true then
      bind (alibilaw06_awake) fun v7 =>
      some v7
    else
      if (decide (((((List.length from_ : Nat) : Int)) : Int) > 100)) = true then
        bind (alibilaw06_awake) fun v10 =>
        some v10
      else
        bind (graph_Edges l) fun v12 =>
        bind (alibilaw06_GraphNodes_l6 v12 l from_ 0 0) fun q => match q with
          | .x0 v32 v33 =>
            some v32
          | .x1 v35 =>
            bind (graph_After l from_) fun v37 =>
            bind (alibiref06_After l from_) fun v39 =>
            if ((v35 : Int) != ((((List.length v12) : Nat) : Int))) = true then
              some false
            else
              if ((((((List.length v37) : Nat) : Int)) : Int) != ((((List.length v39) : Nat) : Int))) = true then
                some false
              else
                bind (alibilaw06_GraphNodes_l19 v37 v39 0) fun q => match q with
                  | .x0 v48 =>
                    some v48
                  | .x1 =>
                    some true
theorem alibilaw06_GraphNodes_ok (l : List api_Node) (from_ : List Int) (r : Bool) (h : alibilaw06_GraphNodes l from_ = some r) : Does Try.prog 11 [.pv (.seq (List.length l) (encP e_api_Node d_api_Node l)), .pv (.seq (List.length from_) (encP e_i64 0 from_))] [] (.pv (.bool r), []) := by
 unfold alibilaw06_GraphNodes at h
 obtain ⟨v1, h2, h⟩ := bind_of h
 rcases if_of h with ⟨c3, h⟩ | ⟨c3, h⟩
 · obtain ⟨v4, h5, h⟩ := bind_of h
   have h := Option.some.inj h; subst h
   exact pdoes mixed (L := lives) (by kernel_rfl) (pc (alibilaw06_awake_ok _ h2) <| pk2 <| pb c3 <| pk8 <| pc (alibilaw06_awake_ok _ h5) <| pk <| pz)
 · rcases if_of h with ⟨c6, h⟩ | ⟨c6, h⟩
   · obtain ⟨v7, h8, h⟩ := bind_of h
     have h := Option.some.inj h; subst h
     exact pdoes mixed (L := lives) (by kernel_rfl) (pc (alibilaw06_awake_ok _ h2) <| pk2 <| pb c3 <| pk5 <| pb c6 <| pk4 <| pc (alibilaw06_awake_ok _ h8) <| pk <| pz)
   · rcases if_of h with ⟨c9, h⟩ | ⟨c9, h⟩
     · obtain ⟨v10, h11, h⟩ := bind_of h
       have h := Option.some.inj h; subst h
       exact pdoes mixed (L := lives) (by kernel_rfl) (pc (alibilaw06_awake_ok _ h2) <| pk2 <| pb c3 <| pk5 <| pb c6 <| pk5 <| pb c9 <| pc (alibilaw06_awake_ok _ h11) <| pk <| pz)
     · obtain ⟨v12, h13, h⟩ := bind_of h
       obtain ⟨q, hq, h⟩ := bind_of h
       cases q with
       | x0 v32 v33 =>
        have h34 := hq; clear hq
        try dsimp only at h
        have h := Option.some.inj h; subst h
        exact pdoes mixed (L := lives) (by kernel_rfl) (pc (alibilaw06_awake_ok _ h2) <| pk2 <| pb c3 <| pk5 <| pb c6 <| pk5 <| pb c9 <| pc (graph_Edges_ok _ _ h13) <| pk <| pl (alibilaw06_GraphNodes_l6_ok _ _ _ _ _ _ h34) <| pz)
       | x1 v35 =>
        have h36 := hq; clear hq
        try dsimp only at h
        obtain ⟨v37, h38, h⟩ := bind_of h
        obtain ⟨v39, h40, h⟩ := bind_of h
        rcases if_of h with ⟨c41, h⟩ | ⟨c41, h⟩
        · have h := Option.some.inj h; subst h
          exact pdoes mixed (L := lives) (by kernel_rfl) (pc (alibilaw06_awake_ok _ h2) <| pk2 <| pb c3 <| pk5 <| pb c6 <| pk5 <| pb c9 <| pc (graph_Edges_ok _ _ h13) <| pk <| pl (alibilaw06_GraphNodes_l6_ok _ _ _ _ _ _ h36) <| pc (graph_After_ok _ _ _ h38) <| pk <| pc (alibiref06_After_ok _ _ _ h40) <| pk3 <| pb c41 <| pk6 <| pz)
        · rcases if_of h with ⟨c42, h⟩ | ⟨c42, h⟩
          · have h := Option.some.inj h; subst h
            exact pdoes mixed (L := lives) (by kernel_rfl) (pc (alibilaw06_awake_ok _ h2) <| pk2 <| pb c3 <| pk5 <| pb c6 <| pk5 <| pb c9 <| pc (graph_Edges_ok _ _ h13) <| pk <| pl (alibilaw06_GraphNodes_l6_ok _ _ _ _ _ _ h36) <| pc (graph_After_ok _ _ _ h38) <| pk <| pc (alibiref06_After_ok _ _ _ h40) <| pk3 <| pb c41 <| pk8 <| pb c42 <| pz)
          · obtain ⟨q, hq, h⟩ := bind_of h
            cases q with
            | x0 v48 =>
             have h49 := hq; clear hq
             try dsimp only at h
             have h := Option.some.inj h; subst h
             exact pdoes mixed (L := lives) (by kernel_rfl) (pc (alibilaw06_awake_ok _ h2) <| pk2 <| pb c3 <| pk5 <| pb c6 <| pk5 <| pb c9 <| pc (graph_Edges_ok _ _ h13) <| pk <| pl (alibilaw06_GraphNodes_l6_ok _ _ _ _ _ _ h36) <| pc (graph_After_ok _ _ _ h38) <| pk <| pc (alibiref06_After_ok _ _ _ h40) <| pk3 <| pb c41 <| pk8 <| pb c42 <| pl (alibilaw06_GraphNodes_l19_ok _ _ _ _ h49) <| pz)
            | x1 =>
             have h50 := hq; clear hq
             try dsimp only at h
             have h := Option.some.inj h; subst h
             exact pdoes mixed (L := lives) (by kernel_rfl) (pc (alibilaw06_awake_ok _ h2) <| pk2 <| pb c3 <| pk5 <| pb c6 <| pk5 <| pb c9 <| pc (graph_Edges_ok _ _ h13) <| pk <| pl (alibilaw06_GraphNodes_l6_ok _ _ _ _ _ _ h36) <| pc (graph_After_ok _ _ _ h38) <| pk <| pc (alibiref06_After_ok _ _ _ h40) <| pk3 <| pb c41 <| pk8 <| pb c42 <| pl (alibilaw06_GraphNodes_l19_ok _ _ _ _ h50) <| pz)
end Go.Bm.GoYtldkmmnffjdliaa
