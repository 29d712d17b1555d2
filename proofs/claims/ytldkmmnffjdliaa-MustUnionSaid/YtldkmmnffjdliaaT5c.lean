/- Printed by gen2.py. -/
import Derived.Test.YtldkmmnffjdliaaT5b
namespace Go.Bm.GoYtldkmmnffjdliaa
open Go.Proofs
set_option autoImplicit false
set_option linter.unusedVariables false
set_option linter.unusedSimpArgs false
set_option maxRecDepth 100000
set_option synthInstance.maxHeartbeats 400000
set_option synthInstance.maxSize 2048
/-- alibi/alibiref15.Node -/
def alibiref15_Node (p : api_Program) (l : List api_Section) (f : Int) (i : Int) : Option (Int) :=
  if (decide ((0 : Int) ≤ f)) = true then
    if (decide ((f : Int) < ((List.length p.funcs : Nat) : Int))) = true then
      if (decide ((0 : Int) ≤ i)) = true then
        if (decide ((i : Int) < ((List.length (List.getD p.funcs (Int.toNat f) (([] : List api_Node))) : Nat) : Int))) = true then
          if (decide ((f : Int) < ((List.length l : Nat) : Int))) = true then
            if (decide ((i : Int) < ((List.length ((List.getD l (Int.toNat f) d_api_Section).held) : Nat) : Int))) = true then
              if ((((List.getD (List.getD p.funcs (Int.toNat f) (([] : List api_Node))) (Int.toNat i) d_api_Node).kind) : Int) == 7) = true then
                if (decide ((0 : Int) ≤ ((List.getD (List.getD p.funcs (Int.toNat f) (([] : List api_Node))) (Int.toNat i) d_api_Node).arg))) = true then
                  if (decide ((((List.getD (List.getD p.funcs (Int.toNat f) (([] : List api_Node))) (Int.toNat i) d_api_Node).arg) : Int) < ((List.length l : Nat) : Int))) = true then
                    bind (alibiref03_Within ((List.getD l (Int.toNat ((List.getD (List.getD p.funcs (Int.toNat f) (([] : List api_Node))) (Int.toNat i) d_api_Node).arg)) d_api_Section).entry) (List.getD ((List.getD l (Int.toNat f) d_api_Section).held) (Int.toNat i) (0#32))) fun v10 =>
                    if (!v10) = true then
                      some 5
                    else
                      if ((((List.getD (List.getD p.funcs (Int.toNat f) (([] : List api_Node))) (Int.toNat i) d_api_Node).kind) : Int) == 9) = true then
                        bind (alibiref03_Within ((List.getD l (Int.toNat f) d_api_Section).exit) (List.getD ((List.getD l (Int.toNat f) d_api_Section).held) (Int.toNat i) (0#32))) fun v14 =>
                        if (!v14) = true then
                          some 4
                        else
                          bind (alibiref05_Succ (List.getD (List.getD p.funcs (Int.toNat f) (([] : List api_Node))) (Int.toNat i) d_api_Node)) fun v17 =>
                          bind (alibiref15_Node_l9 v17 p.globals p.locks p.slots p.funcs ((List.getD (List.getD p.funcs (Int.toNat f) (([] : List api_Node))) (Int.toNat i) d_api_Node).kind) ((List.getD (List.getD p.funcs (Int.toNat f) (([] : List api_Node))) (Int.toNat i) d_api_Node).arg) ((List.getD (List.getD p.funcs (Int.toNat f) (([] : List api_Node))) (Int.toNat i) d_api_Node).next) ((List.getD (List.getD p.funcs (Int.toNat f) (([] : List api_Node))) (Int.toNat i) d_api_Node).alt) l f (List.getD ((List.getD l (Int.toNat f) d_api_Section).held) (Int.toNat i) (0#32)) 0) fun q => match q with
                            | .x0 v38 =>
                              some v38
                            | .x1 =>
                              some 0
                      else
                        bind (alibiref05_Succ (List.getD (List.getD p.funcs (Int.toNat f) (([] : List api_Node))) (Int.toNat i) d_api_Node)) fun v41 =>
                        bind (alibiref15_Node_l9 v41 p.globals p.locks p.slots p.funcs ((List.getD (List.getD p.funcs (Int.toNat f) (([] : List api_Node))) (Int.toNat i) d_api_Node).kind) ((List.getD (List.getD p.funcs (Int.toNat f) (([] : List api_Node))) (Int.toNat i) d_api_Node).arg) ((List.getD (List.getD p.funcs (Int.toNat f) (([] : List api_Node))) (Int.toNat i) d_api_Node).next) ((List.getD (List.getD p.funcs (Int.toNat f) (([] : List api_Node))) (Int.toNat i) d_api_Node).alt) l f (List.getD ((List.getD l (Int.toNat f) d_api_Section).held) (Int.toNat i) (0#32)) 0) fun q => match q with
                          | .x0 v43 =>
                            some v43
                          | .x1 =>
                            some 0
                  else none
                else none
              else
                if ((((List.getD (List.getD p.funcs (Int.toNat f) (([] : List api_Node))) (Int.toNat i) d_api_Node).kind) : Int) == 9) = true then
                  bind (alibiref03_Within ((List.getD l (Int.toNat f) d_api_Section).exit) (List.getD ((List.getD l (Int.toNat f) d_api_Section).held) (Int.toNat i) (0#32))) fun v47 =>
                  if (!v47) = true then
                    some 4
                  else
                    bind (alibiref05_Succ (List.getD (List.getD p.funcs (Int.toNat f) (([] : List api_Node))) (Int.toNat i) d_api_Node)) fun v50 =>
                    bind (alibiref15_Node_l9 v50 p.globals p.locks p.slots p.funcs ((List.getD (List.getD p.funcs (Int.toNat f) (([] : List api_Node))) (Int.toNat i) d_api_Node).kind) ((List.getD (List.getD p.funcs (Int.toNat f) (([] : List api_Node))) (Int.toNat i) d_api_Node).arg) ((List.getD (List.getD p.funcs (Int.toNat f) (([] : List api_Node))) (Int.toNat i) d_api_Node).next) ((List.getD (List.getD p.funcs (Int.toNat f) (([] : List api_Node))) (Int.toNat i) d_api_Node).alt) l f (List.getD ((List.getD l (Int.toNat f) d_api_Section).held) (Int.toNat i) (0#32)) 0) fun q => match q with
                      | .x0 v52 =>
                        some v52
                      | .x1 =>
                        some 0
                else
                  bind (alibiref05_Succ (List.getD (List.getD p.funcs (Int.toNat f) (([] : List api_Node))) (Int.toNat i) d_api_Node)) fun v55 =>
                  bind (alibiref15_Node_l9 v55 p.globals p.locks p.slots p.funcs ((List.getD (List.getD p.funcs (Int.toNat f) (([] : List api_Node))) (Int.toNat i) d_api_Node).kind) ((List.getD (List.getD p.funcs (Int.toNat f) (([] : List api_Node))) (Int.toNat i) d_api_Node).arg) ((List.getD (List.getD p.funcs (Int.toNat f) (([] : List api_Node))) (Int.toNat i) d_api_Node).next) ((List.getD (List.getD p.funcs (Int.toNat f) (([] : List api_Node))) (Int.toNat i) d_api_Node).alt) l f (List.getD ((List.getD l (Int.toNat f) d_api_Section).held) (Int.toNat i) (0#32)) 0) fun q => match q with
                    | .x0 v57 =>
                      some v57
                    | .x1 =>
                      some 0
            else none
          else none
        else none
      else none
    else none
  else none
theorem alibiref15_Node_ok (p : api_Program) (l : List api_Section) (f : Int) (i : Int) (r : Int) (h : alibiref15_Node p l f i = some r) : Does Try.prog 97 [.agg [.pv (.int .i64 p.globals), .pv (.int .i64 p.locks), .pv (.int .i64 p.slots), .pv (.seq (List.length p.funcs) (encP e_61 ([] : List api_Node) p.funcs))], .pv (.seq (List.length l) (encP e_api_Section d_api_Section l)), .pv (.int .i64 f), .pv (.int .i64 i)] [] (.pv (.int .i64 r), []) := by
 unfold alibiref15_Node at h
 obtain ⟨c1, h⟩ := need_of h
 obtain ⟨c2, h⟩ := need_of h
 obtain ⟨c3, h⟩ := need_of h
 obtain ⟨c4, h⟩ := need_of h
 obtain ⟨c5, h⟩ := need_of h
 obtain ⟨c6, h⟩ := need_of h
 rcases if_of h with ⟨c7, h⟩ | ⟨c7, h⟩
 · obtain ⟨c8, h⟩ := need_of h
   obtain ⟨c9, h⟩ := need_of h
   obtain ⟨v10, h11, h⟩ := bind_of h
   rcases if_of h with ⟨c12, h⟩ | ⟨c12, h⟩
   · have h := Option.some.inj h; subst h
     exact pdoes mixed (L := lives) (by kernel_rfl) (pk2 <| pn c1 <| pn c2 <| pk <| pn c3 <| pn c4 <| pk3 <| pn c1 <| pn c5 <| pk <| pn c3 <| pn c6 <| pk3 <| pb c7 <| pk4 <| pn c8 <| pn c9 <| pk5 <| pc (alibiref03_Within_ok _ _ _ h11) <| pk4 <| pb c12 <| pz)
   · rcases if_of h with ⟨c13, h⟩ | ⟨c13, h⟩
     · obtain ⟨v14, h15, h⟩ := bind_of h
       rcases if_of h with ⟨c16, h⟩ | ⟨c16, h⟩
       · have h := Option.some.inj h; subst h
         exact pdoes mixed (L := lives) (by kernel_rfl) (pk2 <| pn c1 <| pn c2 <| pk <| pn c3 <| pn c4 <| pk3 <| pn c1 <| pn c5 <| pk <| pn c3 <| pn c6 <| pk3 <| pb c7 <| pk4 <| pn c8 <| pn c9 <| pk5 <| pc (alibiref03_Within_ok _ _ _ h11) <| pk4 <| pb c12 <| pk2 <| pb c13 <| pk2 <| pn c1 <| pn c5 <| pk5 <| pc (alibiref03_Within_ok _ _ _ h15) <| pk4 <| pb c16 <| pz)
       · obtain ⟨v17, h18, h⟩ := bind_of h
         obtain ⟨q, hq, h⟩ := bind_of h
         cases q with
         | x0 v38 =>
          have h39 := hq; clear hq
          try dsimp only at h
          have h := Option.some.inj h; subst h
          exact pdoes mixed (L := lives) (by kernel_rfl) (pk2 <| pn c1 <| pn c2 <| pk <| pn c3 <| pn c4 <| pk3 <| pn c1 <| pn c5 <| pk <| pn c3 <| pn c6 <| pk3 <| pb c7 <| pk4 <| pn c8 <| pn c9 <| pk5 <| pc (alibiref03_Within_ok _ _ _ h11) <| pk4 <| pb c12 <| pk2 <| pb c13 <| pk2 <| pn c1 <| pn c5 <| pk5 <| pc (alibiref03_Within_ok _ _ _ h15) <| pk4 <| pb c16 <| pk <| pc (alibiref05_Succ_ok _ _ h18) <| pk <| pl (alibiref15_Node_l9_ok _ _ _ _ _ _ _ _ _ _ _ _ _ _ h39) <| pz)
         | x1 =>
          have h40 := hq; clear hq
          try dsimp only at h
          have h := Option.some.inj h; subst h
          exact pdoes mixed (L := lives) (by kernel_rfl) (pk2 <| pn c1 <| pn c2 <| pk <| pn c3 <| pn c4 <| pk3 <| pn c1 <| pn c5 <| pk <| pn c3 <| pn c6 <| pk3 <| pb c7 <| pk4 <| pn c8 <| pn c9 <| pk5 <| pc (alibiref03_Within_ok _ _ _ h11) <| pk4 <| pb c12 <| pk2 <| pb c13 <| pk2 <| pn c1 <| pn c5 <| pk5 <| pc (alibiref03_Within_ok _ _ _ h15) <| pk4 <| pb c16 <| pk <| pc (alibiref05_Succ_ok _ _ h18) <| pk <| pl (alibiref15_Node_l9_ok _ _ _ _ _ _ _ _ _ _ _ _ _ _ h40) <| pz)
     · obtain ⟨v41, h42, h⟩ := bind_of h
       obtain ⟨q, hq, h⟩ := bind_of h
       cases q with
       | x0 v43 =>
        have h44 := hq; clear hq
        try dsimp only at h
        have h := Option.some.inj h; subst h
        exact pdoes mixed (L := lives) (by kernel_rfl) (pk2 <| pn c1 <| pn c2 <| pk <| pn c3 <| pn c4 <| pk3 <| pn c1 <| pn c5 <| pk <| pn c3 <| pn c6 <| pk3 <| pb c7 <| pk4 <| pn c8 <| pn c9 <| pk5 <| pc (alibiref03_Within_ok _ _ _ h11) <| pk4 <| pb c12 <| pk2 <| pb c13 <| pk8 <| pk2 <| pc (alibiref05_Succ_ok _ _ h42) <| pk <| pl (alibiref15_Node_l9_ok _ _ _ _ _ _ _ _ _ _ _ _ _ _ h44) <| pz)
       | x1 =>
        have h45 := hq; clear hq
        try dsimp only at h
        have h := Option.some.inj h; subst h
        exact pdoes mixed (L := lives) (by kernel_rfl) (pk2 <| pn c1 <| pn c2 <| pk <| pn c3 <| pn c4 <| pk3 <| pn c1 <| pn c5 <| pk <| pn c3 <| pn c6 <| pk3 <| pb c7 <| pk4 <| pn c8 <| pn c9 <| pk5 <| pc (alibiref03_Within_ok _ _ _ h11) <| pk4 <| pb c12 <| pk2 <| pb c13 <| pk8 <| pk2 <| pc (alibiref05_Succ_ok _ _ h42) <| pk <| pl (alibiref15_Node_l9_ok _ _ _ _ _ _ _ _ _ _ _ _ _ _ h45) <| pz)
 · rcases if_of h with ⟨c46, h⟩ | ⟨c46, h⟩
   · obtain ⟨v47, h48, h⟩ := bind_of h
     rcases if_of h with ⟨c49, h⟩ | ⟨c49, h⟩
     · have h := Option.some.inj h; subst h
       exact pdoes mixed (L := lives) (by kernel_rfl) (pk2 <| pn c1 <| pn c2 <| pk <| pn c3 <| pn c4 <| pk3 <| pn c1 <| pn c5 <| pk <| pn c3 <| pn c6 <| pk3 <| pb c7 <| pk8 <| pk4 <| pb c46 <| pk2 <| pn c1 <| pn c5 <| pk5 <| pc (alibiref03_Within_ok _ _ _ h48) <| pk4 <| pb c49 <| pz)
     · obtain ⟨v50, h51, h⟩ := bind_of h
       obtain ⟨q, hq, h⟩ := bind_of h
       cases q with
       | x0 v52 =>
        have h53 := hq; clear hq
        try dsimp only at h
        have h := Option.some.inj h; subst h
        exact pdoes mixed (L := lives) (by kernel_rfl) (pk2 <| pn c1 <| pn c2 <| pk <| pn c3 <| pn c4 <| pk3 <| pn c1 <| pn c5 <| pk <| pn c3 <| pn c6 <| pk3 <| pb c7 <| pk8 <| pk4 <| pb c46 <| pk2 <| pn c1 <| pn c5 <| pk5 <| pc (alibiref03_Within_ok _ _ _ h48) <| pk4 <| pb c49 <| pk <| pc (alibiref05_Succ_ok _ _ h51) <| pk <| pl (alibiref15_Node_l9_ok _ _ _ _ _ _ _ _ _ _ _ _ _ _ h53) <| pz)
       | x1 =>
        have h54 := hq; clear hq
        try dsimp only at h
        have h := Option.some.inj h; subst h
        exact pdoes mixed (L := lives) (by kernel_rfl) (pk2 <| pn c1 <| pn c2 <| pk <| pn c3 <| pn c4 <| pk3 <| pn c1 <| pn c5 <| pk <| pn c3 <| pn c6 <| pk3 <| pb c7 <| pk8 <| pk4 <| pb c46 <| pk2 <| pn c1 <| pn c5 <| pk5 <| pc (alibiref03_Within_ok _ _ _ h48) <| pk4 <| pb c49 <| pk <| pc (alibiref05_Succ_ok _ _ h51) <| pk <| pl (alibiref15_Node_l9_ok _ _ _ _ _ _ _ _ _ _ _ _ _ _ h54) <| pz)
   · obtain ⟨v55, h56, h⟩ := bind_of h
     obtain ⟨q, hq, h⟩ := bind_of h
     cases q with
     | x0 v57 =>
      have h58 := hq; clear hq
      try dsimp only at h
      have h := Option.some.inj h; subst h
      exact pdoes mixed (L := lives) (by kernel_rfl) (pk2 <| pn c1 <| pn c2 <| pk <| pn c3 <| pn c4 <| pk3 <| pn c1 <| pn c5 <| pk <| pn c3 <| pn c6 <| pk3 <| pb c7 <| pk8 <| pk4 <| pb c46 <| pk8 <| pk2 <| pc (alibiref05_Succ_ok _ _ h56) <| pk <| pl (alibiref15_Node_l9_ok _ _ _ _ _ _ _ _ _ _ _ _ _ _ h58) <| pz)
     | x1 =>
      have h59 := hq; clear hq
      try dsimp only at h
      have h := Option.some.inj h; subst h
      exact pdoes mixed (L := lives) (by kernel_rfl) (pk2 <| pn c1 <| pn c2 <| pk <| pn c3 <| pn c4 <| pk3 <| pn c1 <| pn c5 <| pk <| pn c3 <| pn c6 <| pk3 <| pb c7 <| pk8 <| pk4 <| pb c46 <| pk8 <| pk2 <| pc (alibiref05_Succ_ok _ _ h56) <| pk <| pl (alibiref15_Node_l9_ok _ _ _ _ _ _ _ _ _ _ _ _ _ _ h59) <| pz)
noncomputable def alibiref15_Check_l11_c : Code := sub (codeOf Try.prog 58) [1, 1, 0, 1, 0, 0, 1, 0, 0, 1, 1, 1, 0, 0]
inductive alibiref15_Check_l11_R where
  | x0 (v0 : Int) (v1 : Int)
  | x1
def alibiref15_Check_l11_R.ex : alibiref15_Check_l11_R → Ex
  | .x0 _ _ => .ret
  | .x1 => .exit 2
noncomputable def alibiref15_Check_l11_R.st (x0 : Int) (x1 : Int) (x2 : Int) (x3 : List (List api_Node)) (x4 : Int) (x5 : Int) (x6 : Int) (x7 : List api_Section) (x8 : Int) (x9 : Int) : alibiref15_Check_l11_R → St
  | .x0 v0 v1 => ⟨dead :: .pv (.seq (List.length x7) (encP e_api_Section d_api_Section x7)) :: .ptr 0 [] 0 0 :: dead :: .ptr 1 [] 0 0 :: .pv (.int .i64 x8) :: List.replicate 68 dead, [.box 0 [.pv (.int .i64 x0), .pv (.int .i64 x1), .pv (.int .i64 x2), .pv (.seq (List.length x3) (encP e_61 ([] : List api_Node) x3))], .box 0 [.pv (.int .i64 x8), .pv (.int .i64 v0), .pv (.int .i64 v1)]]⟩
  | .x1 => ⟨dead :: .pv (.seq (List.length x7) (encP e_api_Section d_api_Section x7)) :: .ptr 0 [] 0 0 :: dead :: .ptr 1 [] 0 0 :: .pv (.int .i64 x8) :: List.replicate 68 dead, [.box 0 [.pv (.int .i64 x0), .pv (.int .i64 x1), .pv (.int .i64 x2), .pv (.seq (List.length x3) (encP e_61 ([] : List api_Node) x3))], .box 0 [.pv (.int .i64 x4), .pv (.int .i64 x5), .pv (.int .i64 x6)]]⟩
def alibiref15_Check_l11 (x0 : Int) (x1 : Int) (x2 : Int) (x3 : List (List api_Node)) (x4 : Int) (x5 : Int) (x6 : Int) (x7 : List api_Section) (x8 : Int) (x9 : Int) : Option (alibiref15_Check_l11_R) :=
  if (decide ((0 : Int) ≤ x8)) = true then
    if (decide ((x8 : Int) < ((List.length x3 : Nat) : Int))) = true then
      if (decide ((x9 : Int) < (((List.length (List.getD x3 (Int.toNat x8) (([] : List api_Node))) : Nat) : Int)))) = true then
        bind (alibiref15_Node (api_Program.mk x0 x1 x2 x3) x7 x8 x9) fun v16 =>
        if ((v16 : Int) != 0) = true then
          some (.x0 x9 v16)
        else
          alibiref15_Check_l11 x0 x1 x2 x3 x4 x5 x6 x7 x8 (iAdd x9 1)
      else
        some (.x1)
    else none
  else none
partial_fixpoint
noncomputable abbrev alibiref15_Check_l11_s (x0 : Int) (x1 : Int) (x2 : Int) (x3 : List (List api_Node)) (x4 : Int) (x5 : Int) (x6 : Int) (x7 : List api_Section) (x8 : Int) (x9 : Int) : St := ⟨dead :: .pv (.seq (List.length x7) (encP e_api_Section d_api_Section x7)) :: .ptr 0 [] 0 0 :: dead :: .ptr 1 [] 0 0 :: .pv (.int .i64 x8) :: .pv (.int .i64 x9) :: List.replicate 67 dead, [.box 0 [.pv (.int .i64 x0), .pv (.int .i64 x1), .pv (.int .i64 x2), .pv (.seq (List.length x3) (encP e_61 ([] : List api_Node) x3))], .box 0 [.pv (.int .i64 x4), .pv (.int .i64 x5), .pv (.int .i64 x6)]]⟩
theorem alibiref15_Check_l11_ok (x0 : Int) (x1 : Int) (x2 : Int) (x3 : List (List api_Node)) (x4 : Int) (x5 : Int) (x6 : Int) (x7 : List api_Section) (x8 : Int) (x9 : Int) (r : alibiref15_Check_l11_R) (h : alibiref15_Check_l11 x0 x1 x2 x3 x4 x5 x6 x7 x8 x9 = some r) : Loops Try.prog alibiref15_Check_l11_c 0 (alibiref15_Check_l11_s x0 x1 x2 x3 x4 x5 x6 x7 x8 x9) r.ex (alibiref15_Check_l11_R.st x0 x1 x2 x3 x4 x5 x6 x7 x8 x9 r) := by
 refine alibiref15_Check_l11.partial_correctness x0 x1 x2 x3 x4 x5 x6 x7 x8 (fun x9 r => Loops Try.prog alibiref15_Check_l11_c 0 (alibiref15_Check_l11_s x0 x1 x2 x3 x4 x5 x6 x7 x8 x9) r.ex (alibiref15_Check_l11_R.st x0 x1 x2 x3 x4 x5 x6 x7 x8 x9 r)) ?_ x9 r h
 clear h r x9
 intro self ih x9 r h
 obtain ⟨c13, h⟩ := need_of h
 obtain ⟨c14, h⟩ := need_of h
 rcases if_of h with ⟨c15, h⟩ | ⟨c15, h⟩
 · obtain ⟨v16, h17, h⟩ := bind_of h
   rcases if_of h with ⟨c18, h⟩ | ⟨c18, h⟩
   · have h := Option.some.inj h; subst h
     exact plast mixed lives 58 (by kernel_rfl) (pk <| pn c13 <| pn c14 <| pk3 <| pb c15 <| pk <| pc (alibiref15_Node_ok _ _ _ _ _ h17) <| pk2 <| pb c18 <| pk2 <| pz) rfl
   · exact pmore mixed lives 58 (by kernel_rfl) (pk <| pn c13 <| pn c14 <| pk3 <| pb c15 <| pk <| pc (alibiref15_Node_ok _ _ _ _ _ h17) <| pk2 <| pb c18 <| pk <| pz) (ih (iAdd x9 1) _ h)
 · have h := Option.some.inj h; subst h
   exact plast mixed lives 58 (by kernel_rfl) (pk <| pn c13 <| pn c14 <| pk3 <| pb c15 <| pz) rfl
noncomputable def alibiref15_Begun_l6_c : Code := sub (codeOf Try.prog 95) [1, 0, 1, 0, 0, 1, 0, 0, 1, 1, 0, 0]
inductive alibiref15_Begun_l6_R where
  | x0 (v0 : Bool)
  | x1
def alibiref15_Begun_l6_R.ex : alibiref15_Begun_l6_R → Ex
  | .x0 _ => .ret
  | .x1 => .exit 2
noncomputable def alibiref15_Begun_l6_R.st (x0 : List Int) (x1 : Int) (x2 : Int) (x3 : Int) (x4 : List (List api_Node)) (x5 : Int) (x6 : Int) (x7 : Int) : alibiref15_Begun_l6_R → St
  | .x0 v0 => ⟨dead :: .pv (.int .i64 x5) :: .ptr 0 [] 0 0 :: dead :: .pv (.bool v0) :: .pv (.int .i64 x6) :: List.replicate 27 dead, [.box 0 [.pv (.int .i64 x1), .pv (.int .i64 x2), .pv (.int .i64 x3), .pv (.seq (List.length x4) (encP e_61 ([] : List api_Node) x4))]]⟩
  | .x1 => ⟨dead :: .pv (.int .i64 x5) :: .ptr 0 [] 0 0 :: dead :: dead :: .pv (.int .i64 x6) :: List.replicate 27 dead, [.box 0 [.pv (.int .i64 x1), .pv (.int .i64 x2), .pv (.int .i64 x3), .pv (.seq (List.length x4) (encP e_61 ([] : List api_Node) x4))]]⟩
def alibiref15_Begun_l6 (x0 : List Int) (x1 : Int) (x2 : Int) (x3 : Int) (x4 : List (List api_Node)) (x5 : Int) (x6 : Int) (x7 : Int) : Option (alibiref15_Begun_l6_R) :=
  if (decide ((x7 : Int) < ((((List.length x0) : Nat) : Int)))) = true then
    if (decide ((0 : Int) ≤ x7)) = true then
      if (decide ((x7 : Int) < (((List.length x0) : Nat) : Int))) = true then
        if (((List.getD x0 (Int.toNat x7) 0) : Int) == x5) = true then
          some (.x0 true)
        else
          alibiref15_Begun_l6 x0 x1 x2 x3 x4 x5 x6 (iAdd x7 1)
      else none
    else none
  else
    some (.x1)
partial_fixpoint
noncomputable abbrev alibiref15_Begun_l6_s (x0 : List Int) (x1 : Int) (x2 : Int) (x3 : Int) (x4 : List (List api_Node)) (x5 : Int) (x6 : Int) (x7 : Int) : St := ⟨dead :: .pv (.int .i64 x5) :: .ptr 0 [] 0 0 :: dead :: dead :: .pv (.int .i64 x6) :: .ms 1 [] 0 (List.length x0) :: .pv (.int .i64 x7) :: List.replicate 25 dead, [.box 0 [.pv (.int .i64 x1), .pv (.int .i64 x2), .pv (.int .i64 x3), .pv (.seq (List.length x4) (encP e_61 ([] : List api_Node) x4))], .arr 0 1 (List.length x0) (encW o_i64 0 x0)]⟩
theorem alibiref15_Begun_l6_ok (x0 : List Int) (x1 : Int) (x2 : Int) (x3 : Int) (x4 : List (List api_Node)) (x5 : Int) (x6 : Int) (x7 : Int) (r : alibiref15_Begun_l6_R) (h : alibiref15_Begun_l6 x0 x1 x2 x3 x4 x5 x6 x7 = some r) : Loops Try.prog alibiref15_Begun_l6_c 0 (alibiref15_Begun_l6_s x0 x1 x2 x3 x4 x5 x6 x7) r.ex (alibiref15_Begun_l6_R.st x0 x1 x2 x3 x4 x5 x6 x7 r) := by
 refine alibiref15_Begun_l6.partial_correctness x0 x1 x2 x3 x4 x5 x6 (fun x7 r => Loops Try.prog alibiref15_Begun_l6_c 0 (alibiref15_Begun_l6_s x0 x1 x2 x3 x4 x5 x6 x7) r.ex (alibiref15_Begun_l6_R.st x0 x1 x2 x3 x4 x5 x6 x7 r)) ?_ x7 r h
 clear h r x7
 intro self ih x7 r h
 rcases if_of h with ⟨c6, h⟩ | ⟨c6, h⟩
 · obtain ⟨c7, h⟩ := need_of h
   obtain ⟨c8, h⟩ := need_of h
   rcases if_of h with ⟨c9, h⟩ | ⟨c9, h⟩
   · have h := Option.some.inj h; subst h
     exact plast mixed lives 95 (by kernel_rfl) (pk2 <| pb c6 <| pn c7 <| pn c8 <| pk2 <| pb c9 <| pz) rfl
   · exact pmore mixed lives 95 (by kernel_rfl) (pk2 <| pb c6 <| pn c7 <| pn c8 <| pk2 <| pb c9 <| pk <| pz) (ih (iAdd x7 1) _ h)
 · have h := Option.some.inj h; subst h
   exact plast mixed lives 95 (by kernel_rfl) (pk2 <| pb c6 <| pz) rfl
noncomputable def alibiref15_Begun_l2_c : Code := sub (codeOf Try.prog 95) [1, 0, 1, 0, 0]
inductive alibiref15_Begun_l2_R where
  | x0 (v0 : Bool)
  | x1
def alibiref15_Begun_l2_R.ex : alibiref15_Begun_l2_R → Ex
  | .x0 _ => .ret
  | .x1 => .exit 0
noncomputable def alibiref15_Begun_l2_R.st (x0 : Int) (x1 : Int) (x2 : Int) (x3 : List (List api_Node)) (x4 : Int) (x5 : Int) : alibiref15_Begun_l2_R → St
  | .x0 v0 => ⟨(List.replicate 4 dead ++ (.pv (.bool v0) :: List.replicate 28 dead)), []⟩
  | .x1 => ⟨List.replicate 33 dead, []⟩
def alibiref15_Begun_l2 (x0 : Int) (x1 : Int) (x2 : Int) (x3 : List (List api_Node)) (x4 : Int) (x5 : Int) : Option (alibiref15_Begun_l2_R) :=
  if (decide ((x5 : Int) < (((List.length x3 : Nat) : Int)))) = true then
    if (decide ((0 : Int) ≤ x5)) = true then
      if (decide ((x5 : Int) < ((List.length x3 : Nat) : Int))) = true then
        bind (alibiref06_Named (List.getD x3 (Int.toNat x5) (([] : List api_Node))) 5) fun v4 =>
        bind (alibiref15_Begun_l6 v4 x0 x1 x2 x3 x4 x5 0) fun q => match q with
          | .x0 v10 =>
            some (.x0 v10)
          | .x1 =>
            alibiref15_Begun_l2 x0 x1 x2 x3 x4 (iAdd x5 1)
      else none
    else none
  else
    some (.x1)
partial_fixpoint
noncomputable abbrev alibiref15_Begun_l2_s (x0 : Int) (x1 : Int) (x2 : Int) (x3 : List (List api_Node)) (x4 : Int) (x5 : Int) : St := ⟨dead :: .pv (.int .i64 x4) :: .ptr 0 [] 0 0 :: dead :: dead :: .pv (.int .i64 x5) :: List.replicate 27 dead, [.box 0 [.pv (.int .i64 x0), .pv (.int .i64 x1), .pv (.int .i64 x2), .pv (.seq (List.length x3) (encP e_61 ([] : List api_Node) x3))]]⟩
theorem alibiref15_Begun_l2_ok (x0 : Int) (x1 : Int) (x2 : Int) (x3 : List (List api_Node)) (x4 : Int) (x5 : Int) (r : alibiref15_Begun_l2_R) (h : alibiref15_Begun_l2 x0 x1 x2 x3 x4 x5 = some r) : Loops Try.prog alibiref15_Begun_l2_c 0 (alibiref15_Begun_l2_s x0 x1 x2 x3 x4 x5) r.ex (alibiref15_Begun_l2_R.st x0 x1 x2 x3 x4 x5 r) := by
 refine alibiref15_Begun_l2.partial_correctness x0 x1 x2 x3 x4 (fun x5 r => Loops Try.prog alibiref15_Begun_l2_c 0 (alibiref15_Begun_l2_s x0 x1 x2 x3 x4 x5) r.ex (alibiref15_Begun_l2_R.st x0 x1 x2 x3 x4 x5 r)) ?_ x5 r h
 clear h r x5
 intro self ih x5 r h
 rcases if_of h with ⟨c1, h⟩ | ⟨c1, h⟩
 · obtain ⟨c2, h⟩ := need_of h
   obtain ⟨c3, h⟩ := need_of h
   obtain ⟨v4, h5, h⟩ := bind_of h
   obtain ⟨q, hq, h⟩ := bind_of h
   cases q with
   | x0 v10 =>
    have h11 := hq; clear hq
    try dsimp only at h
    have h := Option.some.inj h; subst h
    exact plast mixed lives 95 (by kernel_rfl) (pk3 <| pb c1 <| pk <| pn c2 <| pn c3 <| pk <| pc (alibiref06_Named_ok _ _ _ h5) <| pk <| pl (alibiref15_Begun_l6_ok _ _ _ _ _ _ _ _ _ h11) <| pz) rfl
   | x1 =>
    have h12 := hq; clear hq
    try dsimp only at h
    exact pmore mixed lives 95 (by kernel_rfl) (pk3 <| pb c1 <| pk <| pn c2 <| pn c3 <| pk <| pc (alibiref06_Named_ok _ _ _ h5) <| pk <| pl (alibiref15_Begun_l6_ok _ _ _ _ _ _ _ _ _ h12) <| pk <| pz) (ih (iAdd x5 1) _ h)
 · have h := Option.some.inj h; subst h
   exact plast mixed lives 95 (by kernel_rfl) (pk3 <| pb c1 <| pz) rfl
/-- alibi/alibiref15.Begun -/
def alibiref15_Begun (p : api_Program) (f : Int) : Option (Bool) :=
  bind (alibiref15_Begun_l2 p.globals p.locks p.slots p.funcs f 0) fun q => match q with
    | .x0 v13 =>
      some v13
    | .x1 =>
      some false
theorem alibiref15_Begun_ok (p : api_Program) (f : Int) (r : Bool) (h : alibiref15_Begun p f = some r) : Does Try.prog 95 [.agg [.pv (.int .i64 p.globals), .pv (.int .i64 p.locks), .pv (.int .i64 p.slots), .pv (.seq (List.length p.funcs) (encP e_61 ([] : List api_Node) p.funcs))], .pv (.int .i64 f)] [] (.pv (.bool r), []) := by
 unfold alibiref15_Begun at h
 obtain ⟨q, hq, h⟩ := bind_of h
 cases q with
 | x0 v13 =>
  have h14 := hq; clear hq
  try dsimp only at h
  have h := Option.some.inj h; subst h
  exact pdoes mixed (L := lives) (by kernel_rfl) (pk <| pl (alibiref15_Begun_l2_ok _ _ _ _ _ _ _ h14) <| pz)
 | x1 =>
  have h15 := hq; clear hq
  try dsimp only at h
  have h := Option.some.inj h; subst h
  exact pdoes mixed (L := lives) (by kernel_rfl) (pk <| pl (alibiref15_Begun_l2_ok _ _ _ _ _ _ _ h15) <| pz)
noncomputable def alibiref15_Check_l4_c : Code := sub (codeOf Try.prog 58) [1, 1, 0, 1, 0, 0]
inductive alibiref15_Check_l4_R where
  | x0 (v0 : Int) (v1 : Int) (v2 : Int)
  | x1
def alibiref15_Check_l4_R.ex : alibiref15_Check_l4_R → Ex
  | .x0 _ _ _ => .ret
  | .x1 => .exit 0
noncomputable def alibiref15_Check_l4_R.st (x0 : Int) (x1 : Int) (x2 : Int) (x3 : List (List api_Node)) (x4 : Int) (x5 : Int) (x6 : Int) (x7 : List api_Section) (x8 : Int) : alibiref15_Check_l4_R → St
  | .x0 v0 v1 v2 => ⟨(List.replicate 4 dead ++ (.ptr 0 [] 0 0 :: List.replicate 69 dead)), [.box 0 [.pv (.int .i64 v0), .pv (.int .i64 v1), .pv (.int .i64 v2)]]⟩
  | .x1 => ⟨(List.replicate 4 dead ++ (.ptr 0 [] 0 0 :: List.replicate 69 dead)), [.box 0 [.pv (.int .i64 x4), .pv (.int .i64 x5), .pv (.int .i64 x6)]]⟩
def alibiref15_Check_l4 (x0 : Int) (x1 : Int) (x2 : Int) (x3 : List (List api_Node)) (x4 : Int) (x5 : Int) (x6 : Int) (x7 : List api_Section) (x8 : Int) : Option (alibiref15_Check_l4_R) :=
  if (decide ((x8 : Int) < (((List.length x7 : Nat) : Int)))) = true then
    if ((x8 : Int) == 0) = true then
      if (decide ((0 : Int) ≤ x8)) = true then
        if (decide ((x8 : Int) < ((List.length x7 : Nat) : Int))) = true then
          if (((List.getD x7 (Int.toNat x8) d_api_Section).entry) != (0#32)) = true then
            some (.x0 x8 ((-1)) 2)
          else
            if (decide ((0 : Int) < ((List.length ((List.getD x7 (Int.toNat x8) d_api_Section).held) : Nat) : Int))) = true then
              bind (alibiref03_Within (List.getD ((List.getD x7 (Int.toNat x8) d_api_Section).held) 0 (0#32)) ((List.getD x7 (Int.toNat x8) d_api_Section).entry)) fun v10 =>
              if (!v10) = true then
                some (.x0 x8 ((-1)) 3)
              else
                bind (alibiref15_Check_l11 x0 x1 x2 x3 x4 x5 x6 x7 x8 0) fun q => match q with
                  | .x0 v19 v20 =>
                    some (.x0 x8 v19 v20)
                  | .x1 =>
                    alibiref15_Check_l4 x0 x1 x2 x3 x4 x5 x6 x7 (iAdd x8 1)
            else none
        else none
      else none
    else
      bind (alibiref15_Begun (api_Program.mk x0 x1 x2 x3) x8) fun v23 =>
      if v23 = true then
        if (decide ((0 : Int) ≤ x8)) = true then
          if (decide ((x8 : Int) < ((List.length x7 : Nat) : Int))) = true then
            if (((List.getD x7 (Int.toNat x8) d_api_Section).entry) != (0#32)) = true then
              some (.x0 x8 ((-1)) 2)
            else
              if (decide ((0 : Int) < ((List.length ((List.getD x7 (Int.toNat x8) d_api_Section).held) : Nat) : Int))) = true then
                bind (alibiref03_Within (List.getD ((List.getD x7 (Int.toNat x8) d_api_Section).held) 0 (0#32)) ((List.getD x7 (Int.toNat x8) d_api_Section).entry)) fun v30 =>
                if (!v30) = true then
                  some (.x0 x8 ((-1)) 3)
                else
                  bind (alibiref15_Check_l11 x0 x1 x2 x3 x4 x5 x6 x7 x8 0) fun q => match q with
                    | .x0 v33 v34 =>
                      some (.x0 x8 v33 v34)
                    | .x1 =>
                      alibiref15_Check_l4 x0 x1 x2 x3 x4 x5 x6 x7 (iAdd x8 1)
              else none
          else none
        else none
      else
        if (decide ((0 : Int) ≤ x8)) = true then
          if (decide ((x8 : Int) < ((List.length x7 : Nat) : Int))) = true then
            if (decide ((0 : Int) < ((List.length ((List.getD x7 (Int.toNat x8) d_api_Section).held) : Nat) : Int))) = true then
              bind (alibiref03_Within (List.getD ((List.getD x7 (Int.toNat x8) d_api_Section).held) 0 (0#32)) ((List.getD x7 (Int.toNat x8) d_api_Section).entry)) fun v40 =>
              if (!v40) = true then
                some (.x0 x8 ((-1)) 3)
              else
                bind (alibiref15_Check_l11 x0 x1 x2 x3 x4 x5 x6 x7 x8 0) fun q => match q with
                  | .x0 v43 v44 =>
                    some (.x0 x8 v43 v44)
                  | .x1 =>
                    alibiref15_Check_l4 x0 x1 x2 x3 x4 x5 x6 x7 (iAdd x8 1)
            else none
          else none
        else none
  else
    some (.x1)
partial_fixpoint
noncomputable abbrev alibiref15_Check_l4_s (x0 : Int) (x1 : Int) (x2 : Int) (x3 : List (List api_Node)) (x4 : Int) (x5 : Int) (x6 : Int) (x7 : List api_Section) (x8 : Int) : St := ⟨dead :: .pv (.seq (List.length x7) (encP e_api_Section d_api_Section x7)) :: .ptr 0 [] 0 0 :: dead :: .ptr 1 [] 0 0 :: .pv (.int .i64 x8) :: List.replicate 68 dead, [.box 0 [.pv (.int .i64 x0), .pv (.int .i64 x1), .pv (.int .i64 x2), .pv (.seq (List.length x3) (encP e_61 ([] : List api_Node) x3))], .box 0 [.pv (.int .i64 x4), .pv (.int .i64 x5), .pv (.int .i64 x6)]]⟩
theorem alibiref15_Check_l4_ok (x0 : Int) (x1 : Int) (x2 : Int) (x3 : List (List api_Node)) (x4 : Int) (x5 : Int) (x6 : Int) (x7 : List api_Section) (x8 : Int) (r : alibiref15_Check_l4_R) (h : alibiref15_Check_l4 x0 x1 x2 x3 x4 x5 x6 x7 x8 = some r) : Loops Try.prog alibiref15_Check_l4_c 0 (alibiref15_Check_l4_s x0 x1 x2 x3 x4 x5 x6 x7 x8) r.ex (alibiref15_Check_l4_R.st x0 x1 x2 x3 x4 x5 x6 x7 x8 r) := by
 refine alibiref15_Check_l4.partial_correctness x0 x1 x2 x3 x4 x5 x6 x7 (fun x8 r => Loops Try.prog alibiref15_Check_l4_c 0 (alibiref15_Check_l4_s x0 x1 x2 x3 x4 x5 x6 x7 x8) r.ex (alibiref15_Check_l4_R.st x0 x1 x2 x3 x4 x5 x6 x7 x8 r)) ?_ x8 r h
 clear h r x8
 intro self ih x8 r h
 rcases if_of h with ⟨c4, h⟩ | ⟨c4, h⟩
 · rcases if_of h with ⟨c5, h⟩ | ⟨c5, h⟩
   · obtain ⟨c6, h⟩ := need_of h
     obtain ⟨c7, h⟩ := need_of h
     rcases if_of h with ⟨c8, h⟩ | ⟨c8, h⟩
     · have h := Option.some.inj h; subst h
       exact plast mixed lives 58 (by kernel_rfl) (pk2 <| pb c4 <| pk <| pb c5 <| pk6 <| pn c6 <| pn c7 <| pk4 <| pe (eff_bool (un_neq ((List.getD x7 (Int.toNat x8) d_api_Section).entry) (0#32))) <| pk <| pb c8 <| pk2 <| pz) rfl
     · obtain ⟨c9, h⟩ := need_of h
       obtain ⟨v10, h11, h⟩ := bind_of h
       rcases if_of h with ⟨c12, h⟩ | ⟨c12, h⟩
       · have h := Option.some.inj h; subst h
         exact plast mixed lives 58 (by kernel_rfl) (pk2 <| pb c4 <| pk <| pb c5 <| pk6 <| pn c6 <| pn c7 <| pk4 <| pe (eff_bool (un_neq ((List.getD x7 (Int.toNat x8) d_api_Section).entry) (0#32))) <| pk <| pb c8 <| pn c6 <| pn c7 <| pk <| pn (rfl : (decide ((0 : Int) ≤ 0)) = true) <| pn c9 <| pk <| pn c6 <| pn c7 <| pk <| pc (alibiref03_Within_ok _ _ _ h11) <| pk2 <| pb c12 <| pk2 <| pz) rfl
       · obtain ⟨q, hq, h⟩ := bind_of h
         cases q with
         | x0 v19 v20 =>
          have h21 := hq; clear hq
          try dsimp only at h
          have h := Option.some.inj h; subst h
          exact plast mixed lives 58 (by kernel_rfl) (pk2 <| pb c4 <| pk <| pb c5 <| pk6 <| pn c6 <| pn c7 <| pk4 <| pe (eff_bool (un_neq ((List.getD x7 (Int.toNat x8) d_api_Section).entry) (0#32))) <| pk <| pb c8 <| pn c6 <| pn c7 <| pk <| pn (rfl : (decide ((0 : Int) ≤ 0)) = true) <| pn c9 <| pk <| pn c6 <| pn c7 <| pk <| pc (alibiref03_Within_ok _ _ _ h11) <| pk2 <| pb c12 <| pl (alibiref15_Check_l11_ok _ _ _ _ _ _ _ _ _ _ _ h21) <| pz) rfl
         | x1 =>
          have h22 := hq; clear hq
          try dsimp only at h
          exact pmore mixed lives 58 (by kernel_rfl) (pk2 <| pb c4 <| pk <| pb c5 <| pk6 <| pn c6 <| pn c7 <| pk4 <| pe (eff_bool (un_neq ((List.getD x7 (Int.toNat x8) d_api_Section).entry) (0#32))) <| pk <| pb c8 <| pn c6 <| pn c7 <| pk <| pn (rfl : (decide ((0 : Int) ≤ 0)) = true) <| pn c9 <| pk <| pn c6 <| pn c7 <| pk <| pc (alibiref03_Within_ok _ _ _ h11) <| pk2 <| pb c12 <| pl (alibiref15_Check_l11_ok _ _ _ _ _ _ _ _ _ _ _ h22) <| pk <| pz) (ih (iAdd x8 1) _ h)
   · obtain ⟨v23, h24, h⟩ := bind_of h
     rcases if_of h with ⟨c25, h⟩ | ⟨c25, h⟩
     · obtain ⟨c26, h⟩ := need_of h
       obtain ⟨c27, h⟩ := need_of h
       rcases if_of h with ⟨c28, h⟩ | ⟨c28, h⟩
       · have h := Option.some.inj h; subst h
         exact plast mixed lives 58 (by kernel_rfl) (pk2 <| pb c4 <| pk <| pb c5 <| pk3 <| pc (alibiref15_Begun_ok _ _ _ h24) <| pk2 <| pb c25 <| pk2 <| pn c26 <| pn c27 <| pk4 <| pe (eff_bool (un_neq ((List.getD x7 (Int.toNat x8) d_api_Section).entry) (0#32))) <| pk <| pb c28 <| pk2 <| pz) rfl
       · obtain ⟨c29, h⟩ := need_of h
         obtain ⟨v30, h31, h⟩ := bind_of h
         rcases if_of h with ⟨c32, h⟩ | ⟨c32, h⟩
         · have h := Option.some.inj h; subst h
           exact plast mixed lives 58 (by kernel_rfl) (pk2 <| pb c4 <| pk <| pb c5 <| pk3 <| pc (alibiref15_Begun_ok _ _ _ h24) <| pk2 <| pb c25 <| pk2 <| pn c26 <| pn c27 <| pk4 <| pe (eff_bool (un_neq ((List.getD x7 (Int.toNat x8) d_api_Section).entry) (0#32))) <| pk <| pb c28 <| pn c26 <| pn c27 <| pk <| pn (rfl : (decide ((0 : Int) ≤ 0)) = true) <| pn c29 <| pk <| pn c26 <| pn c27 <| pk <| pc (alibiref03_Within_ok _ _ _ h31) <| pk2 <| pb c32 <| pk2 <| pz) rfl
         · obtain ⟨q, hq, h⟩ := bind_of h
           cases q with
           | x0 v33 v34 =>
            have h35 := hq; clear hq
            try dsimp only at h
            have h := Option.some.inj h; subst h
            exact plast mixed lives 58 (by kernel_rfl) (pk2 <| pb c4 <| pk <| pb c5 <| pk3 <| pc (alibiref15_Begun_ok _ _ _ h24) <| pk2 <| pb c25 <| pk2 <| pn c26 <| pn c27 <| pk4 <| pe (eff_bool (un_neq ((List.getD x7 (Int.toNat x8) d_api_Section).entry) (0#32))) <| pk <| pb c28 <| pn c26 <| pn c27 <| pk <| pn (rfl : (decide ((0 : Int) ≤ 0)) = true) <| pn c29 <| pk <| pn c26 <| pn c27 <| pk <| pc (alibiref03_Within_ok _ _ _ h31) <| pk2 <| pb c32 <| pl (alibiref15_Check_l11_ok _ _ _ _ _ _ _ _ _ _ _ h35) <| pz) rfl
           | x1 =>
            have h36 := hq; clear hq
            try dsimp only at h
            exact pmore mixed lives 58 (by kernel_rfl) (pk2 <| pb c4 <| pk <| pb c5 <| pk3 <| pc (alibiref15_Begun_ok _ _ _ h24) <| pk2 <| pb c25 <| pk2 <| pn c26 <| pn c27 <| pk4 <| pe (eff_bool (un_neq ((List.getD x7 (Int.toNat x8) d_api_Section).entry) (0#32))) <| pk <| pb c28 <| pn c26 <| pn c27 <| pk <| pn (rfl : (decide ((0 : Int) ≤ 0)) = true) <| pn c29 <| pk <| pn c26 <| pn c27 <| pk <| pc (alibiref03_Within_ok _ _ _ h31) <| pk2 <| pb c32 <| pl (alibiref15_Check_l11_ok _ _ _ _ _ _ _ _ _ _ _ h36) <| pk <| pz) (ih (iAdd x8 1) _ h)
     · obtain ⟨c37, h⟩ := need_of h
       obtain ⟨c38, h⟩ := need_of h
       obtain ⟨c39, h⟩ := need_of h
       obtain ⟨v40, h41, h⟩ := bind_of h
       rcases if_of h with ⟨c42, h⟩ | ⟨c42, h⟩
       · have h := Option.some.inj h; subst h
         exact plast mixed lives 58 (by kernel_rfl) (pk2 <| pb c4 <| pk <| pb c5 <| pk3 <| pc (alibiref15_Begun_ok _ _ _ h24) <| pk2 <| pb c25 <| pk7 <| pn c37 <| pn c38 <| pk <| pn (rfl : (decide ((0 : Int) ≤ 0)) = true) <| pn c39 <| pk <| pn c37 <| pn c38 <| pk <| pc (alibiref03_Within_ok _ _ _ h41) <| pk2 <| pb c42 <| pk2 <| pz) rfl
       · obtain ⟨q, hq, h⟩ := bind_of h
         cases q with
         | x0 v43 v44 =>
          have h45 := hq; clear hq
          try dsimp only at h
          have h := Option.some.inj h; subst h
          exact plast mixed lives 58 (by kernel_rfl) (pk2 <| pb c4 <| pk <| pb c5 <| pk3 <| pc (alibiref15_Begun_ok _ _ _ h24) <| pk2 <| pb c25 <| pk7 <| pn c37 <| pn c38 <| pk <| pn (rfl : (decide ((0 : Int) ≤ 0)) = true) <| pn c39 <| pk <| pn c37 <| pn c38 <| pk <| pc (alibiref03_Within_ok _ _ _ h41) <| pk2 <| pb c42 <| pl (alibiref15_Check_l11_ok _ _ _ _ _ _ _ _ _ _ _ h45) <| pz) rfl
         | x1 =>
          have h46 := hq; clear hq
          try dsimp only at h
          exact pmore mixed lives 58 (by kernel_rfl) (pk2 <| pb c4 <| pk <| pb c5 <| pk3 <| pc (alibiref15_Begun_ok _ _ _ h24) <| pk2 <| pb c25 <| pk7 <| pn c37 <| pn c38 <| pk <| pn (rfl : (decide ((0 : Int) ≤ 0)) = true) <| pn c39 <| pk <| pn c37 <| pn c38 <| pk <| pc (alibiref03_Within_ok _ _ _ h41) <| pk2 <| pb c42 <| pl (alibiref15_Check_l11_ok _ _ _ _ _ _ _ _ _ _ _ h46) <| pk <| pz) (ih (iAdd x8 1) _ h)
 · have h := Option.some.inj h; subst h
   exact plast mixed lives 58 (by kernel_rfl) (pk2 <| pb c4 <| pz) rfl
/-- alibi/alibiref15.Check -/
def alibiref15_Check (p : api_Program) (l : List api_Section) : Option (api_Fault) :=
  bind (alibiref15_Shaped p l) fun v1 =>
  if (!v1) = true then
    some (api_Fault.mk ((-1)) ((-1)) 1)
  else
    bind (alibiref15_Check_l4 p.globals p.locks p.slots p.funcs 0 0 0 l 0) fun q => match q with
      | .x0 v47 v48 v49 =>
        some (api_Fault.mk v47 v48 v49)
      | .x1 =>
        some (api_Fault.mk 0 0 0)
theorem alibiref15_Check_ok (p : api_Program) (l : List api_Section) (r : api_Fault) (h : alibiref15_Check p l = some r) : Does Try.prog 58 [.agg [.pv (.int .i64 p.globals), .pv (.int .i64 p.locks), .pv (.int .i64 p.slots), .pv (.seq (List.length p.funcs) (encP e_61 ([] : List api_Node) p.funcs))], .pv (.seq (List.length l) (encP e_api_Section d_api_Section l))] [] (.agg [.pv (.int .i64 r.func), .pv (.int .i64 r.node), .pv (.int .i64 r.what)], []) := by
 unfold alibiref15_Check at h
 obtain ⟨v1, h2, h⟩ := bind_of h
 rcases if_of h with ⟨c3, h⟩ | ⟨c3, h⟩
 · have h := Option.some.inj h; subst h
   exact pdoes mixed (L := lives) (by kernel_rfl) (pk3 <| pc (alibiref15_Shaped_ok _ _ _ h2) <| pk2 <| pb c3 <| pk2 <| pz)
 · obtain ⟨q, hq, h⟩ := bind_of h
   cases q with
   | x0 v47 v48 v49 =>
    have h50 := hq; clear hq
    try dsimp only at h
    have h := Option.some.inj h; subst h
    exact pdoes mixed (L := lives) (by kernel_rfl) (pk3 <| pc (alibiref15_Shaped_ok _ _ _ h2) <| pk2 <| pb c3 <| pl (alibiref15_Check_l4_ok _ _ _ _ _ _ _ _ _ _ h50) <| pz)
   | x1 =>
    have h51 := hq; clear hq
    try dsimp only at h
    have h := Option.some.inj h; subst h
    exact pdoes mixed (L := lives) (by kernel_rfl) (pk3 <| pc (alibiref15_Shaped_ok _ _ _ h2) <| pk2 <| pb c3 <| pl (alibiref15_Check_l4_ok _ _ _ _ _ _ _ _ _ _ h51) <| pk2 <| pz)
/-- alibi/alibilaw15.MustChecks -/
def alibilaw15_MustChecks (p : api_Program) (l : List api_Section) : Option (Bool) :=
  bind (alibilaw15_awake) fun v1 =>
  if (!v1) = true then
    bind (alibilaw15_awake) fun v4 =>
    some v4
  else
    bind (alibiref05_Small p) fun v6 =>
    if (!v6) = true then
      bind (alibilaw15_awake) fun v9 =>
      some v9
    else
      bind (alibiref15_Few l) fun v11 =>
      if (!v11) = true then
        bind (alibilaw15_awake) fun v14 =>
        some v14
      else
        bind (must_Check p l) fun v16 =>
        bind (must_Shaped p l) fun v18 =>
        bind (alibiref15_Shaped p l) fun v20 =>
        if (!(v18 == v20)) = true then
          some false
        else
          bind (alibiref05_Check p) fun v23 =>
          if ((v23.2.2 : Int) != 0) = true then
            if ((v16.2 : Int) == v23.2.2) = true then
              some (((v16.1.func : Int) == (0 : Int)) && (((v16.1.node : Int) == (0 : Int)) && (((v16.1.what : Int) == (0 : Int)) && true)))
            else
              some false
          else
            if ((v16.2 : Int) == 0) = true then
              bind (alibiref15_Check p l) fun v28 =>
              some (((v16.1.func : Int) == (v28.func : Int)) && (((v16.1.node : Int) == (v28.node : Int)) && (((v16.1.what : Int) == (v28.what : Int)) && true)))
            else
              some false
theorem alibilaw15_MustChecks_ok (p : api_Program) (l : List api_Section) (r : Bool) (h : alibilaw15_MustChecks p l = some r) : Does Try.prog 15 [.agg [.pv (.int .i64 p.globals), .pv (.int .i64 p.locks), .pv (.int .i64 p.slots), .pv (.seq (List.length p.funcs) (encP e_61 ([] : List api_Node) p.funcs))], .pv (.seq (List.length l) (encP e_api_Section d_api_Section l))] [] (.pv (.bool r), []) := by
 unfold alibilaw15_MustChecks at h
 obtain ⟨v1, h2, h⟩ := bind_of h
 rcases if_of h with ⟨c3, h⟩ | ⟨c3, h⟩
 · obtain ⟨v4, h5, h⟩ := bind_of h
   have h := Option.some.inj h; subst h
   exact pdoes mixed (L := lives) (by kernel_rfl) (pk <| pc (alibilaw15_awake_ok _ h2) <| pk2 <| pb c3 <| pk8 <| pc (alibilaw15_awake_ok _ h5) <| pk <| pz)
 · obtain ⟨v6, h7, h⟩ := bind_of h
   rcases if_of h with ⟨c8, h⟩ | ⟨c8, h⟩
   · obtain ⟨v9, h10, h⟩ := bind_of h
     have h := Option.some.inj h; subst h
     exact pdoes mixed (L := lives) (by kernel_rfl) (pk <| pc (alibilaw15_awake_ok _ h2) <| pk2 <| pb c3 <| pk2 <| pc (alibiref05_Small_ok _ _ h7) <| pk4 <| pb c8 <| pk4 <| pc (alibilaw15_awake_ok _ h10) <| pk <| pz)
   · obtain ⟨v11, h12, h⟩ := bind_of h
     rcases if_of h with ⟨c13, h⟩ | ⟨c13, h⟩
     · obtain ⟨v14, h15, h⟩ := bind_of h
       have h := Option.some.inj h; subst h
       exact pdoes mixed (L := lives) (by kernel_rfl) (pk <| pc (alibilaw15_awake_ok _ h2) <| pk2 <| pb c3 <| pk2 <| pc (alibiref05_Small_ok _ _ h7) <| pk4 <| pb c8 <| pk <| pc (alibiref15_Few_ok _ _ h12) <| pk4 <| pb c13 <| pc (alibilaw15_awake_ok _ h15) <| pk <| pz)
     · obtain ⟨v16, h17, h⟩ := bind_of h
       obtain ⟨v18, h19, h⟩ := bind_of h
       obtain ⟨v20, h21, h⟩ := bind_of h
       rcases if_of h with ⟨c22, h⟩ | ⟨c22, h⟩
       · have h := Option.some.inj h; subst h
         exact pdoes mixed (L := lives) (by kernel_rfl) (pk <| pc (alibilaw15_awake_ok _ h2) <| pk2 <| pb c3 <| pk2 <| pc (alibiref05_Small_ok _ _ h7) <| pk4 <| pb c8 <| pk <| pc (alibiref15_Few_ok _ _ h12) <| pk4 <| pb c13 <| pk <| pc (must_Check_ok _ _ _ h17) <| pk4 <| pc (must_Shaped_ok _ _ _ h19) <| pk2 <| pc (alibiref15_Shaped_ok _ _ _ h21) <| pk2 <| pb c22 <| pz)
       · obtain ⟨v23, h24, h⟩ := bind_of h
         rcases if_of h with ⟨c25, h⟩ | ⟨c25, h⟩
         · rcases if_of h with ⟨c26, h⟩ | ⟨c26, h⟩
           · have h := Option.some.inj h; subst h
             exact pdoes mixed (L := lives) (by kernel_rfl) (pk <| pc (alibilaw15_awake_ok _ h2) <| pk2 <| pb c3 <| pk2 <| pc (alibiref05_Small_ok _ _ h7) <| pk4 <| pb c8 <| pk <| pc (alibiref15_Few_ok _ _ h12) <| pk4 <| pb c13 <| pk <| pc (must_Check_ok _ _ _ h17) <| pk4 <| pc (must_Shaped_ok _ _ _ h19) <| pk2 <| pc (alibiref15_Shaped_ok _ _ _ h21) <| pk2 <| pb c22 <| pk <| pc (alibiref05_Check_ok _ _ h24) <| pk2 <| pb c25 <| pk <| pb c26 <| pk6 <| pz)
           · have h := Option.some.inj h; subst h
             exact pdoes mixed (L := lives) (by kernel_rfl) (pk <| pc (alibilaw15_awake_ok _ h2) <| pk2 <| pb c3 <| pk2 <| pc (alibiref05_Small_ok _ _ h7) <| pk4 <| pb c8 <| pk <| pc (alibiref15_Few_ok _ _ h12) <| pk4 <| pb c13 <| pk <| pc (must_Check_ok _ _ _ h17) <| pk4 <| pc (must_Shaped_ok _ _ _ h19) <| pk2 <| pc (alibiref15_Shaped_ok _ _ _ h21) <| pk2 <| pb c22 <| pk <| pc (alibiref05_Check_ok _ _ h24) <| pk2 <| pb c25 <| pk <| pb c26 <| pk3 <| pz)
         · rcases if_of h with ⟨c27, h⟩ | ⟨c27, h⟩
           · obtain ⟨v28, h29, h⟩ := bind_of h
             have h := Option.some.inj h; subst h
             exact pdoes mixed (L := lives) (by kernel_rfl) (pk <| pc (alibilaw15_awake_ok _ h2) <| pk2 <| pb c3 <| pk2 <| pc (alibiref05_Small_ok _ _ h7) <| pk4 <| pb c8 <| pk <| pc (alibiref15_Few_ok _ _ h12) <| pk4 <| pb c13 <| pk <| pc (must_Check_ok _ _ _ h17) <| pk4 <| pc (must_Shaped_ok _ _ _ h19) <| pk2 <| pc (alibiref15_Shaped_ok _ _ _ h21) <| pk2 <| pb c22 <| pk <| pc (alibiref05_Check_ok _ _ h24) <| pk2 <| pb c25 <| pk <| pb c27 <| pk5 <| pc (alibiref15_Check_ok _ _ _ h29) <| pk4 <| pz)
           · have h := Option.some.inj h; subst h
             exact pdoes mixed (L := lives) (by kernel_rfl) (pk <| pc (alibilaw15_awake_ok _ h2) <| pk2 <| pb c3 <| pk2 <| pc (alibiref05_Small_ok _ _ h7) <| pk4 <| pb c8 <| pk <| pc (alibiref15_Few_ok _ _ h12) <| pk4 <| pb c13 <| pk <| pc (must_Check_ok _ _ _ h17) <| pk4 <| pc (must_Shaped_ok _ _ _ h19) <| pk2 <| pc (alibiref15_Shaped_ok _ _ _ h21) <| pk2 <| pb c22 <| pk <| pc (alibiref05_Check_ok _ _ h24) <| pk2 <| pb c25 <| pk <| pb c27 <| pk5 <| pz)
noncomputable def alibilaw15_MustLess_l5_c : Code := sub (codeOf Try.prog 16) [1, 1, 1, 0, 1, 0, 0]
def alibilaw15_MustLess_l5 (x0 : List api_Section) (x1 : Int) (x2 : Int) (x3 : Int) (x4 : List (List api_Node)) (x5 : Int) : Option ((List api_Section)) :=
  if (decide ((x5 : Int) < (((List.length x4 : Nat) : Int)))) = true then
    if (decide ((0 : Int) ≤ x5)) = true then
      if (decide ((x5 : Int) < ((List.length x4 : Nat) : Int))) = true then
        if (decide ((0 : Int) ≤ (((List.length (List.getD x4 (Int.toNat x5) (([] : List api_Node))) : Nat) : Int)))) = true then
          if (decide (((((List.length (List.getD x4 (Int.toNat x5) (([] : List api_Node))) : Nat) : Int)) : Int) * ((4 : Nat) : Int) ≤ ((reach : Nat) : Int))) = true then
            if (Nat.ble ((List.length x0 + List.length ([api_Section.mk (0#32) (0#32) (List.replicate (Int.toNat (((List.length (List.getD x4 (Int.toNat x5) (([] : List api_Node))) : Nat) : Int))) (0#32)) (0#32) (0#32) (List.replicate (Int.toNat (((List.length (List.getD x4 (Int.toNat x5) (([] : List api_Node))) : Nat) : Int))) (0#32))])) * 64) reach) = true then
              alibilaw15_MustLess_l5 (x0 ++ ([api_Section.mk (0#32) (0#32) (List.replicate (Int.toNat (((List.length (List.getD x4 (Int.toNat x5) (([] : List api_Node))) : Nat) : Int))) (0#32)) (0#32) (0#32) (List.replicate (Int.toNat (((List.length (List.getD x4 (Int.toNat x5) (([] : List api_Node))) : Nat) : Int))) (0#32))])) x1 x2 x3 x4 (iAdd x5 1)
            else none
          else none
        else none
      else none
    else none
  else
    some x0
partial_fixpoint
noncomputable abbrev alibilaw15_MustLess_l5_s (x0 : List api_Section) (x1 : Int) (x2 : Int) (x3 : Int) (x4 : List (List api_Node)) (x5 : Int) : St := ⟨dead :: .ptr 0 [] 0 0 :: dead :: .ms 1 [] 0 (List.length x0) :: .pv (.int .i64 x5) :: List.replicate 55 dead, [.box 0 [.pv (.int .i64 x1), .pv (.int .i64 x2), .pv (.int .i64 x3), .pv (.seq (List.length x4) (encP e_61 ([] : List api_Node) x4))], .arr 0 6 (List.length x0) (encW o_api_Section d_api_Section x0)]⟩
noncomputable abbrev alibilaw15_MustLess_l5_e (x0 : List api_Section) (x1 : Int) (x2 : Int) (x3 : Int) (x4 : List (List api_Node)) (x5 : Int) (r : (List api_Section)) : St := ⟨dead :: .ptr 0 [] 0 0 :: dead :: .ms 1 [] 0 (List.length r) :: List.replicate 56 dead, [.box 0 [.pv (.int .i64 x1), .pv (.int .i64 x2), .pv (.int .i64 x3), .pv (.seq (List.length x4) (encP e_61 ([] : List api_Node) x4))], .arr 0 6 (List.length r) (encW o_api_Section d_api_Section r)]⟩
theorem alibilaw15_MustLess_l5_ok (x0 : List api_Section) (x1 : Int) (x2 : Int) (x3 : Int) (x4 : List (List api_Node)) (x5 : Int) (r : (List api_Section)) (h : alibilaw15_MustLess_l5 x0 x1 x2 x3 x4 x5 = some r) : Loops Try.prog alibilaw15_MustLess_l5_c 0 (alibilaw15_MustLess_l5_s x0 x1 x2 x3 x4 x5) (.exit 0) (alibilaw15_MustLess_l5_e x0 x1 x2 x3 x4 x5 r) := by
 refine alibilaw15_MustLess_l5.partial_correctness x1 x2 x3 x4 (fun x0 x5 r => Loops Try.prog alibilaw15_MustLess_l5_c 0 (alibilaw15_MustLess_l5_s x0 x1 x2 x3 x4 x5) (.exit 0) (alibilaw15_MustLess_l5_e x0 x1 x2 x3 x4 x5 r)) ?_ x0 x5 r h
 clear h r x0 x5
 intro self ih x0 x5 r h
 rcases if_of h with ⟨c11, h⟩ | ⟨c11, h⟩
 · obtain ⟨c12, h⟩ := need_of h
   obtain ⟨c13, h⟩ := need_of h
   obtain ⟨c14, h⟩ := need_of h
   obtain ⟨c15, h⟩ := need_of h
   obtain ⟨c16, h⟩ := need_of h
   exact pmore mixed lives 16 (by kernel_rfl) (pk3 <| pb c11 <| pk <| pn c12 <| pn c13 <| pk2 <| pn c14 <| pn ((decide_eq_true rfl) : (decide (((((List.length (List.getD x4 (Int.toNat x5) (([] : List api_Node))) : Nat) : Int)) : Int) = (((List.length (List.getD x4 (Int.toNat x5) (([] : List api_Node))) : Nat) : Int)))) = true) <| pn c15 <| pe (eff_make o_u32 (0#32) 2 1 (Int.toNat (((List.length (List.getD x4 (Int.toNat x5) (([] : List api_Node))) : Nat) : Int)))) <| pn c14 <| pn ((decide_eq_true rfl) : (decide (((((List.length (List.getD x4 (Int.toNat x5) (([] : List api_Node))) : Nat) : Int)) : Int) = (((List.length (List.getD x4 (Int.toNat x5) (([] : List api_Node))) : Nat) : Int)))) = true) <| pn c15 <| pe (eff_make o_u32 (0#32) 3 1 (Int.toNat (((List.length (List.getD x4 (Int.toNat x5) (([] : List api_Node))) : Nat) : Int)))) <| pk <| pb (whole_ok (List.length (List.replicate (Int.toNat (((List.length (List.getD x4 (Int.toNat x5) (([] : List api_Node))) : Nat) : Int))) (0#32)))) <| pb (whole_ok (List.length (List.replicate (Int.toNat (((List.length (List.getD x4 (Int.toNat x5) (([] : List api_Node))) : Nat) : Int))) (0#32)))) <| pe (eff_lit o_api_Section d_api_Section 4 6 1 ([api_Section.mk (0#32) (0#32) (List.replicate (Int.toNat (((List.length (List.getD x4 (Int.toNat x5) (([] : List api_Node))) : Nat) : Int))) (0#32)) (0#32) (0#32) (List.replicate (Int.toNat (((List.length (List.getD x4 (Int.toNat x5) (([] : List api_Node))) : Nat) : Int))) (0#32))]) rfl [(2, .gone), (3, .gone)] [(2, false), (3, false)]) <| pb (whole_ok (List.length ([api_Section.mk (0#32) (0#32) (List.replicate (Int.toNat (((List.length (List.getD x4 (Int.toNat x5) (([] : List api_Node))) : Nat) : Int))) (0#32)) (0#32) (0#32) (List.replicate (Int.toNat (((List.length (List.getD x4 (Int.toNat x5) (([] : List api_Node))) : Nat) : Int))) (0#32))]))) <| pn c16 <| pe (eff_app o_api_Section d_api_Section x0 ([api_Section.mk (0#32) (0#32) (List.replicate (Int.toNat (((List.length (List.getD x4 (Int.toNat x5) (([] : List api_Node))) : Nat) : Int))) (0#32)) (0#32) (0#32) (List.replicate (Int.toNat (((List.length (List.getD x4 (Int.toNat x5) (([] : List api_Node))) : Nat) : Int))) (0#32))]) (x0 ++ ([api_Section.mk (0#32) (0#32) (List.replicate (Int.toNat (((List.length (List.getD x4 (Int.toNat x5) (([] : List api_Node))) : Nat) : Int))) (0#32)) (0#32) (0#32) (List.replicate (Int.toNat (((List.length (List.getD x4 (Int.toNat x5) (([] : List api_Node))) : Nat) : Int))) (0#32))])) 1 6 (List.length x0) (List.length ([api_Section.mk (0#32) (0#32) (List.replicate (Int.toNat (((List.length (List.getD x4 (Int.toNat x5) (([] : List api_Node))) : Nat) : Int))) (0#32)) (0#32) (0#32) (List.replicate (Int.toNat (((List.length (List.getD x4 (Int.toNat x5) (([] : List api_Node))) : Nat) : Int))) (0#32))])) (encW o_api_Section d_api_Section ([api_Section.mk (0#32) (0#32) (List.replicate (Int.toNat (((List.length (List.getD x4 (Int.toNat x5) (([] : List api_Node))) : Nat) : Int))) (0#32)) (0#32) (0#32) (List.replicate (Int.toNat (((List.length (List.getD x4 (Int.toNat x5) (([] : List api_Node))) : Nat) : Int))) (0#32))])) (encW o_api_Section d_api_Section x0 (List.length x0)) [] [(4, .gone)] [(1, false), (4, false)] (by first | exact Nat.le_refl _ | exact Nat.zero_le _ | (simp only [decide_eq_true_eq, List.length_set, List.length_append, List.length_replicate, List.length_cons, List.length_nil, Nat.zero_add] at * <;> omega)) rfl (fun _ => rfl) (congrArg o_api_Section (getD_ge d_api_Section (by first | exact Nat.le_refl _ | exact Nat.zero_le _ | (simp only [decide_eq_true_eq, List.length_set, List.length_append, List.length_replicate, List.length_cons, List.length_nil, Nat.zero_add] at * <;> omega)))) (by rw [List.take_of_length_le (by first | exact Nat.le_refl _ | exact Nat.zero_le _ | (simp only [decide_eq_true_eq, List.length_set, List.length_append, List.length_replicate, List.length_cons, List.length_nil, Nat.zero_add] at * <;> omega))])) <| pk <| pz) (ih (x0 ++ ([api_Section.mk (0#32) (0#32) (List.replicate (Int.toNat (((List.length (List.getD x4 (Int.toNat x5) (([] : List api_Node))) : Nat) : Int))) (0#32)) (0#32) (0#32) (List.replicate (Int.toNat (((List.length (List.getD x4 (Int.toNat x5) (([] : List api_Node))) : Nat) : Int))) (0#32))])) (iAdd x5 1) _ h)
 · have h := Option.some.inj h; subst h
   exact plast mixed lives 16 (by kernel_rfl) (pk3 <| pb c11 <| pz) rfl
/-- alibi/alibilaw15.MustLess -/
def alibilaw15_MustLess (p : api_Program) : Option (Bool) :=
  bind (alibilaw15_awake) fun v1 =>
  if (!v1) = true then
    bind (alibilaw15_awake) fun v4 =>
    some v4
  else
    bind (alibiref05_Small p) fun v6 =>
    if (!v6) = true then
      bind (alibilaw15_awake) fun v9 =>
      some v9
    else
      bind (alibilaw15_MustLess_l5 (([] : List api_Section)) p.globals p.locks p.slots p.funcs 0) fun v17 =>
      bind (must_Check p v17) fun v19 =>
      bind (alibiref05_Check p) fun v21 =>
      if ((v19.2 : Int) == v21.2.2) = true then
        some (((v19.1.func : Int) == (0 : Int)) && (((v19.1.node : Int) == (0 : Int)) && (((v19.1.what : Int) == (0 : Int)) && true)))
      else
        some false
theorem alibilaw15_MustLess_ok (p : api_Program) (r : Bool) (h : alibilaw15_MustLess p = some r) : Does Try.prog 16 [.agg [.pv (.int .i64 p.globals), .pv (.int .i64 p.locks), .pv (.int .i64 p.slots), .pv (.seq (List.length p.funcs) (encP e_61 ([] : List api_Node) p.funcs))]] [] (.pv (.bool r), []) := by
 unfold alibilaw15_MustLess at h
 obtain ⟨v1, h2, h⟩ := bind_of h
 rcases if_of h with ⟨c3, h⟩ | ⟨c3, h⟩
 · obtain ⟨v4, h5, h⟩ := bind_of h
   have h := Option.some.inj h; subst h
   exact pdoes mixed (L := lives) (by kernel_rfl) (pk <| pc (alibilaw15_awake_ok _ h2) <| pk2 <| pb c3 <| pk4 <| pc (alibilaw15_awake_ok _ h5) <| pk <| pz)
 · obtain ⟨v6, h7, h⟩ := bind_of h
   rcases if_of h with ⟨c8, h⟩ | ⟨c8, h⟩
   · obtain ⟨v9, h10, h⟩ := bind_of h
     have h := Option.some.inj h; subst h
     exact pdoes mixed (L := lives) (by kernel_rfl) (pk <| pc (alibilaw15_awake_ok _ h2) <| pk2 <| pb c3 <| pk2 <| pc (alibiref05_Small_ok _ _ h7) <| pk4 <| pb c8 <| pc (alibilaw15_awake_ok _ h10) <| pk <| pz)
   · obtain ⟨v17, h18, h⟩ := bind_of h
     obtain ⟨v19, h20, h⟩ := bind_of h
     obtain ⟨v21, h22, h⟩ := bind_of h
     rcases if_of h with ⟨c23, h⟩ | ⟨c23, h⟩
     · have h := Option.some.inj h; subst h
       exact pdoes mixed (L := lives) (by kernel_rfl) (pk <| pc (alibilaw15_awake_ok _ h2) <| pk2 <| pb c3 <| pk2 <| pc (alibiref05_Small_ok _ _ h7) <| pk4 <| pb c8 <| pl (Loops.of (s1 := ⟨dead :: .ptr 0 [] 0 0 :: dead :: .ms 1 [] 0 (List.length ([] : List api_Section)) :: .pv (.int .i64 0) :: List.replicate 55 dead, [.box 0 [.pv (.int .i64 p.globals), .pv (.int .i64 p.locks), .pv (.int .i64 p.slots), .pv (.seq (List.length p.funcs) (encP e_61 ([] : List api_Node) p.funcs))], .arr 0 6 (List.length ([] : List api_Section)) (encW o_api_Section d_api_Section (([] : List api_Section)))]⟩) (alibilaw15_MustLess_l5_ok _ _ _ _ _ _ _ h18) (by (first | rfl | (simp only [alibilaw15_MustLess_l5_s, List.length_set]; done)))) <| pk <| pb (whole_ok (List.length v17)) <| pc (must_Check_ok _ _ _ h20) <| pk4 <| pc (alibiref05_Check_ok _ _ h22) <| pk2 <| pb c23 <| pk6 <| pz)
     · have h := Option.some.inj h; subst h
       exact pdoes mixed (L := lives) (by kernel_rfl) (pk <| pc (alibilaw15_awake_ok _ h2) <| pk2 <| pb c3 <| pk2 <| pc (alibiref05_Small_ok _ _ h7) <| pk4 <| pb c8 <| pl (Loops.of (s1 := ⟨dead :: .ptr 0 [] 0 0 :: dead :: .ms 1 [] 0 (List.length ([] : List api_Section)) :: .pv (.int .i64 0) :: List.replicate 55 dead, [.box 0 [.pv (.int .i64 p.globals), .pv (.int .i64 p.locks), .pv (.int .i64 p.slots), .pv (.seq (List.length p.funcs) (encP e_61 ([] : List api_Node) p.funcs))], .arr 0 6 (List.length ([] : List api_Section)) (encW o_api_Section d_api_Section (([] : List api_Section)))]⟩) (alibilaw15_MustLess_l5_ok _ _ _ _ _ _ _ h18) (by (first | rfl | (simp only [alibilaw15_MustLess_l5_s, List.length_set]; done)))) <| pk <| pb (whole_ok (List.length v17)) <| pc (must_Check_ok _ _ _ h20) <| pk4 <| pc (alibiref05_Check_ok _ _ h22) <| pk2 <| pb c23 <| pk3 <| pz)
noncomputable def alibilaw15_MustUnion_l13_c : Code := sub (codeOf Try.prog 17) [1, 1, 1, 1, 1, 1, 0, 1, 0, 0, 1, 0, 0, 1, 0, 1, 0, 0]
def alibilaw15_MustUnion_l13 (x0 : List api_Section) (x1 : List (BitVec 32)) (x2 : List (BitVec 32)) (x3 : Int) (x4 : Int) (x5 : Int) (x6 : List (List api_Node)) (x7 : BitVec 32) (x8 : BitVec 32) (x9 : BitVec 32) (x10 : BitVec 32) (x11 : List api_Section) (x12 : List api_Section) (x13 : Int) (x14 : Int) : Option ((List (BitVec 32))) :=
  if (decide ((0 : Int) ≤ x13)) = true then
    if (decide ((x13 : Int) < ((List.length x11 : Nat) : Int))) = true then
      if (decide ((x14 : Int) < (((List.length ((List.getD x11 (Int.toNat x13) d_api_Section).held) : Nat) : Int)))) = true then
        if (decide ((0 : Int) ≤ x14)) = true then
          if (decide ((x14 : Int) < ((List.length ((List.getD x11 (Int.toNat x13) d_api_Section).held) : Nat) : Int))) = true then
            if (decide ((x13 : Int) < ((List.length x12 : Nat) : Int))) = true then
              if (decide ((x14 : Int) < ((List.length ((List.getD x12 (Int.toNat x13) d_api_Section).held) : Nat) : Int))) = true then
                if (Nat.ble ((List.length x1 + List.length ([(List.getD ((List.getD x11 (Int.toNat x13) d_api_Section).held) (Int.toNat x14) (0#32)) ||| (List.getD ((List.getD x12 (Int.toNat x13) d_api_Section).held) (Int.toNat x14) (0#32))])) * 4) reach) = true then
                  alibilaw15_MustUnion_l13 x0 (x1 ++ ([(List.getD ((List.getD x11 (Int.toNat x13) d_api_Section).held) (Int.toNat x14) (0#32)) ||| (List.getD ((List.getD x12 (Int.toNat x13) d_api_Section).held) (Int.toNat x14) (0#32))])) x2 x3 x4 x5 x6 x7 x8 x9 x10 x11 x12 x13 (iAdd x14 1)
                else none
              else none
            else none
          else none
        else none
      else
        some x1
    else none
  else none
partial_fixpoint
noncomputable abbrev alibilaw15_MustUnion_l13_s (x0 : List api_Section) (x1 : List (BitVec 32)) (x2 : List (BitVec 32)) (x3 : Int) (x4 : Int) (x5 : Int) (x6 : List (List api_Node)) (x7 : BitVec 32) (x8 : BitVec 32) (x9 : BitVec 32) (x10 : BitVec 32) (x11 : List api_Section) (x12 : List api_Section) (x13 : Int) (x14 : Int) : St := ⟨dead :: .pv (.seq (List.length x11) (encP e_api_Section d_api_Section x11)) :: .pv (.seq (List.length x12) (encP e_api_Section d_api_Section x12)) :: .ptr 0 [] 0 0 :: (List.replicate 7 dead ++ (.ms 1 [] 0 (List.length x0) :: .pv (.int .i64 x13) :: .ptr 2 [] 0 0 :: .pv (.int .i64 x14) :: List.replicate 129 dead)), [.box 0 [.pv (.int .i64 x3), .pv (.int .i64 x4), .pv (.int .i64 x5), .pv (.seq (List.length x6) (encP e_61 ([] : List api_Node) x6))], .arr 0 6 (List.length x0) (encW o_api_Section d_api_Section x0), .box 0 [.pv (.int .u32 (BitVec.toNat x7 : Nat)), .pv (.int .u32 (BitVec.toNat x8 : Nat)), .ms 3 [] 0 (List.length x1), .pv (.int .u32 (BitVec.toNat x9 : Nat)), .pv (.int .u32 (BitVec.toNat x10 : Nat)), .ms 4 [] 0 (List.length x2)], .arr 0 1 (List.length x1) (encW o_u32 0#32 x1), .arr 0 1 (List.length x2) (encW o_u32 0#32 x2)]⟩
noncomputable abbrev alibilaw15_MustUnion_l13_e (x0 : List api_Section) (x1 : List (BitVec 32)) (x2 : List (BitVec 32)) (x3 : Int) (x4 : Int) (x5 : Int) (x6 : List (List api_Node)) (x7 : BitVec 32) (x8 : BitVec 32) (x9 : BitVec 32) (x10 : BitVec 32) (x11 : List api_Section) (x12 : List api_Section) (x13 : Int) (x14 : Int) (r : (List (BitVec 32))) : St := ⟨dead :: .pv (.seq (List.length x11) (encP e_api_Section d_api_Section x11)) :: .pv (.seq (List.length x12) (encP e_api_Section d_api_Section x12)) :: .ptr 0 [] 0 0 :: (List.replicate 7 dead ++ (.ms 1 [] 0 (List.length x0) :: .pv (.int .i64 x13) :: .ptr 2 [] 0 0 :: List.replicate 130 dead)), [.box 0 [.pv (.int .i64 x3), .pv (.int .i64 x4), .pv (.int .i64 x5), .pv (.seq (List.length x6) (encP e_61 ([] : List api_Node) x6))], .arr 0 6 (List.length x0) (encW o_api_Section d_api_Section x0), .box 0 [.pv (.int .u32 (BitVec.toNat x7 : Nat)), .pv (.int .u32 (BitVec.toNat x8 : Nat)), .ms 3 [] 0 (List.length r), .pv (.int .u32 (BitVec.toNat x9 : Nat)), .pv (.int .u32 (BitVec.toNat x10 : Nat)), .ms 4 [] 0 (List.length x2)], .arr 0 1 (List.length r) (encW o_u32 0#32 r), .arr 0 1 (List.length x2) (encW o_u32 0#32 x2)]⟩
theorem alibilaw15_MustUnion_l13_ok (x0 : List api_Section) (x1 : List (BitVec 32)) (x2 : List (BitVec 32)) (x3 : Int) (x4 : Int) (x5 : Int) (x6 : List (List api_Node)) (x7 : BitVec 32) (x8 : BitVec 32) (x9 : BitVec 32) (x10 : BitVec 32) (x11 : List api_Section) (x12 : List api_Section) (x13 : Int) (x14 : Int) (r : (List (BitVec 32))) (h : alibilaw15_MustUnion_l13 x0 x1 x2 x3 x4 x5 x6 x7 x8 x9 x10 x11 x12 x13 x14 = some r) : Loops Try.prog alibilaw15_MustUnion_l13_c 0 (alibilaw15_MustUnion_l13_s x0 x1 x2 x3 x4 x5 x6 x7 x8 x9 x10 x11 x12 x13 x14) (.exit 2) (alibilaw15_MustUnion_l13_e x0 x1 x2 x3 x4 x5 x6 x7 x8 x9 x10 x11 x12 x13 x14 r) := by
 refine alibilaw15_MustUnion_l13.partial_correctness x0 x2 x3 x4 x5 x6 x7 x8 x9 x10 x11 x12 x13 (fun x1 x14 r => Loops Try.prog alibilaw15_MustUnion_l13_c 0 (alibilaw15_MustUnion_l13_s x0 x1 x2 x3 x4 x5 x6 x7 x8 x9 x10 x11 x12 x13 x14) (.exit 2) (alibilaw15_MustUnion_l13_e x0 x1 x2 x3 x4 x5 x6 x7 x8 x9 x10 x11 x12 x13 x14 r)) ?_ x1 x14 r h
 clear h r x1 x14
 intro self ih x1 x14 r h
 obtain ⟨c33, h⟩ := need_of h
 obtain ⟨c34, h⟩ := need_of h
 rcases if_of h with ⟨c35, h⟩ | ⟨c35, h⟩
 · obtain ⟨c36, h⟩ := need_of h
   obtain ⟨c37, h⟩ := need_of h
   obtain ⟨c38, h⟩ := need_of h
   obtain ⟨c39, h⟩ := need_of h
   obtain ⟨c40, h⟩ := need_of h
   exact pmore mixed lives 17 (by kernel_rfl) (pn c33 <| pn c34 <| pk3 <| pb c35 <| pk <| pn c33 <| pn c34 <| pk <| pn c36 <| pn c37 <| pk <| pn c33 <| pn c38 <| pk <| pn c36 <| pn c39 <| pk <| pe (eff_int (k := .u32) (un_or .u32 rfl (List.getD ((List.getD x11 (Int.toNat x13) d_api_Section).held) (Int.toNat x14) (0#32)) (List.getD ((List.getD x12 (Int.toNat x13) d_api_Section).held) (Int.toNat x14) (0#32)))) <| pe (eff_lit o_u32 (0#32) 5 1 1 ([(List.getD ((List.getD x11 (Int.toNat x13) d_api_Section).held) (Int.toNat x14) (0#32)) ||| (List.getD ((List.getD x12 (Int.toNat x13) d_api_Section).held) (Int.toNat x14) (0#32))]) rfl [] []) <| pb (whole_ok (List.length ([(List.getD ((List.getD x11 (Int.toNat x13) d_api_Section).held) (Int.toNat x14) (0#32)) ||| (List.getD ((List.getD x12 (Int.toNat x13) d_api_Section).held) (Int.toNat x14) (0#32))]))) <| pn c40 <| pe (eff_app o_u32 (0#32) x1 ([(List.getD ((List.getD x11 (Int.toNat x13) d_api_Section).held) (Int.toNat x14) (0#32)) ||| (List.getD ((List.getD x12 (Int.toNat x13) d_api_Section).held) (Int.toNat x14) (0#32))]) (x1 ++ ([(List.getD ((List.getD x11 (Int.toNat x13) d_api_Section).held) (Int.toNat x14) (0#32)) ||| (List.getD ((List.getD x12 (Int.toNat x13) d_api_Section).held) (Int.toNat x14) (0#32))])) 3 1 (List.length x1) (List.length ([(List.getD ((List.getD x11 (Int.toNat x13) d_api_Section).held) (Int.toNat x14) (0#32)) ||| (List.getD ((List.getD x12 (Int.toNat x13) d_api_Section).held) (Int.toNat x14) (0#32))])) (fun i => List.map AV.scal (encW o_u32 (0#32) ([(List.getD ((List.getD x11 (Int.toNat x13) d_api_Section).held) (Int.toNat x14) (0#32)) ||| (List.getD ((List.getD x12 (Int.toNat x13) d_api_Section).held) (Int.toNat x14) (0#32))]) i)) (encW o_u32 (0#32) x1 (List.length x1)) [] [] [(3, false)] (by first | exact Nat.le_refl _ | exact Nat.zero_le _ | (simp only [decide_eq_true_eq, List.length_set, List.length_append, List.length_replicate, List.length_cons, List.length_nil, Nat.zero_add] at * <;> omega)) rfl (fun _ => by kernel_rfl) (congrArg o_u32 (getD_ge (0#32) (by first | exact Nat.le_refl _ | exact Nat.zero_le _ | (simp only [decide_eq_true_eq, List.length_set, List.length_append, List.length_replicate, List.length_cons, List.length_nil, Nat.zero_add] at * <;> omega)))) (by rw [List.take_of_length_le (by first | exact Nat.le_refl _ | exact Nat.zero_le _ | (simp only [decide_eq_true_eq, List.length_set, List.length_append, List.length_replicate, List.length_cons, List.length_nil, Nat.zero_add] at * <;> omega))])) <| pk2 <| pz) (ih (x1 ++ ([(List.getD ((List.getD x11 (Int.toNat x13) d_api_Section).held) (Int.toNat x14) (0#32)) ||| (List.getD ((List.getD x12 (Int.toNat x13) d_api_Section).held) (Int.toNat x14) (0#32))])) (iAdd x14 1) _ h)
 · have h := Option.some.inj h; subst h
   exact plast mixed lives 17 (by kernel_rfl) (pn c33 <| pn c34 <| pk3 <| pb c35 <| pz) rfl
noncomputable def alibilaw15_MustUnion_l9_c : Code := sub (codeOf Try.prog 17) [1, 1, 1, 1, 1, 1, 0, 1, 0, 0]
def alibilaw15_MustUnion_l9 (x0 : List api_Section) (x1 : Int) (x2 : Int) (x3 : Int) (x4 : List (List api_Node)) (x5 : List api_Section) (x6 : List api_Section) (x7 : Int) : Option ((List api_Section)) :=
  if (decide ((x7 : Int) < (((List.length x5 : Nat) : Int)))) = true then
    if (decide ((0 : Int) ≤ x7)) = true then
      if (decide ((x7 : Int) < ((List.length x5 : Nat) : Int))) = true then
        if (decide ((x7 : Int) < ((List.length x6 : Nat) : Int))) = true then
          if (Nat.ble ((List.length (([] : List (BitVec 32))) + List.length ((List.getD x5 (Int.toNat x7) d_api_Section).live)) * 4) reach) = true then
            bind (alibilaw15_MustUnion_l13 x0 (([] : List (BitVec 32))) (([] : List (BitVec 32)) ++ ((List.getD x5 (Int.toNat x7) d_api_Section).live)) x1 x2 x3 x4 (((List.getD x5 (Int.toNat x7) d_api_Section).entry) ||| ((List.getD x6 (Int.toNat x7) d_api_Section).entry)) (((List.getD x5 (Int.toNat x7) d_api_Section).exit) ||| ((List.getD x6 (Int.toNat x7) d_api_Section).exit)) (0#32) (0#32) x5 x6 x7 0) fun v41 =>
            if (Nat.ble ((List.length x0 + List.length ([api_Section.mk (((List.getD x5 (Int.toNat x7) d_api_Section).entry) ||| ((List.getD x6 (Int.toNat x7) d_api_Section).entry)) (((List.getD x5 (Int.toNat x7) d_api_Section).exit) ||| ((List.getD x6 (Int.toNat x7) d_api_Section).exit)) v41 (0#32) (0#32) (([] : List (BitVec 32)) ++ ((List.getD x5 (Int.toNat x7) d_api_Section).live))])) * 64) reach) = true then
              alibilaw15_MustUnion_l9 (x0 ++ ([api_Section.mk (((List.getD x5 (Int.toNat x7) d_api_Section).entry) ||| ((List.getD x6 (Int.toNat x7) d_api_Section).entry)) (((List.getD x5 (Int.toNat x7) d_api_Section).exit) ||| ((List.getD x6 (Int.toNat x7) d_api_Section).exit)) v41 (0#32) (0#32) (([] : List (BitVec 32)) ++ ((List.getD x5 (Int.toNat x7) d_api_Section).live))])) x1 x2 x3 x4 x5 x6 (iAdd x7 1)
            else none
          else none
        else none
      else none
    else none
  else
    some x0
partial_fixpoint
noncomputable abbrev alibilaw15_MustUnion_l9_s (x0 : List api_Section) (x1 : Int) (x2 : Int) (x3 : Int) (x4 : List (List api_Node)) (x5 : List api_Section) (x6 : List api_Section) (x7 : Int) : St := ⟨dead :: .pv (.seq (List.length x5) (encP e_api_Section d_api_Section x5)) :: .pv (.seq (List.length x6) (encP e_api_Section d_api_Section x6)) :: .ptr 0 [] 0 0 :: (List.replicate 7 dead ++ (.ms 1 [] 0 (List.length x0) :: .pv (.int .i64 x7) :: List.replicate 131 dead)), [.box 0 [.pv (.int .i64 x1), .pv (.int .i64 x2), .pv (.int .i64 x3), .pv (.seq (List.length x4) (encP e_61 ([] : List api_Node) x4))], .arr 0 6 (List.length x0) (encW o_api_Section d_api_Section x0)]⟩
noncomputable abbrev alibilaw15_MustUnion_l9_e (x0 : List api_Section) (x1 : Int) (x2 : Int) (x3 : Int) (x4 : List (List api_Node)) (x5 : List api_Section) (x6 : List api_Section) (x7 : Int) (r : (List api_Section)) : St := ⟨dead :: dead :: dead :: .ptr 0 [] 0 0 :: (List.replicate 7 dead ++ (.ms 1 [] 0 (List.length r) :: List.replicate 132 dead)), [.box 0 [.pv (.int .i64 x1), .pv (.int .i64 x2), .pv (.int .i64 x3), .pv (.seq (List.length x4) (encP e_61 ([] : List api_Node) x4))], .arr 0 6 (List.length r) (encW o_api_Section d_api_Section r)]⟩
theorem alibilaw15_MustUnion_l9_ok (x0 : List api_Section) (x1 : Int) (x2 : Int) (x3 : Int) (x4 : List (List api_Node)) (x5 : List api_Section) (x6 : List api_Section) (x7 : Int) (r : (List api_Section)) (h : alibilaw15_MustUnion_l9 x0 x1 x2 x3 x4 x5 x6 x7 = some r) : Loops Try.prog alibilaw15_MustUnion_l9_c 0 (alibilaw15_MustUnion_l9_s x0 x1 x2 x3 x4 x5 x6 x7) (.exit 0) (alibilaw15_MustUnion_l9_e x0 x1 x2 x3 x4 x5 x6 x7 r) := by
 refine alibilaw15_MustUnion_l9.partial_correctness x1 x2 x3 x4 x5 x6 (fun x0 x7 r => Loops Try.prog alibilaw15_MustUnion_l9_c 0 (alibilaw15_MustUnion_l9_s x0 x1 x2 x3 x4 x5 x6 x7) (.exit 0) (alibilaw15_MustUnion_l9_e x0 x1 x2 x3 x4 x5 x6 x7 r)) ?_ x0 x7 r h
 clear h r x0 x7
 intro self ih x0 x7 r h
 rcases if_of h with ⟨c28, h⟩ | ⟨c28, h⟩
 · obtain ⟨c29, h⟩ := need_of h
   obtain ⟨c30, h⟩ := need_of h
   obtain ⟨c31, h⟩ := need_of h
   obtain ⟨c32, h⟩ := need_of h
   obtain ⟨v41, h42, h⟩ := bind_of h
   obtain ⟨c43, h⟩ := need_of h
   exact pmore mixed lives 17 (by kernel_rfl) (pk2 <| pb c28 <| pn c29 <| pn c30 <| pk <| pn c29 <| pn c31 <| pk <| pe (eff_int (k := .u32) (un_or .u32 rfl ((List.getD x5 (Int.toNat x7) d_api_Section).entry) ((List.getD x6 (Int.toNat x7) d_api_Section).entry))) <| pn c29 <| pn c30 <| pk <| pn c29 <| pn c31 <| pk <| pe (eff_int (k := .u32) (un_or .u32 rfl ((List.getD x5 (Int.toNat x7) d_api_Section).exit) ((List.getD x6 (Int.toNat x7) d_api_Section).exit))) <| pe (eff_lit o_u32 (0#32) 2 1 0 (([] : List (BitVec 32))) rfl [] []) <| pn c29 <| pn c30 <| pk <| pn c32 <| pe (eff_app o_u32 (0#32) (([] : List (BitVec 32))) ((List.getD x5 (Int.toNat x7) d_api_Section).live) (([] : List (BitVec 32)) ++ ((List.getD x5 (Int.toNat x7) d_api_Section).live)) 2 1 (List.length (([] : List (BitVec 32)))) (List.length ((List.getD x5 (Int.toNat x7) d_api_Section).live)) (fun i => List.map AV.pv (encP e_u32 (0#32) ((List.getD x5 (Int.toNat x7) d_api_Section).live) i)) (encW o_u32 (0#32) (([] : List (BitVec 32))) (List.length (([] : List (BitVec 32))))) [] [] [(2, false)] (by first | exact Nat.le_refl _ | exact Nat.zero_le _ | (simp only [decide_eq_true_eq, List.length_set, List.length_append, List.length_replicate, List.length_cons, List.length_nil, Nat.zero_add] at * <;> omega)) rfl (fun _ => by kernel_rfl) (congrArg o_u32 (getD_ge (0#32) (by first | exact Nat.le_refl _ | exact Nat.zero_le _ | (simp only [decide_eq_true_eq, List.length_set, List.length_append, List.length_replicate, List.length_cons, List.length_nil, Nat.zero_add] at * <;> omega)))) (by rw [List.take_of_length_le (by first | exact Nat.le_refl _ | exact Nat.zero_le _ | (simp only [decide_eq_true_eq, List.length_set, List.length_append, List.length_replicate, List.length_cons, List.length_nil, Nat.zero_add] at * <;> omega))])) <| pk3 <| pl (Loops.of (s1 := ⟨dead :: .pv (.seq (List.length x5) (encP e_api_Section d_api_Section x5)) :: .pv (.seq (List.length x6) (encP e_api_Section d_api_Section x6)) :: .ptr 0 [] 0 0 :: (List.replicate 7 dead ++ (.ms 1 [] 0 (List.length x0) :: .pv (.int .i64 x7) :: .ptr 2 [] 0 0 :: .pv (.int .i64 0) :: List.replicate 129 dead)), [.box 0 [.pv (.int .i64 x1), .pv (.int .i64 x2), .pv (.int .i64 x3), .pv (.seq (List.length x4) (encP e_61 ([] : List api_Node) x4))], .arr 0 6 (List.length x0) (encW o_api_Section d_api_Section x0), .box 0 [.pv (.int .u32 (BitVec.toNat (((List.getD x5 (Int.toNat x7) d_api_Section).entry) ||| ((List.getD x6 (Int.toNat x7) d_api_Section).entry)) : Nat)), .pv (.int .u32 (BitVec.toNat (((List.getD x5 (Int.toNat x7) d_api_Section).exit) ||| ((List.getD x6 (Int.toNat x7) d_api_Section).exit)) : Nat)), .ms 3 [] 0 (List.length ([] : List (BitVec 32))), .pv (.int .u32 (BitVec.toNat (0#32) : Nat)), .pv (.int .u32 (BitVec.toNat (0#32) : Nat)), .ms 4 [] 0 (List.length (([] : List (BitVec 32)) ++ ((List.getD x5 (Int.toNat x7) d_api_Section).live)))], .arr 0 1 (List.length ([] : List (BitVec 32))) (encW o_u32 0#32 (([] : List (BitVec 32)))), .arr 0 1 (List.length (([] : List (BitVec 32)) ++ ((List.getD x5 (Int.toNat x7) d_api_Section).live))) (encW o_u32 0#32 (([] : List (BitVec 32)) ++ ((List.getD x5 (Int.toNat x7) d_api_Section).live)))]⟩) (alibilaw15_MustUnion_l13_ok _ _ _ _ _ _ _ _ _ _ _ _ _ _ _ _ h42) (by (first | rfl | (simp only [alibilaw15_MustUnion_l13_s, List.length_set]; done)))) <| pk <| pb (whole_ok (List.length v41)) <| pb (whole_ok (List.length (([] : List (BitVec 32)) ++ ((List.getD x5 (Int.toNat x7) d_api_Section).live)))) <| pe (eff_lit o_api_Section d_api_Section 5 6 1 ([api_Section.mk (((List.getD x5 (Int.toNat x7) d_api_Section).entry) ||| ((List.getD x6 (Int.toNat x7) d_api_Section).entry)) (((List.getD x5 (Int.toNat x7) d_api_Section).exit) ||| ((List.getD x6 (Int.toNat x7) d_api_Section).exit)) v41 (0#32) (0#32) (([] : List (BitVec 32)) ++ ((List.getD x5 (Int.toNat x7) d_api_Section).live))]) rfl [(3, .gone), (4, .gone)] [(3, false), (4, false)]) <| pb (whole_ok (List.length ([api_Section.mk (((List.getD x5 (Int.toNat x7) d_api_Section).entry) ||| ((List.getD x6 (Int.toNat x7) d_api_Section).entry)) (((List.getD x5 (Int.toNat x7) d_api_Section).exit) ||| ((List.getD x6 (Int.toNat x7) d_api_Section).exit)) v41 (0#32) (0#32) (([] : List (BitVec 32)) ++ ((List.getD x5 (Int.toNat x7) d_api_Section).live))]))) <| pn c43 <| pe (eff_app o_api_Section d_api_Section x0 ([api_Section.mk (((List.getD x5 (Int.toNat x7) d_api_Section).entry) ||| ((List.getD x6 (Int.toNat x7) d_api_Section).entry)) (((List.getD x5 (Int.toNat x7) d_api_Section).exit) ||| ((List.getD x6 (Int.toNat x7) d_api_Section).exit)) v41 (0#32) (0#32) (([] : List (BitVec 32)) ++ ((List.getD x5 (Int.toNat x7) d_api_Section).live))]) (x0 ++ ([api_Section.mk (((List.getD x5 (Int.toNat x7) d_api_Section).entry) ||| ((List.getD x6 (Int.toNat x7) d_api_Section).entry)) (((List.getD x5 (Int.toNat x7) d_api_Section).exit) ||| ((List.getD x6 (Int.toNat x7) d_api_Section).exit)) v41 (0#32) (0#32) (([] : List (BitVec 32)) ++ ((List.getD x5 (Int.toNat x7) d_api_Section).live))])) 1 6 (List.length x0) (List.length ([api_Section.mk (((List.getD x5 (Int.toNat x7) d_api_Section).entry) ||| ((List.getD x6 (Int.toNat x7) d_api_Section).entry)) (((List.getD x5 (Int.toNat x7) d_api_Section).exit) ||| ((List.getD x6 (Int.toNat x7) d_api_Section).exit)) v41 (0#32) (0#32) (([] : List (BitVec 32)) ++ ((List.getD x5 (Int.toNat x7) d_api_Section).live))])) (encW o_api_Section d_api_Section ([api_Section.mk (((List.getD x5 (Int.toNat x7) d_api_Section).entry) ||| ((List.getD x6 (Int.toNat x7) d_api_Section).entry)) (((List.getD x5 (Int.toNat x7) d_api_Section).exit) ||| ((List.getD x6 (Int.toNat x7) d_api_Section).exit)) v41 (0#32) (0#32) (([] : List (BitVec 32)) ++ ((List.getD x5 (Int.toNat x7) d_api_Section).live))])) (encW o_api_Section d_api_Section x0 (List.length x0)) [] [(5, .gone)] [(1, false), (5, false)] (by first | exact Nat.le_refl _ | exact Nat.zero_le _ | (simp only [decide_eq_true_eq, List.length_set, List.length_append, List.length_replicate, List.length_cons, List.length_nil, Nat.zero_add] at * <;> omega)) rfl (fun _ => rfl) (congrArg o_api_Section (getD_ge d_api_Section (by first | exact Nat.le_refl _ | exact Nat.zero_le _ | (simp only [decide_eq_true_eq, List.length_set, List.length_append, List.length_replicate, List.length_cons, List.length_nil, Nat.zero_add] at * <;> omega)))) (by rw [List.take_of_length_le (by first | exact Nat.le_refl _ | exact Nat.zero_le _ | (simp only [decide_eq_true_eq, List.length_set, List.length_append, List.length_replicate, List.length_cons, List.length_nil, Nat.zero_add] at * <;> omega))])) <| pk <| pz) (ih (x0 ++ ([api_Section.mk (((List.getD x5 (Int.toNat x7) d_api_Section).entry) ||| ((List.getD x6 (Int.toNat x7) d_api_Section).entry)) (((List.getD x5 (Int.toNat x7) d_api_Section).exit) ||| ((List.getD x6 (Int.toNat x7) d_api_Section).exit)) v41 (0#32) (0#32) (([] : List (BitVec 32)) ++ ((List.getD x5 (Int.toNat x7) d_api_Section).live))])) (iAdd x7 1) _ h)
 · have h := Option.some.inj h; subst h
   exact plast mixed lives 17 (by kernel_rfl) (pk2 <| pb c28 <| pz) rfl
/-- alibi/alibilaw15.MustUnion -/
def alibilaw15_MustUnion (p : api_Program) (a : List api_Section) (b : List api_Section) : Option (Bool) :=
  bind (alibilaw15_awake) fun v1 =>
  if (!v1) = true then
    bind (alibilaw15_awake) fun v4 =>
    some v4
  else
    bind (alibiref05_Small p) fun v6 =>
    if (!v6) = true then
      bind (alibilaw15_awake) fun v9 =>
      some v9
    else
      bind (alibiref15_Few a) fun v11 =>
      if (!v11) = true then
        bind (alibilaw15_awake) fun v14 =>
        some v14
      else
        bind (alibiref15_Few b) fun v16 =>
        if (!v16) = true then
          bind (alibilaw15_awake) fun v19 =>
          some v19
        else
          bind (must_Check p a) fun v21 =>
          bind (must_Check p b) fun v23 =>
          if ((v21.2 : Int) != 0) = true then
            some true
          else
            if ((v21.1.what : Int) != 0) = true then
              some true
            else
              if ((v23.1.what : Int) != 0) = true then
                some true
              else
                bind (alibilaw15_MustUnion_l9 (([] : List api_Section)) p.globals p.locks p.slots p.funcs a b 0) fun v44 =>
                bind (must_Check p v44) fun v46 =>
                if ((v46.2 : Int) == 0) = true then
                  some (((v46.1.func : Int) == (0 : Int)) && (((v46.1.node : Int) == (0 : Int)) && (((v46.1.what : Int) == (0 : Int)) && true)))
                else
                  some false
theorem alibilaw15_MustUnion_ok (p : api_Program) (a : List api_Section) (b : List api_Section) (r : Bool) (h : alibilaw15_MustUnion p a b = some r) : Does Try.prog 17 [.agg [.pv (.int .i64 p.globals), .pv (.int .i64 p.locks), .pv (.int .i64 p.slots), .pv (.seq (List.length p.funcs) (encP e_61 ([] : List api_Node) p.funcs))], .pv (.seq (List.length a) (encP e_api_Section d_api_Section a)), .pv (.seq (List.length b) (encP e_api_Section d_api_Section b))] [] (.pv (.bool r), []) := by
 unfold alibilaw15_MustUnion at h
 obtain ⟨v1, h2, h⟩ := bind_of h
 rcases if_of h with ⟨c3, h⟩ | ⟨c3, h⟩
 · obtain ⟨v4, h5, h⟩ := bind_of h
   have h := Option.some.inj h; subst h
   exact pdoes mixed (L := lives) (by kernel_rfl) (pk <| pc (alibilaw15_awake_ok _ h2) <| pk2 <| pb c3 <| pk8 <| pk4 <| pc (alibilaw15_awake_ok _ h5) <| pk <| pz)
 · obtain ⟨v6, h7, h⟩ := bind_of h
   rcases if_of h with ⟨c8, h⟩ | ⟨c8, h⟩
   · obtain ⟨v9, h10, h⟩ := bind_of h
     have h := Option.some.inj h; subst h
     exact pdoes mixed (L := lives) (by kernel_rfl) (pk <| pc (alibilaw15_awake_ok _ h2) <| pk2 <| pb c3 <| pk2 <| pc (alibiref05_Small_ok _ _ h7) <| pk4 <| pb c8 <| pk8 <| pc (alibilaw15_awake_ok _ h10) <| pk <| pz)
   · obtain ⟨v11, h12, h⟩ := bind_of h
     rcases if_of h with ⟨c13, h⟩ | ⟨c13, h⟩
     · obtain ⟨v14, h15, h⟩ := bind_of h
       have h := Option.some.inj h; subst h
       exact pdoes mixed (L := lives) (by kernel_rfl) (pk <| pc (alibilaw15_awake_ok _ h2) <| pk2 <| pb c3 <| pk2 <| pc (alibiref05_Small_ok _ _ h7) <| pk4 <| pb c8 <| pk <| pc (alibiref15_Few_ok _ _ h12) <| pk4 <| pb c13 <| pk4 <| pc (alibilaw15_awake_ok _ h15) <| pk <| pz)
     · obtain ⟨v16, h17, h⟩ := bind_of h
       rcases if_of h with ⟨c18, h⟩ | ⟨c18, h⟩
       · obtain ⟨v19, h20, h⟩ := bind_of h
         have h := Option.some.inj h; subst h
         exact pdoes mixed (L := lives) (by kernel_rfl) (pk <| pc (alibilaw15_awake_ok _ h2) <| pk2 <| pb c3 <| pk2 <| pc (alibiref05_Small_ok _ _ h7) <| pk4 <| pb c8 <| pk <| pc (alibiref15_Few_ok _ _ h12) <| pk4 <| pb c13 <| pk <| pc (alibiref15_Few_ok _ _ h17) <| pk4 <| pb c18 <| pc (alibilaw15_awake_ok _ h20) <| pk <| pz)
       · obtain ⟨v21, h22, h⟩ := bind_of h
         obtain ⟨v23, h24, h⟩ := bind_of h
         rcases if_of h with ⟨c25, h⟩ | ⟨c25, h⟩
         · have h := Option.some.inj h; subst h
           exact pdoes mixed (L := lives) (by kernel_rfl) (pk <| pc (alibilaw15_awake_ok _ h2) <| pk2 <| pb c3 <| pk2 <| pc (alibiref05_Small_ok _ _ h7) <| pk4 <| pb c8 <| pk <| pc (alibiref15_Few_ok _ _ h12) <| pk4 <| pb c13 <| pk <| pc (alibiref15_Few_ok _ _ h17) <| pk4 <| pb c18 <| pk <| pc (must_Check_ok _ _ _ h22) <| pk4 <| pc (must_Check_ok _ _ _ h24) <| pk4 <| pb c25 <| pk8 <| pz)
         · rcases if_of h with ⟨c26, h⟩ | ⟨c26, h⟩
           · have h := Option.some.inj h; subst h
             exact pdoes mixed (L := lives) (by kernel_rfl) (pk <| pc (alibilaw15_awake_ok _ h2) <| pk2 <| pb c3 <| pk2 <| pc (alibiref05_Small_ok _ _ h7) <| pk4 <| pb c8 <| pk <| pc (alibiref15_Few_ok _ _ h12) <| pk4 <| pb c13 <| pk <| pc (alibiref15_Few_ok _ _ h17) <| pk4 <| pb c18 <| pk <| pc (must_Check_ok _ _ _ h22) <| pk4 <| pc (must_Check_ok _ _ _ h24) <| pk4 <| pb c25 <| pk5 <| pb c26 <| pk4 <| pz)
           · rcases if_of h with ⟨c27, h⟩ | ⟨c27, h⟩
             · have h := Option.some.inj h; subst h
               exact pdoes mixed (L := lives) (by kernel_rfl) (pk <| pc (alibilaw15_awake_ok _ h2) <| pk2 <| pb c3 <| pk2 <| pc (alibiref05_Small_ok _ _ h7) <| pk4 <| pb c8 <| pk <| pc (alibiref15_Few_ok _ _ h12) <| pk4 <| pb c13 <| pk <| pc (alibiref15_Few_ok _ _ h17) <| pk4 <| pb c18 <| pk <| pc (must_Check_ok _ _ _ h22) <| pk4 <| pc (must_Check_ok _ _ _ h24) <| pk4 <| pb c25 <| pk5 <| pb c26 <| pk5 <| pb c27 <| pz)
             · obtain ⟨v44, h45, h⟩ := bind_of h
               obtain ⟨v46, h47, h⟩ := bind_of h
               rcases if_of h with ⟨c48, h⟩ | ⟨c48, h⟩
               · have h := Option.some.inj h; subst h
                 exact pdoes mixed (L := lives) (by kernel_rfl) (pk <| pc (alibilaw15_awake_ok _ h2) <| pk2 <| pb c3 <| pk2 <| pc (alibiref05_Small_ok _ _ h7) <| pk4 <| pb c8 <| pk <| pc (alibiref15_Few_ok _ _ h12) <| pk4 <| pb c13 <| pk <| pc (alibiref15_Few_ok _ _ h17) <| pk4 <| pb c18 <| pk <| pc (must_Check_ok _ _ _ h22) <| pk4 <| pc (must_Check_ok _ _ _ h24) <| pk4 <| pb c25 <| pk5 <| pb c26 <| pk5 <| pb c27 <| pl (Loops.of (s1 := ⟨dead :: .pv (.seq (List.length a) (encP e_api_Section d_api_Section a)) :: .pv (.seq (List.length b) (encP e_api_Section d_api_Section b)) :: .ptr 0 [] 0 0 :: (List.replicate 7 dead ++ (.ms 1 [] 0 (List.length ([] : List api_Section)) :: .pv (.int .i64 0) :: List.replicate 131 dead)), [.box 0 [.pv (.int .i64 p.globals), .pv (.int .i64 p.locks), .pv (.int .i64 p.slots), .pv (.seq (List.length p.funcs) (encP e_61 ([] : List api_Node) p.funcs))], .arr 0 6 (List.length ([] : List api_Section)) (encW o_api_Section d_api_Section (([] : List api_Section)))]⟩) (alibilaw15_MustUnion_l9_ok _ _ _ _ _ _ _ _ _ h45) (by (first | rfl | (simp only [alibilaw15_MustUnion_l9_s, List.length_set]; done)))) <| pk <| pb (whole_ok (List.length v44)) <| pc (must_Check_ok _ _ _ h47) <| pk4 <| pb c48 <| pk6 <| pz)
               · have h := Option.some.inj h; subst h
                 exact pdoes mixed (L := lives) (by kernel_rfl) (pk <| pc (alibilaw15_awake_ok _ h2) <| pk2 <| pb c3 <| pk2 <| pc (alibiref05_Small_ok _ _ h7) <| pk4 <| pb c8 <| pk <| pc (alibiref15_Few_ok _ _ h12) <| pk4 <| pb c13 <| pk <| pc (alibiref15_Few_ok _ _ h17) <| pk4 <| pb c18 <| pk <| pc (must_Check_ok _ _ _ h22) <| pk4 <| pc (must_Check_ok _ _ _ h24) <| pk4 <| pb c25 <| pk5 <| pb c26 <| pk5 <| pb c27 <| pl (Loops.of (s1 := ⟨dead :: .pv (.seq (List.length a) (encP e_api_Section d_api_Section a)) :: .pv (.seq (List.length b) (encP e_api_Section d_api_Section b)) :: .ptr 0 [] 0 0 :: (List.replicate 7 dead ++ (.ms 1 [] 0 (List.length ([] : List api_Section)) :: .pv (.int .i64 0) :: List.replicate 131 dead)), [.box 0 [.pv (.int .i64 p.globals), .pv (.int .i64 p.locks), .pv (.int .i64 p.slots), .pv (.seq (List.length p.funcs) (encP e_61 ([] : List api_Node) p.funcs))], .arr 0 6 (List.length ([] : List api_Section)) (encW o_api_Section d_api_Section (([] : List api_Section)))]⟩) (alibilaw15_MustUnion_l9_ok _ _ _ _ _ _ _ _ _ h45) (by (first | rfl | (simp only [alibilaw15_MustUnion_l9_s, List.length_set]; done)))) <| pk <| pb (whole_ok (List.length v44)) <| pc (must_Check_ok _ _ _ h47) <| pk4 <| pb c48 <| pk3 <| pz)
end Go.Bm.GoYtldkmmnffjdliaa
