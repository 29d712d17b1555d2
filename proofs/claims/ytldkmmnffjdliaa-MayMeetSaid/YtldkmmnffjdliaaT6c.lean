/- Printed by gen2.py. -/
import Derived.Test.YtldkmmnffjdliaaT6b
namespace Go.Bm.GoYtldkmmnffjdliaa
open Go.Proofs
set_option autoImplicit false
set_option linter.unusedVariables false
set_option linter.unusedSimpArgs false
set_option maxRecDepth 100000
set_option synthInstance.maxHeartbeats 400000
set_option synthInstance.maxSize 2048
noncomputable def alibilaw16_MayMeet_l9_c : Code := sub (codeOf Try.prog 20) [1, 1, 1, 1, 1, 1, 0, 1, 0, 0]
def alibilaw16_MayMeet_l9 (x0 : List api_Section) (x1 : Int) (x2 : Int) (x3 : Int) (x4 : List (List api_Node)) (x5 : List api_Section) (x6 : List api_Section) (x7 : Int) : Option ((List api_Section)) :=
  if (decide ((x7 : Int) < (((List.length x5 : Nat) : Int)))) = true then
    if (decide ((0 : Int) ≤ x7)) = true then
      if (decide ((x7 : Int) < ((List.length x5 : Nat) : Int))) = true then
        if (decide ((x7 : Int) < ((List.length x6 : Nat) : Int))) = true then
          if (Nat.ble ((List.length (([] : List (BitVec 32))) + List.length ((List.getD x5 (Int.toNat x7) d_api_Section).held)) * 4) reach) = true then
            bind (alibilaw16_MayMeet_l13 x0 (([] : List (BitVec 32)) ++ ((List.getD x5 (Int.toNat x7) d_api_Section).held)) (([] : List (BitVec 32))) x1 x2 x3 x4 (0#32) (0#32) (((List.getD x5 (Int.toNat x7) d_api_Section).liveEntry) &&& ((List.getD x6 (Int.toNat x7) d_api_Section).liveEntry)) (((List.getD x5 (Int.toNat x7) d_api_Section).liveExit) &&& ((List.getD x6 (Int.toNat x7) d_api_Section).liveExit)) x5 x6 x7 0) fun v41 =>
            if (Nat.ble ((List.length x0 + List.length ([api_Section.mk (0#32) (0#32) (([] : List (BitVec 32)) ++ ((List.getD x5 (Int.toNat x7) d_api_Section).held)) (((List.getD x5 (Int.toNat x7) d_api_Section).liveEntry) &&& ((List.getD x6 (Int.toNat x7) d_api_Section).liveEntry)) (((List.getD x5 (Int.toNat x7) d_api_Section).liveExit) &&& ((List.getD x6 (Int.toNat x7) d_api_Section).liveExit)) v41])) * 64) reach) = true then
              alibilaw16_MayMeet_l9 (x0 ++ ([api_Section.mk (0#32) (0#32) (([] : List (BitVec 32)) ++ ((List.getD x5 (Int.toNat x7) d_api_Section).held)) (((List.getD x5 (Int.toNat x7) d_api_Section).liveEntry) &&& ((List.getD x6 (Int.toNat x7) d_api_Section).liveEntry)) (((List.getD x5 (Int.toNat x7) d_api_Section).liveExit) &&& ((List.getD x6 (Int.toNat x7) d_api_Section).liveExit)) v41])) x1 x2 x3 x4 x5 x6 (iAdd x7 1)
            else none
          else none
        else none
      else none
    else none
  else
    some x0
partial_fixpoint
noncomputable abbrev alibilaw16_MayMeet_l9_s (x0 : List api_Section) (x1 : Int) (x2 : Int) (x3 : Int) (x4 : List (List api_Node)) (x5 : List api_Section) (x6 : List api_Section) (x7 : Int) : St := ⟨dead :: .pv (.seq (List.length x5) (encP e_api_Section d_api_Section x5)) :: .pv (.seq (List.length x6) (encP e_api_Section d_api_Section x6)) :: .ptr 0 [] 0 0 :: (List.replicate 7 dead ++ (.ms 1 [] 0 (List.length x0) :: .pv (.int .i64 x7) :: List.replicate 131 dead)), [.box 0 [.pv (.int .i64 x1), .pv (.int .i64 x2), .pv (.int .i64 x3), .pv (.seq (List.length x4) (encP e_61 ([] : List api_Node) x4))], .arr 0 6 (List.length x0) (encW o_api_Section d_api_Section x0)]⟩
noncomputable abbrev alibilaw16_MayMeet_l9_e (x0 : List api_Section) (x1 : Int) (x2 : Int) (x3 : Int) (x4 : List (List api_Node)) (x5 : List api_Section) (x6 : List api_Section) (x7 : Int) (r : (List api_Section)) : St := ⟨dead :: dead :: dead :: .ptr 0 [] 0 0 :: (List.replicate 7 dead ++ (.ms 1 [] 0 (List.length r) :: List.replicate 132 dead)), [.box 0 [.pv (.int .i64 x1), .pv (.int .i64 x2), .pv (.int .i64 x3), .pv (.seq (List.length x4) (encP e_61 ([] : List api_Node) x4))], .arr 0 6 (List.length r) (encW o_api_Section d_api_Section r)]⟩
theorem alibilaw16_MayMeet_l9_ok (x0 : List api_Section) (x1 : Int) (x2 : Int) (x3 : Int) (x4 : List (List api_Node)) (x5 : List api_Section) (x6 : List api_Section) (x7 : Int) (r : (List api_Section)) (h : alibilaw16_MayMeet_l9 x0 x1 x2 x3 x4 x5 x6 x7 = some r) : Loops Try.prog alibilaw16_MayMeet_l9_c 0 (alibilaw16_MayMeet_l9_s x0 x1 x2 x3 x4 x5 x6 x7) (.exit 0) (alibilaw16_MayMeet_l9_e x0 x1 x2 x3 x4 x5 x6 x7 r) := by
 refine alibilaw16_MayMeet_l9.partial_correctness x1 x2 x3 x4 x5 x6 (fun x0 x7 r => Loops Try.prog alibilaw16_MayMeet_l9_c 0 (alibilaw16_MayMeet_l9_s x0 x1 x2 x3 x4 x5 x6 x7) (.exit 0) (alibilaw16_MayMeet_l9_e x0 x1 x2 x3 x4 x5 x6 x7 r)) ?_ x0 x7 r h
 clear h r x0 x7
 intro self ih x0 x7 r h
 rcases if_of h with ⟨c28, h⟩ | ⟨c28, h⟩
 · obtain ⟨c29, h⟩ := need_of h
   obtain ⟨c30, h⟩ := need_of h
   obtain ⟨c31, h⟩ := need_of h
   obtain ⟨c32, h⟩ := need_of h
   obtain ⟨v41, h42, h⟩ := bind_of h
   obtain ⟨c43, h⟩ := need_of h
   exact pmore mixed lives 20 (by kernel_rfl) (pk2 <| pb c28 <| pn c29 <| pn c30 <| pk <| pn c29 <| pn c31 <| pk <| pe (eff_int (k := .u32) (un_and .u32 rfl ((List.getD x5 (Int.toNat x7) d_api_Section).liveEntry) ((List.getD x6 (Int.toNat x7) d_api_Section).liveEntry))) <| pn c29 <| pn c30 <| pk <| pn c29 <| pn c31 <| pk <| pe (eff_int (k := .u32) (un_and .u32 rfl ((List.getD x5 (Int.toNat x7) d_api_Section).liveExit) ((List.getD x6 (Int.toNat x7) d_api_Section).liveExit))) <| pe (eff_lit o_u32 (0#32) 2 1 0 (([] : List (BitVec 32))) rfl [] []) <| pn c29 <| pn c30 <| pk <| pn c32 <| pe (eff_app o_u32 (0#32) (([] : List (BitVec 32))) ((List.getD x5 (Int.toNat x7) d_api_Section).held) (([] : List (BitVec 32)) ++ ((List.getD x5 (Int.toNat x7) d_api_Section).held)) 2 1 (List.length (([] : List (BitVec 32)))) (List.length ((List.getD x5 (Int.toNat x7) d_api_Section).held)) (fun i => List.map AV.pv (encP e_u32 (0#32) ((List.getD x5 (Int.toNat x7) d_api_Section).held) i)) (encW o_u32 (0#32) (([] : List (BitVec 32))) (List.length (([] : List (BitVec 32))))) [] [] [(2, false)] (by first | exact Nat.le_refl _ | exact Nat.zero_le _ | (simp only [decide_eq_true_eq, List.length_set, List.length_append, List.length_replicate, List.length_cons, List.length_nil, Nat.zero_add] at * <;> omega)) rfl (fun _ => by kernel_rfl) (congrArg o_u32 (getD_ge (0#32) (by first | exact Nat.le_refl _ | exact Nat.zero_le _ | (simp only [decide_eq_true_eq, List.length_set, List.length_append, List.length_replicate, List.length_cons, List.length_nil, Nat.zero_add] at * <;> omega)))) (by rw [List.take_of_length_le (by first | exact Nat.le_refl _ | exact Nat.zero_le _ | (simp only [decide_eq_true_eq, List.length_set, List.length_append, List.length_replicate, List.length_cons, List.length_nil, Nat.zero_add] at * <;> omega))])) <| pk3 <| pl (Loops.of (s1 := ⟨dead :: .pv (.seq (List.length x5) (encP e_api_Section d_api_Section x5)) :: .pv (.seq (List.length x6) (encP e_api_Section d_api_Section x6)) :: .ptr 0 [] 0 0 :: (List.replicate 7 dead ++ (.ms 1 [] 0 (List.length x0) :: .pv (.int .i64 x7) :: .ptr 2 [] 0 0 :: .pv (.int .i64 0) :: List.replicate 129 dead)), [.box 0 [.pv (.int .i64 x1), .pv (.int .i64 x2), .pv (.int .i64 x3), .pv (.seq (List.length x4) (encP e_61 ([] : List api_Node) x4))], .arr 0 6 (List.length x0) (encW o_api_Section d_api_Section x0), .box 0 [.pv (.int .u32 (BitVec.toNat (0#32) : Nat)), .pv (.int .u32 (BitVec.toNat (0#32) : Nat)), .ms 3 [] 0 (List.length (([] : List (BitVec 32)) ++ ((List.getD x5 (Int.toNat x7) d_api_Section).held))), .pv (.int .u32 (BitVec.toNat (((List.getD x5 (Int.toNat x7) d_api_Section).liveEntry) &&& ((List.getD x6 (Int.toNat x7) d_api_Section).liveEntry)) : Nat)), .pv (.int .u32 (BitVec.toNat (((List.getD x5 (Int.toNat x7) d_api_Section).liveExit) &&& ((List.getD x6 (Int.toNat x7) d_api_Section).liveExit)) : Nat)), .ms 4 [] 0 (List.length ([] : List (BitVec 32)))], .arr 0 1 (List.length (([] : List (BitVec 32)) ++ ((List.getD x5 (Int.toNat x7) d_api_Section).held))) (encW o_u32 0#32 (([] : List (BitVec 32)) ++ ((List.getD x5 (Int.toNat x7) d_api_Section).held))), .arr 0 1 (List.length ([] : List (BitVec 32))) (encW o_u32 0#32 (([] : List (BitVec 32))))]⟩) (alibilaw16_MayMeet_l13_ok _ _ _ _ _ _ _ _ _ _ _ _ _ _ _ _ h42) (by (first | rfl | (simp only [alibilaw16_MayMeet_l13_s, List.length_set]; done)))) <| pk <| pb (whole_ok (List.length (([] : List (BitVec 32)) ++ ((List.getD x5 (Int.toNat x7) d_api_Section).held)))) <| pb (whole_ok (List.length v41)) <| pe (eff_lit o_api_Section d_api_Section 5 6 1 ([api_Section.mk (0#32) (0#32) (([] : List (BitVec 32)) ++ ((List.getD x5 (Int.toNat x7) d_api_Section).held)) (((List.getD x5 (Int.toNat x7) d_api_Section).liveEntry) &&& ((List.getD x6 (Int.toNat x7) d_api_Section).liveEntry)) (((List.getD x5 (Int.toNat x7) d_api_Section).liveExit) &&& ((List.getD x6 (Int.toNat x7) d_api_Section).liveExit)) v41]) rfl [(3, .gone), (4, .gone)] [(3, false), (4, false)]) <| pb (whole_ok (List.length ([api_Section.mk (0#32) (0#32) (([] : List (BitVec 32)) ++ ((List.getD x5 (Int.toNat x7) d_api_Section).held)) (((List.getD x5 (Int.toNat x7) d_api_Section).liveEntry) &&& ((List.getD x6 (Int.toNat x7) d_api_Section).liveEntry)) (((List.getD x5 (Int.toNat x7) d_api_Section).liveExit) &&& ((List.getD x6 (Int.toNat x7) d_api_Section).liveExit)) v41]))) <| pn c43 <| pe (eff_app o_api_Section d_api_Section x0 ([api_Section.mk (0#32) (0#32) (([] : List (BitVec 32)) ++ ((List.getD x5 (Int.toNat x7) d_api_Section).held)) (((List.getD x5 (Int.toNat x7) d_api_Section).liveEntry) &&& ((List.getD x6 (Int.toNat x7) d_api_Section).liveEntry)) (((List.getD x5 (Int.toNat x7) d_api_Section).liveExit) &&& ((List.getD x6 (Int.toNat x7) d_api_Section).liveExit)) v41]) (x0 ++ ([api_Section.mk (0#32) (0#32) (([] : List (BitVec 32)) ++ ((List.getD x5 (Int.toNat x7) d_api_Section).held)) (((List.getD x5 (Int.toNat x7) d_api_Section).liveEntry) &&& ((List.getD x6 (Int.toNat x7) d_api_Section).liveEntry)) (((List.getD x5 (Int.toNat x7) d_api_Section).liveExit) &&& ((List.getD x6 (Int.toNat x7) d_api_Section).liveExit)) v41])) 1 6 (List.length x0) (List.length ([api_Section.mk (0#32) (0#32) (([] : List (BitVec 32)) ++ ((List.getD x5 (Int.toNat x7) d_api_Section).held)) (((List.getD x5 (Int.toNat x7) d_api_Section).liveEntry) &&& ((List.getD x6 (Int.toNat x7) d_api_Section).liveEntry)) (((List.getD x5 (Int.toNat x7) d_api_Section).liveExit) &&& ((List.getD x6 (Int.toNat x7) d_api_Section).liveExit)) v41])) (encW o_api_Section d_api_Section ([api_Section.mk (0#32) (0#32) (([] : List (BitVec 32)) ++ ((List.getD x5 (Int.toNat x7) d_api_Section).held)) (((List.getD x5 (Int.toNat x7) d_api_Section).liveEntry) &&& ((List.getD x6 (Int.toNat x7) d_api_Section).liveEntry)) (((List.getD x5 (Int.toNat x7) d_api_Section).liveExit) &&& ((List.getD x6 (Int.toNat x7) d_api_Section).liveExit)) v41])) (encW o_api_Section d_api_Section x0 (List.length x0)) [] [(5, .gone)] [(1, false), (5, false)] (by first | exact Nat.le_refl _ | exact Nat.zero_le _ | (simp only [decide_eq_true_eq, List.length_set, List.length_append, List.length_replicate, List.length_cons, List.length_nil, Nat.zero_add] at * <;> omega)) rfl (fun _ => rfl) (congrArg o_api_Section (getD_ge d_api_Section (by first | exact Nat.le_refl _ | exact Nat.zero_le _ | (simp only [decide_eq_true_eq, List.length_set, List.length_append, List.length_replicate, List.length_cons, List.length_nil, Nat.zero_add] at * <;> omega)))) (by rw [List.take_of_length_le (by first | exact Nat.le_refl _ | exact Nat.zero_le _ | (simp only [decide_eq_true_eq, List.length_set, List.length_append, List.length_replicate, List.length_cons, List.length_nil, Nat.zero_add] at * <;> omega))])) <| pk <| pz) (ih (x0 ++ ([api_Section.mk (0#32) (0#32) (([] : List (BitVec 32)) ++ ((List.getD x5 (Int.toNat x7) d_api_Section).held)) (((List.getD x5 (Int.toNat x7) d_api_Section).liveEntry) &&& ((List.getD x6 (Int.toNat x7) d_api_Section).liveEntry)) (((List.getD x5 (Int.toNat x7) d_api_Section).liveExit) &&& ((List.getD x6 (Int.toNat x7) d_api_Section).liveExit)) v41])) (iAdd x7 1) _ h)
 · have h := Option.some.inj h; subst h
   exact plast mixed lives 20 (by kernel_rfl) (pk2 <| pb c28 <| pz) rfl
/-- alibi/alibilaw16.MayMeet -/
def alibilaw16_MayMeet (p : api_Program) (a : List api_Section) (b : List api_Section) : Option (Bool) :=
  bind (alibilaw16_awake) fun v1 =>
  if (!v1) = true then
    bind (alibilaw16_awake) fun v4 =>
    some v4
  else
    bind (alibiref05_Small p) fun v6 =>
    if (!v6) = true then
      bind (alibilaw16_awake) fun v9 =>
      some v9
    else
      bind (alibiref15_Few a) fun v11 =>
      if (!v11) = true then
        bind (alibilaw16_awake) fun v14 =>
        some v14
      else
        bind (alibiref15_Few b) fun v16 =>
        if (!v16) = true then
          bind (alibilaw16_awake) fun v19 =>
          some v19
        else
          bind (may_Check p a) fun v21 =>
          bind (may_Check p b) fun v23 =>
          if ((v21.2 : Int) != 0) = true then
            some true
          else
            if ((v21.1.what : Int) != 0) = true then
              some true
            else
              if ((v23.1.what : Int) != 0) = true then
                some true
              else
                bind (alibilaw16_MayMeet_l9 (([] : List api_Section)) p.globals p.locks p.slots p.funcs a b 0) fun v44 =>
                bind (may_Check p v44) fun v46 =>
                if ((v46.2 : Int) == 0) = true then
                  some (((v46.1.func : Int) == (0 : Int)) && (((v46.1.node : Int) == (0 : Int)) && (((v46.1.what : Int) == (0 : Int)) && true)))
                else
                  some false
theorem alibilaw16_MayMeet_ok (p : api_Program) (a : List api_Section) (b : List api_Section) (r : Bool) (h : alibilaw16_MayMeet p a b = some r) : Does Try.prog 20 [.agg [.pv (.int .i64 p.globals), .pv (.int .i64 p.locks), .pv (.int .i64 p.slots), .pv (.seq (List.length p.funcs) (encP e_61 ([] : List api_Node) p.funcs))], .pv (.seq (List.length a) (encP e_api_Section d_api_Section a)), .pv (.seq (List.length b) (encP e_api_Section d_api_Section b))] [] (.pv (.bool r), []) := by
 unfold alibilaw16_MayMeet at h
 obtain ⟨v1, h2, h⟩ := bind_of h
 rcases if_of h with ⟨c3, h⟩ | ⟨c3, h⟩
 · obtain ⟨v4, h5, h⟩ := bind_of h
   have h := Option.some.inj h; subst h
   exact pdoes mixed (L := lives) (by kernel_rfl) (pk <| pc (alibilaw16_awake_ok _ h2) <| pk2 <| pb c3 <| pk8 <| pk4 <| pc (alibilaw16_awake_ok _ h5) <| pk <| pz)
 · obtain ⟨v6, h7, h⟩ := bind_of h
   rcases if_of h with ⟨c8, h⟩ | ⟨c8, h⟩
   · obtain ⟨v9, h10, h⟩ := bind_of h
     have h := Option.some.inj h; subst h
     exact pdoes mixed (L := lives) (by kernel_rfl) (pk <| pc (alibilaw16_awake_ok _ h2) <| pk2 <| pb c3 <| pk2 <| pc (alibiref05_Small_ok _ _ h7) <| pk4 <| pb c8 <| pk8 <| pc (alibilaw16_awake_ok _ h10) <| pk <| pz)
   · obtain ⟨v11, h12, h⟩ := bind_of h
     rcases if_of h with ⟨c13, h⟩ | ⟨c13, h⟩
     · obtain ⟨v14, h15, h⟩ := bind_of h
       have h := Option.some.inj h; subst h
       exact pdoes mixed (L := lives) (by kernel_rfl) (pk <| pc (alibilaw16_awake_ok _ h2) <| pk2 <| pb c3 <| pk2 <| pc (alibiref05_Small_ok _ _ h7) <| pk4 <| pb c8 <| pk <| pc (alibiref15_Few_ok _ _ h12) <| pk4 <| pb c13 <| pk4 <| pc (alibilaw16_awake_ok _ h15) <| pk <| pz)
     · obtain ⟨v16, h17, h⟩ := bind_of h
       rcases if_of h with ⟨c18, h⟩ | ⟨c18, h⟩
       · obtain ⟨v19, h20, h⟩ := bind_of h
         have h := Option.some.inj h; subst h
         exact pdoes mixed (L := lives) (by kernel_rfl) (pk <| pc (alibilaw16_awake_ok _ h2) <| pk2 <| pb c3 <| pk2 <| pc (alibiref05_Small_ok _ _ h7) <| pk4 <| pb c8 <| pk <| pc (alibiref15_Few_ok _ _ h12) <| pk4 <| pb c13 <| pk <| pc (alibiref15_Few_ok _ _ h17) <| pk4 <| pb c18 <| pc (alibilaw16_awake_ok _ h20) <| pk <| pz)
       · obtain ⟨v21, h22, h⟩ := bind_of h
         obtain ⟨v23, h24, h⟩ := bind_of h
         rcases if_of h with ⟨c25, h⟩ | ⟨c25, h⟩
         · have h := Option.some.inj h; subst h
           exact pdoes mixed (L := lives) (by kernel_rfl) (pk <| pc (alibilaw16_awake_ok _ h2) <| pk2 <| pb c3 <| pk2 <| pc (alibiref05_Small_ok _ _ h7) <| pk4 <| pb c8 <| pk <| pc (alibiref15_Few_ok _ _ h12) <| pk4 <| pb c13 <| pk <| pc (alibiref15_Few_ok _ _ h17) <| pk4 <| pb c18 <| pk <| pc (may_Check_ok _ _ _ h22) <| pk4 <| pc (may_Check_ok _ _ _ h24) <| pk4 <| pb c25 <| pk8 <| pz)
         · rcases if_of h with ⟨c26, h⟩ | ⟨c26, h⟩
           · have h := Option.some.inj h; subst h
             exact pdoes mixed (L := lives) (by kernel_rfl) (pk <| pc (alibilaw16_awake_ok _ h2) <| pk2 <| pb c3 <| pk2 <| pc (alibiref05_Small_ok _ _ h7) <| pk4 <| pb c8 <| pk <| pc (alibiref15_Few_ok _ _ h12) <| pk4 <| pb c13 <| pk <| pc (alibiref15_Few_ok _ _ h17) <| pk4 <| pb c18 <| pk <| pc (may_Check_ok _ _ _ h22) <| pk4 <| pc (may_Check_ok _ _ _ h24) <| pk4 <| pb c25 <| pk5 <| pb c26 <| pk4 <| pz)
           · rcases if_of h with ⟨c27, h⟩ | ⟨c27, h⟩
             · have h := Option.some.inj h; subst h
               exact pdoes mixed (L := lives) (by kernel_rfl) (pk <| pc (alibilaw16_awake_ok _ h2) <| pk2 <| pb c3 <| pk2 <| pc (alibiref05_Small_ok _ _ h7) <| pk4 <| pb c8 <| pk <| pc (alibiref15_Few_ok _ _ h12) <| pk4 <| pb c13 <| pk <| pc (alibiref15_Few_ok _ _ h17) <| pk4 <| pb c18 <| pk <| pc (may_Check_ok _ _ _ h22) <| pk4 <| pc (may_Check_ok _ _ _ h24) <| pk4 <| pb c25 <| pk5 <| pb c26 <| pk5 <| pb c27 <| pz)
             · obtain ⟨v44, h45, h⟩ := bind_of h
               obtain ⟨v46, h47, h⟩ := bind_of h
               rcases if_of h with ⟨c48, h⟩ | ⟨c48, h⟩
               · have h := Option.some.inj h; subst h
                 exact pdoes mixed (L := lives) (by kernel_rfl) (pk <| pc (alibilaw16_awake_ok _ h2) <| pk2 <| pb c3 <| pk2 <| pc (alibiref05_Small_ok _ _ h7) <| pk4 <| pb c8 <| pk <| pc (alibiref15_Few_ok _ _ h12) <| pk4 <| pb c13 <| pk <| pc (alibiref15_Few_ok _ _ h17) <| pk4 <| pb c18 <| pk <| pc (may_Check_ok _ _ _ h22) <| pk4 <| pc (may_Check_ok _ _ _ h24) <| pk4 <| pb c25 <| pk5 <| pb c26 <| pk5 <| pb c27 <| pl (Loops.of (s1 := ⟨dead :: .pv (.seq (List.length a) (encP e_api_Section d_api_Section a)) :: .pv (.seq (List.length b) (encP e_api_Section d_api_Section b)) :: .ptr 0 [] 0 0 :: (List.replicate 7 dead ++ (.ms 1 [] 0 (List.length ([] : List api_Section)) :: .pv (.int .i64 0) :: List.replicate 131 dead)), [.box 0 [.pv (.int .i64 p.globals), .pv (.int .i64 p.locks), .pv (.int .i64 p.slots), .pv (.seq (List.length p.funcs) (encP e_61 ([] : List api_Node) p.funcs))], .arr 0 6 (List.length ([] : List api_Section)) (encW o_api_Section d_api_Section (([] : List api_Section)))]⟩) (alibilaw16_MayMeet_l9_ok _ _ _ _ _ _ _ _ _ h45) (by (first | rfl | (simp only [alibilaw16_MayMeet_l9_s, List.length_set]; done)))) <| pk <| pb (whole_ok (List.length v44)) <| pc (may_Check_ok _ _ _ h47) <| pk4 <| pb c48 <| pk6 <| pz)
               · have h := Option.some.inj h; subst h
                 exact pdoes mixed (L := lives) (by kernel_rfl) (pk <| pc (alibilaw16_awake_ok _ h2) <| pk2 <| pb c3 <| pk2 <| pc (alibiref05_Small_ok _ _ h7) <| pk4 <| pb c8 <| pk <| pc (alibiref15_Few_ok _ _ h12) <| pk4 <| pb c13 <| pk <| pc (alibiref15_Few_ok _ _ h17) <| pk4 <| pb c18 <| pk <| pc (may_Check_ok _ _ _ h22) <| pk4 <| pc (may_Check_ok _ _ _ h24) <| pk4 <| pb c25 <| pk5 <| pb c26 <| pk5 <| pb c27 <| pl (Loops.of (s1 := ⟨dead :: .pv (.seq (List.length a) (encP e_api_Section d_api_Section a)) :: .pv (.seq (List.length b) (encP e_api_Section d_api_Section b)) :: .ptr 0 [] 0 0 :: (List.replicate 7 dead ++ (.ms 1 [] 0 (List.length ([] : List api_Section)) :: .pv (.int .i64 0) :: List.replicate 131 dead)), [.box 0 [.pv (.int .i64 p.globals), .pv (.int .i64 p.locks), .pv (.int .i64 p.slots), .pv (.seq (List.length p.funcs) (encP e_61 ([] : List api_Node) p.funcs))], .arr 0 6 (List.length ([] : List api_Section)) (encW o_api_Section d_api_Section (([] : List api_Section)))]⟩) (alibilaw16_MayMeet_l9_ok _ _ _ _ _ _ _ _ _ h45) (by (first | rfl | (simp only [alibilaw16_MayMeet_l9_s, List.length_set]; done)))) <| pk <| pb (whole_ok (List.length v44)) <| pc (may_Check_ok _ _ _ h47) <| pk4 <| pb c48 <| pk3 <| pz)
end Go.Bm.GoYtldkmmnffjdliaa
