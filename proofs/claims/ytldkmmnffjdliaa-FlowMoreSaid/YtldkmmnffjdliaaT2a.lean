/- Printed by gen2.py. -/
import Derived.Test.YtldkmmnffjdliaaBmNum
import Derived.Test.YtldkmmnffjdliaaProg
namespace Go.Bm.GoYtldkmmnffjdliaa
open Go.Proofs
set_option autoImplicit false
set_option linter.unusedVariables false
set_option linter.unusedSimpArgs false
set_option maxRecDepth 100000
set_option synthInstance.maxHeartbeats 400000
set_option synthInstance.maxSize 2048
theorem mixed : Try.prog.follows .mixedOrders = true := by kernel_rfl
def lives : Lives := livesOf [(6, [(0, [(7, [1, 2, 7, 8, 9]), (12, [2, 7, 8, 10])]), (1, [(7, [2, 6, 7, 8]), (12, [6])])]), (7, [(0, [(5, [0, 1, 2, 7, 8, 9]), (10, [0, 1, 2, 7, 8, 10, 11]), (19, [0, 1, 7, 8, 10, 13, 14, 15])]), (1, [(5, [0, 1, 2, 7, 8]), (10, [0, 1, 2, 7, 8, 10]), (19, [0, 1, 6, 10, 13, 14])]), (2, [(10, [10])])]), (8, [(0, [(8, [1, 2, 9, 11, 12, 13, 14, 15])]), (1, [(8, [1, 2, 8, 9, 11, 12])])]), (32, [(0, [(3, [1, 2, 5, 6, 7])]), (1, [(3, [2, 5, 6])])]), (33, [(0, [(3, [0, 3, 4])]), (1, [(3, [3])]), (2, [(3, [3])])]), (34, [(0, [(4, [0, 1, 5])]), (1, [(4, [4])])]), (36, [(0, [(5, [0, 1, 2, 3, 9, 10]), (9, [0, 2, 3, 9, 11]), (12, [0, 2, 3, 9, 11, 12])]), (1, [(5, [0, 2, 3, 9]), (9, [9]), (12, [0, 2, 3, 9, 11])]), (7, [(0, [0])])]), (71, [(0, [(5, [1, 5, 16, 17])]), (1, [(5, [5])]), (7, [(0, [0])])]), (73, [(0, [(5, [0, 3, 4, 32, 33, 34]), (9, [0, 3, 4, 6, 32, 33, 34, 55, 56, 57]), (19, [0, 3, 4, 106, 107]), (23, [0, 3, 4]), (25, [0, 3, 4, 124, 125, 126])]), (1, [(5, [0, 3, 4]), (9, [0, 3, 4, 6, 32, 33, 34]), (19, [0, 3, 4]), (23, [0]), (25, [0, 3, 4])]), (2, [(5, [4])])]), (111, [(8, [(0, [1])])]), (118, [(0, [(0, [0, 1])]), (1, [(0, [])])]), (119, [(0, [(2, [0, 1, 2, 7])]), (1, [(2, [1, 7])])]), (152, [(10, [(0, [1])])])]
structure flow_Rule where
  to_ : Int
  from_ : Int
  also : Int
  keep : BitVec 32
  if_ : BitVec 32
  then_ : BitVec 32

noncomputable def ty3 : Ty Try.prog 3 Int := Ty.int 3 .i64 (by kernel_rfl) (by kernel_rfl)
noncomputable def ty24 : Ty Try.prog 24 (BitVec 32) := Ty.un 24 .u32 rfl (by kernel_rfl) (by kernel_rfl)
noncomputable def ty35 : Ty Try.prog 35 flow_Rule := Ty.struct 35 #[{ name := "To", type := 3, offset := 0, embedded := false, tag := "", pkgPath := "", byteOffset := 0 }, { name := "From", type := 3, offset := 1, embedded := false, tag := "", pkgPath := "", byteOffset := 8 }, { name := "Also", type := 3, offset := 2, embedded := false, tag := "", pkgPath := "", byteOffset := 16 }, { name := "Keep", type := 24, offset := 3, embedded := false, tag := "", pkgPath := "", byteOffset := 24 }, { name := "If", type := 24, offset := 4, embedded := false, tag := "", pkgPath := "", byteOffset := 28 }, { name := "Then", type := 24, offset := 5, embedded := false, tag := "", pkgPath := "", byteOffset := 32 }] (TyF.cons 0 { name := "To", type := 3, offset := 0, embedded := false, tag := "", pkgPath := "", byteOffset := 0 } [{ name := "From", type := 3, offset := 1, embedded := false, tag := "", pkgPath := "", byteOffset := 8 }, { name := "Also", type := 3, offset := 2, embedded := false, tag := "", pkgPath := "", byteOffset := 16 }, { name := "Keep", type := 24, offset := 3, embedded := false, tag := "", pkgPath := "", byteOffset := 24 }, { name := "If", type := 24, offset := 4, embedded := false, tag := "", pkgPath := "", byteOffset := 28 }, { name := "Then", type := 24, offset := 5, embedded := false, tag := "", pkgPath := "", byteOffset := 32 }] rfl ty3 (TyF.cons 1 { name := "From", type := 3, offset := 1, embedded := false, tag := "", pkgPath := "", byteOffset := 8 } [{ name := "Also", type := 3, offset := 2, embedded := false, tag := "", pkgPath := "", byteOffset := 16 }, { name := "Keep", type := 24, offset := 3, embedded := false, tag := "", pkgPath := "", byteOffset := 24 }, { name := "If", type := 24, offset := 4, embedded := false, tag := "", pkgPath := "", byteOffset := 28 }, { name := "Then", type := 24, offset := 5, embedded := false, tag := "", pkgPath := "", byteOffset := 32 }] rfl ty3 (TyF.cons 2 { name := "Also", type := 3, offset := 2, embedded := false, tag := "", pkgPath := "", byteOffset := 16 } [{ name := "Keep", type := 24, offset := 3, embedded := false, tag := "", pkgPath := "", byteOffset := 24 }, { name := "If", type := 24, offset := 4, embedded := false, tag := "", pkgPath := "", byteOffset := 28 }, { name := "Then", type := 24, offset := 5, embedded := false, tag := "", pkgPath := "", byteOffset := 32 }] rfl ty3 (TyF.cons 3 { name := "Keep", type := 24, offset := 3, embedded := false, tag := "", pkgPath := "", byteOffset := 24 } [{ name := "If", type := 24, offset := 4, embedded := false, tag := "", pkgPath := "", byteOffset := 28 }, { name := "Then", type := 24, offset := 5, embedded := false, tag := "", pkgPath := "", byteOffset := 32 }] rfl ty24 (TyF.cons 4 { name := "If", type := 24, offset := 4, embedded := false, tag := "", pkgPath := "", byteOffset := 28 } [{ name := "Then", type := 24, offset := 5, embedded := false, tag := "", pkgPath := "", byteOffset := 32 }] rfl ty24 (TyF.cons 5 { name := "Then", type := 24, offset := 5, embedded := false, tag := "", pkgPath := "", byteOffset := 32 } [] rfl ty24 (TyF.nil 6))))))) (by kernel_rfl) (by kernel_rfl) (fun x => (x.to_, x.from_, x.also, x.keep, x.if_, x.then_, ())) (fun x => ⟨x.1, x.2.1, x.2.2.1, x.2.2.2.1, x.2.2.2.2.1, x.2.2.2.2.2.1⟩) (fun x => rfl)
noncomputable def ty28 : Ty Try.prog 28 (List (BitVec 32)) := Ty.slice 28 ty24 (by kernel_rfl) (by kernel_rfl) (Nat.le_of_ble_eq_true (by kernel_rfl))
def o_flow_Rule (x : flow_Rule) : List AV := [.pv (.int .i64 x.to_), .pv (.int .i64 x.from_), .pv (.int .i64 x.also), .pv (.int .u32 (BitVec.toNat x.keep : Nat)), .pv (.int .u32 (BitVec.toNat x.if_ : Nat)), .pv (.int .u32 (BitVec.toNat x.then_ : Nat))]
def d_flow_Rule : flow_Rule := ⟨0, 0, 0, 0#32, 0#32, 0#32⟩
def e_flow_Rule (x : flow_Rule) : List PV := [.int .i64 x.to_, .int .i64 x.from_, .int .i64 x.also, .int .u32 (BitVec.toNat x.keep : Nat), .int .u32 (BitVec.toNat x.if_ : Nat), .int .u32 (BitVec.toNat x.then_ : Nat)]
def o_u32 (x : BitVec 32) : List AV := [.pv (.int .u32 (BitVec.toNat x : Nat))]
noncomputable def flow_start_l5_c : Code := sub (codeOf Try.prog 71) [1, 1, 1, 0, 1, 0, 0]
def flow_start_l5 (x0 : List (BitVec 32)) (x1 : BitVec 32) (x2 : Int) (x3 : Int) : Option ((List (BitVec 32))) :=
  if (decide ((x3 : Int) < x2)) = true then
    if (decide ((0 : Int) ≤ x3)) = true then
      if (decide ((x3 : Int) < (((List.length x0) : Nat) : Int))) = true then
        flow_start_l5 (List.set x0 (Int.toNat x3) x1) x1 x2 (iAdd x3 1)
      else none
    else none
  else
    some x0
partial_fixpoint
noncomputable abbrev flow_start_l5_s (x0 : List (BitVec 32)) (x1 : BitVec 32) (x2 : Int) (x3 : Int) : St := ⟨dead :: .pv (.int .u32 (BitVec.toNat x1 : Nat)) :: dead :: dead :: dead :: .ms 0 [] 0 (List.length x0) :: (List.replicate 10 dead ++ (.pv (.int .i64 x2) :: .pv (.int .i64 x3) :: List.replicate 8 dead)), [.arr 0 1 (List.length x0) (encW o_u32 0#32 x0)]⟩
noncomputable abbrev flow_start_l5_e (x0 : List (BitVec 32)) (x1 : BitVec 32) (x2 : Int) (x3 : Int) (r : (List (BitVec 32))) : St := ⟨(List.replicate 5 dead ++ (.ms 0 [] 0 (List.length r) :: List.replicate 20 dead)), [.arr 0 1 (List.length r) (encW o_u32 0#32 r)]⟩
theorem flow_start_l5_ok (x0 : List (BitVec 32)) (x1 : BitVec 32) (x2 : Int) (x3 : Int) (r : (List (BitVec 32))) (h : flow_start_l5 x0 x1 x2 x3 = some r) : Loops Try.prog flow_start_l5_c 0 (flow_start_l5_s x0 x1 x2 x3) (.exit 0) (flow_start_l5_e x0 x1 x2 x3 r) := by
 refine flow_start_l5.partial_correctness x1 x2 (fun x0 x3 r => Loops Try.prog flow_start_l5_c 0 (flow_start_l5_s x0 x1 x2 x3) (.exit 0) (flow_start_l5_e x0 x1 x2 x3 r)) ?_ x0 x3 r h
 clear h r x0 x3
 intro self ih x0 x3 r h
 rcases if_of h with ⟨c5, h⟩ | ⟨c5, h⟩
 · obtain ⟨c6, h⟩ := need_of h
   obtain ⟨c7, h⟩ := need_of h
   exact pmore mixed lives 71 (by kernel_rfl) (pk <| pb c5 <| pn c6 <| pn c7 <| pt <| pe (eff_hb (v := dead) (b := 0) (hb := []) (sc := []) (put_top o_u32 (0#32) 0 1 (List.length x0) x0 (Int.toNat x3) 0 [.pv (.int .u32 (BitVec.toNat x1 : Nat))] x1 (by kernel_rfl) (by first | exact Nat.le_refl _ | exact Nat.zero_le _ | (simp only [decide_eq_true_eq, List.length_set, List.length_append, List.length_replicate, List.length_cons, List.length_nil, Nat.zero_add] at * <;> omega)))) <| pk <| pz) (Loops.of (s1 := ⟨dead :: .pv (.int .u32 (BitVec.toNat x1 : Nat)) :: dead :: dead :: dead :: .ms 0 [] 0 (List.length x0) :: (List.replicate 10 dead ++ (.pv (.int .i64 x2) :: .pv (.int .i64 (iAdd x3 1)) :: List.replicate 8 dead)), [.arr 0 1 (List.length x0) (encW o_u32 0#32 (List.set x0 (Int.toNat x3) x1))]⟩) (ih (List.set x0 (Int.toNat x3) x1) (iAdd x3 1) _ h) (by (first | rfl | (simp only [flow_start_l5_s, List.length_set]; done))))
 · have h := Option.some.inj h; subst h
   exact plast mixed lives 71 (by kernel_rfl) (pk <| pb c5 <| pz) rfl
def flow_start_l5_F (F n : Nat) (x0 : List (BitVec 32)) (x1 : BitVec 32) (x2 : Int) (x3 : Int) : Option ((List (BitVec 32))) := match n with
  | 0 => none
  | n + 1 =>
    if (decide ((x3 : Int) < x2)) = true then
      if (decide ((0 : Int) ≤ x3)) = true then
        if (decide ((x3 : Int) < (((List.length x0) : Nat) : Int))) = true then
          flow_start_l5_F F n (List.set x0 (Int.toNat x3) x1) x1 x2 (iAdd x3 1)
        else none
      else none
    else
      some x0
theorem flow_start_l5_le (F n : Nat) (x0 : List (BitVec 32)) (x1 : BitVec 32) (x2 : Int) (x3 : Int) : Le (flow_start_l5_F F n x0 x1 x2 x3) (flow_start_l5 x0 x1 x2 x3) := by
  induction n generalizing x0 x3 with
  | zero => exact Le.none _
  | succ n ih => rw [flow_start_l5]; exact (Le.ite (Le.ite (Le.ite (ih (List.set x0 (Int.toNat x3) x1) (iAdd x3 1)) (Le.none _)) (Le.none _)) (Le.refl _))
/-- alibi/flow.start -/
def flow_start (n1 : Int) (m : BitVec 32) : Option ((List (BitVec 32))) :=
  if (decide ((n1 : Int) < 0)) = true then
    some (([] : List (BitVec 32)))
  else
    if (decide ((n1 : Int) > 65536)) = true then
      some (([] : List (BitVec 32)))
    else
      if (decide ((0 : Int) ≤ n1)) = true then
        if (decide ((n1 : Int) * ((4 : Nat) : Int) ≤ ((reach : Nat) : Int))) = true then
          bind (flow_start_l5 (List.replicate (Int.toNat n1) (0#32)) m ((((List.length (List.replicate (Int.toNat n1) (0#32))) : Nat) : Int)) 0) fun v8 =>
          some v8
        else none
      else none
theorem flow_start_ok (n1 : Int) (m : BitVec 32) (r : (List (BitVec 32))) (h : flow_start n1 m = some r) : Does Try.prog 71 [.pv (.int .i64 n1), .pv (.int .u32 (BitVec.toNat m : Nat))] [] (.ms 0 [] 0 (List.length r), [.arr 0 1 (List.length r) (encW o_u32 0#32 r)]) := by
 unfold flow_start at h
 rcases if_of h with ⟨c1, h⟩ | ⟨c1, h⟩
 · have h := Option.some.inj h; subst h
   refine Does.eq (pdoes mixed (L := lives) (r := (.ms 0 [] 0 (List.length ([] : List (BitVec 32))), [.arr 0 1 (List.length ([] : List (BitVec 32))) (encW o_u32 0#32 (([] : List (BitVec 32))))])) (by kernel_rfl) (pk <| pb c1 <| pk3 <| pz)) ?_
   (first | rfl | (simp only [List.length_set]; done))
 · rcases if_of h with ⟨c2, h⟩ | ⟨c2, h⟩
   · have h := Option.some.inj h; subst h
     refine Does.eq (pdoes mixed (L := lives) (r := (.ms 0 [] 0 (List.length ([] : List (BitVec 32))), [.arr 0 1 (List.length ([] : List (BitVec 32))) (encW o_u32 0#32 (([] : List (BitVec 32))))])) (by kernel_rfl) (pk <| pb c1 <| pk3 <| pb c2 <| pz)) ?_
     (first | rfl | (simp only [List.length_set]; done))
   · obtain ⟨c3, h⟩ := need_of h
     obtain ⟨c4, h⟩ := need_of h
     obtain ⟨v8, h9, h⟩ := bind_of h
     have h := Option.some.inj h; subst h
     exact pdoes mixed (L := lives) (by kernel_rfl) (pk <| pb c1 <| pk3 <| pb c2 <| pn c3 <| pn ((decide_eq_true rfl) : (decide ((n1 : Int) = n1)) = true) <| pn c4 <| pe (eff_make o_u32 (0#32) 0 1 (Int.toNat n1)) <| pk <| pl (flow_start_l5_ok _ _ _ _ _ h9) <| pz)
def flow_start_F (F : Nat) (n1 : Int) (m : BitVec 32) : Option ((List (BitVec 32))) :=
  if (decide ((n1 : Int) < 0)) = true then
    some (([] : List (BitVec 32)))
  else
    if (decide ((n1 : Int) > 65536)) = true then
      some (([] : List (BitVec 32)))
    else
      if (decide ((0 : Int) ≤ n1)) = true then
        if (decide ((n1 : Int) * ((4 : Nat) : Int) ≤ ((reach : Nat) : Int))) = true then
          bind (flow_start_l5_F F F (List.replicate (Int.toNat n1) (0#32)) m ((((List.length (List.replicate (Int.toNat n1) (0#32))) : Nat) : Int)) 0) fun v8 =>
          some v8
        else none
      else none
theorem flow_start_le (F : Nat) (n1 : Int) (m : BitVec 32) : Le (flow_start_F F n1 m) (flow_start n1 m) := (Le.ite (Le.refl _) (Le.ite (Le.refl _) (Le.ite (Le.ite (Le.bind (flow_start_l5_le F F _ _ _ _) fun v8 => (Le.refl _)) (Le.none _)) (Le.none _))))
def o_bool (x : Bool) : List AV := [.pv (.bool x)]
def o_i64 (x : Int) : List AV := [.pv (.int .i64 x)]
def o_26 (x : List Int) : List AV := [.own 1 (List.length x) (encW o_i64 0 x)]
noncomputable def flow_solver_solve_l9_c : Code := sub (codeOf Try.prog 73) [1, 1, 1, 1, 0, 1, 0, 0, 1, 1, 0, 0, 1, 1, 0, 1, 0, 0]
def flow_solver_solve_l9 (x0 : List (BitVec 32)) (x1 : List (List Int)) (x2 : List (List Int)) (x3 : List Int) (x4 : List Bool) (x5 : List flow_Rule) (x6 : List Int) (x7 : List flow_Rule) (x8 : Int) (x9 : Int) (x10 : Int) (x11 : BitVec 32) (x12 : BitVec 32) (x13 : BitVec 32) (x14 : List flow_Rule) (x15 : Int) (x16 : Int) (x17 : Int) (x18 : Int) : Option ((List (List Int))) :=
  if (decide ((x18 : Int) < x17)) = true then
    if (decide ((0 : Int) ≤ x18)) = true then
      if (decide ((x18 : Int) < (((List.length x6) : Nat) : Int))) = true then
        if (decide (((List.getD x6 (Int.toNat x18) 0) : Int) ≥ 0)) = true then
          if (decide (((List.getD x6 (Int.toNat x18) 0) : Int) < ((((List.length x0) : Nat) : Int)))) = true then
            if (decide ((0 : Int) ≤ (List.getD x6 (Int.toNat x18) 0))) = true then
              if (decide (((List.getD x6 (Int.toNat x18) 0) : Int) < (((List.length x2) : Nat) : Int))) = true then
                if (Nat.ble ((List.length (List.getD x2 (Int.toNat (List.getD x6 (Int.toNat x18) 0)) (([] : List Int))) + List.length ([(((List.length x5) : Nat) : Int)])) * 8) reach) = true then
                  flow_solver_solve_l9 x0 x1 (List.set x2 (Int.toNat (List.getD x6 (Int.toNat x18) 0)) (List.getD x2 (Int.toNat (List.getD x6 (Int.toNat x18) 0)) (([] : List Int)) ++ ([(((List.length x5) : Nat) : Int)]))) x3 x4 x5 x6 x7 x8 x9 x10 x11 x12 x13 x14 x15 x16 x17 (iAdd x18 1)
                else none
              else none
            else none
          else
            flow_solver_solve_l9 x0 x1 x2 x3 x4 x5 x6 x7 x8 x9 x10 x11 x12 x13 x14 x15 x16 x17 (iAdd x18 1)
        else
          flow_solver_solve_l9 x0 x1 x2 x3 x4 x5 x6 x7 x8 x9 x10 x11 x12 x13 x14 x15 x16 x17 (iAdd x18 1)
      else none
    else none
  else
    some x2
partial_fixpoint
noncomputable abbrev flow_solver_solve_l9_s (x0 : List (BitVec 32)) (x1 : List (List Int)) (x2 : List (List Int)) (x3 : List Int) (x4 : List Bool) (x5 : List flow_Rule) (x6 : List Int) (x7 : List flow_Rule) (x8 : Int) (x9 : Int) (x10 : Int) (x11 : BitVec 32) (x12 : BitVec 32) (x13 : BitVec 32) (x14 : List flow_Rule) (x15 : Int) (x16 : Int) (x17 : Int) (x18 : Int) : St := ⟨.ptr 0 [] 0 0 :: dead :: dead :: .ptr 4 [] 0 0 :: .ms 7 [] 0 (List.length x5) :: dead :: .ptr 8 [] 0 0 :: (List.replicate 25 dead ++ (.pv (.seq (List.length x14) (encP e_flow_Rule d_flow_Rule x14)) :: .pv (.int .i64 x15) :: .pv (.int .i64 x16) :: (List.replicate 20 dead ++ (.ms 9 [] 0 (List.length x6) :: .pv (.int .i64 x17) :: .pv (.int .i64 x18) :: List.replicate 90 dead)))), [.box 2 [.ms 1 [] 0 (List.length x0), .pv (.seq (List.length x7) (encP e_flow_Rule d_flow_Rule x7)), .ms 3 [] 0 (List.length x2), .pv (.fn 72)], .arr 2 1 (List.length x0) (encW o_u32 0#32 x0), .arr 2 1 (List.length x1) (encW o_26 ([] : List Int) x1), .arr 0 1 (List.length x2) (encW o_26 ([] : List Int) x2), .box 0 [.ms 5 [] 0 (List.length x3), .ms 6 [] 0 (List.length x4)], .arr 0 1 (List.length x3) (encW o_i64 0 x3), .arr 0 1 (List.length x4) (encW o_bool false x4), .arr 0 6 (List.length x5) (encW o_flow_Rule d_flow_Rule x5), .box 0 [.pv (.int .i64 x8), .pv (.int .i64 x9), .pv (.int .i64 x10), .pv (.int .u32 (BitVec.toNat x11 : Nat)), .pv (.int .u32 (BitVec.toNat x12 : Nat)), .pv (.int .u32 (BitVec.toNat x13 : Nat))], .arr 0 1 (List.length x6) (encW o_i64 0 x6)]⟩
noncomputable abbrev flow_solver_solve_l9_e (x0 : List (BitVec 32)) (x1 : List (List Int)) (x2 : List (List Int)) (x3 : List Int) (x4 : List Bool) (x5 : List flow_Rule) (x6 : List Int) (x7 : List flow_Rule) (x8 : Int) (x9 : Int) (x10 : Int) (x11 : BitVec 32) (x12 : BitVec 32) (x13 : BitVec 32) (x14 : List flow_Rule) (x15 : Int) (x16 : Int) (x17 : Int) (x18 : Int) (r : (List (List Int))) : St := ⟨.ptr 0 [] 0 0 :: dead :: dead :: .ptr 4 [] 0 0 :: .ms 7 [] 0 (List.length x5) :: dead :: .ptr 8 [] 0 0 :: (List.replicate 25 dead ++ (.pv (.seq (List.length x14) (encP e_flow_Rule d_flow_Rule x14)) :: .pv (.int .i64 x15) :: .pv (.int .i64 x16) :: List.replicate 113 dead)), [.box 2 [.ms 1 [] 0 (List.length x0), .pv (.seq (List.length x7) (encP e_flow_Rule d_flow_Rule x7)), .ms 3 [] 0 (List.length r), .pv (.fn 72)], .arr 2 1 (List.length x0) (encW o_u32 0#32 x0), .arr 2 1 (List.length x1) (encW o_26 ([] : List Int) x1), .arr 0 1 (List.length r) (encW o_26 ([] : List Int) r), .box 0 [.ms 5 [] 0 (List.length x3), .ms 6 [] 0 (List.length x4)], .arr 0 1 (List.length x3) (encW o_i64 0 x3), .arr 0 1 (List.length x4) (encW o_bool false x4), .arr 0 6 (List.length x5) (encW o_flow_Rule d_flow_Rule x5), .box 0 [.pv (.int .i64 x8), .pv (.int .i64 x9), .pv (.int .i64 x10), .pv (.int .u32 (BitVec.toNat x11 : Nat)), .pv (.int .u32 (BitVec.toNat x12 : Nat)), .pv (.int .u32 (BitVec.toNat x13 : Nat))]]⟩
theorem flow_solver_solve_l9_ok (x0 : List (BitVec 32)) (x1 : List (List Int)) (x2 : List (List Int)) (x3 : List Int) (x4 : List Bool) (x5 : List flow_Rule) (x6 : List Int) (x7 : List flow_Rule) (x8 : Int) (x9 : Int) (x10 : Int) (x11 : BitVec 32) (x12 : BitVec 32) (x13 : BitVec 32) (x14 : List flow_Rule) (x15 : Int) (x16 : Int) (x17 : Int) (x18 : Int) (r : (List (List Int))) (h : flow_solver_solve_l9 x0 x1 x2 x3 x4 x5 x6 x7 x8 x9 x10 x11 x12 x13 x14 x15 x16 x17 x18 = some r) : Loops Try.prog flow_solver_solve_l9_c 3 (flow_solver_solve_l9_s x0 x1 x2 x3 x4 x5 x6 x7 x8 x9 x10 x11 x12 x13 x14 x15 x16 x17 x18) (.exit 2) (flow_solver_solve_l9_e x0 x1 x2 x3 x4 x5 x6 x7 x8 x9 x10 x11 x12 x13 x14 x15 x16 x17 x18 r) := by
 refine flow_solver_solve_l9.partial_correctness x0 x1 x3 x4 x5 x6 x7 x8 x9 x10 x11 x12 x13 x14 x15 x16 x17 (fun x2 x18 r => Loops Try.prog flow_solver_solve_l9_c 3 (flow_solver_solve_l9_s x0 x1 x2 x3 x4 x5 x6 x7 x8 x9 x10 x11 x12 x13 x14 x15 x16 x17 x18) (.exit 2) (flow_solver_solve_l9_e x0 x1 x2 x3 x4 x5 x6 x7 x8 x9 x10 x11 x12 x13 x14 x15 x16 x17 x18 r)) ?_ x2 x18 r h
 clear h r x2 x18
 intro self ih x2 x18 r h
 rcases if_of h with ⟨c9, h⟩ | ⟨c9, h⟩
 · obtain ⟨c10, h⟩ := need_of h
   obtain ⟨c11, h⟩ := need_of h
   rcases if_of h with ⟨c12, h⟩ | ⟨c12, h⟩
   · rcases if_of h with ⟨c13, h⟩ | ⟨c13, h⟩
     · obtain ⟨c14, h⟩ := need_of h
       obtain ⟨c15, h⟩ := need_of h
       obtain ⟨c16, h⟩ := need_of h
       exact pmore mixed lives 73 (by kernel_rfl) (pk <| pb c9 <| pn c10 <| pn c11 <| pk2 <| pb c12 <| pk8 <| pk2 <| pb c13 <| pk2 <| pn c14 <| pn c15 <| pk2 <| pe (eff_lit o_i64 0 10 1 1 ([(((List.length x5) : Nat) : Int)]) rfl [] []) <| pb (whole_ok (List.length ([(((List.length x5) : Nat) : Int)]))) <| pn c16 <| pe (eff_app o_i64 0 (List.getD x2 (Int.toNat (List.getD x6 (Int.toNat x18) 0)) (([] : List Int))) ([(((List.length x5) : Nat) : Int)]) (List.getD x2 (Int.toNat (List.getD x6 (Int.toNat x18) 0)) (([] : List Int)) ++ ([(((List.length x5) : Nat) : Int)])) 11 1 (List.length (List.getD x2 (Int.toNat (List.getD x6 (Int.toNat x18) 0)) (([] : List Int)))) (List.length ([(((List.length x5) : Nat) : Int)])) (fun i => List.map AV.scal (encW o_i64 0 ([(((List.length x5) : Nat) : Int)]) i)) (encW o_i64 0 (List.getD x2 (Int.toNat (List.getD x6 (Int.toNat x18) 0)) (([] : List Int))) (List.length (List.getD x2 (Int.toNat (List.getD x6 (Int.toNat x18) 0)) (([] : List Int))))) [(11, .arr 0 1 (List.length (List.getD x2 (Int.toNat (List.getD x6 (Int.toNat x18) 0)) (([] : List Int)))) (encW o_i64 0 (List.getD x2 (Int.toNat (List.getD x6 (Int.toNat x18) 0)) (([] : List Int))))), (3, .arr 0 1 (List.length x2) (upd (encW o_26 ([] : List Int) x2) (Int.toNat (List.getD x6 (Int.toNat x18) 0)) (List.set (o_26 (List.getD x2 (Int.toNat (List.getD x6 (Int.toNat x18) 0)) (([] : List Int)))) 0 (.pv .bad))))] [] [(3, true), (11, false)] (by first | exact Nat.le_refl _ | exact Nat.zero_le _ | (simp only [decide_eq_true_eq, List.length_set, List.length_append, List.length_replicate, List.length_cons, List.length_nil, Nat.zero_add] at * <;> omega)) rfl (fun _ => by kernel_rfl) (congrArg o_i64 (getD_ge 0 (by first | exact Nat.le_refl _ | exact Nat.zero_le _ | (simp only [decide_eq_true_eq, List.length_set, List.length_append, List.length_replicate, List.length_cons, List.length_nil, Nat.zero_add] at * <;> omega)))) (by rw [List.take_of_length_le (by first | exact Nat.le_refl _ | exact Nat.zero_le _ | (simp only [decide_eq_true_eq, List.length_set, List.length_append, List.length_replicate, List.length_cons, List.length_nil, Nat.zero_add] at * <;> omega))])) <| pn c14 <| pn c15 <| pn ((ble_hole (encW o_26 (([] : List Int)) x2) (Int.toNat (List.getD x6 (Int.toNat x18) 0)) _ (List.set (o_26 (List.getD x2 (Int.toNat (List.getD x6 (Int.toNat x18) 0)) (([] : List Int)))) 0 (.pv .bad)) (by kernel_rfl)) : (Nat.ble (0 + 1) (List.length (upd (encW o_26 (([] : List Int)) x2) (Int.toNat (List.getD x6 (Int.toNat x18) 0)) (List.set (o_26 (List.getD x2 (Int.toNat (List.getD x6 (Int.toNat x18) 0)) (([] : List Int)))) 0 (.pv .bad)) (Int.toNat (List.getD x6 (Int.toNat x18) 0))))) = true) <| pb (whole_ok (List.length (List.getD x2 (Int.toNat (List.getD x6 (Int.toNat x18) 0)) (([] : List Int)) ++ ([(((List.length x5) : Nat) : Int)])))) <| pe (eff_hole o_26 (([] : List Int)) 0 1 (List.length x2) x2 (Int.toNat (List.getD x6 (Int.toNat x18) 0)) 0 (List.set (o_26 (List.getD x2 (Int.toNat (List.getD x6 (Int.toNat x18) 0)) (([] : List Int)))) 0 (.pv .bad)) [.own 1 (List.length (List.getD x2 (Int.toNat (List.getD x6 (Int.toNat x18) 0)) (([] : List Int)) ++ ([(((List.length x5) : Nat) : Int)]))) (encW o_i64 0 (List.getD x2 (Int.toNat (List.getD x6 (Int.toNat x18) 0)) (([] : List Int)) ++ ([(((List.length x5) : Nat) : Int)])))] (List.getD x2 (Int.toNat (List.getD x6 (Int.toNat x18) 0)) (([] : List Int)) ++ ([(((List.length x5) : Nat) : Int)])) 3 1 [(11, .gone)] [(11, false)] (by kernel_rfl) (by kernel_rfl) (by first | exact Nat.le_refl _ | exact Nat.zero_le _ | (simp only [decide_eq_true_eq, List.length_set, List.length_append, List.length_replicate, List.length_cons, List.length_nil, Nat.zero_add] at * <;> omega))) <| pk <| pz) (Loops.of (s1 := ⟨.ptr 0 [] 0 0 :: dead :: dead :: .ptr 4 [] 0 0 :: .ms 7 [] 0 (List.length x5) :: dead :: .ptr 8 [] 0 0 :: (List.replicate 25 dead ++ (.pv (.seq (List.length x14) (encP e_flow_Rule d_flow_Rule x14)) :: .pv (.int .i64 x15) :: .pv (.int .i64 x16) :: (List.replicate 20 dead ++ (.ms 9 [] 0 (List.length x6) :: .pv (.int .i64 x17) :: .pv (.int .i64 (iAdd x18 1)) :: List.replicate 90 dead)))), [.box 2 [.ms 1 [] 0 (List.length x0), .pv (.seq (List.length x7) (encP e_flow_Rule d_flow_Rule x7)), .ms 3 [] 0 (List.length x2), .pv (.fn 72)], .arr 2 1 (List.length x0) (encW o_u32 0#32 x0), .arr 2 1 (List.length x1) (encW o_26 ([] : List Int) x1), .arr 0 1 (List.length x2) (encW o_26 ([] : List Int) (List.set x2 (Int.toNat (List.getD x6 (Int.toNat x18) 0)) (List.getD x2 (Int.toNat (List.getD x6 (Int.toNat x18) 0)) (([] : List Int)) ++ ([(((List.length x5) : Nat) : Int)])))), .box 0 [.ms 5 [] 0 (List.length x3), .ms 6 [] 0 (List.length x4)], .arr 0 1 (List.length x3) (encW o_i64 0 x3), .arr 0 1 (List.length x4) (encW o_bool false x4), .arr 0 6 (List.length x5) (encW o_flow_Rule d_flow_Rule x5), .box 0 [.pv (.int .i64 x8), .pv (.int .i64 x9), .pv (.int .i64 x10), .pv (.int .u32 (BitVec.toNat x11 : Nat)), .pv (.int .u32 (BitVec.toNat x12 : Nat)), .pv (.int .u32 (BitVec.toNat x13 : Nat))], .arr 0 1 (List.length x6) (encW o_i64 0 x6)]⟩) (ih (List.set x2 (Int.toNat (List.getD x6 (Int.toNat x18) 0)) (List.getD x2 (Int.toNat (List.getD x6 (Int.toNat x18) 0)) (([] : List Int)) ++ ([(((List.length x5) : Nat) : Int)]))) (iAdd x18 1) _ h) (by (first | rfl | (simp only [flow_solver_solve_l9_s, List.length_set]; done))))
     · exact pmore mixed lives 73 (by kernel_rfl) (pk <| pb c9 <| pn c10 <| pn c11 <| pk2 <| pb c12 <| pk8 <| pk2 <| pb c13 <| pk <| pz) (ih x2 (iAdd x18 1) _ h)
   · exact pmore mixed lives 73 (by kernel_rfl) (pk <| pb c9 <| pn c10 <| pn c11 <| pk2 <| pb c12 <| pk8 <| pk <| pz) (ih x2 (iAdd x18 1) _ h)
 · have h := Option.some.inj h; subst h
   exact plast mixed lives 73 (by kernel_rfl) (pk <| pb c9 <| pz) rfl
def flow_solver_solve_l9_F (F n : Nat) (x0 : List (BitVec 32)) (x1 : List (List Int)) (x2 : List (List Int)) (x3 : List Int) (x4 : List Bool) (x5 : List flow_Rule) (x6 : List Int) (x7 : List flow_Rule) (x8 : Int) (x9 : Int) (x10 : Int) (x11 : BitVec 32) (x12 : BitVec 32) (x13 : BitVec 32) (x14 : List flow_Rule) (x15 : Int) (x16 : Int) (x17 : Int) (x18 : Int) : Option ((List (List Int))) := match n with
  | 0 => none
  | n + 1 =>
    if (decide ((x18 : Int) < x17)) = true then
      if (decide ((0 : Int) ≤ x18)) = true then
        if (decide ((x18 : Int) < (((List.length x6) : Nat) : Int))) = true then
          if (decide (((List.getD x6 (Int.toNat x18) 0) : Int) ≥ 0)) = true then
            if (decide (((List.getD x6 (Int.toNat x18) 0) : Int) < ((((List.length x0) : Nat) : Int)))) = true then
              if (decide ((0 : Int) ≤ (List.getD x6 (Int.toNat x18) 0))) = true then
                if (decide (((List.getD x6 (Int.toNat x18) 0) : Int) < (((List.length x2) : Nat) : Int))) = true then
                  if (Nat.ble ((List.length (List.getD x2 (Int.toNat (List.getD x6 (Int.toNat x18) 0)) (([] : List Int))) + List.length ([(((List.length x5) : Nat) : Int)])) * 8) reach) = true then
                    flow_solver_solve_l9_F F n x0 x1 (List.set x2 (Int.toNat (List.getD x6 (Int.toNat x18) 0)) (List.getD x2 (Int.toNat (List.getD x6 (Int.toNat x18) 0)) (([] : List Int)) ++ ([(((List.length x5) : Nat) : Int)]))) x3 x4 x5 x6 x7 x8 x9 x10 x11 x12 x13 x14 x15 x16 x17 (iAdd x18 1)
                  else none
                else none
              else none
            else
              flow_solver_solve_l9_F F n x0 x1 x2 x3 x4 x5 x6 x7 x8 x9 x10 x11 x12 x13 x14 x15 x16 x17 (iAdd x18 1)
          else
            flow_solver_solve_l9_F F n x0 x1 x2 x3 x4 x5 x6 x7 x8 x9 x10 x11 x12 x13 x14 x15 x16 x17 (iAdd x18 1)
        else none
      else none
    else
      some x2
theorem flow_solver_solve_l9_le (F n : Nat) (x0 : List (BitVec 32)) (x1 : List (List Int)) (x2 : List (List Int)) (x3 : List Int) (x4 : List Bool) (x5 : List flow_Rule) (x6 : List Int) (x7 : List flow_Rule) (x8 : Int) (x9 : Int) (x10 : Int) (x11 : BitVec 32) (x12 : BitVec 32) (x13 : BitVec 32) (x14 : List flow_Rule) (x15 : Int) (x16 : Int) (x17 : Int) (x18 : Int) : Le (flow_solver_solve_l9_F F n x0 x1 x2 x3 x4 x5 x6 x7 x8 x9 x10 x11 x12 x13 x14 x15 x16 x17 x18) (flow_solver_solve_l9 x0 x1 x2 x3 x4 x5 x6 x7 x8 x9 x10 x11 x12 x13 x14 x15 x16 x17 x18) := by
  induction n generalizing x2 x18 with
  | zero => exact Le.none _
  | succ n ih => rw [flow_solver_solve_l9]; exact (Le.ite (Le.ite (Le.ite (Le.ite (Le.ite (Le.ite (Le.ite (Le.ite (ih (List.set x2 (Int.toNat (List.getD x6 (Int.toNat x18) 0)) (List.getD x2 (Int.toNat (List.getD x6 (Int.toNat x18) 0)) (([] : List Int)) ++ ([(((List.length x5) : Nat) : Int)]))) (iAdd x18 1)) (Le.none _)) (Le.none _)) (Le.none _)) (ih x2 (iAdd x18 1))) (ih x2 (iAdd x18 1))) (Le.none _)) (Le.none _)) (Le.refl _))
def e_u32 (x : BitVec 32) : List PV := [.int .u32 (BitVec.toNat x : Nat)]
/-- alibi/flow.at -/
def flow_at (v : List (BitVec 32)) (i : Int) : Option ((BitVec 32)) :=
  if (decide ((i : Int) < 0)) = true then
    some (0#32)
  else
    if (decide ((i : Int) ≥ (((List.length v : Nat) : Int)))) = true then
      some (0#32)
    else
      if (decide ((0 : Int) ≤ i)) = true then
        if (decide ((i : Int) < ((List.length v : Nat) : Int))) = true then
          some (List.getD v (Int.toNat i) (0#32))
        else none
      else none
theorem flow_at_ok (v : List (BitVec 32)) (i : Int) (r : (BitVec 32)) (h : flow_at v i = some r) : Does Try.prog 70 [.pv (.seq (List.length v) (encP e_u32 0#32 v)), .pv (.int .i64 i)] [] (.pv (.int .u32 (BitVec.toNat r : Nat)), []) := by
 unfold flow_at at h
 rcases if_of h with ⟨c1, h⟩ | ⟨c1, h⟩
 · have h := Option.some.inj h; subst h
   exact pdoes mixed (L := lives) (by kernel_rfl) (pk <| pb c1 <| pk5 <| pz)
 · rcases if_of h with ⟨c2, h⟩ | ⟨c2, h⟩
   · have h := Option.some.inj h; subst h
     exact pdoes mixed (L := lives) (by kernel_rfl) (pk <| pb c1 <| pk6 <| pb c2 <| pz)
   · obtain ⟨c3, h⟩ := need_of h
     obtain ⟨c4, h⟩ := need_of h
     have h := Option.some.inj h; subst h
     exact pdoes mixed (L := lives) (by kernel_rfl) (pk <| pb c1 <| pk6 <| pb c2 <| pn c3 <| pn c4 <| pk <| pz)
def flow_at_F (F : Nat) (v : List (BitVec 32)) (i : Int) : Option ((BitVec 32)) :=
  if (decide ((i : Int) < 0)) = true then
    some (0#32)
  else
    if (decide ((i : Int) ≥ (((List.length v : Nat) : Int)))) = true then
      some (0#32)
    else
      if (decide ((0 : Int) ≤ i)) = true then
        if (decide ((i : Int) < ((List.length v : Nat) : Int))) = true then
          some (List.getD v (Int.toNat i) (0#32))
        else none
      else none
theorem flow_at_le (F : Nat) (v : List (BitVec 32)) (i : Int) : Le (flow_at_F F v i) (flow_at v i) := (Le.ite (Le.refl _) (Le.ite (Le.refl _) (Le.ite (Le.ite (Le.refl _) (Le.none _)) (Le.none _))))
/-- (alibi/flow.Rule).Value -/
def flow_Rule_Value (r1 : flow_Rule) (v : List (BitVec 32)) : Option ((BitVec 32)) :=
  bind (flow_at v r1.from_) fun v1 =>
  bind (flow_at v r1.also) fun v3 =>
  if (r1.if_ == (0#32)) = true then
    some (((v1 &&& r1.keep) ||| v3) ||| r1.then_)
  else
    if ((v1 &&& r1.if_) != (0#32)) = true then
      some (((v1 &&& r1.keep) ||| v3) ||| r1.then_)
    else
      some ((v1 &&& r1.keep) ||| v3)
theorem flow_Rule_Value_ok (r1 : flow_Rule) (v : List (BitVec 32)) (r : (BitVec 32)) (h : flow_Rule_Value r1 v = some r) : Does Try.prog 31 [.agg [.pv (.int .i64 r1.to_), .pv (.int .i64 r1.from_), .pv (.int .i64 r1.also), .pv (.int .u32 (BitVec.toNat r1.keep : Nat)), .pv (.int .u32 (BitVec.toNat r1.if_ : Nat)), .pv (.int .u32 (BitVec.toNat r1.then_ : Nat))], .pv (.seq (List.length v) (encP e_u32 0#32 v))] [] (.pv (.int .u32 (BitVec.toNat r : Nat)), []) := by
 unfold flow_Rule_Value at h
 obtain ⟨v1, h2, h⟩ := bind_of h
 obtain ⟨v3, h4, h⟩ := bind_of h
 rcases if_of h with ⟨c5, h⟩ | ⟨c5, h⟩
 · have h := Option.some.inj h; subst h
   exact pdoes mixed (L := lives) (by kernel_rfl) (pk2 <| pc (flow_at_ok _ _ _ h2) <| pk2 <| pe (eff_int (k := .u32) (un_and .u32 rfl v1 r1.keep)) <| pk <| pc (flow_at_ok _ _ _ h4) <| pk <| pe (eff_int (k := .u32) (un_or .u32 rfl (v1 &&& r1.keep) v3)) <| pk <| pe (eff_bool (un_eql r1.if_ (0#32))) <| pb c5 <| pk7 <| pe (eff_int (k := .u32) (un_or .u32 rfl ((v1 &&& r1.keep) ||| v3) r1.then_)) <| pz)
 · rcases if_of h with ⟨c6, h⟩ | ⟨c6, h⟩
   · have h := Option.some.inj h; subst h
     exact pdoes mixed (L := lives) (by kernel_rfl) (pk2 <| pc (flow_at_ok _ _ _ h2) <| pk2 <| pe (eff_int (k := .u32) (un_and .u32 rfl v1 r1.keep)) <| pk <| pc (flow_at_ok _ _ _ h4) <| pk <| pe (eff_int (k := .u32) (un_or .u32 rfl (v1 &&& r1.keep) v3)) <| pk <| pe (eff_bool (un_eql r1.if_ (0#32))) <| pb c5 <| pk4 <| pe (eff_int (k := .u32) (un_and .u32 rfl v1 r1.if_)) <| pk <| pe (eff_bool (un_neq (v1 &&& r1.if_) (0#32))) <| pk <| pb c6 <| pk <| pe (eff_int (k := .u32) (un_or .u32 rfl ((v1 &&& r1.keep) ||| v3) r1.then_)) <| pz)
   · have h := Option.some.inj h; subst h
     exact pdoes mixed (L := lives) (by kernel_rfl) (pk2 <| pc (flow_at_ok _ _ _ h2) <| pk2 <| pe (eff_int (k := .u32) (un_and .u32 rfl v1 r1.keep)) <| pk <| pc (flow_at_ok _ _ _ h4) <| pk <| pe (eff_int (k := .u32) (un_or .u32 rfl (v1 &&& r1.keep) v3)) <| pk <| pe (eff_bool (un_eql r1.if_ (0#32))) <| pb c5 <| pk4 <| pe (eff_int (k := .u32) (un_and .u32 rfl v1 r1.if_)) <| pk <| pe (eff_bool (un_neq (v1 &&& r1.if_) (0#32))) <| pk <| pb c6 <| pz)
def flow_Rule_Value_F (F : Nat) (r1 : flow_Rule) (v : List (BitVec 32)) : Option ((BitVec 32)) :=
  bind (flow_at_F F v r1.from_) fun v1 =>
  bind (flow_at_F F v r1.also) fun v3 =>
  if (r1.if_ == (0#32)) = true then
    some (((v1 &&& r1.keep) ||| v3) ||| r1.then_)
  else
    if ((v1 &&& r1.if_) != (0#32)) = true then
      some (((v1 &&& r1.keep) ||| v3) ||| r1.then_)
    else
      some ((v1 &&& r1.keep) ||| v3)
theorem flow_Rule_Value_le (F : Nat) (r1 : flow_Rule) (v : List (BitVec 32)) : Le (flow_Rule_Value_F F r1 v) (flow_Rule_Value r1 v) := (Le.bind (flow_at_le F _ _) fun v1 => (Le.bind (flow_at_le F _ _) fun v3 => (Le.ite (Le.refl _) (Le.ite (Le.refl _) (Le.refl _)))))
/-- alibi/flow.meet -/
def flow_meet (a : BitVec 32) (b : BitVec 32) : Option ((BitVec 32)) :=
  some (a &&& b)
theorem flow_meet_ok (a : BitVec 32) (b : BitVec 32) (r : (BitVec 32)) (h : flow_meet a b = some r) : Does Try.prog 72 [.pv (.int .u32 (BitVec.toNat a : Nat)), .pv (.int .u32 (BitVec.toNat b : Nat))] [] (.pv (.int .u32 (BitVec.toNat r : Nat)), []) := by
 unfold flow_meet at h
 have h := Option.some.inj h; subst h
 exact pdoes mixed (L := lives) (by kernel_rfl) (pe (eff_int (k := .u32) (un_and .u32 rfl a b)) <| pz)
def flow_meet_F (F : Nat) (a : BitVec 32) (b : BitVec 32) : Option ((BitVec 32)) :=
  some (a &&& b)
theorem flow_meet_le (F : Nat) (a : BitVec 32) (b : BitVec 32) : Le (flow_meet_F F a b) (flow_meet a b) := (Le.refl _)
/-- (*alibi/flow.solver).apply -/
def flow_solver_apply (l1 : List (BitVec 32)) (l2 : List (List Int)) (b0 : List flow_Rule) (r1 : flow_Rule) : Option (Bool × (List (BitVec 32))) :=
  if (decide ((0 : Int) ≤ r1.to_)) = true then
    if (decide ((r1.to_ : Int) < (((List.length l1) : Nat) : Int))) = true then
      bind (flow_Rule_Value r1 l1) fun v3 =>
      bind (flow_meet (List.getD l1 (Int.toNat r1.to_) (0#32)) v3) fun v5 =>
      some ((List.getD (List.set l1 (Int.toNat r1.to_) v5) (Int.toNat r1.to_) (0#32)) != (List.getD l1 (Int.toNat r1.to_) (0#32)), List.set l1 (Int.toNat r1.to_) v5)
    else none
  else none
theorem flow_solver_apply_ok (l1 : List (BitVec 32)) (l2 : List (List Int)) (b0 : List flow_Rule) (r1 : flow_Rule) (r : Bool × (List (BitVec 32))) (h : flow_solver_apply l1 l2 b0 r1 = some r) : Does Try.prog 110 [.ptr 0 [] 0 0, .agg [.pv (.int .i64 r1.to_), .pv (.int .i64 r1.from_), .pv (.int .i64 r1.also), .pv (.int .u32 (BitVec.toNat r1.keep : Nat)), .pv (.int .u32 (BitVec.toNat r1.if_ : Nat)), .pv (.int .u32 (BitVec.toNat r1.then_ : Nat))]] [.box 2 [.ms 1 [] 0 (List.length l1), .pv (.seq (List.length b0) (encP e_flow_Rule d_flow_Rule b0)), .ms 2 [] 0 (List.length l2), .pv (.fn 72)], .arr 2 1 (List.length l1) (encW o_u32 0#32 l1), .arr 2 1 (List.length l2) (encW o_26 ([] : List Int) l2)] (.pv (.bool r.1), [.box 2 [.ms 1 [] 0 (List.length r.2), .pv (.seq (List.length b0) (encP e_flow_Rule d_flow_Rule b0)), .ms 2 [] 0 (List.length l2), .pv (.fn 72)], .arr 2 1 (List.length r.2) (encW o_u32 0#32 r.2), .arr 2 1 (List.length l2) (encW o_26 ([] : List Int) l2)]) := by
 unfold flow_solver_apply at h
 obtain ⟨c1, h⟩ := need_of h
 obtain ⟨c2, h⟩ := need_of h
 obtain ⟨v3, h4, h⟩ := bind_of h
 obtain ⟨v5, h6, h⟩ := bind_of h
 have h := Option.some.inj h; subst h
 refine Does.eq (pdoes mixed (L := lives) (r := (.pv (.bool ((List.getD (List.set l1 (Int.toNat r1.to_) v5) (Int.toNat r1.to_) (0#32)) != (List.getD l1 (Int.toNat r1.to_) (0#32)))), [.box 2 [.ms 1 [] 0 (List.length l1), .pv (.seq (List.length b0) (encP e_flow_Rule d_flow_Rule b0)), .ms 2 [] 0 (List.length l2), .pv (.fn 72)], .arr 2 1 (List.length l1) (encW o_u32 0#32 (List.set l1 (Int.toNat r1.to_) v5)), .arr 2 1 (List.length l2) (encW o_26 ([] : List Int) l2)])) (by kernel_rfl) (pk3 <| pn c1 <| pn c2 <| pk6 <| pb (whole_ok (List.length l1)) <| pc (Does.of (args' := [.agg [.pv (.int .i64 r1.to_), .pv (.int .i64 r1.from_), .pv (.int .i64 r1.also), .pv (.int .u32 (BitVec.toNat r1.keep : Nat)), .pv (.int .u32 (BitVec.toNat r1.if_ : Nat)), .pv (.int .u32 (BitVec.toNat r1.then_ : Nat))], .pv (.seq (List.length l1) (encP e_u32 (0#32) l1))]) (H' := []) (flow_Rule_Value_ok _ _ _ h4) (by (first | rfl | (simp only [List.length_set]; done)))) <| pk <| pc (flow_meet_ok _ _ _ h6) <| pk <| pn c1 <| pn c2 <| pt <| pe (eff_hb (v := dead) (b := 1) (hb := []) (sc := []) (put_top o_u32 (0#32) 2 1 (List.length l1) l1 (Int.toNat r1.to_) 0 [.pv (.int .u32 (BitVec.toNat v5 : Nat))] v5 (by kernel_rfl) (by first | exact Nat.le_refl _ | exact Nat.zero_le _ | (simp only [decide_eq_true_eq, List.length_set, List.length_append, List.length_replicate, List.length_cons, List.length_nil, Nat.zero_add] at * <;> omega)))) <| pk2 <| pn c1 <| pn c2 <| pk <| pe (eff_bool (un_neq (List.getD (List.set l1 (Int.toNat r1.to_) v5) (Int.toNat r1.to_) (0#32)) (List.getD l1 (Int.toNat r1.to_) (0#32)))) <| pz)) ?_
 (first | rfl | (simp only [List.length_set]; done))
def flow_solver_apply_F (F : Nat) (l1 : List (BitVec 32)) (l2 : List (List Int)) (b0 : List flow_Rule) (r1 : flow_Rule) : Option (Bool × (List (BitVec 32))) :=
  if (decide ((0 : Int) ≤ r1.to_)) = true then
    if (decide ((r1.to_ : Int) < (((List.length l1) : Nat) : Int))) = true then
      bind (flow_Rule_Value_F F r1 l1) fun v3 =>
      bind (flow_meet_F F (List.getD l1 (Int.toNat r1.to_) (0#32)) v3) fun v5 =>
      some ((List.getD (List.set l1 (Int.toNat r1.to_) v5) (Int.toNat r1.to_) (0#32)) != (List.getD l1 (Int.toNat r1.to_) (0#32)), List.set l1 (Int.toNat r1.to_) v5)
    else none
  else none
theorem flow_solver_apply_le (F : Nat) (l1 : List (BitVec 32)) (l2 : List (List Int)) (b0 : List flow_Rule) (r1 : flow_Rule) : Le (flow_solver_apply_F F l1 l2 b0 r1) (flow_solver_apply l1 l2 b0 r1) := (Le.ite (Le.ite (Le.bind (flow_Rule_Value_le F _ _) fun v3 => (Le.bind (flow_meet_le F _ _) fun v5 => (Le.refl _))) (Le.none _)) (Le.none _))
/-- (*alibi/flow.todo).Push -/
def flow_todo_Push (l1 : List Int) (l2 : List Bool) (x : Int) : Option ((List Int)) :=
  if (Nat.ble ((List.length l1 + List.length ([x])) * 8) reach) = true then
    some (l1 ++ ([x]))
  else none
theorem flow_todo_Push_ok (l1 : List Int) (l2 : List Bool) (x : Int) (r : (List Int)) (h : flow_todo_Push l1 l2 x = some r) : Does Try.prog 153 [.ptr 0 [] 0 0, .ifc 3 (.pv (.int .i64 x))] [.box 2 [.ms 1 [] 0 (List.length l1), .ms 2 [] 0 (List.length l2)], .arr 2 1 (List.length l1) (encW o_i64 0 l1), .arr 2 1 (List.length l2) (encW o_bool false l2)] (.tup [], [.box 2 [.ms 1 [] 0 (List.length r), .ms 2 [] 0 (List.length l2)], .arr 0 1 (List.length r) (encW o_i64 0 r), .arr 2 1 (List.length l2) (encW o_bool false l2)]) := by
 unfold flow_todo_Push at h
 obtain ⟨c1, h⟩ := need_of h
 have h := Option.some.inj h; subst h
 exact pdoes mixed (L := lives) (by kernel_rfl) (pk <| pe (eff_lit o_i64 0 3 1 1 ([x]) rfl [] []) <| pb (whole_ok (List.length ([x]))) <| pn c1 <| pe (eff_app o_i64 0 l1 ([x]) (l1 ++ ([x])) 1 1 (List.length l1) (List.length ([x])) (fun i => List.map AV.scal (encW o_i64 0 ([x]) i)) (encW o_i64 0 l1 (List.length l1)) [] [] [(1, false)] (by first | exact Nat.le_refl _ | exact Nat.zero_le _ | (simp only [decide_eq_true_eq, List.length_set, List.length_append, List.length_replicate, List.length_cons, List.length_nil, Nat.zero_add] at * <;> omega)) rfl (fun _ => by kernel_rfl) (congrArg o_i64 (getD_ge 0 (by first | exact Nat.le_refl _ | exact Nat.zero_le _ | (simp only [decide_eq_true_eq, List.length_set, List.length_append, List.length_replicate, List.length_cons, List.length_nil, Nat.zero_add] at * <;> omega)))) (by rw [List.take_of_length_le (by first | exact Nat.le_refl _ | exact Nat.zero_le _ | (simp only [decide_eq_true_eq, List.length_set, List.length_append, List.length_replicate, List.length_cons, List.length_nil, Nat.zero_add] at * <;> omega))])) <| pk <| pz)
def flow_todo_Push_F (F : Nat) (l1 : List Int) (l2 : List Bool) (x : Int) : Option ((List Int)) :=
  if (Nat.ble ((List.length l1 + List.length ([x])) * 8) reach) = true then
    some (l1 ++ ([x]))
  else none
theorem flow_todo_Push_le (F : Nat) (l1 : List Int) (l2 : List Bool) (x : Int) : Le (flow_todo_Push_F F l1 l2 x) (flow_todo_Push l1 l2 x) := (Le.ite (Le.refl _) (Le.none _))
/-- (*alibi/flow.todo).Len -/
def flow_todo_Len (l1 : List Int) (l2 : List Bool) : Option (Int) :=
  some ((((List.length l1) : Nat) : Int))
theorem flow_todo_Len_ok (l1 : List Int) (l2 : List Bool) (r : Int) (h : flow_todo_Len l1 l2 = some r) : Does Try.prog 112 [.ptr 0 [] 0 0] [.box 2 [.ms 1 [] 0 (List.length l1), .ms 2 [] 0 (List.length l2)], .arr 2 1 (List.length l1) (encW o_i64 0 l1), .arr 2 1 (List.length l2) (encW o_bool false l2)] (.pv (.int .i64 r), [.box 2 [.ms 1 [] 0 (List.length l1), .ms 2 [] 0 (List.length l2)], .arr 2 1 (List.length l1) (encW o_i64 0 l1), .arr 2 1 (List.length l2) (encW o_bool false l2)]) := by
 unfold flow_todo_Len at h
 have h := Option.some.inj h; subst h
 exact pdoes mixed (L := lives) (by kernel_rfl) (pk2 <| pz)
def flow_todo_Len_F (F : Nat) (l1 : List Int) (l2 : List Bool) : Option (Int) :=
  some ((((List.length l1) : Nat) : Int))
theorem flow_todo_Len_le (F : Nat) (l1 : List Int) (l2 : List Bool) : Le (flow_todo_Len_F F l1 l2) (flow_todo_Len l1 l2) := (Le.refl _)
/-- (*alibi/flow.todo).Less -/
def flow_todo_Less (l1 : List Int) (l2 : List Bool) (i : Int) (k : Int) : Option (Bool) :=
  if (decide ((0 : Int) ≤ i)) = true then
    if (decide ((i : Int) < (((List.length l1) : Nat) : Int))) = true then
      if (decide ((0 : Int) ≤ k)) = true then
        if (decide ((k : Int) < (((List.length l1) : Nat) : Int))) = true then
          some (decide (((List.getD l1 (Int.toNat i) 0) : Int) < (List.getD l1 (Int.toNat k) 0)))
        else none
      else none
    else none
  else none
theorem flow_todo_Less_ok (l1 : List Int) (l2 : List Bool) (i : Int) (k : Int) (r : Bool) (h : flow_todo_Less l1 l2 i k = some r) : Does Try.prog 151 [.ptr 0 [] 0 0, .pv (.int .i64 i), .pv (.int .i64 k)] [.box 2 [.ms 1 [] 0 (List.length l1), .ms 2 [] 0 (List.length l2)], .arr 2 1 (List.length l1) (encW o_i64 0 l1), .arr 2 1 (List.length l2) (encW o_bool false l2)] (.pv (.bool r), [.box 2 [.ms 1 [] 0 (List.length l1), .ms 2 [] 0 (List.length l2)], .arr 2 1 (List.length l1) (encW o_i64 0 l1), .arr 2 1 (List.length l2) (encW o_bool false l2)]) := by
 unfold flow_todo_Less at h
 obtain ⟨c1, h⟩ := need_of h
 obtain ⟨c2, h⟩ := need_of h
 obtain ⟨c3, h⟩ := need_of h
 obtain ⟨c4, h⟩ := need_of h
 have h := Option.some.inj h; subst h
 exact pdoes mixed (L := lives) (by kernel_rfl) (pk <| pn c1 <| pn c2 <| pk2 <| pn c3 <| pn c4 <| pk2 <| pz)
def flow_todo_Less_F (F : Nat) (l1 : List Int) (l2 : List Bool) (i : Int) (k : Int) : Option (Bool) :=
  if (decide ((0 : Int) ≤ i)) = true then
    if (decide ((i : Int) < (((List.length l1) : Nat) : Int))) = true then
      if (decide ((0 : Int) ≤ k)) = true then
        if (decide ((k : Int) < (((List.length l1) : Nat) : Int))) = true then
          some (decide (((List.getD l1 (Int.toNat i) 0) : Int) < (List.getD l1 (Int.toNat k) 0)))
        else none
      else none
    else none
  else none
theorem flow_todo_Less_le (F : Nat) (l1 : List Int) (l2 : List Bool) (i : Int) (k : Int) : Le (flow_todo_Less_F F l1 l2 i k) (flow_todo_Less l1 l2 i k) := (Le.ite (Le.ite (Le.ite (Le.ite (Le.refl _) (Le.none _)) (Le.none _)) (Le.none _)) (Le.none _))
/-- (*alibi/flow.todo).Swap -/
def flow_todo_Swap (l1 : List Int) (l2 : List Bool) (i : Int) (k : Int) : Option ((List Int)) :=
  if (decide ((0 : Int) ≤ k)) = true then
    if (decide ((k : Int) < (((List.length l1) : Nat) : Int))) = true then
      if (decide ((0 : Int) ≤ i)) = true then
        if (decide ((i : Int) < (((List.length l1) : Nat) : Int))) = true then
          some (List.set (List.set l1 (Int.toNat i) (List.getD l1 (Int.toNat k) 0)) (Int.toNat k) (List.getD l1 (Int.toNat i) 0))
        else none
      else none
    else none
  else none
theorem flow_todo_Swap_ok (l1 : List Int) (l2 : List Bool) (i : Int) (k : Int) (r : (List Int)) (h : flow_todo_Swap l1 l2 i k = some r) : Does Try.prog 154 [.ptr 0 [] 0 0, .pv (.int .i64 i), .pv (.int .i64 k)] [.box 2 [.ms 1 [] 0 (List.length l1), .ms 2 [] 0 (List.length l2)], .arr 2 1 (List.length l1) (encW o_i64 0 l1), .arr 2 1 (List.length l2) (encW o_bool false l2)] (.tup [], [.box 2 [.ms 1 [] 0 (List.length r), .ms 2 [] 0 (List.length l2)], .arr 2 1 (List.length r) (encW o_i64 0 r), .arr 2 1 (List.length l2) (encW o_bool false l2)]) := by
 unfold flow_todo_Swap at h
 obtain ⟨c1, h⟩ := need_of h
 obtain ⟨c2, h⟩ := need_of h
 obtain ⟨c3, h⟩ := need_of h
 obtain ⟨c4, h⟩ := need_of h
 have h := Option.some.inj h; subst h
 refine Does.eq (pdoes mixed (L := lives) (r := (.tup [], [.box 2 [.ms 1 [] 0 (List.length l1), .ms 2 [] 0 (List.length l2)], .arr 2 1 (List.length l1) (encW o_i64 0 (List.set (List.set l1 (Int.toNat i) (List.getD l1 (Int.toNat k) 0)) (Int.toNat k) (List.getD l1 (Int.toNat i) 0))), .arr 2 1 (List.length l2) (encW o_bool false l2)])) (by kernel_rfl) (pk3 <| pn c1 <| pn c2 <| pk2 <| pn c3 <| pn c4 <| pk <| pn c3 <| pn c4 <| pt <| pe (eff_hb (v := dead) (b := 1) (hb := []) (sc := []) (put_top o_i64 0 2 1 (List.length l1) l1 (Int.toNat i) 0 [.pv (.int .i64 (List.getD l1 (Int.toNat k) 0))] (List.getD l1 (Int.toNat k) 0) (by kernel_rfl) (by first | exact Nat.le_refl _ | exact Nat.zero_le _ | (simp only [decide_eq_true_eq, List.length_set, List.length_append, List.length_replicate, List.length_cons, List.length_nil, Nat.zero_add] at * <;> omega)))) <| pn c1 <| pn c2 <| pt <| pe (eff_hb (v := dead) (b := 1) (hb := []) (sc := []) (put_top o_i64 0 2 1 (List.length l1) (List.set l1 (Int.toNat i) (List.getD l1 (Int.toNat k) 0)) (Int.toNat k) 0 [.pv (.int .i64 (List.getD l1 (Int.toNat i) 0))] (List.getD l1 (Int.toNat i) 0) (by kernel_rfl) (by first | exact Nat.le_refl _ | exact Nat.zero_le _ | (simp only [decide_eq_true_eq, List.length_set, List.length_append, List.length_replicate, List.length_cons, List.length_nil, Nat.zero_add] at * <;> omega)))) <| pz)) ?_
 (first | rfl | (simp only [List.length_set]; done))
def flow_todo_Swap_F (F : Nat) (l1 : List Int) (l2 : List Bool) (i : Int) (k : Int) : Option ((List Int)) :=
  if (decide ((0 : Int) ≤ k)) = true then
    if (decide ((k : Int) < (((List.length l1) : Nat) : Int))) = true then
      if (decide ((0 : Int) ≤ i)) = true then
        if (decide ((i : Int) < (((List.length l1) : Nat) : Int))) = true then
          some (List.set (List.set l1 (Int.toNat i) (List.getD l1 (Int.toNat k) 0)) (Int.toNat k) (List.getD l1 (Int.toNat i) 0))
        else none
      else none
    else none
  else none
theorem flow_todo_Swap_le (F : Nat) (l1 : List Int) (l2 : List Bool) (i : Int) (k : Int) : Le (flow_todo_Swap_F F l1 l2 i k) (flow_todo_Swap l1 l2 i k) := (Le.ite (Le.ite (Le.ite (Le.ite (Le.refl _) (Le.none _)) (Le.none _)) (Le.none _)) (Le.none _))
noncomputable def heap_up_l0_c : Code := sub (codeOf Try.prog 118) [0, 0]
def heap_up_l0 (x0 : List Int) (x1 : List Bool) (x2 : Int) : Option ((List Int)) :=
  if (((iQuo (iSub x2 1) 2) : Int) == x2) = true then
    some x0
  else
    bind (flow_todo_Less x0 x1 x2 (iQuo (iSub x2 1) 2)) fun v2 =>
    if (!v2) = true then
      some x0
    else
      bind (flow_todo_Swap x0 x1 (iQuo (iSub x2 1) 2) x2) fun v5 =>
      heap_up_l0 v5 x1 (iQuo (iSub x2 1) 2)
partial_fixpoint
noncomputable abbrev heap_up_l0_s (x0 : List Int) (x1 : List Bool) (x2 : Int) : St := ⟨.ifc 158 (.ptr 0 [] 0 0) :: .pv (.int .i64 x2) :: List.replicate 21 dead, [.box 2 [.ms 1 [] 0 (List.length x0), .ms 2 [] 0 (List.length x1)], .arr 2 1 (List.length x0) (encW o_i64 0 x0), .arr 2 1 (List.length x1) (encW o_bool false x1)]⟩
noncomputable abbrev heap_up_l0_e (x0 : List Int) (x1 : List Bool) (x2 : Int) (r : (List Int)) : St := ⟨List.replicate 23 dead, [.box 2 [.ms 1 [] 0 (List.length r), .ms 2 [] 0 (List.length x1)], .arr 2 1 (List.length r) (encW o_i64 0 r), .arr 2 1 (List.length x1) (encW o_bool false x1)]⟩
theorem heap_up_l0_ok (x0 : List Int) (x1 : List Bool) (x2 : Int) (r : (List Int)) (h : heap_up_l0 x0 x1 x2 = some r) : Loops Try.prog heap_up_l0_c 3 (heap_up_l0_s x0 x1 x2) (.exit 0) (heap_up_l0_e x0 x1 x2 r) := by
 refine heap_up_l0.partial_correctness x1 (fun x0 x2 r => Loops Try.prog heap_up_l0_c 3 (heap_up_l0_s x0 x1 x2) (.exit 0) (heap_up_l0_e x0 x1 x2 r)) ?_ x0 x2 r h
 clear h r x0 x2
 intro self ih x0 x2 r h
 rcases if_of h with ⟨c1, h⟩ | ⟨c1, h⟩
 · have h := Option.some.inj h; subst h
   exact plast mixed lives 118 (by kernel_rfl) (pk <| pn (rfl : (!decide (2 = (0 : Int))) = true) <| pk2 <| pb c1 <| pk6 <| pz) rfl
 · obtain ⟨v2, h3, h⟩ := bind_of h
   rcases if_of h with ⟨c4, h⟩ | ⟨c4, h⟩
   · have h := Option.some.inj h; subst h
     exact plast mixed lives 118 (by kernel_rfl) (pk <| pn (rfl : (!decide (2 = (0 : Int))) = true) <| pk2 <| pb c1 <| pk3 <| pc (flow_todo_Less_ok _ _ _ _ _ h3) <| pk4 <| pb c4 <| pz) rfl
   · obtain ⟨v5, h6, h⟩ := bind_of h
     exact pmore mixed lives 118 (by kernel_rfl) (pk <| pn (rfl : (!decide (2 = (0 : Int))) = true) <| pk2 <| pb c1 <| pk3 <| pc (flow_todo_Less_ok _ _ _ _ _ h3) <| pk4 <| pb c4 <| pc (flow_todo_Swap_ok _ _ _ _ _ h6) <| pk <| pz) (ih v5 (iQuo (iSub x2 1) 2) _ h)
def heap_up_l0_F (F n : Nat) (x0 : List Int) (x1 : List Bool) (x2 : Int) : Option ((List Int)) := match n with
  | 0 => none
  | n + 1 =>
    if (((iQuo (iSub x2 1) 2) : Int) == x2) = true then
      some x0
    else
      bind (flow_todo_Less_F F x0 x1 x2 (iQuo (iSub x2 1) 2)) fun v2 =>
      if (!v2) = true then
        some x0
      else
        bind (flow_todo_Swap_F F x0 x1 (iQuo (iSub x2 1) 2) x2) fun v5 =>
        heap_up_l0_F F n v5 x1 (iQuo (iSub x2 1) 2)
theorem heap_up_l0_le (F n : Nat) (x0 : List Int) (x1 : List Bool) (x2 : Int) : Le (heap_up_l0_F F n x0 x1 x2) (heap_up_l0 x0 x1 x2) := by
  induction n generalizing x0 x2 with
  | zero => exact Le.none _
  | succ n ih => rw [heap_up_l0]; exact (Le.ite (Le.refl _) (Le.bind (flow_todo_Less_le F _ _ _ _) fun v2 => (Le.ite (Le.refl _) (Le.bind (flow_todo_Swap_le F _ _ _ _) fun v5 => (ih v5 (iQuo (iSub x2 1) 2))))))
/-- container/heap.up -/
def heap_up (l1 : List Int) (l2 : List Bool) (j : Int) : Option ((List Int)) :=
  bind (heap_up_l0 l1 l2 j) fun v7 =>
  some v7
theorem heap_up_ok (l1 : List Int) (l2 : List Bool) (j : Int) (r : (List Int)) (h : heap_up l1 l2 j = some r) : Does Try.prog 118 [.ifc 158 (.ptr 0 [] 0 0), .pv (.int .i64 j)] [.box 2 [.ms 1 [] 0 (List.length l1), .ms 2 [] 0 (List.length l2)], .arr 2 1 (List.length l1) (encW o_i64 0 l1), .arr 2 1 (List.length l2) (encW o_bool false l2)] (.tup [], [.box 2 [.ms 1 [] 0 (List.length r), .ms 2 [] 0 (List.length l2)], .arr 2 1 (List.length r) (encW o_i64 0 r), .arr 2 1 (List.length l2) (encW o_bool false l2)]) := by
 unfold heap_up at h
 obtain ⟨v7, h8, h⟩ := bind_of h
 have h := Option.some.inj h; subst h
 exact pdoes mixed (L := lives) (by kernel_rfl) (pl (heap_up_l0_ok _ _ _ _ h8) <| pz)
def heap_up_F (F : Nat) (l1 : List Int) (l2 : List Bool) (j : Int) : Option ((List Int)) :=
  bind (heap_up_l0_F F F l1 l2 j) fun v7 =>
  some v7
theorem heap_up_le (F : Nat) (l1 : List Int) (l2 : List Bool) (j : Int) : Le (heap_up_F F l1 l2 j) (heap_up l1 l2 j) := (Le.bind (heap_up_l0_le F F _ _ _) fun v7 => (Le.refl _))
/-- container/heap.Push -/
def heap_Push (l1 : List Int) (l2 : List Bool) (x : Int) : Option ((List Int)) :=
  bind (flow_todo_Push l1 l2 x) fun v1 =>
  bind (flow_todo_Len v1 l2) fun v3 =>
  bind (heap_up v1 l2 (iSub v3 1)) fun v5 =>
  some v5
theorem heap_Push_ok (l1 : List Int) (l2 : List Bool) (x : Int) (r : (List Int)) (h : heap_Push l1 l2 x = some r) : Does Try.prog 79 [.ifc 158 (.ptr 0 [] 0 0), .ifc 3 (.pv (.int .i64 x))] [.box 2 [.ms 1 [] 0 (List.length l1), .ms 2 [] 0 (List.length l2)], .arr 2 1 (List.length l1) (encW o_i64 0 l1), .arr 2 1 (List.length l2) (encW o_bool false l2)] (.tup [], [.box 2 [.ms 1 [] 0 (List.length r), .ms 2 [] 0 (List.length l2)], .arr 0 1 (List.length r) (encW o_i64 0 r), .arr 2 1 (List.length l2) (encW o_bool false l2)]) := by
 unfold heap_Push at h
 obtain ⟨v1, h2, h⟩ := bind_of h
 obtain ⟨v3, h4, h⟩ := bind_of h
 obtain ⟨v5, h6, h⟩ := bind_of h
 have h := Option.some.inj h; subst h
 exact pdoes mixed (L := lives) (by kernel_rfl) (pc (flow_todo_Push_ok _ _ _ _ h2) <| pk <| pc (flow_todo_Len_ok _ _ _ h4) <| pk2 <| pc (heap_up_ok _ _ _ _ h6) <| pk <| pz)
def heap_Push_F (F : Nat) (l1 : List Int) (l2 : List Bool) (x : Int) : Option ((List Int)) :=
  bind (flow_todo_Push_F F l1 l2 x) fun v1 =>
  bind (flow_todo_Len_F F v1 l2) fun v3 =>
  bind (heap_up_F F v1 l2 (iSub v3 1)) fun v5 =>
  some v5
theorem heap_Push_le (F : Nat) (l1 : List Int) (l2 : List Bool) (x : Int) : Le (heap_Push_F F l1 l2 x) (heap_Push l1 l2 x) := (Le.bind (flow_todo_Push_le F _ _ _) fun v1 => (Le.bind (flow_todo_Len_le F _ _) fun v3 => (Le.bind (heap_up_le F _ _ _) fun v5 => (Le.refl _))))
/-- (*alibi/flow.todo).add -/
def flow_todo_add (l1 : List Int) (l2 : List Bool) (i : Int) : Option ((List Int) × (List Bool)) :=
  if (decide ((0 : Int) ≤ i)) = true then
    if (decide ((i : Int) < (((List.length l2) : Nat) : Int))) = true then
      if (!(List.getD l2 (Int.toNat i) false)) = true then
        bind (heap_Push l1 (List.set l2 (Int.toNat i) true) i) fun v4 =>
        some (v4, List.set l2 (Int.toNat i) true)
      else
        some (l1, l2)
    else none
  else none
theorem flow_todo_add_ok (l1 : List Int) (l2 : List Bool) (i : Int) (r : (List Int) × (List Bool)) (h : flow_todo_add l1 l2 i = some r) : Does Try.prog 111 [.ptr 0 [] 0 0, .pv (.int .i64 i)] [.box 2 [.ms 1 [] 0 (List.length l1), .ms 2 [] 0 (List.length l2)], .arr 2 1 (List.length l1) (encW o_i64 0 l1), .arr 2 1 (List.length l2) (encW o_bool false l2)] (.tup [], [.box 2 [.ms 1 [] 0 (List.length r.1), .ms 2 [] 0 (List.length r.2)], .arr 0 1 (List.length r.1) (encW o_i64 0 r.1), .arr 2 1 (List.length r.2) (encW o_bool false r.2)]) := by
 unfold flow_todo_add at h
 obtain ⟨c1, h⟩ := need_of h
 obtain ⟨c2, h⟩ := need_of h
 rcases if_of h with ⟨c3, h⟩ | ⟨c3, h⟩
 · obtain ⟨v4, h5, h⟩ := bind_of h
   have h := Option.some.inj h; subst h
   exact pdoes mixed (L := lives) (by kernel_rfl) (pk <| pn c1 <| pn c2 <| pk2 <| pb c3 <| pk <| pn c1 <| pn c2 <| pt <| pe (eff_hb (v := dead) (b := 2) (hb := []) (sc := []) (put_top o_bool false 2 1 (List.length l2) l2 (Int.toNat i) 0 [.pv (.bool true)] true (by kernel_rfl) (by first | exact Nat.le_refl _ | exact Nat.zero_le _ | (simp only [decide_eq_true_eq, List.length_set, List.length_append, List.length_replicate, List.length_cons, List.length_nil, Nat.zero_add] at * <;> omega)))) <| pc (Does.of (args' := [.ifc 158 (.ptr 0 [] 0 0), .ifc 3 (.pv (.int .i64 i))]) (H' := [.box 2 [.ms 1 [] 0 (List.length l1), .ms 2 [] 0 (List.length l2)], .arr 2 1 (List.length l1) (encW o_i64 0 l1), .arr 2 1 (List.length l2) (encW o_bool false (List.set l2 (Int.toNat i) true))]) (heap_Push_ok _ _ _ _ h5) (by (first | rfl | (simp only [List.length_set]; done)))) <| pk <| pz)
 · have h := Option.some.inj h; subst h
   exact pdoes mixed (L := lives) (by kernel_rfl) (pk <| pn c1 <| pn c2 <| pk2 <| pb c3 <| pz)
def flow_todo_add_F (F : Nat) (l1 : List Int) (l2 : List Bool) (i : Int) : Option ((List Int) × (List Bool)) :=
  if (decide ((0 : Int) ≤ i)) = true then
    if (decide ((i : Int) < (((List.length l2) : Nat) : Int))) = true then
      if (!(List.getD l2 (Int.toNat i) false)) = true then
        bind (heap_Push_F F l1 (List.set l2 (Int.toNat i) true) i) fun v4 =>
        some (v4, List.set l2 (Int.toNat i) true)
      else
        some (l1, l2)
    else none
  else none
theorem flow_todo_add_le (F : Nat) (l1 : List Int) (l2 : List Bool) (i : Int) : Le (flow_todo_add_F F l1 l2 i) (flow_todo_add l1 l2 i) := (Le.ite (Le.ite (Le.ite (Le.bind (heap_Push_le F _ _ _) fun v4 => (Le.refl _)) (Le.refl _)) (Le.none _)) (Le.none _))
noncomputable def flow_solver_solve_l5_c : Code := sub (codeOf Try.prog 73) [1, 1, 1, 1, 0, 1, 0, 0]
def flow_solver_solve_l5 (x0 : List (BitVec 32)) (x1 : List (List Int)) (x2 : List (List Int)) (x3 : List Int) (x4 : List Bool) (x5 : List flow_Rule) (x6 : List flow_Rule) (x7 : List flow_Rule) (x8 : Int) (x9 : Int) : Option ((List (BitVec 32)) × (List (List Int)) × (List Int) × (List Bool) × (List flow_Rule)) :=
  if (decide ((x9 : Int) < x8)) = true then
    if (decide ((0 : Int) ≤ x9)) = true then
      if (decide ((x9 : Int) < ((List.length x7 : Nat) : Int))) = true then
        if (decide ((((List.getD x7 (Int.toNat x9) d_flow_Rule).to_) : Int) < 0)) = true then
          flow_solver_solve_l5 x0 x1 x2 x3 x4 x5 x6 x7 x8 (iAdd x9 1)
        else
          if (decide ((((List.getD x7 (Int.toNat x9) d_flow_Rule).to_) : Int) ≥ ((((List.length x0) : Nat) : Int)))) = true then
            flow_solver_solve_l5 x0 x1 x2 x3 x4 x5 x6 x7 x8 (iAdd x9 1)
          else
            bind (flow_solver_solve_l9 x0 x1 x2 x3 x4 x5 ([(List.getD x7 (Int.toNat x9) d_flow_Rule).from_, (List.getD x7 (Int.toNat x9) d_flow_Rule).also]) x6 ((List.getD x7 (Int.toNat x9) d_flow_Rule).to_) ((List.getD x7 (Int.toNat x9) d_flow_Rule).from_) ((List.getD x7 (Int.toNat x9) d_flow_Rule).also) ((List.getD x7 (Int.toNat x9) d_flow_Rule).keep) ((List.getD x7 (Int.toNat x9) d_flow_Rule).if_) ((List.getD x7 (Int.toNat x9) d_flow_Rule).then_) x7 x8 x9 ((((List.length ([(List.getD x7 (Int.toNat x9) d_flow_Rule).from_, (List.getD x7 (Int.toNat x9) d_flow_Rule).also])) : Nat) : Int)) 0) fun v17 =>
            if (Nat.ble ((List.length x5 + List.length ([List.getD x7 (Int.toNat x9) d_flow_Rule])) * 40) reach) = true then
              bind (flow_solver_apply x0 v17 x6 (List.getD x7 (Int.toNat x9) d_flow_Rule)) fun v20 =>
              if v20.1 = true then
                bind (flow_todo_add x3 x4 ((List.getD x7 (Int.toNat x9) d_flow_Rule).to_)) fun v23 =>
                flow_solver_solve_l5 v20.2 x1 v17 v23.1 v23.2 (x5 ++ ([List.getD x7 (Int.toNat x9) d_flow_Rule])) x6 x7 x8 (iAdd x9 1)
              else
                flow_solver_solve_l5 v20.2 x1 v17 x3 x4 (x5 ++ ([List.getD x7 (Int.toNat x9) d_flow_Rule])) x6 x7 x8 (iAdd x9 1)
            else none
      else none
    else none
  else
    some (x0, x2, x3, x4, x5)
partial_fixpoint
noncomputable abbrev flow_solver_solve_l5_s (x0 : List (BitVec 32)) (x1 : List (List Int)) (x2 : List (List Int)) (x3 : List Int) (x4 : List Bool) (x5 : List flow_Rule) (x6 : List flow_Rule) (x7 : List flow_Rule) (x8 : Int) (x9 : Int) : St := ⟨.ptr 0 [] 0 0 :: dead :: dead :: .ptr 4 [] 0 0 :: .ms 7 [] 0 (List.length x5) :: (List.replicate 27 dead ++ (.pv (.seq (List.length x7) (encP e_flow_Rule d_flow_Rule x7)) :: .pv (.int .i64 x8) :: .pv (.int .i64 x9) :: List.replicate 113 dead)), [.box 2 [.ms 1 [] 0 (List.length x0), .pv (.seq (List.length x6) (encP e_flow_Rule d_flow_Rule x6)), .ms 3 [] 0 (List.length x2), .pv (.fn 72)], .arr 2 1 (List.length x0) (encW o_u32 0#32 x0), .arr 2 1 (List.length x1) (encW o_26 ([] : List Int) x1), .arr 0 1 (List.length x2) (encW o_26 ([] : List Int) x2), .box 0 [.ms 5 [] 0 (List.length x3), .ms 6 [] 0 (List.length x4)], .arr 0 1 (List.length x3) (encW o_i64 0 x3), .arr 0 1 (List.length x4) (encW o_bool false x4), .arr 0 6 (List.length x5) (encW o_flow_Rule d_flow_Rule x5)]⟩
noncomputable abbrev flow_solver_solve_l5_e (x0 : List (BitVec 32)) (x1 : List (List Int)) (x2 : List (List Int)) (x3 : List Int) (x4 : List Bool) (x5 : List flow_Rule) (x6 : List flow_Rule) (x7 : List flow_Rule) (x8 : Int) (x9 : Int) (r : (List (BitVec 32)) × (List (List Int)) × (List Int) × (List Bool) × (List flow_Rule)) : St := ⟨.ptr 0 [] 0 0 :: dead :: dead :: .ptr 4 [] 0 0 :: .ms 7 [] 0 (List.length r.2.2.2.2) :: List.replicate 143 dead, [.box 2 [.ms 1 [] 0 (List.length r.1), .pv (.seq (List.length x6) (encP e_flow_Rule d_flow_Rule x6)), .ms 3 [] 0 (List.length r.2.1), .pv (.fn 72)], .arr 2 1 (List.length r.1) (encW o_u32 0#32 r.1), .arr 2 1 (List.length x1) (encW o_26 ([] : List Int) x1), .arr 0 1 (List.length r.2.1) (encW o_26 ([] : List Int) r.2.1), .box 0 [.ms 5 [] 0 (List.length r.2.2.1), .ms 6 [] 0 (List.length r.2.2.2.1)], .arr 0 1 (List.length r.2.2.1) (encW o_i64 0 r.2.2.1), .arr 0 1 (List.length r.2.2.2.1) (encW o_bool false r.2.2.2.1), .arr 0 6 (List.length r.2.2.2.2) (encW o_flow_Rule d_flow_Rule r.2.2.2.2)]⟩
theorem flow_solver_solve_l5_ok (x0 : List (BitVec 32)) (x1 : List (List Int)) (x2 : List (List Int)) (x3 : List Int) (x4 : List Bool) (x5 : List flow_Rule) (x6 : List flow_Rule) (x7 : List flow_Rule) (x8 : Int) (x9 : Int) (r : (List (BitVec 32)) × (List (List Int)) × (List Int) × (List Bool) × (List flow_Rule)) (h : flow_solver_solve_l5 x0 x1 x2 x3 x4 x5 x6 x7 x8 x9 = some r) : Loops Try.prog flow_solver_solve_l5_c 3 (flow_solver_solve_l5_s x0 x1 x2 x3 x4 x5 x6 x7 x8 x9) (.exit 0) (flow_solver_solve_l5_e x0 x1 x2 x3 x4 x5 x6 x7 x8 x9 r) := by
 refine flow_solver_solve_l5.partial_correctness x1 x6 x7 x8 (fun x0 x2 x3 x4 x5 x9 r => Loops Try.prog flow_solver_solve_l5_c 3 (flow_solver_solve_l5_s x0 x1 x2 x3 x4 x5 x6 x7 x8 x9) (.exit 0) (flow_solver_solve_l5_e x0 x1 x2 x3 x4 x5 x6 x7 x8 x9 r)) ?_ x0 x2 x3 x4 x5 x9 r h
 clear h r x0 x2 x3 x4 x5 x9
 intro self ih x0 x2 x3 x4 x5 x9 r h
 rcases if_of h with ⟨c4, h⟩ | ⟨c4, h⟩
 · obtain ⟨c5, h⟩ := need_of h
   obtain ⟨c6, h⟩ := need_of h
   rcases if_of h with ⟨c7, h⟩ | ⟨c7, h⟩
   · exact pmore mixed lives 73 (by kernel_rfl) (pk <| pb c4 <| pn c5 <| pn c6 <| pk5 <| pb c7 <| pk8 <| pk2 <| pz) (ih x0 x2 x3 x4 x5 (iAdd x9 1) _ h)
   · rcases if_of h with ⟨c8, h⟩ | ⟨c8, h⟩
     · exact pmore mixed lives 73 (by kernel_rfl) (pk <| pb c4 <| pn c5 <| pn c6 <| pk5 <| pb c7 <| pk8 <| pk4 <| pb c8 <| pk <| pz) (ih x0 x2 x3 x4 x5 (iAdd x9 1) _ h)
     · obtain ⟨v17, h18, h⟩ := bind_of h
       obtain ⟨c19, h⟩ := need_of h
       obtain ⟨v20, h21, h⟩ := bind_of h
       rcases if_of h with ⟨c22, h⟩ | ⟨c22, h⟩
       · obtain ⟨v23, h24, h⟩ := bind_of h
         exact pmore mixed lives 73 (by kernel_rfl) (pk <| pb c4 <| pn c5 <| pn c6 <| pk5 <| pb c7 <| pk8 <| pk4 <| pb c8 <| pk2 <| pe (eff_lit o_i64 0 9 1 2 ([(List.getD x7 (Int.toNat x9) d_flow_Rule).from_, (List.getD x7 (Int.toNat x9) d_flow_Rule).also]) rfl [] []) <| pk <| pl (flow_solver_solve_l9_ok _ _ _ _ _ _ _ _ _ _ _ _ _ _ _ _ _ _ _ _ h18) <| pk <| pe (eff_lit o_flow_Rule d_flow_Rule 9 6 1 ([List.getD x7 (Int.toNat x9) d_flow_Rule]) rfl [] []) <| pb (whole_ok (List.length ([List.getD x7 (Int.toNat x9) d_flow_Rule]))) <| pn c19 <| pe (eff_app o_flow_Rule d_flow_Rule x5 ([List.getD x7 (Int.toNat x9) d_flow_Rule]) (x5 ++ ([List.getD x7 (Int.toNat x9) d_flow_Rule])) 7 6 (List.length x5) (List.length ([List.getD x7 (Int.toNat x9) d_flow_Rule])) (fun i => List.map AV.scal (encW o_flow_Rule d_flow_Rule ([List.getD x7 (Int.toNat x9) d_flow_Rule]) i)) (encW o_flow_Rule d_flow_Rule x5 (List.length x5)) [] [] [(7, false)] (by first | exact Nat.le_refl _ | exact Nat.zero_le _ | (simp only [decide_eq_true_eq, List.length_set, List.length_append, List.length_replicate, List.length_cons, List.length_nil, Nat.zero_add] at * <;> omega)) rfl (fun _ => by kernel_rfl) (congrArg o_flow_Rule (getD_ge d_flow_Rule (by first | exact Nat.le_refl _ | exact Nat.zero_le _ | (simp only [decide_eq_true_eq, List.length_set, List.length_append, List.length_replicate, List.length_cons, List.length_nil, Nat.zero_add] at * <;> omega)))) (by rw [List.take_of_length_le (by first | exact Nat.le_refl _ | exact Nat.zero_le _ | (simp only [decide_eq_true_eq, List.length_set, List.length_append, List.length_replicate, List.length_cons, List.length_nil, Nat.zero_add] at * <;> omega))])) <| pk <| pc (flow_solver_apply_ok _ _ _ _ _ h21) <| pk <| pb c22 <| pk <| pc (flow_todo_add_ok _ _ _ _ h24) <| pk2 <| pz) (ih v20.2 v17 v23.1 v23.2 (x5 ++ ([List.getD x7 (Int.toNat x9) d_flow_Rule])) (iAdd x9 1) _ h)
       · exact pmore mixed lives 73 (by kernel_rfl) (pk <| pb c4 <| pn c5 <| pn c6 <| pk5 <| pb c7 <| pk8 <| pk4 <| pb c8 <| pk2 <| pe (eff_lit o_i64 0 9 1 2 ([(List.getD x7 (Int.toNat x9) d_flow_Rule).from_, (List.getD x7 (Int.toNat x9) d_flow_Rule).also]) rfl [] []) <| pk <| pl (flow_solver_solve_l9_ok _ _ _ _ _ _ _ _ _ _ _ _ _ _ _ _ _ _ _ _ h18) <| pk <| pe (eff_lit o_flow_Rule d_flow_Rule 9 6 1 ([List.getD x7 (Int.toNat x9) d_flow_Rule]) rfl [] []) <| pb (whole_ok (List.length ([List.getD x7 (Int.toNat x9) d_flow_Rule]))) <| pn c19 <| pe (eff_app o_flow_Rule d_flow_Rule x5 ([List.getD x7 (Int.toNat x9) d_flow_Rule]) (x5 ++ ([List.getD x7 (Int.toNat x9) d_flow_Rule])) 7 6 (List.length x5) (List.length ([List.getD x7 (Int.toNat x9) d_flow_Rule])) (fun i => List.map AV.scal (encW o_flow_Rule d_flow_Rule ([List.getD x7 (Int.toNat x9) d_flow_Rule]) i)) (encW o_flow_Rule d_flow_Rule x5 (List.length x5)) [] [] [(7, false)] (by first | exact Nat.le_refl _ | exact Nat.zero_le _ | (simp only [decide_eq_true_eq, List.length_set, List.length_append, List.length_replicate, List.length_cons, List.length_nil, Nat.zero_add] at * <;> omega)) rfl (fun _ => by kernel_rfl) (congrArg o_flow_Rule (getD_ge d_flow_Rule (by first | exact Nat.le_refl _ | exact Nat.zero_le _ | (simp only [decide_eq_true_eq, List.length_set, List.length_append, List.length_replicate, List.length_cons, List.length_nil, Nat.zero_add] at * <;> omega)))) (by rw [List.take_of_length_le (by first | exact Nat.le_refl _ | exact Nat.zero_le _ | (simp only [decide_eq_true_eq, List.length_set, List.length_append, List.length_replicate, List.length_cons, List.length_nil, Nat.zero_add] at * <;> omega))])) <| pk <| pc (flow_solver_apply_ok _ _ _ _ _ h21) <| pk <| pb c22 <| pk <| pz) (ih v20.2 v17 x3 x4 (x5 ++ ([List.getD x7 (Int.toNat x9) d_flow_Rule])) (iAdd x9 1) _ h)
 · have h := Option.some.inj h; subst h
   exact plast mixed lives 73 (by kernel_rfl) (pk <| pb c4 <| pz) rfl
def flow_solver_solve_l5_F (F n : Nat) (x0 : List (BitVec 32)) (x1 : List (List Int)) (x2 : List (List Int)) (x3 : List Int) (x4 : List Bool) (x5 : List flow_Rule) (x6 : List flow_Rule) (x7 : List flow_Rule) (x8 : Int) (x9 : Int) : Option ((List (BitVec 32)) × (List (List Int)) × (List Int) × (List Bool) × (List flow_Rule)) := match n with
  | 0 => none
  | n + 1 =>
    if (decide ((x9 : Int) < x8)) = true then
      if (decide ((0 : Int) ≤ x9)) = true then
        if (decide ((x9 : Int) < ((List.length x7 : Nat) : Int))) = true then
          if (decide ((((List.getD x7 (Int.toNat x9) d_flow_Rule).to_) : Int) < 0)) = true then
            flow_solver_solve_l5_F F n x0 x1 x2 x3 x4 x5 x6 x7 x8 (iAdd x9 1)
          else
            if (decide ((((List.getD x7 (Int.toNat x9) d_flow_Rule).to_) : Int) ≥ ((((List.length x0) : Nat) : Int)))) = true then
              flow_solver_solve_l5_F F n x0 x1 x2 x3 x4 x5 x6 x7 x8 (iAdd x9 1)
            else
              bind (flow_solver_solve_l9_F F F x0 x1 x2 x3 x4 x5 ([(List.getD x7 (Int.toNat x9) d_flow_Rule).from_, (List.getD x7 (Int.toNat x9) d_flow_Rule).also]) x6 ((List.getD x7 (Int.toNat x9) d_flow_Rule).to_) ((List.getD x7 (Int.toNat x9) d_flow_Rule).from_) ((List.getD x7 (Int.toNat x9) d_flow_Rule).also) ((List.getD x7 (Int.toNat x9) d_flow_Rule).keep) ((List.getD x7 (Int.toNat x9) d_flow_Rule).if_) ((List.getD x7 (Int.toNat x9) d_flow_Rule).then_) x7 x8 x9 ((((List.length ([(List.getD x7 (Int.toNat x9) d_flow_Rule).from_, (List.getD x7 (Int.toNat x9) d_flow_Rule).also])) : Nat) : Int)) 0) fun v17 =>
              if (Nat.ble ((List.length x5 + List.length ([List.getD x7 (Int.toNat x9) d_flow_Rule])) * 40) reach) = true then
                bind (flow_solver_apply_F F x0 v17 x6 (List.getD x7 (Int.toNat x9) d_flow_Rule)) fun v20 =>
                if v20.1 = true then
                  bind (flow_todo_add_F F x3 x4 ((List.getD x7 (Int.toNat x9) d_flow_Rule).to_)) fun v23 =>
                  flow_solver_solve_l5_F F n v20.2 x1 v17 v23.1 v23.2 (x5 ++ ([List.getD x7 (Int.toNat x9) d_flow_Rule])) x6 x7 x8 (iAdd x9 1)
                else
                  flow_solver_solve_l5_F F n v20.2 x1 v17 x3 x4 (x5 ++ ([List.getD x7 (Int.toNat x9) d_flow_Rule])) x6 x7 x8 (iAdd x9 1)
              else none
        else none
      else none
    else
      some (x0, x2, x3, x4, x5)
theorem flow_solver_solve_l5_le (F n : Nat) (x0 : List (BitVec 32)) (x1 : List (List Int)) (x2 : List (List Int)) (x3 : List Int) (x4 : List Bool) (x5 : List flow_Rule) (x6 : List flow_Rule) (x7 : List flow_Rule) (x8 : Int) (x9 : Int) : Le (flow_solver_solve_l5_F F n x0 x1 x2 x3 x4 x5 x6 x7 x8 x9) (flow_solver_solve_l5 x0 x1 x2 x3 x4 x5 x6 x7 x8 x9) := by
  induction n generalizing x0 x2 x3 x4 x5 x9 with
  | zero => exact Le.none _
  | succ n ih => rw [flow_solver_solve_l5]; exact (Le.ite (Le.ite (Le.ite (Le.ite (ih x0 x2 x3 x4 x5 (iAdd x9 1)) (Le.ite (ih x0 x2 x3 x4 x5 (iAdd x9 1)) (Le.bind (flow_solver_solve_l9_le F F _ _ _ _ _ _ _ _ _ _ _ _ _ _ _ _ _ _ _) fun v17 => (Le.ite (Le.bind (flow_solver_apply_le F _ _ _ _) fun v20 => (Le.ite (Le.bind (flow_todo_add_le F _ _ _) fun v23 => (ih v20.2 v17 v23.1 v23.2 (x5 ++ ([List.getD x7 (Int.toNat x9) d_flow_Rule])) (iAdd x9 1))) (ih v20.2 v17 x3 x4 (x5 ++ ([List.getD x7 (Int.toNat x9) d_flow_Rule])) (iAdd x9 1)))) (Le.none _))))) (Le.none _)) (Le.none _)) (Le.refl _))
noncomputable def flow_solver_solve_l19_c : Code := sub (codeOf Try.prog 73) [1, 1, 1, 1, 1, 0, 1, 0, 0]
def flow_solver_solve_l19 (x0 : List (BitVec 32)) (x1 : List (List Int)) (x2 : List (List Int)) (x3 : List Int) (x4 : List Bool) (x5 : List flow_Rule) (x6 : List flow_Rule) (x7 : Int) (x8 : Int) : Option ((List Int) × (List Bool)) :=
  if (decide ((x8 : Int) < x7)) = true then
    bind (flow_todo_add x3 x4 x8) fun v28 =>
    flow_solver_solve_l19 x0 x1 x2 v28.1 v28.2 x5 x6 x7 (iAdd x8 1)
  else
    some (x3, x4)
partial_fixpoint
noncomputable abbrev flow_solver_solve_l19_s (x0 : List (BitVec 32)) (x1 : List (List Int)) (x2 : List (List Int)) (x3 : List Int) (x4 : List Bool) (x5 : List flow_Rule) (x6 : List flow_Rule) (x7 : Int) (x8 : Int) : St := ⟨.ptr 0 [] 0 0 :: dead :: dead :: .ptr 4 [] 0 0 :: .ms 7 [] 0 (List.length x5) :: (List.replicate 101 dead ++ (.pv (.int .i64 x7) :: .pv (.int .i64 x8) :: List.replicate 40 dead)), [.box 2 [.ms 1 [] 0 (List.length x0), .pv (.seq (List.length x6) (encP e_flow_Rule d_flow_Rule x6)), .ms 3 [] 0 (List.length x2), .pv (.fn 72)], .arr 2 1 (List.length x0) (encW o_u32 0#32 x0), .arr 2 1 (List.length x1) (encW o_26 ([] : List Int) x1), .arr 0 1 (List.length x2) (encW o_26 ([] : List Int) x2), .box 0 [.ms 5 [] 0 (List.length x3), .ms 6 [] 0 (List.length x4)], .arr 0 1 (List.length x3) (encW o_i64 0 x3), .arr 0 1 (List.length x4) (encW o_bool false x4), .arr 0 6 (List.length x5) (encW o_flow_Rule d_flow_Rule x5)]⟩
noncomputable abbrev flow_solver_solve_l19_e (x0 : List (BitVec 32)) (x1 : List (List Int)) (x2 : List (List Int)) (x3 : List Int) (x4 : List Bool) (x5 : List flow_Rule) (x6 : List flow_Rule) (x7 : Int) (x8 : Int) (r : (List Int) × (List Bool)) : St := ⟨.ptr 0 [] 0 0 :: dead :: dead :: .ptr 4 [] 0 0 :: .ms 7 [] 0 (List.length x5) :: List.replicate 143 dead, [.box 2 [.ms 1 [] 0 (List.length x0), .pv (.seq (List.length x6) (encP e_flow_Rule d_flow_Rule x6)), .ms 3 [] 0 (List.length x2), .pv (.fn 72)], .arr 2 1 (List.length x0) (encW o_u32 0#32 x0), .arr 2 1 (List.length x1) (encW o_26 ([] : List Int) x1), .arr 0 1 (List.length x2) (encW o_26 ([] : List Int) x2), .box 0 [.ms 5 [] 0 (List.length r.1), .ms 6 [] 0 (List.length r.2)], .arr 0 1 (List.length r.1) (encW o_i64 0 r.1), .arr 0 1 (List.length r.2) (encW o_bool false r.2), .arr 0 6 (List.length x5) (encW o_flow_Rule d_flow_Rule x5)]⟩
theorem flow_solver_solve_l19_ok (x0 : List (BitVec 32)) (x1 : List (List Int)) (x2 : List (List Int)) (x3 : List Int) (x4 : List Bool) (x5 : List flow_Rule) (x6 : List flow_Rule) (x7 : Int) (x8 : Int) (r : (List Int) × (List Bool)) (h : flow_solver_solve_l19 x0 x1 x2 x3 x4 x5 x6 x7 x8 = some r) : Loops Try.prog flow_solver_solve_l19_c 3 (flow_solver_solve_l19_s x0 x1 x2 x3 x4 x5 x6 x7 x8) (.exit 4) (flow_solver_solve_l19_e x0 x1 x2 x3 x4 x5 x6 x7 x8 r) := by
 refine flow_solver_solve_l19.partial_correctness x0 x1 x2 x5 x6 x7 (fun x3 x4 x8 r => Loops Try.prog flow_solver_solve_l19_c 3 (flow_solver_solve_l19_s x0 x1 x2 x3 x4 x5 x6 x7 x8) (.exit 4) (flow_solver_solve_l19_e x0 x1 x2 x3 x4 x5 x6 x7 x8 r)) ?_ x3 x4 x8 r h
 clear h r x3 x4 x8
 intro self ih x3 x4 x8 r h
 rcases if_of h with ⟨c27, h⟩ | ⟨c27, h⟩
 · obtain ⟨v28, h29, h⟩ := bind_of h
   exact pmore mixed lives 73 (by kernel_rfl) (pk <| pb c27 <| pc (flow_todo_add_ok _ _ _ _ h29) <| pk2 <| pz) (ih v28.1 v28.2 (iAdd x8 1) _ h)
 · have h := Option.some.inj h; subst h
   exact plast mixed lives 73 (by kernel_rfl) (pk <| pb c27 <| pz) rfl
def flow_solver_solve_l19_F (F n : Nat) (x0 : List (BitVec 32)) (x1 : List (List Int)) (x2 : List (List Int)) (x3 : List Int) (x4 : List Bool) (x5 : List flow_Rule) (x6 : List flow_Rule) (x7 : Int) (x8 : Int) : Option ((List Int) × (List Bool)) := match n with
  | 0 => none
  | n + 1 =>
    if (decide ((x8 : Int) < x7)) = true then
      bind (flow_todo_add_F F x3 x4 x8) fun v28 =>
      flow_solver_solve_l19_F F n x0 x1 x2 v28.1 v28.2 x5 x6 x7 (iAdd x8 1)
    else
      some (x3, x4)
theorem flow_solver_solve_l19_le (F n : Nat) (x0 : List (BitVec 32)) (x1 : List (List Int)) (x2 : List (List Int)) (x3 : List Int) (x4 : List Bool) (x5 : List flow_Rule) (x6 : List flow_Rule) (x7 : Int) (x8 : Int) : Le (flow_solver_solve_l19_F F n x0 x1 x2 x3 x4 x5 x6 x7 x8) (flow_solver_solve_l19 x0 x1 x2 x3 x4 x5 x6 x7 x8) := by
  induction n generalizing x3 x4 x8 with
  | zero => exact Le.none _
  | succ n ih => rw [flow_solver_solve_l19]; exact (Le.ite (Le.bind (flow_todo_add_le F _ _ _) fun v28 => (ih v28.1 v28.2 (iAdd x8 1))) (Le.refl _))
noncomputable def heap_down_l2_c : Code := sub (codeOf Try.prog 119) [1, 1, 0, 0, 0]
def heap_down_l2 (x0 : List Int) (x1 : List Bool) (x2 : Int) (x3 : Int) (x4 : Int) : Option ((List Int) × Int) :=
  if (decide (((iAdd (iMul 2 x4) 1) : Int) ≥ x3)) = true then
    some (x0, x4)
  else
    if (decide (((iAdd (iMul 2 x4) 1) : Int) < 0)) = true then
      some (x0, x4)
    else
      if (decide (((iAdd (iAdd (iMul 2 x4) 1) 1) : Int) < x3)) = true then
        bind (flow_todo_Less x0 x1 (iAdd (iAdd (iMul 2 x4) 1) 1) (iAdd (iMul 2 x4) 1)) fun v4 =>
        if v4 = true then
          bind (flow_todo_Less x0 x1 (iAdd (iAdd (iMul 2 x4) 1) 1) x4) fun v7 =>
          if (!v7) = true then
            some (x0, x4)
          else
            bind (flow_todo_Swap x0 x1 x4 (iAdd (iAdd (iMul 2 x4) 1) 1)) fun v10 =>
            heap_down_l2 v10 x1 x2 x3 (iAdd (iAdd (iMul 2 x4) 1) 1)
        else
          bind (flow_todo_Less x0 x1 (iAdd (iMul 2 x4) 1) x4) fun v12 =>
          if (!v12) = true then
            some (x0, x4)
          else
            bind (flow_todo_Swap x0 x1 x4 (iAdd (iMul 2 x4) 1)) fun v15 =>
            heap_down_l2 v15 x1 x2 x3 (iAdd (iMul 2 x4) 1)
      else
        bind (flow_todo_Less x0 x1 (iAdd (iMul 2 x4) 1) x4) fun v17 =>
        if (!v17) = true then
          some (x0, x4)
        else
          bind (flow_todo_Swap x0 x1 x4 (iAdd (iMul 2 x4) 1)) fun v20 =>
          heap_down_l2 v20 x1 x2 x3 (iAdd (iMul 2 x4) 1)
partial_fixpoint
noncomputable abbrev heap_down_l2_s (x0 : List Int) (x1 : List Bool) (x2 : Int) (x3 : Int) (x4 : Int) : St := ⟨.ifc 158 (.ptr 0 [] 0 0) :: .pv (.int .i64 x2) :: .pv (.int .i64 x3) :: (List.replicate 4 dead ++ (.pv (.int .i64 x4) :: List.replicate 40 dead)), [.box 2 [.ms 1 [] 0 (List.length x0), .ms 2 [] 0 (List.length x1)], .arr 2 1 (List.length x0) (encW o_i64 0 x0), .arr 2 1 (List.length x1) (encW o_bool false x1)]⟩
noncomputable abbrev heap_down_l2_e (x0 : List Int) (x1 : List Bool) (x2 : Int) (x3 : Int) (x4 : Int) (r : (List Int) × Int) : St := ⟨dead :: .pv (.int .i64 x2) :: (List.replicate 5 dead ++ (.pv (.int .i64 r.2) :: List.replicate 40 dead)), [.box 2 [.ms 1 [] 0 (List.length r.1), .ms 2 [] 0 (List.length x1)], .arr 2 1 (List.length r.1) (encW o_i64 0 r.1), .arr 2 1 (List.length x1) (encW o_bool false x1)]⟩
theorem heap_down_l2_ok (x0 : List Int) (x1 : List Bool) (x2 : Int) (x3 : Int) (x4 : Int) (r : (List Int) × Int) (h : heap_down_l2 x0 x1 x2 x3 x4 = some r) : Loops Try.prog heap_down_l2_c 3 (heap_down_l2_s x0 x1 x2 x3 x4) (.exit 0) (heap_down_l2_e x0 x1 x2 x3 x4 r) := by
 refine heap_down_l2.partial_correctness x1 x2 x3 (fun x0 x4 r => Loops Try.prog heap_down_l2_c 3 (heap_down_l2_s x0 x1 x2 x3 x4) (.exit 0) (heap_down_l2_e x0 x1 x2 x3 x4 r)) ?_ x0 x4 r h
 clear h r x0 x4
 intro self ih x0 x4 r h
 rcases if_of h with ⟨c1, h⟩ | ⟨c1, h⟩
 · have h := Option.some.inj h; subst h
   exact plast mixed lives 119 (by kernel_rfl) (pk3 <| pb c1 <| pk3 <| pz) rfl
 · rcases if_of h with ⟨c2, h⟩ | ⟨c2, h⟩
   · have h := Option.some.inj h; subst h
     exact plast mixed lives 119 (by kernel_rfl) (pk3 <| pb c1 <| pk3 <| pb c2 <| pz) rfl
   · rcases if_of h with ⟨c3, h⟩ | ⟨c3, h⟩
     · obtain ⟨v4, h5, h⟩ := bind_of h
       rcases if_of h with ⟨c6, h⟩ | ⟨c6, h⟩
       · obtain ⟨v7, h8, h⟩ := bind_of h
         rcases if_of h with ⟨c9, h⟩ | ⟨c9, h⟩
         · have h := Option.some.inj h; subst h
           exact plast mixed lives 119 (by kernel_rfl) (pk3 <| pb c1 <| pk3 <| pb c2 <| pk2 <| pb c3 <| pk3 <| pc (flow_todo_Less_ok _ _ _ _ _ h5) <| pk2 <| pb c6 <| pc (flow_todo_Less_ok _ _ _ _ _ h8) <| pk2 <| pb c9 <| pz) rfl
         · obtain ⟨v10, h11, h⟩ := bind_of h
           exact pmore mixed lives 119 (by kernel_rfl) (pk3 <| pb c1 <| pk3 <| pb c2 <| pk2 <| pb c3 <| pk3 <| pc (flow_todo_Less_ok _ _ _ _ _ h5) <| pk2 <| pb c6 <| pc (flow_todo_Less_ok _ _ _ _ _ h8) <| pk2 <| pb c9 <| pc (flow_todo_Swap_ok _ _ _ _ _ h11) <| pk <| pz) (ih v10 (iAdd (iAdd (iMul 2 x4) 1) 1) _ h)
       · obtain ⟨v12, h13, h⟩ := bind_of h
         rcases if_of h with ⟨c14, h⟩ | ⟨c14, h⟩
         · have h := Option.some.inj h; subst h
           exact plast mixed lives 119 (by kernel_rfl) (pk3 <| pb c1 <| pk3 <| pb c2 <| pk2 <| pb c3 <| pk3 <| pc (flow_todo_Less_ok _ _ _ _ _ h5) <| pk2 <| pb c6 <| pc (flow_todo_Less_ok _ _ _ _ _ h13) <| pk2 <| pb c14 <| pz) rfl
         · obtain ⟨v15, h16, h⟩ := bind_of h
           exact pmore mixed lives 119 (by kernel_rfl) (pk3 <| pb c1 <| pk3 <| pb c2 <| pk2 <| pb c3 <| pk3 <| pc (flow_todo_Less_ok _ _ _ _ _ h5) <| pk2 <| pb c6 <| pc (flow_todo_Less_ok _ _ _ _ _ h13) <| pk2 <| pb c14 <| pc (flow_todo_Swap_ok _ _ _ _ _ h16) <| pk <| pz) (ih v15 (iAdd (iMul 2 x4) 1) _ h)
     · obtain ⟨v17, h18, h⟩ := bind_of h
       rcases if_of h with ⟨c19, h⟩ | ⟨c19, h⟩
       · have h := Option.some.inj h; subst h
         exact plast mixed lives 119 (by kernel_rfl) (pk3 <| pb c1 <| pk3 <| pb c2 <| pk2 <| pb c3 <| pk5 <| pc (flow_todo_Less_ok _ _ _ _ _ h18) <| pk2 <| pb c19 <| pz) rfl
       · obtain ⟨v20, h21, h⟩ := bind_of h
         exact pmore mixed lives 119 (by kernel_rfl) (pk3 <| pb c1 <| pk3 <| pb c2 <| pk2 <| pb c3 <| pk5 <| pc (flow_todo_Less_ok _ _ _ _ _ h18) <| pk2 <| pb c19 <| pc (flow_todo_Swap_ok _ _ _ _ _ h21) <| pk <| pz) (ih v20 (iAdd (iMul 2 x4) 1) _ h)
def heap_down_l2_F (F n : Nat) (x0 : List Int) (x1 : List Bool) (x2 : Int) (x3 : Int) (x4 : Int) : Option ((List Int) × Int) := match n with
  | 0 => none
  | n + 1 =>
    if (decide (((iAdd (iMul 2 x4) 1) : Int) ≥ x3)) = true then
      some (x0, x4)
    else
      if (decide (((iAdd (iMul 2 x4) 1) : Int) < 0)) = true then
        some (x0, x4)
      else
        if (decide (((iAdd (iAdd (iMul 2 x4) 1) 1) : Int) < x3)) = true then
          bind (flow_todo_Less_F F x0 x1 (iAdd (iAdd (iMul 2 x4) 1) 1) (iAdd (iMul 2 x4) 1)) fun v4 =>
          if v4 = true then
            bind (flow_todo_Less_F F x0 x1 (iAdd (iAdd (iMul 2 x4) 1) 1) x4) fun v7 =>
            if (!v7) = true then
              some (x0, x4)
            else
              bind (flow_todo_Swap_F F x0 x1 x4 (iAdd (iAdd (iMul 2 x4) 1) 1)) fun v10 =>
              heap_down_l2_F F n v10 x1 x2 x3 (iAdd (iAdd (iMul 2 x4) 1) 1)
          else
            bind (flow_todo_Less_F F x0 x1 (iAdd (iMul 2 x4) 1) x4) fun v12 =>
            if (!v12) = true then
              some (x0, x4)
            else
              bind (flow_todo_Swap_F F x0 x1 x4 (iAdd (iMul 2 x4) 1)) fun v15 =>
              heap_down_l2_F F n v15 x1 x2 x3 (iAdd (iMul 2 x4) 1)
        else
          bind (flow_todo_Less_F F x0 x1 (iAdd (iMul 2 x4) 1) x4) fun v17 =>
          if (!v17) = true then
            some (x0, x4)
          else
            bind (flow_todo_Swap_F F x0 x1 x4 (iAdd (iMul 2 x4) 1)) fun v20 =>
            heap_down_l2_F F n v20 x1 x2 x3 (iAdd (iMul 2 x4) 1)
theorem heap_down_l2_le (F n : Nat) (x0 : List Int) (x1 : List Bool) (x2 : Int) (x3 : Int) (x4 : Int) : Le (heap_down_l2_F F n x0 x1 x2 x3 x4) (heap_down_l2 x0 x1 x2 x3 x4) := by
  induction n generalizing x0 x4 with
  | zero => exact Le.none _
  | succ n ih => rw [heap_down_l2]; exact (Le.ite (Le.refl _) (Le.ite (Le.refl _) (Le.ite (Le.bind (flow_todo_Less_le F _ _ _ _) fun v4 => (Le.ite (Le.bind (flow_todo_Less_le F _ _ _ _) fun v7 => (Le.ite (Le.refl _) (Le.bind (flow_todo_Swap_le F _ _ _ _) fun v10 => (ih v10 (iAdd (iAdd (iMul 2 x4) 1) 1))))) (Le.bind (flow_todo_Less_le F _ _ _ _) fun v12 => (Le.ite (Le.refl _) (Le.bind (flow_todo_Swap_le F _ _ _ _) fun v15 => (ih v15 (iAdd (iMul 2 x4) 1))))))) (Le.bind (flow_todo_Less_le F _ _ _ _) fun v17 => (Le.ite (Le.refl _) (Le.bind (flow_todo_Swap_le F _ _ _ _) fun v20 => (ih v20 (iAdd (iMul 2 x4) 1))))))))
/-- container/heap.down -/
def heap_down (l1 : List Int) (l2 : List Bool) (i0 : Int) (n1 : Int) : Option (Bool × (List Int)) :=
  bind (heap_down_l2 l1 l2 i0 n1 i0) fun v22 =>
  some (decide ((v22.2 : Int) > i0), v22.1)
theorem heap_down_ok (l1 : List Int) (l2 : List Bool) (i0 : Int) (n1 : Int) (r : Bool × (List Int)) (h : heap_down l1 l2 i0 n1 = some r) : Does Try.prog 119 [.ifc 158 (.ptr 0 [] 0 0), .pv (.int .i64 i0), .pv (.int .i64 n1)] [.box 2 [.ms 1 [] 0 (List.length l1), .ms 2 [] 0 (List.length l2)], .arr 2 1 (List.length l1) (encW o_i64 0 l1), .arr 2 1 (List.length l2) (encW o_bool false l2)] (.pv (.bool r.1), [.box 2 [.ms 1 [] 0 (List.length r.2), .ms 2 [] 0 (List.length l2)], .arr 2 1 (List.length r.2) (encW o_i64 0 r.2), .arr 2 1 (List.length l2) (encW o_bool false l2)]) := by
 unfold heap_down at h
 obtain ⟨v22, h23, h⟩ := bind_of h
 have h := Option.some.inj h; subst h
 exact pdoes mixed (L := lives) (by kernel_rfl) (pl (heap_down_l2_ok _ _ _ _ _ _ h23) <| pk <| pz)
def heap_down_F (F : Nat) (l1 : List Int) (l2 : List Bool) (i0 : Int) (n1 : Int) : Option (Bool × (List Int)) :=
  bind (heap_down_l2_F F F l1 l2 i0 n1 i0) fun v22 =>
  some (decide ((v22.2 : Int) > i0), v22.1)
theorem heap_down_le (F : Nat) (l1 : List Int) (l2 : List Bool) (i0 : Int) (n1 : Int) : Le (heap_down_F F l1 l2 i0 n1) (heap_down l1 l2 i0 n1) := (Le.bind (heap_down_l2_le F F _ _ _ _ _) fun v22 => (Le.refl _))
/-- (*alibi/flow.todo).Pop -/
def flow_todo_Pop (l1 : List Int) (l2 : List Bool) : Option (Int × (List Int)) :=
  if (decide ((0 : Int) ≤ (iSub ((((List.length l1) : Nat) : Int)) 1))) = true then
    if (decide (((iSub ((((List.length l1) : Nat) : Int)) 1) : Int) < (((List.length l1) : Nat) : Int))) = true then
      if (decide (((iSub ((((List.length l1) : Nat) : Int)) 1) : Int) ≤ ((List.length l1 : Nat) : Int))) = true then
        some (List.getD l1 (Int.toNat (iSub ((((List.length l1) : Nat) : Int)) 1)) 0, List.take (Int.toNat (iSub ((((List.length l1) : Nat) : Int)) 1)) l1)
      else none
    else none
  else none
theorem flow_todo_Pop_ok (l1 : List Int) (l2 : List Bool) (r : Int × (List Int)) (h : flow_todo_Pop l1 l2 = some r) : Does Try.prog 152 [.ptr 0 [] 0 0] [.box 2 [.ms 1 [] 0 (List.length l1), .ms 2 [] 0 (List.length l2)], .arr 2 1 (List.length l1) (encW o_i64 0 l1), .arr 2 1 (List.length l2) (encW o_bool false l2)] (.ifc 3 (.pv (.int .i64 r.1)), [.box 2 [.ms 1 [] 0 (List.length r.2), .ms 2 [] 0 (List.length l2)], .arr 0 1 (List.length r.2) (encW o_i64 0 r.2), .arr 2 1 (List.length l2) (encW o_bool false l2)]) := by
 unfold flow_todo_Pop at h
 obtain ⟨c1, h⟩ := need_of h
 obtain ⟨c2, h⟩ := need_of h
 obtain ⟨c3, h⟩ := need_of h
 have h := Option.some.inj h; subst h
 refine Does.eq (pdoes mixed (L := lives) (r := (.ifc 3 (.pv (.int .i64 (List.getD l1 (Int.toNat (iSub ((((List.length l1) : Nat) : Int)) 1)) 0))), [.box 2 [.ms 1 [] 0 (Int.toNat (iSub ((((List.length l1) : Nat) : Int)) 1)), .ms 2 [] 0 (List.length l2)], .arr 0 1 (Int.toNat (iSub ((((List.length l1) : Nat) : Int)) 1)) (cutF 0 (Int.toNat (iSub ((((List.length l1) : Nat) : Int)) 1)) (List.length l1) (encW o_i64 0 l1)), .arr 2 1 (List.length l2) (encW o_bool false l2)])) (by kernel_rfl) (pk4 <| pn c1 <| pn c2 <| pk5 <| pn c1 <| pn c3 <| pk2 <| pz)) ?_
 rw [cut_enc o_i64 0 l1 (Int.toNat (iSub ((((List.length l1) : Nat) : Int)) 1)) (List.length l1) (by first | exact Nat.le_refl _ | exact Nat.zero_le _ | (simp only [decide_eq_true_eq, List.length_set, List.length_append, List.length_replicate, List.length_cons, List.length_nil, Nat.zero_add] at * <;> omega)) (by first | exact Nat.le_refl _ | exact Nat.zero_le _ | (simp only [decide_eq_true_eq, List.length_set, List.length_append, List.length_replicate, List.length_cons, List.length_nil, Nat.zero_add] at * <;> omega)), len_take l1 (Int.toNat (iSub ((((List.length l1) : Nat) : Int)) 1)) (by first | exact Nat.le_refl _ | exact Nat.zero_le _ | (simp only [decide_eq_true_eq, List.length_set, List.length_append, List.length_replicate, List.length_cons, List.length_nil, Nat.zero_add] at * <;> omega))] <;> (first | rfl | (simp only [List.length_set]; done))
def flow_todo_Pop_F (F : Nat) (l1 : List Int) (l2 : List Bool) : Option (Int × (List Int)) :=
  if (decide ((0 : Int) ≤ (iSub ((((List.length l1) : Nat) : Int)) 1))) = true then
    if (decide (((iSub ((((List.length l1) : Nat) : Int)) 1) : Int) < (((List.length l1) : Nat) : Int))) = true then
      if (decide (((iSub ((((List.length l1) : Nat) : Int)) 1) : Int) ≤ ((List.length l1 : Nat) : Int))) = true then
        some (List.getD l1 (Int.toNat (iSub ((((List.length l1) : Nat) : Int)) 1)) 0, List.take (Int.toNat (iSub ((((List.length l1) : Nat) : Int)) 1)) l1)
      else none
    else none
  else none
theorem flow_todo_Pop_le (F : Nat) (l1 : List Int) (l2 : List Bool) : Le (flow_todo_Pop_F F l1 l2) (flow_todo_Pop l1 l2) := (Le.ite (Le.ite (Le.ite (Le.refl _) (Le.none _)) (Le.none _)) (Le.none _))
/-- container/heap.Pop -/
def heap_Pop (l1 : List Int) (l2 : List Bool) : Option (Int × (List Int)) :=
  bind (flow_todo_Len l1 l2) fun v1 =>
  bind (flow_todo_Swap l1 l2 0 (iSub v1 1)) fun v3 =>
  bind (heap_down v3 l2 0 (iSub v1 1)) fun v5 =>
  bind (flow_todo_Pop v5.2 l2) fun v7 =>
  some (v7.1, v7.2)
theorem heap_Pop_ok (l1 : List Int) (l2 : List Bool) (r : Int × (List Int)) (h : heap_Pop l1 l2 = some r) : Does Try.prog 81 [.ifc 158 (.ptr 0 [] 0 0)] [.box 2 [.ms 1 [] 0 (List.length l1), .ms 2 [] 0 (List.length l2)], .arr 2 1 (List.length l1) (encW o_i64 0 l1), .arr 2 1 (List.length l2) (encW o_bool false l2)] (.ifc 3 (.pv (.int .i64 r.1)), [.box 2 [.ms 1 [] 0 (List.length r.2), .ms 2 [] 0 (List.length l2)], .arr 0 1 (List.length r.2) (encW o_i64 0 r.2), .arr 2 1 (List.length l2) (encW o_bool false l2)]) := by
 unfold heap_Pop at h
 obtain ⟨v1, h2, h⟩ := bind_of h
 obtain ⟨v3, h4, h⟩ := bind_of h
 obtain ⟨v5, h6, h⟩ := bind_of h
 obtain ⟨v7, h8, h⟩ := bind_of h
 have h := Option.some.inj h; subst h
 exact pdoes mixed (L := lives) (by kernel_rfl) (pc (flow_todo_Len_ok _ _ _ h2) <| pk2 <| pc (flow_todo_Swap_ok _ _ _ _ _ h4) <| pk <| pc (heap_down_ok _ _ _ _ _ h6) <| pk <| pc (flow_todo_Pop_ok _ _ _ h8) <| pk <| pz)
def heap_Pop_F (F : Nat) (l1 : List Int) (l2 : List Bool) : Option (Int × (List Int)) :=
  bind (flow_todo_Len_F F l1 l2) fun v1 =>
  bind (flow_todo_Swap_F F l1 l2 0 (iSub v1 1)) fun v3 =>
  bind (heap_down_F F v3 l2 0 (iSub v1 1)) fun v5 =>
  bind (flow_todo_Pop_F F v5.2 l2) fun v7 =>
  some (v7.1, v7.2)
theorem heap_Pop_le (F : Nat) (l1 : List Int) (l2 : List Bool) : Le (heap_Pop_F F l1 l2) (heap_Pop l1 l2) := (Le.bind (flow_todo_Len_le F _ _) fun v1 => (Le.bind (flow_todo_Swap_le F _ _ _ _) fun v3 => (Le.bind (heap_down_le F _ _ _ _) fun v5 => (Le.bind (flow_todo_Pop_le F _ _) fun v7 => (Le.refl _)))))
/-- (*alibi/flow.todo).next -/
def flow_todo_next (l1 : List Int) (l2 : List Bool) : Option (Int × (List Int) × (List Bool)) :=
  bind (heap_Pop l1 l2) fun v1 =>
  if (decide ((0 : Int) ≤ v1.1)) = true then
    if (decide ((v1.1 : Int) < (((List.length l2) : Nat) : Int))) = true then
      some (v1.1, v1.2, List.set l2 (Int.toNat v1.1) false)
    else none
  else none
theorem flow_todo_next_ok (l1 : List Int) (l2 : List Bool) (r : Int × (List Int) × (List Bool)) (h : flow_todo_next l1 l2 = some r) : Does Try.prog 113 [.ptr 0 [] 0 0] [.box 2 [.ms 1 [] 0 (List.length l1), .ms 2 [] 0 (List.length l2)], .arr 2 1 (List.length l1) (encW o_i64 0 l1), .arr 2 1 (List.length l2) (encW o_bool false l2)] (.pv (.int .i64 r.1), [.box 2 [.ms 1 [] 0 (List.length r.2.1), .ms 2 [] 0 (List.length r.2.2)], .arr 0 1 (List.length r.2.1) (encW o_i64 0 r.2.1), .arr 2 1 (List.length r.2.2) (encW o_bool false r.2.2)]) := by
 unfold flow_todo_next at h
 obtain ⟨v1, h2, h⟩ := bind_of h
 obtain ⟨c3, h⟩ := need_of h
 obtain ⟨c4, h⟩ := need_of h
 have h := Option.some.inj h; subst h
 refine Does.eq (pdoes mixed (L := lives) (r := (.pv (.int .i64 v1.1), [.box 2 [.ms 1 [] 0 (List.length v1.2), .ms 2 [] 0 (List.length l2)], .arr 0 1 (List.length v1.2) (encW o_i64 0 v1.2), .arr 2 1 (List.length l2) (encW o_bool false (List.set l2 (Int.toNat v1.1) false))])) (by kernel_rfl) (pc (heap_Pop_ok _ _ _ h2) <| pk2 <| pn c3 <| pn c4 <| pt <| pe (eff_hb (v := dead) (b := 2) (hb := []) (sc := []) (put_top o_bool false 2 1 (List.length l2) l2 (Int.toNat v1.1) 0 [.pv (.bool false)] false (by kernel_rfl) (by first | exact Nat.le_refl _ | exact Nat.zero_le _ | (simp only [decide_eq_true_eq, List.length_set, List.length_append, List.length_replicate, List.length_cons, List.length_nil, Nat.zero_add] at * <;> omega)))) <| pz)) ?_
 (first | rfl | (simp only [List.length_set]; done))
def flow_todo_next_F (F : Nat) (l1 : List Int) (l2 : List Bool) : Option (Int × (List Int) × (List Bool)) :=
  bind (heap_Pop_F F l1 l2) fun v1 =>
  if (decide ((0 : Int) ≤ v1.1)) = true then
    if (decide ((v1.1 : Int) < (((List.length l2) : Nat) : Int))) = true then
      some (v1.1, v1.2, List.set l2 (Int.toNat v1.1) false)
    else none
  else none
theorem flow_todo_next_le (F : Nat) (l1 : List Int) (l2 : List Bool) : Le (flow_todo_next_F F l1 l2) (flow_todo_next l1 l2) := (Le.bind (heap_Pop_le F _ _) fun v1 => (Le.ite (Le.ite (Le.refl _) (Le.none _)) (Le.none _)))
noncomputable def flow_solver_solve_l25_c : Code := sub (codeOf Try.prog 73) [1, 1, 1, 1, 1, 1, 0, 0, 0, 1, 0, 1, 0, 0]
def flow_solver_solve_l25 (x0 : List (BitVec 32)) (x1 : List (List Int)) (x2 : List (List Int)) (x3 : List Int) (x4 : List Bool) (x5 : List flow_Rule) (x6 : List flow_Rule) (x7 : Nat) (x8 : Int) (x9 : Int) : Option ((List (BitVec 32)) × (List Int) × (List Bool)) :=
  if (decide ((x9 : Int) < x8)) = true then
    if (decide ((0 : Int) ≤ x9)) = true then
      if (decide ((x9 : Int) < (((List.length (List.getD x2 x7 (([] : List Int)))) : Nat) : Int))) = true then
        if (decide ((0 : Int) ≤ (List.getD (List.getD x2 x7 (([] : List Int))) (Int.toNat x9) 0))) = true then
          if (decide (((List.getD (List.getD x2 x7 (([] : List Int))) (Int.toNat x9) 0) : Int) < (((List.length x5) : Nat) : Int))) = true then
            bind (flow_solver_apply x0 x2 x6 (List.getD x5 (Int.toNat (List.getD (List.getD x2 x7 (([] : List Int))) (Int.toNat x9) 0)) d_flow_Rule)) fun v44 =>
            if v44.1 = true then
              bind (flow_todo_add x3 x4 ((List.getD x5 (Int.toNat (List.getD (List.getD x2 x7 (([] : List Int))) (Int.toNat x9) 0)) d_flow_Rule).to_)) fun v47 =>
              flow_solver_solve_l25 v44.2 x1 x2 v47.1 v47.2 x5 x6 x7 x8 (iAdd x9 1)
            else
              flow_solver_solve_l25 v44.2 x1 x2 x3 x4 x5 x6 x7 x8 (iAdd x9 1)
          else none
        else none
      else none
    else none
  else
    some (x0, x3, x4)
partial_fixpoint
noncomputable abbrev flow_solver_solve_l25_s (x0 : List (BitVec 32)) (x1 : List (List Int)) (x2 : List (List Int)) (x3 : List Int) (x4 : List Bool) (x5 : List flow_Rule) (x6 : List flow_Rule) (x7 : Nat) (x8 : Int) (x9 : Int) : St := ⟨.ptr 0 [] 0 0 :: dead :: dead :: .ptr 4 [] 0 0 :: .ms 7 [] 0 (List.length x5) :: (List.replicate 119 dead ++ (.ms 3 [(x7, 0)] 0 (List.length (List.getD x2 x7 (([] : List Int)))) :: .pv (.int .i64 x8) :: .pv (.int .i64 x9) :: List.replicate 21 dead)), [.box 2 [.ms 1 [] 0 (List.length x0), .pv (.seq (List.length x6) (encP e_flow_Rule d_flow_Rule x6)), .ms 3 [] 0 (List.length x2), .pv (.fn 72)], .arr 2 1 (List.length x0) (encW o_u32 0#32 x0), .arr 2 1 (List.length x1) (encW o_26 ([] : List Int) x1), .arr 0 1 (List.length x2) (encW o_26 ([] : List Int) x2), .box 0 [.ms 5 [] 0 (List.length x3), .ms 6 [] 0 (List.length x4)], .arr 0 1 (List.length x3) (encW o_i64 0 x3), .arr 0 1 (List.length x4) (encW o_bool false x4), .arr 0 6 (List.length x5) (encW o_flow_Rule d_flow_Rule x5)]⟩
noncomputable abbrev flow_solver_solve_l25_e (x0 : List (BitVec 32)) (x1 : List (List Int)) (x2 : List (List Int)) (x3 : List Int) (x4 : List Bool) (x5 : List flow_Rule) (x6 : List flow_Rule) (x7 : Nat) (x8 : Int) (x9 : Int) (r : (List (BitVec 32)) × (List Int) × (List Bool)) : St := ⟨.ptr 0 [] 0 0 :: dead :: dead :: .ptr 4 [] 0 0 :: .ms 7 [] 0 (List.length x5) :: List.replicate 143 dead, [.box 2 [.ms 1 [] 0 (List.length r.1), .pv (.seq (List.length x6) (encP e_flow_Rule d_flow_Rule x6)), .ms 3 [] 0 (List.length x2), .pv (.fn 72)], .arr 2 1 (List.length r.1) (encW o_u32 0#32 r.1), .arr 2 1 (List.length x1) (encW o_26 ([] : List Int) x1), .arr 0 1 (List.length x2) (encW o_26 ([] : List Int) x2), .box 0 [.ms 5 [] 0 (List.length r.2.1), .ms 6 [] 0 (List.length r.2.2)], .arr 0 1 (List.length r.2.1) (encW o_i64 0 r.2.1), .arr 0 1 (List.length r.2.2) (encW o_bool false r.2.2), .arr 0 6 (List.length x5) (encW o_flow_Rule d_flow_Rule x5)]⟩
theorem flow_solver_solve_l25_ok (x0 : List (BitVec 32)) (x1 : List (List Int)) (x2 : List (List Int)) (x3 : List Int) (x4 : List Bool) (x5 : List flow_Rule) (x6 : List flow_Rule) (x7 : Nat) (x8 : Int) (x9 : Int) (r : (List (BitVec 32)) × (List Int) × (List Bool)) (h : flow_solver_solve_l25 x0 x1 x2 x3 x4 x5 x6 x7 x8 x9 = some r) : Loops Try.prog flow_solver_solve_l25_c 3 (flow_solver_solve_l25_s x0 x1 x2 x3 x4 x5 x6 x7 x8 x9) (.exit 8) (flow_solver_solve_l25_e x0 x1 x2 x3 x4 x5 x6 x7 x8 x9 r) := by
 refine flow_solver_solve_l25.partial_correctness x1 x2 x5 x6 x7 x8 (fun x0 x3 x4 x9 r => Loops Try.prog flow_solver_solve_l25_c 3 (flow_solver_solve_l25_s x0 x1 x2 x3 x4 x5 x6 x7 x8 x9) (.exit 8) (flow_solver_solve_l25_e x0 x1 x2 x3 x4 x5 x6 x7 x8 x9 r)) ?_ x0 x3 x4 x9 r h
 clear h r x0 x3 x4 x9
 intro self ih x0 x3 x4 x9 r h
 rcases if_of h with ⟨c39, h⟩ | ⟨c39, h⟩
 · obtain ⟨c40, h⟩ := need_of h
   obtain ⟨c41, h⟩ := need_of h
   obtain ⟨c42, h⟩ := need_of h
   obtain ⟨c43, h⟩ := need_of h
   obtain ⟨v44, h45, h⟩ := bind_of h
   rcases if_of h with ⟨c46, h⟩ | ⟨c46, h⟩
   · obtain ⟨v47, h48, h⟩ := bind_of h
     exact pmore mixed lives 73 (by kernel_rfl) (pk <| pb c39 <| pn c40 <| pn c41 <| pk <| pn c42 <| pn c43 <| pk <| pc (flow_solver_apply_ok _ _ _ _ _ h45) <| pk <| pb c46 <| pn c42 <| pn c43 <| pk <| pc (flow_todo_add_ok _ _ _ _ h48) <| pk2 <| pz) (ih v44.2 v47.1 v47.2 (iAdd x9 1) _ h)
   · exact pmore mixed lives 73 (by kernel_rfl) (pk <| pb c39 <| pn c40 <| pn c41 <| pk <| pn c42 <| pn c43 <| pk <| pc (flow_solver_apply_ok _ _ _ _ _ h45) <| pk <| pb c46 <| pk <| pz) (ih v44.2 x3 x4 (iAdd x9 1) _ h)
 · have h := Option.some.inj h; subst h
   exact plast mixed lives 73 (by kernel_rfl) (pk <| pb c39 <| pz) rfl
def flow_solver_solve_l25_F (F n : Nat) (x0 : List (BitVec 32)) (x1 : List (List Int)) (x2 : List (List Int)) (x3 : List Int) (x4 : List Bool) (x5 : List flow_Rule) (x6 : List flow_Rule) (x7 : Nat) (x8 : Int) (x9 : Int) : Option ((List (BitVec 32)) × (List Int) × (List Bool)) := match n with
  | 0 => none
  | n + 1 =>
    if (decide ((x9 : Int) < x8)) = true then
      if (decide ((0 : Int) ≤ x9)) = true then
        if (decide ((x9 : Int) < (((List.length (List.getD x2 x7 (([] : List Int)))) : Nat) : Int))) = true then
          if (decide ((0 : Int) ≤ (List.getD (List.getD x2 x7 (([] : List Int))) (Int.toNat x9) 0))) = true then
            if (decide (((List.getD (List.getD x2 x7 (([] : List Int))) (Int.toNat x9) 0) : Int) < (((List.length x5) : Nat) : Int))) = true then
              bind (flow_solver_apply_F F x0 x2 x6 (List.getD x5 (Int.toNat (List.getD (List.getD x2 x7 (([] : List Int))) (Int.toNat x9) 0)) d_flow_Rule)) fun v44 =>
              if v44.1 = true then
                bind (flow_todo_add_F F x3 x4 ((List.getD x5 (Int.toNat (List.getD (List.getD x2 x7 (([] : List Int))) (Int.toNat x9) 0)) d_flow_Rule).to_)) fun v47 =>
                flow_solver_solve_l25_F F n v44.2 x1 x2 v47.1 v47.2 x5 x6 x7 x8 (iAdd x9 1)
              else
                flow_solver_solve_l25_F F n v44.2 x1 x2 x3 x4 x5 x6 x7 x8 (iAdd x9 1)
            else none
          else none
        else none
      else none
    else
      some (x0, x3, x4)
theorem flow_solver_solve_l25_le (F n : Nat) (x0 : List (BitVec 32)) (x1 : List (List Int)) (x2 : List (List Int)) (x3 : List Int) (x4 : List Bool) (x5 : List flow_Rule) (x6 : List flow_Rule) (x7 : Nat) (x8 : Int) (x9 : Int) : Le (flow_solver_solve_l25_F F n x0 x1 x2 x3 x4 x5 x6 x7 x8 x9) (flow_solver_solve_l25 x0 x1 x2 x3 x4 x5 x6 x7 x8 x9) := by
  induction n generalizing x0 x3 x4 x9 with
  | zero => exact Le.none _
  | succ n ih => rw [flow_solver_solve_l25]; exact (Le.ite (Le.ite (Le.ite (Le.ite (Le.ite (Le.bind (flow_solver_apply_le F _ _ _ _) fun v44 => (Le.ite (Le.bind (flow_todo_add_le F _ _ _) fun v47 => (ih v44.2 v47.1 v47.2 (iAdd x9 1))) (ih v44.2 x3 x4 (iAdd x9 1)))) (Le.none _)) (Le.none _)) (Le.none _)) (Le.none _)) (Le.refl _))
noncomputable def flow_solver_solve_l23_c : Code := sub (codeOf Try.prog 73) [1, 1, 1, 1, 1, 1, 0, 0, 0]
def flow_solver_solve_l23 (x0 : List (BitVec 32)) (x1 : List (List Int)) (x2 : List (List Int)) (x3 : List Int) (x4 : List Bool) (x5 : List flow_Rule) (x6 : List flow_Rule) : Option ((List (BitVec 32))) :=
  bind (flow_todo_Len x3 x4) fun v32 =>
  if (decide ((v32 : Int) > 0)) = true then
    bind (flow_todo_next x3 x4) fun v35 =>
    if (decide ((0 : Int) ≤ v35.1)) = true then
      if (decide ((v35.1 : Int) < (((List.length x2) : Nat) : Int))) = true then
        bind (flow_solver_solve_l25 x0 x1 x2 v35.2.1 v35.2.2 x5 x6 (Int.toNat v35.1) ((((List.length (List.getD x2 (Int.toNat v35.1) (([] : List Int)))) : Nat) : Int)) 0) fun v49 =>
        flow_solver_solve_l23 v49.1 x1 x2 v49.2.1 v49.2.2 x5 x6
      else none
    else none
  else
    some x0
partial_fixpoint
noncomputable abbrev flow_solver_solve_l23_s (x0 : List (BitVec 32)) (x1 : List (List Int)) (x2 : List (List Int)) (x3 : List Int) (x4 : List Bool) (x5 : List flow_Rule) (x6 : List flow_Rule) : St := ⟨.ptr 0 [] 0 0 :: dead :: dead :: .ptr 4 [] 0 0 :: .ms 7 [] 0 (List.length x5) :: List.replicate 143 dead, [.box 2 [.ms 1 [] 0 (List.length x0), .pv (.seq (List.length x6) (encP e_flow_Rule d_flow_Rule x6)), .ms 3 [] 0 (List.length x2), .pv (.fn 72)], .arr 2 1 (List.length x0) (encW o_u32 0#32 x0), .arr 2 1 (List.length x1) (encW o_26 ([] : List Int) x1), .arr 0 1 (List.length x2) (encW o_26 ([] : List Int) x2), .box 0 [.ms 5 [] 0 (List.length x3), .ms 6 [] 0 (List.length x4)], .arr 0 1 (List.length x3) (encW o_i64 0 x3), .arr 0 1 (List.length x4) (encW o_bool false x4), .arr 0 6 (List.length x5) (encW o_flow_Rule d_flow_Rule x5)]⟩
noncomputable abbrev flow_solver_solve_l23_e (x0 : List (BitVec 32)) (x1 : List (List Int)) (x2 : List (List Int)) (x3 : List Int) (x4 : List Bool) (x5 : List flow_Rule) (x6 : List flow_Rule) (r : (List (BitVec 32))) : St := ⟨.ptr 0 [] 0 0 :: List.replicate 147 dead, [.box 2 [.ms 1 [] 0 (List.length r), .pv (.seq (List.length x6) (encP e_flow_Rule d_flow_Rule x6)), .ms 3 [] 0 (List.length x2), .pv (.fn 72)], .arr 2 1 (List.length r) (encW o_u32 0#32 r), .arr 2 1 (List.length x1) (encW o_26 ([] : List Int) x1), .arr 0 1 (List.length x2) (encW o_26 ([] : List Int) x2)]⟩
theorem flow_solver_solve_l23_ok (x0 : List (BitVec 32)) (x1 : List (List Int)) (x2 : List (List Int)) (x3 : List Int) (x4 : List Bool) (x5 : List flow_Rule) (x6 : List flow_Rule) (r : (List (BitVec 32))) (h : flow_solver_solve_l23 x0 x1 x2 x3 x4 x5 x6 = some r) : Loops Try.prog flow_solver_solve_l23_c 3 (flow_solver_solve_l23_s x0 x1 x2 x3 x4 x5 x6) (.exit 6) (flow_solver_solve_l23_e x0 x1 x2 x3 x4 x5 x6 r) := by
 refine flow_solver_solve_l23.partial_correctness x1 x2 x5 x6 (fun x0 x3 x4 r => Loops Try.prog flow_solver_solve_l23_c 3 (flow_solver_solve_l23_s x0 x1 x2 x3 x4 x5 x6) (.exit 6) (flow_solver_solve_l23_e x0 x1 x2 x3 x4 x5 x6 r)) ?_ x0 x3 x4 r h
 clear h r x0 x3 x4
 intro self ih x0 x3 x4 r h
 obtain ⟨v32, h33, h⟩ := bind_of h
 rcases if_of h with ⟨c34, h⟩ | ⟨c34, h⟩
 · obtain ⟨v35, h36, h⟩ := bind_of h
   obtain ⟨c37, h⟩ := need_of h
   obtain ⟨c38, h⟩ := need_of h
   obtain ⟨v49, h50, h⟩ := bind_of h
   exact pmore mixed lives 73 (by kernel_rfl) (pc (flow_todo_Len_ok _ _ _ h33) <| pk2 <| pb c34 <| pk <| pc (flow_todo_next_ok _ _ _ h36) <| pk <| pn c37 <| pn c38 <| pk2 <| pl (flow_solver_solve_l25_ok _ _ _ _ _ _ _ _ _ _ _ h50) <| pz) (ih v49.1 v49.2.1 v49.2.2 _ h)
 · have h := Option.some.inj h; subst h
   exact plast mixed lives 73 (by kernel_rfl) (pc (flow_todo_Len_ok _ _ _ h33) <| pk2 <| pb c34 <| pz) rfl
def flow_solver_solve_l23_F (F n : Nat) (x0 : List (BitVec 32)) (x1 : List (List Int)) (x2 : List (List Int)) (x3 : List Int) (x4 : List Bool) (x5 : List flow_Rule) (x6 : List flow_Rule) : Option ((List (BitVec 32))) := match n with
  | 0 => none
  | n + 1 =>
    bind (flow_todo_Len_F F x3 x4) fun v32 =>
    if (decide ((v32 : Int) > 0)) = true then
      bind (flow_todo_next_F F x3 x4) fun v35 =>
      if (decide ((0 : Int) ≤ v35.1)) = true then
        if (decide ((v35.1 : Int) < (((List.length x2) : Nat) : Int))) = true then
          bind (flow_solver_solve_l25_F F F x0 x1 x2 v35.2.1 v35.2.2 x5 x6 (Int.toNat v35.1) ((((List.length (List.getD x2 (Int.toNat v35.1) (([] : List Int)))) : Nat) : Int)) 0) fun v49 =>
          flow_solver_solve_l23_F F n v49.1 x1 x2 v49.2.1 v49.2.2 x5 x6
        else none
      else none
    else
      some x0
theorem flow_solver_solve_l23_le (F n : Nat) (x0 : List (BitVec 32)) (x1 : List (List Int)) (x2 : List (List Int)) (x3 : List Int) (x4 : List Bool) (x5 : List flow_Rule) (x6 : List flow_Rule) : Le (flow_solver_solve_l23_F F n x0 x1 x2 x3 x4 x5 x6) (flow_solver_solve_l23 x0 x1 x2 x3 x4 x5 x6) := by
  induction n generalizing x0 x3 x4 with
  | zero => exact Le.none _
  | succ n ih => rw [flow_solver_solve_l23]; exact (Le.bind (flow_todo_Len_le F _ _) fun v32 => (Le.ite (Le.bind (flow_todo_next_le F _ _) fun v35 => (Le.ite (Le.ite (Le.bind (flow_solver_solve_l25_le F F _ _ _ _ _ _ _ _ _ _) fun v49 => (ih v49.1 v49.2.1 v49.2.2)) (Le.none _)) (Le.none _))) (Le.refl _)))
/-- (*alibi/flow.solver).solve -/
def flow_solver_solve (l1 : List (BitVec 32)) (l2 : List (List Int)) (b0 : List flow_Rule) : Option ((List (BitVec 32)) × (List (List Int))) :=
  if (decide ((0 : Int) ≤ ((((List.length l1) : Nat) : Int)))) = true then
    if (decide ((((((List.length l1) : Nat) : Int)) : Int) * ((1 : Nat) : Int) ≤ ((reach : Nat) : Int))) = true then
      if (decide ((((((List.length l1) : Nat) : Int)) : Int) * ((24 : Nat) : Int) ≤ ((reach : Nat) : Int))) = true then
        bind (flow_solver_solve_l5 l1 l2 (List.replicate (Int.toNat ((((List.length l1) : Nat) : Int))) (([] : List Int))) (([] : List Int)) (List.replicate (Int.toNat ((((List.length l1) : Nat) : Int))) false) (([] : List flow_Rule)) b0 b0 (((List.length b0 : Nat) : Int)) 0) fun v25 =>
        bind (flow_solver_solve_l19 v25.1 l2 v25.2.1 v25.2.2.1 v25.2.2.2.1 v25.2.2.2.2 b0 ((((List.length v25.1) : Nat) : Int)) 0) fun v30 =>
        bind (flow_solver_solve_l23 v25.1 l2 v25.2.1 v30.1 v30.2 v25.2.2.2.2 b0) fun v51 =>
        some (v51, v25.2.1)
      else none
    else none
  else none
theorem flow_solver_solve_ok (l1 : List (BitVec 32)) (l2 : List (List Int)) (b0 : List flow_Rule) (r : (List (BitVec 32)) × (List (List Int))) (h : flow_solver_solve l1 l2 b0 = some r) : Does Try.prog 73 [.ptr 0 [] 0 0] [.box 2 [.ms 1 [] 0 (List.length l1), .pv (.seq (List.length b0) (encP e_flow_Rule d_flow_Rule b0)), .ms 2 [] 0 (List.length l2), .pv (.fn 72)], .arr 2 1 (List.length l1) (encW o_u32 0#32 l1), .arr 2 1 (List.length l2) (encW o_26 ([] : List Int) l2)] (.ms 1 [] 0 (List.length r.1), [.box 2 [.ms 1 [] 0 (List.length r.1), .pv (.seq (List.length b0) (encP e_flow_Rule d_flow_Rule b0)), .ms 3 [] 0 (List.length r.2), .pv (.fn 72)], .arr 2 1 (List.length r.1) (encW o_u32 0#32 r.1), .arr 2 1 (List.length l2) (encW o_26 ([] : List Int) l2), .arr 0 1 (List.length r.2) (encW o_26 ([] : List Int) r.2)]) := by
 unfold flow_solver_solve at h
 obtain ⟨c1, h⟩ := need_of h
 obtain ⟨c2, h⟩ := need_of h
 obtain ⟨c3, h⟩ := need_of h
 obtain ⟨v25, h26, h⟩ := bind_of h
 obtain ⟨v30, h31, h⟩ := bind_of h
 obtain ⟨v51, h52, h⟩ := bind_of h
 have h := Option.some.inj h; subst h
 exact pdoes mixed (L := lives) (by kernel_rfl) (pk2 <| pn c1 <| pn ((decide_eq_true rfl) : (decide ((((((List.length l1) : Nat) : Int)) : Int) = ((((List.length l1) : Nat) : Int)))) = true) <| pn c2 <| pe (eff_make o_bool false 3 1 (Int.toNat ((((List.length l1) : Nat) : Int)))) <| pk4 <| pn c1 <| pn ((decide_eq_true rfl) : (decide ((((((List.length l1) : Nat) : Int)) : Int) = ((((List.length l1) : Nat) : Int)))) = true) <| pn c3 <| pe (eff_make o_26 (([] : List Int)) 6 1 (Int.toNat ((((List.length l1) : Nat) : Int)))) <| pk3 <| pl (Loops.of (s1 := ⟨.ptr 0 [] 0 0 :: dead :: dead :: .ptr 4 [] 0 0 :: .ms 7 [] 0 (List.length ([] : List flow_Rule)) :: (List.replicate 27 dead ++ (.pv (.seq (List.length b0) (encP e_flow_Rule d_flow_Rule b0)) :: .pv (.int .i64 (((List.length b0 : Nat) : Int))) :: .pv (.int .i64 0) :: List.replicate 113 dead)), [.box 2 [.ms 1 [] 0 (List.length l1), .pv (.seq (List.length b0) (encP e_flow_Rule d_flow_Rule b0)), .ms 3 [] 0 (List.length (List.replicate (Int.toNat ((((List.length l1) : Nat) : Int))) (([] : List Int)))), .pv (.fn 72)], .arr 2 1 (List.length l1) (encW o_u32 0#32 l1), .arr 2 1 (List.length l2) (encW o_26 ([] : List Int) l2), .arr 0 1 (List.length (List.replicate (Int.toNat ((((List.length l1) : Nat) : Int))) (([] : List Int)))) (encW o_26 ([] : List Int) (List.replicate (Int.toNat ((((List.length l1) : Nat) : Int))) (([] : List Int)))), .box 0 [.ms 5 [] 0 (List.length ([] : List Int)), .ms 6 [] 0 (List.length (List.replicate (Int.toNat ((((List.length l1) : Nat) : Int))) false))], .arr 0 1 (List.length ([] : List Int)) (encW o_i64 0 (([] : List Int))), .arr 0 1 (List.length (List.replicate (Int.toNat ((((List.length l1) : Nat) : Int))) false)) (encW o_bool false (List.replicate (Int.toNat ((((List.length l1) : Nat) : Int))) false)), .arr 0 6 (List.length ([] : List flow_Rule)) (encW o_flow_Rule d_flow_Rule (([] : List flow_Rule)))]⟩) (flow_solver_solve_l5_ok _ _ _ _ _ _ _ _ _ _ _ h26) (by (first | rfl | (simp only [flow_solver_solve_l5_s, List.length_set]; done)))) <| pk2 <| pl (flow_solver_solve_l19_ok _ _ _ _ _ _ _ _ _ _ h31) <| pl (flow_solver_solve_l23_ok _ _ _ _ _ _ _ _ h52) <| pk <| pz)
def flow_solver_solve_F (F : Nat) (l1 : List (BitVec 32)) (l2 : List (List Int)) (b0 : List flow_Rule) : Option ((List (BitVec 32)) × (List (List Int))) :=
  if (decide ((0 : Int) ≤ ((((List.length l1) : Nat) : Int)))) = true then
    if (decide ((((((List.length l1) : Nat) : Int)) : Int) * ((1 : Nat) : Int) ≤ ((reach : Nat) : Int))) = true then
      if (decide ((((((List.length l1) : Nat) : Int)) : Int) * ((24 : Nat) : Int) ≤ ((reach : Nat) : Int))) = true then
        bind (flow_solver_solve_l5_F F F l1 l2 (List.replicate (Int.toNat ((((List.length l1) : Nat) : Int))) (([] : List Int))) (([] : List Int)) (List.replicate (Int.toNat ((((List.length l1) : Nat) : Int))) false) (([] : List flow_Rule)) b0 b0 (((List.length b0 : Nat) : Int)) 0) fun v25 =>
        bind (flow_solver_solve_l19_F F F v25.1 l2 v25.2.1 v25.2.2.1 v25.2.2.2.1 v25.2.2.2.2 b0 ((((List.length v25.1) : Nat) : Int)) 0) fun v30 =>
        bind (flow_solver_solve_l23_F F F v25.1 l2 v25.2.1 v30.1 v30.2 v25.2.2.2.2 b0) fun v51 =>
        some (v51, v25.2.1)
      else none
    else none
  else none
theorem flow_solver_solve_le (F : Nat) (l1 : List (BitVec 32)) (l2 : List (List Int)) (b0 : List flow_Rule) : Le (flow_solver_solve_F F l1 l2 b0) (flow_solver_solve l1 l2 b0) := (Le.ite (Le.ite (Le.ite (Le.bind (flow_solver_solve_l5_le F F _ _ _ _ _ _ _ _ _ _) fun v25 => (Le.bind (flow_solver_solve_l19_le F F _ _ _ _ _ _ _ _ _) fun v30 => (Le.bind (flow_solver_solve_l23_le F F _ _ _ _ _ _ _) fun v51 => (Le.refl _)))) (Le.none _)) (Le.none _)) (Le.none _))
/-- alibi/flow.Greatest -/
def flow_Greatest (n1 : Int) (top : BitVec 32) (rules : List flow_Rule) : Option ((List (BitVec 32))) :=
  bind (flow_start n1 top) fun v1 =>
  bind (flow_solver_solve v1 (([] : List (List Int))) rules) fun v3 =>
  some v3.1
theorem flow_Greatest_ok (n1 : Int) (top : BitVec 32) (rules : List flow_Rule) (r : (List (BitVec 32))) (h : flow_Greatest n1 top rules = some r) : Does Try.prog 35 [.pv (.int .i64 n1), .pv (.int .u32 (BitVec.toNat top : Nat)), .pv (.seq (List.length rules) (encP e_flow_Rule d_flow_Rule rules))] [] (.ms 0 [] 0 (List.length r), [.arr 0 1 (List.length r) (encW o_u32 0#32 r)]) := by
 unfold flow_Greatest at h
 obtain ⟨v1, h2, h⟩ := bind_of h
 obtain ⟨v3, h4, h⟩ := bind_of h
 have h := Option.some.inj h; subst h
 exact pdoes mixed (L := lives) (by kernel_rfl) (pc (flow_start_ok _ _ _ h2) <| pk3 <| pc (Does.of (args' := [.ptr 0 [] 0 0]) (H' := [.box 2 [.ms 1 [] 0 (List.length v1), .pv (.seq (List.length rules) (encP e_flow_Rule d_flow_Rule rules)), .ms 2 [] 0 (List.length ([] : List (List Int))), .pv (.fn 72)], .arr 2 1 (List.length v1) (encW o_u32 0#32 v1), .arr 2 1 (List.length ([] : List (List Int))) (encW o_26 ([] : List Int) (([] : List (List Int))))]) (flow_solver_solve_ok _ _ _ _ h4) (by (first | rfl | (simp only [List.length_set]; done)))) <| pk <| pz)
def flow_Greatest_F (F : Nat) (n1 : Int) (top : BitVec 32) (rules : List flow_Rule) : Option ((List (BitVec 32))) :=
  bind (flow_start_F F n1 top) fun v1 =>
  bind (flow_solver_solve_F F v1 (([] : List (List Int))) rules) fun v3 =>
  some v3.1
theorem flow_Greatest_le (F : Nat) (n1 : Int) (top : BitVec 32) (rules : List flow_Rule) : Le (flow_Greatest_F F n1 top rules) (flow_Greatest n1 top rules) := (Le.bind (flow_start_le F _ _) fun v1 => (Le.bind (flow_solver_solve_le F _ _ _) fun v3 => (Le.refl _)))
/-- alibi/sets.All -/
def sets_All (n1 : Int) : Option ((BitVec 32)) :=
  if (decide ((0 : Int) ≤ (if 0 > (if 32 < n1 then 32 else n1) then 0 else (if 32 < n1 then 32 else n1)))) = true then
    some (BitVec.setWidth 32 (((1#64) <<< (Int.toNat (if 0 > (if 32 < n1 then 32 else n1) then 0 else (if 32 < n1 then 32 else n1)))) - (1#64)))
  else none
theorem sets_All_ok (n1 : Int) (r : (BitVec 32)) (h : sets_All n1 = some r) : Does Try.prog 74 [.pv (.int .i64 n1)] [] (.pv (.int .u32 (BitVec.toNat r : Nat)), []) := by
 unfold sets_All at h
 obtain ⟨c1, h⟩ := need_of h
 have h := Option.some.inj h; subst h
 exact pdoes mixed (L := lives) (by kernel_rfl) (pk2 <| pn c1 <| pe (eff_int (k := .u64) (un_shl .u64 rfl (1#64) (Int.toNat (if 0 > (if 32 < n1 then 32 else n1) then 0 else (if 32 < n1 then 32 else n1))))) <| pe (eff_int (k := .u64) (un_sub .u64 rfl ((1#64) <<< (Int.toNat (if 0 > (if 32 < n1 then 32 else n1) then 0 else (if 32 < n1 then 32 else n1)))) (1#64))) <| pe (eff_int (k := .u32) (un_un .u32 rfl 64 (((1#64) <<< (Int.toNat (if 0 > (if 32 < n1 then 32 else n1) then 0 else (if 32 < n1 then 32 else n1)))) - (1#64)))) <| pz)
def sets_All_F (F : Nat) (n1 : Int) : Option ((BitVec 32)) :=
  if (decide ((0 : Int) ≤ (if 0 > (if 32 < n1 then 32 else n1) then 0 else (if 32 < n1 then 32 else n1)))) = true then
    some (BitVec.setWidth 32 (((1#64) <<< (Int.toNat (if 0 > (if 32 < n1 then 32 else n1) then 0 else (if 32 < n1 then 32 else n1)))) - (1#64)))
  else none
theorem sets_All_le (F : Nat) (n1 : Int) : Le (sets_All_F F n1) (sets_All n1) := (Le.ite (Le.refl _) (Le.none _))
noncomputable def flow_solver_solve_1_l9_c : Code := sub (codeOf Try.prog 73) [1, 1, 1, 1, 0, 1, 0, 0, 1, 1, 0, 0, 1, 1, 0, 1, 0, 0]
def flow_solver_solve_1_l9 (x0 : List (BitVec 32)) (x1 : List (List Int)) (x2 : List (List Int)) (x3 : List Int) (x4 : List Bool) (x5 : List flow_Rule) (x6 : List Int) (x7 : List flow_Rule) (x8 : Int) (x9 : Int) (x10 : Int) (x11 : BitVec 32) (x12 : BitVec 32) (x13 : BitVec 32) (x14 : List flow_Rule) (x15 : Int) (x16 : Int) (x17 : Int) (x18 : Int) : Option ((List (List Int))) :=
  if (decide ((x18 : Int) < x17)) = true then
    if (decide ((0 : Int) ≤ x18)) = true then
      if (decide ((x18 : Int) < (((List.length x6) : Nat) : Int))) = true then
        if (decide (((List.getD x6 (Int.toNat x18) 0) : Int) ≥ 0)) = true then
          if (decide (((List.getD x6 (Int.toNat x18) 0) : Int) < ((((List.length x0) : Nat) : Int)))) = true then
            if (decide ((0 : Int) ≤ (List.getD x6 (Int.toNat x18) 0))) = true then
              if (decide (((List.getD x6 (Int.toNat x18) 0) : Int) < (((List.length x2) : Nat) : Int))) = true then
                if (Nat.ble ((List.length (List.getD x2 (Int.toNat (List.getD x6 (Int.toNat x18) 0)) (([] : List Int))) + List.length ([(((List.length x5) : Nat) : Int)])) * 8) reach) = true then
                  flow_solver_solve_1_l9 x0 x1 (List.set x2 (Int.toNat (List.getD x6 (Int.toNat x18) 0)) (List.getD x2 (Int.toNat (List.getD x6 (Int.toNat x18) 0)) (([] : List Int)) ++ ([(((List.length x5) : Nat) : Int)]))) x3 x4 x5 x6 x7 x8 x9 x10 x11 x12 x13 x14 x15 x16 x17 (iAdd x18 1)
                else none
              else none
            else none
          else
            flow_solver_solve_1_l9 x0 x1 x2 x3 x4 x5 x6 x7 x8 x9 x10 x11 x12 x13 x14 x15 x16 x17 (iAdd x18 1)
        else
          flow_solver_solve_1_l9 x0 x1 x2 x3 x4 x5 x6 x7 x8 x9 x10 x11 x12 x13 x14 x15 x16 x17 (iAdd x18 1)
      else none
    else none
  else
    some x2
partial_fixpoint
noncomputable abbrev flow_solver_solve_1_l9_s (x0 : List (BitVec 32)) (x1 : List (List Int)) (x2 : List (List Int)) (x3 : List Int) (x4 : List Bool) (x5 : List flow_Rule) (x6 : List Int) (x7 : List flow_Rule) (x8 : Int) (x9 : Int) (x10 : Int) (x11 : BitVec 32) (x12 : BitVec 32) (x13 : BitVec 32) (x14 : List flow_Rule) (x15 : Int) (x16 : Int) (x17 : Int) (x18 : Int) : St := ⟨.ptr 0 [] 0 0 :: dead :: dead :: .ptr 4 [] 0 0 :: .ms 7 [] 0 (List.length x5) :: dead :: .ptr 8 [] 0 0 :: (List.replicate 25 dead ++ (.pv (.seq (List.length x14) (encP e_flow_Rule d_flow_Rule x14)) :: .pv (.int .i64 x15) :: .pv (.int .i64 x16) :: (List.replicate 20 dead ++ (.ms 9 [] 0 (List.length x6) :: .pv (.int .i64 x17) :: .pv (.int .i64 x18) :: List.replicate 90 dead)))), [.box 2 [.ms 1 [] 0 (List.length x0), .pv (.seq (List.length x7) (encP e_flow_Rule d_flow_Rule x7)), .ms 3 [] 0 (List.length x2), .pv (.fn 75)], .arr 2 1 (List.length x0) (encW o_u32 0#32 x0), .arr 2 1 (List.length x1) (encW o_26 ([] : List Int) x1), .arr 0 1 (List.length x2) (encW o_26 ([] : List Int) x2), .box 0 [.ms 5 [] 0 (List.length x3), .ms 6 [] 0 (List.length x4)], .arr 0 1 (List.length x3) (encW o_i64 0 x3), .arr 0 1 (List.length x4) (encW o_bool false x4), .arr 0 6 (List.length x5) (encW o_flow_Rule d_flow_Rule x5), .box 0 [.pv (.int .i64 x8), .pv (.int .i64 x9), .pv (.int .i64 x10), .pv (.int .u32 (BitVec.toNat x11 : Nat)), .pv (.int .u32 (BitVec.toNat x12 : Nat)), .pv (.int .u32 (BitVec.toNat x13 : Nat))], .arr 0 1 (List.length x6) (encW o_i64 0 x6)]⟩
noncomputable abbrev flow_solver_solve_1_l9_e (x0 : List (BitVec 32)) (x1 : List (List Int)) (x2 : List (List Int)) (x3 : List Int) (x4 : List Bool) (x5 : List flow_Rule) (x6 : List Int) (x7 : List flow_Rule) (x8 : Int) (x9 : Int) (x10 : Int) (x11 : BitVec 32) (x12 : BitVec 32) (x13 : BitVec 32) (x14 : List flow_Rule) (x15 : Int) (x16 : Int) (x17 : Int) (x18 : Int) (r : (List (List Int))) : St := ⟨.ptr 0 [] 0 0 :: dead :: dead :: .ptr 4 [] 0 0 :: .ms 7 [] 0 (List.length x5) :: dead :: .ptr 8 [] 0 0 :: (List.replicate 25 dead ++ (.pv (.seq (List.length x14) (encP e_flow_Rule d_flow_Rule x14)) :: .pv (.int .i64 x15) :: .pv (.int .i64 x16) :: List.replicate 113 dead)), [.box 2 [.ms 1 [] 0 (List.length x0), .pv (.seq (List.length x7) (encP e_flow_Rule d_flow_Rule x7)), .ms 3 [] 0 (List.length r), .pv (.fn 75)], .arr 2 1 (List.length x0) (encW o_u32 0#32 x0), .arr 2 1 (List.length x1) (encW o_26 ([] : List Int) x1), .arr 0 1 (List.length r) (encW o_26 ([] : List Int) r), .box 0 [.ms 5 [] 0 (List.length x3), .ms 6 [] 0 (List.length x4)], .arr 0 1 (List.length x3) (encW o_i64 0 x3), .arr 0 1 (List.length x4) (encW o_bool false x4), .arr 0 6 (List.length x5) (encW o_flow_Rule d_flow_Rule x5), .box 0 [.pv (.int .i64 x8), .pv (.int .i64 x9), .pv (.int .i64 x10), .pv (.int .u32 (BitVec.toNat x11 : Nat)), .pv (.int .u32 (BitVec.toNat x12 : Nat)), .pv (.int .u32 (BitVec.toNat x13 : Nat))]]⟩
theorem flow_solver_solve_1_l9_ok (x0 : List (BitVec 32)) (x1 : List (List Int)) (x2 : List (List Int)) (x3 : List Int) (x4 : List Bool) (x5 : List flow_Rule) (x6 : List Int) (x7 : List flow_Rule) (x8 : Int) (x9 : Int) (x10 : Int) (x11 : BitVec 32) (x12 : BitVec 32) (x13 : BitVec 32) (x14 : List flow_Rule) (x15 : Int) (x16 : Int) (x17 : Int) (x18 : Int) (r : (List (List Int))) (h : flow_solver_solve_1_l9 x0 x1 x2 x3 x4 x5 x6 x7 x8 x9 x10 x11 x12 x13 x14 x15 x16 x17 x18 = some r) : Loops Try.prog flow_solver_solve_1_l9_c 3 (flow_solver_solve_1_l9_s x0 x1 x2 x3 x4 x5 x6 x7 x8 x9 x10 x11 x12 x13 x14 x15 x16 x17 x18) (.exit 2) (flow_solver_solve_1_l9_e x0 x1 x2 x3 x4 x5 x6 x7 x8 x9 x10 x11 x12 x13 x14 x15 x16 x17 x18 r) := by
 refine flow_solver_solve_1_l9.partial_correctness x0 x1 x3 x4 x5 x6 x7 x8 x9 x10 x11 x12 x13 x14 x15 x16 x17 (fun x2 x18 r => Loops Try.prog flow_solver_solve_1_l9_c 3 (flow_solver_solve_1_l9_s x0 x1 x2 x3 x4 x5 x6 x7 x8 x9 x10 x11 x12 x13 x14 x15 x16 x17 x18) (.exit 2) (flow_solver_solve_1_l9_e x0 x1 x2 x3 x4 x5 x6 x7 x8 x9 x10 x11 x12 x13 x14 x15 x16 x17 x18 r)) ?_ x2 x18 r h
 clear h r x2 x18
 intro self ih x2 x18 r h
 rcases if_of h with ⟨c9, h⟩ | ⟨c9, h⟩
 · obtain ⟨c10, h⟩ := need_of h
   obtain ⟨c11, h⟩ := need_of h
   rcases if_of h with ⟨c12, h⟩ | ⟨c12, h⟩
   · rcases if_of h with ⟨c13, h⟩ | ⟨c13, h⟩
     · obtain ⟨c14, h⟩ := need_of h
       obtain ⟨c15, h⟩ := need_of h
       obtain ⟨c16, h⟩ := need_of h
       exact pmore mixed lives 73 (by kernel_rfl) (pk <| pb c9 <| pn c10 <| pn c11 <| pk2 <| pb c12 <| pk8 <| pk2 <| pb c13 <| pk2 <| pn c14 <| pn c15 <| pk2 <| pe (eff_lit o_i64 0 10 1 1 ([(((List.length x5) : Nat) : Int)]) rfl [] []) <| pb (whole_ok (List.length ([(((List.length x5) : Nat) : Int)]))) <| pn c16 <| pe (eff_app o_i64 0 (List.getD x2 (Int.toNat (List.getD x6 (Int.toNat x18) 0)) (([] : List Int))) ([(((List.length x5) : Nat) : Int)]) (List.getD x2 (Int.toNat (List.getD x6 (Int.toNat x18) 0)) (([] : List Int)) ++ ([(((List.length x5) : Nat) : Int)])) 11 1 (List.length (List.getD x2 (Int.toNat (List.getD x6 (Int.toNat x18) 0)) (([] : List Int)))) (List.length ([(((List.length x5) : Nat) : Int)])) (fun i => List.map AV.scal (encW o_i64 0 ([(((List.length x5) : Nat) : Int)]) i)) (encW o_i64 0 (List.getD x2 (Int.toNat (List.getD x6 (Int.toNat x18) 0)) (([] : List Int))) (List.length (List.getD x2 (Int.toNat (List.getD x6 (Int.toNat x18) 0)) (([] : List Int))))) [(11, .arr 0 1 (List.length (List.getD x2 (Int.toNat (List.getD x6 (Int.toNat x18) 0)) (([] : List Int)))) (encW o_i64 0 (List.getD x2 (Int.toNat (List.getD x6 (Int.toNat x18) 0)) (([] : List Int))))), (3, .arr 0 1 (List.length x2) (upd (encW o_26 ([] : List Int) x2) (Int.toNat (List.getD x6 (Int.toNat x18) 0)) (List.set (o_26 (List.getD x2 (Int.toNat (List.getD x6 (Int.toNat x18) 0)) (([] : List Int)))) 0 (.pv .bad))))] [] [(3, true), (11, false)] (by first | exact Nat.le_refl _ | exact Nat.zero_le _ | (simp only [decide_eq_true_eq, List.length_set, List.length_append, List.length_replicate, List.length_cons, List.length_nil, Nat.zero_add] at * <;> omega)) rfl (fun _ => by kernel_rfl) (congrArg o_i64 (getD_ge 0 (by first | exact Nat.le_refl _ | exact Nat.zero_le _ | (simp only [decide_eq_true_eq, List.length_set, List.length_append, List.length_replicate, List.length_cons, List.length_nil, Nat.zero_add] at * <;> omega)))) (by rw [List.take_of_length_le (by first | exact Nat.le_refl _ | exact Nat.zero_le _ | (simp only [decide_eq_true_eq, List.length_set, List.length_append, List.length_replicate, List.length_cons, List.length_nil, Nat.zero_add] at * <;> omega))])) <| pn c14 <| pn c15 <| pn ((ble_hole (encW o_26 (([] : List Int)) x2) (Int.toNat (List.getD x6 (Int.toNat x18) 0)) _ (List.set (o_26 (List.getD x2 (Int.toNat (List.getD x6 (Int.toNat x18) 0)) (([] : List Int)))) 0 (.pv .bad)) (by kernel_rfl)) : (Nat.ble (0 + 1) (List.length (upd (encW o_26 (([] : List Int)) x2) (Int.toNat (List.getD x6 (Int.toNat x18) 0)) (List.set (o_26 (List.getD x2 (Int.toNat (List.getD x6 (Int.toNat x18) 0)) (([] : List Int)))) 0 (.pv .bad)) (Int.toNat (List.getD x6 (Int.toNat x18) 0))))) = true) <| pb (whole_ok (List.length (List.getD x2 (Int.toNat (List.getD x6 (Int.toNat x18) 0)) (([] : List Int)) ++ ([(((List.length x5) : Nat) : Int)])))) <| pe (eff_hole o_26 (([] : List Int)) 0 1 (List.length x2) x2 (Int.toNat (List.getD x6 (Int.toNat x18) 0)) 0 (List.set (o_26 (List.getD x2 (Int.toNat (List.getD x6 (Int.toNat x18) 0)) (([] : List Int)))) 0 (.pv .bad)) [.own 1 (List.length (List.getD x2 (Int.toNat (List.getD x6 (Int.toNat x18) 0)) (([] : List Int)) ++ ([(((List.length x5) : Nat) : Int)]))) (encW o_i64 0 (List.getD x2 (Int.toNat (List.getD x6 (Int.toNat x18) 0)) (([] : List Int)) ++ ([(((List.length x5) : Nat) : Int)])))] (List.getD x2 (Int.toNat (List.getD x6 (Int.toNat x18) 0)) (([] : List Int)) ++ ([(((List.length x5) : Nat) : Int)])) 3 1 [(11, .gone)] [(11, false)] (by kernel_rfl) (by kernel_rfl) (by first | exact Nat.le_refl _ | exact Nat.zero_le _ | (simp only [decide_eq_true_eq, List.length_set, List.length_append, List.length_replicate, List.length_cons, List.length_nil, Nat.zero_add] at * <;> omega))) <| pk <| pz) (Loops.of (s1 := ⟨.ptr 0 [] 0 0 :: dead :: dead :: .ptr 4 [] 0 0 :: .ms 7 [] 0 (List.length x5) :: dead :: .ptr 8 [] 0 0 :: (List.replicate 25 dead ++ (.pv (.seq (List.length x14) (encP e_flow_Rule d_flow_Rule x14)) :: .pv (.int .i64 x15) :: .pv (.int .i64 x16) :: (List.replicate 20 dead ++ (.ms 9 [] 0 (List.length x6) :: .pv (.int .i64 x17) :: .pv (.int .i64 (iAdd x18 1)) :: List.replicate 90 dead)))), [.box 2 [.ms 1 [] 0 (List.length x0), .pv (.seq (List.length x7) (encP e_flow_Rule d_flow_Rule x7)), .ms 3 [] 0 (List.length x2), .pv (.fn 75)], .arr 2 1 (List.length x0) (encW o_u32 0#32 x0), .arr 2 1 (List.length x1) (encW o_26 ([] : List Int) x1), .arr 0 1 (List.length x2) (encW o_26 ([] : List Int) (List.set x2 (Int.toNat (List.getD x6 (Int.toNat x18) 0)) (List.getD x2 (Int.toNat (List.getD x6 (Int.toNat x18) 0)) (([] : List Int)) ++ ([(((List.length x5) : Nat) : Int)])))), .box 0 [.ms 5 [] 0 (List.length x3), .ms 6 [] 0 (List.length x4)], .arr 0 1 (List.length x3) (encW o_i64 0 x3), .arr 0 1 (List.length x4) (encW o_bool false x4), .arr 0 6 (List.length x5) (encW o_flow_Rule d_flow_Rule x5), .box 0 [.pv (.int .i64 x8), .pv (.int .i64 x9), .pv (.int .i64 x10), .pv (.int .u32 (BitVec.toNat x11 : Nat)), .pv (.int .u32 (BitVec.toNat x12 : Nat)), .pv (.int .u32 (BitVec.toNat x13 : Nat))], .arr 0 1 (List.length x6) (encW o_i64 0 x6)]⟩) (ih (List.set x2 (Int.toNat (List.getD x6 (Int.toNat x18) 0)) (List.getD x2 (Int.toNat (List.getD x6 (Int.toNat x18) 0)) (([] : List Int)) ++ ([(((List.length x5) : Nat) : Int)]))) (iAdd x18 1) _ h) (by (first | rfl | (simp only [flow_solver_solve_1_l9_s, List.length_set]; done))))
     · exact pmore mixed lives 73 (by kernel_rfl) (pk <| pb c9 <| pn c10 <| pn c11 <| pk2 <| pb c12 <| pk8 <| pk2 <| pb c13 <| pk <| pz) (ih x2 (iAdd x18 1) _ h)
   · exact pmore mixed lives 73 (by kernel_rfl) (pk <| pb c9 <| pn c10 <| pn c11 <| pk2 <| pb c12 <| pk8 <| pk <| pz) (ih x2 (iAdd x18 1) _ h)
 · have h := Option.some.inj h; subst h
   exact plast mixed lives 73 (by kernel_rfl) (pk <| pb c9 <| pz) rfl
def flow_solver_solve_1_l9_F (F n : Nat) (x0 : List (BitVec 32)) (x1 : List (List Int)) (x2 : List (List Int)) (x3 : List Int) (x4 : List Bool) (x5 : List flow_Rule) (x6 : List Int) (x7 : List flow_Rule) (x8 : Int) (x9 : Int) (x10 : Int) (x11 : BitVec 32) (x12 : BitVec 32) (x13 : BitVec 32) (x14 : List flow_Rule) (x15 : Int) (x16 : Int) (x17 : Int) (x18 : Int) : Option ((List (List Int))) := match n with
  | 0 => none
  | n + 1 =>
    if (decide ((x18 : Int) < x17)) = true then
      if (decide ((0 : Int) ≤ x18)) = true then
        if (decide ((x18 : Int) < (((List.length x6) : Nat) : Int))) = true then
          if (decide (((List.getD x6 (Int.toNat x18) 0) : Int) ≥ 0)) = true then
            if (decide (((List.getD x6 (Int.toNat x18) 0) : Int) < ((((List.length x0) : Nat) : Int)))) = true then
              if (decide ((0 : Int) ≤ (List.getD x6 (Int.toNat x18) 0))) = true then
                if (decide (((List.getD x6 (Int.toNat x18) 0) : Int) < (((List.length x2) : Nat) : Int))) = true then
                  if (Nat.ble ((List.length (List.getD x2 (Int.toNat (List.getD x6 (Int.toNat x18) 0)) (([] : List Int))) + List.length ([(((List.length x5) : Nat) : Int)])) * 8) reach) = true then
                    flow_solver_solve_1_l9_F F n x0 x1 (List.set x2 (Int.toNat (List.getD x6 (Int.toNat x18) 0)) (List.getD x2 (Int.toNat (List.getD x6 (Int.toNat x18) 0)) (([] : List Int)) ++ ([(((List.length x5) : Nat) : Int)]))) x3 x4 x5 x6 x7 x8 x9 x10 x11 x12 x13 x14 x15 x16 x17 (iAdd x18 1)
                  else none
                else none
              else none
            else
              flow_solver_solve_1_l9_F F n x0 x1 x2 x3 x4 x5 x6 x7 x8 x9 x10 x11 x12 x13 x14 x15 x16 x17 (iAdd x18 1)
          else
            flow_solver_solve_1_l9_F F n x0 x1 x2 x3 x4 x5 x6 x7 x8 x9 x10 x11 x12 x13 x14 x15 x16 x17 (iAdd x18 1)
        else none
      else none
    else
      some x2
theorem flow_solver_solve_1_l9_le (F n : Nat) (x0 : List (BitVec 32)) (x1 : List (List Int)) (x2 : List (List Int)) (x3 : List Int) (x4 : List Bool) (x5 : List flow_Rule) (x6 : List Int) (x7 : List flow_Rule) (x8 : Int) (x9 : Int) (x10 : Int) (x11 : BitVec 32) (x12 : BitVec 32) (x13 : BitVec 32) (x14 : List flow_Rule) (x15 : Int) (x16 : Int) (x17 : Int) (x18 : Int) : Le (flow_solver_solve_1_l9_F F n x0 x1 x2 x3 x4 x5 x6 x7 x8 x9 x10 x11 x12 x13 x14 x15 x16 x17 x18) (flow_solver_solve_1_l9 x0 x1 x2 x3 x4 x5 x6 x7 x8 x9 x10 x11 x12 x13 x14 x15 x16 x17 x18) := by
  induction n generalizing x2 x18 with
  | zero => exact Le.none _
  | succ n ih => rw [flow_solver_solve_1_l9]; exact (Le.ite (Le.ite (Le.ite (Le.ite (Le.ite (Le.ite (Le.ite (Le.ite (ih (List.set x2 (Int.toNat (List.getD x6 (Int.toNat x18) 0)) (List.getD x2 (Int.toNat (List.getD x6 (Int.toNat x18) 0)) (([] : List Int)) ++ ([(((List.length x5) : Nat) : Int)]))) (iAdd x18 1)) (Le.none _)) (Le.none _)) (Le.none _)) (ih x2 (iAdd x18 1))) (ih x2 (iAdd x18 1))) (Le.none _)) (Le.none _)) (Le.refl _))
/-- alibi/flow.join -/
def flow_join (a : BitVec 32) (b : BitVec 32) : Option ((BitVec 32)) :=
  some (a ||| b)
theorem flow_join_ok (a : BitVec 32) (b : BitVec 32) (r : (BitVec 32)) (h : flow_join a b = some r) : Does Try.prog 75 [.pv (.int .u32 (BitVec.toNat a : Nat)), .pv (.int .u32 (BitVec.toNat b : Nat))] [] (.pv (.int .u32 (BitVec.toNat r : Nat)), []) := by
 unfold flow_join at h
 have h := Option.some.inj h; subst h
 exact pdoes mixed (L := lives) (by kernel_rfl) (pe (eff_int (k := .u32) (un_or .u32 rfl a b)) <| pz)
def flow_join_F (F : Nat) (a : BitVec 32) (b : BitVec 32) : Option ((BitVec 32)) :=
  some (a ||| b)
theorem flow_join_le (F : Nat) (a : BitVec 32) (b : BitVec 32) : Le (flow_join_F F a b) (flow_join a b) := (Le.refl _)
/-- (*alibi/flow.solver).apply -/
def flow_solver_apply_1 (l1 : List (BitVec 32)) (l2 : List (List Int)) (b0 : List flow_Rule) (r1 : flow_Rule) : Option (Bool × (List (BitVec 32))) :=
  if (decide ((0 : Int) ≤ r1.to_)) = true then
    if (decide ((r1.to_ : Int) < (((List.length l1) : Nat) : Int))) = true then
      bind (flow_Rule_Value r1 l1) fun v3 =>
      bind (flow_join (List.getD l1 (Int.toNat r1.to_) (0#32)) v3) fun v5 =>
      some ((List.getD (List.set l1 (Int.toNat r1.to_) v5) (Int.toNat r1.to_) (0#32)) != (List.getD l1 (Int.toNat r1.to_) (0#32)), List.set l1 (Int.toNat r1.to_) v5)
    else none
  else none
theorem flow_solver_apply_1_ok (l1 : List (BitVec 32)) (l2 : List (List Int)) (b0 : List flow_Rule) (r1 : flow_Rule) (r : Bool × (List (BitVec 32))) (h : flow_solver_apply_1 l1 l2 b0 r1 = some r) : Does Try.prog 110 [.ptr 0 [] 0 0, .agg [.pv (.int .i64 r1.to_), .pv (.int .i64 r1.from_), .pv (.int .i64 r1.also), .pv (.int .u32 (BitVec.toNat r1.keep : Nat)), .pv (.int .u32 (BitVec.toNat r1.if_ : Nat)), .pv (.int .u32 (BitVec.toNat r1.then_ : Nat))]] [.box 2 [.ms 1 [] 0 (List.length l1), .pv (.seq (List.length b0) (encP e_flow_Rule d_flow_Rule b0)), .ms 2 [] 0 (List.length l2), .pv (.fn 75)], .arr 2 1 (List.length l1) (encW o_u32 0#32 l1), .arr 2 1 (List.length l2) (encW o_26 ([] : List Int) l2)] (.pv (.bool r.1), [.box 2 [.ms 1 [] 0 (List.length r.2), .pv (.seq (List.length b0) (encP e_flow_Rule d_flow_Rule b0)), .ms 2 [] 0 (List.length l2), .pv (.fn 75)], .arr 2 1 (List.length r.2) (encW o_u32 0#32 r.2), .arr 2 1 (List.length l2) (encW o_26 ([] : List Int) l2)]) := by
 unfold flow_solver_apply_1 at h
 obtain ⟨c1, h⟩ := need_of h
 obtain ⟨c2, h⟩ := need_of h
 obtain ⟨v3, h4, h⟩ := bind_of h
 obtain ⟨v5, h6, h⟩ := bind_of h
 have h := Option.some.inj h; subst h
 refine Does.eq (pdoes mixed (L := lives) (r := (.pv (.bool ((List.getD (List.set l1 (Int.toNat r1.to_) v5) (Int.toNat r1.to_) (0#32)) != (List.getD l1 (Int.toNat r1.to_) (0#32)))), [.box 2 [.ms 1 [] 0 (List.length l1), .pv (.seq (List.length b0) (encP e_flow_Rule d_flow_Rule b0)), .ms 2 [] 0 (List.length l2), .pv (.fn 75)], .arr 2 1 (List.length l1) (encW o_u32 0#32 (List.set l1 (Int.toNat r1.to_) v5)), .arr 2 1 (List.length l2) (encW o_26 ([] : List Int) l2)])) (by kernel_rfl) (pk3 <| pn c1 <| pn c2 <| pk6 <| pb (whole_ok (List.length l1)) <| pc (Does.of (args' := [.agg [.pv (.int .i64 r1.to_), .pv (.int .i64 r1.from_), .pv (.int .i64 r1.also), .pv (.int .u32 (BitVec.toNat r1.keep : Nat)), .pv (.int .u32 (BitVec.toNat r1.if_ : Nat)), .pv (.int .u32 (BitVec.toNat r1.then_ : Nat))], .pv (.seq (List.length l1) (encP e_u32 (0#32) l1))]) (H' := []) (flow_Rule_Value_ok _ _ _ h4) (by (first | rfl | (simp only [List.length_set]; done)))) <| pk <| pc (flow_join_ok _ _ _ h6) <| pk <| pn c1 <| pn c2 <| pt <| pe (eff_hb (v := dead) (b := 1) (hb := []) (sc := []) (put_top o_u32 (0#32) 2 1 (List.length l1) l1 (Int.toNat r1.to_) 0 [.pv (.int .u32 (BitVec.toNat v5 : Nat))] v5 (by kernel_rfl) (by first | exact Nat.le_refl _ | exact Nat.zero_le _ | (simp only [decide_eq_true_eq, List.length_set, List.length_append, List.length_replicate, List.length_cons, List.length_nil, Nat.zero_add] at * <;> omega)))) <| pk2 <| pn c1 <| pn c2 <| pk <| pe (eff_bool (un_neq (List.getD (List.set l1 (Int.toNat r1.to_) v5) (Int.toNat r1.to_) (0#32)) (List.getD l1 (Int.toNat r1.to_) (0#32)))) <| pz)) ?_
 (first | rfl | (simp only [List.length_set]; done))
def flow_solver_apply_1_F (F : Nat) (l1 : List (BitVec 32)) (l2 : List (List Int)) (b0 : List flow_Rule) (r1 : flow_Rule) : Option (Bool × (List (BitVec 32))) :=
  if (decide ((0 : Int) ≤ r1.to_)) = true then
    if (decide ((r1.to_ : Int) < (((List.length l1) : Nat) : Int))) = true then
      bind (flow_Rule_Value_F F r1 l1) fun v3 =>
      bind (flow_join_F F (List.getD l1 (Int.toNat r1.to_) (0#32)) v3) fun v5 =>
      some ((List.getD (List.set l1 (Int.toNat r1.to_) v5) (Int.toNat r1.to_) (0#32)) != (List.getD l1 (Int.toNat r1.to_) (0#32)), List.set l1 (Int.toNat r1.to_) v5)
    else none
  else none
theorem flow_solver_apply_1_le (F : Nat) (l1 : List (BitVec 32)) (l2 : List (List Int)) (b0 : List flow_Rule) (r1 : flow_Rule) : Le (flow_solver_apply_1_F F l1 l2 b0 r1) (flow_solver_apply_1 l1 l2 b0 r1) := (Le.ite (Le.ite (Le.bind (flow_Rule_Value_le F _ _) fun v3 => (Le.bind (flow_join_le F _ _) fun v5 => (Le.refl _))) (Le.none _)) (Le.none _))
noncomputable def flow_solver_solve_1_l5_c : Code := sub (codeOf Try.prog 73) [1, 1, 1, 1, 0, 1, 0, 0]
def flow_solver_solve_1_l5 (x0 : List (BitVec 32)) (x1 : List (List Int)) (x2 : List (List Int)) (x3 : List Int) (x4 : List Bool) (x5 : List flow_Rule) (x6 : List flow_Rule) (x7 : List flow_Rule) (x8 : Int) (x9 : Int) : Option ((List (BitVec 32)) × (List (List Int)) × (List Int) × (List Bool) × (List flow_Rule)) :=
  if (decide ((x9 : Int) < x8)) = true then
    if (decide ((0 : Int) ≤ x9)) = true then
      if (decide ((x9 : Int) < ((List.length x7 : Nat) : Int))) = true then
        if (decide ((((List.getD x7 (Int.toNat x9) d_flow_Rule).to_) : Int) < 0)) = true then
          flow_solver_solve_1_l5 x0 x1 x2 x3 x4 x5 x6 x7 x8 (iAdd x9 1)
        else
          if (decide ((((List.getD x7 (Int.toNat x9) d_flow_Rule).to_) : Int) ≥ ((((List.length x0) : Nat) : Int)))) = true then
            flow_solver_solve_1_l5 x0 x1 x2 x3 x4 x5 x6 x7 x8 (iAdd x9 1)
          else
            bind (flow_solver_solve_1_l9 x0 x1 x2 x3 x4 x5 ([(List.getD x7 (Int.toNat x9) d_flow_Rule).from_, (List.getD x7 (Int.toNat x9) d_flow_Rule).also]) x6 ((List.getD x7 (Int.toNat x9) d_flow_Rule).to_) ((List.getD x7 (Int.toNat x9) d_flow_Rule).from_) ((List.getD x7 (Int.toNat x9) d_flow_Rule).also) ((List.getD x7 (Int.toNat x9) d_flow_Rule).keep) ((List.getD x7 (Int.toNat x9) d_flow_Rule).if_) ((List.getD x7 (Int.toNat x9) d_flow_Rule).then_) x7 x8 x9 ((((List.length ([(List.getD x7 (Int.toNat x9) d_flow_Rule).from_, (List.getD x7 (Int.toNat x9) d_flow_Rule).also])) : Nat) : Int)) 0) fun v17 =>
            if (Nat.ble ((List.length x5 + List.length ([List.getD x7 (Int.toNat x9) d_flow_Rule])) * 40) reach) = true then
              bind (flow_solver_apply_1 x0 v17 x6 (List.getD x7 (Int.toNat x9) d_flow_Rule)) fun v20 =>
              if v20.1 = true then
                bind (flow_todo_add x3 x4 ((List.getD x7 (Int.toNat x9) d_flow_Rule).to_)) fun v23 =>
                flow_solver_solve_1_l5 v20.2 x1 v17 v23.1 v23.2 (x5 ++ ([List.getD x7 (Int.toNat x9) d_flow_Rule])) x6 x7 x8 (iAdd x9 1)
              else
                flow_solver_solve_1_l5 v20.2 x1 v17 x3 x4 (x5 ++ ([List.getD x7 (Int.toNat x9) d_flow_Rule])) x6 x7 x8 (iAdd x9 1)
            else none
      else none
    else none
  else
    some (x0, x2, x3, x4, x5)
partial_fixpoint
noncomputable abbrev flow_solver_solve_1_l5_s (x0 : List (BitVec 32)) (x1 : List (List Int)) (x2 : List (List Int)) (x3 : List Int) (x4 : List Bool) (x5 : List flow_Rule) (x6 : List flow_Rule) (x7 : List flow_Rule) (x8 : Int) (x9 : Int) : St := ⟨.ptr 0 [] 0 0 :: dead :: dead :: .ptr 4 [] 0 0 :: .ms 7 [] 0 (List.length x5) :: (List.replicate 27 dead ++ (.pv (.seq (List.length x7) (encP e_flow_Rule d_flow_Rule x7)) :: .pv (.int .i64 x8) :: .pv (.int .i64 x9) :: List.replicate 113 dead)), [.box 2 [.ms 1 [] 0 (List.length x0), .pv (.seq (List.length x6) (encP e_flow_Rule d_flow_Rule x6)), .ms 3 [] 0 (List.length x2), .pv (.fn 75)], .arr 2 1 (List.length x0) (encW o_u32 0#32 x0), .arr 2 1 (List.length x1) (encW o_26 ([] : List Int) x1), .arr 0 1 (List.length x2) (encW o_26 ([] : List Int) x2), .box 0 [.ms 5 [] 0 (List.length x3), .ms 6 [] 0 (List.length x4)], .arr 0 1 (List.length x3) (encW o_i64 0 x3), .arr 0 1 (List.length x4) (encW o_bool false x4), .arr 0 6 (List.length x5) (encW o_flow_Rule d_flow_Rule x5)]⟩
noncomputable abbrev flow_solver_solve_1_l5_e (x0 : List (BitVec 32)) (x1 : List (List Int)) (x2 : List (List Int)) (x3 : List Int) (x4 : List Bool) (x5 : List flow_Rule) (x6 : List flow_Rule) (x7 : List flow_Rule) (x8 : Int) (x9 : Int) (r : (List (BitVec 32)) × (List (List Int)) × (List Int) × (List Bool) × (List flow_Rule)) : St := ⟨.ptr 0 [] 0 0 :: dead :: dead :: .ptr 4 [] 0 0 :: .ms 7 [] 0 (List.length r.2.2.2.2) :: List.replicate 143 dead, [.box 2 [.ms 1 [] 0 (List.length r.1), .pv (.seq (List.length x6) (encP e_flow_Rule d_flow_Rule x6)), .ms 3 [] 0 (List.length r.2.1), .pv (.fn 75)], .arr 2 1 (List.length r.1) (encW o_u32 0#32 r.1), .arr 2 1 (List.length x1) (encW o_26 ([] : List Int) x1), .arr 0 1 (List.length r.2.1) (encW o_26 ([] : List Int) r.2.1), .box 0 [.ms 5 [] 0 (List.length r.2.2.1), .ms 6 [] 0 (List.length r.2.2.2.1)], .arr 0 1 (List.length r.2.2.1) (encW o_i64 0 r.2.2.1), .arr 0 1 (List.length r.2.2.2.1) (encW o_bool false r.2.2.2.1), .arr 0 6 (List.length r.2.2.2.2) (encW o_flow_Rule d_flow_Rule r.2.2.2.2)]⟩
theorem flow_solver_solve_1_l5_ok (x0 : List (BitVec 32)) (x1 : List (List Int)) (x2 : List (List Int)) (x3 : List Int) (x4 : List Bool) (x5 : List flow_Rule) (x6 : List flow_Rule) (x7 : List flow_Rule) (x8 : Int) (x9 : Int) (r : (List (BitVec 32)) × (List (List Int)) × (List Int) × (List Bool) × (List flow_Rule)) (h : flow_solver_solve_1_l5 x0 x1 x2 x3 x4 x5 x6 x7 x8 x9 = some r) : Loops Try.prog flow_solver_solve_1_l5_c 3 (flow_solver_solve_1_l5_s x0 x1 x2 x3 x4 x5 x6 x7 x8 x9) (.exit 0) (flow_solver_solve_1_l5_e x0 x1 x2 x3 x4 x5 x6 x7 x8 x9 r) := by
 refine flow_solver_solve_1_l5.partial_correctness x1 x6 x7 x8 (fun x0 x2 x3 x4 x5 x9 r => Loops Try.prog flow_solver_solve_1_l5_c 3 (flow_solver_solve_1_l5_s x0 x1 x2 x3 x4 x5 x6 x7 x8 x9) (.exit 0) (flow_solver_solve_1_l5_e x0 x1 x2 x3 x4 x5 x6 x7 x8 x9 r)) ?_ x0 x2 x3 x4 x5 x9 r h
 clear h r x0 x2 x3 x4 x5 x9
 intro self ih x0 x2 x3 x4 x5 x9 r h
 rcases if_of h with ⟨c4, h⟩ | ⟨c4, h⟩
 · obtain ⟨c5, h⟩ := need_of h
   obtain ⟨c6, h⟩ := need_of h
   rcases if_of h with ⟨c7, h⟩ | ⟨c7, h⟩
   · exact pmore mixed lives 73 (by kernel_rfl) (pk <| pb c4 <| pn c5 <| pn c6 <| pk5 <| pb c7 <| pk8 <| pk2 <| pz) (ih x0 x2 x3 x4 x5 (iAdd x9 1) _ h)
   · rcases if_of h with ⟨c8, h⟩ | ⟨c8, h⟩
     · exact pmore mixed lives 73 (by kernel_rfl) (pk <| pb c4 <| pn c5 <| pn c6 <| pk5 <| pb c7 <| pk8 <| pk4 <| pb c8 <| pk <| pz) (ih x0 x2 x3 x4 x5 (iAdd x9 1) _ h)
     · obtain ⟨v17, h18, h⟩ := bind_of h
       obtain ⟨c19, h⟩ := need_of h
       obtain ⟨v20, h21, h⟩ := bind_of h
       rcases if_of h with ⟨c22, h⟩ | ⟨c22, h⟩
       · obtain ⟨v23, h24, h⟩ := bind_of h
         exact pmore mixed lives 73 (by kernel_rfl) (pk <| pb c4 <| pn c5 <| pn c6 <| pk5 <| pb c7 <| pk8 <| pk4 <| pb c8 <| pk2 <| pe (eff_lit o_i64 0 9 1 2 ([(List.getD x7 (Int.toNat x9) d_flow_Rule).from_, (List.getD x7 (Int.toNat x9) d_flow_Rule).also]) rfl [] []) <| pk <| pl (flow_solver_solve_1_l9_ok _ _ _ _ _ _ _ _ _ _ _ _ _ _ _ _ _ _ _ _ h18) <| pk <| pe (eff_lit o_flow_Rule d_flow_Rule 9 6 1 ([List.getD x7 (Int.toNat x9) d_flow_Rule]) rfl [] []) <| pb (whole_ok (List.length ([List.getD x7 (Int.toNat x9) d_flow_Rule]))) <| pn c19 <| pe (eff_app o_flow_Rule d_flow_Rule x5 ([List.getD x7 (Int.toNat x9) d_flow_Rule]) (x5 ++ ([List.getD x7 (Int.toNat x9) d_flow_Rule])) 7 6 (List.length x5) (List.length ([List.getD x7 (Int.toNat x9) d_flow_Rule])) (fun i => List.map AV.scal (encW o_flow_Rule d_flow_Rule ([List.getD x7 (Int.toNat x9) d_flow_Rule]) i)) (encW o_flow_Rule d_flow_Rule x5 (List.length x5)) [] [] [(7, false)] (by first | exact Nat.le_refl _ | exact Nat.zero_le _ | (simp only [decide_eq_true_eq, List.length_set, List.length_append, List.length_replicate, List.length_cons, List.length_nil, Nat.zero_add] at * <;> omega)) rfl (fun _ => by kernel_rfl) (congrArg o_flow_Rule (getD_ge d_flow_Rule (by first | exact Nat.le_refl _ | exact Nat.zero_le _ | (simp only [decide_eq_true_eq, List.length_set, List.length_append, List.length_replicate, List.length_cons, List.length_nil, Nat.zero_add] at * <;> omega)))) (by rw [List.take_of_length_le (by first | exact Nat.le_refl _ | exact Nat.zero_le _ | (simp only [decide_eq_true_eq, List.length_set, List.length_append, List.length_replicate, List.length_cons, List.length_nil, Nat.zero_add] at * <;> omega))])) <| pk <| pc (flow_solver_apply_1_ok _ _ _ _ _ h21) <| pk <| pb c22 <| pk <| pc (flow_todo_add_ok _ _ _ _ h24) <| pk2 <| pz) (ih v20.2 v17 v23.1 v23.2 (x5 ++ ([List.getD x7 (Int.toNat x9) d_flow_Rule])) (iAdd x9 1) _ h)
       · exact pmore mixed lives 73 (by kernel_rfl) (pk <| pb c4 <| pn c5 <| pn c6 <| pk5 <| pb c7 <| pk8 <| pk4 <| pb c8 <| pk2 <| pe (eff_lit o_i64 0 9 1 2 ([(List.getD x7 (Int.toNat x9) d_flow_Rule).from_, (List.getD x7 (Int.toNat x9) d_flow_Rule).also]) rfl [] []) <| pk <| pl (flow_solver_solve_1_l9_ok _ _ _ _ _ _ _ _ _ _ _ _ _ _ _ _ _ _ _ _ h18) <| pk <| pe (eff_lit o_flow_Rule d_flow_Rule 9 6 1 ([List.getD x7 (Int.toNat x9) d_flow_Rule]) rfl [] []) <| pb (whole_ok (List.length ([List.getD x7 (Int.toNat x9) d_flow_Rule]))) <| pn c19 <| pe (eff_app o_flow_Rule d_flow_Rule x5 ([List.getD x7 (Int.toNat x9) d_flow_Rule]) (x5 ++ ([List.getD x7 (Int.toNat x9) d_flow_Rule])) 7 6 (List.length x5) (List.length ([List.getD x7 (Int.toNat x9) d_flow_Rule])) (fun i => List.map AV.scal (encW o_flow_Rule d_flow_Rule ([List.getD x7 (Int.toNat x9) d_flow_Rule]) i)) (encW o_flow_Rule d_flow_Rule x5 (List.length x5)) [] [] [(7, false)] (by first | exact Nat.le_refl _ | exact Nat.zero_le _ | (simp only [decide_eq_true_eq, List.length_set, List.length_append, List.length_replicate, List.length_cons, List.length_nil, Nat.zero_add] at * <;> omega)) rfl (fun _ => by kernel_rfl) (congrArg o_flow_Rule (getD_ge d_flow_Rule (by first | exact Nat.le_refl _ | exact Nat.zero_le _ | (simp only [decide_eq_true_eq, List.length_set, List.length_append, List.length_replicate, List.length_cons, List.length_nil, Nat.zero_add] at * <;> omega)))) (by rw [List.take_of_length_le (by first | exact Nat.le_refl _ | exact Nat.zero_le _ | (simp only [decide_eq_true_eq, List.length_set, List.length_append, List.length_replicate, List.length_cons, List.length_nil, Nat.zero_add] at * <;> omega))])) <| pk <| pc (flow_solver_apply_1_ok _ _ _ _ _ h21) <| pk <| pb c22 <| pk <| pz) (ih v20.2 v17 x3 x4 (x5 ++ ([List.getD x7 (Int.toNat x9) d_flow_Rule])) (iAdd x9 1) _ h)
 · have h := Option.some.inj h; subst h
   exact plast mixed lives 73 (by kernel_rfl) (pk <| pb c4 <| pz) rfl
def flow_solver_solve_1_l5_F (F n : Nat) (x0 : List (BitVec 32)) (x1 : List (List Int)) (x2 : List (List Int)) (x3 : List Int) (x4 : List Bool) (x5 : List flow_Rule) (x6 : List flow_Rule) (x7 : List flow_Rule) (x8 : Int) (x9 : Int) : Option ((List (BitVec 32)) × (List (List Int)) × (List Int) × (List Bool) × (List flow_Rule)) := match n with
  | 0 => none
  | n + 1 =>
    if (decide ((x9 : Int) < x8)) = true then
      if (decide ((0 : Int) ≤ x9)) = true then
        if (decide ((x9 : Int) < ((List.length x7 : Nat) : Int))) = true then
          if (decide ((((List.getD x7 (Int.toNat x9) d_flow_Rule).to_) : Int) < 0)) = true then
            flow_solver_solve_1_l5_F F n x0 x1 x2 x3 x4 x5 x6 x7 x8 (iAdd x9 1)
          else
            if (decide ((((List.getD x7 (Int.toNat x9) d_flow_Rule).to_) : Int) ≥ ((((List.length x0) : Nat) : Int)))) = true then
              flow_solver_solve_1_l5_F F n x0 x1 x2 x3 x4 x5 x6 x7 x8 (iAdd x9 1)
            else
              bind (flow_solver_solve_1_l9_F F F x0 x1 x2 x3 x4 x5 ([(List.getD x7 (Int.toNat x9) d_flow_Rule).from_, (List.getD x7 (Int.toNat x9) d_flow_Rule).also]) x6 ((List.getD x7 (Int.toNat x9) d_flow_Rule).to_) ((List.getD x7 (Int.toNat x9) d_flow_Rule).from_) ((List.getD x7 (Int.toNat x9) d_flow_Rule).also) ((List.getD x7 (Int.toNat x9) d_flow_Rule).keep) ((List.getD x7 (Int.toNat x9) d_flow_Rule).if_) ((List.getD x7 (Int.toNat x9) d_flow_Rule).then_) x7 x8 x9 ((((List.length ([(List.getD x7 (Int.toNat x9) d_flow_Rule).from_, (List.getD x7 (Int.toNat x9) d_flow_Rule).also])) : Nat) : Int)) 0) fun v17 =>
              if (Nat.ble ((List.length x5 + List.length ([List.getD x7 (Int.toNat x9) d_flow_Rule])) * 40) reach) = true then
                bind (flow_solver_apply_1_F F x0 v17 x6 (List.getD x7 (Int.toNat x9) d_flow_Rule)) fun v20 =>
                if v20.1 = true then
                  bind (flow_todo_add_F F x3 x4 ((List.getD x7 (Int.toNat x9) d_flow_Rule).to_)) fun v23 =>
                  flow_solver_solve_1_l5_F F n v20.2 x1 v17 v23.1 v23.2 (x5 ++ ([List.getD x7 (Int.toNat x9) d_flow_Rule])) x6 x7 x8 (iAdd x9 1)
                else
                  flow_solver_solve_1_l5_F F n v20.2 x1 v17 x3 x4 (x5 ++ ([List.getD x7 (Int.toNat x9) d_flow_Rule])) x6 x7 x8 (iAdd x9 1)
              else none
        else none
      else none
    else
      some (x0, x2, x3, x4, x5)
theorem flow_solver_solve_1_l5_le (F n : Nat) (x0 : List (BitVec 32)) (x1 : List (List Int)) (x2 : List (List Int)) (x3 : List Int) (x4 : List Bool) (x5 : List flow_Rule) (x6 : List flow_Rule) (x7 : List flow_Rule) (x8 : Int) (x9 : Int) : Le (flow_solver_solve_1_l5_F F n x0 x1 x2 x3 x4 x5 x6 x7 x8 x9) (flow_solver_solve_1_l5 x0 x1 x2 x3 x4 x5 x6 x7 x8 x9) := by
  induction n generalizing x0 x2 x3 x4 x5 x9 with
  | zero => exact Le.none _
  | succ n ih => rw [flow_solver_solve_1_l5]; exact (Le.ite (Le.ite (Le.ite (Le.ite (ih x0 x2 x3 x4 x5 (iAdd x9 1)) (Le.ite (ih x0 x2 x3 x4 x5 (iAdd x9 1)) (Le.bind (flow_solver_solve_1_l9_le F F _ _ _ _ _ _ _ _ _ _ _ _ _ _ _ _ _ _ _) fun v17 => (Le.ite (Le.bind (flow_solver_apply_1_le F _ _ _ _) fun v20 => (Le.ite (Le.bind (flow_todo_add_le F _ _ _) fun v23 => (ih v20.2 v17 v23.1 v23.2 (x5 ++ ([List.getD x7 (Int.toNat x9) d_flow_Rule])) (iAdd x9 1))) (ih v20.2 v17 x3 x4 (x5 ++ ([List.getD x7 (Int.toNat x9) d_flow_Rule])) (iAdd x9 1)))) (Le.none _))))) (Le.none _)) (Le.none _)) (Le.refl _))
noncomputable def flow_solver_solve_1_l19_c : Code := sub (codeOf Try.prog 73) [1, 1, 1, 1, 1, 0, 1, 0, 0]
def flow_solver_solve_1_l19 (x0 : List (BitVec 32)) (x1 : List (List Int)) (x2 : List (List Int)) (x3 : List Int) (x4 : List Bool) (x5 : List flow_Rule) (x6 : List flow_Rule) (x7 : Int) (x8 : Int) : Option ((List Int) × (List Bool)) :=
  if (decide ((x8 : Int) < x7)) = true then
    bind (flow_todo_add x3 x4 x8) fun v28 =>
    flow_solver_solve_1_l19 x0 x1 x2 v28.1 v28.2 x5 x6 x7 (iAdd x8 1)
  else
    some (x3, x4)
partial_fixpoint
noncomputable abbrev flow_solver_solve_1_l19_s (x0 : List (BitVec 32)) (x1 : List (List Int)) (x2 : List (List Int)) (x3 : List Int) (x4 : List Bool) (x5 : List flow_Rule) (x6 : List flow_Rule) (x7 : Int) (x8 : Int) : St := ⟨.ptr 0 [] 0 0 :: dead :: dead :: .ptr 4 [] 0 0 :: .ms 7 [] 0 (List.length x5) :: (List.replicate 101 dead ++ (.pv (.int .i64 x7) :: .pv (.int .i64 x8) :: List.replicate 40 dead)), [.box 2 [.ms 1 [] 0 (List.length x0), .pv (.seq (List.length x6) (encP e_flow_Rule d_flow_Rule x6)), .ms 3 [] 0 (List.length x2), .pv (.fn 75)], .arr 2 1 (List.length x0) (encW o_u32 0#32 x0), .arr 2 1 (List.length x1) (encW o_26 ([] : List Int) x1), .arr 0 1 (List.length x2) (encW o_26 ([] : List Int) x2), .box 0 [.ms 5 [] 0 (List.length x3), .ms 6 [] 0 (List.length x4)], .arr 0 1 (List.length x3) (encW o_i64 0 x3), .arr 0 1 (List.length x4) (encW o_bool false x4), .arr 0 6 (List.length x5) (encW o_flow_Rule d_flow_Rule x5)]⟩
noncomputable abbrev flow_solver_solve_1_l19_e (x0 : List (BitVec 32)) (x1 : List (List Int)) (x2 : List (List Int)) (x3 : List Int) (x4 : List Bool) (x5 : List flow_Rule) (x6 : List flow_Rule) (x7 : Int) (x8 : Int) (r : (List Int) × (List Bool)) : St := ⟨.ptr 0 [] 0 0 :: dead :: dead :: .ptr 4 [] 0 0 :: .ms 7 [] 0 (List.length x5) :: List.replicate 143 dead, [.box 2 [.ms 1 [] 0 (List.length x0), .pv (.seq (List.length x6) (encP e_flow_Rule d_flow_Rule x6)), .ms 3 [] 0 (List.length x2), .pv (.fn 75)], .arr 2 1 (List.length x0) (encW o_u32 0#32 x0), .arr 2 1 (List.length x1) (encW o_26 ([] : List Int) x1), .arr 0 1 (List.length x2) (encW o_26 ([] : List Int) x2), .box 0 [.ms 5 [] 0 (List.length r.1), .ms 6 [] 0 (List.length r.2)], .arr 0 1 (List.length r.1) (encW o_i64 0 r.1), .arr 0 1 (List.length r.2) (encW o_bool false r.2), .arr 0 6 (List.length x5) (encW o_flow_Rule d_flow_Rule x5)]⟩
theorem flow_solver_solve_1_l19_ok (x0 : List (BitVec 32)) (x1 : List (List Int)) (x2 : List (List Int)) (x3 : List Int) (x4 : List Bool) (x5 : List flow_Rule) (x6 : List flow_Rule) (x7 : Int) (x8 : Int) (r : (List Int) × (List Bool)) (h : flow_solver_solve_1_l19 x0 x1 x2 x3 x4 x5 x6 x7 x8 = some r) : Loops Try.prog flow_solver_solve_1_l19_c 3 (flow_solver_solve_1_l19_s x0 x1 x2 x3 x4 x5 x6 x7 x8) (.exit 4) (flow_solver_solve_1_l19_e x0 x1 x2 x3 x4 x5 x6 x7 x8 r) := by
 refine flow_solver_solve_1_l19.partial_correctness x0 x1 x2 x5 x6 x7 (fun x3 x4 x8 r => Loops Try.prog flow_solver_solve_1_l19_c 3 (flow_solver_solve_1_l19_s x0 x1 x2 x3 x4 x5 x6 x7 x8) (.exit 4) (flow_solver_solve_1_l19_e x0 x1 x2 x3 x4 x5 x6 x7 x8 r)) ?_ x3 x4 x8 r h
 clear h r x3 x4 x8
 intro self ih x3 x4 x8 r h
 rcases if_of h with ⟨c27, h⟩ | ⟨c27, h⟩
 · obtain ⟨v28, h29, h⟩ := bind_of h
   exact pmore mixed lives 73 (by kernel_rfl) (pk <| pb c27 <| pc (flow_todo_add_ok _ _ _ _ h29) <| pk2 <| pz) (ih v28.1 v28.2 (iAdd x8 1) _ h)
 · have h := Option.some.inj h; subst h
   exact plast mixed lives 73 (by kernel_rfl) (pk <| pb c27 <| pz) rfl
def flow_solver_solve_1_l19_F (F n : Nat) (x0 : List (BitVec 32)) (x1 : List (List Int)) (x2 : List (List Int)) (x3 : List Int) (x4 : List Bool) (x5 : List flow_Rule) (x6 : List flow_Rule) (x7 : Int) (x8 : Int) : Option ((List Int) × (List Bool)) := match n with
  | 0 => none
  | n + 1 =>
    if (decide ((x8 : Int) < x7)) = true then
      bind (flow_todo_add_F F x3 x4 x8) fun v28 =>
      flow_solver_solve_1_l19_F F n x0 x1 x2 v28.1 v28.2 x5 x6 x7 (iAdd x8 1)
    else
      some (x3, x4)
theorem flow_solver_solve_1_l19_le (F n : Nat) (x0 : List (BitVec 32)) (x1 : List (List Int)) (x2 : List (List Int)) (x3 : List Int) (x4 : List Bool) (x5 : List flow_Rule) (x6 : List flow_Rule) (x7 : Int) (x8 : Int) : Le (flow_solver_solve_1_l19_F F n x0 x1 x2 x3 x4 x5 x6 x7 x8) (flow_solver_solve_1_l19 x0 x1 x2 x3 x4 x5 x6 x7 x8) := by
  induction n generalizing x3 x4 x8 with
  | zero => exact Le.none _
  | succ n ih => rw [flow_solver_solve_1_l19]; exact (Le.ite (Le.bind (flow_todo_add_le F _ _ _) fun v28 => (ih v28.1 v28.2 (iAdd x8 1))) (Le.refl _))
noncomputable def flow_solver_solve_1_l25_c : Code := sub (codeOf Try.prog 73) [1, 1, 1, 1, 1, 1, 0, 0, 0, 1, 0, 1, 0, 0]
def flow_solver_solve_1_l25 (x0 : List (BitVec 32)) (x1 : List (List Int)) (x2 : List (List Int)) (x3 : List Int) (x4 : List Bool) (x5 : List flow_Rule) (x6 : List flow_Rule) (x7 : Nat) (x8 : Int) (x9 : Int) : Option ((List (BitVec 32)) × (List Int) × (List Bool)) :=
  if (decide ((x9 : Int) < x8)) = true then
    if (decide ((0 : Int) ≤ x9)) = true then
      if (decide ((x9 : Int) < (((List.length (List.getD x2 x7 (([] : List Int)))) : Nat) : Int))) = true then
        if (decide ((0 : Int) ≤ (List.getD (List.getD x2 x7 (([] : List Int))) (Int.toNat x9) 0))) = true then
          if (decide (((List.getD (List.getD x2 x7 (([] : List Int))) (Int.toNat x9) 0) : Int) < (((List.length x5) : Nat) : Int))) = true then
            bind (flow_solver_apply_1 x0 x2 x6 (List.getD x5 (Int.toNat (List.getD (List.getD x2 x7 (([] : List Int))) (Int.toNat x9) 0)) d_flow_Rule)) fun v44 =>
            if v44.1 = true then
              bind (flow_todo_add x3 x4 ((List.getD x5 (Int.toNat (List.getD (List.getD x2 x7 (([] : List Int))) (Int.toNat x9) 0)) d_flow_Rule).to_)) fun v47 =>
              flow_solver_solve_1_l25 v44.2 x1 x2 v47.1 v47.2 x5 x6 x7 x8 (iAdd x9 1)
            else
              flow_solver_solve_1_l25 v44.2 x1 x2 x3 x4 x5 x6 x7 x8 (iAdd x9 1)
          else none
        else none
      else none
    else none
  else
    some (x0, x3, x4)
partial_fixpoint
noncomputable abbrev flow_solver_solve_1_l25_s (x0 : List (BitVec 32)) (x1 : List (List Int)) (x2 : List (List Int)) (x3 : List Int) (x4 : List Bool) (x5 : List flow_Rule) (x6 : List flow_Rule) (x7 : Nat) (x8 : Int) (x9 : Int) : St := ⟨.ptr 0 [] 0 0 :: dead :: dead :: .ptr 4 [] 0 0 :: .ms 7 [] 0 (List.length x5) :: (List.replicate 119 dead ++ (.ms 3 [(x7, 0)] 0 (List.length (List.getD x2 x7 (([] : List Int)))) :: .pv (.int .i64 x8) :: .pv (.int .i64 x9) :: List.replicate 21 dead)), [.box 2 [.ms 1 [] 0 (List.length x0), .pv (.seq (List.length x6) (encP e_flow_Rule d_flow_Rule x6)), .ms 3 [] 0 (List.length x2), .pv (.fn 75)], .arr 2 1 (List.length x0) (encW o_u32 0#32 x0), .arr 2 1 (List.length x1) (encW o_26 ([] : List Int) x1), .arr 0 1 (List.length x2) (encW o_26 ([] : List Int) x2), .box 0 [.ms 5 [] 0 (List.length x3), .ms 6 [] 0 (List.length x4)], .arr 0 1 (List.length x3) (encW o_i64 0 x3), .arr 0 1 (List.length x4) (encW o_bool false x4), .arr 0 6 (List.length x5) (encW o_flow_Rule d_flow_Rule x5)]⟩
noncomputable abbrev flow_solver_solve_1_l25_e (x0 : List (BitVec 32)) (x1 : List (List Int)) (x2 : List (List Int)) (x3 : List Int) (x4 : List Bool) (x5 : List flow_Rule) (x6 : List flow_Rule) (x7 : Nat) (x8 : Int) (x9 : Int) (r : (List (BitVec 32)) × (List Int) × (List Bool)) : St := ⟨.ptr 0 [] 0 0 :: dead :: dead :: .ptr 4 [] 0 0 :: .ms 7 [] 0 (List.length x5) :: List.replicate 143 dead, [.box 2 [.ms 1 [] 0 (List.length r.1), .pv (.seq (List.length x6) (encP e_flow_Rule d_flow_Rule x6)), .ms 3 [] 0 (List.length x2), .pv (.fn 75)], .arr 2 1 (List.length r.1) (encW o_u32 0#32 r.1), .arr 2 1 (List.length x1) (encW o_26 ([] : List Int) x1), .arr 0 1 (List.length x2) (encW o_26 ([] : List Int) x2), .box 0 [.ms 5 [] 0 (List.length r.2.1), .ms 6 [] 0 (List.length r.2.2)], .arr 0 1 (List.length r.2.1) (encW o_i64 0 r.2.1), .arr 0 1 (List.length r.2.2) (encW o_bool false r.2.2), .arr 0 6 (List.length x5) (encW o_flow_Rule d_flow_Rule x5)]⟩
theorem flow_solver_solve_1_l25_ok (x0 : List (BitVec 32)) (x1 : List (List Int)) (x2 : List (List Int)) (x3 : List Int) (x4 : List Bool) (x5 : List flow_Rule) (x6 : List flow_Rule) (x7 : Nat) (x8 : Int) (x9 : Int) (r : (List (BitVec 32)) × (List Int) × (List Bool)) (h : flow_solver_solve_1_l25 x0 x1 x2 x3 x4 x5 x6 x7 x8 x9 = some r) : Loops Try.prog flow_solver_solve_1_l25_c 3 (flow_solver_solve_1_l25_s x0 x1 x2 x3 x4 x5 x6 x7 x8 x9) (.exit 8) (flow_solver_solve_1_l25_e x0 x1 x2 x3 x4 x5 x6 x7 x8 x9 r) := by
 refine flow_solver_solve_1_l25.partial_correctness x1 x2 x5 x6 x7 x8 (fun x0 x3 x4 x9 r => Loops Try.prog flow_solver_solve_1_l25_c 3 (flow_solver_solve_1_l25_s x0 x1 x2 x3 x4 x5 x6 x7 x8 x9) (.exit 8) (flow_solver_solve_1_l25_e x0 x1 x2 x3 x4 x5 x6 x7 x8 x9 r)) ?_ x0 x3 x4 x9 r h
 clear h r x0 x3 x4 x9
 intro self ih x0 x3 x4 x9 r h
 rcases if_of h with ⟨c39, h⟩ | ⟨c39, h⟩
 · obtain ⟨c40, h⟩ := need_of h
   obtain ⟨c41, h⟩ := need_of h
   obtain ⟨c42, h⟩ := need_of h
   obtain ⟨c43, h⟩ := need_of h
   obtain ⟨v44, h45, h⟩ := bind_of h
   rcases if_of h with ⟨c46, h⟩ | ⟨c46, h⟩
   · obtain ⟨v47, h48, h⟩ := bind_of h
     exact pmore mixed lives 73 (by kernel_rfl) (pk <| pb c39 <| pn c40 <| pn c41 <| pk <| pn c42 <| pn c43 <| pk <| pc (flow_solver_apply_1_ok _ _ _ _ _ h45) <| pk <| pb c46 <| pn c42 <| pn c43 <| pk <| pc (flow_todo_add_ok _ _ _ _ h48) <| pk2 <| pz) (ih v44.2 v47.1 v47.2 (iAdd x9 1) _ h)
   · exact pmore mixed lives 73 (by kernel_rfl) (pk <| pb c39 <| pn c40 <| pn c41 <| pk <| pn c42 <| pn c43 <| pk <| pc (flow_solver_apply_1_ok _ _ _ _ _ h45) <| pk <| pb c46 <| pk <| pz) (ih v44.2 x3 x4 (iAdd x9 1) _ h)
 · have h := Option.some.inj h; subst h
   exact plast mixed lives 73 (by kernel_rfl) (pk <| pb c39 <| pz) rfl
def flow_solver_solve_1_l25_F (F n : Nat) (x0 : List (BitVec 32)) (x1 : List (List Int)) (x2 : List (List Int)) (x3 : List Int) (x4 : List Bool) (x5 : List flow_Rule) (x6 : List flow_Rule) (x7 : Nat) (x8 : Int) (x9 : Int) : Option ((List (BitVec 32)) × (List Int) × (List Bool)) := match n with
  | 0 => none
  | n + 1 =>
    if (decide ((x9 : Int) < x8)) = true then
      if (decide ((0 : Int) ≤ x9)) = true then
        if (decide ((x9 : Int) < (((List.length (List.getD x2 x7 (([] : List Int)))) : Nat) : Int))) = true then
          if (decide ((0 : Int) ≤ (List.getD (List.getD x2 x7 (([] : List Int))) (Int.toNat x9) 0))) = true then
            if (decide (((List.getD (List.getD x2 x7 (([] : List Int))) (Int.toNat x9) 0) : Int) < (((List.length x5) : Nat) : Int))) = true then
              bind (flow_solver_apply_1_F F x0 x2 x6 (List.getD x5 (Int.toNat (List.getD (List.getD x2 x7 (([] : List Int))) (Int.toNat x9) 0)) d_flow_Rule)) fun v44 =>
              if v44.1 = true then
                bind (flow_todo_add_F F x3 x4 ((List.getD x5 (Int.toNat (List.getD (List.getD x2 x7 (([] : List Int))) (Int.toNat x9) 0)) d_flow_Rule).to_)) fun v47 =>
                flow_solver_solve_1_l25_F F n v44.2 x1 x2 v47.1 v47.2 x5 x6 x7 x8 (iAdd x9 1)
              else
                flow_solver_solve_1_l25_F F n v44.2 x1 x2 x3 x4 x5 x6 x7 x8 (iAdd x9 1)
            else none
          else none
        else none
      else none
    else
      some (x0, x3, x4)
theorem flow_solver_solve_1_l25_le (F n : Nat) (x0 : List (BitVec 32)) (x1 : List (List Int)) (x2 : List (List Int)) (x3 : List Int) (x4 : List Bool) (x5 : List flow_Rule) (x6 : List flow_Rule) (x7 : Nat) (x8 : Int) (x9 : Int) : Le (flow_solver_solve_1_l25_F F n x0 x1 x2 x3 x4 x5 x6 x7 x8 x9) (flow_solver_solve_1_l25 x0 x1 x2 x3 x4 x5 x6 x7 x8 x9) := by
  induction n generalizing x0 x3 x4 x9 with
  | zero => exact Le.none _
  | succ n ih => rw [flow_solver_solve_1_l25]; exact (Le.ite (Le.ite (Le.ite (Le.ite (Le.ite (Le.bind (flow_solver_apply_1_le F _ _ _ _) fun v44 => (Le.ite (Le.bind (flow_todo_add_le F _ _ _) fun v47 => (ih v44.2 v47.1 v47.2 (iAdd x9 1))) (ih v44.2 x3 x4 (iAdd x9 1)))) (Le.none _)) (Le.none _)) (Le.none _)) (Le.none _)) (Le.refl _))
noncomputable def flow_solver_solve_1_l23_c : Code := sub (codeOf Try.prog 73) [1, 1, 1, 1, 1, 1, 0, 0, 0]
def flow_solver_solve_1_l23 (x0 : List (BitVec 32)) (x1 : List (List Int)) (x2 : List (List Int)) (x3 : List Int) (x4 : List Bool) (x5 : List flow_Rule) (x6 : List flow_Rule) : Option ((List (BitVec 32))) :=
  bind (flow_todo_Len x3 x4) fun v32 =>
  if (decide ((v32 : Int) > 0)) = true then
    bind (flow_todo_next x3 x4) fun v35 =>
    if (decide ((0 : Int) ≤ v35.1)) = true then
      if (decide ((v35.1 : Int) < (((List.length x2) : Nat) : Int))) = true then
        bind (flow_solver_solve_1_l25 x0 x1 x2 v35.2.1 v35.2.2 x5 x6 (Int.toNat v35.1) ((((List.length (List.getD x2 (Int.toNat v35.1) (([] : List Int)))) : Nat) : Int)) 0) fun v49 =>
        flow_solver_solve_1_l23 v49.1 x1 x2 v49.2.1 v49.2.2 x5 x6
      else none
    else none
  else
    some x0
partial_fixpoint
noncomputable abbrev flow_solver_solve_1_l23_s (x0 : List (BitVec 32)) (x1 : List (List Int)) (x2 : List (List Int)) (x3 : List Int) (x4 : List Bool) (x5 : List flow_Rule) (x6 : List flow_Rule) : St := ⟨.ptr 0 [] 0 0 :: dead :: dead :: .ptr 4 [] 0 0 :: .ms 7 [] 0 (List.length x5) :: List.replicate 143 dead, [.box 2 [.ms 1 [] 0 (List.length x0), .pv (.seq (List.length x6) (encP e_flow_Rule d_flow_Rule x6)), .ms 3 [] 0 (List.length x2), .pv (.fn 75)], .arr 2 1 (List.length x0) (encW o_u32 0#32 x0), .arr 2 1 (List.length x1) (encW o_26 ([] : List Int) x1), .arr 0 1 (List.length x2) (encW o_26 ([] : List Int) x2), .box 0 [.ms 5 [] 0 (List.length x3), .ms 6 [] 0 (List.length x4)], .arr 0 1 (List.length x3) (encW o_i64 0 x3), .arr 0 1 (List.length x4) (encW o_bool false x4), .arr 0 6 (List.length x5) (encW o_flow_Rule d_flow_Rule x5)]⟩
noncomputable abbrev flow_solver_solve_1_l23_e (x0 : List (BitVec 32)) (x1 : List (List Int)) (x2 : List (List Int)) (x3 : List Int) (x4 : List Bool) (x5 : List flow_Rule) (x6 : List flow_Rule) (r : (List (BitVec 32))) : St := ⟨.ptr 0 [] 0 0 :: List.replicate 147 dead, [.box 2 [.ms 1 [] 0 (List.length r), .pv (.seq (List.length x6) (encP e_flow_Rule d_flow_Rule x6)), .ms 3 [] 0 (List.length x2), .pv (.fn 75)], .arr 2 1 (List.length r) (encW o_u32 0#32 r), .arr 2 1 (List.length x1) (encW o_26 ([] : List Int) x1), .arr 0 1 (List.length x2) (encW o_26 ([] : List Int) x2)]⟩
theorem flow_solver_solve_1_l23_ok (x0 : List (BitVec 32)) (x1 : List (List Int)) (x2 : List (List Int)) (x3 : List Int) (x4 : List Bool) (x5 : List flow_Rule) (x6 : List flow_Rule) (r : (List (BitVec 32))) (h : flow_solver_solve_1_l23 x0 x1 x2 x3 x4 x5 x6 = some r) : Loops Try.prog flow_solver_solve_1_l23_c 3 (flow_solver_solve_1_l23_s x0 x1 x2 x3 x4 x5 x6) (.exit 6) (flow_solver_solve_1_l23_e x0 x1 x2 x3 x4 x5 x6 r) := by
 refine flow_solver_solve_1_l23.partial_correctness x1 x2 x5 x6 (fun x0 x3 x4 r => Loops Try.prog flow_solver_solve_1_l23_c 3 (flow_solver_solve_1_l23_s x0 x1 x2 x3 x4 x5 x6) (.exit 6) (flow_solver_solve_1_l23_e x0 x1 x2 x3 x4 x5 x6 r)) ?_ x0 x3 x4 r h
 clear h r x0 x3 x4
 intro self ih x0 x3 x4 r h
 obtain ⟨v32, h33, h⟩ := bind_of h
 rcases if_of h with ⟨c34, h⟩ | ⟨c34, h⟩
 · obtain ⟨v35, h36, h⟩ := bind_of h
   obtain ⟨c37, h⟩ := need_of h
   obtain ⟨c38, h⟩ := need_of h
   obtain ⟨v49, h50, h⟩ := bind_of h
   exact pmore mixed lives 73 (by kernel_rfl) (pc (flow_todo_Len_ok _ _ _ h33) <| pk2 <| pb c34 <| pk <| pc (flow_todo_next_ok _ _ _ h36) <| pk <| pn c37 <| pn c38 <| pk2 <| pl (flow_solver_solve_1_l25_ok _ _ _ _ _ _ _ _ _ _ _ h50) <| pz) (ih v49.1 v49.2.1 v49.2.2 _ h)
 · have h := Option.some.inj h; subst h
   exact plast mixed lives 73 (by kernel_rfl) (pc (flow_todo_Len_ok _ _ _ h33) <| pk2 <| pb c34 <| pz) rfl
def flow_solver_solve_1_l23_F (F n : Nat) (x0 : List (BitVec 32)) (x1 : List (List Int)) (x2 : List (List Int)) (x3 : List Int) (x4 : List Bool) (x5 : List flow_Rule) (x6 : List flow_Rule) : Option ((List (BitVec 32))) := match n with
  | 0 => none
  | n + 1 =>
    bind (flow_todo_Len_F F x3 x4) fun v32 =>
    if (decide ((v32 : Int) > 0)) = true then
      bind (flow_todo_next_F F x3 x4) fun v35 =>
      if (decide ((0 : Int) ≤ v35.1)) = true then
        if (decide ((v35.1 : Int) < (((List.length x2) : Nat) : Int))) = true then
          bind (flow_solver_solve_1_l25_F F F x0 x1 x2 v35.2.1 v35.2.2 x5 x6 (Int.toNat v35.1) ((((List.length (List.getD x2 (Int.toNat v35.1) (([] : List Int)))) : Nat) : Int)) 0) fun v49 =>
          flow_solver_solve_1_l23_F F n v49.1 x1 x2 v49.2.1 v49.2.2 x5 x6
        else none
      else none
    else
      some x0
theorem flow_solver_solve_1_l23_le (F n : Nat) (x0 : List (BitVec 32)) (x1 : List (List Int)) (x2 : List (List Int)) (x3 : List Int) (x4 : List Bool) (x5 : List flow_Rule) (x6 : List flow_Rule) : Le (flow_solver_solve_1_l23_F F n x0 x1 x2 x3 x4 x5 x6) (flow_solver_solve_1_l23 x0 x1 x2 x3 x4 x5 x6) := by
  induction n generalizing x0 x3 x4 with
  | zero => exact Le.none _
  | succ n ih => rw [flow_solver_solve_1_l23]; exact (Le.bind (flow_todo_Len_le F _ _) fun v32 => (Le.ite (Le.bind (flow_todo_next_le F _ _) fun v35 => (Le.ite (Le.ite (Le.bind (flow_solver_solve_1_l25_le F F _ _ _ _ _ _ _ _ _ _) fun v49 => (ih v49.1 v49.2.1 v49.2.2)) (Le.none _)) (Le.none _))) (Le.refl _)))
/-- (*alibi/flow.solver).solve -/
def flow_solver_solve_1 (l1 : List (BitVec 32)) (l2 : List (List Int)) (b0 : List flow_Rule) : Option ((List (BitVec 32)) × (List (List Int))) :=
  if (decide ((0 : Int) ≤ ((((List.length l1) : Nat) : Int)))) = true then
    if (decide ((((((List.length l1) : Nat) : Int)) : Int) * ((1 : Nat) : Int) ≤ ((reach : Nat) : Int))) = true then
      if (decide ((((((List.length l1) : Nat) : Int)) : Int) * ((24 : Nat) : Int) ≤ ((reach : Nat) : Int))) = true then
        bind (flow_solver_solve_1_l5 l1 l2 (List.replicate (Int.toNat ((((List.length l1) : Nat) : Int))) (([] : List Int))) (([] : List Int)) (List.replicate (Int.toNat ((((List.length l1) : Nat) : Int))) false) (([] : List flow_Rule)) b0 b0 (((List.length b0 : Nat) : Int)) 0) fun v25 =>
        bind (flow_solver_solve_1_l19 v25.1 l2 v25.2.1 v25.2.2.1 v25.2.2.2.1 v25.2.2.2.2 b0 ((((List.length v25.1) : Nat) : Int)) 0) fun v30 =>
        bind (flow_solver_solve_1_l23 v25.1 l2 v25.2.1 v30.1 v30.2 v25.2.2.2.2 b0) fun v51 =>
        some (v51, v25.2.1)
      else none
    else none
  else none
theorem flow_solver_solve_1_ok (l1 : List (BitVec 32)) (l2 : List (List Int)) (b0 : List flow_Rule) (r : (List (BitVec 32)) × (List (List Int))) (h : flow_solver_solve_1 l1 l2 b0 = some r) : Does Try.prog 73 [.ptr 0 [] 0 0] [.box 2 [.ms 1 [] 0 (List.length l1), .pv (.seq (List.length b0) (encP e_flow_Rule d_flow_Rule b0)), .ms 2 [] 0 (List.length l2), .pv (.fn 75)], .arr 2 1 (List.length l1) (encW o_u32 0#32 l1), .arr 2 1 (List.length l2) (encW o_26 ([] : List Int) l2)] (.ms 1 [] 0 (List.length r.1), [.box 2 [.ms 1 [] 0 (List.length r.1), .pv (.seq (List.length b0) (encP e_flow_Rule d_flow_Rule b0)), .ms 3 [] 0 (List.length r.2), .pv (.fn 75)], .arr 2 1 (List.length r.1) (encW o_u32 0#32 r.1), .arr 2 1 (List.length l2) (encW o_26 ([] : List Int) l2), .arr 0 1 (List.length r.2) (encW o_26 ([] : List Int) r.2)]) := by
 unfold flow_solver_solve_1 at h
 obtain ⟨c1, h⟩ := need_of h
 obtain ⟨c2, h⟩ := need_of h
 obtain ⟨c3, h⟩ := need_of h
 obtain ⟨v25, h26, h⟩ := bind_of h
 obtain ⟨v30, h31, h⟩ := bind_of h
 obtain ⟨v51, h52, h⟩ := bind_of h
 have h := Option.some.inj h; subst h
 exact pdoes mixed (L := lives) (by kernel_rfl) (pk2 <| pn c1 <| pn ((decide_eq_true rfl) : (decide ((((((List.length l1) : Nat) : Int)) : Int) = ((((List.length l1) : Nat) : Int)))) = true) <| pn c2 <| pe (eff_make o_bool false 3 1 (Int.toNat ((((List.length l1) : Nat) : Int)))) <| pk4 <| pn c1 <| pn ((decide_eq_true rfl) : (decide ((((((List.length l1) : Nat) : Int)) : Int) = ((((List.length l1) : Nat) : Int)))) = true) <| pn c3 <| pe (eff_make o_26 (([] : List Int)) 6 1 (Int.toNat ((((List.length l1) : Nat) : Int)))) <| pk3 <| pl (Loops.of (s1 := ⟨.ptr 0 [] 0 0 :: dead :: dead :: .ptr 4 [] 0 0 :: .ms 7 [] 0 (List.length ([] : List flow_Rule)) :: (List.replicate 27 dead ++ (.pv (.seq (List.length b0) (encP e_flow_Rule d_flow_Rule b0)) :: .pv (.int .i64 (((List.length b0 : Nat) : Int))) :: .pv (.int .i64 0) :: List.replicate 113 dead)), [.box 2 [.ms 1 [] 0 (List.length l1), .pv (.seq (List.length b0) (encP e_flow_Rule d_flow_Rule b0)), .ms 3 [] 0 (List.length (List.replicate (Int.toNat ((((List.length l1) : Nat) : Int))) (([] : List Int)))), .pv (.fn 75)], .arr 2 1 (List.length l1) (encW o_u32 0#32 l1), .arr 2 1 (List.length l2) (encW o_26 ([] : List Int) l2), .arr 0 1 (List.length (List.replicate (Int.toNat ((((List.length l1) : Nat) : Int))) (([] : List Int)))) (encW o_26 ([] : List Int) (List.replicate (Int.toNat ((((List.length l1) : Nat) : Int))) (([] : List Int)))), .box 0 [.ms 5 [] 0 (List.length ([] : List Int)), .ms 6 [] 0 (List.length (List.replicate (Int.toNat ((((List.length l1) : Nat) : Int))) false))], .arr 0 1 (List.length ([] : List Int)) (encW o_i64 0 (([] : List Int))), .arr 0 1 (List.length (List.replicate (Int.toNat ((((List.length l1) : Nat) : Int))) false)) (encW o_bool false (List.replicate (Int.toNat ((((List.length l1) : Nat) : Int))) false)), .arr 0 6 (List.length ([] : List flow_Rule)) (encW o_flow_Rule d_flow_Rule (([] : List flow_Rule)))]⟩) (flow_solver_solve_1_l5_ok _ _ _ _ _ _ _ _ _ _ _ h26) (by (first | rfl | (simp only [flow_solver_solve_1_l5_s, List.length_set]; done)))) <| pk2 <| pl (flow_solver_solve_1_l19_ok _ _ _ _ _ _ _ _ _ _ h31) <| pl (flow_solver_solve_1_l23_ok _ _ _ _ _ _ _ _ h52) <| pk <| pz)
def flow_solver_solve_1_F (F : Nat) (l1 : List (BitVec 32)) (l2 : List (List Int)) (b0 : List flow_Rule) : Option ((List (BitVec 32)) × (List (List Int))) :=
  if (decide ((0 : Int) ≤ ((((List.length l1) : Nat) : Int)))) = true then
    if (decide ((((((List.length l1) : Nat) : Int)) : Int) * ((1 : Nat) : Int) ≤ ((reach : Nat) : Int))) = true then
      if (decide ((((((List.length l1) : Nat) : Int)) : Int) * ((24 : Nat) : Int) ≤ ((reach : Nat) : Int))) = true then
        bind (flow_solver_solve_1_l5_F F F l1 l2 (List.replicate (Int.toNat ((((List.length l1) : Nat) : Int))) (([] : List Int))) (([] : List Int)) (List.replicate (Int.toNat ((((List.length l1) : Nat) : Int))) false) (([] : List flow_Rule)) b0 b0 (((List.length b0 : Nat) : Int)) 0) fun v25 =>
        bind (flow_solver_solve_1_l19_F F F v25.1 l2 v25.2.1 v25.2.2.1 v25.2.2.2.1 v25.2.2.2.2 b0 ((((List.length v25.1) : Nat) : Int)) 0) fun v30 =>
        bind (flow_solver_solve_1_l23_F F F v25.1 l2 v25.2.1 v30.1 v30.2 v25.2.2.2.2 b0) fun v51 =>
        some (v51, v25.2.1)
      else none
    else none
  else none
theorem flow_solver_solve_1_le (F : Nat) (l1 : List (BitVec 32)) (l2 : List (List Int)) (b0 : List flow_Rule) : Le (flow_solver_solve_1_F F l1 l2 b0) (flow_solver_solve_1 l1 l2 b0) := (Le.ite (Le.ite (Le.ite (Le.bind (flow_solver_solve_1_l5_le F F _ _ _ _ _ _ _ _ _ _) fun v25 => (Le.bind (flow_solver_solve_1_l19_le F F _ _ _ _ _ _ _ _ _) fun v30 => (Le.bind (flow_solver_solve_1_l23_le F F _ _ _ _ _ _ _) fun v51 => (Le.refl _)))) (Le.none _)) (Le.none _)) (Le.none _))
/-- alibi/flow.Least -/
def flow_Least (n1 : Int) (rules : List flow_Rule) : Option ((List (BitVec 32))) :=
  bind (sets_All 0) fun v1 =>
  bind (flow_start n1 v1) fun v3 =>
  bind (flow_solver_solve_1 v3 (([] : List (List Int))) rules) fun v5 =>
  some v5.1
theorem flow_Least_ok (n1 : Int) (rules : List flow_Rule) (r : (List (BitVec 32))) (h : flow_Least n1 rules = some r) : Does Try.prog 37 [.pv (.int .i64 n1), .pv (.seq (List.length rules) (encP e_flow_Rule d_flow_Rule rules))] [] (.ms 0 [] 0 (List.length r), [.arr 0 1 (List.length r) (encW o_u32 0#32 r)]) := by
 unfold flow_Least at h
 obtain ⟨v1, h2, h⟩ := bind_of h
 obtain ⟨v3, h4, h⟩ := bind_of h
 obtain ⟨v5, h6, h⟩ := bind_of h
 have h := Option.some.inj h; subst h
 exact pdoes mixed (L := lives) (by kernel_rfl) (pc (sets_All_ok _ _ h2) <| pk <| pc (flow_start_ok _ _ _ h4) <| pk3 <| pc (Does.of (args' := [.ptr 0 [] 0 0]) (H' := [.box 2 [.ms 1 [] 0 (List.length v3), .pv (.seq (List.length rules) (encP e_flow_Rule d_flow_Rule rules)), .ms 2 [] 0 (List.length ([] : List (List Int))), .pv (.fn 75)], .arr 2 1 (List.length v3) (encW o_u32 0#32 v3), .arr 2 1 (List.length ([] : List (List Int))) (encW o_26 ([] : List Int) (([] : List (List Int))))]) (flow_solver_solve_1_ok _ _ _ _ h6) (by (first | rfl | (simp only [List.length_set]; done)))) <| pk <| pz)
def flow_Least_F (F : Nat) (n1 : Int) (rules : List flow_Rule) : Option ((List (BitVec 32))) :=
  bind (sets_All_F F 0) fun v1 =>
  bind (flow_start_F F n1 v1) fun v3 =>
  bind (flow_solver_solve_1_F F v3 (([] : List (List Int))) rules) fun v5 =>
  some v5.1
theorem flow_Least_le (F : Nat) (n1 : Int) (rules : List flow_Rule) : Le (flow_Least_F F n1 rules) (flow_Least n1 rules) := (Le.bind (sets_All_le F _) fun v1 => (Le.bind (flow_start_le F _ _) fun v3 => (Le.bind (flow_solver_solve_1_le F _ _ _) fun v5 => (Le.refl _))))
/-- alibi/alibilaw21.awake -/
def alibilaw21_awake : Option (Bool) :=
  bind (flow_Greatest 2 (3#32) ([flow_Rule.mk 1 0 ((-1)) (2#32) (0#32) (0#32)])) fun v1 =>
  bind (flow_Least 2 ([flow_Rule.mk 1 0 ((-1)) (2#32) (0#32) (0#32)])) fun v3 =>
  if ((((((List.length v1) : Nat) : Int)) : Int) == 2) = true then
    if (decide ((0 : Int) < (((List.length v1) : Nat) : Int))) = true then
      if ((List.getD v1 0 (0#32)) == (3#32)) = true then
        if (decide ((1 : Int) < (((List.length v1) : Nat) : Int))) = true then
          if ((List.getD v1 1 (0#32)) == (2#32)) = true then
            if ((((((List.length v3) : Nat) : Int)) : Int) == 2) = true then
              if (decide ((0 : Int) < (((List.length v3) : Nat) : Int))) = true then
                if ((List.getD v3 0 (0#32)) == (0#32)) = true then
                  if (decide ((1 : Int) < (((List.length v3) : Nat) : Int))) = true then
                    if ((List.getD v3 1 (0#32)) == (0#32)) = true then
                      some true
                    else
                      some false
                  else none
                else
                  some false
              else none
            else
              some false
          else
            some false
        else none
      else
        some false
    else none
  else
    some false
theorem alibilaw21_awake_ok (r : Bool) (h : alibilaw21_awake = some r) : Does Try.prog 30 [] [] (.pv (.bool r), []) := by
 unfold alibilaw21_awake at h
 obtain ⟨v1, h2, h⟩ := bind_of h
 obtain ⟨v3, h4, h⟩ := bind_of h
 rcases if_of h with ⟨c5, h⟩ | ⟨c5, h⟩
 · obtain ⟨c6, h⟩ := need_of h
   rcases if_of h with ⟨c7, h⟩ | ⟨c7, h⟩
   · obtain ⟨c8, h⟩ := need_of h
     rcases if_of h with ⟨c9, h⟩ | ⟨c9, h⟩
     · rcases if_of h with ⟨c10, h⟩ | ⟨c10, h⟩
       · obtain ⟨c11, h⟩ := need_of h
         rcases if_of h with ⟨c12, h⟩ | ⟨c12, h⟩
         · obtain ⟨c13, h⟩ := need_of h
           rcases if_of h with ⟨c14, h⟩ | ⟨c14, h⟩
           · have h := Option.some.inj h; subst h
             exact pdoes mixed (L := lives) (by kernel_rfl) (pk <| pe (eff_lit o_flow_Rule d_flow_Rule 0 6 1 ([flow_Rule.mk 1 0 ((-1)) (2#32) (0#32) (0#32)]) rfl [] []) <| pb (whole_ok (List.length ([flow_Rule.mk 1 0 ((-1)) (2#32) (0#32) (0#32)]))) <| pc (flow_Greatest_ok _ _ _ _ h2) <| pk <| pb (whole_ok (List.length ([flow_Rule.mk 1 0 ((-1)) (2#32) (0#32) (0#32)]))) <| pc (flow_Least_ok _ _ _ h4) <| pk3 <| pb c5 <| pk <| pn (rfl : (decide ((0 : Int) ≤ 0)) = true) <| pn c6 <| pk3 <| pe (eff_bool (un_eql (List.getD v1 0 (0#32)) (3#32))) <| pk <| pb c7 <| pk <| pn (rfl : (decide ((0 : Int) ≤ 1)) = true) <| pn c8 <| pk3 <| pe (eff_bool (un_eql (List.getD v1 1 (0#32)) (2#32))) <| pk <| pb c9 <| pk5 <| pb c10 <| pk <| pn (rfl : (decide ((0 : Int) ≤ 0)) = true) <| pn c11 <| pk3 <| pe (eff_bool (un_eql (List.getD v3 0 (0#32)) (0#32))) <| pk <| pb c12 <| pk <| pn (rfl : (decide ((0 : Int) ≤ 1)) = true) <| pn c13 <| pk3 <| pe (eff_bool (un_eql (List.getD v3 1 (0#32)) (0#32))) <| pk <| pb c14 <| pz)
           · have h := Option.some.inj h; subst h
             exact pdoes mixed (L := lives) (by kernel_rfl) (pk <| pe (eff_lit o_flow_Rule d_flow_Rule 0 6 1 ([flow_Rule.mk 1 0 ((-1)) (2#32) (0#32) (0#32)]) rfl [] []) <| pb (whole_ok (List.length ([flow_Rule.mk 1 0 ((-1)) (2#32) (0#32) (0#32)]))) <| pc (flow_Greatest_ok _ _ _ _ h2) <| pk <| pb (whole_ok (List.length ([flow_Rule.mk 1 0 ((-1)) (2#32) (0#32) (0#32)]))) <| pc (flow_Least_ok _ _ _ h4) <| pk3 <| pb c5 <| pk <| pn (rfl : (decide ((0 : Int) ≤ 0)) = true) <| pn c6 <| pk3 <| pe (eff_bool (un_eql (List.getD v1 0 (0#32)) (3#32))) <| pk <| pb c7 <| pk <| pn (rfl : (decide ((0 : Int) ≤ 1)) = true) <| pn c8 <| pk3 <| pe (eff_bool (un_eql (List.getD v1 1 (0#32)) (2#32))) <| pk <| pb c9 <| pk5 <| pb c10 <| pk <| pn (rfl : (decide ((0 : Int) ≤ 0)) = true) <| pn c11 <| pk3 <| pe (eff_bool (un_eql (List.getD v3 0 (0#32)) (0#32))) <| pk <| pb c12 <| pk <| pn (rfl : (decide ((0 : Int) ≤ 1)) = true) <| pn c13 <| pk3 <| pe (eff_bool (un_eql (List.getD v3 1 (0#32)) (0#32))) <| pk <| pb c14 <| pz)
         · have h := Option.some.inj h; subst h
           exact pdoes mixed (L := lives) (by kernel_rfl) (pk <| pe (eff_lit o_flow_Rule d_flow_Rule 0 6 1 ([flow_Rule.mk 1 0 ((-1)) (2#32) (0#32) (0#32)]) rfl [] []) <| pb (whole_ok (List.length ([flow_Rule.mk 1 0 ((-1)) (2#32) (0#32) (0#32)]))) <| pc (flow_Greatest_ok _ _ _ _ h2) <| pk <| pb (whole_ok (List.length ([flow_Rule.mk 1 0 ((-1)) (2#32) (0#32) (0#32)]))) <| pc (flow_Least_ok _ _ _ h4) <| pk3 <| pb c5 <| pk <| pn (rfl : (decide ((0 : Int) ≤ 0)) = true) <| pn c6 <| pk3 <| pe (eff_bool (un_eql (List.getD v1 0 (0#32)) (3#32))) <| pk <| pb c7 <| pk <| pn (rfl : (decide ((0 : Int) ≤ 1)) = true) <| pn c8 <| pk3 <| pe (eff_bool (un_eql (List.getD v1 1 (0#32)) (2#32))) <| pk <| pb c9 <| pk5 <| pb c10 <| pk <| pn (rfl : (decide ((0 : Int) ≤ 0)) = true) <| pn c11 <| pk3 <| pe (eff_bool (un_eql (List.getD v3 0 (0#32)) (0#32))) <| pk <| pb c12 <| pk5 <| pz)
       · have h := Option.some.inj h; subst h
         exact pdoes mixed (L := lives) (by kernel_rfl) (pk <| pe (eff_lit o_flow_Rule d_flow_Rule 0 6 1 ([flow_Rule.mk 1 0 ((-1)) (2#32) (0#32) (0#32)]) rfl [] []) <| pb (whole_ok (List.length ([flow_Rule.mk 1 0 ((-1)) (2#32) (0#32) (0#32)]))) <| pc (flow_Greatest_ok _ _ _ _ h2) <| pk <| pb (whole_ok (List.length ([flow_Rule.mk 1 0 ((-1)) (2#32) (0#32) (0#32)]))) <| pc (flow_Least_ok _ _ _ h4) <| pk3 <| pb c5 <| pk <| pn (rfl : (decide ((0 : Int) ≤ 0)) = true) <| pn c6 <| pk3 <| pe (eff_bool (un_eql (List.getD v1 0 (0#32)) (3#32))) <| pk <| pb c7 <| pk <| pn (rfl : (decide ((0 : Int) ≤ 1)) = true) <| pn c8 <| pk3 <| pe (eff_bool (un_eql (List.getD v1 1 (0#32)) (2#32))) <| pk <| pb c9 <| pk5 <| pb c10 <| pk8 <| pk2 <| pz)
     · have h := Option.some.inj h; subst h
       exact pdoes mixed (L := lives) (by kernel_rfl) (pk <| pe (eff_lit o_flow_Rule d_flow_Rule 0 6 1 ([flow_Rule.mk 1 0 ((-1)) (2#32) (0#32) (0#32)]) rfl [] []) <| pb (whole_ok (List.length ([flow_Rule.mk 1 0 ((-1)) (2#32) (0#32) (0#32)]))) <| pc (flow_Greatest_ok _ _ _ _ h2) <| pk <| pb (whole_ok (List.length ([flow_Rule.mk 1 0 ((-1)) (2#32) (0#32) (0#32)]))) <| pc (flow_Least_ok _ _ _ h4) <| pk3 <| pb c5 <| pk <| pn (rfl : (decide ((0 : Int) ≤ 0)) = true) <| pn c6 <| pk3 <| pe (eff_bool (un_eql (List.getD v1 0 (0#32)) (3#32))) <| pk <| pb c7 <| pk <| pn (rfl : (decide ((0 : Int) ≤ 1)) = true) <| pn c8 <| pk3 <| pe (eff_bool (un_eql (List.getD v1 1 (0#32)) (2#32))) <| pk <| pb c9 <| pk8 <| pk6 <| pz)
   · have h := Option.some.inj h; subst h
     exact pdoes mixed (L := lives) (by kernel_rfl) (pk <| pe (eff_lit o_flow_Rule d_flow_Rule 0 6 1 ([flow_Rule.mk 1 0 ((-1)) (2#32) (0#32) (0#32)]) rfl [] []) <| pb (whole_ok (List.length ([flow_Rule.mk 1 0 ((-1)) (2#32) (0#32) (0#32)]))) <| pc (flow_Greatest_ok _ _ _ _ h2) <| pk <| pb (whole_ok (List.length ([flow_Rule.mk 1 0 ((-1)) (2#32) (0#32) (0#32)]))) <| pc (flow_Least_ok _ _ _ h4) <| pk3 <| pb c5 <| pk <| pn (rfl : (decide ((0 : Int) ≤ 0)) = true) <| pn c6 <| pk3 <| pe (eff_bool (un_eql (List.getD v1 0 (0#32)) (3#32))) <| pk <| pb c7 <| pk8 <| pk8 <| pk3 <| pz)
 · have h := Option.some.inj h; subst h
   exact pdoes mixed (L := lives) (by kernel_rfl) (pk <| pe (eff_lit o_flow_Rule d_flow_Rule 0 6 1 ([flow_Rule.mk 1 0 ((-1)) (2#32) (0#32) (0#32)]) rfl [] []) <| pb (whole_ok (List.length ([flow_Rule.mk 1 0 ((-1)) (2#32) (0#32) (0#32)]))) <| pc (flow_Greatest_ok _ _ _ _ h2) <| pk <| pb (whole_ok (List.length ([flow_Rule.mk 1 0 ((-1)) (2#32) (0#32) (0#32)]))) <| pc (flow_Least_ok _ _ _ h4) <| pk3 <| pb c5 <| pk8 <| pk8 <| pk8 <| pz)
def alibilaw21_awake_F (F : Nat) : Option (Bool) :=
  bind (flow_Greatest_F F 2 (3#32) ([flow_Rule.mk 1 0 ((-1)) (2#32) (0#32) (0#32)])) fun v1 =>
  bind (flow_Least_F F 2 ([flow_Rule.mk 1 0 ((-1)) (2#32) (0#32) (0#32)])) fun v3 =>
  if ((((((List.length v1) : Nat) : Int)) : Int) == 2) = true then
    if (decide ((0 : Int) < (((List.length v1) : Nat) : Int))) = true then
      if ((List.getD v1 0 (0#32)) == (3#32)) = true then
        if (decide ((1 : Int) < (((List.length v1) : Nat) : Int))) = true then
          if ((List.getD v1 1 (0#32)) == (2#32)) = true then
            if ((((((List.length v3) : Nat) : Int)) : Int) == 2) = true then
              if (decide ((0 : Int) < (((List.length v3) : Nat) : Int))) = true then
                if ((List.getD v3 0 (0#32)) == (0#32)) = true then
                  if (decide ((1 : Int) < (((List.length v3) : Nat) : Int))) = true then
                    if ((List.getD v3 1 (0#32)) == (0#32)) = true then
                      some true
                    else
                      some false
                  else none
                else
                  some false
              else none
            else
              some false
          else
            some false
        else none
      else
        some false
    else none
  else
    some false
theorem alibilaw21_awake_le (F : Nat) : Le (alibilaw21_awake_F F) (alibilaw21_awake) := (Le.bind (flow_Greatest_le F _ _ _) fun v1 => (Le.bind (flow_Least_le F _ _) fun v3 => (Le.ite (Le.ite (Le.ite (Le.ite (Le.ite (Le.ite (Le.ite (Le.ite (Le.ite (Le.ite (Le.refl _) (Le.refl _)) (Le.none _)) (Le.refl _)) (Le.none _)) (Le.refl _)) (Le.refl _)) (Le.none _)) (Le.refl _)) (Le.none _)) (Le.refl _))))
noncomputable def alibilaw21_of_l3_c : Code := sub (codeOf Try.prog 33) [1, 1, 0, 1, 0, 0]
def alibilaw21_of_l3 (x0 : List flow_Rule) (x1 : List flow_Rule) (x2 : Int) : Option ((List flow_Rule)) :=
  if (decide ((x2 : Int) < (((List.length x1 : Nat) : Int)))) = true then
    if (decide ((0 : Int) ≤ x2)) = true then
      if (decide ((x2 : Int) < ((List.length x1 : Nat) : Int))) = true then
        if (Nat.ble ((List.length x0 + List.length ([List.getD x1 (Int.toNat x2) d_flow_Rule])) * 40) reach) = true then
          alibilaw21_of_l3 (x0 ++ ([List.getD x1 (Int.toNat x2) d_flow_Rule])) x1 (iAdd x2 1)
        else none
      else none
    else none
  else
    some x0
partial_fixpoint
noncomputable abbrev alibilaw21_of_l3_s (x0 : List flow_Rule) (x1 : List flow_Rule) (x2 : Int) : St := ⟨.pv (.seq (List.length x1) (encP e_flow_Rule d_flow_Rule x1)) :: dead :: dead :: .ms 0 [] 0 (List.length x0) :: .pv (.int .i64 x2) :: List.replicate 41 dead, [.arr 0 6 (List.length x0) (encW o_flow_Rule d_flow_Rule x0)]⟩
noncomputable abbrev alibilaw21_of_l3_e (x0 : List flow_Rule) (x1 : List flow_Rule) (x2 : Int) (r : (List flow_Rule)) : St := ⟨dead :: dead :: dead :: .ms 0 [] 0 (List.length r) :: List.replicate 42 dead, [.arr 0 6 (List.length r) (encW o_flow_Rule d_flow_Rule r)]⟩
theorem alibilaw21_of_l3_ok (x0 : List flow_Rule) (x1 : List flow_Rule) (x2 : Int) (r : (List flow_Rule)) (h : alibilaw21_of_l3 x0 x1 x2 = some r) : Loops Try.prog alibilaw21_of_l3_c 0 (alibilaw21_of_l3_s x0 x1 x2) (.exit 0) (alibilaw21_of_l3_e x0 x1 x2 r) := by
 refine alibilaw21_of_l3.partial_correctness x1 (fun x0 x2 r => Loops Try.prog alibilaw21_of_l3_c 0 (alibilaw21_of_l3_s x0 x1 x2) (.exit 0) (alibilaw21_of_l3_e x0 x1 x2 r)) ?_ x0 x2 r h
 clear h r x0 x2
 intro self ih x0 x2 r h
 rcases if_of h with ⟨c1, h⟩ | ⟨c1, h⟩
 · obtain ⟨c2, h⟩ := need_of h
   obtain ⟨c3, h⟩ := need_of h
   obtain ⟨c4, h⟩ := need_of h
   exact pmore mixed lives 33 (by kernel_rfl) (pk2 <| pb c1 <| pn c2 <| pn c3 <| pk <| pn c2 <| pn c3 <| pk <| pn c2 <| pn c3 <| pk <| pn c2 <| pn c3 <| pk <| pn c2 <| pn c3 <| pk <| pn c2 <| pn c3 <| pk2 <| pe (eff_lit o_flow_Rule d_flow_Rule 1 6 1 ([List.getD x1 (Int.toNat x2) d_flow_Rule]) rfl [] []) <| pb (whole_ok (List.length ([List.getD x1 (Int.toNat x2) d_flow_Rule]))) <| pn c4 <| pe (eff_app o_flow_Rule d_flow_Rule x0 ([List.getD x1 (Int.toNat x2) d_flow_Rule]) (x0 ++ ([List.getD x1 (Int.toNat x2) d_flow_Rule])) 0 6 (List.length x0) (List.length ([List.getD x1 (Int.toNat x2) d_flow_Rule])) (fun i => List.map AV.scal (encW o_flow_Rule d_flow_Rule ([List.getD x1 (Int.toNat x2) d_flow_Rule]) i)) (encW o_flow_Rule d_flow_Rule x0 (List.length x0)) [] [] [(0, false)] (by first | exact Nat.le_refl _ | exact Nat.zero_le _ | (simp only [decide_eq_true_eq, List.length_set, List.length_append, List.length_replicate, List.length_cons, List.length_nil, Nat.zero_add] at * <;> omega)) rfl (fun _ => by kernel_rfl) (congrArg o_flow_Rule (getD_ge d_flow_Rule (by first | exact Nat.le_refl _ | exact Nat.zero_le _ | (simp only [decide_eq_true_eq, List.length_set, List.length_append, List.length_replicate, List.length_cons, List.length_nil, Nat.zero_add] at * <;> omega)))) (by rw [List.take_of_length_le (by first | exact Nat.le_refl _ | exact Nat.zero_le _ | (simp only [decide_eq_true_eq, List.length_set, List.length_append, List.length_replicate, List.length_cons, List.length_nil, Nat.zero_add] at * <;> omega))])) <| pk <| pz) (ih (x0 ++ ([List.getD x1 (Int.toNat x2) d_flow_Rule])) (iAdd x2 1) _ h)
 · have h := Option.some.inj h; subst h
   exact plast mixed lives 33 (by kernel_rfl) (pk2 <| pb c1 <| pz) rfl
/-- alibi/alibilaw21.of -/
def alibilaw21_of (l : List flow_Rule) : Option ((List flow_Rule)) :=
  bind (alibilaw21_of_l3 (([] : List flow_Rule)) l 0) fun v5 =>
  some v5
theorem alibilaw21_of_ok (l : List flow_Rule) (r : (List flow_Rule)) (h : alibilaw21_of l = some r) : Does Try.prog 33 [.pv (.seq (List.length l) (encP e_flow_Rule d_flow_Rule l))] [] (.ms 0 [] 0 (List.length r), [.arr 0 6 (List.length r) (encW o_flow_Rule d_flow_Rule r)]) := by
 unfold alibilaw21_of at h
 obtain ⟨v5, h6, h⟩ := bind_of h
 have h := Option.some.inj h; subst h
 exact pdoes mixed (L := lives) (by kernel_rfl) (pl (Loops.of (s1 := ⟨.pv (.seq (List.length l) (encP e_flow_Rule d_flow_Rule l)) :: dead :: dead :: .ms 0 [] 0 (List.length ([] : List flow_Rule)) :: .pv (.int .i64 0) :: List.replicate 41 dead, [.arr 0 6 (List.length ([] : List flow_Rule)) (encW o_flow_Rule d_flow_Rule (([] : List flow_Rule)))]⟩) (alibilaw21_of_l3_ok _ _ _ _ h6) (by (first | rfl | (simp only [alibilaw21_of_l3_s, List.length_set]; done)))) <| pz)
noncomputable def alibiref21_Value_l3_c : Code := sub (codeOf Try.prog 32) [1, 1, 0, 1, 0, 0]
def alibiref21_Value_l3 (x0 : Int) (x1 : Int) (x2 : Int) (x3 : BitVec 32) (x4 : BitVec 32) (x5 : BitVec 32) (x6 : List (BitVec 32)) (x7 : BitVec 32) (x8 : BitVec 32) (x9 : Int) : Option ((BitVec 32) × (BitVec 32)) :=
  if (decide ((x9 : Int) < (((List.length x6 : Nat) : Int)))) = true then
    if ((x9 : Int) == x1) = true then
      if (decide ((0 : Int) ≤ x9)) = true then
        if (decide ((x9 : Int) < ((List.length x6 : Nat) : Int))) = true then
          if ((x9 : Int) == x2) = true then
            alibiref21_Value_l3 x0 x1 x2 x3 x4 x5 x6 (List.getD x6 (Int.toNat x9) (0#32)) (List.getD x6 (Int.toNat x9) (0#32)) (iAdd x9 1)
          else
            alibiref21_Value_l3 x0 x1 x2 x3 x4 x5 x6 (List.getD x6 (Int.toNat x9) (0#32)) x8 (iAdd x9 1)
        else none
      else none
    else
      if ((x9 : Int) == x2) = true then
        if (decide ((0 : Int) ≤ x9)) = true then
          if (decide ((x9 : Int) < ((List.length x6 : Nat) : Int))) = true then
            alibiref21_Value_l3 x0 x1 x2 x3 x4 x5 x6 x7 (List.getD x6 (Int.toNat x9) (0#32)) (iAdd x9 1)
          else none
        else none
      else
        alibiref21_Value_l3 x0 x1 x2 x3 x4 x5 x6 x7 x8 (iAdd x9 1)
  else
    some (x7, x8)
partial_fixpoint
noncomputable abbrev alibiref21_Value_l3_s (x0 : Int) (x1 : Int) (x2 : Int) (x3 : BitVec 32) (x4 : BitVec 32) (x5 : BitVec 32) (x6 : List (BitVec 32)) (x7 : BitVec 32) (x8 : BitVec 32) (x9 : Int) : St := ⟨dead :: .pv (.seq (List.length x6) (encP e_u32 0#32 x6)) :: .ptr 0 [] 0 0 :: dead :: dead :: .pv (.int .u32 (BitVec.toNat x7 : Nat)) :: .pv (.int .u32 (BitVec.toNat x8 : Nat)) :: .pv (.int .i64 x9) :: List.replicate 44 dead, [.box 0 [.pv (.int .i64 x0), .pv (.int .i64 x1), .pv (.int .i64 x2), .pv (.int .u32 (BitVec.toNat x3 : Nat)), .pv (.int .u32 (BitVec.toNat x4 : Nat)), .pv (.int .u32 (BitVec.toNat x5 : Nat))]]⟩
noncomputable abbrev alibiref21_Value_l3_e (x0 : Int) (x1 : Int) (x2 : Int) (x3 : BitVec 32) (x4 : BitVec 32) (x5 : BitVec 32) (x6 : List (BitVec 32)) (x7 : BitVec 32) (x8 : BitVec 32) (x9 : Int) (r : (BitVec 32) × (BitVec 32)) : St := ⟨dead :: dead :: .ptr 0 [] 0 0 :: dead :: dead :: .pv (.int .u32 (BitVec.toNat r.1 : Nat)) :: .pv (.int .u32 (BitVec.toNat r.2 : Nat)) :: List.replicate 45 dead, [.box 0 [.pv (.int .i64 x0), .pv (.int .i64 x1), .pv (.int .i64 x2), .pv (.int .u32 (BitVec.toNat x3 : Nat)), .pv (.int .u32 (BitVec.toNat x4 : Nat)), .pv (.int .u32 (BitVec.toNat x5 : Nat))]]⟩
theorem alibiref21_Value_l3_ok (x0 : Int) (x1 : Int) (x2 : Int) (x3 : BitVec 32) (x4 : BitVec 32) (x5 : BitVec 32) (x6 : List (BitVec 32)) (x7 : BitVec 32) (x8 : BitVec 32) (x9 : Int) (r : (BitVec 32) × (BitVec 32)) (h : alibiref21_Value_l3 x0 x1 x2 x3 x4 x5 x6 x7 x8 x9 = some r) : Loops Try.prog alibiref21_Value_l3_c 0 (alibiref21_Value_l3_s x0 x1 x2 x3 x4 x5 x6 x7 x8 x9) (.exit 0) (alibiref21_Value_l3_e x0 x1 x2 x3 x4 x5 x6 x7 x8 x9 r) := by
 refine alibiref21_Value_l3.partial_correctness x0 x1 x2 x3 x4 x5 x6 (fun x7 x8 x9 r => Loops Try.prog alibiref21_Value_l3_c 0 (alibiref21_Value_l3_s x0 x1 x2 x3 x4 x5 x6 x7 x8 x9) (.exit 0) (alibiref21_Value_l3_e x0 x1 x2 x3 x4 x5 x6 x7 x8 x9 r)) ?_ x7 x8 x9 r h
 clear h r x7 x8 x9
 intro self ih x7 x8 x9 r h
 rcases if_of h with ⟨c1, h⟩ | ⟨c1, h⟩
 · rcases if_of h with ⟨c2, h⟩ | ⟨c2, h⟩
   · obtain ⟨c3, h⟩ := need_of h
     obtain ⟨c4, h⟩ := need_of h
     rcases if_of h with ⟨c5, h⟩ | ⟨c5, h⟩
     · exact pmore mixed lives 32 (by kernel_rfl) (pk2 <| pb c1 <| pk2 <| pb c2 <| pn c3 <| pn c4 <| pk3 <| pb c5 <| pn c3 <| pn c4 <| pk2 <| pz) (ih (List.getD x6 (Int.toNat x9) (0#32)) (List.getD x6 (Int.toNat x9) (0#32)) (iAdd x9 1) _ h)
     · exact pmore mixed lives 32 (by kernel_rfl) (pk2 <| pb c1 <| pk2 <| pb c2 <| pn c3 <| pn c4 <| pk3 <| pb c5 <| pk <| pz) (ih (List.getD x6 (Int.toNat x9) (0#32)) x8 (iAdd x9 1) _ h)
   · rcases if_of h with ⟨c6, h⟩ | ⟨c6, h⟩
     · obtain ⟨c7, h⟩ := need_of h
       obtain ⟨c8, h⟩ := need_of h
       exact pmore mixed lives 32 (by kernel_rfl) (pk2 <| pb c1 <| pk2 <| pb c2 <| pk2 <| pb c6 <| pn c7 <| pn c8 <| pk2 <| pz) (ih x7 (List.getD x6 (Int.toNat x9) (0#32)) (iAdd x9 1) _ h)
     · exact pmore mixed lives 32 (by kernel_rfl) (pk2 <| pb c1 <| pk2 <| pb c2 <| pk2 <| pb c6 <| pk <| pz) (ih x7 x8 (iAdd x9 1) _ h)
 · have h := Option.some.inj h; subst h
   exact plast mixed lives 32 (by kernel_rfl) (pk2 <| pb c1 <| pz) rfl
/-- alibi/alibiref21.Value -/
def alibiref21_Value (r1 : flow_Rule) (v : List (BitVec 32)) : Option ((BitVec 32)) :=
  bind (alibiref21_Value_l3 r1.to_ r1.from_ r1.also r1.keep r1.if_ r1.then_ v (0#32) (0#32) 0) fun v9 =>
  if (r1.if_ == (0#32)) = true then
    some (((v9.1 &&& r1.keep) ||| v9.2) ||| r1.then_)
  else
    if (decide ((0#32) < (v9.1 &&& r1.if_))) = true then
      some (((v9.1 &&& r1.keep) ||| v9.2) ||| r1.then_)
    else
      some ((v9.1 &&& r1.keep) ||| v9.2)
theorem alibiref21_Value_ok (r1 : flow_Rule) (v : List (BitVec 32)) (r : (BitVec 32)) (h : alibiref21_Value r1 v = some r) : Does Try.prog 32 [.agg [.pv (.int .i64 r1.to_), .pv (.int .i64 r1.from_), .pv (.int .i64 r1.also), .pv (.int .u32 (BitVec.toNat r1.keep : Nat)), .pv (.int .u32 (BitVec.toNat r1.if_ : Nat)), .pv (.int .u32 (BitVec.toNat r1.then_ : Nat))], .pv (.seq (List.length v) (encP e_u32 0#32 v))] [] (.pv (.int .u32 (BitVec.toNat r : Nat)), []) := by
 unfold alibiref21_Value at h
 obtain ⟨v9, h10, h⟩ := bind_of h
 rcases if_of h with ⟨c11, h⟩ | ⟨c11, h⟩
 · have h := Option.some.inj h; subst h
   exact pdoes mixed (L := lives) (by kernel_rfl) (pk <| pl (alibiref21_Value_l3_ok _ _ _ _ _ _ _ _ _ _ _ h10) <| pk <| pe (eff_int (k := .u32) (un_and .u32 rfl v9.1 r1.keep)) <| pe (eff_int (k := .u32) (un_or .u32 rfl (v9.1 &&& r1.keep) v9.2)) <| pk <| pe (eff_bool (un_eql r1.if_ (0#32))) <| pb c11 <| pk7 <| pe (eff_int (k := .u32) (un_or .u32 rfl ((v9.1 &&& r1.keep) ||| v9.2) r1.then_)) <| pz)
 · rcases if_of h with ⟨c12, h⟩ | ⟨c12, h⟩
   · have h := Option.some.inj h; subst h
     exact pdoes mixed (L := lives) (by kernel_rfl) (pk <| pl (alibiref21_Value_l3_ok _ _ _ _ _ _ _ _ _ _ _ h10) <| pk <| pe (eff_int (k := .u32) (un_and .u32 rfl v9.1 r1.keep)) <| pe (eff_int (k := .u32) (un_or .u32 rfl (v9.1 &&& r1.keep) v9.2)) <| pk <| pe (eff_bool (un_eql r1.if_ (0#32))) <| pb c11 <| pk4 <| pe (eff_int (k := .u32) (un_and .u32 rfl v9.1 r1.if_)) <| pk <| pe (eff_bool (un_gtr (v9.1 &&& r1.if_) (0#32))) <| pk <| pb c12 <| pk <| pe (eff_int (k := .u32) (un_or .u32 rfl ((v9.1 &&& r1.keep) ||| v9.2) r1.then_)) <| pz)
   · have h := Option.some.inj h; subst h
     exact pdoes mixed (L := lives) (by kernel_rfl) (pk <| pl (alibiref21_Value_l3_ok _ _ _ _ _ _ _ _ _ _ _ h10) <| pk <| pe (eff_int (k := .u32) (un_and .u32 rfl v9.1 r1.keep)) <| pe (eff_int (k := .u32) (un_or .u32 rfl (v9.1 &&& r1.keep) v9.2)) <| pk <| pe (eff_bool (un_eql r1.if_ (0#32))) <| pb c11 <| pk4 <| pe (eff_int (k := .u32) (un_and .u32 rfl v9.1 r1.if_)) <| pk <| pe (eff_bool (un_gtr (v9.1 &&& r1.if_) (0#32))) <| pk <| pb c12 <| pz)
/-- alibi/alibilaw21.FlowValues -/
def alibilaw21_FlowValues (r1 : flow_Rule) (v : List (BitVec 32)) : Option (Bool) :=
  bind (alibilaw21_awake) fun v1 =>
  if (!v1) = true then
    bind (alibilaw21_awake) fun v4 =>
    some v4
  else
    if (decide (((((List.length v : Nat) : Int)) : Int) > 60)) = true then
      bind (alibilaw21_awake) fun v7 =>
      some v7
    else
      bind (flow_Rule_Value r1 v) fun v9 =>
      bind (alibilaw21_of ([r1])) fun v11 =>
      if (decide ((0 : Int) < (((List.length v11) : Nat) : Int))) = true then
        bind (alibiref21_Value (List.getD v11 0 d_flow_Rule) v) fun v14 =>
        some (v9 == v14)
      else none
theorem alibilaw21_FlowValues_ok (r1 : flow_Rule) (v : List (BitVec 32)) (r : Bool) (h : alibilaw21_FlowValues r1 v = some r) : Does Try.prog 4 [.agg [.pv (.int .i64 r1.to_), .pv (.int .i64 r1.from_), .pv (.int .i64 r1.also), .pv (.int .u32 (BitVec.toNat r1.keep : Nat)), .pv (.int .u32 (BitVec.toNat r1.if_ : Nat)), .pv (.int .u32 (BitVec.toNat r1.then_ : Nat))], .pv (.seq (List.length v) (encP e_u32 0#32 v))] [] (.pv (.bool r), []) := by
 unfold alibilaw21_FlowValues at h
 obtain ⟨v1, h2, h⟩ := bind_of h
 rcases if_of h with ⟨c3, h⟩ | ⟨c3, h⟩
 · obtain ⟨v4, h5, h⟩ := bind_of h
   have h := Option.some.inj h; subst h
   exact pdoes mixed (L := lives) (by kernel_rfl) (pk <| pc (alibilaw21_awake_ok _ h2) <| pk2 <| pb c3 <| pk4 <| pc (alibilaw21_awake_ok _ h5) <| pk <| pz)
 · rcases if_of h with ⟨c6, h⟩ | ⟨c6, h⟩
   · obtain ⟨v7, h8, h⟩ := bind_of h
     have h := Option.some.inj h; subst h
     exact pdoes mixed (L := lives) (by kernel_rfl) (pk <| pc (alibilaw21_awake_ok _ h2) <| pk2 <| pb c3 <| pk5 <| pb c6 <| pc (alibilaw21_awake_ok _ h8) <| pk <| pz)
   · obtain ⟨v9, h10, h⟩ := bind_of h
     obtain ⟨v11, h12, h⟩ := bind_of h
     obtain ⟨c13, h⟩ := need_of h
     obtain ⟨v14, h15, h⟩ := bind_of h
     have h := Option.some.inj h; subst h
     exact pdoes mixed (L := lives) (by kernel_rfl) (pk <| pc (alibilaw21_awake_ok _ h2) <| pk2 <| pb c3 <| pk5 <| pb c6 <| pk <| pc (flow_Rule_Value_ok _ _ _ h10) <| pk2 <| pe (eff_lit o_flow_Rule d_flow_Rule 5 6 1 ([r1]) rfl [] []) <| pb (whole_ok (List.length ([r1]))) <| pc (alibilaw21_of_ok _ _ h12) <| pk <| pn (rfl : (decide ((0 : Int) ≤ 0)) = true) <| pn c13 <| pk <| pc (alibiref21_Value_ok _ _ _ h15) <| pk <| pe (eff_bool (un_eql v9 v14)) <| pz)
noncomputable def ty41 : Ty Try.prog 41 (List flow_Rule) := Ty.slice 41 ty35 (by kernel_rfl) (by kernel_rfl) (Nat.le_of_ble_eq_true (by kernel_rfl))
noncomputable def alibiref21_Solve_l5_c : Code := sub (codeOf Try.prog 36) [1, 1, 1, 0, 1, 0, 0]
def alibiref21_Solve_l5 (x0 : List (BitVec 32)) (x1 : Int) (x2 : BitVec 32) (x3 : List flow_Rule) (x4 : Bool) (x5 : Int) : Option ((List (BitVec 32))) :=
  if (decide ((x5 : Int) < x1)) = true then
    if x4 = true then
      if (decide ((0 : Int) ≤ x5)) = true then
        if (decide ((x5 : Int) < (((List.length x0) : Nat) : Int))) = true then
          alibiref21_Solve_l5 (List.set x0 (Int.toNat x5) x2) x1 x2 x3 x4 (iAdd x5 1)
        else none
      else none
    else
      some x0
  else
    some x0
partial_fixpoint
noncomputable abbrev alibiref21_Solve_l5_s (x0 : List (BitVec 32)) (x1 : Int) (x2 : BitVec 32) (x3 : List flow_Rule) (x4 : Bool) (x5 : Int) : St := ⟨.pv (.int .i64 x1) :: .pv (.int .u32 (BitVec.toNat x2 : Nat)) :: .pv (.seq (List.length x3) (encP e_flow_Rule d_flow_Rule x3)) :: .pv (.bool x4) :: (List.replicate 5 dead ++ (.ms 0 [] 0 (List.length x0) :: .pv (.int .i64 x5) :: List.replicate 73 dead)), [.arr 0 1 (List.length x0) (encW o_u32 0#32 x0)]⟩
noncomputable abbrev alibiref21_Solve_l5_e (x0 : List (BitVec 32)) (x1 : Int) (x2 : BitVec 32) (x3 : List flow_Rule) (x4 : Bool) (x5 : Int) (r : (List (BitVec 32))) : St := ⟨.pv (.int .i64 x1) :: dead :: .pv (.seq (List.length x3) (encP e_flow_Rule d_flow_Rule x3)) :: .pv (.bool x4) :: (List.replicate 5 dead ++ (.ms 0 [] 0 (List.length r) :: List.replicate 74 dead)), [.arr 0 1 (List.length r) (encW o_u32 0#32 r)]⟩
theorem alibiref21_Solve_l5_ok (x0 : List (BitVec 32)) (x1 : Int) (x2 : BitVec 32) (x3 : List flow_Rule) (x4 : Bool) (x5 : Int) (r : (List (BitVec 32))) (h : alibiref21_Solve_l5 x0 x1 x2 x3 x4 x5 = some r) : Loops Try.prog alibiref21_Solve_l5_c 0 (alibiref21_Solve_l5_s x0 x1 x2 x3 x4 x5) (.exit 0) (alibiref21_Solve_l5_e x0 x1 x2 x3 x4 x5 r) := by
 refine alibiref21_Solve_l5.partial_correctness x1 x2 x3 x4 (fun x0 x5 r => Loops Try.prog alibiref21_Solve_l5_c 0 (alibiref21_Solve_l5_s x0 x1 x2 x3 x4 x5) (.exit 0) (alibiref21_Solve_l5_e x0 x1 x2 x3 x4 x5 r)) ?_ x0 x5 r h
 clear h r x0 x5
 intro self ih x0 x5 r h
 rcases if_of h with ⟨c5, h⟩ | ⟨c5, h⟩
 · rcases if_of h with ⟨c6, h⟩ | ⟨c6, h⟩
   · obtain ⟨c7, h⟩ := need_of h
     obtain ⟨c8, h⟩ := need_of h
     exact pmore mixed lives 36 (by kernel_rfl) (pk <| pb c5 <| pk <| pb c6 <| pn c7 <| pn c8 <| pt <| pe (eff_hb (v := dead) (b := 0) (hb := []) (sc := []) (put_top o_u32 (0#32) 0 1 (List.length x0) x0 (Int.toNat x5) 0 [.pv (.int .u32 (BitVec.toNat x2 : Nat))] x2 (by kernel_rfl) (by first | exact Nat.le_refl _ | exact Nat.zero_le _ | (simp only [decide_eq_true_eq, List.length_set, List.length_append, List.length_replicate, List.length_cons, List.length_nil, Nat.zero_add] at * <;> omega)))) <| pk <| pz) (Loops.of (s1 := ⟨.pv (.int .i64 x1) :: .pv (.int .u32 (BitVec.toNat x2 : Nat)) :: .pv (.seq (List.length x3) (encP e_flow_Rule d_flow_Rule x3)) :: .pv (.bool x4) :: (List.replicate 5 dead ++ (.ms 0 [] 0 (List.length x0) :: .pv (.int .i64 (iAdd x5 1)) :: List.replicate 73 dead)), [.arr 0 1 (List.length x0) (encW o_u32 0#32 (List.set x0 (Int.toNat x5) x2))]⟩) (ih (List.set x0 (Int.toNat x5) x2) (iAdd x5 1) _ h) (by (first | rfl | (simp only [alibiref21_Solve_l5_s, List.length_set]; done))))
   · have h := Option.some.inj h; subst h
     exact plast mixed lives 36 (by kernel_rfl) (pk <| pb c5 <| pk <| pb c6 <| pz) rfl
 · have h := Option.some.inj h; subst h
   exact plast mixed lives 36 (by kernel_rfl) (pk <| pb c5 <| pk2 <| pz) rfl
end Go.Bm.GoYtldkmmnffjdliaa
