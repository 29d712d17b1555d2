/- Printed by gen2.py. -/
import Derived.Test.YtldkmmnffjdliaaBmNum
import Derived.Test.YtldkmmnffjdliaaProg
namespace Go.Bm.GoYtldkmmnffjdliaa
open Go.Proofs
set_option autoImplicit false
set_option linter.unusedVariables false
set_option linter.unusedSimpArgs false
set_option maxRecDepth 100000
set_option synthInstance.maxHeartbeats 400000
set_option synthInstance.maxSize 2048
theorem mixed : Try.prog.follows .mixedOrders = true := by kernel_rfl
def lives : Lives := livesOf [(32, [(0, [(3, [1, 2, 5, 6, 7])]), (1, [(3, [2, 5, 6])])]), (33, [(0, [(3, [0, 3, 4])]), (1, [(3, [3])]), (2, [(3, [3])])]), (71, [(0, [(5, [1, 5, 16, 17])]), (1, [(5, [5])]), (7, [(0, [0])])]), (73, [(0, [(5, [0, 3, 4, 32, 33, 34]), (9, [0, 3, 4, 6, 32, 33, 34, 55, 56, 57]), (19, [0, 3, 4, 106, 107]), (23, [0, 3, 4]), (25, [0, 3, 4, 124, 125, 126])]), (1, [(5, [0, 3, 4]), (9, [0, 3, 4, 6, 32, 33, 34]), (19, [0, 3, 4]), (23, [0]), (25, [0, 3, 4])]), (2, [(5, [4])])]), (111, [(8, [(0, [1])])]), (118, [(0, [(0, [0, 1])]), (1, [(0, [])])]), (119, [(0, [(2, [0, 1, 2, 7])]), (1, [(2, [1, 7])])]), (152, [(10, [(0, [1])])])]
structure flow_Rule where
  to_ : Int
  from_ : Int
  also : Int
  keep : BitVec 32
  if_ : BitVec 32
  then_ : BitVec 32

noncomputable def ty3 : Ty Try.prog 3 Int := Ty.int 3 .i64 (by kernel_rfl) (by kernel_rfl)
noncomputable def ty24 : Ty Try.prog 24 (BitVec 32) := Ty.un 24 .u32 rfl (by kernel_rfl) (by kernel_rfl)
noncomputable def ty35 : Ty Try.prog 35 flow_Rule := Ty.struct 35 #[{ name := "To", type := 3, offset := 0, embedded := false, tag := "", pkgPath := "", byteOffset := 0 }, { name := "From", type := 3, offset := 1, embedded := false, tag := "", pkgPath := "", byteOffset := 8 }, { name := "Also", type := 3, offset := 2, embedded := false, tag := "", pkgPath := "", byteOffset := 16 }, { name := "Keep", type := 24, offset := 3, embedded := false, tag := "", pkgPath := "", byteOffset := 24 }, { name := "If", type := 24, offset := 4, embedded := false, tag := "", pkgPath := "", byteOffset := 28 }, { name := "Then", type := 24, offset := 5, embedded := false, tag := "", pkgPath := "", byteOffset := 32 }] (TyF.cons 0 { name := "To", type := 3, offset := 0, embedded := false, tag := "", pkgPath := "", byteOffset := 0 } [{ name := "From", type := 3, offset := 1, embedded := false, tag := "", pkgPath := "", byteOffset := 8 }, { name := "Also", type := 3, offset := 2, embedded := false, tag := "", pkgPath := "", byteOffset := 16 }, { name := "Keep", type := 24, offset := 3, embedded := false, tag := "", pkgPath := "", byteOffset := 24 }, { name := "If", type := 24, offset := 4, embedded := false, tag := "", pkgPath := "", byteOffset := 28 }, { name := "Then", type := 24, offset := 5, embedded := false, tag := "", pkgPath := "", byteOffset := 32 }] rfl ty3 (TyF.cons 1 { name := "From", type := 3, offset := 1, embedded := false, tag := "", pkgPath := "", byteOffset := 8 } [{ name := "Also", type := 3, offset := 2, embedded := false, tag := "", pkgPath := "", byteOffset := 16 }, { name := "Keep", type := 24, offset := 3, embedded := false, tag := "", pkgPath := "", byteOffset := 24 }, { name := "If", type := 24, offset := 4, embedded := false, tag := "", pkgPath := "", byteOffset := 28 }, { name := "Then", type := 24, offset := 5, embedded := false, tag := "", pkgPath := "", byteOffset := 32 }] rfl ty3 (TyF.cons 2 { name := "Also", type := 3, offset := 2, embedded := false, tag := "", pkgPath := "", byteOffset := 16 } [{ name := "Keep", type := 24, offset := 3, embedded := false, tag := "", pkgPath := "", byteOffset := 24 }, { name := "If", type := 24, offset := 4, embedded := false, tag := "", pkgPath := "", byteOffset := 28 }, { name := "Then", type := 24, offset := 5, embedded := false, tag := "", pkgPath := "", byteOffset := 32 }] rfl ty3 (TyF.cons 3 { name := "Keep", type := 24, offset := 3, embedded := false, tag := "", pkgPath := "", byteOffset := 24 } [{ name := "If", type := 24, offset := 4, embedded := false, tag := "", pkgPath := "", byteOffset := 28 }, { name := "Then", type := 24, offset := 5, embedded := false, tag := "", pkgPath := "", byteOffset := 32 }] rfl ty24 (TyF.cons 4 { name := "If", type := 24, offset := 4, embedded := false, tag := "", pkgPath := "", byteOffset := 28 } [{ name := "Then", type := 24, offset := 5, embedded := false, tag := "", pkgPath := "", byteOffset := 32 }] rfl ty24 (TyF.cons 5 { name := "Then", type := 24, offset := 5, embedded := false, tag := "", pkgPath := "", byteOffset := 32 } [] rfl ty24 (TyF.nil 6))))))) (by kernel_rfl) (by kernel_rfl) (fun x => (x.to_, x.from_, x.also, x.keep, x.if_, x.then_, ())) (fun x => ⟨x.1, x.2.1, x.2.2.1, x.2.2.2.1, x.2.2.2.2.1, x.2.2.2.2.2.1⟩) (fun x => rfl)
noncomputable def ty28 : Ty Try.prog 28 (List (BitVec 32)) := Ty.slice 28 ty24 (by kernel_rfl) (by kernel_rfl) (Nat.le_of_ble_eq_true (by kernel_rfl))
def o_flow_Rule (x : flow_Rule) : List AV := [.pv (.int .i64 x.to_), .pv (.int .i64 x.from_), .pv (.int .i64 x.also), .pv (.int .u32 (BitVec.toNat x.keep : Nat)), .pv (.int .u32 (BitVec.toNat x.if_ : Nat)), .pv (.int .u32 (BitVec.toNat x.then_ : Nat))]
def d_flow_Rule : flow_Rule := ⟨0, 0, 0, 0#32, 0#32, 0#32⟩
def e_flow_Rule (x : flow_Rule) : List PV := [.int .i64 x.to_, .int .i64 x.from_, .int .i64 x.also, .int .u32 (BitVec.toNat x.keep : Nat), .int .u32 (BitVec.toNat x.if_ : Nat), .int .u32 (BitVec.toNat x.then_ : Nat)]
def o_u32 (x : BitVec 32) : List AV := [.pv (.int .u32 (BitVec.toNat x : Nat))]
noncomputable def flow_start_l5_c : Code := sub (codeOf Try.prog 71) [1, 1, 1, 0, 1, 0, 0]
def flow_start_l5 (x0 : List (BitVec 32)) (x1 : BitVec 32) (x2 : Int) (x3 : Int) : Option ((List (BitVec 32))) :=
  if (decide ((x3 : Int) < x2)) = true then
    if (decide ((0 : Int) ≤ x3)) = true then
      if (decide ((x3 : Int) < (((List.length x0) : Nat) : Int))) = true then
        flow_start_l5 (List.set x0 (Int.toNat x3) x1) x1 x2 (iAdd x3 1)
      else none
    else none
  else
    some x0
partial_fixpoint
theorem flow_start_l5_ok (x0 : List (BitVec 32)) (x1 : BitVec 32) (x2 : Int) (x3 : Int) (r : (List (BitVec 32))) (h : flow_start_l5 x0 x1 x2 x3 = some r) : Loops Try.prog flow_start_l5_c 0 ⟨dead :: .pv (.int .u32 (BitVec.toNat x1 : Nat)) :: dead :: dead :: dead :: .ms 0 [] 0 (List.length x0) :: (List.replicate 10 dead ++ (.pv (.int .i64 x2) :: .pv (.int .i64 x3) :: List.replicate 8 dead)), [.arr 0 1 (List.length x0) (encW o_u32 0#32 x0)]⟩ (.exit 0) ⟨(List.replicate 5 dead ++ (.ms 0 [] 0 (List.length r) :: List.replicate 20 dead)), [.arr 0 1 (List.length r) (encW o_u32 0#32 r)]⟩ := by
  refine flow_start_l5.partial_correctness x1 x2 (fun x0 x3 r => Loops Try.prog flow_start_l5_c 0 ⟨dead :: .pv (.int .u32 (BitVec.toNat x1 : Nat)) :: dead :: dead :: dead :: .ms 0 [] 0 (List.length x0) :: (List.replicate 10 dead ++ (.pv (.int .i64 x2) :: .pv (.int .i64 x3) :: List.replicate 8 dead)), [.arr 0 1 (List.length x0) (encW o_u32 0#32 x0)]⟩ (.exit 0) ⟨(List.replicate 5 dead ++ (.ms 0 [] 0 (List.length r) :: List.replicate 20 dead)), [.arr 0 1 (List.length r) (encW o_u32 0#32 r)]⟩) ?_ x0 x3 r h
  clear h r x0 x3
  intro self ih x0 x3 r h
  by_cases c5 : (decide ((x3 : Int) < x2)) = true
  · rw [if_pos c5] at h
    by_cases c6 : (decide ((0 : Int) ≤ x3)) = true
    case neg => rw [if_neg c6] at h; cases h
    rw [if_pos c6] at h
    by_cases c7 : (decide ((x3 : Int) < (((List.length x0) : Nat) : Int))) = true
    case neg => rw [if_neg c7] at h; cases h
    rw [if_pos c7] at h
    exact more_rounds mixed (L := lives) (f := 71) (script := (.keep :: .b true :: .e { val := dead, hb := [(0, .arr 0 1 (List.length x0) (encW o_u32 0#32 (List.set x0 (Int.toNat x3) x1)))], sc := [] } :: .keep :: [])) (l := (.t (decide ((x3 : Int) < x2)) true :: .t (decide ((0 : Int) ≤ x3)) true :: .t (decide ((x3 : Int) < (((List.length x0) : Nat) : Int))) true :: .t true true :: .e { val := dead, hb := [(0, Blk.put (.arr 0 1 (List.length x0) (encW o_u32 0#32 x0)) [] (Int.toNat x3) (fun cs => splice cs 0 [.pv (.int .u32 (BitVec.toNat x1 : Nat))]))], sc := [] } { val := dead, hb := [(0, .arr 0 1 (List.length x0) (encW o_u32 0#32 (List.set x0 (Int.toNat x3) x1)))], sc := [] } :: [])) (by kernel_rfl) (oks_cons c5 (oks_cons c6 (oks_cons c7 (oks_cons rfl (oks_cons (eff_hb (put_top o_u32 (0#32) 0 1 (List.length x0) x0 (Int.toNat x3) 0 [.pv (.int .u32 (BitVec.toNat x1 : Nat))] x1 (by kernel_rfl) (by first | exact Nat.le_refl _ | exact Nat.zero_le _ | (simp only [decide_eq_true_eq, List.length_set, List.length_append, List.length_replicate, List.length_cons, List.length_nil, Nat.zero_add] at * <;> omega)))) oks_nil))))) (Loops.of (s1 := ⟨dead :: .pv (.int .u32 (BitVec.toNat x1 : Nat)) :: dead :: dead :: dead :: .ms 0 [] 0 (List.length x0) :: (List.replicate 10 dead ++ (.pv (.int .i64 x2) :: .pv (.int .i64 (iAdd x3 1)) :: List.replicate 8 dead)), [.arr 0 1 (List.length x0) (encW o_u32 0#32 (List.set x0 (Int.toNat x3) x1))]⟩) (ih (List.set x0 (Int.toNat x3) x1) (iAdd x3 1) _ h) (by (first | rfl | (simp only [List.length_set]; done))))
  · rw [if_neg c5] at h
    have c5 := not_true c5
    have h := Option.some.inj h
    subst h
    exact last_round mixed (L := lives) (f := 71) (script := (.keep :: .b false :: [])) (l := (.t (decide ((x3 : Int) < x2)) false :: [])) (by kernel_rfl) (oks_cons c5 oks_nil) rfl
def flow_start_l5_F (F n : Nat) (x0 : List (BitVec 32)) (x1 : BitVec 32) (x2 : Int) (x3 : Int) : Option ((List (BitVec 32))) := match n with
  | 0 => none
  | n + 1 =>
    if (decide ((x3 : Int) < x2)) = true then
      if (decide ((0 : Int) ≤ x3)) = true then
        if (decide ((x3 : Int) < (((List.length x0) : Nat) : Int))) = true then
          flow_start_l5_F F n (List.set x0 (Int.toNat x3) x1) x1 x2 (iAdd x3 1)
        else none
      else none
    else
      some x0
theorem flow_start_l5_le (F n : Nat) (x0 : List (BitVec 32)) (x1 : BitVec 32) (x2 : Int) (x3 : Int) : Le (flow_start_l5_F F n x0 x1 x2 x3) (flow_start_l5 x0 x1 x2 x3) := by
  induction n generalizing x0 x3 with
  | zero => exact Le.none _
  | succ n ih => rw [flow_start_l5]; exact (Le.ite (Le.ite (Le.ite (ih (List.set x0 (Int.toNat x3) x1) (iAdd x3 1)) (Le.none _)) (Le.none _)) (Le.refl _))
/-- alibi/flow.start -/
def flow_start (n1 : Int) (m : BitVec 32) : Option ((List (BitVec 32))) :=
  if (decide ((n1 : Int) < 0)) = true then
    some (([] : List (BitVec 32)))
  else
    if (decide ((n1 : Int) > 65536)) = true then
      some (([] : List (BitVec 32)))
    else
      if (decide ((0 : Int) ≤ n1)) = true then
        if (decide ((n1 : Int) * ((4 : Nat) : Int) ≤ ((reach : Nat) : Int))) = true then
          bind (flow_start_l5 (List.replicate (Int.toNat n1) (0#32)) m ((((List.length (List.replicate (Int.toNat n1) (0#32))) : Nat) : Int)) 0) fun v8 =>
          some v8
        else none
      else none
theorem flow_start_ok (n1 : Int) (m : BitVec 32) (r : (List (BitVec 32))) (h : flow_start n1 m = some r) : Does Try.prog 71 [.pv (.int .i64 n1), .pv (.int .u32 (BitVec.toNat m : Nat))] [] (.ms 0 [] 0 (List.length r), [.arr 0 1 (List.length r) (encW o_u32 0#32 r)]) := by
  unfold flow_start at h
  by_cases c1 : (decide ((n1 : Int) < 0)) = true
  · rw [if_pos c1] at h
    have h := Option.some.inj h
    subst h
    refine Does.eq (does mixed (L := lives) (script := (.keep :: .b true :: .keep :: .keep :: .keep :: [])) (l := (.t (decide ((n1 : Int) < 0)) true :: [])) (r := (.ms 0 [] 0 (List.length ([] : List (BitVec 32))), [.arr 0 1 (List.length ([] : List (BitVec 32))) (encW o_u32 0#32 (([] : List (BitVec 32))))])) (by kernel_rfl) (oks_cons c1 oks_nil)) ?_
    (first | rfl | (simp only [List.length_set]; done))
  · rw [if_neg c1] at h
    have c1 := not_true c1
    by_cases c2 : (decide ((n1 : Int) > 65536)) = true
    · rw [if_pos c2] at h
      have h := Option.some.inj h
      subst h
      refine Does.eq (does mixed (L := lives) (script := (.keep :: .b false :: .keep :: .keep :: .keep :: .b true :: [])) (l := (.t (decide ((n1 : Int) < 0)) false :: .t (decide ((n1 : Int) > 65536)) true :: [])) (r := (.ms 0 [] 0 (List.length ([] : List (BitVec 32))), [.arr 0 1 (List.length ([] : List (BitVec 32))) (encW o_u32 0#32 (([] : List (BitVec 32))))])) (by kernel_rfl) (oks_cons c1 (oks_cons c2 oks_nil))) ?_
      (first | rfl | (simp only [List.length_set]; done))
    · rw [if_neg c2] at h
      have c2 := not_true c2
      by_cases c3 : (decide ((0 : Int) ≤ n1)) = true
      case neg => rw [if_neg c3] at h; cases h
      rw [if_pos c3] at h
      by_cases c4 : (decide ((n1 : Int) * ((4 : Nat) : Int) ≤ ((reach : Nat) : Int))) = true
      case neg => rw [if_neg c4] at h; cases h
      rw [if_pos c4] at h
      obtain ⟨v8, h9, h⟩ := bind_of h
      have h := Option.some.inj h
      subst h
      exact does mixed (L := lives) (script := (.keep :: .b false :: .keep :: .keep :: .keep :: .b false :: .e { val := .ms 0 [] 0 (List.length (List.replicate (Int.toNat n1) (0#32))), hb := [(0, .arr 0 1 (List.length (List.replicate (Int.toNat n1) (0#32))) (encW o_u32 0#32 (List.replicate (Int.toNat n1) (0#32))))] } :: .keep :: .l (.exit 0) ⟨(List.replicate 5 dead ++ (.ms 0 [] 0 (List.length v8) :: List.replicate 20 dead)), [.arr 0 1 (List.length v8) (encW o_u32 0#32 v8)]⟩ :: [])) (l := (.t (decide ((n1 : Int) < 0)) false :: .t (decide ((n1 : Int) > 65536)) false :: .t (decide ((0 : Int) ≤ n1)) true :: .t (decide ((n1 : Int) = n1)) true :: .t (decide ((n1 : Int) * ((4 : Nat) : Int) ≤ ((reach : Nat) : Int))) true :: .e { val := .ms 0 [] 0 (Int.toNat n1), hb := [(0, .arr 0 1 (Int.toNat n1) fun _ => o_u32 (0#32))] } { val := .ms 0 [] 0 (List.length (List.replicate (Int.toNat n1) (0#32))), hb := [(0, .arr 0 1 (List.length (List.replicate (Int.toNat n1) (0#32))) (encW o_u32 0#32 (List.replicate (Int.toNat n1) (0#32))))] } :: .l flow_start_l5_c 0 ⟨dead :: .pv (.int .u32 (BitVec.toNat m : Nat)) :: dead :: dead :: dead :: .ms 0 [] 0 (List.length (List.replicate (Int.toNat n1) (0#32))) :: (List.replicate 10 dead ++ (.pv (.int .i64 ((((List.length (List.replicate (Int.toNat n1) (0#32))) : Nat) : Int))) :: .pv (.int .i64 0) :: List.replicate 8 dead)), [.arr 0 1 (List.length (List.replicate (Int.toNat n1) (0#32))) (encW o_u32 0#32 (List.replicate (Int.toNat n1) (0#32)))]⟩ (.exit 0) ⟨(List.replicate 5 dead ++ (.ms 0 [] 0 (List.length v8) :: List.replicate 20 dead)), [.arr 0 1 (List.length v8) (encW o_u32 0#32 v8)]⟩ :: [])) (by kernel_rfl) (oks_cons c1 (oks_cons c2 (oks_cons c3 (oks_cons (decide_eq_true rfl) (oks_cons c4 (oks_cons (eff_make o_u32 (0#32) 0 1 (Int.toNat n1)) (oks_cons (flow_start_l5_ok _ _ _ _ _ h9) oks_nil)))))))
def flow_start_F (F : Nat) (n1 : Int) (m : BitVec 32) : Option ((List (BitVec 32))) :=
  if (decide ((n1 : Int) < 0)) = true then
    some (([] : List (BitVec 32)))
  else
    if (decide ((n1 : Int) > 65536)) = true then
      some (([] : List (BitVec 32)))
    else
      if (decide ((0 : Int) ≤ n1)) = true then
        if (decide ((n1 : Int) * ((4 : Nat) : Int) ≤ ((reach : Nat) : Int))) = true then
          bind (flow_start_l5_F F F (List.replicate (Int.toNat n1) (0#32)) m ((((List.length (List.replicate (Int.toNat n1) (0#32))) : Nat) : Int)) 0) fun v8 =>
          some v8
        else none
      else none
theorem flow_start_le (F : Nat) (n1 : Int) (m : BitVec 32) : Le (flow_start_F F n1 m) (flow_start n1 m) := (Le.ite (Le.refl _) (Le.ite (Le.refl _) (Le.ite (Le.ite (Le.bind (flow_start_l5_le F F _ _ _ _) fun v8 => (Le.refl _)) (Le.none _)) (Le.none _))))
def o_bool (x : Bool) : List AV := [.pv (.bool x)]
def o_i64 (x : Int) : List AV := [.pv (.int .i64 x)]
def o_26 (x : List Int) : List AV := [.own 1 (List.length x) (encW o_i64 0 x)]
noncomputable def flow_solver_solve_l9_c : Code := sub (codeOf Try.prog 73) [1, 1, 1, 1, 0, 1, 0, 0, 1, 1, 0, 0, 1, 1, 0, 1, 0, 0]
def flow_solver_solve_l9 (x0 : List (BitVec 32)) (x1 : List (List Int)) (x2 : List (List Int)) (x3 : List Int) (x4 : List Bool) (x5 : List flow_Rule) (x6 : List Int) (x7 : List flow_Rule) (x8 : Int) (x9 : Int) (x10 : Int) (x11 : BitVec 32) (x12 : BitVec 32) (x13 : BitVec 32) (x14 : List flow_Rule) (x15 : Int) (x16 : Int) (x17 : Int) (x18 : Int) : Option ((List (List Int))) :=
  if (decide ((x18 : Int) < x17)) = true then
    if (decide ((0 : Int) ≤ x18)) = true then
      if (decide ((x18 : Int) < (((List.length x6) : Nat) : Int))) = true then
        if (decide (((List.getD x6 (Int.toNat x18) 0) : Int) ≥ 0)) = true then
          if (decide (((List.getD x6 (Int.toNat x18) 0) : Int) < ((((List.length x0) : Nat) : Int)))) = true then
            if (decide ((0 : Int) ≤ (List.getD x6 (Int.toNat x18) 0))) = true then
              if (decide (((List.getD x6 (Int.toNat x18) 0) : Int) < (((List.length x2) : Nat) : Int))) = true then
                if (Nat.ble ((List.length (List.getD x2 (Int.toNat (List.getD x6 (Int.toNat x18) 0)) (([] : List Int))) + List.length ([(((List.length x5) : Nat) : Int)])) * 8) reach) = true then
                  flow_solver_solve_l9 x0 x1 (List.set x2 (Int.toNat (List.getD x6 (Int.toNat x18) 0)) (List.getD x2 (Int.toNat (List.getD x6 (Int.toNat x18) 0)) (([] : List Int)) ++ ([(((List.length x5) : Nat) : Int)]))) x3 x4 x5 x6 x7 x8 x9 x10 x11 x12 x13 x14 x15 x16 x17 (iAdd x18 1)
                else none
              else none
            else none
          else
            flow_solver_solve_l9 x0 x1 x2 x3 x4 x5 x6 x7 x8 x9 x10 x11 x12 x13 x14 x15 x16 x17 (iAdd x18 1)
        else
          flow_solver_solve_l9 x0 x1 x2 x3 x4 x5 x6 x7 x8 x9 x10 x11 x12 x13 x14 x15 x16 x17 (iAdd x18 1)
      else none
    else none
  else
    some x2
partial_fixpoint
theorem flow_solver_solve_l9_ok (x0 : List (BitVec 32)) (x1 : List (List Int)) (x2 : List (List Int)) (x3 : List Int) (x4 : List Bool) (x5 : List flow_Rule) (x6 : List Int) (x7 : List flow_Rule) (x8 : Int) (x9 : Int) (x10 : Int) (x11 : BitVec 32) (x12 : BitVec 32) (x13 : BitVec 32) (x14 : List flow_Rule) (x15 : Int) (x16 : Int) (x17 : Int) (x18 : Int) (r : (List (List Int))) (h : flow_solver_solve_l9 x0 x1 x2 x3 x4 x5 x6 x7 x8 x9 x10 x11 x12 x13 x14 x15 x16 x17 x18 = some r) : Loops Try.prog flow_solver_solve_l9_c 3 ⟨.ptr 0 [] 0 0 :: dead :: dead :: .ptr 4 [] 0 0 :: .ms 7 [] 0 (List.length x5) :: dead :: .ptr 8 [] 0 0 :: (List.replicate 25 dead ++ (.pv (.seq (List.length x14) (encP e_flow_Rule d_flow_Rule x14)) :: .pv (.int .i64 x15) :: .pv (.int .i64 x16) :: (List.replicate 20 dead ++ (.ms 9 [] 0 (List.length x6) :: .pv (.int .i64 x17) :: .pv (.int .i64 x18) :: List.replicate 90 dead)))), [.box 2 [.ms 1 [] 0 (List.length x0), .pv (.seq (List.length x7) (encP e_flow_Rule d_flow_Rule x7)), .ms 3 [] 0 (List.length x2), .pv (.fn 72)], .arr 2 1 (List.length x0) (encW o_u32 0#32 x0), .arr 2 1 (List.length x1) (encW o_26 ([] : List Int) x1), .arr 0 1 (List.length x2) (encW o_26 ([] : List Int) x2), .box 0 [.ms 5 [] 0 (List.length x3), .ms 6 [] 0 (List.length x4)], .arr 0 1 (List.length x3) (encW o_i64 0 x3), .arr 0 1 (List.length x4) (encW o_bool false x4), .arr 0 6 (List.length x5) (encW o_flow_Rule d_flow_Rule x5), .box 0 [.pv (.int .i64 x8), .pv (.int .i64 x9), .pv (.int .i64 x10), .pv (.int .u32 (BitVec.toNat x11 : Nat)), .pv (.int .u32 (BitVec.toNat x12 : Nat)), .pv (.int .u32 (BitVec.toNat x13 : Nat))], .arr 0 1 (List.length x6) (encW o_i64 0 x6)]⟩ (.exit 2) ⟨.ptr 0 [] 0 0 :: dead :: dead :: .ptr 4 [] 0 0 :: .ms 7 [] 0 (List.length x5) :: dead :: .ptr 8 [] 0 0 :: (List.replicate 25 dead ++ (.pv (.seq (List.length x14) (encP e_flow_Rule d_flow_Rule x14)) :: .pv (.int .i64 x15) :: .pv (.int .i64 x16) :: List.replicate 113 dead)), [.box 2 [.ms 1 [] 0 (List.length x0), .pv (.seq (List.length x7) (encP e_flow_Rule d_flow_Rule x7)), .ms 3 [] 0 (List.length r), .pv (.fn 72)], .arr 2 1 (List.length x0) (encW o_u32 0#32 x0), .arr 2 1 (List.length x1) (encW o_26 ([] : List Int) x1), .arr 0 1 (List.length r) (encW o_26 ([] : List Int) r), .box 0 [.ms 5 [] 0 (List.length x3), .ms 6 [] 0 (List.length x4)], .arr 0 1 (List.length x3) (encW o_i64 0 x3), .arr 0 1 (List.length x4) (encW o_bool false x4), .arr 0 6 (List.length x5) (encW o_flow_Rule d_flow_Rule x5), .box 0 [.pv (.int .i64 x8), .pv (.int .i64 x9), .pv (.int .i64 x10), .pv (.int .u32 (BitVec.toNat x11 : Nat)), .pv (.int .u32 (BitVec.toNat x12 : Nat)), .pv (.int .u32 (BitVec.toNat x13 : Nat))]]⟩ := by
  refine flow_solver_solve_l9.partial_correctness x0 x1 x3 x4 x5 x6 x7 x8 x9 x10 x11 x12 x13 x14 x15 x16 x17 (fun x2 x18 r => Loops Try.prog flow_solver_solve_l9_c 3 ⟨.ptr 0 [] 0 0 :: dead :: dead :: .ptr 4 [] 0 0 :: .ms 7 [] 0 (List.length x5) :: dead :: .ptr 8 [] 0 0 :: (List.replicate 25 dead ++ (.pv (.seq (List.length x14) (encP e_flow_Rule d_flow_Rule x14)) :: .pv (.int .i64 x15) :: .pv (.int .i64 x16) :: (List.replicate 20 dead ++ (.ms 9 [] 0 (List.length x6) :: .pv (.int .i64 x17) :: .pv (.int .i64 x18) :: List.replicate 90 dead)))), [.box 2 [.ms 1 [] 0 (List.length x0), .pv (.seq (List.length x7) (encP e_flow_Rule d_flow_Rule x7)), .ms 3 [] 0 (List.length x2), .pv (.fn 72)], .arr 2 1 (List.length x0) (encW o_u32 0#32 x0), .arr 2 1 (List.length x1) (encW o_26 ([] : List Int) x1), .arr 0 1 (List.length x2) (encW o_26 ([] : List Int) x2), .box 0 [.ms 5 [] 0 (List.length x3), .ms 6 [] 0 (List.length x4)], .arr 0 1 (List.length x3) (encW o_i64 0 x3), .arr 0 1 (List.length x4) (encW o_bool false x4), .arr 0 6 (List.length x5) (encW o_flow_Rule d_flow_Rule x5), .box 0 [.pv (.int .i64 x8), .pv (.int .i64 x9), .pv (.int .i64 x10), .pv (.int .u32 (BitVec.toNat x11 : Nat)), .pv (.int .u32 (BitVec.toNat x12 : Nat)), .pv (.int .u32 (BitVec.toNat x13 : Nat))], .arr 0 1 (List.length x6) (encW o_i64 0 x6)]⟩ (.exit 2) ⟨.ptr 0 [] 0 0 :: dead :: dead :: .ptr 4 [] 0 0 :: .ms 7 [] 0 (List.length x5) :: dead :: .ptr 8 [] 0 0 :: (List.replicate 25 dead ++ (.pv (.seq (List.length x14) (encP e_flow_Rule d_flow_Rule x14)) :: .pv (.int .i64 x15) :: .pv (.int .i64 x16) :: List.replicate 113 dead)), [.box 2 [.ms 1 [] 0 (List.length x0), .pv (.seq (List.length x7) (encP e_flow_Rule d_flow_Rule x7)), .ms 3 [] 0 (List.length r), .pv (.fn 72)], .arr 2 1 (List.length x0) (encW o_u32 0#32 x0), .arr 2 1 (List.length x1) (encW o_26 ([] : List Int) x1), .arr 0 1 (List.length r) (encW o_26 ([] : List Int) r), .box 0 [.ms 5 [] 0 (List.length x3), .ms 6 [] 0 (List.length x4)], .arr 0 1 (List.length x3) (encW o_i64 0 x3), .arr 0 1 (List.length x4) (encW o_bool false x4), .arr 0 6 (List.length x5) (encW o_flow_Rule d_flow_Rule x5), .box 0 [.pv (.int .i64 x8), .pv (.int .i64 x9), .pv (.int .i64 x10), .pv (.int .u32 (BitVec.toNat x11 : Nat)), .pv (.int .u32 (BitVec.toNat x12 : Nat)), .pv (.int .u32 (BitVec.toNat x13 : Nat))]]⟩) ?_ x2 x18 r h
  clear h r x2 x18
  intro self ih x2 x18 r h
  by_cases c9 : (decide ((x18 : Int) < x17)) = true
  · rw [if_pos c9] at h
    by_cases c10 : (decide ((0 : Int) ≤ x18)) = true
    case neg => rw [if_neg c10] at h; cases h
    rw [if_pos c10] at h
    by_cases c11 : (decide ((x18 : Int) < (((List.length x6) : Nat) : Int))) = true
    case neg => rw [if_neg c11] at h; cases h
    rw [if_pos c11] at h
    by_cases c12 : (decide (((List.getD x6 (Int.toNat x18) 0) : Int) ≥ 0)) = true
    · rw [if_pos c12] at h
      by_cases c13 : (decide (((List.getD x6 (Int.toNat x18) 0) : Int) < ((((List.length x0) : Nat) : Int)))) = true
      · rw [if_pos c13] at h
        by_cases c14 : (decide ((0 : Int) ≤ (List.getD x6 (Int.toNat x18) 0))) = true
        case neg => rw [if_neg c14] at h; cases h
        rw [if_pos c14] at h
        by_cases c15 : (decide (((List.getD x6 (Int.toNat x18) 0) : Int) < (((List.length x2) : Nat) : Int))) = true
        case neg => rw [if_neg c15] at h; cases h
        rw [if_pos c15] at h
        by_cases c16 : (Nat.ble ((List.length (List.getD x2 (Int.toNat (List.getD x6 (Int.toNat x18) 0)) (([] : List Int))) + List.length ([(((List.length x5) : Nat) : Int)])) * 8) reach) = true
        case neg => rw [if_neg c16] at h; cases h
        rw [if_pos c16] at h
        exact more_rounds mixed (L := lives) (f := 73) (script := (.keep :: .b true :: .keep :: .keep :: .b true :: .keep :: .keep :: .keep :: .keep :: .keep :: .keep :: .keep :: .keep :: .keep :: .keep :: .b true :: .keep :: .keep :: .keep :: .keep :: .e { val := .ms 10 [] 0 (List.length ([(((List.length x5) : Nat) : Int)])), hb := [(10, .arr 0 1 (List.length ([(((List.length x5) : Nat) : Int)])) (encW o_i64 0 ([(((List.length x5) : Nat) : Int)])))], sc := [] } :: .b true :: .e { val := .ms 11 [] 0 (List.length (List.getD x2 (Int.toNat (List.getD x6 (Int.toNat x18) 0)) (([] : List Int)) ++ ([(((List.length x5) : Nat) : Int)]))), hb := [(11, .arr 0 1 (List.length (List.getD x2 (Int.toNat (List.getD x6 (Int.toNat x18) 0)) (([] : List Int)))) (encW o_i64 0 (List.getD x2 (Int.toNat (List.getD x6 (Int.toNat x18) 0)) (([] : List Int))))), (3, .arr 0 1 (List.length x2) (upd (encW o_26 ([] : List Int) x2) (Int.toNat (List.getD x6 (Int.toNat x18) 0)) (List.set (o_26 (List.getD x2 (Int.toNat (List.getD x6 (Int.toNat x18) 0)) (([] : List Int)))) 0 (.pv .bad))))] ++ ((11, .arr 0 1 (List.length (List.getD x2 (Int.toNat (List.getD x6 (Int.toNat x18) 0)) (([] : List Int)) ++ ([(((List.length x5) : Nat) : Int)]))) (encW o_i64 0 (List.getD x2 (Int.toNat (List.getD x6 (Int.toNat x18) 0)) (([] : List Int)) ++ ([(((List.length x5) : Nat) : Int)])))) :: []), sc := [(3, true), (11, false)] } :: .b true :: .e { val := dead, hb := [(3, .arr 0 1 (List.length x2) (encW o_26 ([] : List Int) (List.set x2 (Int.toNat (List.getD x6 (Int.toNat x18) 0)) (List.getD x2 (Int.toNat (List.getD x6 (Int.toNat x18) 0)) (([] : List Int)) ++ ([(((List.length x5) : Nat) : Int)]))))), (11, .gone)], sc := [(11, false)] } :: .keep :: [])) (l := (.t (decide ((x18 : Int) < x17)) true :: .t (decide ((0 : Int) ≤ x18)) true :: .t (decide ((x18 : Int) < (((List.length x6) : Nat) : Int))) true :: .t (decide (((List.getD x6 (Int.toNat x18) 0) : Int) ≥ 0)) true :: .t (decide (((List.getD x6 (Int.toNat x18) 0) : Int) < ((((List.length x0) : Nat) : Int)))) true :: .t (decide ((0 : Int) ≤ (List.getD x6 (Int.toNat x18) 0))) true :: .t (decide (((List.getD x6 (Int.toNat x18) 0) : Int) < (((List.length x2) : Nat) : Int))) true :: .e { val := .ms 10 [] 0 1, hb := [(10, .arr 0 1 1 (litF (o_i64 0) (List.map o_i64 [(((List.length x5) : Nat) : Int)])))], sc := [] } { val := .ms 10 [] 0 (List.length ([(((List.length x5) : Nat) : Int)])), hb := [(10, .arr 0 1 (List.length ([(((List.length x5) : Nat) : Int)])) (encW o_i64 0 ([(((List.length x5) : Nat) : Int)])))], sc := [] } :: .t (decide (List.length ([(((List.length x5) : Nat) : Int)]) = List.length ([(((List.length x5) : Nat) : Int)])) && decide (0 = 0)) true :: .t (Nat.ble ((List.length (List.getD x2 (Int.toNat (List.getD x6 (Int.toNat x18) 0)) (([] : List Int))) + List.length ([(((List.length x5) : Nat) : Int)])) * 8) reach) true :: .e ({ val := .ms 11 [] 0 (List.length (List.getD x2 (Int.toNat (List.getD x6 (Int.toNat x18) 0)) (([] : List Int))) + List.length ([(((List.length x5) : Nat) : Int)])), hb := [(11, .arr 0 1 (List.length (List.getD x2 (Int.toNat (List.getD x6 (Int.toNat x18) 0)) (([] : List Int)))) (encW o_i64 0 (List.getD x2 (Int.toNat (List.getD x6 (Int.toNat x18) 0)) (([] : List Int))))), (3, .arr 0 1 (List.length x2) (upd (encW o_26 ([] : List Int) x2) (Int.toNat (List.getD x6 (Int.toNat x18) 0)) (List.set (o_26 (List.getD x2 (Int.toNat (List.getD x6 (Int.toNat x18) 0)) (([] : List Int)))) 0 (.pv .bad))))] ++ ((11, .arr 0 1 (List.length (List.getD x2 (Int.toNat (List.getD x6 (Int.toNat x18) 0)) (([] : List Int))) + List.length ([(((List.length x5) : Nat) : Int)])) (app (List.length (List.getD x2 (Int.toNat (List.getD x6 (Int.toNat x18) 0)) (([] : List Int)))) (encW o_i64 0 (List.getD x2 (Int.toNat (List.getD x6 (Int.toNat x18) 0)) (([] : List Int)))) (List.length ([(((List.length x5) : Nat) : Int)])) (fun i => List.map AV.scal (encW o_i64 0 ([(((List.length x5) : Nat) : Int)]) i)) (encW o_i64 0 (List.getD x2 (Int.toNat (List.getD x6 (Int.toNat x18) 0)) (([] : List Int))) (List.length (List.getD x2 (Int.toNat (List.getD x6 (Int.toNat x18) 0)) (([] : List Int))))))) :: []), sc := [(3, true), (11, false)] } : Eff) { val := .ms 11 [] 0 (List.length (List.getD x2 (Int.toNat (List.getD x6 (Int.toNat x18) 0)) (([] : List Int)) ++ ([(((List.length x5) : Nat) : Int)]))), hb := [(11, .arr 0 1 (List.length (List.getD x2 (Int.toNat (List.getD x6 (Int.toNat x18) 0)) (([] : List Int)))) (encW o_i64 0 (List.getD x2 (Int.toNat (List.getD x6 (Int.toNat x18) 0)) (([] : List Int))))), (3, .arr 0 1 (List.length x2) (upd (encW o_26 ([] : List Int) x2) (Int.toNat (List.getD x6 (Int.toNat x18) 0)) (List.set (o_26 (List.getD x2 (Int.toNat (List.getD x6 (Int.toNat x18) 0)) (([] : List Int)))) 0 (.pv .bad))))] ++ ((11, .arr 0 1 (List.length (List.getD x2 (Int.toNat (List.getD x6 (Int.toNat x18) 0)) (([] : List Int)) ++ ([(((List.length x5) : Nat) : Int)]))) (encW o_i64 0 (List.getD x2 (Int.toNat (List.getD x6 (Int.toNat x18) 0)) (([] : List Int)) ++ ([(((List.length x5) : Nat) : Int)])))) :: []), sc := [(3, true), (11, false)] } :: .t (decide ((0 : Int) ≤ (List.getD x6 (Int.toNat x18) 0))) true :: .t (decide (((List.getD x6 (Int.toNat x18) 0) : Int) < (((List.length x2) : Nat) : Int))) true :: .t (Nat.ble (0 + 1) (List.length (upd (encW o_26 (([] : List Int)) x2) (Int.toNat (List.getD x6 (Int.toNat x18) 0)) (List.set (o_26 (List.getD x2 (Int.toNat (List.getD x6 (Int.toNat x18) 0)) (([] : List Int)))) 0 (.pv .bad)) (Int.toNat (List.getD x6 (Int.toNat x18) 0))))) true :: .t (decide (List.length (List.getD x2 (Int.toNat (List.getD x6 (Int.toNat x18) 0)) (([] : List Int)) ++ ([(((List.length x5) : Nat) : Int)])) = List.length (List.getD x2 (Int.toNat (List.getD x6 (Int.toNat x18) 0)) (([] : List Int)) ++ ([(((List.length x5) : Nat) : Int)]))) && decide (0 = 0)) true :: .e ({ val := dead, hb := (3, Blk.put (.arr (minT (lossT (hasOwn (part (upd (encW o_26 (([] : List Int)) x2) (Int.toNat (List.getD x6 (Int.toNat x18) 0)) (List.set (o_26 (List.getD x2 (Int.toNat (List.getD x6 (Int.toNat x18) 0)) (([] : List Int)))) 0 (.pv .bad)) (Int.toNat (List.getD x6 (Int.toNat x18) 0))) 0 1))) 0) 1 (List.length x2) (upd (encW o_26 (([] : List Int)) x2) (Int.toNat (List.getD x6 (Int.toNat x18) 0)) (List.set (o_26 (List.getD x2 (Int.toNat (List.getD x6 (Int.toNat x18) 0)) (([] : List Int)))) 0 (.pv .bad)))) [] (Int.toNat (List.getD x6 (Int.toNat x18) 0)) (fun cs => splice cs 0 [.own 1 (List.length (List.getD x2 (Int.toNat (List.getD x6 (Int.toNat x18) 0)) (([] : List Int)) ++ ([(((List.length x5) : Nat) : Int)]))) (encW o_i64 0 (List.getD x2 (Int.toNat (List.getD x6 (Int.toNat x18) 0)) (([] : List Int)) ++ ([(((List.length x5) : Nat) : Int)])))])) :: [(11, .gone)], sc := (bif hasOwn (part (upd (encW o_26 (([] : List Int)) x2) (Int.toNat (List.getD x6 (Int.toNat x18) 0)) (List.set (o_26 (List.getD x2 (Int.toNat (List.getD x6 (Int.toNat x18) 0)) (([] : List Int)))) 0 (.pv .bad)) (Int.toNat (List.getD x6 (Int.toNat x18) 0))) 0 1) then [(3, true)] else []) ++ [(11, false)] } : Eff) { val := dead, hb := [(3, .arr 0 1 (List.length x2) (encW o_26 ([] : List Int) (List.set x2 (Int.toNat (List.getD x6 (Int.toNat x18) 0)) (List.getD x2 (Int.toNat (List.getD x6 (Int.toNat x18) 0)) (([] : List Int)) ++ ([(((List.length x5) : Nat) : Int)]))))), (11, .gone)], sc := [(11, false)] } :: [])) (by kernel_rfl) (oks_cons c9 (oks_cons c10 (oks_cons c11 (oks_cons c12 (oks_cons c13 (oks_cons c14 (oks_cons c15 (oks_cons (eff_lit o_i64 0 10 1 1 ([(((List.length x5) : Nat) : Int)]) rfl _ _) (oks_cons (whole_ok (List.length ([(((List.length x5) : Nat) : Int)]))) (oks_cons c16 (oks_cons (eff_app o_i64 0 (List.getD x2 (Int.toNat (List.getD x6 (Int.toNat x18) 0)) (([] : List Int))) ([(((List.length x5) : Nat) : Int)]) (List.getD x2 (Int.toNat (List.getD x6 (Int.toNat x18) 0)) (([] : List Int)) ++ ([(((List.length x5) : Nat) : Int)])) 11 1 (List.length (List.getD x2 (Int.toNat (List.getD x6 (Int.toNat x18) 0)) (([] : List Int)))) (List.length ([(((List.length x5) : Nat) : Int)])) (fun i => List.map AV.scal (encW o_i64 0 ([(((List.length x5) : Nat) : Int)]) i)) (encW o_i64 0 (List.getD x2 (Int.toNat (List.getD x6 (Int.toNat x18) 0)) (([] : List Int))) (List.length (List.getD x2 (Int.toNat (List.getD x6 (Int.toNat x18) 0)) (([] : List Int))))) [(11, .arr 0 1 (List.length (List.getD x2 (Int.toNat (List.getD x6 (Int.toNat x18) 0)) (([] : List Int)))) (encW o_i64 0 (List.getD x2 (Int.toNat (List.getD x6 (Int.toNat x18) 0)) (([] : List Int))))), (3, .arr 0 1 (List.length x2) (upd (encW o_26 ([] : List Int) x2) (Int.toNat (List.getD x6 (Int.toNat x18) 0)) (List.set (o_26 (List.getD x2 (Int.toNat (List.getD x6 (Int.toNat x18) 0)) (([] : List Int)))) 0 (.pv .bad))))] [] [(3, true), (11, false)] (by first | exact Nat.le_refl _ | exact Nat.zero_le _ | (simp only [decide_eq_true_eq, List.length_set, List.length_append, List.length_replicate, List.length_cons, List.length_nil, Nat.zero_add] at * <;> omega)) rfl (fun _ => by kernel_rfl) (congrArg o_i64 (getD_ge 0 (by first | exact Nat.le_refl _ | exact Nat.zero_le _ | (simp only [decide_eq_true_eq, List.length_set, List.length_append, List.length_replicate, List.length_cons, List.length_nil, Nat.zero_add] at * <;> omega)))) (by rw [List.take_of_length_le (by first | exact Nat.le_refl _ | exact Nat.zero_le _ | (simp only [decide_eq_true_eq, List.length_set, List.length_append, List.length_replicate, List.length_cons, List.length_nil, Nat.zero_add] at * <;> omega))])) (oks_cons c14 (oks_cons c15 (oks_cons (ble_hole (encW o_26 (([] : List Int)) x2) (Int.toNat (List.getD x6 (Int.toNat x18) 0)) _ (List.set (o_26 (List.getD x2 (Int.toNat (List.getD x6 (Int.toNat x18) 0)) (([] : List Int)))) 0 (.pv .bad)) (by kernel_rfl)) (oks_cons (whole_ok (List.length (List.getD x2 (Int.toNat (List.getD x6 (Int.toNat x18) 0)) (([] : List Int)) ++ ([(((List.length x5) : Nat) : Int)])))) (oks_cons (eff_hole o_26 (([] : List Int)) 0 1 (List.length x2) x2 (Int.toNat (List.getD x6 (Int.toNat x18) 0)) 0 (List.set (o_26 (List.getD x2 (Int.toNat (List.getD x6 (Int.toNat x18) 0)) (([] : List Int)))) 0 (.pv .bad)) [.own 1 (List.length (List.getD x2 (Int.toNat (List.getD x6 (Int.toNat x18) 0)) (([] : List Int)) ++ ([(((List.length x5) : Nat) : Int)]))) (encW o_i64 0 (List.getD x2 (Int.toNat (List.getD x6 (Int.toNat x18) 0)) (([] : List Int)) ++ ([(((List.length x5) : Nat) : Int)])))] (List.getD x2 (Int.toNat (List.getD x6 (Int.toNat x18) 0)) (([] : List Int)) ++ ([(((List.length x5) : Nat) : Int)])) 3 1 _ _ (by kernel_rfl) (by kernel_rfl) (by first | exact Nat.le_refl _ | exact Nat.zero_le _ | (simp only [decide_eq_true_eq, List.length_set, List.length_append, List.length_replicate, List.length_cons, List.length_nil, Nat.zero_add] at * <;> omega))) oks_nil)))))))))))))))) (Loops.of (s1 := ⟨.ptr 0 [] 0 0 :: dead :: dead :: .ptr 4 [] 0 0 :: .ms 7 [] 0 (List.length x5) :: dead :: .ptr 8 [] 0 0 :: (List.replicate 25 dead ++ (.pv (.seq (List.length x14) (encP e_flow_Rule d_flow_Rule x14)) :: .pv (.int .i64 x15) :: .pv (.int .i64 x16) :: (List.replicate 20 dead ++ (.ms 9 [] 0 (List.length x6) :: .pv (.int .i64 x17) :: .pv (.int .i64 (iAdd x18 1)) :: List.replicate 90 dead)))), [.box 2 [.ms 1 [] 0 (List.length x0), .pv (.seq (List.length x7) (encP e_flow_Rule d_flow_Rule x7)), .ms 3 [] 0 (List.length x2), .pv (.fn 72)], .arr 2 1 (List.length x0) (encW o_u32 0#32 x0), .arr 2 1 (List.length x1) (encW o_26 ([] : List Int) x1), .arr 0 1 (List.length x2) (encW o_26 ([] : List Int) (List.set x2 (Int.toNat (List.getD x6 (Int.toNat x18) 0)) (List.getD x2 (Int.toNat (List.getD x6 (Int.toNat x18) 0)) (([] : List Int)) ++ ([(((List.length x5) : Nat) : Int)])))), .box 0 [.ms 5 [] 0 (List.length x3), .ms 6 [] 0 (List.length x4)], .arr 0 1 (List.length x3) (encW o_i64 0 x3), .arr 0 1 (List.length x4) (encW o_bool false x4), .arr 0 6 (List.length x5) (encW o_flow_Rule d_flow_Rule x5), .box 0 [.pv (.int .i64 x8), .pv (.int .i64 x9), .pv (.int .i64 x10), .pv (.int .u32 (BitVec.toNat x11 : Nat)), .pv (.int .u32 (BitVec.toNat x12 : Nat)), .pv (.int .u32 (BitVec.toNat x13 : Nat))], .arr 0 1 (List.length x6) (encW o_i64 0 x6)]⟩) (ih (List.set x2 (Int.toNat (List.getD x6 (Int.toNat x18) 0)) (List.getD x2 (Int.toNat (List.getD x6 (Int.toNat x18) 0)) (([] : List Int)) ++ ([(((List.length x5) : Nat) : Int)]))) (iAdd x18 1) _ h) (by (first | rfl | (simp only [List.length_set]; done))))
      · rw [if_neg c13] at h
        have c13 := not_true c13
        exact more_rounds mixed (L := lives) (f := 73) (script := (.keep :: .b true :: .keep :: .keep :: .b true :: .keep :: .keep :: .keep :: .keep :: .keep :: .keep :: .keep :: .keep :: .keep :: .keep :: .b false :: .keep :: [])) (l := (.t (decide ((x18 : Int) < x17)) true :: .t (decide ((0 : Int) ≤ x18)) true :: .t (decide ((x18 : Int) < (((List.length x6) : Nat) : Int))) true :: .t (decide (((List.getD x6 (Int.toNat x18) 0) : Int) ≥ 0)) true :: .t (decide (((List.getD x6 (Int.toNat x18) 0) : Int) < ((((List.length x0) : Nat) : Int)))) false :: [])) (by kernel_rfl) (oks_cons c9 (oks_cons c10 (oks_cons c11 (oks_cons c12 (oks_cons c13 oks_nil))))) (ih x2 (iAdd x18 1) _ h)
    · rw [if_neg c12] at h
      have c12 := not_true c12
      exact more_rounds mixed (L := lives) (f := 73) (script := (.keep :: .b true :: .keep :: .keep :: .b false :: .keep :: .keep :: .keep :: .keep :: .keep :: .keep :: .keep :: .keep :: .keep :: [])) (l := (.t (decide ((x18 : Int) < x17)) true :: .t (decide ((0 : Int) ≤ x18)) true :: .t (decide ((x18 : Int) < (((List.length x6) : Nat) : Int))) true :: .t (decide (((List.getD x6 (Int.toNat x18) 0) : Int) ≥ 0)) false :: [])) (by kernel_rfl) (oks_cons c9 (oks_cons c10 (oks_cons c11 (oks_cons c12 oks_nil)))) (ih x2 (iAdd x18 1) _ h)
  · rw [if_neg c9] at h
    have c9 := not_true c9
    have h := Option.some.inj h
    subst h
    exact last_round mixed (L := lives) (f := 73) (script := (.keep :: .b false :: [])) (l := (.t (decide ((x18 : Int) < x17)) false :: [])) (by kernel_rfl) (oks_cons c9 oks_nil) rfl
def flow_solver_solve_l9_F (F n : Nat) (x0 : List (BitVec 32)) (x1 : List (List Int)) (x2 : List (List Int)) (x3 : List Int) (x4 : List Bool) (x5 : List flow_Rule) (x6 : List Int) (x7 : List flow_Rule) (x8 : Int) (x9 : Int) (x10 : Int) (x11 : BitVec 32) (x12 : BitVec 32) (x13 : BitVec 32) (x14 : List flow_Rule) (x15 : Int) (x16 : Int) (x17 : Int) (x18 : Int) : Option ((List (List Int))) := match n with
  | 0 => none
  | n + 1 =>
    if (decide ((x18 : Int) < x17)) = true then
      if (decide ((0 : Int) ≤ x18)) = true then
        if (decide ((x18 : Int) < (((List.length x6) : Nat) : Int))) = true then
          if (decide (((List.getD x6 (Int.toNat x18) 0) : Int) ≥ 0)) = true then
            if (decide (((List.getD x6 (Int.toNat x18) 0) : Int) < ((((List.length x0) : Nat) : Int)))) = true then
              if (decide ((0 : Int) ≤ (List.getD x6 (Int.toNat x18) 0))) = true then
                if (decide (((List.getD x6 (Int.toNat x18) 0) : Int) < (((List.length x2) : Nat) : Int))) = true then
                  if (Nat.ble ((List.length (List.getD x2 (Int.toNat (List.getD x6 (Int.toNat x18) 0)) (([] : List Int))) + List.length ([(((List.length x5) : Nat) : Int)])) * 8) reach) = true then
                    flow_solver_solve_l9_F F n x0 x1 (List.set x2 (Int.toNat (List.getD x6 (Int.toNat x18) 0)) (List.getD x2 (Int.toNat (List.getD x6 (Int.toNat x18) 0)) (([] : List Int)) ++ ([(((List.length x5) : Nat) : Int)]))) x3 x4 x5 x6 x7 x8 x9 x10 x11 x12 x13 x14 x15 x16 x17 (iAdd x18 1)
                  else none
                else none
              else none
            else
              flow_solver_solve_l9_F F n x0 x1 x2 x3 x4 x5 x6 x7 x8 x9 x10 x11 x12 x13 x14 x15 x16 x17 (iAdd x18 1)
          else
            flow_solver_solve_l9_F F n x0 x1 x2 x3 x4 x5 x6 x7 x8 x9 x10 x11 x12 x13 x14 x15 x16 x17 (iAdd x18 1)
        else none
      else none
    else
      some x2
theorem flow_solver_solve_l9_le (F n : Nat) (x0 : List (BitVec 32)) (x1 : List (List Int)) (x2 : List (List Int)) (x3 : List Int) (x4 : List Bool) (x5 : List flow_Rule) (x6 : List Int) (x7 : List flow_Rule) (x8 : Int) (x9 : Int) (x10 : Int) (x11 : BitVec 32) (x12 : BitVec 32) (x13 : BitVec 32) (x14 : List flow_Rule) (x15 : Int) (x16 : Int) (x17 : Int) (x18 : Int) : Le (flow_solver_solve_l9_F F n x0 x1 x2 x3 x4 x5 x6 x7 x8 x9 x10 x11 x12 x13 x14 x15 x16 x17 x18) (flow_solver_solve_l9 x0 x1 x2 x3 x4 x5 x6 x7 x8 x9 x10 x11 x12 x13 x14 x15 x16 x17 x18) := by
  induction n generalizing x2 x18 with
  | zero => exact Le.none _
  | succ n ih => rw [flow_solver_solve_l9]; exact (Le.ite (Le.ite (Le.ite (Le.ite (Le.ite (Le.ite (Le.ite (Le.ite (ih (List.set x2 (Int.toNat (List.getD x6 (Int.toNat x18) 0)) (List.getD x2 (Int.toNat (List.getD x6 (Int.toNat x18) 0)) (([] : List Int)) ++ ([(((List.length x5) : Nat) : Int)]))) (iAdd x18 1)) (Le.none _)) (Le.none _)) (Le.none _)) (ih x2 (iAdd x18 1))) (ih x2 (iAdd x18 1))) (Le.none _)) (Le.none _)) (Le.refl _))
def e_u32 (x : BitVec 32) : List PV := [.int .u32 (BitVec.toNat x : Nat)]
/-- alibi/flow.at -/
def flow_at (v : List (BitVec 32)) (i : Int) : Option ((BitVec 32)) :=
  if (decide ((i : Int) < 0)) = true then
    some (0#32)
  else
    if (decide ((i : Int) ≥ (((List.length v : Nat) : Int)))) = true then
      some (0#32)
    else
      if (decide ((0 : Int) ≤ i)) = true then
        if (decide ((i : Int) < ((List.length v : Nat) : Int))) = true then
          some (List.getD v (Int.toNat i) (0#32))
        else none
      else none
theorem flow_at_ok (v : List (BitVec 32)) (i : Int) (r : (BitVec 32)) (h : flow_at v i = some r) : Does Try.prog 70 [.pv (.seq (List.length v) (encP e_u32 0#32 v)), .pv (.int .i64 i)] [] (.pv (.int .u32 (BitVec.toNat r : Nat)), []) := by
  unfold flow_at at h
  by_cases c1 : (decide ((i : Int) < 0)) = true
  · rw [if_pos c1] at h
    have h := Option.some.inj h
    subst h
    exact does mixed (L := lives) (script := (.keep :: .b true :: .keep :: .keep :: .keep :: .keep :: .keep :: [])) (l := (.t (decide ((i : Int) < 0)) true :: [])) (by kernel_rfl) (oks_cons c1 oks_nil)
  · rw [if_neg c1] at h
    have c1 := not_true c1
    by_cases c2 : (decide ((i : Int) ≥ (((List.length v : Nat) : Int)))) = true
    · rw [if_pos c2] at h
      have h := Option.some.inj h
      subst h
      exact does mixed (L := lives) (script := (.keep :: .b false :: .keep :: .keep :: .keep :: .keep :: .keep :: .keep :: .b true :: [])) (l := (.t (decide ((i : Int) < 0)) false :: .t (decide ((i : Int) ≥ (((List.length v : Nat) : Int)))) true :: [])) (by kernel_rfl) (oks_cons c1 (oks_cons c2 oks_nil))
    · rw [if_neg c2] at h
      have c2 := not_true c2
      by_cases c3 : (decide ((0 : Int) ≤ i)) = true
      case neg => rw [if_neg c3] at h; cases h
      rw [if_pos c3] at h
      by_cases c4 : (decide ((i : Int) < ((List.length v : Nat) : Int))) = true
      case neg => rw [if_neg c4] at h; cases h
      rw [if_pos c4] at h
      have h := Option.some.inj h
      subst h
      exact does mixed (L := lives) (script := (.keep :: .b false :: .keep :: .keep :: .keep :: .keep :: .keep :: .keep :: .b false :: .keep :: [])) (l := (.t (decide ((i : Int) < 0)) false :: .t (decide ((i : Int) ≥ (((List.length v : Nat) : Int)))) false :: .t (decide ((0 : Int) ≤ i)) true :: .t (decide ((i : Int) < ((List.length v : Nat) : Int))) true :: [])) (by kernel_rfl) (oks_cons c1 (oks_cons c2 (oks_cons c3 (oks_cons c4 oks_nil))))
def flow_at_F (F : Nat) (v : List (BitVec 32)) (i : Int) : Option ((BitVec 32)) :=
  if (decide ((i : Int) < 0)) = true then
    some (0#32)
  else
    if (decide ((i : Int) ≥ (((List.length v : Nat) : Int)))) = true then
      some (0#32)
    else
      if (decide ((0 : Int) ≤ i)) = true then
        if (decide ((i : Int) < ((List.length v : Nat) : Int))) = true then
          some (List.getD v (Int.toNat i) (0#32))
        else none
      else none
theorem flow_at_le (F : Nat) (v : List (BitVec 32)) (i : Int) : Le (flow_at_F F v i) (flow_at v i) := (Le.ite (Le.refl _) (Le.ite (Le.refl _) (Le.ite (Le.ite (Le.refl _) (Le.none _)) (Le.none _))))
/-- (alibi/flow.Rule).Value -/
def flow_Rule_Value (r1 : flow_Rule) (v : List (BitVec 32)) : Option ((BitVec 32)) :=
  bind (flow_at v r1.from_) fun v1 =>
  bind (flow_at v r1.also) fun v3 =>
  if (r1.if_ == (0#32)) = true then
    some (((v1 &&& r1.keep) ||| v3) ||| r1.then_)
  else
    if ((v1 &&& r1.if_) != (0#32)) = true then
      some (((v1 &&& r1.keep) ||| v3) ||| r1.then_)
    else
      some ((v1 &&& r1.keep) ||| v3)
theorem flow_Rule_Value_ok (r1 : flow_Rule) (v : List (BitVec 32)) (r : (BitVec 32)) (h : flow_Rule_Value r1 v = some r) : Does Try.prog 31 [.agg [.pv (.int .i64 r1.to_), .pv (.int .i64 r1.from_), .pv (.int .i64 r1.also), .pv (.int .u32 (BitVec.toNat r1.keep : Nat)), .pv (.int .u32 (BitVec.toNat r1.if_ : Nat)), .pv (.int .u32 (BitVec.toNat r1.then_ : Nat))], .pv (.seq (List.length v) (encP e_u32 0#32 v))] [] (.pv (.int .u32 (BitVec.toNat r : Nat)), []) := by
  unfold flow_Rule_Value at h
  obtain ⟨v1, h2, h⟩ := bind_of h
  obtain ⟨v3, h4, h⟩ := bind_of h
  by_cases c5 : (r1.if_ == (0#32)) = true
  · rw [if_pos c5] at h
    have h := Option.some.inj h
    subst h
    exact does mixed (L := lives) (script := (.keep :: .keep :: .c (.pv (.int .u32 (BitVec.toNat v1 : Nat))) [] :: .keep :: .keep :: .e { val := .pv (.int .u32 (BitVec.toNat (v1 &&& r1.keep) : Nat)) } :: .keep :: .c (.pv (.int .u32 (BitVec.toNat v3 : Nat))) [] :: .keep :: .e { val := .pv (.int .u32 (BitVec.toNat ((v1 &&& r1.keep) ||| v3) : Nat)) } :: .keep :: .e { val := .pv (.bool (r1.if_ == (0#32))) } :: .b true :: .keep :: .keep :: .keep :: .keep :: .keep :: .keep :: .keep :: .e { val := .pv (.int .u32 (BitVec.toNat (((v1 &&& r1.keep) ||| v3) ||| r1.then_) : Nat)) } :: [])) (l := (.c 70 [.pv (.seq (List.length v) (encP e_u32 0#32 v)), .pv (.int .i64 r1.from_)] [] (.pv (.int .u32 (BitVec.toNat v1 : Nat))) [] :: .e { val := .pv (.int .u32 (IntKind.wrap .u32 ((BitVec.ofInt 32 ((BitVec.toNat v1 : Nat) : Int) &&& BitVec.ofInt 32 ((BitVec.toNat r1.keep : Nat) : Int)).toNat : Nat))) } { val := .pv (.int .u32 (BitVec.toNat (v1 &&& r1.keep) : Nat)) } :: .c 70 [.pv (.seq (List.length v) (encP e_u32 0#32 v)), .pv (.int .i64 r1.also)] [] (.pv (.int .u32 (BitVec.toNat v3 : Nat))) [] :: .e { val := .pv (.int .u32 (IntKind.wrap .u32 ((BitVec.ofInt 32 ((BitVec.toNat (v1 &&& r1.keep) : Nat) : Int) ||| BitVec.ofInt 32 ((BitVec.toNat v3 : Nat) : Int)).toNat : Nat))) } { val := .pv (.int .u32 (BitVec.toNat ((v1 &&& r1.keep) ||| v3) : Nat)) } :: .e { val := .pv (.bool (((BitVec.toNat r1.if_ : Nat) : Int) == (BitVec.toNat (0#32) : Nat))) } { val := .pv (.bool (r1.if_ == (0#32))) } :: .t (r1.if_ == (0#32)) true :: .e { val := .pv (.int .u32 (IntKind.wrap .u32 ((BitVec.ofInt 32 ((BitVec.toNat ((v1 &&& r1.keep) ||| v3) : Nat) : Int) ||| BitVec.ofInt 32 ((BitVec.toNat r1.then_ : Nat) : Int)).toNat : Nat))) } { val := .pv (.int .u32 (BitVec.toNat (((v1 &&& r1.keep) ||| v3) ||| r1.then_) : Nat)) } :: [])) (by kernel_rfl) (oks_cons (flow_at_ok _ _ _ h2) (oks_cons (eff_int (un_and .u32 rfl v1 r1.keep)) (oks_cons (flow_at_ok _ _ _ h4) (oks_cons (eff_int (un_or .u32 rfl (v1 &&& r1.keep) v3)) (oks_cons (eff_bool (un_eql r1.if_ (0#32))) (oks_cons c5 (oks_cons (eff_int (un_or .u32 rfl ((v1 &&& r1.keep) ||| v3) r1.then_)) oks_nil)))))))
  · rw [if_neg c5] at h
    have c5 := not_true c5
    by_cases c6 : ((v1 &&& r1.if_) != (0#32)) = true
    · rw [if_pos c6] at h
      have h := Option.some.inj h
      subst h
      exact does mixed (L := lives) (script := (.keep :: .keep :: .c (.pv (.int .u32 (BitVec.toNat v1 : Nat))) [] :: .keep :: .keep :: .e { val := .pv (.int .u32 (BitVec.toNat (v1 &&& r1.keep) : Nat)) } :: .keep :: .c (.pv (.int .u32 (BitVec.toNat v3 : Nat))) [] :: .keep :: .e { val := .pv (.int .u32 (BitVec.toNat ((v1 &&& r1.keep) ||| v3) : Nat)) } :: .keep :: .e { val := .pv (.bool (r1.if_ == (0#32))) } :: .b false :: .keep :: .keep :: .keep :: .keep :: .e { val := .pv (.int .u32 (BitVec.toNat (v1 &&& r1.if_) : Nat)) } :: .keep :: .e { val := .pv (.bool ((v1 &&& r1.if_) != (0#32))) } :: .keep :: .b true :: .keep :: .e { val := .pv (.int .u32 (BitVec.toNat (((v1 &&& r1.keep) ||| v3) ||| r1.then_) : Nat)) } :: [])) (l := (.c 70 [.pv (.seq (List.length v) (encP e_u32 0#32 v)), .pv (.int .i64 r1.from_)] [] (.pv (.int .u32 (BitVec.toNat v1 : Nat))) [] :: .e { val := .pv (.int .u32 (IntKind.wrap .u32 ((BitVec.ofInt 32 ((BitVec.toNat v1 : Nat) : Int) &&& BitVec.ofInt 32 ((BitVec.toNat r1.keep : Nat) : Int)).toNat : Nat))) } { val := .pv (.int .u32 (BitVec.toNat (v1 &&& r1.keep) : Nat)) } :: .c 70 [.pv (.seq (List.length v) (encP e_u32 0#32 v)), .pv (.int .i64 r1.also)] [] (.pv (.int .u32 (BitVec.toNat v3 : Nat))) [] :: .e { val := .pv (.int .u32 (IntKind.wrap .u32 ((BitVec.ofInt 32 ((BitVec.toNat (v1 &&& r1.keep) : Nat) : Int) ||| BitVec.ofInt 32 ((BitVec.toNat v3 : Nat) : Int)).toNat : Nat))) } { val := .pv (.int .u32 (BitVec.toNat ((v1 &&& r1.keep) ||| v3) : Nat)) } :: .e { val := .pv (.bool (((BitVec.toNat r1.if_ : Nat) : Int) == (BitVec.toNat (0#32) : Nat))) } { val := .pv (.bool (r1.if_ == (0#32))) } :: .t (r1.if_ == (0#32)) false :: .e { val := .pv (.int .u32 (IntKind.wrap .u32 ((BitVec.ofInt 32 ((BitVec.toNat v1 : Nat) : Int) &&& BitVec.ofInt 32 ((BitVec.toNat r1.if_ : Nat) : Int)).toNat : Nat))) } { val := .pv (.int .u32 (BitVec.toNat (v1 &&& r1.if_) : Nat)) } :: .e { val := .pv (.bool (((BitVec.toNat (v1 &&& r1.if_) : Nat) : Int) != (BitVec.toNat (0#32) : Nat))) } { val := .pv (.bool ((v1 &&& r1.if_) != (0#32))) } :: .t ((v1 &&& r1.if_) != (0#32)) true :: .e { val := .pv (.int .u32 (IntKind.wrap .u32 ((BitVec.ofInt 32 ((BitVec.toNat ((v1 &&& r1.keep) ||| v3) : Nat) : Int) ||| BitVec.ofInt 32 ((BitVec.toNat r1.then_ : Nat) : Int)).toNat : Nat))) } { val := .pv (.int .u32 (BitVec.toNat (((v1 &&& r1.keep) ||| v3) ||| r1.then_) : Nat)) } :: [])) (by kernel_rfl) (oks_cons (flow_at_ok _ _ _ h2) (oks_cons (eff_int (un_and .u32 rfl v1 r1.keep)) (oks_cons (flow_at_ok _ _ _ h4) (oks_cons (eff_int (un_or .u32 rfl (v1 &&& r1.keep) v3)) (oks_cons (eff_bool (un_eql r1.if_ (0#32))) (oks_cons c5 (oks_cons (eff_int (un_and .u32 rfl v1 r1.if_)) (oks_cons (eff_bool (un_neq (v1 &&& r1.if_) (0#32))) (oks_cons c6 (oks_cons (eff_int (un_or .u32 rfl ((v1 &&& r1.keep) ||| v3) r1.then_)) oks_nil))))))))))
    · rw [if_neg c6] at h
      have c6 := not_true c6
      have h := Option.some.inj h
      subst h
      exact does mixed (L := lives) (script := (.keep :: .keep :: .c (.pv (.int .u32 (BitVec.toNat v1 : Nat))) [] :: .keep :: .keep :: .e { val := .pv (.int .u32 (BitVec.toNat (v1 &&& r1.keep) : Nat)) } :: .keep :: .c (.pv (.int .u32 (BitVec.toNat v3 : Nat))) [] :: .keep :: .e { val := .pv (.int .u32 (BitVec.toNat ((v1 &&& r1.keep) ||| v3) : Nat)) } :: .keep :: .e { val := .pv (.bool (r1.if_ == (0#32))) } :: .b false :: .keep :: .keep :: .keep :: .keep :: .e { val := .pv (.int .u32 (BitVec.toNat (v1 &&& r1.if_) : Nat)) } :: .keep :: .e { val := .pv (.bool ((v1 &&& r1.if_) != (0#32))) } :: .keep :: .b false :: [])) (l := (.c 70 [.pv (.seq (List.length v) (encP e_u32 0#32 v)), .pv (.int .i64 r1.from_)] [] (.pv (.int .u32 (BitVec.toNat v1 : Nat))) [] :: .e { val := .pv (.int .u32 (IntKind.wrap .u32 ((BitVec.ofInt 32 ((BitVec.toNat v1 : Nat) : Int) &&& BitVec.ofInt 32 ((BitVec.toNat r1.keep : Nat) : Int)).toNat : Nat))) } { val := .pv (.int .u32 (BitVec.toNat (v1 &&& r1.keep) : Nat)) } :: .c 70 [.pv (.seq (List.length v) (encP e_u32 0#32 v)), .pv (.int .i64 r1.also)] [] (.pv (.int .u32 (BitVec.toNat v3 : Nat))) [] :: .e { val := .pv (.int .u32 (IntKind.wrap .u32 ((BitVec.ofInt 32 ((BitVec.toNat (v1 &&& r1.keep) : Nat) : Int) ||| BitVec.ofInt 32 ((BitVec.toNat v3 : Nat) : Int)).toNat : Nat))) } { val := .pv (.int .u32 (BitVec.toNat ((v1 &&& r1.keep) ||| v3) : Nat)) } :: .e { val := .pv (.bool (((BitVec.toNat r1.if_ : Nat) : Int) == (BitVec.toNat (0#32) : Nat))) } { val := .pv (.bool (r1.if_ == (0#32))) } :: .t (r1.if_ == (0#32)) false :: .e { val := .pv (.int .u32 (IntKind.wrap .u32 ((BitVec.ofInt 32 ((BitVec.toNat v1 : Nat) : Int) &&& BitVec.ofInt 32 ((BitVec.toNat r1.if_ : Nat) : Int)).toNat : Nat))) } { val := .pv (.int .u32 (BitVec.toNat (v1 &&& r1.if_) : Nat)) } :: .e { val := .pv (.bool (((BitVec.toNat (v1 &&& r1.if_) : Nat) : Int) != (BitVec.toNat (0#32) : Nat))) } { val := .pv (.bool ((v1 &&& r1.if_) != (0#32))) } :: .t ((v1 &&& r1.if_) != (0#32)) false :: [])) (by kernel_rfl) (oks_cons (flow_at_ok _ _ _ h2) (oks_cons (eff_int (un_and .u32 rfl v1 r1.keep)) (oks_cons (flow_at_ok _ _ _ h4) (oks_cons (eff_int (un_or .u32 rfl (v1 &&& r1.keep) v3)) (oks_cons (eff_bool (un_eql r1.if_ (0#32))) (oks_cons c5 (oks_cons (eff_int (un_and .u32 rfl v1 r1.if_)) (oks_cons (eff_bool (un_neq (v1 &&& r1.if_) (0#32))) (oks_cons c6 oks_nil)))))))))
def flow_Rule_Value_F (F : Nat) (r1 : flow_Rule) (v : List (BitVec 32)) : Option ((BitVec 32)) :=
  bind (flow_at_F F v r1.from_) fun v1 =>
  bind (flow_at_F F v r1.also) fun v3 =>
  if (r1.if_ == (0#32)) = true then
    some (((v1 &&& r1.keep) ||| v3) ||| r1.then_)
  else
    if ((v1 &&& r1.if_) != (0#32)) = true then
      some (((v1 &&& r1.keep) ||| v3) ||| r1.then_)
    else
      some ((v1 &&& r1.keep) ||| v3)
theorem flow_Rule_Value_le (F : Nat) (r1 : flow_Rule) (v : List (BitVec 32)) : Le (flow_Rule_Value_F F r1 v) (flow_Rule_Value r1 v) := (Le.bind (flow_at_le F _ _) fun v1 => (Le.bind (flow_at_le F _ _) fun v3 => (Le.ite (Le.refl _) (Le.ite (Le.refl _) (Le.refl _)))))
/-- alibi/flow.meet -/
def flow_meet (a : BitVec 32) (b : BitVec 32) : Option ((BitVec 32)) :=
  some (a &&& b)
theorem flow_meet_ok (a : BitVec 32) (b : BitVec 32) (r : (BitVec 32)) (h : flow_meet a b = some r) : Does Try.prog 72 [.pv (.int .u32 (BitVec.toNat a : Nat)), .pv (.int .u32 (BitVec.toNat b : Nat))] [] (.pv (.int .u32 (BitVec.toNat r : Nat)), []) := by
  unfold flow_meet at h
  have h := Option.some.inj h
  subst h
  exact does mixed (L := lives) (script := (.e { val := .pv (.int .u32 (BitVec.toNat (a &&& b) : Nat)) } :: [])) (l := (.e { val := .pv (.int .u32 (IntKind.wrap .u32 ((BitVec.ofInt 32 ((BitVec.toNat a : Nat) : Int) &&& BitVec.ofInt 32 ((BitVec.toNat b : Nat) : Int)).toNat : Nat))) } { val := .pv (.int .u32 (BitVec.toNat (a &&& b) : Nat)) } :: [])) (by kernel_rfl) (oks_cons (eff_int (un_and .u32 rfl a b)) oks_nil)
def flow_meet_F (F : Nat) (a : BitVec 32) (b : BitVec 32) : Option ((BitVec 32)) :=
  some (a &&& b)
theorem flow_meet_le (F : Nat) (a : BitVec 32) (b : BitVec 32) : Le (flow_meet_F F a b) (flow_meet a b) := (Le.refl _)
/-- (*alibi/flow.solver).apply -/
def flow_solver_apply (l1 : List (BitVec 32)) (l2 : List (List Int)) (b0 : List flow_Rule) (r1 : flow_Rule) : Option (Bool × (List (BitVec 32))) :=
  if (decide ((0 : Int) ≤ r1.to_)) = true then
    if (decide ((r1.to_ : Int) < (((List.length l1) : Nat) : Int))) = true then
      bind (flow_Rule_Value r1 l1) fun v3 =>
      bind (flow_meet (List.getD l1 (Int.toNat r1.to_) (0#32)) v3) fun v5 =>
      some ((List.getD (List.set l1 (Int.toNat r1.to_) v5) (Int.toNat r1.to_) (0#32)) != (List.getD l1 (Int.toNat r1.to_) (0#32)), List.set l1 (Int.toNat r1.to_) v5)
    else none
  else none
theorem flow_solver_apply_ok (l1 : List (BitVec 32)) (l2 : List (List Int)) (b0 : List flow_Rule) (r1 : flow_Rule) (r : Bool × (List (BitVec 32))) (h : flow_solver_apply l1 l2 b0 r1 = some r) : Does Try.prog 110 [.ptr 0 [] 0 0, .agg [.pv (.int .i64 r1.to_), .pv (.int .i64 r1.from_), .pv (.int .i64 r1.also), .pv (.int .u32 (BitVec.toNat r1.keep : Nat)), .pv (.int .u32 (BitVec.toNat r1.if_ : Nat)), .pv (.int .u32 (BitVec.toNat r1.then_ : Nat))]] [.box 2 [.ms 1 [] 0 (List.length l1), .pv (.seq (List.length b0) (encP e_flow_Rule d_flow_Rule b0)), .ms 2 [] 0 (List.length l2), .pv (.fn 72)], .arr 2 1 (List.length l1) (encW o_u32 0#32 l1), .arr 2 1 (List.length l2) (encW o_26 ([] : List Int) l2)] (.pv (.bool r.1), [.box 2 [.ms 1 [] 0 (List.length r.2), .pv (.seq (List.length b0) (encP e_flow_Rule d_flow_Rule b0)), .ms 2 [] 0 (List.length l2), .pv (.fn 72)], .arr 2 1 (List.length r.2) (encW o_u32 0#32 r.2), .arr 2 1 (List.length l2) (encW o_26 ([] : List Int) l2)]) := by
  unfold flow_solver_apply at h
  by_cases c1 : (decide ((0 : Int) ≤ r1.to_)) = true
  case neg => rw [if_neg c1] at h; cases h
  rw [if_pos c1] at h
  by_cases c2 : (decide ((r1.to_ : Int) < (((List.length l1) : Nat) : Int))) = true
  case neg => rw [if_neg c2] at h; cases h
  rw [if_pos c2] at h
  obtain ⟨v3, h4, h⟩ := bind_of h
  obtain ⟨v5, h6, h⟩ := bind_of h
  have h := Option.some.inj h
  subst h
  refine Does.eq (does mixed (L := lives) (script := (.keep :: .keep :: .keep :: .keep :: .keep :: .keep :: .keep :: .keep :: .keep :: .b true :: .c (.pv (.int .u32 (BitVec.toNat v3 : Nat))) [] :: .keep :: .c (.pv (.int .u32 (BitVec.toNat v5 : Nat))) [] :: .keep :: .e { val := dead, hb := [(1, .arr 2 1 (List.length l1) (encW o_u32 0#32 (List.set l1 (Int.toNat r1.to_) v5)))], sc := [] } :: .keep :: .keep :: .keep :: .e { val := .pv (.bool ((List.getD (List.set l1 (Int.toNat r1.to_) v5) (Int.toNat r1.to_) (0#32)) != (List.getD l1 (Int.toNat r1.to_) (0#32)))) } :: [])) (l := (.t (decide ((0 : Int) ≤ r1.to_)) true :: .t (decide ((r1.to_ : Int) < (((List.length l1) : Nat) : Int))) true :: .t (decide (List.length l1 = List.length l1) && decide (0 = 0)) true :: .c 31 [.agg [.pv (.int .i64 r1.to_), .pv (.int .i64 r1.from_), .pv (.int .i64 r1.also), .pv (.int .u32 (BitVec.toNat r1.keep : Nat)), .pv (.int .u32 (BitVec.toNat r1.if_ : Nat)), .pv (.int .u32 (BitVec.toNat r1.then_ : Nat))], .pv (.seq (List.length l1) (encP e_u32 (0#32) l1))] [] (.pv (.int .u32 (BitVec.toNat v3 : Nat))) [] :: .c 72 [.pv (.int .u32 (BitVec.toNat (List.getD l1 (Int.toNat r1.to_) (0#32)) : Nat)), .pv (.int .u32 (BitVec.toNat v3 : Nat))] [] (.pv (.int .u32 (BitVec.toNat v5 : Nat))) [] :: .t (decide ((0 : Int) ≤ r1.to_)) true :: .t (decide ((r1.to_ : Int) < (((List.length l1) : Nat) : Int))) true :: .t true true :: .e { val := dead, hb := [(1, Blk.put (.arr 2 1 (List.length l1) (encW o_u32 0#32 l1)) [] (Int.toNat r1.to_) (fun cs => splice cs 0 [.pv (.int .u32 (BitVec.toNat v5 : Nat))]))], sc := [] } { val := dead, hb := [(1, .arr 2 1 (List.length l1) (encW o_u32 0#32 (List.set l1 (Int.toNat r1.to_) v5)))], sc := [] } :: .t (decide ((0 : Int) ≤ r1.to_)) true :: .t (decide ((r1.to_ : Int) < (((List.length l1) : Nat) : Int))) true :: .e { val := .pv (.bool (((BitVec.toNat (List.getD (List.set l1 (Int.toNat r1.to_) v5) (Int.toNat r1.to_) (0#32)) : Nat) : Int) != (BitVec.toNat (List.getD l1 (Int.toNat r1.to_) (0#32)) : Nat))) } { val := .pv (.bool ((List.getD (List.set l1 (Int.toNat r1.to_) v5) (Int.toNat r1.to_) (0#32)) != (List.getD l1 (Int.toNat r1.to_) (0#32)))) } :: [])) (r := (.pv (.bool ((List.getD (List.set l1 (Int.toNat r1.to_) v5) (Int.toNat r1.to_) (0#32)) != (List.getD l1 (Int.toNat r1.to_) (0#32)))), [.box 2 [.ms 1 [] 0 (List.length l1), .pv (.seq (List.length b0) (encP e_flow_Rule d_flow_Rule b0)), .ms 2 [] 0 (List.length l2), .pv (.fn 72)], .arr 2 1 (List.length l1) (encW o_u32 0#32 (List.set l1 (Int.toNat r1.to_) v5)), .arr 2 1 (List.length l2) (encW o_26 ([] : List Int) l2)])) (by kernel_rfl) (oks_cons c1 (oks_cons c2 (oks_cons (whole_ok (List.length l1)) (oks_cons (Does.of (flow_Rule_Value_ok _ _ _ h4) (by (first | rfl | (simp only [List.length_set]; done)))) (oks_cons (flow_meet_ok _ _ _ h6) (oks_cons c1 (oks_cons c2 (oks_cons rfl (oks_cons (eff_hb (put_top o_u32 (0#32) 2 1 (List.length l1) l1 (Int.toNat r1.to_) 0 [.pv (.int .u32 (BitVec.toNat v5 : Nat))] v5 (by kernel_rfl) (by first | exact Nat.le_refl _ | exact Nat.zero_le _ | (simp only [decide_eq_true_eq, List.length_set, List.length_append, List.length_replicate, List.length_cons, List.length_nil, Nat.zero_add] at * <;> omega)))) (oks_cons c1 (oks_cons c2 (oks_cons (eff_bool (un_neq (List.getD (List.set l1 (Int.toNat r1.to_) v5) (Int.toNat r1.to_) (0#32)) (List.getD l1 (Int.toNat r1.to_) (0#32)))) oks_nil))))))))))))) ?_
  (first | rfl | (simp only [List.length_set]; done))
def flow_solver_apply_F (F : Nat) (l1 : List (BitVec 32)) (l2 : List (List Int)) (b0 : List flow_Rule) (r1 : flow_Rule) : Option (Bool × (List (BitVec 32))) :=
  if (decide ((0 : Int) ≤ r1.to_)) = true then
    if (decide ((r1.to_ : Int) < (((List.length l1) : Nat) : Int))) = true then
      bind (flow_Rule_Value_F F r1 l1) fun v3 =>
      bind (flow_meet_F F (List.getD l1 (Int.toNat r1.to_) (0#32)) v3) fun v5 =>
      some ((List.getD (List.set l1 (Int.toNat r1.to_) v5) (Int.toNat r1.to_) (0#32)) != (List.getD l1 (Int.toNat r1.to_) (0#32)), List.set l1 (Int.toNat r1.to_) v5)
    else none
  else none
theorem flow_solver_apply_le (F : Nat) (l1 : List (BitVec 32)) (l2 : List (List Int)) (b0 : List flow_Rule) (r1 : flow_Rule) : Le (flow_solver_apply_F F l1 l2 b0 r1) (flow_solver_apply l1 l2 b0 r1) := (Le.ite (Le.ite (Le.bind (flow_Rule_Value_le F _ _) fun v3 => (Le.bind (flow_meet_le F _ _) fun v5 => (Le.refl _))) (Le.none _)) (Le.none _))
/-- (*alibi/flow.todo).Push -/
def flow_todo_Push (l1 : List Int) (l2 : List Bool) (x : Int) : Option ((List Int)) :=
  if (Nat.ble ((List.length l1 + List.length ([x])) * 8) reach) = true then
    some (l1 ++ ([x]))
  else none
theorem flow_todo_Push_ok (l1 : List Int) (l2 : List Bool) (x : Int) (r : (List Int)) (h : flow_todo_Push l1 l2 x = some r) : Does Try.prog 153 [.ptr 0 [] 0 0, .ifc 3 (.pv (.int .i64 x))] [.box 2 [.ms 1 [] 0 (List.length l1), .ms 2 [] 0 (List.length l2)], .arr 2 1 (List.length l1) (encW o_i64 0 l1), .arr 2 1 (List.length l2) (encW o_bool false l2)] (.tup [], [.box 2 [.ms 1 [] 0 (List.length r), .ms 2 [] 0 (List.length l2)], .arr 0 1 (List.length r) (encW o_i64 0 r), .arr 2 1 (List.length l2) (encW o_bool false l2)]) := by
  unfold flow_todo_Push at h
  by_cases c1 : (Nat.ble ((List.length l1 + List.length ([x])) * 8) reach) = true
  case neg => rw [if_neg c1] at h; cases h
  rw [if_pos c1] at h
  have h := Option.some.inj h
  subst h
  exact does mixed (L := lives) (script := (.keep :: .e { val := .ms 3 [] 0 (List.length ([x])), hb := [(3, .arr 0 1 (List.length ([x])) (encW o_i64 0 ([x])))], sc := [] } :: .b true :: .e { val := .ms 1 [] 0 (List.length (l1 ++ ([x]))), hb := [] ++ ((1, .arr 0 1 (List.length (l1 ++ ([x]))) (encW o_i64 0 (l1 ++ ([x])))) :: []), sc := [(1, false)] } :: .keep :: [])) (l := (.e { val := .ms 3 [] 0 1, hb := [(3, .arr 0 1 1 (litF (o_i64 0) (List.map o_i64 [x])))], sc := [] } { val := .ms 3 [] 0 (List.length ([x])), hb := [(3, .arr 0 1 (List.length ([x])) (encW o_i64 0 ([x])))], sc := [] } :: .t (decide (List.length ([x]) = List.length ([x])) && decide (0 = 0)) true :: .t (Nat.ble ((List.length l1 + List.length ([x])) * 8) reach) true :: .e ({ val := .ms 1 [] 0 (List.length l1 + List.length ([x])), hb := [] ++ ((1, .arr 0 1 (List.length l1 + List.length ([x])) (app (List.length l1) (encW o_i64 0 l1) (List.length ([x])) (fun i => List.map AV.scal (encW o_i64 0 ([x]) i)) (encW o_i64 0 l1 (List.length l1)))) :: []), sc := [(1, false)] } : Eff) { val := .ms 1 [] 0 (List.length (l1 ++ ([x]))), hb := [] ++ ((1, .arr 0 1 (List.length (l1 ++ ([x]))) (encW o_i64 0 (l1 ++ ([x])))) :: []), sc := [(1, false)] } :: [])) (by kernel_rfl) (oks_cons (eff_lit o_i64 0 3 1 1 ([x]) rfl _ _) (oks_cons (whole_ok (List.length ([x]))) (oks_cons c1 (oks_cons (eff_app o_i64 0 l1 ([x]) (l1 ++ ([x])) 1 1 (List.length l1) (List.length ([x])) (fun i => List.map AV.scal (encW o_i64 0 ([x]) i)) (encW o_i64 0 l1 (List.length l1)) [] [] [(1, false)] (by first | exact Nat.le_refl _ | exact Nat.zero_le _ | (simp only [decide_eq_true_eq, List.length_set, List.length_append, List.length_replicate, List.length_cons, List.length_nil, Nat.zero_add] at * <;> omega)) rfl (fun _ => by kernel_rfl) (congrArg o_i64 (getD_ge 0 (by first | exact Nat.le_refl _ | exact Nat.zero_le _ | (simp only [decide_eq_true_eq, List.length_set, List.length_append, List.length_replicate, List.length_cons, List.length_nil, Nat.zero_add] at * <;> omega)))) (by rw [List.take_of_length_le (by first | exact Nat.le_refl _ | exact Nat.zero_le _ | (simp only [decide_eq_true_eq, List.length_set, List.length_append, List.length_replicate, List.length_cons, List.length_nil, Nat.zero_add] at * <;> omega))])) oks_nil))))
def flow_todo_Push_F (F : Nat) (l1 : List Int) (l2 : List Bool) (x : Int) : Option ((List Int)) :=
  if (Nat.ble ((List.length l1 + List.length ([x])) * 8) reach) = true then
    some (l1 ++ ([x]))
  else none
theorem flow_todo_Push_le (F : Nat) (l1 : List Int) (l2 : List Bool) (x : Int) : Le (flow_todo_Push_F F l1 l2 x) (flow_todo_Push l1 l2 x) := (Le.ite (Le.refl _) (Le.none _))
/-- (*alibi/flow.todo).Len -/
def flow_todo_Len (l1 : List Int) (l2 : List Bool) : Option (Int) :=
  some ((((List.length l1) : Nat) : Int))
theorem flow_todo_Len_ok (l1 : List Int) (l2 : List Bool) (r : Int) (h : flow_todo_Len l1 l2 = some r) : Does Try.prog 112 [.ptr 0 [] 0 0] [.box 2 [.ms 1 [] 0 (List.length l1), .ms 2 [] 0 (List.length l2)], .arr 2 1 (List.length l1) (encW o_i64 0 l1), .arr 2 1 (List.length l2) (encW o_bool false l2)] (.pv (.int .i64 r), [.box 2 [.ms 1 [] 0 (List.length l1), .ms 2 [] 0 (List.length l2)], .arr 2 1 (List.length l1) (encW o_i64 0 l1), .arr 2 1 (List.length l2) (encW o_bool false l2)]) := by
  unfold flow_todo_Len at h
  have h := Option.some.inj h
  subst h
  exact does mixed (L := lives) (script := (.keep :: .keep :: [])) (l := ([])) (by kernel_rfl) oks_nil
def flow_todo_Len_F (F : Nat) (l1 : List Int) (l2 : List Bool) : Option (Int) :=
  some ((((List.length l1) : Nat) : Int))
theorem flow_todo_Len_le (F : Nat) (l1 : List Int) (l2 : List Bool) : Le (flow_todo_Len_F F l1 l2) (flow_todo_Len l1 l2) := (Le.refl _)
/-- (*alibi/flow.todo).Less -/
def flow_todo_Less (l1 : List Int) (l2 : List Bool) (i : Int) (k : Int) : Option (Bool) :=
  if (decide ((0 : Int) ≤ i)) = true then
    if (decide ((i : Int) < (((List.length l1) : Nat) : Int))) = true then
      if (decide ((0 : Int) ≤ k)) = true then
        if (decide ((k : Int) < (((List.length l1) : Nat) : Int))) = true then
          some (decide (((List.getD l1 (Int.toNat i) 0) : Int) < (List.getD l1 (Int.toNat k) 0)))
        else none
      else none
    else none
  else none
theorem flow_todo_Less_ok (l1 : List Int) (l2 : List Bool) (i : Int) (k : Int) (r : Bool) (h : flow_todo_Less l1 l2 i k = some r) : Does Try.prog 151 [.ptr 0 [] 0 0, .pv (.int .i64 i), .pv (.int .i64 k)] [.box 2 [.ms 1 [] 0 (List.length l1), .ms 2 [] 0 (List.length l2)], .arr 2 1 (List.length l1) (encW o_i64 0 l1), .arr 2 1 (List.length l2) (encW o_bool false l2)] (.pv (.bool r), [.box 2 [.ms 1 [] 0 (List.length l1), .ms 2 [] 0 (List.length l2)], .arr 2 1 (List.length l1) (encW o_i64 0 l1), .arr 2 1 (List.length l2) (encW o_bool false l2)]) := by
  unfold flow_todo_Less at h
  by_cases c1 : (decide ((0 : Int) ≤ i)) = true
  case neg => rw [if_neg c1] at h; cases h
  rw [if_pos c1] at h
  by_cases c2 : (decide ((i : Int) < (((List.length l1) : Nat) : Int))) = true
  case neg => rw [if_neg c2] at h; cases h
  rw [if_pos c2] at h
  by_cases c3 : (decide ((0 : Int) ≤ k)) = true
  case neg => rw [if_neg c3] at h; cases h
  rw [if_pos c3] at h
  by_cases c4 : (decide ((k : Int) < (((List.length l1) : Nat) : Int))) = true
  case neg => rw [if_neg c4] at h; cases h
  rw [if_pos c4] at h
  have h := Option.some.inj h
  subst h
  exact does mixed (L := lives) (script := (.keep :: .keep :: .keep :: .keep :: .keep :: [])) (l := (.t (decide ((0 : Int) ≤ i)) true :: .t (decide ((i : Int) < (((List.length l1) : Nat) : Int))) true :: .t (decide ((0 : Int) ≤ k)) true :: .t (decide ((k : Int) < (((List.length l1) : Nat) : Int))) true :: [])) (by kernel_rfl) (oks_cons c1 (oks_cons c2 (oks_cons c3 (oks_cons c4 oks_nil))))
def flow_todo_Less_F (F : Nat) (l1 : List Int) (l2 : List Bool) (i : Int) (k : Int) : Option (Bool) :=
  if (decide ((0 : Int) ≤ i)) = true then
    if (decide ((i : Int) < (((List.length l1) : Nat) : Int))) = true then
      if (decide ((0 : Int) ≤ k)) = true then
        if (decide ((k : Int) < (((List.length l1) : Nat) : Int))) = true then
          some (decide (((List.getD l1 (Int.toNat i) 0) : Int) < (List.getD l1 (Int.toNat k) 0)))
        else none
      else none
    else none
  else none
theorem flow_todo_Less_le (F : Nat) (l1 : List Int) (l2 : List Bool) (i : Int) (k : Int) : Le (flow_todo_Less_F F l1 l2 i k) (flow_todo_Less l1 l2 i k) := (Le.ite (Le.ite (Le.ite (Le.ite (Le.refl _) (Le.none _)) (Le.none _)) (Le.none _)) (Le.none _))
/-- (*alibi/flow.todo).Swap -/
def flow_todo_Swap (l1 : List Int) (l2 : List Bool) (i : Int) (k : Int) : Option ((List Int)) :=
  if (decide ((0 : Int) ≤ k)) = true then
    if (decide ((k : Int) < (((List.length l1) : Nat) : Int))) = true then
      if (decide ((0 : Int) ≤ i)) = true then
        if (decide ((i : Int) < (((List.length l1) : Nat) : Int))) = true then
          some (List.set (List.set l1 (Int.toNat i) (List.getD l1 (Int.toNat k) 0)) (Int.toNat k) (List.getD l1 (Int.toNat i) 0))
        else none
      else none
    else none
  else none
theorem flow_todo_Swap_ok (l1 : List Int) (l2 : List Bool) (i : Int) (k : Int) (r : (List Int)) (h : flow_todo_Swap l1 l2 i k = some r) : Does Try.prog 154 [.ptr 0 [] 0 0, .pv (.int .i64 i), .pv (.int .i64 k)] [.box 2 [.ms 1 [] 0 (List.length l1), .ms 2 [] 0 (List.length l2)], .arr 2 1 (List.length l1) (encW o_i64 0 l1), .arr 2 1 (List.length l2) (encW o_bool false l2)] (.tup [], [.box 2 [.ms 1 [] 0 (List.length r), .ms 2 [] 0 (List.length l2)], .arr 2 1 (List.length r) (encW o_i64 0 r), .arr 2 1 (List.length l2) (encW o_bool false l2)]) := by
  unfold flow_todo_Swap at h
  by_cases c1 : (decide ((0 : Int) ≤ k)) = true
  case neg => rw [if_neg c1] at h; cases h
  rw [if_pos c1] at h
  by_cases c2 : (decide ((k : Int) < (((List.length l1) : Nat) : Int))) = true
  case neg => rw [if_neg c2] at h; cases h
  rw [if_pos c2] at h
  by_cases c3 : (decide ((0 : Int) ≤ i)) = true
  case neg => rw [if_neg c3] at h; cases h
  rw [if_pos c3] at h
  by_cases c4 : (decide ((i : Int) < (((List.length l1) : Nat) : Int))) = true
  case neg => rw [if_neg c4] at h; cases h
  rw [if_pos c4] at h
  have h := Option.some.inj h
  subst h
  refine Does.eq (does mixed (L := lives) (script := (.keep :: .keep :: .keep :: .keep :: .keep :: .keep :: .e { val := dead, hb := [(1, .arr 2 1 (List.length l1) (encW o_i64 0 (List.set l1 (Int.toNat i) (List.getD l1 (Int.toNat k) 0))))], sc := [] } :: .e { val := dead, hb := [(1, .arr 2 1 (List.length l1) (encW o_i64 0 (List.set (List.set l1 (Int.toNat i) (List.getD l1 (Int.toNat k) 0)) (Int.toNat k) (List.getD l1 (Int.toNat i) 0))))], sc := [] } :: [])) (l := (.t (decide ((0 : Int) ≤ k)) true :: .t (decide ((k : Int) < (((List.length l1) : Nat) : Int))) true :: .t (decide ((0 : Int) ≤ i)) true :: .t (decide ((i : Int) < (((List.length l1) : Nat) : Int))) true :: .t (decide ((0 : Int) ≤ i)) true :: .t (decide ((i : Int) < (((List.length l1) : Nat) : Int))) true :: .t true true :: .e { val := dead, hb := [(1, Blk.put (.arr 2 1 (List.length l1) (encW o_i64 0 l1)) [] (Int.toNat i) (fun cs => splice cs 0 [.pv (.int .i64 (List.getD l1 (Int.toNat k) 0))]))], sc := [] } { val := dead, hb := [(1, .arr 2 1 (List.length l1) (encW o_i64 0 (List.set l1 (Int.toNat i) (List.getD l1 (Int.toNat k) 0))))], sc := [] } :: .t (decide ((0 : Int) ≤ k)) true :: .t (decide ((k : Int) < (((List.length l1) : Nat) : Int))) true :: .t true true :: .e { val := dead, hb := [(1, Blk.put (.arr 2 1 (List.length l1) (encW o_i64 0 (List.set l1 (Int.toNat i) (List.getD l1 (Int.toNat k) 0)))) [] (Int.toNat k) (fun cs => splice cs 0 [.pv (.int .i64 (List.getD l1 (Int.toNat i) 0))]))], sc := [] } { val := dead, hb := [(1, .arr 2 1 (List.length l1) (encW o_i64 0 (List.set (List.set l1 (Int.toNat i) (List.getD l1 (Int.toNat k) 0)) (Int.toNat k) (List.getD l1 (Int.toNat i) 0))))], sc := [] } :: [])) (r := (.tup [], [.box 2 [.ms 1 [] 0 (List.length l1), .ms 2 [] 0 (List.length l2)], .arr 2 1 (List.length l1) (encW o_i64 0 (List.set (List.set l1 (Int.toNat i) (List.getD l1 (Int.toNat k) 0)) (Int.toNat k) (List.getD l1 (Int.toNat i) 0))), .arr 2 1 (List.length l2) (encW o_bool false l2)])) (by kernel_rfl) (oks_cons c1 (oks_cons c2 (oks_cons c3 (oks_cons c4 (oks_cons c3 (oks_cons c4 (oks_cons rfl (oks_cons (eff_hb (put_top o_i64 0 2 1 (List.length l1) l1 (Int.toNat i) 0 [.pv (.int .i64 (List.getD l1 (Int.toNat k) 0))] (List.getD l1 (Int.toNat k) 0) (by kernel_rfl) (by first | exact Nat.le_refl _ | exact Nat.zero_le _ | (simp only [decide_eq_true_eq, List.length_set, List.length_append, List.length_replicate, List.length_cons, List.length_nil, Nat.zero_add] at * <;> omega)))) (oks_cons c1 (oks_cons c2 (oks_cons rfl (oks_cons (eff_hb (put_top o_i64 0 2 1 (List.length l1) (List.set l1 (Int.toNat i) (List.getD l1 (Int.toNat k) 0)) (Int.toNat k) 0 [.pv (.int .i64 (List.getD l1 (Int.toNat i) 0))] (List.getD l1 (Int.toNat i) 0) (by kernel_rfl) (by first | exact Nat.le_refl _ | exact Nat.zero_le _ | (simp only [decide_eq_true_eq, List.length_set, List.length_append, List.length_replicate, List.length_cons, List.length_nil, Nat.zero_add] at * <;> omega)))) oks_nil))))))))))))) ?_
  (first | rfl | (simp only [List.length_set]; done))
def flow_todo_Swap_F (F : Nat) (l1 : List Int) (l2 : List Bool) (i : Int) (k : Int) : Option ((List Int)) :=
  if (decide ((0 : Int) ≤ k)) = true then
    if (decide ((k : Int) < (((List.length l1) : Nat) : Int))) = true then
      if (decide ((0 : Int) ≤ i)) = true then
        if (decide ((i : Int) < (((List.length l1) : Nat) : Int))) = true then
          some (List.set (List.set l1 (Int.toNat i) (List.getD l1 (Int.toNat k) 0)) (Int.toNat k) (List.getD l1 (Int.toNat i) 0))
        else none
      else none
    else none
  else none
theorem flow_todo_Swap_le (F : Nat) (l1 : List Int) (l2 : List Bool) (i : Int) (k : Int) : Le (flow_todo_Swap_F F l1 l2 i k) (flow_todo_Swap l1 l2 i k) := (Le.ite (Le.ite (Le.ite (Le.ite (Le.refl _) (Le.none _)) (Le.none _)) (Le.none _)) (Le.none _))
noncomputable def heap_up_l0_c : Code := sub (codeOf Try.prog 118) [0, 0]
def heap_up_l0 (x0 : List Int) (x1 : List Bool) (x2 : Int) : Option ((List Int)) :=
  if (((iQuo (iSub x2 1) 2) : Int) == x2) = true then
    some x0
  else
    bind (flow_todo_Less x0 x1 x2 (iQuo (iSub x2 1) 2)) fun v2 =>
    if (!v2) = true then
      some x0
    else
      bind (flow_todo_Swap x0 x1 (iQuo (iSub x2 1) 2) x2) fun v5 =>
      heap_up_l0 v5 x1 (iQuo (iSub x2 1) 2)
partial_fixpoint
theorem heap_up_l0_ok (x0 : List Int) (x1 : List Bool) (x2 : Int) (r : (List Int)) (h : heap_up_l0 x0 x1 x2 = some r) : Loops Try.prog heap_up_l0_c 3 ⟨.ifc 158 (.ptr 0 [] 0 0) :: .pv (.int .i64 x2) :: List.replicate 21 dead, [.box 2 [.ms 1 [] 0 (List.length x0), .ms 2 [] 0 (List.length x1)], .arr 2 1 (List.length x0) (encW o_i64 0 x0), .arr 2 1 (List.length x1) (encW o_bool false x1)]⟩ (.exit 0) ⟨List.replicate 23 dead, [.box 2 [.ms 1 [] 0 (List.length r), .ms 2 [] 0 (List.length x1)], .arr 2 1 (List.length r) (encW o_i64 0 r), .arr 2 1 (List.length x1) (encW o_bool false x1)]⟩ := by
  refine heap_up_l0.partial_correctness x1 (fun x0 x2 r => Loops Try.prog heap_up_l0_c 3 ⟨.ifc 158 (.ptr 0 [] 0 0) :: .pv (.int .i64 x2) :: List.replicate 21 dead, [.box 2 [.ms 1 [] 0 (List.length x0), .ms 2 [] 0 (List.length x1)], .arr 2 1 (List.length x0) (encW o_i64 0 x0), .arr 2 1 (List.length x1) (encW o_bool false x1)]⟩ (.exit 0) ⟨List.replicate 23 dead, [.box 2 [.ms 1 [] 0 (List.length r), .ms 2 [] 0 (List.length x1)], .arr 2 1 (List.length r) (encW o_i64 0 r), .arr 2 1 (List.length x1) (encW o_bool false x1)]⟩) ?_ x0 x2 r h
  clear h r x0 x2
  intro self ih x0 x2 r h
  by_cases c1 : (((iQuo (iSub x2 1) 2) : Int) == x2) = true
  · rw [if_pos c1] at h
    have h := Option.some.inj h
    subst h
    exact last_round mixed (L := lives) (f := 118) (script := (.keep :: .keep :: .keep :: .b true :: .keep :: .keep :: .keep :: .keep :: .keep :: .keep :: [])) (l := (.t (!decide (2 = (0 : Int))) true :: .t (((iQuo (iSub x2 1) 2) : Int) == x2) true :: [])) (by kernel_rfl) (oks_cons rfl (oks_cons c1 oks_nil)) rfl
  · rw [if_neg c1] at h
    have c1 := not_true c1
    obtain ⟨v2, h3, h⟩ := bind_of h
    by_cases c4 : (!v2) = true
    · rw [if_pos c4] at h
      have h := Option.some.inj h
      subst h
      exact last_round mixed (L := lives) (f := 118) (script := (.keep :: .keep :: .keep :: .b false :: .keep :: .keep :: .keep :: .c (.pv (.bool v2)) [.box 2 [.ms 1 [] 0 (List.length x0), .ms 2 [] 0 (List.length x1)], .arr 2 1 (List.length x0) (encW o_i64 0 x0), .arr 2 1 (List.length x1) (encW o_bool false x1)] :: .keep :: .keep :: .keep :: .keep :: .b true :: [])) (l := (.t (!decide (2 = (0 : Int))) true :: .t (((iQuo (iSub x2 1) 2) : Int) == x2) false :: .c 151 [.ptr 0 [] 0 0, .pv (.int .i64 x2), .pv (.int .i64 (iQuo (iSub x2 1) 2))] [.box 2 [.ms 1 [] 0 (List.length x0), .ms 2 [] 0 (List.length x1)], .arr 2 1 (List.length x0) (encW o_i64 0 x0), .arr 2 1 (List.length x1) (encW o_bool false x1)] (.pv (.bool v2)) [.box 2 [.ms 1 [] 0 (List.length x0), .ms 2 [] 0 (List.length x1)], .arr 2 1 (List.length x0) (encW o_i64 0 x0), .arr 2 1 (List.length x1) (encW o_bool false x1)] :: .t (!v2) true :: [])) (by kernel_rfl) (oks_cons rfl (oks_cons c1 (oks_cons (flow_todo_Less_ok _ _ _ _ _ h3) (oks_cons c4 oks_nil)))) rfl
    · rw [if_neg c4] at h
      have c4 := not_true c4
      obtain ⟨v5, h6, h⟩ := bind_of h
      exact more_rounds mixed (L := lives) (f := 118) (script := (.keep :: .keep :: .keep :: .b false :: .keep :: .keep :: .keep :: .c (.pv (.bool v2)) [.box 2 [.ms 1 [] 0 (List.length x0), .ms 2 [] 0 (List.length x1)], .arr 2 1 (List.length x0) (encW o_i64 0 x0), .arr 2 1 (List.length x1) (encW o_bool false x1)] :: .keep :: .keep :: .keep :: .keep :: .b false :: .c (.tup []) [.box 2 [.ms 1 [] 0 (List.length v5), .ms 2 [] 0 (List.length x1)], .arr 2 1 (List.length v5) (encW o_i64 0 v5), .arr 2 1 (List.length x1) (encW o_bool false x1)] :: .keep :: [])) (l := (.t (!decide (2 = (0 : Int))) true :: .t (((iQuo (iSub x2 1) 2) : Int) == x2) false :: .c 151 [.ptr 0 [] 0 0, .pv (.int .i64 x2), .pv (.int .i64 (iQuo (iSub x2 1) 2))] [.box 2 [.ms 1 [] 0 (List.length x0), .ms 2 [] 0 (List.length x1)], .arr 2 1 (List.length x0) (encW o_i64 0 x0), .arr 2 1 (List.length x1) (encW o_bool false x1)] (.pv (.bool v2)) [.box 2 [.ms 1 [] 0 (List.length x0), .ms 2 [] 0 (List.length x1)], .arr 2 1 (List.length x0) (encW o_i64 0 x0), .arr 2 1 (List.length x1) (encW o_bool false x1)] :: .t (!v2) false :: .c 154 [.ptr 0 [] 0 0, .pv (.int .i64 (iQuo (iSub x2 1) 2)), .pv (.int .i64 x2)] [.box 2 [.ms 1 [] 0 (List.length x0), .ms 2 [] 0 (List.length x1)], .arr 2 1 (List.length x0) (encW o_i64 0 x0), .arr 2 1 (List.length x1) (encW o_bool false x1)] (.tup []) [.box 2 [.ms 1 [] 0 (List.length v5), .ms 2 [] 0 (List.length x1)], .arr 2 1 (List.length v5) (encW o_i64 0 v5), .arr 2 1 (List.length x1) (encW o_bool false x1)] :: [])) (by kernel_rfl) (oks_cons rfl (oks_cons c1 (oks_cons (flow_todo_Less_ok _ _ _ _ _ h3) (oks_cons c4 (oks_cons (flow_todo_Swap_ok _ _ _ _ _ h6) oks_nil))))) (ih v5 (iQuo (iSub x2 1) 2) _ h)
def heap_up_l0_F (F n : Nat) (x0 : List Int) (x1 : List Bool) (x2 : Int) : Option ((List Int)) := match n with
  | 0 => none
  | n + 1 =>
    if (((iQuo (iSub x2 1) 2) : Int) == x2) = true then
      some x0
    else
      bind (flow_todo_Less_F F x0 x1 x2 (iQuo (iSub x2 1) 2)) fun v2 =>
      if (!v2) = true then
        some x0
      else
        bind (flow_todo_Swap_F F x0 x1 (iQuo (iSub x2 1) 2) x2) fun v5 =>
        heap_up_l0_F F n v5 x1 (iQuo (iSub x2 1) 2)
theorem heap_up_l0_le (F n : Nat) (x0 : List Int) (x1 : List Bool) (x2 : Int) : Le (heap_up_l0_F F n x0 x1 x2) (heap_up_l0 x0 x1 x2) := by
  induction n generalizing x0 x2 with
  | zero => exact Le.none _
  | succ n ih => rw [heap_up_l0]; exact (Le.ite (Le.refl _) (Le.bind (flow_todo_Less_le F _ _ _ _) fun v2 => (Le.ite (Le.refl _) (Le.bind (flow_todo_Swap_le F _ _ _ _) fun v5 => (ih v5 (iQuo (iSub x2 1) 2))))))
/-- container/heap.up -/
def heap_up (l1 : List Int) (l2 : List Bool) (j : Int) : Option ((List Int)) :=
  bind (heap_up_l0 l1 l2 j) fun v7 =>
  some v7
theorem heap_up_ok (l1 : List Int) (l2 : List Bool) (j : Int) (r : (List Int)) (h : heap_up l1 l2 j = some r) : Does Try.prog 118 [.ifc 158 (.ptr 0 [] 0 0), .pv (.int .i64 j)] [.box 2 [.ms 1 [] 0 (List.length l1), .ms 2 [] 0 (List.length l2)], .arr 2 1 (List.length l1) (encW o_i64 0 l1), .arr 2 1 (List.length l2) (encW o_bool false l2)] (.tup [], [.box 2 [.ms 1 [] 0 (List.length r), .ms 2 [] 0 (List.length l2)], .arr 2 1 (List.length r) (encW o_i64 0 r), .arr 2 1 (List.length l2) (encW o_bool false l2)]) := by
  unfold heap_up at h
  obtain ⟨v7, h8, h⟩ := bind_of h
  have h := Option.some.inj h
  subst h
  exact does mixed (L := lives) (script := (.l (.exit 0) ⟨List.replicate 23 dead, [.box 2 [.ms 1 [] 0 (List.length v7), .ms 2 [] 0 (List.length l2)], .arr 2 1 (List.length v7) (encW o_i64 0 v7), .arr 2 1 (List.length l2) (encW o_bool false l2)]⟩ :: [])) (l := (.l heap_up_l0_c 3 ⟨.ifc 158 (.ptr 0 [] 0 0) :: .pv (.int .i64 j) :: List.replicate 21 dead, [.box 2 [.ms 1 [] 0 (List.length l1), .ms 2 [] 0 (List.length l2)], .arr 2 1 (List.length l1) (encW o_i64 0 l1), .arr 2 1 (List.length l2) (encW o_bool false l2)]⟩ (.exit 0) ⟨List.replicate 23 dead, [.box 2 [.ms 1 [] 0 (List.length v7), .ms 2 [] 0 (List.length l2)], .arr 2 1 (List.length v7) (encW o_i64 0 v7), .arr 2 1 (List.length l2) (encW o_bool false l2)]⟩ :: [])) (by kernel_rfl) (oks_cons (heap_up_l0_ok _ _ _ _ h8) oks_nil)
def heap_up_F (F : Nat) (l1 : List Int) (l2 : List Bool) (j : Int) : Option ((List Int)) :=
  bind (heap_up_l0_F F F l1 l2 j) fun v7 =>
  some v7
theorem heap_up_le (F : Nat) (l1 : List Int) (l2 : List Bool) (j : Int) : Le (heap_up_F F l1 l2 j) (heap_up l1 l2 j) := (Le.bind (heap_up_l0_le F F _ _ _) fun v7 => (Le.refl _))
/-- container/heap.Push -/
def heap_Push (l1 : List Int) (l2 : List Bool) (x : Int) : Option ((List Int)) :=
  bind (flow_todo_Push l1 l2 x) fun v1 =>
  bind (flow_todo_Len v1 l2) fun v3 =>
  bind (heap_up v1 l2 (iSub v3 1)) fun v5 =>
  some v5
theorem heap_Push_ok (l1 : List Int) (l2 : List Bool) (x : Int) (r : (List Int)) (h : heap_Push l1 l2 x = some r) : Does Try.prog 79 [.ifc 158 (.ptr 0 [] 0 0), .ifc 3 (.pv (.int .i64 x))] [.box 2 [.ms 1 [] 0 (List.length l1), .ms 2 [] 0 (List.length l2)], .arr 2 1 (List.length l1) (encW o_i64 0 l1), .arr 2 1 (List.length l2) (encW o_bool false l2)] (.tup [], [.box 2 [.ms 1 [] 0 (List.length r), .ms 2 [] 0 (List.length l2)], .arr 0 1 (List.length r) (encW o_i64 0 r), .arr 2 1 (List.length l2) (encW o_bool false l2)]) := by
  unfold heap_Push at h
  obtain ⟨v1, h2, h⟩ := bind_of h
  obtain ⟨v3, h4, h⟩ := bind_of h
  obtain ⟨v5, h6, h⟩ := bind_of h
  have h := Option.some.inj h
  subst h
  exact does mixed (L := lives) (script := (.c (.tup []) [.box 2 [.ms 1 [] 0 (List.length v1), .ms 2 [] 0 (List.length l2)], .arr 0 1 (List.length v1) (encW o_i64 0 v1), .arr 2 1 (List.length l2) (encW o_bool false l2)] :: .keep :: .c (.pv (.int .i64 v3)) [.box 2 [.ms 1 [] 0 (List.length v1), .ms 2 [] 0 (List.length l2)], .arr 2 1 (List.length v1) (encW o_i64 0 v1), .arr 2 1 (List.length l2) (encW o_bool false l2)] :: .keep :: .keep :: .c (.tup []) [.box 2 [.ms 1 [] 0 (List.length v5), .ms 2 [] 0 (List.length l2)], .arr 2 1 (List.length v5) (encW o_i64 0 v5), .arr 2 1 (List.length l2) (encW o_bool false l2)] :: .keep :: [])) (l := (.c 153 [.ptr 0 [] 0 0, .ifc 3 (.pv (.int .i64 x))] [.box 2 [.ms 1 [] 0 (List.length l1), .ms 2 [] 0 (List.length l2)], .arr 2 1 (List.length l1) (encW o_i64 0 l1), .arr 2 1 (List.length l2) (encW o_bool false l2)] (.tup []) [.box 2 [.ms 1 [] 0 (List.length v1), .ms 2 [] 0 (List.length l2)], .arr 0 1 (List.length v1) (encW o_i64 0 v1), .arr 2 1 (List.length l2) (encW o_bool false l2)] :: .c 112 [.ptr 0 [] 0 0] [.box 2 [.ms 1 [] 0 (List.length v1), .ms 2 [] 0 (List.length l2)], .arr 2 1 (List.length v1) (encW o_i64 0 v1), .arr 2 1 (List.length l2) (encW o_bool false l2)] (.pv (.int .i64 v3)) [.box 2 [.ms 1 [] 0 (List.length v1), .ms 2 [] 0 (List.length l2)], .arr 2 1 (List.length v1) (encW o_i64 0 v1), .arr 2 1 (List.length l2) (encW o_bool false l2)] :: .c 118 [.ifc 158 (.ptr 0 [] 0 0), .pv (.int .i64 (iSub v3 1))] [.box 2 [.ms 1 [] 0 (List.length v1), .ms 2 [] 0 (List.length l2)], .arr 2 1 (List.length v1) (encW o_i64 0 v1), .arr 2 1 (List.length l2) (encW o_bool false l2)] (.tup []) [.box 2 [.ms 1 [] 0 (List.length v5), .ms 2 [] 0 (List.length l2)], .arr 2 1 (List.length v5) (encW o_i64 0 v5), .arr 2 1 (List.length l2) (encW o_bool false l2)] :: [])) (by kernel_rfl) (oks_cons (flow_todo_Push_ok _ _ _ _ h2) (oks_cons (flow_todo_Len_ok _ _ _ h4) (oks_cons (heap_up_ok _ _ _ _ h6) oks_nil)))
def heap_Push_F (F : Nat) (l1 : List Int) (l2 : List Bool) (x : Int) : Option ((List Int)) :=
  bind (flow_todo_Push_F F l1 l2 x) fun v1 =>
  bind (flow_todo_Len_F F v1 l2) fun v3 =>
  bind (heap_up_F F v1 l2 (iSub v3 1)) fun v5 =>
  some v5
theorem heap_Push_le (F : Nat) (l1 : List Int) (l2 : List Bool) (x : Int) : Le (heap_Push_F F l1 l2 x) (heap_Push l1 l2 x) := (Le.bind (flow_todo_Push_le F _ _ _) fun v1 => (Le.bind (flow_todo_Len_le F _ _) fun v3 => (Le.bind (heap_up_le F _ _ _) fun v5 => (Le.refl _))))
/-- (*alibi/flow.todo).add -/
def flow_todo_add (l1 : List Int) (l2 : List Bool) (i : Int) : Option ((List Int) × (List Bool)) :=
  if (decide ((0 : Int) ≤ i)) = true then
    if (decide ((i : Int) < (((List.length l2) : Nat) : Int))) = true then
      if (!(List.getD l2 (Int.toNat i) false)) = true then
        bind (heap_Push l1 (List.set l2 (Int.toNat i) true) i) fun v4 =>
        some (v4, List.set l2 (Int.toNat i) true)
      else
        some (l1, l2)
    else none
  else none
theorem flow_todo_add_ok (l1 : List Int) (l2 : List Bool) (i : Int) (r : (List Int) × (List Bool)) (h : flow_todo_add l1 l2 i = some r) : Does Try.prog 111 [.ptr 0 [] 0 0, .pv (.int .i64 i)] [.box 2 [.ms 1 [] 0 (List.length l1), .ms 2 [] 0 (List.length l2)], .arr 2 1 (List.length l1) (encW o_i64 0 l1), .arr 2 1 (List.length l2) (encW o_bool false l2)] (.tup [], [.box 2 [.ms 1 [] 0 (List.length r.1), .ms 2 [] 0 (List.length r.2)], .arr 0 1 (List.length r.1) (encW o_i64 0 r.1), .arr 2 1 (List.length r.2) (encW o_bool false r.2)]) := by
  unfold flow_todo_add at h
  by_cases c1 : (decide ((0 : Int) ≤ i)) = true
  case neg => rw [if_neg c1] at h; cases h
  rw [if_pos c1] at h
  by_cases c2 : (decide ((i : Int) < (((List.length l2) : Nat) : Int))) = true
  case neg => rw [if_neg c2] at h; cases h
  rw [if_pos c2] at h
  by_cases c3 : (!(List.getD l2 (Int.toNat i) false)) = true
  · rw [if_pos c3] at h
    obtain ⟨v4, h5, h⟩ := bind_of h
    have h := Option.some.inj h
    subst h
    exact does mixed (L := lives) (script := (.keep :: .keep :: .keep :: .b true :: .keep :: .e { val := dead, hb := [(2, .arr 2 1 (List.length l2) (encW o_bool false (List.set l2 (Int.toNat i) true)))], sc := [] } :: .c (.tup []) [.box 2 [.ms 1 [] 0 (List.length v4), .ms 2 [] 0 (List.length (List.set l2 (Int.toNat i) true))], .arr 0 1 (List.length v4) (encW o_i64 0 v4), .arr 2 1 (List.length (List.set l2 (Int.toNat i) true)) (encW o_bool false (List.set l2 (Int.toNat i) true))] :: .keep :: [])) (l := (.t (decide ((0 : Int) ≤ i)) true :: .t (decide ((i : Int) < (((List.length l2) : Nat) : Int))) true :: .t (!(List.getD l2 (Int.toNat i) false)) true :: .t (decide ((0 : Int) ≤ i)) true :: .t (decide ((i : Int) < (((List.length l2) : Nat) : Int))) true :: .t true true :: .e { val := dead, hb := [(2, Blk.put (.arr 2 1 (List.length l2) (encW o_bool false l2)) [] (Int.toNat i) (fun cs => splice cs 0 [.pv (.bool true)]))], sc := [] } { val := dead, hb := [(2, .arr 2 1 (List.length l2) (encW o_bool false (List.set l2 (Int.toNat i) true)))], sc := [] } :: .c 79 [.ifc 158 (.ptr 0 [] 0 0), .ifc 3 (.pv (.int .i64 i))] [.box 2 [.ms 1 [] 0 (List.length l1), .ms 2 [] 0 (List.length l2)], .arr 2 1 (List.length l1) (encW o_i64 0 l1), .arr 2 1 (List.length l2) (encW o_bool false (List.set l2 (Int.toNat i) true))] (.tup []) [.box 2 [.ms 1 [] 0 (List.length v4), .ms 2 [] 0 (List.length (List.set l2 (Int.toNat i) true))], .arr 0 1 (List.length v4) (encW o_i64 0 v4), .arr 2 1 (List.length (List.set l2 (Int.toNat i) true)) (encW o_bool false (List.set l2 (Int.toNat i) true))] :: [])) (by kernel_rfl) (oks_cons c1 (oks_cons c2 (oks_cons c3 (oks_cons c1 (oks_cons c2 (oks_cons rfl (oks_cons (eff_hb (put_top o_bool false 2 1 (List.length l2) l2 (Int.toNat i) 0 [.pv (.bool true)] true (by kernel_rfl) (by first | exact Nat.le_refl _ | exact Nat.zero_le _ | (simp only [decide_eq_true_eq, List.length_set, List.length_append, List.length_replicate, List.length_cons, List.length_nil, Nat.zero_add] at * <;> omega)))) (oks_cons (Does.of (heap_Push_ok _ _ _ _ h5) (by (first | rfl | (simp only [List.length_set]; done)))) oks_nil))))))))
  · rw [if_neg c3] at h
    have c3 := not_true c3
    have h := Option.some.inj h
    subst h
    exact does mixed (L := lives) (script := (.keep :: .keep :: .keep :: .b false :: [])) (l := (.t (decide ((0 : Int) ≤ i)) true :: .t (decide ((i : Int) < (((List.length l2) : Nat) : Int))) true :: .t (!(List.getD l2 (Int.toNat i) false)) false :: [])) (by kernel_rfl) (oks_cons c1 (oks_cons c2 (oks_cons c3 oks_nil)))
def flow_todo_add_F (F : Nat) (l1 : List Int) (l2 : List Bool) (i : Int) : Option ((List Int) × (List Bool)) :=
  if (decide ((0 : Int) ≤ i)) = true then
    if (decide ((i : Int) < (((List.length l2) : Nat) : Int))) = true then
      if (!(List.getD l2 (Int.toNat i) false)) = true then
        bind (heap_Push_F F l1 (List.set l2 (Int.toNat i) true) i) fun v4 =>
        some (v4, List.set l2 (Int.toNat i) true)
      else
        some (l1, l2)
    else none
  else none
theorem flow_todo_add_le (F : Nat) (l1 : List Int) (l2 : List Bool) (i : Int) : Le (flow_todo_add_F F l1 l2 i) (flow_todo_add l1 l2 i) := (Le.ite (Le.ite (Le.ite (Le.bind (heap_Push_le F _ _ _) fun v4 => (Le.refl _)) (Le.refl _)) (Le.none _)) (Le.none _))
noncomputable def flow_solver_solve_l5_c : Code := sub (codeOf Try.prog 73) [1, 1, 1, 1, 0, 1, 0, 0]
def flow_solver_solve_l5 (x0 : List (BitVec 32)) (x1 : List (List Int)) (x2 : List (List Int)) (x3 : List Int) (x4 : List Bool) (x5 : List flow_Rule) (x6 : List flow_Rule) (x7 : List flow_Rule) (x8 : Int) (x9 : Int) : Option ((List (BitVec 32)) × (List (List Int)) × (List Int) × (List Bool) × (List flow_Rule)) :=
  if (decide ((x9 : Int) < x8)) = true then
    if (decide ((0 : Int) ≤ x9)) = true then
      if (decide ((x9 : Int) < ((List.length x7 : Nat) : Int))) = true then
        if (decide ((((List.getD x7 (Int.toNat x9) d_flow_Rule).to_) : Int) < 0)) = true then
          flow_solver_solve_l5 x0 x1 x2 x3 x4 x5 x6 x7 x8 (iAdd x9 1)
        else
          if (decide ((((List.getD x7 (Int.toNat x9) d_flow_Rule).to_) : Int) ≥ ((((List.length x0) : Nat) : Int)))) = true then
            flow_solver_solve_l5 x0 x1 x2 x3 x4 x5 x6 x7 x8 (iAdd x9 1)
          else
            bind (flow_solver_solve_l9 x0 x1 x2 x3 x4 x5 ([(List.getD x7 (Int.toNat x9) d_flow_Rule).from_, (List.getD x7 (Int.toNat x9) d_flow_Rule).also]) x6 ((List.getD x7 (Int.toNat x9) d_flow_Rule).to_) ((List.getD x7 (Int.toNat x9) d_flow_Rule).from_) ((List.getD x7 (Int.toNat x9) d_flow_Rule).also) ((List.getD x7 (Int.toNat x9) d_flow_Rule).keep) ((List.getD x7 (Int.toNat x9) d_flow_Rule).if_) ((List.getD x7 (Int.toNat x9) d_flow_Rule).then_) x7 x8 x9 ((((List.length ([(List.getD x7 (Int.toNat x9) d_flow_Rule).from_, (List.getD x7 (Int.toNat x9) d_flow_Rule).also])) : Nat) : Int)) 0) fun v17 =>
            if (Nat.ble ((List.length x5 + List.length ([List.getD x7 (Int.toNat x9) d_flow_Rule])) * 40) reach) = true then
              bind (flow_solver_apply x0 v17 x6 (List.getD x7 (Int.toNat x9) d_flow_Rule)) fun v20 =>
              if v20.1 = true then
                bind (flow_todo_add x3 x4 ((List.getD x7 (Int.toNat x9) d_flow_Rule).to_)) fun v23 =>
                flow_solver_solve_l5 v20.2 x1 v17 v23.1 v23.2 (x5 ++ ([List.getD x7 (Int.toNat x9) d_flow_Rule])) x6 x7 x8 (iAdd x9 1)
              else
                flow_solver_solve_l5 v20.2 x1 v17 x3 x4 (x5 ++ ([List.getD x7 (Int.toNat x9) d_flow_Rule])) x6 x7 x8 (iAdd x9 1)
            else none
      else none
    else none
  else
    some (x0, x2, x3, x4, x5)
partial_fixpoint
theorem flow_solver_solve_l5_ok (x0 : List (BitVec 32)) (x1 : List (List Int)) (x2 : List (List Int)) (x3 : List Int) (x4 : List Bool) (x5 : List flow_Rule) (x6 : List flow_Rule) (x7 : List flow_Rule) (x8 : Int) (x9 : Int) (r : (List (BitVec 32)) × (List (List Int)) × (List Int) × (List Bool) × (List flow_Rule)) (h : flow_solver_solve_l5 x0 x1 x2 x3 x4 x5 x6 x7 x8 x9 = some r) : Loops Try.prog flow_solver_solve_l5_c 3 ⟨.ptr 0 [] 0 0 :: dead :: dead :: .ptr 4 [] 0 0 :: .ms 7 [] 0 (List.length x5) :: (List.replicate 27 dead ++ (.pv (.seq (List.length x7) (encP e_flow_Rule d_flow_Rule x7)) :: .pv (.int .i64 x8) :: .pv (.int .i64 x9) :: List.replicate 113 dead)), [.box 2 [.ms 1 [] 0 (List.length x0), .pv (.seq (List.length x6) (encP e_flow_Rule d_flow_Rule x6)), .ms 3 [] 0 (List.length x2), .pv (.fn 72)], .arr 2 1 (List.length x0) (encW o_u32 0#32 x0), .arr 2 1 (List.length x1) (encW o_26 ([] : List Int) x1), .arr 0 1 (List.length x2) (encW o_26 ([] : List Int) x2), .box 0 [.ms 5 [] 0 (List.length x3), .ms 6 [] 0 (List.length x4)], .arr 0 1 (List.length x3) (encW o_i64 0 x3), .arr 0 1 (List.length x4) (encW o_bool false x4), .arr 0 6 (List.length x5) (encW o_flow_Rule d_flow_Rule x5)]⟩ (.exit 0) ⟨.ptr 0 [] 0 0 :: dead :: dead :: .ptr 4 [] 0 0 :: .ms 7 [] 0 (List.length r.2.2.2.2) :: List.replicate 143 dead, [.box 2 [.ms 1 [] 0 (List.length r.1), .pv (.seq (List.length x6) (encP e_flow_Rule d_flow_Rule x6)), .ms 3 [] 0 (List.length r.2.1), .pv (.fn 72)], .arr 2 1 (List.length r.1) (encW o_u32 0#32 r.1), .arr 2 1 (List.length x1) (encW o_26 ([] : List Int) x1), .arr 0 1 (List.length r.2.1) (encW o_26 ([] : List Int) r.2.1), .box 0 [.ms 5 [] 0 (List.length r.2.2.1), .ms 6 [] 0 (List.length r.2.2.2.1)], .arr 0 1 (List.length r.2.2.1) (encW o_i64 0 r.2.2.1), .arr 0 1 (List.length r.2.2.2.1) (encW o_bool false r.2.2.2.1), .arr 0 6 (List.length r.2.2.2.2) (encW o_flow_Rule d_flow_Rule r.2.2.2.2)]⟩ := by
  refine flow_solver_solve_l5.partial_correctness x1 x6 x7 x8 (fun x0 x2 x3 x4 x5 x9 r => Loops Try.prog flow_solver_solve_l5_c 3 ⟨.ptr 0 [] 0 0 :: dead :: dead :: .ptr 4 [] 0 0 :: .ms 7 [] 0 (List.length x5) :: (List.replicate 27 dead ++ (.pv (.seq (List.length x7) (encP e_flow_Rule d_flow_Rule x7)) :: .pv (.int .i64 x8) :: .pv (.int .i64 x9) :: List.replicate 113 dead)), [.box 2 [.ms 1 [] 0 (List.length x0), .pv (.seq (List.length x6) (encP e_flow_Rule d_flow_Rule x6)), .ms 3 [] 0 (List.length x2), .pv (.fn 72)], .arr 2 1 (List.length x0) (encW o_u32 0#32 x0), .arr 2 1 (List.length x1) (encW o_26 ([] : List Int) x1), .arr 0 1 (List.length x2) (encW o_26 ([] : List Int) x2), .box 0 [.ms 5 [] 0 (List.length x3), .ms 6 [] 0 (List.length x4)], .arr 0 1 (List.length x3) (encW o_i64 0 x3), .arr 0 1 (List.length x4) (encW o_bool false x4), .arr 0 6 (List.length x5) (encW o_flow_Rule d_flow_Rule x5)]⟩ (.exit 0) ⟨.ptr 0 [] 0 0 :: dead :: dead :: .ptr 4 [] 0 0 :: .ms 7 [] 0 (List.length r.2.2.2.2) :: List.replicate 143 dead, [.box 2 [.ms 1 [] 0 (List.length r.1), .pv (.seq (List.length x6) (encP e_flow_Rule d_flow_Rule x6)), .ms 3 [] 0 (List.length r.2.1), .pv (.fn 72)], .arr 2 1 (List.length r.1) (encW o_u32 0#32 r.1), .arr 2 1 (List.length x1) (encW o_26 ([] : List Int) x1), .arr 0 1 (List.length r.2.1) (encW o_26 ([] : List Int) r.2.1), .box 0 [.ms 5 [] 0 (List.length r.2.2.1), .ms 6 [] 0 (List.length r.2.2.2.1)], .arr 0 1 (List.length r.2.2.1) (encW o_i64 0 r.2.2.1), .arr 0 1 (List.length r.2.2.2.1) (encW o_bool false r.2.2.2.1), .arr 0 6 (List.length r.2.2.2.2) (encW o_flow_Rule d_flow_Rule r.2.2.2.2)]⟩) ?_ x0 x2 x3 x4 x5 x9 r h
  clear h r x0 x2 x3 x4 x5 x9
  intro self ih x0 x2 x3 x4 x5 x9 r h
  by_cases c4 : (decide ((x9 : Int) < x8)) = true
  · rw [if_pos c4] at h
    by_cases c5 : (decide ((0 : Int) ≤ x9)) = true
    case neg => rw [if_neg c5] at h; cases h
    rw [if_pos c5] at h
    by_cases c6 : (decide ((x9 : Int) < ((List.length x7 : Nat) : Int))) = true
    case neg => rw [if_neg c6] at h; cases h
    rw [if_pos c6] at h
    by_cases c7 : (decide ((((List.getD x7 (Int.toNat x9) d_flow_Rule).to_) : Int) < 0)) = true
    · rw [if_pos c7] at h
      exact more_rounds mixed (L := lives) (f := 73) (script := (.keep :: .b true :: .keep :: .keep :: .keep :: .keep :: .keep :: .b true :: .keep :: .keep :: .keep :: .keep :: .keep :: .keep :: .keep :: .keep :: .keep :: .keep :: [])) (l := (.t (decide ((x9 : Int) < x8)) true :: .t (decide ((0 : Int) ≤ x9)) true :: .t (decide ((x9 : Int) < ((List.length x7 : Nat) : Int))) true :: .t (decide ((((List.getD x7 (Int.toNat x9) d_flow_Rule).to_) : Int) < 0)) true :: [])) (by kernel_rfl) (oks_cons c4 (oks_cons c5 (oks_cons c6 (oks_cons c7 oks_nil)))) (ih x0 x2 x3 x4 x5 (iAdd x9 1) _ h)
    · rw [if_neg c7] at h
      have c7 := not_true c7
      by_cases c8 : (decide ((((List.getD x7 (Int.toNat x9) d_flow_Rule).to_) : Int) ≥ ((((List.length x0) : Nat) : Int)))) = true
      · rw [if_pos c8] at h
        exact more_rounds mixed (L := lives) (f := 73) (script := (.keep :: .b true :: .keep :: .keep :: .keep :: .keep :: .keep :: .b false :: .keep :: .keep :: .keep :: .keep :: .keep :: .keep :: .keep :: .keep :: .keep :: .keep :: .keep :: .keep :: .b true :: .keep :: [])) (l := (.t (decide ((x9 : Int) < x8)) true :: .t (decide ((0 : Int) ≤ x9)) true :: .t (decide ((x9 : Int) < ((List.length x7 : Nat) : Int))) true :: .t (decide ((((List.getD x7 (Int.toNat x9) d_flow_Rule).to_) : Int) < 0)) false :: .t (decide ((((List.getD x7 (Int.toNat x9) d_flow_Rule).to_) : Int) ≥ ((((List.length x0) : Nat) : Int)))) true :: [])) (by kernel_rfl) (oks_cons c4 (oks_cons c5 (oks_cons c6 (oks_cons c7 (oks_cons c8 oks_nil))))) (ih x0 x2 x3 x4 x5 (iAdd x9 1) _ h)
      · rw [if_neg c8] at h
        have c8 := not_true c8
        obtain ⟨v17, h18, h⟩ := bind_of h
        by_cases c19 : (Nat.ble ((List.length x5 + List.length ([List.getD x7 (Int.toNat x9) d_flow_Rule])) * 40) reach) = true
        case neg => rw [if_neg c19] at h; cases h
        rw [if_pos c19] at h
        obtain ⟨v20, h21, h⟩ := bind_of h
        by_cases c22 : v20.1 = true
        · rw [if_pos c22] at h
          obtain ⟨v23, h24, h⟩ := bind_of h
          exact more_rounds mixed (L := lives) (f := 73) (script := (.keep :: .b true :: .keep :: .keep :: .keep :: .keep :: .keep :: .b false :: .keep :: .keep :: .keep :: .keep :: .keep :: .keep :: .keep :: .keep :: .keep :: .keep :: .keep :: .keep :: .b false :: .keep :: .keep :: .e { val := .ms 9 [] 0 (List.length ([(List.getD x7 (Int.toNat x9) d_flow_Rule).from_, (List.getD x7 (Int.toNat x9) d_flow_Rule).also])), hb := [(9, .arr 0 1 (List.length ([(List.getD x7 (Int.toNat x9) d_flow_Rule).from_, (List.getD x7 (Int.toNat x9) d_flow_Rule).also])) (encW o_i64 0 ([(List.getD x7 (Int.toNat x9) d_flow_Rule).from_, (List.getD x7 (Int.toNat x9) d_flow_Rule).also])))], sc := [] } :: .keep :: .l (.exit 2) ⟨.ptr 0 [] 0 0 :: dead :: dead :: .ptr 4 [] 0 0 :: .ms 7 [] 0 (List.length x5) :: dead :: .ptr 8 [] 0 0 :: (List.replicate 25 dead ++ (.pv (.seq (List.length x7) (encP e_flow_Rule d_flow_Rule x7)) :: .pv (.int .i64 x8) :: .pv (.int .i64 x9) :: List.replicate 113 dead)), [.box 2 [.ms 1 [] 0 (List.length x0), .pv (.seq (List.length x6) (encP e_flow_Rule d_flow_Rule x6)), .ms 3 [] 0 (List.length v17), .pv (.fn 72)], .arr 2 1 (List.length x0) (encW o_u32 0#32 x0), .arr 2 1 (List.length x1) (encW o_26 ([] : List Int) x1), .arr 0 1 (List.length v17) (encW o_26 ([] : List Int) v17), .box 0 [.ms 5 [] 0 (List.length x3), .ms 6 [] 0 (List.length x4)], .arr 0 1 (List.length x3) (encW o_i64 0 x3), .arr 0 1 (List.length x4) (encW o_bool false x4), .arr 0 6 (List.length x5) (encW o_flow_Rule d_flow_Rule x5), .box 0 [.pv (.int .i64 ((List.getD x7 (Int.toNat x9) d_flow_Rule).to_)), .pv (.int .i64 ((List.getD x7 (Int.toNat x9) d_flow_Rule).from_)), .pv (.int .i64 ((List.getD x7 (Int.toNat x9) d_flow_Rule).also)), .pv (.int .u32 (BitVec.toNat ((List.getD x7 (Int.toNat x9) d_flow_Rule).keep) : Nat)), .pv (.int .u32 (BitVec.toNat ((List.getD x7 (Int.toNat x9) d_flow_Rule).if_) : Nat)), .pv (.int .u32 (BitVec.toNat ((List.getD x7 (Int.toNat x9) d_flow_Rule).then_) : Nat))]]⟩ :: .keep :: .e { val := .ms 9 [] 0 (List.length ([List.getD x7 (Int.toNat x9) d_flow_Rule])), hb := [(9, .arr 0 6 (List.length ([List.getD x7 (Int.toNat x9) d_flow_Rule])) (encW o_flow_Rule d_flow_Rule ([List.getD x7 (Int.toNat x9) d_flow_Rule])))], sc := [] } :: .b true :: .e { val := .ms 7 [] 0 (List.length (x5 ++ ([List.getD x7 (Int.toNat x9) d_flow_Rule]))), hb := [] ++ ((7, .arr 0 6 (List.length (x5 ++ ([List.getD x7 (Int.toNat x9) d_flow_Rule]))) (encW o_flow_Rule d_flow_Rule (x5 ++ ([List.getD x7 (Int.toNat x9) d_flow_Rule])))) :: []), sc := [(7, false)] } :: .keep :: .c (.pv (.bool v20.1)) [.box 2 [.ms 1 [] 0 (List.length v20.2), .pv (.seq (List.length x6) (encP e_flow_Rule d_flow_Rule x6)), .ms 2 [] 0 (List.length v17), .pv (.fn 72)], .arr 2 1 (List.length v20.2) (encW o_u32 0#32 v20.2), .arr 2 1 (List.length v17) (encW o_26 ([] : List Int) v17)] :: .keep :: .b true :: .keep :: .c (.tup []) [.box 2 [.ms 1 [] 0 (List.length v23.1), .ms 2 [] 0 (List.length v23.2)], .arr 0 1 (List.length v23.1) (encW o_i64 0 v23.1), .arr 2 1 (List.length v23.2) (encW o_bool false v23.2)] :: .keep :: .keep :: [])) (l := (.t (decide ((x9 : Int) < x8)) true :: .t (decide ((0 : Int) ≤ x9)) true :: .t (decide ((x9 : Int) < ((List.length x7 : Nat) : Int))) true :: .t (decide ((((List.getD x7 (Int.toNat x9) d_flow_Rule).to_) : Int) < 0)) false :: .t (decide ((((List.getD x7 (Int.toNat x9) d_flow_Rule).to_) : Int) ≥ ((((List.length x0) : Nat) : Int)))) false :: .e { val := .ms 9 [] 0 2, hb := [(9, .arr 0 1 2 (litF (o_i64 0) (List.map o_i64 [(List.getD x7 (Int.toNat x9) d_flow_Rule).from_, (List.getD x7 (Int.toNat x9) d_flow_Rule).also])))], sc := [] } { val := .ms 9 [] 0 (List.length ([(List.getD x7 (Int.toNat x9) d_flow_Rule).from_, (List.getD x7 (Int.toNat x9) d_flow_Rule).also])), hb := [(9, .arr 0 1 (List.length ([(List.getD x7 (Int.toNat x9) d_flow_Rule).from_, (List.getD x7 (Int.toNat x9) d_flow_Rule).also])) (encW o_i64 0 ([(List.getD x7 (Int.toNat x9) d_flow_Rule).from_, (List.getD x7 (Int.toNat x9) d_flow_Rule).also])))], sc := [] } :: .l flow_solver_solve_l9_c 3 ⟨.ptr 0 [] 0 0 :: dead :: dead :: .ptr 4 [] 0 0 :: .ms 7 [] 0 (List.length x5) :: dead :: .ptr 8 [] 0 0 :: (List.replicate 25 dead ++ (.pv (.seq (List.length x7) (encP e_flow_Rule d_flow_Rule x7)) :: .pv (.int .i64 x8) :: .pv (.int .i64 x9) :: (List.replicate 20 dead ++ (.ms 9 [] 0 (List.length ([(List.getD x7 (Int.toNat x9) d_flow_Rule).from_, (List.getD x7 (Int.toNat x9) d_flow_Rule).also])) :: .pv (.int .i64 ((((List.length ([(List.getD x7 (Int.toNat x9) d_flow_Rule).from_, (List.getD x7 (Int.toNat x9) d_flow_Rule).also])) : Nat) : Int))) :: .pv (.int .i64 0) :: List.replicate 90 dead)))), [.box 2 [.ms 1 [] 0 (List.length x0), .pv (.seq (List.length x6) (encP e_flow_Rule d_flow_Rule x6)), .ms 3 [] 0 (List.length x2), .pv (.fn 72)], .arr 2 1 (List.length x0) (encW o_u32 0#32 x0), .arr 2 1 (List.length x1) (encW o_26 ([] : List Int) x1), .arr 0 1 (List.length x2) (encW o_26 ([] : List Int) x2), .box 0 [.ms 5 [] 0 (List.length x3), .ms 6 [] 0 (List.length x4)], .arr 0 1 (List.length x3) (encW o_i64 0 x3), .arr 0 1 (List.length x4) (encW o_bool false x4), .arr 0 6 (List.length x5) (encW o_flow_Rule d_flow_Rule x5), .box 0 [.pv (.int .i64 ((List.getD x7 (Int.toNat x9) d_flow_Rule).to_)), .pv (.int .i64 ((List.getD x7 (Int.toNat x9) d_flow_Rule).from_)), .pv (.int .i64 ((List.getD x7 (Int.toNat x9) d_flow_Rule).also)), .pv (.int .u32 (BitVec.toNat ((List.getD x7 (Int.toNat x9) d_flow_Rule).keep) : Nat)), .pv (.int .u32 (BitVec.toNat ((List.getD x7 (Int.toNat x9) d_flow_Rule).if_) : Nat)), .pv (.int .u32 (BitVec.toNat ((List.getD x7 (Int.toNat x9) d_flow_Rule).then_) : Nat))], .arr 0 1 (List.length ([(List.getD x7 (Int.toNat x9) d_flow_Rule).from_, (List.getD x7 (Int.toNat x9) d_flow_Rule).also])) (encW o_i64 0 ([(List.getD x7 (Int.toNat x9) d_flow_Rule).from_, (List.getD x7 (Int.toNat x9) d_flow_Rule).also]))]⟩ (.exit 2) ⟨.ptr 0 [] 0 0 :: dead :: dead :: .ptr 4 [] 0 0 :: .ms 7 [] 0 (List.length x5) :: dead :: .ptr 8 [] 0 0 :: (List.replicate 25 dead ++ (.pv (.seq (List.length x7) (encP e_flow_Rule d_flow_Rule x7)) :: .pv (.int .i64 x8) :: .pv (.int .i64 x9) :: List.replicate 113 dead)), [.box 2 [.ms 1 [] 0 (List.length x0), .pv (.seq (List.length x6) (encP e_flow_Rule d_flow_Rule x6)), .ms 3 [] 0 (List.length v17), .pv (.fn 72)], .arr 2 1 (List.length x0) (encW o_u32 0#32 x0), .arr 2 1 (List.length x1) (encW o_26 ([] : List Int) x1), .arr 0 1 (List.length v17) (encW o_26 ([] : List Int) v17), .box 0 [.ms 5 [] 0 (List.length x3), .ms 6 [] 0 (List.length x4)], .arr 0 1 (List.length x3) (encW o_i64 0 x3), .arr 0 1 (List.length x4) (encW o_bool false x4), .arr 0 6 (List.length x5) (encW o_flow_Rule d_flow_Rule x5), .box 0 [.pv (.int .i64 ((List.getD x7 (Int.toNat x9) d_flow_Rule).to_)), .pv (.int .i64 ((List.getD x7 (Int.toNat x9) d_flow_Rule).from_)), .pv (.int .i64 ((List.getD x7 (Int.toNat x9) d_flow_Rule).also)), .pv (.int .u32 (BitVec.toNat ((List.getD x7 (Int.toNat x9) d_flow_Rule).keep) : Nat)), .pv (.int .u32 (BitVec.toNat ((List.getD x7 (Int.toNat x9) d_flow_Rule).if_) : Nat)), .pv (.int .u32 (BitVec.toNat ((List.getD x7 (Int.toNat x9) d_flow_Rule).then_) : Nat))]]⟩ :: .e { val := .ms 9 [] 0 1, hb := [(9, .arr 0 6 1 (litF (o_flow_Rule d_flow_Rule) (List.map o_flow_Rule [List.getD x7 (Int.toNat x9) d_flow_Rule])))], sc := [] } { val := .ms 9 [] 0 (List.length ([List.getD x7 (Int.toNat x9) d_flow_Rule])), hb := [(9, .arr 0 6 (List.length ([List.getD x7 (Int.toNat x9) d_flow_Rule])) (encW o_flow_Rule d_flow_Rule ([List.getD x7 (Int.toNat x9) d_flow_Rule])))], sc := [] } :: .t (decide (List.length ([List.getD x7 (Int.toNat x9) d_flow_Rule]) = List.length ([List.getD x7 (Int.toNat x9) d_flow_Rule])) && decide (0 = 0)) true :: .t (Nat.ble ((List.length x5 + List.length ([List.getD x7 (Int.toNat x9) d_flow_Rule])) * 40) reach) true :: .e ({ val := .ms 7 [] 0 (List.length x5 + List.length ([List.getD x7 (Int.toNat x9) d_flow_Rule])), hb := [] ++ ((7, .arr 0 6 (List.length x5 + List.length ([List.getD x7 (Int.toNat x9) d_flow_Rule])) (app (List.length x5) (encW o_flow_Rule d_flow_Rule x5) (List.length ([List.getD x7 (Int.toNat x9) d_flow_Rule])) (fun i => List.map AV.scal (encW o_flow_Rule d_flow_Rule ([List.getD x7 (Int.toNat x9) d_flow_Rule]) i)) (encW o_flow_Rule d_flow_Rule x5 (List.length x5)))) :: []), sc := [(7, false)] } : Eff) { val := .ms 7 [] 0 (List.length (x5 ++ ([List.getD x7 (Int.toNat x9) d_flow_Rule]))), hb := [] ++ ((7, .arr 0 6 (List.length (x5 ++ ([List.getD x7 (Int.toNat x9) d_flow_Rule]))) (encW o_flow_Rule d_flow_Rule (x5 ++ ([List.getD x7 (Int.toNat x9) d_flow_Rule])))) :: []), sc := [(7, false)] } :: .c 110 [.ptr 0 [] 0 0, .agg [.pv (.int .i64 ((List.getD x7 (Int.toNat x9) d_flow_Rule).to_)), .pv (.int .i64 ((List.getD x7 (Int.toNat x9) d_flow_Rule).from_)), .pv (.int .i64 ((List.getD x7 (Int.toNat x9) d_flow_Rule).also)), .pv (.int .u32 (BitVec.toNat ((List.getD x7 (Int.toNat x9) d_flow_Rule).keep) : Nat)), .pv (.int .u32 (BitVec.toNat ((List.getD x7 (Int.toNat x9) d_flow_Rule).if_) : Nat)), .pv (.int .u32 (BitVec.toNat ((List.getD x7 (Int.toNat x9) d_flow_Rule).then_) : Nat))]] [.box 2 [.ms 1 [] 0 (List.length x0), .pv (.seq (List.length x6) (encP e_flow_Rule d_flow_Rule x6)), .ms 2 [] 0 (List.length v17), .pv (.fn 72)], .arr 2 1 (List.length x0) (encW o_u32 0#32 x0), .arr 2 1 (List.length v17) (encW o_26 ([] : List Int) v17)] (.pv (.bool v20.1)) [.box 2 [.ms 1 [] 0 (List.length v20.2), .pv (.seq (List.length x6) (encP e_flow_Rule d_flow_Rule x6)), .ms 2 [] 0 (List.length v17), .pv (.fn 72)], .arr 2 1 (List.length v20.2) (encW o_u32 0#32 v20.2), .arr 2 1 (List.length v17) (encW o_26 ([] : List Int) v17)] :: .t v20.1 true :: .c 111 [.ptr 0 [] 0 0, .pv (.int .i64 ((List.getD x7 (Int.toNat x9) d_flow_Rule).to_))] [.box 2 [.ms 1 [] 0 (List.length x3), .ms 2 [] 0 (List.length x4)], .arr 2 1 (List.length x3) (encW o_i64 0 x3), .arr 2 1 (List.length x4) (encW o_bool false x4)] (.tup []) [.box 2 [.ms 1 [] 0 (List.length v23.1), .ms 2 [] 0 (List.length v23.2)], .arr 0 1 (List.length v23.1) (encW o_i64 0 v23.1), .arr 2 1 (List.length v23.2) (encW o_bool false v23.2)] :: [])) (by kernel_rfl) (oks_cons c4 (oks_cons c5 (oks_cons c6 (oks_cons c7 (oks_cons c8 (oks_cons (eff_lit o_i64 0 9 1 2 ([(List.getD x7 (Int.toNat x9) d_flow_Rule).from_, (List.getD x7 (Int.toNat x9) d_flow_Rule).also]) rfl _ _) (oks_cons (flow_solver_solve_l9_ok _ _ _ _ _ _ _ _ _ _ _ _ _ _ _ _ _ _ _ _ h18) (oks_cons (eff_lit o_flow_Rule d_flow_Rule 9 6 1 ([List.getD x7 (Int.toNat x9) d_flow_Rule]) rfl _ _) (oks_cons (whole_ok (List.length ([List.getD x7 (Int.toNat x9) d_flow_Rule]))) (oks_cons c19 (oks_cons (eff_app o_flow_Rule d_flow_Rule x5 ([List.getD x7 (Int.toNat x9) d_flow_Rule]) (x5 ++ ([List.getD x7 (Int.toNat x9) d_flow_Rule])) 7 6 (List.length x5) (List.length ([List.getD x7 (Int.toNat x9) d_flow_Rule])) (fun i => List.map AV.scal (encW o_flow_Rule d_flow_Rule ([List.getD x7 (Int.toNat x9) d_flow_Rule]) i)) (encW o_flow_Rule d_flow_Rule x5 (List.length x5)) [] [] [(7, false)] (by first | exact Nat.le_refl _ | exact Nat.zero_le _ | (simp only [decide_eq_true_eq, List.length_set, List.length_append, List.length_replicate, List.length_cons, List.length_nil, Nat.zero_add] at * <;> omega)) rfl (fun _ => by kernel_rfl) (congrArg o_flow_Rule (getD_ge d_flow_Rule (by first | exact Nat.le_refl _ | exact Nat.zero_le _ | (simp only [decide_eq_true_eq, List.length_set, List.length_append, List.length_replicate, List.length_cons, List.length_nil, Nat.zero_add] at * <;> omega)))) (by rw [List.take_of_length_le (by first | exact Nat.le_refl _ | exact Nat.zero_le _ | (simp only [decide_eq_true_eq, List.length_set, List.length_append, List.length_replicate, List.length_cons, List.length_nil, Nat.zero_add] at * <;> omega))])) (oks_cons (flow_solver_apply_ok _ _ _ _ _ h21) (oks_cons c22 (oks_cons (flow_todo_add_ok _ _ _ _ h24) oks_nil)))))))))))))) (ih v20.2 v17 v23.1 v23.2 (x5 ++ ([List.getD x7 (Int.toNat x9) d_flow_Rule])) (iAdd x9 1) _ h)
        · rw [if_neg c22] at h
          have c22 := not_true c22
          exact more_rounds mixed (L := lives) (f := 73) (script := (.keep :: .b true :: .keep :: .keep :: .keep :: .keep :: .keep :: .b false :: .keep :: .keep :: .keep :: .keep :: .keep :: .keep :: .keep :: .keep :: .keep :: .keep :: .keep :: .keep :: .b false :: .keep :: .keep :: .e { val := .ms 9 [] 0 (List.length ([(List.getD x7 (Int.toNat x9) d_flow_Rule).from_, (List.getD x7 (Int.toNat x9) d_flow_Rule).also])), hb := [(9, .arr 0 1 (List.length ([(List.getD x7 (Int.toNat x9) d_flow_Rule).from_, (List.getD x7 (Int.toNat x9) d_flow_Rule).also])) (encW o_i64 0 ([(List.getD x7 (Int.toNat x9) d_flow_Rule).from_, (List.getD x7 (Int.toNat x9) d_flow_Rule).also])))], sc := [] } :: .keep :: .l (.exit 2) ⟨.ptr 0 [] 0 0 :: dead :: dead :: .ptr 4 [] 0 0 :: .ms 7 [] 0 (List.length x5) :: dead :: .ptr 8 [] 0 0 :: (List.replicate 25 dead ++ (.pv (.seq (List.length x7) (encP e_flow_Rule d_flow_Rule x7)) :: .pv (.int .i64 x8) :: .pv (.int .i64 x9) :: List.replicate 113 dead)), [.box 2 [.ms 1 [] 0 (List.length x0), .pv (.seq (List.length x6) (encP e_flow_Rule d_flow_Rule x6)), .ms 3 [] 0 (List.length v17), .pv (.fn 72)], .arr 2 1 (List.length x0) (encW o_u32 0#32 x0), .arr 2 1 (List.length x1) (encW o_26 ([] : List Int) x1), .arr 0 1 (List.length v17) (encW o_26 ([] : List Int) v17), .box 0 [.ms 5 [] 0 (List.length x3), .ms 6 [] 0 (List.length x4)], .arr 0 1 (List.length x3) (encW o_i64 0 x3), .arr 0 1 (List.length x4) (encW o_bool false x4), .arr 0 6 (List.length x5) (encW o_flow_Rule d_flow_Rule x5), .box 0 [.pv (.int .i64 ((List.getD x7 (Int.toNat x9) d_flow_Rule).to_)), .pv (.int .i64 ((List.getD x7 (Int.toNat x9) d_flow_Rule).from_)), .pv (.int .i64 ((List.getD x7 (Int.toNat x9) d_flow_Rule).also)), .pv (.int .u32 (BitVec.toNat ((List.getD x7 (Int.toNat x9) d_flow_Rule).keep) : Nat)), .pv (.int .u32 (BitVec.toNat ((List.getD x7 (Int.toNat x9) d_flow_Rule).if_) : Nat)), .pv (.int .u32 (BitVec.toNat ((List.getD x7 (Int.toNat x9) d_flow_Rule).then_) : Nat))]]⟩ :: .keep :: .e { val := .ms 9 [] 0 (List.length ([List.getD x7 (Int.toNat x9) d_flow_Rule])), hb := [(9, .arr 0 6 (List.length ([List.getD x7 (Int.toNat x9) d_flow_Rule])) (encW o_flow_Rule d_flow_Rule ([List.getD x7 (Int.toNat x9) d_flow_Rule])))], sc := [] } :: .b true :: .e { val := .ms 7 [] 0 (List.length (x5 ++ ([List.getD x7 (Int.toNat x9) d_flow_Rule]))), hb := [] ++ ((7, .arr 0 6 (List.length (x5 ++ ([List.getD x7 (Int.toNat x9) d_flow_Rule]))) (encW o_flow_Rule d_flow_Rule (x5 ++ ([List.getD x7 (Int.toNat x9) d_flow_Rule])))) :: []), sc := [(7, false)] } :: .keep :: .c (.pv (.bool v20.1)) [.box 2 [.ms 1 [] 0 (List.length v20.2), .pv (.seq (List.length x6) (encP e_flow_Rule d_flow_Rule x6)), .ms 2 [] 0 (List.length v17), .pv (.fn 72)], .arr 2 1 (List.length v20.2) (encW o_u32 0#32 v20.2), .arr 2 1 (List.length v17) (encW o_26 ([] : List Int) v17)] :: .keep :: .b false :: .keep :: [])) (l := (.t (decide ((x9 : Int) < x8)) true :: .t (decide ((0 : Int) ≤ x9)) true :: .t (decide ((x9 : Int) < ((List.length x7 : Nat) : Int))) true :: .t (decide ((((List.getD x7 (Int.toNat x9) d_flow_Rule).to_) : Int) < 0)) false :: .t (decide ((((List.getD x7 (Int.toNat x9) d_flow_Rule).to_) : Int) ≥ ((((List.length x0) : Nat) : Int)))) false :: .e { val := .ms 9 [] 0 2, hb := [(9, .arr 0 1 2 (litF (o_i64 0) (List.map o_i64 [(List.getD x7 (Int.toNat x9) d_flow_Rule).from_, (List.getD x7 (Int.toNat x9) d_flow_Rule).also])))], sc := [] } { val := .ms 9 [] 0 (List.length ([(List.getD x7 (Int.toNat x9) d_flow_Rule).from_, (List.getD x7 (Int.toNat x9) d_flow_Rule).also])), hb := [(9, .arr 0 1 (List.length ([(List.getD x7 (Int.toNat x9) d_flow_Rule).from_, (List.getD x7 (Int.toNat x9) d_flow_Rule).also])) (encW o_i64 0 ([(List.getD x7 (Int.toNat x9) d_flow_Rule).from_, (List.getD x7 (Int.toNat x9) d_flow_Rule).also])))], sc := [] } :: .l flow_solver_solve_l9_c 3 ⟨.ptr 0 [] 0 0 :: dead :: dead :: .ptr 4 [] 0 0 :: .ms 7 [] 0 (List.length x5) :: dead :: .ptr 8 [] 0 0 :: (List.replicate 25 dead ++ (.pv (.seq (List.length x7) (encP e_flow_Rule d_flow_Rule x7)) :: .pv (.int .i64 x8) :: .pv (.int .i64 x9) :: (List.replicate 20 dead ++ (.ms 9 [] 0 (List.length ([(List.getD x7 (Int.toNat x9) d_flow_Rule).from_, (List.getD x7 (Int.toNat x9) d_flow_Rule).also])) :: .pv (.int .i64 ((((List.length ([(List.getD x7 (Int.toNat x9) d_flow_Rule).from_, (List.getD x7 (Int.toNat x9) d_flow_Rule).also])) : Nat) : Int))) :: .pv (.int .i64 0) :: List.replicate 90 dead)))), [.box 2 [.ms 1 [] 0 (List.length x0), .pv (.seq (List.length x6) (encP e_flow_Rule d_flow_Rule x6)), .ms 3 [] 0 (List.length x2), .pv (.fn 72)], .arr 2 1 (List.length x0) (encW o_u32 0#32 x0), .arr 2 1 (List.length x1) (encW o_26 ([] : List Int) x1), .arr 0 1 (List.length x2) (encW o_26 ([] : List Int) x2), .box 0 [.ms 5 [] 0 (List.length x3), .ms 6 [] 0 (List.length x4)], .arr 0 1 (List.length x3) (encW o_i64 0 x3), .arr 0 1 (List.length x4) (encW o_bool false x4), .arr 0 6 (List.length x5) (encW o_flow_Rule d_flow_Rule x5), .box 0 [.pv (.int .i64 ((List.getD x7 (Int.toNat x9) d_flow_Rule).to_)), .pv (.int .i64 ((List.getD x7 (Int.toNat x9) d_flow_Rule).from_)), .pv (.int .i64 ((List.getD x7 (Int.toNat x9) d_flow_Rule).also)), .pv (.int .u32 (BitVec.toNat ((List.getD x7 (Int.toNat x9) d_flow_Rule).keep) : Nat)), .pv (.int .u32 (BitVec.toNat ((List.getD x7 (Int.toNat x9) d_flow_Rule).if_) : Nat)), .pv (.int .u32 (BitVec.toNat ((List.getD x7 (Int.toNat x9) d_flow_Rule).then_) : Nat))], .arr 0 1 (List.length ([(List.getD x7 (Int.toNat x9) d_flow_Rule).from_, (List.getD x7 (Int.toNat x9) d_flow_Rule).also])) (encW o_i64 0 ([(List.getD x7 (Int.toNat x9) d_flow_Rule).from_, (List.getD x7 (Int.toNat x9) d_flow_Rule).also]))]⟩ (.exit 2) ⟨.ptr 0 [] 0 0 :: dead :: dead :: .ptr 4 [] 0 0 :: .ms 7 [] 0 (List.length x5) :: dead :: .ptr 8 [] 0 0 :: (List.replicate 25 dead ++ (.pv (.seq (List.length x7) (encP e_flow_Rule d_flow_Rule x7)) :: .pv (.int .i64 x8) :: .pv (.int .i64 x9) :: List.replicate 113 dead)), [.box 2 [.ms 1 [] 0 (List.length x0), .pv (.seq (List.length x6) (encP e_flow_Rule d_flow_Rule x6)), .ms 3 [] 0 (List.length v17), .pv (.fn 72)], .arr 2 1 (List.length x0) (encW o_u32 0#32 x0), .arr 2 1 (List.length x1) (encW o_26 ([] : List Int) x1), .arr 0 1 (List.length v17) (encW o_26 ([] : List Int) v17), .box 0 [.ms 5 [] 0 (List.length x3), .ms 6 [] 0 (List.length x4)], .arr 0 1 (List.length x3) (encW o_i64 0 x3), .arr 0 1 (List.length x4) (encW o_bool false x4), .arr 0 6 (List.length x5) (encW o_flow_Rule d_flow_Rule x5), .box 0 [.pv (.int .i64 ((List.getD x7 (Int.toNat x9) d_flow_Rule).to_)), .pv (.int .i64 ((List.getD x7 (Int.toNat x9) d_flow_Rule).from_)), .pv (.int .i64 ((List.getD x7 (Int.toNat x9) d_flow_Rule).also)), .pv (.int .u32 (BitVec.toNat ((List.getD x7 (Int.toNat x9) d_flow_Rule).keep) : Nat)), .pv (.int .u32 (BitVec.toNat ((List.getD x7 (Int.toNat x9) d_flow_Rule).if_) : Nat)), .pv (.int .u32 (BitVec.toNat ((List.getD x7 (Int.toNat x9) d_flow_Rule).then_) : Nat))]]⟩ :: .e { val := .ms 9 [] 0 1, hb := [(9, .arr 0 6 1 (litF (o_flow_Rule d_flow_Rule) (List.map o_flow_Rule [List.getD x7 (Int.toNat x9) d_flow_Rule])))], sc := [] } { val := .ms 9 [] 0 (List.length ([List.getD x7 (Int.toNat x9) d_flow_Rule])), hb := [(9, .arr 0 6 (List.length ([List.getD x7 (Int.toNat x9) d_flow_Rule])) (encW o_flow_Rule d_flow_Rule ([List.getD x7 (Int.toNat x9) d_flow_Rule])))], sc := [] } :: .t (decide (List.length ([List.getD x7 (Int.toNat x9) d_flow_Rule]) = List.length ([List.getD x7 (Int.toNat x9) d_flow_Rule])) && decide (0 = 0)) true :: .t (Nat.ble ((List.length x5 + List.length ([List.getD x7 (Int.toNat x9) d_flow_Rule])) * 40) reach) true :: .e ({ val := .ms 7 [] 0 (List.length x5 + List.length ([List.getD x7 (Int.toNat x9) d_flow_Rule])), hb := [] ++ ((7, .arr 0 6 (List.length x5 + List.length ([List.getD x7 (Int.toNat x9) d_flow_Rule])) (app (List.length x5) (encW o_flow_Rule d_flow_Rule x5) (List.length ([List.getD x7 (Int.toNat x9) d_flow_Rule])) (fun i => List.map AV.scal (encW o_flow_Rule d_flow_Rule ([List.getD x7 (Int.toNat x9) d_flow_Rule]) i)) (encW o_flow_Rule d_flow_Rule x5 (List.length x5)))) :: []), sc := [(7, false)] } : Eff) { val := .ms 7 [] 0 (List.length (x5 ++ ([List.getD x7 (Int.toNat x9) d_flow_Rule]))), hb := [] ++ ((7, .arr 0 6 (List.length (x5 ++ ([List.getD x7 (Int.toNat x9) d_flow_Rule]))) (encW o_flow_Rule d_flow_Rule (x5 ++ ([List.getD x7 (Int.toNat x9) d_flow_Rule])))) :: []), sc := [(7, false)] } :: .c 110 [.ptr 0 [] 0 0, .agg [.pv (.int .i64 ((List.getD x7 (Int.toNat x9) d_flow_Rule).to_)), .pv (.int .i64 ((List.getD x7 (Int.toNat x9) d_flow_Rule).from_)), .pv (.int .i64 ((List.getD x7 (Int.toNat x9) d_flow_Rule).also)), .pv (.int .u32 (BitVec.toNat ((List.getD x7 (Int.toNat x9) d_flow_Rule).keep) : Nat)), .pv (.int .u32 (BitVec.toNat ((List.getD x7 (Int.toNat x9) d_flow_Rule).if_) : Nat)), .pv (.int .u32 (BitVec.toNat ((List.getD x7 (Int.toNat x9) d_flow_Rule).then_) : Nat))]] [.box 2 [.ms 1 [] 0 (List.length x0), .pv (.seq (List.length x6) (encP e_flow_Rule d_flow_Rule x6)), .ms 2 [] 0 (List.length v17), .pv (.fn 72)], .arr 2 1 (List.length x0) (encW o_u32 0#32 x0), .arr 2 1 (List.length v17) (encW o_26 ([] : List Int) v17)] (.pv (.bool v20.1)) [.box 2 [.ms 1 [] 0 (List.length v20.2), .pv (.seq (List.length x6) (encP e_flow_Rule d_flow_Rule x6)), .ms 2 [] 0 (List.length v17), .pv (.fn 72)], .arr 2 1 (List.length v20.2) (encW o_u32 0#32 v20.2), .arr 2 1 (List.length v17) (encW o_26 ([] : List Int) v17)] :: .t v20.1 false :: [])) (by kernel_rfl) (oks_cons c4 (oks_cons c5 (oks_cons c6 (oks_cons c7 (oks_cons c8 (oks_cons (eff_lit o_i64 0 9 1 2 ([(List.getD x7 (Int.toNat x9) d_flow_Rule).from_, (List.getD x7 (Int.toNat x9) d_flow_Rule).also]) rfl _ _) (oks_cons (flow_solver_solve_l9_ok _ _ _ _ _ _ _ _ _ _ _ _ _ _ _ _ _ _ _ _ h18) (oks_cons (eff_lit o_flow_Rule d_flow_Rule 9 6 1 ([List.getD x7 (Int.toNat x9) d_flow_Rule]) rfl _ _) (oks_cons (whole_ok (List.length ([List.getD x7 (Int.toNat x9) d_flow_Rule]))) (oks_cons c19 (oks_cons (eff_app o_flow_Rule d_flow_Rule x5 ([List.getD x7 (Int.toNat x9) d_flow_Rule]) (x5 ++ ([List.getD x7 (Int.toNat x9) d_flow_Rule])) 7 6 (List.length x5) (List.length ([List.getD x7 (Int.toNat x9) d_flow_Rule])) (fun i => List.map AV.scal (encW o_flow_Rule d_flow_Rule ([List.getD x7 (Int.toNat x9) d_flow_Rule]) i)) (encW o_flow_Rule d_flow_Rule x5 (List.length x5)) [] [] [(7, false)] (by first | exact Nat.le_refl _ | exact Nat.zero_le _ | (simp only [decide_eq_true_eq, List.length_set, List.length_append, List.length_replicate, List.length_cons, List.length_nil, Nat.zero_add] at * <;> omega)) rfl (fun _ => by kernel_rfl) (congrArg o_flow_Rule (getD_ge d_flow_Rule (by first | exact Nat.le_refl _ | exact Nat.zero_le _ | (simp only [decide_eq_true_eq, List.length_set, List.length_append, List.length_replicate, List.length_cons, List.length_nil, Nat.zero_add] at * <;> omega)))) (by rw [List.take_of_length_le (by first | exact Nat.le_refl _ | exact Nat.zero_le _ | (simp only [decide_eq_true_eq, List.length_set, List.length_append, List.length_replicate, List.length_cons, List.length_nil, Nat.zero_add] at * <;> omega))])) (oks_cons (flow_solver_apply_ok _ _ _ _ _ h21) (oks_cons c22 oks_nil))))))))))))) (ih v20.2 v17 x3 x4 (x5 ++ ([List.getD x7 (Int.toNat x9) d_flow_Rule])) (iAdd x9 1) _ h)
  · rw [if_neg c4] at h
    have c4 := not_true c4
    have h := Option.some.inj h
    subst h
    exact last_round mixed (L := lives) (f := 73) (script := (.keep :: .b false :: [])) (l := (.t (decide ((x9 : Int) < x8)) false :: [])) (by kernel_rfl) (oks_cons c4 oks_nil) rfl
def flow_solver_solve_l5_F (F n : Nat) (x0 : List (BitVec 32)) (x1 : List (List Int)) (x2 : List (List Int)) (x3 : List Int) (x4 : List Bool) (x5 : List flow_Rule) (x6 : List flow_Rule) (x7 : List flow_Rule) (x8 : Int) (x9 : Int) : Option ((List (BitVec 32)) × (List (List Int)) × (List Int) × (List Bool) × (List flow_Rule)) := match n with
  | 0 => none
  | n + 1 =>
    if (decide ((x9 : Int) < x8)) = true then
      if (decide ((0 : Int) ≤ x9)) = true then
        if (decide ((x9 : Int) < ((List.length x7 : Nat) : Int))) = true then
          if (decide ((((List.getD x7 (Int.toNat x9) d_flow_Rule).to_) : Int) < 0)) = true then
            flow_solver_solve_l5_F F n x0 x1 x2 x3 x4 x5 x6 x7 x8 (iAdd x9 1)
          else
            if (decide ((((List.getD x7 (Int.toNat x9) d_flow_Rule).to_) : Int) ≥ ((((List.length x0) : Nat) : Int)))) = true then
              flow_solver_solve_l5_F F n x0 x1 x2 x3 x4 x5 x6 x7 x8 (iAdd x9 1)
            else
              bind (flow_solver_solve_l9_F F F x0 x1 x2 x3 x4 x5 ([(List.getD x7 (Int.toNat x9) d_flow_Rule).from_, (List.getD x7 (Int.toNat x9) d_flow_Rule).also]) x6 ((List.getD x7 (Int.toNat x9) d_flow_Rule).to_) ((List.getD x7 (Int.toNat x9) d_flow_Rule).from_) ((List.getD x7 (Int.toNat x9) d_flow_Rule).also) ((List.getD x7 (Int.toNat x9) d_flow_Rule).keep) ((List.getD x7 (Int.toNat x9) d_flow_Rule).if_) ((List.getD x7 (Int.toNat x9) d_flow_Rule).then_) x7 x8 x9 ((((List.length ([(List.getD x7 (Int.toNat x9) d_flow_Rule).from_, (List.getD x7 (Int.toNat x9) d_flow_Rule).also])) : Nat) : Int)) 0) fun v17 =>
              if (Nat.ble ((List.length x5 + List.length ([List.getD x7 (Int.toNat x9) d_flow_Rule])) * 40) reach) = true then
                bind (flow_solver_apply_F F x0 v17 x6 (List.getD x7 (Int.toNat x9) d_flow_Rule)) fun v20 =>
                if v20.1 = true then
                  bind (flow_todo_add_F F x3 x4 ((List.getD x7 (Int.toNat x9) d_flow_Rule).to_)) fun v23 =>
                  flow_solver_solve_l5_F F n v20.2 x1 v17 v23.1 v23.2 (x5 ++ ([List.getD x7 (Int.toNat x9) d_flow_Rule])) x6 x7 x8 (iAdd x9 1)
                else
                  flow_solver_solve_l5_F F n v20.2 x1 v17 x3 x4 (x5 ++ ([List.getD x7 (Int.toNat x9) d_flow_Rule])) x6 x7 x8 (iAdd x9 1)
              else none
        else none
      else none
    else
      some (x0, x2, x3, x4, x5)
theorem flow_solver_solve_l5_le (F n : Nat) (x0 : List (BitVec 32)) (x1 : List (List Int)) (x2 : List (List Int)) (x3 : List Int) (x4 : List Bool) (x5 : List flow_Rule) (x6 : List flow_Rule) (x7 : List flow_Rule) (x8 : Int) (x9 : Int) : Le (flow_solver_solve_l5_F F n x0 x1 x2 x3 x4 x5 x6 x7 x8 x9) (flow_solver_solve_l5 x0 x1 x2 x3 x4 x5 x6 x7 x8 x9) := by
  induction n generalizing x0 x2 x3 x4 x5 x9 with
  | zero => exact Le.none _
  | succ n ih => rw [flow_solver_solve_l5]; exact (Le.ite (Le.ite (Le.ite (Le.ite (ih x0 x2 x3 x4 x5 (iAdd x9 1)) (Le.ite (ih x0 x2 x3 x4 x5 (iAdd x9 1)) (Le.bind (flow_solver_solve_l9_le F F _ _ _ _ _ _ _ _ _ _ _ _ _ _ _ _ _ _ _) fun v17 => (Le.ite (Le.bind (flow_solver_apply_le F _ _ _ _) fun v20 => (Le.ite (Le.bind (flow_todo_add_le F _ _ _) fun v23 => (ih v20.2 v17 v23.1 v23.2 (x5 ++ ([List.getD x7 (Int.toNat x9) d_flow_Rule])) (iAdd x9 1))) (ih v20.2 v17 x3 x4 (x5 ++ ([List.getD x7 (Int.toNat x9) d_flow_Rule])) (iAdd x9 1)))) (Le.none _))))) (Le.none _)) (Le.none _)) (Le.refl _))
noncomputable def flow_solver_solve_l19_c : Code := sub (codeOf Try.prog 73) [1, 1, 1, 1, 1, 0, 1, 0, 0]
def flow_solver_solve_l19 (x0 : List (BitVec 32)) (x1 : List (List Int)) (x2 : List (List Int)) (x3 : List Int) (x4 : List Bool) (x5 : List flow_Rule) (x6 : List flow_Rule) (x7 : Int) (x8 : Int) : Option ((List Int) × (List Bool)) :=
  if (decide ((x8 : Int) < x7)) = true then
    bind (flow_todo_add x3 x4 x8) fun v28 =>
    flow_solver_solve_l19 x0 x1 x2 v28.1 v28.2 x5 x6 x7 (iAdd x8 1)
  else
    some (x3, x4)
partial_fixpoint
theorem flow_solver_solve_l19_ok (x0 : List (BitVec 32)) (x1 : List (List Int)) (x2 : List (List Int)) (x3 : List Int) (x4 : List Bool) (x5 : List flow_Rule) (x6 : List flow_Rule) (x7 : Int) (x8 : Int) (r : (List Int) × (List Bool)) (h : flow_solver_solve_l19 x0 x1 x2 x3 x4 x5 x6 x7 x8 = some r) : Loops Try.prog flow_solver_solve_l19_c 3 ⟨.ptr 0 [] 0 0 :: dead :: dead :: .ptr 4 [] 0 0 :: .ms 7 [] 0 (List.length x5) :: (List.replicate 101 dead ++ (.pv (.int .i64 x7) :: .pv (.int .i64 x8) :: List.replicate 40 dead)), [.box 2 [.ms 1 [] 0 (List.length x0), .pv (.seq (List.length x6) (encP e_flow_Rule d_flow_Rule x6)), .ms 3 [] 0 (List.length x2), .pv (.fn 72)], .arr 2 1 (List.length x0) (encW o_u32 0#32 x0), .arr 2 1 (List.length x1) (encW o_26 ([] : List Int) x1), .arr 0 1 (List.length x2) (encW o_26 ([] : List Int) x2), .box 0 [.ms 5 [] 0 (List.length x3), .ms 6 [] 0 (List.length x4)], .arr 0 1 (List.length x3) (encW o_i64 0 x3), .arr 0 1 (List.length x4) (encW o_bool false x4), .arr 0 6 (List.length x5) (encW o_flow_Rule d_flow_Rule x5)]⟩ (.exit 4) ⟨.ptr 0 [] 0 0 :: dead :: dead :: .ptr 4 [] 0 0 :: .ms 7 [] 0 (List.length x5) :: List.replicate 143 dead, [.box 2 [.ms 1 [] 0 (List.length x0), .pv (.seq (List.length x6) (encP e_flow_Rule d_flow_Rule x6)), .ms 3 [] 0 (List.length x2), .pv (.fn 72)], .arr 2 1 (List.length x0) (encW o_u32 0#32 x0), .arr 2 1 (List.length x1) (encW o_26 ([] : List Int) x1), .arr 0 1 (List.length x2) (encW o_26 ([] : List Int) x2), .box 0 [.ms 5 [] 0 (List.length r.1), .ms 6 [] 0 (List.length r.2)], .arr 0 1 (List.length r.1) (encW o_i64 0 r.1), .arr 0 1 (List.length r.2) (encW o_bool false r.2), .arr 0 6 (List.length x5) (encW o_flow_Rule d_flow_Rule x5)]⟩ := by
  refine flow_solver_solve_l19.partial_correctness x0 x1 x2 x5 x6 x7 (fun x3 x4 x8 r => Loops Try.prog flow_solver_solve_l19_c 3 ⟨.ptr 0 [] 0 0 :: dead :: dead :: .ptr 4 [] 0 0 :: .ms 7 [] 0 (List.length x5) :: (List.replicate 101 dead ++ (.pv (.int .i64 x7) :: .pv (.int .i64 x8) :: List.replicate 40 dead)), [.box 2 [.ms 1 [] 0 (List.length x0), .pv (.seq (List.length x6) (encP e_flow_Rule d_flow_Rule x6)), .ms 3 [] 0 (List.length x2), .pv (.fn 72)], .arr 2 1 (List.length x0) (encW o_u32 0#32 x0), .arr 2 1 (List.length x1) (encW o_26 ([] : List Int) x1), .arr 0 1 (List.length x2) (encW o_26 ([] : List Int) x2), .box 0 [.ms 5 [] 0 (List.length x3), .ms 6 [] 0 (List.length x4)], .arr 0 1 (List.length x3) (encW o_i64 0 x3), .arr 0 1 (List.length x4) (encW o_bool false x4), .arr 0 6 (List.length x5) (encW o_flow_Rule d_flow_Rule x5)]⟩ (.exit 4) ⟨.ptr 0 [] 0 0 :: dead :: dead :: .ptr 4 [] 0 0 :: .ms 7 [] 0 (List.length x5) :: List.replicate 143 dead, [.box 2 [.ms 1 [] 0 (List.length x0), .pv (.seq (List.length x6) (encP e_flow_Rule d_flow_Rule x6)), .ms 3 [] 0 (List.length x2), .pv (.fn 72)], .arr 2 1 (List.length x0) (encW o_u32 0#32 x0), .arr 2 1 (List.length x1) (encW o_26 ([] : List Int) x1), .arr 0 1 (List.length x2) (encW o_26 ([] : List Int) x2), .box 0 [.ms 5 [] 0 (List.length r.1), .ms 6 [] 0 (List.length r.2)], .arr 0 1 (List.length r.1) (encW o_i64 0 r.1), .arr 0 1 (List.length r.2) (encW o_bool false r.2), .arr 0 6 (List.length x5) (encW o_flow_Rule d_flow_Rule x5)]⟩) ?_ x3 x4 x8 r h
  clear h r x3 x4 x8
  intro self ih x3 x4 x8 r h
  by_cases c27 : (decide ((x8 : Int) < x7)) = true
  · rw [if_pos c27] at h
    obtain ⟨v28, h29, h⟩ := bind_of h
    exact more_rounds mixed (L := lives) (f := 73) (script := (.keep :: .b true :: .c (.tup []) [.box 2 [.ms 1 [] 0 (List.length v28.1), .ms 2 [] 0 (List.length v28.2)], .arr 0 1 (List.length v28.1) (encW o_i64 0 v28.1), .arr 2 1 (List.length v28.2) (encW o_bool false v28.2)] :: .keep :: .keep :: [])) (l := (.t (decide ((x8 : Int) < x7)) true :: .c 111 [.ptr 0 [] 0 0, .pv (.int .i64 x8)] [.box 2 [.ms 1 [] 0 (List.length x3), .ms 2 [] 0 (List.length x4)], .arr 2 1 (List.length x3) (encW o_i64 0 x3), .arr 2 1 (List.length x4) (encW o_bool false x4)] (.tup []) [.box 2 [.ms 1 [] 0 (List.length v28.1), .ms 2 [] 0 (List.length v28.2)], .arr 0 1 (List.length v28.1) (encW o_i64 0 v28.1), .arr 2 1 (List.length v28.2) (encW o_bool false v28.2)] :: [])) (by kernel_rfl) (oks_cons c27 (oks_cons (flow_todo_add_ok _ _ _ _ h29) oks_nil)) (ih v28.1 v28.2 (iAdd x8 1) _ h)
  · rw [if_neg c27] at h
    have c27 := not_true c27
    have h := Option.some.inj h
    subst h
    exact last_round mixed (L := lives) (f := 73) (script := (.keep :: .b false :: [])) (l := (.t (decide ((x8 : Int) < x7)) false :: [])) (by kernel_rfl) (oks_cons c27 oks_nil) rfl
def flow_solver_solve_l19_F (F n : Nat) (x0 : List (BitVec 32)) (x1 : List (List Int)) (x2 : List (List Int)) (x3 : List Int) (x4 : List Bool) (x5 : List flow_Rule) (x6 : List flow_Rule) (x7 : Int) (x8 : Int) : Option ((List Int) × (List Bool)) := match n with
  | 0 => none
  | n + 1 =>
    if (decide ((x8 : Int) < x7)) = true then
      bind (flow_todo_add_F F x3 x4 x8) fun v28 =>
      flow_solver_solve_l19_F F n x0 x1 x2 v28.1 v28.2 x5 x6 x7 (iAdd x8 1)
    else
      some (x3, x4)
theorem flow_solver_solve_l19_le (F n : Nat) (x0 : List (BitVec 32)) (x1 : List (List Int)) (x2 : List (List Int)) (x3 : List Int) (x4 : List Bool) (x5 : List flow_Rule) (x6 : List flow_Rule) (x7 : Int) (x8 : Int) : Le (flow_solver_solve_l19_F F n x0 x1 x2 x3 x4 x5 x6 x7 x8) (flow_solver_solve_l19 x0 x1 x2 x3 x4 x5 x6 x7 x8) := by
  induction n generalizing x3 x4 x8 with
  | zero => exact Le.none _
  | succ n ih => rw [flow_solver_solve_l19]; exact (Le.ite (Le.bind (flow_todo_add_le F _ _ _) fun v28 => (ih v28.1 v28.2 (iAdd x8 1))) (Le.refl _))
noncomputable def heap_down_l2_c : Code := sub (codeOf Try.prog 119) [1, 1, 0, 0, 0]
def heap_down_l2 (x0 : List Int) (x1 : List Bool) (x2 : Int) (x3 : Int) (x4 : Int) : Option ((List Int) × Int) :=
  if (decide (((iAdd (iMul 2 x4) 1) : Int) ≥ x3)) = true then
    some (x0, x4)
  else
    if (decide (((iAdd (iMul 2 x4) 1) : Int) < 0)) = true then
      some (x0, x4)
    else
      if (decide (((iAdd (iAdd (iMul 2 x4) 1) 1) : Int) < x3)) = true then
        bind (flow_todo_Less x0 x1 (iAdd (iAdd (iMul 2 x4) 1) 1) (iAdd (iMul 2 x4) 1)) fun v4 =>
        if v4 = true then
          bind (flow_todo_Less x0 x1 (iAdd (iAdd (iMul 2 x4) 1) 1) x4) fun v7 =>
          if (!v7) = true then
            some (x0, x4)
          else
            bind (flow_todo_Swap x0 x1 x4 (iAdd (iAdd (iMul 2 x4) 1) 1)) fun v10 =>
            heap_down_l2 v10 x1 x2 x3 (iAdd (iAdd (iMul 2 x4) 1) 1)
        else
          bind (flow_todo_Less x0 x1 (iAdd (iMul 2 x4) 1) x4) fun v12 =>
          if (!v12) = true then
            some (x0, x4)
          else
            bind (flow_todo_Swap x0 x1 x4 (iAdd (iMul 2 x4) 1)) fun v15 =>
            heap_down_l2 v15 x1 x2 x3 (iAdd (iMul 2 x4) 1)
      else
        bind (flow_todo_Less x0 x1 (iAdd (iMul 2 x4) 1) x4) fun v17 =>
        if (!v17) = true then
          some (x0, x4)
        else
          bind (flow_todo_Swap x0 x1 x4 (iAdd (iMul 2 x4) 1)) fun v20 =>
          heap_down_l2 v20 x1 x2 x3 (iAdd (iMul 2 x4) 1)
partial_fixpoint
theorem heap_down_l2_ok (x0 : List Int) (x1 : List Bool) (x2 : Int) (x3 : Int) (x4 : Int) (r : (List Int) × Int) (h : heap_down_l2 x0 x1 x2 x3 x4 = some r) : Loops Try.prog heap_down_l2_c 3 ⟨.ifc 158 (.ptr 0 [] 0 0) :: .pv (.int .i64 x2) :: .pv (.int .i64 x3) :: (List.replicate 4 dead ++ (.pv (.int .i64 x4) :: List.replicate 40 dead)), [.box 2 [.ms 1 [] 0 (List.length x0), .ms 2 [] 0 (List.length x1)], .arr 2 1 (List.length x0) (encW o_i64 0 x0), .arr 2 1 (List.length x1) (encW o_bool false x1)]⟩ (.exit 0) ⟨dead :: .pv (.int .i64 x2) :: (List.replicate 5 dead ++ (.pv (.int .i64 r.2) :: List.replicate 40 dead)), [.box 2 [.ms 1 [] 0 (List.length r.1), .ms 2 [] 0 (List.length x1)], .arr 2 1 (List.length r.1) (encW o_i64 0 r.1), .arr 2 1 (List.length x1) (encW o_bool false x1)]⟩ := by
  refine heap_down_l2.partial_correctness x1 x2 x3 (fun x0 x4 r => Loops Try.prog heap_down_l2_c 3 ⟨.ifc 158 (.ptr 0 [] 0 0) :: .pv (.int .i64 x2) :: .pv (.int .i64 x3) :: (List.replicate 4 dead ++ (.pv (.int .i64 x4) :: List.replicate 40 dead)), [.box 2 [.ms 1 [] 0 (List.length x0), .ms 2 [] 0 (List.length x1)], .arr 2 1 (List.length x0) (encW o_i64 0 x0), .arr 2 1 (List.length x1) (encW o_bool false x1)]⟩ (.exit 0) ⟨dead :: .pv (.int .i64 x2) :: (List.replicate 5 dead ++ (.pv (.int .i64 r.2) :: List.replicate 40 dead)), [.box 2 [.ms 1 [] 0 (List.length r.1), .ms 2 [] 0 (List.length x1)], .arr 2 1 (List.length r.1) (encW o_i64 0 r.1), .arr 2 1 (List.length x1) (encW o_bool false x1)]⟩) ?_ x0 x4 r h
  clear h r x0 x4
  intro self ih x0 x4 r h
  by_cases c1 : (decide (((iAdd (iMul 2 x4) 1) : Int) ≥ x3)) = true
  · rw [if_pos c1] at h
    have h := Option.some.inj h
    subst h
    exact last_round mixed (L := lives) (f := 119) (script := (.keep :: .keep :: .keep :: .b true :: .keep :: .keep :: .keep :: [])) (l := (.t (decide (((iAdd (iMul 2 x4) 1) : Int) ≥ x3)) true :: [])) (by kernel_rfl) (oks_cons c1 oks_nil) rfl
  · rw [if_neg c1] at h
    have c1 := not_true c1
    by_cases c2 : (decide (((iAdd (iMul 2 x4) 1) : Int) < 0)) = true
    · rw [if_pos c2] at h
      have h := Option.some.inj h
      subst h
      exact last_round mixed (L := lives) (f := 119) (script := (.keep :: .keep :: .keep :: .b false :: .keep :: .keep :: .keep :: .b true :: [])) (l := (.t (decide (((iAdd (iMul 2 x4) 1) : Int) ≥ x3)) false :: .t (decide (((iAdd (iMul 2 x4) 1) : Int) < 0)) true :: [])) (by kernel_rfl) (oks_cons c1 (oks_cons c2 oks_nil)) rfl
    · rw [if_neg c2] at h
      have c2 := not_true c2
      by_cases c3 : (decide (((iAdd (iAdd (iMul 2 x4) 1) 1) : Int) < x3)) = true
      · rw [if_pos c3] at h
        obtain ⟨v4, h5, h⟩ := bind_of h
        by_cases c6 : v4 = true
        · rw [if_pos c6] at h
          obtain ⟨v7, h8, h⟩ := bind_of h
          by_cases c9 : (!v7) = true
          · rw [if_pos c9] at h
            have h := Option.some.inj h
            subst h
            exact last_round mixed (L := lives) (f := 119) (script := (.keep :: .keep :: .keep :: .b false :: .keep :: .keep :: .keep :: .b false :: .keep :: .keep :: .b true :: .keep :: .keep :: .keep :: .c (.pv (.bool v4)) [.box 2 [.ms 1 [] 0 (List.length x0), .ms 2 [] 0 (List.length x1)], .arr 2 1 (List.length x0) (encW o_i64 0 x0), .arr 2 1 (List.length x1) (encW o_bool false x1)] :: .keep :: .keep :: .b true :: .c (.pv (.bool v7)) [.box 2 [.ms 1 [] 0 (List.length x0), .ms 2 [] 0 (List.length x1)], .arr 2 1 (List.length x0) (encW o_i64 0 x0), .arr 2 1 (List.length x1) (encW o_bool false x1)] :: .keep :: .keep :: .b true :: [])) (l := (.t (decide (((iAdd (iMul 2 x4) 1) : Int) ≥ x3)) false :: .t (decide (((iAdd (iMul 2 x4) 1) : Int) < 0)) false :: .t (decide (((iAdd (iAdd (iMul 2 x4) 1) 1) : Int) < x3)) true :: .c 151 [.ptr 0 [] 0 0, .pv (.int .i64 (iAdd (iAdd (iMul 2 x4) 1) 1)), .pv (.int .i64 (iAdd (iMul 2 x4) 1))] [.box 2 [.ms 1 [] 0 (List.length x0), .ms 2 [] 0 (List.length x1)], .arr 2 1 (List.length x0) (encW o_i64 0 x0), .arr 2 1 (List.length x1) (encW o_bool false x1)] (.pv (.bool v4)) [.box 2 [.ms 1 [] 0 (List.length x0), .ms 2 [] 0 (List.length x1)], .arr 2 1 (List.length x0) (encW o_i64 0 x0), .arr 2 1 (List.length x1) (encW o_bool false x1)] :: .t v4 true :: .c 151 [.ptr 0 [] 0 0, .pv (.int .i64 (iAdd (iAdd (iMul 2 x4) 1) 1)), .pv (.int .i64 x4)] [.box 2 [.ms 1 [] 0 (List.length x0), .ms 2 [] 0 (List.length x1)], .arr 2 1 (List.length x0) (encW o_i64 0 x0), .arr 2 1 (List.length x1) (encW o_bool false x1)] (.pv (.bool v7)) [.box 2 [.ms 1 [] 0 (List.length x0), .ms 2 [] 0 (List.length x1)], .arr 2 1 (List.length x0) (encW o_i64 0 x0), .arr 2 1 (List.length x1) (encW o_bool false x1)] :: .t (!v7) true :: [])) (by kernel_rfl) (oks_cons c1 (oks_cons c2 (oks_cons c3 (oks_cons (flow_todo_Less_ok _ _ _ _ _ h5) (oks_cons c6 (oks_cons (flow_todo_Less_ok _ _ _ _ _ h8) (oks_cons c9 oks_nil))))))) rfl
          · rw [if_neg c9] at h
            have c9 := not_true c9
            obtain ⟨v10, h11, h⟩ := bind_of h
            exact more_rounds mixed (L := lives) (f := 119) (script := (.keep :: .keep :: .keep :: .b false :: .keep :: .keep :: .keep :: .b false :: .keep :: .keep :: .b true :: .keep :: .keep :: .keep :: .c (.pv (.bool v4)) [.box 2 [.ms 1 [] 0 (List.length x0), .ms 2 [] 0 (List.length x1)], .arr 2 1 (List.length x0) (encW o_i64 0 x0), .arr 2 1 (List.length x1) (encW o_bool false x1)] :: .keep :: .keep :: .b true :: .c (.pv (.bool v7)) [.box 2 [.ms 1 [] 0 (List.length x0), .ms 2 [] 0 (List.length x1)], .arr 2 1 (List.length x0) (encW o_i64 0 x0), .arr 2 1 (List.length x1) (encW o_bool false x1)] :: .keep :: .keep :: .b false :: .c (.tup []) [.box 2 [.ms 1 [] 0 (List.length v10), .ms 2 [] 0 (List.length x1)], .arr 2 1 (List.length v10) (encW o_i64 0 v10), .arr 2 1 (List.length x1) (encW o_bool false x1)] :: .keep :: [])) (l := (.t (decide (((iAdd (iMul 2 x4) 1) : Int) ≥ x3)) false :: .t (decide (((iAdd (iMul 2 x4) 1) : Int) < 0)) false :: .t (decide (((iAdd (iAdd (iMul 2 x4) 1) 1) : Int) < x3)) true :: .c 151 [.ptr 0 [] 0 0, .pv (.int .i64 (iAdd (iAdd (iMul 2 x4) 1) 1)), .pv (.int .i64 (iAdd (iMul 2 x4) 1))] [.box 2 [.ms 1 [] 0 (List.length x0), .ms 2 [] 0 (List.length x1)], .arr 2 1 (List.length x0) (encW o_i64 0 x0), .arr 2 1 (List.length x1) (encW o_bool false x1)] (.pv (.bool v4)) [.box 2 [.ms 1 [] 0 (List.length x0), .ms 2 [] 0 (List.length x1)], .arr 2 1 (List.length x0) (encW o_i64 0 x0), .arr 2 1 (List.length x1) (encW o_bool false x1)] :: .t v4 true :: .c 151 [.ptr 0 [] 0 0, .pv (.int .i64 (iAdd (iAdd (iMul 2 x4) 1) 1)), .pv (.int .i64 x4)] [.box 2 [.ms 1 [] 0 (List.length x0), .ms 2 [] 0 (List.length x1)], .arr 2 1 (List.length x0) (encW o_i64 0 x0), .arr 2 1 (List.length x1) (encW o_bool false x1)] (.pv (.bool v7)) [.box 2 [.ms 1 [] 0 (List.length x0), .ms 2 [] 0 (List.length x1)], .arr 2 1 (List.length x0) (encW o_i64 0 x0), .arr 2 1 (List.length x1) (encW o_bool false x1)] :: .t (!v7) false :: .c 154 [.ptr 0 [] 0 0, .pv (.int .i64 x4), .pv (.int .i64 (iAdd (iAdd (iMul 2 x4) 1) 1))] [.box 2 [.ms 1 [] 0 (List.length x0), .ms 2 [] 0 (List.length x1)], .arr 2 1 (List.length x0) (encW o_i64 0 x0), .arr 2 1 (List.length x1) (encW o_bool false x1)] (.tup []) [.box 2 [.ms 1 [] 0 (List.length v10), .ms 2 [] 0 (List.length x1)], .arr 2 1 (List.length v10) (encW o_i64 0 v10), .arr 2 1 (List.length x1) (encW o_bool false x1)] :: [])) (by kernel_rfl) (oks_cons c1 (oks_cons c2 (oks_cons c3 (oks_cons (flow_todo_Less_ok _ _ _ _ _ h5) (oks_cons c6 (oks_cons (flow_todo_Less_ok _ _ _ _ _ h8) (oks_cons c9 (oks_cons (flow_todo_Swap_ok _ _ _ _ _ h11) oks_nil)))))))) (ih v10 (iAdd (iAdd (iMul 2 x4) 1) 1) _ h)
        · rw [if_neg c6] at h
          have c6 := not_true c6
          obtain ⟨v12, h13, h⟩ := bind_of h
          by_cases c14 : (!v12) = true
          · rw [if_pos c14] at h
            have h := Option.some.inj h
            subst h
            exact last_round mixed (L := lives) (f := 119) (script := (.keep :: .keep :: .keep :: .b false :: .keep :: .keep :: .keep :: .b false :: .keep :: .keep :: .b true :: .keep :: .keep :: .keep :: .c (.pv (.bool v4)) [.box 2 [.ms 1 [] 0 (List.length x0), .ms 2 [] 0 (List.length x1)], .arr 2 1 (List.length x0) (encW o_i64 0 x0), .arr 2 1 (List.length x1) (encW o_bool false x1)] :: .keep :: .keep :: .b false :: .c (.pv (.bool v12)) [.box 2 [.ms 1 [] 0 (List.length x0), .ms 2 [] 0 (List.length x1)], .arr 2 1 (List.length x0) (encW o_i64 0 x0), .arr 2 1 (List.length x1) (encW o_bool false x1)] :: .keep :: .keep :: .b true :: [])) (l := (.t (decide (((iAdd (iMul 2 x4) 1) : Int) ≥ x3)) false :: .t (decide (((iAdd (iMul 2 x4) 1) : Int) < 0)) false :: .t (decide (((iAdd (iAdd (iMul 2 x4) 1) 1) : Int) < x3)) true :: .c 151 [.ptr 0 [] 0 0, .pv (.int .i64 (iAdd (iAdd (iMul 2 x4) 1) 1)), .pv (.int .i64 (iAdd (iMul 2 x4) 1))] [.box 2 [.ms 1 [] 0 (List.length x0), .ms 2 [] 0 (List.length x1)], .arr 2 1 (List.length x0) (encW o_i64 0 x0), .arr 2 1 (List.length x1) (encW o_bool false x1)] (.pv (.bool v4)) [.box 2 [.ms 1 [] 0 (List.length x0), .ms 2 [] 0 (List.length x1)], .arr 2 1 (List.length x0) (encW o_i64 0 x0), .arr 2 1 (List.length x1) (encW o_bool false x1)] :: .t v4 false :: .c 151 [.ptr 0 [] 0 0, .pv (.int .i64 (iAdd (iMul 2 x4) 1)), .pv (.int .i64 x4)] [.box 2 [.ms 1 [] 0 (List.length x0), .ms 2 [] 0 (List.length x1)], .arr 2 1 (List.length x0) (encW o_i64 0 x0), .arr 2 1 (List.length x1) (encW o_bool false x1)] (.pv (.bool v12)) [.box 2 [.ms 1 [] 0 (List.length x0), .ms 2 [] 0 (List.length x1)], .arr 2 1 (List.length x0) (encW o_i64 0 x0), .arr 2 1 (List.length x1) (encW o_bool false x1)] :: .t (!v12) true :: [])) (by kernel_rfl) (oks_cons c1 (oks_cons c2 (oks_cons c3 (oks_cons (flow_todo_Less_ok _ _ _ _ _ h5) (oks_cons c6 (oks_cons (flow_todo_Less_ok _ _ _ _ _ h13) (oks_cons c14 oks_nil))))))) rfl
          · rw [if_neg c14] at h
            have c14 := not_true c14
            obtain ⟨v15, h16, h⟩ := bind_of h
            exact more_rounds mixed (L := lives) (f := 119) (script := (.keep :: .keep :: .keep :: .b false :: .keep :: .keep :: .keep :: .b false :: .keep :: .keep :: .b true :: .keep :: .keep :: .keep :: .c (.pv (.bool v4)) [.box 2 [.ms 1 [] 0 (List.length x0), .ms 2 [] 0 (List.length x1)], .arr 2 1 (List.length x0) (encW o_i64 0 x0), .arr 2 1 (List.length x1) (encW o_bool false x1)] :: .keep :: .keep :: .b false :: .c (.pv (.bool v12)) [.box 2 [.ms 1 [] 0 (List.length x0), .ms 2 [] 0 (List.length x1)], .arr 2 1 (List.length x0) (encW o_i64 0 x0), .arr 2 1 (List.length x1) (encW o_bool false x1)] :: .keep :: .keep :: .b false :: .c (.tup []) [.box 2 [.ms 1 [] 0 (List.length v15), .ms 2 [] 0 (List.length x1)], .arr 2 1 (List.length v15) (encW o_i64 0 v15), .arr 2 1 (List.length x1) (encW o_bool false x1)] :: .keep :: [])) (l := (.t (decide (((iAdd (iMul 2 x4) 1) : Int) ≥ x3)) false :: .t (decide (((iAdd (iMul 2 x4) 1) : Int) < 0)) false :: .t (decide (((iAdd (iAdd (iMul 2 x4) 1) 1) : Int) < x3)) true :: .c 151 [.ptr 0 [] 0 0, .pv (.int .i64 (iAdd (iAdd (iMul 2 x4) 1) 1)), .pv (.int .i64 (iAdd (iMul 2 x4) 1))] [.box 2 [.ms 1 [] 0 (List.length x0), .ms 2 [] 0 (List.length x1)], .arr 2 1 (List.length x0) (encW o_i64 0 x0), .arr 2 1 (List.length x1) (encW o_bool false x1)] (.pv (.bool v4)) [.box 2 [.ms 1 [] 0 (List.length x0), .ms 2 [] 0 (List.length x1)], .arr 2 1 (List.length x0) (encW o_i64 0 x0), .arr 2 1 (List.length x1) (encW o_bool false x1)] :: .t v4 false :: .c 151 [.ptr 0 [] 0 0, .pv (.int .i64 (iAdd (iMul 2 x4) 1)), .pv (.int .i64 x4)] [.box 2 [.ms 1 [] 0 (List.length x0), .ms 2 [] 0 (List.length x1)], .arr 2 1 (List.length x0) (encW o_i64 0 x0), .arr 2 1 (List.length x1) (encW o_bool false x1)] (.pv (.bool v12)) [.box 2 [.ms 1 [] 0 (List.length x0), .ms 2 [] 0 (List.length x1)], .arr 2 1 (List.length x0) (encW o_i64 0 x0), .arr 2 1 (List.length x1) (encW o_bool false x1)] :: .t (!v12) false :: .c 154 [.ptr 0 [] 0 0, .pv (.int .i64 x4), .pv (.int .i64 (iAdd (iMul 2 x4) 1))] [.box 2 [.ms 1 [] 0 (List.length x0), .ms 2 [] 0 (List.length x1)], .arr 2 1 (List.length x0) (encW o_i64 0 x0), .arr 2 1 (List.length x1) (encW o_bool false x1)] (.tup []) [.box 2 [.ms 1 [] 0 (List.length v15), .ms 2 [] 0 (List.length x1)], .arr 2 1 (List.length v15) (encW o_i64 0 v15), .arr 2 1 (List.length x1) (encW o_bool false x1)] :: [])) (by kernel_rfl) (oks_cons c1 (oks_cons c2 (oks_cons c3 (oks_cons (flow_todo_Less_ok _ _ _ _ _ h5) (oks_cons c6 (oks_cons (flow_todo_Less_ok _ _ _ _ _ h13) (oks_cons c14 (oks_cons (flow_todo_Swap_ok _ _ _ _ _ h16) oks_nil)))))))) (ih v15 (iAdd (iMul 2 x4) 1) _ h)
      · rw [if_neg c3] at h
        have c3 := not_true c3
        obtain ⟨v17, h18, h⟩ := bind_of h
        by_cases c19 : (!v17) = true
        · rw [if_pos c19] at h
          have h := Option.some.inj h
          subst h
          exact last_round mixed (L := lives) (f := 119) (script := (.keep :: .keep :: .keep :: .b false :: .keep :: .keep :: .keep :: .b false :: .keep :: .keep :: .b false :: .keep :: .keep :: .keep :: .keep :: .keep :: .c (.pv (.bool v17)) [.box 2 [.ms 1 [] 0 (List.length x0), .ms 2 [] 0 (List.length x1)], .arr 2 1 (List.length x0) (encW o_i64 0 x0), .arr 2 1 (List.length x1) (encW o_bool false x1)] :: .keep :: .keep :: .b true :: [])) (l := (.t (decide (((iAdd (iMul 2 x4) 1) : Int) ≥ x3)) false :: .t (decide (((iAdd (iMul 2 x4) 1) : Int) < 0)) false :: .t (decide (((iAdd (iAdd (iMul 2 x4) 1) 1) : Int) < x3)) false :: .c 151 [.ptr 0 [] 0 0, .pv (.int .i64 (iAdd (iMul 2 x4) 1)), .pv (.int .i64 x4)] [.box 2 [.ms 1 [] 0 (List.length x0), .ms 2 [] 0 (List.length x1)], .arr 2 1 (List.length x0) (encW o_i64 0 x0), .arr 2 1 (List.length x1) (encW o_bool false x1)] (.pv (.bool v17)) [.box 2 [.ms 1 [] 0 (List.length x0), .ms 2 [] 0 (List.length x1)], .arr 2 1 (List.length x0) (encW o_i64 0 x0), .arr 2 1 (List.length x1) (encW o_bool false x1)] :: .t (!v17) true :: [])) (by kernel_rfl) (oks_cons c1 (oks_cons c2 (oks_cons c3 (oks_cons (flow_todo_Less_ok _ _ _ _ _ h18) (oks_cons c19 oks_nil))))) rfl
        · rw [if_neg c19] at h
          have c19 := not_true c19
          obtain ⟨v20, h21, h⟩ := bind_of h
          exact more_rounds mixed (L := lives) (f := 119) (script := (.keep :: .keep :: .keep :: .b false :: .keep :: .keep :: .keep :: .b false :: .keep :: .keep :: .b false :: .keep :: .keep :: .keep :: .keep :: .keep :: .c (.pv (.bool v17)) [.box 2 [.ms 1 [] 0 (List.length x0), .ms 2 [] 0 (List.length x1)], .arr 2 1 (List.length x0) (encW o_i64 0 x0), .arr 2 1 (List.length x1) (encW o_bool false x1)] :: .keep :: .keep :: .b false :: .c (.tup []) [.box 2 [.ms 1 [] 0 (List.length v20), .ms 2 [] 0 (List.length x1)], .arr 2 1 (List.length v20) (encW o_i64 0 v20), .arr 2 1 (List.length x1) (encW o_bool false x1)] :: .keep :: [])) (l := (.t (decide (((iAdd (iMul 2 x4) 1) : Int) ≥ x3)) false :: .t (decide (((iAdd (iMul 2 x4) 1) : Int) < 0)) false :: .t (decide (((iAdd (iAdd (iMul 2 x4) 1) 1) : Int) < x3)) false :: .c 151 [.ptr 0 [] 0 0, .pv (.int .i64 (iAdd (iMul 2 x4) 1)), .pv (.int .i64 x4)] [.box 2 [.ms 1 [] 0 (List.length x0), .ms 2 [] 0 (List.length x1)], .arr 2 1 (List.length x0) (encW o_i64 0 x0), .arr 2 1 (List.length x1) (encW o_bool false x1)] (.pv (.bool v17)) [.box 2 [.ms 1 [] 0 (List.length x0), .ms 2 [] 0 (List.length x1)], .arr 2 1 (List.length x0) (encW o_i64 0 x0), .arr 2 1 (List.length x1) (encW o_bool false x1)] :: .t (!v17) false :: .c 154 [.ptr 0 [] 0 0, .pv (.int .i64 x4), .pv (.int .i64 (iAdd (iMul 2 x4) 1))] [.box 2 [.ms 1 [] 0 (List.length x0), .ms 2 [] 0 (List.length x1)], .arr 2 1 (List.length x0) (encW o_i64 0 x0), .arr 2 1 (List.length x1) (encW o_bool false x1)] (.tup []) [.box 2 [.ms 1 [] 0 (List.length v20), .ms 2 [] 0 (List.length x1)], .arr 2 1 (List.length v20) (encW o_i64 0 v20), .arr 2 1 (List.length x1) (encW o_bool false x1)] :: [])) (by kernel_rfl) (oks_cons c1 (oks_cons c2 (oks_cons c3 (oks_cons (flow_todo_Less_ok _ _ _ _ _ h18) (oks_cons c19 (oks_cons (flow_todo_Swap_ok _ _ _ _ _ h21) oks_nil)))))) (ih v20 (iAdd (iMul 2 x4) 1) _ h)
def heap_down_l2_F (F n : Nat) (x0 : List Int) (x1 : List Bool) (x2 : Int) (x3 : Int) (x4 : Int) : Option ((List Int) × Int) := match n with
  | 0 => none
  | n + 1 =>
    if (decide (((iAdd (iMul 2 x4) 1) : Int) ≥ x3)) = true then
      some (x0, x4)
    else
      if (decide (((iAdd (iMul 2 x4) 1) : Int) < 0)) = true then
        some (x0, x4)
      else
        if (decide (((iAdd (iAdd (iMul 2 x4) 1) 1) : Int) < x3)) = true then
          bind (flow_todo_Less_F F x0 x1 (iAdd (iAdd (iMul 2 x4) 1) 1) (iAdd (iMul 2 x4) 1)) fun v4 =>
          if v4 = true then
            bind (flow_todo_Less_F F x0 x1 (iAdd (iAdd (iMul 2 x4) 1) 1) x4) fun v7 =>
            if (!v7) = true then
              some (x0, x4)
            else
              bind (flow_todo_Swap_F F x0 x1 x4 (iAdd (iAdd (iMul 2 x4) 1) 1)) fun v10 =>
              heap_down_l2_F F n v10 x1 x2 x3 (iAdd (iAdd (iMul 2 x4) 1) 1)
          else
            bind (flow_todo_Less_F F x0 x1 (iAdd (iMul 2 x4) 1) x4) fun v12 =>
            if (!v12) = true then
              some (x0, x4)
            else
              bind (flow_todo_Swap_F F x0 x1 x4 (iAdd (iMul 2 x4) 1)) fun v15 =>
              heap_down_l2_F F n v15 x1 x2 x3 (iAdd (iMul 2 x4) 1)
        else
          bind (flow_todo_Less_F F x0 x1 (iAdd (iMul 2 x4) 1) x4) fun v17 =>
          if (!v17) = true then
            some (x0, x4)
          else
            bind (flow_todo_Swap_F F x0 x1 x4 (iAdd (iMul 2 x4) 1)) fun v20 =>
            heap_down_l2_F F n v20 x1 x2 x3 (iAdd (iMul 2 x4) 1)
theorem heap_down_l2_le (F n : Nat) (x0 : List Int) (x1 : List Bool) (x2 : Int) (x3 : Int) (x4 : Int) : Le (heap_down_l2_F F n x0 x1 x2 x3 x4) (heap_down_l2 x0 x1 x2 x3 x4) := by
  induction n generalizing x0 x4 with
  | zero => exact Le.none _
  | succ n ih => rw [heap_down_l2]; exact (Le.ite (Le.refl _) (Le.ite (Le.refl _) (Le.ite (Le.bind (flow_todo_Less_le F _ _ _ _) fun v4 => (Le.ite (Le.bind (flow_todo_Less_le F _ _ _ _) fun v7 => (Le.ite (Le.refl _) (Le.bind (flow_todo_Swap_le F _ _ _ _) fun v10 => (ih v10 (iAdd (iAdd (iMul 2 x4) 1) 1))))) (Le.bind (flow_todo_Less_le F _ _ _ _) fun v12 => (Le.ite (Le.refl _) (Le.bind (flow_todo_Swap_le F _ _ _ _) fun v15 => (ih v15 (iAdd (iMul 2 x4) 1))))))) (Le.bind (flow_todo_Less_le F _ _ _ _) fun v17 => (Le.ite (Le.refl _) (Le.bind (flow_todo_Swap_le F _ _ _ _) fun v20 => (ih v20 (iAdd (iMul 2 x4) 1))))))))
/-- container/heap.down -/
def heap_down (l1 : List Int) (l2 : List Bool) (i0 : Int) (n1 : Int) : Option (Bool × (List Int)) :=
  bind (heap_down_l2 l1 l2 i0 n1 i0) fun v22 =>
  some (decide ((v22.2 : Int) > i0), v22.1)
theorem heap_down_ok (l1 : List Int) (l2 : List Bool) (i0 : Int) (n1 : Int) (r : Bool × (List Int)) (h : heap_down l1 l2 i0 n1 = some r) : Does Try.prog 119 [.ifc 158 (.ptr 0 [] 0 0), .pv (.int .i64 i0), .pv (.int .i64 n1)] [.box 2 [.ms 1 [] 0 (List.length l1), .ms 2 [] 0 (List.length l2)], .arr 2 1 (List.length l1) (encW o_i64 0 l1), .arr 2 1 (List.length l2) (encW o_bool false l2)] (.pv (.bool r.1), [.box 2 [.ms 1 [] 0 (List.length r.2), .ms 2 [] 0 (List.length l2)], .arr 2 1 (List.length r.2) (encW o_i64 0 r.2), .arr 2 1 (List.length l2) (encW o_bool false l2)]) := by
  unfold heap_down at h
  obtain ⟨v22, h23, h⟩ := bind_of h
  have h := Option.some.inj h
  subst h
  exact does mixed (L := lives) (script := (.l (.exit 0) ⟨dead :: .pv (.int .i64 i0) :: (List.replicate 5 dead ++ (.pv (.int .i64 v22.2) :: List.replicate 40 dead)), [.box 2 [.ms 1 [] 0 (List.length v22.1), .ms 2 [] 0 (List.length l2)], .arr 2 1 (List.length v22.1) (encW o_i64 0 v22.1), .arr 2 1 (List.length l2) (encW o_bool false l2)]⟩ :: .keep :: [])) (l := (.l heap_down_l2_c 3 ⟨.ifc 158 (.ptr 0 [] 0 0) :: .pv (.int .i64 i0) :: .pv (.int .i64 n1) :: (List.replicate 4 dead ++ (.pv (.int .i64 i0) :: List.replicate 40 dead)), [.box 2 [.ms 1 [] 0 (List.length l1), .ms 2 [] 0 (List.length l2)], .arr 2 1 (List.length l1) (encW o_i64 0 l1), .arr 2 1 (List.length l2) (encW o_bool false l2)]⟩ (.exit 0) ⟨dead :: .pv (.int .i64 i0) :: (List.replicate 5 dead ++ (.pv (.int .i64 v22.2) :: List.replicate 40 dead)), [.box 2 [.ms 1 [] 0 (List.length v22.1), .ms 2 [] 0 (List.length l2)], .arr 2 1 (List.length v22.1) (encW o_i64 0 v22.1), .arr 2 1 (List.length l2) (encW o_bool false l2)]⟩ :: [])) (by kernel_rfl) (oks_cons (heap_down_l2_ok _ _ _ _ _ _ h23) oks_nil)
def heap_down_F (F : Nat) (l1 : List Int) (l2 : List Bool) (i0 : Int) (n1 : Int) : Option (Bool × (List Int)) :=
  bind (heap_down_l2_F F F l1 l2 i0 n1 i0) fun v22 =>
  some (decide ((v22.2 : Int) > i0), v22.1)
theorem heap_down_le (F : Nat) (l1 : List Int) (l2 : List Bool) (i0 : Int) (n1 : Int) : Le (heap_down_F F l1 l2 i0 n1) (heap_down l1 l2 i0 n1) := (Le.bind (heap_down_l2_le F F _ _ _ _ _) fun v22 => (Le.refl _))
/-- (*alibi/flow.todo).Pop -/
def flow_todo_Pop (l1 : List Int) (l2 : List Bool) : Option (Int × (List Int)) :=
  if (decide ((0 : Int) ≤ (iSub ((((List.length l1) : Nat) : Int)) 1))) = true then
    if (decide (((iSub ((((List.length l1) : Nat) : Int)) 1) : Int) < (((List.length l1) : Nat) : Int))) = true then
      if (decide (((iSub ((((List.length l1) : Nat) : Int)) 1) : Int) ≤ ((List.length l1 : Nat) : Int))) = true then
        some (List.getD l1 (Int.toNat (iSub ((((List.length l1) : Nat) : Int)) 1)) 0, List.take (Int.toNat (iSub ((((List.length l1) : Nat) : Int)) 1)) l1)
      else none
    else none
  else none
theorem flow_todo_Pop_ok (l1 : List Int) (l2 : List Bool) (r : Int × (List Int)) (h : flow_todo_Pop l1 l2 = some r) : Does Try.prog 152 [.ptr 0 [] 0 0] [.box 2 [.ms 1 [] 0 (List.length l1), .ms 2 [] 0 (List.length l2)], .arr 2 1 (List.length l1) (encW o_i64 0 l1), .arr 2 1 (List.length l2) (encW o_bool false l2)] (.ifc 3 (.pv (.int .i64 r.1)), [.box 2 [.ms 1 [] 0 (List.length r.2), .ms 2 [] 0 (List.length l2)], .arr 0 1 (List.length r.2) (encW o_i64 0 r.2), .arr 2 1 (List.length l2) (encW o_bool false l2)]) := by
  unfold flow_todo_Pop at h
  by_cases c1 : (decide ((0 : Int) ≤ (iSub ((((List.length l1) : Nat) : Int)) 1))) = true
  case neg => rw [if_neg c1] at h; cases h
  rw [if_pos c1] at h
  by_cases c2 : (decide (((iSub ((((List.length l1) : Nat) : Int)) 1) : Int) < (((List.length l1) : Nat) : Int))) = true
  case neg => rw [if_neg c2] at h; cases h
  rw [if_pos c2] at h
  by_cases c3 : (decide (((iSub ((((List.length l1) : Nat) : Int)) 1) : Int) ≤ ((List.length l1 : Nat) : Int))) = true
  case neg => rw [if_neg c3] at h; cases h
  rw [if_pos c3] at h
  have h := Option.some.inj h
  subst h
  refine Does.eq (does mixed (L := lives) (script := (.keep :: .keep :: .keep :: .keep :: .keep :: .keep :: .keep :: .keep :: .keep :: .keep :: .keep :: [])) (l := (.t (decide ((0 : Int) ≤ (iSub ((((List.length l1) : Nat) : Int)) 1))) true :: .t (decide (((iSub ((((List.length l1) : Nat) : Int)) 1) : Int) < (((List.length l1) : Nat) : Int))) true :: .t (decide ((0 : Int) ≤ (iSub ((((List.length l1) : Nat) : Int)) 1))) true :: .t (decide (((iSub ((((List.length l1) : Nat) : Int)) 1) : Int) ≤ ((List.length l1 : Nat) : Int))) true :: [])) (r := (.ifc 3 (.pv (.int .i64 (List.getD l1 (Int.toNat (iSub ((((List.length l1) : Nat) : Int)) 1)) 0))), [.box 2 [.ms 1 [] 0 (Int.toNat (iSub ((((List.length l1) : Nat) : Int)) 1)), .ms 2 [] 0 (List.length l2)], .arr 0 1 (Int.toNat (iSub ((((List.length l1) : Nat) : Int)) 1)) (cutF 0 (Int.toNat (iSub ((((List.length l1) : Nat) : Int)) 1)) (List.length l1) (encW o_i64 0 l1)), .arr 2 1 (List.length l2) (encW o_bool false l2)])) (by kernel_rfl) (oks_cons c1 (oks_cons c2 (oks_cons c1 (oks_cons c3 oks_nil))))) ?_
  rw [cut_enc o_i64 0 l1 (Int.toNat (iSub ((((List.length l1) : Nat) : Int)) 1)) (List.length l1) (by first | exact Nat.le_refl _ | exact Nat.zero_le _ | (simp only [decide_eq_true_eq, List.length_set, List.length_append, List.length_replicate, List.length_cons, List.length_nil, Nat.zero_add] at * <;> omega)) (by first | exact Nat.le_refl _ | exact Nat.zero_le _ | (simp only [decide_eq_true_eq, List.length_set, List.length_append, List.length_replicate, List.length_cons, List.length_nil, Nat.zero_add] at * <;> omega)), len_take l1 (Int.toNat (iSub ((((List.length l1) : Nat) : Int)) 1)) (by first | exact Nat.le_refl _ | exact Nat.zero_le _ | (simp only [decide_eq_true_eq, List.length_set, List.length_append, List.length_replicate, List.length_cons, List.length_nil, Nat.zero_add] at * <;> omega))] <;> (first | rfl | (simp only [List.length_set]; done))
def flow_todo_Pop_F (F : Nat) (l1 : List Int) (l2 : List Bool) : Option (Int × (List Int)) :=
  if (decide ((0 : Int) ≤ (iSub ((((List.length l1) : Nat) : Int)) 1))) = true then
    if (decide (((iSub ((((List.length l1) : Nat) : Int)) 1) : Int) < (((List.length l1) : Nat) : Int))) = true then
      if (decide (((iSub ((((List.length l1) : Nat) : Int)) 1) : Int) ≤ ((List.length l1 : Nat) : Int))) = true then
        some (List.getD l1 (Int.toNat (iSub ((((List.length l1) : Nat) : Int)) 1)) 0, List.take (Int.toNat (iSub ((((List.length l1) : Nat) : Int)) 1)) l1)
      else none
    else none
  else none
theorem flow_todo_Pop_le (F : Nat) (l1 : List Int) (l2 : List Bool) : Le (flow_todo_Pop_F F l1 l2) (flow_todo_Pop l1 l2) := (Le.ite (Le.ite (Le.ite (Le.refl _) (Le.none _)) (Le.none _)) (Le.none _))
/-- container/heap.Pop -/
def heap_Pop (l1 : List Int) (l2 : List Bool) : Option (Int × (List Int)) :=
  bind (flow_todo_Len l1 l2) fun v1 =>
  bind (flow_todo_Swap l1 l2 0 (iSub v1 1)) fun v3 =>
  bind (heap_down v3 l2 0 (iSub v1 1)) fun v5 =>
  bind (flow_todo_Pop v5.2 l2) fun v7 =>
  some (v7.1, v7.2)
theorem heap_Pop_ok (l1 : List Int) (l2 : List Bool) (r : Int × (List Int)) (h : heap_Pop l1 l2 = some r) : Does Try.prog 81 [.ifc 158 (.ptr 0 [] 0 0)] [.box 2 [.ms 1 [] 0 (List.length l1), .ms 2 [] 0 (List.length l2)], .arr 2 1 (List.length l1) (encW o_i64 0 l1), .arr 2 1 (List.length l2) (encW o_bool false l2)] (.ifc 3 (.pv (.int .i64 r.1)), [.box 2 [.ms 1 [] 0 (List.length r.2), .ms 2 [] 0 (List.length l2)], .arr 0 1 (List.length r.2) (encW o_i64 0 r.2), .arr 2 1 (List.length l2) (encW o_bool false l2)]) := by
  unfold heap_Pop at h
  obtain ⟨v1, h2, h⟩ := bind_of h
  obtain ⟨v3, h4, h⟩ := bind_of h
  obtain ⟨v5, h6, h⟩ := bind_of h
  obtain ⟨v7, h8, h⟩ := bind_of h
  have h := Option.some.inj h
  subst h
  exact does mixed (L := lives) (script := (.c (.pv (.int .i64 v1)) [.box 2 [.ms 1 [] 0 (List.length l1), .ms 2 [] 0 (List.length l2)], .arr 2 1 (List.length l1) (encW o_i64 0 l1), .arr 2 1 (List.length l2) (encW o_bool false l2)] :: .keep :: .keep :: .c (.tup []) [.box 2 [.ms 1 [] 0 (List.length v3), .ms 2 [] 0 (List.length l2)], .arr 2 1 (List.length v3) (encW o_i64 0 v3), .arr 2 1 (List.length l2) (encW o_bool false l2)] :: .keep :: .c (.pv (.bool v5.1)) [.box 2 [.ms 1 [] 0 (List.length v5.2), .ms 2 [] 0 (List.length l2)], .arr 2 1 (List.length v5.2) (encW o_i64 0 v5.2), .arr 2 1 (List.length l2) (encW o_bool false l2)] :: .keep :: .c (.ifc 3 (.pv (.int .i64 v7.1))) [.box 2 [.ms 1 [] 0 (List.length v7.2), .ms 2 [] 0 (List.length l2)], .arr 0 1 (List.length v7.2) (encW o_i64 0 v7.2), .arr 2 1 (List.length l2) (encW o_bool false l2)] :: .keep :: [])) (l := (.c 112 [.ptr 0 [] 0 0] [.box 2 [.ms 1 [] 0 (List.length l1), .ms 2 [] 0 (List.length l2)], .arr 2 1 (List.length l1) (encW o_i64 0 l1), .arr 2 1 (List.length l2) (encW o_bool false l2)] (.pv (.int .i64 v1)) [.box 2 [.ms 1 [] 0 (List.length l1), .ms 2 [] 0 (List.length l2)], .arr 2 1 (List.length l1) (encW o_i64 0 l1), .arr 2 1 (List.length l2) (encW o_bool false l2)] :: .c 154 [.ptr 0 [] 0 0, .pv (.int .i64 0), .pv (.int .i64 (iSub v1 1))] [.box 2 [.ms 1 [] 0 (List.length l1), .ms 2 [] 0 (List.length l2)], .arr 2 1 (List.length l1) (encW o_i64 0 l1), .arr 2 1 (List.length l2) (encW o_bool false l2)] (.tup []) [.box 2 [.ms 1 [] 0 (List.length v3), .ms 2 [] 0 (List.length l2)], .arr 2 1 (List.length v3) (encW o_i64 0 v3), .arr 2 1 (List.length l2) (encW o_bool false l2)] :: .c 119 [.ifc 158 (.ptr 0 [] 0 0), .pv (.int .i64 0), .pv (.int .i64 (iSub v1 1))] [.box 2 [.ms 1 [] 0 (List.length v3), .ms 2 [] 0 (List.length l2)], .arr 2 1 (List.length v3) (encW o_i64 0 v3), .arr 2 1 (List.length l2) (encW o_bool false l2)] (.pv (.bool v5.1)) [.box 2 [.ms 1 [] 0 (List.length v5.2), .ms 2 [] 0 (List.length l2)], .arr 2 1 (List.length v5.2) (encW o_i64 0 v5.2), .arr 2 1 (List.length l2) (encW o_bool false l2)] :: .c 152 [.ptr 0 [] 0 0] [.box 2 [.ms 1 [] 0 (List.length v5.2), .ms 2 [] 0 (List.length l2)], .arr 2 1 (List.length v5.2) (encW o_i64 0 v5.2), .arr 2 1 (List.length l2) (encW o_bool false l2)] (.ifc 3 (.pv (.int .i64 v7.1))) [.box 2 [.ms 1 [] 0 (List.length v7.2), .ms 2 [] 0 (List.length l2)], .arr 0 1 (List.length v7.2) (encW o_i64 0 v7.2), .arr 2 1 (List.length l2) (encW o_bool false l2)] :: [])) (by kernel_rfl) (oks_cons (flow_todo_Len_ok _ _ _ h2) (oks_cons (flow_todo_Swap_ok _ _ _ _ _ h4) (oks_cons (heap_down_ok _ _ _ _ _ h6) (oks_cons (flow_todo_Pop_ok _ _ _ h8) oks_nil))))
def heap_Pop_F (F : Nat) (l1 : List Int) (l2 : List Bool) : Option (Int × (List Int)) :=
  bind (flow_todo_Len_F F l1 l2) fun v1 =>
  bind (flow_todo_Swap_F F l1 l2 0 (iSub v1 1)) fun v3 =>
  bind (heap_down_F F v3 l2 0 (iSub v1 1)) fun v5 =>
  bind (flow_todo_Pop_F F v5.2 l2) fun v7 =>
  some (v7.1, v7.2)
theorem heap_Pop_le (F : Nat) (l1 : List Int) (l2 : List Bool) : Le (heap_Pop_F F l1 l2) (heap_Pop l1 l2) := (Le.bind (flow_todo_Len_le F _ _) fun v1 => (Le.bind (flow_todo_Swap_le F _ _ _ _) fun v3 => (Le.bind (heap_down_le F _ _ _ _) fun v5 => (Le.bind (flow_todo_Pop_le F _ _) fun v7 => (Le.refl _)))))
/-- (*alibi/flow.todo).next -/
def flow_todo_next (l1 : List Int) (l2 : List Bool) : Option (Int × (List Int) × (List Bool)) :=
  bind (heap_Pop l1 l2) fun v1 =>
  if (decide ((0 : Int) ≤ v1.1)) = true then
    if (decide ((v1.1 : Int) < (((List.length l2) : Nat) : Int))) = true then
      some (v1.1, v1.2, List.set l2 (Int.toNat v1.1) false)
    else none
  else none
theorem flow_todo_next_ok (l1 : List Int) (l2 : List Bool) (r : Int × (List Int) × (List Bool)) (h : flow_todo_next l1 l2 = some r) : Does Try.prog 113 [.ptr 0 [] 0 0] [.box 2 [.ms 1 [] 0 (List.length l1), .ms 2 [] 0 (List.length l2)], .arr 2 1 (List.length l1) (encW o_i64 0 l1), .arr 2 1 (List.length l2) (encW o_bool false l2)] (.pv (.int .i64 r.1), [.box 2 [.ms 1 [] 0 (List.length r.2.1), .ms 2 [] 0 (List.length r.2.2)], .arr 0 1 (List.length r.2.1) (encW o_i64 0 r.2.1), .arr 2 1 (List.length r.2.2) (encW o_bool false r.2.2)]) := by
  unfold flow_todo_next at h
  obtain ⟨v1, h2, h⟩ := bind_of h
  by_cases c3 : (decide ((0 : Int) ≤ v1.1)) = true
  case neg => rw [if_neg c3] at h; cases h
  rw [if_pos c3] at h
  by_cases c4 : (decide ((v1.1 : Int) < (((List.length l2) : Nat) : Int))) = true
  case neg => rw [if_neg c4] at h; cases h
  rw [if_pos c4] at h
  have h := Option.some.inj h
  subst h
  refine Does.eq (does mixed (L := lives) (script := (.c (.ifc 3 (.pv (.int .i64 v1.1))) [.box 2 [.ms 1 [] 0 (List.length v1.2), .ms 2 [] 0 (List.length l2)], .arr 0 1 (List.length v1.2) (encW o_i64 0 v1.2), .arr 2 1 (List.length l2) (encW o_bool false l2)] :: .keep :: .keep :: .e { val := dead, hb := [(2, .arr 2 1 (List.length l2) (encW o_bool false (List.set l2 (Int.toNat v1.1) false)))], sc := [] } :: [])) (l := (.c 81 [.ifc 158 (.ptr 0 [] 0 0)] [.box 2 [.ms 1 [] 0 (List.length l1), .ms 2 [] 0 (List.length l2)], .arr 2 1 (List.length l1) (encW o_i64 0 l1), .arr 2 1 (List.length l2) (encW o_bool false l2)] (.ifc 3 (.pv (.int .i64 v1.1))) [.box 2 [.ms 1 [] 0 (List.length v1.2), .ms 2 [] 0 (List.length l2)], .arr 0 1 (List.length v1.2) (encW o_i64 0 v1.2), .arr 2 1 (List.length l2) (encW o_bool false l2)] :: .t (decide ((0 : Int) ≤ v1.1)) true :: .t (decide ((v1.1 : Int) < (((List.length l2) : Nat) : Int))) true :: .t true true :: .e { val := dead, hb := [(2, Blk.put (.arr 2 1 (List.length l2) (encW o_bool false l2)) [] (Int.toNat v1.1) (fun cs => splice cs 0 [.pv (.bool false)]))], sc := [] } { val := dead, hb := [(2, .arr 2 1 (List.length l2) (encW o_bool false (List.set l2 (Int.toNat v1.1) false)))], sc := [] } :: [])) (r := (.pv (.int .i64 v1.1), [.box 2 [.ms 1 [] 0 (List.length v1.2), .ms 2 [] 0 (List.length l2)], .arr 0 1 (List.length v1.2) (encW o_i64 0 v1.2), .arr 2 1 (List.length l2) (encW o_bool false (List.set l2 (Int.toNat v1.1) false))])) (by kernel_rfl) (oks_cons (heap_Pop_ok _ _ _ h2) (oks_cons c3 (oks_cons c4 (oks_cons rfl (oks_cons (eff_hb (put_top o_bool false 2 1 (List.length l2) l2 (Int.toNat v1.1) 0 [.pv (.bool false)] false (by kernel_rfl) (by first | exact Nat.le_refl _ | exact Nat.zero_le _ | (simp only [decide_eq_true_eq, List.length_set, List.length_append, List.length_replicate, List.length_cons, List.length_nil, Nat.zero_add] at * <;> omega)))) oks_nil)))))) ?_
  (first | rfl | (simp only [List.length_set]; done))
def flow_todo_next_F (F : Nat) (l1 : List Int) (l2 : List Bool) : Option (Int × (List Int) × (List Bool)) :=
  bind (heap_Pop_F F l1 l2) fun v1 =>
  if (decide ((0 : Int) ≤ v1.1)) = true then
    if (decide ((v1.1 : Int) < (((List.length l2) : Nat) : Int))) = true then
      some (v1.1, v1.2, List.set l2 (Int.toNat v1.1) false)
    else none
  else none
theorem flow_todo_next_le (F : Nat) (l1 : List Int) (l2 : List Bool) : Le (flow_todo_next_F F l1 l2) (flow_todo_next l1 l2) := (Le.bind (heap_Pop_le F _ _) fun v1 => (Le.ite (Le.ite (Le.refl _) (Le.none _)) (Le.none _)))
noncomputable def flow_solver_solve_l25_c : Code := sub (codeOf Try.prog 73) [1, 1, 1, 1, 1, 1, 0, 0, 0, 1, 0, 1, 0, 0]
def flow_solver_solve_l25 (x0 : List (BitVec 32)) (x1 : List (List Int)) (x2 : List (List Int)) (x3 : List Int) (x4 : List Bool) (x5 : List flow_Rule) (x6 : List flow_Rule) (x7 : Nat) (x8 : Int) (x9 : Int) : Option ((List (BitVec 32)) × (List Int) × (List Bool)) :=
  if (decide ((x9 : Int) < x8)) = true then
    if (decide ((0 : Int) ≤ x9)) = true then
      if (decide ((x9 : Int) < (((List.length (List.getD x2 x7 (([] : List Int)))) : Nat) : Int))) = true then
        if (decide ((0 : Int) ≤ (List.getD (List.getD x2 x7 (([] : List Int))) (Int.toNat x9) 0))) = true then
          if (decide (((List.getD (List.getD x2 x7 (([] : List Int))) (Int.toNat x9) 0) : Int) < (((List.length x5) : Nat) : Int))) = true then
            bind (flow_solver_apply x0 x2 x6 (List.getD x5 (Int.toNat (List.getD (List.getD x2 x7 (([] : List Int))) (Int.toNat x9) 0)) d_flow_Rule)) fun v44 =>
            if v44.1 = true then
              bind (flow_todo_add x3 x4 ((List.getD x5 (Int.toNat (List.getD (List.getD x2 x7 (([] : List Int))) (Int.toNat x9) 0)) d_flow_Rule).to_)) fun v47 =>
              flow_solver_solve_l25 v44.2 x1 x2 v47.1 v47.2 x5 x6 x7 x8 (iAdd x9 1)
            else
              flow_solver_solve_l25 v44.2 x1 x2 x3 x4 x5 x6 x7 x8 (iAdd x9 1)
          else none
        else none
      else none
    else none
  else
    some (x0, x3, x4)
partial_fixpoint
theorem flow_solver_solve_l25_ok (x0 : List (BitVec 32)) (x1 : List (List Int)) (x2 : List (List Int)) (x3 : List Int) (x4 : List Bool) (x5 : List flow_Rule) (x6 : List flow_Rule) (x7 : Nat) (x8 : Int) (x9 : Int) (r : (List (BitVec 32)) × (List Int) × (List Bool)) (h : flow_solver_solve_l25 x0 x1 x2 x3 x4 x5 x6 x7 x8 x9 = some r) : Loops Try.prog flow_solver_solve_l25_c 3 ⟨.ptr 0 [] 0 0 :: dead :: dead :: .ptr 4 [] 0 0 :: .ms 7 [] 0 (List.length x5) :: (List.replicate 119 dead ++ (.ms 3 [(x7, 0)] 0 (List.length (List.getD x2 x7 (([] : List Int)))) :: .pv (.int .i64 x8) :: .pv (.int .i64 x9) :: List.replicate 21 dead)), [.box 2 [.ms 1 [] 0 (List.length x0), .pv (.seq (List.length x6) (encP e_flow_Rule d_flow_Rule x6)), .ms 3 [] 0 (List.length x2), .pv (.fn 72)], .arr 2 1 (List.length x0) (encW o_u32 0#32 x0), .arr 2 1 (List.length x1) (encW o_26 ([] : List Int) x1), .arr 0 1 (List.length x2) (encW o_26 ([] : List Int) x2), .box 0 [.ms 5 [] 0 (List.length x3), .ms 6 [] 0 (List.length x4)], .arr 0 1 (List.length x3) (encW o_i64 0 x3), .arr 0 1 (List.length x4) (encW o_bool false x4), .arr 0 6 (List.length x5) (encW o_flow_Rule d_flow_Rule x5)]⟩ (.exit 8) ⟨.ptr 0 [] 0 0 :: dead :: dead :: .ptr 4 [] 0 0 :: .ms 7 [] 0 (List.length x5) :: List.replicate 143 dead, [.box 2 [.ms 1 [] 0 (List.length r.1), .pv (.seq (List.length x6) (encP e_flow_Rule d_flow_Rule x6)), .ms 3 [] 0 (List.length x2), .pv (.fn 72)], .arr 2 1 (List.length r.1) (encW o_u32 0#32 r.1), .arr 2 1 (List.length x1) (encW o_26 ([] : List Int) x1), .arr 0 1 (List.length x2) (encW o_26 ([] : List Int) x2), .box 0 [.ms 5 [] 0 (List.length r.2.1), .ms 6 [] 0 (List.length r.2.2)], .arr 0 1 (List.length r.2.1) (encW o_i64 0 r.2.1), .arr 0 1 (List.length r.2.2) (encW o_bool false r.2.2), .arr 0 6 (List.length x5) (encW o_flow_Rule d_flow_Rule x5)]⟩ := by
  refine flow_solver_solve_l25.partial_correctness x1 x2 x5 x6 x7 x8 (fun x0 x3 x4 x9 r => Loops Try.prog flow_solver_solve_l25_c 3 ⟨.ptr 0 [] 0 0 :: dead :: dead :: .ptr 4 [] 0 0 :: .ms 7 [] 0 (List.length x5) :: (List.replicate 119 dead ++ (.ms 3 [(x7, 0)] 0 (List.length (List.getD x2 x7 (([] : List Int)))) :: .pv (.int .i64 x8) :: .pv (.int .i64 x9) :: List.replicate 21 dead)), [.box 2 [.ms 1 [] 0 (List.length x0), .pv (.seq (List.length x6) (encP e_flow_Rule d_flow_Rule x6)), .ms 3 [] 0 (List.length x2), .pv (.fn 72)], .arr 2 1 (List.length x0) (encW o_u32 0#32 x0), .arr 2 1 (List.length x1) (encW o_26 ([] : List Int) x1), .arr 0 1 (List.length x2) (encW o_26 ([] : List Int) x2), .box 0 [.ms 5 [] 0 (List.length x3), .ms 6 [] 0 (List.length x4)], .arr 0 1 (List.length x3) (encW o_i64 0 x3), .arr 0 1 (List.length x4) (encW o_bool false x4), .arr 0 6 (List.length x5) (encW o_flow_Rule d_flow_Rule x5)]⟩ (.exit 8) ⟨.ptr 0 [] 0 0 :: dead :: dead :: .ptr 4 [] 0 0 :: .ms 7 [] 0 (List.length x5) :: List.replicate 143 dead, [.box 2 [.ms 1 [] 0 (List.length r.1), .pv (.seq (List.length x6) (encP e_flow_Rule d_flow_Rule x6)), .ms 3 [] 0 (List.length x2), .pv (.fn 72)], .arr 2 1 (List.length r.1) (encW o_u32 0#32 r.1), .arr 2 1 (List.length x1) (encW o_26 ([] : List Int) x1), .arr 0 1 (List.length x2) (encW o_26 ([] : List Int) x2), .box 0 [.ms 5 [] 0 (List.length r.2.1), .ms 6 [] 0 (List.length r.2.2)], .arr 0 1 (List.length r.2.1) (encW o_i64 0 r.2.1), .arr 0 1 (List.length r.2.2) (encW o_bool false r.2.2), .arr 0 6 (List.length x5) (encW o_flow_Rule d_flow_Rule x5)]⟩) ?_ x0 x3 x4 x9 r h
  clear h r x0 x3 x4 x9
  intro self ih x0 x3 x4 x9 r h
  by_cases c39 : (decide ((x9 : Int) < x8)) = true
  · rw [if_pos c39] at h
    by_cases c40 : (decide ((0 : Int) ≤ x9)) = true
    case neg => rw [if_neg c40] at h; cases h
    rw [if_pos c40] at h
    by_cases c41 : (decide ((x9 : Int) < (((List.length (List.getD x2 x7 (([] : List Int)))) : Nat) : Int))) = true
    case neg => rw [if_neg c41] at h; cases h
    rw [if_pos c41] at h
    by_cases c42 : (decide ((0 : Int) ≤ (List.getD (List.getD x2 x7 (([] : List Int))) (Int.toNat x9) 0))) = true
    case neg => rw [if_neg c42] at h; cases h
    rw [if_pos c42] at h
    by_cases c43 : (decide (((List.getD (List.getD x2 x7 (([] : List Int))) (Int.toNat x9) 0) : Int) < (((List.length x5) : Nat) : Int))) = true
    case neg => rw [if_neg c43] at h; cases h
    rw [if_pos c43] at h
    obtain ⟨v44, h45, h⟩ := bind_of h
    by_cases c46 : v44.1 = true
    · rw [if_pos c46] at h
      obtain ⟨v47, h48, h⟩ := bind_of h
      exact more_rounds mixed (L := lives) (f := 73) (script := (.keep :: .b true :: .keep :: .keep :: .c (.pv (.bool v44.1)) [.box 2 [.ms 1 [] 0 (List.length v44.2), .pv (.seq (List.length x6) (encP e_flow_Rule d_flow_Rule x6)), .ms 2 [] 0 (List.length x2), .pv (.fn 72)], .arr 2 1 (List.length v44.2) (encW o_u32 0#32 v44.2), .arr 2 1 (List.length x2) (encW o_26 ([] : List Int) x2)] :: .keep :: .b true :: .keep :: .c (.tup []) [.box 2 [.ms 1 [] 0 (List.length v47.1), .ms 2 [] 0 (List.length v47.2)], .arr 0 1 (List.length v47.1) (encW o_i64 0 v47.1), .arr 2 1 (List.length v47.2) (encW o_bool false v47.2)] :: .keep :: .keep :: [])) (l := (.t (decide ((x9 : Int) < x8)) true :: .t (decide ((0 : Int) ≤ x9)) true :: .t (decide ((x9 : Int) < (((List.length (List.getD x2 x7 (([] : List Int)))) : Nat) : Int))) true :: .t (decide ((0 : Int) ≤ (List.getD (List.getD x2 x7 (([] : List Int))) (Int.toNat x9) 0))) true :: .t (decide (((List.getD (List.getD x2 x7 (([] : List Int))) (Int.toNat x9) 0) : Int) < (((List.length x5) : Nat) : Int))) true :: .c 110 [.ptr 0 [] 0 0, .agg [.pv (.int .i64 ((List.getD x5 (Int.toNat (List.getD (List.getD x2 x7 (([] : List Int))) (Int.toNat x9) 0)) d_flow_Rule).to_)), .pv (.int .i64 ((List.getD x5 (Int.toNat (List.getD (List.getD x2 x7 (([] : List Int))) (Int.toNat x9) 0)) d_flow_Rule).from_)), .pv (.int .i64 ((List.getD x5 (Int.toNat (List.getD (List.getD x2 x7 (([] : List Int))) (Int.toNat x9) 0)) d_flow_Rule).also)), .pv (.int .u32 (BitVec.toNat ((List.getD x5 (Int.toNat (List.getD (List.getD x2 x7 (([] : List Int))) (Int.toNat x9) 0)) d_flow_Rule).keep) : Nat)), .pv (.int .u32 (BitVec.toNat ((List.getD x5 (Int.toNat (List.getD (List.getD x2 x7 (([] : List Int))) (Int.toNat x9) 0)) d_flow_Rule).if_) : Nat)), .pv (.int .u32 (BitVec.toNat ((List.getD x5 (Int.toNat (List.getD (List.getD x2 x7 (([] : List Int))) (Int.toNat x9) 0)) d_flow_Rule).then_) : Nat))]] [.box 2 [.ms 1 [] 0 (List.length x0), .pv (.seq (List.length x6) (encP e_flow_Rule d_flow_Rule x6)), .ms 2 [] 0 (List.length x2), .pv (.fn 72)], .arr 2 1 (List.length x0) (encW o_u32 0#32 x0), .arr 2 1 (List.length x2) (encW o_26 ([] : List Int) x2)] (.pv (.bool v44.1)) [.box 2 [.ms 1 [] 0 (List.length v44.2), .pv (.seq (List.length x6) (encP e_flow_Rule d_flow_Rule x6)), .ms 2 [] 0 (List.length x2), .pv (.fn 72)], .arr 2 1 (List.length v44.2) (encW o_u32 0#32 v44.2), .arr 2 1 (List.length x2) (encW o_26 ([] : List Int) x2)] :: .t v44.1 true :: .t (decide ((0 : Int) ≤ (List.getD (List.getD x2 x7 (([] : List Int))) (Int.toNat x9) 0))) true :: .t (decide (((List.getD (List.getD x2 x7 (([] : List Int))) (Int.toNat x9) 0) : Int) < (((List.length x5) : Nat) : Int))) true :: .c 111 [.ptr 0 [] 0 0, .pv (.int .i64 ((List.getD x5 (Int.toNat (List.getD (List.getD x2 x7 (([] : List Int))) (Int.toNat x9) 0)) d_flow_Rule).to_))] [.box 2 [.ms 1 [] 0 (List.length x3), .ms 2 [] 0 (List.length x4)], .arr 2 1 (List.length x3) (encW o_i64 0 x3), .arr 2 1 (List.length x4) (encW o_bool false x4)] (.tup []) [.box 2 [.ms 1 [] 0 (List.length v47.1), .ms 2 [] 0 (List.length v47.2)], .arr 0 1 (List.length v47.1) (encW o_i64 0 v47.1), .arr 2 1 (List.length v47.2) (encW o_bool false v47.2)] :: [])) (by kernel_rfl) (oks_cons c39 (oks_cons c40 (oks_cons c41 (oks_cons c42 (oks_cons c43 (oks_cons (flow_solver_apply_ok _ _ _ _ _ h45) (oks_cons c46 (oks_cons c42 (oks_cons c43 (oks_cons (flow_todo_add_ok _ _ _ _ h48) oks_nil)))))))))) (ih v44.2 v47.1 v47.2 (iAdd x9 1) _ h)
    · rw [if_neg c46] at h
      have c46 := not_true c46
      exact more_rounds mixed (L := lives) (f := 73) (script := (.keep :: .b true :: .keep :: .keep :: .c (.pv (.bool v44.1)) [.box 2 [.ms 1 [] 0 (List.length v44.2), .pv (.seq (List.length x6) (encP e_flow_Rule d_flow_Rule x6)), .ms 2 [] 0 (List.length x2), .pv (.fn 72)], .arr 2 1 (List.length v44.2) (encW o_u32 0#32 v44.2), .arr 2 1 (List.length x2) (encW o_26 ([] : List Int) x2)] :: .keep :: .b false :: .keep :: [])) (l := (.t (decide ((x9 : Int) < x8)) true :: .t (decide ((0 : Int) ≤ x9)) true :: .t (decide ((x9 : Int) < (((List.length (List.getD x2 x7 (([] : List Int)))) : Nat) : Int))) true :: .t (decide ((0 : Int) ≤ (List.getD (List.getD x2 x7 (([] : List Int))) (Int.toNat x9) 0))) true :: .t (decide (((List.getD (List.getD x2 x7 (([] : List Int))) (Int.toNat x9) 0) : Int) < (((List.length x5) : Nat) : Int))) true :: .c 110 [.ptr 0 [] 0 0, .agg [.pv (.int .i64 ((List.getD x5 (Int.toNat (List.getD (List.getD x2 x7 (([] : List Int))) (Int.toNat x9) 0)) d_flow_Rule).to_)), .pv (.int .i64 ((List.getD x5 (Int.toNat (List.getD (List.getD x2 x7 (([] : List Int))) (Int.toNat x9) 0)) d_flow_Rule).from_)), .pv (.int .i64 ((List.getD x5 (Int.toNat (List.getD (List.getD x2 x7 (([] : List Int))) (Int.toNat x9) 0)) d_flow_Rule).also)), .pv (.int .u32 (BitVec.toNat ((List.getD x5 (Int.toNat (List.getD (List.getD x2 x7 (([] : List Int))) (Int.toNat x9) 0)) d_flow_Rule).keep) : Nat)), .pv (.int .u32 (BitVec.toNat ((List.getD x5 (Int.toNat (List.getD (List.getD x2 x7 (([] : List Int))) (Int.toNat x9) 0)) d_flow_Rule).if_) : Nat)), .pv (.int .u32 (BitVec.toNat ((List.getD x5 (Int.toNat (List.getD (List.getD x2 x7 (([] : List Int))) (Int.toNat x9) 0)) d_flow_Rule).then_) : Nat))]] [.box 2 [.ms 1 [] 0 (List.length x0), .pv (.seq (List.length x6) (encP e_flow_Rule d_flow_Rule x6)), .ms 2 [] 0 (List.length x2), .pv (.fn 72)], .arr 2 1 (List.length x0) (encW o_u32 0#32 x0), .arr 2 1 (List.length x2) (encW o_26 ([] : List Int) x2)] (.pv (.bool v44.1)) [.box 2 [.ms 1 [] 0 (List.length v44.2), .pv (.seq (List.length x6) (encP e_flow_Rule d_flow_Rule x6)), .ms 2 [] 0 (List.length x2), .pv (.fn 72)], .arr 2 1 (List.length v44.2) (encW o_u32 0#32 v44.2), .arr 2 1 (List.length x2) (encW o_26 ([] : List Int) x2)] :: .t v44.1 false :: [])) (by kernel_rfl) (oks_cons c39 (oks_cons c40 (oks_cons c41 (oks_cons c42 (oks_cons c43 (oks_cons (flow_solver_apply_ok _ _ _ _ _ h45) (oks_cons c46 oks_nil))))))) (ih v44.2 x3 x4 (iAdd x9 1) _ h)
  · rw [if_neg c39] at h
    have c39 := not_true c39
    have h := Option.some.inj h
    subst h
    exact last_round mixed (L := lives) (f := 73) (script := (.keep :: .b false :: [])) (l := (.t (decide ((x9 : Int) < x8)) false :: [])) (by kernel_rfl) (oks_cons c39 oks_nil) rfl
def flow_solver_solve_l25_F (F n : Nat) (x0 : List (BitVec 32)) (x1 : List (List Int)) (x2 : List (List Int)) (x3 : List Int) (x4 : List Bool) (x5 : List flow_Rule) (x6 : List flow_Rule) (x7 : Nat) (x8 : Int) (x9 : Int) : Option ((List (BitVec 32)) × (List Int) × (List Bool)) := match n with
  | 0 => none
  | n + 1 =>
    if (decide ((x9 : Int) < x8)) = true then
      if (decide ((0 : Int) ≤ x9)) = true then
        if (decide ((x9 : Int) < (((List.length (List.getD x2 x7 (([] : List Int)))) : Nat) : Int))) = true then
          if (decide ((0 : Int) ≤ (List.getD (List.getD x2 x7 (([] : List Int))) (Int.toNat x9) 0))) = true then
            if (decide (((List.getD (List.getD x2 x7 (([] : List Int))) (Int.toNat x9) 0) : Int) < (((List.length x5) : Nat) : Int))) = true then
              bind (flow_solver_apply_F F x0 x2 x6 (List.getD x5 (Int.toNat (List.getD (List.getD x2 x7 (([] : List Int))) (Int.toNat x9) 0)) d_flow_Rule)) fun v44 =>
              if v44.1 = true then
                bind (flow_todo_add_F F x3 x4 ((List.getD x5 (Int.toNat (List.getD (List.getD x2 x7 (([] : List Int))) (Int.toNat x9) 0)) d_flow_Rule).to_)) fun v47 =>
                flow_solver_solve_l25_F F n v44.2 x1 x2 v47.1 v47.2 x5 x6 x7 x8 (iAdd x9 1)
              else
                flow_solver_solve_l25_F F n v44.2 x1 x2 x3 x4 x5 x6 x7 x8 (iAdd x9 1)
            else none
          else none
        else none
      else none
    else
      some (x0, x3, x4)
theorem flow_solver_solve_l25_le (F n : Nat) (x0 : List (BitVec 32)) (x1 : List (List Int)) (x2 : List (List Int)) (x3 : List Int) (x4 : List Bool) (x5 : List flow_Rule) (x6 : List flow_Rule) (x7 : Nat) (x8 : Int) (x9 : Int) : Le (flow_solver_solve_l25_F F n x0 x1 x2 x3 x4 x5 x6 x7 x8 x9) (flow_solver_solve_l25 x0 x1 x2 x3 x4 x5 x6 x7 x8 x9) := by
  induction n generalizing x0 x3 x4 x9 with
  | zero => exact Le.none _
  | succ n ih => rw [flow_solver_solve_l25]; exact (Le.ite (Le.ite (Le.ite (Le.ite (Le.ite (Le.bind (flow_solver_apply_le F _ _ _ _) fun v44 => (Le.ite (Le.bind (flow_todo_add_le F _ _ _) fun v47 => (ih v44.2 v47.1 v47.2 (iAdd x9 1))) (ih v44.2 x3 x4 (iAdd x9 1)))) (Le.none _)) (Le.none _)) (Le.none _)) (Le.none _)) (Le.refl _))
noncomputable def flow_solver_solve_l23_c : Code := sub (codeOf Try.prog 73) [1, 1, 1, 1, 1, 1, 0, 0, 0]
def flow_solver_solve_l23 (x0 : List (BitVec 32)) (x1 : List (List Int)) (x2 : List (List Int)) (x3 : List Int) (x4 : List Bool) (x5 : List flow_Rule) (x6 : List flow_Rule) : Option ((List (BitVec 32))) :=
  bind (flow_todo_Len x3 x4) fun v32 =>
  if (decide ((v32 : Int) > 0)) = true then
    bind (flow_todo_next x3 x4) fun v35 =>
    if (decide ((0 : Int) ≤ v35.1)) = true then
      if (decide ((v35.1 : Int) < (((List.length x2) : Nat) : Int))) = true then
        bind (flow_solver_solve_l25 x0 x1 x2 v35.2.1 v35.2.2 x5 x6 (Int.toNat v35.1) ((((List.length (List.getD x2 (Int.toNat v35.1) (([] : List Int)))) : Nat) : Int)) 0) fun v49 =>
        flow_solver_solve_l23 v49.1 x1 x2 v49.2.1 v49.2.2 x5 x6
      else none
    else none
  else
    some x0
partial_fixpoint
theorem flow_solver_solve_l23_ok (x0 : List (BitVec 32)) (x1 : List (List Int)) (x2 : List (List Int)) (x3 : List Int) (x4 : List Bool) (x5 : List flow_Rule) (x6 : List flow_Rule) (r : (List (BitVec 32))) (h : flow_solver_solve_l23 x0 x1 x2 x3 x4 x5 x6 = some r) : Loops Try.prog flow_solver_solve_l23_c 3 ⟨.ptr 0 [] 0 0 :: dead :: dead :: .ptr 4 [] 0 0 :: .ms 7 [] 0 (List.length x5) :: List.replicate 143 dead, [.box 2 [.ms 1 [] 0 (List.length x0), .pv (.seq (List.length x6) (encP e_flow_Rule d_flow_Rule x6)), .ms 3 [] 0 (List.length x2), .pv (.fn 72)], .arr 2 1 (List.length x0) (encW o_u32 0#32 x0), .arr 2 1 (List.length x1) (encW o_26 ([] : List Int) x1), .arr 0 1 (List.length x2) (encW o_26 ([] : List Int) x2), .box 0 [.ms 5 [] 0 (List.length x3), .ms 6 [] 0 (List.length x4)], .arr 0 1 (List.length x3) (encW o_i64 0 x3), .arr 0 1 (List.length x4) (encW o_bool false x4), .arr 0 6 (List.length x5) (encW o_flow_Rule d_flow_Rule x5)]⟩ (.exit 6) ⟨.ptr 0 [] 0 0 :: List.replicate 147 dead, [.box 2 [.ms 1 [] 0 (List.length r), .pv (.seq (List.length x6) (encP e_flow_Rule d_flow_Rule x6)), .ms 3 [] 0 (List.length x2), .pv (.fn 72)], .arr 2 1 (List.length r) (encW o_u32 0#32 r), .arr 2 1 (List.length x1) (encW o_26 ([] : List Int) x1), .arr 0 1 (List.length x2) (encW o_26 ([] : List Int) x2)]⟩ := by
  refine flow_solver_solve_l23.partial_correctness x1 x2 x5 x6 (fun x0 x3 x4 r => Loops Try.prog flow_solver_solve_l23_c 3 ⟨.ptr 0 [] 0 0 :: dead :: dead :: .ptr 4 [] 0 0 :: .ms 7 [] 0 (List.length x5) :: List.replicate 143 dead, [.box 2 [.ms 1 [] 0 (List.length x0), .pv (.seq (List.length x6) (encP e_flow_Rule d_flow_Rule x6)), .ms 3 [] 0 (List.length x2), .pv (.fn 72)], .arr 2 1 (List.length x0) (encW o_u32 0#32 x0), .arr 2 1 (List.length x1) (encW o_26 ([] : List Int) x1), .arr 0 1 (List.length x2) (encW o_26 ([] : List Int) x2), .box 0 [.ms 5 [] 0 (List.length x3), .ms 6 [] 0 (List.length x4)], .arr 0 1 (List.length x3) (encW o_i64 0 x3), .arr 0 1 (List.length x4) (encW o_bool false x4), .arr 0 6 (List.length x5) (encW o_flow_Rule d_flow_Rule x5)]⟩ (.exit 6) ⟨.ptr 0 [] 0 0 :: List.replicate 147 dead, [.box 2 [.ms 1 [] 0 (List.length r), .pv (.seq (List.length x6) (encP e_flow_Rule d_flow_Rule x6)), .ms 3 [] 0 (List.length x2), .pv (.fn 72)], .arr 2 1 (List.length r) (encW o_u32 0#32 r), .arr 2 1 (List.length x1) (encW o_26 ([] : List Int) x1), .arr 0 1 (List.length x2) (encW o_26 ([] : List Int) x2)]⟩) ?_ x0 x3 x4 r h
  clear h r x0 x3 x4
  intro self ih x0 x3 x4 r h
  obtain ⟨v32, h33, h⟩ := bind_of h
  by_cases c34 : (decide ((v32 : Int) > 0)) = true
  · rw [if_pos c34] at h
    obtain ⟨v35, h36, h⟩ := bind_of h
    by_cases c37 : (decide ((0 : Int) ≤ v35.1)) = true
    case neg => rw [if_neg c37] at h; cases h
    rw [if_pos c37] at h
    by_cases c38 : (decide ((v35.1 : Int) < (((List.length x2) : Nat) : Int))) = true
    case neg => rw [if_neg c38] at h; cases h
    rw [if_pos c38] at h
    obtain ⟨v49, h50, h⟩ := bind_of h
    exact more_rounds mixed (L := lives) (f := 73) (script := (.c (.pv (.int .i64 v32)) [.box 2 [.ms 1 [] 0 (List.length x3), .ms 2 [] 0 (List.length x4)], .arr 2 1 (List.length x3) (encW o_i64 0 x3), .arr 2 1 (List.length x4) (encW o_bool false x4)] :: .keep :: .keep :: .b true :: .keep :: .c (.pv (.int .i64 v35.1)) [.box 2 [.ms 1 [] 0 (List.length v35.2.1), .ms 2 [] 0 (List.length v35.2.2)], .arr 0 1 (List.length v35.2.1) (encW o_i64 0 v35.2.1), .arr 2 1 (List.length v35.2.2) (encW o_bool false v35.2.2)] :: .keep :: .keep :: .keep :: .l (.exit 8) ⟨.ptr 0 [] 0 0 :: dead :: dead :: .ptr 4 [] 0 0 :: .ms 7 [] 0 (List.length x5) :: List.replicate 143 dead, [.box 2 [.ms 1 [] 0 (List.length v49.1), .pv (.seq (List.length x6) (encP e_flow_Rule d_flow_Rule x6)), .ms 3 [] 0 (List.length x2), .pv (.fn 72)], .arr 2 1 (List.length v49.1) (encW o_u32 0#32 v49.1), .arr 2 1 (List.length x1) (encW o_26 ([] : List Int) x1), .arr 0 1 (List.length x2) (encW o_26 ([] : List Int) x2), .box 0 [.ms 5 [] 0 (List.length v49.2.1), .ms 6 [] 0 (List.length v49.2.2)], .arr 0 1 (List.length v49.2.1) (encW o_i64 0 v49.2.1), .arr 0 1 (List.length v49.2.2) (encW o_bool false v49.2.2), .arr 0 6 (List.length x5) (encW o_flow_Rule d_flow_Rule x5)]⟩ :: [])) (l := (.c 112 [.ptr 0 [] 0 0] [.box 2 [.ms 1 [] 0 (List.length x3), .ms 2 [] 0 (List.length x4)], .arr 2 1 (List.length x3) (encW o_i64 0 x3), .arr 2 1 (List.length x4) (encW o_bool false x4)] (.pv (.int .i64 v32)) [.box 2 [.ms 1 [] 0 (List.length x3), .ms 2 [] 0 (List.length x4)], .arr 2 1 (List.length x3) (encW o_i64 0 x3), .arr 2 1 (List.length x4) (encW o_bool false x4)] :: .t (decide ((v32 : Int) > 0)) true :: .c 113 [.ptr 0 [] 0 0] [.box 2 [.ms 1 [] 0 (List.length x3), .ms 2 [] 0 (List.length x4)], .arr 2 1 (List.length x3) (encW o_i64 0 x3), .arr 2 1 (List.length x4) (encW o_bool false x4)] (.pv (.int .i64 v35.1)) [.box 2 [.ms 1 [] 0 (List.length v35.2.1), .ms 2 [] 0 (List.length v35.2.2)], .arr 0 1 (List.length v35.2.1) (encW o_i64 0 v35.2.1), .arr 2 1 (List.length v35.2.2) (encW o_bool false v35.2.2)] :: .t (decide ((0 : Int) ≤ v35.1)) true :: .t (decide ((v35.1 : Int) < (((List.length x2) : Nat) : Int))) true :: .l flow_solver_solve_l25_c 3 ⟨.ptr 0 [] 0 0 :: dead :: dead :: .ptr 4 [] 0 0 :: .ms 7 [] 0 (List.length x5) :: (List.replicate 119 dead ++ (.ms 3 [(Int.toNat v35.1, 0)] 0 (List.length (List.getD x2 (Int.toNat v35.1) (([] : List Int)))) :: .pv (.int .i64 ((((List.length (List.getD x2 (Int.toNat v35.1) (([] : List Int)))) : Nat) : Int))) :: .pv (.int .i64 0) :: List.replicate 21 dead)), [.box 2 [.ms 1 [] 0 (List.length x0), .pv (.seq (List.length x6) (encP e_flow_Rule d_flow_Rule x6)), .ms 3 [] 0 (List.length x2), .pv (.fn 72)], .arr 2 1 (List.length x0) (encW o_u32 0#32 x0), .arr 2 1 (List.length x1) (encW o_26 ([] : List Int) x1), .arr 0 1 (List.length x2) (encW o_26 ([] : List Int) x2), .box 0 [.ms 5 [] 0 (List.length v35.2.1), .ms 6 [] 0 (List.length v35.2.2)], .arr 0 1 (List.length v35.2.1) (encW o_i64 0 v35.2.1), .arr 0 1 (List.length v35.2.2) (encW o_bool false v35.2.2), .arr 0 6 (List.length x5) (encW o_flow_Rule d_flow_Rule x5)]⟩ (.exit 8) ⟨.ptr 0 [] 0 0 :: dead :: dead :: .ptr 4 [] 0 0 :: .ms 7 [] 0 (List.length x5) :: List.replicate 143 dead, [.box 2 [.ms 1 [] 0 (List.length v49.1), .pv (.seq (List.length x6) (encP e_flow_Rule d_flow_Rule x6)), .ms 3 [] 0 (List.length x2), .pv (.fn 72)], .arr 2 1 (List.length v49.1) (encW o_u32 0#32 v49.1), .arr 2 1 (List.length x1) (encW o_26 ([] : List Int) x1), .arr 0 1 (List.length x2) (encW o_26 ([] : List Int) x2), .box 0 [.ms 5 [] 0 (List.length v49.2.1), .ms 6 [] 0 (List.length v49.2.2)], .arr 0 1 (List.length v49.2.1) (encW o_i64 0 v49.2.1), .arr 0 1 (List.length v49.2.2) (encW o_bool false v49.2.2), .arr 0 6 (List.length x5) (encW o_flow_Rule d_flow_Rule x5)]⟩ :: [])) (by kernel_rfl) (oks_cons (flow_todo_Len_ok _ _ _ h33) (oks_cons c34 (oks_cons (flow_todo_next_ok _ _ _ h36) (oks_cons c37 (oks_cons c38 (oks_cons (flow_solver_solve_l25_ok _ _ _ _ _ _ _ _ _ _ _ h50) oks_nil)))))) (ih v49.1 v49.2.1 v49.2.2 _ h)
  · rw [if_neg c34] at h
    have c34 := not_true c34
    have h := Option.some.inj h
    subst h
    exact last_round mixed (L := lives) (f := 73) (script := (.c (.pv (.int .i64 v32)) [.box 2 [.ms 1 [] 0 (List.length x3), .ms 2 [] 0 (List.length x4)], .arr 2 1 (List.length x3) (encW o_i64 0 x3), .arr 2 1 (List.length x4) (encW o_bool false x4)] :: .keep :: .keep :: .b false :: [])) (l := (.c 112 [.ptr 0 [] 0 0] [.box 2 [.ms 1 [] 0 (List.length x3), .ms 2 [] 0 (List.length x4)], .arr 2 1 (List.length x3) (encW o_i64 0 x3), .arr 2 1 (List.length x4) (encW o_bool false x4)] (.pv (.int .i64 v32)) [.box 2 [.ms 1 [] 0 (List.length x3), .ms 2 [] 0 (List.length x4)], .arr 2 1 (List.length x3) (encW o_i64 0 x3), .arr 2 1 (List.length x4) (encW o_bool false x4)] :: .t (decide ((v32 : Int) > 0)) false :: [])) (by kernel_rfl) (oks_cons (flow_todo_Len_ok _ _ _ h33) (oks_cons c34 oks_nil)) rfl
def flow_solver_solve_l23_F (F n : Nat) (x0 : List (BitVec 32)) (x1 : List (List Int)) (x2 : List (List Int)) (x3 : List Int) (x4 : List Bool) (x5 : List flow_Rule) (x6 : List flow_Rule) : Option ((List (BitVec 32))) := match n with
  | 0 => none
  | n + 1 =>
    bind (flow_todo_Len_F F x3 x4) fun v32 =>
    if (decide ((v32 : Int) > 0)) = true then
      bind (flow_todo_next_F F x3 x4) fun v35 =>
      if (decide ((0 : Int) ≤ v35.1)) = true then
        if (decide ((v35.1 : Int) < (((List.length x2) : Nat) : Int))) = true then
          bind (flow_solver_solve_l25_F F F x0 x1 x2 v35.2.1 v35.2.2 x5 x6 (Int.toNat v35.1) ((((List.length (List.getD x2 (Int.toNat v35.1) (([] : List Int)))) : Nat) : Int)) 0) fun v49 =>
          flow_solver_solve_l23_F F n v49.1 x1 x2 v49.2.1 v49.2.2 x5 x6
        else none
      else none
    else
      some x0
theorem flow_solver_solve_l23_le (F n : Nat) (x0 : List (BitVec 32)) (x1 : List (List Int)) (x2 : List (List Int)) (x3 : List Int) (x4 : List Bool) (x5 : List flow_Rule) (x6 : List flow_Rule) : Le (flow_solver_solve_l23_F F n x0 x1 x2 x3 x4 x5 x6) (flow_solver_solve_l23 x0 x1 x2 x3 x4 x5 x6) := by
  induction n generalizing x0 x3 x4 with
  | zero => exact Le.none _
  | succ n ih => rw [flow_solver_solve_l23]; exact (Le.bind (flow_todo_Len_le F _ _) fun v32 => (Le.ite (Le.bind (flow_todo_next_le F _ _) fun v35 => (Le.ite (Le.ite (Le.bind (flow_solver_solve_l25_le F F _ _ _ _ _ _ _ _ _ _) fun v49 => (ih v49.1 v49.2.1 v49.2.2)) (Le.none _)) (Le.none _))) (Le.refl _)))
end Go.Bm.GoYtldkmmnffjdliaa
