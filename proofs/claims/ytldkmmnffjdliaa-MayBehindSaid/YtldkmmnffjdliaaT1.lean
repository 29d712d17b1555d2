/- Printed by gen.py. -/
import Derived.Test.YtldkmmnffjdliaaAmWords
import Derived.Test.YtldkmmnffjdliaaProg
namespace Go.Am.GoYtldkmmnffjdliaa
open Go.Proofs
set_option autoImplicit false
set_option linter.unusedVariables false
set_option maxRecDepth 100000
noncomputable def lives : Lives := livesOf [(3, [(5, [1, 2, 3, 4, 5, 6, 13, 14]), (1000005, [1, 2, 3, 4, 5, 6, 13, 41, 42, 45, 46, 47, 48, 49, 50, 53, 54, 66, 67, 68, 69, 70])]), (28, [(3, [0, 3, 4]), (7, [0, 3, 4, 5, 6]), (1000003, [3]), (1000007, [0, 3, 4, 5])]), (52, [(5, [1, 5, 6]), (1000005, [5])])]
noncomputable def ty3 : Ty Try.prog 3 Int := Ty.int 3 .i64 (by kernel_rfl) (by kernel_rfl)
structure G22 where
  kind : Int
  arg : Int
  next : Int
  alt : Int

noncomputable def ty23 : Ty Try.prog 23 G22 := Ty.struct 23 #[{ name := "Kind", type := 3, offset := 0, embedded := false, tag := "", pkgPath := "", byteOffset := 0 }, { name := "Arg", type := 3, offset := 1, embedded := false, tag := "", pkgPath := "", byteOffset := 8 }, { name := "Next", type := 3, offset := 2, embedded := false, tag := "", pkgPath := "", byteOffset := 16 }, { name := "Alt", type := 3, offset := 3, embedded := false, tag := "", pkgPath := "", byteOffset := 24 }] (TyF.cons 0 { name := "Kind", type := 3, offset := 0, embedded := false, tag := "", pkgPath := "", byteOffset := 0 } [{ name := "Arg", type := 3, offset := 1, embedded := false, tag := "", pkgPath := "", byteOffset := 8 }, { name := "Next", type := 3, offset := 2, embedded := false, tag := "", pkgPath := "", byteOffset := 16 }, { name := "Alt", type := 3, offset := 3, embedded := false, tag := "", pkgPath := "", byteOffset := 24 }] rfl ty3 (TyF.cons 1 { name := "Arg", type := 3, offset := 1, embedded := false, tag := "", pkgPath := "", byteOffset := 8 } [{ name := "Next", type := 3, offset := 2, embedded := false, tag := "", pkgPath := "", byteOffset := 16 }, { name := "Alt", type := 3, offset := 3, embedded := false, tag := "", pkgPath := "", byteOffset := 24 }] rfl ty3 (TyF.cons 2 { name := "Next", type := 3, offset := 2, embedded := false, tag := "", pkgPath := "", byteOffset := 16 } [{ name := "Alt", type := 3, offset := 3, embedded := false, tag := "", pkgPath := "", byteOffset := 24 }] rfl ty3 (TyF.cons 3 { name := "Alt", type := 3, offset := 3, embedded := false, tag := "", pkgPath := "", byteOffset := 24 } [] rfl ty3 (TyF.nil 4))))) (by kernel_rfl) (by kernel_rfl) (fun x => (x.kind, x.arg, x.next, x.alt, ())) (fun x => ⟨x.1, x.2.1, x.2.2.1, x.2.2.2.1⟩) (fun x => rfl)
noncomputable def ty24 : Ty Try.prog 24 Int := Ty.int 24 .u32 (by kernel_rfl) (by kernel_rfl)
noncomputable def ty4 : Ty Try.prog 4 Bool := Ty.bool 4 (by kernel_rfl) (by kernel_rfl)
/-- alibi/sets.One -/
noncomputable def go68 (F : Nat) (a0 : Int) : Option (Int) :=
  if (decide ((a0 : Int) < 0)) = true then
    some 0
  else
    if (decide ((a0 : Int) ≥ 32)) = true then
      some 0
    else
      if (decide ((0 : Int) ≤ a0)) = true then
        some (wShl .u32 1 a0)
      else none
theorem go68_ok (F : Nat) (a0 : Int) (r : Int) (h : go68 F a0 = some r) : Does Try.prog lives 68 [.pv (.int .i64 a0)] [] (.pv (.int .u32 r), []) := by
  unfold go68 at h
  by_cases c1 : (decide ((a0 : Int) < 0)) = true
  · rw [if_pos c1] at h
    have h := Option.some.inj h
    subst h
    exact does (script := [.b true, .keep, .keep, .keep]) (l := [.t (decide ((a0 : Int) < 0)) true]) (by kernel_rfl) (oks_cons c1 oks_nil)
  · rw [if_neg c1] at h
    have c1 := not_true c1
    by_cases c2 : (decide ((a0 : Int) ≥ 32)) = true
    · rw [if_pos c2] at h
      have h := Option.some.inj h
      subst h
      exact does (script := [.b false, .keep, .keep, .b true]) (l := [.t (decide ((a0 : Int) < 0)) false, .t (decide ((a0 : Int) ≥ 32)) true]) (by kernel_rfl) (oks_cons c1 (oks_cons c2 oks_nil))
    · rw [if_neg c2] at h
      have c2 := not_true c2
      by_cases c3 : (decide ((0 : Int) ≤ a0)) = true
      case neg => rw [if_neg c3] at h; cases h
      rw [if_pos c3] at h
      have h := Option.some.inj h
      subst h
      exact does (script := [.b false, .keep, .keep, .b false]) (l := [.t (decide ((a0 : Int) < 0)) false, .t (decide ((a0 : Int) ≥ 32)) false, .t (decide ((0 : Int) ≤ a0)) true]) (by kernel_rfl) (oks_cons c1 (oks_cons c2 (oks_cons c3 oks_nil)))
/-- alibi/sets.Has -/
noncomputable def go69 (F : Nat) (a0 : Int) (a1 : Int) : Option (Bool) :=
  if (decide ((a1 : Int) ≥ 0)) = true then
    if (decide ((a1 : Int) < 32)) = true then
      if (decide ((0 : Int) ≤ a1)) = true then
        some (((wAnd .u32 (wShr .u32 a0 a1) 1) : Int) == 1)
      else none
    else
      some false
  else
    some false
theorem go69_ok (F : Nat) (a0 : Int) (a1 : Int) (r : Bool) (h : go69 F a0 a1 = some r) : Does Try.prog lives 69 [.pv (.int .u32 a0), .pv (.int .i64 a1)] [] (.pv (.bool r), []) := by
  unfold go69 at h
  by_cases c1 : (decide ((a1 : Int) ≥ 0)) = true
  · rw [if_pos c1] at h
    by_cases c2 : (decide ((a1 : Int) < 32)) = true
    · rw [if_pos c2] at h
      by_cases c3 : (decide ((0 : Int) ≤ a1)) = true
      case neg => rw [if_neg c3] at h; cases h
      rw [if_pos c3] at h
      have h := Option.some.inj h
      subst h
      exact does (script := [.b true, .keep, .keep, .b true, .keep, .keep, .keep, .keep, .keep]) (l := [.t (decide ((a1 : Int) ≥ 0)) true, .t (decide ((a1 : Int) < 32)) true, .t (decide ((0 : Int) ≤ a1)) true]) (by kernel_rfl) (oks_cons c1 (oks_cons c2 (oks_cons c3 oks_nil)))
    · rw [if_neg c2] at h
      have c2 := not_true c2
      have h := Option.some.inj h
      subst h
      exact does (script := [.b true, .keep, .keep, .b false, .keep, .keep, .keep, .keep, .keep]) (l := [.t (decide ((a1 : Int) ≥ 0)) true, .t (decide ((a1 : Int) < 32)) false]) (by kernel_rfl) (oks_cons c1 (oks_cons c2 oks_nil))
  · rw [if_neg c1] at h
    have c1 := not_true c1
    have h := Option.some.inj h
    subst h
    exact does (script := [.b false, .keep, .keep, .keep, .keep, .keep, .keep, .keep, .keep]) (l := [.t (decide ((a1 : Int) ≥ 0)) false]) (by kernel_rfl) (oks_cons c1 oks_nil)
/-- alibi/may.Behind -/
noncomputable def go27 (F : Nat) (a0 : G22) (a1 : Int) (a2 : Int) (a3 : Int) (a4 : Bool) : Option (Int) :=
  if ((a0.kind : Int) == 5) = true then
    (go68 F a0.alt).bind fun v2 =>
      if a4 = true then
        (go68 F a3).bind fun v5 =>
          some (wOr .u32 (wOr .u32 a1 v2) v5)
      else
        (go69 F a1 a0.alt).bind fun v7 =>
          if v7 = true then
            (go68 F a3).bind fun v10 =>
              some (wOr .u32 (wOr .u32 a1 v2) v10)
          else
            some (wOr .u32 a1 v2)
  else
    if ((a0.kind : Int) == 6) = true then
      (go68 F a0.arg).bind fun v13 =>
        some (wAndNot .u32 a1 v13)
    else
      if ((a0.kind : Int) == 7) = true then
        some a2
      else
        some a1
theorem go27_ok (F : Nat) (a0 : G22) (a1 : Int) (a2 : Int) (a3 : Int) (a4 : Bool) (r : Int) (h : go27 F a0 a1 a2 a3 a4 = some r) : Does Try.prog lives 27 [.agg [.pv (.int .i64 a0.kind), .pv (.int .i64 a0.arg), .pv (.int .i64 a0.next), .pv (.int .i64 a0.alt)], .pv (.int .u32 a1), .pv (.int .u32 a2), .pv (.int .i64 a3), .pv (.bool a4)] [] (.pv (.int .u32 r), []) := by
  unfold go27 at h
  by_cases c1 : ((a0.kind : Int) == 5) = true
  · rw [if_pos c1] at h
    obtain ⟨v2, h3, h⟩ := bind_of h
    try dsimp only at h
    by_cases c4 : a4 = true
    · rw [if_pos c4] at h
      obtain ⟨v5, h6, h⟩ := bind_of h
      try dsimp only at h
      have h := Option.some.inj h
      subst h
      exact does (script := [.b true, .c (.pv (.int .u32 v2)) [], .b true, .keep, .keep, .keep, .keep, .keep, .c (.pv (.int .u32 v5)) []]) (l := [.t ((a0.kind : Int) == 5) true, .c 68 [.pv (.int .i64 a0.alt)] [] (.pv (.int .u32 v2)) [], .t a4 true, .c 68 [.pv (.int .i64 a3)] [] (.pv (.int .u32 v5)) []]) (by kernel_rfl) (oks_cons c1 (oks_cons (go68_ok _ _ _ h3) (oks_cons c4 (oks_cons (go68_ok _ _ _ h6) oks_nil))))
    · rw [if_neg c4] at h
      have c4 := not_true c4
      obtain ⟨v7, h8, h⟩ := bind_of h
      try dsimp only at h
      by_cases c9 : v7 = true
      · rw [if_pos c9] at h
        obtain ⟨v10, h11, h⟩ := bind_of h
        try dsimp only at h
        have h := Option.some.inj h
        subst h
        exact does (script := [.b true, .c (.pv (.int .u32 v2)) [], .b false, .keep, .keep, .keep, .c (.pv (.bool v7)) [], .keep, .b true, .c (.pv (.int .u32 v10)) []]) (l := [.t ((a0.kind : Int) == 5) true, .c 68 [.pv (.int .i64 a0.alt)] [] (.pv (.int .u32 v2)) [], .t a4 false, .c 69 [.pv (.int .u32 a1), .pv (.int .i64 a0.alt)] [] (.pv (.bool v7)) [], .t v7 true, .c 68 [.pv (.int .i64 a3)] [] (.pv (.int .u32 v10)) []]) (by kernel_rfl) (oks_cons c1 (oks_cons (go68_ok _ _ _ h3) (oks_cons c4 (oks_cons (go69_ok _ _ _ _ h8) (oks_cons c9 (oks_cons (go68_ok _ _ _ h11) oks_nil))))))
      · rw [if_neg c9] at h
        have c9 := not_true c9
        have h := Option.some.inj h
        subst h
        exact does (script := [.b true, .c (.pv (.int .u32 v2)) [], .b false, .keep, .keep, .keep, .c (.pv (.bool v7)) [], .keep, .b false]) (l := [.t ((a0.kind : Int) == 5) true, .c 68 [.pv (.int .i64 a0.alt)] [] (.pv (.int .u32 v2)) [], .t a4 false, .c 69 [.pv (.int .u32 a1), .pv (.int .i64 a0.alt)] [] (.pv (.bool v7)) [], .t v7 false]) (by kernel_rfl) (oks_cons c1 (oks_cons (go68_ok _ _ _ h3) (oks_cons c4 (oks_cons (go69_ok _ _ _ _ h8) (oks_cons c9 oks_nil)))))
  · rw [if_neg c1] at h
    have c1 := not_true c1
    by_cases c12 : ((a0.kind : Int) == 6) = true
    · rw [if_pos c12] at h
      obtain ⟨v13, h14, h⟩ := bind_of h
      try dsimp only at h
      have h := Option.some.inj h
      subst h
      exact does (script := [.b false, .b true, .c (.pv (.int .u32 v13)) []]) (l := [.t ((a0.kind : Int) == 5) false, .t ((a0.kind : Int) == 6) true, .c 68 [.pv (.int .i64 a0.arg)] [] (.pv (.int .u32 v13)) []]) (by kernel_rfl) (oks_cons c1 (oks_cons c12 (oks_cons (go68_ok _ _ _ h14) oks_nil)))
    · rw [if_neg c12] at h
      have c12 := not_true c12
      by_cases c15 : ((a0.kind : Int) == 7) = true
      · rw [if_pos c15] at h
        have h := Option.some.inj h
        subst h
        exact does (script := [.b false, .b false, .b true]) (l := [.t ((a0.kind : Int) == 5) false, .t ((a0.kind : Int) == 6) false, .t ((a0.kind : Int) == 7) true]) (by kernel_rfl) (oks_cons c1 (oks_cons c12 (oks_cons c15 oks_nil)))
      · rw [if_neg c15] at h
        have c15 := not_true c15
        have h := Option.some.inj h
        subst h
        exact does (script := [.b false, .b false, .b false]) (l := [.t ((a0.kind : Int) == 5) false, .t ((a0.kind : Int) == 6) false, .t ((a0.kind : Int) == 7) false]) (by kernel_rfl) (oks_cons c1 (oks_cons c12 (oks_cons c15 oks_nil)))
/-- alibi/may.Lost -/
noncomputable def go60 (F : Nat) (a0 : Int) (a1 : Int) (a2 : Int) : Option (Int) :=
  some a2
theorem go60_ok (F : Nat) (a0 : Int) (a1 : Int) (a2 : Int) (r : Int) (h : go60 F a0 a1 a2 = some r) : Does Try.prog lives 60 [.agg [.pv (.int .i64 a0), .pv (.int .i64 a1), .pv (.int .i64 a2), .nil (zelem Try.prog 51)]] [] (.pv (.int .i64 r), []) := by
  unfold go60 at h
  have h := Option.some.inj h
  subst h
  exact does (script := []) (l := []) (by kernel_rfl) oks_nil
/-- alibi/alibilaw16.awake -/
noncomputable def go25 (F : Nat) : Option (Bool) :=
  (go27 F ((G22.mk 5 0 0 1)) 0 0 2 false).bind fun v1 =>
    if ((v1 : Int) == 2) = true then
      (go60 F 0 0 2).bind fun v4 =>
        some ((v4 : Int) == 2)
    else
      some false
theorem go25_ok (F : Nat) (r : Bool) (h : go25 F = some r) : Does Try.prog lives 25 [] [] (.pv (.bool r), []) := by
  unfold go25 at h
  obtain ⟨v1, h2, h⟩ := bind_of h
  try dsimp only at h
  by_cases c3 : ((v1 : Int) == 2) = true
  · rw [if_pos c3] at h
    obtain ⟨v4, h5, h⟩ := bind_of h
    try dsimp only at h
    have h := Option.some.inj h
    subst h
    exact does (script := [.c (.pv (.int .u32 v1)) [], .b true, .keep, .c (.pv (.int .i64 v4)) [], .keep, .keep]) (l := [.c 27 [.agg [.pv (.int .i64 5), .pv (.int .i64 0), .pv (.int .i64 0), .pv (.int .i64 1)], .pv (.int .u32 0), .pv (.int .u32 0), .pv (.int .i64 2), .pv (.bool false)] [] (.pv (.int .u32 v1)) [], .t ((v1 : Int) == 2) true, .c 60 [.agg [.pv (.int .i64 0), .pv (.int .i64 0), .pv (.int .i64 2), .nil (zelem Try.prog 51)]] [] (.pv (.int .i64 v4)) []]) (by kernel_rfl) (oks_cons (go27_ok _ _ _ _ _ _ _ h2) (oks_cons c3 (oks_cons (go60_ok _ _ _ _ _ h5) oks_nil)))
  · rw [if_neg c3] at h
    have c3 := not_true c3
    have h := Option.some.inj h
    subst h
    exact does (script := [.c (.pv (.int .u32 v1)) [], .b false, .keep, .keep, .keep]) (l := [.c 27 [.agg [.pv (.int .i64 5), .pv (.int .i64 0), .pv (.int .i64 0), .pv (.int .i64 1)], .pv (.int .u32 0), .pv (.int .u32 0), .pv (.int .i64 2), .pv (.bool false)] [] (.pv (.int .u32 v1)) [], .t ((v1 : Int) == 2) false]) (by kernel_rfl) (oks_cons (go27_ok _ _ _ _ _ _ _ h2) (oks_cons c3 oks_nil))
noncomputable def go52_l5_c : Code := sub (codeOf Try.prog 52) [1, 1, 1, 0, 1, 0, 0]
inductive go52_l5_R where
  | x0 (v0 : Int)
noncomputable def go52_l5_R.ex : go52_l5_R → Ex
  | .x0 _ => .exit 0
noncomputable def go52_l5_R.st : go52_l5_R → St
  | .x0 v0 => ⟨(List.replicate 5 dead ++ (.pv (.int .u64 v0) :: List.replicate 19 dead)), []⟩
noncomputable def go52_l5 (F : Nat) (n : Nat) (x0 : Int) (x1 : Int) (x2 : Int) : Option go52_l5_R := match n with
  | 0 => none
  | n + 1 =>
    if (decide ((x2 : Int) < x0)) = true then
      go52_l5 F n x0 (wQuo .u64 x1 2) (wAdd .i64 x2 1)
    else
      some (.x0 x1)
theorem go52_l5_ok (F n : Nat) (x0 : Int) (x1 : Int) (x2 : Int) (r : go52_l5_R) (h : go52_l5 F n x0 x1 x2 = some r) : Loops Try.prog lives 52 go52_l5_c 0 ⟨dead :: .pv (.int .i64 x0) :: dead :: dead :: dead :: .pv (.int .u64 x1) :: .pv (.int .i64 x2) :: List.replicate 18 dead, []⟩ r.ex r.st := by
  induction n generalizing x0 x1 x2 r with
  | zero => cases h
  | succ n ih =>
    unfold go52_l5 at h
    by_cases c3 : (decide ((x2 : Int) < x0)) = true
    · rw [if_pos c3] at h
      exact more_rounds (script := [.b true]) (l := [.t (decide ((x2 : Int) < x0)) true, .t (!decide (2 = (0 : Int))) true]) (by kernel_rfl) (oks_cons c3 (oks_cons rfl oks_nil)) (ih _ _ _ _ h)
    · rw [if_neg c3] at h
      have c3 := not_true c3
      have h := Option.some.inj h
      subst h
      exact last_round (script := [.b false]) (l := [.t (decide ((x2 : Int) < x0)) false]) (by kernel_rfl) (oks_cons c3 oks_nil) rfl
/-- alibi/alibiref03.Has -/
noncomputable def go52 (F : Nat) (a0 : Int) (a1 : Int) : Option (Bool) :=
  if (decide ((a1 : Int) < 0)) = true then
    some false
  else
    if (decide ((a1 : Int) > 31)) = true then
      some false
    else
      (go52_l5 F F a1 (IntKind.wrap .u64 a0) 0).bind fun r => match r with
        | .x0 v4 =>
          some (((Int.tmod v4 2) : Int) == 1)
theorem go52_ok (F : Nat) (a0 : Int) (a1 : Int) (r : Bool) (h : go52 F a0 a1 = some r) : Does Try.prog lives 52 [.pv (.int .u32 a0), .pv (.int .i64 a1)] [] (.pv (.bool r), []) := by
  unfold go52 at h
  by_cases c1 : (decide ((a1 : Int) < 0)) = true
  · rw [if_pos c1] at h
    have h := Option.some.inj h
    subst h
    exact does (script := [.b true, .keep, .keep, .keep]) (l := [.t (decide ((a1 : Int) < 0)) true]) (by kernel_rfl) (oks_cons c1 oks_nil)
  · rw [if_neg c1] at h
    have c1 := not_true c1
    by_cases c2 : (decide ((a1 : Int) > 31)) = true
    · rw [if_pos c2] at h
      have h := Option.some.inj h
      subst h
      exact does (script := [.b false, .keep, .keep, .b true]) (l := [.t (decide ((a1 : Int) < 0)) false, .t (decide ((a1 : Int) > 31)) true]) (by kernel_rfl) (oks_cons c1 (oks_cons c2 oks_nil))
    · rw [if_neg c2] at h
      have c2 := not_true c2
      obtain ⟨q3, hq, h⟩ := bind_of h
      cases q3 with
      | x0 v4 =>
        have h5 := hq
        clear hq
        try dsimp only at h
        have h := Option.some.inj h
        subst h
        exact does (script := [.b false, .keep, .keep, .b false, .l (.exit 0) ⟨(List.replicate 5 dead ++ (.pv (.int .u64 v4) :: List.replicate 19 dead)), []⟩]) (l := [.t (decide ((a1 : Int) < 0)) false, .t (decide ((a1 : Int) > 31)) false, .l go52_l5_c 0 ⟨dead :: .pv (.int .i64 a1) :: dead :: dead :: dead :: .pv (.int .u64 (IntKind.wrap .u64 a0)) :: .pv (.int .i64 0) :: List.replicate 18 dead, []⟩ (.exit 0) ⟨(List.replicate 5 dead ++ (.pv (.int .u64 v4) :: List.replicate 19 dead)), []⟩, .t (!decide (2 = (0 : Int))) true]) (by kernel_rfl) (oks_cons c1 (oks_cons c2 (oks_cons (go52_l5_ok _ _ _ _ _ _ h5) (oks_cons rfl oks_nil))))
/-- alibi/alibiref16.Behind -/
noncomputable def go26 (F : Nat) (a0 : G22) (a1 : Int) (a2 : Int) (a3 : Int) (a4 : Bool) (a5 : Int) : Option (Bool) :=
  (go52 F a1 a5).bind fun v1 =>
    if ((a0.kind : Int) == 5) = true then
      if v1 = true then
        some true
      else
        if ((a5 : Int) == a0.alt) = true then
          some true
        else
          if ((a5 : Int) == a3) = true then
            if a4 = true then
              some true
            else
              (go52 F a1 a0.alt).bind fun v8 =>
                some v8
          else
            some false
    else
      if ((a0.kind : Int) == 6) = true then
        if v1 = true then
          some ((a5 : Int) != a0.arg)
        else
          some false
      else
        if ((a0.kind : Int) == 7) = true then
          (go52 F a2 a5).bind fun v13 =>
            some v13
        else
          some v1
theorem go26_ok (F : Nat) (a0 : G22) (a1 : Int) (a2 : Int) (a3 : Int) (a4 : Bool) (a5 : Int) (r : Bool) (h : go26 F a0 a1 a2 a3 a4 a5 = some r) : Does Try.prog lives 26 [.agg [.pv (.int .i64 a0.kind), .pv (.int .i64 a0.arg), .pv (.int .i64 a0.next), .pv (.int .i64 a0.alt)], .pv (.int .u32 a1), .pv (.int .u32 a2), .pv (.int .i64 a3), .pv (.bool a4), .pv (.int .i64 a5)] [] (.pv (.bool r), []) := by
  unfold go26 at h
  obtain ⟨v1, h2, h⟩ := bind_of h
  try dsimp only at h
  by_cases c3 : ((a0.kind : Int) == 5) = true
  · rw [if_pos c3] at h
    by_cases c4 : v1 = true
    · rw [if_pos c4] at h
      have h := Option.some.inj h
      subst h
      exact does (script := [.c (.pv (.bool v1)) [], .b true, .b true, .keep, .keep, .keep, .keep, .keep, .keep, .keep, .keep, .keep, .keep]) (l := [.c 52 [.pv (.int .u32 a1), .pv (.int .i64 a5)] [] (.pv (.bool v1)) [], .t ((a0.kind : Int) == 5) true, .t v1 true]) (by kernel_rfl) (oks_cons (go52_ok _ _ _ _ h2) (oks_cons c3 (oks_cons c4 oks_nil)))
    · rw [if_neg c4] at h
      have c4 := not_true c4
      by_cases c5 : ((a5 : Int) == a0.alt) = true
      · rw [if_pos c5] at h
        have h := Option.some.inj h
        subst h
        exact does (script := [.c (.pv (.bool v1)) [], .b true, .b false, .keep, .keep, .keep, .keep, .b true, .keep, .keep, .keep, .keep, .keep]) (l := [.c 52 [.pv (.int .u32 a1), .pv (.int .i64 a5)] [] (.pv (.bool v1)) [], .t ((a0.kind : Int) == 5) true, .t v1 false, .t ((a5 : Int) == a0.alt) true]) (by kernel_rfl) (oks_cons (go52_ok _ _ _ _ h2) (oks_cons c3 (oks_cons c4 (oks_cons c5 oks_nil))))
      · rw [if_neg c5] at h
        have c5 := not_true c5
        by_cases c6 : ((a5 : Int) == a3) = true
        · rw [if_pos c6] at h
          by_cases c7 : a4 = true
          · rw [if_pos c7] at h
            have h := Option.some.inj h
            subst h
            exact does (script := [.c (.pv (.bool v1)) [], .b true, .b false, .keep, .keep, .keep, .keep, .b false, .keep, .keep, .keep, .b true, .keep, .b true, .keep, .keep, .keep, .keep, .keep, .keep, .keep, .keep]) (l := [.c 52 [.pv (.int .u32 a1), .pv (.int .i64 a5)] [] (.pv (.bool v1)) [], .t ((a0.kind : Int) == 5) true, .t v1 false, .t ((a5 : Int) == a0.alt) false, .t ((a5 : Int) == a3) true, .t a4 true]) (by kernel_rfl) (oks_cons (go52_ok _ _ _ _ h2) (oks_cons c3 (oks_cons c4 (oks_cons c5 (oks_cons c6 (oks_cons c7 oks_nil))))))
          · rw [if_neg c7] at h
            have c7 := not_true c7
            obtain ⟨v8, h9, h⟩ := bind_of h
            try dsimp only at h
            have h := Option.some.inj h
            subst h
            exact does (script := [.c (.pv (.bool v1)) [], .b true, .b false, .keep, .keep, .keep, .keep, .b false, .keep, .keep, .keep, .b true, .keep, .b false, .keep, .keep, .keep, .c (.pv (.bool v8)) [], .keep, .keep, .keep, .keep, .keep]) (l := [.c 52 [.pv (.int .u32 a1), .pv (.int .i64 a5)] [] (.pv (.bool v1)) [], .t ((a0.kind : Int) == 5) true, .t v1 false, .t ((a5 : Int) == a0.alt) false, .t ((a5 : Int) == a3) true, .t a4 false, .c 52 [.pv (.int .u32 a1), .pv (.int .i64 a0.alt)] [] (.pv (.bool v8)) []]) (by kernel_rfl) (oks_cons (go52_ok _ _ _ _ h2) (oks_cons c3 (oks_cons c4 (oks_cons c5 (oks_cons c6 (oks_cons c7 (oks_cons (go52_ok _ _ _ _ h9) oks_nil)))))))
        · rw [if_neg c6] at h
          have c6 := not_true c6
          have h := Option.some.inj h
          subst h
          exact does (script := [.c (.pv (.bool v1)) [], .b true, .b false, .keep, .keep, .keep, .keep, .b false, .keep, .keep, .keep, .b false, .keep, .keep, .keep, .keep, .keep]) (l := [.c 52 [.pv (.int .u32 a1), .pv (.int .i64 a5)] [] (.pv (.bool v1)) [], .t ((a0.kind : Int) == 5) true, .t v1 false, .t ((a5 : Int) == a0.alt) false, .t ((a5 : Int) == a3) false]) (by kernel_rfl) (oks_cons (go52_ok _ _ _ _ h2) (oks_cons c3 (oks_cons c4 (oks_cons c5 (oks_cons c6 oks_nil)))))
  · rw [if_neg c3] at h
    have c3 := not_true c3
    by_cases c10 : ((a0.kind : Int) == 6) = true
    · rw [if_pos c10] at h
      by_cases c11 : v1 = true
      · rw [if_pos c11] at h
        have h := Option.some.inj h
        subst h
        exact does (script := [.c (.pv (.bool v1)) [], .b false, .b true, .b true, .keep, .keep, .keep, .keep]) (l := [.c 52 [.pv (.int .u32 a1), .pv (.int .i64 a5)] [] (.pv (.bool v1)) [], .t ((a0.kind : Int) == 5) false, .t ((a0.kind : Int) == 6) true, .t v1 true]) (by kernel_rfl) (oks_cons (go52_ok _ _ _ _ h2) (oks_cons c3 (oks_cons c10 (oks_cons c11 oks_nil))))
      · rw [if_neg c11] at h
        have c11 := not_true c11
        have h := Option.some.inj h
        subst h
        exact does (script := [.c (.pv (.bool v1)) [], .b false, .b true, .b false, .keep, .keep, .keep, .keep]) (l := [.c 52 [.pv (.int .u32 a1), .pv (.int .i64 a5)] [] (.pv (.bool v1)) [], .t ((a0.kind : Int) == 5) false, .t ((a0.kind : Int) == 6) true, .t v1 false]) (by kernel_rfl) (oks_cons (go52_ok _ _ _ _ h2) (oks_cons c3 (oks_cons c10 (oks_cons c11 oks_nil))))
    · rw [if_neg c10] at h
      have c10 := not_true c10
      by_cases c12 : ((a0.kind : Int) == 7) = true
      · rw [if_pos c12] at h
        obtain ⟨v13, h14, h⟩ := bind_of h
        try dsimp only at h
        have h := Option.some.inj h
        subst h
        exact does (script := [.c (.pv (.bool v1)) [], .b false, .b false, .b true, .c (.pv (.bool v13)) []]) (l := [.c 52 [.pv (.int .u32 a1), .pv (.int .i64 a5)] [] (.pv (.bool v1)) [], .t ((a0.kind : Int) == 5) false, .t ((a0.kind : Int) == 6) false, .t ((a0.kind : Int) == 7) true, .c 52 [.pv (.int .u32 a2), .pv (.int .i64 a5)] [] (.pv (.bool v13)) []]) (by kernel_rfl) (oks_cons (go52_ok _ _ _ _ h2) (oks_cons c3 (oks_cons c10 (oks_cons c12 (oks_cons (go52_ok _ _ _ _ h14) oks_nil)))))
      · rw [if_neg c12] at h
        have c12 := not_true c12
        have h := Option.some.inj h
        subst h
        exact does (script := [.c (.pv (.bool v1)) [], .b false, .b false, .b false]) (l := [.c 52 [.pv (.int .u32 a1), .pv (.int .i64 a5)] [] (.pv (.bool v1)) [], .t ((a0.kind : Int) == 5) false, .t ((a0.kind : Int) == 6) false, .t ((a0.kind : Int) == 7) false]) (by kernel_rfl) (oks_cons (go52_ok _ _ _ _ h2) (oks_cons c3 (oks_cons c10 (oks_cons c12 oks_nil))))
noncomputable def go3_l5_c : Code := sub (codeOf Try.prog 3) [1, 1, 1, 0, 1, 0, 0]
inductive go3_l5_R where
  | x0 (v0 : Int) (v1 : Int) (v2 : Int) (v3 : Bool) (v4 : Int) (v5 : List Int) (v6 : Int) (v7 : Int) (v8 : Int) (v9 : Int)
noncomputable def go3_l5_R.ex : go3_l5_R → Ex
  | .x0 _ _ _ _ _ _ _ _ _ _ => .exit 0
noncomputable def go3_l5_R.st : go3_l5_R → St
  | .x0 v0 v1 v2 v3 v4 v5 v6 v7 v8 v9 => ⟨dead :: .pv (.int .u32 v0) :: .pv (.int .u32 v1) :: .pv (.int .i64 v2) :: .pv (.bool v3) :: .pv (.int .i64 v4) :: .ptr 0 0 :: (List.replicate 6 dead ++ (.seqR (List.length v5) (encF ty3 v5) :: List.replicate 58 dead)), [.box [.pv (.int .i64 v6), .pv (.int .i64 v7), .pv (.int .i64 v8), .pv (.int .i64 v9)]]⟩
noncomputable def go3_l5 (F : Nat) (n : Nat) (x0 : Int) (x1 : Int) (x2 : Int) (x3 : Bool) (x4 : Int) (x5 : List Int) (x6 : Int) (x7 : Int) (x8 : Int) (x9 : Int) (x10 : Int) : Option go3_l5_R := match n with
  | 0 => none
  | n + 1 =>
    if (decide ((x6 : Int) < 32)) = true then
      (go26 F ((G22.mk x7 x8 x9 x10)) x0 x1 x2 x3 x6).bind fun v5 =>
        if v5 = true then
          if (Nat.ble ((List.length x5 + List.length ([x6])) * 8) reach) = true then
            go3_l5 F n x0 x1 x2 x3 x4 (x5 ++ ([x6])) (wAdd .i64 x6 1) x7 x8 x9 x10
          else none
        else
          go3_l5 F n x0 x1 x2 x3 x4 x5 (wAdd .i64 x6 1) x7 x8 x9 x10
    else
      some (.x0 x0 x1 x2 x3 x4 x5 x7 x8 x9 x10)
theorem go3_l5_ok (F n : Nat) (x0 : Int) (x1 : Int) (x2 : Int) (x3 : Bool) (x4 : Int) (x5 : List Int) (x6 : Int) (x7 : Int) (x8 : Int) (x9 : Int) (x10 : Int) (r : go3_l5_R) (h : go3_l5 F n x0 x1 x2 x3 x4 x5 x6 x7 x8 x9 x10 = some r) : Loops Try.prog lives 3 go3_l5_c 1 ⟨dead :: .pv (.int .u32 x0) :: .pv (.int .u32 x1) :: .pv (.int .i64 x2) :: .pv (.bool x3) :: .pv (.int .i64 x4) :: .ptr 0 0 :: (List.replicate 6 dead ++ (.seqR (List.length x5) (encF ty3 x5) :: .pv (.int .i64 x6) :: List.replicate 57 dead)), [.box [.pv (.int .i64 x7), .pv (.int .i64 x8), .pv (.int .i64 x9), .pv (.int .i64 x10)]]⟩ r.ex r.st := by
  induction n generalizing x0 x1 x2 x3 x4 x5 x6 x7 x8 x9 x10 r with
  | zero => cases h
  | succ n ih =>
    unfold go3_l5 at h
    by_cases c4 : (decide ((x6 : Int) < 32)) = true
    · rw [if_pos c4] at h
      obtain ⟨v5, h6, h⟩ := bind_of h
      try dsimp only at h
      by_cases c7 : v5 = true
      · rw [if_pos c7] at h
        by_cases c8 : (Nat.ble ((List.length x5 + List.length ([x6])) * 8) reach) = true
        case neg => rw [if_neg c8] at h; cases h
        rw [if_pos c8] at h
        exact more_rounds (script := [.b true, .c (.pv (.bool v5)) [], .b true, .e ⟨.seqR (List.length ([x6])) (encF ty3 ([x6])), none, []⟩, .e ⟨.seqR (List.length (x5 ++ ([x6]))) (encF ty3 (x5 ++ ([x6]))), (some 30), []⟩]) (l := [.t (decide ((x6 : Int) < 32)) true, .c 26 [.agg [.pv (.int .i64 x7), .pv (.int .i64 x8), .pv (.int .i64 x9), .pv (.int .i64 x10)], .pv (.int .u32 x0), .pv (.int .u32 x1), .pv (.int .i64 x2), .pv (.bool x3), .pv (.int .i64 x6)] [] (.pv (.bool v5)) [], .t v5 true, .e ⟨.seqR 1 (litSeq (zelem Try.prog 26) (List.map ty3.enc ([x6]))), none, []⟩ ⟨.seqR (List.length ([x6])) (encF ty3 ([x6])), none, []⟩, .t (Nat.ble ((List.length x5 + List.length ([x6])) * 8) reach) true, .e ⟨.seqR (List.length x5 + List.length ([x6])) (app (List.length x5) (encF ty3 x5) (List.length ([x6])) (encF ty3 ([x6]))), (some 30), []⟩ ⟨.seqR (List.length (x5 ++ ([x6]))) (encF ty3 (x5 ++ ([x6]))), (some 30), []⟩]) (by kernel_rfl) (oks_cons c4 (oks_cons (go26_ok _ _ _ _ _ _ _ _ h6) (oks_cons c7 (oks_cons (lit_eff ty3 ([x6]) _ (by kernel_rfl)) (oks_cons c8 (oks_cons (app_eff ty3 x5 ([x6]) (some 30)) oks_nil)))))) (ih _ _ _ _ _ _ _ _ _ _ _ _ h)
      · rw [if_neg c7] at h
        have c7 := not_true c7
        exact more_rounds (script := [.b true, .c (.pv (.bool v5)) [], .b false]) (l := [.t (decide ((x6 : Int) < 32)) true, .c 26 [.agg [.pv (.int .i64 x7), .pv (.int .i64 x8), .pv (.int .i64 x9), .pv (.int .i64 x10)], .pv (.int .u32 x0), .pv (.int .u32 x1), .pv (.int .i64 x2), .pv (.bool x3), .pv (.int .i64 x6)] [] (.pv (.bool v5)) [], .t v5 false]) (by kernel_rfl) (oks_cons c4 (oks_cons (go26_ok _ _ _ _ _ _ _ _ h6) (oks_cons c7 oks_nil))) (ih _ _ _ _ _ _ _ _ _ _ _ _ h)
    · rw [if_neg c4] at h
      have c4 := not_true c4
      have h := Option.some.inj h
      subst h
      exact last_round (script := [.b false]) (l := [.t (decide ((x6 : Int) < 32)) false]) (by kernel_rfl) (oks_cons c4 oks_nil) rfl
noncomputable def go28_l7_c : Code := sub (codeOf Try.prog 28) [1, 1, 0, 1, 0, 0, 1, 0, 0, 1, 0, 1, 0, 0]
inductive go28_l7_R where
  | x0 (v0 : List Int) (v1 : Int) (v2 : Int) (v3 : Int)
noncomputable def go28_l7_R.ex : go28_l7_R → Ex
  | .x0 _ _ _ _ => .exit 2
noncomputable def go28_l7_R.st : go28_l7_R → St
  | .x0 v0 v1 v2 v3 => ⟨.pv (.seq (List.length v0) (encF ty3 v0)) :: dead :: dead :: .pv (.int .u64 v1) :: .pv (.int .i64 v2) :: .pv (.int .u64 v3) :: List.replicate 22 dead, []⟩
noncomputable def go28_l7 (F : Nat) (n : Nat) (x0 : List Int) (x1 : Int) (x2 : Int) (x3 : Int) (x4 : Int) : Option go28_l7_R := match n with
  | 0 => none
  | n + 1 =>
    if (decide ((0 : Int) ≤ x2)) = true then
      if (decide ((x2 : Int) < ((List.length x0 : Nat) : Int))) = true then
        if (decide ((x4 : Int) < (List.getD x0 (Int.toNat x2) 0))) = true then
          go28_l7 F n x0 x1 x2 (wMul .u64 x3 2) (wAdd .i64 x4 1)
        else
          some (.x0 x0 x1 x2 x3)
      else none
    else none
theorem go28_l7_ok (F n : Nat) (x0 : List Int) (x1 : Int) (x2 : Int) (x3 : Int) (x4 : Int) (r : go28_l7_R) (h : go28_l7 F n x0 x1 x2 x3 x4 = some r) : Loops Try.prog lives 28 go28_l7_c 0 ⟨.pv (.seq (List.length x0) (encF ty3 x0)) :: dead :: dead :: .pv (.int .u64 x1) :: .pv (.int .i64 x2) :: .pv (.int .u64 x3) :: .pv (.int .i64 x4) :: List.replicate 21 dead, []⟩ r.ex r.st := by
  induction n generalizing x0 x1 x2 x3 x4 r with
  | zero => cases h
  | succ n ih =>
    unfold go28_l7 at h
    by_cases c2 : (decide ((0 : Int) ≤ x2)) = true
    case neg => rw [if_neg c2] at h; cases h
    rw [if_pos c2] at h
    by_cases c3 : (decide ((x2 : Int) < ((List.length x0 : Nat) : Int))) = true
    case neg => rw [if_neg c3] at h; cases h
    rw [if_pos c3] at h
    by_cases c4 : (decide ((x4 : Int) < (List.getD x0 (Int.toNat x2) 0))) = true
    · rw [if_pos c4] at h
      exact more_rounds (script := [.b true]) (l := [.t (decide ((0 : Int) ≤ x2)) true, .t (decide ((x2 : Int) < ((List.length x0 : Nat) : Int))) true, .t (decide ((x4 : Int) < (List.getD x0 (Int.toNat x2) 0))) true]) (by kernel_rfl) (oks_cons c2 (oks_cons c3 (oks_cons c4 oks_nil))) (ih _ _ _ _ _ _ h)
    · rw [if_neg c4] at h
      have c4 := not_true c4
      have h := Option.some.inj h
      subst h
      exact last_round (script := [.b false]) (l := [.t (decide ((0 : Int) ≤ x2)) true, .t (decide ((x2 : Int) < ((List.length x0 : Nat) : Int))) true, .t (decide ((x4 : Int) < (List.getD x0 (Int.toNat x2) 0))) false]) (by kernel_rfl) (oks_cons c2 (oks_cons c3 (oks_cons c4 oks_nil))) rfl
noncomputable def go28_l3_c : Code := sub (codeOf Try.prog 28) [1, 1, 0, 1, 0, 0]
inductive go28_l3_R where
  | x0 (v0 : Int)
noncomputable def go28_l3_R.ex : go28_l3_R → Ex
  | .x0 _ => .exit 0
noncomputable def go28_l3_R.st : go28_l3_R → St
  | .x0 v0 => ⟨dead :: dead :: dead :: .pv (.int .u64 v0) :: List.replicate 24 dead, []⟩
noncomputable def go28_l3 (F : Nat) (n : Nat) (x0 : List Int) (x1 : Int) (x2 : Int) : Option go28_l3_R := match n with
  | 0 => none
  | n + 1 =>
    if (decide ((x2 : Int) < (((List.length x0 : Nat) : Int)))) = true then
      (go28_l7 F F x0 x1 x2 1 0).bind fun r => match r with
        | .x0 v5 v6 v7 v8 =>
          go28_l3 F n v5 (wAdd .u64 v6 v8) (wAdd .i64 v7 1)
    else
      some (.x0 x1)
theorem go28_l3_ok (F n : Nat) (x0 : List Int) (x1 : Int) (x2 : Int) (r : go28_l3_R) (h : go28_l3 F n x0 x1 x2 = some r) : Loops Try.prog lives 28 go28_l3_c 0 ⟨.pv (.seq (List.length x0) (encF ty3 x0)) :: dead :: dead :: .pv (.int .u64 x1) :: .pv (.int .i64 x2) :: List.replicate 23 dead, []⟩ r.ex r.st := by
  induction n generalizing x0 x1 x2 r with
  | zero => cases h
  | succ n ih =>
    unfold go28_l3 at h
    by_cases c1 : (decide ((x2 : Int) < (((List.length x0 : Nat) : Int)))) = true
    · rw [if_pos c1] at h
      obtain ⟨q3, hq, h⟩ := bind_of h
      cases q3 with
      | x0 v5 v6 v7 v8 =>
        have h9 := hq
        clear hq
        try dsimp only at h
        exact more_rounds (script := [.b true, .l (.exit 2) ⟨.pv (.seq (List.length v5) (encF ty3 v5)) :: dead :: dead :: .pv (.int .u64 v6) :: .pv (.int .i64 v7) :: .pv (.int .u64 v8) :: List.replicate 22 dead, []⟩]) (l := [.t (decide ((x2 : Int) < (((List.length x0 : Nat) : Int)))) true, .l go28_l7_c 0 ⟨.pv (.seq (List.length x0) (encF ty3 x0)) :: dead :: dead :: .pv (.int .u64 x1) :: .pv (.int .i64 x2) :: .pv (.int .u64 1) :: .pv (.int .i64 0) :: List.replicate 21 dead, []⟩ (.exit 2) ⟨.pv (.seq (List.length v5) (encF ty3 v5)) :: dead :: dead :: .pv (.int .u64 v6) :: .pv (.int .i64 v7) :: .pv (.int .u64 v8) :: List.replicate 22 dead, []⟩]) (by kernel_rfl) (oks_cons c1 (oks_cons (go28_l7_ok _ _ _ _ _ _ _ _ h9) oks_nil)) (ih _ _ _ _ h)
    · rw [if_neg c1] at h
      have c1 := not_true c1
      have h := Option.some.inj h
      subst h
      exact last_round (script := [.b false]) (l := [.t (decide ((x2 : Int) < (((List.length x0 : Nat) : Int)))) false]) (by kernel_rfl) (oks_cons c1 oks_nil) rfl
/-- alibi/alibiref03.Mask -/
noncomputable def go28 (F : Nat) (a0 : List Int) : Option (Int) :=
  (go28_l3 F F a0 0 0).bind fun r => match r with
    | .x0 v10 =>
      some (IntKind.wrap .u32 v10)
theorem go28_ok (F : Nat) (a0 : List Int) (r : Int) (h : go28 F a0 = some r) : Does Try.prog lives 28 [.pv (.seq (List.length a0) (encF ty3 a0))] [] (.pv (.int .u32 r), []) := by
  unfold go28 at h
  obtain ⟨q1, hq, h⟩ := bind_of h
  cases q1 with
  | x0 v10 =>
    have h11 := hq
    clear hq
    try dsimp only at h
    have h := Option.some.inj h
    subst h
    exact does (script := [.l (.exit 0) ⟨dead :: dead :: dead :: .pv (.int .u64 v10) :: List.replicate 24 dead, []⟩]) (l := [.l go28_l3_c 0 ⟨.pv (.seq (List.length a0) (encF ty3 a0)) :: dead :: dead :: .pv (.int .u64 0) :: .pv (.int .i64 0) :: List.replicate 23 dead, []⟩ (.exit 0) ⟨dead :: dead :: dead :: .pv (.int .u64 v10) :: List.replicate 24 dead, []⟩]) (by kernel_rfl) (oks_cons (go28_l3_ok _ _ _ _ _ _ h11) oks_nil)
noncomputable def ty28 : Ty Try.prog 28 (List Int) := Ty.slice 28 ty24 (by kernel_rfl) (by kernel_rfl) (Nat.le_of_ble_eq_true (by kernel_rfl))
structure G29 where
  entry : Int
  exit : Int
  held : List Int
  liveEntry : Int
  liveExit : Int
  live : List Int

noncomputable def ty30 : Ty Try.prog 30 G29 := Ty.struct 30 #[{ name := "Entry", type := 24, offset := 0, embedded := false, tag := "", pkgPath := "", byteOffset := 0 }, { name := "Exit", type := 24, offset := 1, embedded := false, tag := "", pkgPath := "", byteOffset := 4 }, { name := "Held", type := 28, offset := 2, embedded := false, tag := "", pkgPath := "", byteOffset := 8 }, { name := "LiveEntry", type := 24, offset := 3, embedded := false, tag := "", pkgPath := "", byteOffset := 32 }, { name := "LiveExit", type := 24, offset := 4, embedded := false, tag := "", pkgPath := "", byteOffset := 36 }, { name := "Live", type := 28, offset := 5, embedded := false, tag := "", pkgPath := "", byteOffset := 40 }] (TyF.cons 0 { name := "Entry", type := 24, offset := 0, embedded := false, tag := "", pkgPath := "", byteOffset := 0 } [{ name := "Exit", type := 24, offset := 1, embedded := false, tag := "", pkgPath := "", byteOffset := 4 }, { name := "Held", type := 28, offset := 2, embedded := false, tag := "", pkgPath := "", byteOffset := 8 }, { name := "LiveEntry", type := 24, offset := 3, embedded := false, tag := "", pkgPath := "", byteOffset := 32 }, { name := "LiveExit", type := 24, offset := 4, embedded := false, tag := "", pkgPath := "", byteOffset := 36 }, { name := "Live", type := 28, offset := 5, embedded := false, tag := "", pkgPath := "", byteOffset := 40 }] rfl ty24 (TyF.cons 1 { name := "Exit", type := 24, offset := 1, embedded := false, tag := "", pkgPath := "", byteOffset := 4 } [{ name := "Held", type := 28, offset := 2, embedded := false, tag := "", pkgPath := "", byteOffset := 8 }, { name := "LiveEntry", type := 24, offset := 3, embedded := false, tag := "", pkgPath := "", byteOffset := 32 }, { name := "LiveExit", type := 24, offset := 4, embedded := false, tag := "", pkgPath := "", byteOffset := 36 }, { name := "Live", type := 28, offset := 5, embedded := false, tag := "", pkgPath := "", byteOffset := 40 }] rfl ty24 (TyF.cons 2 { name := "Held", type := 28, offset := 2, embedded := false, tag := "", pkgPath := "", byteOffset := 8 } [{ name := "LiveEntry", type := 24, offset := 3, embedded := false, tag := "", pkgPath := "", byteOffset := 32 }, { name := "LiveExit", type := 24, offset := 4, embedded := false, tag := "", pkgPath := "", byteOffset := 36 }, { name := "Live", type := 28, offset := 5, embedded := false, tag := "", pkgPath := "", byteOffset := 40 }] rfl ty28 (TyF.cons 3 { name := "LiveEntry", type := 24, offset := 3, embedded := false, tag := "", pkgPath := "", byteOffset := 32 } [{ name := "LiveExit", type := 24, offset := 4, embedded := false, tag := "", pkgPath := "", byteOffset := 36 }, { name := "Live", type := 28, offset := 5, embedded := false, tag := "", pkgPath := "", byteOffset := 40 }] rfl ty24 (TyF.cons 4 { name := "LiveExit", type := 24, offset := 4, embedded := false, tag := "", pkgPath := "", byteOffset := 36 } [{ name := "Live", type := 28, offset := 5, embedded := false, tag := "", pkgPath := "", byteOffset := 40 }] rfl ty24 (TyF.cons 5 { name := "Live", type := 28, offset := 5, embedded := false, tag := "", pkgPath := "", byteOffset := 40 } [] rfl ty28 (TyF.nil 6))))))) (by kernel_rfl) (by kernel_rfl) (fun x => (x.entry, x.exit, x.held, x.liveEntry, x.liveExit, x.live, ())) (fun x => ⟨x.1, x.2.1, x.2.2.1, x.2.2.2.1, x.2.2.2.2.1, x.2.2.2.2.2.1⟩) (fun x => rfl)
/-- alibi/may.Solo -/
noncomputable def go29 (F : Nat) (a0 : G29) (a1 : Int) : Option (Bool) :=
  if (decide ((a1 : Int) ≥ 0)) = true then
    if (decide ((a1 : Int) < (((List.length a0.live : Nat) : Int)))) = true then
      if (decide ((0 : Int) ≤ a1)) = true then
        if (decide ((a1 : Int) < ((List.length a0.live : Nat) : Int))) = true then
          some (((List.getD a0.live (Int.toNat a1) 0) : Int) == 0)
        else none
      else none
    else
      some false
  else
    some false
theorem go29_ok (F : Nat) (a0 : G29) (a1 : Int) (r : Bool) (h : go29 F a0 a1 = some r) : Does Try.prog lives 29 [.agg [.pv (.int .u32 a0.entry), .pv (.int .u32 a0.exit), .pv (.seq (List.length a0.held) (encF ty24 a0.held)), .pv (.int .u32 a0.liveEntry), .pv (.int .u32 a0.liveExit), .pv (.seq (List.length a0.live) (encF ty24 a0.live))], .pv (.int .i64 a1)] [] (.pv (.bool r), []) := by
  unfold go29 at h
  by_cases c1 : (decide ((a1 : Int) ≥ 0)) = true
  · rw [if_pos c1] at h
    by_cases c2 : (decide ((a1 : Int) < (((List.length a0.live : Nat) : Int)))) = true
    · rw [if_pos c2] at h
      by_cases c3 : (decide ((0 : Int) ≤ a1)) = true
      case neg => rw [if_neg c3] at h; cases h
      rw [if_pos c3] at h
      by_cases c4 : (decide ((a1 : Int) < ((List.length a0.live : Nat) : Int))) = true
      case neg => rw [if_neg c4] at h; cases h
      rw [if_pos c4] at h
      have h := Option.some.inj h
      subst h
      exact does (script := [.b true, .keep, .keep, .keep, .keep, .keep, .b true, .keep, .keep, .keep, .keep, .keep, .keep]) (l := [.t (decide ((a1 : Int) ≥ 0)) true, .t (decide ((a1 : Int) < (((List.length a0.live : Nat) : Int)))) true, .t (decide ((0 : Int) ≤ a1)) true, .t (decide ((a1 : Int) < ((List.length a0.live : Nat) : Int))) true]) (by kernel_rfl) (oks_cons c1 (oks_cons c2 (oks_cons c3 (oks_cons c4 oks_nil))))
    · rw [if_neg c2] at h
      have c2 := not_true c2
      have h := Option.some.inj h
      subst h
      exact does (script := [.b true, .keep, .keep, .keep, .keep, .keep, .b false, .keep, .keep, .keep, .keep, .keep, .keep]) (l := [.t (decide ((a1 : Int) ≥ 0)) true, .t (decide ((a1 : Int) < (((List.length a0.live : Nat) : Int)))) false]) (by kernel_rfl) (oks_cons c1 (oks_cons c2 oks_nil))
  · rw [if_neg c1] at h
    have c1 := not_true c1
    have h := Option.some.inj h
    subst h
    exact does (script := [.b false, .keep, .keep, .keep, .keep, .keep, .keep, .keep, .keep, .keep, .keep, .keep, .keep]) (l := [.t (decide ((a1 : Int) ≥ 0)) false]) (by kernel_rfl) (oks_cons c1 oks_nil)
/-- alibi/alibilaw16.MayBehind -/
noncomputable def go3 (F : Nat) (a0 : G22) (a1 : Int) (a2 : Int) (a3 : Int) (a4 : Bool) (a5 : Int) : Option (Bool) :=
  (go25 F ).bind fun v1 =>
    if (!v1) = true then
      some false
    else
      (go3_l5 F F a1 a2 a3 a4 a5 ([]) 0 a0.kind a0.arg a0.next a0.alt).bind fun r => match r with
        | .x0 v9 v10 v11 v12 v13 v14 v15 v16 v17 v18 =>
          if ((v13 : Int) == 0) = true then
            if ((v9 : Int) == 0) = true then
              (go27 F ((G22.mk v15 v16 v17 v18)) v9 v10 v11 v12).bind fun v22 =>
                (go28 F v14).bind fun v24 =>
                  if ((v22 : Int) == v24) = true then
                    (go29 F ((G29.mk 0 0 ([]) 0 0 ([v9, v10, 0]))) v13).bind fun v27 =>
                      some (v27 == true)
                  else
                    some false
            else
              if ((v13 : Int) == 1) = true then
                if ((v10 : Int) == 0) = true then
                  (go27 F ((G22.mk v15 v16 v17 v18)) v9 v10 v11 v12).bind fun v31 =>
                    (go28 F v14).bind fun v33 =>
                      if ((v31 : Int) == v33) = true then
                        (go29 F ((G29.mk 0 0 ([]) 0 0 ([v9, v10, 0]))) v13).bind fun v36 =>
                          some (v36 == true)
                      else
                        some false
                else
                  (go27 F ((G22.mk v15 v16 v17 v18)) v9 v10 v11 v12).bind fun v38 =>
                    (go28 F v14).bind fun v40 =>
                      if ((v38 : Int) == v40) = true then
                        (go29 F ((G29.mk 0 0 ([]) 0 0 ([v9, v10, 0]))) v13).bind fun v43 =>
                          some (v43 == ((v13 : Int) == 2))
                      else
                        some false
              else
                (go27 F ((G22.mk v15 v16 v17 v18)) v9 v10 v11 v12).bind fun v45 =>
                  (go28 F v14).bind fun v47 =>
                    if ((v45 : Int) == v47) = true then
                      (go29 F ((G29.mk 0 0 ([]) 0 0 ([v9, v10, 0]))) v13).bind fun v50 =>
                        some (v50 == ((v13 : Int) == 2))
                    else
                      some false
          else
            if ((v13 : Int) == 1) = true then
              if ((v10 : Int) == 0) = true then
                (go27 F ((G22.mk v15 v16 v17 v18)) v9 v10 v11 v12).bind fun v54 =>
                  (go28 F v14).bind fun v56 =>
                    if ((v54 : Int) == v56) = true then
                      (go29 F ((G29.mk 0 0 ([]) 0 0 ([v9, v10, 0]))) v13).bind fun v59 =>
                        some (v59 == true)
                    else
                      some false
              else
                (go27 F ((G22.mk v15 v16 v17 v18)) v9 v10 v11 v12).bind fun v61 =>
                  (go28 F v14).bind fun v63 =>
                    if ((v61 : Int) == v63) = true then
                      (go29 F ((G29.mk 0 0 ([]) 0 0 ([v9, v10, 0]))) v13).bind fun v66 =>
                        some (v66 == ((v13 : Int) == 2))
                    else
                      some false
            else
              (go27 F ((G22.mk v15 v16 v17 v18)) v9 v10 v11 v12).bind fun v68 =>
                (go28 F v14).bind fun v70 =>
                  if ((v68 : Int) == v70) = true then
                    (go29 F ((G29.mk 0 0 ([]) 0 0 ([v9, v10, 0]))) v13).bind fun v73 =>
                      some (v73 == ((v13 : Int) == 2))
                  else
                    some false
theorem go3_ok (F : Nat) (a0 : G22) (a1 : Int) (a2 : Int) (a3 : Int) (a4 : Bool) (a5 : Int) (r : Bool) (h : go3 F a0 a1 a2 a3 a4 a5 = some r) : Does Try.prog lives 3 [.agg [.pv (.int .i64 a0.kind), .pv (.int .i64 a0.arg), .pv (.int .i64 a0.next), .pv (.int .i64 a0.alt)], .pv (.int .u32 a1), .pv (.int .u32 a2), .pv (.int .i64 a3), .pv (.bool a4), .pv (.int .i64 a5)] [] (.pv (.bool r), []) := by
  unfold go3 at h
  obtain ⟨v1, h2, h⟩ := bind_of h
  try dsimp only at h
  by_cases c3 : (!v1) = true
  · rw [if_pos c3] at h
    have h := Option.some.inj h
    subst h
    exact does (script := [.c (.pv (.bool v1)) [], .b true]) (l := [.c 25 [] [] (.pv (.bool v1)) [], .t (!v1) true]) (by kernel_rfl) (oks_cons (go25_ok _ _ h2) (oks_cons c3 oks_nil))
  · rw [if_neg c3] at h
    have c3 := not_true c3
    obtain ⟨q2, hq, h⟩ := bind_of h
    cases q2 with
    | x0 v9 v10 v11 v12 v13 v14 v15 v16 v17 v18 =>
      have h19 := hq
      clear hq
      try dsimp only at h
      by_cases c20 : ((v13 : Int) == 0) = true
      · rw [if_pos c20] at h
        by_cases c21 : ((v9 : Int) == 0) = true
        · rw [if_pos c21] at h
          obtain ⟨v22, h23, h⟩ := bind_of h
          try dsimp only at h
          obtain ⟨v24, h25, h⟩ := bind_of h
          try dsimp only at h
          by_cases c26 : ((v22 : Int) == v24) = true
          · rw [if_pos c26] at h
            obtain ⟨v27, h28, h⟩ := bind_of h
            try dsimp only at h
            have h := Option.some.inj h
            subst h
            exact does (script := [.c (.pv (.bool v1)) [], .b false, .l (.exit 0) ⟨dead :: .pv (.int .u32 v9) :: .pv (.int .u32 v10) :: .pv (.int .i64 v11) :: .pv (.bool v12) :: .pv (.int .i64 v13) :: .ptr 0 0 :: (List.replicate 6 dead ++ (.seqR (List.length v14) (encF ty3 v14) :: List.replicate 58 dead)), [.box [.pv (.int .i64 v15), .pv (.int .i64 v16), .pv (.int .i64 v17), .pv (.int .i64 v18)]]⟩, .e ⟨.seqR (List.length ([v9, v10, 0])) (encF ty24 ([v9, v10, 0])), none, []⟩, .keep, .b true, .keep, .keep, .b true, .keep, .keep, .keep, .keep, .keep, .keep, .keep, .c (.pv (.int .u32 v22)) [], .c (.pv (.int .u32 v24)) [], .b true, .keep, .keep, .c (.pv (.bool v27)) [], .keep, .keep, .keep]) (l := [.c 25 [] [] (.pv (.bool v1)) [], .t (!v1) false, .l go3_l5_c 1 ⟨dead :: .pv (.int .u32 a1) :: .pv (.int .u32 a2) :: .pv (.int .i64 a3) :: .pv (.bool a4) :: .pv (.int .i64 a5) :: .ptr 0 0 :: (List.replicate 6 dead ++ (.seqR (List.length ([])) (encF ty3 ([])) :: .pv (.int .i64 0) :: List.replicate 57 dead)), [.box [.pv (.int .i64 a0.kind), .pv (.int .i64 a0.arg), .pv (.int .i64 a0.next), .pv (.int .i64 a0.alt)]]⟩ (.exit 0) ⟨dead :: .pv (.int .u32 v9) :: .pv (.int .u32 v10) :: .pv (.int .i64 v11) :: .pv (.bool v12) :: .pv (.int .i64 v13) :: .ptr 0 0 :: (List.replicate 6 dead ++ (.seqR (List.length v14) (encF ty3 v14) :: List.replicate 58 dead)), [.box [.pv (.int .i64 v15), .pv (.int .i64 v16), .pv (.int .i64 v17), .pv (.int .i64 v18)]]⟩, .e ⟨.seqR 3 (litSeq (zelem Try.prog 28) (List.map ty24.enc ([v9, v10, 0]))), none, []⟩ ⟨.seqR (List.length ([v9, v10, 0])) (encF ty24 ([v9, v10, 0])), none, []⟩, .t ((v13 : Int) == 0) true, .t ((v9 : Int) == 0) true, .c 27 [.agg [.pv (.int .i64 v15), .pv (.int .i64 v16), .pv (.int .i64 v17), .pv (.int .i64 v18)], .pv (.int .u32 v9), .pv (.int .u32 v10), .pv (.int .i64 v11), .pv (.bool v12)] [] (.pv (.int .u32 v22)) [], .c 28 [.pv (.seq (List.length v14) (encF ty3 v14))] [] (.pv (.int .u32 v24)) [], .t ((v22 : Int) == v24) true, .c 29 [.agg [.pv (.int .u32 0), .pv (.int .u32 0), .pv (.seq (List.length ([])) (encF ty24 ([]))), .pv (.int .u32 0), .pv (.int .u32 0), .pv (.seq (List.length ([v9, v10, 0])) (encF ty24 ([v9, v10, 0])))], .pv (.int .i64 v13)] [] (.pv (.bool v27)) []]) (by kernel_rfl) (oks_cons (go25_ok _ _ h2) (oks_cons c3 (oks_cons (go3_l5_ok _ _ _ _ _ _ _ _ _ _ _ _ _ _ h19) (oks_cons (lit_eff ty24 ([v9, v10, 0]) _ (by kernel_rfl)) (oks_cons c20 (oks_cons c21 (oks_cons (go27_ok _ _ _ _ _ _ _ h23) (oks_cons (go28_ok _ _ _ h25) (oks_cons c26 (oks_cons (go29_ok _ _ _ _ h28) oks_nil))))))))))
          · rw [if_neg c26] at h
            have c26 := not_true c26
            have h := Option.some.inj h
            subst h
            exact does (script := [.c (.pv (.bool v1)) [], .b false, .l (.exit 0) ⟨dead :: .pv (.int .u32 v9) :: .pv (.int .u32 v10) :: .pv (.int .i64 v11) :: .pv (.bool v12) :: .pv (.int .i64 v13) :: .ptr 0 0 :: (List.replicate 6 dead ++ (.seqR (List.length v14) (encF ty3 v14) :: List.replicate 58 dead)), [.box [.pv (.int .i64 v15), .pv (.int .i64 v16), .pv (.int .i64 v17), .pv (.int .i64 v18)]]⟩, .e ⟨.seqR (List.length ([v9, v10, 0])) (encF ty24 ([v9, v10, 0])), none, []⟩, .keep, .b true, .keep, .keep, .b true, .keep, .keep, .keep, .keep, .keep, .keep, .keep, .c (.pv (.int .u32 v22)) [], .c (.pv (.int .u32 v24)) [], .b false, .keep, .keep, .keep, .keep, .keep]) (l := [.c 25 [] [] (.pv (.bool v1)) [], .t (!v1) false, .l go3_l5_c 1 ⟨dead :: .pv (.int .u32 a1) :: .pv (.int .u32 a2) :: .pv (.int .i64 a3) :: .pv (.bool a4) :: .pv (.int .i64 a5) :: .ptr 0 0 :: (List.replicate 6 dead ++ (.seqR (List.length ([])) (encF ty3 ([])) :: .pv (.int .i64 0) :: List.replicate 57 dead)), [.box [.pv (.int .i64 a0.kind), .pv (.int .i64 a0.arg), .pv (.int .i64 a0.next), .pv (.int .i64 a0.alt)]]⟩ (.exit 0) ⟨dead :: .pv (.int .u32 v9) :: .pv (.int .u32 v10) :: .pv (.int .i64 v11) :: .pv (.bool v12) :: .pv (.int .i64 v13) :: .ptr 0 0 :: (List.replicate 6 dead ++ (.seqR (List.length v14) (encF ty3 v14) :: List.replicate 58 dead)), [.box [.pv (.int .i64 v15), .pv (.int .i64 v16), .pv (.int .i64 v17), .pv (.int .i64 v18)]]⟩, .e ⟨.seqR 3 (litSeq (zelem Try.prog 28) (List.map ty24.enc ([v9, v10, 0]))), none, []⟩ ⟨.seqR (List.length ([v9, v10, 0])) (encF ty24 ([v9, v10, 0])), none, []⟩, .t ((v13 : Int) == 0) true, .t ((v9 : Int) == 0) true, .c 27 [.agg [.pv (.int .i64 v15), .pv (.int .i64 v16), .pv (.int .i64 v17), .pv (.int .i64 v18)], .pv (.int .u32 v9), .pv (.int .u32 v10), .pv (.int .i64 v11), .pv (.bool v12)] [] (.pv (.int .u32 v22)) [], .c 28 [.pv (.seq (List.length v14) (encF ty3 v14))] [] (.pv (.int .u32 v24)) [], .t ((v22 : Int) == v24) false]) (by kernel_rfl) (oks_cons (go25_ok _ _ h2) (oks_cons c3 (oks_cons (go3_l5_ok _ _ _ _ _ _ _ _ _ _ _ _ _ _ h19) (oks_cons (lit_eff ty24 ([v9, v10, 0]) _ (by kernel_rfl)) (oks_cons c20 (oks_cons c21 (oks_cons (go27_ok _ _ _ _ _ _ _ h23) (oks_cons (go28_ok _ _ _ h25) (oks_cons c26 oks_nil)))))))))
        · rw [if_neg c21] at h
          have c21 := not_true c21
          by_cases c29 : ((v13 : Int) == 1) = true
          · rw [if_pos c29] at h
            by_cases c30 : ((v10 : Int) == 0) = true
            · rw [if_pos c30] at h
              obtain ⟨v31, h32, h⟩ := bind_of h
              try dsimp only at h
              obtain ⟨v33, h34, h⟩ := bind_of h
              try dsimp only at h
              by_cases c35 : ((v31 : Int) == v33) = true
              · rw [if_pos c35] at h
                obtain ⟨v36, h37, h⟩ := bind_of h
                try dsimp only at h
                have h := Option.some.inj h
                subst h
                exact does (script := [.c (.pv (.bool v1)) [], .b false, .l (.exit 0) ⟨dead :: .pv (.int .u32 v9) :: .pv (.int .u32 v10) :: .pv (.int .i64 v11) :: .pv (.bool v12) :: .pv (.int .i64 v13) :: .ptr 0 0 :: (List.replicate 6 dead ++ (.seqR (List.length v14) (encF ty3 v14) :: List.replicate 58 dead)), [.box [.pv (.int .i64 v15), .pv (.int .i64 v16), .pv (.int .i64 v17), .pv (.int .i64 v18)]]⟩, .e ⟨.seqR (List.length ([v9, v10, 0])) (encF ty24 ([v9, v10, 0])), none, []⟩, .keep, .b true, .keep, .keep, .b false, .keep, .keep, .b true, .keep, .keep, .keep, .keep, .b true, .keep, .keep, .c (.pv (.int .u32 v31)) [], .c (.pv (.int .u32 v33)) [], .b true, .keep, .keep, .c (.pv (.bool v36)) [], .keep, .keep, .keep]) (l := [.c 25 [] [] (.pv (.bool v1)) [], .t (!v1) false, .l go3_l5_c 1 ⟨dead :: .pv (.int .u32 a1) :: .pv (.int .u32 a2) :: .pv (.int .i64 a3) :: .pv (.bool a4) :: .pv (.int .i64 a5) :: .ptr 0 0 :: (List.replicate 6 dead ++ (.seqR (List.length ([])) (encF ty3 ([])) :: .pv (.int .i64 0) :: List.replicate 57 dead)), [.box [.pv (.int .i64 a0.kind), .pv (.int .i64 a0.arg), .pv (.int .i64 a0.next), .pv (.int .i64 a0.alt)]]⟩ (.exit 0) ⟨dead :: .pv (.int .u32 v9) :: .pv (.int .u32 v10) :: .pv (.int .i64 v11) :: .pv (.bool v12) :: .pv (.int .i64 v13) :: .ptr 0 0 :: (List.replicate 6 dead ++ (.seqR (List.length v14) (encF ty3 v14) :: List.replicate 58 dead)), [.box [.pv (.int .i64 v15), .pv (.int .i64 v16), .pv (.int .i64 v17), .pv (.int .i64 v18)]]⟩, .e ⟨.seqR 3 (litSeq (zelem Try.prog 28) (List.map ty24.enc ([v9, v10, 0]))), none, []⟩ ⟨.seqR (List.length ([v9, v10, 0])) (encF ty24 ([v9, v10, 0])), none, []⟩, .t ((v13 : Int) == 0) true, .t ((v9 : Int) == 0) false, .t ((v13 : Int) == 1) true, .t ((v10 : Int) == 0) true, .c 27 [.agg [.pv (.int .i64 v15), .pv (.int .i64 v16), .pv (.int .i64 v17), .pv (.int .i64 v18)], .pv (.int .u32 v9), .pv (.int .u32 v10), .pv (.int .i64 v11), .pv (.bool v12)] [] (.pv (.int .u32 v31)) [], .c 28 [.pv (.seq (List.length v14) (encF ty3 v14))] [] (.pv (.int .u32 v33)) [], .t ((v31 : Int) == v33) true, .c 29 [.agg [.pv (.int .u32 0), .pv (.int .u32 0), .pv (.seq (List.length ([])) (encF ty24 ([]))), .pv (.int .u32 0), .pv (.int .u32 0), .pv (.seq (List.length ([v9, v10, 0])) (encF ty24 ([v9, v10, 0])))], .pv (.int .i64 v13)] [] (.pv (.bool v36)) []]) (by kernel_rfl) (oks_cons (go25_ok _ _ h2) (oks_cons c3 (oks_cons (go3_l5_ok _ _ _ _ _ _ _ _ _ _ _ _ _ _ h19) (oks_cons (lit_eff ty24 ([v9, v10, 0]) _ (by kernel_rfl)) (oks_cons c20 (oks_cons c21 (oks_cons c29 (oks_cons c30 (oks_cons (go27_ok _ _ _ _ _ _ _ h32) (oks_cons (go28_ok _ _ _ h34) (oks_cons c35 (oks_cons (go29_ok _ _ _ _ h37) oks_nil))))))))))))
              · rw [if_neg c35] at h
                have c35 := not_true c35
                have h := Option.some.inj h
                subst h
                exact does (script := [.c (.pv (.bool v1)) [], .b false, .l (.exit 0) ⟨dead :: .pv (.int .u32 v9) :: .pv (.int .u32 v10) :: .pv (.int .i64 v11) :: .pv (.bool v12) :: .pv (.int .i64 v13) :: .ptr 0 0 :: (List.replicate 6 dead ++ (.seqR (List.length v14) (encF ty3 v14) :: List.replicate 58 dead)), [.box [.pv (.int .i64 v15), .pv (.int .i64 v16), .pv (.int .i64 v17), .pv (.int .i64 v18)]]⟩, .e ⟨.seqR (List.length ([v9, v10, 0])) (encF ty24 ([v9, v10, 0])), none, []⟩, .keep, .b true, .keep, .keep, .b false, .keep, .keep, .b true, .keep, .keep, .keep, .keep, .b true, .keep, .keep, .c (.pv (.int .u32 v31)) [], .c (.pv (.int .u32 v33)) [], .b false, .keep, .keep, .keep, .keep, .keep]) (l := [.c 25 [] [] (.pv (.bool v1)) [], .t (!v1) false, .l go3_l5_c 1 ⟨dead :: .pv (.int .u32 a1) :: .pv (.int .u32 a2) :: .pv (.int .i64 a3) :: .pv (.bool a4) :: .pv (.int .i64 a5) :: .ptr 0 0 :: (List.replicate 6 dead ++ (.seqR (List.length ([])) (encF ty3 ([])) :: .pv (.int .i64 0) :: List.replicate 57 dead)), [.box [.pv (.int .i64 a0.kind), .pv (.int .i64 a0.arg), .pv (.int .i64 a0.next), .pv (.int .i64 a0.alt)]]⟩ (.exit 0) ⟨dead :: .pv (.int .u32 v9) :: .pv (.int .u32 v10) :: .pv (.int .i64 v11) :: .pv (.bool v12) :: .pv (.int .i64 v13) :: .ptr 0 0 :: (List.replicate 6 dead ++ (.seqR (List.length v14) (encF ty3 v14) :: List.replicate 58 dead)), [.box [.pv (.int .i64 v15), .pv (.int .i64 v16), .pv (.int .i64 v17), .pv (.int .i64 v18)]]⟩, .e ⟨.seqR 3 (litSeq (zelem Try.prog 28) (List.map ty24.enc ([v9, v10, 0]))), none, []⟩ ⟨.seqR (List.length ([v9, v10, 0])) (encF ty24 ([v9, v10, 0])), none, []⟩, .t ((v13 : Int) == 0) true, .t ((v9 : Int) == 0) false, .t ((v13 : Int) == 1) true, .t ((v10 : Int) == 0) true, .c 27 [.agg [.pv (.int .i64 v15), .pv (.int .i64 v16), .pv (.int .i64 v17), .pv (.int .i64 v18)], .pv (.int .u32 v9), .pv (.int .u32 v10), .pv (.int .i64 v11), .pv (.bool v12)] [] (.pv (.int .u32 v31)) [], .c 28 [.pv (.seq (List.length v14) (encF ty3 v14))] [] (.pv (.int .u32 v33)) [], .t ((v31 : Int) == v33) false]) (by kernel_rfl) (oks_cons (go25_ok _ _ h2) (oks_cons c3 (oks_cons (go3_l5_ok _ _ _ _ _ _ _ _ _ _ _ _ _ _ h19) (oks_cons (lit_eff ty24 ([v9, v10, 0]) _ (by kernel_rfl)) (oks_cons c20 (oks_cons c21 (oks_cons c29 (oks_cons c30 (oks_cons (go27_ok _ _ _ _ _ _ _ h32) (oks_cons (go28_ok _ _ _ h34) (oks_cons c35 oks_nil)))))))))))
            · rw [if_neg c30] at h
              have c30 := not_true c30
              obtain ⟨v38, h39, h⟩ := bind_of h
              try dsimp only at h
              obtain ⟨v40, h41, h⟩ := bind_of h
              try dsimp only at h
              by_cases c42 : ((v38 : Int) == v40) = true
              · rw [if_pos c42] at h
                obtain ⟨v43, h44, h⟩ := bind_of h
                try dsimp only at h
                have h := Option.some.inj h
                subst h
                exact does (script := [.c (.pv (.bool v1)) [], .b false, .l (.exit 0) ⟨dead :: .pv (.int .u32 v9) :: .pv (.int .u32 v10) :: .pv (.int .i64 v11) :: .pv (.bool v12) :: .pv (.int .i64 v13) :: .ptr 0 0 :: (List.replicate 6 dead ++ (.seqR (List.length v14) (encF ty3 v14) :: List.replicate 58 dead)), [.box [.pv (.int .i64 v15), .pv (.int .i64 v16), .pv (.int .i64 v17), .pv (.int .i64 v18)]]⟩, .e ⟨.seqR (List.length ([v9, v10, 0])) (encF ty24 ([v9, v10, 0])), none, []⟩, .keep, .b true, .keep, .keep, .b false, .keep, .keep, .b true, .keep, .keep, .keep, .keep, .b false, .keep, .keep, .c (.pv (.int .u32 v38)) [], .c (.pv (.int .u32 v40)) [], .b true, .keep, .keep, .c (.pv (.bool v43)) [], .keep, .keep, .keep]) (l := [.c 25 [] [] (.pv (.bool v1)) [], .t (!v1) false, .l go3_l5_c 1 ⟨dead :: .pv (.int .u32 a1) :: .pv (.int .u32 a2) :: .pv (.int .i64 a3) :: .pv (.bool a4) :: .pv (.int .i64 a5) :: .ptr 0 0 :: (List.replicate 6 dead ++ (.seqR (List.length ([])) (encF ty3 ([])) :: .pv (.int .i64 0) :: List.replicate 57 dead)), [.box [.pv (.int .i64 a0.kind), .pv (.int .i64 a0.arg), .pv (.int .i64 a0.next), .pv (.int .i64 a0.alt)]]⟩ (.exit 0) ⟨dead :: .pv (.int .u32 v9) :: .pv (.int .u32 v10) :: .pv (.int .i64 v11) :: .pv (.bool v12) :: .pv (.int .i64 v13) :: .ptr 0 0 :: (List.replicate 6 dead ++ (.seqR (List.length v14) (encF ty3 v14) :: List.replicate 58 dead)), [.box [.pv (.int .i64 v15), .pv (.int .i64 v16), .pv (.int .i64 v17), .pv (.int .i64 v18)]]⟩, .e ⟨.seqR 3 (litSeq (zelem Try.prog 28) (List.map ty24.enc ([v9, v10, 0]))), none, []⟩ ⟨.seqR (List.length ([v9, v10, 0])) (encF ty24 ([v9, v10, 0])), none, []⟩, .t ((v13 : Int) == 0) true, .t ((v9 : Int) == 0) false, .t ((v13 : Int) == 1) true, .t ((v10 : Int) == 0) false, .c 27 [.agg [.pv (.int .i64 v15), .pv (.int .i64 v16), .pv (.int .i64 v17), .pv (.int .i64 v18)], .pv (.int .u32 v9), .pv (.int .u32 v10), .pv (.int .i64 v11), .pv (.bool v12)] [] (.pv (.int .u32 v38)) [], .c 28 [.pv (.seq (List.length v14) (encF ty3 v14))] [] (.pv (.int .u32 v40)) [], .t ((v38 : Int) == v40) true, .c 29 [.agg [.pv (.int .u32 0), .pv (.int .u32 0), .pv (.seq (List.length ([])) (encF ty24 ([]))), .pv (.int .u32 0), .pv (.int .u32 0), .pv (.seq (List.length ([v9, v10, 0])) (encF ty24 ([v9, v10, 0])))], .pv (.int .i64 v13)] [] (.pv (.bool v43)) []]) (by kernel_rfl) (oks_cons (go25_ok _ _ h2) (oks_cons c3 (oks_cons (go3_l5_ok _ _ _ _ _ _ _ _ _ _ _ _ _ _ h19) (oks_cons (lit_eff ty24 ([v9, v10, 0]) _ (by kernel_rfl)) (oks_cons c20 (oks_cons c21 (oks_cons c29 (oks_cons c30 (oks_cons (go27_ok _ _ _ _ _ _ _ h39) (oks_cons (go28_ok _ _ _ h41) (oks_cons c42 (oks_cons (go29_ok _ _ _ _ h44) oks_nil))))))))))))
              · rw [if_neg c42] at h
                have c42 := not_true c42
                have h := Option.some.inj h
                subst h
                exact does (script := [.c (.pv (.bool v1)) [], .b false, .l (.exit 0) ⟨dead :: .pv (.int .u32 v9) :: .pv (.int .u32 v10) :: .pv (.int .i64 v11) :: .pv (.bool v12) :: .pv (.int .i64 v13) :: .ptr 0 0 :: (List.replicate 6 dead ++ (.seqR (List.length v14) (encF ty3 v14) :: List.replicate 58 dead)), [.box [.pv (.int .i64 v15), .pv (.int .i64 v16), .pv (.int .i64 v17), .pv (.int .i64 v18)]]⟩, .e ⟨.seqR (List.length ([v9, v10, 0])) (encF ty24 ([v9, v10, 0])), none, []⟩, .keep, .b true, .keep, .keep, .b false, .keep, .keep, .b true, .keep, .keep, .keep, .keep, .b false, .keep, .keep, .c (.pv (.int .u32 v38)) [], .c (.pv (.int .u32 v40)) [], .b false, .keep, .keep, .keep, .keep, .keep]) (l := [.c 25 [] [] (.pv (.bool v1)) [], .t (!v1) false, .l go3_l5_c 1 ⟨dead :: .pv (.int .u32 a1) :: .pv (.int .u32 a2) :: .pv (.int .i64 a3) :: .pv (.bool a4) :: .pv (.int .i64 a5) :: .ptr 0 0 :: (List.replicate 6 dead ++ (.seqR (List.length ([])) (encF ty3 ([])) :: .pv (.int .i64 0) :: List.replicate 57 dead)), [.box [.pv (.int .i64 a0.kind), .pv (.int .i64 a0.arg), .pv (.int .i64 a0.next), .pv (.int .i64 a0.alt)]]⟩ (.exit 0) ⟨dead :: .pv (.int .u32 v9) :: .pv (.int .u32 v10) :: .pv (.int .i64 v11) :: .pv (.bool v12) :: .pv (.int .i64 v13) :: .ptr 0 0 :: (List.replicate 6 dead ++ (.seqR (List.length v14) (encF ty3 v14) :: List.replicate 58 dead)), [.box [.pv (.int .i64 v15), .pv (.int .i64 v16), .pv (.int .i64 v17), .pv (.int .i64 v18)]]⟩, .e ⟨.seqR 3 (litSeq (zelem Try.prog 28) (List.map ty24.enc ([v9, v10, 0]))), none, []⟩ ⟨.seqR (List.length ([v9, v10, 0])) (encF ty24 ([v9, v10, 0])), none, []⟩, .t ((v13 : Int) == 0) true, .t ((v9 : Int) == 0) false, .t ((v13 : Int) == 1) true, .t ((v10 : Int) == 0) false, .c 27 [.agg [.pv (.int .i64 v15), .pv (.int .i64 v16), .pv (.int .i64 v17), .pv (.int .i64 v18)], .pv (.int .u32 v9), .pv (.int .u32 v10), .pv (.int .i64 v11), .pv (.bool v12)] [] (.pv (.int .u32 v38)) [], .c 28 [.pv (.seq (List.length v14) (encF ty3 v14))] [] (.pv (.int .u32 v40)) [], .t ((v38 : Int) == v40) false]) (by kernel_rfl) (oks_cons (go25_ok _ _ h2) (oks_cons c3 (oks_cons (go3_l5_ok _ _ _ _ _ _ _ _ _ _ _ _ _ _ h19) (oks_cons (lit_eff ty24 ([v9, v10, 0]) _ (by kernel_rfl)) (oks_cons c20 (oks_cons c21 (oks_cons c29 (oks_cons c30 (oks_cons (go27_ok _ _ _ _ _ _ _ h39) (oks_cons (go28_ok _ _ _ h41) (oks_cons c42 oks_nil)))))))))))
          · rw [if_neg c29] at h
            have c29 := not_true c29
            obtain ⟨v45, h46, h⟩ := bind_of h
            try dsimp only at h
            obtain ⟨v47, h48, h⟩ := bind_of h
            try dsimp only at h
            by_cases c49 : ((v45 : Int) == v47) = true
            · rw [if_pos c49] at h
              obtain ⟨v50, h51, h⟩ := bind_of h
              try dsimp only at h
              have h := Option.some.inj h
              subst h
              exact does (script := [.c (.pv (.bool v1)) [], .b false, .l (.exit 0) ⟨dead :: .pv (.int .u32 v9) :: .pv (.int .u32 v10) :: .pv (.int .i64 v11) :: .pv (.bool v12) :: .pv (.int .i64 v13) :: .ptr 0 0 :: (List.replicate 6 dead ++ (.seqR (List.length v14) (encF ty3 v14) :: List.replicate 58 dead)), [.box [.pv (.int .i64 v15), .pv (.int .i64 v16), .pv (.int .i64 v17), .pv (.int .i64 v18)]]⟩, .e ⟨.seqR (List.length ([v9, v10, 0])) (encF ty24 ([v9, v10, 0])), none, []⟩, .keep, .b true, .keep, .keep, .b false, .keep, .keep, .b false, .keep, .keep, .keep, .keep, .keep, .keep, .keep, .c (.pv (.int .u32 v45)) [], .c (.pv (.int .u32 v47)) [], .b true, .keep, .keep, .c (.pv (.bool v50)) [], .keep, .keep, .keep]) (l := [.c 25 [] [] (.pv (.bool v1)) [], .t (!v1) false, .l go3_l5_c 1 ⟨dead :: .pv (.int .u32 a1) :: .pv (.int .u32 a2) :: .pv (.int .i64 a3) :: .pv (.bool a4) :: .pv (.int .i64 a5) :: .ptr 0 0 :: (List.replicate 6 dead ++ (.seqR (List.length ([])) (encF ty3 ([])) :: .pv (.int .i64 0) :: List.replicate 57 dead)), [.box [.pv (.int .i64 a0.kind), .pv (.int .i64 a0.arg), .pv (.int .i64 a0.next), .pv (.int .i64 a0.alt)]]⟩ (.exit 0) ⟨dead :: .pv (.int .u32 v9) :: .pv (.int .u32 v10) :: .pv (.int .i64 v11) :: .pv (.bool v12) :: .pv (.int .i64 v13) :: .ptr 0 0 :: (List.replicate 6 dead ++ (.seqR (List.length v14) (encF ty3 v14) :: List.replicate 58 dead)), [.box [.pv (.int .i64 v15), .pv (.int .i64 v16), .pv (.int .i64 v17), .pv (.int .i64 v18)]]⟩, .e ⟨.seqR 3 (litSeq (zelem Try.prog 28) (List.map ty24.enc ([v9, v10, 0]))), none, []⟩ ⟨.seqR (List.length ([v9, v10, 0])) (encF ty24 ([v9, v10, 0])), none, []⟩, .t ((v13 : Int) == 0) true, .t ((v9 : Int) == 0) false, .t ((v13 : Int) == 1) false, .c 27 [.agg [.pv (.int .i64 v15), .pv (.int .i64 v16), .pv (.int .i64 v17), .pv (.int .i64 v18)], .pv (.int .u32 v9), .pv (.int .u32 v10), .pv (.int .i64 v11), .pv (.bool v12)] [] (.pv (.int .u32 v45)) [], .c 28 [.pv (.seq (List.length v14) (encF ty3 v14))] [] (.pv (.int .u32 v47)) [], .t ((v45 : Int) == v47) true, .c 29 [.agg [.pv (.int .u32 0), .pv (.int .u32 0), .pv (.seq (List.length ([])) (encF ty24 ([]))), .pv (.int .u32 0), .pv (.int .u32 0), .pv (.seq (List.length ([v9, v10, 0])) (encF ty24 ([v9, v10, 0])))], .pv (.int .i64 v13)] [] (.pv (.bool v50)) []]) (by kernel_rfl) (oks_cons (go25_ok _ _ h2) (oks_cons c3 (oks_cons (go3_l5_ok _ _ _ _ _ _ _ _ _ _ _ _ _ _ h19) (oks_cons (lit_eff ty24 ([v9, v10, 0]) _ (by kernel_rfl)) (oks_cons c20 (oks_cons c21 (oks_cons c29 (oks_cons (go27_ok _ _ _ _ _ _ _ h46) (oks_cons (go28_ok _ _ _ h48) (oks_cons c49 (oks_cons (go29_ok _ _ _ _ h51) oks_nil)))))))))))
            · rw [if_neg c49] at h
              have c49 := not_true c49
              have h := Option.some.inj h
              subst h
              exact does (script := [.c (.pv (.bool v1)) [], .b false, .l (.exit 0) ⟨dead :: .pv (.int .u32 v9) :: .pv (.int .u32 v10) :: .pv (.int .i64 v11) :: .pv (.bool v12) :: .pv (.int .i64 v13) :: .ptr 0 0 :: (List.replicate 6 dead ++ (.seqR (List.length v14) (encF ty3 v14) :: List.replicate 58 dead)), [.box [.pv (.int .i64 v15), .pv (.int .i64 v16), .pv (.int .i64 v17), .pv (.int .i64 v18)]]⟩, .e ⟨.seqR (List.length ([v9, v10, 0])) (encF ty24 ([v9, v10, 0])), none, []⟩, .keep, .b true, .keep, .keep, .b false, .keep, .keep, .b false, .keep, .keep, .keep, .keep, .keep, .keep, .keep, .c (.pv (.int .u32 v45)) [], .c (.pv (.int .u32 v47)) [], .b false, .keep, .keep, .keep, .keep, .keep]) (l := [.c 25 [] [] (.pv (.bool v1)) [], .t (!v1) false, .l go3_l5_c 1 ⟨dead :: .pv (.int .u32 a1) :: .pv (.int .u32 a2) :: .pv (.int .i64 a3) :: .pv (.bool a4) :: .pv (.int .i64 a5) :: .ptr 0 0 :: (List.replicate 6 dead ++ (.seqR (List.length ([])) (encF ty3 ([])) :: .pv (.int .i64 0) :: List.replicate 57 dead)), [.box [.pv (.int .i64 a0.kind), .pv (.int .i64 a0.arg), .pv (.int .i64 a0.next), .pv (.int .i64 a0.alt)]]⟩ (.exit 0) ⟨dead :: .pv (.int .u32 v9) :: .pv (.int .u32 v10) :: .pv (.int .i64 v11) :: .pv (.bool v12) :: .pv (.int .i64 v13) :: .ptr 0 0 :: (List.replicate 6 dead ++ (.seqR (List.length v14) (encF ty3 v14) :: List.replicate 58 dead)), [.box [.pv (.int .i64 v15), .pv (.int .i64 v16), .pv (.int .i64 v17), .pv (.int .i64 v18)]]⟩, .e ⟨.seqR 3 (litSeq (zelem Try.prog 28) (List.map ty24.enc ([v9, v10, 0]))), none, []⟩ ⟨.seqR (List.length ([v9, v10, 0])) (encF ty24 ([v9, v10, 0])), none, []⟩, .t ((v13 : Int) == 0) true, .t ((v9 : Int) == 0) false, .t ((v13 : Int) == 1) false, .c 27 [.agg [.pv (.int .i64 v15), .pv (.int .i64 v16), .pv (.int .i64 v17), .pv (.int .i64 v18)], .pv (.int .u32 v9), .pv (.int .u32 v10), .pv (.int .i64 v11), .pv (.bool v12)] [] (.pv (.int .u32 v45)) [], .c 28 [.pv (.seq (List.length v14) (encF ty3 v14))] [] (.pv (.int .u32 v47)) [], .t ((v45 : Int) == v47) false]) (by kernel_rfl) (oks_cons (go25_ok _ _ h2) (oks_cons c3 (oks_cons (go3_l5_ok _ _ _ _ _ _ _ _ _ _ _ _ _ _ h19) (oks_cons (lit_eff ty24 ([v9, v10, 0]) _ (by kernel_rfl)) (oks_cons c20 (oks_cons c21 (oks_cons c29 (oks_cons (go27_ok _ _ _ _ _ _ _ h46) (oks_cons (go28_ok _ _ _ h48) (oks_cons c49 oks_nil))))))))))
      · rw [if_neg c20] at h
        have c20 := not_true c20
        by_cases c52 : ((v13 : Int) == 1) = true
        · rw [if_pos c52] at h
          by_cases c53 : ((v10 : Int) == 0) = true
          · rw [if_pos c53] at h
            obtain ⟨v54, h55, h⟩ := bind_of h
            try dsimp only at h
            obtain ⟨v56, h57, h⟩ := bind_of h
            try dsimp only at h
            by_cases c58 : ((v54 : Int) == v56) = true
            · rw [if_pos c58] at h
              obtain ⟨v59, h60, h⟩ := bind_of h
              try dsimp only at h
              have h := Option.some.inj h
              subst h
              exact does (script := [.c (.pv (.bool v1)) [], .b false, .l (.exit 0) ⟨dead :: .pv (.int .u32 v9) :: .pv (.int .u32 v10) :: .pv (.int .i64 v11) :: .pv (.bool v12) :: .pv (.int .i64 v13) :: .ptr 0 0 :: (List.replicate 6 dead ++ (.seqR (List.length v14) (encF ty3 v14) :: List.replicate 58 dead)), [.box [.pv (.int .i64 v15), .pv (.int .i64 v16), .pv (.int .i64 v17), .pv (.int .i64 v18)]]⟩, .e ⟨.seqR (List.length ([v9, v10, 0])) (encF ty24 ([v9, v10, 0])), none, []⟩, .keep, .b false, .keep, .keep, .keep, .keep, .keep, .b true, .keep, .keep, .keep, .keep, .b true, .keep, .keep, .c (.pv (.int .u32 v54)) [], .c (.pv (.int .u32 v56)) [], .b true, .keep, .keep, .c (.pv (.bool v59)) [], .keep, .keep, .keep]) (l := [.c 25 [] [] (.pv (.bool v1)) [], .t (!v1) false, .l go3_l5_c 1 ⟨dead :: .pv (.int .u32 a1) :: .pv (.int .u32 a2) :: .pv (.int .i64 a3) :: .pv (.bool a4) :: .pv (.int .i64 a5) :: .ptr 0 0 :: (List.replicate 6 dead ++ (.seqR (List.length ([])) (encF ty3 ([])) :: .pv (.int .i64 0) :: List.replicate 57 dead)), [.box [.pv (.int .i64 a0.kind), .pv (.int .i64 a0.arg), .pv (.int .i64 a0.next), .pv (.int .i64 a0.alt)]]⟩ (.exit 0) ⟨dead :: .pv (.int .u32 v9) :: .pv (.int .u32 v10) :: .pv (.int .i64 v11) :: .pv (.bool v12) :: .pv (.int .i64 v13) :: .ptr 0 0 :: (List.replicate 6 dead ++ (.seqR (List.length v14) (encF ty3 v14) :: List.replicate 58 dead)), [.box [.pv (.int .i64 v15), .pv (.int .i64 v16), .pv (.int .i64 v17), .pv (.int .i64 v18)]]⟩, .e ⟨.seqR 3 (litSeq (zelem Try.prog 28) (List.map ty24.enc ([v9, v10, 0]))), none, []⟩ ⟨.seqR (List.length ([v9, v10, 0])) (encF ty24 ([v9, v10, 0])), none, []⟩, .t ((v13 : Int) == 0) false, .t ((v13 : Int) == 1) true, .t ((v10 : Int) == 0) true, .c 27 [.agg [.pv (.int .i64 v15), .pv (.int .i64 v16), .pv (.int .i64 v17), .pv (.int .i64 v18)], .pv (.int .u32 v9), .pv (.int .u32 v10), .pv (.int .i64 v11), .pv (.bool v12)] [] (.pv (.int .u32 v54)) [], .c 28 [.pv (.seq (List.length v14) (encF ty3 v14))] [] (.pv (.int .u32 v56)) [], .t ((v54 : Int) == v56) true, .c 29 [.agg [.pv (.int .u32 0), .pv (.int .u32 0), .pv (.seq (List.length ([])) (encF ty24 ([]))), .pv (.int .u32 0), .pv (.int .u32 0), .pv (.seq (List.length ([v9, v10, 0])) (encF ty24 ([v9, v10, 0])))], .pv (.int .i64 v13)] [] (.pv (.bool v59)) []]) (by kernel_rfl) (oks_cons (go25_ok _ _ h2) (oks_cons c3 (oks_cons (go3_l5_ok _ _ _ _ _ _ _ _ _ _ _ _ _ _ h19) (oks_cons (lit_eff ty24 ([v9, v10, 0]) _ (by kernel_rfl)) (oks_cons c20 (oks_cons c52 (oks_cons c53 (oks_cons (go27_ok _ _ _ _ _ _ _ h55) (oks_cons (go28_ok _ _ _ h57) (oks_cons c58 (oks_cons (go29_ok _ _ _ _ h60) oks_nil)))))))))))
            · rw [if_neg c58] at h
              have c58 := not_true c58
              have h := Option.some.inj h
              subst h
              exact does (script := [.c (.pv (.bool v1)) [], .b false, .l (.exit 0) ⟨dead :: .pv (.int .u32 v9) :: .pv (.int .u32 v10) :: .pv (.int .i64 v11) :: .pv (.bool v12) :: .pv (.int .i64 v13) :: .ptr 0 0 :: (List.replicate 6 dead ++ (.seqR (List.length v14) (encF ty3 v14) :: List.replicate 58 dead)), [.box [.pv (.int .i64 v15), .pv (.int .i64 v16), .pv (.int .i64 v17), .pv (.int .i64 v18)]]⟩, .e ⟨.seqR (List.length ([v9, v10, 0])) (encF ty24 ([v9, v10, 0])), none, []⟩, .keep, .b false, .keep, .keep, .keep, .keep, .keep, .b true, .keep, .keep, .keep, .keep, .b true, .keep, .keep, .c (.pv (.int .u32 v54)) [], .c (.pv (.int .u32 v56)) [], .b false, .keep, .keep, .keep, .keep, .keep]) (l := [.c 25 [] [] (.pv (.bool v1)) [], .t (!v1) false, .l go3_l5_c 1 ⟨dead :: .pv (.int .u32 a1) :: .pv (.int .u32 a2) :: .pv (.int .i64 a3) :: .pv (.bool a4) :: .pv (.int .i64 a5) :: .ptr 0 0 :: (List.replicate 6 dead ++ (.seqR (List.length ([])) (encF ty3 ([])) :: .pv (.int .i64 0) :: List.replicate 57 dead)), [.box [.pv (.int .i64 a0.kind), .pv (.int .i64 a0.arg), .pv (.int .i64 a0.next), .pv (.int .i64 a0.alt)]]⟩ (.exit 0) ⟨dead :: .pv (.int .u32 v9) :: .pv (.int .u32 v10) :: .pv (.int .i64 v11) :: .pv (.bool v12) :: .pv (.int .i64 v13) :: .ptr 0 0 :: (List.replicate 6 dead ++ (.seqR (List.length v14) (encF ty3 v14) :: List.replicate 58 dead)), [.box [.pv (.int .i64 v15), .pv (.int .i64 v16), .pv (.int .i64 v17), .pv (.int .i64 v18)]]⟩, .e ⟨.seqR 3 (litSeq (zelem Try.prog 28) (List.map ty24.enc ([v9, v10, 0]))), none, []⟩ ⟨.seqR (List.length ([v9, v10, 0])) (encF ty24 ([v9, v10, 0])), none, []⟩, .t ((v13 : Int) == 0) false, .t ((v13 : Int) == 1) true, .t ((v10 : Int) == 0) true, .c 27 [.agg [.pv (.int .i64 v15), .pv (.int .i64 v16), .pv (.int .i64 v17), .pv (.int .i64 v18)], .pv (.int .u32 v9), .pv (.int .u32 v10), .pv (.int .i64 v11), .pv (.bool v12)] [] (.pv (.int .u32 v54)) [], .c 28 [.pv (.seq (List.length v14) (encF ty3 v14))] [] (.pv (.int .u32 v56)) [], .t ((v54 : Int) == v56) false]) (by kernel_rfl) (oks_cons (go25_ok _ _ h2) (oks_cons c3 (oks_cons (go3_l5_ok _ _ _ _ _ _ _ _ _ _ _ _ _ _ h19) (oks_cons (lit_eff ty24 ([v9, v10, 0]) _ (by kernel_rfl)) (oks_cons c20 (oks_cons c52 (oks_cons c53 (oks_cons (go27_ok _ _ _ _ _ _ _ h55) (oks_cons (go28_ok _ _ _ h57) (oks_cons c58 oks_nil))))))))))
          · rw [if_neg c53] at h
            have c53 := not_true c53
            obtain ⟨v61, h62, h⟩ := bind_of h
            try dsimp only at h
            obtain ⟨v63, h64, h⟩ := bind_of h
            try dsimp only at h
            by_cases c65 : ((v61 : Int) == v63) = true
            · rw [if_pos c65] at h
              obtain ⟨v66, h67, h⟩ := bind_of h
              try dsimp only at h
              have h := Option.some.inj h
              subst h
              exact does (script := [.c (.pv (.bool v1)) [], .b false, .l (.exit 0) ⟨dead :: .pv (.int .u32 v9) :: .pv (.int .u32 v10) :: .pv (.int .i64 v11) :: .pv (.bool v12) :: .pv (.int .i64 v13) :: .ptr 0 0 :: (List.replicate 6 dead ++ (.seqR (List.length v14) (encF ty3 v14) :: List.replicate 58 dead)), [.box [.pv (.int .i64 v15), .pv (.int .i64 v16), .pv (.int .i64 v17), .pv (.int .i64 v18)]]⟩, .e ⟨.seqR (List.length ([v9, v10, 0])) (encF ty24 ([v9, v10, 0])), none, []⟩, .keep, .b false, .keep, .keep, .keep, .keep, .keep, .b true, .keep, .keep, .keep, .keep, .b false, .keep, .keep, .c (.pv (.int .u32 v61)) [], .c (.pv (.int .u32 v63)) [], .b true, .keep, .keep, .c (.pv (.bool v66)) [], .keep, .keep, .keep]) (l := [.c 25 [] [] (.pv (.bool v1)) [], .t (!v1) false, .l go3_l5_c 1 ⟨dead :: .pv (.int .u32 a1) :: .pv (.int .u32 a2) :: .pv (.int .i64 a3) :: .pv (.bool a4) :: .pv (.int .i64 a5) :: .ptr 0 0 :: (List.replicate 6 dead ++ (.seqR (List.length ([])) (encF ty3 ([])) :: .pv (.int .i64 0) :: List.replicate 57 dead)), [.box [.pv (.int .i64 a0.kind), .pv (.int .i64 a0.arg), .pv (.int .i64 a0.next), .pv (.int .i64 a0.alt)]]⟩ (.exit 0) ⟨dead :: .pv (.int .u32 v9) :: .pv (.int .u32 v10) :: .pv (.int .i64 v11) :: .pv (.bool v12) :: .pv (.int .i64 v13) :: .ptr 0 0 :: (List.replicate 6 dead ++ (.seqR (List.length v14) (encF ty3 v14) :: List.replicate 58 dead)), [.box [.pv (.int .i64 v15), .pv (.int .i64 v16), .pv (.int .i64 v17), .pv (.int .i64 v18)]]⟩, .e ⟨.seqR 3 (litSeq (zelem Try.prog 28) (List.map ty24.enc ([v9, v10, 0]))), none, []⟩ ⟨.seqR (List.length ([v9, v10, 0])) (encF ty24 ([v9, v10, 0])), none, []⟩, .t ((v13 : Int) == 0) false, .t ((v13 : Int) == 1) true, .t ((v10 : Int) == 0) false, .c 27 [.agg [.pv (.int .i64 v15), .pv (.int .i64 v16), .pv (.int .i64 v17), .pv (.int .i64 v18)], .pv (.int .u32 v9), .pv (.int .u32 v10), .pv (.int .i64 v11), .pv (.bool v12)] [] (.pv (.int .u32 v61)) [], .c 28 [.pv (.seq (List.length v14) (encF ty3 v14))] [] (.pv (.int .u32 v63)) [], .t ((v61 : Int) == v63) true, .c 29 [.agg [.pv (.int .u32 0), .pv (.int .u32 0), .pv (.seq (List.length ([])) (encF ty24 ([]))), .pv (.int .u32 0), .pv (.int .u32 0), .pv (.seq (List.length ([v9, v10, 0])) (encF ty24 ([v9, v10, 0])))], .pv (.int .i64 v13)] [] (.pv (.bool v66)) []]) (by kernel_rfl) (oks_cons (go25_ok _ _ h2) (oks_cons c3 (oks_cons (go3_l5_ok _ _ _ _ _ _ _ _ _ _ _ _ _ _ h19) (oks_cons (lit_eff ty24 ([v9, v10, 0]) _ (by kernel_rfl)) (oks_cons c20 (oks_cons c52 (oks_cons c53 (oks_cons (go27_ok _ _ _ _ _ _ _ h62) (oks_cons (go28_ok _ _ _ h64) (oks_cons c65 (oks_cons (go29_ok _ _ _ _ h67) oks_nil)))))))))))
            · rw [if_neg c65] at h
              have c65 := not_true c65
              have h := Option.some.inj h
              subst h
              exact does (script := [.c (.pv (.bool v1)) [], .b false, .l (.exit 0) ⟨dead :: .pv (.int .u32 v9) :: .pv (.int .u32 v10) :: .pv (.int .i64 v11) :: .pv (.bool v12) :: .pv (.int .i64 v13) :: .ptr 0 0 :: (List.replicate 6 dead ++ (.seqR (List.length v14) (encF ty3 v14) :: List.replicate 58 dead)), [.box [.pv (.int .i64 v15), .pv (.int .i64 v16), .pv (.int .i64 v17), .pv (.int .i64 v18)]]⟩, .e ⟨.seqR (List.length ([v9, v10, 0])) (encF ty24 ([v9, v10, 0])), none, []⟩, .keep, .b false, .keep, .keep, .keep, .keep, .keep, .b true, .keep, .keep, .keep, .keep, .b false, .keep, .keep, .c (.pv (.int .u32 v61)) [], .c (.pv (.int .u32 v63)) [], .b false, .keep, .keep, .keep, .keep, .keep]) (l := [.c 25 [] [] (.pv (.bool v1)) [], .t (!v1) false, .l go3_l5_c 1 ⟨dead :: .pv (.int .u32 a1) :: .pv (.int .u32 a2) :: .pv (.int .i64 a3) :: .pv (.bool a4) :: .pv (.int .i64 a5) :: .ptr 0 0 :: (List.replicate 6 dead ++ (.seqR (List.length ([])) (encF ty3 ([])) :: .pv (.int .i64 0) :: List.replicate 57 dead)), [.box [.pv (.int .i64 a0.kind), .pv (.int .i64 a0.arg), .pv (.int .i64 a0.next), .pv (.int .i64 a0.alt)]]⟩ (.exit 0) ⟨dead :: .pv (.int .u32 v9) :: .pv (.int .u32 v10) :: .pv (.int .i64 v11) :: .pv (.bool v12) :: .pv (.int .i64 v13) :: .ptr 0 0 :: (List.replicate 6 dead ++ (.seqR (List.length v14) (encF ty3 v14) :: List.replicate 58 dead)), [.box [.pv (.int .i64 v15), .pv (.int .i64 v16), .pv (.int .i64 v17), .pv (.int .i64 v18)]]⟩, .e ⟨.seqR 3 (litSeq (zelem Try.prog 28) (List.map ty24.enc ([v9, v10, 0]))), none, []⟩ ⟨.seqR (List.length ([v9, v10, 0])) (encF ty24 ([v9, v10, 0])), none, []⟩, .t ((v13 : Int) == 0) false, .t ((v13 : Int) == 1) true, .t ((v10 : Int) == 0) false, .c 27 [.agg [.pv (.int .i64 v15), .pv (.int .i64 v16), .pv (.int .i64 v17), .pv (.int .i64 v18)], .pv (.int .u32 v9), .pv (.int .u32 v10), .pv (.int .i64 v11), .pv (.bool v12)] [] (.pv (.int .u32 v61)) [], .c 28 [.pv (.seq (List.length v14) (encF ty3 v14))] [] (.pv (.int .u32 v63)) [], .t ((v61 : Int) == v63) false]) (by kernel_rfl) (oks_cons (go25_ok _ _ h2) (oks_cons c3 (oks_cons (go3_l5_ok _ _ _ _ _ _ _ _ _ _ _ _ _ _ h19) (oks_cons (lit_eff ty24 ([v9, v10, 0]) _ (by kernel_rfl)) (oks_cons c20 (oks_cons c52 (oks_cons c53 (oks_cons (go27_ok _ _ _ _ _ _ _ h62) (oks_cons (go28_ok _ _ _ h64) (oks_cons c65 oks_nil))))))))))
        · rw [if_neg c52] at h
          have c52 := not_true c52
          obtain ⟨v68, h69, h⟩ := bind_of h
          try dsimp only at h
          obtain ⟨v70, h71, h⟩ := bind_of h
          try dsimp only at h
          by_cases c72 : ((v68 : Int) == v70) = true
          · rw [if_pos c72] at h
            obtain ⟨v73, h74, h⟩ := bind_of h
            try dsimp only at h
            have h := Option.some.inj h
            subst h
            exact does (script := [.c (.pv (.bool v1)) [], .b false, .l (.exit 0) ⟨dead :: .pv (.int .u32 v9) :: .pv (.int .u32 v10) :: .pv (.int .i64 v11) :: .pv (.bool v12) :: .pv (.int .i64 v13) :: .ptr 0 0 :: (List.replicate 6 dead ++ (.seqR (List.length v14) (encF ty3 v14) :: List.replicate 58 dead)), [.box [.pv (.int .i64 v15), .pv (.int .i64 v16), .pv (.int .i64 v17), .pv (.int .i64 v18)]]⟩, .e ⟨.seqR (List.length ([v9, v10, 0])) (encF ty24 ([v9, v10, 0])), none, []⟩, .keep, .b false, .keep, .keep, .keep, .keep, .keep, .b false, .keep, .keep, .keep, .keep, .keep, .keep, .keep, .c (.pv (.int .u32 v68)) [], .c (.pv (.int .u32 v70)) [], .b true, .keep, .keep, .c (.pv (.bool v73)) [], .keep, .keep, .keep]) (l := [.c 25 [] [] (.pv (.bool v1)) [], .t (!v1) false, .l go3_l5_c 1 ⟨dead :: .pv (.int .u32 a1) :: .pv (.int .u32 a2) :: .pv (.int .i64 a3) :: .pv (.bool a4) :: .pv (.int .i64 a5) :: .ptr 0 0 :: (List.replicate 6 dead ++ (.seqR (List.length ([])) (encF ty3 ([])) :: .pv (.int .i64 0) :: List.replicate 57 dead)), [.box [.pv (.int .i64 a0.kind), .pv (.int .i64 a0.arg), .pv (.int .i64 a0.next), .pv (.int .i64 a0.alt)]]⟩ (.exit 0) ⟨dead :: .pv (.int .u32 v9) :: .pv (.int .u32 v10) :: .pv (.int .i64 v11) :: .pv (.bool v12) :: .pv (.int .i64 v13) :: .ptr 0 0 :: (List.replicate 6 dead ++ (.seqR (List.length v14) (encF ty3 v14) :: List.replicate 58 dead)), [.box [.pv (.int .i64 v15), .pv (.int .i64 v16), .pv (.int .i64 v17), .pv (.int .i64 v18)]]⟩, .e ⟨.seqR 3 (litSeq (zelem Try.prog 28) (List.map ty24.enc ([v9, v10, 0]))), none, []⟩ ⟨.seqR (List.length ([v9, v10, 0])) (encF ty24 ([v9, v10, 0])), none, []⟩, .t ((v13 : Int) == 0) false, .t ((v13 : Int) == 1) false, .c 27 [.agg [.pv (.int .i64 v15), .pv (.int .i64 v16), .pv (.int .i64 v17), .pv (.int .i64 v18)], .pv (.int .u32 v9), .pv (.int .u32 v10), .pv (.int .i64 v11), .pv (.bool v12)] [] (.pv (.int .u32 v68)) [], .c 28 [.pv (.seq (List.length v14) (encF ty3 v14))] [] (.pv (.int .u32 v70)) [], .t ((v68 : Int) == v70) true, .c 29 [.agg [.pv (.int .u32 0), .pv (.int .u32 0), .pv (.seq (List.length ([])) (encF ty24 ([]))), .pv (.int .u32 0), .pv (.int .u32 0), .pv (.seq (List.length ([v9, v10, 0])) (encF ty24 ([v9, v10, 0])))], .pv (.int .i64 v13)] [] (.pv (.bool v73)) []]) (by kernel_rfl) (oks_cons (go25_ok _ _ h2) (oks_cons c3 (oks_cons (go3_l5_ok _ _ _ _ _ _ _ _ _ _ _ _ _ _ h19) (oks_cons (lit_eff ty24 ([v9, v10, 0]) _ (by kernel_rfl)) (oks_cons c20 (oks_cons c52 (oks_cons (go27_ok _ _ _ _ _ _ _ h69) (oks_cons (go28_ok _ _ _ h71) (oks_cons c72 (oks_cons (go29_ok _ _ _ _ h74) oks_nil))))))))))
          · rw [if_neg c72] at h
            have c72 := not_true c72
            have h := Option.some.inj h
            subst h
            exact does (script := [.c (.pv (.bool v1)) [], .b false, .l (.exit 0) ⟨dead :: .pv (.int .u32 v9) :: .pv (.int .u32 v10) :: .pv (.int .i64 v11) :: .pv (.bool v12) :: .pv (.int .i64 v13) :: .ptr 0 0 :: (List.replicate 6 dead ++ (.seqR (List.length v14) (encF ty3 v14) :: List.replicate 58 dead)), [.box [.pv (.int .i64 v15), .pv (.int .i64 v16), .pv (.int .i64 v17), .pv (.int .i64 v18)]]⟩, .e ⟨.seqR (List.length ([v9, v10, 0])) (encF ty24 ([v9, v10, 0])), none, []⟩, .keep, .b false, .keep, .keep, .keep, .keep, .keep, .b false, .keep, .keep, .keep, .keep, .keep, .keep, .keep, .c (.pv (.int .u32 v68)) [], .c (.pv (.int .u32 v70)) [], .b false, .keep, .keep, .keep, .keep, .keep]) (l := [.c 25 [] [] (.pv (.bool v1)) [], .t (!v1) false, .l go3_l5_c 1 ⟨dead :: .pv (.int .u32 a1) :: .pv (.int .u32 a2) :: .pv (.int .i64 a3) :: .pv (.bool a4) :: .pv (.int .i64 a5) :: .ptr 0 0 :: (List.replicate 6 dead ++ (.seqR (List.length ([])) (encF ty3 ([])) :: .pv (.int .i64 0) :: List.replicate 57 dead)), [.box [.pv (.int .i64 a0.kind), .pv (.int .i64 a0.arg), .pv (.int .i64 a0.next), .pv (.int .i64 a0.alt)]]⟩ (.exit 0) ⟨dead :: .pv (.int .u32 v9) :: .pv (.int .u32 v10) :: .pv (.int .i64 v11) :: .pv (.bool v12) :: .pv (.int .i64 v13) :: .ptr 0 0 :: (List.replicate 6 dead ++ (.seqR (List.length v14) (encF ty3 v14) :: List.replicate 58 dead)), [.box [.pv (.int .i64 v15), .pv (.int .i64 v16), .pv (.int .i64 v17), .pv (.int .i64 v18)]]⟩, .e ⟨.seqR 3 (litSeq (zelem Try.prog 28) (List.map ty24.enc ([v9, v10, 0]))), none, []⟩ ⟨.seqR (List.length ([v9, v10, 0])) (encF ty24 ([v9, v10, 0])), none, []⟩, .t ((v13 : Int) == 0) false, .t ((v13 : Int) == 1) false, .c 27 [.agg [.pv (.int .i64 v15), .pv (.int .i64 v16), .pv (.int .i64 v17), .pv (.int .i64 v18)], .pv (.int .u32 v9), .pv (.int .u32 v10), .pv (.int .i64 v11), .pv (.bool v12)] [] (.pv (.int .u32 v68)) [], .c 28 [.pv (.seq (List.length v14) (encF ty3 v14))] [] (.pv (.int .u32 v70)) [], .t ((v68 : Int) == v70) false]) (by kernel_rfl) (oks_cons (go25_ok _ _ h2) (oks_cons c3 (oks_cons (go3_l5_ok _ _ _ _ _ _ _ _ _ _ _ _ _ _ h19) (oks_cons (lit_eff ty24 ([v9, v10, 0]) _ (by kernel_rfl)) (oks_cons c20 (oks_cons c52 (oks_cons (go27_ok _ _ _ _ _ _ _ h69) (oks_cons (go28_ok _ _ _ h71) (oks_cons c72 oks_nil)))))))))
end Go.Am.GoYtldkmmnffjdliaa
