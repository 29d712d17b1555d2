/- Printed by gen2.py. -/
import Derived.Test.YtldkmmnffjdliaaFvb
namespace Go.Bm.GoYtldkmmnffjdliaa
open Go.Proofs
set_option autoImplicit false
set_option linter.unusedVariables false
set_option linter.unusedSimpArgs false
set_option maxRecDepth 100000
set_option synthInstance.maxHeartbeats 400000
set_option synthInstance.maxSize 2048
/-- alibi/alibiref21.Value -/
def alibiref21_Value (r1 : flow_Rule) (v : List (BitVec 32)) : Option ((BitVec 32)) :=
  bind (alibiref21_Value_l3 r1.to_ r1.from_ r1.also r1.keep r1.if_ r1.then_ v (0#32) (0#32) 0) fun v9 =>
  if (r1.if_ == (0#32)) = true then
    some (((v9.1 &&& r1.keep) ||| v9.2) ||| r1.then_)
  else
    if (decide ((0#32) < (v9.1 &&& r1.if_))) = true then
      some (((v9.1 &&& r1.keep) ||| v9.2) ||| r1.then_)
    else
      some ((v9.1 &&& r1.keep) ||| v9.2)
theorem alibiref21_Value_ok (r1 : flow_Rule) (v : List (BitVec 32)) (r : (BitVec 32)) (h : alibiref21_Value r1 v = some r) : Does Try.prog 32 [.agg [.pv (.int .i64 r1.to_), .pv (.int .i64 r1.from_), .pv (.int .i64 r1.also), .pv (.int .u32 (BitVec.toNat r1.keep : Nat)), .pv (.int .u32 (BitVec.toNat r1.if_ : Nat)), .pv (.int .u32 (BitVec.toNat r1.then_ : Nat))], .pv (.seq (List.length v) (encP e_u32 0#32 v))] [] (.pv (.int .u32 (BitVec.toNat r : Nat)), []) := by
  unfold alibiref21_Value at h
  obtain ⟨v9, h10, h⟩ := bind_of h
  by_cases c11 : (r1.if_ == (0#32)) = true
  · rw [if_pos c11] at h
    have h := Option.some.inj h
    subst h
    exact does mixed (L := lives) (script := (.keep :: .l (.exit 0) ⟨dead :: dead :: .ptr 0 [] 0 0 :: dead :: dead :: .pv (.int .u32 (BitVec.toNat v9.1 : Nat)) :: .pv (.int .u32 (BitVec.toNat v9.2 : Nat)) :: List.replicate 45 dead, [.box 0 [.pv (.int .i64 r1.to_), .pv (.int .i64 r1.from_), .pv (.int .i64 r1.also), .pv (.int .u32 (BitVec.toNat r1.keep : Nat)), .pv (.int .u32 (BitVec.toNat r1.if_ : Nat)), .pv (.int .u32 (BitVec.toNat r1.then_ : Nat))]]⟩ :: .keep :: .e { val := .pv (.int .u32 (BitVec.toNat (v9.1 &&& r1.keep) : Nat)) } :: .e { val := .pv (.int .u32 (BitVec.toNat ((v9.1 &&& r1.keep) ||| v9.2) : Nat)) } :: .keep :: .e { val := .pv (.bool (r1.if_ == (0#32))) } :: .b true :: .keep :: .keep :: .keep :: .keep :: .keep :: .keep :: .keep :: .e { val := .pv (.int .u32 (BitVec.toNat (((v9.1 &&& r1.keep) ||| v9.2) ||| r1.then_) : Nat)) } :: [])) (l := (.l alibiref21_Value_l3_c 0 ⟨dead :: .pv (.seq (List.length v) (encP e_u32 0#32 v)) :: .ptr 0 [] 0 0 :: dead :: dead :: .pv (.int .u32 (BitVec.toNat (0#32) : Nat)) :: .pv (.int .u32 (BitVec.toNat (0#32) : Nat)) :: .pv (.int .i64 0) :: List.replicate 44 dead, [.box 0 [.pv (.int .i64 r1.to_), .pv (.int .i64 r1.from_), .pv (.int .i64 r1.also), .pv (.int .u32 (BitVec.toNat r1.keep : Nat)), .pv (.int .u32 (BitVec.toNat r1.if_ : Nat)), .pv (.int .u32 (BitVec.toNat r1.then_ : Nat))]]⟩ (.exit 0) ⟨dead :: dead :: .ptr 0 [] 0 0 :: dead :: dead :: .pv (.int .u32 (BitVec.toNat v9.1 : Nat)) :: .pv (.int .u32 (BitVec.toNat v9.2 : Nat)) :: List.replicate 45 dead, [.box 0 [.pv (.int .i64 r1.to_), .pv (.int .i64 r1.from_), .pv (.int .i64 r1.also), .pv (.int .u32 (BitVec.toNat r1.keep : Nat)), .pv (.int .u32 (BitVec.toNat r1.if_ : Nat)), .pv (.int .u32 (BitVec.toNat r1.then_ : Nat))]]⟩ :: .e { val := .pv (.int .u32 (IntKind.wrap .u32 ((BitVec.ofInt 32 ((BitVec.toNat v9.1 : Nat) : Int) &&& BitVec.ofInt 32 ((BitVec.toNat r1.keep : Nat) : Int)).toNat : Nat))) } { val := .pv (.int .u32 (BitVec.toNat (v9.1 &&& r1.keep) : Nat)) } :: .e { val := .pv (.int .u32 (IntKind.wrap .u32 ((BitVec.ofInt 32 ((BitVec.toNat (v9.1 &&& r1.keep) : Nat) : Int) ||| BitVec.ofInt 32 ((BitVec.toNat v9.2 : Nat) : Int)).toNat : Nat))) } { val := .pv (.int .u32 (BitVec.toNat ((v9.1 &&& r1.keep) ||| v9.2) : Nat)) } :: .e { val := .pv (.bool (((BitVec.toNat r1.if_ : Nat) : Int) == (BitVec.toNat (0#32) : Nat))) } { val := .pv (.bool (r1.if_ == (0#32))) } :: .t (r1.if_ == (0#32)) true :: .e { val := .pv (.int .u32 (IntKind.wrap .u32 ((BitVec.ofInt 32 ((BitVec.toNat ((v9.1 &&& r1.keep) ||| v9.2) : Nat) : Int) ||| BitVec.ofInt 32 ((BitVec.toNat r1.then_ : Nat) : Int)).toNat : Nat))) } { val := .pv (.int .u32 (BitVec.toNat (((v9.1 &&& r1.keep) ||| v9.2) ||| r1.then_) : Nat)) } :: [])) (by kernel_rfl) (oks_cons (alibiref21_Value_l3_ok _ _ _ _ _ _ _ _ _ _ _ h10) (oks_cons (eff_int (un_and .u32 rfl v9.1 r1.keep)) (oks_cons (eff_int (un_or .u32 rfl (v9.1 &&& r1.keep) v9.2)) (oks_cons (eff_bool (un_eql r1.if_ (0#32))) (oks_cons c11 (oks_cons (eff_int (un_or .u32 rfl ((v9.1 &&& r1.keep) ||| v9.2) r1.then_)) oks_nil))))))
  · rw [if_neg c11] at h
    have c11 := not_true c11
    by_cases c12 : (decide ((0#32) < (v9.1 &&& r1.if_))) = true
    · rw [if_pos c12] at h
      have h := Option.some.inj h
      subst h
      exact does mixed (L := lives) (script := (.keep :: .l (.exit 0) ⟨dead :: dead :: .ptr 0 [] 0 0 :: dead :: dead :: .pv (.int .u32 (BitVec.toNat v9.1 : Nat)) :: .pv (.int .u32 (BitVec.toNat v9.2 : Nat)) :: List.replicate 45 dead, [.box 0 [.pv (.int .i64 r1.to_), .pv (.int .i64 r1.from_), .pv (.int .i64 r1.also), .pv (.int .u32 (BitVec.toNat r1.keep : Nat)), .pv (.int .u32 (BitVec.toNat r1.if_ : Nat)), .pv (.int .u32 (BitVec.toNat r1.then_ : Nat))]]⟩ :: .keep :: .e { val := .pv (.int .u32 (BitVec.toNat (v9.1 &&& r1.keep) : Nat)) } :: .e { val := .pv (.int .u32 (BitVec.toNat ((v9.1 &&& r1.keep) ||| v9.2) : Nat)) } :: .keep :: .e { val := .pv (.bool (r1.if_ == (0#32))) } :: .b false :: .keep :: .keep :: .keep :: .keep :: .e { val := .pv (.int .u32 (BitVec.toNat (v9.1 &&& r1.if_) : Nat)) } :: .keep :: .e { val := .pv (.bool (decide ((0#32) < (v9.1 &&& r1.if_)))) } :: .keep :: .b true :: .keep :: .e { val := .pv (.int .u32 (BitVec.toNat (((v9.1 &&& r1.keep) ||| v9.2) ||| r1.then_) : Nat)) } :: [])) (l := (.l alibiref21_Value_l3_c 0 ⟨dead :: .pv (.seq (List.length v) (encP e_u32 0#32 v)) :: .ptr 0 [] 0 0 :: dead :: dead :: .pv (.int .u32 (BitVec.toNat (0#32) : Nat)) :: .pv (.int .u32 (BitVec.toNat (0#32) : Nat)) :: .pv (.int .i64 0) :: List.replicate 44 dead, [.box 0 [.pv (.int .i64 r1.to_), .pv (.int .i64 r1.from_), .pv (.int .i64 r1.also), .pv (.int .u32 (BitVec.toNat r1.keep : Nat)), .pv (.int .u32 (BitVec.toNat r1.if_ : Nat)), .pv (.int .u32 (BitVec.toNat r1.then_ : Nat))]]⟩ (.exit 0) ⟨dead :: dead :: .ptr 0 [] 0 0 :: dead :: dead :: .pv (.int .u32 (BitVec.toNat v9.1 : Nat)) :: .pv (.int .u32 (BitVec.toNat v9.2 : Nat)) :: List.replicate 45 dead, [.box 0 [.pv (.int .i64 r1.to_), .pv (.int .i64 r1.from_), .pv (.int .i64 r1.also), .pv (.int .u32 (BitVec.toNat r1.keep : Nat)), .pv (.int .u32 (BitVec.toNat r1.if_ : Nat)), .pv (.int .u32 (BitVec.toNat r1.then_ : Nat))]]⟩ :: .e { val := .pv (.int .u32 (IntKind.wrap .u32 ((BitVec.ofInt 32 ((BitVec.toNat v9.1 : Nat) : Int) &&& BitVec.ofInt 32 ((BitVec.toNat r1.keep : Nat) : Int)).toNat : Nat))) } { val := .pv (.int .u32 (BitVec.toNat (v9.1 &&& r1.keep) : Nat)) } :: .e { val := .pv (.int .u32 (IntKind.wrap .u32 ((BitVec.ofInt 32 ((BitVec.toNat (v9.1 &&& r1.keep) : Nat) : Int) ||| BitVec.ofInt 32 ((BitVec.toNat v9.2 : Nat) : Int)).toNat : Nat))) } { val := .pv (.int .u32 (BitVec.toNat ((v9.1 &&& r1.keep) ||| v9.2) : Nat)) } :: .e { val := .pv (.bool (((BitVec.toNat r1.if_ : Nat) : Int) == (BitVec.toNat (0#32) : Nat))) } { val := .pv (.bool (r1.if_ == (0#32))) } :: .t (r1.if_ == (0#32)) false :: .e { val := .pv (.int .u32 (IntKind.wrap .u32 ((BitVec.ofInt 32 ((BitVec.toNat v9.1 : Nat) : Int) &&& BitVec.ofInt 32 ((BitVec.toNat r1.if_ : Nat) : Int)).toNat : Nat))) } { val := .pv (.int .u32 (BitVec.toNat (v9.1 &&& r1.if_) : Nat)) } :: .e { val := .pv (.bool (decide (((BitVec.toNat (v9.1 &&& r1.if_) : Nat) : Int) > (BitVec.toNat (0#32) : Nat)))) } { val := .pv (.bool (decide ((0#32) < (v9.1 &&& r1.if_)))) } :: .t (decide ((0#32) < (v9.1 &&& r1.if_))) true :: .e { val := .pv (.int .u32 (IntKind.wrap .u32 ((BitVec.ofInt 32 ((BitVec.toNat ((v9.1 &&& r1.keep) ||| v9.2) : Nat) : Int) ||| BitVec.ofInt 32 ((BitVec.toNat r1.then_ : Nat) : Int)).toNat : Nat))) } { val := .pv (.int .u32 (BitVec.toNat (((v9.1 &&& r1.keep) ||| v9.2) ||| r1.then_) : Nat)) } :: [])) (by kernel_rfl) (oks_cons (alibiref21_Value_l3_ok _ _ _ _ _ _ _ _ _ _ _ h10) (oks_cons (eff_int (un_and .u32 rfl v9.1 r1.keep)) (oks_cons (eff_int (un_or .u32 rfl (v9.1 &&& r1.keep) v9.2)) (oks_cons (eff_bool (un_eql r1.if_ (0#32))) (oks_cons c11 (oks_cons (eff_int (un_and .u32 rfl v9.1 r1.if_)) (oks_cons (eff_bool (un_gtr (v9.1 &&& r1.if_) (0#32))) (oks_cons c12 (oks_cons (eff_int (un_or .u32 rfl ((v9.1 &&& r1.keep) ||| v9.2) r1.then_)) oks_nil)))))))))
    · rw [if_neg c12] at h
      have c12 := not_true c12
      have h := Option.some.inj h
      subst h
      exact does mixed (L := lives) (script := (.keep :: .l (.exit 0) ⟨dead :: dead :: .ptr 0 [] 0 0 :: dead :: dead :: .pv (.int .u32 (BitVec.toNat v9.1 : Nat)) :: .pv (.int .u32 (BitVec.toNat v9.2 : Nat)) :: List.replicate 45 dead, [.box 0 [.pv (.int .i64 r1.to_), .pv (.int .i64 r1.from_), .pv (.int .i64 r1.also), .pv (.int .u32 (BitVec.toNat r1.keep : Nat)), .pv (.int .u32 (BitVec.toNat r1.if_ : Nat)), .pv (.int .u32 (BitVec.toNat r1.then_ : Nat))]]⟩ :: .keep :: .e { val := .pv (.int .u32 (BitVec.toNat (v9.1 &&& r1.keep) : Nat)) } :: .e { val := .pv (.int .u32 (BitVec.toNat ((v9.1 &&& r1.keep) ||| v9.2) : Nat)) } :: .keep :: .e { val := .pv (.bool (r1.if_ == (0#32))) } :: .b false :: .keep :: .keep :: .keep :: .keep :: .e { val := .pv (.int .u32 (BitVec.toNat (v9.1 &&& r1.if_) : Nat)) } :: .keep :: .e { val := .pv (.bool (decide ((0#32) < (v9.1 &&& r1.if_)))) } :: .keep :: .b false :: [])) (l := (.l alibiref21_Value_l3_c 0 ⟨dead :: .pv (.seq (List.length v) (encP e_u32 0#32 v)) :: .ptr 0 [] 0 0 :: dead :: dead :: .pv (.int .u32 (BitVec.toNat (0#32) : Nat)) :: .pv (.int .u32 (BitVec.toNat (0#32) : Nat)) :: .pv (.int .i64 0) :: List.replicate 44 dead, [.box 0 [.pv (.int .i64 r1.to_), .pv (.int .i64 r1.from_), .pv (.int .i64 r1.also), .pv (.int .u32 (BitVec.toNat r1.keep : Nat)), .pv (.int .u32 (BitVec.toNat r1.if_ : Nat)), .pv (.int .u32 (BitVec.toNat r1.then_ : Nat))]]⟩ (.exit 0) ⟨dead :: dead :: .ptr 0 [] 0 0 :: dead :: dead :: .pv (.int .u32 (BitVec.toNat v9.1 : Nat)) :: .pv (.int .u32 (BitVec.toNat v9.2 : Nat)) :: List.replicate 45 dead, [.box 0 [.pv (.int .i64 r1.to_), .pv (.int .i64 r1.from_), .pv (.int .i64 r1.also), .pv (.int .u32 (BitVec.toNat r1.keep : Nat)), .pv (.int .u32 (BitVec.toNat r1.if_ : Nat)), .pv (.int .u32 (BitVec.toNat r1.then_ : Nat))]]⟩ :: .e { val := .pv (.int .u32 (IntKind.wrap .u32 ((BitVec.ofInt 32 ((BitVec.toNat v9.1 : Nat) : Int) &&& BitVec.ofInt 32 ((BitVec.toNat r1.keep : Nat) : Int)).toNat : Nat))) } { val := .pv (.int .u32 (BitVec.toNat (v9.1 &&& r1.keep) : Nat)) } :: .e { val := .pv (.int .u32 (IntKind.wrap .u32 ((BitVec.ofInt 32 ((BitVec.toNat (v9.1 &&& r1.keep) : Nat) : Int) ||| BitVec.ofInt 32 ((BitVec.toNat v9.2 : Nat) : Int)).toNat : Nat))) } { val := .pv (.int .u32 (BitVec.toNat ((v9.1 &&& r1.keep) ||| v9.2) : Nat)) } :: .e { val := .pv (.bool (((BitVec.toNat r1.if_ : Nat) : Int) == (BitVec.toNat (0#32) : Nat))) } { val := .pv (.bool (r1.if_ == (0#32))) } :: .t (r1.if_ == (0#32)) false :: .e { val := .pv (.int .u32 (IntKind.wrap .u32 ((BitVec.ofInt 32 ((BitVec.toNat v9.1 : Nat) : Int) &&& BitVec.ofInt 32 ((BitVec.toNat r1.if_ : Nat) : Int)).toNat : Nat))) } { val := .pv (.int .u32 (BitVec.toNat (v9.1 &&& r1.if_) : Nat)) } :: .e { val := .pv (.bool (decide (((BitVec.toNat (v9.1 &&& r1.if_) : Nat) : Int) > (BitVec.toNat (0#32) : Nat)))) } { val := .pv (.bool (decide ((0#32) < (v9.1 &&& r1.if_)))) } :: .t (decide ((0#32) < (v9.1 &&& r1.if_))) false :: [])) (by kernel_rfl) (oks_cons (alibiref21_Value_l3_ok _ _ _ _ _ _ _ _ _ _ _ h10) (oks_cons (eff_int (un_and .u32 rfl v9.1 r1.keep)) (oks_cons (eff_int (un_or .u32 rfl (v9.1 &&& r1.keep) v9.2)) (oks_cons (eff_bool (un_eql r1.if_ (0#32))) (oks_cons c11 (oks_cons (eff_int (un_and .u32 rfl v9.1 r1.if_)) (oks_cons (eff_bool (un_gtr (v9.1 &&& r1.if_) (0#32))) (oks_cons c12 oks_nil))))))))
def alibiref21_Value_F (F : Nat) (r1 : flow_Rule) (v : List (BitVec 32)) : Option ((BitVec 32)) :=
  bind (alibiref21_Value_l3_F F F r1.to_ r1.from_ r1.also r1.keep r1.if_ r1.then_ v (0#32) (0#32) 0) fun v9 =>
  if (r1.if_ == (0#32)) = true then
    some (((v9.1 &&& r1.keep) ||| v9.2) ||| r1.then_)
  else
    if (decide ((0#32) < (v9.1 &&& r1.if_))) = true then
      some (((v9.1 &&& r1.keep) ||| v9.2) ||| r1.then_)
    else
      some ((v9.1 &&& r1.keep) ||| v9.2)
theorem alibiref21_Value_le (F : Nat) (r1 : flow_Rule) (v : List (BitVec 32)) : Le (alibiref21_Value_F F r1 v) (alibiref21_Value r1 v) := (Le.bind (alibiref21_Value_l3_le F F _ _ _ _ _ _ _ _ _ _) fun v9 => (Le.ite (Le.refl _) (Le.ite (Le.refl _) (Le.refl _))))
/-- alibi/alibilaw21.FlowValues -/
def alibilaw21_FlowValues (r1 : flow_Rule) (v : List (BitVec 32)) : Option (Bool) :=
  bind (alibilaw21_awake) fun v1 =>
  if (!v1) = true then
    bind (alibilaw21_awake) fun v4 =>
    some v4
  else
    if (decide (((((List.length v : Nat) : Int)) : Int) > 60)) = true then
      bind (alibilaw21_awake) fun v7 =>
      some v7
    else
      bind (flow_Rule_Value r1 v) fun v9 =>
      bind (alibilaw21_of ([r1])) fun v11 =>
      if (decide ((0 : Int) < (((List.length v11) : Nat) : Int))) = true then
        bind (alibiref21_Value (List.getD v11 0 d_flow_Rule) v) fun v14 =>
        some (v9 == v14)
      else none
theorem alibilaw21_FlowValues_ok (r1 : flow_Rule) (v : List (BitVec 32)) (r : Bool) (h : alibilaw21_FlowValues r1 v = some r) : Does Try.prog 4 [.agg [.pv (.int .i64 r1.to_), .pv (.int .i64 r1.from_), .pv (.int .i64 r1.also), .pv (.int .u32 (BitVec.toNat r1.keep : Nat)), .pv (.int .u32 (BitVec.toNat r1.if_ : Nat)), .pv (.int .u32 (BitVec.toNat r1.then_ : Nat))], .pv (.seq (List.length v) (encP e_u32 0#32 v))] [] (.pv (.bool r), []) := by
  unfold alibilaw21_FlowValues at h
  obtain ⟨v1, h2, h⟩ := bind_of h
  by_cases c3 : (!v1) = true
  · rw [if_pos c3] at h
    obtain ⟨v4, h5, h⟩ := bind_of h
    have h := Option.some.inj h
    subst h
    exact does mixed (L := lives) (script := (.keep :: .c (.pv (.bool v1)) [] :: .keep :: .keep :: .b true :: .keep :: .keep :: .keep :: .keep :: .c (.pv (.bool v4)) [] :: .keep :: [])) (l := (.c 30 [] [] (.pv (.bool v1)) [] :: .t (!v1) true :: .c 30 [] [] (.pv (.bool v4)) [] :: [])) (by kernel_rfl) (oks_cons (alibilaw21_awake_ok _ h2) (oks_cons c3 (oks_cons (alibilaw21_awake_ok _ h5) oks_nil)))
  · rw [if_neg c3] at h
    have c3 := not_true c3
    by_cases c6 : (decide (((((List.length v : Nat) : Int)) : Int) > 60)) = true
    · rw [if_pos c6] at h
      obtain ⟨v7, h8, h⟩ := bind_of h
      have h := Option.some.inj h
      subst h
      exact does mixed (L := lives) (script := (.keep :: .c (.pv (.bool v1)) [] :: .keep :: .keep :: .b false :: .keep :: .keep :: .keep :: .keep :: .keep :: .b true :: .c (.pv (.bool v7)) [] :: .keep :: [])) (l := (.c 30 [] [] (.pv (.bool v1)) [] :: .t (!v1) false :: .t (decide (((((List.length v : Nat) : Int)) : Int) > 60)) true :: .c 30 [] [] (.pv (.bool v7)) [] :: [])) (by kernel_rfl) (oks_cons (alibilaw21_awake_ok _ h2) (oks_cons c3 (oks_cons c6 (oks_cons (alibilaw21_awake_ok _ h8) oks_nil))))
    · rw [if_neg c6] at h
      have c6 := not_true c6
      obtain ⟨v9, h10, h⟩ := bind_of h
      obtain ⟨v11, h12, h⟩ := bind_of h
      by_cases c13 : (decide ((0 : Int) < (((List.length v11) : Nat) : Int))) = true
      case neg => rw [if_neg c13] at h; cases h
      rw [if_pos c13] at h
      obtain ⟨v14, h15, h⟩ := bind_of h
      have h := Option.some.inj h
      subst h
      exact does mixed (L := lives) (script := (.keep :: .c (.pv (.bool v1)) [] :: .keep :: .keep :: .b false :: .keep :: .keep :: .keep :: .keep :: .keep :: .b false :: .keep :: .c (.pv (.int .u32 (BitVec.toNat v9 : Nat))) [] :: .keep :: .keep :: .e { val := .ms 5 [] 0 (List.length ([r1])), hb := [(5, .arr 0 6 (List.length ([r1])) (encW o_flow_Rule d_flow_Rule ([r1])))], sc := [] } :: .b true :: .c (.ms 0 [] 0 (List.length v11)) [.arr 0 6 (List.length v11) (encW o_flow_Rule d_flow_Rule v11)] :: .keep :: .keep :: .c (.pv (.int .u32 (BitVec.toNat v14 : Nat))) [] :: .keep :: .e { val := .pv (.bool (v9 == v14)) } :: [])) (l := (.c 30 [] [] (.pv (.bool v1)) [] :: .t (!v1) false :: .t (decide (((((List.length v : Nat) : Int)) : Int) > 60)) false :: .c 31 [.agg [.pv (.int .i64 r1.to_), .pv (.int .i64 r1.from_), .pv (.int .i64 r1.also), .pv (.int .u32 (BitVec.toNat r1.keep : Nat)), .pv (.int .u32 (BitVec.toNat r1.if_ : Nat)), .pv (.int .u32 (BitVec.toNat r1.then_ : Nat))], .pv (.seq (List.length v) (encP e_u32 0#32 v))] [] (.pv (.int .u32 (BitVec.toNat v9 : Nat))) [] :: .e { val := .ms 5 [] 0 1, hb := [(5, .arr 0 6 1 (litF (o_flow_Rule d_flow_Rule) (List.map o_flow_Rule [r1])))], sc := [] } { val := .ms 5 [] 0 (List.length ([r1])), hb := [(5, .arr 0 6 (List.length ([r1])) (encW o_flow_Rule d_flow_Rule ([r1])))], sc := [] } :: .t (decide (List.length ([r1]) = List.length ([r1])) && decide (0 = 0)) true :: .c 33 [.pv (.seq (List.length ([r1])) (encP e_flow_Rule d_flow_Rule ([r1])))] [] (.ms 0 [] 0 (List.length v11)) [.arr 0 6 (List.length v11) (encW o_flow_Rule d_flow_Rule v11)] :: .t (decide ((0 : Int) ≤ 0)) true :: .t (decide ((0 : Int) < (((List.length v11) : Nat) : Int))) true :: .c 32 [.agg [.pv (.int .i64 ((List.getD v11 0 d_flow_Rule).to_)), .pv (.int .i64 ((List.getD v11 0 d_flow_Rule).from_)), .pv (.int .i64 ((List.getD v11 0 d_flow_Rule).also)), .pv (.int .u32 (BitVec.toNat ((List.getD v11 0 d_flow_Rule).keep) : Nat)), .pv (.int .u32 (BitVec.toNat ((List.getD v11 0 d_flow_Rule).if_) : Nat)), .pv (.int .u32 (BitVec.toNat ((List.getD v11 0 d_flow_Rule).then_) : Nat))], .pv (.seq (List.length v) (encP e_u32 0#32 v))] [] (.pv (.int .u32 (BitVec.toNat v14 : Nat))) [] :: .e { val := .pv (.bool (((BitVec.toNat v9 : Nat) : Int) == (BitVec.toNat v14 : Nat))) } { val := .pv (.bool (v9 == v14)) } :: [])) (by kernel_rfl) (oks_cons (alibilaw21_awake_ok _ h2) (oks_cons c3 (oks_cons c6 (oks_cons (flow_Rule_Value_ok _ _ _ h10) (oks_cons (eff_lit o_flow_Rule d_flow_Rule 5 6 1 ([r1]) rfl _ _) (oks_cons (whole_ok (List.length ([r1]))) (oks_cons (alibilaw21_of_ok _ _ h12) (oks_cons rfl (oks_cons c13 (oks_cons (alibiref21_Value_ok _ _ _ h15) (oks_cons (eff_bool (un_eql v9 v14)) oks_nil)))))))))))
def alibilaw21_FlowValues_F (F : Nat) (r1 : flow_Rule) (v : List (BitVec 32)) : Option (Bool) :=
  bind (alibilaw21_awake_F F) fun v1 =>
  if (!v1) = true then
    bind (alibilaw21_awake_F F) fun v4 =>
    some v4
  else
    if (decide (((((List.length v : Nat) : Int)) : Int) > 60)) = true then
      bind (alibilaw21_awake_F F) fun v7 =>
      some v7
    else
      bind (flow_Rule_Value_F F r1 v) fun v9 =>
      bind (alibilaw21_of_F F ([r1])) fun v11 =>
      if (decide ((0 : Int) < (((List.length v11) : Nat) : Int))) = true then
        bind (alibiref21_Value_F F (List.getD v11 0 d_flow_Rule) v) fun v14 =>
        some (v9 == v14)
      else none
theorem alibilaw21_FlowValues_le (F : Nat) (r1 : flow_Rule) (v : List (BitVec 32)) : Le (alibilaw21_FlowValues_F F r1 v) (alibilaw21_FlowValues r1 v) := (Le.bind (alibilaw21_awake_le F) fun v1 => (Le.ite (Le.bind (alibilaw21_awake_le F) fun v4 => (Le.refl _)) (Le.ite (Le.bind (alibilaw21_awake_le F) fun v7 => (Le.refl _)) (Le.bind (flow_Rule_Value_le F _ _) fun v9 => (Le.bind (alibilaw21_of_le F _) fun v11 => (Le.ite (Le.bind (alibiref21_Value_le F _ _) fun v14 => (Le.refl _)) (Le.none _)))))))
end Go.Bm.GoYtldkmmnffjdliaa
