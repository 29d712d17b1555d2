/- Printed by gen2.py. -/
import Derived.Test.YtldkmmnffjdliaaBmNum
import Derived.Test.YtldkmmnffjdliaaProg
namespace Go.Bm.GoYtldkmmnffjdliaa
open Go.Proofs
set_option autoImplicit false
set_option linter.unusedVariables false
set_option linter.unusedSimpArgs false
set_option maxRecDepth 100000
set_option synthInstance.maxHeartbeats 400000
set_option synthInstance.maxSize 2048
theorem mixed : Try.prog.follows .mixedOrders = true := by kernel_rfl
def lives : Lives := livesOf [(19, [(0, [(6, [1, 5, 6, 7]), (10, [1, 5, 6, 7, 8, 9])]), (1, [(6, [1, 5, 6]), (10, [1, 5, 6, 7, 8])]), (2, [(6, [6])])]), (20, [(0, [(9, [1, 2, 3, 11, 12]), (13, [1, 2, 3, 11, 12, 13, 14])]), (1, [(9, [3, 11]), (13, [1, 2, 3, 11, 12, 13])]), (2, [(9, [11])])]), (39, [(0, [(4, [1, 3])]), (1, [(4, [2])])]), (40, [(0, [(8, [7, 8, 9, 30, 31, 32]), (15, [7, 8, 9, 12]), (19, [7, 8, 9, 12, 13, 62, 63, 64])]), (1, [(8, [7, 8, 9]), (15, [12]), (19, [7, 8, 9, 12])]), (2, [(15, [12])]), (7, [(0, [0])])]), (41, [(0, [(7, [1, 5, 6]), (14, [1, 5, 6, 7]), (20, [1, 5, 8, 9]), (23, [1, 5, 8, 9, 10])]), (1, [(7, [1, 2, 3, 4, 5]), (14, [1, 2, 3, 4, 5, 6]), (20, [2, 3, 4]), (23, [1, 2, 3, 4, 5, 8, 9])])]), (45, [(7, [(0, [0])])]), (50, [(0, [(6, [6, 17, 18, 19])]), (1, [(6, [6])])]), (51, [(0, [(4, [2, 3, 4, 9, 10, 11]), (8, [2, 3, 4, 9, 10, 11, 12, 13]), (11, [2, 3, 4, 9, 10, 11, 12, 13, 14])]), (1, [(4, [10]), (8, [2, 3, 4, 9, 10, 11, 12]), (11, [2, 3, 4, 9, 10, 11, 12, 13])]), (2, [(4, [10])])]), (52, [(0, [(5, [1, 5, 6])]), (1, [(5, [5])])]), (54, [(0, [(4, [0, 3])]), (1, [(4, [2])])]), (56, [(0, [(4, [2, 13, 14, 15])]), (1, [(4, [4])])]), (57, [(0, [(4, [1, 2, 5])]), (1, [(4, [4])])]), (59, [(0, [(8, [2, 4, 8, 31, 32, 33]), (13, [2, 4, 8, 9, 31, 32, 33, 53, 54])]), (1, [(8, [4, 5]), (13, [2, 4, 5, 8, 31, 32, 33])])]), (61, [(0, [(4, [1, 2, 4, 5]), (9, [1, 2, 4, 5, 6])]), (1, [(4, [4]), (9, [1, 2, 4, 5])])]), (76, [(0, [(6, [1, 51, 52, 53]), (13, [1, 5, 6, 51, 52, 53, 68, 69, 70])]), (1, [(6, [1, 2, 3, 4]), (13, [1, 2, 3, 4, 51, 52, 53])])]), (77, [(0, [(3, [3, 7, 8, 9])]), (1, [(3, [3])]), (2, [(3, [3])])]), (81, [(4, [(2, [2])])]), (82, [(0, [(6, [2, 3, 7, 8, 9])]), (1, [(6, [6])])]), (83, [(0, [(4, [1, 3, 4, 5]), (8, [1, 3, 4, 5, 6, 7]), (14, [3, 4, 8]), (17, [3, 4, 8, 9]), (20, [3, 4, 8, 9, 10])]), (1, [(4, [3, 4]), (8, [1, 3, 4, 5, 6]), (14, [4]), (17, [3, 4, 8]), (20, [3, 4, 8, 9])]), (2, [(4, [4])])]), (85, [(0, [(3, [0, 1, 5, 6]), (7, [0, 1, 5, 6, 7, 8])]), (1, [(3, [5]), (7, [0, 1, 5, 6, 7])]), (2, [(3, [5])])]), (87, [(7, [(0, [0])])]), (88, [(0, [(6, [1, 2, 8, 25, 26, 27]), (9, [1, 2, 8, 10, 25, 26, 27, 35, 36, 37])]), (1, [(6, [8]), (9, [1, 2, 8, 25, 26, 27])]), (7, [(0, [0])])]), (92, [(0, [(4, [1, 2, 5, 6, 7]), (9, [2, 5, 6, 8]), (12, [2, 5, 6, 8, 9]), (16, [2, 5, 6, 8, 9, 10, 11]), (22, [5, 6, 12, 13])]), (1, [(4, [2, 5, 6]), (9, [5, 6]), (12, [2, 5, 6, 8]), (16, [2, 5, 6, 8, 9]), (22, [12])]), (2, [(22, [12])])]), (96, [(0, [(2, [0, 1, 5])]), (1, [(2, [4])])]), (99, [(0, [(15, [1, 3, 7, 8, 9, 77, 78, 79])]), (1, [(15, [6])])]), (100, [(0, [(17, [1, 2, 4, 9, 10, 11, 12, 13, 14]), (20, [1, 2, 4, 9, 10, 11, 12, 13, 14, 15])]), (1, [(17, [8]), (20, [1, 2, 4, 8, 9, 10, 11, 12, 13, 14])])]), (115, [(0, [(2, [1, 10, 11, 12]), (5, [1, 5, 10, 11, 12, 17, 18, 19])]), (1, [(2, [2, 3, 4]), (5, [1, 2, 3, 4, 10, 11, 12])]), (4, [(7, [12])])]), (116, [(0, [(3, [1, 5, 8, 9, 10])]), (1, [(3, [5])])]), (118, [(0, [(0, [0, 1])]), (1, [(0, [])]), (4, [(2, [3])])]), (119, [(0, [(2, [0, 1, 2, 7])]), (1, [(2, [1, 7])]), (4, [(9, [3])])]), (129, [(0, [(7, [2, 3, 4, 25, 26, 27])]), (1, [(7, [8])]), (4, [(9, [9])])]), (149, [(10, [(0, [1])])])]
structure api_Node where
  kind : Int
  arg : Int
  next : Int
  alt : Int

structure api_Program where
  globals : Int
  locks : Int
  slots : Int
  funcs : List (List api_Node)

noncomputable def ty3 : Ty Try.prog 3 Int := Ty.int 3 .i64 (by kernel_rfl) (by kernel_rfl)
noncomputable def ty23 : Ty Try.prog 23 api_Node := Ty.struct 23 #[{ name := "Kind", type := 3, offset := 0, embedded := false, tag := "", pkgPath := "", byteOffset := 0 }, { name := "Arg", type := 3, offset := 1, embedded := false, tag := "", pkgPath := "", byteOffset := 8 }, { name := "Next", type := 3, offset := 2, embedded := false, tag := "", pkgPath := "", byteOffset := 16 }, { name := "Alt", type := 3, offset := 3, embedded := false, tag := "", pkgPath := "", byteOffset := 24 }] (TyF.cons 0 { name := "Kind", type := 3, offset := 0, embedded := false, tag := "", pkgPath := "", byteOffset := 0 } [{ name := "Arg", type := 3, offset := 1, embedded := false, tag := "", pkgPath := "", byteOffset := 8 }, { name := "Next", type := 3, offset := 2, embedded := false, tag := "", pkgPath := "", byteOffset := 16 }, { name := "Alt", type := 3, offset := 3, embedded := false, tag := "", pkgPath := "", byteOffset := 24 }] rfl ty3 (TyF.cons 1 { name := "Arg", type := 3, offset := 1, embedded := false, tag := "", pkgPath := "", byteOffset := 8 } [{ name := "Next", type := 3, offset := 2, embedded := false, tag := "", pkgPath := "", byteOffset := 16 }, { name := "Alt", type := 3, offset := 3, embedded := false, tag := "", pkgPath := "", byteOffset := 24 }] rfl ty3 (TyF.cons 2 { name := "Next", type := 3, offset := 2, embedded := false, tag := "", pkgPath := "", byteOffset := 16 } [{ name := "Alt", type := 3, offset := 3, embedded := false, tag := "", pkgPath := "", byteOffset := 24 }] rfl ty3 (TyF.cons 3 { name := "Alt", type := 3, offset := 3, embedded := false, tag := "", pkgPath := "", byteOffset := 24 } [] rfl ty3 (TyF.nil 4))))) (by kernel_rfl) (by kernel_rfl) (fun x => (x.kind, x.arg, x.next, x.alt, ())) (fun x => ⟨x.1, x.2.1, x.2.2.1, x.2.2.2.1⟩) (fun x => rfl)
noncomputable def ty61 : Ty Try.prog 61 (List api_Node) := Ty.slice 61 ty23 (by kernel_rfl) (by kernel_rfl) (Nat.le_of_ble_eq_true (by kernel_rfl))
noncomputable def ty51 : Ty Try.prog 51 (List (List api_Node)) := Ty.slice 51 ty61 (by kernel_rfl) (by kernel_rfl) (Nat.le_of_ble_eq_true (by kernel_rfl))
noncomputable def ty53 : Ty Try.prog 53 api_Program := Ty.struct 53 #[{ name := "Globals", type := 3, offset := 0, embedded := false, tag := "", pkgPath := "", byteOffset := 0 }, { name := "Locks", type := 3, offset := 1, embedded := false, tag := "", pkgPath := "", byteOffset := 8 }, { name := "Slots", type := 3, offset := 2, embedded := false, tag := "", pkgPath := "", byteOffset := 16 }, { name := "Funcs", type := 51, offset := 3, embedded := false, tag := "", pkgPath := "", byteOffset := 24 }] (TyF.cons 0 { name := "Globals", type := 3, offset := 0, embedded := false, tag := "", pkgPath := "", byteOffset := 0 } [{ name := "Locks", type := 3, offset := 1, embedded := false, tag := "", pkgPath := "", byteOffset := 8 }, { name := "Slots", type := 3, offset := 2, embedded := false, tag := "", pkgPath := "", byteOffset := 16 }, { name := "Funcs", type := 51, offset := 3, embedded := false, tag := "", pkgPath := "", byteOffset := 24 }] rfl ty3 (TyF.cons 1 { name := "Locks", type := 3, offset := 1, embedded := false, tag := "", pkgPath := "", byteOffset := 8 } [{ name := "Slots", type := 3, offset := 2, embedded := false, tag := "", pkgPath := "", byteOffset := 16 }, { name := "Funcs", type := 51, offset := 3, embedded := false, tag := "", pkgPath := "", byteOffset := 24 }] rfl ty3 (TyF.cons 2 { name := "Slots", type := 3, offset := 2, embedded := false, tag := "", pkgPath := "", byteOffset := 16 } [{ name := "Funcs", type := 51, offset := 3, embedded := false, tag := "", pkgPath := "", byteOffset := 24 }] rfl ty3 (TyF.cons 3 { name := "Funcs", type := 51, offset := 3, embedded := false, tag := "", pkgPath := "", byteOffset := 24 } [] rfl ty51 (TyF.nil 4))))) (by kernel_rfl) (by kernel_rfl) (fun x => (x.globals, x.locks, x.slots, x.funcs, ())) (fun x => ⟨x.1, x.2.1, x.2.2.1, x.2.2.2.1⟩) (fun x => rfl)
structure api_Section where
  entry : BitVec 32
  exit : BitVec 32
  held : List (BitVec 32)
  liveEntry : BitVec 32
  liveExit : BitVec 32
  live : List (BitVec 32)

noncomputable def ty24 : Ty Try.prog 24 (BitVec 32) := Ty.un 24 .u32 rfl (by kernel_rfl) (by kernel_rfl)
noncomputable def ty28 : Ty Try.prog 28 (List (BitVec 32)) := Ty.slice 28 ty24 (by kernel_rfl) (by kernel_rfl) (Nat.le_of_ble_eq_true (by kernel_rfl))
noncomputable def ty30 : Ty Try.prog 30 api_Section := Ty.struct 30 #[{ name := "Entry", type := 24, offset := 0, embedded := false, tag := "", pkgPath := "", byteOffset := 0 }, { name := "Exit", type := 24, offset := 1, embedded := false, tag := "", pkgPath := "", byteOffset := 4 }, { name := "Held", type := 28, offset := 2, embedded := false, tag := "", pkgPath := "", byteOffset := 8 }, { name := "LiveEntry", type := 24, offset := 3, embedded := false, tag := "", pkgPath := "", byteOffset := 32 }, { name := "LiveExit", type := 24, offset := 4, embedded := false, tag := "", pkgPath := "", byteOffset := 36 }, { name := "Live", type := 28, offset := 5, embedded := false, tag := "", pkgPath := "", byteOffset := 40 }] (TyF.cons 0 { name := "Entry", type := 24, offset := 0, embedded := false, tag := "", pkgPath := "", byteOffset := 0 } [{ name := "Exit", type := 24, offset := 1, embedded := false, tag := "", pkgPath := "", byteOffset := 4 }, { name := "Held", type := 28, offset := 2, embedded := false, tag := "", pkgPath := "", byteOffset := 8 }, { name := "LiveEntry", type := 24, offset := 3, embedded := false, tag := "", pkgPath := "", byteOffset := 32 }, { name := "LiveExit", type := 24, offset := 4, embedded := false, tag := "", pkgPath := "", byteOffset := 36 }, { name := "Live", type := 28, offset := 5, embedded := false, tag := "", pkgPath := "", byteOffset := 40 }] rfl ty24 (TyF.cons 1 { name := "Exit", type := 24, offset := 1, embedded := false, tag := "", pkgPath := "", byteOffset := 4 } [{ name := "Held", type := 28, offset := 2, embedded := false, tag := "", pkgPath := "", byteOffset := 8 }, { name := "LiveEntry", type := 24, offset := 3, embedded := false, tag := "", pkgPath := "", byteOffset := 32 }, { name := "LiveExit", type := 24, offset := 4, embedded := false, tag := "", pkgPath := "", byteOffset := 36 }, { name := "Live", type := 28, offset := 5, embedded := false, tag := "", pkgPath := "", byteOffset := 40 }] rfl ty24 (TyF.cons 2 { name := "Held", type := 28, offset := 2, embedded := false, tag := "", pkgPath := "", byteOffset := 8 } [{ name := "LiveEntry", type := 24, offset := 3, embedded := false, tag := "", pkgPath := "", byteOffset := 32 }, { name := "LiveExit", type := 24, offset := 4, embedded := false, tag := "", pkgPath := "", byteOffset := 36 }, { name := "Live", type := 28, offset := 5, embedded := false, tag := "", pkgPath := "", byteOffset := 40 }] rfl ty28 (TyF.cons 3 { name := "LiveEntry", type := 24, offset := 3, embedded := false, tag := "", pkgPath := "", byteOffset := 32 } [{ name := "LiveExit", type := 24, offset := 4, embedded := false, tag := "", pkgPath := "", byteOffset := 36 }, { name := "Live", type := 28, offset := 5, embedded := false, tag := "", pkgPath := "", byteOffset := 40 }] rfl ty24 (TyF.cons 4 { name := "LiveExit", type := 24, offset := 4, embedded := false, tag := "", pkgPath := "", byteOffset := 36 } [{ name := "Live", type := 28, offset := 5, embedded := false, tag := "", pkgPath := "", byteOffset := 40 }] rfl ty24 (TyF.cons 5 { name := "Live", type := 28, offset := 5, embedded := false, tag := "", pkgPath := "", byteOffset := 40 } [] rfl ty28 (TyF.nil 6))))))) (by kernel_rfl) (by kernel_rfl) (fun x => (x.entry, x.exit, x.held, x.liveEntry, x.liveExit, x.live, ())) (fun x => ⟨x.1, x.2.1, x.2.2.1, x.2.2.2.1, x.2.2.2.2.1, x.2.2.2.2.2.1⟩) (fun x => rfl)
noncomputable def ty79 : Ty Try.prog 79 (List api_Section) := Ty.slice 79 ty30 (by kernel_rfl) (by kernel_rfl) (Nat.le_of_ble_eq_true (by kernel_rfl))
/-- alibi/sets.One -/
def sets_One (id : Int) : Option ((BitVec 32)) :=
  if (decide ((id : Int) < 0)) = true then
    some (0#32)
  else
    if (decide ((id : Int) ≥ 32)) = true then
      some (0#32)
    else
      if (decide ((0 : Int) ≤ id)) = true then
        some ((1#32) <<< (Int.toNat id))
      else none
theorem sets_One_ok (id : Int) (r : (BitVec 32)) (h : sets_One id = some r) : Does Try.prog 68 [.pv (.int .i64 id)] [] (.pv (.int .u32 (BitVec.toNat r : Nat)), []) := by
 unfold sets_One at h
 rcases if_of h with ⟨c1, h⟩ | ⟨c1, h⟩
 · have h := Option.some.inj h; subst h
   exact pdoes mixed (L := lives) (by kernel_rfl) (pk <| pb c1 <| pk3 <| pz)
 · rcases if_of h with ⟨c2, h⟩ | ⟨c2, h⟩
   · have h := Option.some.inj h; subst h
     exact pdoes mixed (L := lives) (by kernel_rfl) (pk <| pb c1 <| pk3 <| pb c2 <| pz)
   · obtain ⟨c3, h⟩ := need_of h
     have h := Option.some.inj h; subst h
     exact pdoes mixed (L := lives) (by kernel_rfl) (pk <| pb c1 <| pk3 <| pb c2 <| pn c3 <| pe (eff_int (k := .u32) (un_shl .u32 rfl (1#32) (Int.toNat id))) <| pz)
def sets_One_F (F : Nat) (id : Int) : Option ((BitVec 32)) :=
  if (decide ((id : Int) < 0)) = true then
    some (0#32)
  else
    if (decide ((id : Int) ≥ 32)) = true then
      some (0#32)
    else
      if (decide ((0 : Int) ≤ id)) = true then
        some ((1#32) <<< (Int.toNat id))
      else none
theorem sets_One_le (F : Nat) (id : Int) : Le (sets_One_F F id) (sets_One id) := (Le.ite (Le.refl _) (Le.ite (Le.refl _) (Le.ite (Le.refl _) (Le.none _))))
/-- alibi/sets.Has -/
def sets_Has (m : BitVec 32) (id : Int) : Option (Bool) :=
  if (decide ((id : Int) ≥ 0)) = true then
    if (decide ((id : Int) < 32)) = true then
      if (decide ((0 : Int) ≤ id)) = true then
        some (((m >>> (Int.toNat id)) &&& (1#32)) == (1#32))
      else none
    else
      some false
  else
    some false
theorem sets_Has_ok (m : BitVec 32) (id : Int) (r : Bool) (h : sets_Has m id = some r) : Does Try.prog 69 [.pv (.int .u32 (BitVec.toNat m : Nat)), .pv (.int .i64 id)] [] (.pv (.bool r), []) := by
 unfold sets_Has at h
 rcases if_of h with ⟨c1, h⟩ | ⟨c1, h⟩
 · rcases if_of h with ⟨c2, h⟩ | ⟨c2, h⟩
   · obtain ⟨c3, h⟩ := need_of h
     have h := Option.some.inj h; subst h
     exact pdoes mixed (L := lives) (by kernel_rfl) (pk <| pb c1 <| pk3 <| pb c2 <| pk2 <| pn c3 <| pe (eff_int (k := .u32) (un_shr .u32 m (Int.toNat id))) <| pk <| pe (eff_int (k := .u32) (un_and .u32 rfl (m >>> (Int.toNat id)) (1#32))) <| pk <| pe (eff_bool (un_eql ((m >>> (Int.toNat id)) &&& (1#32)) (1#32))) <| pk <| pz)
   · have h := Option.some.inj h; subst h
     exact pdoes mixed (L := lives) (by kernel_rfl) (pk <| pb c1 <| pk3 <| pb c2 <| pk5 <| pz)
 · have h := Option.some.inj h; subst h
   exact pdoes mixed (L := lives) (by kernel_rfl) (pk <| pb c1 <| pk8 <| pz)
def sets_Has_F (F : Nat) (m : BitVec 32) (id : Int) : Option (Bool) :=
  if (decide ((id : Int) ≥ 0)) = true then
    if (decide ((id : Int) < 32)) = true then
      if (decide ((0 : Int) ≤ id)) = true then
        some (((m >>> (Int.toNat id)) &&& (1#32)) == (1#32))
      else none
    else
      some false
  else
    some false
theorem sets_Has_le (F : Nat) (m : BitVec 32) (id : Int) : Le (sets_Has_F F m id) (sets_Has m id) := (Le.ite (Le.ite (Le.ite (Le.refl _) (Le.none _)) (Le.refl _)) (Le.refl _))
/-- alibi/may.Behind -/
def may_Behind (n1 : api_Node) (live : BitVec 32) (exit : BitVec 32) (lost : Int) (begins : Bool) : Option ((BitVec 32)) :=
  if ((n1.kind : Int) == 5) = true then
    bind (sets_One n1.alt) fun v2 =>
    if begins = true then
      bind (sets_One lost) fun v5 =>
      some ((live ||| v2) ||| v5)
    else
      bind (sets_Has live n1.alt) fun v7 =>
      if v7 = true then
        bind (sets_One lost) fun v10 =>
        some ((live ||| v2) ||| v10)
      else
        some (live ||| v2)
  else
    if ((n1.kind : Int) == 6) = true then
      bind (sets_One n1.arg) fun v13 =>
      some (live &&& ~~~v13)
    else
      if ((n1.kind : Int) == 7) = true then
        some exit
      else
        some live
theorem may_Behind_ok (n1 : api_Node) (live : BitVec 32) (exit : BitVec 32) (lost : Int) (begins : Bool) (r : (BitVec 32)) (h : may_Behind n1 live exit lost begins = some r) : Does Try.prog 27 [.agg [.pv (.int .i64 n1.kind), .pv (.int .i64 n1.arg), .pv (.int .i64 n1.next), .pv (.int .i64 n1.alt)], .pv (.int .u32 (BitVec.toNat live : Nat)), .pv (.int .u32 (BitVec.toNat exit : Nat)), .pv (.int .i64 lost), .pv (.bool begins)] [] (.pv (.int .u32 (BitVec.toNat r : Nat)), []) := by
 unfold may_Behind at h
 rcases if_of h with ⟨c1, h⟩ | ⟨c1, h⟩
 · obtain ⟨v2, h3, h⟩ := bind_of h
   rcases if_of h with ⟨c4, h⟩ | ⟨c4, h⟩
   · obtain ⟨v5, h6, h⟩ := bind_of h
     have h := Option.some.inj h; subst h
     exact pdoes mixed (L := lives) (by kernel_rfl) (pk3 <| pb c1 <| pk <| pc (sets_One_ok _ _ h3) <| pk <| pe (eff_int (k := .u32) (un_or .u32 rfl live v2)) <| pb c4 <| pk5 <| pc (sets_One_ok _ _ h6) <| pk <| pe (eff_int (k := .u32) (un_or .u32 rfl (live ||| v2) v5)) <| pz)
   · obtain ⟨v7, h8, h⟩ := bind_of h
     rcases if_of h with ⟨c9, h⟩ | ⟨c9, h⟩
     · obtain ⟨v10, h11, h⟩ := bind_of h
       have h := Option.some.inj h; subst h
       exact pdoes mixed (L := lives) (by kernel_rfl) (pk3 <| pb c1 <| pk <| pc (sets_One_ok _ _ h3) <| pk <| pe (eff_int (k := .u32) (un_or .u32 rfl live v2)) <| pb c4 <| pk4 <| pc (sets_Has_ok _ _ _ h8) <| pk2 <| pb c9 <| pc (sets_One_ok _ _ h11) <| pk <| pe (eff_int (k := .u32) (un_or .u32 rfl (live ||| v2) v10)) <| pz)
     · have h := Option.some.inj h; subst h
       exact pdoes mixed (L := lives) (by kernel_rfl) (pk3 <| pb c1 <| pk <| pc (sets_One_ok _ _ h3) <| pk <| pe (eff_int (k := .u32) (un_or .u32 rfl live v2)) <| pb c4 <| pk4 <| pc (sets_Has_ok _ _ _ h8) <| pk2 <| pb c9 <| pz)
 · rcases if_of h with ⟨c12, h⟩ | ⟨c12, h⟩
   · obtain ⟨v13, h14, h⟩ := bind_of h
     have h := Option.some.inj h; subst h
     exact pdoes mixed (L := lives) (by kernel_rfl) (pk3 <| pb c1 <| pk <| pb c12 <| pk <| pc (sets_One_ok _ _ h14) <| pk <| pe (eff_int (k := .u32) (un_andNot .u32 rfl live v13)) <| pz)
   · rcases if_of h with ⟨c15, h⟩ | ⟨c15, h⟩
     · have h := Option.some.inj h; subst h
       exact pdoes mixed (L := lives) (by kernel_rfl) (pk3 <| pb c1 <| pk <| pb c12 <| pk <| pb c15 <| pz)
     · have h := Option.some.inj h; subst h
       exact pdoes mixed (L := lives) (by kernel_rfl) (pk3 <| pb c1 <| pk <| pb c12 <| pk <| pb c15 <| pz)
def may_Behind_F (F : Nat) (n1 : api_Node) (live : BitVec 32) (exit : BitVec 32) (lost : Int) (begins : Bool) : Option ((BitVec 32)) :=
  if ((n1.kind : Int) == 5) = true then
    bind (sets_One_F F n1.alt) fun v2 =>
    if begins = true then
      bind (sets_One_F F lost) fun v5 =>
      some ((live ||| v2) ||| v5)
    else
      bind (sets_Has_F F live n1.alt) fun v7 =>
      if v7 = true then
        bind (sets_One_F F lost) fun v10 =>
        some ((live ||| v2) ||| v10)
      else
        some (live ||| v2)
  else
    if ((n1.kind : Int) == 6) = true then
      bind (sets_One_F F n1.arg) fun v13 =>
      some (live &&& ~~~v13)
    else
      if ((n1.kind : Int) == 7) = true then
        some exit
      else
        some live
theorem may_Behind_le (F : Nat) (n1 : api_Node) (live : BitVec 32) (exit : BitVec 32) (lost : Int) (begins : Bool) : Le (may_Behind_F F n1 live exit lost begins) (may_Behind n1 live exit lost begins) := (Le.ite (Le.bind (sets_One_le F _) fun v2 => (Le.ite (Le.bind (sets_One_le F _) fun v5 => (Le.refl _)) (Le.bind (sets_Has_le F _ _) fun v7 => (Le.ite (Le.bind (sets_One_le F _) fun v10 => (Le.refl _)) (Le.refl _))))) (Le.ite (Le.bind (sets_One_le F _) fun v13 => (Le.refl _)) (Le.ite (Le.refl _) (Le.refl _))))
def e_api_Node (x : api_Node) : List PV := [.int .i64 x.kind, .int .i64 x.arg, .int .i64 x.next, .int .i64 x.alt]
def d_api_Node : api_Node := ⟨0, 0, 0, 0⟩
def e_61 (x : List api_Node) : List PV := [.seq (List.length x) (encP e_api_Node d_api_Node x)]
/-- alibi/may.Lost -/
def may_Lost (p : api_Program) : Option (Int) :=
  some p.slots
theorem may_Lost_ok (p : api_Program) (r : Int) (h : may_Lost p = some r) : Does Try.prog 60 [.agg [.pv (.int .i64 p.globals), .pv (.int .i64 p.locks), .pv (.int .i64 p.slots), .pv (.seq (List.length p.funcs) (encP e_61 ([] : List api_Node) p.funcs))]] [] (.pv (.int .i64 r), []) := by
 unfold may_Lost at h
 have h := Option.some.inj h; subst h
 exact pdoes mixed (L := lives) (by kernel_rfl) (pk2 <| pz)
def may_Lost_F (F : Nat) (p : api_Program) : Option (Int) :=
  some p.slots
theorem may_Lost_le (F : Nat) (p : api_Program) : Le (may_Lost_F F p) (may_Lost p) := (Le.refl _)
/-- alibi/alibilaw16.awake -/
def alibilaw16_awake : Option (Bool) :=
  bind (may_Behind (api_Node.mk 5 0 0 1) (0#32) (0#32) 2 false) fun v1 =>
  if (v1 == (2#32)) = true then
    bind (may_Lost (api_Program.mk 0 0 2 (([] : List (List api_Node))))) fun v4 =>
    some ((v4 : Int) == 2)
  else
    some false
theorem alibilaw16_awake_ok (r : Bool) (h : alibilaw16_awake = some r) : Does Try.prog 25 [] [] (.pv (.bool r), []) := by
 unfold alibilaw16_awake at h
 obtain ⟨v1, h2, h⟩ := bind_of h
 rcases if_of h with ⟨c3, h⟩ | ⟨c3, h⟩
 · obtain ⟨v4, h5, h⟩ := bind_of h
   have h := Option.some.inj h; subst h
   exact pdoes mixed (L := lives) (by kernel_rfl) (pk <| pc (may_Behind_ok _ _ _ _ _ _ h2) <| pk <| pe (eff_bool (un_eql v1 (2#32))) <| pb c3 <| pk2 <| pc (may_Lost_ok _ _ h5) <| pk4 <| pz)
 · have h := Option.some.inj h; subst h
   exact pdoes mixed (L := lives) (by kernel_rfl) (pk <| pc (may_Behind_ok _ _ _ _ _ _ h2) <| pk <| pe (eff_bool (un_eql v1 (2#32))) <| pb c3 <| pk3 <| pz)
def alibilaw16_awake_F (F : Nat) : Option (Bool) :=
  bind (may_Behind_F F (api_Node.mk 5 0 0 1) (0#32) (0#32) 2 false) fun v1 =>
  if (v1 == (2#32)) = true then
    bind (may_Lost_F F (api_Program.mk 0 0 2 (([] : List (List api_Node))))) fun v4 =>
    some ((v4 : Int) == 2)
  else
    some false
theorem alibilaw16_awake_le (F : Nat) : Le (alibilaw16_awake_F F) (alibilaw16_awake) := (Le.bind (may_Behind_le F _ _ _ _ _) fun v1 => (Le.ite (Le.bind (may_Lost_le F _) fun v4 => (Le.refl _)) (Le.refl _)))
noncomputable def alibiref05_Small_l4_c : Code := sub (codeOf Try.prog 39) [1, 1, 0, 1, 0, 0]
inductive alibiref05_Small_l4_R where
  | x0 (v0 : Bool)
  | x1
def alibiref05_Small_l4_R.ex : alibiref05_Small_l4_R → Ex
  | .x0 _ => .ret
  | .x1 => .exit 0
noncomputable def alibiref05_Small_l4_R.st (x0 : Int) (x1 : Int) (x2 : Int) (x3 : List (List api_Node)) (x4 : Int) : alibiref05_Small_l4_R → St
  | .x0 v0 => ⟨dead :: dead :: .pv (.bool v0) :: List.replicate 19 dead, []⟩
  | .x1 => ⟨List.replicate 22 dead, []⟩
def alibiref05_Small_l4 (x0 : Int) (x1 : Int) (x2 : Int) (x3 : List (List api_Node)) (x4 : Int) : Option (alibiref05_Small_l4_R) :=
  if (decide ((x4 : Int) < (((List.length x3 : Nat) : Int)))) = true then
    if (decide ((0 : Int) ≤ x4)) = true then
      if (decide ((x4 : Int) < ((List.length x3 : Nat) : Int))) = true then
        if (decide (((((List.length (List.getD x3 (Int.toNat x4) (([] : List api_Node))) : Nat) : Int)) : Int) > 100)) = true then
          some (.x0 false)
        else
          alibiref05_Small_l4 x0 x1 x2 x3 (iAdd x4 1)
      else none
    else none
  else
    some (.x1)
partial_fixpoint
noncomputable abbrev alibiref05_Small_l4_s (x0 : Int) (x1 : Int) (x2 : Int) (x3 : List (List api_Node)) (x4 : Int) : St := ⟨dead :: .ptr 0 [] 0 0 :: dead :: .pv (.int .i64 x4) :: List.replicate 18 dead, [.box 0 [.pv (.int .i64 x0), .pv (.int .i64 x1), .pv (.int .i64 x2), .pv (.seq (List.length x3) (encP e_61 ([] : List api_Node) x3))]]⟩
theorem alibiref05_Small_l4_ok (x0 : Int) (x1 : Int) (x2 : Int) (x3 : List (List api_Node)) (x4 : Int) (r : alibiref05_Small_l4_R) (h : alibiref05_Small_l4 x0 x1 x2 x3 x4 = some r) : Loops Try.prog alibiref05_Small_l4_c 0 (alibiref05_Small_l4_s x0 x1 x2 x3 x4) r.ex (alibiref05_Small_l4_R.st x0 x1 x2 x3 x4 r) := by
 refine alibiref05_Small_l4.partial_correctness x0 x1 x2 x3 (fun x4 r => Loops Try.prog alibiref05_Small_l4_c 0 (alibiref05_Small_l4_s x0 x1 x2 x3 x4) r.ex (alibiref05_Small_l4_R.st x0 x1 x2 x3 x4 r)) ?_ x4 r h
 clear h r x4
 intro self ih x4 r h
 rcases if_of h with ⟨c2, h⟩ | ⟨c2, h⟩
 · obtain ⟨c3, h⟩ := need_of h
   obtain ⟨c4, h⟩ := need_of h
   rcases if_of h with ⟨c5, h⟩ | ⟨c5, h⟩
   · have h := Option.some.inj h; subst h
     exact plast mixed lives 39 (by kernel_rfl) (pk3 <| pb c2 <| pk <| pn c3 <| pn c4 <| pk3 <| pb c5 <| pz) rfl
   · exact pmore mixed lives 39 (by kernel_rfl) (pk3 <| pb c2 <| pk <| pn c3 <| pn c4 <| pk3 <| pb c5 <| pk <| pz) (ih (iAdd x4 1) _ h)
 · have h := Option.some.inj h; subst h
   exact plast mixed lives 39 (by kernel_rfl) (pk3 <| pb c2 <| pz) rfl
/-- alibi/alibiref05.Small -/
def alibiref05_Small (p : api_Program) : Option (Bool) :=
  if (decide (((((List.length p.funcs : Nat) : Int)) : Int) > 40)) = true then
    some false
  else
    bind (alibiref05_Small_l4 p.globals p.locks p.slots p.funcs 0) fun q => match q with
      | .x0 v6 =>
        some v6
      | .x1 =>
        some true
theorem alibiref05_Small_ok (p : api_Program) (r : Bool) (h : alibiref05_Small p = some r) : Does Try.prog 39 [.agg [.pv (.int .i64 p.globals), .pv (.int .i64 p.locks), .pv (.int .i64 p.slots), .pv (.seq (List.length p.funcs) (encP e_61 ([] : List api_Node) p.funcs))]] [] (.pv (.bool r), []) := by
 unfold alibiref05_Small at h
 rcases if_of h with ⟨c1, h⟩ | ⟨c1, h⟩
 · have h := Option.some.inj h; subst h
   exact pdoes mixed (L := lives) (by kernel_rfl) (pk4 <| pb c1 <| pz)
 · obtain ⟨q, hq, h⟩ := bind_of h
   cases q with
   | x0 v6 =>
    have h7 := hq; clear hq
    try dsimp only at h
    have h := Option.some.inj h; subst h
    exact pdoes mixed (L := lives) (by kernel_rfl) (pk4 <| pb c1 <| pl (alibiref05_Small_l4_ok _ _ _ _ _ _ h7) <| pz)
   | x1 =>
    have h8 := hq; clear hq
    try dsimp only at h
    have h := Option.some.inj h; subst h
    exact pdoes mixed (L := lives) (by kernel_rfl) (pk4 <| pb c1 <| pl (alibiref05_Small_l4_ok _ _ _ _ _ _ h8) <| pz)
def e_u32 (x : BitVec 32) : List PV := [.int .u32 (BitVec.toNat x : Nat)]
def e_api_Section (x : api_Section) : List PV := [.int .u32 (BitVec.toNat x.entry : Nat), .int .u32 (BitVec.toNat x.exit : Nat), .seq (List.length x.held) (encP e_u32 0#32 x.held), .int .u32 (BitVec.toNat x.liveEntry : Nat), .int .u32 (BitVec.toNat x.liveExit : Nat), .seq (List.length x.live) (encP e_u32 0#32 x.live)]
def d_api_Section : api_Section := ⟨0#32, 0#32, ([] : List (BitVec 32)), 0#32, 0#32, ([] : List (BitVec 32))⟩
noncomputable def alibiref15_Few_l4_c : Code := sub (codeOf Try.prog 54) [1, 1, 0, 1, 0, 0]
inductive alibiref15_Few_l4_R where
  | x0 (v0 : Bool)
  | x1
def alibiref15_Few_l4_R.ex : alibiref15_Few_l4_R → Ex
  | .x0 _ => .ret
  | .x1 => .exit 0
noncomputable def alibiref15_Few_l4_R.st (x0 : List api_Section) (x1 : Int) : alibiref15_Few_l4_R → St
  | .x0 v0 => ⟨dead :: dead :: .pv (.bool v0) :: List.replicate 26 dead, []⟩
  | .x1 => ⟨List.replicate 29 dead, []⟩
def alibiref15_Few_l4 (x0 : List api_Section) (x1 : Int) : Option (alibiref15_Few_l4_R) :=
  if (decide ((x1 : Int) < (((List.length x0 : Nat) : Int)))) = true then
    if (decide ((0 : Int) ≤ x1)) = true then
      if (decide ((x1 : Int) < ((List.length x0 : Nat) : Int))) = true then
        if (decide (((((List.length ((List.getD x0 (Int.toNat x1) d_api_Section).held) : Nat) : Int)) : Int) > 100)) = true then
          some (.x0 false)
        else
          if (decide (((((List.length ((List.getD x0 (Int.toNat x1) d_api_Section).live) : Nat) : Int)) : Int) > 100)) = true then
            some (.x0 false)
          else
            alibiref15_Few_l4 x0 (iAdd x1 1)
      else none
    else none
  else
    some (.x1)
partial_fixpoint
noncomputable abbrev alibiref15_Few_l4_s (x0 : List api_Section) (x1 : Int) : St := ⟨.pv (.seq (List.length x0) (encP e_api_Section d_api_Section x0)) :: dead :: dead :: .pv (.int .i64 x1) :: List.replicate 25 dead, []⟩
theorem alibiref15_Few_l4_ok (x0 : List api_Section) (x1 : Int) (r : alibiref15_Few_l4_R) (h : alibiref15_Few_l4 x0 x1 = some r) : Loops Try.prog alibiref15_Few_l4_c 0 (alibiref15_Few_l4_s x0 x1) r.ex (alibiref15_Few_l4_R.st x0 x1 r) := by
 refine alibiref15_Few_l4.partial_correctness x0 (fun x1 r => Loops Try.prog alibiref15_Few_l4_c 0 (alibiref15_Few_l4_s x0 x1) r.ex (alibiref15_Few_l4_R.st x0 x1 r)) ?_ x1 r h
 clear h r x1
 intro self ih x1 r h
 rcases if_of h with ⟨c2, h⟩ | ⟨c2, h⟩
 · obtain ⟨c3, h⟩ := need_of h
   obtain ⟨c4, h⟩ := need_of h
   rcases if_of h with ⟨c5, h⟩ | ⟨c5, h⟩
   · have h := Option.some.inj h; subst h
     exact plast mixed lives 54 (by kernel_rfl) (pk2 <| pb c2 <| pn c3 <| pn c4 <| pk3 <| pb c5 <| pk8 <| pz) rfl
   · rcases if_of h with ⟨c6, h⟩ | ⟨c6, h⟩
     · have h := Option.some.inj h; subst h
       exact plast mixed lives 54 (by kernel_rfl) (pk2 <| pb c2 <| pn c3 <| pn c4 <| pk3 <| pb c5 <| pk2 <| pn c3 <| pn c4 <| pk8 <| pb c6 <| pz) rfl
     · exact pmore mixed lives 54 (by kernel_rfl) (pk2 <| pb c2 <| pn c3 <| pn c4 <| pk3 <| pb c5 <| pk2 <| pn c3 <| pn c4 <| pk8 <| pb c6 <| pk <| pz) (ih (iAdd x1 1) _ h)
 · have h := Option.some.inj h; subst h
   exact plast mixed lives 54 (by kernel_rfl) (pk2 <| pb c2 <| pz) rfl
/-- alibi/alibiref15.Few -/
def alibiref15_Few (l : List api_Section) : Option (Bool) :=
  if (decide (((((List.length l : Nat) : Int)) : Int) > 40)) = true then
    some false
  else
    bind (alibiref15_Few_l4 l 0) fun q => match q with
      | .x0 v7 =>
        some v7
      | .x1 =>
        some true
theorem alibiref15_Few_ok (l : List api_Section) (r : Bool) (h : alibiref15_Few l = some r) : Does Try.prog 54 [.pv (.seq (List.length l) (encP e_api_Section d_api_Section l))] [] (.pv (.bool r), []) := by
 unfold alibiref15_Few at h
 rcases if_of h with ⟨c1, h⟩ | ⟨c1, h⟩
 · have h := Option.some.inj h; subst h
   exact pdoes mixed (L := lives) (by kernel_rfl) (pk2 <| pb c1 <| pz)
 · obtain ⟨q, hq, h⟩ := bind_of h
   cases q with
   | x0 v7 =>
    have h8 := hq; clear hq
    try dsimp only at h
    have h := Option.some.inj h; subst h
    exact pdoes mixed (L := lives) (by kernel_rfl) (pk2 <| pb c1 <| pl (alibiref15_Few_l4_ok _ _ _ h8) <| pz)
   | x1 =>
    have h9 := hq; clear hq
    try dsimp only at h
    have h := Option.some.inj h; subst h
    exact pdoes mixed (L := lives) (by kernel_rfl) (pk2 <| pb c1 <| pl (alibiref15_Few_l4_ok _ _ _ h9) <| pz)
/-- alibi/prog.fields -/
def prog_fields (p : api_Program) (kind : Int) (size : Int) : Option (Int × Int × Int × Bool) :=
  if ((kind : Int) == 0) = true then
    some (0, size, 0, true)
  else
    if ((kind : Int) == 1) = true then
      some (p.globals, size, 0, decide ((p.globals : Int) > 0))
    else
      if ((kind : Int) == 2) = true then
        some (p.globals, size, 0, decide ((p.globals : Int) > 0))
      else
        if ((kind : Int) == 3) = true then
          some (p.locks, size, 0, decide ((p.locks : Int) > 0))
        else
          if ((kind : Int) == 4) = true then
            some (p.locks, size, 0, decide ((p.locks : Int) > 0))
          else
            if ((kind : Int) == 5) = true then
              if (decide ((p.slots : Int) > 0)) = true then
                some (((List.length p.funcs : Nat) : Int), size, p.slots, decide (((((List.length p.funcs : Nat) : Int)) : Int) > 0))
              else
                some (((List.length p.funcs : Nat) : Int), size, p.slots, false)
            else
              if ((kind : Int) == 6) = true then
                some (p.slots, size, 0, decide ((p.slots : Int) > 0))
              else
                if ((kind : Int) == 7) = true then
                  some (((List.length p.funcs : Nat) : Int), size, 0, decide (((((List.length p.funcs : Nat) : Int)) : Int) > 0))
                else
                  if ((kind : Int) == 8) = true then
                    some (0, size, size, true)
                  else
                    if ((kind : Int) == 9) = true then
                      some (0, 0, 0, true)
                    else
                      some (0, 0, 0, false)
theorem prog_fields_ok (p : api_Program) (kind : Int) (size : Int) (r : Int × Int × Int × Bool) (h : prog_fields p kind size = some r) : Does Try.prog 127 [.agg [.pv (.int .i64 p.globals), .pv (.int .i64 p.locks), .pv (.int .i64 p.slots), .pv (.seq (List.length p.funcs) (encP e_61 ([] : List api_Node) p.funcs))], .pv (.int .i64 kind), .pv (.int .i64 size)] [] (.tup [.pv (.int .i64 r.1), .pv (.int .i64 r.2.1), .pv (.int .i64 r.2.2.1), .pv (.bool r.2.2.2)], []) := by
 unfold prog_fields at h
 rcases if_of h with ⟨c1, h⟩ | ⟨c1, h⟩
 · have h := Option.some.inj h; subst h
   exact pdoes mixed (L := lives) (by kernel_rfl) (pk4 <| pb c1 <| pz)
 · rcases if_of h with ⟨c2, h⟩ | ⟨c2, h⟩
   · have h := Option.some.inj h; subst h
     exact pdoes mixed (L := lives) (by kernel_rfl) (pk4 <| pb c1 <| pk <| pb c2 <| pk4 <| pz)
   · rcases if_of h with ⟨c3, h⟩ | ⟨c3, h⟩
     · have h := Option.some.inj h; subst h
       exact pdoes mixed (L := lives) (by kernel_rfl) (pk4 <| pb c1 <| pk <| pb c2 <| pk <| pb c3 <| pk3 <| pz)
     · rcases if_of h with ⟨c4, h⟩ | ⟨c4, h⟩
       · have h := Option.some.inj h; subst h
         exact pdoes mixed (L := lives) (by kernel_rfl) (pk4 <| pb c1 <| pk <| pb c2 <| pk <| pb c3 <| pk <| pb c4 <| pk4 <| pz)
       · rcases if_of h with ⟨c5, h⟩ | ⟨c5, h⟩
         · have h := Option.some.inj h; subst h
           exact pdoes mixed (L := lives) (by kernel_rfl) (pk4 <| pb c1 <| pk <| pb c2 <| pk <| pb c3 <| pk <| pb c4 <| pk <| pb c5 <| pk3 <| pz)
         · rcases if_of h with ⟨c6, h⟩ | ⟨c6, h⟩
           · rcases if_of h with ⟨c7, h⟩ | ⟨c7, h⟩
             · have h := Option.some.inj h; subst h
               exact pdoes mixed (L := lives) (by kernel_rfl) (pk4 <| pb c1 <| pk <| pb c2 <| pk <| pb c3 <| pk <| pb c4 <| pk <| pb c5 <| pk <| pb c6 <| pk3 <| pb c7 <| pk3 <| pz)
             · have h := Option.some.inj h; subst h
               exact pdoes mixed (L := lives) (by kernel_rfl) (pk4 <| pb c1 <| pk <| pb c2 <| pk <| pb c3 <| pk <| pb c4 <| pk <| pb c5 <| pk <| pb c6 <| pk3 <| pb c7 <| pk2 <| pz)
           · rcases if_of h with ⟨c8, h⟩ | ⟨c8, h⟩
             · have h := Option.some.inj h; subst h
               exact pdoes mixed (L := lives) (by kernel_rfl) (pk4 <| pb c1 <| pk <| pb c2 <| pk <| pb c3 <| pk <| pb c4 <| pk <| pb c5 <| pk <| pb c6 <| pk <| pb c8 <| pk3 <| pz)
             · rcases if_of h with ⟨c9, h⟩ | ⟨c9, h⟩
               · have h := Option.some.inj h; subst h
                 exact pdoes mixed (L := lives) (by kernel_rfl) (pk4 <| pb c1 <| pk <| pb c2 <| pk <| pb c3 <| pk <| pb c4 <| pk <| pb c5 <| pk <| pb c6 <| pk <| pb c8 <| pk <| pb c9 <| pk <| pz)
               · rcases if_of h with ⟨c10, h⟩ | ⟨c10, h⟩
                 · have h := Option.some.inj h; subst h
                   exact pdoes mixed (L := lives) (by kernel_rfl) (pk4 <| pb c1 <| pk <| pb c2 <| pk <| pb c3 <| pk <| pb c4 <| pk <| pb c5 <| pk <| pb c6 <| pk <| pb c8 <| pk <| pb c9 <| pk <| pb c10 <| pz)
                 · rcases if_of h with ⟨c11, h⟩ | ⟨c11, h⟩
                   · have h := Option.some.inj h; subst h
                     exact pdoes mixed (L := lives) (by kernel_rfl) (pk4 <| pb c1 <| pk <| pb c2 <| pk <| pb c3 <| pk <| pb c4 <| pk <| pb c5 <| pk <| pb c6 <| pk <| pb c8 <| pk <| pb c9 <| pk <| pb c10 <| pk <| pb c11 <| pz)
                   · have h := Option.some.inj h; subst h
                     exact pdoes mixed (L := lives) (by kernel_rfl) (pk4 <| pb c1 <| pk <| pb c2 <| pk <| pb c3 <| pk <| pb c4 <| pk <| pb c5 <| pk <| pb c6 <| pk <| pb c8 <| pk <| pb c9 <| pk <| pb c10 <| pk <| pb c11 <| pz)
/-- alibi/prog.within -/
def prog_within (n1 : Int) (size : Int) : Option (Bool) :=
  if (decide ((n1 : Int) ≥ 0)) = true then
    some (decide ((n1 : Int) < size))
  else
    some false
theorem prog_within_ok (n1 : Int) (size : Int) (r : Bool) (h : prog_within n1 size = some r) : Does Try.prog 128 [.pv (.int .i64 n1), .pv (.int .i64 size)] [] (.pv (.bool r), []) := by
 unfold prog_within at h
 rcases if_of h with ⟨c1, h⟩ | ⟨c1, h⟩
 · have h := Option.some.inj h; subst h
   exact pdoes mixed (L := lives) (by kernel_rfl) (pk <| pb c1 <| pk4 <| pz)
 · have h := Option.some.inj h; subst h
   exact pdoes mixed (L := lives) (by kernel_rfl) (pk <| pb c1 <| pk3 <| pz)
/-- alibi/prog.May -/
def prog_May (p : api_Program) (n1 : api_Node) (size : Int) : Option (Bool) :=
  bind (prog_fields p n1.kind size) fun v1 =>
  if v1.2.2.2 = true then
    bind (prog_within n1.arg (if 1 > v1.1 then 1 else v1.1)) fun v4 =>
    if v4 = true then
      bind (prog_within n1.next (if 1 > v1.2.1 then 1 else v1.2.1)) fun v7 =>
      if v7 = true then
        bind (prog_within n1.alt (if 1 > v1.2.2.1 then 1 else v1.2.2.1)) fun v10 =>
        some v10
      else
        some false
    else
      some false
  else
    some false
theorem prog_May_ok (p : api_Program) (n1 : api_Node) (size : Int) (r : Bool) (h : prog_May p n1 size = some r) : Does Try.prog 114 [.agg [.pv (.int .i64 p.globals), .pv (.int .i64 p.locks), .pv (.int .i64 p.slots), .pv (.seq (List.length p.funcs) (encP e_61 ([] : List api_Node) p.funcs))], .agg [.pv (.int .i64 n1.kind), .pv (.int .i64 n1.arg), .pv (.int .i64 n1.next), .pv (.int .i64 n1.alt)], .pv (.int .i64 size)] [] (.pv (.bool r), []) := by
 unfold prog_May at h
 obtain ⟨v1, h2, h⟩ := bind_of h
 rcases if_of h with ⟨c3, h⟩ | ⟨c3, h⟩
 · obtain ⟨v4, h5, h⟩ := bind_of h
   rcases if_of h with ⟨c6, h⟩ | ⟨c6, h⟩
   · obtain ⟨v7, h8, h⟩ := bind_of h
     rcases if_of h with ⟨c9, h⟩ | ⟨c9, h⟩
     · obtain ⟨v10, h11, h⟩ := bind_of h
       have h := Option.some.inj h; subst h
       exact pdoes mixed (L := lives) (by kernel_rfl) (pk4 <| pc (prog_fields_ok _ _ _ _ h2) <| pk <| pb c3 <| pk6 <| pc (prog_within_ok _ _ _ h5) <| pk2 <| pb c6 <| pk6 <| pc (prog_within_ok _ _ _ h8) <| pk2 <| pb c9 <| pk6 <| pc (prog_within_ok _ _ _ h11) <| pk2 <| pz)
     · have h := Option.some.inj h; subst h
       exact pdoes mixed (L := lives) (by kernel_rfl) (pk4 <| pc (prog_fields_ok _ _ _ _ h2) <| pk <| pb c3 <| pk6 <| pc (prog_within_ok _ _ _ h5) <| pk2 <| pb c6 <| pk6 <| pc (prog_within_ok _ _ _ h8) <| pk2 <| pb c9 <| pk5 <| pz)
   · have h := Option.some.inj h; subst h
     exact pdoes mixed (L := lives) (by kernel_rfl) (pk4 <| pc (prog_fields_ok _ _ _ _ h2) <| pk <| pb c3 <| pk6 <| pc (prog_within_ok _ _ _ h5) <| pk2 <| pb c6 <| pk8 <| pk3 <| pz)
 · have h := Option.some.inj h; subst h
   exact pdoes mixed (L := lives) (by kernel_rfl) (pk4 <| pc (prog_fields_ok _ _ _ _ h2) <| pk <| pb c3 <| pk8 <| pk8 <| pk <| pz)
noncomputable def prog_Check_l13_c : Code := sub (codeOf Try.prog 76) [1, 1, 1, 0, 1, 0, 0, 1, 1, 0, 0, 1, 1, 1, 0, 0]
inductive prog_Check_l13_R where
  | x0 (v0 : Int) (v1 : Int)
  | x1
def prog_Check_l13_R.ex : prog_Check_l13_R → Ex
  | .x0 _ _ => .ret
  | .x1 => .exit 3
noncomputable def prog_Check_l13_R.st (x0 : Int) (x1 : Int) (x2 : Int) (x3 : List (List api_Node)) (x4 : Int) (x5 : List api_Node) (x6 : List (List api_Node)) (x7 : Int) (x8 : Int) (x9 : List api_Node) (x10 : Int) (x11 : Int) : prog_Check_l13_R → St
  | .x0 v0 v1 => ⟨dead :: .ptr 0 [] 0 0 :: .pv (.int .i64 x4) :: .pv (.int .i64 v0) :: .pv (.int .i64 v1) :: (List.replicate 46 dead ++ (.pv (.seq (List.length x6) (encP e_61 ([] : List api_Node) x6)) :: .pv (.int .i64 x7) :: .pv (.int .i64 x8) :: List.replicate 40 dead)), [.box 0 [.pv (.int .i64 x0), .pv (.int .i64 x1), .pv (.int .i64 x2), .pv (.seq (List.length x3) (encP e_61 ([] : List api_Node) x3))]]⟩
  | .x1 => ⟨dead :: .ptr 0 [] 0 0 :: (List.replicate 49 dead ++ (.pv (.seq (List.length x6) (encP e_61 ([] : List api_Node) x6)) :: .pv (.int .i64 x7) :: .pv (.int .i64 x8) :: List.replicate 40 dead)), [.box 0 [.pv (.int .i64 x0), .pv (.int .i64 x1), .pv (.int .i64 x2), .pv (.seq (List.length x3) (encP e_61 ([] : List api_Node) x3))]]⟩
def prog_Check_l13 (x0 : Int) (x1 : Int) (x2 : Int) (x3 : List (List api_Node)) (x4 : Int) (x5 : List api_Node) (x6 : List (List api_Node)) (x7 : Int) (x8 : Int) (x9 : List api_Node) (x10 : Int) (x11 : Int) : Option (prog_Check_l13_R) :=
  if (decide ((x11 : Int) < x10)) = true then
    if (decide ((0 : Int) ≤ x11)) = true then
      if (decide ((x11 : Int) < ((List.length x9 : Nat) : Int))) = true then
        bind (prog_May (api_Program.mk x0 x1 x2 x3) (List.getD x9 (Int.toNat x11) d_api_Node) (((List.length x5 : Nat) : Int))) fun v17 =>
        if (!v17) = true then
          some (.x0 x11 3)
        else
          prog_Check_l13 x0 x1 x2 x3 x4 x5 x6 x7 x8 x9 x10 (iAdd x11 1)
      else none
    else none
  else
    some (.x1)
partial_fixpoint
noncomputable abbrev prog_Check_l13_s (x0 : Int) (x1 : Int) (x2 : Int) (x3 : List (List api_Node)) (x4 : Int) (x5 : List api_Node) (x6 : List (List api_Node)) (x7 : Int) (x8 : Int) (x9 : List api_Node) (x10 : Int) (x11 : Int) : St := ⟨dead :: .ptr 0 [] 0 0 :: dead :: dead :: dead :: .pv (.int .i64 x4) :: .pv (.seq (List.length x5) (encP e_api_Node d_api_Node x5)) :: (List.replicate 44 dead ++ (.pv (.seq (List.length x6) (encP e_61 ([] : List api_Node) x6)) :: .pv (.int .i64 x7) :: .pv (.int .i64 x8) :: (List.replicate 14 dead ++ (.pv (.seq (List.length x9) (encP e_api_Node d_api_Node x9)) :: .pv (.int .i64 x10) :: .pv (.int .i64 x11) :: List.replicate 23 dead)))), [.box 0 [.pv (.int .i64 x0), .pv (.int .i64 x1), .pv (.int .i64 x2), .pv (.seq (List.length x3) (encP e_61 ([] : List api_Node) x3))]]⟩
theorem prog_Check_l13_ok (x0 : Int) (x1 : Int) (x2 : Int) (x3 : List (List api_Node)) (x4 : Int) (x5 : List api_Node) (x6 : List (List api_Node)) (x7 : Int) (x8 : Int) (x9 : List api_Node) (x10 : Int) (x11 : Int) (r : prog_Check_l13_R) (h : prog_Check_l13 x0 x1 x2 x3 x4 x5 x6 x7 x8 x9 x10 x11 = some r) : Loops Try.prog prog_Check_l13_c 0 (prog_Check_l13_s x0 x1 x2 x3 x4 x5 x6 x7 x8 x9 x10 x11) r.ex (prog_Check_l13_R.st x0 x1 x2 x3 x4 x5 x6 x7 x8 x9 x10 x11 r) := by
 refine prog_Check_l13.partial_correctness x0 x1 x2 x3 x4 x5 x6 x7 x8 x9 x10 (fun x11 r => Loops Try.prog prog_Check_l13_c 0 (prog_Check_l13_s x0 x1 x2 x3 x4 x5 x6 x7 x8 x9 x10 x11) r.ex (prog_Check_l13_R.st x0 x1 x2 x3 x4 x5 x6 x7 x8 x9 x10 x11 r)) ?_ x11 r h
 clear h r x11
 intro self ih x11 r h
 rcases if_of h with ⟨c14, h⟩ | ⟨c14, h⟩
 · obtain ⟨c15, h⟩ := need_of h
   obtain ⟨c16, h⟩ := need_of h
   obtain ⟨v17, h18, h⟩ := bind_of h
   rcases if_of h with ⟨c19, h⟩ | ⟨c19, h⟩
   · have h := Option.some.inj h; subst h
     exact plast mixed lives 76 (by kernel_rfl) (pk <| pb c14 <| pn c15 <| pn c16 <| pk6 <| pc (prog_May_ok _ _ _ _ h18) <| pk2 <| pb c19 <| pz) rfl
   · exact pmore mixed lives 76 (by kernel_rfl) (pk <| pb c14 <| pn c15 <| pn c16 <| pk6 <| pc (prog_May_ok _ _ _ _ h18) <| pk2 <| pb c19 <| pk <| pz) (ih (iAdd x11 1) _ h)
 · have h := Option.some.inj h; subst h
   exact plast mixed lives 76 (by kernel_rfl) (pk <| pb c14 <| pz) rfl
noncomputable def prog_Check_l6_c : Code := sub (codeOf Try.prog 76) [1, 1, 1, 0, 1, 0, 0]
inductive prog_Check_l6_R where
  | x0 (v0 : Int) (v1 : Int) (v2 : Int)
  | x1
def prog_Check_l6_R.ex : prog_Check_l6_R → Ex
  | .x0 _ _ _ => .ret
  | .x1 => .exit 0
noncomputable def prog_Check_l6_R.st (x0 : Int) (x1 : Int) (x2 : Int) (x3 : List (List api_Node)) (x4 : List (List api_Node)) (x5 : Int) (x6 : Int) : prog_Check_l6_R → St
  | .x0 v0 v1 v2 => ⟨dead :: .ptr 0 [] 0 0 :: .pv (.int .i64 v0) :: .pv (.int .i64 v1) :: .pv (.int .i64 v2) :: List.replicate 89 dead, [.box 0 [.pv (.int .i64 x0), .pv (.int .i64 x1), .pv (.int .i64 x2), .pv (.seq (List.length x3) (encP e_61 ([] : List api_Node) x3))]]⟩
  | .x1 => ⟨dead :: .ptr 0 [] 0 0 :: List.replicate 92 dead, [.box 0 [.pv (.int .i64 x0), .pv (.int .i64 x1), .pv (.int .i64 x2), .pv (.seq (List.length x3) (encP e_61 ([] : List api_Node) x3))]]⟩
def prog_Check_l6 (x0 : Int) (x1 : Int) (x2 : Int) (x3 : List (List api_Node)) (x4 : List (List api_Node)) (x5 : Int) (x6 : Int) : Option (prog_Check_l6_R) :=
  if (decide ((x6 : Int) < x5)) = true then
    if (decide ((0 : Int) ≤ x6)) = true then
      if (decide ((x6 : Int) < ((List.length x4 : Nat) : Int))) = true then
        if (((((List.length (List.getD x4 (Int.toNat x6) (([] : List api_Node))) : Nat) : Int)) : Int) == 0) = true then
          some (.x0 x6 ((-1)) 1)
        else
          if (decide (((((List.length (List.getD x4 (Int.toNat x6) (([] : List api_Node))) : Nat) : Int)) : Int) > 64)) = true then
            some (.x0 x6 ((-1)) 4)
          else
            bind (prog_Check_l13 x0 x1 x2 x3 x6 (List.getD x4 (Int.toNat x6) (([] : List api_Node))) x4 x5 x6 (List.getD x4 (Int.toNat x6) (([] : List api_Node))) (((List.length (List.getD x4 (Int.toNat x6) (([] : List api_Node))) : Nat) : Int)) 0) fun q => match q with
              | .x0 v20 v21 =>
                some (.x0 x6 v20 v21)
              | .x1 =>
                prog_Check_l6 x0 x1 x2 x3 x4 x5 (iAdd x6 1)
      else none
    else none
  else
    some (.x1)
partial_fixpoint
noncomputable abbrev prog_Check_l6_s (x0 : Int) (x1 : Int) (x2 : Int) (x3 : List (List api_Node)) (x4 : List (List api_Node)) (x5 : Int) (x6 : Int) : St := ⟨dead :: .ptr 0 [] 0 0 :: (List.replicate 49 dead ++ (.pv (.seq (List.length x4) (encP e_61 ([] : List api_Node) x4)) :: .pv (.int .i64 x5) :: .pv (.int .i64 x6) :: List.replicate 40 dead)), [.box 0 [.pv (.int .i64 x0), .pv (.int .i64 x1), .pv (.int .i64 x2), .pv (.seq (List.length x3) (encP e_61 ([] : List api_Node) x3))]]⟩
theorem prog_Check_l6_ok (x0 : Int) (x1 : Int) (x2 : Int) (x3 : List (List api_Node)) (x4 : List (List api_Node)) (x5 : Int) (x6 : Int) (r : prog_Check_l6_R) (h : prog_Check_l6 x0 x1 x2 x3 x4 x5 x6 = some r) : Loops Try.prog prog_Check_l6_c 0 (prog_Check_l6_s x0 x1 x2 x3 x4 x5 x6) r.ex (prog_Check_l6_R.st x0 x1 x2 x3 x4 x5 x6 r) := by
 refine prog_Check_l6.partial_correctness x0 x1 x2 x3 x4 x5 (fun x6 r => Loops Try.prog prog_Check_l6_c 0 (prog_Check_l6_s x0 x1 x2 x3 x4 x5 x6) r.ex (prog_Check_l6_R.st x0 x1 x2 x3 x4 x5 x6 r)) ?_ x6 r h
 clear h r x6
 intro self ih x6 r h
 rcases if_of h with ⟨c9, h⟩ | ⟨c9, h⟩
 · obtain ⟨c10, h⟩ := need_of h
   obtain ⟨c11, h⟩ := need_of h
   rcases if_of h with ⟨c12, h⟩ | ⟨c12, h⟩
   · have h := Option.some.inj h; subst h
     exact plast mixed lives 76 (by kernel_rfl) (pk <| pb c9 <| pn c10 <| pn c11 <| pk3 <| pb c12 <| pz) rfl
   · rcases if_of h with ⟨c13, h⟩ | ⟨c13, h⟩
     · have h := Option.some.inj h; subst h
       exact plast mixed lives 76 (by kernel_rfl) (pk <| pb c9 <| pn c10 <| pn c11 <| pk3 <| pb c12 <| pk2 <| pb c13 <| pz) rfl
     · obtain ⟨q, hq, h⟩ := bind_of h
       cases q with
       | x0 v20 v21 =>
        have h22 := hq; clear hq
        try dsimp only at h
        have h := Option.some.inj h; subst h
        exact plast mixed lives 76 (by kernel_rfl) (pk <| pb c9 <| pn c10 <| pn c11 <| pk3 <| pb c12 <| pk2 <| pb c13 <| pk <| pl (prog_Check_l13_ok _ _ _ _ _ _ _ _ _ _ _ _ _ h22) <| pz) rfl
       | x1 =>
        have h23 := hq; clear hq
        try dsimp only at h
        exact pmore mixed lives 76 (by kernel_rfl) (pk <| pb c9 <| pn c10 <| pn c11 <| pk3 <| pb c12 <| pk2 <| pb c13 <| pk <| pl (prog_Check_l13_ok _ _ _ _ _ _ _ _ _ _ _ _ _ h23) <| pk <| pz) (ih (iAdd x6 1) _ h)
 · have h := Option.some.inj h; subst h
   exact plast mixed lives 76 (by kernel_rfl) (pk <| pb c9 <| pz) rfl
def o_bool (x : Bool) : List AV := [.pv (.bool x)]
noncomputable def prog_reaches_l7_c : Code := sub (codeOf Try.prog 129) [1, 1, 1, 1, 0, 1, 0, 0]
inductive prog_reaches_l7_R where
  | x0 (v0 : List Bool) (v1 : Bool)
  | x1 (v0 : List Bool)
def prog_reaches_l7_R.ex : prog_reaches_l7_R → Ex
  | .x0 _ _ => .ret
  | .x1 _ => .exit 0
noncomputable def prog_reaches_l7_R.st (self : (List Bool) → api_Program → Int → Int → Option (Bool × (List Bool))) (x0 : List Bool) (x1 : Int) (x2 : Int) (x3 : Int) (x4 : List (List api_Node)) (x5 : Int) (x6 : List api_Node) (x7 : Int) (x8 : Int) : prog_reaches_l7_R → St
  | .x0 v0 v1 => ⟨(List.replicate 8 dead ++ (.pv (.bool v1) :: List.replicate 34 dead)), [.arr 2 1 (List.length v0) (encW o_bool false v0)]⟩
  | .x1 v0 => ⟨List.replicate 43 dead, [.arr 2 1 (List.length v0) (encW o_bool false v0)]⟩
def prog_reaches_l7 (self : (List Bool) → api_Program → Int → Int → Option (Bool × (List Bool))) (x0 : List Bool) (x1 : Int) (x2 : Int) (x3 : Int) (x4 : List (List api_Node)) (x5 : Int) (x6 : List api_Node) (x7 : Int) (x8 : Int) : Option (prog_reaches_l7_R) :=
  if (decide ((x8 : Int) < x7)) = true then
    if (decide ((0 : Int) ≤ x8)) = true then
      if (decide ((x8 : Int) < ((List.length x6 : Nat) : Int))) = true then
        if ((((List.getD x6 (Int.toNat x8) d_api_Node).kind) : Int) == 7) = true then
          bind (self x0 (api_Program.mk x1 x2 x3 x4) ((List.getD x6 (Int.toNat x8) d_api_Node).arg) x5) fun v10 =>
          if v10.1 = true then
            some (.x0 v10.2 true)
          else
            if (decide ((List.length v10.2 : Nat) = List.length x0)) = true then
              prog_reaches_l7 self v10.2 x1 x2 x3 x4 x5 x6 x7 (iAdd x8 1)
            else none
        else
          prog_reaches_l7 self x0 x1 x2 x3 x4 x5 x6 x7 (iAdd x8 1)
      else none
    else none
  else
    some (.x1 x0)
partial_fixpoint
noncomputable abbrev prog_reaches_l7_s (self : (List Bool) → api_Program → Int → Int → Option (Bool × (List Bool))) (x0 : List Bool) (x1 : Int) (x2 : Int) (x3 : Int) (x4 : List (List api_Node)) (x5 : Int) (x6 : List api_Node) (x7 : Int) (x8 : Int) : St := ⟨dead :: dead :: .pv (.int .i64 x5) :: .ms 0 [] 0 (List.length x0) :: .ptr 1 [] 0 0 :: (List.replicate 20 dead ++ (.pv (.seq (List.length x6) (encP e_api_Node d_api_Node x6)) :: .pv (.int .i64 x7) :: .pv (.int .i64 x8) :: List.replicate 15 dead)), [.arr 2 1 (List.length x0) (encW o_bool false x0), .box 0 [.pv (.int .i64 x1), .pv (.int .i64 x2), .pv (.int .i64 x3), .pv (.seq (List.length x4) (encP e_61 ([] : List api_Node) x4))]]⟩
theorem prog_reaches_l7_ok (self : (List Bool) → api_Program → Int → Int → Option (Bool × (List Bool))) (hself : ∀ (l0 : List Bool) (p : api_Program) (from_ : Int) (to_ : Int) (r : Bool × (List Bool)), self l0 p from_ to_ = some r → Does Try.prog 129 [.agg [.pv (.int .i64 p.globals), .pv (.int .i64 p.locks), .pv (.int .i64 p.slots), .pv (.seq (List.length p.funcs) (encP e_61 ([] : List api_Node) p.funcs))], .pv (.int .i64 from_), .pv (.int .i64 to_), .ms 0 [] 0 (List.length l0)] [.arr 2 1 (List.length l0) (encW o_bool false l0)] (.pv (.bool r.1), [.arr 2 1 (List.length r.2) (encW o_bool false r.2)])) (x0 : List Bool) (x1 : Int) (x2 : Int) (x3 : Int) (x4 : List (List api_Node)) (x5 : Int) (x6 : List api_Node) (x7 : Int) (x8 : Int) (r : prog_reaches_l7_R) (h : prog_reaches_l7 self x0 x1 x2 x3 x4 x5 x6 x7 x8 = some r) : Loops Try.prog prog_reaches_l7_c 1 (prog_reaches_l7_s self x0 x1 x2 x3 x4 x5 x6 x7 x8) r.ex (prog_reaches_l7_R.st self x0 x1 x2 x3 x4 x5 x6 x7 x8 r) := by
 refine prog_reaches_l7.partial_correctness self x1 x2 x3 x4 x5 x6 x7 (fun x0 x8 r => Loops Try.prog prog_reaches_l7_c 1 (prog_reaches_l7_s self x0 x1 x2 x3 x4 x5 x6 x7 x8) r.ex (prog_reaches_l7_R.st self x0 x1 x2 x3 x4 x5 x6 x7 x8 r)) ?_ x0 x8 r h
 clear h r x0 x8
 intro self ih x0 x8 r h
 rcases if_of h with ⟨c6, h⟩ | ⟨c6, h⟩
 · obtain ⟨c7, h⟩ := need_of h
   obtain ⟨c8, h⟩ := need_of h
   rcases if_of h with ⟨c9, h⟩ | ⟨c9, h⟩
   · obtain ⟨v10, h11, h⟩ := bind_of h
     rcases if_of h with ⟨c12, h⟩ | ⟨c12, h⟩
     · have h := Option.some.inj h; subst h
       exact plast mixed lives 129 (by kernel_rfl) (pk <| pb c6 <| pn c7 <| pn c8 <| pk5 <| pb c9 <| pk7 <| pc (hself _ _ _ _ _ h11) <| pk2 <| pb c12 <| pz) rfl
     · obtain ⟨e13, h⟩ := need_of h; replace e13 := of_decide_eq_true e13
       exact pmore mixed lives 129 (by kernel_rfl) (pk <| pb c6 <| pn c7 <| pn c8 <| pk5 <| pb c9 <| pk7 <| pc (hself _ _ _ _ _ h11) <| pk2 <| pb c12 <| pk <| pz) (Loops.of (s1 := ⟨dead :: dead :: .pv (.int .i64 x5) :: .ms 0 [] 0 (List.length x0) :: .ptr 1 [] 0 0 :: (List.replicate 20 dead ++ (.pv (.seq (List.length x6) (encP e_api_Node d_api_Node x6)) :: .pv (.int .i64 x7) :: .pv (.int .i64 (iAdd x8 1)) :: List.replicate 15 dead)), [.arr 2 1 (List.length v10.2) (encW o_bool false v10.2), .box 0 [.pv (.int .i64 x1), .pv (.int .i64 x2), .pv (.int .i64 x3), .pv (.seq (List.length x4) (encP e_61 ([] : List api_Node) x4))]]⟩) (ih v10.2 (iAdd x8 1) _ h) (by (first | rfl | (simp only [prog_reaches_l7_s, List.length_set, e13]; done))))
   · exact pmore mixed lives 129 (by kernel_rfl) (pk <| pb c6 <| pn c7 <| pn c8 <| pk5 <| pb c9 <| pk8 <| pz) (ih x0 (iAdd x8 1) _ h)
 · have h := Option.some.inj h; subst h
   exact plast mixed lives 129 (by kernel_rfl) (pk <| pb c6 <| pz) rfl
/-- alibi/prog.reaches -/
def prog_reaches_B (self : (List Bool) → api_Program → Int → Int → Option (Bool × (List Bool))) (l0 : List Bool) (p : api_Program) (from_ : Int) (to_ : Int) : Option (Bool × (List Bool)) :=
  if ((from_ : Int) == to_) = true then
    some (true, l0)
  else
    if (decide ((0 : Int) ≤ from_)) = true then
      if (decide ((from_ : Int) < (((List.length l0) : Nat) : Int))) = true then
        if (List.getD l0 (Int.toNat from_) false) = true then
          some (false, l0)
        else
          if (decide ((from_ : Int) < ((List.length p.funcs : Nat) : Int))) = true then
            bind (prog_reaches_l7 self (List.set l0 (Int.toNat from_) true) p.globals p.locks p.slots p.funcs to_ (List.getD p.funcs (Int.toNat from_) (([] : List api_Node))) (((List.length (List.getD p.funcs (Int.toNat from_) (([] : List api_Node))) : Nat) : Int)) 0) fun q => match q with
              | .x0 v14 v15 =>
                some (v15, v14)
              | .x1 v17 =>
                some (false, v17)
          else none
      else none
    else none
def prog_reaches_N : Nat → (List Bool) → api_Program → Int → Int → Option (Bool × (List Bool))
  | 0, _, _, _, _ => none
  | n + 1, l0, p, from_, to_ => prog_reaches_B (prog_reaches_N n) l0 p from_ to_
/-- So deep at most. -/
def prog_reaches (l0 : List Bool) (p : api_Program) (from_ : Int) (to_ : Int) : Option (Bool × (List Bool)) := prog_reaches_N 1000 l0 p from_ to_
theorem prog_reaches_B_ok (self : (List Bool) → api_Program → Int → Int → Option (Bool × (List Bool))) (hself : ∀ (l0 : List Bool) (p : api_Program) (from_ : Int) (to_ : Int) (r : Bool × (List Bool)), self l0 p from_ to_ = some r → Does Try.prog 129 [.agg [.pv (.int .i64 p.globals), .pv (.int .i64 p.locks), .pv (.int .i64 p.slots), .pv (.seq (List.length p.funcs) (encP e_61 ([] : List api_Node) p.funcs))], .pv (.int .i64 from_), .pv (.int .i64 to_), .ms 0 [] 0 (List.length l0)] [.arr 2 1 (List.length l0) (encW o_bool false l0)] (.pv (.bool r.1), [.arr 2 1 (List.length r.2) (encW o_bool false r.2)])) (l0 : List Bool) (p : api_Program) (from_ : Int) (to_ : Int) (r : Bool × (List Bool)) (h : prog_reaches_B self l0 p from_ to_ = some r) : Does Try.prog 129 [.agg [.pv (.int .i64 p.globals), .pv (.int .i64 p.locks), .pv (.int .i64 p.slots), .pv (.seq (List.length p.funcs) (encP e_61 ([] : List api_Node) p.funcs))], .pv (.int .i64 from_), .pv (.int .i64 to_), .ms 0 [] 0 (List.length l0)] [.arr 2 1 (List.length l0) (encW o_bool false l0)] (.pv (.bool r.1), [.arr 2 1 (List.length r.2) (encW o_bool false r.2)]) := by
 unfold prog_reaches_B at h
 rcases if_of h with ⟨c1, h⟩ | ⟨c1, h⟩
 · have h := Option.some.inj h; subst h
   exact pdoes mixed (L := lives) (by kernel_rfl) (pk2 <| pb c1 <| pz)
 · obtain ⟨c2, h⟩ := need_of h
   obtain ⟨c3, h⟩ := need_of h
   rcases if_of h with ⟨c4, h⟩ | ⟨c4, h⟩
   · have h := Option.some.inj h; subst h
     exact pdoes mixed (L := lives) (by kernel_rfl) (pk2 <| pb c1 <| pn c2 <| pn c3 <| pk <| pb c4 <| pz)
   · obtain ⟨c5, h⟩ := need_of h
     obtain ⟨q, hq, h⟩ := bind_of h
     cases q with
     | x0 v14 v15 =>
      have h16 := hq; clear hq
      try dsimp only at h
      have h := Option.some.inj h; subst h
      exact pdoes mixed (L := lives) (by kernel_rfl) (pk2 <| pb c1 <| pn c2 <| pn c3 <| pk <| pb c4 <| pn c2 <| pn c3 <| pt <| pe (eff_hb (v := dead) (b := 0) (hb := []) (sc := []) (put_top o_bool false 2 1 (List.length l0) l0 (Int.toNat from_) 0 [.pv (.bool true)] true (by kernel_rfl) (by first | exact Nat.le_refl _ | exact Nat.zero_le _ | (simp only [decide_eq_true_eq, List.length_set, List.length_append, List.length_replicate, List.length_cons, List.length_nil, Nat.zero_add] at * <;> omega)))) <| pk <| pn c2 <| pn c5 <| pk2 <| pl (Loops.of (s1 := ⟨dead :: dead :: .pv (.int .i64 to_) :: .ms 0 [] 0 (List.length l0) :: .ptr 1 [] 0 0 :: (List.replicate 20 dead ++ (.pv (.seq (List.length (List.getD p.funcs (Int.toNat from_) (([] : List api_Node)))) (encP e_api_Node d_api_Node (List.getD p.funcs (Int.toNat from_) (([] : List api_Node))))) :: .pv (.int .i64 (((List.length (List.getD p.funcs (Int.toNat from_) (([] : List api_Node))) : Nat) : Int))) :: .pv (.int .i64 0) :: List.replicate 15 dead)), [.arr 2 1 (List.length l0) (encW o_bool false (List.set l0 (Int.toNat from_) true)), .box 0 [.pv (.int .i64 p.globals), .pv (.int .i64 p.locks), .pv (.int .i64 p.slots), .pv (.seq (List.length p.funcs) (encP e_61 ([] : List api_Node) p.funcs))]]⟩) (prog_reaches_l7_ok _ hself _ _ _ _ _ _ _ _ _ _ h16) (by (first | rfl | (simp only [prog_reaches_l7_s, List.length_set]; done)))) <| pz)
     | x1 v17 =>
      have h18 := hq; clear hq
      try dsimp only at h
      have h := Option.some.inj h; subst h
      exact pdoes mixed (L := lives) (by kernel_rfl) (pk2 <| pb c1 <| pn c2 <| pn c3 <| pk <| pb c4 <| pn c2 <| pn c3 <| pt <| pe (eff_hb (v := dead) (b := 0) (hb := []) (sc := []) (put_top o_bool false 2 1 (List.length l0) l0 (Int.toNat from_) 0 [.pv (.bool true)] true (by kernel_rfl) (by first | exact Nat.le_refl _ | exact Nat.zero_le _ | (simp only [decide_eq_true_eq, List.length_set, List.length_append, List.length_replicate, List.length_cons, List.length_nil, Nat.zero_add] at * <;> omega)))) <| pk <| pn c2 <| pn c5 <| pk2 <| pl (Loops.of (s1 := ⟨dead :: dead :: .pv (.int .i64 to_) :: .ms 0 [] 0 (List.length l0) :: .ptr 1 [] 0 0 :: (List.replicate 20 dead ++ (.pv (.seq (List.length (List.getD p.funcs (Int.toNat from_) (([] : List api_Node)))) (encP e_api_Node d_api_Node (List.getD p.funcs (Int.toNat from_) (([] : List api_Node))))) :: .pv (.int .i64 (((List.length (List.getD p.funcs (Int.toNat from_) (([] : List api_Node))) : Nat) : Int))) :: .pv (.int .i64 0) :: List.replicate 15 dead)), [.arr 2 1 (List.length l0) (encW o_bool false (List.set l0 (Int.toNat from_) true)), .box 0 [.pv (.int .i64 p.globals), .pv (.int .i64 p.locks), .pv (.int .i64 p.slots), .pv (.seq (List.length p.funcs) (encP e_61 ([] : List api_Node) p.funcs))]]⟩) (prog_reaches_l7_ok _ hself _ _ _ _ _ _ _ _ _ _ h18) (by (first | rfl | (simp only [prog_reaches_l7_s, List.length_set]; done)))) <| pz)
theorem prog_reaches_N_ok : ∀ (n : Nat) (l0 : List Bool) (p : api_Program) (from_ : Int) (to_ : Int) (r : Bool × (List Bool)), prog_reaches_N n l0 p from_ to_ = some r → Does Try.prog 129 [.agg [.pv (.int .i64 p.globals), .pv (.int .i64 p.locks), .pv (.int .i64 p.slots), .pv (.seq (List.length p.funcs) (encP e_61 ([] : List api_Node) p.funcs))], .pv (.int .i64 from_), .pv (.int .i64 to_), .ms 0 [] 0 (List.length l0)] [.arr 2 1 (List.length l0) (encW o_bool false l0)] (.pv (.bool r.1), [.arr 2 1 (List.length r.2) (encW o_bool false r.2)])
  | 0, _, _, _, _, r, h => by cases h
  | n + 1, l0, p, from_, to_, r, h => prog_reaches_B_ok (prog_reaches_N n) (prog_reaches_N_ok n) l0 p from_ to_ r h
theorem prog_reaches_ok (l0 : List Bool) (p : api_Program) (from_ : Int) (to_ : Int) (r : Bool × (List Bool)) (h : prog_reaches l0 p from_ to_ = some r) : Does Try.prog 129 [.agg [.pv (.int .i64 p.globals), .pv (.int .i64 p.locks), .pv (.int .i64 p.slots), .pv (.seq (List.length p.funcs) (encP e_61 ([] : List api_Node) p.funcs))], .pv (.int .i64 from_), .pv (.int .i64 to_), .ms 0 [] 0 (List.length l0)] [.arr 2 1 (List.length l0) (encW o_bool false l0)] (.pv (.bool r.1), [.arr 2 1 (List.length r.2) (encW o_bool false r.2)]) := prog_reaches_N_ok 1000 l0 p from_ to_ r h
noncomputable def prog_round_l5_c : Code := sub (codeOf Try.prog 115) [1, 0, 1, 0, 0, 1, 1, 0, 0, 1, 1, 0, 0]
inductive prog_round_l5_R where
  | x0 (v0 : Int) (v1 : Bool)
  | x1
def prog_round_l5_R.ex : prog_round_l5_R → Ex
  | .x0 _ _ => .ret
  | .x1 => .exit 2
noncomputable def prog_round_l5_R.st (x0 : Int) (x1 : Int) (x2 : Int) (x3 : List (List api_Node)) (x4 : Int) (x5 : List (List api_Node)) (x6 : Int) (x7 : Int) (x8 : List api_Node) (x9 : Int) (x10 : Int) : prog_round_l5_R → St
  | .x0 v0 v1 => ⟨dead :: .ptr 0 [] 0 0 :: .pv (.int .i64 x4) :: .pv (.int .i64 v0) :: .pv (.bool v1) :: (List.replicate 5 dead ++ (.pv (.seq (List.length x5) (encP e_61 ([] : List api_Node) x5)) :: .pv (.int .i64 x6) :: .pv (.int .i64 x7) :: List.replicate 29 dead)), [.box 0 [.pv (.int .i64 x0), .pv (.int .i64 x1), .pv (.int .i64 x2), .pv (.seq (List.length x3) (encP e_61 ([] : List api_Node) x3))]]⟩
  | .x1 => ⟨dead :: .ptr 0 [] 0 0 :: (List.replicate 8 dead ++ (.pv (.seq (List.length x5) (encP e_61 ([] : List api_Node) x5)) :: .pv (.int .i64 x6) :: .pv (.int .i64 x7) :: List.replicate 29 dead)), [.box 0 [.pv (.int .i64 x0), .pv (.int .i64 x1), .pv (.int .i64 x2), .pv (.seq (List.length x3) (encP e_61 ([] : List api_Node) x3))]]⟩
def prog_round_l5 (x0 : Int) (x1 : Int) (x2 : Int) (x3 : List (List api_Node)) (x4 : Int) (x5 : List (List api_Node)) (x6 : Int) (x7 : Int) (x8 : List api_Node) (x9 : Int) (x10 : Int) : Option (prog_round_l5_R) :=
  if (decide ((x10 : Int) < x9)) = true then
    if (decide ((0 : Int) ≤ x10)) = true then
      if (decide ((x10 : Int) < ((List.length x8 : Nat) : Int))) = true then
        if ((((List.getD x8 (Int.toNat x10) d_api_Node).kind) : Int) == 7) = true then
          if (decide ((0 : Int) ≤ (((List.length x3 : Nat) : Int)))) = true then
            if (decide (((((List.length x3 : Nat) : Int)) : Int) * ((1 : Nat) : Int) ≤ ((reach : Nat) : Int))) = true then
              bind (prog_reaches (List.replicate (Int.toNat (((List.length x3 : Nat) : Int))) false) (api_Program.mk x0 x1 x2 x3) ((List.getD x8 (Int.toNat x10) d_api_Node).arg) x4) fun v10 =>
              if v10.1 = true then
                some (.x0 x10 true)
              else
                prog_round_l5 x0 x1 x2 x3 x4 x5 x6 x7 x8 x9 (iAdd x10 1)
            else none
          else none
        else
          prog_round_l5 x0 x1 x2 x3 x4 x5 x6 x7 x8 x9 (iAdd x10 1)
      else none
    else none
  else
    some (.x1)
partial_fixpoint
noncomputable abbrev prog_round_l5_s (x0 : Int) (x1 : Int) (x2 : Int) (x3 : List (List api_Node)) (x4 : Int) (x5 : List (List api_Node)) (x6 : Int) (x7 : Int) (x8 : List api_Node) (x9 : Int) (x10 : Int) : St := ⟨dead :: .ptr 0 [] 0 0 :: dead :: dead :: dead :: .pv (.int .i64 x4) :: (List.replicate 4 dead ++ (.pv (.seq (List.length x5) (encP e_61 ([] : List api_Node) x5)) :: .pv (.int .i64 x6) :: .pv (.int .i64 x7) :: (List.replicate 4 dead ++ (.pv (.seq (List.length x8) (encP e_api_Node d_api_Node x8)) :: .pv (.int .i64 x9) :: .pv (.int .i64 x10) :: List.replicate 22 dead)))), [.box 0 [.pv (.int .i64 x0), .pv (.int .i64 x1), .pv (.int .i64 x2), .pv (.seq (List.length x3) (encP e_61 ([] : List api_Node) x3))]]⟩
theorem prog_round_l5_ok (x0 : Int) (x1 : Int) (x2 : Int) (x3 : List (List api_Node)) (x4 : Int) (x5 : List (List api_Node)) (x6 : Int) (x7 : Int) (x8 : List api_Node) (x9 : Int) (x10 : Int) (r : prog_round_l5_R) (h : prog_round_l5 x0 x1 x2 x3 x4 x5 x6 x7 x8 x9 x10 = some r) : Loops Try.prog prog_round_l5_c 0 (prog_round_l5_s x0 x1 x2 x3 x4 x5 x6 x7 x8 x9 x10) r.ex (prog_round_l5_R.st x0 x1 x2 x3 x4 x5 x6 x7 x8 x9 x10 r) := by
 refine prog_round_l5.partial_correctness x0 x1 x2 x3 x4 x5 x6 x7 x8 x9 (fun x10 r => Loops Try.prog prog_round_l5_c 0 (prog_round_l5_s x0 x1 x2 x3 x4 x5 x6 x7 x8 x9 x10) r.ex (prog_round_l5_R.st x0 x1 x2 x3 x4 x5 x6 x7 x8 x9 x10 r)) ?_ x10 r h
 clear h r x10
 intro self ih x10 r h
 rcases if_of h with ⟨c4, h⟩ | ⟨c4, h⟩
 · obtain ⟨c5, h⟩ := need_of h
   obtain ⟨c6, h⟩ := need_of h
   rcases if_of h with ⟨c7, h⟩ | ⟨c7, h⟩
   · obtain ⟨c8, h⟩ := need_of h
     obtain ⟨c9, h⟩ := need_of h
     obtain ⟨v10, h11, h⟩ := bind_of h
     rcases if_of h with ⟨c12, h⟩ | ⟨c12, h⟩
     · have h := Option.some.inj h; subst h
       exact plast mixed lives 115 (by kernel_rfl) (pk <| pb c4 <| pn c5 <| pn c6 <| pk5 <| pb c7 <| pk8 <| pk3 <| pn c8 <| pn ((decide_eq_true rfl) : (decide (((((List.length x3 : Nat) : Int)) : Int) = (((List.length x3 : Nat) : Int)))) = true) <| pn c9 <| pe (eff_make o_bool false 2 1 (Int.toNat (((List.length x3 : Nat) : Int)))) <| pk <| pc (prog_reaches_ok _ _ _ _ _ h11) <| pk2 <| pb c12 <| pz) rfl
     · exact pmore mixed lives 115 (by kernel_rfl) (pk <| pb c4 <| pn c5 <| pn c6 <| pk5 <| pb c7 <| pk8 <| pk3 <| pn c8 <| pn ((decide_eq_true rfl) : (decide (((((List.length x3 : Nat) : Int)) : Int) = (((List.length x3 : Nat) : Int)))) = true) <| pn c9 <| pe (eff_make o_bool false 2 1 (Int.toNat (((List.length x3 : Nat) : Int)))) <| pk <| pc (prog_reaches_ok _ _ _ _ _ h11) <| pk2 <| pb c12 <| pk <| pz) (ih (iAdd x10 1) _ h)
   · exact pmore mixed lives 115 (by kernel_rfl) (pk <| pb c4 <| pn c5 <| pn c6 <| pk5 <| pb c7 <| pk8 <| pk3 <| pz) (ih (iAdd x10 1) _ h)
 · have h := Option.some.inj h; subst h
   exact plast mixed lives 115 (by kernel_rfl) (pk <| pb c4 <| pz) rfl
noncomputable def prog_round_l2_c : Code := sub (codeOf Try.prog 115) [1, 0, 1, 0, 0]
inductive prog_round_l2_R where
  | x0 (v0 : Int) (v1 : Int) (v2 : Bool)
  | x1
def prog_round_l2_R.ex : prog_round_l2_R → Ex
  | .x0 _ _ _ => .ret
  | .x1 => .exit 0
noncomputable def prog_round_l2_R.st (x0 : Int) (x1 : Int) (x2 : Int) (x3 : List (List api_Node)) (x4 : List (List api_Node)) (x5 : Int) (x6 : Int) : prog_round_l2_R → St
  | .x0 v0 v1 v2 => ⟨dead :: dead :: .pv (.int .i64 v0) :: .pv (.int .i64 v1) :: .pv (.bool v2) :: List.replicate 37 dead, []⟩
  | .x1 => ⟨List.replicate 42 dead, []⟩
def prog_round_l2 (x0 : Int) (x1 : Int) (x2 : Int) (x3 : List (List api_Node)) (x4 : List (List api_Node)) (x5 : Int) (x6 : Int) : Option (prog_round_l2_R) :=
  if (decide ((x6 : Int) < x5)) = true then
    if (decide ((0 : Int) ≤ x6)) = true then
      if (decide ((x6 : Int) < ((List.length x4 : Nat) : Int))) = true then
        bind (prog_round_l5 x0 x1 x2 x3 x6 x4 x5 x6 (List.getD x4 (Int.toNat x6) (([] : List api_Node))) (((List.length (List.getD x4 (Int.toNat x6) (([] : List api_Node))) : Nat) : Int)) 0) fun q => match q with
          | .x0 v13 v14 =>
            some (.x0 x6 v13 v14)
          | .x1 =>
            prog_round_l2 x0 x1 x2 x3 x4 x5 (iAdd x6 1)
      else none
    else none
  else
    some (.x1)
partial_fixpoint
noncomputable abbrev prog_round_l2_s (x0 : Int) (x1 : Int) (x2 : Int) (x3 : List (List api_Node)) (x4 : List (List api_Node)) (x5 : Int) (x6 : Int) : St := ⟨dead :: .ptr 0 [] 0 0 :: (List.replicate 8 dead ++ (.pv (.seq (List.length x4) (encP e_61 ([] : List api_Node) x4)) :: .pv (.int .i64 x5) :: .pv (.int .i64 x6) :: List.replicate 29 dead)), [.box 0 [.pv (.int .i64 x0), .pv (.int .i64 x1), .pv (.int .i64 x2), .pv (.seq (List.length x3) (encP e_61 ([] : List api_Node) x3))]]⟩
theorem prog_round_l2_ok (x0 : Int) (x1 : Int) (x2 : Int) (x3 : List (List api_Node)) (x4 : List (List api_Node)) (x5 : Int) (x6 : Int) (r : prog_round_l2_R) (h : prog_round_l2 x0 x1 x2 x3 x4 x5 x6 = some r) : Loops Try.prog prog_round_l2_c 0 (prog_round_l2_s x0 x1 x2 x3 x4 x5 x6) r.ex (prog_round_l2_R.st x0 x1 x2 x3 x4 x5 x6 r) := by
 refine prog_round_l2.partial_correctness x0 x1 x2 x3 x4 x5 (fun x6 r => Loops Try.prog prog_round_l2_c 0 (prog_round_l2_s x0 x1 x2 x3 x4 x5 x6) r.ex (prog_round_l2_R.st x0 x1 x2 x3 x4 x5 x6 r)) ?_ x6 r h
 clear h r x6
 intro self ih x6 r h
 rcases if_of h with ⟨c1, h⟩ | ⟨c1, h⟩
 · obtain ⟨c2, h⟩ := need_of h
   obtain ⟨c3, h⟩ := need_of h
   obtain ⟨q, hq, h⟩ := bind_of h
   cases q with
   | x0 v13 v14 =>
    have h15 := hq; clear hq
    try dsimp only at h
    have h := Option.some.inj h; subst h
    exact plast mixed lives 115 (by kernel_rfl) (pk <| pb c1 <| pn c2 <| pn c3 <| pk2 <| pl (prog_round_l5_ok _ _ _ _ _ _ _ _ _ _ _ _ h15) <| pz) rfl
   | x1 =>
    have h16 := hq; clear hq
    try dsimp only at h
    exact pmore mixed lives 115 (by kernel_rfl) (pk <| pb c1 <| pn c2 <| pn c3 <| pk2 <| pl (prog_round_l5_ok _ _ _ _ _ _ _ _ _ _ _ _ h16) <| pk <| pz) (ih (iAdd x6 1) _ h)
 · have h := Option.some.inj h; subst h
   exact plast mixed lives 115 (by kernel_rfl) (pk <| pb c1 <| pz) rfl
/-- alibi/prog.round -/
def prog_round (p : api_Program) : Option (Int × Int × Bool) :=
  bind (prog_round_l2 p.globals p.locks p.slots p.funcs p.funcs (((List.length p.funcs : Nat) : Int)) 0) fun q => match q with
    | .x0 v17 v18 v19 =>
      some (v17, v18, v19)
    | .x1 =>
      some (0, 0, false)
theorem prog_round_ok (p : api_Program) (r : Int × Int × Bool) (h : prog_round p = some r) : Does Try.prog 115 [.agg [.pv (.int .i64 p.globals), .pv (.int .i64 p.locks), .pv (.int .i64 p.slots), .pv (.seq (List.length p.funcs) (encP e_61 ([] : List api_Node) p.funcs))]] [] (.tup [.pv (.int .i64 r.1), .pv (.int .i64 r.2.1), .pv (.bool r.2.2)], []) := by
 unfold prog_round at h
 obtain ⟨q, hq, h⟩ := bind_of h
 cases q with
 | x0 v17 v18 v19 =>
  have h20 := hq; clear hq
  try dsimp only at h
  have h := Option.some.inj h; subst h
  exact pdoes mixed (L := lives) (by kernel_rfl) (pk3 <| pl (prog_round_l2_ok _ _ _ _ _ _ _ _ h20) <| pz)
 | x1 =>
  have h21 := hq; clear hq
  try dsimp only at h
  have h := Option.some.inj h; subst h
  exact pdoes mixed (L := lives) (by kernel_rfl) (pk3 <| pl (prog_round_l2_ok _ _ _ _ _ _ _ _ h21) <| pz)
/-- alibi/prog.Check -/
def prog_Check (p : api_Program) : Option (Int × Int × Int) :=
  if (decide ((p.globals : Int) < 0)) = true then
    some ((-1), (-1), 1)
  else
    if (decide ((p.locks : Int) < 0)) = true then
      some ((-1), (-1), 1)
    else
      if (decide ((p.slots : Int) < 0)) = true then
        some ((-1), (-1), 1)
      else
        if (((((List.length p.funcs : Nat) : Int)) : Int) == 0) = true then
          some ((-1), (-1), 1)
        else
          if (decide ((p.globals : Int) > 16)) = true then
            some ((-1), (-1), 4)
          else
            if (decide ((p.locks : Int) > 16)) = true then
              some ((-1), (-1), 4)
            else
              if (decide ((p.slots : Int) > 8)) = true then
                some ((-1), (-1), 4)
              else
                if (decide (((((List.length p.funcs : Nat) : Int)) : Int) > 16)) = true then
                  some ((-1), (-1), 4)
                else
                  bind (prog_Check_l6 p.globals p.locks p.slots p.funcs p.funcs (((List.length p.funcs : Nat) : Int)) 0) fun q => match q with
                    | .x0 v24 v25 v26 =>
                      some (v24, v25, v26)
                    | .x1 =>
                      bind (prog_round p) fun v29 =>
                      if v29.2.2 = true then
                        some (v29.1, v29.2.1, 8)
                      else
                        some (0, 0, 0)
theorem prog_Check_ok (p : api_Program) (r : Int × Int × Int) (h : prog_Check p = some r) : Does Try.prog 76 [.agg [.pv (.int .i64 p.globals), .pv (.int .i64 p.locks), .pv (.int .i64 p.slots), .pv (.seq (List.length p.funcs) (encP e_61 ([] : List api_Node) p.funcs))]] [] (.tup [.pv (.int .i64 r.1), .pv (.int .i64 r.2.1), .pv (.int .i64 r.2.2)], []) := by
 unfold prog_Check at h
 rcases if_of h with ⟨c1, h⟩ | ⟨c1, h⟩
 · have h := Option.some.inj h; subst h
   exact pdoes mixed (L := lives) (by kernel_rfl) (pk3 <| pb c1 <| pk8 <| pk5 <| pz)
 · rcases if_of h with ⟨c2, h⟩ | ⟨c2, h⟩
   · have h := Option.some.inj h; subst h
     exact pdoes mixed (L := lives) (by kernel_rfl) (pk3 <| pb c1 <| pk5 <| pb c2 <| pk8 <| pk <| pz)
   · rcases if_of h with ⟨c3, h⟩ | ⟨c3, h⟩
     · have h := Option.some.inj h; subst h
       exact pdoes mixed (L := lives) (by kernel_rfl) (pk3 <| pb c1 <| pk5 <| pb c2 <| pk5 <| pb c3 <| pk5 <| pz)
     · rcases if_of h with ⟨c4, h⟩ | ⟨c4, h⟩
       · have h := Option.some.inj h; subst h
         exact pdoes mixed (L := lives) (by kernel_rfl) (pk3 <| pb c1 <| pk5 <| pb c2 <| pk5 <| pb c3 <| pk7 <| pb c4 <| pz)
       · rcases if_of h with ⟨c5, h⟩ | ⟨c5, h⟩
         · have h := Option.some.inj h; subst h
           exact pdoes mixed (L := lives) (by kernel_rfl) (pk3 <| pb c1 <| pk5 <| pb c2 <| pk5 <| pb c3 <| pk7 <| pb c4 <| pk2 <| pb c5 <| pk8 <| pk5 <| pz)
         · rcases if_of h with ⟨c6, h⟩ | ⟨c6, h⟩
           · have h := Option.some.inj h; subst h
             exact pdoes mixed (L := lives) (by kernel_rfl) (pk3 <| pb c1 <| pk5 <| pb c2 <| pk5 <| pb c3 <| pk7 <| pb c4 <| pk2 <| pb c5 <| pk5 <| pb c6 <| pk8 <| pk <| pz)
           · rcases if_of h with ⟨c7, h⟩ | ⟨c7, h⟩
             · have h := Option.some.inj h; subst h
               exact pdoes mixed (L := lives) (by kernel_rfl) (pk3 <| pb c1 <| pk5 <| pb c2 <| pk5 <| pb c3 <| pk7 <| pb c4 <| pk2 <| pb c5 <| pk5 <| pb c6 <| pk5 <| pb c7 <| pk5 <| pz)
             · rcases if_of h with ⟨c8, h⟩ | ⟨c8, h⟩
               · have h := Option.some.inj h; subst h
                 exact pdoes mixed (L := lives) (by kernel_rfl) (pk3 <| pb c1 <| pk5 <| pb c2 <| pk5 <| pb c3 <| pk7 <| pb c4 <| pk2 <| pb c5 <| pk5 <| pb c6 <| pk5 <| pb c7 <| pk7 <| pb c8 <| pz)
               · obtain ⟨q, hq, h⟩ := bind_of h
                 cases q with
                 | x0 v24 v25 v26 =>
                  have h27 := hq; clear hq
                  try dsimp only at h
                  have h := Option.some.inj h; subst h
                  exact pdoes mixed (L := lives) (by kernel_rfl) (pk3 <| pb c1 <| pk5 <| pb c2 <| pk5 <| pb c3 <| pk7 <| pb c4 <| pk2 <| pb c5 <| pk5 <| pb c6 <| pk5 <| pb c7 <| pk7 <| pb c8 <| pk2 <| pl (prog_Check_l6_ok _ _ _ _ _ _ _ _ h27) <| pz)
                 | x1 =>
                  have h28 := hq; clear hq
                  try dsimp only at h
                  obtain ⟨v29, h30, h⟩ := bind_of h
                  rcases if_of h with ⟨c31, h⟩ | ⟨c31, h⟩
                  · have h := Option.some.inj h; subst h
                    exact pdoes mixed (L := lives) (by kernel_rfl) (pk3 <| pb c1 <| pk5 <| pb c2 <| pk5 <| pb c3 <| pk7 <| pb c4 <| pk2 <| pb c5 <| pk5 <| pb c6 <| pk5 <| pb c7 <| pk7 <| pb c8 <| pk2 <| pl (prog_Check_l6_ok _ _ _ _ _ _ _ _ h28) <| pk <| pc (prog_round_ok _ _ h30) <| pk <| pb c31 <| pz)
                  · have h := Option.some.inj h; subst h
                    exact pdoes mixed (L := lives) (by kernel_rfl) (pk3 <| pb c1 <| pk5 <| pb c2 <| pk5 <| pb c3 <| pk7 <| pb c4 <| pk2 <| pb c5 <| pk5 <| pb c6 <| pk5 <| pb c7 <| pk7 <| pb c8 <| pk2 <| pl (prog_Check_l6_ok _ _ _ _ _ _ _ _ h28) <| pk <| pc (prog_round_ok _ _ h30) <| pk <| pb c31 <| pz)
def o_i64 (x : Int) : List AV := [.pv (.int .i64 x)]
noncomputable def graph_named_l3_c : Code := sub (codeOf Try.prog 116) [1, 1, 0, 1, 0, 0]
def graph_named_l3 (x0 : Int) (x1 : BitVec 32) (x2 : List api_Node) (x3 : Int) (x4 : Int) : Option ((BitVec 32)) :=
  if (decide ((x4 : Int) < x3)) = true then
    if (decide ((0 : Int) ≤ x4)) = true then
      if (decide ((x4 : Int) < ((List.length x2 : Nat) : Int))) = true then
        if ((((List.getD x2 (Int.toNat x4) d_api_Node).kind) : Int) == x0) = true then
          bind (sets_One ((List.getD x2 (Int.toNat x4) d_api_Node).arg)) fun v5 =>
          graph_named_l3 x0 (x1 ||| v5) x2 x3 (iAdd x4 1)
        else
          graph_named_l3 x0 x1 x2 x3 (iAdd x4 1)
      else none
    else none
  else
    some x1
partial_fixpoint
noncomputable abbrev graph_named_l3_s (x0 : Int) (x1 : BitVec 32) (x2 : List api_Node) (x3 : Int) (x4 : Int) : St := ⟨dead :: .pv (.int .i64 x0) :: dead :: dead :: dead :: .pv (.int .u32 (BitVec.toNat x1 : Nat)) :: dead :: dead :: .pv (.seq (List.length x2) (encP e_api_Node d_api_Node x2)) :: .pv (.int .i64 x3) :: .pv (.int .i64 x4) :: List.replicate 14 dead, []⟩
noncomputable abbrev graph_named_l3_e (x0 : Int) (x1 : BitVec 32) (x2 : List api_Node) (x3 : Int) (x4 : Int) (r : (BitVec 32)) : St := ⟨(List.replicate 5 dead ++ (.pv (.int .u32 (BitVec.toNat r : Nat)) :: List.replicate 19 dead)), []⟩
theorem graph_named_l3_ok (x0 : Int) (x1 : BitVec 32) (x2 : List api_Node) (x3 : Int) (x4 : Int) (r : (BitVec 32)) (h : graph_named_l3 x0 x1 x2 x3 x4 = some r) : Loops Try.prog graph_named_l3_c 0 (graph_named_l3_s x0 x1 x2 x3 x4) (.exit 0) (graph_named_l3_e x0 x1 x2 x3 x4 r) := by
 refine graph_named_l3.partial_correctness x0 x2 x3 (fun x1 x4 r => Loops Try.prog graph_named_l3_c 0 (graph_named_l3_s x0 x1 x2 x3 x4) (.exit 0) (graph_named_l3_e x0 x1 x2 x3 x4 r)) ?_ x1 x4 r h
 clear h r x1 x4
 intro self ih x1 x4 r h
 rcases if_of h with ⟨c1, h⟩ | ⟨c1, h⟩
 · obtain ⟨c2, h⟩ := need_of h
   obtain ⟨c3, h⟩ := need_of h
   rcases if_of h with ⟨c4, h⟩ | ⟨c4, h⟩
   · obtain ⟨v5, h6, h⟩ := bind_of h
     exact pmore mixed lives 116 (by kernel_rfl) (pk <| pb c1 <| pn c2 <| pn c3 <| pk5 <| pb c4 <| pk <| pc (sets_One_ok _ _ h6) <| pk <| pe (eff_int (k := .u32) (un_or .u32 rfl x1 v5)) <| pk <| pz) (ih (x1 ||| v5) (iAdd x4 1) _ h)
   · exact pmore mixed lives 116 (by kernel_rfl) (pk <| pb c1 <| pn c2 <| pn c3 <| pk5 <| pb c4 <| pk <| pz) (ih x1 (iAdd x4 1) _ h)
 · have h := Option.some.inj h; subst h
   exact plast mixed lives 116 (by kernel_rfl) (pk <| pb c1 <| pz) rfl
/-- alibi/graph.named -/
def graph_named (l : List api_Node) (kind : Int) : Option ((BitVec 32)) :=
  bind (graph_named_l3 kind (0#32) l (((List.length l : Nat) : Int)) 0) fun v7 =>
  some v7
theorem graph_named_ok (l : List api_Node) (kind : Int) (r : (BitVec 32)) (h : graph_named l kind = some r) : Does Try.prog 116 [.pv (.seq (List.length l) (encP e_api_Node d_api_Node l)), .pv (.int .i64 kind)] [] (.pv (.int .u32 (BitVec.toNat r : Nat)), []) := by
 unfold graph_named at h
 obtain ⟨v7, h8, h⟩ := bind_of h
 have h := Option.some.inj h; subst h
 exact pdoes mixed (L := lives) (by kernel_rfl) (pk <| pl (graph_named_l3_ok _ _ _ _ _ _ h8) <| pz)
def o_u32 (x : BitVec 32) : List AV := [.pv (.int .u32 (BitVec.toNat x : Nat))]
noncomputable def graph_Callees_l3_c : Code := sub (codeOf Try.prog 77) [1, 1, 0, 1, 0, 0]
def graph_Callees_l3 (x0 : List (BitVec 32)) (x1 : List (List api_Node)) (x2 : Int) (x3 : Int) : Option ((List (BitVec 32))) :=
  if (decide ((x3 : Int) < x2)) = true then
    if (decide ((0 : Int) ≤ x3)) = true then
      if (decide ((x3 : Int) < ((List.length x1 : Nat) : Int))) = true then
        bind (graph_named (List.getD x1 (Int.toNat x3) (([] : List api_Node))) 7) fun v4 =>
        if (Nat.ble ((List.length x0 + List.length ([v4])) * 4) reach) = true then
          graph_Callees_l3 (x0 ++ ([v4])) x1 x2 (iAdd x3 1)
        else none
      else none
    else none
  else
    some x0
partial_fixpoint
noncomputable abbrev graph_Callees_l3_s (x0 : List (BitVec 32)) (x1 : List (List api_Node)) (x2 : Int) (x3 : Int) : St := ⟨dead :: dead :: dead :: .ms 0 [] 0 (List.length x0) :: dead :: dead :: dead :: .pv (.seq (List.length x1) (encP e_61 ([] : List api_Node) x1)) :: .pv (.int .i64 x2) :: .pv (.int .i64 x3) :: List.replicate 10 dead, [.arr 0 1 (List.length x0) (encW o_u32 0#32 x0)]⟩
noncomputable abbrev graph_Callees_l3_e (x0 : List (BitVec 32)) (x1 : List (List api_Node)) (x2 : Int) (x3 : Int) (r : (List (BitVec 32))) : St := ⟨dead :: dead :: dead :: .ms 0 [] 0 (List.length r) :: List.replicate 16 dead, [.arr 0 1 (List.length r) (encW o_u32 0#32 r)]⟩
theorem graph_Callees_l3_ok (x0 : List (BitVec 32)) (x1 : List (List api_Node)) (x2 : Int) (x3 : Int) (r : (List (BitVec 32))) (h : graph_Callees_l3 x0 x1 x2 x3 = some r) : Loops Try.prog graph_Callees_l3_c 0 (graph_Callees_l3_s x0 x1 x2 x3) (.exit 0) (graph_Callees_l3_e x0 x1 x2 x3 r) := by
 refine graph_Callees_l3.partial_correctness x1 x2 (fun x0 x3 r => Loops Try.prog graph_Callees_l3_c 0 (graph_Callees_l3_s x0 x1 x2 x3) (.exit 0) (graph_Callees_l3_e x0 x1 x2 x3 r)) ?_ x0 x3 r h
 clear h r x0 x3
 intro self ih x0 x3 r h
 rcases if_of h with ⟨c1, h⟩ | ⟨c1, h⟩
 · obtain ⟨c2, h⟩ := need_of h
   obtain ⟨c3, h⟩ := need_of h
   obtain ⟨v4, h5, h⟩ := bind_of h
   obtain ⟨c6, h⟩ := need_of h
   exact pmore mixed lives 77 (by kernel_rfl) (pk <| pb c1 <| pn c2 <| pn c3 <| pk <| pc (graph_named_ok _ _ _ h5) <| pk <| pe (eff_lit o_u32 (0#32) 5 1 1 ([v4]) rfl [] []) <| pb (whole_ok (List.length ([v4]))) <| pn c6 <| pe (eff_app o_u32 (0#32) x0 ([v4]) (x0 ++ ([v4])) 0 1 (List.length x0) (List.length ([v4])) (fun i => List.map AV.scal (encW o_u32 (0#32) ([v4]) i)) (encW o_u32 (0#32) x0 (List.length x0)) [] [] [(0, false)] (by first | exact Nat.le_refl _ | exact Nat.zero_le _ | (simp only [decide_eq_true_eq, List.length_set, List.length_append, List.length_replicate, List.length_cons, List.length_nil, Nat.zero_add] at * <;> omega)) rfl (fun _ => by kernel_rfl) (congrArg o_u32 (getD_ge (0#32) (by first | exact Nat.le_refl _ | exact Nat.zero_le _ | (simp only [decide_eq_true_eq, List.length_set, List.length_append, List.length_replicate, List.length_cons, List.length_nil, Nat.zero_add] at * <;> omega)))) (by rw [List.take_of_length_le (by first | exact Nat.le_refl _ | exact Nat.zero_le _ | (simp only [decide_eq_true_eq, List.length_set, List.length_append, List.length_replicate, List.length_cons, List.length_nil, Nat.zero_add] at * <;> omega))])) <| pk <| pz) (ih (x0 ++ ([v4])) (iAdd x3 1) _ h)
 · have h := Option.some.inj h; subst h
   exact plast mixed lives 77 (by kernel_rfl) (pk <| pb c1 <| pz) rfl
/-- alibi/graph.Callees -/
def graph_Callees (p : api_Program) : Option ((List (BitVec 32))) :=
  bind (graph_Callees_l3 (([] : List (BitVec 32))) p.funcs (((List.length p.funcs : Nat) : Int)) 0) fun v7 =>
  some v7
theorem graph_Callees_ok (p : api_Program) (r : (List (BitVec 32))) (h : graph_Callees p = some r) : Does Try.prog 77 [.agg [.pv (.int .i64 p.globals), .pv (.int .i64 p.locks), .pv (.int .i64 p.slots), .pv (.seq (List.length p.funcs) (encP e_61 ([] : List api_Node) p.funcs))]] [] (.ms 0 [] 0 (List.length r), [.arr 0 1 (List.length r) (encW o_u32 0#32 r)]) := by
 unfold graph_Callees at h
 obtain ⟨v7, h8, h⟩ := bind_of h
 have h := Option.some.inj h; subst h
 exact pdoes mixed (L := lives) (by kernel_rfl) (pk3 <| pl (Loops.of (s1 := ⟨dead :: dead :: dead :: .ms 0 [] 0 (List.length ([] : List (BitVec 32))) :: dead :: dead :: dead :: .pv (.seq (List.length p.funcs) (encP e_61 ([] : List api_Node) p.funcs)) :: .pv (.int .i64 (((List.length p.funcs : Nat) : Int))) :: .pv (.int .i64 0) :: List.replicate 10 dead, [.arr 0 1 (List.length ([] : List (BitVec 32))) (encW o_u32 0#32 (([] : List (BitVec 32))))]⟩) (graph_Callees_l3_ok _ _ _ _ _ h8) (by (first | rfl | (simp only [graph_Callees_l3_s, List.length_set]; done)))) <| pz)
def str_0 : ByteArray := (ByteArray.mk #[0, 1, 1, 2, 1, 2, 2, 3, 1, 2, 2, 3, 2, 3, 3, 4, 1, 2, 2, 3, 2, 3, 3, 4, 2, 3, 3, 4, 3, 4, 4, 5, 1, 2, 2, 3, 2, 3, 3, 4, 2, 3, 3, 4, 3, 4, 4, 5, 2, 3, 3, 4, 3, 4, 4, 5, 3, 4, 4, 5, 4, 5, 5, 6, 1, 2, 2, 3, 2, 3, 3, 4, 2, 3, 3, 4, 3, 4, 4, 5, 2, 3, 3, 4, 3, 4, 4, 5, 3, 4, 4, 5, 4, 5, 5, 6, 2, 3, 3, 4, 3, 4, 4, 5, 3, 4, 4, 5, 4, 5, 5, 6, 3, 4, 4, 5, 4, 5, 5, 6, 4, 5, 5, 6, 5, 6, 6, 7, 1, 2, 2, 3, 2, 3, 3, 4, 2, 3, 3, 4, 3, 4, 4, 5, 2, 3, 3, 4, 3, 4, 4, 5, 3, 4, 4, 5, 4, 5, 5, 6, 2, 3, 3, 4, 3, 4, 4, 5, 3, 4, 4, 5, 4, 5, 5, 6, 3, 4, 4, 5, 4, 5, 5, 6, 4, 5, 5, 6, 5, 6, 6, 7, 2, 3, 3, 4, 3, 4, 4, 5, 3, 4, 4, 5, 4, 5, 5, 6, 3, 4, 4, 5, 4, 5, 5, 6, 4, 5, 5, 6, 5, 6, 6, 7, 3, 4, 4, 5, 4, 5, 5, 6, 4, 5, 5, 6, 5, 6, 6, 7, 4, 5, 5, 6, 5, 6, 6, 7, 5, 6, 6, 7, 6, 7, 7, 8])
/-- math/bits.OnesCount32 -/
def math_bits_OnesCount32 (x : BitVec 32) : Option (Int) :=
  if (decide ((((BitVec.toNat (x >>> (BitVec.toNat (24#64))) : Nat) : Int) : Int) < ((ByteArray.size str_0 : Nat) : Int))) = true then
    if (decide ((((BitVec.toNat ((x >>> (BitVec.toNat (16#64))) &&& (255#32)) : Nat) : Int) : Int) < ((ByteArray.size str_0 : Nat) : Int))) = true then
      if (decide ((((BitVec.toNat ((x >>> (BitVec.toNat (8#64))) &&& (255#32)) : Nat) : Int) : Int) < ((ByteArray.size str_0 : Nat) : Int))) = true then
        if (decide ((((BitVec.toNat (x &&& (255#32)) : Nat) : Int) : Int) < ((ByteArray.size str_0 : Nat) : Int))) = true then
          some ((BitVec.toNat ((((byteAt str_0 (BitVec.toNat (x >>> (BitVec.toNat (24#64))))) + (byteAt str_0 (BitVec.toNat ((x >>> (BitVec.toNat (16#64))) &&& (255#32))))) + (byteAt str_0 (BitVec.toNat ((x >>> (BitVec.toNat (8#64))) &&& (255#32))))) + (byteAt str_0 (BitVec.toNat (x &&& (255#32))))) : Int))
        else none
      else none
    else none
  else none
theorem math_bits_OnesCount32_ok (x : BitVec 32) (r : Int) (h : math_bits_OnesCount32 x = some r) : Does Try.prog 117 [.pv (.int .u32 (BitVec.toNat x : Nat))] [] (.pv (.int .i64 r), []) := by
 unfold math_bits_OnesCount32 at h
 obtain ⟨c1, h⟩ := need_of h
 obtain ⟨c2, h⟩ := need_of h
 obtain ⟨c3, h⟩ := need_of h
 obtain ⟨c4, h⟩ := need_of h
 have h := Option.some.inj h; subst h
 exact pdoes mixed (L := lives) (by kernel_rfl) (pn ((decide_eq_true (Int.natCast_nonneg _)) : (decide ((0 : Int) ≤ ((BitVec.toNat (24#64) : Nat) : Int))) = true) <| pe (eff_int (k := .u32) (un_shr .u32 x (BitVec.toNat (24#64)))) <| pn ((decide_eq_true (Int.natCast_nonneg _)) : (decide ((0 : Int) ≤ ((BitVec.toNat (x >>> (BitVec.toNat (24#64))) : Nat) : Int))) = true) <| pn c1 <| pk <| pn ((decide_eq_true (Int.natCast_nonneg _)) : (decide ((0 : Int) ≤ ((BitVec.toNat (16#64) : Nat) : Int))) = true) <| pe (eff_int (k := .u32) (un_shr .u32 x (BitVec.toNat (16#64)))) <| pe (eff_int (k := .u32) (un_and .u32 rfl (x >>> (BitVec.toNat (16#64))) (255#32))) <| pn ((decide_eq_true (Int.natCast_nonneg _)) : (decide ((0 : Int) ≤ ((BitVec.toNat ((x >>> (BitVec.toNat (16#64))) &&& (255#32)) : Nat) : Int))) = true) <| pn c2 <| pk <| pe (eff_int (k := .u8) (un_add .u8 rfl (byteAt str_0 (BitVec.toNat (x >>> (BitVec.toNat (24#64))))) (byteAt str_0 (BitVec.toNat ((x >>> (BitVec.toNat (16#64))) &&& (255#32)))))) <| pn ((decide_eq_true (Int.natCast_nonneg _)) : (decide ((0 : Int) ≤ ((BitVec.toNat (8#64) : Nat) : Int))) = true) <| pe (eff_int (k := .u32) (un_shr .u32 x (BitVec.toNat (8#64)))) <| pe (eff_int (k := .u32) (un_and .u32 rfl (x >>> (BitVec.toNat (8#64))) (255#32))) <| pn ((decide_eq_true (Int.natCast_nonneg _)) : (decide ((0 : Int) ≤ ((BitVec.toNat ((x >>> (BitVec.toNat (8#64))) &&& (255#32)) : Nat) : Int))) = true) <| pn c3 <| pk <| pe (eff_int (k := .u8) (un_add .u8 rfl ((byteAt str_0 (BitVec.toNat (x >>> (BitVec.toNat (24#64))))) + (byteAt str_0 (BitVec.toNat ((x >>> (BitVec.toNat (16#64))) &&& (255#32))))) (byteAt str_0 (BitVec.toNat ((x >>> (BitVec.toNat (8#64))) &&& (255#32)))))) <| pe (eff_int (k := .u32) (un_and .u32 rfl x (255#32))) <| pn ((decide_eq_true (Int.natCast_nonneg _)) : (decide ((0 : Int) ≤ ((BitVec.toNat (x &&& (255#32)) : Nat) : Int))) = true) <| pn c4 <| pk <| pe (eff_int (k := .u8) (un_add .u8 rfl (((byteAt str_0 (BitVec.toNat (x >>> (BitVec.toNat (24#64))))) + (byteAt str_0 (BitVec.toNat ((x >>> (BitVec.toNat (16#64))) &&& (255#32))))) + (byteAt str_0 (BitVec.toNat ((x >>> (BitVec.toNat (8#64))) &&& (255#32))))) (byteAt str_0 (BitVec.toNat (x &&& (255#32)))))) <| pe (eff_int (k := .i64) (int_un 8 (by decide) ((((byteAt str_0 (BitVec.toNat (x >>> (BitVec.toNat (24#64))))) + (byteAt str_0 (BitVec.toNat ((x >>> (BitVec.toNat (16#64))) &&& (255#32))))) + (byteAt str_0 (BitVec.toNat ((x >>> (BitVec.toNat (8#64))) &&& (255#32))))) + (byteAt str_0 (BitVec.toNat (x &&& (255#32))))))) <| pz)
/-- alibi/sets.Count -/
def sets_Count (m : BitVec 32) : Option (Int) :=
  bind (math_bits_OnesCount32 m) fun v1 =>
  some v1
theorem sets_Count_ok (m : BitVec 32) (r : Int) (h : sets_Count m = some r) : Does Try.prog 78 [.pv (.int .u32 (BitVec.toNat m : Nat))] [] (.pv (.int .i64 r), []) := by
 unfold sets_Count at h
 obtain ⟨v1, h2, h⟩ := bind_of h
 have h := Option.some.inj h; subst h
 exact pdoes mixed (L := lives) (by kernel_rfl) (pc (math_bits_OnesCount32_ok _ _ h2) <| pk <| pz)
/-- (*alibi/graph.ids).Push -/
def graph_ids_Push (l1 : List Int) (x : Int) : Option ((List Int)) :=
  if (Nat.ble ((List.length l1 + List.length ([x])) * 8) reach) = true then
    some (l1 ++ ([x]))
  else none
theorem graph_ids_Push_ok (l1 : List Int) (x : Int) (r : (List Int)) (h : graph_ids_Push l1 x = some r) : Does Try.prog 150 [.ptr 0 [] 0 0, .ifc 3 (.pv (.int .i64 x))] [.box 2 [.ms 1 [] 0 (List.length l1)], .arr 2 1 (List.length l1) (encW o_i64 0 l1)] (.tup [], [.box 2 [.ms 1 [] 0 (List.length r)], .arr 0 1 (List.length r) (encW o_i64 0 r)]) := by
 unfold graph_ids_Push at h
 obtain ⟨c1, h⟩ := need_of h
 have h := Option.some.inj h; subst h
 exact pdoes mixed (L := lives) (by kernel_rfl) (pk <| pe (eff_lit o_i64 0 2 1 1 ([x]) rfl [] []) <| pb (whole_ok (List.length ([x]))) <| pn c1 <| pe (eff_app o_i64 0 l1 ([x]) (l1 ++ ([x])) 1 1 (List.length l1) (List.length ([x])) (fun i => List.map AV.scal (encW o_i64 0 ([x]) i)) (encW o_i64 0 l1 (List.length l1)) [] [] [(1, false)] (by first | exact Nat.le_refl _ | exact Nat.zero_le _ | (simp only [decide_eq_true_eq, List.length_set, List.length_append, List.length_replicate, List.length_cons, List.length_nil, Nat.zero_add] at * <;> omega)) rfl (fun _ => by kernel_rfl) (congrArg o_i64 (getD_ge 0 (by first | exact Nat.le_refl _ | exact Nat.zero_le _ | (simp only [decide_eq_true_eq, List.length_set, List.length_append, List.length_replicate, List.length_cons, List.length_nil, Nat.zero_add] at * <;> omega)))) (by rw [List.take_of_length_le (by first | exact Nat.le_refl _ | exact Nat.zero_le _ | (simp only [decide_eq_true_eq, List.length_set, List.length_append, List.length_replicate, List.length_cons, List.length_nil, Nat.zero_add] at * <;> omega))])) <| pk <| pz)
def e_i64 (x : Int) : List PV := [.int .i64 x]
/-- (alibi/graph.ids).Len -/
def graph_ids_Len (l : List Int) : Option (Int) :=
  some (((List.length l : Nat) : Int))
theorem graph_ids_Len_ok (l : List Int) (r : Int) (h : graph_ids_Len l = some r) : Does Try.prog 80 [.pv (.seq (List.length l) (encP e_i64 0 l))] [] (.pv (.int .i64 r), []) := by
 unfold graph_ids_Len at h
 have h := Option.some.inj h; subst h
 exact pdoes mixed (L := lives) (by kernel_rfl) (pk <| pz)
/-- (alibi/graph.ids).Less -/
def graph_ids_Less (l : List Int) (i : Int) (k : Int) : Option (Bool) :=
  if (decide ((0 : Int) ≤ i)) = true then
    if (decide ((i : Int) < ((List.length l : Nat) : Int))) = true then
      if (decide ((0 : Int) ≤ k)) = true then
        if (decide ((k : Int) < ((List.length l : Nat) : Int))) = true then
          some (decide (((List.getD l (Int.toNat i) 0) : Int) < (List.getD l (Int.toNat k) 0)))
        else none
      else none
    else none
  else none
theorem graph_ids_Less_ok (l : List Int) (i : Int) (k : Int) (r : Bool) (h : graph_ids_Less l i k = some r) : Does Try.prog 147 [.pv (.seq (List.length l) (encP e_i64 0 l)), .pv (.int .i64 i), .pv (.int .i64 k)] [] (.pv (.bool r), []) := by
 unfold graph_ids_Less at h
 obtain ⟨c1, h⟩ := need_of h
 obtain ⟨c2, h⟩ := need_of h
 obtain ⟨c3, h⟩ := need_of h
 obtain ⟨c4, h⟩ := need_of h
 have h := Option.some.inj h; subst h
 exact pdoes mixed (L := lives) (by kernel_rfl) (pn c1 <| pn c2 <| pk <| pn c3 <| pn c4 <| pk2 <| pz)
/-- (alibi/graph.ids).Swap -/
def graph_ids_Swap (l0 : List Int) (i : Int) (k : Int) : Option ((List Int)) :=
  if (decide ((0 : Int) ≤ k)) = true then
    if (decide ((k : Int) < (((List.length l0) : Nat) : Int))) = true then
      if (decide ((0 : Int) ≤ i)) = true then
        if (decide ((i : Int) < (((List.length l0) : Nat) : Int))) = true then
          some (List.set (List.set l0 (Int.toNat i) (List.getD l0 (Int.toNat k) 0)) (Int.toNat k) (List.getD l0 (Int.toNat i) 0))
        else none
      else none
    else none
  else none
theorem graph_ids_Swap_ok (l0 : List Int) (i : Int) (k : Int) (r : (List Int)) (h : graph_ids_Swap l0 i k = some r) : Does Try.prog 148 [.ms 0 [] 0 (List.length l0), .pv (.int .i64 i), .pv (.int .i64 k)] [.arr 2 1 (List.length l0) (encW o_i64 0 l0)] (.tup [], [.arr 2 1 (List.length r) (encW o_i64 0 r)]) := by
 unfold graph_ids_Swap at h
 obtain ⟨c1, h⟩ := need_of h
 obtain ⟨c2, h⟩ := need_of h
 obtain ⟨c3, h⟩ := need_of h
 obtain ⟨c4, h⟩ := need_of h
 have h := Option.some.inj h; subst h
 refine Does.eq (pdoes mixed (L := lives) (r := (.tup [], [.arr 2 1 (List.length l0) (encW o_i64 0 (List.set (List.set l0 (Int.toNat i) (List.getD l0 (Int.toNat k) 0)) (Int.toNat k) (List.getD l0 (Int.toNat i) 0)))])) (by kernel_rfl) (pn c1 <| pn c2 <| pk <| pn c3 <| pn c4 <| pk <| pn c3 <| pn c4 <| pt <| pe (eff_hb (v := dead) (b := 0) (hb := []) (sc := []) (put_top o_i64 0 2 1 (List.length l0) l0 (Int.toNat i) 0 [.pv (.int .i64 (List.getD l0 (Int.toNat k) 0))] (List.getD l0 (Int.toNat k) 0) (by kernel_rfl) (by first | exact Nat.le_refl _ | exact Nat.zero_le _ | (simp only [decide_eq_true_eq, List.length_set, List.length_append, List.length_replicate, List.length_cons, List.length_nil, Nat.zero_add] at * <;> omega)))) <| pn c1 <| pn c2 <| pt <| pe (eff_hb (v := dead) (b := 0) (hb := []) (sc := []) (put_top o_i64 0 2 1 (List.length l0) (List.set l0 (Int.toNat i) (List.getD l0 (Int.toNat k) 0)) (Int.toNat k) 0 [.pv (.int .i64 (List.getD l0 (Int.toNat i) 0))] (List.getD l0 (Int.toNat i) 0) (by kernel_rfl) (by first | exact Nat.le_refl _ | exact Nat.zero_le _ | (simp only [decide_eq_true_eq, List.length_set, List.length_append, List.length_replicate, List.length_cons, List.length_nil, Nat.zero_add] at * <;> omega)))) <| pz)) ?_
 (first | rfl | (simp only [List.length_set]; done))
noncomputable def heap_up_l0_c : Code := sub (codeOf Try.prog 118) [0, 0]
def heap_up_l0 (x0 : List Int) (x1 : Int) : Option ((List Int)) :=
  if (((iQuo (iSub x1 1) 2) : Int) == x1) = true then
    some x0
  else
    bind (graph_ids_Less x0 x1 (iQuo (iSub x1 1) 2)) fun v2 =>
    if (!v2) = true then
      some x0
    else
      bind (graph_ids_Swap x0 (iQuo (iSub x1 1) 2) x1) fun v5 =>
      if (decide ((List.length v5 : Nat) = List.length x0)) = true then
        heap_up_l0 v5 (iQuo (iSub x1 1) 2)
      else none
partial_fixpoint
noncomputable abbrev heap_up_l0_s (x0 : List Int) (x1 : Int) : St := ⟨.ifc 128 (.ptr 0 [] 0 0) :: .pv (.int .i64 x1) :: List.replicate 21 dead, [.box 2 [.ms 1 [] 0 (List.length x0)], .arr 2 1 (List.length x0) (encW o_i64 0 x0)]⟩
noncomputable abbrev heap_up_l0_e (x0 : List Int) (x1 : Int) (r : (List Int)) : St := ⟨List.replicate 23 dead, [.box 2 [.ms 1 [] 0 (List.length r)], .arr 2 1 (List.length r) (encW o_i64 0 r)]⟩
theorem heap_up_l0_ok (x0 : List Int) (x1 : Int) (r : (List Int)) (h : heap_up_l0 x0 x1 = some r) : Loops Try.prog heap_up_l0_c 2 (heap_up_l0_s x0 x1) (.exit 0) (heap_up_l0_e x0 x1 r) := by
 refine heap_up_l0.partial_correctness (fun x0 x1 r => Loops Try.prog heap_up_l0_c 2 (heap_up_l0_s x0 x1) (.exit 0) (heap_up_l0_e x0 x1 r)) ?_ x0 x1 r h
 clear h r x0 x1
 intro self ih x0 x1 r h
 rcases if_of h with ⟨c1, h⟩ | ⟨c1, h⟩
 · have h := Option.some.inj h; subst h
   exact plast mixed lives 118 (by kernel_rfl) (pk <| pn (rfl : (!decide (2 = (0 : Int))) = true) <| pk2 <| pb c1 <| pk6 <| pz) rfl
 · obtain ⟨v2, h3, h⟩ := bind_of h
   rcases if_of h with ⟨c4, h⟩ | ⟨c4, h⟩
   · have h := Option.some.inj h; subst h
     exact plast mixed lives 118 (by kernel_rfl) (pk <| pn (rfl : (!decide (2 = (0 : Int))) = true) <| pk2 <| pb c1 <| pk3 <| pb (whole_ok (List.length x0)) <| pc (graph_ids_Less_ok _ _ _ _ h3) <| pk4 <| pb c4 <| pz) rfl
   · obtain ⟨v5, h6, h⟩ := bind_of h
     obtain ⟨e7, h⟩ := need_of h; replace e7 := of_decide_eq_true e7
     exact pmore mixed lives 118 (by kernel_rfl) (pk <| pn (rfl : (!decide (2 = (0 : Int))) = true) <| pk2 <| pb c1 <| pk3 <| pb (whole_ok (List.length x0)) <| pc (graph_ids_Less_ok _ _ _ _ h3) <| pk4 <| pb c4 <| pc (graph_ids_Swap_ok _ _ _ _ h6) <| pk <| pz) (Loops.of (s1 := ⟨.ifc 128 (.ptr 0 [] 0 0) :: .pv (.int .i64 (iQuo (iSub x1 1) 2)) :: List.replicate 21 dead, [.box 2 [.ms 1 [] 0 (List.length x0)], .arr 2 1 (List.length v5) (encW o_i64 0 v5)]⟩) (ih v5 (iQuo (iSub x1 1) 2) _ h) (by (first | rfl | (simp only [heap_up_l0_s, List.length_set, e7]; done))))
/-- container/heap.up -/
def heap_up (l1 : List Int) (j : Int) : Option ((List Int)) :=
  bind (heap_up_l0 l1 j) fun v8 =>
  some v8
theorem heap_up_ok (l1 : List Int) (j : Int) (r : (List Int)) (h : heap_up l1 j = some r) : Does Try.prog 118 [.ifc 128 (.ptr 0 [] 0 0), .pv (.int .i64 j)] [.box 2 [.ms 1 [] 0 (List.length l1)], .arr 2 1 (List.length l1) (encW o_i64 0 l1)] (.tup [], [.box 2 [.ms 1 [] 0 (List.length r)], .arr 2 1 (List.length r) (encW o_i64 0 r)]) := by
 unfold heap_up at h
 obtain ⟨v8, h9, h⟩ := bind_of h
 have h := Option.some.inj h; subst h
 exact pdoes mixed (L := lives) (by kernel_rfl) (pl (heap_up_l0_ok _ _ _ h9) <| pz)
/-- container/heap.Push -/
def heap_Push (l1 : List Int) (x : Int) : Option ((List Int)) :=
  bind (graph_ids_Push l1 x) fun v1 =>
  bind (graph_ids_Len v1) fun v3 =>
  bind (heap_up v1 (iSub v3 1)) fun v5 =>
  some v5
theorem heap_Push_ok (l1 : List Int) (x : Int) (r : (List Int)) (h : heap_Push l1 x = some r) : Does Try.prog 79 [.ifc 128 (.ptr 0 [] 0 0), .ifc 3 (.pv (.int .i64 x))] [.box 2 [.ms 1 [] 0 (List.length l1)], .arr 2 1 (List.length l1) (encW o_i64 0 l1)] (.tup [], [.box 2 [.ms 1 [] 0 (List.length r)], .arr 0 1 (List.length r) (encW o_i64 0 r)]) := by
 unfold heap_Push at h
 obtain ⟨v1, h2, h⟩ := bind_of h
 obtain ⟨v3, h4, h⟩ := bind_of h
 obtain ⟨v5, h6, h⟩ := bind_of h
 have h := Option.some.inj h; subst h
 exact pdoes mixed (L := lives) (by kernel_rfl) (pc (graph_ids_Push_ok _ _ _ h2) <| pk <| pb (whole_ok (List.length v1)) <| pc (graph_ids_Len_ok _ _ h4) <| pk2 <| pc (heap_up_ok _ _ _ h6) <| pk <| pz)
noncomputable def graph_Order_l8_c : Code := sub (codeOf Try.prog 40) [1, 1, 1, 1, 1, 0, 1, 0, 0]
def graph_Order_l8 (x0 : List (BitVec 32)) (x1 : List Int) (x2 : List Int) (x3 : Int) (x4 : Int) : Option ((List Int) × (List Int)) :=
  if (decide ((x4 : Int) < x3)) = true then
    if (decide ((0 : Int) ≤ x4)) = true then
      if (decide ((x4 : Int) < (((List.length x0) : Nat) : Int))) = true then
        bind (sets_Count (List.getD x0 (Int.toNat x4) (0#32))) fun v11 =>
        if (decide ((x4 : Int) < (((List.length x1) : Nat) : Int))) = true then
          if (((List.getD (List.set x1 (Int.toNat x4) v11) (Int.toNat x4) 0) : Int) == 0) = true then
            bind (heap_Push x2 x4) fun v15 =>
            graph_Order_l8 x0 (List.set x1 (Int.toNat x4) v11) v15 x3 (iAdd x4 1)
          else
            graph_Order_l8 x0 (List.set x1 (Int.toNat x4) v11) x2 x3 (iAdd x4 1)
        else none
      else none
    else none
  else
    some (x1, x2)
partial_fixpoint
noncomputable abbrev graph_Order_l8_s (x0 : List (BitVec 32)) (x1 : List Int) (x2 : List Int) (x3 : Int) (x4 : Int) : St := ⟨(List.replicate 7 dead ++ (.ms 0 [] 0 (List.length x0) :: .ms 1 [] 0 (List.length x1) :: .ptr 2 [] 0 0 :: (List.replicate 20 dead ++ (.ms 0 [] 0 (List.length x0) :: .pv (.int .i64 x3) :: .pv (.int .i64 x4) :: List.replicate 56 dead)))), [.arr 0 1 (List.length x0) (encW o_u32 0#32 x0), .arr 0 1 (List.length x1) (encW o_i64 0 x1), .box 0 [.ms 3 [] 0 (List.length x2)], .arr 0 1 (List.length x2) (encW o_i64 0 x2)]⟩
noncomputable abbrev graph_Order_l8_e (x0 : List (BitVec 32)) (x1 : List Int) (x2 : List Int) (x3 : Int) (x4 : Int) (r : (List Int) × (List Int)) : St := ⟨(List.replicate 7 dead ++ (.ms 0 [] 0 (List.length x0) :: .ms 1 [] 0 (List.length r.1) :: .ptr 2 [] 0 0 :: List.replicate 79 dead)), [.arr 0 1 (List.length x0) (encW o_u32 0#32 x0), .arr 0 1 (List.length r.1) (encW o_i64 0 r.1), .box 0 [.ms 3 [] 0 (List.length r.2)], .arr 0 1 (List.length r.2) (encW o_i64 0 r.2)]⟩
theorem graph_Order_l8_ok (x0 : List (BitVec 32)) (x1 : List Int) (x2 : List Int) (x3 : Int) (x4 : Int) (r : (List Int) × (List Int)) (h : graph_Order_l8 x0 x1 x2 x3 x4 = some r) : Loops Try.prog graph_Order_l8_c 0 (graph_Order_l8_s x0 x1 x2 x3 x4) (.exit 0) (graph_Order_l8_e x0 x1 x2 x3 x4 r) := by
 refine graph_Order_l8.partial_correctness x0 x3 (fun x1 x2 x4 r => Loops Try.prog graph_Order_l8_c 0 (graph_Order_l8_s x0 x1 x2 x3 x4) (.exit 0) (graph_Order_l8_e x0 x1 x2 x3 x4 r)) ?_ x1 x2 x4 r h
 clear h r x1 x2 x4
 intro self ih x1 x2 x4 r h
 rcases if_of h with ⟨c8, h⟩ | ⟨c8, h⟩
 · obtain ⟨c9, h⟩ := need_of h
   obtain ⟨c10, h⟩ := need_of h
   obtain ⟨v11, h12, h⟩ := bind_of h
   obtain ⟨c13, h⟩ := need_of h
   rcases if_of h with ⟨c14, h⟩ | ⟨c14, h⟩
   · obtain ⟨v15, h16, h⟩ := bind_of h
     exact pmore mixed lives 40 (by kernel_rfl) (pk <| pb c8 <| pn c9 <| pn c10 <| pk <| pc (sets_Count_ok _ _ h12) <| pk <| pn c9 <| pn c13 <| pt <| pe (eff_hb (v := dead) (b := 1) (hb := []) (sc := []) (put_top o_i64 0 0 1 (List.length x1) x1 (Int.toNat x4) 0 [.pv (.int .i64 v11)] v11 (by kernel_rfl) (by first | exact Nat.le_refl _ | exact Nat.zero_le _ | (simp only [decide_eq_true_eq, List.length_set, List.length_append, List.length_replicate, List.length_cons, List.length_nil, Nat.zero_add] at * <;> omega)))) <| pn c9 <| pn c13 <| pk2 <| pb c14 <| pc (heap_Push_ok _ _ _ h16) <| pk2 <| pz) (Loops.of (s1 := ⟨(List.replicate 7 dead ++ (.ms 0 [] 0 (List.length x0) :: .ms 1 [] 0 (List.length x1) :: .ptr 2 [] 0 0 :: (List.replicate 20 dead ++ (.ms 0 [] 0 (List.length x0) :: .pv (.int .i64 x3) :: .pv (.int .i64 (iAdd x4 1)) :: List.replicate 56 dead)))), [.arr 0 1 (List.length x0) (encW o_u32 0#32 x0), .arr 0 1 (List.length x1) (encW o_i64 0 (List.set x1 (Int.toNat x4) v11)), .box 0 [.ms 3 [] 0 (List.length v15)], .arr 0 1 (List.length v15) (encW o_i64 0 v15)]⟩) (ih (List.set x1 (Int.toNat x4) v11) v15 (iAdd x4 1) _ h) (by (first | rfl | (simp only [graph_Order_l8_s, List.length_set]; done))))
   · exact pmore mixed lives 40 (by kernel_rfl) (pk <| pb c8 <| pn c9 <| pn c10 <| pk <| pc (sets_Count_ok _ _ h12) <| pk <| pn c9 <| pn c13 <| pt <| pe (eff_hb (v := dead) (b := 1) (hb := []) (sc := []) (put_top o_i64 0 0 1 (List.length x1) x1 (Int.toNat x4) 0 [.pv (.int .i64 v11)] v11 (by kernel_rfl) (by first | exact Nat.le_refl _ | exact Nat.zero_le _ | (simp only [decide_eq_true_eq, List.length_set, List.length_append, List.length_replicate, List.length_cons, List.length_nil, Nat.zero_add] at * <;> omega)))) <| pn c9 <| pn c13 <| pk2 <| pb c14 <| pk <| pz) (Loops.of (s1 := ⟨(List.replicate 7 dead ++ (.ms 0 [] 0 (List.length x0) :: .ms 1 [] 0 (List.length x1) :: .ptr 2 [] 0 0 :: (List.replicate 20 dead ++ (.ms 0 [] 0 (List.length x0) :: .pv (.int .i64 x3) :: .pv (.int .i64 (iAdd x4 1)) :: List.replicate 56 dead)))), [.arr 0 1 (List.length x0) (encW o_u32 0#32 x0), .arr 0 1 (List.length x1) (encW o_i64 0 (List.set x1 (Int.toNat x4) v11)), .box 0 [.ms 3 [] 0 (List.length x2)], .arr 0 1 (List.length x2) (encW o_i64 0 x2)]⟩) (ih (List.set x1 (Int.toNat x4) v11) x2 (iAdd x4 1) _ h) (by (first | rfl | (simp only [graph_Order_l8_s, List.length_set]; done))))
 · have h := Option.some.inj h; subst h
   exact plast mixed lives 40 (by kernel_rfl) (pk <| pb c8 <| pz) rfl
noncomputable def heap_down_l2_c : Code := sub (codeOf Try.prog 119) [1, 1, 0, 0, 0]
def heap_down_l2 (x0 : List Int) (x1 : Int) (x2 : Int) (x3 : Int) : Option ((List Int) × Int) :=
  if (decide (((iAdd (iMul 2 x3) 1) : Int) ≥ x2)) = true then
    some (x0, x3)
  else
    if (decide (((iAdd (iMul 2 x3) 1) : Int) < 0)) = true then
      some (x0, x3)
    else
      if (decide (((iAdd (iAdd (iMul 2 x3) 1) 1) : Int) < x2)) = true then
        bind (graph_ids_Less x0 (iAdd (iAdd (iMul 2 x3) 1) 1) (iAdd (iMul 2 x3) 1)) fun v4 =>
        if v4 = true then
          bind (graph_ids_Less x0 (iAdd (iAdd (iMul 2 x3) 1) 1) x3) fun v7 =>
          if (!v7) = true then
            some (x0, x3)
          else
            bind (graph_ids_Swap x0 x3 (iAdd (iAdd (iMul 2 x3) 1) 1)) fun v10 =>
            if (decide ((List.length v10 : Nat) = List.length x0)) = true then
              heap_down_l2 v10 x1 x2 (iAdd (iAdd (iMul 2 x3) 1) 1)
            else none
        else
          bind (graph_ids_Less x0 (iAdd (iMul 2 x3) 1) x3) fun v13 =>
          if (!v13) = true then
            some (x0, x3)
          else
            bind (graph_ids_Swap x0 x3 (iAdd (iMul 2 x3) 1)) fun v16 =>
            if (decide ((List.length v16 : Nat) = List.length x0)) = true then
              heap_down_l2 v16 x1 x2 (iAdd (iMul 2 x3) 1)
            else none
      else
        bind (graph_ids_Less x0 (iAdd (iMul 2 x3) 1) x3) fun v19 =>
        if (!v19) = true then
          some (x0, x3)
        else
          bind (graph_ids_Swap x0 x3 (iAdd (iMul 2 x3) 1)) fun v22 =>
          if (decide ((List.length v22 : Nat) = List.length x0)) = true then
            heap_down_l2 v22 x1 x2 (iAdd (iMul 2 x3) 1)
          else none
partial_fixpoint
noncomputable abbrev heap_down_l2_s (x0 : List Int) (x1 : Int) (x2 : Int) (x3 : Int) : St := ⟨.ifc 128 (.ptr 0 [] 0 0) :: .pv (.int .i64 x1) :: .pv (.int .i64 x2) :: (List.replicate 4 dead ++ (.pv (.int .i64 x3) :: List.replicate 40 dead)), [.box 2 [.ms 1 [] 0 (List.length x0)], .arr 2 1 (List.length x0) (encW o_i64 0 x0)]⟩
noncomputable abbrev heap_down_l2_e (x0 : List Int) (x1 : Int) (x2 : Int) (x3 : Int) (r : (List Int) × Int) : St := ⟨dead :: .pv (.int .i64 x1) :: (List.replicate 5 dead ++ (.pv (.int .i64 r.2) :: List.replicate 40 dead)), [.box 2 [.ms 1 [] 0 (List.length r.1)], .arr 2 1 (List.length r.1) (encW o_i64 0 r.1)]⟩
theorem heap_down_l2_ok (x0 : List Int) (x1 : Int) (x2 : Int) (x3 : Int) (r : (List Int) × Int) (h : heap_down_l2 x0 x1 x2 x3 = some r) : Loops Try.prog heap_down_l2_c 2 (heap_down_l2_s x0 x1 x2 x3) (.exit 0) (heap_down_l2_e x0 x1 x2 x3 r) := by
 refine heap_down_l2.partial_correctness x1 x2 (fun x0 x3 r => Loops Try.prog heap_down_l2_c 2 (heap_down_l2_s x0 x1 x2 x3) (.exit 0) (heap_down_l2_e x0 x1 x2 x3 r)) ?_ x0 x3 r h
 clear h r x0 x3
 intro self ih x0 x3 r h
 rcases if_of h with ⟨c1, h⟩ | ⟨c1, h⟩
 · have h := Option.some.inj h; subst h
   exact plast mixed lives 119 (by kernel_rfl) (pk3 <| pb c1 <| pk3 <| pz) rfl
 · rcases if_of h with ⟨c2, h⟩ | ⟨c2, h⟩
   · have h := Option.some.inj h; subst h
     exact plast mixed lives 119 (by kernel_rfl) (pk3 <| pb c1 <| pk3 <| pb c2 <| pz) rfl
   · rcases if_of h with ⟨c3, h⟩ | ⟨c3, h⟩
     · obtain ⟨v4, h5, h⟩ := bind_of h
       rcases if_of h with ⟨c6, h⟩ | ⟨c6, h⟩
       · obtain ⟨v7, h8, h⟩ := bind_of h
         rcases if_of h with ⟨c9, h⟩ | ⟨c9, h⟩
         · have h := Option.some.inj h; subst h
           exact plast mixed lives 119 (by kernel_rfl) (pk3 <| pb c1 <| pk3 <| pb c2 <| pk2 <| pb c3 <| pk3 <| pb (whole_ok (List.length x0)) <| pc (graph_ids_Less_ok _ _ _ _ h5) <| pk2 <| pb c6 <| pb (whole_ok (List.length x0)) <| pc (graph_ids_Less_ok _ _ _ _ h8) <| pk2 <| pb c9 <| pz) rfl
         · obtain ⟨v10, h11, h⟩ := bind_of h
           obtain ⟨e12, h⟩ := need_of h; replace e12 := of_decide_eq_true e12
           exact pmore mixed lives 119 (by kernel_rfl) (pk3 <| pb c1 <| pk3 <| pb c2 <| pk2 <| pb c3 <| pk3 <| pb (whole_ok (List.length x0)) <| pc (graph_ids_Less_ok _ _ _ _ h5) <| pk2 <| pb c6 <| pb (whole_ok (List.length x0)) <| pc (graph_ids_Less_ok _ _ _ _ h8) <| pk2 <| pb c9 <| pc (graph_ids_Swap_ok _ _ _ _ h11) <| pk <| pz) (Loops.of (s1 := ⟨.ifc 128 (.ptr 0 [] 0 0) :: .pv (.int .i64 x1) :: .pv (.int .i64 x2) :: (List.replicate 4 dead ++ (.pv (.int .i64 (iAdd (iAdd (iMul 2 x3) 1) 1)) :: List.replicate 40 dead)), [.box 2 [.ms 1 [] 0 (List.length x0)], .arr 2 1 (List.length v10) (encW o_i64 0 v10)]⟩) (ih v10 (iAdd (iAdd (iMul 2 x3) 1) 1) _ h) (by (first | rfl | (simp only [heap_down_l2_s, List.length_set, e12]; done))))
       · obtain ⟨v13, h14, h⟩ := bind_of h
         rcases if_of h with ⟨c15, h⟩ | ⟨c15, h⟩
         · have h := Option.some.inj h; subst h
           exact plast mixed lives 119 (by kernel_rfl) (pk3 <| pb c1 <| pk3 <| pb c2 <| pk2 <| pb c3 <| pk3 <| pb (whole_ok (List.length x0)) <| pc (graph_ids_Less_ok _ _ _ _ h5) <| pk2 <| pb c6 <| pb (whole_ok (List.length x0)) <| pc (graph_ids_Less_ok _ _ _ _ h14) <| pk2 <| pb c15 <| pz) rfl
         · obtain ⟨v16, h17, h⟩ := bind_of h
           obtain ⟨e18, h⟩ := need_of h; replace e18 := of_decide_eq_true e18
           exact pmore mixed lives 119 (by kernel_rfl) (pk3 <| pb c1 <| pk3 <| pb c2 <| pk2 <| pb c3 <| pk3 <| pb (whole_ok (List.length x0)) <| pc (graph_ids_Less_ok _ _ _ _ h5) <| pk2 <| pb c6 <| pb (whole_ok (List.length x0)) <| pc (graph_ids_Less_ok _ _ _ _ h14) <| pk2 <| pb c15 <| pc (graph_ids_Swap_ok _ _ _ _ h17) <| pk <| pz) (Loops.of (s1 := ⟨.ifc 128 (.ptr 0 [] 0 0) :: .pv (.int .i64 x1) :: .pv (.int .i64 x2) :: (List.replicate 4 dead ++ (.pv (.int .i64 (iAdd (iMul 2 x3) 1)) :: List.replicate 40 dead)), [.box 2 [.ms 1 [] 0 (List.length x0)], .arr 2 1 (List.length v16) (encW o_i64 0 v16)]⟩) (ih v16 (iAdd (iMul 2 x3) 1) _ h) (by (first | rfl | (simp only [heap_down_l2_s, List.length_set, e18]; done))))
     · obtain ⟨v19, h20, h⟩ := bind_of h
       rcases if_of h with ⟨c21, h⟩ | ⟨c21, h⟩
       · have h := Option.some.inj h; subst h
         exact plast mixed lives 119 (by kernel_rfl) (pk3 <| pb c1 <| pk3 <| pb c2 <| pk2 <| pb c3 <| pk5 <| pb (whole_ok (List.length x0)) <| pc (graph_ids_Less_ok _ _ _ _ h20) <| pk2 <| pb c21 <| pz) rfl
       · obtain ⟨v22, h23, h⟩ := bind_of h
         obtain ⟨e24, h⟩ := need_of h; replace e24 := of_decide_eq_true e24
         exact pmore mixed lives 119 (by kernel_rfl) (pk3 <| pb c1 <| pk3 <| pb c2 <| pk2 <| pb c3 <| pk5 <| pb (whole_ok (List.length x0)) <| pc (graph_ids_Less_ok _ _ _ _ h20) <| pk2 <| pb c21 <| pc (graph_ids_Swap_ok _ _ _ _ h23) <| pk <| pz) (Loops.of (s1 := ⟨.ifc 128 (.ptr 0 [] 0 0) :: .pv (.int .i64 x1) :: .pv (.int .i64 x2) :: (List.replicate 4 dead ++ (.pv (.int .i64 (iAdd (iMul 2 x3) 1)) :: List.replicate 40 dead)), [.box 2 [.ms 1 [] 0 (List.length x0)], .arr 2 1 (List.length v22) (encW o_i64 0 v22)]⟩) (ih v22 (iAdd (iMul 2 x3) 1) _ h) (by (first | rfl | (simp only [heap_down_l2_s, List.length_set, e24]; done))))
/-- container/heap.down -/
def heap_down (l1 : List Int) (i0 : Int) (n1 : Int) : Option (Bool × (List Int)) :=
  bind (heap_down_l2 l1 i0 n1 i0) fun v25 =>
  some (decide ((v25.2 : Int) > i0), v25.1)
theorem heap_down_ok (l1 : List Int) (i0 : Int) (n1 : Int) (r : Bool × (List Int)) (h : heap_down l1 i0 n1 = some r) : Does Try.prog 119 [.ifc 128 (.ptr 0 [] 0 0), .pv (.int .i64 i0), .pv (.int .i64 n1)] [.box 2 [.ms 1 [] 0 (List.length l1)], .arr 2 1 (List.length l1) (encW o_i64 0 l1)] (.pv (.bool r.1), [.box 2 [.ms 1 [] 0 (List.length r.2)], .arr 2 1 (List.length r.2) (encW o_i64 0 r.2)]) := by
 unfold heap_down at h
 obtain ⟨v25, h26, h⟩ := bind_of h
 have h := Option.some.inj h; subst h
 exact pdoes mixed (L := lives) (by kernel_rfl) (pl (heap_down_l2_ok _ _ _ _ _ h26) <| pk <| pz)
/-- (*alibi/graph.ids).Pop -/
def graph_ids_Pop (l1 : List Int) : Option (Int × (List Int)) :=
  if (decide ((0 : Int) ≤ (iSub ((((List.length l1) : Nat) : Int)) 1))) = true then
    if (decide (((iSub ((((List.length l1) : Nat) : Int)) 1) : Int) < (((List.length l1) : Nat) : Int))) = true then
      if (decide (((iSub ((((List.length l1) : Nat) : Int)) 1) : Int) ≤ ((List.length l1 : Nat) : Int))) = true then
        some (List.getD l1 (Int.toNat (iSub ((((List.length l1) : Nat) : Int)) 1)) 0, List.take (Int.toNat (iSub ((((List.length l1) : Nat) : Int)) 1)) l1)
      else none
    else none
  else none
theorem graph_ids_Pop_ok (l1 : List Int) (r : Int × (List Int)) (h : graph_ids_Pop l1 = some r) : Does Try.prog 149 [.ptr 0 [] 0 0] [.box 2 [.ms 1 [] 0 (List.length l1)], .arr 2 1 (List.length l1) (encW o_i64 0 l1)] (.ifc 3 (.pv (.int .i64 r.1)), [.box 2 [.ms 1 [] 0 (List.length r.2)], .arr 0 1 (List.length r.2) (encW o_i64 0 r.2)]) := by
 unfold graph_ids_Pop at h
 obtain ⟨c1, h⟩ := need_of h
 obtain ⟨c2, h⟩ := need_of h
 obtain ⟨c3, h⟩ := need_of h
 have h := Option.some.inj h; subst h
 refine Does.eq (pdoes mixed (L := lives) (r := (.ifc 3 (.pv (.int .i64 (List.getD l1 (Int.toNat (iSub ((((List.length l1) : Nat) : Int)) 1)) 0))), [.box 2 [.ms 1 [] 0 (Int.toNat (iSub ((((List.length l1) : Nat) : Int)) 1))], .arr 0 1 (Int.toNat (iSub ((((List.length l1) : Nat) : Int)) 1)) (cutF 0 (Int.toNat (iSub ((((List.length l1) : Nat) : Int)) 1)) (List.length l1) (encW o_i64 0 l1))])) (by kernel_rfl) (pk3 <| pn c1 <| pn c2 <| pk3 <| pn c1 <| pn c3 <| pk2 <| pz)) ?_
 rw [cut_enc o_i64 0 l1 (Int.toNat (iSub ((((List.length l1) : Nat) : Int)) 1)) (List.length l1) (by first | exact Nat.le_refl _ | exact Nat.zero_le _ | (simp only [decide_eq_true_eq, List.length_set, List.length_append, List.length_replicate, List.length_cons, List.length_nil, Nat.zero_add] at * <;> omega)) (by first | exact Nat.le_refl _ | exact Nat.zero_le _ | (simp only [decide_eq_true_eq, List.length_set, List.length_append, List.length_replicate, List.length_cons, List.length_nil, Nat.zero_add] at * <;> omega)), len_take l1 (Int.toNat (iSub ((((List.length l1) : Nat) : Int)) 1)) (by first | exact Nat.le_refl _ | exact Nat.zero_le _ | (simp only [decide_eq_true_eq, List.length_set, List.length_append, List.length_replicate, List.length_cons, List.length_nil, Nat.zero_add] at * <;> omega))] <;> (first | rfl | (simp only [List.length_set]; done))
/-- container/heap.Pop -/
def heap_Pop (l1 : List Int) : Option (Int × (List Int)) :=
  bind (graph_ids_Len l1) fun v1 =>
  bind (graph_ids_Swap l1 0 (iSub v1 1)) fun v3 =>
  if (decide ((List.length v3 : Nat) = List.length l1)) = true then
    bind (heap_down v3 0 (iSub v1 1)) fun v6 =>
    bind (graph_ids_Pop v6.2) fun v8 =>
    some (v8.1, v8.2)
  else none
theorem heap_Pop_ok (l1 : List Int) (r : Int × (List Int)) (h : heap_Pop l1 = some r) : Does Try.prog 81 [.ifc 128 (.ptr 0 [] 0 0)] [.box 2 [.ms 1 [] 0 (List.length l1)], .arr 2 1 (List.length l1) (encW o_i64 0 l1)] (.ifc 3 (.pv (.int .i64 r.1)), [.box 2 [.ms 1 [] 0 (List.length r.2)], .arr 0 1 (List.length r.2) (encW o_i64 0 r.2)]) := by
 unfold heap_Pop at h
 obtain ⟨v1, h2, h⟩ := bind_of h
 obtain ⟨v3, h4, h⟩ := bind_of h
 obtain ⟨e5, h⟩ := need_of h; replace e5 := of_decide_eq_true e5
 obtain ⟨v6, h7, h⟩ := bind_of h
 obtain ⟨v8, h9, h⟩ := bind_of h
 have h := Option.some.inj h; subst h
 exact pdoes mixed (L := lives) (by kernel_rfl) (pb (whole_ok (List.length l1)) <| pc (graph_ids_Len_ok _ _ h2) <| pk2 <| pc (graph_ids_Swap_ok _ _ _ _ h4) <| pk <| pc (Does.of (args' := [.ifc 128 (.ptr 0 [] 0 0), .pv (.int .i64 0), .pv (.int .i64 (iSub v1 1))]) (H' := [.box 2 [.ms 1 [] 0 (List.length l1)], .arr 2 1 (List.length v3) (encW o_i64 0 v3)]) (heap_down_ok _ _ _ _ h7) (by (first | rfl | (simp only [List.length_set, e5]; done)))) <| pk <| pc (graph_ids_Pop_ok _ _ h9) <| pk <| pz)
noncomputable def graph_Order_l19_c : Code := sub (codeOf Try.prog 40) [1, 1, 1, 1, 1, 1, 1, 0, 0, 0, 1, 0, 1, 1, 1, 0, 0]
def graph_Order_l19 (x0 : List (BitVec 32)) (x1 : List Int) (x2 : List Int) (x3 : List Int) (x4 : Int) (x5 : Int) (x6 : Int) : Option ((List Int) × (List Int)) :=
  if (decide ((x6 : Int) < x5)) = true then
    if (decide ((0 : Int) ≤ x6)) = true then
      if (decide ((x6 : Int) < (((List.length x0) : Nat) : Int))) = true then
        bind (sets_Has (List.getD x0 (Int.toNat x6) (0#32)) x4) fun v28 =>
        if v28 = true then
          if (decide ((x6 : Int) < (((List.length x1) : Nat) : Int))) = true then
            if (((List.getD (List.set x1 (Int.toNat x6) (iSub (List.getD x1 (Int.toNat x6) 0) 1)) (Int.toNat x6) 0) : Int) == 0) = true then
              bind (heap_Push x2 x6) fun v33 =>
              graph_Order_l19 x0 (List.set x1 (Int.toNat x6) (iSub (List.getD x1 (Int.toNat x6) 0) 1)) v33 x3 x4 x5 (iAdd x6 1)
            else
              graph_Order_l19 x0 (List.set x1 (Int.toNat x6) (iSub (List.getD x1 (Int.toNat x6) 0) 1)) x2 x3 x4 x5 (iAdd x6 1)
          else none
        else
          graph_Order_l19 x0 x1 x2 x3 x4 x5 (iAdd x6 1)
      else none
    else none
  else
    some (x1, x2)
partial_fixpoint
noncomputable abbrev graph_Order_l19_s (x0 : List (BitVec 32)) (x1 : List Int) (x2 : List Int) (x3 : List Int) (x4 : Int) (x5 : Int) (x6 : Int) : St := ⟨(List.replicate 7 dead ++ (.ms 0 [] 0 (List.length x0) :: .ms 1 [] 0 (List.length x1) :: .ptr 2 [] 0 0 :: dead :: dead :: .ms 4 [] 0 (List.length x3) :: .pv (.int .i64 x4) :: (List.replicate 48 dead ++ (.ms 0 [] 0 (List.length x0) :: .pv (.int .i64 x5) :: .pv (.int .i64 x6) :: List.replicate 24 dead)))), [.arr 0 1 (List.length x0) (encW o_u32 0#32 x0), .arr 0 1 (List.length x1) (encW o_i64 0 x1), .box 0 [.ms 3 [] 0 (List.length x2)], .arr 0 1 (List.length x2) (encW o_i64 0 x2), .arr 0 1 (List.length x3) (encW o_i64 0 x3)]⟩
noncomputable abbrev graph_Order_l19_e (x0 : List (BitVec 32)) (x1 : List Int) (x2 : List Int) (x3 : List Int) (x4 : Int) (x5 : Int) (x6 : Int) (r : (List Int) × (List Int)) : St := ⟨(List.replicate 7 dead ++ (.ms 0 [] 0 (List.length x0) :: .ms 1 [] 0 (List.length r.1) :: .ptr 2 [] 0 0 :: dead :: dead :: .ms 4 [] 0 (List.length x3) :: List.replicate 76 dead)), [.arr 0 1 (List.length x0) (encW o_u32 0#32 x0), .arr 0 1 (List.length r.1) (encW o_i64 0 r.1), .box 0 [.ms 3 [] 0 (List.length r.2)], .arr 0 1 (List.length r.2) (encW o_i64 0 r.2), .arr 0 1 (List.length x3) (encW o_i64 0 x3)]⟩
theorem graph_Order_l19_ok (x0 : List (BitVec 32)) (x1 : List Int) (x2 : List Int) (x3 : List Int) (x4 : Int) (x5 : Int) (x6 : Int) (r : (List Int) × (List Int)) (h : graph_Order_l19 x0 x1 x2 x3 x4 x5 x6 = some r) : Loops Try.prog graph_Order_l19_c 0 (graph_Order_l19_s x0 x1 x2 x3 x4 x5 x6) (.exit 4) (graph_Order_l19_e x0 x1 x2 x3 x4 x5 x6 r) := by
 refine graph_Order_l19.partial_correctness x0 x3 x4 x5 (fun x1 x2 x6 r => Loops Try.prog graph_Order_l19_c 0 (graph_Order_l19_s x0 x1 x2 x3 x4 x5 x6) (.exit 4) (graph_Order_l19_e x0 x1 x2 x3 x4 x5 x6 r)) ?_ x1 x2 x6 r h
 clear h r x1 x2 x6
 intro self ih x1 x2 x6 r h
 rcases if_of h with ⟨c25, h⟩ | ⟨c25, h⟩
 · obtain ⟨c26, h⟩ := need_of h
   obtain ⟨c27, h⟩ := need_of h
   obtain ⟨v28, h29, h⟩ := bind_of h
   rcases if_of h with ⟨c30, h⟩ | ⟨c30, h⟩
   · obtain ⟨c31, h⟩ := need_of h
     rcases if_of h with ⟨c32, h⟩ | ⟨c32, h⟩
     · obtain ⟨v33, h34, h⟩ := bind_of h
       exact pmore mixed lives 40 (by kernel_rfl) (pk <| pb c25 <| pn c26 <| pn c27 <| pk <| pc (sets_Has_ok _ _ _ h29) <| pk <| pb c30 <| pn c26 <| pn c31 <| pk2 <| pn c26 <| pn c31 <| pt <| pe (eff_hb (v := dead) (b := 1) (hb := []) (sc := []) (put_top o_i64 0 0 1 (List.length x1) x1 (Int.toNat x6) 0 [.pv (.int .i64 (iSub (List.getD x1 (Int.toNat x6) 0) 1))] (iSub (List.getD x1 (Int.toNat x6) 0) 1) (by kernel_rfl) (by first | exact Nat.le_refl _ | exact Nat.zero_le _ | (simp only [decide_eq_true_eq, List.length_set, List.length_append, List.length_replicate, List.length_cons, List.length_nil, Nat.zero_add] at * <;> omega)))) <| pn c26 <| pn c31 <| pk2 <| pb c32 <| pc (heap_Push_ok _ _ _ h34) <| pk2 <| pz) (Loops.of (s1 := ⟨(List.replicate 7 dead ++ (.ms 0 [] 0 (List.length x0) :: .ms 1 [] 0 (List.length x1) :: .ptr 2 [] 0 0 :: dead :: dead :: .ms 4 [] 0 (List.length x3) :: .pv (.int .i64 x4) :: (List.replicate 48 dead ++ (.ms 0 [] 0 (List.length x0) :: .pv (.int .i64 x5) :: .pv (.int .i64 (iAdd x6 1)) :: List.replicate 24 dead)))), [.arr 0 1 (List.length x0) (encW o_u32 0#32 x0), .arr 0 1 (List.length x1) (encW o_i64 0 (List.set x1 (Int.toNat x6) (iSub (List.getD x1 (Int.toNat x6) 0) 1))), .box 0 [.ms 3 [] 0 (List.length v33)], .arr 0 1 (List.length v33) (encW o_i64 0 v33), .arr 0 1 (List.length x3) (encW o_i64 0 x3)]⟩) (ih (List.set x1 (Int.toNat x6) (iSub (List.getD x1 (Int.toNat x6) 0) 1)) v33 (iAdd x6 1) _ h) (by (first | rfl | (simp only [graph_Order_l19_s, List.length_set]; done))))
     · exact pmore mixed lives 40 (by kernel_rfl) (pk <| pb c25 <| pn c26 <| pn c27 <| pk <| pc (sets_Has_ok _ _ _ h29) <| pk <| pb c30 <| pn c26 <| pn c31 <| pk2 <| pn c26 <| pn c31 <| pt <| pe (eff_hb (v := dead) (b := 1) (hb := []) (sc := []) (put_top o_i64 0 0 1 (List.length x1) x1 (Int.toNat x6) 0 [.pv (.int .i64 (iSub (List.getD x1 (Int.toNat x6) 0) 1))] (iSub (List.getD x1 (Int.toNat x6) 0) 1) (by kernel_rfl) (by first | exact Nat.le_refl _ | exact Nat.zero_le _ | (simp only [decide_eq_true_eq, List.length_set, List.length_append, List.length_replicate, List.length_cons, List.length_nil, Nat.zero_add] at * <;> omega)))) <| pn c26 <| pn c31 <| pk2 <| pb c32 <| pk <| pz) (Loops.of (s1 := ⟨(List.replicate 7 dead ++ (.ms 0 [] 0 (List.length x0) :: .ms 1 [] 0 (List.length x1) :: .ptr 2 [] 0 0 :: dead :: dead :: .ms 4 [] 0 (List.length x3) :: .pv (.int .i64 x4) :: (List.replicate 48 dead ++ (.ms 0 [] 0 (List.length x0) :: .pv (.int .i64 x5) :: .pv (.int .i64 (iAdd x6 1)) :: List.replicate 24 dead)))), [.arr 0 1 (List.length x0) (encW o_u32 0#32 x0), .arr 0 1 (List.length x1) (encW o_i64 0 (List.set x1 (Int.toNat x6) (iSub (List.getD x1 (Int.toNat x6) 0) 1))), .box 0 [.ms 3 [] 0 (List.length x2)], .arr 0 1 (List.length x2) (encW o_i64 0 x2), .arr 0 1 (List.length x3) (encW o_i64 0 x3)]⟩) (ih (List.set x1 (Int.toNat x6) (iSub (List.getD x1 (Int.toNat x6) 0) 1)) x2 (iAdd x6 1) _ h) (by (first | rfl | (simp only [graph_Order_l19_s, List.length_set]; done))))
   · exact pmore mixed lives 40 (by kernel_rfl) (pk <| pb c25 <| pn c26 <| pn c27 <| pk <| pc (sets_Has_ok _ _ _ h29) <| pk <| pb c30 <| pk <| pz) (ih x1 x2 (iAdd x6 1) _ h)
 · have h := Option.some.inj h; subst h
   exact plast mixed lives 40 (by kernel_rfl) (pk <| pb c25 <| pz) rfl
noncomputable def graph_Order_l15_c : Code := sub (codeOf Try.prog 40) [1, 1, 1, 1, 1, 1, 1, 0, 0, 0]
def graph_Order_l15 (x0 : List (BitVec 32)) (x1 : List Int) (x2 : List Int) (x3 : List Int) : Option ((List Int)) :=
  bind (graph_ids_Len x2) fun v19 =>
  if (decide ((v19 : Int) > 0)) = true then
    bind (heap_Pop x2) fun v22 =>
    if (Nat.ble ((List.length x3 + List.length ([v22.1])) * 8) reach) = true then
      bind (graph_Order_l19 x0 x1 v22.2 (x3 ++ ([v22.1])) v22.1 ((((List.length x0) : Nat) : Int)) 0) fun v35 =>
      graph_Order_l15 x0 v35.1 v35.2 (x3 ++ ([v22.1]))
    else none
  else
    some x3
partial_fixpoint
noncomputable abbrev graph_Order_l15_s (x0 : List (BitVec 32)) (x1 : List Int) (x2 : List Int) (x3 : List Int) : St := ⟨(List.replicate 7 dead ++ (.ms 0 [] 0 (List.length x0) :: .ms 1 [] 0 (List.length x1) :: .ptr 2 [] 0 0 :: dead :: dead :: .ms 4 [] 0 (List.length x3) :: List.replicate 76 dead)), [.arr 0 1 (List.length x0) (encW o_u32 0#32 x0), .arr 0 1 (List.length x1) (encW o_i64 0 x1), .box 0 [.ms 3 [] 0 (List.length x2)], .arr 0 1 (List.length x2) (encW o_i64 0 x2), .arr 0 1 (List.length x3) (encW o_i64 0 x3)]⟩
noncomputable abbrev graph_Order_l15_e (x0 : List (BitVec 32)) (x1 : List Int) (x2 : List Int) (x3 : List Int) (r : (List Int)) : St := ⟨(List.replicate 12 dead ++ (.ms 0 [] 0 (List.length r) :: List.replicate 76 dead)), [.arr 0 1 (List.length r) (encW o_i64 0 r)]⟩
theorem graph_Order_l15_ok (x0 : List (BitVec 32)) (x1 : List Int) (x2 : List Int) (x3 : List Int) (r : (List Int)) (h : graph_Order_l15 x0 x1 x2 x3 = some r) : Loops Try.prog graph_Order_l15_c 0 (graph_Order_l15_s x0 x1 x2 x3) (.exit 2) (graph_Order_l15_e x0 x1 x2 x3 r) := by
 refine graph_Order_l15.partial_correctness x0 (fun x1 x2 x3 r => Loops Try.prog graph_Order_l15_c 0 (graph_Order_l15_s x0 x1 x2 x3) (.exit 2) (graph_Order_l15_e x0 x1 x2 x3 r)) ?_ x1 x2 x3 r h
 clear h r x1 x2 x3
 intro self ih x1 x2 x3 r h
 obtain ⟨v19, h20, h⟩ := bind_of h
 rcases if_of h with ⟨c21, h⟩ | ⟨c21, h⟩
 · obtain ⟨v22, h23, h⟩ := bind_of h
   obtain ⟨c24, h⟩ := need_of h
   obtain ⟨v35, h36, h⟩ := bind_of h
   exact pmore mixed lives 40 (by kernel_rfl) (pk <| pb (whole_ok (List.length x2)) <| pc (graph_ids_Len_ok _ _ h20) <| pk2 <| pb c21 <| pc (heap_Pop_ok _ _ h23) <| pk <| pe (eff_lit o_i64 0 5 1 1 ([v22.1]) rfl [] []) <| pb (whole_ok (List.length ([v22.1]))) <| pn c24 <| pe (eff_app o_i64 0 x3 ([v22.1]) (x3 ++ ([v22.1])) 4 1 (List.length x3) (List.length ([v22.1])) (fun i => List.map AV.scal (encW o_i64 0 ([v22.1]) i)) (encW o_i64 0 x3 (List.length x3)) [] [] [(4, false)] (by first | exact Nat.le_refl _ | exact Nat.zero_le _ | (simp only [decide_eq_true_eq, List.length_set, List.length_append, List.length_replicate, List.length_cons, List.length_nil, Nat.zero_add] at * <;> omega)) rfl (fun _ => by kernel_rfl) (congrArg o_i64 (getD_ge 0 (by first | exact Nat.le_refl _ | exact Nat.zero_le _ | (simp only [decide_eq_true_eq, List.length_set, List.length_append, List.length_replicate, List.length_cons, List.length_nil, Nat.zero_add] at * <;> omega)))) (by rw [List.take_of_length_le (by first | exact Nat.le_refl _ | exact Nat.zero_le _ | (simp only [decide_eq_true_eq, List.length_set, List.length_append, List.length_replicate, List.length_cons, List.length_nil, Nat.zero_add] at * <;> omega))])) <| pk <| pl (graph_Order_l19_ok _ _ _ _ _ _ _ _ h36) <| pz) (ih v35.1 v35.2 (x3 ++ ([v22.1])) _ h)
 · have h := Option.some.inj h; subst h
   exact plast mixed lives 40 (by kernel_rfl) (pk <| pb (whole_ok (List.length x2)) <| pc (graph_ids_Len_ok _ _ h20) <| pk2 <| pb c21 <| pz) rfl
/-- alibi/graph.Order -/
def graph_Order (p : api_Program) : Option (Int × (List Int)) :=
  bind (prog_Check p) fun v1 =>
  if ((v1.2.2 : Int) != 0) = true then
    some (v1.2.2, ([] : List Int))
  else
    bind (graph_Callees p) fun v4 =>
    if (decide ((0 : Int) ≤ ((((List.length v4) : Nat) : Int)))) = true then
      if (decide ((((((List.length v4) : Nat) : Int)) : Int) * ((8 : Nat) : Int) ≤ ((reach : Nat) : Int))) = true then
        bind (graph_Order_l8 v4 (List.replicate (Int.toNat ((((List.length v4) : Nat) : Int))) (0 : Int)) (([] : List Int)) ((((List.length v4) : Nat) : Int)) 0) fun v17 =>
        bind (graph_Order_l15 v4 v17.1 v17.2 (([] : List Int))) fun v37 =>
        some (0, v37)
      else none
    else none
theorem graph_Order_ok (p : api_Program) (r : Int × (List Int)) (h : graph_Order p = some r) : Does Try.prog 40 [.agg [.pv (.int .i64 p.globals), .pv (.int .i64 p.locks), .pv (.int .i64 p.slots), .pv (.seq (List.length p.funcs) (encP e_61 ([] : List api_Node) p.funcs))]] [] (.tup [.ms 0 [] 0 (List.length r.2), .pv (.int .i64 r.1)], [.arr 0 1 (List.length r.2) (encW o_i64 0 r.2)]) := by
 unfold graph_Order at h
 obtain ⟨v1, h2, h⟩ := bind_of h
 rcases if_of h with ⟨c3, h⟩ | ⟨c3, h⟩
 · have h := Option.some.inj h; subst h
   refine Does.eq (pdoes mixed (L := lives) (r := (.tup [.ms 0 [] 0 (List.length ([] : List Int)), .pv (.int .i64 v1.2.2)], [.arr 0 1 (List.length ([] : List Int)) (encW o_i64 0 (([] : List Int)))])) (by kernel_rfl) (pk2 <| pc (prog_Check_ok _ _ h2) <| pk2 <| pb c3 <| pz)) ?_
   (first | rfl | (simp only [List.length_set]; done))
 · obtain ⟨v4, h5, h⟩ := bind_of h
   obtain ⟨c6, h⟩ := need_of h
   obtain ⟨c7, h⟩ := need_of h
   obtain ⟨v17, h18, h⟩ := bind_of h
   obtain ⟨v37, h38, h⟩ := bind_of h
   have h := Option.some.inj h; subst h
   exact pdoes mixed (L := lives) (by kernel_rfl) (pk2 <| pc (prog_Check_ok _ _ h2) <| pk2 <| pb c3 <| pk <| pc (graph_Callees_ok _ _ h5) <| pk2 <| pn c6 <| pn ((decide_eq_true rfl) : (decide ((((((List.length v4) : Nat) : Int)) : Int) = ((((List.length v4) : Nat) : Int)))) = true) <| pn c7 <| pe (eff_make o_i64 0 2 1 (Int.toNat ((((List.length v4) : Nat) : Int)))) <| pk2 <| pl (Loops.of (s1 := ⟨(List.replicate 7 dead ++ (.ms 0 [] 0 (List.length v4) :: .ms 1 [] 0 (List.length (List.replicate (Int.toNat ((((List.length v4) : Nat) : Int))) (0 : Int))) :: .ptr 2 [] 0 0 :: (List.replicate 20 dead ++ (.ms 0 [] 0 (List.length v4) :: .pv (.int .i64 ((((List.length v4) : Nat) : Int))) :: .pv (.int .i64 0) :: List.replicate 56 dead)))), [.arr 0 1 (List.length v4) (encW o_u32 0#32 v4), .arr 0 1 (List.length (List.replicate (Int.toNat ((((List.length v4) : Nat) : Int))) (0 : Int))) (encW o_i64 0 (List.replicate (Int.toNat ((((List.length v4) : Nat) : Int))) (0 : Int))), .box 0 [.ms 3 [] 0 (List.length ([] : List Int))], .arr 0 1 (List.length ([] : List Int)) (encW o_i64 0 (([] : List Int)))]⟩) (graph_Order_l8_ok _ _ _ _ _ _ h18) (by (first | rfl | (simp only [graph_Order_l8_s, List.length_set]; done)))) <| pl (Loops.of (s1 := ⟨(List.replicate 7 dead ++ (.ms 0 [] 0 (List.length v4) :: .ms 1 [] 0 (List.length v17.1) :: .ptr 2 [] 0 0 :: dead :: dead :: .ms 4 [] 0 (List.length ([] : List Int)) :: List.replicate 76 dead)), [.arr 0 1 (List.length v4) (encW o_u32 0#32 v4), .arr 0 1 (List.length v17.1) (encW o_i64 0 v17.1), .box 0 [.ms 3 [] 0 (List.length v17.2)], .arr 0 1 (List.length v17.2) (encW o_i64 0 v17.2), .arr 0 1 (List.length ([] : List Int)) (encW o_i64 0 (([] : List Int)))]⟩) (graph_Order_l15_ok _ _ _ _ _ h38) (by (first | rfl | (simp only [graph_Order_l15_s, List.length_set]; done)))) <| pz)
/-- alibi/kill.begins -/
def kill_begins (n1 : api_Node) : Option ((BitVec 32)) :=
  if ((n1.kind : Int) == 5) = true then
    some (1#32)
  else
    some (0#32)
theorem kill_begins_ok (n1 : api_Node) (r : (BitVec 32)) (h : kill_begins n1 = some r) : Does Try.prog 91 [.agg [.pv (.int .i64 n1.kind), .pv (.int .i64 n1.arg), .pv (.int .i64 n1.next), .pv (.int .i64 n1.alt)]] [] (.pv (.int .u32 (BitVec.toNat r : Nat)), []) := by
 unfold kill_begins at h
 rcases if_of h with ⟨c1, h⟩ | ⟨c1, h⟩
 · have h := Option.some.inj h; subst h
   exact pdoes mixed (L := lives) (by kernel_rfl) (pk3 <| pb c1 <| pz)
 · have h := Option.some.inj h; subst h
   exact pdoes mixed (L := lives) (by kernel_rfl) (pk3 <| pb c1 <| pz)
noncomputable def kill_gather_l9_c : Code := sub (codeOf Try.prog 88) [1, 1, 1, 1, 0, 1, 0, 0, 1, 1, 0, 0, 1, 1, 0, 0]
def kill_gather_l9 (x0 : List (BitVec 32)) (x1 : List Int) (x2 : Int) (x3 : Int) (x4 : Int) (x5 : List (List api_Node)) (x6 : Int) (x7 : Int) (x8 : Int) (x9 : List api_Node) (x10 : Int) (x11 : Int) : Option ((List (BitVec 32))) :=
  if (decide ((x11 : Int) < x10)) = true then
    if (decide ((0 : Int) ≤ x11)) = true then
      if (decide ((x11 : Int) < ((List.length x9 : Nat) : Int))) = true then
        if ((((List.getD x9 (Int.toNat x11) d_api_Node).kind) : Int) == 7) = true then
          if (decide ((0 : Int) ≤ x6)) = true then
            if (decide ((x6 : Int) < (((List.length x0) : Nat) : Int))) = true then
              if (decide ((0 : Int) ≤ ((List.getD x9 (Int.toNat x11) d_api_Node).arg))) = true then
                if (decide ((((List.getD x9 (Int.toNat x11) d_api_Node).arg) : Int) < (((List.length x0) : Nat) : Int))) = true then
                  kill_gather_l9 (List.set x0 (Int.toNat x6) ((List.getD x0 (Int.toNat x6) (0#32)) ||| (List.getD x0 (Int.toNat ((List.getD x9 (Int.toNat x11) d_api_Node).arg)) (0#32)))) x1 x2 x3 x4 x5 x6 x7 x8 x9 x10 (iAdd x11 1)
                else none
              else none
            else none
          else none
        else
          if (decide ((0 : Int) ≤ x6)) = true then
            if (decide ((x6 : Int) < (((List.length x0) : Nat) : Int))) = true then
              bind (kill_begins (List.getD x9 (Int.toNat x11) d_api_Node)) fun v21 =>
              kill_gather_l9 (List.set x0 (Int.toNat x6) ((List.getD x0 (Int.toNat x6) (0#32)) ||| v21)) x1 x2 x3 x4 x5 x6 x7 x8 x9 x10 (iAdd x11 1)
            else none
          else none
      else none
    else none
  else
    some x0
partial_fixpoint
noncomputable abbrev kill_gather_l9_s (x0 : List (BitVec 32)) (x1 : List Int) (x2 : Int) (x3 : Int) (x4 : Int) (x5 : List (List api_Node)) (x6 : Int) (x7 : Int) (x8 : Int) (x9 : List api_Node) (x10 : Int) (x11 : Int) : St := ⟨dead :: .pv (.fn 91) :: .ptr 0 [] 0 0 :: (List.replicate 5 dead ++ (.ms 1 [] 0 (List.length x0) :: dead :: .pv (.int .i64 x6) :: (List.replicate 14 dead ++ (.ms 2 [] 0 (List.length x1) :: .pv (.int .i64 x7) :: .pv (.int .i64 x8) :: (List.replicate 7 dead ++ (.pv (.seq (List.length x9) (encP e_api_Node d_api_Node x9)) :: .pv (.int .i64 x10) :: .pv (.int .i64 x11) :: List.replicate 29 dead)))))), [.box 0 [.pv (.int .i64 x2), .pv (.int .i64 x3), .pv (.int .i64 x4), .pv (.seq (List.length x5) (encP e_61 ([] : List api_Node) x5))], .arr 0 1 (List.length x0) (encW o_u32 0#32 x0), .arr 0 1 (List.length x1) (encW o_i64 0 x1)]⟩
noncomputable abbrev kill_gather_l9_e (x0 : List (BitVec 32)) (x1 : List Int) (x2 : Int) (x3 : Int) (x4 : Int) (x5 : List (List api_Node)) (x6 : Int) (x7 : Int) (x8 : Int) (x9 : List api_Node) (x10 : Int) (x11 : Int) (r : (List (BitVec 32))) : St := ⟨dead :: .pv (.fn 91) :: .ptr 0 [] 0 0 :: (List.replicate 5 dead ++ (.ms 1 [] 0 (List.length r) :: (List.replicate 16 dead ++ (.ms 2 [] 0 (List.length x1) :: .pv (.int .i64 x7) :: .pv (.int .i64 x8) :: List.replicate 39 dead)))), [.box 0 [.pv (.int .i64 x2), .pv (.int .i64 x3), .pv (.int .i64 x4), .pv (.seq (List.length x5) (encP e_61 ([] : List api_Node) x5))], .arr 0 1 (List.length r) (encW o_u32 0#32 r), .arr 0 1 (List.length x1) (encW o_i64 0 x1)]⟩
theorem kill_gather_l9_ok (x0 : List (BitVec 32)) (x1 : List Int) (x2 : Int) (x3 : Int) (x4 : Int) (x5 : List (List api_Node)) (x6 : Int) (x7 : Int) (x8 : Int) (x9 : List api_Node) (x10 : Int) (x11 : Int) (r : (List (BitVec 32))) (h : kill_gather_l9 x0 x1 x2 x3 x4 x5 x6 x7 x8 x9 x10 x11 = some r) : Loops Try.prog kill_gather_l9_c 0 (kill_gather_l9_s x0 x1 x2 x3 x4 x5 x6 x7 x8 x9 x10 x11) (.exit 2) (kill_gather_l9_e x0 x1 x2 x3 x4 x5 x6 x7 x8 x9 x10 x11 r) := by
 refine kill_gather_l9.partial_correctness x1 x2 x3 x4 x5 x6 x7 x8 x9 x10 (fun x0 x11 r => Loops Try.prog kill_gather_l9_c 0 (kill_gather_l9_s x0 x1 x2 x3 x4 x5 x6 x7 x8 x9 x10 x11) (.exit 2) (kill_gather_l9_e x0 x1 x2 x3 x4 x5 x6 x7 x8 x9 x10 x11 r)) ?_ x0 x11 r h
 clear h r x0 x11
 intro self ih x0 x11 r h
 rcases if_of h with ⟨c11, h⟩ | ⟨c11, h⟩
 · obtain ⟨c12, h⟩ := need_of h
   obtain ⟨c13, h⟩ := need_of h
   rcases if_of h with ⟨c14, h⟩ | ⟨c14, h⟩
   · obtain ⟨c15, h⟩ := need_of h
     obtain ⟨c16, h⟩ := need_of h
     obtain ⟨c17, h⟩ := need_of h
     obtain ⟨c18, h⟩ := need_of h
     exact pmore mixed lives 88 (by kernel_rfl) (pk <| pb c11 <| pn c12 <| pn c13 <| pk5 <| pb c14 <| pn c15 <| pn c16 <| pk2 <| pn c17 <| pn c18 <| pk <| pe (eff_int (k := .u32) (un_or .u32 rfl (List.getD x0 (Int.toNat x6) (0#32)) (List.getD x0 (Int.toNat ((List.getD x9 (Int.toNat x11) d_api_Node).arg)) (0#32)))) <| pn c15 <| pn c16 <| pt <| pe (eff_hb (v := dead) (b := 1) (hb := []) (sc := []) (put_top o_u32 (0#32) 0 1 (List.length x0) x0 (Int.toNat x6) 0 [.pv (.int .u32 (BitVec.toNat ((List.getD x0 (Int.toNat x6) (0#32)) ||| (List.getD x0 (Int.toNat ((List.getD x9 (Int.toNat x11) d_api_Node).arg)) (0#32))) : Nat))] ((List.getD x0 (Int.toNat x6) (0#32)) ||| (List.getD x0 (Int.toNat ((List.getD x9 (Int.toNat x11) d_api_Node).arg)) (0#32))) (by kernel_rfl) (by first | exact Nat.le_refl _ | exact Nat.zero_le _ | (simp only [decide_eq_true_eq, List.length_set, List.length_append, List.length_replicate, List.length_cons, List.length_nil, Nat.zero_add] at * <;> omega)))) <| pk <| pz) (Loops.of (s1 := ⟨dead :: .pv (.fn 91) :: .ptr 0 [] 0 0 :: (List.replicate 5 dead ++ (.ms 1 [] 0 (List.length x0) :: dead :: .pv (.int .i64 x6) :: (List.replicate 14 dead ++ (.ms 2 [] 0 (List.length x1) :: .pv (.int .i64 x7) :: .pv (.int .i64 x8) :: (List.replicate 7 dead ++ (.pv (.seq (List.length x9) (encP e_api_Node d_api_Node x9)) :: .pv (.int .i64 x10) :: .pv (.int .i64 (iAdd x11 1)) :: List.replicate 29 dead)))))), [.box 0 [.pv (.int .i64 x2), .pv (.int .i64 x3), .pv (.int .i64 x4), .pv (.seq (List.length x5) (encP e_61 ([] : List api_Node) x5))], .arr 0 1 (List.length x0) (encW o_u32 0#32 (List.set x0 (Int.toNat x6) ((List.getD x0 (Int.toNat x6) (0#32)) ||| (List.getD x0 (Int.toNat ((List.getD x9 (Int.toNat x11) d_api_Node).arg)) (0#32))))), .arr 0 1 (List.length x1) (encW o_i64 0 x1)]⟩) (ih (List.set x0 (Int.toNat x6) ((List.getD x0 (Int.toNat x6) (0#32)) ||| (List.getD x0 (Int.toNat ((List.getD x9 (Int.toNat x11) d_api_Node).arg)) (0#32)))) (iAdd x11 1) _ h) (by (first | rfl | (simp only [kill_gather_l9_s, List.length_set]; done))))
   · obtain ⟨c19, h⟩ := need_of h
     obtain ⟨c20, h⟩ := need_of h
     obtain ⟨v21, h22, h⟩ := bind_of h
     exact pmore mixed lives 88 (by kernel_rfl) (pk <| pb c11 <| pn c12 <| pn c13 <| pk5 <| pb c14 <| pn c19 <| pn c20 <| pk2 <| pc (kill_begins_ok _ _ h22) <| pk <| pe (eff_int (k := .u32) (un_or .u32 rfl (List.getD x0 (Int.toNat x6) (0#32)) v21)) <| pn c19 <| pn c20 <| pt <| pe (eff_hb (v := dead) (b := 1) (hb := []) (sc := []) (put_top o_u32 (0#32) 0 1 (List.length x0) x0 (Int.toNat x6) 0 [.pv (.int .u32 (BitVec.toNat ((List.getD x0 (Int.toNat x6) (0#32)) ||| v21) : Nat))] ((List.getD x0 (Int.toNat x6) (0#32)) ||| v21) (by kernel_rfl) (by first | exact Nat.le_refl _ | exact Nat.zero_le _ | (simp only [decide_eq_true_eq, List.length_set, List.length_append, List.length_replicate, List.length_cons, List.length_nil, Nat.zero_add] at * <;> omega)))) <| pk <| pz) (Loops.of (s1 := ⟨dead :: .pv (.fn 91) :: .ptr 0 [] 0 0 :: (List.replicate 5 dead ++ (.ms 1 [] 0 (List.length x0) :: dead :: .pv (.int .i64 x6) :: (List.replicate 14 dead ++ (.ms 2 [] 0 (List.length x1) :: .pv (.int .i64 x7) :: .pv (.int .i64 x8) :: (List.replicate 7 dead ++ (.pv (.seq (List.length x9) (encP e_api_Node d_api_Node x9)) :: .pv (.int .i64 x10) :: .pv (.int .i64 (iAdd x11 1)) :: List.replicate 29 dead)))))), [.box 0 [.pv (.int .i64 x2), .pv (.int .i64 x3), .pv (.int .i64 x4), .pv (.seq (List.length x5) (encP e_61 ([] : List api_Node) x5))], .arr 0 1 (List.length x0) (encW o_u32 0#32 (List.set x0 (Int.toNat x6) ((List.getD x0 (Int.toNat x6) (0#32)) ||| v21))), .arr 0 1 (List.length x1) (encW o_i64 0 x1)]⟩) (ih (List.set x0 (Int.toNat x6) ((List.getD x0 (Int.toNat x6) (0#32)) ||| v21)) (iAdd x11 1) _ h) (by (first | rfl | (simp only [kill_gather_l9_s, List.length_set]; done))))
 · have h := Option.some.inj h; subst h
   exact plast mixed lives 88 (by kernel_rfl) (pk <| pb c11 <| pz) rfl
noncomputable def kill_gather_l6_c : Code := sub (codeOf Try.prog 88) [1, 1, 1, 1, 0, 1, 0, 0]
def kill_gather_l6 (x0 : List (BitVec 32)) (x1 : List Int) (x2 : Int) (x3 : Int) (x4 : Int) (x5 : List (List api_Node)) (x6 : Int) (x7 : Int) : Option ((List (BitVec 32))) :=
  if (decide ((x7 : Int) < x6)) = true then
    if (decide ((0 : Int) ≤ x7)) = true then
      if (decide ((x7 : Int) < (((List.length x1) : Nat) : Int))) = true then
        if (decide ((0 : Int) ≤ (List.getD x1 (Int.toNat x7) 0))) = true then
          if (decide (((List.getD x1 (Int.toNat x7) 0) : Int) < ((List.length x5 : Nat) : Int))) = true then
            bind (kill_gather_l9 x0 x1 x2 x3 x4 x5 (List.getD x1 (Int.toNat x7) 0) x6 x7 (List.getD x5 (Int.toNat (List.getD x1 (Int.toNat x7) 0)) (([] : List api_Node))) (((List.length (List.getD x5 (Int.toNat (List.getD x1 (Int.toNat x7) 0)) (([] : List api_Node))) : Nat) : Int)) 0) fun v23 =>
            kill_gather_l6 v23 x1 x2 x3 x4 x5 x6 (iAdd x7 1)
          else none
        else none
      else none
    else none
  else
    some x0
partial_fixpoint
noncomputable abbrev kill_gather_l6_s (x0 : List (BitVec 32)) (x1 : List Int) (x2 : Int) (x3 : Int) (x4 : Int) (x5 : List (List api_Node)) (x6 : Int) (x7 : Int) : St := ⟨dead :: .pv (.fn 91) :: .ptr 0 [] 0 0 :: (List.replicate 5 dead ++ (.ms 1 [] 0 (List.length x0) :: (List.replicate 16 dead ++ (.ms 2 [] 0 (List.length x1) :: .pv (.int .i64 x6) :: .pv (.int .i64 x7) :: List.replicate 39 dead)))), [.box 0 [.pv (.int .i64 x2), .pv (.int .i64 x3), .pv (.int .i64 x4), .pv (.seq (List.length x5) (encP e_61 ([] : List api_Node) x5))], .arr 0 1 (List.length x0) (encW o_u32 0#32 x0), .arr 0 1 (List.length x1) (encW o_i64 0 x1)]⟩
noncomputable abbrev kill_gather_l6_e (x0 : List (BitVec 32)) (x1 : List Int) (x2 : Int) (x3 : Int) (x4 : Int) (x5 : List (List api_Node)) (x6 : Int) (x7 : Int) (r : (List (BitVec 32))) : St := ⟨(List.replicate 8 dead ++ (.ms 0 [] 0 (List.length r) :: List.replicate 58 dead)), [.arr 0 1 (List.length r) (encW o_u32 0#32 r)]⟩
theorem kill_gather_l6_ok (x0 : List (BitVec 32)) (x1 : List Int) (x2 : Int) (x3 : Int) (x4 : Int) (x5 : List (List api_Node)) (x6 : Int) (x7 : Int) (r : (List (BitVec 32))) (h : kill_gather_l6 x0 x1 x2 x3 x4 x5 x6 x7 = some r) : Loops Try.prog kill_gather_l6_c 0 (kill_gather_l6_s x0 x1 x2 x3 x4 x5 x6 x7) (.exit 0) (kill_gather_l6_e x0 x1 x2 x3 x4 x5 x6 x7 r) := by
 refine kill_gather_l6.partial_correctness x1 x2 x3 x4 x5 x6 (fun x0 x7 r => Loops Try.prog kill_gather_l6_c 0 (kill_gather_l6_s x0 x1 x2 x3 x4 x5 x6 x7) (.exit 0) (kill_gather_l6_e x0 x1 x2 x3 x4 x5 x6 x7 r)) ?_ x0 x7 r h
 clear h r x0 x7
 intro self ih x0 x7 r h
 rcases if_of h with ⟨c6, h⟩ | ⟨c6, h⟩
 · obtain ⟨c7, h⟩ := need_of h
   obtain ⟨c8, h⟩ := need_of h
   obtain ⟨c9, h⟩ := need_of h
   obtain ⟨c10, h⟩ := need_of h
   obtain ⟨v23, h24, h⟩ := bind_of h
   exact pmore mixed lives 88 (by kernel_rfl) (pk <| pb c6 <| pn c7 <| pn c8 <| pk2 <| pn c9 <| pn c10 <| pk2 <| pl (kill_gather_l9_ok _ _ _ _ _ _ _ _ _ _ _ _ _ h24) <| pk <| pz) (ih v23 (iAdd x7 1) _ h)
 · have h := Option.some.inj h; subst h
   exact plast mixed lives 88 (by kernel_rfl) (pk <| pb c6 <| pz) rfl
/-- alibi/kill.gather -/
def kill_gather (p : api_Program) : Option (Int × (List (BitVec 32))) :=
  bind (graph_Order p) fun v1 =>
  if ((v1.1 : Int) != 0) = true then
    some (v1.1, ([] : List (BitVec 32)))
  else
    if (decide ((0 : Int) ≤ (((List.length p.funcs : Nat) : Int)))) = true then
      if (decide (((((List.length p.funcs : Nat) : Int)) : Int) * ((4 : Nat) : Int) ≤ ((reach : Nat) : Int))) = true then
        bind (kill_gather_l6 (List.replicate (Int.toNat (((List.length p.funcs : Nat) : Int))) (0#32)) v1.2 p.globals p.locks p.slots p.funcs ((((List.length v1.2) : Nat) : Int)) 0) fun v25 =>
        some (0, v25)
      else none
    else none
theorem kill_gather_ok (p : api_Program) (r : Int × (List (BitVec 32))) (h : kill_gather p = some r) : Does Try.prog 88 [.agg [.pv (.int .i64 p.globals), .pv (.int .i64 p.locks), .pv (.int .i64 p.slots), .pv (.seq (List.length p.funcs) (encP e_61 ([] : List api_Node) p.funcs))], .pv (.fn 91)] [] (.tup [.ms 0 [] 0 (List.length r.2), .pv (.int .i64 r.1)], [.arr 0 1 (List.length r.2) (encW o_u32 0#32 r.2)]) := by
 unfold kill_gather at h
 obtain ⟨v1, h2, h⟩ := bind_of h
 rcases if_of h with ⟨c3, h⟩ | ⟨c3, h⟩
 · have h := Option.some.inj h; subst h
   refine Does.eq (pdoes mixed (L := lives) (r := (.tup [.ms 0 [] 0 (List.length ([] : List (BitVec 32))), .pv (.int .i64 v1.1)], [.arr 0 1 (List.length ([] : List (BitVec 32))) (encW o_u32 0#32 (([] : List (BitVec 32))))])) (by kernel_rfl) (pk2 <| pc (graph_Order_ok _ _ h2) <| pk2 <| pb c3 <| pz)) ?_
   (first | rfl | (simp only [List.length_set]; done))
 · obtain ⟨c4, h⟩ := need_of h
   obtain ⟨c5, h⟩ := need_of h
   obtain ⟨v25, h26, h⟩ := bind_of h
   have h := Option.some.inj h; subst h
   exact pdoes mixed (L := lives) (by kernel_rfl) (pk2 <| pc (graph_Order_ok _ _ h2) <| pk2 <| pb c3 <| pk2 <| pn c4 <| pn ((decide_eq_true rfl) : (decide (((((List.length p.funcs : Nat) : Int)) : Int) = (((List.length p.funcs : Nat) : Int)))) = true) <| pn c5 <| pe (eff_make o_u32 (0#32) 2 1 (Int.toNat (((List.length p.funcs : Nat) : Int)))) <| pk <| pl (kill_gather_l6_ok _ _ _ _ _ _ _ _ _ h26) <| pz)
noncomputable def kill_Begins_l6_c : Code := sub (codeOf Try.prog 50) [1, 1, 1, 1, 0, 1, 0, 0]
def kill_Begins_l6 (x0 : List (BitVec 32)) (x1 : BitVec 32) (x2 : Int) (x3 : Int) : Option ((BitVec 32)) :=
  if (decide ((x3 : Int) < x2)) = true then
    if (decide ((0 : Int) ≤ x3)) = true then
      if (decide ((x3 : Int) < (((List.length x0) : Nat) : Int))) = true then
        if (decide ((0#32) < (List.getD x0 (Int.toNat x3) (0#32)))) = true then
          bind (sets_One x3) fun v8 =>
          kill_Begins_l6 x0 (x1 ||| v8) x2 (iAdd x3 1)
        else
          kill_Begins_l6 x0 x1 x2 (iAdd x3 1)
      else none
    else none
  else
    some x1
partial_fixpoint
noncomputable abbrev kill_Begins_l6_s (x0 : List (BitVec 32)) (x1 : BitVec 32) (x2 : Int) (x3 : Int) : St := ⟨(List.replicate 6 dead ++ (.pv (.int .u32 (BitVec.toNat x1 : Nat)) :: (List.replicate 10 dead ++ (.ms 0 [] 0 (List.length x0) :: .pv (.int .i64 x2) :: .pv (.int .i64 x3) :: List.replicate 12 dead)))), [.arr 0 1 (List.length x0) (encW o_u32 0#32 x0)]⟩
noncomputable abbrev kill_Begins_l6_e (x0 : List (BitVec 32)) (x1 : BitVec 32) (x2 : Int) (x3 : Int) (r : (BitVec 32)) : St := ⟨(List.replicate 6 dead ++ (.pv (.int .u32 (BitVec.toNat r : Nat)) :: List.replicate 25 dead)), []⟩
theorem kill_Begins_l6_ok (x0 : List (BitVec 32)) (x1 : BitVec 32) (x2 : Int) (x3 : Int) (r : (BitVec 32)) (h : kill_Begins_l6 x0 x1 x2 x3 = some r) : Loops Try.prog kill_Begins_l6_c 0 (kill_Begins_l6_s x0 x1 x2 x3) (.exit 0) (kill_Begins_l6_e x0 x1 x2 x3 r) := by
 refine kill_Begins_l6.partial_correctness x0 x2 (fun x1 x3 r => Loops Try.prog kill_Begins_l6_c 0 (kill_Begins_l6_s x0 x1 x2 x3) (.exit 0) (kill_Begins_l6_e x0 x1 x2 x3 r)) ?_ x1 x3 r h
 clear h r x1 x3
 intro self ih x1 x3 r h
 rcases if_of h with ⟨c4, h⟩ | ⟨c4, h⟩
 · obtain ⟨c5, h⟩ := need_of h
   obtain ⟨c6, h⟩ := need_of h
   rcases if_of h with ⟨c7, h⟩ | ⟨c7, h⟩
   · obtain ⟨v8, h9, h⟩ := bind_of h
     exact pmore mixed lives 50 (by kernel_rfl) (pk <| pb c4 <| pn c5 <| pn c6 <| pk <| pe (eff_bool (un_gtr (List.getD x0 (Int.toNat x3) (0#32)) (0#32))) <| pb c7 <| pc (sets_One_ok _ _ h9) <| pk <| pe (eff_int (k := .u32) (un_or .u32 rfl x1 v8)) <| pk <| pz) (ih (x1 ||| v8) (iAdd x3 1) _ h)
   · exact pmore mixed lives 50 (by kernel_rfl) (pk <| pb c4 <| pn c5 <| pn c6 <| pk <| pe (eff_bool (un_gtr (List.getD x0 (Int.toNat x3) (0#32)) (0#32))) <| pb c7 <| pk <| pz) (ih x1 (iAdd x3 1) _ h)
 · have h := Option.some.inj h; subst h
   exact plast mixed lives 50 (by kernel_rfl) (pk <| pb c4 <| pz) rfl
/-- alibi/kill.Begins -/
def kill_Begins (p : api_Program) : Option ((BitVec 32) × Int) :=
  bind (kill_gather p) fun v1 =>
  if ((v1.1 : Int) != 0) = true then
    some (0#32, v1.1)
  else
    bind (kill_Begins_l6 v1.2 (0#32) ((((List.length v1.2) : Nat) : Int)) 0) fun v10 =>
    some (v10, 0)
theorem kill_Begins_ok (p : api_Program) (r : (BitVec 32) × Int) (h : kill_Begins p = some r) : Does Try.prog 50 [.agg [.pv (.int .i64 p.globals), .pv (.int .i64 p.locks), .pv (.int .i64 p.slots), .pv (.seq (List.length p.funcs) (encP e_61 ([] : List api_Node) p.funcs))]] [] (.tup [.pv (.int .u32 (BitVec.toNat r.1 : Nat)), .pv (.int .i64 r.2)], []) := by
 unfold kill_Begins at h
 obtain ⟨v1, h2, h⟩ := bind_of h
 rcases if_of h with ⟨c3, h⟩ | ⟨c3, h⟩
 · have h := Option.some.inj h; subst h
   exact pdoes mixed (L := lives) (by kernel_rfl) (pk2 <| pc (kill_gather_ok _ _ h2) <| pk2 <| pb c3 <| pz)
 · obtain ⟨v10, h11, h⟩ := bind_of h
   have h := Option.some.inj h; subst h
   exact pdoes mixed (L := lives) (by kernel_rfl) (pk2 <| pc (kill_gather_ok _ _ h2) <| pk2 <| pb c3 <| pk <| pl (kill_Begins_l6_ok _ _ _ _ _ h11) <| pz)
structure api_Fault where
  func : Int
  node : Int
  what : Int

noncomputable def must_Shaped_l4_c : Code := sub (codeOf Try.prog 56) [1, 1, 0, 1, 0, 0]
inductive must_Shaped_l4_R where
  | x0 (v0 : Bool)
  | x1
def must_Shaped_l4_R.ex : must_Shaped_l4_R → Ex
  | .x0 _ => .ret
  | .x1 => .exit 0
noncomputable def must_Shaped_l4_R.st (x0 : Int) (x1 : Int) (x2 : Int) (x3 : List (List api_Node)) (x4 : List api_Section) (x5 : Int) (x6 : Int) : must_Shaped_l4_R → St
  | .x0 v0 => ⟨(List.replicate 4 dead ++ (.pv (.bool v0) :: List.replicate 38 dead)), []⟩
  | .x1 => ⟨List.replicate 43 dead, []⟩
def must_Shaped_l4 (x0 : Int) (x1 : Int) (x2 : Int) (x3 : List (List api_Node)) (x4 : List api_Section) (x5 : Int) (x6 : Int) : Option (must_Shaped_l4_R) :=
  if (decide ((x6 : Int) < x5)) = true then
    if (decide ((0 : Int) ≤ x6)) = true then
      if (decide ((x6 : Int) < ((List.length x4 : Nat) : Int))) = true then
        if (decide ((x6 : Int) < ((List.length x3 : Nat) : Int))) = true then
          if (((((List.length ((List.getD x4 (Int.toNat x6) d_api_Section).held) : Nat) : Int)) : Int) != (((List.length (List.getD x3 (Int.toNat x6) (([] : List api_Node))) : Nat) : Int))) = true then
            some (.x0 false)
          else
            if (((((List.length ((List.getD x4 (Int.toNat x6) d_api_Section).live) : Nat) : Int)) : Int) != (((List.length (List.getD x3 (Int.toNat x6) (([] : List api_Node))) : Nat) : Int))) = true then
              some (.x0 false)
            else
              must_Shaped_l4 x0 x1 x2 x3 x4 x5 (iAdd x6 1)
        else none
      else none
    else none
  else
    some (.x1)
partial_fixpoint
noncomputable abbrev must_Shaped_l4_s (x0 : Int) (x1 : Int) (x2 : Int) (x3 : List (List api_Node)) (x4 : List api_Section) (x5 : Int) (x6 : Int) : St := ⟨dead :: dead :: .ptr 0 [] 0 0 :: (List.replicate 10 dead ++ (.pv (.seq (List.length x4) (encP e_api_Section d_api_Section x4)) :: .pv (.int .i64 x5) :: .pv (.int .i64 x6) :: List.replicate 27 dead)), [.box 0 [.pv (.int .i64 x0), .pv (.int .i64 x1), .pv (.int .i64 x2), .pv (.seq (List.length x3) (encP e_61 ([] : List api_Node) x3))]]⟩
theorem must_Shaped_l4_ok (x0 : Int) (x1 : Int) (x2 : Int) (x3 : List (List api_Node)) (x4 : List api_Section) (x5 : Int) (x6 : Int) (r : must_Shaped_l4_R) (h : must_Shaped_l4 x0 x1 x2 x3 x4 x5 x6 = some r) : Loops Try.prog must_Shaped_l4_c 0 (must_Shaped_l4_s x0 x1 x2 x3 x4 x5 x6) r.ex (must_Shaped_l4_R.st x0 x1 x2 x3 x4 x5 x6 r) := by
 refine must_Shaped_l4.partial_correctness x0 x1 x2 x3 x4 x5 (fun x6 r => Loops Try.prog must_Shaped_l4_c 0 (must_Shaped_l4_s x0 x1 x2 x3 x4 x5 x6) r.ex (must_Shaped_l4_R.st x0 x1 x2 x3 x4 x5 x6 r)) ?_ x6 r h
 clear h r x6
 intro self ih x6 r h
 rcases if_of h with ⟨c2, h⟩ | ⟨c2, h⟩
 · obtain ⟨c3, h⟩ := need_of h
   obtain ⟨c4, h⟩ := need_of h
   obtain ⟨c5, h⟩ := need_of h
   rcases if_of h with ⟨c6, h⟩ | ⟨c6, h⟩
   · have h := Option.some.inj h; subst h
     exact plast mixed lives 56 (by kernel_rfl) (pk <| pb c2 <| pn c3 <| pn c4 <| pk6 <| pn c3 <| pn c5 <| pk3 <| pb c6 <| pk8 <| pk3 <| pz) rfl
   · rcases if_of h with ⟨c7, h⟩ | ⟨c7, h⟩
     · have h := Option.some.inj h; subst h
       exact plast mixed lives 56 (by kernel_rfl) (pk <| pb c2 <| pn c3 <| pn c4 <| pk6 <| pn c3 <| pn c5 <| pk3 <| pb c6 <| pk8 <| pk <| pn c3 <| pn c5 <| pk7 <| pb c7 <| pz) rfl
     · exact pmore mixed lives 56 (by kernel_rfl) (pk <| pb c2 <| pn c3 <| pn c4 <| pk6 <| pn c3 <| pn c5 <| pk3 <| pb c6 <| pk8 <| pk <| pn c3 <| pn c5 <| pk7 <| pb c7 <| pk <| pz) (ih (iAdd x6 1) _ h)
 · have h := Option.some.inj h; subst h
   exact plast mixed lives 56 (by kernel_rfl) (pk <| pb c2 <| pz) rfl
/-- alibi/must.Shaped -/
def must_Shaped (p : api_Program) (l : List api_Section) : Option (Bool) :=
  if (((((List.length l : Nat) : Int)) : Int) != (((List.length p.funcs : Nat) : Int))) = true then
    some false
  else
    bind (must_Shaped_l4 p.globals p.locks p.slots p.funcs l (((List.length l : Nat) : Int)) 0) fun q => match q with
      | .x0 v8 =>
        some v8
      | .x1 =>
        some true
theorem must_Shaped_ok (p : api_Program) (l : List api_Section) (r : Bool) (h : must_Shaped p l = some r) : Does Try.prog 56 [.agg [.pv (.int .i64 p.globals), .pv (.int .i64 p.locks), .pv (.int .i64 p.slots), .pv (.seq (List.length p.funcs) (encP e_61 ([] : List api_Node) p.funcs))], .pv (.seq (List.length l) (encP e_api_Section d_api_Section l))] [] (.pv (.bool r), []) := by
 unfold must_Shaped at h
 rcases if_of h with ⟨c1, h⟩ | ⟨c1, h⟩
 · have h := Option.some.inj h; subst h
   exact pdoes mixed (L := lives) (by kernel_rfl) (pk5 <| pb c1 <| pz)
 · obtain ⟨q, hq, h⟩ := bind_of h
   cases q with
   | x0 v8 =>
    have h9 := hq; clear hq
    try dsimp only at h
    have h := Option.some.inj h; subst h
    exact pdoes mixed (L := lives) (by kernel_rfl) (pk5 <| pb c1 <| pk <| pl (must_Shaped_l4_ok _ _ _ _ _ _ _ _ h9) <| pz)
   | x1 =>
    have h10 := hq; clear hq
    try dsimp only at h
    have h := Option.some.inj h; subst h
    exact pdoes mixed (L := lives) (by kernel_rfl) (pk5 <| pb c1 <| pk <| pl (must_Shaped_l4_ok _ _ _ _ _ _ _ _ h10) <| pz)
/-- alibi/sets.Within -/
def sets_Within (a : BitVec 32) (b : BitVec 32) : Option (Bool) :=
  some ((a &&& ~~~b) == (0#32))
theorem sets_Within_ok (a : BitVec 32) (b : BitVec 32) (r : Bool) (h : sets_Within a b = some r) : Does Try.prog 98 [.pv (.int .u32 (BitVec.toNat a : Nat)), .pv (.int .u32 (BitVec.toNat b : Nat))] [] (.pv (.bool r), []) := by
 unfold sets_Within at h
 have h := Option.some.inj h; subst h
 exact pdoes mixed (L := lives) (by kernel_rfl) (pe (eff_int (k := .u32) (un_andNot .u32 rfl a b)) <| pe (eff_bool (un_eql (a &&& ~~~b) (0#32))) <| pz)
structure may_checker where
  p : api_Program
  l : List api_Section
  begins : BitVec 32

/-- alibi/prog.Succ -/
def prog_Succ (n1 : api_Node) : Option ((List Int)) :=
  if ((n1.kind : Int) == 9) = true then
    some (([] : List Int))
  else
    if ((n1.kind : Int) == 8) = true then
      some ([n1.next, n1.alt])
    else
      some ([n1.next])
theorem prog_Succ_ok (n1 : api_Node) (r : (List Int)) (h : prog_Succ n1 = some r) : Does Try.prog 87 [.agg [.pv (.int .i64 n1.kind), .pv (.int .i64 n1.arg), .pv (.int .i64 n1.next), .pv (.int .i64 n1.alt)]] [] (.ms 0 [] 0 (List.length r), [.arr 0 1 (List.length r) (encW o_i64 0 r)]) := by
 unfold prog_Succ at h
 rcases if_of h with ⟨c1, h⟩ | ⟨c1, h⟩
 · have h := Option.some.inj h; subst h
   refine Does.eq (pdoes mixed (L := lives) (r := (.ms 0 [] 0 (List.length ([] : List Int)), [.arr 0 1 (List.length ([] : List Int)) (encW o_i64 0 (([] : List Int)))])) (by kernel_rfl) (pk3 <| pb c1 <| pz)) ?_
   (first | rfl | (simp only [List.length_set]; done))
 · rcases if_of h with ⟨c2, h⟩ | ⟨c2, h⟩
   · have h := Option.some.inj h; subst h
     exact pdoes mixed (L := lives) (by kernel_rfl) (pk3 <| pb c1 <| pk <| pb c2 <| pk2 <| pe (eff_lit o_i64 0 1 1 2 ([n1.next, n1.alt]) rfl [] []) <| pz)
   · have h := Option.some.inj h; subst h
     exact pdoes mixed (L := lives) (by kernel_rfl) (pk3 <| pb c1 <| pk <| pb c2 <| pk <| pe (eff_lit o_i64 0 1 1 1 ([n1.next]) rfl [] []) <| pz)
noncomputable def may_checker_node_l15_c : Code := sub (codeOf Try.prog 99) [1, 1, 1, 1, 0, 1, 0, 0]
inductive may_checker_node_l15_R where
  | x0 (v0 : Int)
  | x1
def may_checker_node_l15_R.ex : may_checker_node_l15_R → Ex
  | .x0 _ => .ret
  | .x1 => .exit 1
noncomputable def may_checker_node_l15_R.st (x0 : List Int) (x1 : Int) (x2 : Int) (x3 : Int) (x4 : List (List api_Node)) (x5 : List api_Section) (x6 : BitVec 32) (x7 : Int) (x8 : Int) (x9 : Int) (x10 : Int) (x11 : Int) (x12 : BitVec 32) (x13 : BitVec 32) (x14 : Int) (x15 : Int) : may_checker_node_l15_R → St
  | .x0 v0 => ⟨(List.replicate 6 dead ++ (.pv (.int .i64 v0) :: List.replicate 100 dead)), []⟩
  | .x1 => ⟨List.replicate 107 dead, []⟩
def may_checker_node_l15 (x0 : List Int) (x1 : Int) (x2 : Int) (x3 : Int) (x4 : List (List api_Node)) (x5 : List api_Section) (x6 : BitVec 32) (x7 : Int) (x8 : Int) (x9 : Int) (x10 : Int) (x11 : Int) (x12 : BitVec 32) (x13 : BitVec 32) (x14 : Int) (x15 : Int) : Option (may_checker_node_l15_R) :=
  if (decide ((x15 : Int) < x14)) = true then
    if (decide ((0 : Int) ≤ x15)) = true then
      if (decide ((x15 : Int) < (((List.length x0) : Nat) : Int))) = true then
        bind (may_Lost (api_Program.mk x1 x2 x3 x4)) fun v18 =>
        bind (sets_Has x6 x8) fun v20 =>
        bind (may_Behind (api_Node.mk x7 x8 x9 x10) x12 x13 v18 v20) fun v22 =>
        if (decide ((0 : Int) ≤ x11)) = true then
          if (decide ((x11 : Int) < ((List.length x5 : Nat) : Int))) = true then
            if (decide ((0 : Int) ≤ (List.getD x0 (Int.toNat x15) 0))) = true then
              if (decide (((List.getD x0 (Int.toNat x15) 0) : Int) < ((List.length ((List.getD x5 (Int.toNat x11) d_api_Section).live) : Nat) : Int))) = true then
                bind (sets_Within v22 (List.getD ((List.getD x5 (Int.toNat x11) d_api_Section).live) (Int.toNat (List.getD x0 (Int.toNat x15) 0)) (0#32))) fun v28 =>
                if (!v28) = true then
                  some (.x0 6)
                else
                  may_checker_node_l15 x0 x1 x2 x3 x4 x5 x6 x7 x8 x9 x10 x11 x12 x13 x14 (iAdd x15 1)
              else none
            else none
          else none
        else none
      else none
    else none
  else
    some (.x1)
partial_fixpoint
noncomputable abbrev may_checker_node_l15_s (x0 : List Int) (x1 : Int) (x2 : Int) (x3 : Int) (x4 : List (List api_Node)) (x5 : List api_Section) (x6 : BitVec 32) (x7 : Int) (x8 : Int) (x9 : Int) (x10 : Int) (x11 : Int) (x12 : BitVec 32) (x13 : BitVec 32) (x14 : Int) (x15 : Int) : St := ⟨dead :: .pv (.int .i64 x11) :: dead :: .ptr 0 [] 0 0 :: dead :: dead :: dead :: .ptr 1 [] 0 0 :: .pv (.int .u32 (BitVec.toNat x12 : Nat)) :: .pv (.int .u32 (BitVec.toNat x13 : Nat)) :: (List.replicate 67 dead ++ (.ms 2 [] 0 (List.length x0) :: .pv (.int .i64 x14) :: .pv (.int .i64 x15) :: List.replicate 27 dead)), [.box 0 [.pv (.int .i64 x1), .pv (.int .i64 x2), .pv (.int .i64 x3), .pv (.seq (List.length x4) (encP e_61 ([] : List api_Node) x4)), .pv (.seq (List.length x5) (encP e_api_Section d_api_Section x5)), .pv (.int .u32 (BitVec.toNat x6 : Nat))], .box 0 [.pv (.int .i64 x7), .pv (.int .i64 x8), .pv (.int .i64 x9), .pv (.int .i64 x10)], .arr 0 1 (List.length x0) (encW o_i64 0 x0)]⟩
theorem may_checker_node_l15_ok (x0 : List Int) (x1 : Int) (x2 : Int) (x3 : Int) (x4 : List (List api_Node)) (x5 : List api_Section) (x6 : BitVec 32) (x7 : Int) (x8 : Int) (x9 : Int) (x10 : Int) (x11 : Int) (x12 : BitVec 32) (x13 : BitVec 32) (x14 : Int) (x15 : Int) (r : may_checker_node_l15_R) (h : may_checker_node_l15 x0 x1 x2 x3 x4 x5 x6 x7 x8 x9 x10 x11 x12 x13 x14 x15 = some r) : Loops Try.prog may_checker_node_l15_c 0 (may_checker_node_l15_s x0 x1 x2 x3 x4 x5 x6 x7 x8 x9 x10 x11 x12 x13 x14 x15) r.ex (may_checker_node_l15_R.st x0 x1 x2 x3 x4 x5 x6 x7 x8 x9 x10 x11 x12 x13 x14 x15 r) := by
 refine may_checker_node_l15.partial_correctness x0 x1 x2 x3 x4 x5 x6 x7 x8 x9 x10 x11 x12 x13 x14 (fun x15 r => Loops Try.prog may_checker_node_l15_c 0 (may_checker_node_l15_s x0 x1 x2 x3 x4 x5 x6 x7 x8 x9 x10 x11 x12 x13 x14 x15) r.ex (may_checker_node_l15_R.st x0 x1 x2 x3 x4 x5 x6 x7 x8 x9 x10 x11 x12 x13 x14 x15 r)) ?_ x15 r h
 clear h r x15
 intro self ih x15 r h
 rcases if_of h with ⟨c15, h⟩ | ⟨c15, h⟩
 · obtain ⟨c16, h⟩ := need_of h
   obtain ⟨c17, h⟩ := need_of h
   obtain ⟨v18, h19, h⟩ := bind_of h
   obtain ⟨v20, h21, h⟩ := bind_of h
   obtain ⟨v22, h23, h⟩ := bind_of h
   obtain ⟨c24, h⟩ := need_of h
   obtain ⟨c25, h⟩ := need_of h
   obtain ⟨c26, h⟩ := need_of h
   obtain ⟨c27, h⟩ := need_of h
   obtain ⟨v28, h29, h⟩ := bind_of h
   rcases if_of h with ⟨c30, h⟩ | ⟨c30, h⟩
   · have h := Option.some.inj h; subst h
     exact plast mixed lives 99 (by kernel_rfl) (pk <| pb c15 <| pn c16 <| pn c17 <| pk3 <| pc (may_Lost_ok _ _ h19) <| pk3 <| pc (sets_Has_ok _ _ _ h21) <| pk <| pc (may_Behind_ok _ _ _ _ _ _ h23) <| pk2 <| pn c24 <| pn c25 <| pk <| pn c26 <| pn c27 <| pk <| pc (sets_Within_ok _ _ _ h29) <| pk2 <| pb c30 <| pz) rfl
   · exact pmore mixed lives 99 (by kernel_rfl) (pk <| pb c15 <| pn c16 <| pn c17 <| pk3 <| pc (may_Lost_ok _ _ h19) <| pk3 <| pc (sets_Has_ok _ _ _ h21) <| pk <| pc (may_Behind_ok _ _ _ _ _ _ h23) <| pk2 <| pn c24 <| pn c25 <| pk <| pn c26 <| pn c27 <| pk <| pc (sets_Within_ok _ _ _ h29) <| pk2 <| pb c30 <| pk <| pz) (ih (iAdd x15 1) _ h)
 · have h := Option.some.inj h; subst h
   exact plast mixed lives 99 (by kernel_rfl) (pk <| pb c15 <| pz) rfl
/-- (alibi/may.checker).node -/
def may_checker_node (c : may_checker) (f : Int) (i : Int) : Option (Int) :=
  if (decide ((0 : Int) ≤ f)) = true then
    if (decide ((f : Int) < ((List.length c.p.funcs : Nat) : Int))) = true then
      if (decide ((0 : Int) ≤ i)) = true then
        if (decide ((i : Int) < ((List.length (List.getD c.p.funcs (Int.toNat f) (([] : List api_Node))) : Nat) : Int))) = true then
          if (decide ((f : Int) < ((List.length c.l : Nat) : Int))) = true then
            if (decide ((i : Int) < ((List.length ((List.getD c.l (Int.toNat f) d_api_Section).live) : Nat) : Int))) = true then
              if ((((List.getD (List.getD c.p.funcs (Int.toNat f) (([] : List api_Node))) (Int.toNat i) d_api_Node).kind) : Int) == 7) = true then
                if (decide ((0 : Int) ≤ ((List.getD (List.getD c.p.funcs (Int.toNat f) (([] : List api_Node))) (Int.toNat i) d_api_Node).arg))) = true then
                  if (decide ((((List.getD (List.getD c.p.funcs (Int.toNat f) (([] : List api_Node))) (Int.toNat i) d_api_Node).arg) : Int) < ((List.length c.l : Nat) : Int))) = true then
                    bind (sets_Within (List.getD ((List.getD c.l (Int.toNat f) d_api_Section).live) (Int.toNat i) (0#32)) ((List.getD c.l (Int.toNat ((List.getD (List.getD c.p.funcs (Int.toNat f) (([] : List api_Node))) (Int.toNat i) d_api_Node).arg)) d_api_Section).liveEntry)) fun v10 =>
                    if (!v10) = true then
                      some 6
                    else
                      bind (prog_Succ (List.getD (List.getD c.p.funcs (Int.toNat f) (([] : List api_Node))) (Int.toNat i) d_api_Node)) fun v13 =>
                      bind (may_checker_node_l15 v13 c.p.globals c.p.locks c.p.slots c.p.funcs c.l c.begins ((List.getD (List.getD c.p.funcs (Int.toNat f) (([] : List api_Node))) (Int.toNat i) d_api_Node).kind) ((List.getD (List.getD c.p.funcs (Int.toNat f) (([] : List api_Node))) (Int.toNat i) d_api_Node).arg) ((List.getD (List.getD c.p.funcs (Int.toNat f) (([] : List api_Node))) (Int.toNat i) d_api_Node).next) ((List.getD (List.getD c.p.funcs (Int.toNat f) (([] : List api_Node))) (Int.toNat i) d_api_Node).alt) f (List.getD ((List.getD c.l (Int.toNat f) d_api_Section).live) (Int.toNat i) (0#32)) ((List.getD c.l (Int.toNat ((List.getD (List.getD c.p.funcs (Int.toNat f) (([] : List api_Node))) (Int.toNat i) d_api_Node).arg)) d_api_Section).liveExit) ((((List.length v13) : Nat) : Int)) 0) fun q => match q with
                        | .x0 v31 =>
                          some v31
                        | .x1 =>
                          some 0
                  else none
                else none
              else
                if ((((List.getD (List.getD c.p.funcs (Int.toNat f) (([] : List api_Node))) (Int.toNat i) d_api_Node).kind) : Int) == 9) = true then
                  bind (sets_Within (List.getD ((List.getD c.l (Int.toNat f) d_api_Section).live) (Int.toNat i) (0#32)) ((List.getD c.l (Int.toNat f) d_api_Section).liveExit)) fun v35 =>
                  if (!v35) = true then
                    some 6
                  else
                    bind (prog_Succ (List.getD (List.getD c.p.funcs (Int.toNat f) (([] : List api_Node))) (Int.toNat i) d_api_Node)) fun v38 =>
                    bind (may_checker_node_l15 v38 c.p.globals c.p.locks c.p.slots c.p.funcs c.l c.begins ((List.getD (List.getD c.p.funcs (Int.toNat f) (([] : List api_Node))) (Int.toNat i) d_api_Node).kind) ((List.getD (List.getD c.p.funcs (Int.toNat f) (([] : List api_Node))) (Int.toNat i) d_api_Node).arg) ((List.getD (List.getD c.p.funcs (Int.toNat f) (([] : List api_Node))) (Int.toNat i) d_api_Node).next) ((List.getD (List.getD c.p.funcs (Int.toNat f) (([] : List api_Node))) (Int.toNat i) d_api_Node).alt) f (List.getD ((List.getD c.l (Int.toNat f) d_api_Section).live) (Int.toNat i) (0#32)) (0#32) ((((List.length v38) : Nat) : Int)) 0) fun q => match q with
                      | .x0 v40 =>
                        some v40
                      | .x1 =>
                        some 0
                else
                  if ((((List.getD (List.getD c.p.funcs (Int.toNat f) (([] : List api_Node))) (Int.toNat i) d_api_Node).kind) : Int) == 5) = true then
                    if (decide ((0 : Int) ≤ ((List.getD (List.getD c.p.funcs (Int.toNat f) (([] : List api_Node))) (Int.toNat i) d_api_Node).arg))) = true then
                      if (decide ((((List.getD (List.getD c.p.funcs (Int.toNat f) (([] : List api_Node))) (Int.toNat i) d_api_Node).arg) : Int) < ((List.length c.l : Nat) : Int))) = true then
                        bind (may_Lost c.p) fun v46 =>
                        bind (sets_Has ((List.getD c.l (Int.toNat ((List.getD (List.getD c.p.funcs (Int.toNat f) (([] : List api_Node))) (Int.toNat i) d_api_Node).arg)) d_api_Section).liveEntry) v46) fun v48 =>
                        if (!v48) = true then
                          some 7
                        else
                          bind (prog_Succ (List.getD (List.getD c.p.funcs (Int.toNat f) (([] : List api_Node))) (Int.toNat i) d_api_Node)) fun v51 =>
                          bind (may_checker_node_l15 v51 c.p.globals c.p.locks c.p.slots c.p.funcs c.l c.begins ((List.getD (List.getD c.p.funcs (Int.toNat f) (([] : List api_Node))) (Int.toNat i) d_api_Node).kind) ((List.getD (List.getD c.p.funcs (Int.toNat f) (([] : List api_Node))) (Int.toNat i) d_api_Node).arg) ((List.getD (List.getD c.p.funcs (Int.toNat f) (([] : List api_Node))) (Int.toNat i) d_api_Node).next) ((List.getD (List.getD c.p.funcs (Int.toNat f) (([] : List api_Node))) (Int.toNat i) d_api_Node).alt) f (List.getD ((List.getD c.l (Int.toNat f) d_api_Section).live) (Int.toNat i) (0#32)) (0#32) ((((List.length v51) : Nat) : Int)) 0) fun q => match q with
                            | .x0 v53 =>
                              some v53
                            | .x1 =>
                              some 0
                      else none
                    else none
                  else
                    bind (prog_Succ (List.getD (List.getD c.p.funcs (Int.toNat f) (([] : List api_Node))) (Int.toNat i) d_api_Node)) fun v56 =>
                    bind (may_checker_node_l15 v56 c.p.globals c.p.locks c.p.slots c.p.funcs c.l c.begins ((List.getD (List.getD c.p.funcs (Int.toNat f) (([] : List api_Node))) (Int.toNat i) d_api_Node).kind) ((List.getD (List.getD c.p.funcs (Int.toNat f) (([] : List api_Node))) (Int.toNat i) d_api_Node).arg) ((List.getD (List.getD c.p.funcs (Int.toNat f) (([] : List api_Node))) (Int.toNat i) d_api_Node).next) ((List.getD (List.getD c.p.funcs (Int.toNat f) (([] : List api_Node))) (Int.toNat i) d_api_Node).alt) f (List.getD ((List.getD c.l (Int.toNat f) d_api_Section).live) (Int.toNat i) (0#32)) (0#32) ((((List.length v56) : Nat) : Int)) 0) fun q => match q with
                      | .x0 v58 =>
                        some v58
                      | .x1 =>
                        some 0
            else none
          else none
        else none
      else none
    else none
  else none
theorem may_checker_node_ok (c : may_checker) (f : Int) (i : Int) (r : Int) (h : may_checker_node c f i = some r) : Does Try.prog 99 [.agg [.pv (.int .i64 c.p.globals), .pv (.int .i64 c.p.locks), .pv (.int .i64 c.p.slots), .pv (.seq (List.length c.p.funcs) (encP e_61 ([] : List api_Node) c.p.funcs)), .pv (.seq (List.length c.l) (encP e_api_Section d_api_Section c.l)), .pv (.int .u32 (BitVec.toNat c.begins : Nat))], .pv (.int .i64 f), .pv (.int .i64 i)] [] (.pv (.int .i64 r), []) := by
 unfold may_checker_node at h
 obtain ⟨c1, h⟩ := need_of h
 obtain ⟨c2, h⟩ := need_of h
 obtain ⟨c3, h⟩ := need_of h
 obtain ⟨c4, h⟩ := need_of h
 obtain ⟨c5, h⟩ := need_of h
 obtain ⟨c6, h⟩ := need_of h
 rcases if_of h with ⟨c7, h⟩ | ⟨c7, h⟩
 · obtain ⟨c8, h⟩ := need_of h
   obtain ⟨c9, h⟩ := need_of h
   obtain ⟨v10, h11, h⟩ := bind_of h
   rcases if_of h with ⟨c12, h⟩ | ⟨c12, h⟩
   · have h := Option.some.inj h; subst h
     exact pdoes mixed (L := lives) (by kernel_rfl) (pk2 <| pn c1 <| pn c2 <| pk <| pn c3 <| pn c4 <| pk2 <| pn c1 <| pn c5 <| pk <| pn c3 <| pn c6 <| pk5 <| pb c7 <| pk2 <| pn c8 <| pn c9 <| pk3 <| pn c8 <| pn c9 <| pk <| pc (sets_Within_ok _ _ _ h11) <| pk2 <| pb c12 <| pz)
   · obtain ⟨v13, h14, h⟩ := bind_of h
     obtain ⟨q, hq, h⟩ := bind_of h
     cases q with
     | x0 v31 =>
      have h32 := hq; clear hq
      try dsimp only at h
      have h := Option.some.inj h; subst h
      exact pdoes mixed (L := lives) (by kernel_rfl) (pk2 <| pn c1 <| pn c2 <| pk <| pn c3 <| pn c4 <| pk2 <| pn c1 <| pn c5 <| pk <| pn c3 <| pn c6 <| pk5 <| pb c7 <| pk2 <| pn c8 <| pn c9 <| pk3 <| pn c8 <| pn c9 <| pk <| pc (sets_Within_ok _ _ _ h11) <| pk2 <| pb c12 <| pk <| pc (prog_Succ_ok _ _ h14) <| pk2 <| pl (may_checker_node_l15_ok _ _ _ _ _ _ _ _ _ _ _ _ _ _ _ _ _ h32) <| pz)
     | x1 =>
      have h33 := hq; clear hq
      try dsimp only at h
      have h := Option.some.inj h; subst h
      exact pdoes mixed (L := lives) (by kernel_rfl) (pk2 <| pn c1 <| pn c2 <| pk <| pn c3 <| pn c4 <| pk2 <| pn c1 <| pn c5 <| pk <| pn c3 <| pn c6 <| pk5 <| pb c7 <| pk2 <| pn c8 <| pn c9 <| pk3 <| pn c8 <| pn c9 <| pk <| pc (sets_Within_ok _ _ _ h11) <| pk2 <| pb c12 <| pk <| pc (prog_Succ_ok _ _ h14) <| pk2 <| pl (may_checker_node_l15_ok _ _ _ _ _ _ _ _ _ _ _ _ _ _ _ _ _ h33) <| pz)
 · rcases if_of h with ⟨c34, h⟩ | ⟨c34, h⟩
   · obtain ⟨v35, h36, h⟩ := bind_of h
     rcases if_of h with ⟨c37, h⟩ | ⟨c37, h⟩
     · have h := Option.some.inj h; subst h
       exact pdoes mixed (L := lives) (by kernel_rfl) (pk2 <| pn c1 <| pn c2 <| pk <| pn c3 <| pn c4 <| pk2 <| pn c1 <| pn c5 <| pk <| pn c3 <| pn c6 <| pk5 <| pb c7 <| pk <| pb c34 <| pk <| pn c1 <| pn c5 <| pk <| pc (sets_Within_ok _ _ _ h36) <| pk2 <| pb c37 <| pz)
     · obtain ⟨v38, h39, h⟩ := bind_of h
       obtain ⟨q, hq, h⟩ := bind_of h
       cases q with
       | x0 v40 =>
        have h41 := hq; clear hq
        try dsimp only at h
        have h := Option.some.inj h; subst h
        exact pdoes mixed (L := lives) (by kernel_rfl) (pk2 <| pn c1 <| pn c2 <| pk <| pn c3 <| pn c4 <| pk2 <| pn c1 <| pn c5 <| pk <| pn c3 <| pn c6 <| pk5 <| pb c7 <| pk <| pb c34 <| pk <| pn c1 <| pn c5 <| pk <| pc (sets_Within_ok _ _ _ h36) <| pk2 <| pb c37 <| pk <| pc (prog_Succ_ok _ _ h39) <| pk2 <| pl (may_checker_node_l15_ok _ _ _ _ _ _ _ _ _ _ _ _ _ _ _ _ _ h41) <| pz)
       | x1 =>
        have h42 := hq; clear hq
        try dsimp only at h
        have h := Option.some.inj h; subst h
        exact pdoes mixed (L := lives) (by kernel_rfl) (pk2 <| pn c1 <| pn c2 <| pk <| pn c3 <| pn c4 <| pk2 <| pn c1 <| pn c5 <| pk <| pn c3 <| pn c6 <| pk5 <| pb c7 <| pk <| pb c34 <| pk <| pn c1 <| pn c5 <| pk <| pc (sets_Within_ok _ _ _ h36) <| pk2 <| pb c37 <| pk <| pc (prog_Succ_ok _ _ h39) <| pk2 <| pl (may_checker_node_l15_ok _ _ _ _ _ _ _ _ _ _ _ _ _ _ _ _ _ h42) <| pz)
   · rcases if_of h with ⟨c43, h⟩ | ⟨c43, h⟩
     · obtain ⟨c44, h⟩ := need_of h
       obtain ⟨c45, h⟩ := need_of h
       obtain ⟨v46, h47, h⟩ := bind_of h
       obtain ⟨v48, h49, h⟩ := bind_of h
       rcases if_of h with ⟨c50, h⟩ | ⟨c50, h⟩
       · have h := Option.some.inj h; subst h
         exact pdoes mixed (L := lives) (by kernel_rfl) (pk2 <| pn c1 <| pn c2 <| pk <| pn c3 <| pn c4 <| pk2 <| pn c1 <| pn c5 <| pk <| pn c3 <| pn c6 <| pk5 <| pb c7 <| pk <| pb c34 <| pk <| pb c43 <| pk2 <| pn c44 <| pn c45 <| pk2 <| pc (may_Lost_ok _ _ h47) <| pk <| pc (sets_Has_ok _ _ _ h49) <| pk2 <| pb c50 <| pz)
       · obtain ⟨v51, h52, h⟩ := bind_of h
         obtain ⟨q, hq, h⟩ := bind_of h
         cases q with
         | x0 v53 =>
          have h54 := hq; clear hq
          try dsimp only at h
          have h := Option.some.inj h; subst h
          exact pdoes mixed (L := lives) (by kernel_rfl) (pk2 <| pn c1 <| pn c2 <| pk <| pn c3 <| pn c4 <| pk2 <| pn c1 <| pn c5 <| pk <| pn c3 <| pn c6 <| pk5 <| pb c7 <| pk <| pb c34 <| pk <| pb c43 <| pk2 <| pn c44 <| pn c45 <| pk2 <| pc (may_Lost_ok _ _ h47) <| pk <| pc (sets_Has_ok _ _ _ h49) <| pk2 <| pb c50 <| pk <| pc (prog_Succ_ok _ _ h52) <| pk2 <| pl (may_checker_node_l15_ok _ _ _ _ _ _ _ _ _ _ _ _ _ _ _ _ _ h54) <| pz)
         | x1 =>
          have h55 := hq; clear hq
          try dsimp only at h
          have h := Option.some.inj h; subst h
          exact pdoes mixed (L := lives) (by kernel_rfl) (pk2 <| pn c1 <| pn c2 <| pk <| pn c3 <| pn c4 <| pk2 <| pn c1 <| pn c5 <| pk <| pn c3 <| pn c6 <| pk5 <| pb c7 <| pk <| pb c34 <| pk <| pb c43 <| pk2 <| pn c44 <| pn c45 <| pk2 <| pc (may_Lost_ok _ _ h47) <| pk <| pc (sets_Has_ok _ _ _ h49) <| pk2 <| pb c50 <| pk <| pc (prog_Succ_ok _ _ h52) <| pk2 <| pl (may_checker_node_l15_ok _ _ _ _ _ _ _ _ _ _ _ _ _ _ _ _ _ h55) <| pz)
     · obtain ⟨v56, h57, h⟩ := bind_of h
       obtain ⟨q, hq, h⟩ := bind_of h
       cases q with
       | x0 v58 =>
        have h59 := hq; clear hq
        try dsimp only at h
        have h := Option.some.inj h; subst h
        exact pdoes mixed (L := lives) (by kernel_rfl) (pk2 <| pn c1 <| pn c2 <| pk <| pn c3 <| pn c4 <| pk2 <| pn c1 <| pn c5 <| pk <| pn c3 <| pn c6 <| pk5 <| pb c7 <| pk <| pb c34 <| pk <| pb c43 <| pk <| pc (prog_Succ_ok _ _ h57) <| pk2 <| pl (may_checker_node_l15_ok _ _ _ _ _ _ _ _ _ _ _ _ _ _ _ _ _ h59) <| pz)
       | x1 =>
        have h60 := hq; clear hq
        try dsimp only at h
        have h := Option.some.inj h; subst h
        exact pdoes mixed (L := lives) (by kernel_rfl) (pk2 <| pn c1 <| pn c2 <| pk <| pn c3 <| pn c4 <| pk2 <| pn c1 <| pn c5 <| pk <| pn c3 <| pn c6 <| pk5 <| pb c7 <| pk <| pb c34 <| pk <| pb c43 <| pk <| pc (prog_Succ_ok _ _ h57) <| pk2 <| pl (may_checker_node_l15_ok _ _ _ _ _ _ _ _ _ _ _ _ _ _ _ _ _ h60) <| pz)
noncomputable def may_Check_l13_c : Code := sub (codeOf Try.prog 59) [1, 1, 1, 1, 1, 0, 1, 0, 0, 1, 1, 0, 0, 1, 1, 1, 0, 0]
inductive may_Check_l13_R where
  | x0 (v0 : Int) (v1 : Int) (v2 : Int)
  | x1
def may_Check_l13_R.ex : may_Check_l13_R → Ex
  | .x0 _ _ _ => .ret
  | .x1 => .exit 2
noncomputable def may_Check_l13_R.st (x0 : Int) (x1 : Int) (x2 : Int) (x3 : List (List api_Node)) (x4 : Int) (x5 : Int) (x6 : Int) (x7 : Int) (x8 : Int) (x9 : Int) (x10 : List (List api_Node)) (x11 : List api_Section) (x12 : BitVec 32) (x13 : Int) (x14 : List api_Section) (x15 : Int) (x16 : Int) (x17 : Int) (x18 : Int) : may_Check_l13_R → St
  | .x0 v0 v1 v2 => ⟨dead :: dead :: .ptr 0 [] 0 0 :: dead :: .ptr 1 [] 0 0 :: .pv (.int .i64 v2) :: dead :: dead :: .ptr 2 [] 0 0 :: (List.replicate 22 dead ++ (.pv (.seq (List.length x14) (encP e_api_Section d_api_Section x14)) :: .pv (.int .i64 x15) :: .pv (.int .i64 x16) :: List.replicate 36 dead)), [.box 0 [.pv (.int .i64 x0), .pv (.int .i64 x1), .pv (.int .i64 x2), .pv (.seq (List.length x3) (encP e_61 ([] : List api_Node) x3))], .box 0 [.pv (.int .i64 x13), .pv (.int .i64 v0), .pv (.int .i64 v1)], .box 0 [.pv (.int .i64 x7), .pv (.int .i64 x8), .pv (.int .i64 x9), .pv (.seq (List.length x10) (encP e_61 ([] : List api_Node) x10)), .pv (.seq (List.length x11) (encP e_api_Section d_api_Section x11)), .pv (.int .u32 (BitVec.toNat x12 : Nat))]]⟩
  | .x1 => ⟨dead :: dead :: .ptr 0 [] 0 0 :: dead :: .ptr 1 [] 0 0 :: dead :: dead :: dead :: .ptr 2 [] 0 0 :: (List.replicate 22 dead ++ (.pv (.seq (List.length x14) (encP e_api_Section d_api_Section x14)) :: .pv (.int .i64 x15) :: .pv (.int .i64 x16) :: List.replicate 36 dead)), [.box 0 [.pv (.int .i64 x0), .pv (.int .i64 x1), .pv (.int .i64 x2), .pv (.seq (List.length x3) (encP e_61 ([] : List api_Node) x3))], .box 0 [.pv (.int .i64 x4), .pv (.int .i64 x5), .pv (.int .i64 x6)], .box 0 [.pv (.int .i64 x7), .pv (.int .i64 x8), .pv (.int .i64 x9), .pv (.seq (List.length x10) (encP e_61 ([] : List api_Node) x10)), .pv (.seq (List.length x11) (encP e_api_Section d_api_Section x11)), .pv (.int .u32 (BitVec.toNat x12 : Nat))]]⟩
def may_Check_l13 (x0 : Int) (x1 : Int) (x2 : Int) (x3 : List (List api_Node)) (x4 : Int) (x5 : Int) (x6 : Int) (x7 : Int) (x8 : Int) (x9 : Int) (x10 : List (List api_Node)) (x11 : List api_Section) (x12 : BitVec 32) (x13 : Int) (x14 : List api_Section) (x15 : Int) (x16 : Int) (x17 : Int) (x18 : Int) : Option (may_Check_l13_R) :=
  if (decide ((x18 : Int) < x17)) = true then
    bind (may_checker_node (may_checker.mk (api_Program.mk x7 x8 x9 x10) x11 x12) x13 x18) fun v16 =>
    if ((v16 : Int) != 0) = true then
      some (.x0 x18 v16 0)
    else
      may_Check_l13 x0 x1 x2 x3 x4 x5 x6 x7 x8 x9 x10 x11 x12 x13 x14 x15 x16 x17 (iAdd x18 1)
  else
    some (.x1)
partial_fixpoint
noncomputable abbrev may_Check_l13_s (x0 : Int) (x1 : Int) (x2 : Int) (x3 : List (List api_Node)) (x4 : Int) (x5 : Int) (x6 : Int) (x7 : Int) (x8 : Int) (x9 : Int) (x10 : List (List api_Node)) (x11 : List api_Section) (x12 : BitVec 32) (x13 : Int) (x14 : List api_Section) (x15 : Int) (x16 : Int) (x17 : Int) (x18 : Int) : St := ⟨dead :: dead :: .ptr 0 [] 0 0 :: dead :: .ptr 1 [] 0 0 :: dead :: dead :: dead :: .ptr 2 [] 0 0 :: .pv (.int .i64 x13) :: (List.replicate 21 dead ++ (.pv (.seq (List.length x14) (encP e_api_Section d_api_Section x14)) :: .pv (.int .i64 x15) :: .pv (.int .i64 x16) :: (List.replicate 19 dead ++ (.pv (.int .i64 x17) :: .pv (.int .i64 x18) :: List.replicate 15 dead)))), [.box 0 [.pv (.int .i64 x0), .pv (.int .i64 x1), .pv (.int .i64 x2), .pv (.seq (List.length x3) (encP e_61 ([] : List api_Node) x3))], .box 0 [.pv (.int .i64 x4), .pv (.int .i64 x5), .pv (.int .i64 x6)], .box 0 [.pv (.int .i64 x7), .pv (.int .i64 x8), .pv (.int .i64 x9), .pv (.seq (List.length x10) (encP e_61 ([] : List api_Node) x10)), .pv (.seq (List.length x11) (encP e_api_Section d_api_Section x11)), .pv (.int .u32 (BitVec.toNat x12 : Nat))]]⟩
theorem may_Check_l13_ok (x0 : Int) (x1 : Int) (x2 : Int) (x3 : List (List api_Node)) (x4 : Int) (x5 : Int) (x6 : Int) (x7 : Int) (x8 : Int) (x9 : Int) (x10 : List (List api_Node)) (x11 : List api_Section) (x12 : BitVec 32) (x13 : Int) (x14 : List api_Section) (x15 : Int) (x16 : Int) (x17 : Int) (x18 : Int) (r : may_Check_l13_R) (h : may_Check_l13 x0 x1 x2 x3 x4 x5 x6 x7 x8 x9 x10 x11 x12 x13 x14 x15 x16 x17 x18 = some r) : Loops Try.prog may_Check_l13_c 0 (may_Check_l13_s x0 x1 x2 x3 x4 x5 x6 x7 x8 x9 x10 x11 x12 x13 x14 x15 x16 x17 x18) r.ex (may_Check_l13_R.st x0 x1 x2 x3 x4 x5 x6 x7 x8 x9 x10 x11 x12 x13 x14 x15 x16 x17 x18 r) := by
 refine may_Check_l13.partial_correctness x0 x1 x2 x3 x4 x5 x6 x7 x8 x9 x10 x11 x12 x13 x14 x15 x16 x17 (fun x18 r => Loops Try.prog may_Check_l13_c 0 (may_Check_l13_s x0 x1 x2 x3 x4 x5 x6 x7 x8 x9 x10 x11 x12 x13 x14 x15 x16 x17 x18) r.ex (may_Check_l13_R.st x0 x1 x2 x3 x4 x5 x6 x7 x8 x9 x10 x11 x12 x13 x14 x15 x16 x17 x18 r)) ?_ x18 r h
 clear h r x18
 intro self ih x18 r h
 rcases if_of h with ⟨c15, h⟩ | ⟨c15, h⟩
 · obtain ⟨v16, h17, h⟩ := bind_of h
   rcases if_of h with ⟨c18, h⟩ | ⟨c18, h⟩
   · have h := Option.some.inj h; subst h
     exact plast mixed lives 59 (by kernel_rfl) (pk <| pb c15 <| pk <| pc (may_checker_node_ok _ _ _ _ h17) <| pk2 <| pb c18 <| pk2 <| pz) rfl
   · exact pmore mixed lives 59 (by kernel_rfl) (pk <| pb c15 <| pk <| pc (may_checker_node_ok _ _ _ _ h17) <| pk2 <| pb c18 <| pk <| pz) (ih (iAdd x18 1) _ h)
 · have h := Option.some.inj h; subst h
   exact plast mixed lives 59 (by kernel_rfl) (pk <| pb c15 <| pz) rfl
noncomputable def may_Check_l8_c : Code := sub (codeOf Try.prog 59) [1, 1, 1, 1, 1, 0, 1, 0, 0]
inductive may_Check_l8_R where
  | x0 (v0 : Int) (v1 : Int) (v2 : Int) (v3 : Int)
  | x1
def may_Check_l8_R.ex : may_Check_l8_R → Ex
  | .x0 _ _ _ _ => .ret
  | .x1 => .exit 0
noncomputable def may_Check_l8_R.st (x0 : Int) (x1 : Int) (x2 : Int) (x3 : List (List api_Node)) (x4 : Int) (x5 : Int) (x6 : Int) (x7 : Int) (x8 : Int) (x9 : Int) (x10 : List (List api_Node)) (x11 : List api_Section) (x12 : BitVec 32) (x13 : List api_Section) (x14 : Int) (x15 : Int) : may_Check_l8_R → St
  | .x0 v0 v1 v2 v3 => ⟨(List.replicate 4 dead ++ (.ptr 0 [] 0 0 :: .pv (.int .i64 v3) :: List.replicate 64 dead)), [.box 0 [.pv (.int .i64 v0), .pv (.int .i64 v1), .pv (.int .i64 v2)]]⟩
  | .x1 => ⟨(List.replicate 4 dead ++ (.ptr 0 [] 0 0 :: List.replicate 65 dead)), [.box 0 [.pv (.int .i64 x4), .pv (.int .i64 x5), .pv (.int .i64 x6)]]⟩
def may_Check_l8 (x0 : Int) (x1 : Int) (x2 : Int) (x3 : List (List api_Node)) (x4 : Int) (x5 : Int) (x6 : Int) (x7 : Int) (x8 : Int) (x9 : Int) (x10 : List (List api_Node)) (x11 : List api_Section) (x12 : BitVec 32) (x13 : List api_Section) (x14 : Int) (x15 : Int) : Option (may_Check_l8_R) :=
  if (decide ((x15 : Int) < x14)) = true then
    if (decide ((0 : Int) ≤ x15)) = true then
      if (decide ((x15 : Int) < ((List.length x13 : Nat) : Int))) = true then
        if (decide ((0 : Int) < ((List.length ((List.getD x13 (Int.toNat x15) d_api_Section).live) : Nat) : Int))) = true then
          bind (sets_Within ((List.getD x13 (Int.toNat x15) d_api_Section).liveEntry) (List.getD ((List.getD x13 (Int.toNat x15) d_api_Section).live) 0 (0#32))) fun v11 =>
          if (!v11) = true then
            some (.x0 x15 ((-1)) 6 0)
          else
            if (decide ((x15 : Int) < ((List.length x3 : Nat) : Int))) = true then
              bind (may_Check_l13 x0 x1 x2 x3 x4 x5 x6 x7 x8 x9 x10 x11 x12 x15 x13 x14 x15 (((List.length (List.getD x3 (Int.toNat x15) (([] : List api_Node))) : Nat) : Int)) 0) fun q => match q with
                | .x0 v19 v20 v21 =>
                  some (.x0 x15 v19 v20 v21)
                | .x1 =>
                  may_Check_l8 x0 x1 x2 x3 x4 x5 x6 x7 x8 x9 x10 x11 x12 x13 x14 (iAdd x15 1)
            else none
        else none
      else none
    else none
  else
    some (.x1)
partial_fixpoint
noncomputable abbrev may_Check_l8_s (x0 : Int) (x1 : Int) (x2 : Int) (x3 : List (List api_Node)) (x4 : Int) (x5 : Int) (x6 : Int) (x7 : Int) (x8 : Int) (x9 : Int) (x10 : List (List api_Node)) (x11 : List api_Section) (x12 : BitVec 32) (x13 : List api_Section) (x14 : Int) (x15 : Int) : St := ⟨dead :: dead :: .ptr 0 [] 0 0 :: dead :: .ptr 1 [] 0 0 :: dead :: dead :: dead :: .ptr 2 [] 0 0 :: (List.replicate 22 dead ++ (.pv (.seq (List.length x13) (encP e_api_Section d_api_Section x13)) :: .pv (.int .i64 x14) :: .pv (.int .i64 x15) :: List.replicate 36 dead)), [.box 0 [.pv (.int .i64 x0), .pv (.int .i64 x1), .pv (.int .i64 x2), .pv (.seq (List.length x3) (encP e_61 ([] : List api_Node) x3))], .box 0 [.pv (.int .i64 x4), .pv (.int .i64 x5), .pv (.int .i64 x6)], .box 0 [.pv (.int .i64 x7), .pv (.int .i64 x8), .pv (.int .i64 x9), .pv (.seq (List.length x10) (encP e_61 ([] : List api_Node) x10)), .pv (.seq (List.length x11) (encP e_api_Section d_api_Section x11)), .pv (.int .u32 (BitVec.toNat x12 : Nat))]]⟩
theorem may_Check_l8_ok (x0 : Int) (x1 : Int) (x2 : Int) (x3 : List (List api_Node)) (x4 : Int) (x5 : Int) (x6 : Int) (x7 : Int) (x8 : Int) (x9 : Int) (x10 : List (List api_Node)) (x11 : List api_Section) (x12 : BitVec 32) (x13 : List api_Section) (x14 : Int) (x15 : Int) (r : may_Check_l8_R) (h : may_Check_l8 x0 x1 x2 x3 x4 x5 x6 x7 x8 x9 x10 x11 x12 x13 x14 x15 = some r) : Loops Try.prog may_Check_l8_c 0 (may_Check_l8_s x0 x1 x2 x3 x4 x5 x6 x7 x8 x9 x10 x11 x12 x13 x14 x15) r.ex (may_Check_l8_R.st x0 x1 x2 x3 x4 x5 x6 x7 x8 x9 x10 x11 x12 x13 x14 x15 r) := by
 refine may_Check_l8.partial_correctness x0 x1 x2 x3 x4 x5 x6 x7 x8 x9 x10 x11 x12 x13 x14 (fun x15 r => Loops Try.prog may_Check_l8_c 0 (may_Check_l8_s x0 x1 x2 x3 x4 x5 x6 x7 x8 x9 x10 x11 x12 x13 x14 x15) r.ex (may_Check_l8_R.st x0 x1 x2 x3 x4 x5 x6 x7 x8 x9 x10 x11 x12 x13 x14 x15 r)) ?_ x15 r h
 clear h r x15
 intro self ih x15 r h
 rcases if_of h with ⟨c7, h⟩ | ⟨c7, h⟩
 · obtain ⟨c8, h⟩ := need_of h
   obtain ⟨c9, h⟩ := need_of h
   obtain ⟨c10, h⟩ := need_of h
   obtain ⟨v11, h12, h⟩ := bind_of h
   rcases if_of h with ⟨c13, h⟩ | ⟨c13, h⟩
   · have h := Option.some.inj h; subst h
     exact plast mixed lives 59 (by kernel_rfl) (pk <| pb c7 <| pn c8 <| pn c9 <| pk5 <| pn (rfl : (decide ((0 : Int) ≤ 0)) = true) <| pn c10 <| pk <| pc (sets_Within_ok _ _ _ h12) <| pk2 <| pb c13 <| pk2 <| pz) rfl
   · obtain ⟨c14, h⟩ := need_of h
     obtain ⟨q, hq, h⟩ := bind_of h
     cases q with
     | x0 v19 v20 v21 =>
      have h22 := hq; clear hq
      try dsimp only at h
      have h := Option.some.inj h; subst h
      exact plast mixed lives 59 (by kernel_rfl) (pk <| pb c7 <| pn c8 <| pn c9 <| pk5 <| pn (rfl : (decide ((0 : Int) ≤ 0)) = true) <| pn c10 <| pk <| pc (sets_Within_ok _ _ _ h12) <| pk2 <| pb c13 <| pk <| pn c8 <| pn c14 <| pk2 <| pl (may_Check_l13_ok _ _ _ _ _ _ _ _ _ _ _ _ _ _ _ _ _ _ _ _ h22) <| pz) rfl
     | x1 =>
      have h23 := hq; clear hq
      try dsimp only at h
      exact pmore mixed lives 59 (by kernel_rfl) (pk <| pb c7 <| pn c8 <| pn c9 <| pk5 <| pn (rfl : (decide ((0 : Int) ≤ 0)) = true) <| pn c10 <| pk <| pc (sets_Within_ok _ _ _ h12) <| pk2 <| pb c13 <| pk <| pn c8 <| pn c14 <| pk2 <| pl (may_Check_l13_ok _ _ _ _ _ _ _ _ _ _ _ _ _ _ _ _ _ _ _ _ h23) <| pk <| pz) (ih (iAdd x15 1) _ h)
 · have h := Option.some.inj h; subst h
   exact plast mixed lives 59 (by kernel_rfl) (pk <| pb c7 <| pz) rfl
/-- alibi/may.Check -/
def may_Check (p : api_Program) (l : List api_Section) : Option (api_Fault × Int) :=
  bind (kill_Begins p) fun v1 =>
  if ((v1.2 : Int) != 0) = true then
    some (api_Fault.mk 0 0 0, v1.2)
  else
    bind (must_Shaped p l) fun v4 =>
    if (!v4) = true then
      some (api_Fault.mk ((-1)) ((-1)) 1, 0)
    else
      bind (may_Check_l8 p.globals p.locks p.slots p.funcs 0 0 0 p.globals p.locks p.slots p.funcs l v1.1 l (((List.length l : Nat) : Int)) 0) fun q => match q with
        | .x0 v24 v25 v26 v27 =>
          some (api_Fault.mk v24 v25 v26, v27)
        | .x1 =>
          some (api_Fault.mk 0 0 0, 0)
theorem may_Check_ok (p : api_Program) (l : List api_Section) (r : api_Fault × Int) (h : may_Check p l = some r) : Does Try.prog 59 [.agg [.pv (.int .i64 p.globals), .pv (.int .i64 p.locks), .pv (.int .i64 p.slots), .pv (.seq (List.length p.funcs) (encP e_61 ([] : List api_Node) p.funcs))], .pv (.seq (List.length l) (encP e_api_Section d_api_Section l))] [] (.tup [.agg [.pv (.int .i64 r.1.func), .pv (.int .i64 r.1.node), .pv (.int .i64 r.1.what)], .pv (.int .i64 r.2)], []) := by
 unfold may_Check at h
 obtain ⟨v1, h2, h⟩ := bind_of h
 rcases if_of h with ⟨c3, h⟩ | ⟨c3, h⟩
 · have h := Option.some.inj h; subst h
   exact pdoes mixed (L := lives) (by kernel_rfl) (pk3 <| pc (kill_Begins_ok _ _ h2) <| pk2 <| pb c3 <| pk2 <| pz)
 · obtain ⟨v4, h5, h⟩ := bind_of h
   rcases if_of h with ⟨c6, h⟩ | ⟨c6, h⟩
   · have h := Option.some.inj h; subst h
     exact pdoes mixed (L := lives) (by kernel_rfl) (pk3 <| pc (kill_Begins_ok _ _ h2) <| pk2 <| pb c3 <| pk <| pc (must_Shaped_ok _ _ _ h5) <| pk2 <| pb c6 <| pk2 <| pz)
   · obtain ⟨q, hq, h⟩ := bind_of h
     cases q with
     | x0 v24 v25 v26 v27 =>
      have h28 := hq; clear hq
      try dsimp only at h
      have h := Option.some.inj h; subst h
      exact pdoes mixed (L := lives) (by kernel_rfl) (pk3 <| pc (kill_Begins_ok _ _ h2) <| pk2 <| pb c3 <| pk <| pc (must_Shaped_ok _ _ _ h5) <| pk2 <| pb c6 <| pk5 <| pl (may_Check_l8_ok _ _ _ _ _ _ _ _ _ _ _ _ _ _ _ _ _ h28) <| pz)
     | x1 =>
      have h29 := hq; clear hq
      try dsimp only at h
      have h := Option.some.inj h; subst h
      exact pdoes mixed (L := lives) (by kernel_rfl) (pk3 <| pc (kill_Begins_ok _ _ h2) <| pk2 <| pb c3 <| pk <| pc (must_Shaped_ok _ _ _ h5) <| pk2 <| pb c6 <| pk5 <| pl (may_Check_l8_ok _ _ _ _ _ _ _ _ _ _ _ _ _ _ _ _ _ h29) <| pk2 <| pz)
def o_str (x : ByteArray) : List AV := [.pv (.str x)]
/-- alibi/alibiref05.Row -/
def alibiref05_Row (kind : Int) : Option (ByteArray) :=
  if (decide ((kind : Int) < 0)) = true then
    some ((ByteArray.mk #[]))
  else
    if (decide ((kind : Int) > 9)) = true then
      some ((ByteArray.mk #[]))
    else
      if (decide ((0 : Int) ≤ kind)) = true then
        if (decide ((kind : Int) < (((List.length ([(ByteArray.mk #[45, 110, 45]), (ByteArray.mk #[103, 110, 45]), (ByteArray.mk #[103, 110, 45]), (ByteArray.mk #[108, 110, 45]), (ByteArray.mk #[108, 110, 45]), (ByteArray.mk #[102, 110, 115]), (ByteArray.mk #[115, 110, 45]), (ByteArray.mk #[102, 110, 45]), (ByteArray.mk #[45, 110, 110]), (ByteArray.mk #[45, 45, 45])])) : Nat) : Int))) = true then
          some (List.getD ([(ByteArray.mk #[45, 110, 45]), (ByteArray.mk #[103, 110, 45]), (ByteArray.mk #[103, 110, 45]), (ByteArray.mk #[108, 110, 45]), (ByteArray.mk #[108, 110, 45]), (ByteArray.mk #[102, 110, 115]), (ByteArray.mk #[115, 110, 45]), (ByteArray.mk #[102, 110, 45]), (ByteArray.mk #[45, 110, 110]), (ByteArray.mk #[45, 45, 45])]) (Int.toNat kind) ByteArray.empty)
        else none
      else none
theorem alibiref05_Row_ok (kind : Int) (r : ByteArray) (h : alibiref05_Row kind = some r) : Does Try.prog 120 [.pv (.int .i64 kind)] [] (.pv (.str r), []) := by
 unfold alibiref05_Row at h
 rcases if_of h with ⟨c1, h⟩ | ⟨c1, h⟩
 · have h := Option.some.inj h; subst h
   exact pdoes mixed (L := lives) (by kernel_rfl) (pk <| pb c1 <| pk3 <| pz)
 · rcases if_of h with ⟨c2, h⟩ | ⟨c2, h⟩
   · have h := Option.some.inj h; subst h
     exact pdoes mixed (L := lives) (by kernel_rfl) (pk <| pb c1 <| pk3 <| pb c2 <| pz)
   · obtain ⟨c3, h⟩ := need_of h
     obtain ⟨c4, h⟩ := need_of h
     have h := Option.some.inj h; subst h
     exact pdoes mixed (L := lives) (by kernel_rfl) (pk <| pb c1 <| pk3 <| pb c2 <| pe (eff_lit o_str ByteArray.empty 0 1 10 ([(ByteArray.mk #[45, 110, 45]), (ByteArray.mk #[103, 110, 45]), (ByteArray.mk #[103, 110, 45]), (ByteArray.mk #[108, 110, 45]), (ByteArray.mk #[108, 110, 45]), (ByteArray.mk #[102, 110, 115]), (ByteArray.mk #[115, 110, 45]), (ByteArray.mk #[102, 110, 45]), (ByteArray.mk #[45, 110, 110]), (ByteArray.mk #[45, 45, 45])]) rfl [] []) <| pn c3 <| pn c4 <| pk <| pz)
/-- alibi/alibiref05.size -/
def alibiref05_size (p : api_Program) (letter : BitVec 8) (nodes : Int) : Option (Int) :=
  if (letter == (103#8)) = true then
    some p.globals
  else
    if (letter == (108#8)) = true then
      some p.locks
    else
      if (letter == (115#8)) = true then
        some p.slots
      else
        if (letter == (102#8)) = true then
          some (((List.length p.funcs : Nat) : Int))
        else
          if (letter == (110#8)) = true then
            some (if 1 > nodes then 1 else nodes)
          else
            some 1
theorem alibiref05_size_ok (p : api_Program) (letter : BitVec 8) (nodes : Int) (r : Int) (h : alibiref05_size p letter nodes = some r) : Does Try.prog 121 [.agg [.pv (.int .i64 p.globals), .pv (.int .i64 p.locks), .pv (.int .i64 p.slots), .pv (.seq (List.length p.funcs) (encP e_61 ([] : List api_Node) p.funcs))], .pv (.int .u8 (BitVec.toNat letter : Nat)), .pv (.int .i64 nodes)] [] (.pv (.int .i64 r), []) := by
 unfold alibiref05_size at h
 rcases if_of h with ⟨c1, h⟩ | ⟨c1, h⟩
 · have h := Option.some.inj h; subst h
   exact pdoes mixed (L := lives) (by kernel_rfl) (pk <| pe (eff_bool (un_eql letter (103#8))) <| pb c1 <| pk <| pz)
 · rcases if_of h with ⟨c2, h⟩ | ⟨c2, h⟩
   · have h := Option.some.inj h; subst h
     exact pdoes mixed (L := lives) (by kernel_rfl) (pk <| pe (eff_bool (un_eql letter (103#8))) <| pb c1 <| pe (eff_bool (un_eql letter (108#8))) <| pb c2 <| pk <| pz)
   · rcases if_of h with ⟨c3, h⟩ | ⟨c3, h⟩
     · have h := Option.some.inj h; subst h
       exact pdoes mixed (L := lives) (by kernel_rfl) (pk <| pe (eff_bool (un_eql letter (103#8))) <| pb c1 <| pe (eff_bool (un_eql letter (108#8))) <| pb c2 <| pe (eff_bool (un_eql letter (115#8))) <| pb c3 <| pk <| pz)
     · rcases if_of h with ⟨c4, h⟩ | ⟨c4, h⟩
       · have h := Option.some.inj h; subst h
         exact pdoes mixed (L := lives) (by kernel_rfl) (pk <| pe (eff_bool (un_eql letter (103#8))) <| pb c1 <| pe (eff_bool (un_eql letter (108#8))) <| pb c2 <| pe (eff_bool (un_eql letter (115#8))) <| pb c3 <| pe (eff_bool (un_eql letter (102#8))) <| pb c4 <| pk2 <| pz)
       · rcases if_of h with ⟨c5, h⟩ | ⟨c5, h⟩
         · have h := Option.some.inj h; subst h
           exact pdoes mixed (L := lives) (by kernel_rfl) (pk <| pe (eff_bool (un_eql letter (103#8))) <| pb c1 <| pe (eff_bool (un_eql letter (108#8))) <| pb c2 <| pe (eff_bool (un_eql letter (115#8))) <| pb c3 <| pe (eff_bool (un_eql letter (102#8))) <| pb c4 <| pe (eff_bool (un_eql letter (110#8))) <| pb c5 <| pk <| pz)
         · have h := Option.some.inj h; subst h
           exact pdoes mixed (L := lives) (by kernel_rfl) (pk <| pe (eff_bool (un_eql letter (103#8))) <| pb c1 <| pe (eff_bool (un_eql letter (108#8))) <| pb c2 <| pe (eff_bool (un_eql letter (115#8))) <| pb c3 <| pe (eff_bool (un_eql letter (102#8))) <| pb c4 <| pe (eff_bool (un_eql letter (110#8))) <| pb c5 <| pz)
noncomputable def alibiref05_May_l6_c : Code := sub (codeOf Try.prog 82) [1, 1, 1, 1, 0, 1, 0, 0]
inductive alibiref05_May_l6_R where
  | x0 (v0 : Bool)
  | x1
def alibiref05_May_l6_R.ex : alibiref05_May_l6_R → Ex
  | .x0 _ => .ret
  | .x1 => .exit 0
noncomputable def alibiref05_May_l6_R.st (x0 : List Int) (x1 : Int) (x2 : Int) (x3 : Int) (x4 : List (List api_Node)) (x5 : Int) (x6 : ByteArray) (x7 : Int) : alibiref05_May_l6_R → St
  | .x0 v0 => ⟨(List.replicate 6 dead ++ (.pv (.bool v0) :: List.replicate 39 dead)), []⟩
  | .x1 => ⟨List.replicate 46 dead, []⟩
def alibiref05_May_l6 (x0 : List Int) (x1 : Int) (x2 : Int) (x3 : Int) (x4 : List (List api_Node)) (x5 : Int) (x6 : ByteArray) (x7 : Int) : Option (alibiref05_May_l6_R) :=
  if (decide ((x7 : Int) < 3)) = true then
    if (decide ((0 : Int) ≤ x7)) = true then
      if (decide ((x7 : Int) < ((ByteArray.size x6 : Nat) : Int))) = true then
        bind (alibiref05_size (api_Program.mk x1 x2 x3 x4) (byteAt x6 (Int.toNat x7)) x5) fun v7 =>
        if (decide ((x7 : Int) < (((List.length x0) : Nat) : Int))) = true then
          if (decide (((List.getD x0 (Int.toNat x7) 0) : Int) < 0)) = true then
            some (.x0 false)
          else
            if (decide (((List.getD x0 (Int.toNat x7) 0) : Int) ≥ v7)) = true then
              some (.x0 false)
            else
              alibiref05_May_l6 x0 x1 x2 x3 x4 x5 x6 (iAdd x7 1)
        else none
      else none
    else none
  else
    some (.x1)
partial_fixpoint
noncomputable abbrev alibiref05_May_l6_s (x0 : List Int) (x1 : Int) (x2 : Int) (x3 : Int) (x4 : List (List api_Node)) (x5 : Int) (x6 : ByteArray) (x7 : Int) : St := ⟨dead :: dead :: .pv (.int .i64 x5) :: .ptr 0 [] 0 0 :: dead :: dead :: dead :: .pv (.str x6) :: .ms 1 [] 0 (List.length x0) :: .pv (.int .i64 x7) :: List.replicate 36 dead, [.box 0 [.pv (.int .i64 x1), .pv (.int .i64 x2), .pv (.int .i64 x3), .pv (.seq (List.length x4) (encP e_61 ([] : List api_Node) x4))], .arr 0 1 (List.length x0) (encW o_i64 0 x0)]⟩
theorem alibiref05_May_l6_ok (x0 : List Int) (x1 : Int) (x2 : Int) (x3 : Int) (x4 : List (List api_Node)) (x5 : Int) (x6 : ByteArray) (x7 : Int) (r : alibiref05_May_l6_R) (h : alibiref05_May_l6 x0 x1 x2 x3 x4 x5 x6 x7 = some r) : Loops Try.prog alibiref05_May_l6_c 0 (alibiref05_May_l6_s x0 x1 x2 x3 x4 x5 x6 x7) r.ex (alibiref05_May_l6_R.st x0 x1 x2 x3 x4 x5 x6 x7 r) := by
 refine alibiref05_May_l6.partial_correctness x0 x1 x2 x3 x4 x5 x6 (fun x7 r => Loops Try.prog alibiref05_May_l6_c 0 (alibiref05_May_l6_s x0 x1 x2 x3 x4 x5 x6 x7) r.ex (alibiref05_May_l6_R.st x0 x1 x2 x3 x4 x5 x6 x7 r)) ?_ x7 r h
 clear h r x7
 intro self ih x7 r h
 rcases if_of h with ⟨c4, h⟩ | ⟨c4, h⟩
 · obtain ⟨c5, h⟩ := need_of h
   obtain ⟨c6, h⟩ := need_of h
   obtain ⟨v7, h8, h⟩ := bind_of h
   obtain ⟨c9, h⟩ := need_of h
   rcases if_of h with ⟨c10, h⟩ | ⟨c10, h⟩
   · have h := Option.some.inj h; subst h
     exact plast mixed lives 82 (by kernel_rfl) (pk <| pb c4 <| pk <| pn c5 <| pn c6 <| pk <| pc (alibiref05_size_ok _ _ _ _ h8) <| pk <| pn c5 <| pn c9 <| pk2 <| pb c10 <| pk7 <| pz) rfl
   · rcases if_of h with ⟨c11, h⟩ | ⟨c11, h⟩
     · have h := Option.some.inj h; subst h
       exact plast mixed lives 82 (by kernel_rfl) (pk <| pb c4 <| pk <| pn c5 <| pn c6 <| pk <| pc (alibiref05_size_ok _ _ _ _ h8) <| pk <| pn c5 <| pn c9 <| pk2 <| pb c10 <| pk2 <| pn c5 <| pn c9 <| pk6 <| pb c11 <| pz) rfl
     · exact pmore mixed lives 82 (by kernel_rfl) (pk <| pb c4 <| pk <| pn c5 <| pn c6 <| pk <| pc (alibiref05_size_ok _ _ _ _ h8) <| pk <| pn c5 <| pn c9 <| pk2 <| pb c10 <| pk2 <| pn c5 <| pn c9 <| pk6 <| pb c11 <| pk <| pz) (ih (iAdd x7 1) _ h)
 · have h := Option.some.inj h; subst h
   exact plast mixed lives 82 (by kernel_rfl) (pk <| pb c4 <| pz) rfl
/-- alibi/alibiref05.May -/
def alibiref05_May (p : api_Program) (n1 : api_Node) (nodes : Int) : Option (Bool) :=
  bind (alibiref05_Row n1.kind) fun v1 =>
  if (ByteArray.toList v1 == ByteArray.toList ((ByteArray.mk #[]))) = true then
    some false
  else
    bind (alibiref05_May_l6 ([n1.arg, n1.next, n1.alt]) p.globals p.locks p.slots p.funcs nodes v1 0) fun q => match q with
      | .x0 v12 =>
        some v12
      | .x1 =>
        some true
theorem alibiref05_May_ok (p : api_Program) (n1 : api_Node) (nodes : Int) (r : Bool) (h : alibiref05_May p n1 nodes = some r) : Does Try.prog 82 [.agg [.pv (.int .i64 p.globals), .pv (.int .i64 p.locks), .pv (.int .i64 p.slots), .pv (.seq (List.length p.funcs) (encP e_61 ([] : List api_Node) p.funcs))], .agg [.pv (.int .i64 n1.kind), .pv (.int .i64 n1.arg), .pv (.int .i64 n1.next), .pv (.int .i64 n1.alt)], .pv (.int .i64 nodes)] [] (.pv (.bool r), []) := by
 unfold alibiref05_May at h
 obtain ⟨v1, h2, h⟩ := bind_of h
 rcases if_of h with ⟨c3, h⟩ | ⟨c3, h⟩
 · have h := Option.some.inj h; subst h
   exact pdoes mixed (L := lives) (by kernel_rfl) (pk3 <| pc (alibiref05_Row_ok _ _ h2) <| pk2 <| pb c3 <| pz)
 · obtain ⟨q, hq, h⟩ := bind_of h
   cases q with
   | x0 v12 =>
    have h13 := hq; clear hq
    try dsimp only at h
    have h := Option.some.inj h; subst h
    exact pdoes mixed (L := lives) (by kernel_rfl) (pk3 <| pc (alibiref05_Row_ok _ _ h2) <| pk2 <| pb c3 <| pk3 <| pe (eff_lit o_i64 0 3 1 3 ([n1.arg, n1.next, n1.alt]) rfl [] []) <| pl (alibiref05_May_l6_ok _ _ _ _ _ _ _ _ _ h13) <| pz)
   | x1 =>
    have h14 := hq; clear hq
    try dsimp only at h
    have h := Option.some.inj h; subst h
    exact pdoes mixed (L := lives) (by kernel_rfl) (pk3 <| pc (alibiref05_Row_ok _ _ h2) <| pk2 <| pb c3 <| pk3 <| pe (eff_lit o_i64 0 3 1 3 ([n1.arg, n1.next, n1.alt]) rfl [] []) <| pl (alibiref05_May_l6_ok _ _ _ _ _ _ _ _ _ h14) <| pz)
end Go.Bm.GoYtldkmmnffjdliaa
