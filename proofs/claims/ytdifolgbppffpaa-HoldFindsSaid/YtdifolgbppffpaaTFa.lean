/- Printed by gen2.py. -/
import Derived.Test.YtdifolgbppffpaaBmNum
import Derived.Test.YtdifolgbppffpaaProg
namespace Go.Bm.GoYtdifolgbppffpaa
open Go.Proofs
set_option autoImplicit false
set_option linter.unusedVariables false
set_option linter.unusedSimpArgs false
set_option maxRecDepth 100000
set_option synthInstance.maxHeartbeats 400000
set_option synthInstance.maxSize 2048
theorem mixed : Try.prog.follows .mixedOrders = true := by kernel_rfl
def lives : Lives := livesOf [(3, [(0, [(11, [3, 8, 9]), (16, [3, 8, 9, 10])]), (1, [(11, [2]), (16, [2, 3, 8, 9])])]), (10, [(0, [(3, [1, 3, 4])]), (1, [(3, [1, 3])])]), (11, [(0, [(8, [6, 8, 9, 34, 35, 36]), (12, [6, 8, 9, 10, 12, 34, 35, 36, 58, 59])]), (1, [(8, [9]), (12, [6, 8, 9, 12, 34, 35, 36])]), (2, [(8, [9])]), (7, [(0, [0])])]), (12, [(0, [(7, [1, 5, 6]), (14, [1, 5, 6, 7]), (20, [1, 5, 8, 9]), (23, [1, 5, 8, 9, 10])]), (1, [(7, [1, 2, 3, 4, 5]), (14, [1, 2, 3, 4, 5, 6]), (20, [2, 3, 4]), (23, [1, 2, 3, 4, 5, 8, 9])])]), (13, [(0, [(3, [1, 3, 4]), (9, [1, 5, 6, 7]), (13, [1, 5, 6, 7, 8, 9]), (19, [1, 6, 10]), (39, [1, 6, 10, 11, 12, 14, 15, 16]), (43, [1, 6, 10, 11, 12, 14, 15, 16, 17, 18])]), (1, [(3, [1, 3]), (9, [1, 6]), (13, [1, 5, 6, 7, 8]), (19, [2, 6]), (39, [1, 6, 10]), (43, [1, 6, 10, 11, 12, 14, 15, 16, 17])]), (2, [(3, [3]), (9, [6]), (43, [17])])]), (14, [(0, [(4, [1, 3])]), (1, [(4, [2])])]), (16, [(0, [(8, [6, 7, 36, 37, 38]), (14, [6, 7, 8, 36, 37, 38, 71, 72])]), (1, [(8, [6]), (14, [6, 7, 36, 37, 38])]), (7, [(0, [0])])]), (17, [(0, [(4, [2, 4, 5, 9, 10, 11])]), (1, [(4, [2, 4, 5])])]), (18, [(0, [(4, [1, 2, 5])]), (1, [(4, [4])])]), (23, [(0, [(4, [1, 2, 4, 5]), (11, [1, 2, 4, 5, 6])]), (1, [(4, [4]), (11, [1, 2, 4, 5])])]), (34, [(0, [(6, [2, 3, 7, 8, 9])]), (1, [(6, [6])])]), (35, [(0, [(4, [1, 3, 4, 5]), (8, [1, 3, 4, 5, 6, 7]), (14, [3, 4, 8]), (17, [3, 4, 8, 9]), (20, [3, 4, 8, 9, 10])]), (1, [(4, [3, 4]), (8, [1, 3, 4, 5, 6]), (14, [4]), (17, [3, 4, 8]), (20, [3, 4, 8, 9])]), (2, [(4, [4])])]), (36, [(0, [(3, [0, 3, 4]), (7, [0, 3, 4, 5, 6])]), (1, [(3, [3]), (7, [0, 3, 4, 5])])]), (37, [(7, [(0, [0])])]), (38, [(0, [(5, [1, 5, 6])]), (1, [(5, [5])])]), (39, [(0, [(10, [1, 3, 4, 7, 11, 12, 13])]), (1, [(10, [1, 3, 4, 7, 11])])]), (41, [(0, [(3, [3, 7, 8, 9])]), (1, [(3, [3])])]), (45, [(0, [(14, [0, 1, 8, 90, 91, 92])]), (1, [(14, [])]), (3, [(14, [3])])]), (47, [(0, [(2, [1, 2, 5]), (6, [1, 2, 5, 6, 7])]), (1, [(2, [4]), (6, [1, 2, 4, 5])])]), (48, [(0, [(2, [0, 1, 5])]), (1, [(2, [4])])]), (49, [(0, [(9, [1, 2, 4, 9, 10, 11, 12]), (12, [1, 2, 4, 9, 10, 11, 12, 13])]), (1, [(9, [8]), (12, [1, 2, 4, 8, 9, 10, 11, 12])])]), (50, [(0, [(5, [1, 5, 16, 17])]), (1, [(5, [5])]), (7, [(0, [0])])]), (52, [(0, [(5, [0, 3, 4, 32, 33, 34]), (9, [0, 3, 4, 6, 32, 33, 34, 55, 56, 57]), (19, [0, 3, 4, 106, 107]), (23, [0, 3, 4]), (25, [0, 3, 4, 124, 125, 126])]), (1, [(5, [0, 3, 4]), (9, [0, 3, 4, 6, 32, 33, 34]), (19, [0, 3, 4]), (23, [0]), (25, [0, 3, 4])]), (2, [(5, [4])])]), (57, [(0, [(4, [2, 3, 4, 9, 10, 11]), (8, [2, 3, 4, 9, 10, 11, 12, 13]), (11, [2, 3, 4, 9, 10, 11, 12, 13, 14])]), (1, [(4, [10]), (8, [2, 3, 4, 9, 10, 11, 12]), (11, [2, 3, 4, 9, 10, 11, 12, 13])]), (2, [(4, [10])])]), (68, [(0, [(6, [1, 2, 8, 25, 26, 27]), (9, [1, 2, 8, 10, 25, 26, 27, 35, 36, 37])]), (1, [(6, [8]), (9, [1, 2, 8, 25, 26, 27])]), (7, [(0, [0])])]), (70, [(0, [(3, [1, 5, 8, 9, 10])]), (1, [(3, [5])])]), (71, [(7, [(0, [0])])]), (72, [(0, [(3, [0, 1, 5, 6]), (7, [0, 1, 5, 6, 7, 8])]), (1, [(3, [5]), (7, [0, 1, 5, 6, 7])]), (2, [(3, [5])])]), (74, [(8, [(0, [1])])]), (80, [(0, [(4, [1, 2, 5, 6, 7]), (9, [2, 5, 6, 8]), (12, [2, 5, 6, 8, 9]), (16, [2, 5, 6, 8, 9, 10, 11]), (22, [5, 6, 12, 13])]), (1, [(4, [2, 5, 6]), (9, [5, 6]), (12, [2, 5, 6, 8]), (16, [2, 5, 6, 8, 9]), (22, [12])]), (2, [(22, [12])])]), (84, [(0, [(8, [7, 8, 9, 30, 31, 32]), (15, [7, 8, 9, 12]), (19, [7, 8, 9, 12, 13, 62, 63, 64])]), (1, [(8, [7, 8, 9]), (15, [12]), (19, [7, 8, 9, 12])]), (2, [(15, [12])]), (7, [(0, [0])])]), (86, [(4, [(2, [2])])]), (88, [(0, [(6, [1, 51, 52, 53]), (13, [1, 5, 6, 51, 52, 53, 68, 69, 70])]), (1, [(6, [1, 2, 3, 4]), (13, [1, 2, 3, 4, 51, 52, 53])])]), (89, [(0, [(3, [3, 7, 8, 9])]), (1, [(3, [3])]), (2, [(3, [3])])]), (92, [(0, [(0, [0, 1])]), (1, [(0, [])]), (4, [(2, [3])])]), (93, [(0, [(2, [0, 1, 2, 7])]), (1, [(2, [1, 7])]), (4, [(9, [3])])]), (95, [(0, [(2, [1, 10, 11, 12]), (5, [1, 5, 10, 11, 12, 17, 18, 19])]), (1, [(2, [2, 3, 4]), (5, [1, 2, 3, 4, 10, 11, 12])]), (4, [(7, [12])])]), (99, [(0, [(7, [2, 3, 4, 25, 26, 27])]), (1, [(7, [8])]), (4, [(9, [9])])]), (117, [(10, [(0, [1])])]), (122, [(10, [(0, [1])])])]
structure api_Node where
  kind : Int
  arg : Int
  next : Int
  alt : Int

structure api_Program where
  globals : Int
  locks : Int
  slots : Int
  funcs : List (List api_Node)

noncomputable def ty3 : Ty Try.prog 3 Int := Ty.int 3 .i64 (by kernel_rfl) (by kernel_rfl)
noncomputable def ty61 : Ty Try.prog 61 api_Node := Ty.struct 61 #[{ name := "Kind", type := 3, offset := 0, embedded := false, tag := "", pkgPath := "", byteOffset := 0 }, { name := "Arg", type := 3, offset := 1, embedded := false, tag := "", pkgPath := "", byteOffset := 8 }, { name := "Next", type := 3, offset := 2, embedded := false, tag := "", pkgPath := "", byteOffset := 16 }, { name := "Alt", type := 3, offset := 3, embedded := false, tag := "", pkgPath := "", byteOffset := 24 }] (TyF.cons 0 { name := "Kind", type := 3, offset := 0, embedded := false, tag := "", pkgPath := "", byteOffset := 0 } [{ name := "Arg", type := 3, offset := 1, embedded := false, tag := "", pkgPath := "", byteOffset := 8 }, { name := "Next", type := 3, offset := 2, embedded := false, tag := "", pkgPath := "", byteOffset := 16 }, { name := "Alt", type := 3, offset := 3, embedded := false, tag := "", pkgPath := "", byteOffset := 24 }] rfl ty3 (TyF.cons 1 { name := "Arg", type := 3, offset := 1, embedded := false, tag := "", pkgPath := "", byteOffset := 8 } [{ name := "Next", type := 3, offset := 2, embedded := false, tag := "", pkgPath := "", byteOffset := 16 }, { name := "Alt", type := 3, offset := 3, embedded := false, tag := "", pkgPath := "", byteOffset := 24 }] rfl ty3 (TyF.cons 2 { name := "Next", type := 3, offset := 2, embedded := false, tag := "", pkgPath := "", byteOffset := 16 } [{ name := "Alt", type := 3, offset := 3, embedded := false, tag := "", pkgPath := "", byteOffset := 24 }] rfl ty3 (TyF.cons 3 { name := "Alt", type := 3, offset := 3, embedded := false, tag := "", pkgPath := "", byteOffset := 24 } [] rfl ty3 (TyF.nil 4))))) (by kernel_rfl) (by kernel_rfl) (fun x => (x.kind, x.arg, x.next, x.alt, ())) (fun x => ⟨x.1, x.2.1, x.2.2.1, x.2.2.2.1⟩) (fun x => rfl)
noncomputable def ty62 : Ty Try.prog 62 (List api_Node) := Ty.slice 62 ty61 (by kernel_rfl) (by kernel_rfl) (Nat.le_of_ble_eq_true (by kernel_rfl))
noncomputable def ty22 : Ty Try.prog 22 (List (List api_Node)) := Ty.slice 22 ty62 (by kernel_rfl) (by kernel_rfl) (Nat.le_of_ble_eq_true (by kernel_rfl))
noncomputable def ty24 : Ty Try.prog 24 api_Program := Ty.struct 24 #[{ name := "Globals", type := 3, offset := 0, embedded := false, tag := "", pkgPath := "", byteOffset := 0 }, { name := "Locks", type := 3, offset := 1, embedded := false, tag := "", pkgPath := "", byteOffset := 8 }, { name := "Slots", type := 3, offset := 2, embedded := false, tag := "", pkgPath := "", byteOffset := 16 }, { name := "Funcs", type := 22, offset := 3, embedded := false, tag := "", pkgPath := "", byteOffset := 24 }] (TyF.cons 0 { name := "Globals", type := 3, offset := 0, embedded := false, tag := "", pkgPath := "", byteOffset := 0 } [{ name := "Locks", type := 3, offset := 1, embedded := false, tag := "", pkgPath := "", byteOffset := 8 }, { name := "Slots", type := 3, offset := 2, embedded := false, tag := "", pkgPath := "", byteOffset := 16 }, { name := "Funcs", type := 22, offset := 3, embedded := false, tag := "", pkgPath := "", byteOffset := 24 }] rfl ty3 (TyF.cons 1 { name := "Locks", type := 3, offset := 1, embedded := false, tag := "", pkgPath := "", byteOffset := 8 } [{ name := "Slots", type := 3, offset := 2, embedded := false, tag := "", pkgPath := "", byteOffset := 16 }, { name := "Funcs", type := 22, offset := 3, embedded := false, tag := "", pkgPath := "", byteOffset := 24 }] rfl ty3 (TyF.cons 2 { name := "Slots", type := 3, offset := 2, embedded := false, tag := "", pkgPath := "", byteOffset := 16 } [{ name := "Funcs", type := 22, offset := 3, embedded := false, tag := "", pkgPath := "", byteOffset := 24 }] rfl ty3 (TyF.cons 3 { name := "Funcs", type := 22, offset := 3, embedded := false, tag := "", pkgPath := "", byteOffset := 24 } [] rfl ty22 (TyF.nil 4))))) (by kernel_rfl) (by kernel_rfl) (fun x => (x.globals, x.locks, x.slots, x.funcs, ())) (fun x => ⟨x.1, x.2.1, x.2.2.1, x.2.2.2.1⟩) (fun x => rfl)
def o_api_Node (x : api_Node) : List AV := [.pv (.int .i64 x.kind), .pv (.int .i64 x.arg), .pv (.int .i64 x.next), .pv (.int .i64 x.alt)]
def d_api_Node : api_Node := ⟨0, 0, 0, 0⟩
def o_62 (x : List api_Node) : List AV := [.own 4 (List.length x) (encW o_api_Node d_api_Node x)]
def e_api_Node (x : api_Node) : List PV := [.int .i64 x.kind, .int .i64 x.arg, .int .i64 x.next, .int .i64 x.alt]
def e_62 (x : List api_Node) : List PV := [.seq (List.length x) (encP e_api_Node d_api_Node x)]
/-- alibi/prog.fields -/
def prog_fields (p : api_Program) (kind : Int) (size : Int) : Option (Int × Int × Int × Bool) :=
  if ((kind : Int) == 0) = true then
    some (0, size, 0, true)
  else
    if ((kind : Int) == 1) = true then
      some (p.globals, size, 0, decide ((p.globals : Int) > 0))
    else
      if ((kind : Int) == 2) = true then
        some (p.globals, size, 0, decide ((p.globals : Int) > 0))
      else
        if ((kind : Int) == 3) = true then
          some (p.locks, size, 0, decide ((p.locks : Int) > 0))
        else
          if ((kind : Int) == 4) = true then
            some (p.locks, size, 0, decide ((p.locks : Int) > 0))
          else
            if ((kind : Int) == 5) = true then
              if (decide ((p.slots : Int) > 0)) = true then
                some (((List.length p.funcs : Nat) : Int), size, p.slots, decide (((((List.length p.funcs : Nat) : Int)) : Int) > 0))
              else
                some (((List.length p.funcs : Nat) : Int), size, p.slots, false)
            else
              if ((kind : Int) == 6) = true then
                some (p.slots, size, 0, decide ((p.slots : Int) > 0))
              else
                if ((kind : Int) == 7) = true then
                  some (((List.length p.funcs : Nat) : Int), size, 0, decide (((((List.length p.funcs : Nat) : Int)) : Int) > 0))
                else
                  if ((kind : Int) == 8) = true then
                    some (0, size, size, true)
                  else
                    if ((kind : Int) == 9) = true then
                      some (0, 0, 0, true)
                    else
                      some (0, 0, 0, false)
theorem prog_fields_ok (p : api_Program) (kind : Int) (size : Int) (r : Int × Int × Int × Bool) (h : prog_fields p kind size = some r) : Does Try.prog 97 [.agg [.pv (.int .i64 p.globals), .pv (.int .i64 p.locks), .pv (.int .i64 p.slots), .pv (.seq (List.length p.funcs) (encP e_62 ([] : List api_Node) p.funcs))], .pv (.int .i64 kind), .pv (.int .i64 size)] [] (.tup [.pv (.int .i64 r.1), .pv (.int .i64 r.2.1), .pv (.int .i64 r.2.2.1), .pv (.bool r.2.2.2)], []) := by
 unfold prog_fields at h
 rcases if_of h with ⟨c1, h⟩ | ⟨c1, h⟩
 · have h := Option.some.inj h; subst h
   exact pdoes mixed (L := lives) (by kernel_rfl) (pk4 <| pb c1 <| pz)
 · rcases if_of h with ⟨c2, h⟩ | ⟨c2, h⟩
   · have h := Option.some.inj h; subst h
     exact pdoes mixed (L := lives) (by kernel_rfl) (pk4 <| pb c1 <| pk <| pb c2 <| pk4 <| pz)
   · rcases if_of h with ⟨c3, h⟩ | ⟨c3, h⟩
     · have h := Option.some.inj h; subst h
       exact pdoes mixed (L := lives) (by kernel_rfl) (pk4 <| pb c1 <| pk <| pb c2 <| pk <| pb c3 <| pk3 <| pz)
     · rcases if_of h with ⟨c4, h⟩ | ⟨c4, h⟩
       · have h := Option.some.inj h; subst h
         exact pdoes mixed (L := lives) (by kernel_rfl) (pk4 <| pb c1 <| pk <| pb c2 <| pk <| pb c3 <| pk <| pb c4 <| pk4 <| pz)
       · rcases if_of h with ⟨c5, h⟩ | ⟨c5, h⟩
         · have h := Option.some.inj h; subst h
           exact pdoes mixed (L := lives) (by kernel_rfl) (pk4 <| pb c1 <| pk <| pb c2 <| pk <| pb c3 <| pk <| pb c4 <| pk <| pb c5 <| pk3 <| pz)
         · rcases if_of h with ⟨c6, h⟩ | ⟨c6, h⟩
           · rcases if_of h with ⟨c7, h⟩ | ⟨c7, h⟩
             · have h := Option.some.inj h; subst h
               exact pdoes mixed (L := lives) (by kernel_rfl) (pk4 <| pb c1 <| pk <| pb c2 <| pk <| pb c3 <| pk <| pb c4 <| pk <| pb c5 <| pk <| pb c6 <| pk3 <| pb c7 <| pk3 <| pz)
             · have h := Option.some.inj h; subst h
               exact pdoes mixed (L := lives) (by kernel_rfl) (pk4 <| pb c1 <| pk <| pb c2 <| pk <| pb c3 <| pk <| pb c4 <| pk <| pb c5 <| pk <| pb c6 <| pk3 <| pb c7 <| pk2 <| pz)
           · rcases if_of h with ⟨c8, h⟩ | ⟨c8, h⟩
             · have h := Option.some.inj h; subst h
               exact pdoes mixed (L := lives) (by kernel_rfl) (pk4 <| pb c1 <| pk <| pb c2 <| pk <| pb c3 <| pk <| pb c4 <| pk <| pb c5 <| pk <| pb c6 <| pk <| pb c8 <| pk3 <| pz)
             · rcases if_of h with ⟨c9, h⟩ | ⟨c9, h⟩
               · have h := Option.some.inj h; subst h
                 exact pdoes mixed (L := lives) (by kernel_rfl) (pk4 <| pb c1 <| pk <| pb c2 <| pk <| pb c3 <| pk <| pb c4 <| pk <| pb c5 <| pk <| pb c6 <| pk <| pb c8 <| pk <| pb c9 <| pk <| pz)
               · rcases if_of h with ⟨c10, h⟩ | ⟨c10, h⟩
                 · have h := Option.some.inj h; subst h
                   exact pdoes mixed (L := lives) (by kernel_rfl) (pk4 <| pb c1 <| pk <| pb c2 <| pk <| pb c3 <| pk <| pb c4 <| pk <| pb c5 <| pk <| pb c6 <| pk <| pb c8 <| pk <| pb c9 <| pk <| pb c10 <| pz)
                 · rcases if_of h with ⟨c11, h⟩ | ⟨c11, h⟩
                   · have h := Option.some.inj h; subst h
                     exact pdoes mixed (L := lives) (by kernel_rfl) (pk4 <| pb c1 <| pk <| pb c2 <| pk <| pb c3 <| pk <| pb c4 <| pk <| pb c5 <| pk <| pb c6 <| pk <| pb c8 <| pk <| pb c9 <| pk <| pb c10 <| pk <| pb c11 <| pz)
                   · have h := Option.some.inj h; subst h
                     exact pdoes mixed (L := lives) (by kernel_rfl) (pk4 <| pb c1 <| pk <| pb c2 <| pk <| pb c3 <| pk <| pb c4 <| pk <| pb c5 <| pk <| pb c6 <| pk <| pb c8 <| pk <| pb c9 <| pk <| pb c10 <| pk <| pb c11 <| pz)
def prog_fields_F (F : Nat) (p : api_Program) (kind : Int) (size : Int) : Option (Int × Int × Int × Bool) :=
  if ((kind : Int) == 0) = true then
    some (0, size, 0, true)
  else
    if ((kind : Int) == 1) = true then
      some (p.globals, size, 0, decide ((p.globals : Int) > 0))
    else
      if ((kind : Int) == 2) = true then
        some (p.globals, size, 0, decide ((p.globals : Int) > 0))
      else
        if ((kind : Int) == 3) = true then
          some (p.locks, size, 0, decide ((p.locks : Int) > 0))
        else
          if ((kind : Int) == 4) = true then
            some (p.locks, size, 0, decide ((p.locks : Int) > 0))
          else
            if ((kind : Int) == 5) = true then
              if (decide ((p.slots : Int) > 0)) = true then
                some (((List.length p.funcs : Nat) : Int), size, p.slots, decide (((((List.length p.funcs : Nat) : Int)) : Int) > 0))
              else
                some (((List.length p.funcs : Nat) : Int), size, p.slots, false)
            else
              if ((kind : Int) == 6) = true then
                some (p.slots, size, 0, decide ((p.slots : Int) > 0))
              else
                if ((kind : Int) == 7) = true then
                  some (((List.length p.funcs : Nat) : Int), size, 0, decide (((((List.length p.funcs : Nat) : Int)) : Int) > 0))
                else
                  if ((kind : Int) == 8) = true then
                    some (0, size, size, true)
                  else
                    if ((kind : Int) == 9) = true then
                      some (0, 0, 0, true)
                    else
                      some (0, 0, 0, false)
theorem prog_fields_le (F : Nat) (p : api_Program) (kind : Int) (size : Int) : Le (prog_fields_F F p kind size) (prog_fields p kind size) := (Le.ite (Le.refl _) (Le.ite (Le.refl _) (Le.ite (Le.refl _) (Le.ite (Le.refl _) (Le.ite (Le.refl _) (Le.ite (Le.ite (Le.refl _) (Le.refl _)) (Le.ite (Le.refl _) (Le.ite (Le.refl _) (Le.ite (Le.refl _) (Le.ite (Le.refl _) (Le.refl _)))))))))))
/-- alibi/prog.within -/
def prog_within (n1 : Int) (size : Int) : Option (Bool) :=
  if (decide ((n1 : Int) ≥ 0)) = true then
    some (decide ((n1 : Int) < size))
  else
    some false
theorem prog_within_ok (n1 : Int) (size : Int) (r : Bool) (h : prog_within n1 size = some r) : Does Try.prog 98 [.pv (.int .i64 n1), .pv (.int .i64 size)] [] (.pv (.bool r), []) := by
 unfold prog_within at h
 rcases if_of h with ⟨c1, h⟩ | ⟨c1, h⟩
 · have h := Option.some.inj h; subst h
   exact pdoes mixed (L := lives) (by kernel_rfl) (pk <| pb c1 <| pk4 <| pz)
 · have h := Option.some.inj h; subst h
   exact pdoes mixed (L := lives) (by kernel_rfl) (pk <| pb c1 <| pk3 <| pz)
def prog_within_F (F : Nat) (n1 : Int) (size : Int) : Option (Bool) :=
  if (decide ((n1 : Int) ≥ 0)) = true then
    some (decide ((n1 : Int) < size))
  else
    some false
theorem prog_within_le (F : Nat) (n1 : Int) (size : Int) : Le (prog_within_F F n1 size) (prog_within n1 size) := (Le.ite (Le.refl _) (Le.refl _))
/-- alibi/prog.May -/
def prog_May (p : api_Program) (n1 : api_Node) (size : Int) : Option (Bool) :=
  bind (prog_fields p n1.kind size) fun v1 =>
  if v1.2.2.2 = true then
    bind (prog_within n1.arg (if 1 > v1.1 then 1 else v1.1)) fun v4 =>
    if v4 = true then
      bind (prog_within n1.next (if 1 > v1.2.1 then 1 else v1.2.1)) fun v7 =>
      if v7 = true then
        bind (prog_within n1.alt (if 1 > v1.2.2.1 then 1 else v1.2.2.1)) fun v10 =>
        some v10
      else
        some false
    else
      some false
  else
    some false
theorem prog_May_ok (p : api_Program) (n1 : api_Node) (size : Int) (r : Bool) (h : prog_May p n1 size = some r) : Does Try.prog 94 [.agg [.pv (.int .i64 p.globals), .pv (.int .i64 p.locks), .pv (.int .i64 p.slots), .pv (.seq (List.length p.funcs) (encP e_62 ([] : List api_Node) p.funcs))], .agg [.pv (.int .i64 n1.kind), .pv (.int .i64 n1.arg), .pv (.int .i64 n1.next), .pv (.int .i64 n1.alt)], .pv (.int .i64 size)] [] (.pv (.bool r), []) := by
 unfold prog_May at h
 obtain ⟨v1, h2, h⟩ := bind_of h
 rcases if_of h with ⟨c3, h⟩ | ⟨c3, h⟩
 · obtain ⟨v4, h5, h⟩ := bind_of h
   rcases if_of h with ⟨c6, h⟩ | ⟨c6, h⟩
   · obtain ⟨v7, h8, h⟩ := bind_of h
     rcases if_of h with ⟨c9, h⟩ | ⟨c9, h⟩
     · obtain ⟨v10, h11, h⟩ := bind_of h
       have h := Option.some.inj h; subst h
       exact pdoes mixed (L := lives) (by kernel_rfl) (pk4 <| pc (prog_fields_ok _ _ _ _ h2) <| pk <| pb c3 <| pk6 <| pc (prog_within_ok _ _ _ h5) <| pk2 <| pb c6 <| pk6 <| pc (prog_within_ok _ _ _ h8) <| pk2 <| pb c9 <| pk6 <| pc (prog_within_ok _ _ _ h11) <| pk2 <| pz)
     · have h := Option.some.inj h; subst h
       exact pdoes mixed (L := lives) (by kernel_rfl) (pk4 <| pc (prog_fields_ok _ _ _ _ h2) <| pk <| pb c3 <| pk6 <| pc (prog_within_ok _ _ _ h5) <| pk2 <| pb c6 <| pk6 <| pc (prog_within_ok _ _ _ h8) <| pk2 <| pb c9 <| pk5 <| pz)
   · have h := Option.some.inj h; subst h
     exact pdoes mixed (L := lives) (by kernel_rfl) (pk4 <| pc (prog_fields_ok _ _ _ _ h2) <| pk <| pb c3 <| pk6 <| pc (prog_within_ok _ _ _ h5) <| pk2 <| pb c6 <| pk8 <| pk3 <| pz)
 · have h := Option.some.inj h; subst h
   exact pdoes mixed (L := lives) (by kernel_rfl) (pk4 <| pc (prog_fields_ok _ _ _ _ h2) <| pk <| pb c3 <| pk8 <| pk8 <| pk <| pz)
def prog_May_F (F : Nat) (p : api_Program) (n1 : api_Node) (size : Int) : Option (Bool) :=
  bind (prog_fields_F F p n1.kind size) fun v1 =>
  if v1.2.2.2 = true then
    bind (prog_within_F F n1.arg (if 1 > v1.1 then 1 else v1.1)) fun v4 =>
    if v4 = true then
      bind (prog_within_F F n1.next (if 1 > v1.2.1 then 1 else v1.2.1)) fun v7 =>
      if v7 = true then
        bind (prog_within_F F n1.alt (if 1 > v1.2.2.1 then 1 else v1.2.2.1)) fun v10 =>
        some v10
      else
        some false
    else
      some false
  else
    some false
theorem prog_May_le (F : Nat) (p : api_Program) (n1 : api_Node) (size : Int) : Le (prog_May_F F p n1 size) (prog_May p n1 size) := (Le.bind (prog_fields_le F _ _ _) fun v1 => (Le.ite (Le.bind (prog_within_le F _ _) fun v4 => (Le.ite (Le.bind (prog_within_le F _ _) fun v7 => (Le.ite (Le.bind (prog_within_le F _ _) fun v10 => (Le.refl _)) (Le.refl _))) (Le.refl _))) (Le.refl _)))
noncomputable def prog_Check_l13_c : Code := sub (codeOf Try.prog 88) [1, 1, 1, 0, 1, 0, 0, 1, 1, 0, 0, 1, 1, 1, 0, 0]
inductive prog_Check_l13_R where
  | x0 (v0 : Int) (v1 : Int)
  | x1
def prog_Check_l13_R.ex : prog_Check_l13_R → Ex
  | .x0 _ _ => .ret
  | .x1 => .exit 3
noncomputable def prog_Check_l13_R.st (x0 : Int) (x1 : Int) (x2 : Int) (x3 : List (List api_Node)) (x4 : Int) (x5 : List api_Node) (x6 : List (List api_Node)) (x7 : Int) (x8 : Int) (x9 : List api_Node) (x10 : Int) (x11 : Int) : prog_Check_l13_R → St
  | .x0 v0 v1 => ⟨dead :: .ptr 0 [] 0 0 :: .pv (.int .i64 x4) :: .pv (.int .i64 v0) :: .pv (.int .i64 v1) :: (List.replicate 46 dead ++ (.pv (.seq (List.length x6) (encP e_62 ([] : List api_Node) x6)) :: .pv (.int .i64 x7) :: .pv (.int .i64 x8) :: List.replicate 40 dead)), [.box 0 [.pv (.int .i64 x0), .pv (.int .i64 x1), .pv (.int .i64 x2), .pv (.seq (List.length x3) (encP e_62 ([] : List api_Node) x3))]]⟩
  | .x1 => ⟨dead :: .ptr 0 [] 0 0 :: (List.replicate 49 dead ++ (.pv (.seq (List.length x6) (encP e_62 ([] : List api_Node) x6)) :: .pv (.int .i64 x7) :: .pv (.int .i64 x8) :: List.replicate 40 dead)), [.box 0 [.pv (.int .i64 x0), .pv (.int .i64 x1), .pv (.int .i64 x2), .pv (.seq (List.length x3) (encP e_62 ([] : List api_Node) x3))]]⟩
def prog_Check_l13 (x0 : Int) (x1 : Int) (x2 : Int) (x3 : List (List api_Node)) (x4 : Int) (x5 : List api_Node) (x6 : List (List api_Node)) (x7 : Int) (x8 : Int) (x9 : List api_Node) (x10 : Int) (x11 : Int) : Option (prog_Check_l13_R) :=
  if (decide ((x11 : Int) < x10)) = true then
    if (decide ((0 : Int) ≤ x11)) = true then
      if (decide ((x11 : Int) < ((List.length x9 : Nat) : Int))) = true then
        bind (prog_May (api_Program.mk x0 x1 x2 x3) (List.getD x9 (Int.toNat x11) d_api_Node) (((List.length x5 : Nat) : Int))) fun v17 =>
        if (!v17) = true then
          some (.x0 x11 3)
        else
          prog_Check_l13 x0 x1 x2 x3 x4 x5 x6 x7 x8 x9 x10 (iAdd x11 1)
      else none
    else none
  else
    some (.x1)
partial_fixpoint
noncomputable abbrev prog_Check_l13_s (x0 : Int) (x1 : Int) (x2 : Int) (x3 : List (List api_Node)) (x4 : Int) (x5 : List api_Node) (x6 : List (List api_Node)) (x7 : Int) (x8 : Int) (x9 : List api_Node) (x10 : Int) (x11 : Int) : St := ⟨dead :: .ptr 0 [] 0 0 :: dead :: dead :: dead :: .pv (.int .i64 x4) :: .pv (.seq (List.length x5) (encP e_api_Node d_api_Node x5)) :: (List.replicate 44 dead ++ (.pv (.seq (List.length x6) (encP e_62 ([] : List api_Node) x6)) :: .pv (.int .i64 x7) :: .pv (.int .i64 x8) :: (List.replicate 14 dead ++ (.pv (.seq (List.length x9) (encP e_api_Node d_api_Node x9)) :: .pv (.int .i64 x10) :: .pv (.int .i64 x11) :: List.replicate 23 dead)))), [.box 0 [.pv (.int .i64 x0), .pv (.int .i64 x1), .pv (.int .i64 x2), .pv (.seq (List.length x3) (encP e_62 ([] : List api_Node) x3))]]⟩
theorem prog_Check_l13_ok (x0 : Int) (x1 : Int) (x2 : Int) (x3 : List (List api_Node)) (x4 : Int) (x5 : List api_Node) (x6 : List (List api_Node)) (x7 : Int) (x8 : Int) (x9 : List api_Node) (x10 : Int) (x11 : Int) (r : prog_Check_l13_R) (h : prog_Check_l13 x0 x1 x2 x3 x4 x5 x6 x7 x8 x9 x10 x11 = some r) : Loops Try.prog prog_Check_l13_c 0 (prog_Check_l13_s x0 x1 x2 x3 x4 x5 x6 x7 x8 x9 x10 x11) r.ex (prog_Check_l13_R.st x0 x1 x2 x3 x4 x5 x6 x7 x8 x9 x10 x11 r) := by
 refine prog_Check_l13.partial_correctness x0 x1 x2 x3 x4 x5 x6 x7 x8 x9 x10 (fun x11 r => Loops Try.prog prog_Check_l13_c 0 (prog_Check_l13_s x0 x1 x2 x3 x4 x5 x6 x7 x8 x9 x10 x11) r.ex (prog_Check_l13_R.st x0 x1 x2 x3 x4 x5 x6 x7 x8 x9 x10 x11 r)) ?_ x11 r h
 clear h r x11
 intro self ih x11 r h
 rcases if_of h with ⟨c14, h⟩ | ⟨c14, h⟩
 · obtain ⟨c15, h⟩ := need_of h
   obtain ⟨c16, h⟩ := need_of h
   obtain ⟨v17, h18, h⟩ := bind_of h
   rcases if_of h with ⟨c19, h⟩ | ⟨c19, h⟩
   · have h := Option.some.inj h; subst h
     exact plast mixed lives 88 (by kernel_rfl) (pk <| pb c14 <| pn c15 <| pn c16 <| pk6 <| pc (prog_May_ok _ _ _ _ h18) <| pk2 <| pb c19 <| pz) rfl
   · exact pmore mixed lives 88 (by kernel_rfl) (pk <| pb c14 <| pn c15 <| pn c16 <| pk6 <| pc (prog_May_ok _ _ _ _ h18) <| pk2 <| pb c19 <| pk <| pz) (ih (iAdd x11 1) _ h)
 · have h := Option.some.inj h; subst h
   exact plast mixed lives 88 (by kernel_rfl) (pk <| pb c14 <| pz) rfl
def prog_Check_l13_F (F n : Nat) (x0 : Int) (x1 : Int) (x2 : Int) (x3 : List (List api_Node)) (x4 : Int) (x5 : List api_Node) (x6 : List (List api_Node)) (x7 : Int) (x8 : Int) (x9 : List api_Node) (x10 : Int) (x11 : Int) : Option (prog_Check_l13_R) := match n with
  | 0 => none
  | n + 1 =>
    if (decide ((x11 : Int) < x10)) = true then
      if (decide ((0 : Int) ≤ x11)) = true then
        if (decide ((x11 : Int) < ((List.length x9 : Nat) : Int))) = true then
          bind (prog_May_F F (api_Program.mk x0 x1 x2 x3) (List.getD x9 (Int.toNat x11) d_api_Node) (((List.length x5 : Nat) : Int))) fun v17 =>
          if (!v17) = true then
            some (.x0 x11 3)
          else
            prog_Check_l13_F F n x0 x1 x2 x3 x4 x5 x6 x7 x8 x9 x10 (iAdd x11 1)
        else none
      else none
    else
      some (.x1)
theorem prog_Check_l13_le (F n : Nat) (x0 : Int) (x1 : Int) (x2 : Int) (x3 : List (List api_Node)) (x4 : Int) (x5 : List api_Node) (x6 : List (List api_Node)) (x7 : Int) (x8 : Int) (x9 : List api_Node) (x10 : Int) (x11 : Int) : Le (prog_Check_l13_F F n x0 x1 x2 x3 x4 x5 x6 x7 x8 x9 x10 x11) (prog_Check_l13 x0 x1 x2 x3 x4 x5 x6 x7 x8 x9 x10 x11) := by
  induction n generalizing x11 with
  | zero => exact Le.none _
  | succ n ih => rw [prog_Check_l13]; exact (Le.ite (Le.ite (Le.ite (Le.bind (prog_May_le F _ _ _) fun v17 => (Le.ite (Le.refl _) (ih (iAdd x11 1)))) (Le.none _)) (Le.none _)) (Le.refl _))
noncomputable def prog_Check_l6_c : Code := sub (codeOf Try.prog 88) [1, 1, 1, 0, 1, 0, 0]
inductive prog_Check_l6_R where
  | x0 (v0 : Int) (v1 : Int) (v2 : Int)
  | x1
def prog_Check_l6_R.ex : prog_Check_l6_R → Ex
  | .x0 _ _ _ => .ret
  | .x1 => .exit 0
noncomputable def prog_Check_l6_R.st (x0 : Int) (x1 : Int) (x2 : Int) (x3 : List (List api_Node)) (x4 : List (List api_Node)) (x5 : Int) (x6 : Int) : prog_Check_l6_R → St
  | .x0 v0 v1 v2 => ⟨dead :: .ptr 0 [] 0 0 :: .pv (.int .i64 v0) :: .pv (.int .i64 v1) :: .pv (.int .i64 v2) :: List.replicate 89 dead, [.box 0 [.pv (.int .i64 x0), .pv (.int .i64 x1), .pv (.int .i64 x2), .pv (.seq (List.length x3) (encP e_62 ([] : List api_Node) x3))]]⟩
  | .x1 => ⟨dead :: .ptr 0 [] 0 0 :: List.replicate 92 dead, [.box 0 [.pv (.int .i64 x0), .pv (.int .i64 x1), .pv (.int .i64 x2), .pv (.seq (List.length x3) (encP e_62 ([] : List api_Node) x3))]]⟩
def prog_Check_l6 (x0 : Int) (x1 : Int) (x2 : Int) (x3 : List (List api_Node)) (x4 : List (List api_Node)) (x5 : Int) (x6 : Int) : Option (prog_Check_l6_R) :=
  if (decide ((x6 : Int) < x5)) = true then
    if (decide ((0 : Int) ≤ x6)) = true then
      if (decide ((x6 : Int) < ((List.length x4 : Nat) : Int))) = true then
        if (((((List.length (List.getD x4 (Int.toNat x6) (([] : List api_Node))) : Nat) : Int)) : Int) == 0) = true then
          some (.x0 x6 ((-1)) 1)
        else
          if (decide (((((List.length (List.getD x4 (Int.toNat x6) (([] : List api_Node))) : Nat) : Int)) : Int) > 64)) = true then
            some (.x0 x6 ((-1)) 4)
          else
            bind (prog_Check_l13 x0 x1 x2 x3 x6 (List.getD x4 (Int.toNat x6) (([] : List api_Node))) x4 x5 x6 (List.getD x4 (Int.toNat x6) (([] : List api_Node))) (((List.length (List.getD x4 (Int.toNat x6) (([] : List api_Node))) : Nat) : Int)) 0) fun q => match q with
              | .x0 v20 v21 =>
                some (.x0 x6 v20 v21)
              | .x1 =>
                prog_Check_l6 x0 x1 x2 x3 x4 x5 (iAdd x6 1)
      else none
    else none
  else
    some (.x1)
partial_fixpoint
noncomputable abbrev prog_Check_l6_s (x0 : Int) (x1 : Int) (x2 : Int) (x3 : List (List api_Node)) (x4 : List (List api_Node)) (x5 : Int) (x6 : Int) : St := ⟨dead :: .ptr 0 [] 0 0 :: (List.replicate 49 dead ++ (.pv (.seq (List.length x4) (encP e_62 ([] : List api_Node) x4)) :: .pv (.int .i64 x5) :: .pv (.int .i64 x6) :: List.replicate 40 dead)), [.box 0 [.pv (.int .i64 x0), .pv (.int .i64 x1), .pv (.int .i64 x2), .pv (.seq (List.length x3) (encP e_62 ([] : List api_Node) x3))]]⟩
theorem prog_Check_l6_ok (x0 : Int) (x1 : Int) (x2 : Int) (x3 : List (List api_Node)) (x4 : List (List api_Node)) (x5 : Int) (x6 : Int) (r : prog_Check_l6_R) (h : prog_Check_l6 x0 x1 x2 x3 x4 x5 x6 = some r) : Loops Try.prog prog_Check_l6_c 0 (prog_Check_l6_s x0 x1 x2 x3 x4 x5 x6) r.ex (prog_Check_l6_R.st x0 x1 x2 x3 x4 x5 x6 r) := by
 refine prog_Check_l6.partial_correctness x0 x1 x2 x3 x4 x5 (fun x6 r => Loops Try.prog prog_Check_l6_c 0 (prog_Check_l6_s x0 x1 x2 x3 x4 x5 x6) r.ex (prog_Check_l6_R.st x0 x1 x2 x3 x4 x5 x6 r)) ?_ x6 r h
 clear h r x6
 intro self ih x6 r h
 rcases if_of h with ⟨c9, h⟩ | ⟨c9, h⟩
 · obtain ⟨c10, h⟩ := need_of h
   obtain ⟨c11, h⟩ := need_of h
   rcases if_of h with ⟨c12, h⟩ | ⟨c12, h⟩
   · have h := Option.some.inj h; subst h
     exact plast mixed lives 88 (by kernel_rfl) (pk <| pb c9 <| pn c10 <| pn c11 <| pk3 <| pb c12 <| pz) rfl
   · rcases if_of h with ⟨c13, h⟩ | ⟨c13, h⟩
     · have h := Option.some.inj h; subst h
       exact plast mixed lives 88 (by kernel_rfl) (pk <| pb c9 <| pn c10 <| pn c11 <| pk3 <| pb c12 <| pk2 <| pb c13 <| pz) rfl
     · obtain ⟨q, hq, h⟩ := bind_of h
       cases q with
       | x0 v20 v21 =>
        have h22 := hq; clear hq
        try dsimp only at h
        have h := Option.some.inj h; subst h
        exact plast mixed lives 88 (by kernel_rfl) (pk <| pb c9 <| pn c10 <| pn c11 <| pk3 <| pb c12 <| pk2 <| pb c13 <| pk <| pl (prog_Check_l13_ok _ _ _ _ _ _ _ _ _ _ _ _ _ h22) <| pz) rfl
       | x1 =>
        have h23 := hq; clear hq
        try dsimp only at h
        exact pmore mixed lives 88 (by kernel_rfl) (pk <| pb c9 <| pn c10 <| pn c11 <| pk3 <| pb c12 <| pk2 <| pb c13 <| pk <| pl (prog_Check_l13_ok _ _ _ _ _ _ _ _ _ _ _ _ _ h23) <| pk <| pz) (ih (iAdd x6 1) _ h)
 · have h := Option.some.inj h; subst h
   exact plast mixed lives 88 (by kernel_rfl) (pk <| pb c9 <| pz) rfl
def prog_Check_l6_F (F n : Nat) (x0 : Int) (x1 : Int) (x2 : Int) (x3 : List (List api_Node)) (x4 : List (List api_Node)) (x5 : Int) (x6 : Int) : Option (prog_Check_l6_R) := match n with
  | 0 => none
  | n + 1 =>
    if (decide ((x6 : Int) < x5)) = true then
      if (decide ((0 : Int) ≤ x6)) = true then
        if (decide ((x6 : Int) < ((List.length x4 : Nat) : Int))) = true then
          if (((((List.length (List.getD x4 (Int.toNat x6) (([] : List api_Node))) : Nat) : Int)) : Int) == 0) = true then
            some (.x0 x6 ((-1)) 1)
          else
            if (decide (((((List.length (List.getD x4 (Int.toNat x6) (([] : List api_Node))) : Nat) : Int)) : Int) > 64)) = true then
              some (.x0 x6 ((-1)) 4)
            else
              bind (prog_Check_l13_F F F x0 x1 x2 x3 x6 (List.getD x4 (Int.toNat x6) (([] : List api_Node))) x4 x5 x6 (List.getD x4 (Int.toNat x6) (([] : List api_Node))) (((List.length (List.getD x4 (Int.toNat x6) (([] : List api_Node))) : Nat) : Int)) 0) fun q => match q with
                | .x0 v20 v21 =>
                  some (.x0 x6 v20 v21)
                | .x1 =>
                  prog_Check_l6_F F n x0 x1 x2 x3 x4 x5 (iAdd x6 1)
        else none
      else none
    else
      some (.x1)
theorem prog_Check_l6_le (F n : Nat) (x0 : Int) (x1 : Int) (x2 : Int) (x3 : List (List api_Node)) (x4 : List (List api_Node)) (x5 : Int) (x6 : Int) : Le (prog_Check_l6_F F n x0 x1 x2 x3 x4 x5 x6) (prog_Check_l6 x0 x1 x2 x3 x4 x5 x6) := by
  induction n generalizing x6 with
  | zero => exact Le.none _
  | succ n ih => rw [prog_Check_l6]; exact (Le.ite (Le.ite (Le.ite (Le.ite (Le.refl _) (Le.ite (Le.refl _) (Le.bind (prog_Check_l13_le F F _ _ _ _ _ _ _ _ _ _ _ _) fun q => by cases q with | x0 v20 v21 => exact (Le.refl _) | x1 => exact (ih (iAdd x6 1))))) (Le.none _)) (Le.none _)) (Le.refl _))
def o_bool (x : Bool) : List AV := [.pv (.bool x)]
noncomputable def prog_reaches_l7_c : Code := sub (codeOf Try.prog 99) [1, 1, 1, 1, 0, 1, 0, 0]
inductive prog_reaches_l7_R where
  | x0 (v0 : List Bool) (v1 : Bool)
  | x1 (v0 : List Bool)
def prog_reaches_l7_R.ex : prog_reaches_l7_R → Ex
  | .x0 _ _ => .ret
  | .x1 _ => .exit 0
noncomputable def prog_reaches_l7_R.st (self : (List Bool) → api_Program → Int → Int → Option (Bool × (List Bool))) (x0 : List Bool) (x1 : Int) (x2 : Int) (x3 : Int) (x4 : List (List api_Node)) (x5 : Int) (x6 : List api_Node) (x7 : Int) (x8 : Int) : prog_reaches_l7_R → St
  | .x0 v0 v1 => ⟨(List.replicate 8 dead ++ (.pv (.bool v1) :: List.replicate 34 dead)), [.arr 2 1 (List.length v0) (encW o_bool false v0)]⟩
  | .x1 v0 => ⟨List.replicate 43 dead, [.arr 2 1 (List.length v0) (encW o_bool false v0)]⟩
def prog_reaches_l7 (self : (List Bool) → api_Program → Int → Int → Option (Bool × (List Bool))) (x0 : List Bool) (x1 : Int) (x2 : Int) (x3 : Int) (x4 : List (List api_Node)) (x5 : Int) (x6 : List api_Node) (x7 : Int) (x8 : Int) : Option (prog_reaches_l7_R) :=
  if (decide ((x8 : Int) < x7)) = true then
    if (decide ((0 : Int) ≤ x8)) = true then
      if (decide ((x8 : Int) < ((List.length x6 : Nat) : Int))) = true then
        if ((((List.getD x6 (Int.toNat x8) d_api_Node).kind) : Int) == 7) = true then
          bind (self x0 (api_Program.mk x1 x2 x3 x4) ((List.getD x6 (Int.toNat x8) d_api_Node).arg) x5) fun v10 =>
          if v10.1 = true then
            some (.x0 v10.2 true)
          else
            if (decide ((List.length v10.2 : Nat) = List.length x0)) = true then
              prog_reaches_l7 self v10.2 x1 x2 x3 x4 x5 x6 x7 (iAdd x8 1)
            else none
        else
          prog_reaches_l7 self x0 x1 x2 x3 x4 x5 x6 x7 (iAdd x8 1)
      else none
    else none
  else
    some (.x1 x0)
partial_fixpoint
noncomputable abbrev prog_reaches_l7_s (self : (List Bool) → api_Program → Int → Int → Option (Bool × (List Bool))) (x0 : List Bool) (x1 : Int) (x2 : Int) (x3 : Int) (x4 : List (List api_Node)) (x5 : Int) (x6 : List api_Node) (x7 : Int) (x8 : Int) : St := ⟨dead :: dead :: .pv (.int .i64 x5) :: .ms 0 [] 0 (List.length x0) :: .ptr 1 [] 0 0 :: (List.replicate 20 dead ++ (.pv (.seq (List.length x6) (encP e_api_Node d_api_Node x6)) :: .pv (.int .i64 x7) :: .pv (.int .i64 x8) :: List.replicate 15 dead)), [.arr 2 1 (List.length x0) (encW o_bool false x0), .box 0 [.pv (.int .i64 x1), .pv (.int .i64 x2), .pv (.int .i64 x3), .pv (.seq (List.length x4) (encP e_62 ([] : List api_Node) x4))]]⟩
theorem prog_reaches_l7_ok (self : (List Bool) → api_Program → Int → Int → Option (Bool × (List Bool))) (hself : ∀ (l0 : List Bool) (p : api_Program) (from_ : Int) (to_ : Int) (r : Bool × (List Bool)), self l0 p from_ to_ = some r → Does Try.prog 99 [.agg [.pv (.int .i64 p.globals), .pv (.int .i64 p.locks), .pv (.int .i64 p.slots), .pv (.seq (List.length p.funcs) (encP e_62 ([] : List api_Node) p.funcs))], .pv (.int .i64 from_), .pv (.int .i64 to_), .ms 0 [] 0 (List.length l0)] [.arr 2 1 (List.length l0) (encW o_bool false l0)] (.pv (.bool r.1), [.arr 2 1 (List.length r.2) (encW o_bool false r.2)])) (x0 : List Bool) (x1 : Int) (x2 : Int) (x3 : Int) (x4 : List (List api_Node)) (x5 : Int) (x6 : List api_Node) (x7 : Int) (x8 : Int) (r : prog_reaches_l7_R) (h : prog_reaches_l7 self x0 x1 x2 x3 x4 x5 x6 x7 x8 = some r) : Loops Try.prog prog_reaches_l7_c 1 (prog_reaches_l7_s self x0 x1 x2 x3 x4 x5 x6 x7 x8) r.ex (prog_reaches_l7_R.st self x0 x1 x2 x3 x4 x5 x6 x7 x8 r) := by
 refine prog_reaches_l7.partial_correctness self x1 x2 x3 x4 x5 x6 x7 (fun x0 x8 r => Loops Try.prog prog_reaches_l7_c 1 (prog_reaches_l7_s self x0 x1 x2 x3 x4 x5 x6 x7 x8) r.ex (prog_reaches_l7_R.st self x0 x1 x2 x3 x4 x5 x6 x7 x8 r)) ?_ x0 x8 r h
 clear h r x0 x8
 intro self ih x0 x8 r h
 rcases if_of h with ⟨c6, h⟩ | ⟨c6, h⟩
 · obtain ⟨c7, h⟩ := need_of h
   obtain ⟨c8, h⟩ := need_of h
   rcases if_of h with ⟨c9, h⟩ | ⟨c9, h⟩
   · obtain ⟨v10, h11, h⟩ := bind_of h
     rcases if_of h with ⟨c12, h⟩ | ⟨c12, h⟩
     · have h := Option.some.inj h; subst h
       exact plast mixed lives 99 (by kernel_rfl) (pk <| pb c6 <| pn c7 <| pn c8 <| pk5 <| pb c9 <| pk7 <| pc (hself _ _ _ _ _ h11) <| pk2 <| pb c12 <| pz) rfl
     · obtain ⟨e13, h⟩ := need_of h; replace e13 := of_decide_eq_true e13
       exact pmore mixed lives 99 (by kernel_rfl) (pk <| pb c6 <| pn c7 <| pn c8 <| pk5 <| pb c9 <| pk7 <| pc (hself _ _ _ _ _ h11) <| pk2 <| pb c12 <| pk <| pz) (Loops.of (s1 := ⟨dead :: dead :: .pv (.int .i64 x5) :: .ms 0 [] 0 (List.length x0) :: .ptr 1 [] 0 0 :: (List.replicate 20 dead ++ (.pv (.seq (List.length x6) (encP e_api_Node d_api_Node x6)) :: .pv (.int .i64 x7) :: .pv (.int .i64 (iAdd x8 1)) :: List.replicate 15 dead)), [.arr 2 1 (List.length v10.2) (encW o_bool false v10.2), .box 0 [.pv (.int .i64 x1), .pv (.int .i64 x2), .pv (.int .i64 x3), .pv (.seq (List.length x4) (encP e_62 ([] : List api_Node) x4))]]⟩) (ih v10.2 (iAdd x8 1) _ h) (by (first | rfl | (simp only [prog_reaches_l7_s, List.length_set, e13]; done))))
   · exact pmore mixed lives 99 (by kernel_rfl) (pk <| pb c6 <| pn c7 <| pn c8 <| pk5 <| pb c9 <| pk8 <| pz) (ih x0 (iAdd x8 1) _ h)
 · have h := Option.some.inj h; subst h
   exact plast mixed lives 99 (by kernel_rfl) (pk <| pb c6 <| pz) rfl
def prog_reaches_l7_F (F n : Nat) (self : (List Bool) → api_Program → Int → Int → Option (Bool × (List Bool))) (x0 : List Bool) (x1 : Int) (x2 : Int) (x3 : Int) (x4 : List (List api_Node)) (x5 : Int) (x6 : List api_Node) (x7 : Int) (x8 : Int) : Option (prog_reaches_l7_R) := match n with
  | 0 => none
  | n + 1 =>
    if (decide ((x8 : Int) < x7)) = true then
      if (decide ((0 : Int) ≤ x8)) = true then
        if (decide ((x8 : Int) < ((List.length x6 : Nat) : Int))) = true then
          if ((((List.getD x6 (Int.toNat x8) d_api_Node).kind) : Int) == 7) = true then
            bind (self x0 (api_Program.mk x1 x2 x3 x4) ((List.getD x6 (Int.toNat x8) d_api_Node).arg) x5) fun v10 =>
            if v10.1 = true then
              some (.x0 v10.2 true)
            else
              if (decide ((List.length v10.2 : Nat) = List.length x0)) = true then
                prog_reaches_l7_F F n self v10.2 x1 x2 x3 x4 x5 x6 x7 (iAdd x8 1)
              else none
          else
            prog_reaches_l7_F F n self x0 x1 x2 x3 x4 x5 x6 x7 (iAdd x8 1)
        else none
      else none
    else
      some (.x1 x0)
theorem prog_reaches_l7_le (F n : Nat) (self s2 : (List Bool) → api_Program → Int → Int → Option (Bool × (List Bool))) (hs : ∀ (l0 : List Bool) (p : api_Program) (from_ : Int) (to_ : Int), Le (self l0 p from_ to_) (s2 l0 p from_ to_)) (x0 : List Bool) (x1 : Int) (x2 : Int) (x3 : Int) (x4 : List (List api_Node)) (x5 : Int) (x6 : List api_Node) (x7 : Int) (x8 : Int) : Le (prog_reaches_l7_F F n self x0 x1 x2 x3 x4 x5 x6 x7 x8) (prog_reaches_l7 s2 x0 x1 x2 x3 x4 x5 x6 x7 x8) := by
  induction n generalizing x0 x8 with
  | zero => exact Le.none _
  | succ n ih => rw [prog_reaches_l7]; exact (Le.ite (Le.ite (Le.ite (Le.ite (Le.bind (hs _ _ _ _) fun v10 => (Le.ite (Le.refl _) (Le.ite (ih v10.2 (iAdd x8 1)) (Le.none _)))) (ih x0 (iAdd x8 1))) (Le.none _)) (Le.none _)) (Le.refl _))
/-- alibi/prog.reaches -/
def prog_reaches_B (self : (List Bool) → api_Program → Int → Int → Option (Bool × (List Bool))) (l0 : List Bool) (p : api_Program) (from_ : Int) (to_ : Int) : Option (Bool × (List Bool)) :=
  if ((from_ : Int) == to_) = true then
    some (true, l0)
  else
    if (decide ((0 : Int) ≤ from_)) = true then
      if (decide ((from_ : Int) < (((List.length l0) : Nat) : Int))) = true then
        if (List.getD l0 (Int.toNat from_) false) = true then
          some (false, l0)
        else
          if (decide ((from_ : Int) < ((List.length p.funcs : Nat) : Int))) = true then
            bind (prog_reaches_l7 self (List.set l0 (Int.toNat from_) true) p.globals p.locks p.slots p.funcs to_ (List.getD p.funcs (Int.toNat from_) (([] : List api_Node))) (((List.length (List.getD p.funcs (Int.toNat from_) (([] : List api_Node))) : Nat) : Int)) 0) fun q => match q with
              | .x0 v14 v15 =>
                some (v15, v14)
              | .x1 v17 =>
                some (false, v17)
          else none
      else none
    else none
def prog_reaches_N : Nat → (List Bool) → api_Program → Int → Int → Option (Bool × (List Bool))
  | 0, _, _, _, _ => none
  | n + 1, l0, p, from_, to_ => prog_reaches_B (prog_reaches_N n) l0 p from_ to_
/-- So deep at most. -/
def prog_reaches (l0 : List Bool) (p : api_Program) (from_ : Int) (to_ : Int) : Option (Bool × (List Bool)) := prog_reaches_N 1000 l0 p from_ to_
theorem prog_reaches_B_ok (self : (List Bool) → api_Program → Int → Int → Option (Bool × (List Bool))) (hself : ∀ (l0 : List Bool) (p : api_Program) (from_ : Int) (to_ : Int) (r : Bool × (List Bool)), self l0 p from_ to_ = some r → Does Try.prog 99 [.agg [.pv (.int .i64 p.globals), .pv (.int .i64 p.locks), .pv (.int .i64 p.slots), .pv (.seq (List.length p.funcs) (encP e_62 ([] : List api_Node) p.funcs))], .pv (.int .i64 from_), .pv (.int .i64 to_), .ms 0 [] 0 (List.length l0)] [.arr 2 1 (List.length l0) (encW o_bool false l0)] (.pv (.bool r.1), [.arr 2 1 (List.length r.2) (encW o_bool false r.2)])) (l0 : List Bool) (p : api_Program) (from_ : Int) (to_ : Int) (r : Bool × (List Bool)) (h : prog_reaches_B self l0 p from_ to_ = some r) : Does Try.prog 99 [.agg [.pv (.int .i64 p.globals), .pv (.int .i64 p.locks), .pv (.int .i64 p.slots), .pv (.seq (List.length p.funcs) (encP e_62 ([] : List api_Node) p.funcs))], .pv (.int .i64 from_), .pv (.int .i64 to_), .ms 0 [] 0 (List.length l0)] [.arr 2 1 (List.length l0) (encW o_bool false l0)] (.pv (.bool r.1), [.arr 2 1 (List.length r.2) (encW o_bool false r.2)]) := by
 unfold prog_reaches_B at h
 rcases if_of h with ⟨c1, h⟩ | ⟨c1, h⟩
 · have h := Option.some.inj h; subst h
   exact pdoes mixed (L := lives) (by kernel_rfl) (pk2 <| pb c1 <| pz)
 · obtain ⟨c2, h⟩ := need_of h
   obtain ⟨c3, h⟩ := need_of h
   rcases if_of h with ⟨c4, h⟩ | ⟨c4, h⟩
   · have h := Option.some.inj h; subst h
     exact pdoes mixed (L := lives) (by kernel_rfl) (pk2 <| pb c1 <| pn c2 <| pn c3 <| pk <| pb c4 <| pz)
   · obtain ⟨c5, h⟩ := need_of h
     obtain ⟨q, hq, h⟩ := bind_of h
     cases q with
     | x0 v14 v15 =>
      have h16 := hq; clear hq
      try dsimp only at h
      have h := Option.some.inj h; subst h
      exact pdoes mixed (L := lives) (by kernel_rfl) (pk2 <| pb c1 <| pn c2 <| pn c3 <| pk <| pb c4 <| pn c2 <| pn c3 <| pt <| pe (eff_hb (v := dead) (b := 0) (hb := []) (sc := []) (put_top o_bool false 2 1 (List.length l0) l0 (Int.toNat from_) 0 [.pv (.bool true)] true (by kernel_rfl) (by first | exact Nat.le_refl _ | exact Nat.zero_le _ | (simp only [decide_eq_true_eq, List.length_set, List.length_append, List.length_replicate, List.length_cons, List.length_nil, Nat.zero_add] at * <;> omega)))) <| pk <| pn c2 <| pn c5 <| pk2 <| pl (Loops.of (s1 := ⟨dead :: dead :: .pv (.int .i64 to_) :: .ms 0 [] 0 (List.length l0) :: .ptr 1 [] 0 0 :: (List.replicate 20 dead ++ (.pv (.seq (List.length (List.getD p.funcs (Int.toNat from_) (([] : List api_Node)))) (encP e_api_Node d_api_Node (List.getD p.funcs (Int.toNat from_) (([] : List api_Node))))) :: .pv (.int .i64 (((List.length (List.getD p.funcs (Int.toNat from_) (([] : List api_Node))) : Nat) : Int))) :: .pv (.int .i64 0) :: List.replicate 15 dead)), [.arr 2 1 (List.length l0) (encW o_bool false (List.set l0 (Int.toNat from_) true)), .box 0 [.pv (.int .i64 p.globals), .pv (.int .i64 p.locks), .pv (.int .i64 p.slots), .pv (.seq (List.length p.funcs) (encP e_62 ([] : List api_Node) p.funcs))]]⟩) (prog_reaches_l7_ok _ hself _ _ _ _ _ _ _ _ _ _ h16) (by (first | rfl | (simp only [prog_reaches_l7_s, List.length_set]; done)))) <| pz)
     | x1 v17 =>
      have h18 := hq; clear hq
      try dsimp only at h
      have h := Option.some.inj h; subst h
      exact pdoes mixed (L := lives) (by kernel_rfl) (pk2 <| pb c1 <| pn c2 <| pn c3 <| pk <| pb c4 <| pn c2 <| pn c3 <| pt <| pe (eff_hb (v := dead) (b := 0) (hb := []) (sc := []) (put_top o_bool false 2 1 (List.length l0) l0 (Int.toNat from_) 0 [.pv (.bool true)] true (by kernel_rfl) (by first | exact Nat.le_refl _ | exact Nat.zero_le _ | (simp only [decide_eq_true_eq, List.length_set, List.length_append, List.length_replicate, List.length_cons, List.length_nil, Nat.zero_add] at * <;> omega)))) <| pk <| pn c2 <| pn c5 <| pk2 <| pl (Loops.of (s1 := ⟨dead :: dead :: .pv (.int .i64 to_) :: .ms 0 [] 0 (List.length l0) :: .ptr 1 [] 0 0 :: (List.replicate 20 dead ++ (.pv (.seq (List.length (List.getD p.funcs (Int.toNat from_) (([] : List api_Node)))) (encP e_api_Node d_api_Node (List.getD p.funcs (Int.toNat from_) (([] : List api_Node))))) :: .pv (.int .i64 (((List.length (List.getD p.funcs (Int.toNat from_) (([] : List api_Node))) : Nat) : Int))) :: .pv (.int .i64 0) :: List.replicate 15 dead)), [.arr 2 1 (List.length l0) (encW o_bool false (List.set l0 (Int.toNat from_) true)), .box 0 [.pv (.int .i64 p.globals), .pv (.int .i64 p.locks), .pv (.int .i64 p.slots), .pv (.seq (List.length p.funcs) (encP e_62 ([] : List api_Node) p.funcs))]]⟩) (prog_reaches_l7_ok _ hself _ _ _ _ _ _ _ _ _ _ h18) (by (first | rfl | (simp only [prog_reaches_l7_s, List.length_set]; done)))) <| pz)
theorem prog_reaches_N_ok : ∀ (n : Nat) (l0 : List Bool) (p : api_Program) (from_ : Int) (to_ : Int) (r : Bool × (List Bool)), prog_reaches_N n l0 p from_ to_ = some r → Does Try.prog 99 [.agg [.pv (.int .i64 p.globals), .pv (.int .i64 p.locks), .pv (.int .i64 p.slots), .pv (.seq (List.length p.funcs) (encP e_62 ([] : List api_Node) p.funcs))], .pv (.int .i64 from_), .pv (.int .i64 to_), .ms 0 [] 0 (List.length l0)] [.arr 2 1 (List.length l0) (encW o_bool false l0)] (.pv (.bool r.1), [.arr 2 1 (List.length r.2) (encW o_bool false r.2)])
  | 0, _, _, _, _, r, h => by cases h
  | n + 1, l0, p, from_, to_, r, h => prog_reaches_B_ok (prog_reaches_N n) (prog_reaches_N_ok n) l0 p from_ to_ r h
theorem prog_reaches_ok (l0 : List Bool) (p : api_Program) (from_ : Int) (to_ : Int) (r : Bool × (List Bool)) (h : prog_reaches l0 p from_ to_ = some r) : Does Try.prog 99 [.agg [.pv (.int .i64 p.globals), .pv (.int .i64 p.locks), .pv (.int .i64 p.slots), .pv (.seq (List.length p.funcs) (encP e_62 ([] : List api_Node) p.funcs))], .pv (.int .i64 from_), .pv (.int .i64 to_), .ms 0 [] 0 (List.length l0)] [.arr 2 1 (List.length l0) (encW o_bool false l0)] (.pv (.bool r.1), [.arr 2 1 (List.length r.2) (encW o_bool false r.2)]) := prog_reaches_N_ok 1000 l0 p from_ to_ r h
def prog_reaches_B_F (F : Nat) (self : (List Bool) → api_Program → Int → Int → Option (Bool × (List Bool))) (l0 : List Bool) (p : api_Program) (from_ : Int) (to_ : Int) : Option (Bool × (List Bool)) :=
  if ((from_ : Int) == to_) = true then
    some (true, l0)
  else
    if (decide ((0 : Int) ≤ from_)) = true then
      if (decide ((from_ : Int) < (((List.length l0) : Nat) : Int))) = true then
        if (List.getD l0 (Int.toNat from_) false) = true then
          some (false, l0)
        else
          if (decide ((from_ : Int) < ((List.length p.funcs : Nat) : Int))) = true then
            bind (prog_reaches_l7_F F F self (List.set l0 (Int.toNat from_) true) p.globals p.locks p.slots p.funcs to_ (List.getD p.funcs (Int.toNat from_) (([] : List api_Node))) (((List.length (List.getD p.funcs (Int.toNat from_) (([] : List api_Node))) : Nat) : Int)) 0) fun q => match q with
              | .x0 v14 v15 =>
                some (v15, v14)
              | .x1 v17 =>
                some (false, v17)
          else none
      else none
    else none
theorem prog_reaches_B_le (F : Nat) (self s2 : (List Bool) → api_Program → Int → Int → Option (Bool × (List Bool))) (hs : ∀ (l0 : List Bool) (p : api_Program) (from_ : Int) (to_ : Int), Le (self l0 p from_ to_) (s2 l0 p from_ to_)) (l0 : List Bool) (p : api_Program) (from_ : Int) (to_ : Int) : Le (prog_reaches_B_F F self l0 p from_ to_) (prog_reaches_B s2 l0 p from_ to_) := (Le.ite (Le.refl _) (Le.ite (Le.ite (Le.ite (Le.refl _) (Le.ite (Le.bind (prog_reaches_l7_le F F _ _ hs _ _ _ _ _ _ _ _ _) fun q => by cases q with | x0 v14 v15 => exact (Le.refl _) | x1 v17 => exact (Le.refl _)) (Le.none _))) (Le.none _)) (Le.none _)))
def prog_reaches_N_F (F : Nat) : Nat → (List Bool) → api_Program → Int → Int → Option (Bool × (List Bool))
  | 0, _, _, _, _ => none
  | n + 1, l0, p, from_, to_ => prog_reaches_B_F F (prog_reaches_N_F F n) l0 p from_ to_
def prog_reaches_F (F : Nat) (l0 : List Bool) (p : api_Program) (from_ : Int) (to_ : Int) : Option (Bool × (List Bool)) := prog_reaches_N_F F 1000 l0 p from_ to_
theorem prog_reaches_N_le (F : Nat) : ∀ (n : Nat) (l0 : List Bool) (p : api_Program) (from_ : Int) (to_ : Int), Le (prog_reaches_N_F F n l0 p from_ to_) (prog_reaches_N n l0 p from_ to_)
  | 0, _, _, _, _ => Le.none _
  | n + 1, l0, p, from_, to_ => prog_reaches_B_le F (prog_reaches_N_F F n) (prog_reaches_N n) (prog_reaches_N_le F n) l0 p from_ to_
theorem prog_reaches_le (F : Nat) (l0 : List Bool) (p : api_Program) (from_ : Int) (to_ : Int) : Le (prog_reaches_F F l0 p from_ to_) (prog_reaches l0 p from_ to_) := prog_reaches_N_le F 1000 l0 p from_ to_
noncomputable def prog_round_l5_c : Code := sub (codeOf Try.prog 95) [1, 0, 1, 0, 0, 1, 1, 0, 0, 1, 1, 0, 0]
inductive prog_round_l5_R where
  | x0 (v0 : Int) (v1 : Bool)
  | x1
def prog_round_l5_R.ex : prog_round_l5_R → Ex
  | .x0 _ _ => .ret
  | .x1 => .exit 2
noncomputable def prog_round_l5_R.st (x0 : Int) (x1 : Int) (x2 : Int) (x3 : List (List api_Node)) (x4 : Int) (x5 : List (List api_Node)) (x6 : Int) (x7 : Int) (x8 : List api_Node) (x9 : Int) (x10 : Int) : prog_round_l5_R → St
  | .x0 v0 v1 => ⟨dead :: .ptr 0 [] 0 0 :: .pv (.int .i64 x4) :: .pv (.int .i64 v0) :: .pv (.bool v1) :: (List.replicate 5 dead ++ (.pv (.seq (List.length x5) (encP e_62 ([] : List api_Node) x5)) :: .pv (.int .i64 x6) :: .pv (.int .i64 x7) :: List.replicate 29 dead)), [.box 0 [.pv (.int .i64 x0), .pv (.int .i64 x1), .pv (.int .i64 x2), .pv (.seq (List.length x3) (encP e_62 ([] : List api_Node) x3))]]⟩
  | .x1 => ⟨dead :: .ptr 0 [] 0 0 :: (List.replicate 8 dead ++ (.pv (.seq (List.length x5) (encP e_62 ([] : List api_Node) x5)) :: .pv (.int .i64 x6) :: .pv (.int .i64 x7) :: List.replicate 29 dead)), [.box 0 [.pv (.int .i64 x0), .pv (.int .i64 x1), .pv (.int .i64 x2), .pv (.seq (List.length x3) (encP e_62 ([] : List api_Node) x3))]]⟩
def prog_round_l5 (x0 : Int) (x1 : Int) (x2 : Int) (x3 : List (List api_Node)) (x4 : Int) (x5 : List (List api_Node)) (x6 : Int) (x7 : Int) (x8 : List api_Node) (x9 : Int) (x10 : Int) : Option (prog_round_l5_R) :=
  if (decide ((x10 : Int) < x9)) = true then
    if (decide ((0 : Int) ≤ x10)) = true then
      if (decide ((x10 : Int) < ((List.length x8 : Nat) : Int))) = true then
        if ((((List.getD x8 (Int.toNat x10) d_api_Node).kind) : Int) == 7) = true then
          if (decide ((0 : Int) ≤ (((List.length x3 : Nat) : Int)))) = true then
            if (decide (((((List.length x3 : Nat) : Int)) : Int) * ((1 : Nat) : Int) ≤ ((reach : Nat) : Int))) = true then
              bind (prog_reaches (List.replicate (Int.toNat (((List.length x3 : Nat) : Int))) false) (api_Program.mk x0 x1 x2 x3) ((List.getD x8 (Int.toNat x10) d_api_Node).arg) x4) fun v10 =>
              if v10.1 = true then
                some (.x0 x10 true)
              else
                prog_round_l5 x0 x1 x2 x3 x4 x5 x6 x7 x8 x9 (iAdd x10 1)
            else none
          else none
        else
          prog_round_l5 x0 x1 x2 x3 x4 x5 x6 x7 x8 x9 (iAdd x10 1)
      else none
    else none
  else
    some (.x1)
partial_fixpoint
noncomputable abbrev prog_round_l5_s (x0 : Int) (x1 : Int) (x2 : Int) (x3 : List (List api_Node)) (x4 : Int) (x5 : List (List api_Node)) (x6 : Int) (x7 : Int) (x8 : List api_Node) (x9 : Int) (x10 : Int) : St := ⟨dead :: .ptr 0 [] 0 0 :: dead :: dead :: dead :: .pv (.int .i64 x4) :: (List.replicate 4 dead ++ (.pv (.seq (List.length x5) (encP e_62 ([] : List api_Node) x5)) :: .pv (.int .i64 x6) :: .pv (.int .i64 x7) :: (List.replicate 4 dead ++ (.pv (.seq (List.length x8) (encP e_api_Node d_api_Node x8)) :: .pv (.int .i64 x9) :: .pv (.int .i64 x10) :: List.replicate 22 dead)))), [.box 0 [.pv (.int .i64 x0), .pv (.int .i64 x1), .pv (.int .i64 x2), .pv (.seq (List.length x3) (encP e_62 ([] : List api_Node) x3))]]⟩
theorem prog_round_l5_ok (x0 : Int) (x1 : Int) (x2 : Int) (x3 : List (List api_Node)) (x4 : Int) (x5 : List (List api_Node)) (x6 : Int) (x7 : Int) (x8 : List api_Node) (x9 : Int) (x10 : Int) (r : prog_round_l5_R) (h : prog_round_l5 x0 x1 x2 x3 x4 x5 x6 x7 x8 x9 x10 = some r) : Loops Try.prog prog_round_l5_c 0 (prog_round_l5_s x0 x1 x2 x3 x4 x5 x6 x7 x8 x9 x10) r.ex (prog_round_l5_R.st x0 x1 x2 x3 x4 x5 x6 x7 x8 x9 x10 r) := by
 refine prog_round_l5.partial_correctness x0 x1 x2 x3 x4 x5 x6 x7 x8 x9 (fun x10 r => Loops Try.prog prog_round_l5_c 0 (prog_round_l5_s x0 x1 x2 x3 x4 x5 x6 x7 x8 x9 x10) r.ex (prog_round_l5_R.st x0 x1 x2 x3 x4 x5 x6 x7 x8 x9 x10 r)) ?_ x10 r h
 clear h r x10
 intro self ih x10 r h
 rcases if_of h with ⟨c4, h⟩ | ⟨c4, h⟩
 · obtain ⟨c5, h⟩ := need_of h
   obtain ⟨c6, h⟩ := need_of h
   rcases if_of h with ⟨c7, h⟩ | ⟨c7, h⟩
   · obtain ⟨c8, h⟩ := need_of h
     obtain ⟨c9, h⟩ := need_of h
     obtain ⟨v10, h11, h⟩ := bind_of h
     rcases if_of h with ⟨c12, h⟩ | ⟨c12, h⟩
     · have h := Option.some.inj h; subst h
       exact plast mixed lives 95 (by kernel_rfl) (pk <| pb c4 <| pn c5 <| pn c6 <| pk5 <| pb c7 <| pk8 <| pk3 <| pn c8 <| pn ((decide_eq_true rfl) : (decide (((((List.length x3 : Nat) : Int)) : Int) = (((List.length x3 : Nat) : Int)))) = true) <| pn c9 <| pe (eff_make o_bool false 2 1 (Int.toNat (((List.length x3 : Nat) : Int)))) <| pk <| pc (prog_reaches_ok _ _ _ _ _ h11) <| pk2 <| pb c12 <| pz) rfl
     · exact pmore mixed lives 95 (by kernel_rfl) (pk <| pb c4 <| pn c5 <| pn c6 <| pk5 <| pb c7 <| pk8 <| pk3 <| pn c8 <| pn ((decide_eq_true rfl) : (decide (((((List.length x3 : Nat) : Int)) : Int) = (((List.length x3 : Nat) : Int)))) = true) <| pn c9 <| pe (eff_make o_bool false 2 1 (Int.toNat (((List.length x3 : Nat) : Int)))) <| pk <| pc (prog_reaches_ok _ _ _ _ _ h11) <| pk2 <| pb c12 <| pk <| pz) (ih (iAdd x10 1) _ h)
   · exact pmore mixed lives 95 (by kernel_rfl) (pk <| pb c4 <| pn c5 <| pn c6 <| pk5 <| pb c7 <| pk8 <| pk3 <| pz) (ih (iAdd x10 1) _ h)
 · have h := Option.some.inj h; subst h
   exact plast mixed lives 95 (by kernel_rfl) (pk <| pb c4 <| pz) rfl
def prog_round_l5_F (F n : Nat) (x0 : Int) (x1 : Int) (x2 : Int) (x3 : List (List api_Node)) (x4 : Int) (x5 : List (List api_Node)) (x6 : Int) (x7 : Int) (x8 : List api_Node) (x9 : Int) (x10 : Int) : Option (prog_round_l5_R) := match n with
  | 0 => none
  | n + 1 =>
    if (decide ((x10 : Int) < x9)) = true then
      if (decide ((0 : Int) ≤ x10)) = true then
        if (decide ((x10 : Int) < ((List.length x8 : Nat) : Int))) = true then
          if ((((List.getD x8 (Int.toNat x10) d_api_Node).kind) : Int) == 7) = true then
            if (decide ((0 : Int) ≤ (((List.length x3 : Nat) : Int)))) = true then
              if (decide (((((List.length x3 : Nat) : Int)) : Int) * ((1 : Nat) : Int) ≤ ((reach : Nat) : Int))) = true then
                bind (prog_reaches_F F (List.replicate (Int.toNat (((List.length x3 : Nat) : Int))) false) (api_Program.mk x0 x1 x2 x3) ((List.getD x8 (Int.toNat x10) d_api_Node).arg) x4) fun v10 =>
                if v10.1 = true then
                  some (.x0 x10 true)
                else
                  prog_round_l5_F F n x0 x1 x2 x3 x4 x5 x6 x7 x8 x9 (iAdd x10 1)
              else none
            else none
          else
            prog_round_l5_F F n x0 x1 x2 x3 x4 x5 x6 x7 x8 x9 (iAdd x10 1)
        else none
      else none
    else
      some (.x1)
theorem prog_round_l5_le (F n : Nat) (x0 : Int) (x1 : Int) (x2 : Int) (x3 : List (List api_Node)) (x4 : Int) (x5 : List (List api_Node)) (x6 : Int) (x7 : Int) (x8 : List api_Node) (x9 : Int) (x10 : Int) : Le (prog_round_l5_F F n x0 x1 x2 x3 x4 x5 x6 x7 x8 x9 x10) (prog_round_l5 x0 x1 x2 x3 x4 x5 x6 x7 x8 x9 x10) := by
  induction n generalizing x10 with
  | zero => exact Le.none _
  | succ n ih => rw [prog_round_l5]; exact (Le.ite (Le.ite (Le.ite (Le.ite (Le.ite (Le.ite (Le.bind (prog_reaches_le F _ _ _ _) fun v10 => (Le.ite (Le.refl _) (ih (iAdd x10 1)))) (Le.none _)) (Le.none _)) (ih (iAdd x10 1))) (Le.none _)) (Le.none _)) (Le.refl _))
noncomputable def prog_round_l2_c : Code := sub (codeOf Try.prog 95) [1, 0, 1, 0, 0]
inductive prog_round_l2_R where
  | x0 (v0 : Int) (v1 : Int) (v2 : Bool)
  | x1
def prog_round_l2_R.ex : prog_round_l2_R → Ex
  | .x0 _ _ _ => .ret
  | .x1 => .exit 0
noncomputable def prog_round_l2_R.st (x0 : Int) (x1 : Int) (x2 : Int) (x3 : List (List api_Node)) (x4 : List (List api_Node)) (x5 : Int) (x6 : Int) : prog_round_l2_R → St
  | .x0 v0 v1 v2 => ⟨dead :: dead :: .pv (.int .i64 v0) :: .pv (.int .i64 v1) :: .pv (.bool v2) :: List.replicate 37 dead, []⟩
  | .x1 => ⟨List.replicate 42 dead, []⟩
def prog_round_l2 (x0 : Int) (x1 : Int) (x2 : Int) (x3 : List (List api_Node)) (x4 : List (List api_Node)) (x5 : Int) (x6 : Int) : Option (prog_round_l2_R) :=
  if (decide ((x6 : Int) < x5)) = true then
    if (decide ((0 : Int) ≤ x6)) = true then
      if (decide ((x6 : Int) < ((List.length x4 : Nat) : Int))) = true then
        bind (prog_round_l5 x0 x1 x2 x3 x6 x4 x5 x6 (List.getD x4 (Int.toNat x6) (([] : List api_Node))) (((List.length (List.getD x4 (Int.toNat x6) (([] : List api_Node))) : Nat) : Int)) 0) fun q => match q with
          | .x0 v13 v14 =>
            some (.x0 x6 v13 v14)
          | .x1 =>
            prog_round_l2 x0 x1 x2 x3 x4 x5 (iAdd x6 1)
      else none
    else none
  else
    some (.x1)
partial_fixpoint
noncomputable abbrev prog_round_l2_s (x0 : Int) (x1 : Int) (x2 : Int) (x3 : List (List api_Node)) (x4 : List (List api_Node)) (x5 : Int) (x6 : Int) : St := ⟨dead :: .ptr 0 [] 0 0 :: (List.replicate 8 dead ++ (.pv (.seq (List.length x4) (encP e_62 ([] : List api_Node) x4)) :: .pv (.int .i64 x5) :: .pv (.int .i64 x6) :: List.replicate 29 dead)), [.box 0 [.pv (.int .i64 x0), .pv (.int .i64 x1), .pv (.int .i64 x2), .pv (.seq (List.length x3) (encP e_62 ([] : List api_Node) x3))]]⟩
theorem prog_round_l2_ok (x0 : Int) (x1 : Int) (x2 : Int) (x3 : List (List api_Node)) (x4 : List (List api_Node)) (x5 : Int) (x6 : Int) (r : prog_round_l2_R) (h : prog_round_l2 x0 x1 x2 x3 x4 x5 x6 = some r) : Loops Try.prog prog_round_l2_c 0 (prog_round_l2_s x0 x1 x2 x3 x4 x5 x6) r.ex (prog_round_l2_R.st x0 x1 x2 x3 x4 x5 x6 r) := by
 refine prog_round_l2.partial_correctness x0 x1 x2 x3 x4 x5 (fun x6 r => Loops Try.prog prog_round_l2_c 0 (prog_round_l2_s x0 x1 x2 x3 x4 x5 x6) r.ex (prog_round_l2_R.st x0 x1 x2 x3 x4 x5 x6 r)) ?_ x6 r h
 clear h r x6
 intro self ih x6 r h
 rcases if_of h with ⟨c1, h⟩ | ⟨c1, h⟩
 · obtain ⟨c2, h⟩ := need_of h
   obtain ⟨c3, h⟩ := need_of h
   obtain ⟨q, hq, h⟩ := bind_of h
   cases q with
   | x0 v13 v14 =>
    have h15 := hq; clear hq
    try dsimp only at h
    have h := Option.some.inj h; subst h
    exact plast mixed lives 95 (by kernel_rfl) (pk <| pb c1 <| pn c2 <| pn c3 <| pk2 <| pl (prog_round_l5_ok _ _ _ _ _ _ _ _ _ _ _ _ h15) <| pz) rfl
   | x1 =>
    have h16 := hq; clear hq
    try dsimp only at h
    exact pmore mixed lives 95 (by kernel_rfl) (pk <| pb c1 <| pn c2 <| pn c3 <| pk2 <| pl (prog_round_l5_ok _ _ _ _ _ _ _ _ _ _ _ _ h16) <| pk <| pz) (ih (iAdd x6 1) _ h)
 · have h := Option.some.inj h; subst h
   exact plast mixed lives 95 (by kernel_rfl) (pk <| pb c1 <| pz) rfl
def prog_round_l2_F (F n : Nat) (x0 : Int) (x1 : Int) (x2 : Int) (x3 : List (List api_Node)) (x4 : List (List api_Node)) (x5 : Int) (x6 : Int) : Option (prog_round_l2_R) := match n with
  | 0 => none
  | n + 1 =>
    if (decide ((x6 : Int) < x5)) = true then
      if (decide ((0 : Int) ≤ x6)) = true then
        if (decide ((x6 : Int) < ((List.length x4 : Nat) : Int))) = true then
          bind (prog_round_l5_F F F x0 x1 x2 x3 x6 x4 x5 x6 (List.getD x4 (Int.toNat x6) (([] : List api_Node))) (((List.length (List.getD x4 (Int.toNat x6) (([] : List api_Node))) : Nat) : Int)) 0) fun q => match q with
            | .x0 v13 v14 =>
              some (.x0 x6 v13 v14)
            | .x1 =>
              prog_round_l2_F F n x0 x1 x2 x3 x4 x5 (iAdd x6 1)
        else none
      else none
    else
      some (.x1)
theorem prog_round_l2_le (F n : Nat) (x0 : Int) (x1 : Int) (x2 : Int) (x3 : List (List api_Node)) (x4 : List (List api_Node)) (x5 : Int) (x6 : Int) : Le (prog_round_l2_F F n x0 x1 x2 x3 x4 x5 x6) (prog_round_l2 x0 x1 x2 x3 x4 x5 x6) := by
  induction n generalizing x6 with
  | zero => exact Le.none _
  | succ n ih => rw [prog_round_l2]; exact (Le.ite (Le.ite (Le.ite (Le.bind (prog_round_l5_le F F _ _ _ _ _ _ _ _ _ _ _) fun q => by cases q with | x0 v13 v14 => exact (Le.refl _) | x1 => exact (ih (iAdd x6 1))) (Le.none _)) (Le.none _)) (Le.refl _))
/-- alibi/prog.round -/
def prog_round (p : api_Program) : Option (Int × Int × Bool) :=
  bind (prog_round_l2 p.globals p.locks p.slots p.funcs p.funcs (((List.length p.funcs : Nat) : Int)) 0) fun q => match q with
    | .x0 v17 v18 v19 =>
      some (v17, v18, v19)
    | .x1 =>
      some (0, 0, false)
theorem prog_round_ok (p : api_Program) (r : Int × Int × Bool) (h : prog_round p = some r) : Does Try.prog 95 [.agg [.pv (.int .i64 p.globals), .pv (.int .i64 p.locks), .pv (.int .i64 p.slots), .pv (.seq (List.length p.funcs) (encP e_62 ([] : List api_Node) p.funcs))]] [] (.tup [.pv (.int .i64 r.1), .pv (.int .i64 r.2.1), .pv (.bool r.2.2)], []) := by
 unfold prog_round at h
 obtain ⟨q, hq, h⟩ := bind_of h
 cases q with
 | x0 v17 v18 v19 =>
  have h20 := hq; clear hq
  try dsimp only at h
  have h := Option.some.inj h; subst h
  exact pdoes mixed (L := lives) (by kernel_rfl) (pk3 <| pl (prog_round_l2_ok _ _ _ _ _ _ _ _ h20) <| pz)
 | x1 =>
  have h21 := hq; clear hq
  try dsimp only at h
  have h := Option.some.inj h; subst h
  exact pdoes mixed (L := lives) (by kernel_rfl) (pk3 <| pl (prog_round_l2_ok _ _ _ _ _ _ _ _ h21) <| pz)
def prog_round_F (F : Nat) (p : api_Program) : Option (Int × Int × Bool) :=
  bind (prog_round_l2_F F F p.globals p.locks p.slots p.funcs p.funcs (((List.length p.funcs : Nat) : Int)) 0) fun q => match q with
    | .x0 v17 v18 v19 =>
      some (v17, v18, v19)
    | .x1 =>
      some (0, 0, false)
theorem prog_round_le (F : Nat) (p : api_Program) : Le (prog_round_F F p) (prog_round p) := (Le.bind (prog_round_l2_le F F _ _ _ _ _ _ _) fun q => by cases q with | x0 v17 v18 v19 => exact (Le.refl _) | x1 => exact (Le.refl _))
/-- alibi/prog.Check -/
def prog_Check (p : api_Program) : Option (Int × Int × Int) :=
  if (decide ((p.globals : Int) < 0)) = true then
    some ((-1), (-1), 1)
  else
    if (decide ((p.locks : Int) < 0)) = true then
      some ((-1), (-1), 1)
    else
      if (decide ((p.slots : Int) < 0)) = true then
        some ((-1), (-1), 1)
      else
        if (((((List.length p.funcs : Nat) : Int)) : Int) == 0) = true then
          some ((-1), (-1), 1)
        else
          if (decide ((p.globals : Int) > 16)) = true then
            some ((-1), (-1), 4)
          else
            if (decide ((p.locks : Int) > 16)) = true then
              some ((-1), (-1), 4)
            else
              if (decide ((p.slots : Int) > 8)) = true then
                some ((-1), (-1), 4)
              else
                if (decide (((((List.length p.funcs : Nat) : Int)) : Int) > 16)) = true then
                  some ((-1), (-1), 4)
                else
                  bind (prog_Check_l6 p.globals p.locks p.slots p.funcs p.funcs (((List.length p.funcs : Nat) : Int)) 0) fun q => match q with
                    | .x0 v24 v25 v26 =>
                      some (v24, v25, v26)
                    | .x1 =>
                      bind (prog_round p) fun v29 =>
                      if v29.2.2 = true then
                        some (v29.1, v29.2.1, 8)
                      else
                        some (0, 0, 0)
theorem prog_Check_ok (p : api_Program) (r : Int × Int × Int) (h : prog_Check p = some r) : Does Try.prog 88 [.agg [.pv (.int .i64 p.globals), .pv (.int .i64 p.locks), .pv (.int .i64 p.slots), .pv (.seq (List.length p.funcs) (encP e_62 ([] : List api_Node) p.funcs))]] [] (.tup [.pv (.int .i64 r.1), .pv (.int .i64 r.2.1), .pv (.int .i64 r.2.2)], []) := by
 unfold prog_Check at h
 rcases if_of h with ⟨c1, h⟩ | ⟨c1, h⟩
 · have h := Option.some.inj h; subst h
   exact pdoes mixed (L := lives) (by kernel_rfl) (pk3 <| pb c1 <| pk8 <| pk5 <| pz)
 · rcases if_of h with ⟨c2, h⟩ | ⟨c2, h⟩
   · have h := Option.some.inj h; subst h
     exact pdoes mixed (L := lives) (by kernel_rfl) (pk3 <| pb c1 <| pk5 <| pb c2 <| pk8 <| pk <| pz)
   · rcases if_of h with ⟨c3, h⟩ | ⟨c3, h⟩
     · have h := Option.some.inj h; subst h
       exact pdoes mixed (L := lives) (by kernel_rfl) (pk3 <| pb c1 <| pk5 <| pb c2 <| pk5 <| pb c3 <| pk5 <| pz)
     · rcases if_of h with ⟨c4, h⟩ | ⟨c4, h⟩
       · have h := Option.some.inj h; subst h
         exact pdoes mixed (L := lives) (by kernel_rfl) (pk3 <| pb c1 <| pk5 <| pb c2 <| pk5 <| pb c3 <| pk7 <| pb c4 <| pz)
       · rcases if_of h with ⟨c5, h⟩ | ⟨c5, h⟩
         · have h := Option.some.inj h; subst h
           exact pdoes mixed (L := lives) (by kernel_rfl) (pk3 <| pb c1 <| pk5 <| pb c2 <| pk5 <| pb c3 <| pk7 <| pb c4 <| pk2 <| pb c5 <| pk8 <| pk5 <| pz)
         · rcases if_of h with ⟨c6, h⟩ | ⟨c6, h⟩
           · have h := Option.some.inj h; subst h
             exact pdoes mixed (L := lives) (by kernel_rfl) (pk3 <| pb c1 <| pk5 <| pb c2 <| pk5 <| pb c3 <| pk7 <| pb c4 <| pk2 <| pb c5 <| pk5 <| pb c6 <| pk8 <| pk <| pz)
           · rcases if_of h with ⟨c7, h⟩ | ⟨c7, h⟩
             · have h := Option.some.inj h; subst h
               exact pdoes mixed (L := lives) (by kernel_rfl) (pk3 <| pb c1 <| pk5 <| pb c2 <| pk5 <| pb c3 <| pk7 <| pb c4 <| pk2 <| pb c5 <| pk5 <| pb c6 <| pk5 <| pb c7 <| pk5 <| pz)
             · rcases if_of h with ⟨c8, h⟩ | ⟨c8, h⟩
               · have h := Option.some.inj h; subst h
                 exact pdoes mixed (L := lives) (by kernel_rfl) (pk3 <| pb c1 <| pk5 <| pb c2 <| pk5 <| pb c3 <| pk7 <| pb c4 <| pk2 <| pb c5 <| pk5 <| pb c6 <| pk5 <| pb c7 <| pk7 <| pb c8 <| pz)
               · obtain ⟨q, hq, h⟩ := bind_of h
                 cases q with
                 | x0 v24 v25 v26 =>
                  have h27 := hq; clear hq
                  try dsimp only at h
                  have h := Option.some.inj h; subst h
                  exact pdoes mixed (L := lives) (by kernel_rfl) (pk3 <| pb c1 <| pk5 <| pb c2 <| pk5 <| pb c3 <| pk7 <| pb c4 <| pk2 <| pb c5 <| pk5 <| pb c6 <| pk5 <| pb c7 <| pk7 <| pb c8 <| pk2 <| pl (prog_Check_l6_ok _ _ _ _ _ _ _ _ h27) <| pz)
                 | x1 =>
                  have h28 := hq; clear hq
                  try dsimp only at h
                  obtain ⟨v29, h30, h⟩ := bind_of h
                  rcases if_of h with ⟨c31, h⟩ | ⟨c31, h⟩
                  · have h := Option.some.inj h; subst h
                    exact pdoes mixed (L := lives) (by kernel_rfl) (pk3 <| pb c1 <| pk5 <| pb c2 <| pk5 <| pb c3 <| pk7 <| pb c4 <| pk2 <| pb c5 <| pk5 <| pb c6 <| pk5 <| pb c7 <| pk7 <| pb c8 <| pk2 <| pl (prog_Check_l6_ok _ _ _ _ _ _ _ _ h28) <| pk <| pc (prog_round_ok _ _ h30) <| pk <| pb c31 <| pz)
                  · have h := Option.some.inj h; subst h
                    exact pdoes mixed (L := lives) (by kernel_rfl) (pk3 <| pb c1 <| pk5 <| pb c2 <| pk5 <| pb c3 <| pk7 <| pb c4 <| pk2 <| pb c5 <| pk5 <| pb c6 <| pk5 <| pb c7 <| pk7 <| pb c8 <| pk2 <| pl (prog_Check_l6_ok _ _ _ _ _ _ _ _ h28) <| pk <| pc (prog_round_ok _ _ h30) <| pk <| pb c31 <| pz)
def prog_Check_F (F : Nat) (p : api_Program) : Option (Int × Int × Int) :=
  if (decide ((p.globals : Int) < 0)) = true then
    some ((-1), (-1), 1)
  else
    if (decide ((p.locks : Int) < 0)) = true then
      some ((-1), (-1), 1)
    else
      if (decide ((p.slots : Int) < 0)) = true then
        some ((-1), (-1), 1)
      else
        if (((((List.length p.funcs : Nat) : Int)) : Int) == 0) = true then
          some ((-1), (-1), 1)
        else
          if (decide ((p.globals : Int) > 16)) = true then
            some ((-1), (-1), 4)
          else
            if (decide ((p.locks : Int) > 16)) = true then
              some ((-1), (-1), 4)
            else
              if (decide ((p.slots : Int) > 8)) = true then
                some ((-1), (-1), 4)
              else
                if (decide (((((List.length p.funcs : Nat) : Int)) : Int) > 16)) = true then
                  some ((-1), (-1), 4)
                else
                  bind (prog_Check_l6_F F F p.globals p.locks p.slots p.funcs p.funcs (((List.length p.funcs : Nat) : Int)) 0) fun q => match q with
                    | .x0 v24 v25 v26 =>
                      some (v24, v25, v26)
                    | .x1 =>
                      bind (prog_round_F F p) fun v29 =>
                      if v29.2.2 = true then
                        some (v29.1, v29.2.1, 8)
                      else
                        some (0, 0, 0)
theorem prog_Check_le (F : Nat) (p : api_Program) : Le (prog_Check_F F p) (prog_Check p) := (Le.ite (Le.refl _) (Le.ite (Le.refl _) (Le.ite (Le.refl _) (Le.ite (Le.refl _) (Le.ite (Le.refl _) (Le.ite (Le.refl _) (Le.ite (Le.refl _) (Le.ite (Le.refl _) (Le.bind (prog_Check_l6_le F F _ _ _ _ _ _ _) fun q => by cases q with | x0 v24 v25 v26 => exact (Le.refl _) | x1 => exact (Le.bind (prog_round_le F _) fun v29 => (Le.ite (Le.refl _) (Le.refl _))))))))))))
def o_i64 (x : Int) : List AV := [.pv (.int .i64 x)]
/-- alibi/sets.One -/
def sets_One (id : Int) : Option ((BitVec 32)) :=
  if (decide ((id : Int) < 0)) = true then
    some (0#32)
  else
    if (decide ((id : Int) ≥ 32)) = true then
      some (0#32)
    else
      if (decide ((0 : Int) ≤ id)) = true then
        some ((1#32) <<< (Int.toNat id))
      else none
theorem sets_One_ok (id : Int) (r : (BitVec 32)) (h : sets_One id = some r) : Does Try.prog 42 [.pv (.int .i64 id)] [] (.pv (.int .u32 (BitVec.toNat r : Nat)), []) := by
 unfold sets_One at h
 rcases if_of h with ⟨c1, h⟩ | ⟨c1, h⟩
 · have h := Option.some.inj h; subst h
   exact pdoes mixed (L := lives) (by kernel_rfl) (pk <| pb c1 <| pk3 <| pz)
 · rcases if_of h with ⟨c2, h⟩ | ⟨c2, h⟩
   · have h := Option.some.inj h; subst h
     exact pdoes mixed (L := lives) (by kernel_rfl) (pk <| pb c1 <| pk3 <| pb c2 <| pz)
   · obtain ⟨c3, h⟩ := need_of h
     have h := Option.some.inj h; subst h
     exact pdoes mixed (L := lives) (by kernel_rfl) (pk <| pb c1 <| pk3 <| pb c2 <| pn c3 <| pe (eff_int (k := .u32) (un_shl .u32 rfl (1#32) (Int.toNat id))) <| pz)
noncomputable def graph_named_l3_c : Code := sub (codeOf Try.prog 70) [1, 1, 0, 1, 0, 0]
def graph_named_l3 (x0 : Int) (x1 : BitVec 32) (x2 : List api_Node) (x3 : Int) (x4 : Int) : Option ((BitVec 32)) :=
  if (decide ((x4 : Int) < x3)) = true then
    if (decide ((0 : Int) ≤ x4)) = true then
      if (decide ((x4 : Int) < ((List.length x2 : Nat) : Int))) = true then
        if ((((List.getD x2 (Int.toNat x4) d_api_Node).kind) : Int) == x0) = true then
          bind (sets_One ((List.getD x2 (Int.toNat x4) d_api_Node).arg)) fun v5 =>
          graph_named_l3 x0 (x1 ||| v5) x2 x3 (iAdd x4 1)
        else
          graph_named_l3 x0 x1 x2 x3 (iAdd x4 1)
      else none
    else none
  else
    some x1
partial_fixpoint
noncomputable abbrev graph_named_l3_s (x0 : Int) (x1 : BitVec 32) (x2 : List api_Node) (x3 : Int) (x4 : Int) : St := ⟨dead :: .pv (.int .i64 x0) :: dead :: dead :: dead :: .pv (.int .u32 (BitVec.toNat x1 : Nat)) :: dead :: dead :: .pv (.seq (List.length x2) (encP e_api_Node d_api_Node x2)) :: .pv (.int .i64 x3) :: .pv (.int .i64 x4) :: List.replicate 14 dead, []⟩
noncomputable abbrev graph_named_l3_e (x0 : Int) (x1 : BitVec 32) (x2 : List api_Node) (x3 : Int) (x4 : Int) (r : (BitVec 32)) : St := ⟨(List.replicate 5 dead ++ (.pv (.int .u32 (BitVec.toNat r : Nat)) :: List.replicate 19 dead)), []⟩
theorem graph_named_l3_ok (x0 : Int) (x1 : BitVec 32) (x2 : List api_Node) (x3 : Int) (x4 : Int) (r : (BitVec 32)) (h : graph_named_l3 x0 x1 x2 x3 x4 = some r) : Loops Try.prog graph_named_l3_c 0 (graph_named_l3_s x0 x1 x2 x3 x4) (.exit 0) (graph_named_l3_e x0 x1 x2 x3 x4 r) := by
 refine graph_named_l3.partial_correctness x0 x2 x3 (fun x1 x4 r => Loops Try.prog graph_named_l3_c 0 (graph_named_l3_s x0 x1 x2 x3 x4) (.exit 0) (graph_named_l3_e x0 x1 x2 x3 x4 r)) ?_ x1 x4 r h
 clear h r x1 x4
 intro self ih x1 x4 r h
 rcases if_of h with ⟨c1, h⟩ | ⟨c1, h⟩
 · obtain ⟨c2, h⟩ := need_of h
   obtain ⟨c3, h⟩ := need_of h
   rcases if_of h with ⟨c4, h⟩ | ⟨c4, h⟩
   · obtain ⟨v5, h6, h⟩ := bind_of h
     exact pmore mixed lives 70 (by kernel_rfl) (pk <| pb c1 <| pn c2 <| pn c3 <| pk5 <| pb c4 <| pk <| pc (sets_One_ok _ _ h6) <| pk <| pe (eff_int (k := .u32) (un_or .u32 rfl x1 v5)) <| pk <| pz) (ih (x1 ||| v5) (iAdd x4 1) _ h)
   · exact pmore mixed lives 70 (by kernel_rfl) (pk <| pb c1 <| pn c2 <| pn c3 <| pk5 <| pb c4 <| pk <| pz) (ih x1 (iAdd x4 1) _ h)
 · have h := Option.some.inj h; subst h
   exact plast mixed lives 70 (by kernel_rfl) (pk <| pb c1 <| pz) rfl
/-- alibi/graph.named -/
def graph_named (l : List api_Node) (kind : Int) : Option ((BitVec 32)) :=
  bind (graph_named_l3 kind (0#32) l (((List.length l : Nat) : Int)) 0) fun v7 =>
  some v7
theorem graph_named_ok (l : List api_Node) (kind : Int) (r : (BitVec 32)) (h : graph_named l kind = some r) : Does Try.prog 70 [.pv (.seq (List.length l) (encP e_api_Node d_api_Node l)), .pv (.int .i64 kind)] [] (.pv (.int .u32 (BitVec.toNat r : Nat)), []) := by
 unfold graph_named at h
 obtain ⟨v7, h8, h⟩ := bind_of h
 have h := Option.some.inj h; subst h
 exact pdoes mixed (L := lives) (by kernel_rfl) (pk <| pl (graph_named_l3_ok _ _ _ _ _ _ h8) <| pz)
def o_u32 (x : BitVec 32) : List AV := [.pv (.int .u32 (BitVec.toNat x : Nat))]
noncomputable def graph_Callees_l3_c : Code := sub (codeOf Try.prog 89) [1, 1, 0, 1, 0, 0]
def graph_Callees_l3 (x0 : List (BitVec 32)) (x1 : List (List api_Node)) (x2 : Int) (x3 : Int) : Option ((List (BitVec 32))) :=
  if (decide ((x3 : Int) < x2)) = true then
    if (decide ((0 : Int) ≤ x3)) = true then
      if (decide ((x3 : Int) < ((List.length x1 : Nat) : Int))) = true then
        bind (graph_named (List.getD x1 (Int.toNat x3) (([] : List api_Node))) 7) fun v4 =>
        if (Nat.ble ((List.length x0 + List.length ([v4])) * 4) reach) = true then
          graph_Callees_l3 (x0 ++ ([v4])) x1 x2 (iAdd x3 1)
        else none
      else none
    else none
  else
    some x0
partial_fixpoint
noncomputable abbrev graph_Callees_l3_s (x0 : List (BitVec 32)) (x1 : List (List api_Node)) (x2 : Int) (x3 : Int) : St := ⟨dead :: dead :: dead :: .ms 0 [] 0 (List.length x0) :: dead :: dead :: dead :: .pv (.seq (List.length x1) (encP e_62 ([] : List api_Node) x1)) :: .pv (.int .i64 x2) :: .pv (.int .i64 x3) :: List.replicate 10 dead, [.arr 0 1 (List.length x0) (encW o_u32 0#32 x0)]⟩
noncomputable abbrev graph_Callees_l3_e (x0 : List (BitVec 32)) (x1 : List (List api_Node)) (x2 : Int) (x3 : Int) (r : (List (BitVec 32))) : St := ⟨dead :: dead :: dead :: .ms 0 [] 0 (List.length r) :: List.replicate 16 dead, [.arr 0 1 (List.length r) (encW o_u32 0#32 r)]⟩
theorem graph_Callees_l3_ok (x0 : List (BitVec 32)) (x1 : List (List api_Node)) (x2 : Int) (x3 : Int) (r : (List (BitVec 32))) (h : graph_Callees_l3 x0 x1 x2 x3 = some r) : Loops Try.prog graph_Callees_l3_c 0 (graph_Callees_l3_s x0 x1 x2 x3) (.exit 0) (graph_Callees_l3_e x0 x1 x2 x3 r) := by
 refine graph_Callees_l3.partial_correctness x1 x2 (fun x0 x3 r => Loops Try.prog graph_Callees_l3_c 0 (graph_Callees_l3_s x0 x1 x2 x3) (.exit 0) (graph_Callees_l3_e x0 x1 x2 x3 r)) ?_ x0 x3 r h
 clear h r x0 x3
 intro self ih x0 x3 r h
 rcases if_of h with ⟨c1, h⟩ | ⟨c1, h⟩
 · obtain ⟨c2, h⟩ := need_of h
   obtain ⟨c3, h⟩ := need_of h
   obtain ⟨v4, h5, h⟩ := bind_of h
   obtain ⟨c6, h⟩ := need_of h
   exact pmore mixed lives 89 (by kernel_rfl) (pk <| pb c1 <| pn c2 <| pn c3 <| pk <| pc (graph_named_ok _ _ _ h5) <| pk <| pe (eff_lit o_u32 (0#32) 5 1 1 ([v4]) rfl [] []) <| pb (whole_ok (List.length ([v4]))) <| pn c6 <| pe (eff_app o_u32 (0#32) x0 ([v4]) (x0 ++ ([v4])) 0 1 (List.length x0) (List.length ([v4])) (fun i => List.map AV.scal (encW o_u32 (0#32) ([v4]) i)) (encW o_u32 (0#32) x0 (List.length x0)) [] [] [(0, false)] (by first | exact Nat.le_refl _ | exact Nat.zero_le _ | (simp only [decide_eq_true_eq, List.length_set, List.length_append, List.length_replicate, List.length_cons, List.length_nil, Nat.zero_add] at * <;> omega)) rfl (fun _ => by kernel_rfl) (congrArg o_u32 (getD_ge (0#32) (by first | exact Nat.le_refl _ | exact Nat.zero_le _ | (simp only [decide_eq_true_eq, List.length_set, List.length_append, List.length_replicate, List.length_cons, List.length_nil, Nat.zero_add] at * <;> omega)))) (by rw [List.take_of_length_le (by first | exact Nat.le_refl _ | exact Nat.zero_le _ | (simp only [decide_eq_true_eq, List.length_set, List.length_append, List.length_replicate, List.length_cons, List.length_nil, Nat.zero_add] at * <;> omega))])) <| pk <| pz) (ih (x0 ++ ([v4])) (iAdd x3 1) _ h)
 · have h := Option.some.inj h; subst h
   exact plast mixed lives 89 (by kernel_rfl) (pk <| pb c1 <| pz) rfl
/-- alibi/graph.Callees -/
def graph_Callees (p : api_Program) : Option ((List (BitVec 32))) :=
  bind (graph_Callees_l3 (([] : List (BitVec 32))) p.funcs (((List.length p.funcs : Nat) : Int)) 0) fun v7 =>
  some v7
theorem graph_Callees_ok (p : api_Program) (r : (List (BitVec 32))) (h : graph_Callees p = some r) : Does Try.prog 89 [.agg [.pv (.int .i64 p.globals), .pv (.int .i64 p.locks), .pv (.int .i64 p.slots), .pv (.seq (List.length p.funcs) (encP e_62 ([] : List api_Node) p.funcs))]] [] (.ms 0 [] 0 (List.length r), [.arr 0 1 (List.length r) (encW o_u32 0#32 r)]) := by
 unfold graph_Callees at h
 obtain ⟨v7, h8, h⟩ := bind_of h
 have h := Option.some.inj h; subst h
 exact pdoes mixed (L := lives) (by kernel_rfl) (pk3 <| pl (Loops.of (s1 := ⟨dead :: dead :: dead :: .ms 0 [] 0 (List.length ([] : List (BitVec 32))) :: dead :: dead :: dead :: .pv (.seq (List.length p.funcs) (encP e_62 ([] : List api_Node) p.funcs)) :: .pv (.int .i64 (((List.length p.funcs : Nat) : Int))) :: .pv (.int .i64 0) :: List.replicate 10 dead, [.arr 0 1 (List.length ([] : List (BitVec 32))) (encW o_u32 0#32 (([] : List (BitVec 32))))]⟩) (graph_Callees_l3_ok _ _ _ _ _ h8) (by (first | rfl | (simp only [graph_Callees_l3_s, List.length_set]; done)))) <| pz)
def str_0 : ByteArray := (ByteArray.mk #[0, 1, 1, 2, 1, 2, 2, 3, 1, 2, 2, 3, 2, 3, 3, 4, 1, 2, 2, 3, 2, 3, 3, 4, 2, 3, 3, 4, 3, 4, 4, 5, 1, 2, 2, 3, 2, 3, 3, 4, 2, 3, 3, 4, 3, 4, 4, 5, 2, 3, 3, 4, 3, 4, 4, 5, 3, 4, 4, 5, 4, 5, 5, 6, 1, 2, 2, 3, 2, 3, 3, 4, 2, 3, 3, 4, 3, 4, 4, 5, 2, 3, 3, 4, 3, 4, 4, 5, 3, 4, 4, 5, 4, 5, 5, 6, 2, 3, 3, 4, 3, 4, 4, 5, 3, 4, 4, 5, 4, 5, 5, 6, 3, 4, 4, 5, 4, 5, 5, 6, 4, 5, 5, 6, 5, 6, 6, 7, 1, 2, 2, 3, 2, 3, 3, 4, 2, 3, 3, 4, 3, 4, 4, 5, 2, 3, 3, 4, 3, 4, 4, 5, 3, 4, 4, 5, 4, 5, 5, 6, 2, 3, 3, 4, 3, 4, 4, 5, 3, 4, 4, 5, 4, 5, 5, 6, 3, 4, 4, 5, 4, 5, 5, 6, 4, 5, 5, 6, 5, 6, 6, 7, 2, 3, 3, 4, 3, 4, 4, 5, 3, 4, 4, 5, 4, 5, 5, 6, 3, 4, 4, 5, 4, 5, 5, 6, 4, 5, 5, 6, 5, 6, 6, 7, 3, 4, 4, 5, 4, 5, 5, 6, 4, 5, 5, 6, 5, 6, 6, 7, 4, 5, 5, 6, 5, 6, 6, 7, 5, 6, 6, 7, 6, 7, 7, 8])
/-- math/bits.OnesCount32 -/
def math_bits_OnesCount32 (x : BitVec 32) : Option (Int) :=
  if (decide ((((BitVec.toNat (x >>> (BitVec.toNat (24#64))) : Nat) : Int) : Int) < ((ByteArray.size str_0 : Nat) : Int))) = true then
    if (decide ((((BitVec.toNat ((x >>> (BitVec.toNat (16#64))) &&& (255#32)) : Nat) : Int) : Int) < ((ByteArray.size str_0 : Nat) : Int))) = true then
      if (decide ((((BitVec.toNat ((x >>> (BitVec.toNat (8#64))) &&& (255#32)) : Nat) : Int) : Int) < ((ByteArray.size str_0 : Nat) : Int))) = true then
        if (decide ((((BitVec.toNat (x &&& (255#32)) : Nat) : Int) : Int) < ((ByteArray.size str_0 : Nat) : Int))) = true then
          some ((BitVec.toNat ((((byteAt str_0 (BitVec.toNat (x >>> (BitVec.toNat (24#64))))) + (byteAt str_0 (BitVec.toNat ((x >>> (BitVec.toNat (16#64))) &&& (255#32))))) + (byteAt str_0 (BitVec.toNat ((x >>> (BitVec.toNat (8#64))) &&& (255#32))))) + (byteAt str_0 (BitVec.toNat (x &&& (255#32))))) : Int))
        else none
      else none
    else none
  else none
theorem math_bits_OnesCount32_ok (x : BitVec 32) (r : Int) (h : math_bits_OnesCount32 x = some r) : Does Try.prog 96 [.pv (.int .u32 (BitVec.toNat x : Nat))] [] (.pv (.int .i64 r), []) := by
 unfold math_bits_OnesCount32 at h
 obtain ⟨c1, h⟩ := need_of h
 obtain ⟨c2, h⟩ := need_of h
 obtain ⟨c3, h⟩ := need_of h
 obtain ⟨c4, h⟩ := need_of h
 have h := Option.some.inj h; subst h
 exact pdoes mixed (L := lives) (by kernel_rfl) (pn ((decide_eq_true (Int.natCast_nonneg _)) : (decide ((0 : Int) ≤ ((BitVec.toNat (24#64) : Nat) : Int))) = true) <| pe (eff_int (k := .u32) (un_shr .u32 x (BitVec.toNat (24#64)))) <| pn ((decide_eq_true (Int.natCast_nonneg _)) : (decide ((0 : Int) ≤ ((BitVec.toNat (x >>> (BitVec.toNat (24#64))) : Nat) : Int))) = true) <| pn c1 <| pk <| pn ((decide_eq_true (Int.natCast_nonneg _)) : (decide ((0 : Int) ≤ ((BitVec.toNat (16#64) : Nat) : Int))) = true) <| pe (eff_int (k := .u32) (un_shr .u32 x (BitVec.toNat (16#64)))) <| pe (eff_int (k := .u32) (un_and .u32 rfl (x >>> (BitVec.toNat (16#64))) (255#32))) <| pn ((decide_eq_true (Int.natCast_nonneg _)) : (decide ((0 : Int) ≤ ((BitVec.toNat ((x >>> (BitVec.toNat (16#64))) &&& (255#32)) : Nat) : Int))) = true) <| pn c2 <| pk <| pe (eff_int (k := .u8) (un_add .u8 rfl (byteAt str_0 (BitVec.toNat (x >>> (BitVec.toNat (24#64))))) (byteAt str_0 (BitVec.toNat ((x >>> (BitVec.toNat (16#64))) &&& (255#32)))))) <| pn ((decide_eq_true (Int.natCast_nonneg _)) : (decide ((0 : Int) ≤ ((BitVec.toNat (8#64) : Nat) : Int))) = true) <| pe (eff_int (k := .u32) (un_shr .u32 x (BitVec.toNat (8#64)))) <| pe (eff_int (k := .u32) (un_and .u32 rfl (x >>> (BitVec.toNat (8#64))) (255#32))) <| pn ((decide_eq_true (Int.natCast_nonneg _)) : (decide ((0 : Int) ≤ ((BitVec.toNat ((x >>> (BitVec.toNat (8#64))) &&& (255#32)) : Nat) : Int))) = true) <| pn c3 <| pk <| pe (eff_int (k := .u8) (un_add .u8 rfl ((byteAt str_0 (BitVec.toNat (x >>> (BitVec.toNat (24#64))))) + (byteAt str_0 (BitVec.toNat ((x >>> (BitVec.toNat (16#64))) &&& (255#32))))) (byteAt str_0 (BitVec.toNat ((x >>> (BitVec.toNat (8#64))) &&& (255#32)))))) <| pe (eff_int (k := .u32) (un_and .u32 rfl x (255#32))) <| pn ((decide_eq_true (Int.natCast_nonneg _)) : (decide ((0 : Int) ≤ ((BitVec.toNat (x &&& (255#32)) : Nat) : Int))) = true) <| pn c4 <| pk <| pe (eff_int (k := .u8) (un_add .u8 rfl (((byteAt str_0 (BitVec.toNat (x >>> (BitVec.toNat (24#64))))) + (byteAt str_0 (BitVec.toNat ((x >>> (BitVec.toNat (16#64))) &&& (255#32))))) + (byteAt str_0 (BitVec.toNat ((x >>> (BitVec.toNat (8#64))) &&& (255#32))))) (byteAt str_0 (BitVec.toNat (x &&& (255#32)))))) <| pe (eff_int (k := .i64) (int_un 8 (by decide) ((((byteAt str_0 (BitVec.toNat (x >>> (BitVec.toNat (24#64))))) + (byteAt str_0 (BitVec.toNat ((x >>> (BitVec.toNat (16#64))) &&& (255#32))))) + (byteAt str_0 (BitVec.toNat ((x >>> (BitVec.toNat (8#64))) &&& (255#32))))) + (byteAt str_0 (BitVec.toNat (x &&& (255#32))))))) <| pz)
/-- alibi/sets.Count -/
def sets_Count (m : BitVec 32) : Option (Int) :=
  bind (math_bits_OnesCount32 m) fun v1 =>
  some v1
theorem sets_Count_ok (m : BitVec 32) (r : Int) (h : sets_Count m = some r) : Does Try.prog 90 [.pv (.int .u32 (BitVec.toNat m : Nat))] [] (.pv (.int .i64 r), []) := by
 unfold sets_Count at h
 obtain ⟨v1, h2, h⟩ := bind_of h
 have h := Option.some.inj h; subst h
 exact pdoes mixed (L := lives) (by kernel_rfl) (pc (math_bits_OnesCount32_ok _ _ h2) <| pk <| pz)
/-- (*alibi/graph.ids).Push -/
def graph_ids_Push (l1 : List Int) (x : Int) : Option ((List Int)) :=
  if (Nat.ble ((List.length l1 + List.length ([x])) * 8) reach) = true then
    some (l1 ++ ([x]))
  else none
theorem graph_ids_Push_ok (l1 : List Int) (x : Int) (r : (List Int)) (h : graph_ids_Push l1 x = some r) : Does Try.prog 123 [.ptr 0 [] 0 0, .ifc 3 (.pv (.int .i64 x))] [.box 2 [.ms 1 [] 0 (List.length l1)], .arr 2 1 (List.length l1) (encW o_i64 0 l1)] (.tup [], [.box 2 [.ms 1 [] 0 (List.length r)], .arr 0 1 (List.length r) (encW o_i64 0 r)]) := by
 unfold graph_ids_Push at h
 obtain ⟨c1, h⟩ := need_of h
 have h := Option.some.inj h; subst h
 exact pdoes mixed (L := lives) (by kernel_rfl) (pk <| pe (eff_lit o_i64 0 2 1 1 ([x]) rfl [] []) <| pb (whole_ok (List.length ([x]))) <| pn c1 <| pe (eff_app o_i64 0 l1 ([x]) (l1 ++ ([x])) 1 1 (List.length l1) (List.length ([x])) (fun i => List.map AV.scal (encW o_i64 0 ([x]) i)) (encW o_i64 0 l1 (List.length l1)) [] [] [(1, false)] (by first | exact Nat.le_refl _ | exact Nat.zero_le _ | (simp only [decide_eq_true_eq, List.length_set, List.length_append, List.length_replicate, List.length_cons, List.length_nil, Nat.zero_add] at * <;> omega)) rfl (fun _ => by kernel_rfl) (congrArg o_i64 (getD_ge 0 (by first | exact Nat.le_refl _ | exact Nat.zero_le _ | (simp only [decide_eq_true_eq, List.length_set, List.length_append, List.length_replicate, List.length_cons, List.length_nil, Nat.zero_add] at * <;> omega)))) (by rw [List.take_of_length_le (by first | exact Nat.le_refl _ | exact Nat.zero_le _ | (simp only [decide_eq_true_eq, List.length_set, List.length_append, List.length_replicate, List.length_cons, List.length_nil, Nat.zero_add] at * <;> omega))])) <| pk <| pz)
def e_i64 (x : Int) : List PV := [.int .i64 x]
/-- (alibi/graph.ids).Len -/
def graph_ids_Len (l : List Int) : Option (Int) :=
  some (((List.length l : Nat) : Int))
theorem graph_ids_Len_ok (l : List Int) (r : Int) (h : graph_ids_Len l = some r) : Does Try.prog 91 [.pv (.seq (List.length l) (encP e_i64 0 l))] [] (.pv (.int .i64 r), []) := by
 unfold graph_ids_Len at h
 have h := Option.some.inj h; subst h
 exact pdoes mixed (L := lives) (by kernel_rfl) (pk <| pz)
/-- (alibi/graph.ids).Less -/
def graph_ids_Less (l : List Int) (i : Int) (k : Int) : Option (Bool) :=
  if (decide ((0 : Int) ≤ i)) = true then
    if (decide ((i : Int) < ((List.length l : Nat) : Int))) = true then
      if (decide ((0 : Int) ≤ k)) = true then
        if (decide ((k : Int) < ((List.length l : Nat) : Int))) = true then
          some (decide (((List.getD l (Int.toNat i) 0) : Int) < (List.getD l (Int.toNat k) 0)))
        else none
      else none
    else none
  else none
theorem graph_ids_Less_ok (l : List Int) (i : Int) (k : Int) (r : Bool) (h : graph_ids_Less l i k = some r) : Does Try.prog 120 [.pv (.seq (List.length l) (encP e_i64 0 l)), .pv (.int .i64 i), .pv (.int .i64 k)] [] (.pv (.bool r), []) := by
 unfold graph_ids_Less at h
 obtain ⟨c1, h⟩ := need_of h
 obtain ⟨c2, h⟩ := need_of h
 obtain ⟨c3, h⟩ := need_of h
 obtain ⟨c4, h⟩ := need_of h
 have h := Option.some.inj h; subst h
 exact pdoes mixed (L := lives) (by kernel_rfl) (pn c1 <| pn c2 <| pk <| pn c3 <| pn c4 <| pk2 <| pz)
/-- (alibi/graph.ids).Swap -/
def graph_ids_Swap (l0 : List Int) (i : Int) (k : Int) : Option ((List Int)) :=
  if (decide ((0 : Int) ≤ k)) = true then
    if (decide ((k : Int) < (((List.length l0) : Nat) : Int))) = true then
      if (decide ((0 : Int) ≤ i)) = true then
        if (decide ((i : Int) < (((List.length l0) : Nat) : Int))) = true then
          some (List.set (List.set l0 (Int.toNat i) (List.getD l0 (Int.toNat k) 0)) (Int.toNat k) (List.getD l0 (Int.toNat i) 0))
        else none
      else none
    else none
  else none
theorem graph_ids_Swap_ok (l0 : List Int) (i : Int) (k : Int) (r : (List Int)) (h : graph_ids_Swap l0 i k = some r) : Does Try.prog 121 [.ms 0 [] 0 (List.length l0), .pv (.int .i64 i), .pv (.int .i64 k)] [.arr 2 1 (List.length l0) (encW o_i64 0 l0)] (.tup [], [.arr 2 1 (List.length r) (encW o_i64 0 r)]) := by
 unfold graph_ids_Swap at h
 obtain ⟨c1, h⟩ := need_of h
 obtain ⟨c2, h⟩ := need_of h
 obtain ⟨c3, h⟩ := need_of h
 obtain ⟨c4, h⟩ := need_of h
 have h := Option.some.inj h; subst h
 refine Does.eq (pdoes mixed (L := lives) (r := (.tup [], [.arr 2 1 (List.length l0) (encW o_i64 0 (List.set (List.set l0 (Int.toNat i) (List.getD l0 (Int.toNat k) 0)) (Int.toNat k) (List.getD l0 (Int.toNat i) 0)))])) (by kernel_rfl) (pn c1 <| pn c2 <| pk <| pn c3 <| pn c4 <| pk <| pn c3 <| pn c4 <| pt <| pe (eff_hb (v := dead) (b := 0) (hb := []) (sc := []) (put_top o_i64 0 2 1 (List.length l0) l0 (Int.toNat i) 0 [.pv (.int .i64 (List.getD l0 (Int.toNat k) 0))] (List.getD l0 (Int.toNat k) 0) (by kernel_rfl) (by first | exact Nat.le_refl _ | exact Nat.zero_le _ | (simp only [decide_eq_true_eq, List.length_set, List.length_append, List.length_replicate, List.length_cons, List.length_nil, Nat.zero_add] at * <;> omega)))) <| pn c1 <| pn c2 <| pt <| pe (eff_hb (v := dead) (b := 0) (hb := []) (sc := []) (put_top o_i64 0 2 1 (List.length l0) (List.set l0 (Int.toNat i) (List.getD l0 (Int.toNat k) 0)) (Int.toNat k) 0 [.pv (.int .i64 (List.getD l0 (Int.toNat i) 0))] (List.getD l0 (Int.toNat i) 0) (by kernel_rfl) (by first | exact Nat.le_refl _ | exact Nat.zero_le _ | (simp only [decide_eq_true_eq, List.length_set, List.length_append, List.length_replicate, List.length_cons, List.length_nil, Nat.zero_add] at * <;> omega)))) <| pz)) ?_
 (first | rfl | (simp only [List.length_set]; done))
noncomputable def heap_up_l0_c : Code := sub (codeOf Try.prog 92) [0, 0]
def heap_up_l0 (x0 : List Int) (x1 : Int) : Option ((List Int)) :=
  if (((iQuo (iSub x1 1) 2) : Int) == x1) = true then
    some x0
  else
    bind (graph_ids_Less x0 x1 (iQuo (iSub x1 1) 2)) fun v2 =>
    if (!v2) = true then
      some x0
    else
      bind (graph_ids_Swap x0 (iQuo (iSub x1 1) 2) x1) fun v5 =>
      if (decide ((List.length v5 : Nat) = List.length x0)) = true then
        heap_up_l0 v5 (iQuo (iSub x1 1) 2)
      else none
partial_fixpoint
noncomputable abbrev heap_up_l0_s (x0 : List Int) (x1 : Int) : St := ⟨.ifc 133 (.ptr 0 [] 0 0) :: .pv (.int .i64 x1) :: List.replicate 21 dead, [.box 2 [.ms 1 [] 0 (List.length x0)], .arr 2 1 (List.length x0) (encW o_i64 0 x0)]⟩
noncomputable abbrev heap_up_l0_e (x0 : List Int) (x1 : Int) (r : (List Int)) : St := ⟨List.replicate 23 dead, [.box 2 [.ms 1 [] 0 (List.length r)], .arr 2 1 (List.length r) (encW o_i64 0 r)]⟩
theorem heap_up_l0_ok (x0 : List Int) (x1 : Int) (r : (List Int)) (h : heap_up_l0 x0 x1 = some r) : Loops Try.prog heap_up_l0_c 2 (heap_up_l0_s x0 x1) (.exit 0) (heap_up_l0_e x0 x1 r) := by
 refine heap_up_l0.partial_correctness (fun x0 x1 r => Loops Try.prog heap_up_l0_c 2 (heap_up_l0_s x0 x1) (.exit 0) (heap_up_l0_e x0 x1 r)) ?_ x0 x1 r h
 clear h r x0 x1
 intro self ih x0 x1 r h
 rcases if_of h with ⟨c1, h⟩ | ⟨c1, h⟩
 · have h := Option.some.inj h; subst h
   exact plast mixed lives 92 (by kernel_rfl) (pk <| pn (rfl : (!decide (2 = (0 : Int))) = true) <| pk2 <| pb c1 <| pk6 <| pz) rfl
 · obtain ⟨v2, h3, h⟩ := bind_of h
   rcases if_of h with ⟨c4, h⟩ | ⟨c4, h⟩
   · have h := Option.some.inj h; subst h
     exact plast mixed lives 92 (by kernel_rfl) (pk <| pn (rfl : (!decide (2 = (0 : Int))) = true) <| pk2 <| pb c1 <| pk3 <| pb (whole_ok (List.length x0)) <| pc (graph_ids_Less_ok _ _ _ _ h3) <| pk4 <| pb c4 <| pz) rfl
   · obtain ⟨v5, h6, h⟩ := bind_of h
     obtain ⟨e7, h⟩ := need_of h; replace e7 := of_decide_eq_true e7
     exact pmore mixed lives 92 (by kernel_rfl) (pk <| pn (rfl : (!decide (2 = (0 : Int))) = true) <| pk2 <| pb c1 <| pk3 <| pb (whole_ok (List.length x0)) <| pc (graph_ids_Less_ok _ _ _ _ h3) <| pk4 <| pb c4 <| pc (graph_ids_Swap_ok _ _ _ _ h6) <| pk <| pz) (Loops.of (s1 := ⟨.ifc 133 (.ptr 0 [] 0 0) :: .pv (.int .i64 (iQuo (iSub x1 1) 2)) :: List.replicate 21 dead, [.box 2 [.ms 1 [] 0 (List.length x0)], .arr 2 1 (List.length v5) (encW o_i64 0 v5)]⟩) (ih v5 (iQuo (iSub x1 1) 2) _ h) (by (first | rfl | (simp only [heap_up_l0_s, List.length_set, e7]; done))))
/-- container/heap.up -/
def heap_up (l1 : List Int) (j : Int) : Option ((List Int)) :=
  bind (heap_up_l0 l1 j) fun v8 =>
  some v8
theorem heap_up_ok (l1 : List Int) (j : Int) (r : (List Int)) (h : heap_up l1 j = some r) : Does Try.prog 92 [.ifc 133 (.ptr 0 [] 0 0), .pv (.int .i64 j)] [.box 2 [.ms 1 [] 0 (List.length l1)], .arr 2 1 (List.length l1) (encW o_i64 0 l1)] (.tup [], [.box 2 [.ms 1 [] 0 (List.length r)], .arr 2 1 (List.length r) (encW o_i64 0 r)]) := by
 unfold heap_up at h
 obtain ⟨v8, h9, h⟩ := bind_of h
 have h := Option.some.inj h; subst h
 exact pdoes mixed (L := lives) (by kernel_rfl) (pl (heap_up_l0_ok _ _ _ h9) <| pz)
/-- container/heap.Push -/
def heap_Push (l1 : List Int) (x : Int) : Option ((List Int)) :=
  bind (graph_ids_Push l1 x) fun v1 =>
  bind (graph_ids_Len v1) fun v3 =>
  bind (heap_up v1 (iSub v3 1)) fun v5 =>
  some v5
theorem heap_Push_ok (l1 : List Int) (x : Int) (r : (List Int)) (h : heap_Push l1 x = some r) : Does Try.prog 85 [.ifc 133 (.ptr 0 [] 0 0), .ifc 3 (.pv (.int .i64 x))] [.box 2 [.ms 1 [] 0 (List.length l1)], .arr 2 1 (List.length l1) (encW o_i64 0 l1)] (.tup [], [.box 2 [.ms 1 [] 0 (List.length r)], .arr 0 1 (List.length r) (encW o_i64 0 r)]) := by
 unfold heap_Push at h
 obtain ⟨v1, h2, h⟩ := bind_of h
 obtain ⟨v3, h4, h⟩ := bind_of h
 obtain ⟨v5, h6, h⟩ := bind_of h
 have h := Option.some.inj h; subst h
 exact pdoes mixed (L := lives) (by kernel_rfl) (pc (graph_ids_Push_ok _ _ _ h2) <| pk <| pb (whole_ok (List.length v1)) <| pc (graph_ids_Len_ok _ _ h4) <| pk2 <| pc (heap_up_ok _ _ _ h6) <| pk <| pz)
noncomputable def graph_Order_l8_c : Code := sub (codeOf Try.prog 84) [1, 1, 1, 1, 1, 0, 1, 0, 0]
def graph_Order_l8 (x0 : List (BitVec 32)) (x1 : List Int) (x2 : List Int) (x3 : Int) (x4 : Int) : Option ((List Int) × (List Int)) :=
  if (decide ((x4 : Int) < x3)) = true then
    if (decide ((0 : Int) ≤ x4)) = true then
      if (decide ((x4 : Int) < (((List.length x0) : Nat) : Int))) = true then
        bind (sets_Count (List.getD x0 (Int.toNat x4) (0#32))) fun v11 =>
        if (decide ((x4 : Int) < (((List.length x1) : Nat) : Int))) = true then
          if (((List.getD (List.set x1 (Int.toNat x4) v11) (Int.toNat x4) 0) : Int) == 0) = true then
            bind (heap_Push x2 x4) fun v15 =>
            graph_Order_l8 x0 (List.set x1 (Int.toNat x4) v11) v15 x3 (iAdd x4 1)
          else
            graph_Order_l8 x0 (List.set x1 (Int.toNat x4) v11) x2 x3 (iAdd x4 1)
        else none
      else none
    else none
  else
    some (x1, x2)
partial_fixpoint
noncomputable abbrev graph_Order_l8_s (x0 : List (BitVec 32)) (x1 : List Int) (x2 : List Int) (x3 : Int) (x4 : Int) : St := ⟨(List.replicate 7 dead ++ (.ms 0 [] 0 (List.length x0) :: .ms 1 [] 0 (List.length x1) :: .ptr 2 [] 0 0 :: (List.replicate 20 dead ++ (.ms 0 [] 0 (List.length x0) :: .pv (.int .i64 x3) :: .pv (.int .i64 x4) :: List.replicate 56 dead)))), [.arr 0 1 (List.length x0) (encW o_u32 0#32 x0), .arr 0 1 (List.length x1) (encW o_i64 0 x1), .box 0 [.ms 3 [] 0 (List.length x2)], .arr 0 1 (List.length x2) (encW o_i64 0 x2)]⟩
noncomputable abbrev graph_Order_l8_e (x0 : List (BitVec 32)) (x1 : List Int) (x2 : List Int) (x3 : Int) (x4 : Int) (r : (List Int) × (List Int)) : St := ⟨(List.replicate 7 dead ++ (.ms 0 [] 0 (List.length x0) :: .ms 1 [] 0 (List.length r.1) :: .ptr 2 [] 0 0 :: List.replicate 79 dead)), [.arr 0 1 (List.length x0) (encW o_u32 0#32 x0), .arr 0 1 (List.length r.1) (encW o_i64 0 r.1), .box 0 [.ms 3 [] 0 (List.length r.2)], .arr 0 1 (List.length r.2) (encW o_i64 0 r.2)]⟩
theorem graph_Order_l8_ok (x0 : List (BitVec 32)) (x1 : List Int) (x2 : List Int) (x3 : Int) (x4 : Int) (r : (List Int) × (List Int)) (h : graph_Order_l8 x0 x1 x2 x3 x4 = some r) : Loops Try.prog graph_Order_l8_c 0 (graph_Order_l8_s x0 x1 x2 x3 x4) (.exit 0) (graph_Order_l8_e x0 x1 x2 x3 x4 r) := by
 refine graph_Order_l8.partial_correctness x0 x3 (fun x1 x2 x4 r => Loops Try.prog graph_Order_l8_c 0 (graph_Order_l8_s x0 x1 x2 x3 x4) (.exit 0) (graph_Order_l8_e x0 x1 x2 x3 x4 r)) ?_ x1 x2 x4 r h
 clear h r x1 x2 x4
 intro self ih x1 x2 x4 r h
 rcases if_of h with ⟨c8, h⟩ | ⟨c8, h⟩
 · obtain ⟨c9, h⟩ := need_of h
   obtain ⟨c10, h⟩ := need_of h
   obtain ⟨v11, h12, h⟩ := bind_of h
   obtain ⟨c13, h⟩ := need_of h
   rcases if_of h with ⟨c14, h⟩ | ⟨c14, h⟩
   · obtain ⟨v15, h16, h⟩ := bind_of h
     exact pmore mixed lives 84 (by kernel_rfl) (pk <| pb c8 <| pn c9 <| pn c10 <| pk <| pc (sets_Count_ok _ _ h12) <| pk <| pn c9 <| pn c13 <| pt <| pe (eff_hb (v := dead) (b := 1) (hb := []) (sc := []) (put_top o_i64 0 0 1 (List.length x1) x1 (Int.toNat x4) 0 [.pv (.int .i64 v11)] v11 (by kernel_rfl) (by first | exact Nat.le_refl _ | exact Nat.zero_le _ | (simp only [decide_eq_true_eq, List.length_set, List.length_append, List.length_replicate, List.length_cons, List.length_nil, Nat.zero_add] at * <;> omega)))) <| pn c9 <| pn c13 <| pk2 <| pb c14 <| pc (heap_Push_ok _ _ _ h16) <| pk2 <| pz) (Loops.of (s1 := ⟨(List.replicate 7 dead ++ (.ms 0 [] 0 (List.length x0) :: .ms 1 [] 0 (List.length x1) :: .ptr 2 [] 0 0 :: (List.replicate 20 dead ++ (.ms 0 [] 0 (List.length x0) :: .pv (.int .i64 x3) :: .pv (.int .i64 (iAdd x4 1)) :: List.replicate 56 dead)))), [.arr 0 1 (List.length x0) (encW o_u32 0#32 x0), .arr 0 1 (List.length x1) (encW o_i64 0 (List.set x1 (Int.toNat x4) v11)), .box 0 [.ms 3 [] 0 (List.length v15)], .arr 0 1 (List.length v15) (encW o_i64 0 v15)]⟩) (ih (List.set x1 (Int.toNat x4) v11) v15 (iAdd x4 1) _ h) (by (first | rfl | (simp only [graph_Order_l8_s, List.length_set]; done))))
   · exact pmore mixed lives 84 (by kernel_rfl) (pk <| pb c8 <| pn c9 <| pn c10 <| pk <| pc (sets_Count_ok _ _ h12) <| pk <| pn c9 <| pn c13 <| pt <| pe (eff_hb (v := dead) (b := 1) (hb := []) (sc := []) (put_top o_i64 0 0 1 (List.length x1) x1 (Int.toNat x4) 0 [.pv (.int .i64 v11)] v11 (by kernel_rfl) (by first | exact Nat.le_refl _ | exact Nat.zero_le _ | (simp only [decide_eq_true_eq, List.length_set, List.length_append, List.length_replicate, List.length_cons, List.length_nil, Nat.zero_add] at * <;> omega)))) <| pn c9 <| pn c13 <| pk2 <| pb c14 <| pk <| pz) (Loops.of (s1 := ⟨(List.replicate 7 dead ++ (.ms 0 [] 0 (List.length x0) :: .ms 1 [] 0 (List.length x1) :: .ptr 2 [] 0 0 :: (List.replicate 20 dead ++ (.ms 0 [] 0 (List.length x0) :: .pv (.int .i64 x3) :: .pv (.int .i64 (iAdd x4 1)) :: List.replicate 56 dead)))), [.arr 0 1 (List.length x0) (encW o_u32 0#32 x0), .arr 0 1 (List.length x1) (encW o_i64 0 (List.set x1 (Int.toNat x4) v11)), .box 0 [.ms 3 [] 0 (List.length x2)], .arr 0 1 (List.length x2) (encW o_i64 0 x2)]⟩) (ih (List.set x1 (Int.toNat x4) v11) x2 (iAdd x4 1) _ h) (by (first | rfl | (simp only [graph_Order_l8_s, List.length_set]; done))))
 · have h := Option.some.inj h; subst h
   exact plast mixed lives 84 (by kernel_rfl) (pk <| pb c8 <| pz) rfl
noncomputable def heap_down_l2_c : Code := sub (codeOf Try.prog 93) [1, 1, 0, 0, 0]
def heap_down_l2 (x0 : List Int) (x1 : Int) (x2 : Int) (x3 : Int) : Option ((List Int) × Int) :=
  if (decide (((iAdd (iMul 2 x3) 1) : Int) ≥ x2)) = true then
    some (x0, x3)
  else
    if (decide (((iAdd (iMul 2 x3) 1) : Int) < 0)) = true then
      some (x0, x3)
    else
      if (decide (((iAdd (iAdd (iMul 2 x3) 1) 1) : Int) < x2)) = true then
        bind (graph_ids_Less x0 (iAdd (iAdd (iMul 2 x3) 1) 1) (iAdd (iMul 2 x3) 1)) fun v4 =>
        if v4 = true then
          bind (graph_ids_Less x0 (iAdd (iAdd (iMul 2 x3) 1) 1) x3) fun v7 =>
          if (!v7) = true then
            some (x0, x3)
          else
            bind (graph_ids_Swap x0 x3 (iAdd (iAdd (iMul 2 x3) 1) 1)) fun v10 =>
            if (decide ((List.length v10 : Nat) = List.length x0)) = true then
              heap_down_l2 v10 x1 x2 (iAdd (iAdd (iMul 2 x3) 1) 1)
            else none
        else
          bind (graph_ids_Less x0 (iAdd (iMul 2 x3) 1) x3) fun v13 =>
          if (!v13) = true then
            some (x0, x3)
          else
            bind (graph_ids_Swap x0 x3 (iAdd (iMul 2 x3) 1)) fun v16 =>
            if (decide ((List.length v16 : Nat) = List.length x0)) = true then
              heap_down_l2 v16 x1 x2 (iAdd (iMul 2 x3) 1)
            else none
      else
        bind (graph_ids_Less x0 (iAdd (iMul 2 x3) 1) x3) fun v19 =>
        if (!v19) = true then
          some (x0, x3)
        else
          bind (graph_ids_Swap x0 x3 (iAdd (iMul 2 x3) 1)) fun v22 =>
          if (decide ((List.length v22 : Nat) = List.length x0)) = true then
            heap_down_l2 v22 x1 x2 (iAdd (iMul 2 x3) 1)
          else none
partial_fixpoint
noncomputable abbrev heap_down_l2_s (x0 : List Int) (x1 : Int) (x2 : Int) (x3 : Int) : St := ⟨.ifc 133 (.ptr 0 [] 0 0) :: .pv (.int .i64 x1) :: .pv (.int .i64 x2) :: (List.replicate 4 dead ++ (.pv (.int .i64 x3) :: List.replicate 40 dead)), [.box 2 [.ms 1 [] 0 (List.length x0)], .arr 2 1 (List.length x0) (encW o_i64 0 x0)]⟩
noncomputable abbrev heap_down_l2_e (x0 : List Int) (x1 : Int) (x2 : Int) (x3 : Int) (r : (List Int) × Int) : St := ⟨dead :: .pv (.int .i64 x1) :: (List.replicate 5 dead ++ (.pv (.int .i64 r.2) :: List.replicate 40 dead)), [.box 2 [.ms 1 [] 0 (List.length r.1)], .arr 2 1 (List.length r.1) (encW o_i64 0 r.1)]⟩
theorem heap_down_l2_ok (x0 : List Int) (x1 : Int) (x2 : Int) (x3 : Int) (r : (List Int) × Int) (h : heap_down_l2 x0 x1 x2 x3 = some r) : Loops Try.prog heap_down_l2_c 2 (heap_down_l2_s x0 x1 x2 x3) (.exit 0) (heap_down_l2_e x0 x1 x2 x3 r) := by
 refine heap_down_l2.partial_correctness x1 x2 (fun x0 x3 r => Loops Try.prog heap_down_l2_c 2 (heap_down_l2_s x0 x1 x2 x3) (.exit 0) (heap_down_l2_e x0 x1 x2 x3 r)) ?_ x0 x3 r h
 clear h r x0 x3
 intro self ih x0 x3 r h
 rcases if_of h with ⟨c1, h⟩ | ⟨c1, h⟩
 · have h := Option.some.inj h; subst h
   exact plast mixed lives 93 (by kernel_rfl) (pk3 <| pb c1 <| pk3 <| pz) rfl
 · rcases if_of h with ⟨c2, h⟩ | ⟨c2, h⟩
   · have h := Option.some.inj h; subst h
     exact plast mixed lives 93 (by kernel_rfl) (pk3 <| pb c1 <| pk3 <| pb c2 <| pz) rfl
   · rcases if_of h with ⟨c3, h⟩ | ⟨c3, h⟩
     · obtain ⟨v4, h5, h⟩ := bind_of h
       rcases if_of h with ⟨c6, h⟩ | ⟨c6, h⟩
       · obtain ⟨v7, h8, h⟩ := bind_of h
         rcases if_of h with ⟨c9, h⟩ | ⟨c9, h⟩
         · have h := Option.some.inj h; subst h
           exact plast mixed lives 93 (by kernel_rfl) (pk3 <| pb c1 <| pk3 <| pb c2 <| pk2 <| pb c3 <| pk3 <| pb (whole_ok (List.length x0)) <| pc (graph_ids_Less_ok _ _ _ _ h5) <| pk2 <| pb c6 <| pb (whole_ok (List.length x0)) <| pc (graph_ids_Less_ok _ _ _ _ h8) <| pk2 <| pb c9 <| pz) rfl
         · obtain ⟨v10, h11, h⟩ := bind_of h
           obtain ⟨e12, h⟩ := need_of h; replace e12 := of_decide_eq_true e12
           exact pmore mixed lives 93 (by kernel_rfl) (pk3 <| pb c1 <| pk3 <| pb c2 <| pk2 <| pb c3 <| pk3 <| pb (whole_ok (List.length x0)) <| pc (graph_ids_Less_ok _ _ _ _ h5) <| pk2 <| pb c6 <| pb (whole_ok (List.length x0)) <| pc (graph_ids_Less_ok _ _ _ _ h8) <| pk2 <| pb c9 <| pc (graph_ids_Swap_ok _ _ _ _ h11) <| pk <| pz) (Loops.of (s1 := ⟨.ifc 133 (.ptr 0 [] 0 0) :: .pv (.int .i64 x1) :: .pv (.int .i64 x2) :: (List.replicate 4 dead ++ (.pv (.int .i64 (iAdd (iAdd (iMul 2 x3) 1) 1)) :: List.replicate 40 dead)), [.box 2 [.ms 1 [] 0 (List.length x0)], .arr 2 1 (List.length v10) (encW o_i64 0 v10)]⟩) (ih v10 (iAdd (iAdd (iMul 2 x3) 1) 1) _ h) (by (first | rfl | (simp only [heap_down_l2_s, List.length_set, e12]; done))))
       · obtain ⟨v13, h14, h⟩ := bind_of h
         rcases if_of h with ⟨c15, h⟩ | ⟨c15, h⟩
         · have h := Option.some.inj h; subst h
           exact plast mixed lives 93 (by kernel_rfl) (pk3 <| pb c1 <| pk3 <| pb c2 <| pk2 <| pb c3 <| pk3 <| pb (whole_ok (List.length x0)) <| pc (graph_ids_Less_ok _ _ _ _ h5) <| pk2 <| pb c6 <| pb (whole_ok (List.length x0)) <| pc (graph_ids_Less_ok _ _ _ _ h14) <| pk2 <| pb c15 <| pz) rfl
         · obtain ⟨v16, h17, h⟩ := bind_of h
           obtain ⟨e18, h⟩ := need_of h; replace e18 := of_decide_eq_true e18
           exact pmore mixed lives 93 (by kernel_rfl) (pk3 <| pb c1 <| pk3 <| pb c2 <| pk2 <| pb c3 <| pk3 <| pb (whole_ok (List.length x0)) <| pc (graph_ids_Less_ok _ _ _ _ h5) <| pk2 <| pb c6 <| pb (whole_ok (List.length x0)) <| pc (graph_ids_Less_ok _ _ _ _ h14) <| pk2 <| pb c15 <| pc (graph_ids_Swap_ok _ _ _ _ h17) <| pk <| pz) (Loops.of (s1 := ⟨.ifc 133 (.ptr 0 [] 0 0) :: .pv (.int .i64 x1) :: .pv (.int .i64 x2) :: (List.replicate 4 dead ++ (.pv (.int .i64 (iAdd (iMul 2 x3) 1)) :: List.replicate 40 dead)), [.box 2 [.ms 1 [] 0 (List.length x0)], .arr 2 1 (List.length v16) (encW o_i64 0 v16)]⟩) (ih v16 (iAdd (iMul 2 x3) 1) _ h) (by (first | rfl | (simp only [heap_down_l2_s, List.length_set, e18]; done))))
     · obtain ⟨v19, h20, h⟩ := bind_of h
       rcases if_of h with ⟨c21, h⟩ | ⟨c21, h⟩
       · have h := Option.some.inj h; subst h
         exact plast mixed lives 93 (by kernel_rfl) (pk3 <| pb c1 <| pk3 <| pb c2 <| pk2 <| pb c3 <| pk5 <| pb (whole_ok (List.length x0)) <| pc (graph_ids_Less_ok _ _ _ _ h20) <| pk2 <| pb c21 <| pz) rfl
       · obtain ⟨v22, h23, h⟩ := bind_of h
         obtain ⟨e24, h⟩ := need_of h; replace e24 := of_decide_eq_true e24
         exact pmore mixed lives 93 (by kernel_rfl) (pk3 <| pb c1 <| pk3 <| pb c2 <| pk2 <| pb c3 <| pk5 <| pb (whole_ok (List.length x0)) <| pc (graph_ids_Less_ok _ _ _ _ h20) <| pk2 <| pb c21 <| pc (graph_ids_Swap_ok _ _ _ _ h23) <| pk <| pz) (Loops.of (s1 := ⟨.ifc 133 (.ptr 0 [] 0 0) :: .pv (.int .i64 x1) :: .pv (.int .i64 x2) :: (List.replicate 4 dead ++ (.pv (.int .i64 (iAdd (iMul 2 x3) 1)) :: List.replicate 40 dead)), [.box 2 [.ms 1 [] 0 (List.length x0)], .arr 2 1 (List.length v22) (encW o_i64 0 v22)]⟩) (ih v22 (iAdd (iMul 2 x3) 1) _ h) (by (first | rfl | (simp only [heap_down_l2_s, List.length_set, e24]; done))))
/-- container/heap.down -/
def heap_down (l1 : List Int) (i0 : Int) (n1 : Int) : Option (Bool × (List Int)) :=
  bind (heap_down_l2 l1 i0 n1 i0) fun v25 =>
  some (decide ((v25.2 : Int) > i0), v25.1)
theorem heap_down_ok (l1 : List Int) (i0 : Int) (n1 : Int) (r : Bool × (List Int)) (h : heap_down l1 i0 n1 = some r) : Does Try.prog 93 [.ifc 133 (.ptr 0 [] 0 0), .pv (.int .i64 i0), .pv (.int .i64 n1)] [.box 2 [.ms 1 [] 0 (List.length l1)], .arr 2 1 (List.length l1) (encW o_i64 0 l1)] (.pv (.bool r.1), [.box 2 [.ms 1 [] 0 (List.length r.2)], .arr 2 1 (List.length r.2) (encW o_i64 0 r.2)]) := by
 unfold heap_down at h
 obtain ⟨v25, h26, h⟩ := bind_of h
 have h := Option.some.inj h; subst h
 exact pdoes mixed (L := lives) (by kernel_rfl) (pl (heap_down_l2_ok _ _ _ _ _ h26) <| pk <| pz)
/-- (*alibi/graph.ids).Pop -/
def graph_ids_Pop (l1 : List Int) : Option (Int × (List Int)) :=
  if (decide ((0 : Int) ≤ (iSub ((((List.length l1) : Nat) : Int)) 1))) = true then
    if (decide (((iSub ((((List.length l1) : Nat) : Int)) 1) : Int) < (((List.length l1) : Nat) : Int))) = true then
      if (decide (((iSub ((((List.length l1) : Nat) : Int)) 1) : Int) ≤ ((List.length l1 : Nat) : Int))) = true then
        some (List.getD l1 (Int.toNat (iSub ((((List.length l1) : Nat) : Int)) 1)) 0, List.take (Int.toNat (iSub ((((List.length l1) : Nat) : Int)) 1)) l1)
      else none
    else none
  else none
theorem graph_ids_Pop_ok (l1 : List Int) (r : Int × (List Int)) (h : graph_ids_Pop l1 = some r) : Does Try.prog 122 [.ptr 0 [] 0 0] [.box 2 [.ms 1 [] 0 (List.length l1)], .arr 2 1 (List.length l1) (encW o_i64 0 l1)] (.ifc 3 (.pv (.int .i64 r.1)), [.box 2 [.ms 1 [] 0 (List.length r.2)], .arr 0 1 (List.length r.2) (encW o_i64 0 r.2)]) := by
 unfold graph_ids_Pop at h
 obtain ⟨c1, h⟩ := need_of h
 obtain ⟨c2, h⟩ := need_of h
 obtain ⟨c3, h⟩ := need_of h
 have h := Option.some.inj h; subst h
 refine Does.eq (pdoes mixed (L := lives) (r := (.ifc 3 (.pv (.int .i64 (List.getD l1 (Int.toNat (iSub ((((List.length l1) : Nat) : Int)) 1)) 0))), [.box 2 [.ms 1 [] 0 (Int.toNat (iSub ((((List.length l1) : Nat) : Int)) 1))], .arr 0 1 (Int.toNat (iSub ((((List.length l1) : Nat) : Int)) 1)) (cutF 0 (Int.toNat (iSub ((((List.length l1) : Nat) : Int)) 1)) (List.length l1) (encW o_i64 0 l1))])) (by kernel_rfl) (pk3 <| pn c1 <| pn c2 <| pk3 <| pn c1 <| pn c3 <| pk2 <| pz)) ?_
 rw [cut_enc o_i64 0 l1 (Int.toNat (iSub ((((List.length l1) : Nat) : Int)) 1)) (List.length l1) (by first | exact Nat.le_refl _ | exact Nat.zero_le _ | (simp only [decide_eq_true_eq, List.length_set, List.length_append, List.length_replicate, List.length_cons, List.length_nil, Nat.zero_add] at * <;> omega)) (by first | exact Nat.le_refl _ | exact Nat.zero_le _ | (simp only [decide_eq_true_eq, List.length_set, List.length_append, List.length_replicate, List.length_cons, List.length_nil, Nat.zero_add] at * <;> omega)), len_take l1 (Int.toNat (iSub ((((List.length l1) : Nat) : Int)) 1)) (by first | exact Nat.le_refl _ | exact Nat.zero_le _ | (simp only [decide_eq_true_eq, List.length_set, List.length_append, List.length_replicate, List.length_cons, List.length_nil, Nat.zero_add] at * <;> omega))] <;> (first | rfl | (simp only [List.length_set]; done))
/-- container/heap.Pop -/
def heap_Pop (l1 : List Int) : Option (Int × (List Int)) :=
  bind (graph_ids_Len l1) fun v1 =>
  bind (graph_ids_Swap l1 0 (iSub v1 1)) fun v3 =>
  if (decide ((List.length v3 : Nat) = List.length l1)) = true then
    bind (heap_down v3 0 (iSub v1 1)) fun v6 =>
    bind (graph_ids_Pop v6.2) fun v8 =>
    some (v8.1, v8.2)
  else none
theorem heap_Pop_ok (l1 : List Int) (r : Int × (List Int)) (h : heap_Pop l1 = some r) : Does Try.prog 86 [.ifc 133 (.ptr 0 [] 0 0)] [.box 2 [.ms 1 [] 0 (List.length l1)], .arr 2 1 (List.length l1) (encW o_i64 0 l1)] (.ifc 3 (.pv (.int .i64 r.1)), [.box 2 [.ms 1 [] 0 (List.length r.2)], .arr 0 1 (List.length r.2) (encW o_i64 0 r.2)]) := by
 unfold heap_Pop at h
 obtain ⟨v1, h2, h⟩ := bind_of h
 obtain ⟨v3, h4, h⟩ := bind_of h
 obtain ⟨e5, h⟩ := need_of h; replace e5 := of_decide_eq_true e5
 obtain ⟨v6, h7, h⟩ := bind_of h
 obtain ⟨v8, h9, h⟩ := bind_of h
 have h := Option.some.inj h; subst h
 exact pdoes mixed (L := lives) (by kernel_rfl) (pb (whole_ok (List.length l1)) <| pc (graph_ids_Len_ok _ _ h2) <| pk2 <| pc (graph_ids_Swap_ok _ _ _ _ h4) <| pk <| pc (Does.of (args' := [.ifc 133 (.ptr 0 [] 0 0), .pv (.int .i64 0), .pv (.int .i64 (iSub v1 1))]) (H' := [.box 2 [.ms 1 [] 0 (List.length l1)], .arr 2 1 (List.length v3) (encW o_i64 0 v3)]) (heap_down_ok _ _ _ _ h7) (by (first | rfl | (simp only [List.length_set, e5]; done)))) <| pk <| pc (graph_ids_Pop_ok _ _ h9) <| pk <| pz)
/-- alibi/sets.Has -/
def sets_Has (m : BitVec 32) (id : Int) : Option (Bool) :=
  if (decide ((id : Int) ≥ 0)) = true then
    if (decide ((id : Int) < 32)) = true then
      if (decide ((0 : Int) ≤ id)) = true then
        some (((m >>> (Int.toNat id)) &&& (1#32)) == (1#32))
      else none
    else
      some false
  else
    some false
theorem sets_Has_ok (m : BitVec 32) (id : Int) (r : Bool) (h : sets_Has m id = some r) : Does Try.prog 43 [.pv (.int .u32 (BitVec.toNat m : Nat)), .pv (.int .i64 id)] [] (.pv (.bool r), []) := by
 unfold sets_Has at h
 rcases if_of h with ⟨c1, h⟩ | ⟨c1, h⟩
 · rcases if_of h with ⟨c2, h⟩ | ⟨c2, h⟩
   · obtain ⟨c3, h⟩ := need_of h
     have h := Option.some.inj h; subst h
     exact pdoes mixed (L := lives) (by kernel_rfl) (pk <| pb c1 <| pk3 <| pb c2 <| pk2 <| pn c3 <| pe (eff_int (k := .u32) (un_shr .u32 m (Int.toNat id))) <| pk <| pe (eff_int (k := .u32) (un_and .u32 rfl (m >>> (Int.toNat id)) (1#32))) <| pk <| pe (eff_bool (un_eql ((m >>> (Int.toNat id)) &&& (1#32)) (1#32))) <| pk <| pz)
   · have h := Option.some.inj h; subst h
     exact pdoes mixed (L := lives) (by kernel_rfl) (pk <| pb c1 <| pk3 <| pb c2 <| pk5 <| pz)
 · have h := Option.some.inj h; subst h
   exact pdoes mixed (L := lives) (by kernel_rfl) (pk <| pb c1 <| pk8 <| pz)
noncomputable def graph_Order_l19_c : Code := sub (codeOf Try.prog 84) [1, 1, 1, 1, 1, 1, 1, 0, 0, 0, 1, 0, 1, 1, 1, 0, 0]
def graph_Order_l19 (x0 : List (BitVec 32)) (x1 : List Int) (x2 : List Int) (x3 : List Int) (x4 : Int) (x5 : Int) (x6 : Int) : Option ((List Int) × (List Int)) :=
  if (decide ((x6 : Int) < x5)) = true then
    if (decide ((0 : Int) ≤ x6)) = true then
      if (decide ((x6 : Int) < (((List.length x0) : Nat) : Int))) = true then
        bind (sets_Has (List.getD x0 (Int.toNat x6) (0#32)) x4) fun v28 =>
        if v28 = true then
          if (decide ((x6 : Int) < (((List.length x1) : Nat) : Int))) = true then
            if (((List.getD (List.set x1 (Int.toNat x6) (iSub (List.getD x1 (Int.toNat x6) 0) 1)) (Int.toNat x6) 0) : Int) == 0) = true then
              bind (heap_Push x2 x6) fun v33 =>
              graph_Order_l19 x0 (List.set x1 (Int.toNat x6) (iSub (List.getD x1 (Int.toNat x6) 0) 1)) v33 x3 x4 x5 (iAdd x6 1)
            else
              graph_Order_l19 x0 (List.set x1 (Int.toNat x6) (iSub (List.getD x1 (Int.toNat x6) 0) 1)) x2 x3 x4 x5 (iAdd x6 1)
          else none
        else
          graph_Order_l19 x0 x1 x2 x3 x4 x5 (iAdd x6 1)
      else none
    else none
  else
    some (x1, x2)
partial_fixpoint
noncomputable abbrev graph_Order_l19_s (x0 : List (BitVec 32)) (x1 : List Int) (x2 : List Int) (x3 : List Int) (x4 : Int) (x5 : Int) (x6 : Int) : St := ⟨(List.replicate 7 dead ++ (.ms 0 [] 0 (List.length x0) :: .ms 1 [] 0 (List.length x1) :: .ptr 2 [] 0 0 :: dead :: dead :: .ms 4 [] 0 (List.length x3) :: .pv (.int .i64 x4) :: (List.replicate 48 dead ++ (.ms 0 [] 0 (List.length x0) :: .pv (.int .i64 x5) :: .pv (.int .i64 x6) :: List.replicate 24 dead)))), [.arr 0 1 (List.length x0) (encW o_u32 0#32 x0), .arr 0 1 (List.length x1) (encW o_i64 0 x1), .box 0 [.ms 3 [] 0 (List.length x2)], .arr 0 1 (List.length x2) (encW o_i64 0 x2), .arr 0 1 (List.length x3) (encW o_i64 0 x3)]⟩
noncomputable abbrev graph_Order_l19_e (x0 : List (BitVec 32)) (x1 : List Int) (x2 : List Int) (x3 : List Int) (x4 : Int) (x5 : Int) (x6 : Int) (r : (List Int) × (List Int)) : St := ⟨(List.replicate 7 dead ++ (.ms 0 [] 0 (List.length x0) :: .ms 1 [] 0 (List.length r.1) :: .ptr 2 [] 0 0 :: dead :: dead :: .ms 4 [] 0 (List.length x3) :: List.replicate 76 dead)), [.arr 0 1 (List.length x0) (encW o_u32 0#32 x0), .arr 0 1 (List.length r.1) (encW o_i64 0 r.1), .box 0 [.ms 3 [] 0 (List.length r.2)], .arr 0 1 (List.length r.2) (encW o_i64 0 r.2), .arr 0 1 (List.length x3) (encW o_i64 0 x3)]⟩
theorem graph_Order_l19_ok (x0 : List (BitVec 32)) (x1 : List Int) (x2 : List Int) (x3 : List Int) (x4 : Int) (x5 : Int) (x6 : Int) (r : (List Int) × (List Int)) (h : graph_Order_l19 x0 x1 x2 x3 x4 x5 x6 = some r) : Loops Try.prog graph_Order_l19_c 0 (graph_Order_l19_s x0 x1 x2 x3 x4 x5 x6) (.exit 4) (graph_Order_l19_e x0 x1 x2 x3 x4 x5 x6 r) := by
 refine graph_Order_l19.partial_correctness x0 x3 x4 x5 (fun x1 x2 x6 r => Loops Try.prog graph_Order_l19_c 0 (graph_Order_l19_s x0 x1 x2 x3 x4 x5 x6) (.exit 4) (graph_Order_l19_e x0 x1 x2 x3 x4 x5 x6 r)) ?_ x1 x2 x6 r h
 clear h r x1 x2 x6
 intro self ih x1 x2 x6 r h
 rcases if_of h with ⟨c25, h⟩ | ⟨c25, h⟩
 · obtain ⟨c26, h⟩ := need_of h
   obtain ⟨c27, h⟩ := need_of h
   obtain ⟨v28, h29, h⟩ := bind_of h
   rcases if_of h with ⟨c30, h⟩ | ⟨c30, h⟩
   · obtain ⟨c31, h⟩ := need_of h
     rcases if_of h with ⟨c32, h⟩ | ⟨c32, h⟩
     · obtain ⟨v33, h34, h⟩ := bind_of h
       exact pmore mixed lives 84 (by kernel_rfl) (pk <| pb c25 <| pn c26 <| pn c27 <| pk <| pc (sets_Has_ok _ _ _ h29) <| pk <| pb c30 <| pn c26 <| pn c31 <| pk2 <| pn c26 <| pn c31 <| pt <| pe (eff_hb (v := dead) (b := 1) (hb := []) (sc := []) (put_top o_i64 0 0 1 (List.length x1) x1 (Int.toNat x6) 0 [.pv (.int .i64 (iSub (List.getD x1 (Int.toNat x6) 0) 1))] (iSub (List.getD x1 (Int.toNat x6) 0) 1) (by kernel_rfl) (by first | exact Nat.le_refl _ | exact Nat.zero_le _ | (simp only [decide_eq_true_eq, List.length_set, List.length_append, List.length_replicate, List.length_cons, List.length_nil, Nat.zero_add] at * <;> omega)))) <| pn c26 <| pn c31 <| pk2 <| pb c32 <| pc (heap_Push_ok _ _ _ h34) <| pk2 <| pz) (Loops.of (s1 := ⟨(List.replicate 7 dead ++ (.ms 0 [] 0 (List.length x0) :: .ms 1 [] 0 (List.length x1) :: .ptr 2 [] 0 0 :: dead :: dead :: .ms 4 [] 0 (List.length x3) :: .pv (.int .i64 x4) :: (List.replicate 48 dead ++ (.ms 0 [] 0 (List.length x0) :: .pv (.int .i64 x5) :: .pv (.int .i64 (iAdd x6 1)) :: List.replicate 24 dead)))), [.arr 0 1 (List.length x0) (encW o_u32 0#32 x0), .arr 0 1 (List.length x1) (encW o_i64 0 (List.set x1 (Int.toNat x6) (iSub (List.getD x1 (Int.toNat x6) 0) 1))), .box 0 [.ms 3 [] 0 (List.length v33)], .arr 0 1 (List.length v33) (encW o_i64 0 v33), .arr 0 1 (List.length x3) (encW o_i64 0 x3)]⟩) (ih (List.set x1 (Int.toNat x6) (iSub (List.getD x1 (Int.toNat x6) 0) 1)) v33 (iAdd x6 1) _ h) (by (first | rfl | (simp only [graph_Order_l19_s, List.length_set]; done))))
     · exact pmore mixed lives 84 (by kernel_rfl) (pk <| pb c25 <| pn c26 <| pn c27 <| pk <| pc (sets_Has_ok _ _ _ h29) <| pk <| pb c30 <| pn c26 <| pn c31 <| pk2 <| pn c26 <| pn c31 <| pt <| pe (eff_hb (v := dead) (b := 1) (hb := []) (sc := []) (put_top o_i64 0 0 1 (List.length x1) x1 (Int.toNat x6) 0 [.pv (.int .i64 (iSub (List.getD x1 (Int.toNat x6) 0) 1))] (iSub (List.getD x1 (Int.toNat x6) 0) 1) (by kernel_rfl) (by first | exact Nat.le_refl _ | exact Nat.zero_le _ | (simp only [decide_eq_true_eq, List.length_set, List.length_append, List.length_replicate, List.length_cons, List.length_nil, Nat.zero_add] at * <;> omega)))) <| pn c26 <| pn c31 <| pk2 <| pb c32 <| pk <| pz) (Loops.of (s1 := ⟨(List.replicate 7 dead ++ (.ms 0 [] 0 (List.length x0) :: .ms 1 [] 0 (List.length x1) :: .ptr 2 [] 0 0 :: dead :: dead :: .ms 4 [] 0 (List.length x3) :: .pv (.int .i64 x4) :: (List.replicate 48 dead ++ (.ms 0 [] 0 (List.length x0) :: .pv (.int .i64 x5) :: .pv (.int .i64 (iAdd x6 1)) :: List.replicate 24 dead)))), [.arr 0 1 (List.length x0) (encW o_u32 0#32 x0), .arr 0 1 (List.length x1) (encW o_i64 0 (List.set x1 (Int.toNat x6) (iSub (List.getD x1 (Int.toNat x6) 0) 1))), .box 0 [.ms 3 [] 0 (List.length x2)], .arr 0 1 (List.length x2) (encW o_i64 0 x2), .arr 0 1 (List.length x3) (encW o_i64 0 x3)]⟩) (ih (List.set x1 (Int.toNat x6) (iSub (List.getD x1 (Int.toNat x6) 0) 1)) x2 (iAdd x6 1) _ h) (by (first | rfl | (simp only [graph_Order_l19_s, List.length_set]; done))))
   · exact pmore mixed lives 84 (by kernel_rfl) (pk <| pb c25 <| pn c26 <| pn c27 <| pk <| pc (sets_Has_ok _ _ _ h29) <| pk <| pb c30 <| pk <| pz) (ih x1 x2 (iAdd x6 1) _ h)
 · have h := Option.some.inj h; subst h
   exact plast mixed lives 84 (by kernel_rfl) (pk <| pb c25 <| pz) rfl
noncomputable def graph_Order_l15_c : Code := sub (codeOf Try.prog 84) [1, 1, 1, 1, 1, 1, 1, 0, 0, 0]
def graph_Order_l15 (x0 : List (BitVec 32)) (x1 : List Int) (x2 : List Int) (x3 : List Int) : Option ((List Int)) :=
  bind (graph_ids_Len x2) fun v19 =>
  if (decide ((v19 : Int) > 0)) = true then
    bind (heap_Pop x2) fun v22 =>
    if (Nat.ble ((List.length x3 + List.length ([v22.1])) * 8) reach) = true then
      bind (graph_Order_l19 x0 x1 v22.2 (x3 ++ ([v22.1])) v22.1 ((((List.length x0) : Nat) : Int)) 0) fun v35 =>
      graph_Order_l15 x0 v35.1 v35.2 (x3 ++ ([v22.1]))
    else none
  else
    some x3
partial_fixpoint
noncomputable abbrev graph_Order_l15_s (x0 : List (BitVec 32)) (x1 : List Int) (x2 : List Int) (x3 : List Int) : St := ⟨(List.replicate 7 dead ++ (.ms 0 [] 0 (List.length x0) :: .ms 1 [] 0 (List.length x1) :: .ptr 2 [] 0 0 :: dead :: dead :: .ms 4 [] 0 (List.length x3) :: List.replicate 76 dead)), [.arr 0 1 (List.length x0) (encW o_u32 0#32 x0), .arr 0 1 (List.length x1) (encW o_i64 0 x1), .box 0 [.ms 3 [] 0 (List.length x2)], .arr 0 1 (List.length x2) (encW o_i64 0 x2), .arr 0 1 (List.length x3) (encW o_i64 0 x3)]⟩
noncomputable abbrev graph_Order_l15_e (x0 : List (BitVec 32)) (x1 : List Int) (x2 : List Int) (x3 : List Int) (r : (List Int)) : St := ⟨(List.replicate 12 dead ++ (.ms 0 [] 0 (List.length r) :: List.replicate 76 dead)), [.arr 0 1 (List.length r) (encW o_i64 0 r)]⟩
theorem graph_Order_l15_ok (x0 : List (BitVec 32)) (x1 : List Int) (x2 : List Int) (x3 : List Int) (r : (List Int)) (h : graph_Order_l15 x0 x1 x2 x3 = some r) : Loops Try.prog graph_Order_l15_c 0 (graph_Order_l15_s x0 x1 x2 x3) (.exit 2) (graph_Order_l15_e x0 x1 x2 x3 r) := by
 refine graph_Order_l15.partial_correctness x0 (fun x1 x2 x3 r => Loops Try.prog graph_Order_l15_c 0 (graph_Order_l15_s x0 x1 x2 x3) (.exit 2) (graph_Order_l15_e x0 x1 x2 x3 r)) ?_ x1 x2 x3 r h
 clear h r x1 x2 x3
 intro self ih x1 x2 x3 r h
 obtain ⟨v19, h20, h⟩ := bind_of h
 rcases if_of h with ⟨c21, h⟩ | ⟨c21, h⟩
 · obtain ⟨v22, h23, h⟩ := bind_of h
   obtain ⟨c24, h⟩ := need_of h
   obtain ⟨v35, h36, h⟩ := bind_of h
   exact pmore mixed lives 84 (by kernel_rfl) (pk <| pb (whole_ok (List.length x2)) <| pc (graph_ids_Len_ok _ _ h20) <| pk2 <| pb c21 <| pc (heap_Pop_ok _ _ h23) <| pk <| pe (eff_lit o_i64 0 5 1 1 ([v22.1]) rfl [] []) <| pb (whole_ok (List.length ([v22.1]))) <| pn c24 <| pe (eff_app o_i64 0 x3 ([v22.1]) (x3 ++ ([v22.1])) 4 1 (List.length x3) (List.length ([v22.1])) (fun i => List.map AV.scal (encW o_i64 0 ([v22.1]) i)) (encW o_i64 0 x3 (List.length x3)) [] [] [(4, false)] (by first | exact Nat.le_refl _ | exact Nat.zero_le _ | (simp only [decide_eq_true_eq, List.length_set, List.length_append, List.length_replicate, List.length_cons, List.length_nil, Nat.zero_add] at * <;> omega)) rfl (fun _ => by kernel_rfl) (congrArg o_i64 (getD_ge 0 (by first | exact Nat.le_refl _ | exact Nat.zero_le _ | (simp only [decide_eq_true_eq, List.length_set, List.length_append, List.length_replicate, List.length_cons, List.length_nil, Nat.zero_add] at * <;> omega)))) (by rw [List.take_of_length_le (by first | exact Nat.le_refl _ | exact Nat.zero_le _ | (simp only [decide_eq_true_eq, List.length_set, List.length_append, List.length_replicate, List.length_cons, List.length_nil, Nat.zero_add] at * <;> omega))])) <| pk <| pl (graph_Order_l19_ok _ _ _ _ _ _ _ _ h36) <| pz) (ih v35.1 v35.2 (x3 ++ ([v22.1])) _ h)
 · have h := Option.some.inj h; subst h
   exact plast mixed lives 84 (by kernel_rfl) (pk <| pb (whole_ok (List.length x2)) <| pc (graph_ids_Len_ok _ _ h20) <| pk2 <| pb c21 <| pz) rfl
/-- alibi/graph.Order -/
def graph_Order (p : api_Program) : Option (Int × (List Int)) :=
  bind (prog_Check p) fun v1 =>
  if ((v1.2.2 : Int) != 0) = true then
    some (v1.2.2, ([] : List Int))
  else
    bind (graph_Callees p) fun v4 =>
    if (decide ((0 : Int) ≤ ((((List.length v4) : Nat) : Int)))) = true then
      if (decide ((((((List.length v4) : Nat) : Int)) : Int) * ((8 : Nat) : Int) ≤ ((reach : Nat) : Int))) = true then
        bind (graph_Order_l8 v4 (List.replicate (Int.toNat ((((List.length v4) : Nat) : Int))) (0 : Int)) (([] : List Int)) ((((List.length v4) : Nat) : Int)) 0) fun v17 =>
        bind (graph_Order_l15 v4 v17.1 v17.2 (([] : List Int))) fun v37 =>
        some (0, v37)
      else none
    else none
theorem graph_Order_ok (p : api_Program) (r : Int × (List Int)) (h : graph_Order p = some r) : Does Try.prog 84 [.agg [.pv (.int .i64 p.globals), .pv (.int .i64 p.locks), .pv (.int .i64 p.slots), .pv (.seq (List.length p.funcs) (encP e_62 ([] : List api_Node) p.funcs))]] [] (.tup [.ms 0 [] 0 (List.length r.2), .pv (.int .i64 r.1)], [.arr 0 1 (List.length r.2) (encW o_i64 0 r.2)]) := by
 unfold graph_Order at h
 obtain ⟨v1, h2, h⟩ := bind_of h
 rcases if_of h with ⟨c3, h⟩ | ⟨c3, h⟩
 · have h := Option.some.inj h; subst h
   refine Does.eq (pdoes mixed (L := lives) (r := (.tup [.ms 0 [] 0 (List.length ([] : List Int)), .pv (.int .i64 v1.2.2)], [.arr 0 1 (List.length ([] : List Int)) (encW o_i64 0 (([] : List Int)))])) (by kernel_rfl) (pk2 <| pc (prog_Check_ok _ _ h2) <| pk2 <| pb c3 <| pz)) ?_
   (first | rfl | (simp only [List.length_set]; done))
 · obtain ⟨v4, h5, h⟩ := bind_of h
   obtain ⟨c6, h⟩ := need_of h
   obtain ⟨c7, h⟩ := need_of h
   obtain ⟨v17, h18, h⟩ := bind_of h
   obtain ⟨v37, h38, h⟩ := bind_of h
   have h := Option.some.inj h; subst h
   exact pdoes mixed (L := lives) (by kernel_rfl) (pk2 <| pc (prog_Check_ok _ _ h2) <| pk2 <| pb c3 <| pk <| pc (graph_Callees_ok _ _ h5) <| pk2 <| pn c6 <| pn ((decide_eq_true rfl) : (decide ((((((List.length v4) : Nat) : Int)) : Int) = ((((List.length v4) : Nat) : Int)))) = true) <| pn c7 <| pe (eff_make o_i64 0 2 1 (Int.toNat ((((List.length v4) : Nat) : Int)))) <| pk2 <| pl (Loops.of (s1 := ⟨(List.replicate 7 dead ++ (.ms 0 [] 0 (List.length v4) :: .ms 1 [] 0 (List.length (List.replicate (Int.toNat ((((List.length v4) : Nat) : Int))) (0 : Int))) :: .ptr 2 [] 0 0 :: (List.replicate 20 dead ++ (.ms 0 [] 0 (List.length v4) :: .pv (.int .i64 ((((List.length v4) : Nat) : Int))) :: .pv (.int .i64 0) :: List.replicate 56 dead)))), [.arr 0 1 (List.length v4) (encW o_u32 0#32 v4), .arr 0 1 (List.length (List.replicate (Int.toNat ((((List.length v4) : Nat) : Int))) (0 : Int))) (encW o_i64 0 (List.replicate (Int.toNat ((((List.length v4) : Nat) : Int))) (0 : Int))), .box 0 [.ms 3 [] 0 (List.length ([] : List Int))], .arr 0 1 (List.length ([] : List Int)) (encW o_i64 0 (([] : List Int)))]⟩) (graph_Order_l8_ok _ _ _ _ _ _ h18) (by (first | rfl | (simp only [graph_Order_l8_s, List.length_set]; done)))) <| pl (Loops.of (s1 := ⟨(List.replicate 7 dead ++ (.ms 0 [] 0 (List.length v4) :: .ms 1 [] 0 (List.length v17.1) :: .ptr 2 [] 0 0 :: dead :: dead :: .ms 4 [] 0 (List.length ([] : List Int)) :: List.replicate 76 dead)), [.arr 0 1 (List.length v4) (encW o_u32 0#32 v4), .arr 0 1 (List.length v17.1) (encW o_i64 0 v17.1), .box 0 [.ms 3 [] 0 (List.length v17.2)], .arr 0 1 (List.length v17.2) (encW o_i64 0 v17.2), .arr 0 1 (List.length ([] : List Int)) (encW o_i64 0 (([] : List Int)))]⟩) (graph_Order_l15_ok _ _ _ _ _ h38) (by (first | rfl | (simp only [graph_Order_l15_s, List.length_set]; done)))) <| pz)
/-- alibi/kill.unlocks -/
def kill_unlocks (n1 : api_Node) : Option ((BitVec 32)) :=
  if ((n1.kind : Int) == 4) = true then
    bind (sets_One n1.arg) fun v2 =>
    some v2
  else
    some (0#32)
theorem kill_unlocks_ok (n1 : api_Node) (r : (BitVec 32)) (h : kill_unlocks n1 = some r) : Does Try.prog 69 [.agg [.pv (.int .i64 n1.kind), .pv (.int .i64 n1.arg), .pv (.int .i64 n1.next), .pv (.int .i64 n1.alt)]] [] (.pv (.int .u32 (BitVec.toNat r : Nat)), []) := by
 unfold kill_unlocks at h
 rcases if_of h with ⟨c1, h⟩ | ⟨c1, h⟩
 · obtain ⟨v2, h3, h⟩ := bind_of h
   have h := Option.some.inj h; subst h
   exact pdoes mixed (L := lives) (by kernel_rfl) (pk3 <| pb c1 <| pk <| pc (sets_One_ok _ _ h3) <| pk <| pz)
 · have h := Option.some.inj h; subst h
   exact pdoes mixed (L := lives) (by kernel_rfl) (pk3 <| pb c1 <| pz)
noncomputable def kill_gather_l9_c : Code := sub (codeOf Try.prog 68) [1, 1, 1, 1, 0, 1, 0, 0, 1, 1, 0, 0, 1, 1, 0, 0]
def kill_gather_l9 (x0 : List (BitVec 32)) (x1 : List Int) (x2 : Int) (x3 : Int) (x4 : Int) (x5 : List (List api_Node)) (x6 : Int) (x7 : Int) (x8 : Int) (x9 : List api_Node) (x10 : Int) (x11 : Int) : Option ((List (BitVec 32))) :=
  if (decide ((x11 : Int) < x10)) = true then
    if (decide ((0 : Int) ≤ x11)) = true then
      if (decide ((x11 : Int) < ((List.length x9 : Nat) : Int))) = true then
        if ((((List.getD x9 (Int.toNat x11) d_api_Node).kind) : Int) == 7) = true then
          if (decide ((0 : Int) ≤ x6)) = true then
            if (decide ((x6 : Int) < (((List.length x0) : Nat) : Int))) = true then
              if (decide ((0 : Int) ≤ ((List.getD x9 (Int.toNat x11) d_api_Node).arg))) = true then
                if (decide ((((List.getD x9 (Int.toNat x11) d_api_Node).arg) : Int) < (((List.length x0) : Nat) : Int))) = true then
                  kill_gather_l9 (List.set x0 (Int.toNat x6) ((List.getD x0 (Int.toNat x6) (0#32)) ||| (List.getD x0 (Int.toNat ((List.getD x9 (Int.toNat x11) d_api_Node).arg)) (0#32)))) x1 x2 x3 x4 x5 x6 x7 x8 x9 x10 (iAdd x11 1)
                else none
              else none
            else none
          else none
        else
          if (decide ((0 : Int) ≤ x6)) = true then
            if (decide ((x6 : Int) < (((List.length x0) : Nat) : Int))) = true then
              bind (kill_unlocks (List.getD x9 (Int.toNat x11) d_api_Node)) fun v21 =>
              kill_gather_l9 (List.set x0 (Int.toNat x6) ((List.getD x0 (Int.toNat x6) (0#32)) ||| v21)) x1 x2 x3 x4 x5 x6 x7 x8 x9 x10 (iAdd x11 1)
            else none
          else none
      else none
    else none
  else
    some x0
partial_fixpoint
noncomputable abbrev kill_gather_l9_s (x0 : List (BitVec 32)) (x1 : List Int) (x2 : Int) (x3 : Int) (x4 : Int) (x5 : List (List api_Node)) (x6 : Int) (x7 : Int) (x8 : Int) (x9 : List api_Node) (x10 : Int) (x11 : Int) : St := ⟨dead :: .pv (.fn 69) :: .ptr 0 [] 0 0 :: (List.replicate 5 dead ++ (.ms 1 [] 0 (List.length x0) :: dead :: .pv (.int .i64 x6) :: (List.replicate 14 dead ++ (.ms 2 [] 0 (List.length x1) :: .pv (.int .i64 x7) :: .pv (.int .i64 x8) :: (List.replicate 7 dead ++ (.pv (.seq (List.length x9) (encP e_api_Node d_api_Node x9)) :: .pv (.int .i64 x10) :: .pv (.int .i64 x11) :: List.replicate 29 dead)))))), [.box 0 [.pv (.int .i64 x2), .pv (.int .i64 x3), .pv (.int .i64 x4), .pv (.seq (List.length x5) (encP e_62 ([] : List api_Node) x5))], .arr 0 1 (List.length x0) (encW o_u32 0#32 x0), .arr 0 1 (List.length x1) (encW o_i64 0 x1)]⟩
noncomputable abbrev kill_gather_l9_e (x0 : List (BitVec 32)) (x1 : List Int) (x2 : Int) (x3 : Int) (x4 : Int) (x5 : List (List api_Node)) (x6 : Int) (x7 : Int) (x8 : Int) (x9 : List api_Node) (x10 : Int) (x11 : Int) (r : (List (BitVec 32))) : St := ⟨dead :: .pv (.fn 69) :: .ptr 0 [] 0 0 :: (List.replicate 5 dead ++ (.ms 1 [] 0 (List.length r) :: (List.replicate 16 dead ++ (.ms 2 [] 0 (List.length x1) :: .pv (.int .i64 x7) :: .pv (.int .i64 x8) :: List.replicate 39 dead)))), [.box 0 [.pv (.int .i64 x2), .pv (.int .i64 x3), .pv (.int .i64 x4), .pv (.seq (List.length x5) (encP e_62 ([] : List api_Node) x5))], .arr 0 1 (List.length r) (encW o_u32 0#32 r), .arr 0 1 (List.length x1) (encW o_i64 0 x1)]⟩
theorem kill_gather_l9_ok (x0 : List (BitVec 32)) (x1 : List Int) (x2 : Int) (x3 : Int) (x4 : Int) (x5 : List (List api_Node)) (x6 : Int) (x7 : Int) (x8 : Int) (x9 : List api_Node) (x10 : Int) (x11 : Int) (r : (List (BitVec 32))) (h : kill_gather_l9 x0 x1 x2 x3 x4 x5 x6 x7 x8 x9 x10 x11 = some r) : Loops Try.prog kill_gather_l9_c 0 (kill_gather_l9_s x0 x1 x2 x3 x4 x5 x6 x7 x8 x9 x10 x11) (.exit 2) (kill_gather_l9_e x0 x1 x2 x3 x4 x5 x6 x7 x8 x9 x10 x11 r) := by
 refine kill_gather_l9.partial_correctness x1 x2 x3 x4 x5 x6 x7 x8 x9 x10 (fun x0 x11 r => Loops Try.prog kill_gather_l9_c 0 (kill_gather_l9_s x0 x1 x2 x3 x4 x5 x6 x7 x8 x9 x10 x11) (.exit 2) (kill_gather_l9_e x0 x1 x2 x3 x4 x5 x6 x7 x8 x9 x10 x11 r)) ?_ x0 x11 r h
 clear h r x0 x11
 intro self ih x0 x11 r h
 rcases if_of h with ⟨c11, h⟩ | ⟨c11, h⟩
 · obtain ⟨c12, h⟩ := need_of h
   obtain ⟨c13, h⟩ := need_of h
   rcases if_of h with ⟨c14, h⟩ | ⟨c14, h⟩
   · obtain ⟨c15, h⟩ := need_of h
     obtain ⟨c16, h⟩ := need_of h
     obtain ⟨c17, h⟩ := need_of h
     obtain ⟨c18, h⟩ := need_of h
     exact pmore mixed lives 68 (by kernel_rfl) (pk <| pb c11 <| pn c12 <| pn c13 <| pk5 <| pb c14 <| pn c15 <| pn c16 <| pk2 <| pn c17 <| pn c18 <| pk <| pe (eff_int (k := .u32) (un_or .u32 rfl (List.getD x0 (Int.toNat x6) (0#32)) (List.getD x0 (Int.toNat ((List.getD x9 (Int.toNat x11) d_api_Node).arg)) (0#32)))) <| pn c15 <| pn c16 <| pt <| pe (eff_hb (v := dead) (b := 1) (hb := []) (sc := []) (put_top o_u32 (0#32) 0 1 (List.length x0) x0 (Int.toNat x6) 0 [.pv (.int .u32 (BitVec.toNat ((List.getD x0 (Int.toNat x6) (0#32)) ||| (List.getD x0 (Int.toNat ((List.getD x9 (Int.toNat x11) d_api_Node).arg)) (0#32))) : Nat))] ((List.getD x0 (Int.toNat x6) (0#32)) ||| (List.getD x0 (Int.toNat ((List.getD x9 (Int.toNat x11) d_api_Node).arg)) (0#32))) (by kernel_rfl) (by first | exact Nat.le_refl _ | exact Nat.zero_le _ | (simp only [decide_eq_true_eq, List.length_set, List.length_append, List.length_replicate, List.length_cons, List.length_nil, Nat.zero_add] at * <;> omega)))) <| pk <| pz) (Loops.of (s1 := ⟨dead :: .pv (.fn 69) :: .ptr 0 [] 0 0 :: (List.replicate 5 dead ++ (.ms 1 [] 0 (List.length x0) :: dead :: .pv (.int .i64 x6) :: (List.replicate 14 dead ++ (.ms 2 [] 0 (List.length x1) :: .pv (.int .i64 x7) :: .pv (.int .i64 x8) :: (List.replicate 7 dead ++ (.pv (.seq (List.length x9) (encP e_api_Node d_api_Node x9)) :: .pv (.int .i64 x10) :: .pv (.int .i64 (iAdd x11 1)) :: List.replicate 29 dead)))))), [.box 0 [.pv (.int .i64 x2), .pv (.int .i64 x3), .pv (.int .i64 x4), .pv (.seq (List.length x5) (encP e_62 ([] : List api_Node) x5))], .arr 0 1 (List.length x0) (encW o_u32 0#32 (List.set x0 (Int.toNat x6) ((List.getD x0 (Int.toNat x6) (0#32)) ||| (List.getD x0 (Int.toNat ((List.getD x9 (Int.toNat x11) d_api_Node).arg)) (0#32))))), .arr 0 1 (List.length x1) (encW o_i64 0 x1)]⟩) (ih (List.set x0 (Int.toNat x6) ((List.getD x0 (Int.toNat x6) (0#32)) ||| (List.getD x0 (Int.toNat ((List.getD x9 (Int.toNat x11) d_api_Node).arg)) (0#32)))) (iAdd x11 1) _ h) (by (first | rfl | (simp only [kill_gather_l9_s, List.length_set]; done))))
   · obtain ⟨c19, h⟩ := need_of h
     obtain ⟨c20, h⟩ := need_of h
     obtain ⟨v21, h22, h⟩ := bind_of h
     exact pmore mixed lives 68 (by kernel_rfl) (pk <| pb c11 <| pn c12 <| pn c13 <| pk5 <| pb c14 <| pn c19 <| pn c20 <| pk2 <| pc (kill_unlocks_ok _ _ h22) <| pk <| pe (eff_int (k := .u32) (un_or .u32 rfl (List.getD x0 (Int.toNat x6) (0#32)) v21)) <| pn c19 <| pn c20 <| pt <| pe (eff_hb (v := dead) (b := 1) (hb := []) (sc := []) (put_top o_u32 (0#32) 0 1 (List.length x0) x0 (Int.toNat x6) 0 [.pv (.int .u32 (BitVec.toNat ((List.getD x0 (Int.toNat x6) (0#32)) ||| v21) : Nat))] ((List.getD x0 (Int.toNat x6) (0#32)) ||| v21) (by kernel_rfl) (by first | exact Nat.le_refl _ | exact Nat.zero_le _ | (simp only [decide_eq_true_eq, List.length_set, List.length_append, List.length_replicate, List.length_cons, List.length_nil, Nat.zero_add] at * <;> omega)))) <| pk <| pz) (Loops.of (s1 := ⟨dead :: .pv (.fn 69) :: .ptr 0 [] 0 0 :: (List.replicate 5 dead ++ (.ms 1 [] 0 (List.length x0) :: dead :: .pv (.int .i64 x6) :: (List.replicate 14 dead ++ (.ms 2 [] 0 (List.length x1) :: .pv (.int .i64 x7) :: .pv (.int .i64 x8) :: (List.replicate 7 dead ++ (.pv (.seq (List.length x9) (encP e_api_Node d_api_Node x9)) :: .pv (.int .i64 x10) :: .pv (.int .i64 (iAdd x11 1)) :: List.replicate 29 dead)))))), [.box 0 [.pv (.int .i64 x2), .pv (.int .i64 x3), .pv (.int .i64 x4), .pv (.seq (List.length x5) (encP e_62 ([] : List api_Node) x5))], .arr 0 1 (List.length x0) (encW o_u32 0#32 (List.set x0 (Int.toNat x6) ((List.getD x0 (Int.toNat x6) (0#32)) ||| v21))), .arr 0 1 (List.length x1) (encW o_i64 0 x1)]⟩) (ih (List.set x0 (Int.toNat x6) ((List.getD x0 (Int.toNat x6) (0#32)) ||| v21)) (iAdd x11 1) _ h) (by (first | rfl | (simp only [kill_gather_l9_s, List.length_set]; done))))
 · have h := Option.some.inj h; subst h
   exact plast mixed lives 68 (by kernel_rfl) (pk <| pb c11 <| pz) rfl
noncomputable def kill_gather_l6_c : Code := sub (codeOf Try.prog 68) [1, 1, 1, 1, 0, 1, 0, 0]
def kill_gather_l6 (x0 : List (BitVec 32)) (x1 : List Int) (x2 : Int) (x3 : Int) (x4 : Int) (x5 : List (List api_Node)) (x6 : Int) (x7 : Int) : Option ((List (BitVec 32))) :=
  if (decide ((x7 : Int) < x6)) = true then
    if (decide ((0 : Int) ≤ x7)) = true then
      if (decide ((x7 : Int) < (((List.length x1) : Nat) : Int))) = true then
        if (decide ((0 : Int) ≤ (List.getD x1 (Int.toNat x7) 0))) = true then
          if (decide (((List.getD x1 (Int.toNat x7) 0) : Int) < ((List.length x5 : Nat) : Int))) = true then
            bind (kill_gather_l9 x0 x1 x2 x3 x4 x5 (List.getD x1 (Int.toNat x7) 0) x6 x7 (List.getD x5 (Int.toNat (List.getD x1 (Int.toNat x7) 0)) (([] : List api_Node))) (((List.length (List.getD x5 (Int.toNat (List.getD x1 (Int.toNat x7) 0)) (([] : List api_Node))) : Nat) : Int)) 0) fun v23 =>
            kill_gather_l6 v23 x1 x2 x3 x4 x5 x6 (iAdd x7 1)
          else none
        else none
      else none
    else none
  else
    some x0
partial_fixpoint
noncomputable abbrev kill_gather_l6_s (x0 : List (BitVec 32)) (x1 : List Int) (x2 : Int) (x3 : Int) (x4 : Int) (x5 : List (List api_Node)) (x6 : Int) (x7 : Int) : St := ⟨dead :: .pv (.fn 69) :: .ptr 0 [] 0 0 :: (List.replicate 5 dead ++ (.ms 1 [] 0 (List.length x0) :: (List.replicate 16 dead ++ (.ms 2 [] 0 (List.length x1) :: .pv (.int .i64 x6) :: .pv (.int .i64 x7) :: List.replicate 39 dead)))), [.box 0 [.pv (.int .i64 x2), .pv (.int .i64 x3), .pv (.int .i64 x4), .pv (.seq (List.length x5) (encP e_62 ([] : List api_Node) x5))], .arr 0 1 (List.length x0) (encW o_u32 0#32 x0), .arr 0 1 (List.length x1) (encW o_i64 0 x1)]⟩
noncomputable abbrev kill_gather_l6_e (x0 : List (BitVec 32)) (x1 : List Int) (x2 : Int) (x3 : Int) (x4 : Int) (x5 : List (List api_Node)) (x6 : Int) (x7 : Int) (r : (List (BitVec 32))) : St := ⟨(List.replicate 8 dead ++ (.ms 0 [] 0 (List.length r) :: List.replicate 58 dead)), [.arr 0 1 (List.length r) (encW o_u32 0#32 r)]⟩
theorem kill_gather_l6_ok (x0 : List (BitVec 32)) (x1 : List Int) (x2 : Int) (x3 : Int) (x4 : Int) (x5 : List (List api_Node)) (x6 : Int) (x7 : Int) (r : (List (BitVec 32))) (h : kill_gather_l6 x0 x1 x2 x3 x4 x5 x6 x7 = some r) : Loops Try.prog kill_gather_l6_c 0 (kill_gather_l6_s x0 x1 x2 x3 x4 x5 x6 x7) (.exit 0) (kill_gather_l6_e x0 x1 x2 x3 x4 x5 x6 x7 r) := by
 refine kill_gather_l6.partial_correctness x1 x2 x3 x4 x5 x6 (fun x0 x7 r => Loops Try.prog kill_gather_l6_c 0 (kill_gather_l6_s x0 x1 x2 x3 x4 x5 x6 x7) (.exit 0) (kill_gather_l6_e x0 x1 x2 x3 x4 x5 x6 x7 r)) ?_ x0 x7 r h
 clear h r x0 x7
 intro self ih x0 x7 r h
 rcases if_of h with ⟨c6, h⟩ | ⟨c6, h⟩
 · obtain ⟨c7, h⟩ := need_of h
   obtain ⟨c8, h⟩ := need_of h
   obtain ⟨c9, h⟩ := need_of h
   obtain ⟨c10, h⟩ := need_of h
   obtain ⟨v23, h24, h⟩ := bind_of h
   exact pmore mixed lives 68 (by kernel_rfl) (pk <| pb c6 <| pn c7 <| pn c8 <| pk2 <| pn c9 <| pn c10 <| pk2 <| pl (kill_gather_l9_ok _ _ _ _ _ _ _ _ _ _ _ _ _ h24) <| pk <| pz) (ih v23 (iAdd x7 1) _ h)
 · have h := Option.some.inj h; subst h
   exact plast mixed lives 68 (by kernel_rfl) (pk <| pb c6 <| pz) rfl
/-- alibi/kill.gather -/
def kill_gather (p : api_Program) : Option (Int × (List (BitVec 32))) :=
  bind (graph_Order p) fun v1 =>
  if ((v1.1 : Int) != 0) = true then
    some (v1.1, ([] : List (BitVec 32)))
  else
    if (decide ((0 : Int) ≤ (((List.length p.funcs : Nat) : Int)))) = true then
      if (decide (((((List.length p.funcs : Nat) : Int)) : Int) * ((4 : Nat) : Int) ≤ ((reach : Nat) : Int))) = true then
        bind (kill_gather_l6 (List.replicate (Int.toNat (((List.length p.funcs : Nat) : Int))) (0#32)) v1.2 p.globals p.locks p.slots p.funcs ((((List.length v1.2) : Nat) : Int)) 0) fun v25 =>
        some (0, v25)
      else none
    else none
theorem kill_gather_ok (p : api_Program) (r : Int × (List (BitVec 32))) (h : kill_gather p = some r) : Does Try.prog 68 [.agg [.pv (.int .i64 p.globals), .pv (.int .i64 p.locks), .pv (.int .i64 p.slots), .pv (.seq (List.length p.funcs) (encP e_62 ([] : List api_Node) p.funcs))], .pv (.fn 69)] [] (.tup [.ms 0 [] 0 (List.length r.2), .pv (.int .i64 r.1)], [.arr 0 1 (List.length r.2) (encW o_u32 0#32 r.2)]) := by
 unfold kill_gather at h
 obtain ⟨v1, h2, h⟩ := bind_of h
 rcases if_of h with ⟨c3, h⟩ | ⟨c3, h⟩
 · have h := Option.some.inj h; subst h
   refine Does.eq (pdoes mixed (L := lives) (r := (.tup [.ms 0 [] 0 (List.length ([] : List (BitVec 32))), .pv (.int .i64 v1.1)], [.arr 0 1 (List.length ([] : List (BitVec 32))) (encW o_u32 0#32 (([] : List (BitVec 32))))])) (by kernel_rfl) (pk2 <| pc (graph_Order_ok _ _ h2) <| pk2 <| pb c3 <| pz)) ?_
   (first | rfl | (simp only [List.length_set]; done))
 · obtain ⟨c4, h⟩ := need_of h
   obtain ⟨c5, h⟩ := need_of h
   obtain ⟨v25, h26, h⟩ := bind_of h
   have h := Option.some.inj h; subst h
   exact pdoes mixed (L := lives) (by kernel_rfl) (pk2 <| pc (graph_Order_ok _ _ h2) <| pk2 <| pb c3 <| pk2 <| pn c4 <| pn ((decide_eq_true rfl) : (decide (((((List.length p.funcs : Nat) : Int)) : Int) = (((List.length p.funcs : Nat) : Int)))) = true) <| pn c5 <| pe (eff_make o_u32 (0#32) 2 1 (Int.toNat (((List.length p.funcs : Nat) : Int)))) <| pk <| pl (kill_gather_l6_ok _ _ _ _ _ _ _ _ _ h26) <| pz)
/-- alibi/kill.Unlocks -/
def kill_Unlocks (p : api_Program) : Option (Int × (List (BitVec 32))) :=
  bind (kill_gather p) fun v1 =>
  some (v1.1, v1.2)
theorem kill_Unlocks_ok (p : api_Program) (r : Int × (List (BitVec 32))) (h : kill_Unlocks p = some r) : Does Try.prog 40 [.agg [.pv (.int .i64 p.globals), .pv (.int .i64 p.locks), .pv (.int .i64 p.slots), .pv (.seq (List.length p.funcs) (encP e_62 ([] : List api_Node) p.funcs))]] [] (.tup [.ms 0 [] 0 (List.length r.2), .pv (.int .i64 r.1)], [.arr 0 1 (List.length r.2) (encW o_u32 0#32 r.2)]) := by
 unfold kill_Unlocks at h
 obtain ⟨v1, h2, h⟩ := bind_of h
 have h := Option.some.inj h; subst h
 exact pdoes mixed (L := lives) (by kernel_rfl) (pk2 <| pc (kill_gather_ok _ _ h2) <| pk <| pz)
structure flow_Rule where
  to_ : Int
  from_ : Int
  also : Int
  keep : BitVec 32
  if_ : BitVec 32
  then_ : BitVec 32

def o_flow_Rule (x : flow_Rule) : List AV := [.pv (.int .i64 x.to_), .pv (.int .i64 x.from_), .pv (.int .i64 x.also), .pv (.int .u32 (BitVec.toNat x.keep : Nat)), .pv (.int .u32 (BitVec.toNat x.if_ : Nat)), .pv (.int .u32 (BitVec.toNat x.then_ : Nat))]
def d_flow_Rule : flow_Rule := ⟨0, 0, 0, 0#32, 0#32, 0#32⟩
noncomputable def hold_Lay_l4_c : Code := sub (codeOf Try.prog 17) [1, 1, 1, 0, 1, 0, 0]
def hold_Lay_l4 (x0 : List Int) (x1 : List Int) (x2 : Int) (x3 : List (List api_Node)) (x4 : Int) (x5 : Int) : Option ((List Int) × Int) :=
  if (decide ((x5 : Int) < x4)) = true then
    if (decide ((0 : Int) ≤ x5)) = true then
      if (decide ((x5 : Int) < ((List.length x3 : Nat) : Int))) = true then
        if (Nat.ble ((List.length x1 + List.length ([x2])) * 8) reach) = true then
          hold_Lay_l4 x0 (x1 ++ ([x2])) (iAdd x2 (iAdd 2 (((List.length (List.getD x3 (Int.toNat x5) (([] : List api_Node))) : Nat) : Int)))) x3 x4 (iAdd x5 1)
        else none
      else none
    else none
  else
    some (x1, x2)
partial_fixpoint
noncomputable abbrev hold_Lay_l4_s (x0 : List Int) (x1 : List Int) (x2 : Int) (x3 : List (List api_Node)) (x4 : Int) (x5 : Int) : St := ⟨dead :: dead :: .ptr 0 [] 0 0 :: dead :: .ptr 2 [] 0 0 :: .pv (.int .i64 x2) :: dead :: dead :: dead :: .pv (.seq (List.length x3) (encP e_62 ([] : List api_Node) x3)) :: .pv (.int .i64 x4) :: .pv (.int .i64 x5) :: List.replicate 17 dead, [.box 0 [.ms 1 [] 0 (List.length x0)], .arr 0 1 (List.length x0) (encW o_i64 0 x0), .box 0 [.ms 3 [] 0 (List.length x1)], .arr 0 1 (List.length x1) (encW o_i64 0 x1)]⟩
noncomputable abbrev hold_Lay_l4_e (x0 : List Int) (x1 : List Int) (x2 : Int) (x3 : List (List api_Node)) (x4 : Int) (x5 : Int) (r : (List Int) × Int) : St := ⟨dead :: dead :: .ptr 0 [] 0 0 :: dead :: .ptr 2 [] 0 0 :: .pv (.int .i64 r.2) :: List.replicate 23 dead, [.box 0 [.ms 1 [] 0 (List.length x0)], .arr 0 1 (List.length x0) (encW o_i64 0 x0), .box 0 [.ms 3 [] 0 (List.length r.1)], .arr 0 1 (List.length r.1) (encW o_i64 0 r.1)]⟩
theorem hold_Lay_l4_ok (x0 : List Int) (x1 : List Int) (x2 : Int) (x3 : List (List api_Node)) (x4 : Int) (x5 : Int) (r : (List Int) × Int) (h : hold_Lay_l4 x0 x1 x2 x3 x4 x5 = some r) : Loops Try.prog hold_Lay_l4_c 0 (hold_Lay_l4_s x0 x1 x2 x3 x4 x5) (.exit 0) (hold_Lay_l4_e x0 x1 x2 x3 x4 x5 r) := by
 refine hold_Lay_l4.partial_correctness x0 x3 x4 (fun x1 x2 x5 r => Loops Try.prog hold_Lay_l4_c 0 (hold_Lay_l4_s x0 x1 x2 x3 x4 x5) (.exit 0) (hold_Lay_l4_e x0 x1 x2 x3 x4 x5 r)) ?_ x1 x2 x5 r h
 clear h r x1 x2 x5
 intro self ih x1 x2 x5 r h
 rcases if_of h with ⟨c1, h⟩ | ⟨c1, h⟩
 · obtain ⟨c2, h⟩ := need_of h
   obtain ⟨c3, h⟩ := need_of h
   obtain ⟨c4, h⟩ := need_of h
   exact pmore mixed lives 17 (by kernel_rfl) (pk <| pb c1 <| pn c2 <| pn c3 <| pk2 <| pe (eff_lit o_i64 0 4 1 1 ([x2]) rfl [] []) <| pb (whole_ok (List.length ([x2]))) <| pn c4 <| pe (eff_app o_i64 0 x1 ([x2]) (x1 ++ ([x2])) 3 1 (List.length x1) (List.length ([x2])) (fun i => List.map AV.scal (encW o_i64 0 ([x2]) i)) (encW o_i64 0 x1 (List.length x1)) [] [] [(3, false)] (by first | exact Nat.le_refl _ | exact Nat.zero_le _ | (simp only [decide_eq_true_eq, List.length_set, List.length_append, List.length_replicate, List.length_cons, List.length_nil, Nat.zero_add] at * <;> omega)) rfl (fun _ => by kernel_rfl) (congrArg o_i64 (getD_ge 0 (by first | exact Nat.le_refl _ | exact Nat.zero_le _ | (simp only [decide_eq_true_eq, List.length_set, List.length_append, List.length_replicate, List.length_cons, List.length_nil, Nat.zero_add] at * <;> omega)))) (by rw [List.take_of_length_le (by first | exact Nat.le_refl _ | exact Nat.zero_le _ | (simp only [decide_eq_true_eq, List.length_set, List.length_append, List.length_replicate, List.length_cons, List.length_nil, Nat.zero_add] at * <;> omega))])) <| pk5 <| pz) (ih (x1 ++ ([x2])) (iAdd x2 (iAdd 2 (((List.length (List.getD x3 (Int.toNat x5) (([] : List api_Node))) : Nat) : Int)))) (iAdd x5 1) _ h)
 · have h := Option.some.inj h; subst h
   exact plast mixed lives 17 (by kernel_rfl) (pk <| pb c1 <| pz) rfl
/-- alibi/hold.Lay -/
def hold_Lay (p : api_Program) : Option (Int × (List Int)) :=
  bind (hold_Lay_l4 (([] : List Int)) (([] : List Int)) 0 p.funcs (((List.length p.funcs : Nat) : Int)) 0) fun v5 =>
  some (v5.2, v5.1)
theorem hold_Lay_ok (p : api_Program) (r : Int × (List Int)) (h : hold_Lay p = some r) : Does Try.prog 17 [.agg [.pv (.int .i64 p.globals), .pv (.int .i64 p.locks), .pv (.int .i64 p.slots), .pv (.seq (List.length p.funcs) (encP e_62 ([] : List api_Node) p.funcs))]] [] (.tup [.agg [.ms 0 [] 0 (List.length r.2)], .pv (.int .i64 r.1)], [.arr 0 1 (List.length r.2) (encW o_i64 0 r.2)]) := by
 unfold hold_Lay at h
 obtain ⟨v5, h6, h⟩ := bind_of h
 have h := Option.some.inj h; subst h
 exact pdoes mixed (L := lives) (by kernel_rfl) (pk5 <| pl (Loops.of (s1 := ⟨dead :: dead :: .ptr 0 [] 0 0 :: dead :: .ptr 2 [] 0 0 :: .pv (.int .i64 0) :: dead :: dead :: dead :: .pv (.seq (List.length p.funcs) (encP e_62 ([] : List api_Node) p.funcs)) :: .pv (.int .i64 (((List.length p.funcs : Nat) : Int))) :: .pv (.int .i64 0) :: List.replicate 17 dead, [.box 0 [.ms 1 [] 0 (List.length ([] : List Int))], .arr 0 1 (List.length ([] : List Int)) (encW o_i64 0 (([] : List Int))), .box 0 [.ms 3 [] 0 (List.length ([] : List Int))], .arr 0 1 (List.length ([] : List Int)) (encW o_i64 0 (([] : List Int)))]⟩) (hold_Lay_l4_ok _ _ _ _ _ _ _ h6) (by (first | rfl | (simp only [hold_Lay_l4_s, List.length_set]; done)))) <| pk2 <| pz)
noncomputable def graph_Begun_l3_c : Code := sub (codeOf Try.prog 41) [1, 1, 0, 1, 0, 0]
def graph_Begun_l3 (x0 : BitVec 32) (x1 : List (List api_Node)) (x2 : Int) (x3 : Int) : Option ((BitVec 32)) :=
  if (decide ((x3 : Int) < x2)) = true then
    if (decide ((0 : Int) ≤ x3)) = true then
      if (decide ((x3 : Int) < ((List.length x1 : Nat) : Int))) = true then
        bind (graph_named (List.getD x1 (Int.toNat x3) (([] : List api_Node))) 5) fun v4 =>
        graph_Begun_l3 (x0 ||| v4) x1 x2 (iAdd x3 1)
      else none
    else none
  else
    some x0
partial_fixpoint
noncomputable abbrev graph_Begun_l3_s (x0 : BitVec 32) (x1 : List (List api_Node)) (x2 : Int) (x3 : Int) : St := ⟨dead :: dead :: dead :: .pv (.int .u32 (BitVec.toNat x0 : Nat)) :: dead :: dead :: dead :: .pv (.seq (List.length x1) (encP e_62 ([] : List api_Node) x1)) :: .pv (.int .i64 x2) :: .pv (.int .i64 x3) :: List.replicate 9 dead, []⟩
noncomputable abbrev graph_Begun_l3_e (x0 : BitVec 32) (x1 : List (List api_Node)) (x2 : Int) (x3 : Int) (r : (BitVec 32)) : St := ⟨dead :: dead :: dead :: .pv (.int .u32 (BitVec.toNat r : Nat)) :: List.replicate 15 dead, []⟩
theorem graph_Begun_l3_ok (x0 : BitVec 32) (x1 : List (List api_Node)) (x2 : Int) (x3 : Int) (r : (BitVec 32)) (h : graph_Begun_l3 x0 x1 x2 x3 = some r) : Loops Try.prog graph_Begun_l3_c 0 (graph_Begun_l3_s x0 x1 x2 x3) (.exit 0) (graph_Begun_l3_e x0 x1 x2 x3 r) := by
 refine graph_Begun_l3.partial_correctness x1 x2 (fun x0 x3 r => Loops Try.prog graph_Begun_l3_c 0 (graph_Begun_l3_s x0 x1 x2 x3) (.exit 0) (graph_Begun_l3_e x0 x1 x2 x3 r)) ?_ x0 x3 r h
 clear h r x0 x3
 intro self ih x0 x3 r h
 rcases if_of h with ⟨c1, h⟩ | ⟨c1, h⟩
 · obtain ⟨c2, h⟩ := need_of h
   obtain ⟨c3, h⟩ := need_of h
   obtain ⟨v4, h5, h⟩ := bind_of h
   exact pmore mixed lives 41 (by kernel_rfl) (pk <| pb c1 <| pn c2 <| pn c3 <| pk <| pc (graph_named_ok _ _ _ h5) <| pk <| pe (eff_int (k := .u32) (un_or .u32 rfl x0 v4)) <| pk <| pz) (ih (x0 ||| v4) (iAdd x3 1) _ h)
 · have h := Option.some.inj h; subst h
   exact plast mixed lives 41 (by kernel_rfl) (pk <| pb c1 <| pz) rfl
/-- alibi/graph.Begun -/
def graph_Begun (p : api_Program) : Option ((BitVec 32)) :=
  bind (graph_Begun_l3 (0#32) p.funcs (((List.length p.funcs : Nat) : Int)) 0) fun v6 =>
  some v6
theorem graph_Begun_ok (p : api_Program) (r : (BitVec 32)) (h : graph_Begun p = some r) : Does Try.prog 41 [.agg [.pv (.int .i64 p.globals), .pv (.int .i64 p.locks), .pv (.int .i64 p.slots), .pv (.seq (List.length p.funcs) (encP e_62 ([] : List api_Node) p.funcs))]] [] (.pv (.int .u32 (BitVec.toNat r : Nat)), []) := by
 unfold graph_Begun at h
 obtain ⟨v6, h7, h⟩ := bind_of h
 have h := Option.some.inj h; subst h
 exact pdoes mixed (L := lives) (by kernel_rfl) (pk3 <| pl (graph_Begun_l3_ok _ _ _ _ _ h7) <| pz)
structure hold_Places where
  base : List Int

/-- (alibi/hold.Places).Entry -/
def hold_Places_Entry (x : hold_Places) (f : Int) : Option (Int) :=
  if (decide ((0 : Int) ≤ f)) = true then
    if (decide ((f : Int) < ((List.length x.base : Nat) : Int))) = true then
      some (List.getD x.base (Int.toNat f) 0)
    else none
  else none
theorem hold_Places_Entry_ok (x : hold_Places) (f : Int) (r : Int) (h : hold_Places_Entry x f = some r) : Does Try.prog 19 [.agg [.pv (.seq (List.length x.base) (encP e_i64 0 x.base))], .pv (.int .i64 f)] [] (.pv (.int .i64 r), []) := by
 unfold hold_Places_Entry at h
 obtain ⟨c1, h⟩ := need_of h
 obtain ⟨c2, h⟩ := need_of h
 have h := Option.some.inj h; subst h
 exact pdoes mixed (L := lives) (by kernel_rfl) (pk2 <| pn c1 <| pn c2 <| pk <| pz)
/-- (*alibi/hold.maker).rule -/
def hold_maker_rule (l1 : List Int) (l2 : List (BitVec 32)) (l3 : List flow_Rule) (b0 : Int) (b01 : Int) (b02 : Int) (b03 : List (List api_Node)) (r1 : flow_Rule) : Option ((List flow_Rule)) :=
  if (Nat.ble ((List.length l3 + List.length ([r1])) * 40) reach) = true then
    some (l3 ++ ([r1]))
  else none
theorem hold_maker_rule_ok (l1 : List Int) (l2 : List (BitVec 32)) (l3 : List flow_Rule) (b0 : Int) (b01 : Int) (b02 : Int) (b03 : List (List api_Node)) (r1 : flow_Rule) (r : (List flow_Rule)) (h : hold_maker_rule l1 l2 l3 b0 b01 b02 b03 r1 = some r) : Does Try.prog 44 [.ptr 0 [] 0 0, .agg [.pv (.int .i64 r1.to_), .pv (.int .i64 r1.from_), .pv (.int .i64 r1.also), .pv (.int .u32 (BitVec.toNat r1.keep : Nat)), .pv (.int .u32 (BitVec.toNat r1.if_ : Nat)), .pv (.int .u32 (BitVec.toNat r1.then_ : Nat))]] [.box 2 [.pv (.int .i64 b0), .pv (.int .i64 b01), .pv (.int .i64 b02), .pv (.seq (List.length b03) (encP e_62 ([] : List api_Node) b03)), .ms 1 [] 0 (List.length l1), .ms 2 [] 0 (List.length l2), .ms 3 [] 0 (List.length l3)], .arr 2 1 (List.length l1) (encW o_i64 0 l1), .arr 2 1 (List.length l2) (encW o_u32 0#32 l2), .arr 2 6 (List.length l3) (encW o_flow_Rule d_flow_Rule l3)] (.tup [], [.box 2 [.pv (.int .i64 b0), .pv (.int .i64 b01), .pv (.int .i64 b02), .pv (.seq (List.length b03) (encP e_62 ([] : List api_Node) b03)), .ms 1 [] 0 (List.length l1), .ms 2 [] 0 (List.length l2), .ms 3 [] 0 (List.length r)], .arr 2 1 (List.length l1) (encW o_i64 0 l1), .arr 2 1 (List.length l2) (encW o_u32 0#32 l2), .arr 0 6 (List.length r) (encW o_flow_Rule d_flow_Rule r)]) := by
 unfold hold_maker_rule at h
 obtain ⟨c1, h⟩ := need_of h
 have h := Option.some.inj h; subst h
 exact pdoes mixed (L := lives) (by kernel_rfl) (pk3 <| pe (eff_lit o_flow_Rule d_flow_Rule 5 6 1 ([r1]) rfl [] []) <| pb (whole_ok (List.length ([r1]))) <| pn c1 <| pe (eff_app o_flow_Rule d_flow_Rule l3 ([r1]) (l3 ++ ([r1])) 3 6 (List.length l3) (List.length ([r1])) (fun i => List.map AV.scal (encW o_flow_Rule d_flow_Rule ([r1]) i)) (encW o_flow_Rule d_flow_Rule l3 (List.length l3)) [] [] [(3, false)] (by first | exact Nat.le_refl _ | exact Nat.zero_le _ | (simp only [decide_eq_true_eq, List.length_set, List.length_append, List.length_replicate, List.length_cons, List.length_nil, Nat.zero_add] at * <;> omega)) rfl (fun _ => by kernel_rfl) (congrArg o_flow_Rule (getD_ge d_flow_Rule (by first | exact Nat.le_refl _ | exact Nat.zero_le _ | (simp only [decide_eq_true_eq, List.length_set, List.length_append, List.length_replicate, List.length_cons, List.length_nil, Nat.zero_add] at * <;> omega)))) (by rw [List.take_of_length_le (by first | exact Nat.le_refl _ | exact Nat.zero_le _ | (simp only [decide_eq_true_eq, List.length_set, List.length_append, List.length_replicate, List.length_cons, List.length_nil, Nat.zero_add] at * <;> omega))])) <| pk <| pz)
/-- (alibi/hold.Places).Node -/
def hold_Places_Node (x : hold_Places) (f : Int) (i : Int) : Option (Int) :=
  if (decide ((0 : Int) ≤ f)) = true then
    if (decide ((f : Int) < ((List.length x.base : Nat) : Int))) = true then
      some (iAdd (iAdd (List.getD x.base (Int.toNat f) 0) 2) i)
    else none
  else none
theorem hold_Places_Node_ok (x : hold_Places) (f : Int) (i : Int) (r : Int) (h : hold_Places_Node x f i = some r) : Does Try.prog 21 [.agg [.pv (.seq (List.length x.base) (encP e_i64 0 x.base))], .pv (.int .i64 f), .pv (.int .i64 i)] [] (.pv (.int .i64 r), []) := by
 unfold hold_Places_Node at h
 obtain ⟨c1, h⟩ := need_of h
 obtain ⟨c2, h⟩ := need_of h
 have h := Option.some.inj h; subst h
 exact pdoes mixed (L := lives) (by kernel_rfl) (pk2 <| pn c1 <| pn c2 <| pk3 <| pz)
/-- alibi/prog.Succ -/
def prog_Succ (n1 : api_Node) : Option ((List Int)) :=
  if ((n1.kind : Int) == 9) = true then
    some (([] : List Int))
  else
    if ((n1.kind : Int) == 8) = true then
      some ([n1.next, n1.alt])
    else
      some ([n1.next])
theorem prog_Succ_ok (n1 : api_Node) (r : (List Int)) (h : prog_Succ n1 = some r) : Does Try.prog 71 [.agg [.pv (.int .i64 n1.kind), .pv (.int .i64 n1.arg), .pv (.int .i64 n1.next), .pv (.int .i64 n1.alt)]] [] (.ms 0 [] 0 (List.length r), [.arr 0 1 (List.length r) (encW o_i64 0 r)]) := by
 unfold prog_Succ at h
 rcases if_of h with ⟨c1, h⟩ | ⟨c1, h⟩
 · have h := Option.some.inj h; subst h
   refine Does.eq (pdoes mixed (L := lives) (r := (.ms 0 [] 0 (List.length ([] : List Int)), [.arr 0 1 (List.length ([] : List Int)) (encW o_i64 0 (([] : List Int)))])) (by kernel_rfl) (pk3 <| pb c1 <| pz)) ?_
   (first | rfl | (simp only [List.length_set]; done))
 · rcases if_of h with ⟨c2, h⟩ | ⟨c2, h⟩
   · have h := Option.some.inj h; subst h
     exact pdoes mixed (L := lives) (by kernel_rfl) (pk3 <| pb c1 <| pk <| pb c2 <| pk2 <| pe (eff_lit o_i64 0 1 1 2 ([n1.next, n1.alt]) rfl [] []) <| pz)
   · have h := Option.some.inj h; subst h
     exact pdoes mixed (L := lives) (by kernel_rfl) (pk3 <| pb c1 <| pk <| pb c2 <| pk <| pe (eff_lit o_i64 0 1 1 1 ([n1.next]) rfl [] []) <| pz)
noncomputable def hold_maker_node_l14_c : Code := sub (codeOf Try.prog 45) [1, 1, 1, 1, 1, 0, 0]
def hold_maker_node_l14 (x0 : List Int) (x1 : List (BitVec 32)) (x2 : List flow_Rule) (x3 : List Int) (x4 : Int) (x5 : Int) (x6 : Int) (x7 : List (List api_Node)) (x8 : Int) (x9 : Int) (x10 : Int) (x11 : BitVec 32) (x12 : BitVec 32) (x13 : BitVec 32) (x14 : Int) (x15 : Int) (x16 : Int) : Option ((List flow_Rule)) :=
  if (decide ((x16 : Int) < x15)) = true then
    if (decide ((0 : Int) ≤ x16)) = true then
      if (decide ((x16 : Int) < (((List.length x3) : Nat) : Int))) = true then
        bind (hold_Places_Node (hold_Places.mk x0) x14 (List.getD x3 (Int.toNat x16) 0)) fun v15 =>
        bind (hold_maker_rule x0 x1 x2 x4 x5 x6 x7 (flow_Rule.mk v15 x9 x10 x11 x12 x13)) fun v17 =>
        hold_maker_node_l14 x0 x1 v17 x3 x4 x5 x6 x7 v15 x9 x10 x11 x12 x13 x14 x15 (iAdd x16 1)
      else none
    else none
  else
    some x2
partial_fixpoint
noncomputable abbrev hold_maker_node_l14_s (x0 : List Int) (x1 : List (BitVec 32)) (x2 : List flow_Rule) (x3 : List Int) (x4 : Int) (x5 : Int) (x6 : Int) (x7 : List (List api_Node)) (x8 : Int) (x9 : Int) (x10 : Int) (x11 : BitVec 32) (x12 : BitVec 32) (x13 : BitVec 32) (x14 : Int) (x15 : Int) (x16 : Int) : St := ⟨.ptr 0 [] 0 0 :: .pv (.int .i64 x14) :: (List.replicate 6 dead ++ (.ptr 4 [] 0 0 :: (List.replicate 81 dead ++ (.ms 5 [] 0 (List.length x3) :: .pv (.int .i64 x15) :: .pv (.int .i64 x16) :: List.replicate 15 dead)))), [.box 2 [.pv (.int .i64 x4), .pv (.int .i64 x5), .pv (.int .i64 x6), .pv (.seq (List.length x7) (encP e_62 ([] : List api_Node) x7)), .ms 1 [] 0 (List.length x0), .ms 2 [] 0 (List.length x1), .ms 3 [] 0 (List.length x2)], .arr 2 1 (List.length x0) (encW o_i64 0 x0), .arr 2 1 (List.length x1) (encW o_u32 0#32 x1), .arr 0 6 (List.length x2) (encW o_flow_Rule d_flow_Rule x2), .box 0 [.pv (.int .i64 x8), .pv (.int .i64 x9), .pv (.int .i64 x10), .pv (.int .u32 (BitVec.toNat x11 : Nat)), .pv (.int .u32 (BitVec.toNat x12 : Nat)), .pv (.int .u32 (BitVec.toNat x13 : Nat))], .arr 0 1 (List.length x3) (encW o_i64 0 x3)]⟩
noncomputable abbrev hold_maker_node_l14_e (x0 : List Int) (x1 : List (BitVec 32)) (x2 : List flow_Rule) (x3 : List Int) (x4 : Int) (x5 : Int) (x6 : Int) (x7 : List (List api_Node)) (x8 : Int) (x9 : Int) (x10 : Int) (x11 : BitVec 32) (x12 : BitVec 32) (x13 : BitVec 32) (x14 : Int) (x15 : Int) (x16 : Int) (r : (List flow_Rule)) : St := ⟨List.replicate 108 dead, [.box 2 [.pv (.int .i64 x4), .pv (.int .i64 x5), .pv (.int .i64 x6), .pv (.seq (List.length x7) (encP e_62 ([] : List api_Node) x7)), .ms 1 [] 0 (List.length x0), .ms 2 [] 0 (List.length x1), .ms 3 [] 0 (List.length r)], .arr 2 1 (List.length x0) (encW o_i64 0 x0), .arr 2 1 (List.length x1) (encW o_u32 0#32 x1), .arr 0 6 (List.length r) (encW o_flow_Rule d_flow_Rule r)]⟩
theorem hold_maker_node_l14_ok (x0 : List Int) (x1 : List (BitVec 32)) (x2 : List flow_Rule) (x3 : List Int) (x4 : Int) (x5 : Int) (x6 : Int) (x7 : List (List api_Node)) (x8 : Int) (x9 : Int) (x10 : Int) (x11 : BitVec 32) (x12 : BitVec 32) (x13 : BitVec 32) (x14 : Int) (x15 : Int) (x16 : Int) (r : (List flow_Rule)) (h : hold_maker_node_l14 x0 x1 x2 x3 x4 x5 x6 x7 x8 x9 x10 x11 x12 x13 x14 x15 x16 = some r) : Loops Try.prog hold_maker_node_l14_c 4 (hold_maker_node_l14_s x0 x1 x2 x3 x4 x5 x6 x7 x8 x9 x10 x11 x12 x13 x14 x15 x16) (.exit 1) (hold_maker_node_l14_e x0 x1 x2 x3 x4 x5 x6 x7 x8 x9 x10 x11 x12 x13 x14 x15 x16 r) := by
 refine hold_maker_node_l14.partial_correctness x0 x1 x3 x4 x5 x6 x7 x9 x10 x11 x12 x13 x14 x15 (fun x2 x8 x16 r => Loops Try.prog hold_maker_node_l14_c 4 (hold_maker_node_l14_s x0 x1 x2 x3 x4 x5 x6 x7 x8 x9 x10 x11 x12 x13 x14 x15 x16) (.exit 1) (hold_maker_node_l14_e x0 x1 x2 x3 x4 x5 x6 x7 x8 x9 x10 x11 x12 x13 x14 x15 x16 r)) ?_ x2 x8 x16 r h
 clear h r x2 x8 x16
 intro self ih x2 x8 x16 r h
 rcases if_of h with ⟨c12, h⟩ | ⟨c12, h⟩
 · obtain ⟨c13, h⟩ := need_of h
   obtain ⟨c14, h⟩ := need_of h
   obtain ⟨v15, h16, h⟩ := bind_of h
   obtain ⟨v17, h18, h⟩ := bind_of h
   exact pmore mixed lives 45 (by kernel_rfl) (pk <| pb c12 <| pn c13 <| pn c14 <| pk2 <| pb (whole_ok (List.length x0)) <| pc (hold_Places_Node_ok _ _ _ _ h16) <| pk3 <| pc (hold_maker_rule_ok _ _ _ _ _ _ _ _ _ h18) <| pk2 <| pz) (ih v17 v15 (iAdd x16 1) _ h)
 · have h := Option.some.inj h; subst h
   exact plast mixed lives 45 (by kernel_rfl) (pk <| pb c12 <| pz) rfl
/-- (alibi/hold.Places).Exit -/
def hold_Places_Exit (x : hold_Places) (f : Int) : Option (Int) :=
  if (decide ((0 : Int) ≤ f)) = true then
    if (decide ((f : Int) < ((List.length x.base : Nat) : Int))) = true then
      some (iAdd (List.getD x.base (Int.toNat f) 0) 1)
    else none
  else none
theorem hold_Places_Exit_ok (x : hold_Places) (f : Int) (r : Int) (h : hold_Places_Exit x f = some r) : Does Try.prog 20 [.agg [.pv (.seq (List.length x.base) (encP e_i64 0 x.base))], .pv (.int .i64 f)] [] (.pv (.int .i64 r), []) := by
 unfold hold_Places_Exit at h
 obtain ⟨c1, h⟩ := need_of h
 obtain ⟨c2, h⟩ := need_of h
 have h := Option.some.inj h; subst h
 exact pdoes mixed (L := lives) (by kernel_rfl) (pk2 <| pn c1 <| pn c2 <| pk2 <| pz)
/-- (*alibi/hold.maker).node -/
def hold_maker_node (l1 : List Int) (l2 : List (BitVec 32)) (l3 : List flow_Rule) (b0 : Int) (b01 : Int) (b02 : Int) (b03 : List (List api_Node)) (f : Int) (i : Int) : Option ((List flow_Rule)) :=
  if (decide ((0 : Int) ≤ f)) = true then
    if (decide ((f : Int) < ((List.length b03 : Nat) : Int))) = true then
      if (decide ((0 : Int) ≤ i)) = true then
        if (decide ((i : Int) < ((List.length (List.getD b03 (Int.toNat f) (([] : List api_Node))) : Nat) : Int))) = true then
          bind (hold_Places_Node (hold_Places.mk l1) f i) fun v5 =>
          if ((((List.getD (List.getD b03 (Int.toNat f) (([] : List api_Node))) (Int.toNat i) d_api_Node).kind) : Int) == 3) = true then
            bind (sets_One ((List.getD (List.getD b03 (Int.toNat f) (([] : List api_Node))) (Int.toNat i) d_api_Node).arg)) fun v8 =>
            bind (prog_Succ (List.getD (List.getD b03 (Int.toNat f) (([] : List api_Node))) (Int.toNat i) d_api_Node)) fun v10 =>
            bind (hold_maker_node_l14 l1 l2 l3 v10 b0 b01 b02 b03 0 v5 ((-1)) (4294967295#32) (0#32) v8 f ((((List.length v10) : Nat) : Int)) 0) fun v19 =>
            some v19
          else
            if ((((List.getD (List.getD b03 (Int.toNat f) (([] : List api_Node))) (Int.toNat i) d_api_Node).kind) : Int) == 4) = true then
              bind (sets_One ((List.getD (List.getD b03 (Int.toNat f) (([] : List api_Node))) (Int.toNat i) d_api_Node).arg)) fun v22 =>
              bind (prog_Succ (List.getD (List.getD b03 (Int.toNat f) (([] : List api_Node))) (Int.toNat i) d_api_Node)) fun v24 =>
              bind (hold_maker_node_l14 l1 l2 l3 v24 b0 b01 b02 b03 0 v5 ((-1)) (~~~v22) (0#32) (0#32) f ((((List.length v24) : Nat) : Int)) 0) fun v26 =>
              some v26
            else
              if ((((List.getD (List.getD b03 (Int.toNat f) (([] : List api_Node))) (Int.toNat i) d_api_Node).kind) : Int) == 7) = true then
                bind (hold_Places_Entry (hold_Places.mk l1) ((List.getD (List.getD b03 (Int.toNat f) (([] : List api_Node))) (Int.toNat i) d_api_Node).arg)) fun v29 =>
                bind (hold_maker_rule l1 l2 l3 b0 b01 b02 b03 (flow_Rule.mk v29 v5 ((-1)) (4294967295#32) (0#32) (0#32))) fun v31 =>
                if (decide ((0 : Int) ≤ ((List.getD (List.getD b03 (Int.toNat f) (([] : List api_Node))) (Int.toNat i) d_api_Node).arg))) = true then
                  if (decide ((((List.getD (List.getD b03 (Int.toNat f) (([] : List api_Node))) (Int.toNat i) d_api_Node).arg) : Int) < (((List.length l2) : Nat) : Int))) = true then
                    bind (hold_Places_Exit (hold_Places.mk l1) ((List.getD (List.getD b03 (Int.toNat f) (([] : List api_Node))) (Int.toNat i) d_api_Node).arg)) fun v35 =>
                    bind (prog_Succ (List.getD (List.getD b03 (Int.toNat f) (([] : List api_Node))) (Int.toNat i) d_api_Node)) fun v37 =>
                    bind (hold_maker_node_l14 l1 l2 v31 v37 b0 b01 b02 b03 0 v5 v35 (~~~(List.getD l2 (Int.toNat ((List.getD (List.getD b03 (Int.toNat f) (([] : List api_Node))) (Int.toNat i) d_api_Node).arg)) (0#32))) (0#32) (0#32) f ((((List.length v37) : Nat) : Int)) 0) fun v39 =>
                    some v39
                  else none
                else none
              else
                if ((((List.getD (List.getD b03 (Int.toNat f) (([] : List api_Node))) (Int.toNat i) d_api_Node).kind) : Int) == 9) = true then
                  bind (hold_Places_Exit (hold_Places.mk l1) f) fun v42 =>
                  bind (hold_maker_rule l1 l2 l3 b0 b01 b02 b03 (flow_Rule.mk v42 v5 ((-1)) (4294967295#32) (0#32) (0#32))) fun v44 =>
                  bind (prog_Succ (List.getD (List.getD b03 (Int.toNat f) (([] : List api_Node))) (Int.toNat i) d_api_Node)) fun v46 =>
                  bind (hold_maker_node_l14 l1 l2 v44 v46 b0 b01 b02 b03 0 v5 ((-1)) (4294967295#32) (0#32) (0#32) f ((((List.length v46) : Nat) : Int)) 0) fun v48 =>
                  some v48
                else
                  bind (prog_Succ (List.getD (List.getD b03 (Int.toNat f) (([] : List api_Node))) (Int.toNat i) d_api_Node)) fun v50 =>
                  bind (hold_maker_node_l14 l1 l2 l3 v50 b0 b01 b02 b03 0 v5 ((-1)) (4294967295#32) (0#32) (0#32) f ((((List.length v50) : Nat) : Int)) 0) fun v52 =>
                  some v52
        else none
      else none
    else none
  else none
theorem hold_maker_node_ok (l1 : List Int) (l2 : List (BitVec 32)) (l3 : List flow_Rule) (b0 : Int) (b01 : Int) (b02 : Int) (b03 : List (List api_Node)) (f : Int) (i : Int) (r : (List flow_Rule)) (h : hold_maker_node l1 l2 l3 b0 b01 b02 b03 f i = some r) : Does Try.prog 45 [.ptr 0 [] 0 0, .pv (.int .i64 f), .pv (.int .i64 i)] [.box 2 [.pv (.int .i64 b0), .pv (.int .i64 b01), .pv (.int .i64 b02), .pv (.seq (List.length b03) (encP e_62 ([] : List api_Node) b03)), .ms 1 [] 0 (List.length l1), .ms 2 [] 0 (List.length l2), .ms 3 [] 0 (List.length l3)], .arr 2 1 (List.length l1) (encW o_i64 0 l1), .arr 2 1 (List.length l2) (encW o_u32 0#32 l2), .arr 2 6 (List.length l3) (encW o_flow_Rule d_flow_Rule l3)] (.tup [], [.box 2 [.pv (.int .i64 b0), .pv (.int .i64 b01), .pv (.int .i64 b02), .pv (.seq (List.length b03) (encP e_62 ([] : List api_Node) b03)), .ms 1 [] 0 (List.length l1), .ms 2 [] 0 (List.length l2), .ms 3 [] 0 (List.length r)], .arr 2 1 (List.length l1) (encW o_i64 0 l1), .arr 2 1 (List.length l2) (encW o_u32 0#32 l2), .arr 0 6 (List.length r) (encW o_flow_Rule d_flow_Rule r)]) := by
 unfold hold_maker_node at h
 obtain ⟨c1, h⟩ := need_of h
 obtain ⟨c2, h⟩ := need_of h
 obtain ⟨c3, h⟩ := need_of h
 obtain ⟨c4, h⟩ := need_of h
 obtain ⟨v5, h6, h⟩ := bind_of h
 rcases if_of h with ⟨c7, h⟩ | ⟨c7, h⟩
 · obtain ⟨v8, h9, h⟩ := bind_of h
   obtain ⟨v10, h11, h⟩ := bind_of h
   obtain ⟨v19, h20, h⟩ := bind_of h
   have h := Option.some.inj h; subst h
   exact pdoes mixed (L := lives) (by kernel_rfl) (pk <| pn c1 <| pn c2 <| pk <| pn c3 <| pn c4 <| pk4 <| pb (whole_ok (List.length l1)) <| pc (hold_Places_Node_ok _ _ _ _ h6) <| pk6 <| pb c7 <| pk <| pc (sets_One_ok _ _ h9) <| pk3 <| pc (prog_Succ_ok _ _ h11) <| pk2 <| pl (hold_maker_node_l14_ok _ _ _ _ _ _ _ _ _ _ _ _ _ _ _ _ _ _ h20) <| pz)
 · rcases if_of h with ⟨c21, h⟩ | ⟨c21, h⟩
   · obtain ⟨v22, h23, h⟩ := bind_of h
     obtain ⟨v24, h25, h⟩ := bind_of h
     obtain ⟨v26, h27, h⟩ := bind_of h
     have h := Option.some.inj h; subst h
     exact pdoes mixed (L := lives) (by kernel_rfl) (pk <| pn c1 <| pn c2 <| pk <| pn c3 <| pn c4 <| pk4 <| pb (whole_ok (List.length l1)) <| pc (hold_Places_Node_ok _ _ _ _ h6) <| pk6 <| pb c7 <| pk <| pb c21 <| pk <| pc (sets_One_ok _ _ h23) <| pk <| pe (eff_int (k := .u32) (un_not .u32 rfl v22)) <| pk2 <| pc (prog_Succ_ok _ _ h25) <| pk2 <| pl (hold_maker_node_l14_ok _ _ _ _ _ _ _ _ _ _ _ _ _ _ _ _ _ _ h27) <| pz)
   · rcases if_of h with ⟨c28, h⟩ | ⟨c28, h⟩
     · obtain ⟨v29, h30, h⟩ := bind_of h
       obtain ⟨v31, h32, h⟩ := bind_of h
       obtain ⟨c33, h⟩ := need_of h
       obtain ⟨c34, h⟩ := need_of h
       obtain ⟨v35, h36, h⟩ := bind_of h
       obtain ⟨v37, h38, h⟩ := bind_of h
       obtain ⟨v39, h40, h⟩ := bind_of h
       have h := Option.some.inj h; subst h
       exact pdoes mixed (L := lives) (by kernel_rfl) (pk <| pn c1 <| pn c2 <| pk <| pn c3 <| pn c4 <| pk4 <| pb (whole_ok (List.length l1)) <| pc (hold_Places_Node_ok _ _ _ _ h6) <| pk6 <| pb c7 <| pk <| pb c21 <| pk <| pb c28 <| pk2 <| pb (whole_ok (List.length l1)) <| pc (hold_Places_Entry_ok _ _ _ h30) <| pk2 <| pc (hold_maker_rule_ok _ _ _ _ _ _ _ _ _ h32) <| pk3 <| pn c33 <| pn c34 <| pk <| pe (eff_int (k := .u32) (un_not .u32 rfl (List.getD l2 (Int.toNat ((List.getD (List.getD b03 (Int.toNat f) (([] : List api_Node))) (Int.toNat i) d_api_Node).arg)) (0#32)))) <| pk2 <| pb (whole_ok (List.length l1)) <| pc (hold_Places_Exit_ok _ _ _ h36) <| pk4 <| pc (prog_Succ_ok _ _ h38) <| pk2 <| pl (hold_maker_node_l14_ok _ _ _ _ _ _ _ _ _ _ _ _ _ _ _ _ _ _ h40) <| pz)
     · rcases if_of h with ⟨c41, h⟩ | ⟨c41, h⟩
       · obtain ⟨v42, h43, h⟩ := bind_of h
         obtain ⟨v44, h45, h⟩ := bind_of h
         obtain ⟨v46, h47, h⟩ := bind_of h
         obtain ⟨v48, h49, h⟩ := bind_of h
         have h := Option.some.inj h; subst h
         exact pdoes mixed (L := lives) (by kernel_rfl) (pk <| pn c1 <| pn c2 <| pk <| pn c3 <| pn c4 <| pk4 <| pb (whole_ok (List.length l1)) <| pc (hold_Places_Node_ok _ _ _ _ h6) <| pk6 <| pb c7 <| pk <| pb c21 <| pk <| pb c28 <| pk <| pb c41 <| pk <| pb (whole_ok (List.length l1)) <| pc (hold_Places_Exit_ok _ _ _ h43) <| pk2 <| pc (hold_maker_rule_ok _ _ _ _ _ _ _ _ _ h45) <| pk2 <| pc (prog_Succ_ok _ _ h47) <| pk2 <| pl (hold_maker_node_l14_ok _ _ _ _ _ _ _ _ _ _ _ _ _ _ _ _ _ _ h49) <| pz)
       · obtain ⟨v50, h51, h⟩ := bind_of h
         obtain ⟨v52, h53, h⟩ := bind_of h
         have h := Option.some.inj h; subst h
         exact pdoes mixed (L := lives) (by kernel_rfl) (pk <| pn c1 <| pn c2 <| pk <| pn c3 <| pn c4 <| pk4 <| pb (whole_ok (List.length l1)) <| pc (hold_Places_Node_ok _ _ _ _ h6) <| pk6 <| pb c7 <| pk <| pb c21 <| pk <| pb c28 <| pk <| pb c41 <| pk <| pc (prog_Succ_ok _ _ h51) <| pk2 <| pl (hold_maker_node_l14_ok _ _ _ _ _ _ _ _ _ _ _ _ _ _ _ _ _ _ h53) <| pz)
noncomputable def hold_Rules_l14_c : Code := sub (codeOf Try.prog 16) [1, 1, 1, 1, 1, 1, 0, 1, 0, 0, 1, 1, 0, 0, 1, 1, 1, 1, 0, 0]
def hold_Rules_l14 (x0 : List Int) (x1 : List (BitVec 32)) (x2 : List flow_Rule) (x3 : Int) (x4 : Int) (x5 : Int) (x6 : List (List api_Node)) (x7 : BitVec 32) (x8 : Int) (x9 : List (List api_Node)) (x10 : Int) (x11 : Int) (x12 : Int) (x13 : Int) : Option ((List flow_Rule)) :=
  if (decide ((x13 : Int) < x12)) = true then
    bind (hold_maker_node x0 x1 x2 x3 x4 x5 x6 x8 x13) fun v27 =>
    hold_Rules_l14 x0 x1 v27 x3 x4 x5 x6 x7 x8 x9 x10 x11 x12 (iAdd x13 1)
  else
    some x2
partial_fixpoint
noncomputable abbrev hold_Rules_l14_s (x0 : List Int) (x1 : List (BitVec 32)) (x2 : List flow_Rule) (x3 : Int) (x4 : Int) (x5 : Int) (x6 : List (List api_Node)) (x7 : BitVec 32) (x8 : Int) (x9 : List (List api_Node)) (x10 : Int) (x11 : Int) (x12 : Int) (x13 : Int) : St := ⟨(List.replicate 6 dead ++ (.ptr 0 [] 0 0 :: .pv (.int .u32 (BitVec.toNat x7 : Nat)) :: .pv (.int .i64 x8) :: (List.replicate 27 dead ++ (.pv (.seq (List.length x9) (encP e_62 ([] : List api_Node) x9)) :: .pv (.int .i64 x10) :: .pv (.int .i64 x11) :: (List.replicate 32 dead ++ (.pv (.int .i64 x12) :: .pv (.int .i64 x13) :: List.replicate 12 dead)))))), [.box 0 [.pv (.int .i64 x3), .pv (.int .i64 x4), .pv (.int .i64 x5), .pv (.seq (List.length x6) (encP e_62 ([] : List api_Node) x6)), .ms 1 [] 0 (List.length x0), .ms 2 [] 0 (List.length x1), .ms 3 [] 0 (List.length x2)], .arr 0 1 (List.length x0) (encW o_i64 0 x0), .arr 0 1 (List.length x1) (encW o_u32 0#32 x1), .arr 0 6 (List.length x2) (encW o_flow_Rule d_flow_Rule x2)]⟩
noncomputable abbrev hold_Rules_l14_e (x0 : List Int) (x1 : List (BitVec 32)) (x2 : List flow_Rule) (x3 : Int) (x4 : Int) (x5 : Int) (x6 : List (List api_Node)) (x7 : BitVec 32) (x8 : Int) (x9 : List (List api_Node)) (x10 : Int) (x11 : Int) (x12 : Int) (x13 : Int) (r : (List flow_Rule)) : St := ⟨(List.replicate 6 dead ++ (.ptr 0 [] 0 0 :: .pv (.int .u32 (BitVec.toNat x7 : Nat)) :: (List.replicate 28 dead ++ (.pv (.seq (List.length x9) (encP e_62 ([] : List api_Node) x9)) :: .pv (.int .i64 x10) :: .pv (.int .i64 x11) :: List.replicate 46 dead)))), [.box 0 [.pv (.int .i64 x3), .pv (.int .i64 x4), .pv (.int .i64 x5), .pv (.seq (List.length x6) (encP e_62 ([] : List api_Node) x6)), .ms 1 [] 0 (List.length x0), .ms 2 [] 0 (List.length x1), .ms 3 [] 0 (List.length r)], .arr 0 1 (List.length x0) (encW o_i64 0 x0), .arr 0 1 (List.length x1) (encW o_u32 0#32 x1), .arr 0 6 (List.length r) (encW o_flow_Rule d_flow_Rule r)]⟩
theorem hold_Rules_l14_ok (x0 : List Int) (x1 : List (BitVec 32)) (x2 : List flow_Rule) (x3 : Int) (x4 : Int) (x5 : Int) (x6 : List (List api_Node)) (x7 : BitVec 32) (x8 : Int) (x9 : List (List api_Node)) (x10 : Int) (x11 : Int) (x12 : Int) (x13 : Int) (r : (List flow_Rule)) (h : hold_Rules_l14 x0 x1 x2 x3 x4 x5 x6 x7 x8 x9 x10 x11 x12 x13 = some r) : Loops Try.prog hold_Rules_l14_c 0 (hold_Rules_l14_s x0 x1 x2 x3 x4 x5 x6 x7 x8 x9 x10 x11 x12 x13) (.exit 2) (hold_Rules_l14_e x0 x1 x2 x3 x4 x5 x6 x7 x8 x9 x10 x11 x12 x13 r) := by
 refine hold_Rules_l14.partial_correctness x0 x1 x3 x4 x5 x6 x7 x8 x9 x10 x11 x12 (fun x2 x13 r => Loops Try.prog hold_Rules_l14_c 0 (hold_Rules_l14_s x0 x1 x2 x3 x4 x5 x6 x7 x8 x9 x10 x11 x12 x13) (.exit 2) (hold_Rules_l14_e x0 x1 x2 x3 x4 x5 x6 x7 x8 x9 x10 x11 x12 x13 r)) ?_ x2 x13 r h
 clear h r x2 x13
 intro self ih x2 x13 r h
 rcases if_of h with ⟨c26, h⟩ | ⟨c26, h⟩
 · obtain ⟨v27, h28, h⟩ := bind_of h
   exact pmore mixed lives 16 (by kernel_rfl) (pk <| pb c26 <| pc (hold_maker_node_ok _ _ _ _ _ _ _ _ _ _ h28) <| pk2 <| pz) (ih v27 (iAdd x13 1) _ h)
 · have h := Option.some.inj h; subst h
   exact plast mixed lives 16 (by kernel_rfl) (pk <| pb c26 <| pz) rfl
noncomputable def hold_Rules_l8_c : Code := sub (codeOf Try.prog 16) [1, 1, 1, 1, 1, 1, 0, 1, 0, 0]
def hold_Rules_l8 (x0 : List Int) (x1 : List (BitVec 32)) (x2 : List flow_Rule) (x3 : Int) (x4 : Int) (x5 : Int) (x6 : List (List api_Node)) (x7 : BitVec 32) (x8 : List (List api_Node)) (x9 : Int) (x10 : Int) : Option ((List flow_Rule)) :=
  if (decide ((x10 : Int) < x9)) = true then
    if (decide ((0 : Int) ≤ x10)) = true then
      if (decide ((x10 : Int) < ((List.length x8 : Nat) : Int))) = true then
        bind (sets_Has x7 x10) fun v13 =>
        if v13 = true then
          bind (hold_Places_Entry (hold_Places.mk x0) x10) fun v16 =>
          bind (hold_maker_rule x0 x1 x2 x3 x4 x5 x6 (flow_Rule.mk v16 ((-1)) ((-1)) (0#32) (0#32) (0#32))) fun v18 =>
          bind (hold_Places_Node (hold_Places.mk x0) x10 0) fun v20 =>
          bind (hold_Places_Entry (hold_Places.mk x0) x10) fun v22 =>
          bind (hold_maker_rule x0 x1 v18 x3 x4 x5 x6 (flow_Rule.mk v20 v22 ((-1)) (4294967295#32) (0#32) (0#32))) fun v24 =>
          bind (hold_Rules_l14 x0 x1 v24 x3 x4 x5 x6 x7 x10 x8 x9 x10 (((List.length (List.getD x8 (Int.toNat x10) (([] : List api_Node))) : Nat) : Int)) 0) fun v29 =>
          hold_Rules_l8 x0 x1 v29 x3 x4 x5 x6 x7 x8 x9 (iAdd x10 1)
        else
          bind (hold_Places_Node (hold_Places.mk x0) x10 0) fun v31 =>
          bind (hold_Places_Entry (hold_Places.mk x0) x10) fun v33 =>
          bind (hold_maker_rule x0 x1 x2 x3 x4 x5 x6 (flow_Rule.mk v31 v33 ((-1)) (4294967295#32) (0#32) (0#32))) fun v35 =>
          bind (hold_Rules_l14 x0 x1 v35 x3 x4 x5 x6 x7 x10 x8 x9 x10 (((List.length (List.getD x8 (Int.toNat x10) (([] : List api_Node))) : Nat) : Int)) 0) fun v37 =>
          hold_Rules_l8 x0 x1 v37 x3 x4 x5 x6 x7 x8 x9 (iAdd x10 1)
      else none
    else none
  else
    some x2
partial_fixpoint
noncomputable abbrev hold_Rules_l8_s (x0 : List Int) (x1 : List (BitVec 32)) (x2 : List flow_Rule) (x3 : Int) (x4 : Int) (x5 : Int) (x6 : List (List api_Node)) (x7 : BitVec 32) (x8 : List (List api_Node)) (x9 : Int) (x10 : Int) : St := ⟨(List.replicate 6 dead ++ (.ptr 0 [] 0 0 :: .pv (.int .u32 (BitVec.toNat x7 : Nat)) :: (List.replicate 28 dead ++ (.pv (.seq (List.length x8) (encP e_62 ([] : List api_Node) x8)) :: .pv (.int .i64 x9) :: .pv (.int .i64 x10) :: List.replicate 46 dead)))), [.box 0 [.pv (.int .i64 x3), .pv (.int .i64 x4), .pv (.int .i64 x5), .pv (.seq (List.length x6) (encP e_62 ([] : List api_Node) x6)), .ms 1 [] 0 (List.length x0), .ms 2 [] 0 (List.length x1), .ms 3 [] 0 (List.length x2)], .arr 0 1 (List.length x0) (encW o_i64 0 x0), .arr 0 1 (List.length x1) (encW o_u32 0#32 x1), .arr 0 6 (List.length x2) (encW o_flow_Rule d_flow_Rule x2)]⟩
noncomputable abbrev hold_Rules_l8_e (x0 : List Int) (x1 : List (BitVec 32)) (x2 : List flow_Rule) (x3 : Int) (x4 : Int) (x5 : Int) (x6 : List (List api_Node)) (x7 : BitVec 32) (x8 : List (List api_Node)) (x9 : Int) (x10 : Int) (r : (List flow_Rule)) : St := ⟨(List.replicate 6 dead ++ (.ptr 0 [] 0 0 :: List.replicate 78 dead)), [.box 0 [.pv (.int .i64 x3), .pv (.int .i64 x4), .pv (.int .i64 x5), .pv (.seq (List.length x6) (encP e_62 ([] : List api_Node) x6)), .ms 1 [] 0 (List.length x0), .ms 2 [] 0 (List.length x1), .ms 3 [] 0 (List.length r)], .arr 0 1 (List.length x0) (encW o_i64 0 x0), .arr 0 1 (List.length x1) (encW o_u32 0#32 x1), .arr 0 6 (List.length r) (encW o_flow_Rule d_flow_Rule r)]⟩
theorem hold_Rules_l8_ok (x0 : List Int) (x1 : List (BitVec 32)) (x2 : List flow_Rule) (x3 : Int) (x4 : Int) (x5 : Int) (x6 : List (List api_Node)) (x7 : BitVec 32) (x8 : List (List api_Node)) (x9 : Int) (x10 : Int) (r : (List flow_Rule)) (h : hold_Rules_l8 x0 x1 x2 x3 x4 x5 x6 x7 x8 x9 x10 = some r) : Loops Try.prog hold_Rules_l8_c 0 (hold_Rules_l8_s x0 x1 x2 x3 x4 x5 x6 x7 x8 x9 x10) (.exit 0) (hold_Rules_l8_e x0 x1 x2 x3 x4 x5 x6 x7 x8 x9 x10 r) := by
 refine hold_Rules_l8.partial_correctness x0 x1 x3 x4 x5 x6 x7 x8 x9 (fun x2 x10 r => Loops Try.prog hold_Rules_l8_c 0 (hold_Rules_l8_s x0 x1 x2 x3 x4 x5 x6 x7 x8 x9 x10) (.exit 0) (hold_Rules_l8_e x0 x1 x2 x3 x4 x5 x6 x7 x8 x9 x10 r)) ?_ x2 x10 r h
 clear h r x2 x10
 intro self ih x2 x10 r h
 rcases if_of h with ⟨c10, h⟩ | ⟨c10, h⟩
 · obtain ⟨c11, h⟩ := need_of h
   obtain ⟨c12, h⟩ := need_of h
   obtain ⟨v13, h14, h⟩ := bind_of h
   rcases if_of h with ⟨c15, h⟩ | ⟨c15, h⟩
   · obtain ⟨v16, h17, h⟩ := bind_of h
     obtain ⟨v18, h19, h⟩ := bind_of h
     obtain ⟨v20, h21, h⟩ := bind_of h
     obtain ⟨v22, h23, h⟩ := bind_of h
     obtain ⟨v24, h25, h⟩ := bind_of h
     obtain ⟨v29, h30, h⟩ := bind_of h
     exact pmore mixed lives 16 (by kernel_rfl) (pk <| pb c10 <| pn c11 <| pn c12 <| pk <| pc (sets_Has_ok _ _ _ h14) <| pk <| pb c15 <| pk <| pb (whole_ok (List.length x0)) <| pc (hold_Places_Entry_ok _ _ _ h17) <| pk2 <| pc (hold_maker_rule_ok _ _ _ _ _ _ _ _ _ h19) <| pk2 <| pb (whole_ok (List.length x0)) <| pc (hold_Places_Node_ok _ _ _ _ h21) <| pk2 <| pb (whole_ok (List.length x0)) <| pc (hold_Places_Entry_ok _ _ _ h23) <| pk2 <| pc (hold_maker_rule_ok _ _ _ _ _ _ _ _ _ h25) <| pk2 <| pl (hold_Rules_l14_ok _ _ _ _ _ _ _ _ _ _ _ _ _ _ _ h30) <| pk <| pz) (ih v29 (iAdd x10 1) _ h)
   · obtain ⟨v31, h32, h⟩ := bind_of h
     obtain ⟨v33, h34, h⟩ := bind_of h
     obtain ⟨v35, h36, h⟩ := bind_of h
     obtain ⟨v37, h38, h⟩ := bind_of h
     exact pmore mixed lives 16 (by kernel_rfl) (pk <| pb c10 <| pn c11 <| pn c12 <| pk <| pc (sets_Has_ok _ _ _ h14) <| pk <| pb c15 <| pk <| pb (whole_ok (List.length x0)) <| pc (hold_Places_Node_ok _ _ _ _ h32) <| pk2 <| pb (whole_ok (List.length x0)) <| pc (hold_Places_Entry_ok _ _ _ h34) <| pk2 <| pc (hold_maker_rule_ok _ _ _ _ _ _ _ _ _ h36) <| pk2 <| pl (hold_Rules_l14_ok _ _ _ _ _ _ _ _ _ _ _ _ _ _ _ h38) <| pk <| pz) (ih v37 (iAdd x10 1) _ h)
 · have h := Option.some.inj h; subst h
   exact plast mixed lives 16 (by kernel_rfl) (pk <| pb c10 <| pz) rfl
/-- alibi/hold.Rules -/
def hold_Rules (p : api_Program) : Option (Int × (List flow_Rule)) :=
  bind (kill_Unlocks p) fun v1 =>
  if ((v1.1 : Int) != 0) = true then
    some (v1.1, ([] : List flow_Rule))
  else
    bind (hold_Lay p) fun v4 =>
    bind (graph_Begun p) fun v6 =>
    bind (sets_One 0) fun v8 =>
    bind (hold_Rules_l8 v4.2 v1.2 (([] : List flow_Rule)) p.globals p.locks p.slots p.funcs (v6 ||| v8) p.funcs (((List.length p.funcs : Nat) : Int)) 0) fun v39 =>
    some (0, v39)
theorem hold_Rules_ok (p : api_Program) (r : Int × (List flow_Rule)) (h : hold_Rules p = some r) : Does Try.prog 16 [.agg [.pv (.int .i64 p.globals), .pv (.int .i64 p.locks), .pv (.int .i64 p.slots), .pv (.seq (List.length p.funcs) (encP e_62 ([] : List api_Node) p.funcs))]] [] (.tup [.ms 0 [] 0 (List.length r.2), .pv (.int .i64 r.1)], [.arr 0 6 (List.length r.2) (encW o_flow_Rule d_flow_Rule r.2)]) := by
 unfold hold_Rules at h
 obtain ⟨v1, h2, h⟩ := bind_of h
 rcases if_of h with ⟨c3, h⟩ | ⟨c3, h⟩
 · have h := Option.some.inj h; subst h
   refine Does.eq (pdoes mixed (L := lives) (r := (.tup [.ms 0 [] 0 (List.length ([] : List flow_Rule)), .pv (.int .i64 v1.1)], [.arr 0 6 (List.length ([] : List flow_Rule)) (encW o_flow_Rule d_flow_Rule (([] : List flow_Rule)))])) (by kernel_rfl) (pk2 <| pc (kill_Unlocks_ok _ _ h2) <| pk2 <| pb c3 <| pz)) ?_
   (first | rfl | (simp only [List.length_set]; done))
 · obtain ⟨v4, h5, h⟩ := bind_of h
   obtain ⟨v6, h7, h⟩ := bind_of h
   obtain ⟨v8, h9, h⟩ := bind_of h
   obtain ⟨v39, h40, h⟩ := bind_of h
   have h := Option.some.inj h; subst h
   exact pdoes mixed (L := lives) (by kernel_rfl) (pk2 <| pc (kill_Unlocks_ok _ _ h2) <| pk2 <| pb c3 <| pk4 <| pc (hold_Lay_ok _ _ h5) <| pk3 <| pc (graph_Begun_ok _ _ h7) <| pk <| pc (sets_One_ok _ _ h9) <| pk <| pe (eff_int (k := .u32) (un_or .u32 rfl v6 v8)) <| pk2 <| pl (Loops.of (s1 := ⟨(List.replicate 6 dead ++ (.ptr 0 [] 0 0 :: .pv (.int .u32 (BitVec.toNat (v6 ||| v8) : Nat)) :: (List.replicate 28 dead ++ (.pv (.seq (List.length p.funcs) (encP e_62 ([] : List api_Node) p.funcs)) :: .pv (.int .i64 (((List.length p.funcs : Nat) : Int))) :: .pv (.int .i64 0) :: List.replicate 46 dead)))), [.box 0 [.pv (.int .i64 p.globals), .pv (.int .i64 p.locks), .pv (.int .i64 p.slots), .pv (.seq (List.length p.funcs) (encP e_62 ([] : List api_Node) p.funcs)), .ms 1 [] 0 (List.length v4.2), .ms 2 [] 0 (List.length v1.2), .ms 3 [] 0 (List.length ([] : List flow_Rule))], .arr 0 1 (List.length v4.2) (encW o_i64 0 v4.2), .arr 0 1 (List.length v1.2) (encW o_u32 0#32 v1.2), .arr 0 6 (List.length ([] : List flow_Rule)) (encW o_flow_Rule d_flow_Rule (([] : List flow_Rule)))]⟩) (hold_Rules_l8_ok _ _ _ _ _ _ _ _ _ _ _ _ h40) (by (first | rfl | (simp only [hold_Rules_l8_s, List.length_set]; done)))) <| pk <| pz)
structure api_Section where
  entry : BitVec 32
  exit : BitVec 32
  held : List (BitVec 32)
  liveEntry : BitVec 32
  liveExit : BitVec 32
  live : List (BitVec 32)

def o_api_Section (x : api_Section) : List AV := [.pv (.int .u32 (BitVec.toNat x.entry : Nat)), .pv (.int .u32 (BitVec.toNat x.exit : Nat)), .own 1 (List.length x.held) (encW o_u32 0#32 x.held), .pv (.int .u32 (BitVec.toNat x.liveEntry : Nat)), .pv (.int .u32 (BitVec.toNat x.liveExit : Nat)), .own 1 (List.length x.live) (encW o_u32 0#32 x.live)]
def d_api_Section : api_Section := ⟨0#32, 0#32, ([] : List (BitVec 32)), 0#32, 0#32, ([] : List (BitVec 32))⟩
/-- alibi/sets.All -/
def sets_All (n1 : Int) : Option ((BitVec 32)) :=
  if (decide ((0 : Int) ≤ (if 0 > (if 32 < n1 then 32 else n1) then 0 else (if 32 < n1 then 32 else n1)))) = true then
    some (BitVec.setWidth 32 (((1#64) <<< (Int.toNat (if 0 > (if 32 < n1 then 32 else n1) then 0 else (if 32 < n1 then 32 else n1)))) - (1#64)))
  else none
theorem sets_All_ok (n1 : Int) (r : (BitVec 32)) (h : sets_All n1 = some r) : Does Try.prog 33 [.pv (.int .i64 n1)] [] (.pv (.int .u32 (BitVec.toNat r : Nat)), []) := by
 unfold sets_All at h
 obtain ⟨c1, h⟩ := need_of h
 have h := Option.some.inj h; subst h
 exact pdoes mixed (L := lives) (by kernel_rfl) (pk2 <| pn c1 <| pe (eff_int (k := .u64) (un_shl .u64 rfl (1#64) (Int.toNat (if 0 > (if 32 < n1 then 32 else n1) then 0 else (if 32 < n1 then 32 else n1))))) <| pe (eff_int (k := .u64) (un_sub .u64 rfl ((1#64) <<< (Int.toNat (if 0 > (if 32 < n1 then 32 else n1) then 0 else (if 32 < n1 then 32 else n1)))) (1#64))) <| pe (eff_int (k := .u32) (un_un .u32 rfl 64 (((1#64) <<< (Int.toNat (if 0 > (if 32 < n1 then 32 else n1) then 0 else (if 32 < n1 then 32 else n1)))) - (1#64)))) <| pz)
def e_flow_Rule (x : flow_Rule) : List PV := [.int .i64 x.to_, .int .i64 x.from_, .int .i64 x.also, .int .u32 (BitVec.toNat x.keep : Nat), .int .u32 (BitVec.toNat x.if_ : Nat), .int .u32 (BitVec.toNat x.then_ : Nat)]
noncomputable def flow_start_l5_c : Code := sub (codeOf Try.prog 50) [1, 1, 1, 0, 1, 0, 0]
def flow_start_l5 (x0 : List (BitVec 32)) (x1 : BitVec 32) (x2 : Int) (x3 : Int) : Option ((List (BitVec 32))) :=
  if (decide ((x3 : Int) < x2)) = true then
    if (decide ((0 : Int) ≤ x3)) = true then
      if (decide ((x3 : Int) < (((List.length x0) : Nat) : Int))) = true then
        flow_start_l5 (List.set x0 (Int.toNat x3) x1) x1 x2 (iAdd x3 1)
      else none
    else none
  else
    some x0
partial_fixpoint
noncomputable abbrev flow_start_l5_s (x0 : List (BitVec 32)) (x1 : BitVec 32) (x2 : Int) (x3 : Int) : St := ⟨dead :: .pv (.int .u32 (BitVec.toNat x1 : Nat)) :: dead :: dead :: dead :: .ms 0 [] 0 (List.length x0) :: (List.replicate 10 dead ++ (.pv (.int .i64 x2) :: .pv (.int .i64 x3) :: List.replicate 8 dead)), [.arr 0 1 (List.length x0) (encW o_u32 0#32 x0)]⟩
noncomputable abbrev flow_start_l5_e (x0 : List (BitVec 32)) (x1 : BitVec 32) (x2 : Int) (x3 : Int) (r : (List (BitVec 32))) : St := ⟨(List.replicate 5 dead ++ (.ms 0 [] 0 (List.length r) :: List.replicate 20 dead)), [.arr 0 1 (List.length r) (encW o_u32 0#32 r)]⟩
theorem flow_start_l5_ok (x0 : List (BitVec 32)) (x1 : BitVec 32) (x2 : Int) (x3 : Int) (r : (List (BitVec 32))) (h : flow_start_l5 x0 x1 x2 x3 = some r) : Loops Try.prog flow_start_l5_c 0 (flow_start_l5_s x0 x1 x2 x3) (.exit 0) (flow_start_l5_e x0 x1 x2 x3 r) := by
 refine flow_start_l5.partial_correctness x1 x2 (fun x0 x3 r => Loops Try.prog flow_start_l5_c 0 (flow_start_l5_s x0 x1 x2 x3) (.exit 0) (flow_start_l5_e x0 x1 x2 x3 r)) ?_ x0 x3 r h
 clear h r x0 x3
 intro self ih x0 x3 r h
 rcases if_of h with ⟨c5, h⟩ | ⟨c5, h⟩
 · obtain ⟨c6, h⟩ := need_of h
   obtain ⟨c7, h⟩ := need_of h
   exact pmore mixed lives 50 (by kernel_rfl) (pk <| pb c5 <| pn c6 <| pn c7 <| pt <| pe (eff_hb (v := dead) (b := 0) (hb := []) (sc := []) (put_top o_u32 (0#32) 0 1 (List.length x0) x0 (Int.toNat x3) 0 [.pv (.int .u32 (BitVec.toNat x1 : Nat))] x1 (by kernel_rfl) (by first | exact Nat.le_refl _ | exact Nat.zero_le _ | (simp only [decide_eq_true_eq, List.length_set, List.length_append, List.length_replicate, List.length_cons, List.length_nil, Nat.zero_add] at * <;> omega)))) <| pk <| pz) (Loops.of (s1 := ⟨dead :: .pv (.int .u32 (BitVec.toNat x1 : Nat)) :: dead :: dead :: dead :: .ms 0 [] 0 (List.length x0) :: (List.replicate 10 dead ++ (.pv (.int .i64 x2) :: .pv (.int .i64 (iAdd x3 1)) :: List.replicate 8 dead)), [.arr 0 1 (List.length x0) (encW o_u32 0#32 (List.set x0 (Int.toNat x3) x1))]⟩) (ih (List.set x0 (Int.toNat x3) x1) (iAdd x3 1) _ h) (by (first | rfl | (simp only [flow_start_l5_s, List.length_set]; done))))
 · have h := Option.some.inj h; subst h
   exact plast mixed lives 50 (by kernel_rfl) (pk <| pb c5 <| pz) rfl
/-- alibi/flow.start -/
def flow_start (n1 : Int) (m : BitVec 32) : Option ((List (BitVec 32))) :=
  if (decide ((n1 : Int) < 0)) = true then
    some (([] : List (BitVec 32)))
  else
    if (decide ((n1 : Int) > 65536)) = true then
      some (([] : List (BitVec 32)))
    else
      if (decide ((0 : Int) ≤ n1)) = true then
        if (decide ((n1 : Int) * ((4 : Nat) : Int) ≤ ((reach : Nat) : Int))) = true then
          bind (flow_start_l5 (List.replicate (Int.toNat n1) (0#32)) m ((((List.length (List.replicate (Int.toNat n1) (0#32))) : Nat) : Int)) 0) fun v8 =>
          some v8
        else none
      else none
theorem flow_start_ok (n1 : Int) (m : BitVec 32) (r : (List (BitVec 32))) (h : flow_start n1 m = some r) : Does Try.prog 50 [.pv (.int .i64 n1), .pv (.int .u32 (BitVec.toNat m : Nat))] [] (.ms 0 [] 0 (List.length r), [.arr 0 1 (List.length r) (encW o_u32 0#32 r)]) := by
 unfold flow_start at h
 rcases if_of h with ⟨c1, h⟩ | ⟨c1, h⟩
 · have h := Option.some.inj h; subst h
   refine Does.eq (pdoes mixed (L := lives) (r := (.ms 0 [] 0 (List.length ([] : List (BitVec 32))), [.arr 0 1 (List.length ([] : List (BitVec 32))) (encW o_u32 0#32 (([] : List (BitVec 32))))])) (by kernel_rfl) (pk <| pb c1 <| pk3 <| pz)) ?_
   (first | rfl | (simp only [List.length_set]; done))
 · rcases if_of h with ⟨c2, h⟩ | ⟨c2, h⟩
   · have h := Option.some.inj h; subst h
     refine Does.eq (pdoes mixed (L := lives) (r := (.ms 0 [] 0 (List.length ([] : List (BitVec 32))), [.arr 0 1 (List.length ([] : List (BitVec 32))) (encW o_u32 0#32 (([] : List (BitVec 32))))])) (by kernel_rfl) (pk <| pb c1 <| pk3 <| pb c2 <| pz)) ?_
     (first | rfl | (simp only [List.length_set]; done))
   · obtain ⟨c3, h⟩ := need_of h
     obtain ⟨c4, h⟩ := need_of h
     obtain ⟨v8, h9, h⟩ := bind_of h
     have h := Option.some.inj h; subst h
     exact pdoes mixed (L := lives) (by kernel_rfl) (pk <| pb c1 <| pk3 <| pb c2 <| pn c3 <| pn ((decide_eq_true rfl) : (decide ((n1 : Int) = n1)) = true) <| pn c4 <| pe (eff_make o_u32 (0#32) 0 1 (Int.toNat n1)) <| pk <| pl (flow_start_l5_ok _ _ _ _ _ h9) <| pz)
def o_42 (x : List Int) : List AV := [.own 1 (List.length x) (encW o_i64 0 x)]
noncomputable def flow_solver_solve_l9_c : Code := sub (codeOf Try.prog 52) [1, 1, 1, 1, 0, 1, 0, 0, 1, 1, 0, 0, 1, 1, 0, 1, 0, 0]
def flow_solver_solve_l9 (x0 : List (BitVec 32)) (x1 : List (List Int)) (x2 : List (List Int)) (x3 : List Int) (x4 : List Bool) (x5 : List flow_Rule) (x6 : List Int) (x7 : List flow_Rule) (x8 : Int) (x9 : Int) (x10 : Int) (x11 : BitVec 32) (x12 : BitVec 32) (x13 : BitVec 32) (x14 : List flow_Rule) (x15 : Int) (x16 : Int) (x17 : Int) (x18 : Int) : Option ((List (List Int))) :=
  if (decide ((x18 : Int) < x17)) = true then
    if (decide ((0 : Int) ≤ x18)) = true then
      if (decide ((x18 : Int) < (((List.length x6) : Nat) : Int))) = true then
        if (decide (((List.getD x6 (Int.toNat x18) 0) : Int) ≥ 0)) = true then
          if (decide (((List.getD x6 (Int.toNat x18) 0) : Int) < ((((List.length x0) : Nat) : Int)))) = true then
            if (decide ((0 : Int) ≤ (List.getD x6 (Int.toNat x18) 0))) = true then
              if (decide (((List.getD x6 (Int.toNat x18) 0) : Int) < (((List.length x2) : Nat) : Int))) = true then
                if (Nat.ble ((List.length (List.getD x2 (Int.toNat (List.getD x6 (Int.toNat x18) 0)) (([] : List Int))) + List.length ([(((List.length x5) : Nat) : Int)])) * 8) reach) = true then
                  flow_solver_solve_l9 x0 x1 (List.set x2 (Int.toNat (List.getD x6 (Int.toNat x18) 0)) (List.getD x2 (Int.toNat (List.getD x6 (Int.toNat x18) 0)) (([] : List Int)) ++ ([(((List.length x5) : Nat) : Int)]))) x3 x4 x5 x6 x7 x8 x9 x10 x11 x12 x13 x14 x15 x16 x17 (iAdd x18 1)
                else none
              else none
            else none
          else
            flow_solver_solve_l9 x0 x1 x2 x3 x4 x5 x6 x7 x8 x9 x10 x11 x12 x13 x14 x15 x16 x17 (iAdd x18 1)
        else
          flow_solver_solve_l9 x0 x1 x2 x3 x4 x5 x6 x7 x8 x9 x10 x11 x12 x13 x14 x15 x16 x17 (iAdd x18 1)
      else none
    else none
  else
    some x2
partial_fixpoint
noncomputable abbrev flow_solver_solve_l9_s (x0 : List (BitVec 32)) (x1 : List (List Int)) (x2 : List (List Int)) (x3 : List Int) (x4 : List Bool) (x5 : List flow_Rule) (x6 : List Int) (x7 : List flow_Rule) (x8 : Int) (x9 : Int) (x10 : Int) (x11 : BitVec 32) (x12 : BitVec 32) (x13 : BitVec 32) (x14 : List flow_Rule) (x15 : Int) (x16 : Int) (x17 : Int) (x18 : Int) : St := ⟨.ptr 0 [] 0 0 :: dead :: dead :: .ptr 4 [] 0 0 :: .ms 7 [] 0 (List.length x5) :: dead :: .ptr 8 [] 0 0 :: (List.replicate 25 dead ++ (.pv (.seq (List.length x14) (encP e_flow_Rule d_flow_Rule x14)) :: .pv (.int .i64 x15) :: .pv (.int .i64 x16) :: (List.replicate 20 dead ++ (.ms 9 [] 0 (List.length x6) :: .pv (.int .i64 x17) :: .pv (.int .i64 x18) :: List.replicate 90 dead)))), [.box 2 [.ms 1 [] 0 (List.length x0), .pv (.seq (List.length x7) (encP e_flow_Rule d_flow_Rule x7)), .ms 3 [] 0 (List.length x2), .pv (.fn 51)], .arr 2 1 (List.length x0) (encW o_u32 0#32 x0), .arr 2 1 (List.length x1) (encW o_42 ([] : List Int) x1), .arr 0 1 (List.length x2) (encW o_42 ([] : List Int) x2), .box 0 [.ms 5 [] 0 (List.length x3), .ms 6 [] 0 (List.length x4)], .arr 0 1 (List.length x3) (encW o_i64 0 x3), .arr 0 1 (List.length x4) (encW o_bool false x4), .arr 0 6 (List.length x5) (encW o_flow_Rule d_flow_Rule x5), .box 0 [.pv (.int .i64 x8), .pv (.int .i64 x9), .pv (.int .i64 x10), .pv (.int .u32 (BitVec.toNat x11 : Nat)), .pv (.int .u32 (BitVec.toNat x12 : Nat)), .pv (.int .u32 (BitVec.toNat x13 : Nat))], .arr 0 1 (List.length x6) (encW o_i64 0 x6)]⟩
noncomputable abbrev flow_solver_solve_l9_e (x0 : List (BitVec 32)) (x1 : List (List Int)) (x2 : List (List Int)) (x3 : List Int) (x4 : List Bool) (x5 : List flow_Rule) (x6 : List Int) (x7 : List flow_Rule) (x8 : Int) (x9 : Int) (x10 : Int) (x11 : BitVec 32) (x12 : BitVec 32) (x13 : BitVec 32) (x14 : List flow_Rule) (x15 : Int) (x16 : Int) (x17 : Int) (x18 : Int) (r : (List (List Int))) : St := ⟨.ptr 0 [] 0 0 :: dead :: dead :: .ptr 4 [] 0 0 :: .ms 7 [] 0 (List.length x5) :: dead :: .ptr 8 [] 0 0 :: (List.replicate 25 dead ++ (.pv (.seq (List.length x14) (encP e_flow_Rule d_flow_Rule x14)) :: .pv (.int .i64 x15) :: .pv (.int .i64 x16) :: List.replicate 113 dead)), [.box 2 [.ms 1 [] 0 (List.length x0), .pv (.seq (List.length x7) (encP e_flow_Rule d_flow_Rule x7)), .ms 3 [] 0 (List.length r), .pv (.fn 51)], .arr 2 1 (List.length x0) (encW o_u32 0#32 x0), .arr 2 1 (List.length x1) (encW o_42 ([] : List Int) x1), .arr 0 1 (List.length r) (encW o_42 ([] : List Int) r), .box 0 [.ms 5 [] 0 (List.length x3), .ms 6 [] 0 (List.length x4)], .arr 0 1 (List.length x3) (encW o_i64 0 x3), .arr 0 1 (List.length x4) (encW o_bool false x4), .arr 0 6 (List.length x5) (encW o_flow_Rule d_flow_Rule x5), .box 0 [.pv (.int .i64 x8), .pv (.int .i64 x9), .pv (.int .i64 x10), .pv (.int .u32 (BitVec.toNat x11 : Nat)), .pv (.int .u32 (BitVec.toNat x12 : Nat)), .pv (.int .u32 (BitVec.toNat x13 : Nat))]]⟩
theorem flow_solver_solve_l9_ok (x0 : List (BitVec 32)) (x1 : List (List Int)) (x2 : List (List Int)) (x3 : List Int) (x4 : List Bool) (x5 : List flow_Rule) (x6 : List Int) (x7 : List flow_Rule) (x8 : Int) (x9 : Int) (x10 : Int) (x11 : BitVec 32) (x12 : BitVec 32) (x13 : BitVec 32) (x14 : List flow_Rule) (x15 : Int) (x16 : Int) (x17 : Int) (x18 : Int) (r : (List (List Int))) (h : flow_solver_solve_l9 x0 x1 x2 x3 x4 x5 x6 x7 x8 x9 x10 x11 x12 x13 x14 x15 x16 x17 x18 = some r) : Loops Try.prog flow_solver_solve_l9_c 3 (flow_solver_solve_l9_s x0 x1 x2 x3 x4 x5 x6 x7 x8 x9 x10 x11 x12 x13 x14 x15 x16 x17 x18) (.exit 2) (flow_solver_solve_l9_e x0 x1 x2 x3 x4 x5 x6 x7 x8 x9 x10 x11 x12 x13 x14 x15 x16 x17 x18 r) := by
 refine flow_solver_solve_l9.partial_correctness x0 x1 x3 x4 x5 x6 x7 x8 x9 x10 x11 x12 x13 x14 x15 x16 x17 (fun x2 x18 r => Loops Try.prog flow_solver_solve_l9_c 3 (flow_solver_solve_l9_s x0 x1 x2 x3 x4 x5 x6 x7 x8 x9 x10 x11 x12 x13 x14 x15 x16 x17 x18) (.exit 2) (flow_solver_solve_l9_e x0 x1 x2 x3 x4 x5 x6 x7 x8 x9 x10 x11 x12 x13 x14 x15 x16 x17 x18 r)) ?_ x2 x18 r h
 clear h r x2 x18
 intro self ih x2 x18 r h
 rcases if_of h with ⟨c9, h⟩ | ⟨c9, h⟩
 · obtain ⟨c10, h⟩ := need_of h
   obtain ⟨c11, h⟩ := need_of h
   rcases if_of h with ⟨c12, h⟩ | ⟨c12, h⟩
   · rcases if_of h with ⟨c13, h⟩ | ⟨c13, h⟩
     · obtain ⟨c14, h⟩ := need_of h
       obtain ⟨c15, h⟩ := need_of h
       obtain ⟨c16, h⟩ := need_of h
       exact pmore mixed lives 52 (by kernel_rfl) (pk <| pb c9 <| pn c10 <| pn c11 <| pk2 <| pb c12 <| pk8 <| pk2 <| pb c13 <| pk2 <| pn c14 <| pn c15 <| pk2 <| pe (eff_lit o_i64 0 10 1 1 ([(((List.length x5) : Nat) : Int)]) rfl [] []) <| pb (whole_ok (List.length ([(((List.length x5) : Nat) : Int)]))) <| pn c16 <| pe (eff_app o_i64 0 (List.getD x2 (Int.toNat (List.getD x6 (Int.toNat x18) 0)) (([] : List Int))) ([(((List.length x5) : Nat) : Int)]) (List.getD x2 (Int.toNat (List.getD x6 (Int.toNat x18) 0)) (([] : List Int)) ++ ([(((List.length x5) : Nat) : Int)])) 11 1 (List.length (List.getD x2 (Int.toNat (List.getD x6 (Int.toNat x18) 0)) (([] : List Int)))) (List.length ([(((List.length x5) : Nat) : Int)])) (fun i => List.map AV.scal (encW o_i64 0 ([(((List.length x5) : Nat) : Int)]) i)) (encW o_i64 0 (List.getD x2 (Int.toNat (List.getD x6 (Int.toNat x18) 0)) (([] : List Int))) (List.length (List.getD x2 (Int.toNat (List.getD x6 (Int.toNat x18) 0)) (([] : List Int))))) [(11, .arr 0 1 (List.length (List.getD x2 (Int.toNat (List.getD x6 (Int.toNat x18) 0)) (([] : List Int)))) (encW o_i64 0 (List.getD x2 (Int.toNat (List.getD x6 (Int.toNat x18) 0)) (([] : List Int))))), (3, .arr 0 1 (List.length x2) (upd (encW o_42 ([] : List Int) x2) (Int.toNat (List.getD x6 (Int.toNat x18) 0)) (List.set (o_42 (List.getD x2 (Int.toNat (List.getD x6 (Int.toNat x18) 0)) (([] : List Int)))) 0 (.pv .bad))))] [] [(3, true), (11, false)] (by first | exact Nat.le_refl _ | exact Nat.zero_le _ | (simp only [decide_eq_true_eq, List.length_set, List.length_append, List.length_replicate, List.length_cons, List.length_nil, Nat.zero_add] at * <;> omega)) rfl (fun _ => by kernel_rfl) (congrArg o_i64 (getD_ge 0 (by first | exact Nat.le_refl _ | exact Nat.zero_le _ | (simp only [decide_eq_true_eq, List.length_set, List.length_append, List.length_replicate, List.length_cons, List.length_nil, Nat.zero_add] at * <;> omega)))) (by rw [List.take_of_length_le (by first | exact Nat.le_refl _ | exact Nat.zero_le _ | (simp only [decide_eq_true_eq, List.length_set, List.length_append, List.length_replicate, List.length_cons, List.length_nil, Nat.zero_add] at * <;> omega))])) <| pn c14 <| pn c15 <| pn ((ble_hole (encW o_42 (([] : List Int)) x2) (Int.toNat (List.getD x6 (Int.toNat x18) 0)) _ (List.set (o_42 (List.getD x2 (Int.toNat (List.getD x6 (Int.toNat x18) 0)) (([] : List Int)))) 0 (.pv .bad)) (by kernel_rfl)) : (Nat.ble (0 + 1) (List.length (upd (encW o_42 (([] : List Int)) x2) (Int.toNat (List.getD x6 (Int.toNat x18) 0)) (List.set (o_42 (List.getD x2 (Int.toNat (List.getD x6 (Int.toNat x18) 0)) (([] : List Int)))) 0 (.pv .bad)) (Int.toNat (List.getD x6 (Int.toNat x18) 0))))) = true) <| pb (whole_ok (List.length (List.getD x2 (Int.toNat (List.getD x6 (Int.toNat x18) 0)) (([] : List Int)) ++ ([(((List.length x5) : Nat) : Int)])))) <| pe (eff_hole o_42 (([] : List Int)) 0 1 (List.length x2) x2 (Int.toNat (List.getD x6 (Int.toNat x18) 0)) 0 (List.set (o_42 (List.getD x2 (Int.toNat (List.getD x6 (Int.toNat x18) 0)) (([] : List Int)))) 0 (.pv .bad)) [.own 1 (List.length (List.getD x2 (Int.toNat (List.getD x6 (Int.toNat x18) 0)) (([] : List Int)) ++ ([(((List.length x5) : Nat) : Int)]))) (encW o_i64 0 (List.getD x2 (Int.toNat (List.getD x6 (Int.toNat x18) 0)) (([] : List Int)) ++ ([(((List.length x5) : Nat) : Int)])))] (List.getD x2 (Int.toNat (List.getD x6 (Int.toNat x18) 0)) (([] : List Int)) ++ ([(((List.length x5) : Nat) : Int)])) 3 1 [(11, .gone)] [(11, false)] (by kernel_rfl) (by kernel_rfl) (by first | exact Nat.le_refl _ | exact Nat.zero_le _ | (simp only [decide_eq_true_eq, List.length_set, List.length_append, List.length_replicate, List.length_cons, List.length_nil, Nat.zero_add] at * <;> omega))) <| pk <| pz) (Loops.of (s1 := ⟨.ptr 0 [] 0 0 :: dead :: dead :: .ptr 4 [] 0 0 :: .ms 7 [] 0 (List.length x5) :: dead :: .ptr 8 [] 0 0 :: (List.replicate 25 dead ++ (.pv (.seq (List.length x14) (encP e_flow_Rule d_flow_Rule x14)) :: .pv (.int .i64 x15) :: .pv (.int .i64 x16) :: (List.replicate 20 dead ++ (.ms 9 [] 0 (List.length x6) :: .pv (.int .i64 x17) :: .pv (.int .i64 (iAdd x18 1)) :: List.replicate 90 dead)))), [.box 2 [.ms 1 [] 0 (List.length x0), .pv (.seq (List.length x7) (encP e_flow_Rule d_flow_Rule x7)), .ms 3 [] 0 (List.length x2), .pv (.fn 51)], .arr 2 1 (List.length x0) (encW o_u32 0#32 x0), .arr 2 1 (List.length x1) (encW o_42 ([] : List Int) x1), .arr 0 1 (List.length x2) (encW o_42 ([] : List Int) (List.set x2 (Int.toNat (List.getD x6 (Int.toNat x18) 0)) (List.getD x2 (Int.toNat (List.getD x6 (Int.toNat x18) 0)) (([] : List Int)) ++ ([(((List.length x5) : Nat) : Int)])))), .box 0 [.ms 5 [] 0 (List.length x3), .ms 6 [] 0 (List.length x4)], .arr 0 1 (List.length x3) (encW o_i64 0 x3), .arr 0 1 (List.length x4) (encW o_bool false x4), .arr 0 6 (List.length x5) (encW o_flow_Rule d_flow_Rule x5), .box 0 [.pv (.int .i64 x8), .pv (.int .i64 x9), .pv (.int .i64 x10), .pv (.int .u32 (BitVec.toNat x11 : Nat)), .pv (.int .u32 (BitVec.toNat x12 : Nat)), .pv (.int .u32 (BitVec.toNat x13 : Nat))], .arr 0 1 (List.length x6) (encW o_i64 0 x6)]⟩) (ih (List.set x2 (Int.toNat (List.getD x6 (Int.toNat x18) 0)) (List.getD x2 (Int.toNat (List.getD x6 (Int.toNat x18) 0)) (([] : List Int)) ++ ([(((List.length x5) : Nat) : Int)]))) (iAdd x18 1) _ h) (by (first | rfl | (simp only [flow_solver_solve_l9_s, List.length_set]; done))))
     · exact pmore mixed lives 52 (by kernel_rfl) (pk <| pb c9 <| pn c10 <| pn c11 <| pk2 <| pb c12 <| pk8 <| pk2 <| pb c13 <| pk <| pz) (ih x2 (iAdd x18 1) _ h)
   · exact pmore mixed lives 52 (by kernel_rfl) (pk <| pb c9 <| pn c10 <| pn c11 <| pk2 <| pb c12 <| pk8 <| pk <| pz) (ih x2 (iAdd x18 1) _ h)
 · have h := Option.some.inj h; subst h
   exact plast mixed lives 52 (by kernel_rfl) (pk <| pb c9 <| pz) rfl
def e_u32 (x : BitVec 32) : List PV := [.int .u32 (BitVec.toNat x : Nat)]
end Go.Bm.GoYtdifolgbppffpaa
