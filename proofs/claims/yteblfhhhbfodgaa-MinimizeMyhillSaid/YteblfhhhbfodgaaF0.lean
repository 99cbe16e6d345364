-- Written by wip/sim/simgen.py and simfiles.py (programs of this repo): functions as plain recursions, their equations, their contracts.
import Derived.Test.YteblfhhhbfodgaaSimC
import Derived.Test.YteblfhhhbfodgaaProg
import Derived.KernelRfl
set_option linter.unusedVariables false
set_option maxRecDepth 100000
set_option maxHeartbeats 0
namespace Go.Proofs.Yteblfhhhbfodgaa.Sim
open Go
def tab : List TI := [
  ⟨none, 1, 0, .other⟩,
  ⟨none, 1, 8, .other⟩,
  ⟨some (.int .i64), 1, 8, .prim⟩,
  ⟨some (.int .i64), 1, 8, .prim⟩,
  ⟨some (.bool), 1, 1, .prim⟩,
  ⟨some (.int .u8), 1, 1, .prim⟩,
  ⟨some (.int .u8), 1, 1, .prim⟩,
  ⟨some (.pair (.int .i64) (.pair (.int .i64) (.pair (.bool) (.pair (.int .u8) (.unit))))), 4, 24, .struct [(2, 0), (3, 1), (4, 2), (6, 3)]⟩,
  ⟨some (.pair (.int .i64) (.pair (.int .i64) (.pair (.bool) (.pair (.int .u8) (.unit))))), 4, 24, .struct [(2, 0), (3, 1), (4, 2), (6, 3)]⟩,
  ⟨some (.str), 1, 16, .prim⟩,
  ⟨some (.str), 1, 16, .prim⟩,
  ⟨some (.str), 1, 16, .prim⟩,
  ⟨some (.int .u64), 1, 8, .prim⟩,
  ⟨some (.pair (.str) (.pair (.int .u64) (.unit))), 2, 24, .struct [(9, 0), (12, 1)]⟩,
  ⟨some (.pair (.str) (.pair (.int .u64) (.unit))), 2, 24, .struct [(9, 0), (12, 1)]⟩,
  ⟨none, 1, 8, .other⟩,
  ⟨none, 1, 8, .other⟩,
  ⟨none, 1, 8, .other⟩,
  ⟨none, 1, 8, .struct [(17, 0)]⟩,
  ⟨none, 1, 8, .struct [(17, 0)]⟩,
  ⟨none, 1, 16, .other⟩,
  ⟨some (.int .i32), 1, 4, .prim⟩,
  ⟨some (.slice (.bool)), 1, 24, .slice 4⟩,
  ⟨some (.slice (.slice (.int .i64))), 1, 24, .slice 33⟩,
  ⟨some (.pair (.int .i64) (.pair (.int .i64) (.pair (.slice (.bool)) (.pair (.slice (.slice (.int .i64))) (.unit))))), 4, 64, .struct [(3, 0), (3, 1), (22, 2), (23, 3)]⟩,
  ⟨some (.pair (.int .i64) (.pair (.int .i64) (.pair (.slice (.bool)) (.pair (.slice (.slice (.int .i64))) (.unit))))), 4, 64, .struct [(3, 0), (3, 1), (22, 2), (23, 3)]⟩,
  ⟨none, 1, 8, .other⟩,
  ⟨some (.int .i64), 1, 8, .prim⟩,
  ⟨none, 1, 8, .other⟩,
  ⟨none, 1, 8, .other⟩,
  ⟨none, 1, 8, .other⟩,
  ⟨none, 1, 8, .other⟩,
  ⟨none, 1, 8, .other⟩,
  ⟨some (.slice (.int .i64)), 1, 24, .slice 3⟩,
  ⟨none, 1, 8, .other⟩,
  ⟨none, 1, 8, .other⟩,
  ⟨none, 1, 8, .other⟩,
  ⟨none, 1, 0, .other⟩,
  ⟨none, 1, 8, .other⟩,
  ⟨none, 1, 8, .other⟩,
  ⟨none, 1, 8, .other⟩,
  ⟨none, 1, 0, .other⟩,
  ⟨none, 1, 8, .other⟩,
  ⟨none, 1, 8, .other⟩,
  ⟨none, 1, 8, .other⟩,
  ⟨none, 1, 8, .other⟩,
  ⟨none, 1, 8, .other⟩,
  ⟨none, 1, 8, .other⟩,
  ⟨none, 1, 8, .other⟩,
  ⟨some (.slice (.str)), 1, 24, .slice 9⟩,
  ⟨some (.pair (.slice (.int .i64)) (.pair (.slice (.str)) (.pair (.slice (.str)) (.unit)))), 3, 72, .struct [(33, 0), (49, 1), (49, 2)]⟩,
  ⟨some (.pair (.slice (.int .i64)) (.pair (.slice (.str)) (.pair (.slice (.str)) (.unit)))), 3, 72, .struct [(33, 0), (49, 1), (49, 2)]⟩,
  ⟨none, 1, 8, .other⟩,
  ⟨none, 1, 8, .other⟩,
  ⟨none, 1, 0, .other⟩,
  ⟨none, 1, 8, .other⟩,
  ⟨none, 1, 8, .other⟩,
  ⟨none, 1, 8, .other⟩,
  ⟨none, 1, 8, .other⟩,
  ⟨none, 1, 8, .other⟩,
  ⟨none, 1, 8, .other⟩,
  ⟨none, 1, 0, .other⟩,
  ⟨none, 1, 8, .other⟩,
  ⟨some (.arr 2 (.int .i64)), 2, 16, .array 2 3⟩,
  ⟨some (.slice (.arr 2 (.int .i64))), 1, 24, .slice 63⟩,
  ⟨none, 1, 8, .map 63 4⟩,
  ⟨some (.slice (.int .u8)), 1, 24, .slice 5⟩,
  ⟨none, 1, 0, .other⟩,
  ⟨none, 1, 8, .other⟩,
  ⟨none, 1, 8, .other⟩,
  ⟨none, 1, 8, .other⟩,
  ⟨none, 1, 0, .other⟩,
  ⟨none, 1, 8, .other⟩,
  ⟨none, 1, 8, .map 75 3⟩,
  ⟨some (.arr 7 (.int .i64)), 7, 56, .array 7 3⟩,
  ⟨some (.arr 7 (.int .i64)), 7, 56, .array 7 3⟩,
  ⟨none, 1, 0, .other⟩,
  ⟨none, 1, 8, .map 3 3⟩,
  ⟨some (.pair (.int .i64) (.pair (.int .i64) (.pair (.int .i64) (.unit)))), 3, 24, .struct [(3, 0), (3, 1), (3, 2)]⟩,
  ⟨some (.pair (.int .i64) (.pair (.int .i64) (.pair (.int .i64) (.unit)))), 3, 24, .struct [(3, 0), (3, 1), (3, 2)]⟩,
  ⟨some (.slice (.pair (.int .i64) (.pair (.int .i64) (.pair (.int .i64) (.unit))))), 1, 24, .slice 79⟩,
  ⟨none, 1, 8, .other⟩,
  ⟨none, 1, 8, .other⟩,
  ⟨none, 1, 8, .other⟩,
  ⟨none, 1, 8, .other⟩,
  ⟨none, 4, 40, .struct [(17, 0), (17, 1), (17, 2), (9, 3)]⟩,
  ⟨none, 4, 40, .struct [(17, 0), (17, 1), (17, 2), (9, 3)]⟩,
  ⟨none, 0, 0, .array 0 16⟩,
  ⟨none, 0, 0, .struct [(87, 0)]⟩,
  ⟨none, 0, 0, .struct [(87, 0)]⟩,
  ⟨none, 1, 8, .other⟩,
  ⟨some (.int .u32), 1, 4, .prim⟩,
  ⟨some (.int .u8), 1, 1, .prim⟩,
  ⟨some (.int .u8), 1, 1, .prim⟩,
  ⟨none, 1, 8, .other⟩,
  ⟨none, 1, 8, .other⟩,
  ⟨some (.int .i32), 1, 4, .prim⟩,
  ⟨some (.int .i32), 1, 4, .prim⟩,
  ⟨none, 11, 48, .struct [(12, 0), (12, 1), (91, 2), (92, 3), (5, 4), (5, 5), (93, 6), (94, 7), (95, 8), (96, 9), (97, 10)]⟩,
  ⟨none, 11, 48, .struct [(12, 0), (12, 1), (91, 2), (92, 3), (5, 4), (5, 5), (93, 6), (94, 7), (95, 8), (96, 9), (97, 10)]⟩,
  ⟨none, 1, 8, .other⟩]
theorem tab_ok : TabOk Go.Proofs.Try.prog ⟨tab, [], []⟩ := tab_of (by kernel_rfl)
theorem mixed_ok : Go.Proofs.Try.prog.follows .mixedOrders = true := by kernel_rfl
def dfa_Validate.rs : List (Bool × List RM) := [(false, [.ro (.int .i64)])]
def dfa_Validate.fw (p : RDen dfa_Validate.rs) : Int := p.1.1
noncomputable def dfa_Validate.C (k : Nat) : Cfg := ⟨⟨tab, [], []⟩, [(9, [1, 3, 45, 46, 47], []), (14, [1, 3, 45, 46, 47, 56, 57, 58], []), (19, [1, 3, 45, 46, 47], []), (20, [], [])], k⟩
noncomputable def dfa_Validate.l0 (k n0 : Nat) (v3 : Int) (v45 : List (List Int)) (v46 : Int) (v47 : Int) (o0_0 : Int) (o0_1 : Int) (o0_2 : List Bool) (o0_3 : List (List Int)) : Option (Int) := fromAt (dfa_Validate.C k) Go.Proofs.Try.f20 dfa_Validate.rs dfa_Validate.fw [.r, .r, .r, .l, .r, .b, .iter n0] ⟨mkT 71 [(1, .cv false [.ptr 0 0]), (3, .cv false [.ro (.int .i64) v3]), (45, .cv false [.ro (.slice (.slice (.int .i64))) v45]), (46, .cv false [.ro (.int .i64) v46]), (47, .cv false [.ro (.int .i64) v47])], [], [(0, .box 25 [.ro (.int .i64) o0_0, .ro (.int .i64) o0_1, .ro (.slice (.bool)) o0_2, .ro (.slice (.slice (.int .i64))) o0_3])]⟩
noncomputable def dfa_Validate.l1 (k n0 n1 : Nat) (v3 : Int) (v45 : List (List Int)) (v46 : Int) (v47 : Int) (v56 : List Int) (v57 : Int) (v58 : Int) (o0_0 : Int) (o0_1 : Int) (o0_2 : List Bool) (o0_3 : List (List Int)) : Option (Int) := fromAt (dfa_Validate.C k) Go.Proofs.Try.f20 dfa_Validate.rs dfa_Validate.fw [.r, .r, .r, .l, .r, .b, .loop n0, .r, .r, .l, .b, .r, .r, .r, .b, .iter n1] ⟨mkT 71 [(1, .cv false [.ptr 0 0]), (3, .cv false [.ro (.int .i64) v3]), (45, .cv false [.ro (.slice (.slice (.int .i64))) v45]), (46, .cv false [.ro (.int .i64) v46]), (47, .cv false [.ro (.int .i64) v47]), (56, .cv false [.ro (.slice (.int .i64)) v56]), (57, .cv false [.ro (.int .i64) v57]), (58, .cv false [.ro (.int .i64) v58])], [], [(0, .box 25 [.ro (.int .i64) o0_0, .ro (.int .i64) o0_1, .ro (.slice (.bool)) o0_2, .ro (.slice (.slice (.int .i64))) o0_3])]⟩
noncomputable def dfa_Validate.j0 (k : Nat) : Option (Int) := fromAt (dfa_Validate.C k) Go.Proofs.Try.f20 dfa_Validate.rs dfa_Validate.fw [.r, .r, .r, .r] ⟨mkT 71 [], [], []⟩
noncomputable def dfa_Validate.j1 (k n0 : Nat) (v3 : Int) (v45 : List (List Int)) (v46 : Int) (v47 : Int) (o0_0 : Int) (o0_1 : Int) (o0_2 : List Bool) (o0_3 : List (List Int)) : Option (Int) := fromAt (dfa_Validate.C k) Go.Proofs.Try.f20 dfa_Validate.rs dfa_Validate.fw [.r, .r, .r, .l, .r, .b, .loop n0, .r, .r, .r] ⟨mkT 71 [(1, .cv false [.ptr 0 0]), (3, .cv false [.ro (.int .i64) v3]), (45, .cv false [.ro (.slice (.slice (.int .i64))) v45]), (46, .cv false [.ro (.int .i64) v46]), (47, .cv false [.ro (.int .i64) v47])], [], [(0, .box 25 [.ro (.int .i64) o0_0, .ro (.int .i64) o0_1, .ro (.slice (.bool)) o0_2, .ro (.slice (.slice (.int .i64))) o0_3])]⟩
noncomputable def dfa_Validate.f (k : Nat) (a0_0 : Int) (a0_1 : Int) (a0_2 : List Bool) (a0_3 : List (List Int)) : Option (Int) := fromAt (dfa_Validate.C k) Go.Proofs.Try.f20 dfa_Validate.rs dfa_Validate.fw [] ⟨[.one (.ro (.pair (.int .i64) (.pair (.int .i64) (.pair (.slice (.bool)) (.pair (.slice (.slice (.int .i64))) (.unit))))) (a0_0, (a0_1, (a0_2, (a0_3, ())))))] ++ List.replicate 70 undefTV, [], []⟩
theorem dfa_Validate.l0_zero (k : Nat) (v3 : Int) (v45 : List (List Int)) (v46 : Int) (v47 : Int) (o0_0 : Int) (o0_1 : Int) (o0_2 : List Bool) (o0_3 : List (List Int)) : dfa_Validate.l0 k 0 v3 v45 v46 v47 o0_0 o0_1 o0_2 o0_3 = none := by kernel_rfl
theorem dfa_Validate.l0_succ (k n0 : Nat) (v3 : Int) (v45 : List (List Int)) (v46 : Int) (v47 : Int) (o0_0 : Int) (o0_1 : Int) (o0_2 : List Bool) (o0_3 : List (List Int)) : dfa_Validate.l0 k (n0 + 1) v3 v45 v46 v47 o0_0 o0_1 o0_2 o0_3 =
    (cond (decide (v47 < v46)) (if 0 ≤ v47 then (if v47 < (v45.length : Int) then (cond (((v45.getD v47.toNat ([] : List Int)).length : Int) != o0_0) (some 4) (dfa_Validate.l1 k n0 k v3 v45 v46 v47 (v45.getD v47.toNat ([] : List Int)) ((v45.getD v47.toNat ([] : List Int)).length : Int) 0 o0_0 o0_1 o0_2 o0_3)) else none) else none) (dfa_Validate.j0 k)) := by kernel_rfl
theorem dfa_Validate.l1_zero (k n0 : Nat) (v3 : Int) (v45 : List (List Int)) (v46 : Int) (v47 : Int) (v56 : List Int) (v57 : Int) (v58 : Int) (o0_0 : Int) (o0_1 : Int) (o0_2 : List Bool) (o0_3 : List (List Int)) : dfa_Validate.l1 k n0 0 v3 v45 v46 v47 v56 v57 v58 o0_0 o0_1 o0_2 o0_3 = none := by kernel_rfl
theorem dfa_Validate.l1_succ (k n0 n1 : Nat) (v3 : Int) (v45 : List (List Int)) (v46 : Int) (v47 : Int) (v56 : List Int) (v57 : Int) (v58 : Int) (o0_0 : Int) (o0_1 : Int) (o0_2 : List Bool) (o0_3 : List (List Int)) : dfa_Validate.l1 k n0 (n1 + 1) v3 v45 v46 v47 v56 v57 v58 o0_0 o0_1 o0_2 o0_3 =
    (cond (decide (v58 < v57)) (if 0 ≤ v58 then (if v58 < (v56.length : Int) then (cond (decide ((v56.getD v58.toNat (0 : Int)) < 0)) (some 4) (cond (decide ((v56.getD v58.toNat (0 : Int)) ≥ v3)) (some 4) (dfa_Validate.l1 k n0 n1 v3 v45 v46 v47 v56 v57 (IntKind.i64.wrap (v58 + 1)) o0_0 o0_1 o0_2 o0_3))) else none) else none) (dfa_Validate.j1 k n0 v3 v45 v46 v47 o0_0 o0_1 o0_2 o0_3)) := by kernel_rfl
theorem dfa_Validate.j0_eq (k : Nat) : dfa_Validate.j0 k =
    (some 0) := by kernel_rfl
theorem dfa_Validate.j1_eq (k n0 : Nat) (v3 : Int) (v45 : List (List Int)) (v46 : Int) (v47 : Int) (o0_0 : Int) (o0_1 : Int) (o0_2 : List Bool) (o0_3 : List (List Int)) : dfa_Validate.j1 k n0 v3 v45 v46 v47 o0_0 o0_1 o0_2 o0_3 =
    (dfa_Validate.l0 k n0 v3 v45 v46 (IntKind.i64.wrap (v47 + 1)) o0_0 o0_1 o0_2 o0_3) := by kernel_rfl
theorem dfa_Validate.f_eq (k : Nat) (a0_0 : Int) (a0_1 : Int) (a0_2 : List Bool) (a0_3 : List (List Int)) : dfa_Validate.f k a0_0 a0_1 a0_2 a0_3 =
    (cond (decide (a0_0 < 1)) (some 1) (cond (decide (a0_0 > 6)) (some 1) (cond (decide ((a0_2.length : Int) > 512)) (some 3) (cond ((a0_2.length : Int) == 0) (some 4) (cond ((a0_3.length : Int) != (a0_2.length : Int)) (some 4) (cond (decide (a0_1 < 0)) (some 4) (cond (decide (a0_1 ≥ (a0_2.length : Int))) (some 4) (dfa_Validate.l0 k k (a0_2.length : Int) a0_3 (a0_3.length : Int) 0 a0_0 a0_1 a0_2 a0_3)))))))) := by kernel_rfl
noncomputable def dfa_Validate.ct (k : Nat) : Contract := ⟨[.pair (.int .i64) (.pair (.int .i64) (.pair (.slice (.bool)) (.pair (.slice (.slice (.int .i64))) (.unit))))], dfa_Validate.rs, Int, fun x => dfa_Validate.f k x.1.1 x.1.2.1 x.1.2.2.1 x.1.2.2.2.1, fun r => ((r, ()), ())⟩
theorem dfa_Validate.holds (k : Nat) : Holds Go.Proofs.Try.prog 20 (dfa_Validate.ct k) := holds_of (C := dfa_Validate.C k) (fn := Go.Proofs.Try.f20) (g := dfa_Validate.fw) tab_ok.re (allHold_nil) mixed_ok Go.Proofs.Try.func20 (by kernel_rfl) rfl (fun _ => rfl) (fun _ => by kernel_rfl)
theorem dfa_Validate.more {k k' : Nat} (h : k ≤ k') : CtLe (dfa_Validate.ct k) (dfa_Validate.ct k') := ct_more (C := dfa_Validate.C k) (C' := dfa_Validate.C k') (fn := Go.Proofs.Try.f20) (g := dfa_Validate.fw) ⟨ele_nil, rfl, h⟩ (fun _ => by kernel_rfl) (fun _ => by kernel_rfl)
theorem dfa_Validate.up {k k' : Nat} (h : k ≤ k') (a0_0 : Int) (a0_1 : Int) (a0_2 : List Bool) (a0_3 : List (List Int)) {r : Int} (e : dfa_Validate.f k a0_0 a0_1 a0_2 a0_3 = some r) : dfa_Validate.f k' a0_0 a0_1 a0_2 a0_3 = some r := fromAt_more (C := dfa_Validate.C k) (C' := dfa_Validate.C k') ⟨ele_nil, rfl, h⟩ e

def dfa_search.rs : List (Bool × List RM) := [(false, [.own 3 (.int .i64)]), (false, [.own 3 (.int .i64)]), (false, [.own 3 (.int .i64)]), (false, [.own 3 (.int .i64)])]
def dfa_search.fw (p : RDen dfa_search.rs) : (List Int) × (List Int) × (List Int) × (List Int) := (p.1.1, p.2.1.1, p.2.2.1.1, p.2.2.2.1.1)
noncomputable def dfa_search.C (k : Nat) : Cfg := ⟨⟨tab, [], []⟩, [(3, [1, 5, 15, 16], []), (7, [1, 5], []), (10, [1, 2, 3, 4, 5, 7], []), (11, [1, 2, 3, 4, 5, 7], []), (13, [1, 2, 3, 4, 5, 7, 45, 46, 47], []), (19, [2, 3, 4, 5], [])], k⟩
noncomputable def dfa_search.l0 (k n0 : Nat) (v15 : Int) (v16 : Int) (o0_0 : Int) (o0_1 : Int) (o0_2 : List Bool) (o0_3 : List (List Int)) (o1 : List Int) : Option ((List Int) × (List Int) × (List Int) × (List Int)) := fromAt (dfa_search.C k) Go.Proofs.Try.f42 dfa_search.rs dfa_search.fw [.r, .r, .l, .r, .b, .iter n0] ⟨mkT 79 [(1, .cv false [.ptr 0 0]), (5, .cv false [.own 1 0]), (15, .cv false [.ro (.int .i64) v15]), (16, .cv false [.ro (.int .i64) v16])], [], [(0, .box 25 [.ro (.int .i64) o0_0, .ro (.int .i64) o0_1, .ro (.slice (.bool)) o0_2, .ro (.slice (.slice (.int .i64))) o0_3]), (0, .arr 3 (.int .i64) o1)]⟩
noncomputable def dfa_search.j0 (k : Nat) (o0_0 : Int) (o0_1 : Int) (o0_2 : List Bool) (o0_3 : List (List Int)) (o1 : List Int) : Option ((List Int) × (List Int) × (List Int) × (List Int)) := fromAt (dfa_search.C k) Go.Proofs.Try.f42 dfa_search.rs dfa_search.fw [.r, .r, .r] ⟨mkT 79 [(1, .cv false [.ptr 0 0]), (5, .cv false [.own 1 0])], [], [(0, .box 25 [.ro (.int .i64) o0_0, .ro (.int .i64) o0_1, .ro (.slice (.bool)) o0_2, .ro (.slice (.slice (.int .i64))) o0_3]), (0, .arr 3 (.int .i64) o1)]⟩
noncomputable def dfa_search.l1 (k n0 : Nat) (v7 : Int) (o0_0 : Int) (o0_1 : Int) (o0_2 : List Bool) (o0_3 : List (List Int)) (o1 : List Int) (o2 : List Int) (o3 : List Int) (o4 : List Int) : Option ((List Int) × (List Int) × (List Int) × (List Int)) := fromAt (dfa_search.C k) Go.Proofs.Try.f42 dfa_search.rs dfa_search.fw [.r, .r, .r, .r, .r, .l, .r, .b, .iter n0] ⟨mkT 79 [(1, .cv false [.ptr 0 0]), (2, .cv false [.own 1 0]), (3, .cv false [.own 2 0]), (4, .cv false [.own 3 0]), (5, .cv false [.own 4 0]), (7, .cv false [.ro (.int .i64) v7])], [], [(0, .box 25 [.ro (.int .i64) o0_0, .ro (.int .i64) o0_1, .ro (.slice (.bool)) o0_2, .ro (.slice (.slice (.int .i64))) o0_3]), (0, .arr 3 (.int .i64) o1), (0, .arr 3 (.int .i64) o2), (0, .arr 3 (.int .i64) o3), (0, .arr 3 (.int .i64) o4)]⟩
noncomputable def dfa_search.l2 (k n0 n1 : Nat) (v7 : Int) (v45 : List Int) (v46 : Int) (v47 : Int) (o0_0 : Int) (o0_1 : Int) (o0_2 : List Bool) (o0_3 : List (List Int)) (o1 : List Int) (o2 : List Int) (o3 : List Int) (o4 : List Int) : Option ((List Int) × (List Int) × (List Int) × (List Int)) := fromAt (dfa_search.C k) Go.Proofs.Try.f42 dfa_search.rs dfa_search.fw [.r, .r, .r, .r, .r, .l, .r, .b, .loop n0, .r, .l, .b, .r, .b, .iter n1] ⟨mkT 79 [(1, .cv false [.ptr 0 0]), (2, .cv false [.own 1 0]), (3, .cv false [.own 2 0]), (4, .cv false [.own 3 0]), (5, .cv false [.own 4 0]), (7, .cv false [.ro (.int .i64) v7]), (45, .cv false [.ro (.slice (.int .i64)) v45]), (46, .cv false [.ro (.int .i64) v46]), (47, .cv false [.ro (.int .i64) v47])], [], [(0, .box 25 [.ro (.int .i64) o0_0, .ro (.int .i64) o0_1, .ro (.slice (.bool)) o0_2, .ro (.slice (.slice (.int .i64))) o0_3]), (0, .arr 3 (.int .i64) o1), (0, .arr 3 (.int .i64) o2), (0, .arr 3 (.int .i64) o3), (0, .arr 3 (.int .i64) o4)]⟩
noncomputable def dfa_search.j1 (k : Nat) (o0 : List Int) (o1 : List Int) (o2 : List Int) (o3 : List Int) : Option ((List Int) × (List Int) × (List Int) × (List Int)) := fromAt (dfa_search.C k) Go.Proofs.Try.f42 dfa_search.rs dfa_search.fw [.r, .r, .r, .r, .r, .r] ⟨mkT 79 [(2, .cv false [.own 0 0]), (3, .cv false [.own 1 0]), (4, .cv false [.own 2 0]), (5, .cv false [.own 3 0])], [], [(0, .arr 3 (.int .i64) o0), (0, .arr 3 (.int .i64) o1), (0, .arr 3 (.int .i64) o2), (0, .arr 3 (.int .i64) o3)]⟩
noncomputable def dfa_search.j2 (k n0 : Nat) (v7 : Int) (o0_0 : Int) (o0_1 : Int) (o0_2 : List Bool) (o0_3 : List (List Int)) (o1 : List Int) (o2 : List Int) (o3 : List Int) (o4 : List Int) : Option ((List Int) × (List Int) × (List Int) × (List Int)) := fromAt (dfa_search.C k) Go.Proofs.Try.f42 dfa_search.rs dfa_search.fw [.r, .r, .r, .r, .r, .l, .r, .b, .loop n0, .r, .r] ⟨mkT 79 [(1, .cv false [.ptr 0 0]), (2, .cv false [.own 1 0]), (3, .cv false [.own 2 0]), (4, .cv false [.own 3 0]), (5, .cv false [.own 4 0]), (7, .cv false [.ro (.int .i64) v7])], [], [(0, .box 25 [.ro (.int .i64) o0_0, .ro (.int .i64) o0_1, .ro (.slice (.bool)) o0_2, .ro (.slice (.slice (.int .i64))) o0_3]), (0, .arr 3 (.int .i64) o1), (0, .arr 3 (.int .i64) o2), (0, .arr 3 (.int .i64) o3), (0, .arr 3 (.int .i64) o4)]⟩
noncomputable def dfa_search.f (k : Nat) (a0_0 : Int) (a0_1 : Int) (a0_2 : List Bool) (a0_3 : List (List Int)) : Option ((List Int) × (List Int) × (List Int) × (List Int)) := fromAt (dfa_search.C k) Go.Proofs.Try.f42 dfa_search.rs dfa_search.fw [] ⟨[.one (.ro (.pair (.int .i64) (.pair (.int .i64) (.pair (.slice (.bool)) (.pair (.slice (.slice (.int .i64))) (.unit))))) (a0_0, (a0_1, (a0_2, (a0_3, ())))))] ++ List.replicate 78 undefTV, [], []⟩
theorem dfa_search.l0_zero (k : Nat) (v15 : Int) (v16 : Int) (o0_0 : Int) (o0_1 : Int) (o0_2 : List Bool) (o0_3 : List (List Int)) (o1 : List Int) : dfa_search.l0 k 0 v15 v16 o0_0 o0_1 o0_2 o0_3 o1 = none := by kernel_rfl
theorem dfa_search.l0_succ (k n0 : Nat) (v15 : Int) (v16 : Int) (o0_0 : Int) (o0_1 : Int) (o0_2 : List Bool) (o0_3 : List (List Int)) (o1 : List Int) : dfa_search.l0 k (n0 + 1) v15 v16 o0_0 o0_1 o0_2 o0_3 o1 =
    (cond (decide (v16 < v15)) (if 0 ≤ v16 then (if v16 < (o1.length : Int) then (dfa_search.l0 k n0 v15 (IntKind.i64.wrap (v16 + 1)) o0_0 o0_1 o0_2 o0_3 (o1.set v16.toNat (-1))) else none) else none) (dfa_search.j0 k o0_0 o0_1 o0_2 o0_3 o1)) := by kernel_rfl
theorem dfa_search.j0_eq (k : Nat) (o0_0 : Int) (o0_1 : Int) (o0_2 : List Bool) (o0_3 : List (List Int)) (o1 : List Int) : dfa_search.j0 k o0_0 o0_1 o0_2 o0_3 o1 =
    (if 0 ≤ o0_1 then (if o0_1 < (o1.length : Int) then (dfa_search.l1 k k 0 o0_0 o0_1 o0_2 o0_3 [o0_1] [(-1)] [(-1)] (o1.set o0_1.toNat 0)) else none) else none) := by kernel_rfl
theorem dfa_search.l1_zero (k : Nat) (v7 : Int) (o0_0 : Int) (o0_1 : Int) (o0_2 : List Bool) (o0_3 : List (List Int)) (o1 : List Int) (o2 : List Int) (o3 : List Int) (o4 : List Int) : dfa_search.l1 k 0 v7 o0_0 o0_1 o0_2 o0_3 o1 o2 o3 o4 = none := by kernel_rfl
theorem dfa_search.l1_succ (k n0 : Nat) (v7 : Int) (o0_0 : Int) (o0_1 : Int) (o0_2 : List Bool) (o0_3 : List (List Int)) (o1 : List Int) (o2 : List Int) (o3 : List Int) (o4 : List Int) : dfa_search.l1 k (n0 + 1) v7 o0_0 o0_1 o0_2 o0_3 o1 o2 o3 o4 =
    (cond (decide (v7 < (o1.length : Int))) (if 0 ≤ v7 then (if v7 < (o1.length : Int) then (if 0 ≤ o1.getD v7.toNat (0 : Int) then (if o1.getD v7.toNat (0 : Int) < (o0_3.length : Int) then (dfa_search.l2 k n0 k v7 (o0_3.getD ((o1.getD v7.toNat (0 : Int)).toNat) ([] : List Int)) ((o0_3.getD ((o1.getD v7.toNat (0 : Int)).toNat) ([] : List Int)).length : Int) 0 o0_0 o0_1 o0_2 o0_3 o1 o2 o3 o4) else none) else none) else none) else none) (dfa_search.j1 k o1 o2 o3 o4)) := by kernel_rfl
theorem dfa_search.l2_zero (k n0 : Nat) (v7 : Int) (v45 : List Int) (v46 : Int) (v47 : Int) (o0_0 : Int) (o0_1 : Int) (o0_2 : List Bool) (o0_3 : List (List Int)) (o1 : List Int) (o2 : List Int) (o3 : List Int) (o4 : List Int) : dfa_search.l2 k n0 0 v7 v45 v46 v47 o0_0 o0_1 o0_2 o0_3 o1 o2 o3 o4 = none := by kernel_rfl
theorem dfa_search.l2_succ (k n0 n1 : Nat) (v7 : Int) (v45 : List Int) (v46 : Int) (v47 : Int) (o0_0 : Int) (o0_1 : Int) (o0_2 : List Bool) (o0_3 : List (List Int)) (o1 : List Int) (o2 : List Int) (o3 : List Int) (o4 : List Int) : dfa_search.l2 k n0 (n1 + 1) v7 v45 v46 v47 o0_0 o0_1 o0_2 o0_3 o1 o2 o3 o4 =
    (cond (decide (v47 < v46)) (if 0 ≤ v47 then (if v47 < (v45.length : Int) then (if 0 ≤ v45.getD v47.toNat (0 : Int) then (if v45.getD v47.toNat (0 : Int) < (o4.length : Int) then (cond (decide ((o4.getD ((v45.getD v47.toNat (0 : Int)).toNat) (0 : Int)) < 0)) (if 0 ≤ v45.getD v47.toNat (0 : Int) then (if v45.getD v47.toNat (0 : Int) < (o4.length : Int) then (if (o1.length + [v45.getD v47.toNat (0 : Int)].length) * 8 ≤ 140737488355328 then (if (o2.length + [v7].length) * 8 ≤ 140737488355328 then (if (o3.length + [v47].length) * 8 ≤ 140737488355328 then (dfa_search.l2 k n0 n1 v7 v45 v46 (IntKind.i64.wrap (v47 + 1)) o0_0 o0_1 o0_2 o0_3 (o1 ++ [v45.getD v47.toNat (0 : Int)]) (o2 ++ [v7]) (o3 ++ [v47]) (o4.set ((v45.getD v47.toNat (0 : Int)).toNat) (o1.length : Int))) else none) else none) else none) else none) else none) (dfa_search.l2 k n0 n1 v7 v45 v46 (IntKind.i64.wrap (v47 + 1)) o0_0 o0_1 o0_2 o0_3 o1 o2 o3 o4)) else none) else none) else none) else none) (dfa_search.j2 k n0 v7 o0_0 o0_1 o0_2 o0_3 o1 o2 o3 o4)) := by kernel_rfl
theorem dfa_search.j1_eq (k : Nat) (o0 : List Int) (o1 : List Int) (o2 : List Int) (o3 : List Int) : dfa_search.j1 k o0 o1 o2 o3 =
    (some (o0, o1, o2, o3)) := by kernel_rfl
theorem dfa_search.j2_eq (k n0 : Nat) (v7 : Int) (o0_0 : Int) (o0_1 : Int) (o0_2 : List Bool) (o0_3 : List (List Int)) (o1 : List Int) (o2 : List Int) (o3 : List Int) (o4 : List Int) : dfa_search.j2 k n0 v7 o0_0 o0_1 o0_2 o0_3 o1 o2 o3 o4 =
    (dfa_search.l1 k n0 (IntKind.i64.wrap (v7 + 1)) o0_0 o0_1 o0_2 o0_3 o1 o2 o3 o4) := by kernel_rfl
theorem dfa_search.f_eq (k : Nat) (a0_0 : Int) (a0_1 : Int) (a0_2 : List Bool) (a0_3 : List (List Int)) : dfa_search.f k a0_0 a0_1 a0_2 a0_3 =
    (if 0 ≤ (a0_2.length : Int) then (if (a0_2.length : Int) ≤ (a0_2.length : Int) then (if (a0_2.length : Int) * 8 ≤ 140737488355328 then (dfa_search.l0 k k ((List.replicate (a0_2.length : Int).toNat (0 : Int)).length : Int) 0 a0_0 a0_1 a0_2 a0_3 (List.replicate (a0_2.length : Int).toNat (0 : Int))) else none) else none) else none) := by kernel_rfl
noncomputable def dfa_search.ct (k : Nat) : Contract := ⟨[.pair (.int .i64) (.pair (.int .i64) (.pair (.slice (.bool)) (.pair (.slice (.slice (.int .i64))) (.unit))))], dfa_search.rs, (List Int) × (List Int) × (List Int) × (List Int), fun x => dfa_search.f k x.1.1 x.1.2.1 x.1.2.2.1 x.1.2.2.2.1, fun r => ((r.1, ()), ((r.2.1, ()), ((r.2.2.1, ()), ((r.2.2.2, ()), ()))))⟩
theorem dfa_search.holds (k : Nat) : Holds Go.Proofs.Try.prog 42 (dfa_search.ct k) := holds_of (C := dfa_search.C k) (fn := Go.Proofs.Try.f42) (g := dfa_search.fw) tab_ok.re (allHold_nil) mixed_ok Go.Proofs.Try.func42 (by kernel_rfl) rfl (fun _ => rfl) (fun _ => by kernel_rfl)
theorem dfa_search.more {k k' : Nat} (h : k ≤ k') : CtLe (dfa_search.ct k) (dfa_search.ct k') := ct_more (C := dfa_search.C k) (C' := dfa_search.C k') (fn := Go.Proofs.Try.f42) (g := dfa_search.fw) ⟨ele_nil, rfl, h⟩ (fun _ => by kernel_rfl) (fun _ => by kernel_rfl)
theorem dfa_search.up {k k' : Nat} (h : k ≤ k') (a0_0 : Int) (a0_1 : Int) (a0_2 : List Bool) (a0_3 : List (List Int)) {r : (List Int) × (List Int) × (List Int) × (List Int)} (e : dfa_search.f k a0_0 a0_1 a0_2 a0_3 = some r) : dfa_search.f k' a0_0 a0_1 a0_2 a0_3 = some r := fromAt_more (C := dfa_search.C k) (C' := dfa_search.C k') ⟨ele_nil, rfl, h⟩ e

def dfa_Trim.rs : List (Bool × List RM) := [(true, [.ro (.int .i64), .ro (.int .i64), .own 4 (.bool), .own 33 (.slice (.int .i64))]), (false, [.own 3 (.int .i64)])]
def dfa_Trim.fw (p : RDen dfa_Trim.rs) : (Int × Int × (List Bool) × (List (List Int))) × (List Int) := ((p.1.1, p.1.2.1, p.1.2.2.1, p.1.2.2.2.1), p.2.1.1)
noncomputable def dfa_Trim.C (k : Nat) : Cfg := ⟨⟨tab, [(20, dfa_Validate.ct k), (42, dfa_search.ct k)], []⟩, [(6, [1, 2, 7, 8, 27, 28, 29], []), (10, [1, 2, 7, 8, 10, 11, 27, 28, 29, 37, 38], []), (14, [1, 2, 7, 8, 10, 11, 27, 28, 29], []), (16, [1, 2, 7, 8, 27, 28, 29], []), (17, [2, 7, 8], [])], k⟩
noncomputable def dfa_Trim.l0 (k n0 : Nat) (v28 : Int) (v29 : Int) (o0_0 : Int) (o0_1 : Int) (o0_2 : List Bool) (o0_3 : List (List Int)) (o1_0 : Int) (o1_1 : Int) (o2 : List Int) (o3_0 : Int) (o3_1 : Int) (o4 : List Int) (o5 : List Bool) (o6 : List (List Int)) (o7 : List Bool) (o8 : List (List Int)) : Option ((Int × Int × (List Bool) × (List (List Int))) × (List Int)) := fromAt (dfa_Trim.C k) Go.Proofs.Try.f24 dfa_Trim.rs dfa_Trim.fw [.r, .r, .r, .r, .l, .r, .b, .iter n0] ⟨mkT 75 [(1, .cv false [.ptr 0 0]), (2, .cv false [.ptr 1 0]), (7, .cv false [.own 2 0]), (8, .cv false [.ptr 3 0]), (27, .cv false [.own 4 0]), (28, .cv false [.ro (.int .i64) v28]), (29, .cv false [.ro (.int .i64) v29])], [], [(0, .box 25 [.ro (.int .i64) o0_0, .ro (.int .i64) o0_1, .ro (.slice (.bool)) o0_2, .ro (.slice (.slice (.int .i64))) o0_3]), (0, .box 25 [.ro (.int .i64) o1_0, .ro (.int .i64) o1_1, .own 5 0, .own 6 0]), (0, .arr 3 (.int .i64) o2), (0, .box 25 [.ro (.int .i64) o3_0, .ro (.int .i64) o3_1, .own 7 0, .own 8 0]), (0, .arr 3 (.int .i64) o4), (0, .arr 4 (.bool) o5), (0, .arr 33 (.slice (.int .i64)) o6), (0, .arr 4 (.bool) o7), (0, .arr 33 (.slice (.int .i64)) o8)]⟩
noncomputable def dfa_Trim.l1 (k n0 n1 : Nat) (v10 : Int) (v28 : Int) (v29 : Int) (v37 : Int) (v38 : Int) (o0_0 : Int) (o0_1 : Int) (o0_2 : List Bool) (o0_3 : List (List Int)) (o1_0 : Int) (o1_1 : Int) (o2 : List Int) (o3_0 : Int) (o3_1 : Int) (o4 : List Int) (o5 : List Int) (o6 : List Bool) (o7 : List (List Int)) (o8 : List Bool) (o9 : List (List Int)) : Option ((Int × Int × (List Bool) × (List (List Int))) × (List Int)) := fromAt (dfa_Trim.C k) Go.Proofs.Try.f24 dfa_Trim.rs dfa_Trim.fw [.r, .r, .r, .r, .l, .r, .b, .loop n0, .r, .r, .l, .b, .r, .r, .l, .r, .b, .iter n1] ⟨mkT 75 [(1, .cv false [.ptr 0 0]), (2, .cv false [.ptr 1 0]), (7, .cv false [.own 2 0]), (8, .cv false [.ptr 3 0]), (10, .cv false [.ro (.int .i64) v10]), (11, .cv false [.own 4 0]), (27, .cv false [.own 5 0]), (28, .cv false [.ro (.int .i64) v28]), (29, .cv false [.ro (.int .i64) v29]), (37, .cv false [.ro (.int .i64) v37]), (38, .cv false [.ro (.int .i64) v38])], [], [(0, .box 25 [.ro (.int .i64) o0_0, .ro (.int .i64) o0_1, .ro (.slice (.bool)) o0_2, .ro (.slice (.slice (.int .i64))) o0_3]), (0, .box 25 [.ro (.int .i64) o1_0, .ro (.int .i64) o1_1, .own 6 0, .own 7 0]), (0, .arr 3 (.int .i64) o2), (0, .box 25 [.ro (.int .i64) o3_0, .ro (.int .i64) o3_1, .own 8 0, .own 9 0]), (0, .arr 3 (.int .i64) o4), (0, .arr 3 (.int .i64) o5), (0, .arr 4 (.bool) o6), (0, .arr 33 (.slice (.int .i64)) o7), (0, .arr 4 (.bool) o8), (0, .arr 33 (.slice (.int .i64)) o9)]⟩
noncomputable def dfa_Trim.j0 (k : Nat) (o0_0 : Int) (o0_1 : Int) (o1 : List Int) (o2_0 : Int) (o2_1 : Int) (o3 : List Bool) (o4 : List (List Int)) (o5 : List Bool) (o6 : List (List Int)) : Option ((Int × Int × (List Bool) × (List (List Int))) × (List Int)) := fromAt (dfa_Trim.C k) Go.Proofs.Try.f24 dfa_Trim.rs dfa_Trim.fw [.r, .r, .r, .r, .r] ⟨mkT 75 [(2, .cv false [.ptr 0 0]), (7, .cv false [.own 1 0]), (8, .cv false [.ptr 2 0])], [], [(0, .box 25 [.ro (.int .i64) o0_0, .ro (.int .i64) o0_1, .own 3 0, .own 4 0]), (0, .arr 3 (.int .i64) o1), (0, .box 25 [.ro (.int .i64) o2_0, .ro (.int .i64) o2_1, .own 5 0, .own 6 0]), (0, .arr 4 (.bool) o3), (0, .arr 33 (.slice (.int .i64)) o4), (0, .arr 4 (.bool) o5), (0, .arr 33 (.slice (.int .i64)) o6)]⟩
noncomputable def dfa_Trim.j1 (k n0 : Nat) (v10 : Int) (v28 : Int) (v29 : Int) (o0_0 : Int) (o0_1 : Int) (o0_2 : List Bool) (o0_3 : List (List Int)) (o1_0 : Int) (o1_1 : Int) (o2 : List Int) (o3_0 : Int) (o3_1 : Int) (o4 : List Int) (o5 : List Int) (o6 : List Bool) (o7 : List (List Int)) (o8 : List Bool) (o9 : List (List Int)) : Option ((Int × Int × (List Bool) × (List (List Int))) × (List Int)) := fromAt (dfa_Trim.C k) Go.Proofs.Try.f24 dfa_Trim.rs dfa_Trim.fw [.r, .r, .r, .r, .l, .r, .b, .loop n0, .r, .r, .l, .b, .r, .r, .r] ⟨mkT 75 [(1, .cv false [.ptr 0 0]), (2, .cv false [.ptr 1 0]), (7, .cv false [.own 2 0]), (8, .cv false [.ptr 3 0]), (10, .cv false [.ro (.int .i64) v10]), (11, .cv false [.own 4 0]), (27, .cv false [.own 5 0]), (28, .cv false [.ro (.int .i64) v28]), (29, .cv false [.ro (.int .i64) v29])], [], [(0, .box 25 [.ro (.int .i64) o0_0, .ro (.int .i64) o0_1, .ro (.slice (.bool)) o0_2, .ro (.slice (.slice (.int .i64))) o0_3]), (0, .box 25 [.ro (.int .i64) o1_0, .ro (.int .i64) o1_1, .own 6 0, .own 7 0]), (0, .arr 3 (.int .i64) o2), (0, .box 25 [.ro (.int .i64) o3_0, .ro (.int .i64) o3_1, .own 8 0, .own 9 0]), (0, .arr 3 (.int .i64) o4), (0, .arr 3 (.int .i64) o5), (0, .arr 4 (.bool) o6), (0, .arr 33 (.slice (.int .i64)) o7), (0, .arr 4 (.bool) o8), (0, .arr 33 (.slice (.int .i64)) o9)]⟩
noncomputable def dfa_Trim.j2 (k n0 : Nat) (v28 : Int) (v29 : Int) (o0_0 : Int) (o0_1 : Int) (o0_2 : List Bool) (o0_3 : List (List Int)) (o1_0 : Int) (o1_1 : Int) (o2 : List Int) (o3_0 : Int) (o3_1 : Int) (o4 : List Int) (o5 : List Bool) (o6 : List (List Int)) (o7 : List Bool) (o8 : List (List Int)) : Option ((Int × Int × (List Bool) × (List (List Int))) × (List Int)) := fromAt (dfa_Trim.C k) Go.Proofs.Try.f24 dfa_Trim.rs dfa_Trim.fw [.r, .r, .r, .r, .l, .r, .b, .loop n0, .r, .r, .r] ⟨mkT 75 [(1, .cv false [.ptr 0 0]), (2, .cv false [.ptr 1 0]), (7, .cv false [.own 2 0]), (8, .cv false [.ptr 3 0]), (27, .cv false [.own 4 0]), (28, .cv false [.ro (.int .i64) v28]), (29, .cv false [.ro (.int .i64) v29])], [], [(0, .box 25 [.ro (.int .i64) o0_0, .ro (.int .i64) o0_1, .ro (.slice (.bool)) o0_2, .ro (.slice (.slice (.int .i64))) o0_3]), (0, .box 25 [.ro (.int .i64) o1_0, .ro (.int .i64) o1_1, .own 5 0, .own 6 0]), (0, .arr 3 (.int .i64) o2), (0, .box 25 [.ro (.int .i64) o3_0, .ro (.int .i64) o3_1, .own 7 0, .own 8 0]), (0, .arr 3 (.int .i64) o4), (0, .arr 4 (.bool) o5), (0, .arr 33 (.slice (.int .i64)) o6), (0, .arr 4 (.bool) o7), (0, .arr 33 (.slice (.int .i64)) o8)]⟩
noncomputable def dfa_Trim.f (k : Nat) (a0_0 : Int) (a0_1 : Int) (a0_2 : List Bool) (a0_3 : List (List Int)) : Option ((Int × Int × (List Bool) × (List (List Int))) × (List Int)) := fromAt (dfa_Trim.C k) Go.Proofs.Try.f24 dfa_Trim.rs dfa_Trim.fw [] ⟨[.one (.ro (.pair (.int .i64) (.pair (.int .i64) (.pair (.slice (.bool)) (.pair (.slice (.slice (.int .i64))) (.unit))))) (a0_0, (a0_1, (a0_2, (a0_3, ())))))] ++ List.replicate 74 undefTV, [], []⟩
theorem dfa_Trim.l0_zero (k : Nat) (v28 : Int) (v29 : Int) (o0_0 : Int) (o0_1 : Int) (o0_2 : List Bool) (o0_3 : List (List Int)) (o1_0 : Int) (o1_1 : Int) (o2 : List Int) (o3_0 : Int) (o3_1 : Int) (o4 : List Int) (o5 : List Bool) (o6 : List (List Int)) (o7 : List Bool) (o8 : List (List Int)) : dfa_Trim.l0 k 0 v28 v29 o0_0 o0_1 o0_2 o0_3 o1_0 o1_1 o2 o3_0 o3_1 o4 o5 o6 o7 o8 = none := by kernel_rfl
theorem dfa_Trim.l0_succ (k n0 : Nat) (v28 : Int) (v29 : Int) (o0_0 : Int) (o0_1 : Int) (o0_2 : List Bool) (o0_3 : List (List Int)) (o1_0 : Int) (o1_1 : Int) (o2 : List Int) (o3_0 : Int) (o3_1 : Int) (o4 : List Int) (o5 : List Bool) (o6 : List (List Int)) (o7 : List Bool) (o8 : List (List Int)) : dfa_Trim.l0 k (n0 + 1) v28 v29 o0_0 o0_1 o0_2 o0_3 o1_0 o1_1 o2 o3_0 o3_1 o4 o5 o6 o7 o8 =
    (cond (decide (v29 < v28)) (if 0 ≤ v29 then (if v29 < (o4.length : Int) then (if 0 ≤ o0_0 then (if o0_0 ≤ o0_0 then (if o0_0 * 8 ≤ 140737488355328 then (dfa_Trim.l1 k n0 k (o4.getD v29.toNat (0 : Int)) v28 v29 ((List.replicate o0_0.toNat (0 : Int)).length : Int) 0 o0_0 o0_1 o0_2 o0_3 o1_0 o1_1 o2 o3_0 o3_1 (List.replicate o0_0.toNat (0 : Int)) o4 o5 o6 o7 o8) else none) else none) else none) else none) else none) (dfa_Trim.j0 k o1_0 o1_1 o2 o3_0 o3_1 o5 o6 o7 o8)) := by kernel_rfl
theorem dfa_Trim.l1_zero (k n0 : Nat) (v10 : Int) (v28 : Int) (v29 : Int) (v37 : Int) (v38 : Int) (o0_0 : Int) (o0_1 : Int) (o0_2 : List Bool) (o0_3 : List (List Int)) (o1_0 : Int) (o1_1 : Int) (o2 : List Int) (o3_0 : Int) (o3_1 : Int) (o4 : List Int) (o5 : List Int) (o6 : List Bool) (o7 : List (List Int)) (o8 : List Bool) (o9 : List (List Int)) : dfa_Trim.l1 k n0 0 v10 v28 v29 v37 v38 o0_0 o0_1 o0_2 o0_3 o1_0 o1_1 o2 o3_0 o3_1 o4 o5 o6 o7 o8 o9 = none := by kernel_rfl
theorem dfa_Trim.l1_succ (k n0 n1 : Nat) (v10 : Int) (v28 : Int) (v29 : Int) (v37 : Int) (v38 : Int) (o0_0 : Int) (o0_1 : Int) (o0_2 : List Bool) (o0_3 : List (List Int)) (o1_0 : Int) (o1_1 : Int) (o2 : List Int) (o3_0 : Int) (o3_1 : Int) (o4 : List Int) (o5 : List Int) (o6 : List Bool) (o7 : List (List Int)) (o8 : List Bool) (o9 : List (List Int)) : dfa_Trim.l1 k n0 (n1 + 1) v10 v28 v29 v37 v38 o0_0 o0_1 o0_2 o0_3 o1_0 o1_1 o2 o3_0 o3_1 o4 o5 o6 o7 o8 o9 =
    (cond (decide (v38 < v37)) (if 0 ≤ v10 then (if v10 < (o0_3.length : Int) then (if 0 ≤ v38 then (if v38 < ((o0_3.getD v10.toNat ([] : List Int)).length : Int) then (if 0 ≤ (o0_3.getD v10.toNat ([] : List Int)).getD v38.toNat (0 : Int) then (if (o0_3.getD v10.toNat ([] : List Int)).getD v38.toNat (0 : Int) < (o2.length : Int) then (if 0 ≤ v38 then (if v38 < (o4.length : Int) then (dfa_Trim.l1 k n0 n1 v10 v28 v29 v37 (IntKind.i64.wrap (v38 + 1)) o0_0 o0_1 o0_2 o0_3 o1_0 o1_1 o2 o3_0 o3_1 (o4.set v38.toNat (o2.getD (((o0_3.getD v10.toNat ([] : List Int)).getD v38.toNat (0 : Int)).toNat) (0 : Int))) o5 o6 o7 o8 o9) else none) else none) else none) else none) else none) else none) else none) else none) (dfa_Trim.j1 k n0 v10 v28 v29 o0_0 o0_1 o0_2 o0_3 o1_0 o1_1 o2 o3_0 o3_1 o4 o5 o6 o7 o8 o9)) := by kernel_rfl
theorem dfa_Trim.j0_eq (k : Nat) (o0_0 : Int) (o0_1 : Int) (o1 : List Int) (o2_0 : Int) (o2_1 : Int) (o3 : List Bool) (o4 : List (List Int)) (o5 : List Bool) (o6 : List (List Int)) : dfa_Trim.j0 k o0_0 o0_1 o1 o2_0 o2_1 o3 o4 o5 o6 =
    (some ((o2_0, o2_1, o5, o6), o1)) := by kernel_rfl
theorem dfa_Trim.j1_eq (k n0 : Nat) (v10 : Int) (v28 : Int) (v29 : Int) (o0_0 : Int) (o0_1 : Int) (o0_2 : List Bool) (o0_3 : List (List Int)) (o1_0 : Int) (o1_1 : Int) (o2 : List Int) (o3_0 : Int) (o3_1 : Int) (o4 : List Int) (o5 : List Int) (o6 : List Bool) (o7 : List (List Int)) (o8 : List Bool) (o9 : List (List Int)) : dfa_Trim.j1 k n0 v10 v28 v29 o0_0 o0_1 o0_2 o0_3 o1_0 o1_1 o2 o3_0 o3_1 o4 o5 o6 o7 o8 o9 =
    (if 0 ≤ v10 then (if v10 < (o0_2.length : Int) then (if (o8.length + [o0_2.getD v10.toNat false].length) * 1 ≤ 140737488355328 then (if (o9.length + [o4].length) * 24 ≤ 140737488355328 then (dfa_Trim.j2 k n0 v28 v29 o0_0 o0_1 o0_2 o0_3 o1_0 o1_1 o2 o3_0 o3_1 o5 o6 o7 (o8 ++ [o0_2.getD v10.toNat false]) (o9 ++ [o4])) else none) else none) else none) else none) := by kernel_rfl
theorem dfa_Trim.j2_eq (k n0 : Nat) (v28 : Int) (v29 : Int) (o0_0 : Int) (o0_1 : Int) (o0_2 : List Bool) (o0_3 : List (List Int)) (o1_0 : Int) (o1_1 : Int) (o2 : List Int) (o3_0 : Int) (o3_1 : Int) (o4 : List Int) (o5 : List Bool) (o6 : List (List Int)) (o7 : List Bool) (o8 : List (List Int)) : dfa_Trim.j2 k n0 v28 v29 o0_0 o0_1 o0_2 o0_3 o1_0 o1_1 o2 o3_0 o3_1 o4 o5 o6 o7 o8 =
    (dfa_Trim.l0 k n0 v28 (IntKind.i64.wrap (v29 + 1)) o0_0 o0_1 o0_2 o0_3 o1_0 o1_1 o2 o3_0 o3_1 o4 o5 o6 o7 o8) := by kernel_rfl
theorem dfa_Trim.f_eq (k : Nat) (a0_0 : Int) (a0_1 : Int) (a0_2 : List Bool) (a0_3 : List (List Int)) : dfa_Trim.f k a0_0 a0_1 a0_2 a0_3 =
    ((dfa_Validate.f k a0_0 a0_1 a0_2 a0_3).bind fun r1 => cond (r1 != 0) (some (((0 : Int), (0 : Int), ([] : List Bool), ([] : List (List Int))), ([] : List Int))) ((dfa_search.f k a0_0 a0_1 a0_2 a0_3).bind fun r2 => dfa_Trim.l0 k k (r2.1.length : Int) 0 a0_0 a0_1 a0_2 a0_3 (0 : Int) (0 : Int) r2.2.2.2 a0_0 (0 : Int) r2.1 ([] : List Bool) ([] : List (List Int)) ([] : List Bool) ([] : List (List Int)))) := by kernel_rfl
noncomputable def dfa_Trim.ct (k : Nat) : Contract := ⟨[.pair (.int .i64) (.pair (.int .i64) (.pair (.slice (.bool)) (.pair (.slice (.slice (.int .i64))) (.unit))))], dfa_Trim.rs, (Int × Int × (List Bool) × (List (List Int))) × (List Int), fun x => dfa_Trim.f k x.1.1 x.1.2.1 x.1.2.2.1 x.1.2.2.2.1, fun r => ((r.1.1, (r.1.2.1, (r.1.2.2.1, (r.1.2.2.2, ())))), ((r.2, ()), ()))⟩
theorem dfa_Trim.holds (k : Nat) : Holds Go.Proofs.Try.prog 24 (dfa_Trim.ct k) := holds_of (C := dfa_Trim.C k) (fn := Go.Proofs.Try.f24) (g := dfa_Trim.fw) tab_ok.re (allHold_cons (dfa_Validate.holds k) (allHold_cons (dfa_search.holds k) (allHold_nil))) mixed_ok Go.Proofs.Try.func24 (by kernel_rfl) rfl (fun _ => rfl) (fun _ => by kernel_rfl)
theorem dfa_Trim.more {k k' : Nat} (h : k ≤ k') : CtLe (dfa_Trim.ct k) (dfa_Trim.ct k') := ct_more (C := dfa_Trim.C k) (C' := dfa_Trim.C k') (fn := Go.Proofs.Try.f24) (g := dfa_Trim.fw) ⟨ele_cons (dfa_Validate.more h) (ele_cons (dfa_search.more h) (ele_nil)), rfl, h⟩ (fun _ => by kernel_rfl) (fun _ => by kernel_rfl)
theorem dfa_Trim.up {k k' : Nat} (h : k ≤ k') (a0_0 : Int) (a0_1 : Int) (a0_2 : List Bool) (a0_3 : List (List Int)) {r : (Int × Int × (List Bool) × (List (List Int))) × (List Int)} (e : dfa_Trim.f k a0_0 a0_1 a0_2 a0_3 = some r) : dfa_Trim.f k' a0_0 a0_1 a0_2 a0_3 = some r := fromAt_more (C := dfa_Trim.C k) (C' := dfa_Trim.C k') ⟨ele_cons (dfa_Validate.more h) (ele_cons (dfa_search.more h) (ele_nil)), rfl, h⟩ e

def partition_Canonical.rs : List (Bool × List RM) := [(false, [.own 3 (.int .i64)])]
def partition_Canonical.fw (p : RDen partition_Canonical.rs) : List Int := p.1.1
noncomputable def partition_Canonical.C (k : Nat) : Cfg := ⟨⟨tab, [], []⟩, [(6, [3, 4, 16, 17, 18], []), (12, [3, 4, 5, 7, 16, 17, 18], []), (14, [4], [])], k⟩
noncomputable def partition_Canonical.l0 (k n0 : Nat) (v16 : List Int) (v17 : Int) (v18 : Int) (o0 : List (Int × Int)) (o1 : List Int) : Option (List Int) := fromAt (partition_Canonical.C k) Go.Proofs.Try.f46 partition_Canonical.rs partition_Canonical.fw [.r, .r, .r, .r, .l, .r, .b, .iter n0] ⟨mkT 42 [(3, .cv false [.mp 0]), (4, .cv false [.own 1 0]), (16, .cv false [.ro (.slice (.int .i64)) v16]), (17, .cv false [.ro (.int .i64) v17]), (18, .cv false [.ro (.int .i64) v18])], [], [(0, .map 77 (.int .i64) (.int .i64) o0), (0, .arr 3 (.int .i64) o1)]⟩
noncomputable def partition_Canonical.j0 (k n0 : Nat) (v5 : Int) (v7 : Int) (v16 : List Int) (v17 : Int) (v18 : Int) (o0 : List (Int × Int)) (o1 : List Int) : Option (List Int) := fromAt (partition_Canonical.C k) Go.Proofs.Try.f46 partition_Canonical.rs partition_Canonical.fw [.r, .r, .r, .r, .l, .r, .b, .loop n0, .r, .r, .l, .b, .r, .r, .r] ⟨mkT 42 [(3, .cv false [.mp 0]), (4, .cv false [.own 1 0]), (5, .cv false [.ro (.int .i64) v5]), (7, .cv false [.ro (.int .i64) v7]), (16, .cv false [.ro (.slice (.int .i64)) v16]), (17, .cv false [.ro (.int .i64) v17]), (18, .cv false [.ro (.int .i64) v18])], [], [(0, .map 77 (.int .i64) (.int .i64) o0), (0, .arr 3 (.int .i64) o1)]⟩
noncomputable def partition_Canonical.j1 (k : Nat) (o0 : List Int) : Option (List Int) := fromAt (partition_Canonical.C k) Go.Proofs.Try.f46 partition_Canonical.rs partition_Canonical.fw [.r, .r, .r, .r, .r] ⟨mkT 42 [(4, .cv false [.own 0 0])], [], [(0, .arr 3 (.int .i64) o0)]⟩
noncomputable def partition_Canonical.f (k : Nat) (a0 : List Int) : Option (List Int) := fromAt (partition_Canonical.C k) Go.Proofs.Try.f46 partition_Canonical.rs partition_Canonical.fw [] ⟨[.one (.ro (.slice (.int .i64)) a0)] ++ List.replicate 41 undefTV, [], []⟩
theorem partition_Canonical.l0_zero (k : Nat) (v16 : List Int) (v17 : Int) (v18 : Int) (o0 : List (Int × Int)) (o1 : List Int) : partition_Canonical.l0 k 0 v16 v17 v18 o0 o1 = none := by kernel_rfl
theorem partition_Canonical.l0_succ (k n0 : Nat) (v16 : List Int) (v17 : Int) (v18 : Int) (o0 : List (Int × Int)) (o1 : List Int) : partition_Canonical.l0 k (n0 + 1) v16 v17 v18 o0 o1 =
    (cond (decide (v18 < v17)) (if 0 ≤ v18 then (if v18 < (v16.length : Int) then (cond (!((mget o0 (v16.getD v18.toNat (0 : Int))).isSome)) (partition_Canonical.j0 k n0 v18 (o0.length : Int) v16 v17 v18 (mput o0 (v16.getD v18.toNat (0 : Int)) (o0.length : Int)) o1) (partition_Canonical.j0 k n0 v18 ((mget o0 (v16.getD v18.toNat (0 : Int))).getD (0 : Int)) v16 v17 v18 o0 o1)) else none) else none) (partition_Canonical.j1 k o1)) := by kernel_rfl
theorem partition_Canonical.j0_eq (k n0 : Nat) (v5 : Int) (v7 : Int) (v16 : List Int) (v17 : Int) (v18 : Int) (o0 : List (Int × Int)) (o1 : List Int) : partition_Canonical.j0 k n0 v5 v7 v16 v17 v18 o0 o1 =
    (if 0 ≤ v5 then (if v5 < (o1.length : Int) then (partition_Canonical.l0 k n0 v16 v17 (IntKind.i64.wrap (v18 + 1)) o0 (o1.set v5.toNat v7)) else none) else none) := by kernel_rfl
theorem partition_Canonical.j1_eq (k : Nat) (o0 : List Int) : partition_Canonical.j1 k o0 =
    (some o0) := by kernel_rfl
theorem partition_Canonical.f_eq (k : Nat) (a0 : List Int) : partition_Canonical.f k a0 =
    (cond (decide ((a0.length : Int) > 4096)) (some ([] : List Int)) (if 0 ≤ (a0.length : Int) then (if (a0.length : Int) ≤ (a0.length : Int) then (if (a0.length : Int) * 8 ≤ 140737488355328 then (partition_Canonical.l0 k k a0 (a0.length : Int) 0 [] (List.replicate (a0.length : Int).toNat (0 : Int))) else none) else none) else none)) := by kernel_rfl
noncomputable def partition_Canonical.ct (k : Nat) : Contract := ⟨[.slice (.int .i64)], partition_Canonical.rs, List Int, fun x => partition_Canonical.f k x.1, fun r => ((r, ()), ())⟩
theorem partition_Canonical.holds (k : Nat) : Holds Go.Proofs.Try.prog 46 (partition_Canonical.ct k) := holds_of (C := partition_Canonical.C k) (fn := Go.Proofs.Try.f46) (g := partition_Canonical.fw) tab_ok.re (allHold_nil) mixed_ok Go.Proofs.Try.func46 (by kernel_rfl) rfl (fun _ => rfl) (fun _ => by kernel_rfl)
theorem partition_Canonical.more {k k' : Nat} (h : k ≤ k') : CtLe (partition_Canonical.ct k) (partition_Canonical.ct k') := ct_more (C := partition_Canonical.C k) (C' := partition_Canonical.C k') (fn := Go.Proofs.Try.f46) (g := partition_Canonical.fw) ⟨ele_nil, rfl, h⟩ (fun _ => by kernel_rfl) (fun _ => by kernel_rfl)
theorem partition_Canonical.up {k k' : Nat} (h : k ≤ k') (a0 : List Int) {r : List Int} (e : partition_Canonical.f k a0 = some r) : partition_Canonical.f k' a0 = some r := fromAt_more (C := partition_Canonical.C k) (C' := partition_Canonical.C k') ⟨ele_nil, rfl, h⟩ e

def partition_Valid.rs : List (Bool × List RM) := [(false, [.ro (.bool)])]
def partition_Valid.fw (p : RDen partition_Valid.rs) : Bool := p.1.1
noncomputable def partition_Valid.C (k : Nat) : Cfg := ⟨⟨tab, [], []⟩, [(5, [3, 9, 10, 11], []), (12, [], [])], k⟩
noncomputable def partition_Valid.l0 (k n0 : Nat) (v3 : Int) (v9 : List Int) (v10 : Int) (v11 : Int) : Option (Bool) := fromAt (partition_Valid.C k) Go.Proofs.Try.f54 partition_Valid.rs partition_Valid.fw [.r, .r, .r, .l, .r, .b, .iter n0] ⟨mkT 28 [(3, .cv false [.ro (.int .i64) v3]), (9, .cv false [.ro (.slice (.int .i64)) v9]), (10, .cv false [.ro (.int .i64) v10]), (11, .cv false [.ro (.int .i64) v11])], [], []⟩
noncomputable def partition_Valid.j0 (k : Nat) : Option (Bool) := fromAt (partition_Valid.C k) Go.Proofs.Try.f54 partition_Valid.rs partition_Valid.fw [.r, .r, .r, .r] ⟨mkT 28 [], [], []⟩
noncomputable def partition_Valid.f (k : Nat) (a0 : List Int) : Option (Bool) := fromAt (partition_Valid.C k) Go.Proofs.Try.f54 partition_Valid.rs partition_Valid.fw [] ⟨[.one (.ro (.slice (.int .i64)) a0)] ++ List.replicate 27 undefTV, [], []⟩
theorem partition_Valid.l0_zero (k : Nat) (v3 : Int) (v9 : List Int) (v10 : Int) (v11 : Int) : partition_Valid.l0 k 0 v3 v9 v10 v11 = none := by kernel_rfl
theorem partition_Valid.l0_succ (k n0 : Nat) (v3 : Int) (v9 : List Int) (v10 : Int) (v11 : Int) : partition_Valid.l0 k (n0 + 1) v3 v9 v10 v11 =
    (cond (decide (v11 < v10)) (if 0 ≤ v11 then (if v11 < (v9.length : Int) then (cond (decide ((v9.getD v11.toNat (0 : Int)) < 0)) (some false) (cond (decide ((v9.getD v11.toNat (0 : Int)) > v3)) (some false) (cond ((v9.getD v11.toNat (0 : Int)) == v3) (partition_Valid.l0 k n0 (IntKind.i64.wrap (v3 + 1)) v9 v10 (IntKind.i64.wrap (v11 + 1))) (partition_Valid.l0 k n0 v3 v9 v10 (IntKind.i64.wrap (v11 + 1)))))) else none) else none) (partition_Valid.j0 k)) := by kernel_rfl
theorem partition_Valid.j0_eq (k : Nat) : partition_Valid.j0 k =
    (some true) := by kernel_rfl
theorem partition_Valid.f_eq (k : Nat) (a0 : List Int) : partition_Valid.f k a0 =
    (cond (decide ((a0.length : Int) > 4096)) (some false) (partition_Valid.l0 k k 0 a0 (a0.length : Int) 0)) := by kernel_rfl
noncomputable def partition_Valid.ct (k : Nat) : Contract := ⟨[.slice (.int .i64)], partition_Valid.rs, Bool, fun x => partition_Valid.f k x.1, fun r => ((r, ()), ())⟩
theorem partition_Valid.holds (k : Nat) : Holds Go.Proofs.Try.prog 54 (partition_Valid.ct k) := holds_of (C := partition_Valid.C k) (fn := Go.Proofs.Try.f54) (g := partition_Valid.fw) tab_ok.re (allHold_nil) mixed_ok Go.Proofs.Try.func54 (by kernel_rfl) rfl (fun _ => rfl) (fun _ => by kernel_rfl)
theorem partition_Valid.more {k k' : Nat} (h : k ≤ k') : CtLe (partition_Valid.ct k) (partition_Valid.ct k') := ct_more (C := partition_Valid.C k) (C' := partition_Valid.C k') (fn := Go.Proofs.Try.f54) (g := partition_Valid.fw) ⟨ele_nil, rfl, h⟩ (fun _ => by kernel_rfl) (fun _ => by kernel_rfl)
theorem partition_Valid.up {k k' : Nat} (h : k ≤ k') (a0 : List Int) {r : Bool} (e : partition_Valid.f k a0 = some r) : partition_Valid.f k' a0 = some r := fromAt_more (C := partition_Valid.C k) (C' := partition_Valid.C k') ⟨ele_nil, rfl, h⟩ e

def partition_Count.rs : List (Bool × List RM) := [(false, [.ro (.int .i64)])]
def partition_Count.fw (p : RDen partition_Count.rs) : Int := p.1.1
noncomputable def partition_Count.C (k : Nat) : Cfg := ⟨⟨tab, [(54, partition_Valid.ct k)], []⟩, [(5, [3, 9, 10, 11], []), (9, [3], [])], k⟩
noncomputable def partition_Count.l0 (k n0 : Nat) (v3 : Int) (v9 : List Int) (v10 : Int) (v11 : Int) : Option (Int) := fromAt (partition_Count.C k) Go.Proofs.Try.f50 partition_Count.rs partition_Count.fw [.r, .r, .r, .l, .r, .b, .iter n0] ⟨mkT 21 [(3, .cv false [.ro (.int .i64) v3]), (9, .cv false [.ro (.slice (.int .i64)) v9]), (10, .cv false [.ro (.int .i64) v10]), (11, .cv false [.ro (.int .i64) v11])], [], []⟩
noncomputable def partition_Count.j0 (k : Nat) (v3 : Int) : Option (Int) := fromAt (partition_Count.C k) Go.Proofs.Try.f50 partition_Count.rs partition_Count.fw [.r, .r, .r, .r] ⟨mkT 21 [(3, .cv false [.ro (.int .i64) v3])], [], []⟩
noncomputable def partition_Count.f (k : Nat) (a0 : List Int) : Option (Int) := fromAt (partition_Count.C k) Go.Proofs.Try.f50 partition_Count.rs partition_Count.fw [] ⟨[.one (.ro (.slice (.int .i64)) a0)] ++ List.replicate 20 undefTV, [], []⟩
theorem partition_Count.l0_zero (k : Nat) (v3 : Int) (v9 : List Int) (v10 : Int) (v11 : Int) : partition_Count.l0 k 0 v3 v9 v10 v11 = none := by kernel_rfl
theorem partition_Count.l0_succ (k n0 : Nat) (v3 : Int) (v9 : List Int) (v10 : Int) (v11 : Int) : partition_Count.l0 k (n0 + 1) v3 v9 v10 v11 =
    (cond (decide (v11 < v10)) (if 0 ≤ v11 then (if v11 < (v9.length : Int) then (partition_Count.l0 k n0 (if IntKind.i64.wrap ((v9.getD v11.toNat (0 : Int)) + 1) > v3 then IntKind.i64.wrap ((v9.getD v11.toNat (0 : Int)) + 1) else v3) v9 v10 (IntKind.i64.wrap (v11 + 1))) else none) else none) (partition_Count.j0 k v3)) := by kernel_rfl
theorem partition_Count.j0_eq (k : Nat) (v3 : Int) : partition_Count.j0 k v3 =
    (some v3) := by kernel_rfl
theorem partition_Count.f_eq (k : Nat) (a0 : List Int) : partition_Count.f k a0 =
    ((partition_Valid.f k a0).bind fun r1 => cond (!r1) (some 0) (partition_Count.l0 k k 0 a0 (a0.length : Int) 0)) := by kernel_rfl
noncomputable def partition_Count.ct (k : Nat) : Contract := ⟨[.slice (.int .i64)], partition_Count.rs, Int, fun x => partition_Count.f k x.1, fun r => ((r, ()), ())⟩
theorem partition_Count.holds (k : Nat) : Holds Go.Proofs.Try.prog 50 (partition_Count.ct k) := holds_of (C := partition_Count.C k) (fn := Go.Proofs.Try.f50) (g := partition_Count.fw) tab_ok.re (allHold_cons (partition_Valid.holds k) (allHold_nil)) mixed_ok Go.Proofs.Try.func50 (by kernel_rfl) rfl (fun _ => rfl) (fun _ => by kernel_rfl)
theorem partition_Count.more {k k' : Nat} (h : k ≤ k') : CtLe (partition_Count.ct k) (partition_Count.ct k') := ct_more (C := partition_Count.C k) (C' := partition_Count.C k') (fn := Go.Proofs.Try.f50) (g := partition_Count.fw) ⟨ele_cons (partition_Valid.more h) (ele_nil), rfl, h⟩ (fun _ => by kernel_rfl) (fun _ => by kernel_rfl)
theorem partition_Count.up {k k' : Nat} (h : k ≤ k') (a0 : List Int) {r : Int} (e : partition_Count.f k a0 = some r) : partition_Count.f k' a0 = some r := fromAt_more (C := partition_Count.C k) (C' := partition_Count.C k') ⟨ele_cons (partition_Valid.more h) (ele_nil), rfl, h⟩ e

end Go.Proofs.Yteblfhhhbfodgaa.Sim
