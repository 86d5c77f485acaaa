/-
  WRITTEN BY mka.py (a program of ours): of each function named below: its formula over data, and that the kernel reckons this very formula out of the function's code.
-/
import Derived.Test.YtdglfbeddbcbpaaProg
import Derived.Test.YtdglfbeddbcbpaaDak
namespace Go.Proofs.Ytdglfbeddbcbpaa
open Go Go.Gp Go.Ga
set_option linter.unusedVariables false
set_option maxRecDepth 100000
set_option maxHeartbeats 0
def okTDprlaw : TypeId → Option AK
  | 120 => some ((.cons (.own (.cons (.one .bool) (.cons (.row (.cons (.row .byte) (.row .byte))) (.cons (.row (.row .byte)) (.cons (.row (.one (.int .i64))) (.one (.int .i64)))))) 71) (.cons (.own (.one .bool) 4) (.own (.one (.int .i64)) 3))))
  | 57 => some ((.cons .ref (.cons (.one (.int .i64)) (.cons (.one (.int .i64)) (.one (.int .i64))))))
  | 67 => some ((.cons .ref (.cons (.row (.one (.int .i64))) (.cons (.row (.one (.int .i64))) (.cons (.row (.cons (.row .byte) (.row .byte))) (.cons (.one (.int .i64)) (.cons (.one (.int .i64)) (.one .bool))))))))
  | _ => none
def sgTDprlaw : FuncId → Option Sig
  | 17 => some ⟨[(false, .row (.cons (.row .byte) (.row .byte))), (false, .one (.int .i64))], [(false, .one .bool)], 0⟩
  | 20 => some ⟨[(false, .row (.cons (.row .byte) (.row .byte)))], [(false, .row (.cons (.row .byte) (.row .byte)))], 0⟩
  | 24 => some ⟨[(false, .row (.cons (.row .byte) (.row .byte))), (false, .row (.cons (.row .byte) (.row .byte)))], [(false, .one .bool)], 0⟩
  | 25 => some ⟨[(false, .row (.cons (.row .byte) (.row .byte))), (false, .row .byte)], [(false, .row (.cons (.row .byte) (.row .byte)))], 0⟩
  | 28 => some ⟨[(false, .row (.cons (.row .byte) (.row .byte))), (false, .row .byte), (false, .row .byte)], [(false, .row (.cons (.row .byte) (.row .byte)))], 0⟩
  | 31 => some ⟨[(false, .ref), (false, .row .byte), (false, .row .byte)], [(false, .one .bool), (false, .one .any)], 2⟩
  | 32 => some ⟨[(false, .ref), (false, .row .byte)], [(false, .row .byte), (false, .one .bool)], 1⟩
  | 33 => some ⟨[(false, .ref)], [(false, .ref), (false, .one .bool)], 2⟩
  | 34 => some ⟨[(false, .one (.int .i64)), (false, .row (.cons (.row .byte) (.row .byte)))], [(false, .ref)], 2⟩
  | 35 => some ⟨[(false, .ref)], [(false, .one (.int .i64))], 1⟩
  | 37 => some ⟨[(false, .row (.cons (.row .byte) (.row .byte))), (false, .row .byte)], [(false, .row .byte), (false, .one .bool)], 0⟩
  | 38 => some ⟨[(false, .ref)], [(false, .row (.cons (.row .byte) (.row .byte)))], 1⟩
  | 39 => some ⟨[(false, .ref)], [(false, .one (.int .i64))], 1⟩
  | 45 => some ⟨[(true, .cons (.row .byte) (.row .byte)), (false, .row .byte)], [(false, .one .bool)], 0⟩
  | 51 => some ⟨[], [(false, .one .bool)], 0⟩
  | 52 => some ⟨[(false, .ref), (false, .row .byte)], [(false, .one .bool), (false, .one .any)], 2⟩
  | 53 => some ⟨[(false, .ref)], [(false, .one (.int .i64))], 1⟩
  | 54 => some ⟨[(false, .ref), (true, .cons (.row .byte) (.row .byte))], [(false, .one (.int .i64)), (false, .one .any)], 2⟩
  | 55 => some ⟨[(true, .cons (.row .byte) (.row .byte))], [(false, .one .bool)], 0⟩
  | _ => none
theorem mixedDprlaw : Try.prog.follows .mixedOrders = true := by kernel_rfl

/-! garnet/garnetlaw09.up -/
def A51  (H : HP) (K : HT [(false, .one .bool)] → HP → Prop) : Prop :=
  byteA 97 fun (x1 : UInt8) => callA Try.prog 34 [(false, .one (.int .i64)), (false, .row kPR)] (3, [([x1], [])], ()) [(false, .ref)] H fun (x2 : Option Nat × Unit) H3 => ifB (Option.isNone x2.1) (K (false, ()) H3) (byteA 97 fun (x4 : UInt8) => callA Try.prog 52 [(false, .ref), (false, .row .byte)] (x2.1, [x4], ()) [(false, .one .bool), (false, .one .any)] H3 fun (x5 : Bool × Value × Unit) H6 => callA Try.prog 52 [(false, .ref), (false, .row .byte)] (none, [], ()) [(false, .one .bool), (false, .one .any)] H6 fun (x7 : Bool × Value × Unit) H8 => ifB x5.1 (((isIfc x5.2.1 : Bool) = true) ∧ (ifB (isNilV x5.2.1) (ifcEq Try.prog x7.2.1 (.iface 39 (.int .i64 1)) fun (b9 : Bool) => ifB b9 (retH Try.prog 39 [(false, .ref)] (x2.1, ()) [(false, .one (.int .i64))] H8 fun (x10 : Int × Unit) => ifB ((x10.1 : Int) == 1) (refA x2.1 fun i11 => ldO kTR i11 H8 fun (x12 : tTR) => K ((x12.2.2.2 : Int) == 0, ()) H8) (K (false, ()) H8)) (K (false, ()) H8)) (K (false, ()) H8))) (K (false, ()) H8))
theorem eqA51  (H : HP) (K : HT [(false, .one .bool)] → HP → Prop) : A51  H K = aFn ⟨Try.prog, sgTDprlaw, okTDprlaw, [], akT0⟩ ⟨[(3, .one .any), (5, .one .any), (6, .row .byte), (7, .row .byte), (9, .row kPR), (15, .row .byte), (16, .row .byte), (19, .one .any), (23, .one .any), (26, .one .any), (30, .one .any), (31, .one .any)], []⟩ (.seq .n (.seq .n (.seq (.seq .n (.cond (.seq .n .n) .n)) (.seq .n (.seq .n (.seq .n .n)))))) Try.f51 [] (()) [(false, .one .bool)] H K := by kernel_rfl
theorem callA51  (H : HP) (K : HT [(false, .one .bool)] → HP → Prop) (h : A51  H K) : callA Try.prog 51 [] (()) [(false, .one .bool)] H K :=
  aFn_sound mixedDprlaw Try.func51 (Eq.mp (eqA51  H K) h)
abbrev S51  (r : HT [(false, .one .bool)]) : Prop := PureA Try.prog 51 [] (()) [(false, .one .bool)] r
/-! garnet/garnetlaw09.PruneDeletes -/
def A13 (a0 : AK.T (.one (.int .i64))) (a1 : AK.T (.row kPR)) (a2 : AK.T (.row (.cons (.one .bool) kPR))) (H : HP) (K : HT [(false, .one .bool)] → HP → Prop) : Prop :=
  retA Try.prog 51 [] () [(false, .one .bool)] fun (x1 : Bool × Unit) => retA Try.prog 17 [(false, .row kPR), (false, .one (.int .i64))] (a1, 200, ()) [(false, .one .bool)] fun (x2 : Bool × Unit) => callA Try.prog 34 [(false, .one (.int .i64)), (false, .row kPR)] (a0, a1, ()) [(false, .ref)] H fun (x3 : Option Nat × Unit) H4 => ifB (Option.isNone x3.1) (K (x1.1, ()) H4) (ifB (! x2.1) (K (x1.1, ()) H4) (lenA a2.length fun n5 => ifB (decide (n5 > 150)) (K (x1.1, ()) H4) (retA Try.prog 20 [(false, .row kPR)] (a1, ()) [(false, .row kPR)] fun (x6 : (List tPR) × Unit) => LoopA (V := ((List (Bool × List UInt8 × List UInt8)) × Bool × Option Nat × (List tPR) × Int × Unit) × Unit) ((a2, x1.1, x3.1, x6.1, 0, ()), ()) H4 fun (x7 : ((List (Bool × List UInt8 × List UInt8)) × Bool × Option Nat × (List tPR) × Int × Unit) × Unit) H8 B9 => lenA x7.1.1.length fun n10 => ifB (decide (x7.1.2.2.2.2.1 < n10)) (atA x7.1.1 x7.1.2.2.2.2.1 fun (x11 : Bool × List UInt8 × List UInt8) => lenA x11.2.1.length fun n12 => ifB (decide (n12 > 100)) (K (x7.1.2.1, ()) H8) (lenA x11.2.2.length fun n13 => ifB (decide (n13 > 100)) (K (x7.1.2.1, ()) H8) (atA x7.1.1 x7.1.2.2.2.2.1 fun (x14 : Bool × List UInt8 × List UInt8) => ifB x14.1 (callA Try.prog 31 [(false, .ref), (false, .row .byte), (false, .row .byte)] (x7.1.2.2.1, x11.2.1, x11.2.2, ()) [(false, .one .bool), (false, .one .any)] H8 fun (x15 : Bool × Value × Unit) H16 => ((isIfc x15.2.1 : Bool) = true) ∧ (ifB (isNilV x15.2.1) (retA Try.prog 28 [(false, .row kPR), (false, .row .byte), (false, .row .byte)] (x7.1.2.2.2.1, x11.2.1, x11.2.2, ()) [(false, .row kPR)] fun (x17 : (List tPR) × Unit) => B9 ((x7.1.1, x7.1.2.1, x7.1.2.2.1, x17.1, IntKind.i64.wrap (x7.1.2.2.2.2.1 + 1), ()), ()) H16) (B9 ((x7.1.1, x7.1.2.1, x7.1.2.2.1, x7.1.2.2.2.1, IntKind.i64.wrap (x7.1.2.2.2.2.1 + 1), ()), ()) H16))) (retA Try.prog 37 [(false, .row kPR), (false, .row .byte)] (x7.1.2.2.2.1, x11.2.1, ()) [(false, .row .byte), (false, .one .bool)] fun (l18 : List UInt8 × Bool × Unit) => callA Try.prog 52 [(false, .ref), (false, .row .byte)] (x7.1.2.2.1, x11.2.1, ()) [(false, .one .bool), (false, .one .any)] H8 fun (x19 : Bool × Value × Unit) H20 => retA Try.prog 25 [(false, .row kPR), (false, .row .byte)] (x7.1.2.2.2.1, x11.2.1, ()) [(false, .row kPR)] fun (x21 : (List tPR) × Unit) => ((isIfc x19.2.1 : Bool) = true) ∧ (ifB (! (isNilV x19.2.1)) (K (false, ()) H20) (ifB (! ((x19.1 : Bool) == l18.2.1)) (K (false, ()) H20) (((8 : Int) ≠ 0) ∧ (ifB ((Int.tmod x7.1.2.2.2.2.1 8 : Int) == 0) (callA Try.prog 33 [(false, .ref)] (x7.1.2.2.1, ()) [(false, .ref), (false, .one .bool)] H20 fun (x22 : Option Nat × Bool × Unit) H23 => ifB (! x22.2.1) (K (false, ()) H23) (B9 ((x7.1.1, x7.1.2.1, x7.1.2.2.1, x21.1, IntKind.i64.wrap (x7.1.2.2.2.2.1 + 1), ()), ()) H23)) (B9 ((x7.1.1, x7.1.2.1, x7.1.2.2.1, x21.1, IntKind.i64.wrap (x7.1.2.2.2.2.1 + 1), ()), ()) H20))))))))) (callA Try.prog 33 [(false, .ref)] (x7.1.2.2.1, ()) [(false, .ref), (false, .one .bool)] H8 fun (x24 : Option Nat × Bool × Unit) H25 => ifB x7.1.2.1 (ifB x24.2.1 (refA x24.1 fun i26 => ldO kLF i26 H25 fun (x27 : tLK) => retA Try.prog 24 [(false, .row kPR), (false, .row kPR)] (x27.2.2.2.1, x7.1.2.2.2.1, ()) [(false, .one .bool)] fun (x28 : Bool × Unit) => ifB x28.1 (retH Try.prog 38 [(false, .ref)] (x7.1.2.2.1, ()) [(false, .row kPR)] H25 fun (x29 : (List tPR) × Unit) => retA Try.prog 24 [(false, .row kPR), (false, .row kPR)] (x29.1, x7.1.2.2.2.1, ()) [(false, .one .bool)] fun (x30 : Bool × Unit) => K (x30.1, ()) H25) (K (false, ()) H25)) (K (false, ()) H25)) (K (false, ()) H25)))))
theorem eqA13 (a0 : AK.T (.one (.int .i64))) (a1 : AK.T (.row kPR)) (a2 : AK.T (.row (.cons (.one .bool) kPR))) (H : HP) (K : HT [(false, .one .bool)] → HP → Prop) : A13 a0 a1 a2 H K = aFn ⟨Try.prog, sgTDprlaw, okTDprlaw, [], akT0⟩ ⟨[(1, .row kPR), (2, .row (.cons (.one .bool) kPR)), (10, .row kPR), (14, .one .any), (15, .row .byte), (18, .one .any), (24, .row kPR), (27, .row kPR), (36, .row (.cons (.one .bool) kPR)), (41, .row kPR), (42, .row kPR), (44, .row (.cons (.one .bool) kPR)), (49, .row (.cons (.one .bool) kPR)), (55, .row .byte), (60, .row .byte), (65, .row (.cons (.one .bool) kPR)), (73, .row .byte), (75, .row .byte), (78, .one .any), (79, .one .any), (81, .row kPR), (83, .row .byte), (85, .row .byte), (86, .row kPR), (88, .row kPR), (90, .row .byte), (92, .row .byte), (97, .row .byte), (100, .one .any), (101, .row kPR), (103, .row .byte), (104, .row kPR), (105, .one .any), (135, .row kPR), (136, .row kPR), (141, .row kPR), (142, .row kPR)], []⟩ (.seq .n (.seq .n (.seq .n (.seq .n (.seq (.seq .n (.cond (.seq .n .n) .n)) (.seq .n (.seq (.seq .n (.blk (.loop [2, 7, 9, 10, 11] [] (.seq (.seq .n (.cond .n .n)) (.seq (.blk (.seq .n (.seq (.seq .n (.cond (.seq .n .n) .n)) (.seq (.seq .n (.cond (.seq .n (.seq (.seq .n (.cond .n .n)) .n)) .n)) (.seq .n (.seq .n (.seq .n (.seq (.seq .n (.cond (.seq .n .n) .n)) (.seq .n (.cond (.seq .n (.seq .n (.cond (.seq .n .n) .n))) .n)))))))))) .n))))) (.seq .n (.seq .n .n))))))))) Try.f13 [(false, .one (.int .i64)), (false, .row kPR), (false, .row (.cons (.one .bool) kPR))] (a0, a1, a2, ()) [(false, .one .bool)] H K := by kernel_rfl
theorem callA13 (a0 : AK.T (.one (.int .i64))) (a1 : AK.T (.row kPR)) (a2 : AK.T (.row (.cons (.one .bool) kPR))) (H : HP) (K : HT [(false, .one .bool)] → HP → Prop) (h : A13 a0 a1 a2 H K) : callA Try.prog 13 [(false, .one (.int .i64)), (false, .row kPR), (false, .row (.cons (.one .bool) kPR))] (a0, a1, a2, ()) [(false, .one .bool)] H K :=
  aFn_sound mixedDprlaw Try.func13 (Eq.mp (eqA13 a0 a1 a2 H K) h)
/-! garnet/garnetlaw09.PruneClears -/
abbrev S15 (a0 : AK.T (.one (.int .i64))) (a1 : AK.T (.row kPR)) (a2 : AK.T kPR) (r : HT [(false, .one .bool)]) : Prop := PureA Try.prog 15 [(false, .one (.int .i64)), (false, .row kPR), (true, kPR)] (a0, a1, a2, ()) [(false, .one .bool)] r
/-! garnet/garnetlaw09.PruneAll -/
end Go.Proofs.Ytdglfbeddbcbpaa

