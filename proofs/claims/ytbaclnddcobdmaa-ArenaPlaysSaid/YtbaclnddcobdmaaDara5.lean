/-
  WRITTEN BY mka.py (a program of ours): of each function named below: its formula over data, and that the kernel reckons this very formula out of the function's code.
-/
import Derived.Test.YtbaclnddcobdmaaProg
import Derived.Test.YtbaclnddcobdmaaDaka
namespace Go.Proofs.Ytbaclnddcobdmaa
open Go Go.Gp Go.Ga
set_option linter.unusedVariables false
set_option maxRecDepth 100000
set_option maxHeartbeats 0
def okTDara5 : TypeId → Option AK
  | 158 => some ((.cons (.own (.cons (.one .bool) (.cons (.row (.cons (.row .byte) (.row .byte))) (.cons (.row (.row .byte)) (.cons (.row (.one (.int .i64))) (.one (.int .i64)))))) 75) (.cons (.own (.one .bool) 4) (.own (.one (.int .i64)) 3))))
  | 111 => some ((.cons (.own (.cons (.one .bool) (.cons (.row (.cons (.row .byte) (.row .byte))) (.cons (.row (.row .byte)) (.cons (.row (.one (.int .i64))) (.one (.int .i64)))))) 115) (.cons (.own (.one .bool) 4) (.own (.one (.int .i64)) 3))))
  | _ => none
def sgTDara5 : FuncId → Option Sig
  | _ => none
theorem mixedDara5 : Try.prog.follows .mixedOrders = true := by kernel_rfl
def A22 (a0 : AK.T (.one .any)) (H : HP) (K : HT [(false, .one (.int .i64))] → HP → Prop) : Prop :=
  ((isIfc a0 : Bool) = true) ∧ (ifB (isNilV a0) (K (0, ()) H) (LoopA (V := (Value × Int × Unit) × Unit) ((a0, 1, ()), ()) H fun (x1 : (Value × Int × Unit) × Unit) H2 B3 => ifB (decide (x1.1.2.1 ≤ 11)) (ifcEq Try.prog x1.1.1 (.iface 29 (.int .i64 x1.1.2.1)) fun (b4 : Bool) => ifB b4 (K (x1.1.2.1, ()) H2) (B3 ((x1.1.1, IntKind.i64.wrap (x1.1.2.1 + 1), ()), ()) H2)) (K ((-1), ()) H2)))
theorem eqA22 (a0 : AK.T (.one .any)) (H : HP) (K : HT [(false, .one (.int .i64))] → HP → Prop) : A22 a0 H K = aFn ⟨Try.prog, sgTDara5, okTDara5, [], akT0⟩ ⟨[(0, .one .any), (4, .one .any), (10, .one .any), (12, .one .any)], []⟩ (.seq .n (.seq (.seq .n (.cond (.seq .n .n) .n)) (.seq (.seq .n (.blk (.loop [0, 3] [] (.seq (.seq .n (.cond .n .n)) (.seq (.blk (.seq .n (.cond (.seq .n .n) .n))) .n))))) (.seq .n .n)))) Try.f22 [(false, .one .any)] (a0, ()) [(false, .one (.int .i64))] H K := by kernel_rfl
theorem callA22 (a0 : AK.T (.one .any)) (H : HP) (K : HT [(false, .one (.int .i64))] → HP → Prop) (h : A22 a0 H K) : callA Try.prog 22 [(false, .one .any)] (a0, ()) [(false, .one (.int .i64))] H K :=
  aFn_sound mixedDara5 Try.func22 (Eq.mp (eqA22 a0 H K) h)
abbrev S22 (a0 : AK.T (.one .any)) (r : HT [(false, .one (.int .i64))]) : Prop := PureA Try.prog 22 [(false, .one .any)] (a0, ()) [(false, .one (.int .i64))] r
theorem pure22 (a0 : AK.T (.one .any)) {r : HT [(false, .one (.int .i64))]} (h : ∀ (H : HP) (K : HT [(false, .one (.int .i64))] → HP → Prop), K r H → A22 a0 H K) : S22 a0 r := fun H K hk => callA22 a0 H K (h H K hk)
end Go.Proofs.Ytbaclnddcobdmaa
