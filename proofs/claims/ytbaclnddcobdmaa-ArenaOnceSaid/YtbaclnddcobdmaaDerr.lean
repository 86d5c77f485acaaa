/-
  WRITTEN BY dec.py (a program of ours): of each function named below: its formula, and that the kernel reckons this very formula out of the function's code.
-/
import Derived.Test.YtbaclnddcobdmaaProg
import Derived.Test.YtbaclnddcobdmaaGk4
namespace Go.Proofs.Ytbaclnddcobdmaa
open Go Go.Gp
set_option linter.unusedVariables false
set_option maxRecDepth 100000
theorem mixedDerr : Try.prog.follows .mixedOrders = true := by kernel_rfl
/-! garnet/garnetlaw00.Code -/
def G22 (a0 : Value) (W : World) (K : Int × Unit → World → Prop) : Prop :=
  (isIfc a0 = true) ∧ (ifB (isNilV a0) (K (0, ()) W) (LoopG (V := Value × Int × Unit) (a0, 1, ()) W fun v1 W C3 => ∀ j2 : Nat → Value, ifB (decide ((v1.2.1 : Int) ≤ 11)) (ifcEq Try.prog v1.1 (.iface 29 (.int .i64 v1.2.1)) fun b4 => ifB b4 (K (v1.2.1, ()) W) (C3 (v1.1, IntKind.i64.wrap (v1.2.1 + 1), ()) W)) (K ((-1), ()) W)))
theorem eq22 (a0 : Value) (W : World) (K : Int × Unit → World → Prop) : G22 a0 W K = cFn Try.prog (.seq .n (.seq (.seq .n (.cond (.seq .n .n) .n)) (.seq (.seq .n (.blk (.loop 15 [(0, .any), (3, .int .i64)] (.seq (.seq .n (.cond .n .n)) (.seq (.blk (.seq .n (.cond (.seq .n .n) .n))) .n))))) (.seq .n .n)))) Try.f22 [a0] [.one (.int .i64)] W K := by kernel_rfl
theorem call22 (a0 : Value) (W : World) (K : Int × Unit → World → Prop) (h : G22 a0 W K) : callG Try.prog 22 [a0] [.one (.int .i64)] W K :=
  cFn_sound mixedDerr Try.func22 (Eq.mp (eq22 a0 W K) h)

end Go.Proofs.Ytbaclnddcobdmaa
