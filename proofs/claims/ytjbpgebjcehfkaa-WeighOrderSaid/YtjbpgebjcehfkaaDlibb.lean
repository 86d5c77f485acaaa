/-
  WRITTEN BY dec.py (a program of ours): of each function named below: its formula, and that the kernel reckons this very formula out of the function's code.
-/
import Derived.Test.YtjbpgebjcehfkaaProg
import Derived.Test.YtjbpgebjcehfkaaKk
namespace Go.Proofs.Ytjbpgebjcehfkaa
open Go Go.Gp
set_option linter.unusedVariables false
set_option maxRecDepth 100000
theorem mixedDlibb : Try.prog.follows .mixedOrders = true := by kernel_rfl
def G16 (a0 : Nat) (W : World) (K : Bool × Unit → World → Prop) : Prop :=
  extG Try.prog 23 [(.float .f64 a0)] [.one (.int .u64)] W fun (r1 : Int × Unit) W => K ((decide (((IntKind.i64.wrap r1.1) : Int) < 0)), ()) W
theorem eq16 (a0 : Nat) (W : World) (K : Bool × Unit → World → Prop) : G16 a0 W K = cFn Try.prog (.seq .n (.seq .n .n)) Try.f16 [(.float .f64 a0)] [.one .bool] W K := by kernel_rfl
theorem call16 (a0 : Nat) (W : World) (K : Bool × Unit → World → Prop) (h : G16 a0 W K) : callG Try.prog 16 [(.float .f64 a0)] [.one .bool] W K :=
  cFn_sound mixedDlibb Try.func16 (Eq.mp (eq16 a0 W K) h)
end Go.Proofs.Ytjbpgebjcehfkaa
