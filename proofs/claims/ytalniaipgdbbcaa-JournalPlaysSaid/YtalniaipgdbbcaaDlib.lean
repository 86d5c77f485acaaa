/-
  WRITTEN BY dec.py (a program of ours): of each function named below: its formula, and that the kernel reckons this very formula out of the function's code.
-/
import Derived.Test.YtalniaipgdbbcaaProg
import Derived.Test.YtalniaipgdbbcaaKk
namespace Go.Proofs.Ytalniaipgdbbcaa
open Go Go.Gp
set_option linter.unusedVariables false
set_option maxRecDepth 100000
theorem mixedDlib : Try.prog.follows .mixedOrders = true := by kernel_rfl
def G113 (a0 : Sl) (W : World) (K : Sl × Unit → World → Prop) : Prop :=
  ifB (Option.isNone a0.a) (K ((Sl.mk none 0 0), ()) W) (newG (.cells #[] 5) W fun b1 W => runG' Try.prog (.val (.one .sl)) (Builtin.append_ #[22, 22] 22 #[(.slice (some (Addr.mk b1 0 none)) 0 0), (.slice a0.a a0.len a0.cap)]) W fun (r2 : Sl) W => K (r2, ()) W)
theorem eq113 (a0 : Sl) (W : World) (K : Sl × Unit → World → Prop) : G113 a0 W K = cFn Try.prog (.seq .n (.seq (.seq .n (.cond (.seq .n .n) .n)) (.seq .n .n))) Try.f113 [(.slice a0.a a0.len a0.cap)] [.one .sl] W K := by kernel_rfl
theorem call113 (a0 : Sl) (W : World) (K : Sl × Unit → World → Prop) (h : G113 a0 W K) : callG Try.prog 113 [(.slice a0.a a0.len a0.cap)] [.one .sl] W K :=
  cFn_sound mixedDlib Try.func113 (Eq.mp (eq113 a0 W K) h)
def G101 (a0 : Sl) (a1 : Sl) (W : World) (K : Bool × Unit → World → Prop) : Prop :=
  runG' Try.prog (.val (.one .str)) (convert 22 9 (.slice a0.a a0.len a0.cap)) W fun (r1 : ByteArray) W => runG' Try.prog (.val (.one .str)) (convert 22 9 (.slice a1.a a1.len a1.cap)) W fun (r2 : ByteArray) W => K ((ByteArray.toList r1 == ByteArray.toList r2), ()) W
theorem eq101 (a0 : Sl) (a1 : Sl) (W : World) (K : Bool × Unit → World → Prop) : G101 a0 a1 W K = cFn Try.prog (.seq .n (.seq .n .n)) Try.f101 [(.slice a0.a a0.len a0.cap), (.slice a1.a a1.len a1.cap)] [.one .bool] W K := by kernel_rfl
theorem call101 (a0 : Sl) (a1 : Sl) (W : World) (K : Bool × Unit → World → Prop) (h : G101 a0 a1 W K) : callG Try.prog 101 [(.slice a0.a a0.len a0.cap), (.slice a1.a a1.len a1.cap)] [.one .bool] W K :=
  cFn_sound mixedDlib Try.func101 (Eq.mp (eq101 a0 a1 W K) h)
def G125 (a0 : Sl) (a1 : Sl) (W : World) (K : Int × Unit → World → Prop) : Prop :=
  extG Try.prog 138 [(.slice a0.a a0.len a0.cap), (.slice a1.a a1.len a1.cap)] [.one (.int .i64)] W fun (r1 : Int × Unit) W => K (r1.1, ()) W
theorem eq125 (a0 : Sl) (a1 : Sl) (W : World) (K : Int × Unit → World → Prop) : G125 a0 a1 W K = cFn Try.prog (.seq .n (.seq .n .n)) Try.f125 [(.slice a0.a a0.len a0.cap), (.slice a1.a a1.len a1.cap)] [.one (.int .i64)] W K := by kernel_rfl
theorem call125 (a0 : Sl) (a1 : Sl) (W : World) (K : Int × Unit → World → Prop) (h : G125 a0 a1 W K) : callG Try.prog 125 [(.slice a0.a a0.len a0.cap), (.slice a1.a a1.len a1.cap)] [.one (.int .i64)] W K :=
  cFn_sound mixedDlib Try.func125 (Eq.mp (eq125 a0 a1 W K) h)
end Go.Proofs.Ytalniaipgdbbcaa
