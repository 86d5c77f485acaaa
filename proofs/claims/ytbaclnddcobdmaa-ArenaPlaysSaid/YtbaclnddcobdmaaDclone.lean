/-
  WRITTEN BY dec.py (a program of ours): of each function named below: its formula, and that the kernel reckons this very formula out of the function's code.
-/
import Derived.Test.YtbaclnddcobdmaaProg
import Derived.Test.YtbaclnddcobdmaaKk
namespace Go.Proofs.Ytbaclnddcobdmaa
open Go Go.Gp
set_option linter.unusedVariables false
set_option maxRecDepth 100000
theorem mixedDclone : Try.prog.follows .mixedOrders = true := by kernel_rfl
def G104 (a0 : Sl) (W : World) (K : Sl × Unit → World → Prop) : Prop :=
  ifB (Option.isNone a0.a) (K ((Sl.mk none 0 0), ()) W) (newG (.cells #[] 5) W fun b1 W => runG' Try.prog (.val (.one .sl)) (Builtin.append_ #[45, 45] 45 #[(.slice (some (Addr.mk b1 0 none)) 0 0), (.slice a0.a a0.len a0.cap)]) W fun (r2 : Sl) W => K (r2, ()) W)
theorem eq104 (a0 : Sl) (W : World) (K : Sl × Unit → World → Prop) : G104 a0 W K = cFn Try.prog (.seq .n (.seq (.seq .n (.cond (.seq .n .n) .n)) (.seq .n .n))) Try.f104 [(.slice a0.a a0.len a0.cap)] [.one .sl] W K := by kernel_rfl
theorem call104 (a0 : Sl) (W : World) (K : Sl × Unit → World → Prop) (h : G104 a0 W K) : callG Try.prog 104 [(.slice a0.a a0.len a0.cap)] [.one .sl] W K :=
  cFn_sound mixedDclone Try.func104 (Eq.mp (eq104 a0 W K) h)
def G105 (a0 : Sl) (W : World) (K : Sl × Unit → World → Prop) : Prop :=
  ifB (Option.isNone a0.a) (K ((Sl.mk none 0 0), ()) W) (newG (.cells #[] 3) W fun b1 W => runG' Try.prog (.val (.one .sl)) (Builtin.append_ #[31, 31] 31 #[(.slice (some (Addr.mk b1 0 none)) 0 0), (.slice a0.a a0.len a0.cap)]) W fun (r2 : Sl) W => K (r2, ()) W)
theorem eq105 (a0 : Sl) (W : World) (K : Sl × Unit → World → Prop) : G105 a0 W K = cFn Try.prog (.seq .n (.seq (.seq .n (.cond (.seq .n .n) .n)) (.seq .n .n))) Try.f105 [(.slice a0.a a0.len a0.cap)] [.one .sl] W K := by kernel_rfl
theorem call105 (a0 : Sl) (W : World) (K : Sl × Unit → World → Prop) (h : G105 a0 W K) : callG Try.prog 105 [(.slice a0.a a0.len a0.cap)] [.one .sl] W K :=
  cFn_sound mixedDclone Try.func105 (Eq.mp (eq105 a0 W K) h)
end Go.Proofs.Ytbaclnddcobdmaa
