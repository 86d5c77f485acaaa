/-
  WRITTEN BY dec.py (a program of ours): of each function named below: its formula, and that the kernel reckons this very formula out of the function's code.
-/
import Derived.Test.YtalniaipgdbbcaaProg
import Derived.Test.YtalniaipgdbbcaaKk
namespace Go.Proofs.Ytalniaipgdbbcaa
open Go Go.Gp
set_option linter.unusedVariables false
set_option maxRecDepth 100000
theorem mixedDlib : Try.prog.follows .mixedOrders = true := by kernel_rfl
/-! slices.Delete[[]garnet/api.Pair,garnet/api.Pair] -/
def G135 (a0 : Sl) (a1 : Int) (a2 : Int) (W : World) (K : Sl × Unit → World → Prop) : Prop :=
  runG' Try.prog (.val (.one .sl)) (Instr.sliceAt 25 (.slice a0.a a0.len a0.cap) (some (.int .i64 a1)) (some (.int .i64 a2)) (some (.int .i64 ((a0.len : Nat) : Int)))) W fun (r1 : Sl) W => ifB ((a1 : Int) == a2) (K (a0, ()) W) (drwG W fun W => holdG W fun S2 => slcG a0.a a0.cap 2 0 a1 fun (q3 : Sl) => slcG a0.a a0.cap 2 a2 ((a0.len : Nat) : Int) fun (q4 : Sl) => runG' Try.prog (.val (.one .sl)) (Builtin.append_ #[25, 25] 25 #[(.slice q3.a q3.len q3.cap), (.slice q4.a q4.len q4.cap)]) W fun (r5 : Sl) W => slcG r5.a r5.cap 2 ((r5.len : Nat) : Int) ((a0.len : Nat) : Int) fun (q6 : Sl) => runG' Try.prog (.tup []) (Builtin.clear_ #[25] 0 #[(.slice q6.a q6.len q6.cap)]) W fun (r7 : Unit) W => K (r5, ()) W)
theorem eq135 (a0 : Sl) (a1 : Int) (a2 : Int) (W : World) (K : Sl × Unit → World → Prop) : G135 a0 a1 a2 W K = cFn Try.prog (.seq .n (.seq .n (.seq (.seq .n (.cond (.seq .n .n) .n)) (.seq .n (.seq .n (.seq .n (.seq .n .n))))))) Try.f135 [(.slice a0.a a0.len a0.cap), (.int .i64 a1), (.int .i64 a2)] [.one .sl] W K := by kernel_rfl
theorem call135 (a0 : Sl) (a1 : Int) (a2 : Int) (W : World) (K : Sl × Unit → World → Prop) (h : G135 a0 a1 a2 W K) : callG Try.prog 135 [(.slice a0.a a0.len a0.cap), (.int .i64 a1), (.int .i64 a2)] [.one .sl] W K :=
  cFn_sound mixedDlib Try.func135 (Eq.mp (eq135 a0 a1 a2 W K) h)

/-! slices.Insert[[]garnet/api.Pair,garnet/api.Pair] -/
def G141 (a0 : Sl) (a1 : Int) (a2 : Sl) (W : World) (K : Sl × Unit → World → Prop) : Prop :=
  slcG a0.a a0.cap 2 a1 ((a0.len : Nat) : Int) fun (q1 : Sl) => ifB ((((a2.len : Nat) : Int) : Int) == 0) (K (a0, ()) W) (ifB ((a1 : Int) == ((a0.len : Nat) : Int)) (runG' Try.prog (.val (.one .sl)) (Builtin.append_ #[25, 25] 25 #[(.slice a0.a a0.len a0.cap), (.slice a2.a a2.len a2.cap)]) W fun (r2 : Sl) W => K (r2, ()) W) (runG' Try.prog (.val (.one (.int .i64))) (Builtin.cap_ #[25] 3 #[(.slice a0.a a0.len a0.cap)]) W fun (r3 : Int) W => ifB (decide (((IntKind.i64.wrap (((a0.len : Nat) : Int) + ((a2.len : Nat) : Int))) : Int) > r3)) (slcG a0.a a0.cap 2 0 a1 fun (q4 : Sl) => runG' Try.prog (.val (.one .sl)) (Builtin.append_ #[25, 3] 25 #[(.slice q4.a q4.len q4.cap), (.int .i64 (IntKind.i64.wrap ((IntKind.i64.wrap (((a0.len : Nat) : Int) + ((a2.len : Nat) : Int))) - a1)))]) W fun (r5 : Sl) W => slcG r5.a r5.cap 2 a1 ((r5.len : Nat) : Int) fun (q6 : Sl) => runG' Try.prog (.val (.one (.int .i64))) (Builtin.copy_ #[25, 25] 3 #[(.slice q6.a q6.len q6.cap), (.slice a2.a a2.len a2.cap)]) W fun (r7 : Int) W => drwG W fun W => holdG W fun S8 => slcG r5.a r5.cap 2 (IntKind.i64.wrap (a1 + ((a2.len : Nat) : Int))) ((r5.len : Nat) : Int) fun (q9 : Sl) => slcG a0.a a0.cap 2 a1 ((a0.len : Nat) : Int) fun (q10 : Sl) => runG' Try.prog (.val (.one (.int .i64))) (Builtin.copy_ #[25, 25] 3 #[(.slice q9.a q9.len q9.cap), (.slice q10.a q10.len q10.cap)]) W fun (r11 : Int) W => K (r5, ()) W) (slcG a0.a a0.cap 2 0 (IntKind.i64.wrap (((a0.len : Nat) : Int) + ((a2.len : Nat) : Int))) fun (q12 : Sl) => slcG q12.a q12.cap 2 (IntKind.i64.wrap (a1 + ((a2.len : Nat) : Int))) ((q12.len : Nat) : Int) fun (q13 : Sl) => extG Try.prog 146 [(.slice a2.a a2.len a2.cap), (.slice q13.a q13.len q13.cap)] [.one .bool] W fun (r14 : Bool × Unit) W => ifB (!r14.1) (drwG W fun W => holdG W fun S15 => slcG q12.a q12.cap 2 (IntKind.i64.wrap (a1 + ((a2.len : Nat) : Int))) ((q12.len : Nat) : Int) fun (q16 : Sl) => slcG q12.a q12.cap 2 a1 ((q12.len : Nat) : Int) fun (q17 : Sl) => runG' Try.prog (.val (.one (.int .i64))) (Builtin.copy_ #[25, 25] 3 #[(.slice q16.a q16.len q16.cap), (.slice q17.a q17.len q17.cap)]) W fun (r18 : Int) W => slcG q12.a q12.cap 2 a1 ((q12.len : Nat) : Int) fun (q19 : Sl) => runG' Try.prog (.val (.one (.int .i64))) (Builtin.copy_ #[25, 25] 3 #[(.slice q19.a q19.len q19.cap), (.slice a2.a a2.len a2.cap)]) W fun (r20 : Int) W => K (q12, ()) W) (slcG q12.a q12.cap 2 ((a0.len : Nat) : Int) ((q12.len : Nat) : Int) fun (q21 : Sl) => runG' Try.prog (.val (.one (.int .i64))) (Builtin.copy_ #[25, 25] 3 #[(.slice q21.a q21.len q21.cap), (.slice a2.a a2.len a2.cap)]) W fun (r22 : Int) W => slcG q12.a q12.cap 2 a1 ((q12.len : Nat) : Int) fun (q23 : Sl) => callG Try.prog 147 [(.slice q23.a q23.len q23.cap), (.int .i64 ((a2.len : Nat) : Int))] [] W fun (r24 : Unit) W => K (q12, ()) W))))
theorem eq141 (a0 : Sl) (a1 : Int) (a2 : Sl) (W : World) (K : Sl × Unit → World → Prop) : G141 a0 a1 a2 W K = cFn Try.prog (.seq .n (.seq .n (.seq .n (.seq (.seq .n (.cond (.seq .n .n) .n)) (.seq .n (.seq (.seq .n (.cond (.seq .n .n) .n)) (.seq (.seq .n (.cond (.seq .n (.seq .n (.seq .n (.seq .n .n)))) .n)) (.seq .n (.seq (.seq .n (.cond (.seq .n (.seq .n (.seq .n .n))) .n)) (.seq .n (.seq .n (.seq .n .n)))))))))))) Try.f141 [(.slice a0.a a0.len a0.cap), (.int .i64 a1), (.slice a2.a a2.len a2.cap)] [.one .sl] W K := by kernel_rfl
theorem call141 (a0 : Sl) (a1 : Int) (a2 : Sl) (W : World) (K : Sl × Unit → World → Prop) (h : G141 a0 a1 a2 W K) : callG Try.prog 141 [(.slice a0.a a0.len a0.cap), (.int .i64 a1), (.slice a2.a a2.len a2.cap)] [.one .sl] W K :=
  cFn_sound mixedDlib Try.func141 (Eq.mp (eq141 a0 a1 a2 W K) h)

/-! bytes.Compare -/
def G125 (a0 : Sl) (a1 : Sl) (W : World) (K : Int × Unit → World → Prop) : Prop :=
  extG Try.prog 138 [(.slice a0.a a0.len a0.cap), (.slice a1.a a1.len a1.cap)] [.one (.int .i64)] W fun (r1 : Int × Unit) W => K (r1.1, ()) W
theorem eq125 (a0 : Sl) (a1 : Sl) (W : World) (K : Int × Unit → World → Prop) : G125 a0 a1 W K = cFn Try.prog (.seq .n (.seq .n .n)) Try.f125 [(.slice a0.a a0.len a0.cap), (.slice a1.a a1.len a1.cap)] [.one (.int .i64)] W K := by kernel_rfl
theorem call125 (a0 : Sl) (a1 : Sl) (W : World) (K : Int × Unit → World → Prop) (h : G125 a0 a1 W K) : callG Try.prog 125 [(.slice a0.a a0.len a0.cap), (.slice a1.a a1.len a1.cap)] [.one (.int .i64)] W K :=
  cFn_sound mixedDlib Try.func125 (Eq.mp (eq125 a0 a1 W K) h)

/-! bytes.Clone -/
def G113 (a0 : Sl) (W : World) (K : Sl × Unit → World → Prop) : Prop :=
  ifB (Option.isNone a0.a) (K ((Sl.mk none 0 0), ()) W) (newG (.cells #[] 5) W fun b1 W => runG' Try.prog (.val (.one .sl)) (Builtin.append_ #[22, 22] 22 #[(.slice (some (Addr.mk b1 0 none)) 0 0), (.slice a0.a a0.len a0.cap)]) W fun (r2 : Sl) W => K (r2, ()) W)
theorem eq113 (a0 : Sl) (W : World) (K : Sl × Unit → World → Prop) : G113 a0 W K = cFn Try.prog (.seq .n (.seq (.seq .n (.cond (.seq .n .n) .n)) (.seq .n .n))) Try.f113 [(.slice a0.a a0.len a0.cap)] [.one .sl] W K := by kernel_rfl
theorem call113 (a0 : Sl) (W : World) (K : Sl × Unit → World → Prop) (h : G113 a0 W K) : callG Try.prog 113 [(.slice a0.a a0.len a0.cap)] [.one .sl] W K :=
  cFn_sound mixedDlib Try.func113 (Eq.mp (eq113 a0 W K) h)

/-! bytes.Equal -/
def G101 (a0 : Sl) (a1 : Sl) (W : World) (K : Bool × Unit → World → Prop) : Prop :=
  runG' Try.prog (.val (.one .str)) (convert 22 9 (.slice a0.a a0.len a0.cap)) W fun (r1 : ByteArray) W => runG' Try.prog (.val (.one .str)) (convert 22 9 (.slice a1.a a1.len a1.cap)) W fun (r2 : ByteArray) W => K ((ByteArray.toList r1 == ByteArray.toList r2), ()) W
theorem eq101 (a0 : Sl) (a1 : Sl) (W : World) (K : Bool × Unit → World → Prop) : G101 a0 a1 W K = cFn Try.prog (.seq .n (.seq .n .n)) Try.f101 [(.slice a0.a a0.len a0.cap), (.slice a1.a a1.len a1.cap)] [.one .bool] W K := by kernel_rfl
theorem call101 (a0 : Sl) (a1 : Sl) (W : World) (K : Bool × Unit → World → Prop) (h : G101 a0 a1 W K) : callG Try.prog 101 [(.slice a0.a a0.len a0.cap), (.slice a1.a a1.len a1.cap)] [.one .bool] W K :=
  cFn_sound mixedDlib Try.func101 (Eq.mp (eq101 a0 a1 W K) h)

end Go.Proofs.Ytalniaipgdbbcaa
