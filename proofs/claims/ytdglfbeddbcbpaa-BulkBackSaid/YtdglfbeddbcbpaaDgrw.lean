/-
  WRITTEN BY dec.py (a program of ours): of each function named below: its formula, and that the kernel reckons this very formula out of the function's code.
-/
import Derived.Test.YtdglfbeddbcbpaaProg
import Derived.Test.YtdglfbeddbcbpaaKk
namespace Go.Proofs.Ytdglfbeddbcbpaa
open Go Go.Gp
set_option linter.unusedVariables false
set_option maxRecDepth 100000
theorem mixedDgrw : Try.prog.follows .mixedOrders = true := by kernel_rfl
/-! slices.Grow[[]garnet/api.Pair,garnet/api.Pair] -/
def G100 (a0 : Sl) (a1 : Int) (W : World) (K : Sl × Unit → World → Prop) : Prop :=
  JoinG (V := Sl × Int × Unit) (fun v1 W => ∀ j2 : Nat → Value, JoinG (V := Sl × Unit) (fun v4 W => ∀ j5 : Nat → Value, K (v4.1, ()) W) fun B6 => runG' Try.prog (.val (.one (.int .i64))) (Builtin.cap_ #[22] 3 #[(.slice v1.1.a v1.1.len v1.1.cap)]) W fun (r7 : Int) W => ifB (decide (((IntKind.i64.wrap (v1.2.1 - (IntKind.i64.wrap (r7 - ((v1.1.len : Nat) : Int))))) : Int) > 0)) (runG' Try.prog (.val (.one (.int .i64))) (Builtin.cap_ #[22] 3 #[(.slice v1.1.a v1.1.len v1.1.cap)]) W fun (r8 : Int) W => slcG v1.1.a v1.1.cap 2 0 r8 fun (q9 : Sl) => runG' Try.prog (.val (.one .sl)) (Builtin.append_ #[22, 3] 22 #[(.slice q9.a q9.len q9.cap), (.int .i64 (IntKind.i64.wrap (v1.2.1 - (IntKind.i64.wrap (r7 - ((v1.1.len : Nat) : Int))))))]) W fun (r10 : Sl) W => slcG r10.a r10.cap 2 0 ((v1.1.len : Nat) : Int) fun (q11 : Sl) => B6 (q11, ()) W) (B6 (v1.1, ()) W)) fun B3 => ifB (decide ((a1 : Int) < 0)) (False) (B3 (a0, a1, ()) W)
theorem eq100 (a0 : Sl) (a1 : Int) (W : World) (K : Sl × Unit → World → Prop) : G100 a0 a1 W K = cFn Try.prog (.seq .n (.join 27 [(0, .sl), (1, .int .i64)] (.seq .n (.cond .n .n)) (.join 27 [(0, .sl)] (.seq .n (.seq .n (.cond .n .n))) (.seq .n .n)))) Try.f100 [(.slice a0.a a0.len a0.cap), (.int .i64 a1)] [.one .sl] W K := by kernel_rfl
theorem call100 (a0 : Sl) (a1 : Int) (W : World) (K : Sl × Unit → World → Prop) (h : G100 a0 a1 W K) : callG Try.prog 100 [(.slice a0.a a0.len a0.cap), (.int .i64 a1)] [.one .sl] W K :=
  cFn_sound mixedDgrw Try.func100 (Eq.mp (eq100 a0 a1 W K) h)

end Go.Proofs.Ytdglfbeddbcbpaa

