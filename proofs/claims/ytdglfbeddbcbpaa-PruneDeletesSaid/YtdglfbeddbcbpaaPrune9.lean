/-
  PruneDeletes, over its arguments' readings.
-/
import Derived.Test.YtdglfbeddbcbpaaKp
import Derived.Test.YtdglfbeddbcbpaaKy
set_option linter.unusedSimpArgs false
set_option linter.unusedVariables false
namespace Go.Proofs.Ytdglfbeddbcbpaa
open Go Go.Gp Go.Ga Go.Th
theorem fitDeeds : fitT Try.prog 12 (.row (.cons (.one .bool) (.cons (.row .byte) (.row .byte)))) 92 = true := by kernel_rfl
theorem pruneDeletes_row (W : World) (m : Int) (b c : Sl) (w0 : (Lit.int .i64 m).wf = true) (n1 : Nat) (h1 : RdT Try.prog W n1 22 [.slice b.a b.len b.cap]) (n2 : Nat) (h2 : RdT Try.prog W n2 92 [.slice c.a c.len c.cap]) :
    callG Try.prog 13 [.int .i64 m, .slice b.a b.len b.cap, .slice c.a c.len c.cap] [.one .bool] W fun x W' => x = (true, ()) ∧ Keeps [] W W' := by
  obtain ⟨y, hy, _⟩ := fit_dat _ fitPairs8 h1
  obtain ⟨z, hz, _⟩ := fit_dat _ fitDeeds h2
  exact callG_of (callA13 m y z _ _ (pruneDeletes_walk m y z _ _ fun _ => rfl)) (arg_int (arg_cons rfl rfl hy rfl (arg_cons rfl rfl hz rfl arg_nil)))
end Go.Proofs.Ytdglfbeddbcbpaa

