/-
  Histories: from arguments' readings to data.
-/
import Derived.Test.YteljallgjmhkdaaHist3
set_option linter.unusedSimpArgs false
set_option linter.unusedVariables false
namespace Go.Proofs.Yteljallgjmhkdaa
open Go Go.Gp Go.Ga Go.Th
theorem fitPairs : fitT Try.prog 9 (.row kPR) 22 = true := by kernel_rfl
theorem fitEvs : fitT Try.prog 30 (.row kEV) 23 = true := by kernel_rfl
theorem arg_int {W : World} {j : Nat} {r : List (Bool × AK)} {n : Int} {vs : List Value} {y : HT r} (h : ArgRep (fun _ => none) W (j + 1) r vs y) : ArgRep (fun _ => none) W j ((false, .one (.int .i64)) :: r) (.int .i64 n :: vs) (n, y) := arg_cons rfl rfl (cs := [.int .i64 n]) ⟨rfl, rfl⟩ rfl h
theorem historyBegins_row (W : World) (a b : Sl) (m : Int) (n0 : Nat) (h0 : RdT Try.prog W n0 22 [.slice a.a a.len a.cap]) (n1 : Nat) (h1 : RdT Try.prog W n1 23 [.slice b.a b.len b.cap]) (h2 : (Lit.int .i64 m).wf = true) :
    callG Try.prog 3 [.slice a.a a.len a.cap, .slice b.a b.len b.cap, .int .i64 m] [.one .bool] W fun x W' => x = (true, ()) ∧ Keeps [] W W' := by
  obtain ⟨x, hx, _⟩ := fit_dat _ fitPairs h0
  obtain ⟨y, hy, _⟩ := fit_dat _ fitEvs h1
  exact callG_of (callA3 x y m _ _ (historyBegins_walk x y m _ _ rfl)) (arg_cons rfl rfl hx rfl (arg_cons rfl rfl hy rfl (arg_int arg_nil)))
end Go.Proofs.Yteljallgjmhkdaa
