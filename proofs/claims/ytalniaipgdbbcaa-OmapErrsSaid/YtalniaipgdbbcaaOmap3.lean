/-
  Requests over a row: from arguments' readings to data.
-/
import Derived.Test.YtalniaipgdbbcaaOmap2
set_option linter.unusedSimpArgs false
set_option linter.unusedVariables false
namespace Go.Proofs.Ytalniaipgdbbcaa
open Go Go.Gp Go.Ga Go.Th
abbrev REQk : AK := .cons (.one (.int .i64)) (.cons (.one (.int .i64)) (.cons (.one (.int .i64)) (.cons (.row .byte) (.cons (.row .byte) (.cons (.row .byte) (.cons (.row .byte) (.one (.int .i64))))))))
theorem fitPairs : fitT Try.prog 9 (.row (.cons (.row .byte) (.row .byte))) 25 = true := by kernel_rfl
theorem fitReq : fitT Try.prog 20 REQk 24 = true := by kernel_rfl
theorem fitReqs : fitT Try.prog 21 (.row REQk) 71 = true := by kernel_rfl
theorem arg_int {W : World} {j : Nat} {r : List (Bool × AK)} {n : Int} {vs : List Value} {y : HT r} (h : ArgRep (fun _ => none) W (j + 1) r vs y) : ArgRep (fun _ => none) W j ((false, .one (.int .i64)) :: r) (.int .i64 n :: vs) (n, y) := arg_cons rfl rfl (cs := [.int .i64 n]) ⟨rfl, rfl⟩ rfl h
theorem omapTurns_row (W : World) (a : Sl) (b c : Array Value) (n0 : Nat) (h0 : RdT Try.prog W n0 25 [.slice a.a a.len a.cap]) (n1 : Nat) (h1 : RdT Try.prog W n1 24 b.toList) (n2 : Nat) (h2 : RdT Try.prog W n2 24 c.toList) :
    callG Try.prog 5 [.slice a.a a.len a.cap, .agg b, .agg c] [.one .bool] W fun x W' => x = (true, ()) ∧ Keeps [] W W' := by
  obtain ⟨x, hx, _⟩ := fit_dat _ fitPairs h0
  obtain ⟨y, hy, _⟩ := fit_dat _ fitReq h1
  obtain ⟨z, hz, _⟩ := fit_dat _ fitReq h2
  exact callG_of (callA5 x y z _ _ (omapTurns_walk x y z _ _ rfl)) (arg_cons rfl rfl hx rfl (arg_cons rfl rfl hy rfl (arg_cons rfl rfl hz rfl arg_nil)))
theorem omapErrs_row (W : World) (a : Sl) (b : Array Value) (m : Int) (n0 : Nat) (h0 : RdT Try.prog W n0 25 [.slice a.a a.len a.cap]) (n1 : Nat) (h1 : RdT Try.prog W n1 24 b.toList) (h2 : (Lit.int .i64 m).wf = true) :
    callG Try.prog 7 [.slice a.a a.len a.cap, .agg b, .int .i64 m] [.one .bool] W fun x W' => x = (true, ()) ∧ Keeps [] W W' := by
  obtain ⟨x, hx, _⟩ := fit_dat _ fitPairs h0
  obtain ⟨y, hy, _⟩ := fit_dat _ fitReq h1
  exact callG_of (callA7 x y m _ _ (omapErrs_walk x y m _ _ rfl)) (arg_cons rfl rfl hx rfl (arg_cons rfl rfl hy rfl (arg_int arg_nil)))
theorem omapDoes_row (W : World) (a b : Sl) (m : Int) (n0 : Nat) (h0 : RdT Try.prog W n0 25 [.slice a.a a.len a.cap]) (n1 : Nat) (h1 : RdT Try.prog W n1 71 [.slice b.a b.len b.cap]) (h2 : (Lit.int .i64 m).wf = true) :
    callG Try.prog 6 [.slice a.a a.len a.cap, .slice b.a b.len b.cap, .int .i64 m] [.one .bool] W fun x W' => x = (true, ()) ∧ Keeps [] W W' := by
  obtain ⟨x, hx, _⟩ := fit_dat _ fitPairs h0
  obtain ⟨y, hy, _⟩ := fit_dat _ fitReqs h1
  exact callG_of (callA6 x y m _ _ (omapDoes_walk x y m _ _ rfl)) (arg_cons rfl rfl hx rfl (arg_cons rfl rfl hy rfl (arg_int arg_nil)))
end Go.Proofs.Ytalniaipgdbbcaa
