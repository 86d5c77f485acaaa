/-
  Slots: from arguments' readings to data.
-/
import Derived.Test.YtalniaipgdbbcaaSlot4
set_option linter.unusedSimpArgs false
set_option linter.unusedVariables false
namespace Go.Proofs.Ytalniaipgdbbcaa
open Go Go.Gp Go.Ga Go.Th
theorem fitReq14 : fitT Try.prog 20 RQk 24 = true := by kernel_rfl
theorem fitRes14 : fitT Try.prog 20 RSk 28 = true := by kernel_rfl
theorem fitDeeds14 : fitT Try.prog 41 (.row DEEDk) 47 = true := by kernel_rfl
theorem arg_int14 {W : World} {j : Nat} {r : List (Bool × AK)} {n : Int} {vs : List Value} {y : HT r} (h : ArgRep (fun _ => none) W (j + 1) r vs y) : ArgRep (fun _ => none) W j ((false, .one (.int .i64)) :: r) (.int .i64 n :: vs) (n, y) := arg_cons rfl rfl (cs := [.int .i64 n]) ⟨rfl, rfl⟩ rfl h
theorem slotOnce_row (W : World) (a b : Array Value) (c d : Int) (n0 : Nat) (h0 : RdT Try.prog W n0 24 a.toList) (n1 : Nat) (h1 : RdT Try.prog W n1 28 b.toList) (h2 : (Lit.int .i64 c).wf = true) (h3 : (Lit.int .i64 d).wf = true) :
    callG Try.prog 3 [.agg a, .agg b, .int .i64 c, .int .i64 d] [.one .bool] W fun x W' => x = (true, ()) ∧ Keeps [] W W' := by
  obtain ⟨x, hx, _⟩ := fit_dat _ fitReq14 h0
  obtain ⟨y, hy, _⟩ := fit_dat _ fitRes14 h1
  exact callG_of (callA3 x y c d _ _ (slotOnce_walk x y c d _ _ fun _ => rfl)) (arg_cons rfl rfl hx rfl (arg_cons rfl rfl hy rfl (arg_int14 (arg_int14 arg_nil))))
theorem slotPlays_row (W : World) (m : Int) (a : Sl) (h0 : (Lit.int .i64 m).wf = true) (n1 : Nat) (h1 : RdT Try.prog W n1 47 [.slice a.a a.len a.cap]) :
    callG Try.prog 4 [.int .i64 m, .slice a.a a.len a.cap] [.one .bool] W fun x W' => x = (true, ()) ∧ Keeps [] W W' := by
  obtain ⟨x, hx, _⟩ := fit_dat _ fitDeeds14 h1
  exact callG_of (callA4 m x _ _ (slotPlays_walk m x _ _ fun _ => rfl)) (arg_int14 (arg_cons rfl rfl hx rfl arg_nil))
end Go.Proofs.Ytalniaipgdbbcaa
