/-
  WRITTEN BY mka.py (a program of ours): of each function named below: its formula over data, and that the kernel reckons this very formula out of the function's code.
-/
import Derived.Test.YtalniaipgdbbcaaProg
import Derived.Test.YtalniaipgdbbcaaDak
namespace Go.Proofs.Ytalniaipgdbbcaa.P
open Go Go.Gp Go.Ga
set_option linter.unusedVariables false
set_option maxRecDepth 100000
set_option maxHeartbeats 0
def okTDslotp : TypeId → Option AK
  | 141 => some ((.cons (.row (.cons (.row .byte) (.row .byte))) (.one (.int .i64))))
  | 125 => some ((.one .sl))
  | 3 => some ((.one (.int .i64)))
  | 24 => some ((.cons (.one (.int .i64)) (.cons (.one (.int .i64)) (.cons (.one (.int .i64)) (.cons (.row .byte) (.cons (.row .byte) (.cons (.row .byte) (.cons (.row .byte) (.one (.int .i64))))))))))
  | _ => none
def sgTDslotp : FuncId → Option Sig
  | 75 => some ⟨[(true, .cons (.one (.int .i64)) (.cons (.cons (.one (.int .i64)) (.cons (.one (.int .i64)) (.cons (.one (.int .i64)) (.cons (.row .byte) (.cons (.row .byte) (.cons (.row .byte) (.cons (.row .byte) (.one (.int .i64))))))))) (.cons (.one (.int .i64)) (.cons (.one .bool) (.cons (.row .byte) (.cons (.row (.cons (.row .byte) (.row .byte))) (.one (.int .u64)))))))), (false, .ref)], [(false, .one .bool)], 1⟩
  | 78 => some ⟨[(false, .one .sl), (false, .fn 75)], [(false, .one (.int .i64))], 1⟩
  | _ => none
theorem mixedDslotp : Try.prog.follows .mixedOrders = true := by kernel_rfl
def A75 (a0 : AK.T (.cons (.one (.int .i64)) (.cons kRQ (.cons (.one (.int .i64)) (.cons (.one .bool) (.cons (.row .byte) (.cons (.row kPR) (.one (.int .u64))))))))) (a1 : AK.T (.ref)) (H : HP) (K : HT [(false, .one .bool)] → HP → Prop) : Prop :=
  refA a1 fun i1 => ifB ((a0.1 : Int) != 0) (ldO kRQ i1 H fun (x2 : tRQ) => K ((a0.2.1.1 : Int) == x2.1, ()) H) (K (false, ()) H)
theorem eqA75 (a0 : AK.T (.cons (.one (.int .i64)) (.cons kRQ (.cons (.one (.int .i64)) (.cons (.one .bool) (.cons (.row .byte) (.cons (.row kPR) (.one (.int .u64))))))))) (a1 : AK.T (.ref)) (H : HP) (K : HT [(false, .one .bool)] → HP → Prop) : A75 a0 a1 H K = aFn ⟨Try.prog, sgTDslotp, okTDslotp, [], akT0⟩ ⟨[], []⟩ (.seq (.gh [.chk 1] .n) (.seq .n .n)) Try.f75 [(true, .cons (.one (.int .i64)) (.cons kRQ (.cons (.one (.int .i64)) (.cons (.one .bool) (.cons (.row .byte) (.cons (.row kPR) (.one (.int .u64)))))))), (false, .ref)] (a0, a1, ()) [(false, .one .bool)] H K := by kernel_rfl
theorem callA75 (a0 : AK.T (.cons (.one (.int .i64)) (.cons kRQ (.cons (.one (.int .i64)) (.cons (.one .bool) (.cons (.row .byte) (.cons (.row kPR) (.one (.int .u64))))))))) (a1 : AK.T (.ref)) (H : HP) (K : HT [(false, .one .bool)] → HP → Prop) (h : A75 a0 a1 H K) : callA Try.prog 75 [(true, .cons (.one (.int .i64)) (.cons kRQ (.cons (.one (.int .i64)) (.cons (.one .bool) (.cons (.row .byte) (.cons (.row kPR) (.one (.int .u64)))))))), (false, .ref)] (a0, a1, ()) [(false, .one .bool)] H K :=
  aFn_sound mixedDslotp Try.func75 (Eq.mp (eqA75 a0 a1 H K) h)
abbrev C75 (a0 : AK.T (.cons (.one (.int .i64)) (.cons kRQ (.cons (.one (.int .i64)) (.cons (.one .bool) (.cons (.row .byte) (.cons (.row kPR) (.one (.int .u64))))))))) (a1 : AK.T (.ref)) (H : HP) (K : HT [(false, .one .bool)] → HP → Prop) : Prop := callA Try.prog 75 [(true, .cons (.one (.int .i64)) (.cons kRQ (.cons (.one (.int .i64)) (.cons (.one .bool) (.cons (.row .byte) (.cons (.row kPR) (.one (.int .u64)))))))), (false, .ref)] (a0, a1, ()) [(false, .one .bool)] H K
def A78 (a0 : AK.T (.one .sl)) (a1 : AK.T (.fn 75)) (H : HP) (K : HT [(false, .one (.int .i64))] → HP → Prop) : Prop :=
  LoopA (V := (Sl × List Nat × Int × Int × Unit) × Unit) ((a0, a1, ((a0.len : Nat) : Int), 0, ()), ()) H fun (x1 : (Sl × List Nat × Int × Int × Unit) × Unit) H2 B3 => ifB (decide (x1.1.2.2.2.1 < x1.1.2.2.1)) (arrA x1.1.1 x1.1.2.2.2.1 14 fun (x4 : Addr) => ldE (.cons (.one (.int .i64)) (.cons kRQ (.cons (.one (.int .i64)) (.cons (.one .bool) (.cons (.row .byte) (.cons (.row kPR) (.one (.int .u64)))))))) x4 H2 fun (x5 : Int × tRQ × Int × Bool × List UInt8 × (List tPR) × Int) => capA x1.1.2.1 fun i6 (l7 : List Nat) => ((l7 : List Nat) = []) ∧ (callA Try.prog 75 [(true, .cons (.one (.int .i64)) (.cons kRQ (.cons (.one (.int .i64)) (.cons (.one .bool) (.cons (.row .byte) (.cons (.row kPR) (.one (.int .u64)))))))), (false, .ref)] ((x5.1, (x5.2.1.1, x5.2.1.2.1, x5.2.1.2.2.1, x5.2.1.2.2.2.1, x5.2.1.2.2.2.2.1, x5.2.1.2.2.2.2.2.1, x5.2.1.2.2.2.2.2.2.1, x5.2.1.2.2.2.2.2.2.2), x5.2.2.1, x5.2.2.2.1, x5.2.2.2.2.1, x5.2.2.2.2.2.1, x5.2.2.2.2.2.2), some i6, ()) [(false, .one .bool)] H2 fun (x8 : Bool × Unit) H9 => ifB x8.1 (K (x1.1.2.2.2.1, ()) H9) (B3 ((x1.1.1, x1.1.2.1, x1.1.2.2.1, IntKind.i64.wrap (x1.1.2.2.2.1 + 1), ()), ()) H9))) (K ((-1), ()) H2)
theorem eqA78 (a0 : AK.T (.one .sl)) (a1 : AK.T (.fn 75)) (H : HP) (K : HT [(false, .one (.int .i64))] → HP → Prop) : A78 a0 a1 H K = aFn ⟨Try.prog, sgTDslotp, okTDslotp, [], akT0⟩ ⟨[(0, .one .sl), (6, .one .sl), (12, .one .sl)], []⟩ (.seq .n (.seq (.seq .n (.blk (.loop [0, 1, 7, 8] [] (.seq .n (.seq (.cond .n .n) (.seq (.blk (.seq .n (.seq .n (.cond (.seq .n .n) .n)))) .n)))))) (.seq .n .n))) Try.f78 [(false, .one .sl), (false, .fn 75)] (a0, a1, ()) [(false, .one (.int .i64))] H K := by kernel_rfl
theorem callA78 (a0 : AK.T (.one .sl)) (a1 : AK.T (.fn 75)) (H : HP) (K : HT [(false, .one (.int .i64))] → HP → Prop) (h : A78 a0 a1 H K) : callA Try.prog 78 [(false, .one .sl), (false, .fn 75)] (a0, a1, ()) [(false, .one (.int .i64))] H K :=
  aFn_sound mixedDslotp Try.func78 (Eq.mp (eqA78 a0 a1 H K) h)
abbrev C78 (a0 : AK.T (.one .sl)) (a1 : AK.T (.fn 75)) (H : HP) (K : HT [(false, .one (.int .i64))] → HP → Prop) : Prop := callA Try.prog 78 [(false, .one .sl), (false, .fn 75)] (a0, a1, ()) [(false, .one (.int .i64))] H K
def A76 (a0 : AK.T (.one .sl)) (a1 : AK.T (.fn 75)) (H : HP) (K : HT [(false, .one .bool)] → HP → Prop) : Prop :=
  retH Try.prog 78 [(false, .one .sl), (false, .fn 75)] (a0, a1, ()) [(false, .one (.int .i64))] H fun (x1 : Int × Unit) => K (decide (x1.1 ≥ 0), ()) H
theorem eqA76 (a0 : AK.T (.one .sl)) (a1 : AK.T (.fn 75)) (H : HP) (K : HT [(false, .one .bool)] → HP → Prop) : A76 a0 a1 H K = aFn ⟨Try.prog, sgTDslotp, okTDslotp, [], akT0⟩ ⟨[(0, .one .sl), (5, .one .sl)], []⟩ (.seq .n (.seq .n .n)) Try.f76 [(false, .one .sl), (false, .fn 75)] (a0, a1, ()) [(false, .one .bool)] H K := by kernel_rfl
theorem callA76 (a0 : AK.T (.one .sl)) (a1 : AK.T (.fn 75)) (H : HP) (K : HT [(false, .one .bool)] → HP → Prop) (h : A76 a0 a1 H K) : callA Try.prog 76 [(false, .one .sl), (false, .fn 75)] (a0, a1, ()) [(false, .one .bool)] H K :=
  aFn_sound mixedDslotp Try.func76 (Eq.mp (eqA76 a0 a1 H K) h)
abbrev C76 (a0 : AK.T (.one .sl)) (a1 : AK.T (.fn 75)) (H : HP) (K : HT [(false, .one .bool)] → HP → Prop) : Prop := callA Try.prog 76 [(false, .one .sl), (false, .fn 75)] (a0, a1, ()) [(false, .one .bool)] H K
end Go.Proofs.Ytalniaipgdbbcaa.P
