/-
  WRITTEN BY mka.py (a program of ours): of each function named below: its formula over data, and that the kernel reckons this very formula out of the function's code.
-/
import Derived.Test.YtdglfbeddbcbpaaProg
import Derived.Test.YtdglfbeddbcbpaaDak
namespace Go.Proofs.Ytdglfbeddbcbpaa
open Go Go.Gp Go.Ga
set_option linter.unusedVariables false
set_option maxRecDepth 100000
set_option maxHeartbeats 0
def okTDconc : TypeId → Option AK
  | 120 => some ((.cons (.own (.cons (.one .bool) (.cons (.row (.cons (.row .byte) (.row .byte))) (.cons (.row (.row .byte)) (.cons (.row (.one (.int .i64))) (.one (.int .i64)))))) 71) (.cons (.own (.one .bool) 4) (.own (.one (.int .i64)) 3))))
  | 57 => some ((.cons .ref (.cons (.one (.int .i64)) (.cons (.one (.int .i64)) (.one (.int .i64))))))
  | 67 => some ((.cons .ref (.cons (.row (.one (.int .i64))) (.cons (.row (.one (.int .i64))) (.cons (.row (.cons (.row .byte) (.row .byte))) (.cons (.one (.int .i64)) (.cons (.one (.int .i64)) (.one .bool))))))))
  | _ => none
def sgTDconc : FuncId → Option Sig
  | 100 => some ⟨[(false, .own (.cons (.row .byte) (.row .byte)) 43), (false, .one (.int .i64))], [(false, .own (.cons (.row .byte) (.row .byte)) 43)], 2⟩
  | _ => none
theorem mixedDconc : Try.prog.follows .mixedOrders = true := by kernel_rfl

/-! slices.Concat[[]garnet/api.Pair,garnet/api.Pair] -/
def A82 (a0 : AK.T (.row (.row kPR))) (H : HP) (K : HT [(false, .row kPR)] → HP → Prop) : Prop :=
  lenA a0.length fun n1 => LoopA (V := ((List (List tPR)) × Int × (List (List tPR)) × Int × Int × Unit) × Unit) ((a0, 0, a0, n1, 0, ()), ()) H fun (x2 : ((List (List tPR)) × Int × (List (List tPR)) × Int × Int × Unit) × Unit) H3 B4 => ifB (decide (x2.1.2.2.2.2.1 < x2.1.2.2.2.1)) (atA x2.1.2.2.1 x2.1.2.2.2.2.1 fun (l5 : List tPR) => lenA l5.length fun n6 => ifB (decide ((IntKind.i64.wrap (x2.1.2.1 + n6)) < 0)) (False) (B4 ((x2.1.1, IntKind.i64.wrap (x2.1.2.1 + n6), x2.1.2.2.1, x2.1.2.2.2.1, IntKind.i64.wrap (x2.1.2.2.2.2.1 + 1), ()), ()) H3)) (callA Try.prog 100 [(false, .own kPR 43), (false, .one (.int .i64))] ([], x2.1.2.1, ()) [(false, .own kPR 43)] H3 fun (x7 : (List tPR) × Unit) H8 => lenA x2.1.1.length fun n9 => LoopA (V := ((List tPR) × (List (List tPR)) × Int × Int × Unit) × Unit) ((x7.1, x2.1.1, n9, 0, ()), ()) H8 fun (x10 : ((List tPR) × (List (List tPR)) × Int × Int × Unit) × Unit) H11 B12 => ifB (decide (x10.1.2.2.2.1 < x10.1.2.2.1)) (atA x10.1.2.1 x10.1.2.2.2.1 fun (l13 : List tPR) => appA x10.1.1.length l13.length 48 (B12 ((x10.1.1 ++ l13, x10.1.2.1, x10.1.2.2.1, IntKind.i64.wrap (x10.1.2.2.2.1 + 1), ()), ()) H11)) (K (x10.1.1, ()) H11))
theorem eqA82 (a0 : AK.T (.row (.row kPR))) (H : HP) (K : HT [(false, .row kPR)] → HP → Prop) : A82 a0 H K = aFn ⟨Try.prog, sgTDconc, okTDconc, [], akT0⟩ ⟨[(0, .row (.row kPR)), (2, .own kPR 43), (5, .row kPR), (6, .own kPR 43), (8, .row kPR), (9, .row (.row kPR)), (14, .row kPR), (16, .row kPR), (21, .one .any), (24, .own kPR 43), (25, .row (.row kPR)), (30, .row kPR), (31, .own kPR 43), (32, .row kPR), (33, .own kPR 43), (35, .own kPR 43)], []⟩ (.seq .n (.seq .n (.seq (.seq .n (.blk (.loop [0, 3, 9, 10, 11] [] (.seq .n (.seq (.cond .n .n) (.seq (.blk (.seq .n (.seq .n (.seq .n (.cond .n .n))))) .n)))))) (.seq .n (.seq (.seq .n (.blk (.loop [6, 25, 26, 27] [] (.seq .n (.seq (.cond .n .n) (.seq (.blk (.seq .n .n)) .n)))))) (.seq .n .n)))))) Try.f82 [(false, .row (.row kPR))] (a0, ()) [(false, .row kPR)] H K := by kernel_rfl
theorem callA82 (a0 : AK.T (.row (.row kPR))) (H : HP) (K : HT [(false, .row kPR)] → HP → Prop) (h : A82 a0 H K) : callA Try.prog 82 [(false, .row (.row kPR))] (a0, ()) [(false, .row kPR)] H K :=
  aFn_sound mixedDconc Try.func82 (Eq.mp (eqA82 a0 H K) h)
abbrev S82 (a0 : AK.T (.row (.row kPR))) (r : HT [(false, .row kPR)]) : Prop := PureA Try.prog 82 [(false, .row (.row kPR))] (a0, ()) [(false, .row kPR)] r
theorem pure82 (a0 : AK.T (.row (.row kPR))) {r : HT [(false, .row kPR)]} (h : ∀ (H : HP) (K : HT [(false, .row kPR)] → HP → Prop), K r H → A82 a0 H K) : S82 a0 r := fun H K hk => callA82 a0 H K (h H K hk)
end Go.Proofs.Ytdglfbeddbcbpaa

