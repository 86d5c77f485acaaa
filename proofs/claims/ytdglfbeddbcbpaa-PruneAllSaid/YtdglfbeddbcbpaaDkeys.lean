/-
  WRITTEN BY mka.py (a program of ours): of each function named below: its formula over data, and that the kernel reckons this very formula out of the function's code.
-/
import Derived.Test.YtdglfbeddbcbpaaProg
import Derived.Test.YtdglfbeddbcbpaaDak
namespace Go.Proofs.Ytdglfbeddbcbpaa
open Go Go.Gp Go.Ga
set_option linter.unusedVariables false
set_option maxRecDepth 100000
set_option maxHeartbeats 0
def okTDkeys : TypeId → Option AK
  | 120 => some ((.cons (.own (.cons (.one .bool) (.cons (.row (.cons (.row .byte) (.row .byte))) (.cons (.row (.row .byte)) (.cons (.row (.one (.int .i64))) (.one (.int .i64)))))) 71) (.cons (.own (.one .bool) 4) (.own (.one (.int .i64)) 3))))
  | 57 => some ((.cons .ref (.cons (.one (.int .i64)) (.cons (.one (.int .i64)) (.one (.int .i64))))))
  | 67 => some ((.cons .ref (.cons (.own (.one (.int .i64)) 3) (.cons (.own (.one (.int .i64)) 3) (.cons (.own (.cons (.row .byte) (.row .byte)) 43) (.cons (.one (.int .i64)) (.cons (.one (.int .i64)) (.one .bool))))))))
  | _ => none
def sgTDkeys : FuncId → Option Sig
  | 89 => some ⟨[(false, .row .byte), (false, .row .byte)], [(false, .one (.int .i64))], 0⟩
  | _ => none
theorem mixedDkeys : Try.prog.follows .mixedOrders = true := by kernel_rfl
def A101 (a0 : AK.T (.brw (.row .byte))) (a1 : AK.T (.row .byte)) (H : HP) (K : HT [(false, .one (.int .i64)), (false, .one .bool)] → HP → Prop) : Prop :=
  lenA a0.length fun n1 => LoopA (V := (List (List UInt8) × List UInt8 × Unit × Int × Int × Int × Unit) × Unit) ((a0, a1, (), n1, 0, n1, ()), ()) H fun (x2 : (List (List UInt8) × List UInt8 × Unit × Int × Int × Int × Unit) × Unit) H3 B4 => ifB (decide (x2.1.2.2.2.2.1 < x2.1.2.2.2.2.2.1)) ((((0 : Int) ≤ 1)) ∧ (atA x2.1.1 (IntKind.i64.wrap (shrI .u64 (IntKind.u64.wrap (IntKind.i64.wrap (x2.1.2.2.2.2.1 + x2.1.2.2.2.2.2.1))) 1)) fun (l5 : List UInt8) => callA Try.prog 89 [(false, .row .byte), (false, .row .byte)] (l5, x2.1.2.1, ()) [(false, .one (.int .i64))] H3 fun (x6 : Int × Unit) H7 => ifB (decide (x6.1 < 0)) (B4 ((x2.1.1, x2.1.2.1, (), x2.1.2.2.2.1, IntKind.i64.wrap ((IntKind.i64.wrap (shrI .u64 (IntKind.u64.wrap (IntKind.i64.wrap (x2.1.2.2.2.2.1 + x2.1.2.2.2.2.2.1))) 1)) + 1), x2.1.2.2.2.2.2.1, ()), ()) H7) (B4 ((x2.1.1, x2.1.2.1, (), x2.1.2.2.2.1, x2.1.2.2.2.2.1, IntKind.i64.wrap (shrI .u64 (IntKind.u64.wrap (IntKind.i64.wrap (x2.1.2.2.2.2.1 + x2.1.2.2.2.2.2.1))) 1), ()), ()) H7))) (ifB (decide (x2.1.2.2.2.2.1 < x2.1.2.2.2.1)) (atA x2.1.1 x2.1.2.2.2.2.1 fun (l8 : List UInt8) => callA Try.prog 89 [(false, .row .byte), (false, .row .byte)] (l8, x2.1.2.1, ()) [(false, .one (.int .i64))] H3 fun (x9 : Int × Unit) H10 => K (x2.1.2.2.2.2.1, (x9.1 : Int) == 0, ()) H10) (K (x2.1.2.2.2.2.1, false, ()) H3))
theorem eqA101 (a0 : AK.T (.brw (.row .byte))) (a1 : AK.T (.row .byte)) (H : HP) (K : HT [(false, .one (.int .i64)), (false, .one .bool)] → HP → Prop) : A101 a0 a1 H K = aFn ⟨Try.prog, sgTDkeys, okTDkeys, [], akT0⟩ ⟨[(0, .row (.row .byte)), (1, .row .byte), (12, .row (.row .byte)), (25, .row (.row .byte)), (28, .row .byte), (29, .row .byte), (41, .row (.row .byte)), (44, .row .byte), (45, .row .byte)], []⟩ (.seq .n (.seq .n (.seq .n (.seq (.blk (.loop [0, 1, 2, 8, 9, 10] [] (.seq (.seq .n (.cond .n .n)) (.blk (.seq .n (.seq .n (.cond .n .n))))))) (.seq .n .n))))) Try.f101 [(false, .brw (.row .byte)), (false, .row .byte), (false, .one .any)] (a0, a1, .func (.func 89) #[] #[], ()) [(false, .one (.int .i64)), (false, .one .bool)] H K := by kernel_rfl
theorem callA101 (a0 : AK.T (.brw (.row .byte))) (a1 : AK.T (.row .byte)) (H : HP) (K : HT [(false, .one (.int .i64)), (false, .one .bool)] → HP → Prop) (h : A101 a0 a1 H K) : callA Try.prog 101 [(false, .brw (.row .byte)), (false, .row .byte), (false, .one .any)] (a0, a1, .func (.func 89) #[] #[], ()) [(false, .one (.int .i64)), (false, .one .bool)] H K :=
  aFn_sound mixedDkeys Try.func101 (Eq.mp (eqA101 a0 a1 H K) h)
abbrev S101 (a0 : AK.T (.brw (.row .byte))) (a1 : AK.T (.row .byte)) (r : HT [(false, .one (.int .i64)), (false, .one .bool)]) : Prop := PureA Try.prog 101 [(false, .brw (.row .byte)), (false, .row .byte), (false, .one .any)] (a0, a1, .func (.func 89) #[] #[], ()) [(false, .one (.int .i64)), (false, .one .bool)] r
theorem pure101 (a0 : AK.T (.brw (.row .byte))) (a1 : AK.T (.row .byte)) {r : HT [(false, .one (.int .i64)), (false, .one .bool)]} (h : ∀ (H : HP) (K : HT [(false, .one (.int .i64)), (false, .one .bool)] → HP → Prop), K r H → A101 a0 a1 H K) : S101 a0 a1 r := fun H K hk => callA101 a0 a1 H K (h H K hk)
end Go.Proofs.Ytdglfbeddbcbpaa
