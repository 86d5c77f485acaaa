/-
  WRITTEN BY mka.py (a program of ours): of each function named below: its formula over data, and that the kernel reckons this very formula out of the function's code.
-/
import Derived.Test.YtbaclnddcobdmaaProg
import Derived.Test.YtbaclnddcobdmaaDaka
namespace Go.Proofs.Ytbaclnddcobdmaa.R
open Go Go.Gp Go.Ga
set_option linter.unusedVariables false
set_option maxRecDepth 100000
set_option maxHeartbeats 0
def okTDarq : TypeId → Option AK
  | 158 => some ((.cons (.own (.cons (.one .bool) (.cons (.row (.cons (.row .byte) (.row .byte))) (.cons (.row (.row .byte)) (.cons (.row (.one (.int .i64))) (.one (.int .i64)))))) 75) (.cons (.own (.one .bool) 4) (.own (.one (.int .i64)) 3))))
  | 111 => some ((.cons (.own (.cons (.one .bool) (.cons (.row (.cons (.row .byte) (.row .byte))) (.cons (.row (.row .byte)) (.cons (.row (.one (.int .i64))) (.one (.int .i64)))))) 115) (.cons (.own (.one .bool) 4) (.own (.one (.int .i64)) 3))))
  | _ => none
def sgTDarq : FuncId → Option Sig
  | _ => none
theorem mixedDarq : Try.prog.follows .mixedOrders = true := by kernel_rfl
def A67 (a0 : AK.T (kNK)) (H : HP) (K : HT [(true, kNK)] → HP → Prop) : Prop :=
  K ((a0.1, a0.2.1, a0.2.2.1, a0.2.2.2.1, a0.2.2.2.2), ()) H
theorem eqA67 (a0 : AK.T (kNK)) (H : HP) (K : HT [(true, kNK)] → HP → Prop) : A67 a0 H K = aFn ⟨Try.prog, sgTDarq, okTDarq, [], akT0⟩ ⟨[(6, .row kPR), (8, .row (.row .byte)), (10, .row (.one (.int .i64)))], []⟩ (.seq .n (.seq .n .n)) Try.f67 [(true, kNK)] (a0, ()) [(true, kNK)] H K := by kernel_rfl
theorem callA67 (a0 : AK.T (kNK)) (H : HP) (K : HT [(true, kNK)] → HP → Prop) (h : A67 a0 H K) : callA Try.prog 67 [(true, kNK)] (a0, ()) [(true, kNK)] H K :=
  aFn_sound mixedDarq Try.func67 (Eq.mp (eqA67 a0 H K) h)
abbrev S67 (a0 : AK.T (kNK)) (r : HT [(true, kNK)]) : Prop := PureA Try.prog 67 [(true, kNK)] (a0, ()) [(true, kNK)] r
theorem pure67 (a0 : AK.T (kNK)) {r : HT [(true, kNK)]} (h : ∀ (H : HP) (K : HT [(true, kNK)] → HP → Prop), K r H → A67 a0 H K) : S67 a0 r := fun H K hk => callA67 a0 H K (h H K hk)
end Go.Proofs.Ytbaclnddcobdmaa.R
