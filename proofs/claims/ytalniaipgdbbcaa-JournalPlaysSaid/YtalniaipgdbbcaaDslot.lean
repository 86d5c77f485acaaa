/-
  WRITTEN BY mka.py (a program of ours): of each function named below: its formula over data, and that the kernel reckons this very formula out of the function's code.
-/
import Derived.Test.YtalniaipgdbbcaaProg
import Derived.Test.YtalniaipgdbbcaaDak
namespace Go.Proofs.Ytalniaipgdbbcaa
open Go Go.Gp Go.Ga
set_option linter.unusedVariables false
set_option maxRecDepth 100000
set_option maxHeartbeats 0
def okTDslot : TypeId → Option AK
  | 141 => some ((.cons (.row (.cons (.row .byte) (.row .byte))) (.one (.int .i64))))
  | 125 => some ((.one .sl))
  | 3 => some ((.one (.int .i64)))
  | 24 => some ((.cons (.one (.int .i64)) (.cons (.one (.int .i64)) (.cons (.one (.int .i64)) (.cons (.row .byte) (.cons (.row .byte) (.cons (.row .byte) (.cons (.row .byte) (.one (.int .i64))))))))))
  | _ => none
def sgTDslot : FuncId → Option Sig
  | 18 => some ⟨[(false, .ref), (false, .one (.int .i64))], [(false, .one (.int .i64))], 2⟩
  | 33 => some ⟨[(false, .one .sl), (false, .one (.int .i64))], [(false, .one (.int .i64))], 1⟩
  | 42 => some ⟨[(true, .cons (.one (.int .i64)) (.cons (.one (.int .i64)) (.cons (.one (.int .i64)) (.cons (.row .byte) (.cons (.row .byte) (.cons (.row .byte) (.cons (.row .byte) (.one (.int .i64)))))))))], [(false, .one .bool)], 0⟩
  | 43 => some ⟨[(true, .cons (.one (.int .i64)) (.cons (.one (.int .i64)) (.cons (.one (.int .i64)) (.cons (.row .byte) (.cons (.row .byte) (.cons (.row .byte) (.cons (.row .byte) (.one (.int .i64)))))))))], [(false, .one .bool)], 0⟩
  | 75 => some ⟨[(true, .cons (.one (.int .i64)) (.cons (.cons (.one (.int .i64)) (.cons (.one (.int .i64)) (.cons (.one (.int .i64)) (.cons (.row .byte) (.cons (.row .byte) (.cons (.row .byte) (.cons (.row .byte) (.one (.int .i64))))))))) (.cons (.one (.int .i64)) (.cons (.one .bool) (.cons (.row .byte) (.cons (.row (.cons (.row .byte) (.row .byte))) (.one (.int .u64)))))))), (false, .ref)], [(false, .one .bool)], 1⟩
  | 76 => some ⟨[(false, .one .sl), (false, .fn 75)], [(false, .one .bool)], 1⟩
  | 77 => some ⟨[(true, .cons (.one (.int .i64)) (.cons (.one (.int .i64)) (.cons (.one (.int .i64)) (.cons (.row .byte) (.cons (.row .byte) (.cons (.row .byte) (.cons (.row .byte) (.one (.int .i64)))))))))], [(true, .cons (.one (.int .i64)) (.cons (.one (.int .i64)) (.cons (.one (.int .i64)) (.cons (.row .byte) (.cons (.row .byte) (.cons (.row .byte) (.cons (.row .byte) (.one (.int .i64)))))))))], 0⟩
  | 78 => some ⟨[(false, .one .sl), (false, .fn 79)], [(false, .one (.int .i64))], 1⟩
  | 79 => some ⟨[(true, .cons (.one (.int .i64)) (.cons (.cons (.one (.int .i64)) (.cons (.one (.int .i64)) (.cons (.one (.int .i64)) (.cons (.row .byte) (.cons (.row .byte) (.cons (.row .byte) (.cons (.row .byte) (.one (.int .i64))))))))) (.cons (.one (.int .i64)) (.cons (.one .bool) (.cons (.row .byte) (.cons (.row (.cons (.row .byte) (.row .byte))) (.one (.int .u64)))))))), (false, .ref)], [(false, .one .bool)], 1⟩
  | 80 => some ⟨[(false, .ref), (false, .one (.int .i64))], [(false, .one .ptr)], 1⟩
  | 81 => some ⟨[(false, .ref), (false, .one (.int .i64)), (false, .one (.int .i64)), (false, .row (.one (.int .i64)))], [(false, .one .any)], 2⟩
  | 82 => some ⟨[(true, .cons (.one (.int .i64)) (.cons (.one .bool) (.cons (.row .byte) (.cons (.row (.cons (.row .byte) (.row .byte))) (.one (.int .u64))))))], [(true, .cons (.one (.int .i64)) (.cons (.one .bool) (.cons (.row .byte) (.cons (.row (.cons (.row .byte) (.row .byte))) (.one (.int .u64))))))], 0⟩
  | 113 => some ⟨[(false, .row .byte)], [(false, .row .byte)], 0⟩
  | 114 => some ⟨[(false, .row (.one (.int .i64))), (false, .one (.int .i64))], [(false, .one .bool)], 0⟩
  | 130 => some ⟨[(false, .row (.one (.int .i64))), (false, .one (.int .i64))], [(false, .one (.int .i64))], 0⟩
  | _ => none
theorem mixedDslot : Try.prog.follows .mixedOrders = true := by kernel_rfl
def A114 (a0 : AK.T (.row (.one (.int .i64)))) (a1 : AK.T (.one (.int .i64))) (H : HP) (K : HT [(false, .one .bool)] → HP → Prop) : Prop :=
  retA Try.prog 130 [(false, .row (.one (.int .i64))), (false, .one (.int .i64))] (a0, a1, ()) [(false, .one (.int .i64))] fun (x1 : Int × Unit) => K (decide (x1.1 ≥ 0), ()) H
theorem eqA114 (a0 : AK.T (.row (.one (.int .i64)))) (a1 : AK.T (.one (.int .i64))) (H : HP) (K : HT [(false, .one .bool)] → HP → Prop) : A114 a0 a1 H K = aFn ⟨Try.prog, sgTDslot, okTDslot, [], akT0⟩ ⟨[(0, .row (.one (.int .i64))), (5, .row (.one (.int .i64)))], []⟩ (.seq .n (.seq .n .n)) Try.f114 [(false, .row (.one (.int .i64))), (false, .one (.int .i64))] (a0, a1, ()) [(false, .one .bool)] H K := by kernel_rfl
theorem callA114 (a0 : AK.T (.row (.one (.int .i64)))) (a1 : AK.T (.one (.int .i64))) (H : HP) (K : HT [(false, .one .bool)] → HP → Prop) (h : A114 a0 a1 H K) : callA Try.prog 114 [(false, .row (.one (.int .i64))), (false, .one (.int .i64))] (a0, a1, ()) [(false, .one .bool)] H K :=
  aFn_sound mixedDslot Try.func114 (Eq.mp (eqA114 a0 a1 H K) h)
abbrev S114 (a0 : AK.T (.row (.one (.int .i64)))) (a1 : AK.T (.one (.int .i64))) (r : HT [(false, .one .bool)]) : Prop := PureA Try.prog 114 [(false, .row (.one (.int .i64))), (false, .one (.int .i64))] (a0, a1, ()) [(false, .one .bool)] r
theorem pure114 (a0 : AK.T (.row (.one (.int .i64)))) (a1 : AK.T (.one (.int .i64))) {r : HT [(false, .one .bool)]} (h : ∀ (H : HP) (K : HT [(false, .one .bool)] → HP → Prop), K r H → A114 a0 a1 H K) : S114 a0 a1 r := fun H K hk => callA114 a0 a1 H K (h H K hk)
def A130 (a0 : AK.T (.row (.one (.int .i64)))) (a1 : AK.T (.one (.int .i64))) (H : HP) (K : HT [(false, .one (.int .i64))] → HP → Prop) : Prop :=
  lenA a0.length fun n1 => LoopA (V := (List Int × Int × Int × Int × Unit) × Unit) ((a0, a1, n1, 0, ()), ()) H fun (x2 : (List Int × Int × Int × Int × Unit) × Unit) H3 B4 => ifB (decide (x2.1.2.2.2.1 < x2.1.2.2.1)) (atA x2.1.1 x2.1.2.2.2.1 fun n5 => ifB ((x2.1.2.1 : Int) == n5) (K (x2.1.2.2.2.1, ()) H3) (B4 ((x2.1.1, x2.1.2.1, x2.1.2.2.1, IntKind.i64.wrap (x2.1.2.2.2.1 + 1), ()), ()) H3)) (K ((-1), ()) H3)
theorem eqA130 (a0 : AK.T (.row (.one (.int .i64)))) (a1 : AK.T (.one (.int .i64))) (H : HP) (K : HT [(false, .one (.int .i64))] → HP → Prop) : A130 a0 a1 H K = aFn ⟨Try.prog, sgTDslot, okTDslot, [], akT0⟩ ⟨[(0, .row (.one (.int .i64))), (6, .row (.one (.int .i64))), (12, .row (.one (.int .i64)))], []⟩ (.seq .n (.seq (.seq .n (.blk (.loop [0, 1, 7, 8] [] (.seq .n (.seq (.cond .n .n) (.seq (.blk (.seq .n (.seq .n (.cond (.seq .n .n) .n)))) .n)))))) (.seq .n .n))) Try.f130 [(false, .row (.one (.int .i64))), (false, .one (.int .i64))] (a0, a1, ()) [(false, .one (.int .i64))] H K := by kernel_rfl
theorem callA130 (a0 : AK.T (.row (.one (.int .i64)))) (a1 : AK.T (.one (.int .i64))) (H : HP) (K : HT [(false, .one (.int .i64))] → HP → Prop) (h : A130 a0 a1 H K) : callA Try.prog 130 [(false, .row (.one (.int .i64))), (false, .one (.int .i64))] (a0, a1, ()) [(false, .one (.int .i64))] H K :=
  aFn_sound mixedDslot Try.func130 (Eq.mp (eqA130 a0 a1 H K) h)
abbrev S130 (a0 : AK.T (.row (.one (.int .i64)))) (a1 : AK.T (.one (.int .i64))) (r : HT [(false, .one (.int .i64))]) : Prop := PureA Try.prog 130 [(false, .row (.one (.int .i64))), (false, .one (.int .i64))] (a0, a1, ()) [(false, .one (.int .i64))] r
theorem pure130 (a0 : AK.T (.row (.one (.int .i64)))) (a1 : AK.T (.one (.int .i64))) {r : HT [(false, .one (.int .i64))]} (h : ∀ (H : HP) (K : HT [(false, .one (.int .i64))] → HP → Prop), K r H → A130 a0 a1 H K) : S130 a0 a1 r := fun H K hk => callA130 a0 a1 H K (h H K hk)
end Go.Proofs.Ytalniaipgdbbcaa
