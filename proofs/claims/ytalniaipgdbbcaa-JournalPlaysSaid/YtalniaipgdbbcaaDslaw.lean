/-
  WRITTEN BY mka.py (a program of ours): of each function named below: its formula over data, and that the kernel reckons this very formula out of the function's code.
-/
import Derived.Test.YtalniaipgdbbcaaProg
import Derived.Test.YtalniaipgdbbcaaDak
namespace Go.Proofs.Ytalniaipgdbbcaa
open Go Go.Gp Go.Ga
set_option linter.unusedVariables false
set_option maxRecDepth 100000
set_option maxHeartbeats 0
def okTDslaw : TypeId → Option AK
  | 141 => some ((.cons (.row (.cons (.row .byte) (.row .byte))) (.one (.int .i64))))
  | 125 => some ((.one .sl))
  | 3 => some ((.one (.int .i64)))
  | 24 => some ((.cons (.one (.int .i64)) (.cons (.one (.int .i64)) (.cons (.one (.int .i64)) (.cons (.row .byte) (.cons (.row .byte) (.cons (.row .byte) (.cons (.row .byte) (.one (.int .i64))))))))))
  | _ => none
def sgTDslaw : FuncId → Option Sig
  | 13 => some ⟨[], [(false, .one .bool)], 2⟩
  | 14 => some ⟨[(false, .one (.int .i64))], [(false, .ref), (false, .one .any)], 2⟩
  | 15 => some ⟨[(true, .cons (.one (.int .i64)) (.cons (.one (.int .i64)) (.cons (.one (.int .i64)) (.cons (.row .byte) (.cons (.row .byte) (.cons (.row .byte) (.cons (.row .byte) (.one (.int .i64)))))))))], [(false, .one .bool)], 0⟩
  | 16 => some ⟨[(true, .cons (.one (.int .i64)) (.cons (.one .bool) (.cons (.row .byte) (.cons (.row (.cons (.row .byte) (.row .byte))) (.one (.int .u64))))))], [(false, .one .bool)], 0⟩
  | 17 => some ⟨[(false, .ref), (true, .cons (.one (.int .i64)) (.cons (.one (.int .i64)) (.cons (.one (.int .i64)) (.cons (.row .byte) (.cons (.row .byte) (.cons (.row .byte) (.cons (.row .byte) (.one (.int .i64)))))))))], [(false, .one (.int .i64)), (false, .one .any)], 2⟩
  | 18 => some ⟨[(false, .ref), (false, .one (.int .i64))], [(false, .one (.int .i64))], 2⟩
  | 19 => some ⟨[(false, .ref), (false, .one (.int .i64)), (false, .one (.int .i64)), (false, .one (.int .i64))], [(true, .cons (.one (.int .i64)) (.cons (.one .bool) (.cons (.row .byte) (.cons (.row (.cons (.row .byte) (.row .byte))) (.one (.int .u64)))))), (false, .one .any)], 2⟩
  | 20 => some ⟨[(false, .ref), (false, .one (.int .i64)), (true, .cons (.one (.int .i64)) (.cons (.one .bool) (.cons (.row .byte) (.cons (.row (.cons (.row .byte) (.row .byte))) (.one (.int .u64))))))], [(false, .one .any)], 2⟩
  | 21 => some ⟨[(false, .ref), (false, .one (.int .i64))], [(false, .one .any)], 2⟩
  | 22 => some ⟨[(true, .cons (.one (.int .i64)) (.cons (.one .bool) (.cons (.row .byte) (.cons (.row (.cons (.row .byte) (.row .byte))) (.one (.int .u64)))))), (true, .cons (.one (.int .i64)) (.cons (.one .bool) (.cons (.row .byte) (.cons (.row (.cons (.row .byte) (.row .byte))) (.one (.int .u64))))))], [(false, .one .bool)], 0⟩
  | 23 => some ⟨[(false, .ref), (false, .one (.int .i64))], [(false, .one (.int .i64))], 1⟩
  | 24 => some ⟨[(false, .one (.int .i64)), (false, .one (.int .i64))], [(false, .one (.int .i64))], 0⟩
  | 25 => some ⟨[(false, .one .sl), (true, .cons (.one (.int .i64)) (.cons (.one (.int .i64)) (.cons (.one (.int .i64)) (.cons (.row .byte) (.cons (.row .byte) (.cons (.row .byte) (.cons (.row .byte) (.one (.int .i64)))))))))], [(false, .one (.int .i64)), (false, .one (.int .i64))], 2⟩
  | 26 => some ⟨[(false, .one .sl), (false, .one (.int .i64)), (false, .one (.int .i64)), (false, .one (.int .i64)), (false, .one (.int .i64))], [(false, .one (.int .i64))], 2⟩
  | 27 => some ⟨[(false, .ref), (false, .one (.int .i64))], [(false, .one .any)], 2⟩
  | 28 => some ⟨[(false, .one .sl), (false, .one (.int .i64)), (false, .one (.int .i64)), (false, .one (.int .i64))], [(true, .cons (.one (.int .i64)) (.cons (.one .bool) (.cons (.row .byte) (.cons (.row (.cons (.row .byte) (.row .byte))) (.one (.int .u64)))))), (false, .one (.int .i64))], 2⟩
  | 29 => some ⟨[(false, .one .any)], [(false, .one (.int .i64))], 0⟩
  | 30 => some ⟨[(false, .ref)], [(false, .one (.int .i64))], 1⟩
  | 31 => some ⟨[(false, .ref), (false, .one (.int .i64))], [(true, .cons (.one (.int .i64)) (.cons (.one (.int .i64)) (.cons (.one (.int .i64)) (.cons (.row .byte) (.cons (.row .byte) (.cons (.row .byte) (.cons (.row .byte) (.one (.int .i64))))))))), (false, .one .any)], 1⟩
  | 32 => some ⟨[(true, .cons (.one (.int .i64)) (.cons (.one (.int .i64)) (.cons (.one (.int .i64)) (.cons (.row .byte) (.cons (.row .byte) (.cons (.row .byte) (.cons (.row .byte) (.one (.int .i64))))))))), (true, .cons (.one (.int .i64)) (.cons (.one (.int .i64)) (.cons (.one (.int .i64)) (.cons (.row .byte) (.cons (.row .byte) (.cons (.row .byte) (.cons (.row .byte) (.one (.int .i64)))))))))], [(false, .one .bool)], 0⟩
  | 33 => some ⟨[(false, .one .sl), (false, .one (.int .i64))], [(false, .one (.int .i64))], 1⟩
  | 35 => some ⟨[(false, .row (.cons (.row .byte) (.row .byte))), (false, .one (.int .i64))], [(false, .one .bool)], 0⟩
  | _ => none
theorem mixedDslaw : Try.prog.follows .mixedOrders = true := by kernel_rfl
def A29 (a0 : AK.T (.one .any)) (H : HP) (K : HT [(false, .one (.int .i64))] → HP → Prop) : Prop :=
  ((isIfc a0 : Bool) = true) ∧ (ifB (isNilV a0) (K (0, ()) H) (LoopA (V := (Value × Int × Unit) × Unit) ((a0, 1, ()), ()) H fun (x1 : (Value × Int × Unit) × Unit) H2 B3 => ifB (decide (x1.1.2.1 ≤ 11)) (ifcEq Try.prog x1.1.1 (.iface 44 (.int .i64 x1.1.2.1)) fun (b4 : Bool) => ifB b4 (K (x1.1.2.1, ()) H2) (B3 ((x1.1.1, IntKind.i64.wrap (x1.1.2.1 + 1), ()), ()) H2)) (K ((-1), ()) H2)))
theorem eqA29 (a0 : AK.T (.one .any)) (H : HP) (K : HT [(false, .one (.int .i64))] → HP → Prop) : A29 a0 H K = aFn ⟨Try.prog, sgTDslaw, okTDslaw, [], akT0⟩ ⟨[(0, .one .any), (4, .one .any), (10, .one .any), (12, .one .any)], []⟩ (.seq .n (.seq (.seq .n (.cond (.seq .n .n) .n)) (.seq (.seq .n (.blk (.loop [0, 3] [] (.seq (.seq .n (.cond .n .n)) (.seq (.blk (.seq .n (.cond (.seq .n .n) .n))) .n))))) (.seq .n .n)))) Try.f29 [(false, .one .any)] (a0, ()) [(false, .one (.int .i64))] H K := by kernel_rfl
theorem callA29 (a0 : AK.T (.one .any)) (H : HP) (K : HT [(false, .one (.int .i64))] → HP → Prop) (h : A29 a0 H K) : callA Try.prog 29 [(false, .one .any)] (a0, ()) [(false, .one (.int .i64))] H K :=
  aFn_sound mixedDslaw Try.func29 (Eq.mp (eqA29 a0 H K) h)
abbrev S29 (a0 : AK.T (.one .any)) (r : HT [(false, .one (.int .i64))]) : Prop := PureA Try.prog 29 [(false, .one .any)] (a0, ()) [(false, .one (.int .i64))] r
theorem pure29 (a0 : AK.T (.one .any)) {r : HT [(false, .one (.int .i64))]} (h : ∀ (H : HP) (K : HT [(false, .one (.int .i64))] → HP → Prop), K r H → A29 a0 H K) : S29 a0 r := fun H K hk => callA29 a0 H K (h H K hk)
def A32 (a0 : AK.T kRQ) (a1 : AK.T kRQ) (H : HP) (K : HT [(false, .one .bool)] → HP → Prop) : Prop :=
  ifB ((a0.1 : Int) == a1.1) (ifB ((a0.2.1 : Int) == a1.2.1) (ifB ((a0.2.2.1 : Int) == a1.2.2.1) (ifB ((a0.2.2.2.2.2.2.2 : Int) == a1.2.2.2.2.2.2.2) (ifB ((ByteArray.toList (bys a0.2.2.2.1) : List UInt8) == (ByteArray.toList (bys a1.2.2.2.1))) (ifB ((ByteArray.toList (bys a0.2.2.2.2.1) : List UInt8) == (ByteArray.toList (bys a1.2.2.2.2.1))) (ifB ((ByteArray.toList (bys a0.2.2.2.2.2.1) : List UInt8) == (ByteArray.toList (bys a1.2.2.2.2.2.1))) (K ((ByteArray.toList (bys a0.2.2.2.2.2.2.1) : List UInt8) == (ByteArray.toList (bys a1.2.2.2.2.2.2.1)), ()) H) (K (false, ()) H)) (K (false, ()) H)) (K (false, ()) H)) (K (false, ()) H)) (K (false, ()) H)) (K (false, ()) H)) (K (false, ()) H)
theorem eqA32 (a0 : AK.T kRQ) (a1 : AK.T kRQ) (H : HP) (K : HT [(false, .one .bool)] → HP → Prop) : A32 a0 a1 H K = aFn ⟨Try.prog, sgTDslaw, okTDslaw, [], akT0⟩ ⟨[(33, .row .byte), (36, .row .byte), (42, .row .byte), (45, .row .byte), (51, .row .byte), (54, .row .byte), (60, .row .byte), (63, .row .byte)], []⟩ (.seq .n (.seq .n .n)) Try.f32 [(true, kRQ), (true, kRQ)] (a0, a1, ()) [(false, .one .bool)] H K := by kernel_rfl
theorem callA32 (a0 : AK.T kRQ) (a1 : AK.T kRQ) (H : HP) (K : HT [(false, .one .bool)] → HP → Prop) (h : A32 a0 a1 H K) : callA Try.prog 32 [(true, kRQ), (true, kRQ)] (a0, a1, ()) [(false, .one .bool)] H K :=
  aFn_sound mixedDslaw Try.func32 (Eq.mp (eqA32 a0 a1 H K) h)
abbrev S32 (a0 : AK.T kRQ) (a1 : AK.T kRQ) (r : HT [(false, .one .bool)]) : Prop := PureA Try.prog 32 [(true, kRQ), (true, kRQ)] (a0, a1, ()) [(false, .one .bool)] r
theorem pure32 (a0 : AK.T kRQ) (a1 : AK.T kRQ) {r : HT [(false, .one .bool)]} (h : ∀ (H : HP) (K : HT [(false, .one .bool)] → HP → Prop), K r H → A32 a0 a1 H K) : S32 a0 a1 r := fun H K hk => callA32 a0 a1 H K (h H K hk)
end Go.Proofs.Ytalniaipgdbbcaa
