/-
  WRITTEN BY mka.py (a program of ours): of each function named below: its formula over data, and that the kernel reckons this very formula out of the function's code.
-/
import Derived.Test.YtalniaipgdbbcaaProg
import Derived.Test.YtalniaipgdbbcaaDak
namespace Go.Proofs.Ytalniaipgdbbcaa
open Go Go.Gp Go.Ga
set_option linter.unusedVariables false
set_option maxRecDepth 100000
set_option maxHeartbeats 0
def okTDrow : TypeId → Option AK
  | 141 => some ((.cons (.row (.cons (.row .byte) (.row .byte))) (.one (.int .i64))))
  | _ => none
def sgTDrow : FuncId → Option Sig
  | 83 => some ⟨[(false, .row .byte)], [(false, .one .bool)], 0⟩
  | 84 => some ⟨[(false, .row (.cons (.row .byte) (.row .byte))), (false, .row .byte), (false, .row .byte)], [(false, .row (.cons (.row .byte) (.row .byte)))], 0⟩
  | 87 => some ⟨[(false, .row .byte)], [(false, .one .bool)], 0⟩
  | 88 => some ⟨[(false, .row .byte)], [(false, .one .bool)], 0⟩
  | 93 => some ⟨[(false, .row (.cons (.row .byte) (.row .byte))), (false, .row .byte)], [(false, .row (.cons (.row .byte) (.row .byte)))], 0⟩
  | 94 => some ⟨[(false, .row .byte), (false, .row .byte)], [(false, .one .bool)], 0⟩
  | 106 => some ⟨[(false, .row .byte), (false, .row .byte)], [(false, .one (.int .i64))], 0⟩
  | 113 => some ⟨[(false, .row .byte)], [(false, .row .byte)], 0⟩
  | 115 => some ⟨[(false, .row (.cons (.row .byte) (.row .byte))), (false, .row .byte)], [(false, .one (.int .i64)), (false, .one .bool)], 0⟩
  | 116 => some ⟨[(false, .row .byte), (false, .row .byte)], [(true, .cons (.row .byte) (.row .byte))], 0⟩
  | 123 => some ⟨[(false, .row .byte), (false, .row .byte)], [(false, .one .bool)], 0⟩
  | 125 => some ⟨[(false, .row .byte), (false, .row .byte)], [(false, .one (.int .i64))], 0⟩
  | 133 => some ⟨[(false, .row (.cons (.row .byte) (.row .byte))), (false, .row .byte)], [(false, .one (.int .i64)), (false, .one .bool)], 0⟩
  | 134 => some ⟨[(false, .row (.cons (.row .byte) (.row .byte)))], [(false, .own (.cons (.row .byte) (.row .byte)) 109)], 2⟩
  | 135 => some ⟨[(false, .own (.cons (.row .byte) (.row .byte)) 109), (false, .one (.int .i64)), (false, .one (.int .i64))], [(false, .own (.cons (.row .byte) (.row .byte)) 109)], 2⟩
  | 141 => some ⟨[(false, .own (.cons (.row .byte) (.row .byte)) 109), (false, .one (.int .i64)), (false, .row (.cons (.row .byte) (.row .byte)))], [(false, .own (.cons (.row .byte) (.row .byte)) 109)], 2⟩
  | 142 => some ⟨[(false, .row (.cons (.row .byte) (.row .byte))), (false, .row .byte), (false, .one .any)], [(false, .one (.int .i64)), (false, .one .bool)], 0⟩
  | 143 => some ⟨[(true, .cons (.row .byte) (.row .byte)), (false, .row .byte)], [(false, .one (.int .i64))], 0⟩
  | _ => none
theorem mixedDrow : Try.prog.follows .mixedOrders = true := by kernel_rfl
def A88 (a0 : AK.T (.row .byte)) (H : HP) (K : HT [(false, .one .bool)] → HP → Prop) : Prop :=
  lenA a0.length fun n1 => ifB (decide (n1 ≥ 1)) (lenA a0.length fun n2 => K (decide (n2 ≤ 16), ()) H) (K (false, ()) H)
theorem eqA88 (a0 : AK.T (.row .byte)) (H : HP) (K : HT [(false, .one .bool)] → HP → Prop) : A88 a0 H K = aFn ⟨Try.prog, sgTDrow, okTDrow, [], akT0⟩ ⟨[(0, .row .byte), (3, .row .byte), (7, .row .byte)], []⟩ (.seq .n (.seq .n .n)) Try.f88 [(false, .row .byte)] (a0, ()) [(false, .one .bool)] H K := by kernel_rfl
theorem callA88 (a0 : AK.T (.row .byte)) (H : HP) (K : HT [(false, .one .bool)] → HP → Prop) (h : A88 a0 H K) : callA Try.prog 88 [(false, .row .byte)] (a0, ()) [(false, .one .bool)] H K :=
  aFn_sound mixedDrow Try.func88 (Eq.mp (eqA88 a0 H K) h)
abbrev S88 (a0 : AK.T (.row .byte)) (r : HT [(false, .one .bool)]) : Prop := PureA Try.prog 88 [(false, .row .byte)] (a0, ()) [(false, .one .bool)] r
theorem pure88 (a0 : AK.T (.row .byte)) {r : HT [(false, .one .bool)]} (h : ∀ (H : HP) (K : HT [(false, .one .bool)] → HP → Prop), K r H → A88 a0 H K) : S88 a0 r := fun H K hk => callA88 a0 H K (h H K hk)
def A87 (a0 : AK.T (.row .byte)) (H : HP) (K : HT [(false, .one .bool)] → HP → Prop) : Prop :=
  lenA a0.length fun n1 => K (decide (n1 ≤ 32), ()) H
theorem eqA87 (a0 : AK.T (.row .byte)) (H : HP) (K : HT [(false, .one .bool)] → HP → Prop) : A87 a0 H K = aFn ⟨Try.prog, sgTDrow, okTDrow, [], akT0⟩ ⟨[(0, .row .byte), (3, .row .byte)], []⟩ (.seq .n (.seq .n .n)) Try.f87 [(false, .row .byte)] (a0, ()) [(false, .one .bool)] H K := by kernel_rfl
theorem callA87 (a0 : AK.T (.row .byte)) (H : HP) (K : HT [(false, .one .bool)] → HP → Prop) (h : A87 a0 H K) : callA Try.prog 87 [(false, .row .byte)] (a0, ()) [(false, .one .bool)] H K :=
  aFn_sound mixedDrow Try.func87 (Eq.mp (eqA87 a0 H K) h)
abbrev S87 (a0 : AK.T (.row .byte)) (r : HT [(false, .one .bool)]) : Prop := PureA Try.prog 87 [(false, .row .byte)] (a0, ()) [(false, .one .bool)] r
theorem pure87 (a0 : AK.T (.row .byte)) {r : HT [(false, .one .bool)]} (h : ∀ (H : HP) (K : HT [(false, .one .bool)] → HP → Prop), K r H → A87 a0 H K) : S87 a0 r := fun H K hk => callA87 a0 H K (h H K hk)
def A106 (a0 : AK.T (.row .byte)) (a1 : AK.T (.row .byte)) (H : HP) (K : HT [(false, .one (.int .i64))] → HP → Prop) : Prop :=
  retA Try.prog 125 [(false, .row .byte), (false, .row .byte)] (a0, a1, ()) [(false, .one (.int .i64))] fun (x1 : Int × Unit) => K (x1.1, ()) H
theorem eqA106 (a0 : AK.T (.row .byte)) (a1 : AK.T (.row .byte)) (H : HP) (K : HT [(false, .one (.int .i64))] → HP → Prop) : A106 a0 a1 H K = aFn ⟨Try.prog, sgTDrow, okTDrow, [], akT0⟩ ⟨[(0, .row .byte), (1, .row .byte), (5, .row .byte), (6, .row .byte)], []⟩ (.seq .n (.seq .n .n)) Try.f106 [(false, .row .byte), (false, .row .byte)] (a0, a1, ()) [(false, .one (.int .i64))] H K := by kernel_rfl
theorem callA106 (a0 : AK.T (.row .byte)) (a1 : AK.T (.row .byte)) (H : HP) (K : HT [(false, .one (.int .i64))] → HP → Prop) (h : A106 a0 a1 H K) : callA Try.prog 106 [(false, .row .byte), (false, .row .byte)] (a0, a1, ()) [(false, .one (.int .i64))] H K :=
  aFn_sound mixedDrow Try.func106 (Eq.mp (eqA106 a0 a1 H K) h)
abbrev S106 (a0 : AK.T (.row .byte)) (a1 : AK.T (.row .byte)) (r : HT [(false, .one (.int .i64))]) : Prop := PureA Try.prog 106 [(false, .row .byte), (false, .row .byte)] (a0, a1, ()) [(false, .one (.int .i64))] r
theorem pure106 (a0 : AK.T (.row .byte)) (a1 : AK.T (.row .byte)) {r : HT [(false, .one (.int .i64))]} (h : ∀ (H : HP) (K : HT [(false, .one (.int .i64))] → HP → Prop), K r H → A106 a0 a1 H K) : S106 a0 a1 r := fun H K hk => callA106 a0 a1 H K (h H K hk)
def A89 (a0 : AK.T kPR) (H : HP) (K : HT [(false, .one .bool)] → HP → Prop) : Prop :=
  lenA a0.1.length fun n1 => ifB (decide (n1 ≤ 16)) (lenA a0.2.length fun n2 => ifB (decide (n2 ≤ 16)) (lenA a0.2.length fun n3 => ifB (n3 == 0) (K (true, ()) H) (retA Try.prog 106 [(false, .row .byte), (false, .row .byte)] (a0.1, a0.2, ()) [(false, .one (.int .i64))] fun (x4 : Int × Unit) => K (decide (x4.1 < 0), ()) H)) (K (false, ()) H)) (K (false, ()) H)
theorem eqA89 (a0 : AK.T kPR) (H : HP) (K : HT [(false, .one .bool)] → HP → Prop) : A89 a0 H K = aFn ⟨Try.prog, sgTDrow, okTDrow, [], akT0⟩ ⟨[(4, .row .byte), (9, .row .byte), (15, .row .byte), (20, .row .byte), (22, .row .byte)], []⟩ (.seq .n (.seq .n .n)) Try.f89 [(true, kPR)] (a0, ()) [(false, .one .bool)] H K := by kernel_rfl
theorem callA89 (a0 : AK.T kPR) (H : HP) (K : HT [(false, .one .bool)] → HP → Prop) (h : A89 a0 H K) : callA Try.prog 89 [(true, kPR)] (a0, ()) [(false, .one .bool)] H K :=
  aFn_sound mixedDrow Try.func89 (Eq.mp (eqA89 a0 H K) h)
abbrev S89 (a0 : AK.T kPR) (r : HT [(false, .one .bool)]) : Prop := PureA Try.prog 89 [(true, kPR)] (a0, ()) [(false, .one .bool)] r
theorem pure89 (a0 : AK.T kPR) {r : HT [(false, .one .bool)]} (h : ∀ (H : HP) (K : HT [(false, .one .bool)] → HP → Prop), K r H → A89 a0 H K) : S89 a0 r := fun H K hk => callA89 a0 H K (h H K hk)
end Go.Proofs.Ytalniaipgdbbcaa
