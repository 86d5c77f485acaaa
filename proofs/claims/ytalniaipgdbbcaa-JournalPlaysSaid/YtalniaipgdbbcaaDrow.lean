/-
  WRITTEN BY mka.py (a program of ours): of each function named below: its formula over data, and that the kernel reckons this very formula out of the function's code.
-/
import Derived.Test.YtalniaipgdbbcaaProg
import Derived.Test.YtalniaipgdbbcaaDak
namespace Go.Proofs.Ytalniaipgdbbcaa
open Go Go.Gp Go.Ga
set_option linter.unusedVariables false
set_option maxRecDepth 100000
set_option maxHeartbeats 0
def okTDrow : TypeId → Option AK
  | 141 => some ((.cons (.row (.cons (.row .byte) (.row .byte))) (.one (.int .i64))))
  | _ => none
def sgTDrow : FuncId → Option Sig
  | 83 => some ⟨[(false, .row .byte)], [(false, .one .bool)], 0⟩
  | 84 => some ⟨[(false, .row (.cons (.row .byte) (.row .byte))), (false, .row .byte), (false, .row .byte)], [(false, .row (.cons (.row .byte) (.row .byte)))], 0⟩
  | 87 => some ⟨[(false, .row .byte)], [(false, .one .bool)], 0⟩
  | 88 => some ⟨[(false, .row .byte)], [(false, .one .bool)], 0⟩
  | 93 => some ⟨[(false, .row (.cons (.row .byte) (.row .byte))), (false, .row .byte)], [(false, .row (.cons (.row .byte) (.row .byte)))], 0⟩
  | 94 => some ⟨[(false, .row .byte), (false, .row .byte)], [(false, .one .bool)], 0⟩
  | 106 => some ⟨[(false, .row .byte), (false, .row .byte)], [(false, .one (.int .i64))], 0⟩
  | 113 => some ⟨[(false, .row .byte)], [(false, .row .byte)], 0⟩
  | 115 => some ⟨[(false, .row (.cons (.row .byte) (.row .byte))), (false, .row .byte)], [(false, .one (.int .i64)), (false, .one .bool)], 0⟩
  | 116 => some ⟨[(false, .row .byte), (false, .row .byte)], [(true, .cons (.row .byte) (.row .byte))], 0⟩
  | 123 => some ⟨[(false, .row .byte), (false, .row .byte)], [(false, .one .bool)], 0⟩
  | 125 => some ⟨[(false, .row .byte), (false, .row .byte)], [(false, .one (.int .i64))], 0⟩
  | 133 => some ⟨[(false, .row (.cons (.row .byte) (.row .byte))), (false, .row .byte)], [(false, .one (.int .i64)), (false, .one .bool)], 0⟩
  | 134 => some ⟨[(false, .row (.cons (.row .byte) (.row .byte)))], [(false, .own (.cons (.row .byte) (.row .byte)) 109)], 2⟩
  | 135 => some ⟨[(false, .own (.cons (.row .byte) (.row .byte)) 109), (false, .one (.int .i64)), (false, .one (.int .i64))], [(false, .own (.cons (.row .byte) (.row .byte)) 109)], 2⟩
  | 141 => some ⟨[(false, .own (.cons (.row .byte) (.row .byte)) 109), (false, .one (.int .i64)), (false, .row (.cons (.row .byte) (.row .byte)))], [(false, .own (.cons (.row .byte) (.row .byte)) 109)], 2⟩
  | 142 => some ⟨[(false, .row (.cons (.row .byte) (.row .byte))), (false, .row .byte), (false, .one .any)], [(false, .one (.int .i64)), (false, .one .bool)], 0⟩
  | 143 => some ⟨[(true, .cons (.row .byte) (.row .byte)), (false, .row .byte)], [(false, .one (.int .i64))], 0⟩
  | _ => none
theorem mixedDrow : Try.prog.follows .mixedOrders = true := by kernel_rfl
def A83 (a0 : AK.T (.row .byte)) (H : HP) (K : HT [(false, .one .bool)] → HP → Prop) : Prop :=
  lenA a0.length fun n1 => ifB (decide (n1 > 0)) (lenA a0.length fun n2 => K (decide (n2 ≤ 16), ()) H) (K (false, ()) H)
theorem eqA83 (a0 : AK.T (.row .byte)) (H : HP) (K : HT [(false, .one .bool)] → HP → Prop) : A83 a0 H K = aFn ⟨Try.prog, sgTDrow, okTDrow, [], akT0⟩ ⟨[(0, .row .byte), (3, .row .byte), (7, .row .byte)], []⟩ (.seq .n (.seq .n .n)) Try.f83 [(false, .row .byte)] (a0, ()) [(false, .one .bool)] H K := by kernel_rfl
theorem callA83 (a0 : AK.T (.row .byte)) (H : HP) (K : HT [(false, .one .bool)] → HP → Prop) (h : A83 a0 H K) : callA Try.prog 83 [(false, .row .byte)] (a0, ()) [(false, .one .bool)] H K :=
  aFn_sound mixedDrow Try.func83 (Eq.mp (eqA83 a0 H K) h)
abbrev S83 (a0 : AK.T (.row .byte)) (r : HT [(false, .one .bool)]) : Prop := PureA Try.prog 83 [(false, .row .byte)] (a0, ()) [(false, .one .bool)] r
theorem pure83 (a0 : AK.T (.row .byte)) {r : HT [(false, .one .bool)]} (h : ∀ (H : HP) (K : HT [(false, .one .bool)] → HP → Prop), K r H → A83 a0 H K) : S83 a0 r := fun H K hk => callA83 a0 H K (h H K hk)
def A90 (a0 : AK.T kPR) (H : HP) (K : HT [(false, .one .bool)] → HP → Prop) : Prop :=
  retA Try.prog 94 [(false, .row .byte), (false, .row .byte)] (a0.1, a0.2, ()) [(false, .one .bool)] fun (x1 : Bool × Unit) => lenA a0.1.length fun n2 => ifB (decide (n2 ≤ 16)) (lenA a0.2.length fun n3 => ifB (decide (n3 ≤ 16)) (lenA a0.2.length fun n4 => ifB (n4 == 0) (K (true, ()) H) (K (x1.1, ()) H)) (K (false, ()) H)) (K (false, ()) H)
theorem eqA90 (a0 : AK.T kPR) (H : HP) (K : HT [(false, .one .bool)] → HP → Prop) : A90 a0 H K = aFn ⟨Try.prog, sgTDrow, okTDrow, [], akT0⟩ ⟨[(5, .row .byte), (7, .row .byte), (10, .row .byte), (15, .row .byte), (21, .row .byte)], []⟩ (.seq .n (.seq .n (.seq .n .n))) Try.f90 [(true, kPR)] (a0, ()) [(false, .one .bool)] H K := by kernel_rfl
theorem callA90 (a0 : AK.T kPR) (H : HP) (K : HT [(false, .one .bool)] → HP → Prop) (h : A90 a0 H K) : callA Try.prog 90 [(true, kPR)] (a0, ()) [(false, .one .bool)] H K :=
  aFn_sound mixedDrow Try.func90 (Eq.mp (eqA90 a0 H K) h)
abbrev S90 (a0 : AK.T kPR) (r : HT [(false, .one .bool)]) : Prop := PureA Try.prog 90 [(true, kPR)] (a0, ()) [(false, .one .bool)] r
theorem pure90 (a0 : AK.T kPR) {r : HT [(false, .one .bool)]} (h : ∀ (H : HP) (K : HT [(false, .one .bool)] → HP → Prop), K r H → A90 a0 H K) : S90 a0 r := fun H K hk => callA90 a0 H K (h H K hk)
def A88 (a0 : AK.T (.row .byte)) (H : HP) (K : HT [(false, .one .bool)] → HP → Prop) : Prop :=
  lenA a0.length fun n1 => ifB (decide (n1 ≥ 1)) (lenA a0.length fun n2 => K (decide (n2 ≤ 16), ()) H) (K (false, ()) H)
theorem eqA88 (a0 : AK.T (.row .byte)) (H : HP) (K : HT [(false, .one .bool)] → HP → Prop) : A88 a0 H K = aFn ⟨Try.prog, sgTDrow, okTDrow, [], akT0⟩ ⟨[(0, .row .byte), (3, .row .byte), (7, .row .byte)], []⟩ (.seq .n (.seq .n .n)) Try.f88 [(false, .row .byte)] (a0, ()) [(false, .one .bool)] H K := by kernel_rfl
theorem callA88 (a0 : AK.T (.row .byte)) (H : HP) (K : HT [(false, .one .bool)] → HP → Prop) (h : A88 a0 H K) : callA Try.prog 88 [(false, .row .byte)] (a0, ()) [(false, .one .bool)] H K :=
  aFn_sound mixedDrow Try.func88 (Eq.mp (eqA88 a0 H K) h)
abbrev S88 (a0 : AK.T (.row .byte)) (r : HT [(false, .one .bool)]) : Prop := PureA Try.prog 88 [(false, .row .byte)] (a0, ()) [(false, .one .bool)] r
theorem pure88 (a0 : AK.T (.row .byte)) {r : HT [(false, .one .bool)]} (h : ∀ (H : HP) (K : HT [(false, .one .bool)] → HP → Prop), K r H → A88 a0 H K) : S88 a0 r := fun H K hk => callA88 a0 H K (h H K hk)
def A87 (a0 : AK.T (.row .byte)) (H : HP) (K : HT [(false, .one .bool)] → HP → Prop) : Prop :=
  lenA a0.length fun n1 => K (decide (n1 ≤ 32), ()) H
theorem eqA87 (a0 : AK.T (.row .byte)) (H : HP) (K : HT [(false, .one .bool)] → HP → Prop) : A87 a0 H K = aFn ⟨Try.prog, sgTDrow, okTDrow, [], akT0⟩ ⟨[(0, .row .byte), (3, .row .byte)], []⟩ (.seq .n (.seq .n .n)) Try.f87 [(false, .row .byte)] (a0, ()) [(false, .one .bool)] H K := by kernel_rfl
theorem callA87 (a0 : AK.T (.row .byte)) (H : HP) (K : HT [(false, .one .bool)] → HP → Prop) (h : A87 a0 H K) : callA Try.prog 87 [(false, .row .byte)] (a0, ()) [(false, .one .bool)] H K :=
  aFn_sound mixedDrow Try.func87 (Eq.mp (eqA87 a0 H K) h)
abbrev S87 (a0 : AK.T (.row .byte)) (r : HT [(false, .one .bool)]) : Prop := PureA Try.prog 87 [(false, .row .byte)] (a0, ()) [(false, .one .bool)] r
theorem pure87 (a0 : AK.T (.row .byte)) {r : HT [(false, .one .bool)]} (h : ∀ (H : HP) (K : HT [(false, .one .bool)] → HP → Prop), K r H → A87 a0 H K) : S87 a0 r := fun H K hk => callA87 a0 H K (h H K hk)
def A106 (a0 : AK.T (.row .byte)) (a1 : AK.T (.row .byte)) (H : HP) (K : HT [(false, .one (.int .i64))] → HP → Prop) : Prop :=
  retA Try.prog 125 [(false, .row .byte), (false, .row .byte)] (a0, a1, ()) [(false, .one (.int .i64))] fun (x1 : Int × Unit) => K (x1.1, ()) H
theorem eqA106 (a0 : AK.T (.row .byte)) (a1 : AK.T (.row .byte)) (H : HP) (K : HT [(false, .one (.int .i64))] → HP → Prop) : A106 a0 a1 H K = aFn ⟨Try.prog, sgTDrow, okTDrow, [], akT0⟩ ⟨[(0, .row .byte), (1, .row .byte), (5, .row .byte), (6, .row .byte)], []⟩ (.seq .n (.seq .n .n)) Try.f106 [(false, .row .byte), (false, .row .byte)] (a0, a1, ()) [(false, .one (.int .i64))] H K := by kernel_rfl
theorem callA106 (a0 : AK.T (.row .byte)) (a1 : AK.T (.row .byte)) (H : HP) (K : HT [(false, .one (.int .i64))] → HP → Prop) (h : A106 a0 a1 H K) : callA Try.prog 106 [(false, .row .byte), (false, .row .byte)] (a0, a1, ()) [(false, .one (.int .i64))] H K :=
  aFn_sound mixedDrow Try.func106 (Eq.mp (eqA106 a0 a1 H K) h)
abbrev S106 (a0 : AK.T (.row .byte)) (a1 : AK.T (.row .byte)) (r : HT [(false, .one (.int .i64))]) : Prop := PureA Try.prog 106 [(false, .row .byte), (false, .row .byte)] (a0, a1, ()) [(false, .one (.int .i64))] r
theorem pure106 (a0 : AK.T (.row .byte)) (a1 : AK.T (.row .byte)) {r : HT [(false, .one (.int .i64))]} (h : ∀ (H : HP) (K : HT [(false, .one (.int .i64))] → HP → Prop), K r H → A106 a0 a1 H K) : S106 a0 a1 r := fun H K hk => callA106 a0 a1 H K (h H K hk)
def A94 (a0 : AK.T (.row .byte)) (a1 : AK.T (.row .byte)) (H : HP) (K : HT [(false, .one .bool)] → HP → Prop) : Prop :=
  LoopA (V := (List UInt8 × List UInt8 × Int × Unit) × Unit) ((a0, a1, 0, ()), ()) H fun (x1 : (List UInt8 × List UInt8 × Int × Unit) × Unit) H2 B3 => lenA x1.1.1.length fun n4 => ifB (decide (x1.1.2.2.1 < n4)) (lenA x1.1.2.1.length fun n5 => ifB (decide (x1.1.2.2.1 < n5)) (atA x1.1.1 x1.1.2.2.1 fun (x6 : UInt8) => atA x1.1.2.1 x1.1.2.2.1 fun (x7 : UInt8) => ifB ((((UInt8.toNat x6 : Nat) : Int) : Int) != ((UInt8.toNat x7 : Nat) : Int)) (atA x1.1.1 x1.1.2.2.1 fun (x8 : UInt8) => atA x1.1.2.1 x1.1.2.2.1 fun (x9 : UInt8) => K (decide (((UInt8.toNat x8 : Nat) : Int) < ((UInt8.toNat x9 : Nat) : Int)), ()) H2) (B3 ((x1.1.1, x1.1.2.1, IntKind.i64.wrap (x1.1.2.2.1 + 1), ()), ()) H2)) (lenA x1.1.1.length fun n10 => lenA x1.1.2.1.length fun n11 => K (decide (n10 < n11), ()) H2)) (lenA x1.1.1.length fun n12 => lenA x1.1.2.1.length fun n13 => K (decide (n12 < n13), ()) H2)
theorem eqA94 (a0 : AK.T (.row .byte)) (a1 : AK.T (.row .byte)) (H : HP) (K : HT [(false, .one .bool)] → HP → Prop) : A94 a0 a1 H K = aFn ⟨Try.prog, sgTDrow, okTDrow, [], akT0⟩ ⟨[(0, .row .byte), (1, .row .byte), (7, .row .byte), (12, .row .byte), (18, .row .byte), (22, .row .byte), (27, .row .byte), (31, .row .byte), (36, .row .byte), (38, .row .byte)], []⟩ (.seq .n (.seq (.seq .n (.blk (.loop [0, 1, 5] [] (.seq (.seq .n (.cond .n .n)) (.seq (.blk (.seq (.ord 0 0 [⟨0, false, 0, 1, 262144⟩, ⟨0, false, 0, 32, 524288⟩, ⟨3, false, 0, 786432, 1048576⟩, ⟨4, false, 0, 1048576, 2097152⟩, ⟨0, false, 0, 2, 4194304⟩, ⟨0, false, 0, 32, 8388608⟩, ⟨48, false, 0, 12582912, 16777216⟩, ⟨64, false, 0, 16777216, 33554432⟩, ⟨136, false, 0, 35651584, 67108864⟩] [⟨0, 0, []⟩, ⟨1, 0, []⟩, ⟨2, 0, []⟩, ⟨3, 0, []⟩, ⟨4, 0, []⟩, ⟨5, 0, []⟩, ⟨6, 0, []⟩, ⟨7, 0, []⟩, ⟨8, 0, []⟩]) (.cond (.seq (.ord 0 0 [⟨0, false, 0, 1, 134217728⟩, ⟨0, false, 0, 32, 268435456⟩, ⟨3, false, 0, 402653184, 536870912⟩, ⟨4, false, 0, 536870912, 1073741824⟩, ⟨0, false, 0, 2, 2147483648⟩, ⟨0, false, 0, 32, 4294967296⟩, ⟨48, false, 0, 6442450944, 8589934592⟩, ⟨64, false, 0, 8589934592, 17179869184⟩, ⟨136, false, 0, 18253611008, 34359738368⟩, ⟨511, false, 0, 34359738368, 16⟩] [⟨0, 0, []⟩, ⟨1, 0, []⟩, ⟨2, 0, []⟩, ⟨3, 0, []⟩, ⟨4, 0, []⟩, ⟨5, 0, []⟩, ⟨6, 0, []⟩, ⟨7, 0, []⟩, ⟨8, 0, []⟩, ⟨9, 0, []⟩]) .n) .n))) .n))))) (.seq .n .n))) Try.f94 [(false, .row .byte), (false, .row .byte)] (a0, a1, ()) [(false, .one .bool)] H K := by kernel_rfl
theorem callA94 (a0 : AK.T (.row .byte)) (a1 : AK.T (.row .byte)) (H : HP) (K : HT [(false, .one .bool)] → HP → Prop) (h : A94 a0 a1 H K) : callA Try.prog 94 [(false, .row .byte), (false, .row .byte)] (a0, a1, ()) [(false, .one .bool)] H K :=
  aFn_sound mixedDrow Try.func94 (Eq.mp (eqA94 a0 a1 H K) h)
abbrev S94 (a0 : AK.T (.row .byte)) (a1 : AK.T (.row .byte)) (r : HT [(false, .one .bool)]) : Prop := PureA Try.prog 94 [(false, .row .byte), (false, .row .byte)] (a0, a1, ()) [(false, .one .bool)] r
theorem pure94 (a0 : AK.T (.row .byte)) (a1 : AK.T (.row .byte)) {r : HT [(false, .one .bool)]} (h : ∀ (H : HP) (K : HT [(false, .one .bool)] → HP → Prop), K r H → A94 a0 a1 H K) : S94 a0 a1 r := fun H K hk => callA94 a0 a1 H K (h H K hk)
def A89 (a0 : AK.T kPR) (H : HP) (K : HT [(false, .one .bool)] → HP → Prop) : Prop :=
  lenA a0.1.length fun n1 => ifB (decide (n1 ≤ 16)) (lenA a0.2.length fun n2 => ifB (decide (n2 ≤ 16)) (lenA a0.2.length fun n3 => ifB (n3 == 0) (K (true, ()) H) (retA Try.prog 106 [(false, .row .byte), (false, .row .byte)] (a0.1, a0.2, ()) [(false, .one (.int .i64))] fun (x4 : Int × Unit) => K (decide (x4.1 < 0), ()) H)) (K (false, ()) H)) (K (false, ()) H)
theorem eqA89 (a0 : AK.T kPR) (H : HP) (K : HT [(false, .one .bool)] → HP → Prop) : A89 a0 H K = aFn ⟨Try.prog, sgTDrow, okTDrow, [], akT0⟩ ⟨[(4, .row .byte), (9, .row .byte), (15, .row .byte), (20, .row .byte), (22, .row .byte)], []⟩ (.seq .n (.seq .n .n)) Try.f89 [(true, kPR)] (a0, ()) [(false, .one .bool)] H K := by kernel_rfl
theorem callA89 (a0 : AK.T kPR) (H : HP) (K : HT [(false, .one .bool)] → HP → Prop) (h : A89 a0 H K) : callA Try.prog 89 [(true, kPR)] (a0, ()) [(false, .one .bool)] H K :=
  aFn_sound mixedDrow Try.func89 (Eq.mp (eqA89 a0 H K) h)
abbrev S89 (a0 : AK.T kPR) (r : HT [(false, .one .bool)]) : Prop := PureA Try.prog 89 [(true, kPR)] (a0, ()) [(false, .one .bool)] r
theorem pure89 (a0 : AK.T kPR) {r : HT [(false, .one .bool)]} (h : ∀ (H : HP) (K : HT [(false, .one .bool)] → HP → Prop), K r H → A89 a0 H K) : S89 a0 r := fun H K hk => callA89 a0 H K (h H K hk)
end Go.Proofs.Ytalniaipgdbbcaa
