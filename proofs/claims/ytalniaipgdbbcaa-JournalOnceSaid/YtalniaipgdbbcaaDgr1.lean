/-
  WRITTEN BY mka.py (a program of ours): of each function named below: its formula over data, and that the kernel reckons this very formula out of the function's code.
-/
import Derived.Test.YtalniaipgdbbcaaProg
import Derived.Test.YtalniaipgdbbcaaDak
namespace Go.Proofs.Ytalniaipgdbbcaa
open Go Go.Gp Go.Ga
set_option linter.unusedVariables false
set_option maxRecDepth 100000
set_option maxHeartbeats 0
def okTDgr1 : TypeId → Option AK
  | 141 => some ((.cons (.row (.cons (.row .byte) (.row .byte))) (.one (.int .i64))))
  | 125 => some ((.one .sl))
  | 3 => some ((.one (.int .i64)))
  | 24 => some ((.cons (.one (.int .i64)) (.cons (.one (.int .i64)) (.cons (.one (.int .i64)) (.cons (.row .byte) (.cons (.row .byte) (.cons (.row .byte) (.cons (.row .byte) (.one (.int .i64))))))))))
  | 71 => some ((.row (.cons (.one (.int .i64)) (.cons (.one (.int .i64)) (.cons (.one (.int .i64)) (.cons (.row .byte) (.cons (.row .byte) (.cons (.row .byte) (.cons (.row .byte) (.one (.int .i64)))))))))))
  | _ => none
def sgTDgr1 : FuncId → Option Sig
  | 94 => some ⟨[(false, .row .byte), (false, .row .byte)], [(false, .one .bool)], 0⟩
  | 102 => some ⟨[(true, .cons (.one (.int .i64)) (.cons (.one (.int .i64)) (.cons (.one (.int .i64)) (.cons (.row .byte) (.cons (.row .byte) (.cons (.row .byte) (.cons (.row .byte) (.one (.int .i64)))))))))], [(false, .one (.int .i64))], 0⟩
  | 103 => some ⟨[(false, .one .sl), (false, .fn 104)], [], 2⟩
  | 104 => some ⟨[(false, .one (.int .i64)), (false, .one (.int .i64)), (false, .ref)], [(false, .one (.int .i64))], 1⟩
  | 105 => some ⟨[(false, .row (.one (.int .i64)))], [(false, .one (.int .i64))], 0⟩
  | 106 => some ⟨[(false, .row .byte), (false, .row .byte)], [(false, .one (.int .i64))], 0⟩
  | 107 => some ⟨[(true, .cons (.one (.int .i64)) (.cons (.one (.int .i64)) (.cons (.one (.int .i64)) (.cons (.row .byte) (.cons (.row .byte) (.cons (.row .byte) (.cons (.row .byte) (.one (.int .i64))))))))), (true, .cons (.one (.int .i64)) (.cons (.one (.int .i64)) (.cons (.one (.int .i64)) (.cons (.row .byte) (.cons (.row .byte) (.cons (.row .byte) (.cons (.row .byte) (.one (.int .i64)))))))))], [(false, .one .bool)], 0⟩
  | _ => none
theorem mixedDgr1 : Try.prog.follows .mixedOrders = true := by kernel_rfl
def A102 (a0 : AK.T kRQ) (H : HP) (K : HT [(false, .one (.int .i64))] → HP → Prop) : Prop :=
  ifB ((a0.2.2.1 : Int) == 6) (K (1, ()) H) (K (0, ()) H)
theorem eqA102 (a0 : AK.T kRQ) (H : HP) (K : HT [(false, .one (.int .i64))] → HP → Prop) : A102 a0 H K = aFn ⟨Try.prog, sgTDgr1, okTDgr1, [], akT0⟩ ⟨[], []⟩ (.seq .n (.seq (.seq .n (.cond (.seq .n .n) .n)) (.seq .n .n))) Try.f102 [(true, kRQ)] (a0, ()) [(false, .one (.int .i64))] H K := by kernel_rfl
theorem callA102 (a0 : AK.T kRQ) (H : HP) (K : HT [(false, .one (.int .i64))] → HP → Prop) (h : A102 a0 H K) : callA Try.prog 102 [(true, kRQ)] (a0, ()) [(false, .one (.int .i64))] H K :=
  aFn_sound mixedDgr1 Try.func102 (Eq.mp (eqA102 a0 H K) h)
abbrev S102 (a0 : AK.T kRQ) (r : HT [(false, .one (.int .i64))]) : Prop := PureA Try.prog 102 [(true, kRQ)] (a0, ()) [(false, .one (.int .i64))] r
theorem pure102 (a0 : AK.T kRQ) {r : HT [(false, .one (.int .i64))]} (h : ∀ (H : HP) (K : HT [(false, .one (.int .i64))] → HP → Prop), K r H → A102 a0 H K) : S102 a0 r := fun H K hk => callA102 a0 H K (h H K hk)
def A105 (a0 : AK.T (.row (.one (.int .i64)))) (H : HP) (K : HT [(false, .one (.int .i64))] → HP → Prop) : Prop :=
  lenA a0.length fun n1 => LoopA (V := (Int × List Int × Int × Int × Unit) × Unit) ((0, a0, n1, 0, ()), ()) H fun (x2 : (Int × List Int × Int × Int × Unit) × Unit) H3 B4 => ifB (decide (x2.1.2.2.2.1 < x2.1.2.2.1)) (atA x2.1.2.1 x2.1.2.2.2.1 fun n5 => ifB (n5 != x2.1.1) (K (n5, ()) H3) (B4 ((x2.1.1, x2.1.2.1, x2.1.2.2.1, IntKind.i64.wrap (x2.1.2.2.2.1 + 1), ()), ()) H3)) (K (x2.1.1, ()) H3)
theorem eqA105 (a0 : AK.T (.row (.one (.int .i64)))) (H : HP) (K : HT [(false, .one (.int .i64))] → HP → Prop) : A105 a0 H K = aFn ⟨Try.prog, sgTDgr1, okTDgr1, [], akT0⟩ ⟨[(0, .row (.one (.int .i64))), (6, .row (.one (.int .i64)))], []⟩ (.seq .n (.seq .n (.seq (.seq .n (.blk (.loop [3, 6, 7, 8] [] (.seq .n (.seq (.cond .n .n) (.seq (.blk (.seq .n (.seq .n (.cond (.seq .n .n) .n)))) .n)))))) (.seq .n .n)))) Try.f105 [(false, .row (.one (.int .i64)))] (a0, ()) [(false, .one (.int .i64))] H K := by kernel_rfl
theorem callA105 (a0 : AK.T (.row (.one (.int .i64)))) (H : HP) (K : HT [(false, .one (.int .i64))] → HP → Prop) (h : A105 a0 H K) : callA Try.prog 105 [(false, .row (.one (.int .i64)))] (a0, ()) [(false, .one (.int .i64))] H K :=
  aFn_sound mixedDgr1 Try.func105 (Eq.mp (eqA105 a0 H K) h)
abbrev S105 (a0 : AK.T (.row (.one (.int .i64)))) (r : HT [(false, .one (.int .i64))]) : Prop := PureA Try.prog 105 [(false, .row (.one (.int .i64)))] (a0, ()) [(false, .one (.int .i64))] r
theorem pure105 (a0 : AK.T (.row (.one (.int .i64)))) {r : HT [(false, .one (.int .i64))]} (h : ∀ (H : HP) (K : HT [(false, .one (.int .i64))] → HP → Prop), K r H → A105 a0 H K) : S105 a0 r := fun H K hk => callA105 a0 H K (h H K hk)
def A104 (a0 : AK.T (.one (.int .i64))) (a1 : AK.T (.one (.int .i64))) (a2 : AK.T (.ref)) (H : HP) (K : HT [(false, .one (.int .i64))] → HP → Prop) : Prop :=
  refA a2 fun i1 => ldO (.row kRQ) i1 H fun (l2 : List tRQ) => atA l2 a0 fun (x3 : tRQ) => ldO (.row kRQ) i1 H fun (l4 : List tRQ) => atA l4 a1 fun (x5 : tRQ) => retA Try.prog 106 [(false, .row .byte), (false, .row .byte)] (x3.2.2.2.1, x5.2.2.2.1, ()) [(false, .one (.int .i64))] fun (x6 : Int × Unit) => ldO (.row kRQ) i1 H fun (l7 : List tRQ) => atA l7 a0 fun (x8 : tRQ) => retA Try.prog 102 [(true, kRQ)] ((x8.1, x8.2.1, x8.2.2.1, x8.2.2.2.1, x8.2.2.2.2.1, x8.2.2.2.2.2.1, x8.2.2.2.2.2.2.1, x8.2.2.2.2.2.2.2), ()) [(false, .one (.int .i64))] fun (x9 : Int × Unit) => ldO (.row kRQ) i1 H fun (l10 : List tRQ) => atA l10 a1 fun (x11 : tRQ) => retA Try.prog 102 [(true, kRQ)] ((x11.1, x11.2.1, x11.2.2.1, x11.2.2.2.1, x11.2.2.2.2.1, x11.2.2.2.2.2.1, x11.2.2.2.2.2.2.1, x11.2.2.2.2.2.2.2), ()) [(false, .one (.int .i64))] fun (x12 : Int × Unit) => retA Try.prog 105 [(false, .row (.one (.int .i64)))] ([x6.1, IntKind.i64.wrap (x9.1 - x12.1)], ()) [(false, .one (.int .i64))] fun (x13 : Int × Unit) => K (x13.1, ()) H
theorem eqA104 (a0 : AK.T (.one (.int .i64))) (a1 : AK.T (.one (.int .i64))) (a2 : AK.T (.ref)) (H : HP) (K : HT [(false, .one (.int .i64))] → HP → Prop) : A104 a0 a1 a2 H K = aFn ⟨Try.prog, sgTDgr1, okTDgr1, [], akT0⟩ ⟨[(6, .row kRQ), (10, .row .byte), (11, .row kRQ), (15, .row .byte), (17, .row kRQ), (22, .row kRQ), (28, .row (.one (.int .i64)))], []⟩ (.seq (.gh [.chk 2] .n) (.seq (.ord 0 0 [⟨0, false, 0, 4, 64⟩, ⟨0, false, 0, 1, 128⟩, ⟨3, false, 0, 192, 256⟩, ⟨4, false, 0, 256, 512⟩, ⟨8, false, 0, 512, 1024⟩, ⟨0, false, 0, 4, 2048⟩, ⟨0, false, 0, 2, 4096⟩, ⟨96, false, 0, 6144, 8192⟩, ⟨128, false, 0, 8192, 16384⟩, ⟨256, false, 0, 16384, 32768⟩, ⟨528, false, 0, 33792, 65536⟩, ⟨0, false, 0, 4, 131072⟩, ⟨0, false, 0, 1, 262144⟩, ⟨6144, false, 0, 393216, 524288⟩, ⟨8192, false, 0, 524288, 1048576⟩, ⟨17408, false, 0, 1048576, 2097152⟩, ⟨0, false, 0, 4, 4194304⟩, ⟨0, false, 0, 2, 8388608⟩, ⟨196608, false, 0, 12582912, 16777216⟩, ⟨262144, false, 0, 16777216, 33554432⟩, ⟨557056, false, 0, 33554432, 67108864⟩, ⟨1081344, false, 0, 69206016, 134217728⟩, ⟨2098176, false, 0, 134283264, 268435456⟩, ⟨5242880, false, 0, 268435456, 536870912⟩, ⟨16777215, false, 0, 536870912, 32⟩] [⟨0, 0, []⟩, ⟨1, 0, []⟩, ⟨2, 0, []⟩, ⟨3, 0, []⟩, ⟨4, 0, []⟩, ⟨5, 0, []⟩, ⟨6, 0, []⟩, ⟨7, 0, []⟩, ⟨8, 0, []⟩, ⟨9, 0, []⟩, ⟨10, 0, []⟩, ⟨11, 0, []⟩, ⟨12, 0, []⟩, ⟨13, 0, []⟩, ⟨14, 0, []⟩, ⟨15, 0, []⟩, ⟨16, 0, []⟩, ⟨17, 0, []⟩, ⟨18, 0, []⟩, ⟨19, 0, []⟩, ⟨20, 0, []⟩, ⟨21, 0, []⟩, ⟨22, 0, []⟩, ⟨23, 0, []⟩, ⟨24, 0, []⟩]) .n)) Try.f104 [(false, .one (.int .i64)), (false, .one (.int .i64)), (false, .ref)] (a0, a1, a2, ()) [(false, .one (.int .i64))] H K := by kernel_rfl
theorem callA104 (a0 : AK.T (.one (.int .i64))) (a1 : AK.T (.one (.int .i64))) (a2 : AK.T (.ref)) (H : HP) (K : HT [(false, .one (.int .i64))] → HP → Prop) (h : A104 a0 a1 a2 H K) : callA Try.prog 104 [(false, .one (.int .i64)), (false, .one (.int .i64)), (false, .ref)] (a0, a1, a2, ()) [(false, .one (.int .i64))] H K :=
  aFn_sound mixedDgr1 Try.func104 (Eq.mp (eqA104 a0 a1 a2 H K) h)
abbrev C104 (a0 : AK.T (.one (.int .i64))) (a1 : AK.T (.one (.int .i64))) (a2 : AK.T (.ref)) (H : HP) (K : HT [(false, .one (.int .i64))] → HP → Prop) : Prop := callA Try.prog 104 [(false, .one (.int .i64)), (false, .one (.int .i64)), (false, .ref)] (a0, a1, a2, ()) [(false, .one (.int .i64))] H K
def A70 (a0 : AK.T (.row kRQ)) (H : HP) (K : HT [(false, .one .sl)] → HP → Prop) : Prop :=
  newO (.row kRQ) a0 H fun i1 H2 => ldO (.row kRQ) i1 H2 fun (l3 : List tRQ) => lenA l3.length fun n4 => LoopA (V := (Nat × List Int × Int × Int × Unit) × Unit) ((i1, [], n4, 0, ()), ()) H2 fun (x5 : (Nat × List Int × Int × Int × Unit) × Unit) H6 B7 => ifB (decide (x5.1.2.2.2.1 < x5.1.2.2.1)) (appA x5.1.2.1.length 1 8 (B7 ((x5.1.1, x5.1.2.1 ++ [x5.1.2.2.2.1], x5.1.2.2.1, IntKind.i64.wrap (x5.1.2.2.2.1 + 1), ()), ()) H6)) (pubA (.one (.int .i64)) 3 x5.1.2.1 H6 fun (x8 : Sl) H9 => callA Try.prog 103 [(false, .one .sl), (false, .fn 104)] (x8, [x5.1.1], ()) [] H9 fun (x10 : Unit) H11 => K (x8, ()) H11)
theorem eqA70 (a0 : AK.T (.row kRQ)) (H : HP) (K : HT [(false, .one .sl)] → HP → Prop) : A70 a0 H K = aFn ⟨Try.prog, sgTDgr1, okTDgr1, [], akT0⟩ ⟨[(0, .row kRQ), (2, .dead), (3, .own (.one (.int .i64)) 3), (5, .row kRQ), (10, .own (.one (.int .i64)) 3), (12, .row (.one (.int .i64))), (13, .own (.one (.int .i64)) 3), (15, .one .sl), (18, .own (.one (.int .i64)) 3)], []⟩ (.seq .n (.seq (.gh [.cls 1 (.row kRQ)] .n) (.seq (.seq .n (.blk (.loop [1, 3, 6, 7] [1] (.seq .n (.seq (.cond .n .n) (.seq (.blk (.seq .n .n)) .n)))))) (.seq (.gh [.pub 255] .n) (.seq .n .n))))) Try.f70 [(false, .row kRQ)] (a0, ()) [(false, .one .sl)] H K := by kernel_rfl
theorem callA70 (a0 : AK.T (.row kRQ)) (H : HP) (K : HT [(false, .one .sl)] → HP → Prop) (h : A70 a0 H K) : callA Try.prog 70 [(false, .row kRQ)] (a0, ()) [(false, .one .sl)] H K :=
  aFn_sound mixedDgr1 Try.func70 (Eq.mp (eqA70 a0 H K) h)
abbrev C70 (a0 : AK.T (.row kRQ)) (H : HP) (K : HT [(false, .one .sl)] → HP → Prop) : Prop := callA Try.prog 70 [(false, .row kRQ)] (a0, ()) [(false, .one .sl)] H K
end Go.Proofs.Ytalniaipgdbbcaa
