/-
  WRITTEN BY mka.py (a program of ours): of each function named below: its formula over data, and that the kernel reckons this very formula out of the function's code.
-/
import Derived.Test.YtjbpgebjcehfkaaProg
import Derived.Test.YtjbpgebjcehfkaaDakb
namespace Go.Proofs.Ytjbpgebjcehfkaa
open Go Go.Gp Go.Ga
set_option linter.unusedVariables false
set_option maxRecDepth 100000
set_option maxHeartbeats 0
def okTDweigh : TypeId → Option AK
  | _ => none
def sgTDweigh : FuncId → Option Sig
  | 6 => some ⟨[], [(false, .one .bool)], 0⟩
  | 7 => some ⟨[(false, .one (.flt .f64)), (false, .one (.flt .f64))], [(false, .one (.int .i64))], 0⟩
  | 8 => some ⟨[(false, .one (.flt .f64)), (false, .one (.flt .f64))], [(false, .one (.int .i64))], 0⟩
  | 9 => some ⟨[], [(false, .one (.flt .f64))], 2⟩
  | 10 => some ⟨[(false, .row (.one (.int .i64)))], [(false, .row (.one (.flt .f64)))], 2⟩
  | 11 => some ⟨[(false, .one (.flt .f64)), (false, .one (.flt .f64))], [(false, .one .bool)], 0⟩
  | 12 => some ⟨[(false, .row (.one (.flt .f64)))], [(false, .one (.int .i64))], 0⟩
  | 14 => some ⟨[], [(false, .one (.flt .f64))], 0⟩
  | 15 => some ⟨[(false, .one (.flt .f64))], [(false, .one (.int .i64))], 0⟩
  | 16 => some ⟨[(false, .one (.flt .f64))], [(false, .one .bool)], 0⟩
  | 17 => some ⟨[(false, .one (.flt .f64))], [(false, .one .bool)], 0⟩
  | 18 => some ⟨[(false, .one (.flt .f64)), (false, .one (.flt .f64))], [(false, .one (.int .i64))], 0⟩
  | 19 => some ⟨[(false, .one (.int .i64)), (false, .one (.int .i64))], [(false, .one (.int .i64))], 0⟩
  | 20 => some ⟨[], [(false, .one (.flt .f64))], 0⟩
  | 24 => some ⟨[(false, .one (.flt .f64))], [(false, .one .bool)], 0⟩
  | 25 => some ⟨[(false, .one (.int .i64))], [(false, .one .bool)], 0⟩
  | _ => none
theorem mixedDweigh : Try.prog.follows .mixedOrders = true := by kernel_rfl
def A6  (H : HP) (K : HT [(false, .one .bool)] → HP → Prop) : Prop :=
  retA Try.prog 14 [] () [(false, .one (.flt .f64))] fun (x1 : Nat × Unit) => retA Try.prog 7 [(false, .one (.flt .f64)), (false, .one (.flt .f64))] (x1.1, 0, ()) [(false, .one (.int .i64))] fun (x2 : Int × Unit) => ifB ((x2.1 : Int) == (-1)) (callA Try.prog 9 [] () [(false, .one (.flt .f64))] H fun (x3 : Nat × Unit) H4 => retA Try.prog 7 [(false, .one (.flt .f64)), (false, .one (.flt .f64))] (x3.1, 13830554455654793216, ()) [(false, .one (.int .i64))] fun (x5 : Int × Unit) => ifB ((x5.1 : Int) == (-1)) (retA Try.prog 12 [(false, .row (.one (.flt .f64)))] ([], ()) [(false, .one (.int .i64))] fun (x6 : Int × Unit) => ifB ((x6.1 : Int) == (-1)) (retA Try.prog 12 [(false, .row (.one (.flt .f64)))] ([4607182418800017408, 4611686018427387904], ()) [(false, .one (.int .i64))] fun (x7 : Int × Unit) => K ((x7.1 : Int) == 1, ()) H4) (K (false, ()) H4)) (K (false, ()) H4)) (K (false, ()) H)
theorem eqA6  (H : HP) (K : HT [(false, .one .bool)] → HP → Prop) : A6  H K = aFn ⟨Try.prog, sgTDweigh, okTDweigh, [], akT0⟩ ⟨[(14, .row (.one (.flt .f64)))], []⟩ (.seq .n (.seq .n .n)) Try.f6 [] (()) [(false, .one .bool)] H K := by kernel_rfl
theorem callA6  (H : HP) (K : HT [(false, .one .bool)] → HP → Prop) (h : A6  H K) : callA Try.prog 6 [] (()) [(false, .one .bool)] H K :=
  aFn_sound mixedDweigh Try.func6 (Eq.mp (eqA6  H K) h)
abbrev S6  (r : HT [(false, .one .bool)]) : Prop := PureA Try.prog 6 [] (()) [(false, .one .bool)] r
theorem pure6  {r : HT [(false, .one .bool)]} (h : ∀ (H : HP) (K : HT [(false, .one .bool)] → HP → Prop), K r H → A6  H K) : S6  r := fun H K hk => callA6  H K (h H K hk)
def A7 (a0 : AK.T (.one (.flt .f64))) (a1 : AK.T (.one (.flt .f64))) (H : HP) (K : HT [(false, .one (.int .i64))] → HP → Prop) : Prop :=
  retA Try.prog 17 [(false, .one (.flt .f64))] (a0, ()) [(false, .one .bool)] fun (x1 : Bool × Unit) => ifB x1.1 (retA Try.prog 18 [(false, .one (.flt .f64)), (false, .one (.flt .f64))] (a0, a1, ()) [(false, .one (.int .i64))] fun (x2 : Int × Unit) => K (x2.1, ()) H) (retA Try.prog 17 [(false, .one (.flt .f64))] (a1, ()) [(false, .one .bool)] fun (x3 : Bool × Unit) => ifB x3.1 (retA Try.prog 18 [(false, .one (.flt .f64)), (false, .one (.flt .f64))] (a0, a1, ()) [(false, .one (.int .i64))] fun (x4 : Int × Unit) => K (x4.1, ()) H) (ifB (! (fEq .f64 a0 0)) (retA Try.prog 18 [(false, .one (.flt .f64)), (false, .one (.flt .f64))] (a0, a1, ()) [(false, .one (.int .i64))] fun (x5 : Int × Unit) => K (x5.1, ()) H) (ifB (! (fEq .f64 a1 0)) (retA Try.prog 18 [(false, .one (.flt .f64)), (false, .one (.flt .f64))] (a0, a1, ()) [(false, .one (.int .i64))] fun (x6 : Int × Unit) => K (x6.1, ()) H) (callA Try.prog 15 [(false, .one (.flt .f64))] (a0, ()) [(false, .one (.int .i64))] H fun (x7 : Int × Unit) H8 => callA Try.prog 15 [(false, .one (.flt .f64))] (a1, ()) [(false, .one (.int .i64))] H8 fun (x9 : Int × Unit) H10 => retA Try.prog 19 [(false, .one (.int .i64)), (false, .one (.int .i64))] (x7.1, x9.1, ()) [(false, .one (.int .i64))] fun (x11 : Int × Unit) => K (x11.1, ()) H10))))
theorem eqA7 (a0 : AK.T (.one (.flt .f64))) (a1 : AK.T (.one (.flt .f64))) (H : HP) (K : HT [(false, .one (.int .i64))] → HP → Prop) : A7 a0 a1 H K = aFn ⟨Try.prog, sgTDweigh, okTDweigh, [], akT0⟩ ⟨[], []⟩ (.seq .n (.seq .n (.seq (.seq .n (.cond (.seq .n .n) .n)) (.seq .n .n)))) Try.f7 [(false, .one (.flt .f64)), (false, .one (.flt .f64))] (a0, a1, ()) [(false, .one (.int .i64))] H K := by kernel_rfl
theorem callA7 (a0 : AK.T (.one (.flt .f64))) (a1 : AK.T (.one (.flt .f64))) (H : HP) (K : HT [(false, .one (.int .i64))] → HP → Prop) (h : A7 a0 a1 H K) : callA Try.prog 7 [(false, .one (.flt .f64)), (false, .one (.flt .f64))] (a0, a1, ()) [(false, .one (.int .i64))] H K :=
  aFn_sound mixedDweigh Try.func7 (Eq.mp (eqA7 a0 a1 H K) h)
abbrev S7 (a0 : AK.T (.one (.flt .f64))) (a1 : AK.T (.one (.flt .f64))) (r : HT [(false, .one (.int .i64))]) : Prop := PureA Try.prog 7 [(false, .one (.flt .f64)), (false, .one (.flt .f64))] (a0, a1, ()) [(false, .one (.int .i64))] r
theorem pure7 (a0 : AK.T (.one (.flt .f64))) (a1 : AK.T (.one (.flt .f64))) {r : HT [(false, .one (.int .i64))]} (h : ∀ (H : HP) (K : HT [(false, .one (.int .i64))] → HP → Prop), K r H → A7 a0 a1 H K) : S7 a0 a1 r := fun H K hk => callA7 a0 a1 H K (h H K hk)
def A9  (H : HP) (K : HT [(false, .one (.flt .f64))] → HP → Prop) : Prop :=
  fltA .quo .f64 0 0 fun i1 => K (i1, ()) H
theorem eqA9  (H : HP) (K : HT [(false, .one (.flt .f64))] → HP → Prop) : A9  H K = aFn ⟨Try.prog, sgTDweigh, okTDweigh, [], akT0⟩ ⟨[], []⟩ (.seq .n (.seq .n (.seq .n .n))) Try.f9 [] (()) [(false, .one (.flt .f64))] H K := by kernel_rfl
theorem callA9  (H : HP) (K : HT [(false, .one (.flt .f64))] → HP → Prop) (h : A9  H K) : callA Try.prog 9 [] (()) [(false, .one (.flt .f64))] H K :=
  aFn_sound mixedDweigh Try.func9 (Eq.mp (eqA9  H K) h)
abbrev C9  (H : HP) (K : HT [(false, .one (.flt .f64))] → HP → Prop) : Prop := callA Try.prog 9 [] (()) [(false, .one (.flt .f64))] H K
def A12 (a0 : AK.T (.row (.one (.flt .f64)))) (H : HP) (K : HT [(false, .one (.int .i64))] → HP → Prop) : Prop :=
  lenA a0.length fun n1 => LoopA (V := (List Nat × Int × List Nat × Int × Int × Unit) × Unit) ((a0, (-1), a0, n1, 0, ()), ()) H fun (x2 : (List Nat × Int × List Nat × Int × Int × Unit) × Unit) H3 B4 => ifB (decide (x2.1.2.2.2.2.1 < x2.1.2.2.2.1)) (atA x2.1.2.2.1 x2.1.2.2.2.2.1 fun i5 => JoinA (V := (List Nat × Int × Int × List Nat × Int × Int × Bool × Unit) × Unit) (fun (x6 : (List Nat × Int × Int × List Nat × Int × Int × Bool × Unit) × Unit) H7 => ifB x6.1.2.2.2.2.2.2.1 (B4 ((x6.1.1, x6.1.2.2.1, x6.1.2.2.2.1, x6.1.2.2.2.2.1, IntKind.i64.wrap (x6.1.2.2.2.2.2.1 + 1), ()), ()) H7) (B4 ((x6.1.1, x6.1.2.1, x6.1.2.2.2.1, x6.1.2.2.2.2.1, IntKind.i64.wrap (x6.1.2.2.2.2.2.1 + 1), ()), ()) H7)) fun B8 => ifB (decide (x2.1.2.1 < 0)) (B8 ((x2.1.1, x2.1.2.1, x2.1.2.2.2.2.1, x2.1.2.2.1, x2.1.2.2.2.1, x2.1.2.2.2.2.1, true, ()), ()) H3) (atA x2.1.1 x2.1.2.1 fun i9 => retA Try.prog 7 [(false, .one (.flt .f64)), (false, .one (.flt .f64))] (i5, i9, ()) [(false, .one (.int .i64))] fun (x10 : Int × Unit) => B8 ((x2.1.1, x2.1.2.1, x2.1.2.2.2.2.1, x2.1.2.2.1, x2.1.2.2.2.1, x2.1.2.2.2.2.1, decide (x10.1 > 0), ()), ()) H3)) (K (x2.1.2.1, ()) H3)
theorem eqA12 (a0 : AK.T (.row (.one (.flt .f64)))) (H : HP) (K : HT [(false, .one (.int .i64))] → HP → Prop) : A12 a0 H K = aFn ⟨Try.prog, sgTDweigh, okTDweigh, [], akT0⟩ ⟨[(0, .row (.one (.flt .f64))), (6, .row (.one (.flt .f64))), (17, .row (.one (.flt .f64)))], []⟩ (.seq .n (.seq .n (.seq (.seq .n (.blk (.loop [0, 3, 6, 7, 8] [] (.seq .n (.seq (.cond .n .n) (.seq (.blk (.seq .n (.join [(0, .v (.row (.one (.flt .f64)))), (3, .v (.one (.int .i64))), (4, .v (.one (.int .i64))), (6, .v (.row (.one (.flt .f64)))), (7, .v (.one (.int .i64))), (8, .v (.one (.int .i64))), (23, .v (.one .bool))] [] .n (.cond .n .n)))) .n)))))) (.seq .n .n)))) Try.f12 [(false, .row (.one (.flt .f64)))] (a0, ()) [(false, .one (.int .i64))] H K := by kernel_rfl
theorem callA12 (a0 : AK.T (.row (.one (.flt .f64)))) (H : HP) (K : HT [(false, .one (.int .i64))] → HP → Prop) (h : A12 a0 H K) : callA Try.prog 12 [(false, .row (.one (.flt .f64)))] (a0, ()) [(false, .one (.int .i64))] H K :=
  aFn_sound mixedDweigh Try.func12 (Eq.mp (eqA12 a0 H K) h)
abbrev S12 (a0 : AK.T (.row (.one (.flt .f64)))) (r : HT [(false, .one (.int .i64))]) : Prop := PureA Try.prog 12 [(false, .row (.one (.flt .f64)))] (a0, ()) [(false, .one (.int .i64))] r
theorem pure12 (a0 : AK.T (.row (.one (.flt .f64)))) {r : HT [(false, .one (.int .i64))]} (h : ∀ (H : HP) (K : HT [(false, .one (.int .i64))] → HP → Prop), K r H → A12 a0 H K) : S12 a0 r := fun H K hk => callA12 a0 H K (h H K hk)
def A14  (H : HP) (K : HT [(false, .one (.flt .f64))] → HP → Prop) : Prop :=
  K (fNeg .f64 0, ()) H
theorem eqA14  (H : HP) (K : HT [(false, .one (.flt .f64))] → HP → Prop) : A14  H K = aFn ⟨Try.prog, sgTDweigh, okTDweigh, [], akT0⟩ ⟨[], []⟩ (.seq .n (.seq .n (.seq .n .n))) Try.f14 [] (()) [(false, .one (.flt .f64))] H K := by kernel_rfl
theorem callA14  (H : HP) (K : HT [(false, .one (.flt .f64))] → HP → Prop) (h : A14  H K) : callA Try.prog 14 [] (()) [(false, .one (.flt .f64))] H K :=
  aFn_sound mixedDweigh Try.func14 (Eq.mp (eqA14  H K) h)
abbrev S14  (r : HT [(false, .one (.flt .f64))]) : Prop := PureA Try.prog 14 [] (()) [(false, .one (.flt .f64))] r
theorem pure14  {r : HT [(false, .one (.flt .f64))]} (h : ∀ (H : HP) (K : HT [(false, .one (.flt .f64))] → HP → Prop), K r H → A14  H K) : S14  r := fun H K hk => callA14  H K (h H K hk)
def A15 (a0 : AK.T (.one (.flt .f64))) (H : HP) (K : HT [(false, .one (.int .i64))] → HP → Prop) : Prop :=
  retA Try.prog 16 [(false, .one (.flt .f64))] (a0, ()) [(false, .one .bool)] fun (x1 : Bool × Unit) => ifB x1.1 (K (0, ()) H) (K (1, ()) H)
theorem eqA15 (a0 : AK.T (.one (.flt .f64))) (H : HP) (K : HT [(false, .one (.int .i64))] → HP → Prop) : A15 a0 H K = aFn ⟨Try.prog, sgTDweigh, okTDweigh, [], akT0⟩ ⟨[], []⟩ (.seq .n (.seq (.seq .n (.cond (.seq .n .n) .n)) (.seq .n .n))) Try.f15 [(false, .one (.flt .f64))] (a0, ()) [(false, .one (.int .i64))] H K := by kernel_rfl
theorem callA15 (a0 : AK.T (.one (.flt .f64))) (H : HP) (K : HT [(false, .one (.int .i64))] → HP → Prop) (h : A15 a0 H K) : callA Try.prog 15 [(false, .one (.flt .f64))] (a0, ()) [(false, .one (.int .i64))] H K :=
  aFn_sound mixedDweigh Try.func15 (Eq.mp (eqA15 a0 H K) h)
abbrev C15 (a0 : AK.T (.one (.flt .f64))) (H : HP) (K : HT [(false, .one (.int .i64))] → HP → Prop) : Prop := callA Try.prog 15 [(false, .one (.flt .f64))] (a0, ()) [(false, .one (.int .i64))] H K
def A17 (a0 : AK.T (.one (.flt .f64))) (H : HP) (K : HT [(false, .one .bool)] → HP → Prop) : Prop :=
  K (! (fEq .f64 a0 a0), ()) H
theorem eqA17 (a0 : AK.T (.one (.flt .f64))) (H : HP) (K : HT [(false, .one .bool)] → HP → Prop) : A17 a0 H K = aFn ⟨Try.prog, sgTDweigh, okTDweigh, [], akT0⟩ ⟨[], []⟩ (.seq .n (.seq .n .n)) Try.f17 [(false, .one (.flt .f64))] (a0, ()) [(false, .one .bool)] H K := by kernel_rfl
theorem callA17 (a0 : AK.T (.one (.flt .f64))) (H : HP) (K : HT [(false, .one .bool)] → HP → Prop) (h : A17 a0 H K) : callA Try.prog 17 [(false, .one (.flt .f64))] (a0, ()) [(false, .one .bool)] H K :=
  aFn_sound mixedDweigh Try.func17 (Eq.mp (eqA17 a0 H K) h)
abbrev S17 (a0 : AK.T (.one (.flt .f64))) (r : HT [(false, .one .bool)]) : Prop := PureA Try.prog 17 [(false, .one (.flt .f64))] (a0, ()) [(false, .one .bool)] r
theorem pure17 (a0 : AK.T (.one (.flt .f64))) {r : HT [(false, .one .bool)]} (h : ∀ (H : HP) (K : HT [(false, .one .bool)] → HP → Prop), K r H → A17 a0 H K) : S17 a0 r := fun H K hk => callA17 a0 H K (h H K hk)
def A18 (a0 : AK.T (.one (.flt .f64))) (a1 : AK.T (.one (.flt .f64))) (H : HP) (K : HT [(false, .one (.int .i64))] → HP → Prop) : Prop :=
  retA Try.prog 24 [(false, .one (.flt .f64))] (a0, ()) [(false, .one .bool)] fun (x1 : Bool × Unit) => retA Try.prog 24 [(false, .one (.flt .f64))] (a1, ()) [(false, .one .bool)] fun (x2 : Bool × Unit) => ifB x1.1 (ifB x2.1 (K (0, ()) H) (K ((-1), ()) H)) (ifB x2.1 (K (1, ()) H) (ifB (fLt .f64 a0 a1) (K ((-1), ()) H) (ifB (fGt .f64 a0 a1) (K (1, ()) H) (K (0, ()) H))))
theorem eqA18 (a0 : AK.T (.one (.flt .f64))) (a1 : AK.T (.one (.flt .f64))) (H : HP) (K : HT [(false, .one (.int .i64))] → HP → Prop) : A18 a0 a1 H K = aFn ⟨Try.prog, sgTDweigh, okTDweigh, [], akT0⟩ ⟨[], []⟩ (.seq .n (.seq .n (.seq .n (.seq (.seq .n (.cond (.seq (.seq .n (.cond (.seq .n .n) .n)) (.seq .n .n)) .n)) (.seq (.seq .n (.cond (.seq .n .n) .n)) (.seq (.seq .n (.cond (.seq .n .n) .n)) (.seq (.seq .n (.cond (.seq .n .n) .n)) (.seq .n .n)))))))) Try.f18 [(false, .one (.flt .f64)), (false, .one (.flt .f64))] (a0, a1, ()) [(false, .one (.int .i64))] H K := by kernel_rfl
theorem callA18 (a0 : AK.T (.one (.flt .f64))) (a1 : AK.T (.one (.flt .f64))) (H : HP) (K : HT [(false, .one (.int .i64))] → HP → Prop) (h : A18 a0 a1 H K) : callA Try.prog 18 [(false, .one (.flt .f64)), (false, .one (.flt .f64))] (a0, a1, ()) [(false, .one (.int .i64))] H K :=
  aFn_sound mixedDweigh Try.func18 (Eq.mp (eqA18 a0 a1 H K) h)
abbrev S18 (a0 : AK.T (.one (.flt .f64))) (a1 : AK.T (.one (.flt .f64))) (r : HT [(false, .one (.int .i64))]) : Prop := PureA Try.prog 18 [(false, .one (.flt .f64)), (false, .one (.flt .f64))] (a0, a1, ()) [(false, .one (.int .i64))] r
theorem pure18 (a0 : AK.T (.one (.flt .f64))) (a1 : AK.T (.one (.flt .f64))) {r : HT [(false, .one (.int .i64))]} (h : ∀ (H : HP) (K : HT [(false, .one (.int .i64))] → HP → Prop), K r H → A18 a0 a1 H K) : S18 a0 a1 r := fun H K hk => callA18 a0 a1 H K (h H K hk)
def A19 (a0 : AK.T (.one (.int .i64))) (a1 : AK.T (.one (.int .i64))) (H : HP) (K : HT [(false, .one (.int .i64))] → HP → Prop) : Prop :=
  retA Try.prog 25 [(false, .one (.int .i64))] (a0, ()) [(false, .one .bool)] fun (x1 : Bool × Unit) => retA Try.prog 25 [(false, .one (.int .i64))] (a1, ()) [(false, .one .bool)] fun (x2 : Bool × Unit) => ifB x1.1 (ifB x2.1 (K (0, ()) H) (K ((-1), ()) H)) (ifB x2.1 (K (1, ()) H) (ifB (decide (a0 < a1)) (K ((-1), ()) H) (ifB (decide (a0 > a1)) (K (1, ()) H) (K (0, ()) H))))
theorem eqA19 (a0 : AK.T (.one (.int .i64))) (a1 : AK.T (.one (.int .i64))) (H : HP) (K : HT [(false, .one (.int .i64))] → HP → Prop) : A19 a0 a1 H K = aFn ⟨Try.prog, sgTDweigh, okTDweigh, [], akT0⟩ ⟨[], []⟩ (.seq .n (.seq .n (.seq .n (.seq (.seq .n (.cond (.seq (.seq .n (.cond (.seq .n .n) .n)) (.seq .n .n)) .n)) (.seq (.seq .n (.cond (.seq .n .n) .n)) (.seq (.seq .n (.cond (.seq .n .n) .n)) (.seq (.seq .n (.cond (.seq .n .n) .n)) (.seq .n .n)))))))) Try.f19 [(false, .one (.int .i64)), (false, .one (.int .i64))] (a0, a1, ()) [(false, .one (.int .i64))] H K := by kernel_rfl
theorem callA19 (a0 : AK.T (.one (.int .i64))) (a1 : AK.T (.one (.int .i64))) (H : HP) (K : HT [(false, .one (.int .i64))] → HP → Prop) (h : A19 a0 a1 H K) : callA Try.prog 19 [(false, .one (.int .i64)), (false, .one (.int .i64))] (a0, a1, ()) [(false, .one (.int .i64))] H K :=
  aFn_sound mixedDweigh Try.func19 (Eq.mp (eqA19 a0 a1 H K) h)
abbrev S19 (a0 : AK.T (.one (.int .i64))) (a1 : AK.T (.one (.int .i64))) (r : HT [(false, .one (.int .i64))]) : Prop := PureA Try.prog 19 [(false, .one (.int .i64)), (false, .one (.int .i64))] (a0, a1, ()) [(false, .one (.int .i64))] r
theorem pure19 (a0 : AK.T (.one (.int .i64))) (a1 : AK.T (.one (.int .i64))) {r : HT [(false, .one (.int .i64))]} (h : ∀ (H : HP) (K : HT [(false, .one (.int .i64))] → HP → Prop), K r H → A19 a0 a1 H K) : S19 a0 a1 r := fun H K hk => callA19 a0 a1 H K (h H K hk)
def A24 (a0 : AK.T (.one (.flt .f64))) (H : HP) (K : HT [(false, .one .bool)] → HP → Prop) : Prop :=
  K (! (fEq .f64 a0 a0), ()) H
theorem eqA24 (a0 : AK.T (.one (.flt .f64))) (H : HP) (K : HT [(false, .one .bool)] → HP → Prop) : A24 a0 H K = aFn ⟨Try.prog, sgTDweigh, okTDweigh, [], akT0⟩ ⟨[], []⟩ (.seq .n (.seq .n .n)) Try.f24 [(false, .one (.flt .f64))] (a0, ()) [(false, .one .bool)] H K := by kernel_rfl
theorem callA24 (a0 : AK.T (.one (.flt .f64))) (H : HP) (K : HT [(false, .one .bool)] → HP → Prop) (h : A24 a0 H K) : callA Try.prog 24 [(false, .one (.flt .f64))] (a0, ()) [(false, .one .bool)] H K :=
  aFn_sound mixedDweigh Try.func24 (Eq.mp (eqA24 a0 H K) h)
abbrev S24 (a0 : AK.T (.one (.flt .f64))) (r : HT [(false, .one .bool)]) : Prop := PureA Try.prog 24 [(false, .one (.flt .f64))] (a0, ()) [(false, .one .bool)] r
theorem pure24 (a0 : AK.T (.one (.flt .f64))) {r : HT [(false, .one .bool)]} (h : ∀ (H : HP) (K : HT [(false, .one .bool)] → HP → Prop), K r H → A24 a0 H K) : S24 a0 r := fun H K hk => callA24 a0 H K (h H K hk)
def A25 (a0 : AK.T (.one (.int .i64))) (H : HP) (K : HT [(false, .one .bool)] → HP → Prop) : Prop :=
  K ((a0 : Int) != a0, ()) H
theorem eqA25 (a0 : AK.T (.one (.int .i64))) (H : HP) (K : HT [(false, .one .bool)] → HP → Prop) : A25 a0 H K = aFn ⟨Try.prog, sgTDweigh, okTDweigh, [], akT0⟩ ⟨[], []⟩ (.seq .n (.seq .n .n)) Try.f25 [(false, .one (.int .i64))] (a0, ()) [(false, .one .bool)] H K := by kernel_rfl
theorem callA25 (a0 : AK.T (.one (.int .i64))) (H : HP) (K : HT [(false, .one .bool)] → HP → Prop) (h : A25 a0 H K) : callA Try.prog 25 [(false, .one (.int .i64))] (a0, ()) [(false, .one .bool)] H K :=
  aFn_sound mixedDweigh Try.func25 (Eq.mp (eqA25 a0 H K) h)
abbrev S25 (a0 : AK.T (.one (.int .i64))) (r : HT [(false, .one .bool)]) : Prop := PureA Try.prog 25 [(false, .one (.int .i64))] (a0, ()) [(false, .one .bool)] r
theorem pure25 (a0 : AK.T (.one (.int .i64))) {r : HT [(false, .one .bool)]} (h : ∀ (H : HP) (K : HT [(false, .one .bool)] → HP → Prop), K r H → A25 a0 H K) : S25 a0 r := fun H K hk => callA25 a0 H K (h H K hk)
end Go.Proofs.Ytjbpgebjcehfkaa
