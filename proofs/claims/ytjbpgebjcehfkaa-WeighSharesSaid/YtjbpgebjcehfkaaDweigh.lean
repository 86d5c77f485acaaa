/-
  WRITTEN BY mka.py (a program of ours): of each function named below: its formula over data, and that the kernel reckons this very formula out of the function's code.
-/
import Derived.Test.YtjbpgebjcehfkaaProg
import Derived.Test.YtjbpgebjcehfkaaKc
namespace Go.Proofs.Ytjbpgebjcehfkaa
open Go Go.Gp Go.Ga
set_option linter.unusedVariables false
set_option maxRecDepth 100000
set_option maxHeartbeats 0
def akTDweigh : TypeId → Option AK
  | 1 => some (.one .any)
  | 2 => some (.one (.int .i64))
  | 3 => some (.one (.int .i64))
  | 4 => some (.one .bool)
  | 5 => some (.byte)
  | 6 => some (.byte)
  | 7 => some (.cons (.one (.int .i64)) (.cons (.one (.int .i64)) (.cons (.one .bool) (.one (.int .u8)))))
  | 8 => some (.cons (.one (.int .i64)) (.cons (.one (.int .i64)) (.cons (.one .bool) (.one (.int .u8)))))
  | 9 => some (.one .str)
  | 10 => some (.one .str)
  | 11 => some (.one .str)
  | 12 => some (.one (.int .u64))
  | 13 => some (.cons (.one .str) (.one (.int .u64)))
  | 14 => some (.cons (.one .str) (.one (.int .u64)))
  | 15 => some (.ref)
  | 16 => some (.ref)
  | 17 => some (.ref)
  | 18 => some (.ref)
  | 19 => some (.ref)
  | 20 => some (.one .any)
  | 21 => some (.one (.int .i32))
  | 22 => some (.one (.flt .f64))
  | 23 => some (.one .any)
  | 24 => some (.one .any)
  | 25 => some (.one .any)
  | 26 => some (.one .any)
  | 27 => some (.row (.one (.int .i64)))
  | 28 => some (.row (.one (.flt .f64)))
  | 29 => some (.one .any)
  | 30 => some (.one .any)
  | 31 => some (.one .any)
  | 32 => some (.one .any)
  | 33 => some (.one .any)
  | 34 => some (.one .any)
  | 35 => some (.one .any)
  | 36 => some (.one .any)
  | 37 => some (.one .any)
  | 38 => some (.one (.int .u64))
  | 39 => some (.one .any)
  | 40 => some (.one .any)
  | 41 => some (.one .any)
  | 42 => some (.one .any)
  | 43 => some (.one .any)
  | 44 => some (.one .any)
  | 45 => some (.one (.int .u64))
  | 46 => some (.one .any)
  | 47 => some (.cons .ref (.cons .ref (.cons .ref (.one .str))))
  | 48 => some (.cons .ref (.cons .ref (.cons .ref (.one .str))))
  | 50 => some (.nil)
  | 51 => some (.nil)
  | 52 => some (.one .any)
  | 53 => some (.one (.int .u32))
  | 54 => some (.byte)
  | 55 => some (.byte)
  | 56 => some (.one .any)
  | 57 => some (.ref)
  | 58 => some (.one (.int .i32))
  | 59 => some (.one (.int .i32))
  | 60 => some (.cons (.one (.int .u64)) (.cons (.one (.int .u64)) (.cons (.one (.int .u32)) (.cons (.one (.int .u8)) (.cons (.one (.int .u8)) (.cons (.one (.int .u8)) (.cons (.one (.int .u8)) (.cons (.one .any) (.cons .ref (.cons (.one (.int .i32)) (.one (.int .i32))))))))))))
  | 61 => some (.cons (.one (.int .u64)) (.cons (.one (.int .u64)) (.cons (.one (.int .u32)) (.cons (.one (.int .u8)) (.cons (.one (.int .u8)) (.cons (.one (.int .u8)) (.cons (.one (.int .u8)) (.cons (.one .any) (.cons .ref (.cons (.one (.int .i32)) (.one (.int .i32))))))))))))
  | _ => none
def okTDweigh : TypeId → Option AK
  | _ => none
def sgTDweigh : FuncId → Option Sig
  | 6 => some ⟨[], [(false, .one .bool)], 0⟩
  | 7 => some ⟨[(false, .one (.flt .f64)), (false, .one (.flt .f64))], [(false, .one (.int .i64))], 0⟩
  | 8 => some ⟨[(false, .one (.flt .f64)), (false, .one (.flt .f64))], [(false, .one (.int .i64))], 0⟩
  | 9 => some ⟨[], [(false, .one (.flt .f64))], 2⟩
  | 10 => some ⟨[(false, .row (.one (.int .i64)))], [(false, .row (.one (.flt .f64)))], 2⟩
  | 11 => some ⟨[(false, .one (.flt .f64)), (false, .one (.flt .f64))], [(false, .one .bool)], 0⟩
  | 12 => some ⟨[(false, .row (.one (.flt .f64)))], [(false, .one (.int .i64))], 0⟩
  | 14 => some ⟨[], [(false, .one (.flt .f64))], 0⟩
  | 15 => some ⟨[(false, .one (.flt .f64))], [(false, .one (.int .i64))], 0⟩
  | 16 => some ⟨[(false, .one (.flt .f64))], [(false, .one .bool)], 0⟩
  | 17 => some ⟨[(false, .one (.flt .f64))], [(false, .one .bool)], 0⟩
  | 18 => some ⟨[(false, .one (.flt .f64)), (false, .one (.flt .f64))], [(false, .one (.int .i64))], 0⟩
  | 19 => some ⟨[(false, .one (.int .i64)), (false, .one (.int .i64))], [(false, .one (.int .i64))], 0⟩
  | 20 => some ⟨[], [(false, .one (.flt .f64))], 0⟩
  | 24 => some ⟨[(false, .one (.flt .f64))], [(false, .one .bool)], 0⟩
  | 25 => some ⟨[(false, .one (.int .i64))], [(false, .one .bool)], 0⟩
  | _ => none
theorem mixedDweigh : Try.prog.follows .mixedOrders = true := by kernel_rfl

/-! garnet/garnetlaw03.WeighOrders -/
def A3 (a0 : AK.T (.one (.flt .f64))) (a1 : AK.T (.one (.flt .f64))) (H : HP) (K : HT [(false, .one .bool)] → HP → Prop) : Prop :=
  retA Try.prog 6 [] () [(false, .one .bool)] fun (x1 : Bool × Unit) => ifB x1.1 (retA Try.prog 7 [(false, .one (.flt .f64)), (false, .one (.flt .f64))] (a0, a1, ()) [(false, .one (.int .i64))] fun (x2 : Int × Unit) => retA Try.prog 8 [(false, .one (.flt .f64)), (false, .one (.flt .f64))] (a0, a1, ()) [(false, .one (.int .i64))] fun (x3 : Int × Unit) => ifB ((x2.1 : Int) == x3.1) (callA Try.prog 9 [] () [(false, .one (.flt .f64))] H fun (x4 : Nat × Unit) (H5 : HP) => callA Try.prog 9 [] () [(false, .one (.flt .f64))] H5 fun (x6 : Nat × Unit) (H7 : HP) => retA Try.prog 7 [(false, .one (.flt .f64)), (false, .one (.flt .f64))] (x4.1, x6.1, ()) [(false, .one (.int .i64))] fun (x8 : Int × Unit) => K ((x8.1 : Int) == 0, ()) H7) (K (false, ()) H)) (K (false, ()) H)
theorem eqA3 (a0 : AK.T (.one (.flt .f64))) (a1 : AK.T (.one (.flt .f64))) (H : HP) (K : HT [(false, .one .bool)] → HP → Prop) : A3 a0 a1 H K = aFn ⟨Try.prog, sgTDweigh, okTDweigh, [], akTDweigh⟩ ⟨[], []⟩ (.seq .n (.seq .n (.seq .n .n))) Try.f3 [(false, .one (.flt .f64)), (false, .one (.flt .f64))] (a0, a1, ()) [(false, .one .bool)] H K := by kernel_rfl
theorem callA3 (a0 : AK.T (.one (.flt .f64))) (a1 : AK.T (.one (.flt .f64))) (H : HP) (K : HT [(false, .one .bool)] → HP → Prop) (h : A3 a0 a1 H K) : callA Try.prog 3 [(false, .one (.flt .f64)), (false, .one (.flt .f64))] (a0, a1, ()) [(false, .one .bool)] H K :=
  aFn_sound mixedDweigh Try.func3 (Eq.mp (eqA3 a0 a1 H K) h)
abbrev S3 (a0 : AK.T (.one (.flt .f64))) (a1 : AK.T (.one (.flt .f64))) (r : HT [(false, .one .bool)]) : Prop := PureA Try.prog 3 [(false, .one (.flt .f64)), (false, .one (.flt .f64))] (a0, a1, ()) [(false, .one .bool)] r
abbrev C3 (a0 : AK.T (.one (.flt .f64))) (a1 : AK.T (.one (.flt .f64))) (H : HP) (K : HT [(false, .one .bool)] → HP → Prop) : Prop := callA Try.prog 3 [(false, .one (.flt .f64)), (false, .one (.flt .f64))] (a0, a1, ()) [(false, .one .bool)] H K
theorem pure3 (a0 : AK.T (.one (.flt .f64))) (a1 : AK.T (.one (.flt .f64))) {r : HT [(false, .one .bool)]} (h : ∀ (H : HP) (K : HT [(false, .one .bool)] → HP → Prop), K r H → A3 a0 a1 H K) : S3 a0 a1 r := fun H K hk => callA3 a0 a1 H K (h H K hk)

/-! garnet/garnetlaw03.up -/
def A6  (H : HP) (K : HT [(false, .one .bool)] → HP → Prop) : Prop :=
  retA Try.prog 14 [] () [(false, .one (.flt .f64))] fun (x1 : Nat × Unit) => retA Try.prog 7 [(false, .one (.flt .f64)), (false, .one (.flt .f64))] (x1.1, 0, ()) [(false, .one (.int .i64))] fun (x2 : Int × Unit) => ifB ((x2.1 : Int) == (-1)) (callA Try.prog 9 [] () [(false, .one (.flt .f64))] H fun (x3 : Nat × Unit) (H4 : HP) => retA Try.prog 7 [(false, .one (.flt .f64)), (false, .one (.flt .f64))] (x3.1, 13830554455654793216, ()) [(false, .one (.int .i64))] fun (x5 : Int × Unit) => ifB ((x5.1 : Int) == (-1)) (retA Try.prog 12 [(false, .row (.one (.flt .f64)))] ([], ()) [(false, .one (.int .i64))] fun (x6 : Int × Unit) => ifB ((x6.1 : Int) == (-1)) (retA Try.prog 12 [(false, .row (.one (.flt .f64)))] ([4607182418800017408, 4611686018427387904], ()) [(false, .one (.int .i64))] fun (x7 : Int × Unit) => K ((x7.1 : Int) == 1, ()) H4) (K (false, ()) H4)) (K (false, ()) H4)) (K (false, ()) H)
theorem eqA6  (H : HP) (K : HT [(false, .one .bool)] → HP → Prop) : A6  H K = aFn ⟨Try.prog, sgTDweigh, okTDweigh, [], akTDweigh⟩ ⟨[(14, .row (.one (.flt .f64)))], []⟩ (.seq .n (.seq .n .n)) Try.f6 [] (()) [(false, .one .bool)] H K := by kernel_rfl
theorem callA6  (H : HP) (K : HT [(false, .one .bool)] → HP → Prop) (h : A6  H K) : callA Try.prog 6 [] (()) [(false, .one .bool)] H K :=
  aFn_sound mixedDweigh Try.func6 (Eq.mp (eqA6  H K) h)
abbrev S6  (r : HT [(false, .one .bool)]) : Prop := PureA Try.prog 6 [] (()) [(false, .one .bool)] r
abbrev C6  (H : HP) (K : HT [(false, .one .bool)] → HP → Prop) : Prop := callA Try.prog 6 [] (()) [(false, .one .bool)] H K
theorem pure6  {r : HT [(false, .one .bool)]} (h : ∀ (H : HP) (K : HT [(false, .one .bool)] → HP → Prop), K r H → A6  H K) : S6  r := fun H K hk => callA6  H K (h H K hk)

/-! garnet/weigh.Compare -/
def A7 (a0 : AK.T (.one (.flt .f64))) (a1 : AK.T (.one (.flt .f64))) (H : HP) (K : HT [(false, .one (.int .i64))] → HP → Prop) : Prop :=
  retA Try.prog 17 [(false, .one (.flt .f64))] (a0, ()) [(false, .one .bool)] fun (x1 : Bool × Unit) => ifB x1.1 (retA Try.prog 18 [(false, .one (.flt .f64)), (false, .one (.flt .f64))] (a0, a1, ()) [(false, .one (.int .i64))] fun (x2 : Int × Unit) => K (x2.1, ()) H) (retA Try.prog 17 [(false, .one (.flt .f64))] (a1, ()) [(false, .one .bool)] fun (x3 : Bool × Unit) => ifB x3.1 (retA Try.prog 18 [(false, .one (.flt .f64)), (false, .one (.flt .f64))] (a0, a1, ()) [(false, .one (.int .i64))] fun (x4 : Int × Unit) => K (x4.1, ()) H) (ifB (! (fEq .f64 a0 0)) (retA Try.prog 18 [(false, .one (.flt .f64)), (false, .one (.flt .f64))] (a0, a1, ()) [(false, .one (.int .i64))] fun (x5 : Int × Unit) => K (x5.1, ()) H) (ifB (! (fEq .f64 a1 0)) (retA Try.prog 18 [(false, .one (.flt .f64)), (false, .one (.flt .f64))] (a0, a1, ()) [(false, .one (.int .i64))] fun (x6 : Int × Unit) => K (x6.1, ()) H) (callA Try.prog 15 [(false, .one (.flt .f64))] (a0, ()) [(false, .one (.int .i64))] H fun (x7 : Int × Unit) (H8 : HP) => callA Try.prog 15 [(false, .one (.flt .f64))] (a1, ()) [(false, .one (.int .i64))] H8 fun (x9 : Int × Unit) (H10 : HP) => retA Try.prog 19 [(false, .one (.int .i64)), (false, .one (.int .i64))] (x7.1, x9.1, ()) [(false, .one (.int .i64))] fun (x11 : Int × Unit) => K (x11.1, ()) H10))))
theorem eqA7 (a0 : AK.T (.one (.flt .f64))) (a1 : AK.T (.one (.flt .f64))) (H : HP) (K : HT [(false, .one (.int .i64))] → HP → Prop) : A7 a0 a1 H K = aFn ⟨Try.prog, sgTDweigh, okTDweigh, [], akTDweigh⟩ ⟨[], []⟩ (.seq .n (.seq .n (.seq (.seq .n (.cond (.seq .n .n) .n)) (.seq .n .n)))) Try.f7 [(false, .one (.flt .f64)), (false, .one (.flt .f64))] (a0, a1, ()) [(false, .one (.int .i64))] H K := by kernel_rfl
theorem callA7 (a0 : AK.T (.one (.flt .f64))) (a1 : AK.T (.one (.flt .f64))) (H : HP) (K : HT [(false, .one (.int .i64))] → HP → Prop) (h : A7 a0 a1 H K) : callA Try.prog 7 [(false, .one (.flt .f64)), (false, .one (.flt .f64))] (a0, a1, ()) [(false, .one (.int .i64))] H K :=
  aFn_sound mixedDweigh Try.func7 (Eq.mp (eqA7 a0 a1 H K) h)
abbrev S7 (a0 : AK.T (.one (.flt .f64))) (a1 : AK.T (.one (.flt .f64))) (r : HT [(false, .one (.int .i64))]) : Prop := PureA Try.prog 7 [(false, .one (.flt .f64)), (false, .one (.flt .f64))] (a0, a1, ()) [(false, .one (.int .i64))] r
abbrev C7 (a0 : AK.T (.one (.flt .f64))) (a1 : AK.T (.one (.flt .f64))) (H : HP) (K : HT [(false, .one (.int .i64))] → HP → Prop) : Prop := callA Try.prog 7 [(false, .one (.flt .f64)), (false, .one (.flt .f64))] (a0, a1, ()) [(false, .one (.int .i64))] H K
theorem pure7 (a0 : AK.T (.one (.flt .f64))) (a1 : AK.T (.one (.flt .f64))) {r : HT [(false, .one (.int .i64))]} (h : ∀ (H : HP) (K : HT [(false, .one (.int .i64))] → HP → Prop), K r H → A7 a0 a1 H K) : S7 a0 a1 r := fun H K hk => callA7 a0 a1 H K (h H K hk)

/-! garnet/garnetref01.Compare -/
def A8 (a0 : AK.T (.one (.flt .f64))) (a1 : AK.T (.one (.flt .f64))) (H : HP) (K : HT [(false, .one (.int .i64))] → HP → Prop) : Prop :=
  ifB (! (fEq .f64 a0 a0)) (ifB (fEq .f64 a0 a0) (K (1, ()) H) (ifB (fEq .f64 a1 a1) (K ((-1), ()) H) (K (0, ()) H))) (ifB (! (fEq .f64 a1 a1)) (ifB (fEq .f64 a0 a0) (K (1, ()) H) (ifB (fEq .f64 a1 a1) (K ((-1), ()) H) (K (0, ()) H))) (ifB (fLt .f64 a0 a1) (K ((-1), ()) H) (ifB (fGt .f64 a0 a1) (K (1, ()) H) (ifB (! (fEq .f64 a0 0)) (K (0, ()) H) (fltA .quo .f64 4607182418800017408 a0 fun (i1 : Nat) => fltA .quo .f64 4607182418800017408 a1 fun (i2 : Nat) => ifB (fLt .f64 i1 i2) (K ((-1), ()) H) (ifB (fGt .f64 i1 i2) (K (1, ()) H) (K (0, ()) H)))))))
theorem eqA8 (a0 : AK.T (.one (.flt .f64))) (a1 : AK.T (.one (.flt .f64))) (H : HP) (K : HT [(false, .one (.int .i64))] → HP → Prop) : A8 a0 a1 H K = aFn ⟨Try.prog, sgTDweigh, okTDweigh, [], akTDweigh⟩ ⟨[], []⟩ (.seq .n (.seq (.seq .n (.cond (.seq (.seq .n (.cond (.seq .n .n) .n)) (.seq (.seq .n (.cond (.seq .n .n) .n)) (.seq .n .n))) .n)) (.seq (.seq .n (.cond (.seq .n .n) .n)) (.seq (.seq .n (.cond (.seq .n .n) .n)) (.seq (.seq .n (.cond (.seq .n .n) .n)) (.seq .n (.seq .n (.seq (.seq .n (.cond (.seq .n .n) .n)) (.seq (.seq .n (.cond (.seq .n .n) .n)) (.seq .n .n)))))))))) Try.f8 [(false, .one (.flt .f64)), (false, .one (.flt .f64))] (a0, a1, ()) [(false, .one (.int .i64))] H K := by kernel_rfl
theorem callA8 (a0 : AK.T (.one (.flt .f64))) (a1 : AK.T (.one (.flt .f64))) (H : HP) (K : HT [(false, .one (.int .i64))] → HP → Prop) (h : A8 a0 a1 H K) : callA Try.prog 8 [(false, .one (.flt .f64)), (false, .one (.flt .f64))] (a0, a1, ()) [(false, .one (.int .i64))] H K :=
  aFn_sound mixedDweigh Try.func8 (Eq.mp (eqA8 a0 a1 H K) h)
abbrev S8 (a0 : AK.T (.one (.flt .f64))) (a1 : AK.T (.one (.flt .f64))) (r : HT [(false, .one (.int .i64))]) : Prop := PureA Try.prog 8 [(false, .one (.flt .f64)), (false, .one (.flt .f64))] (a0, a1, ()) [(false, .one (.int .i64))] r
abbrev C8 (a0 : AK.T (.one (.flt .f64))) (a1 : AK.T (.one (.flt .f64))) (H : HP) (K : HT [(false, .one (.int .i64))] → HP → Prop) : Prop := callA Try.prog 8 [(false, .one (.flt .f64)), (false, .one (.flt .f64))] (a0, a1, ()) [(false, .one (.int .i64))] H K
theorem pure8 (a0 : AK.T (.one (.flt .f64))) (a1 : AK.T (.one (.flt .f64))) {r : HT [(false, .one (.int .i64))]} (h : ∀ (H : HP) (K : HT [(false, .one (.int .i64))] → HP → Prop), K r H → A8 a0 a1 H K) : S8 a0 a1 r := fun H K hk => callA8 a0 a1 H K (h H K hk)

/-! garnet/garnetlaw03.none -/
def A9  (H : HP) (K : HT [(false, .one (.flt .f64))] → HP → Prop) : Prop :=
  fltA .quo .f64 0 0 fun (i1 : Nat) => K (i1, ()) H
theorem eqA9  (H : HP) (K : HT [(false, .one (.flt .f64))] → HP → Prop) : A9  H K = aFn ⟨Try.prog, sgTDweigh, okTDweigh, [], akTDweigh⟩ ⟨[], []⟩ (.seq .n (.seq .n (.seq .n .n))) Try.f9 [] (()) [(false, .one (.flt .f64))] H K := by kernel_rfl
theorem callA9  (H : HP) (K : HT [(false, .one (.flt .f64))] → HP → Prop) (h : A9  H K) : callA Try.prog 9 [] (()) [(false, .one (.flt .f64))] H K :=
  aFn_sound mixedDweigh Try.func9 (Eq.mp (eqA9  H K) h)
abbrev S9  (r : HT [(false, .one (.flt .f64))]) : Prop := PureA Try.prog 9 [] (()) [(false, .one (.flt .f64))] r
abbrev C9  (H : HP) (K : HT [(false, .one (.flt .f64))] → HP → Prop) : Prop := callA Try.prog 9 [] (()) [(false, .one (.flt .f64))] H K
theorem pure9  {r : HT [(false, .one (.flt .f64))]} (h : ∀ (H : HP) (K : HT [(false, .one (.flt .f64))] → HP → Prop), K r H → A9  H K) : S9  r := fun H K hk => callA9  H K (h H K hk)

/-! garnet/weigh.Heaviest -/
def A12 (a0 : AK.T (.row (.one (.flt .f64)))) (H : HP) (K : HT [(false, .one (.int .i64))] → HP → Prop) : Prop :=
  lenA a0.length fun (n1 : Int) => LoopA (V := (List Nat × Int × List Nat × Int × Int × Unit) × Unit) ((a0, (-1), a0, n1, 0, ()), ()) H fun (x2 : (List Nat × Int × List Nat × Int × Int × Unit) × Unit) (H3 : HP) B4 => ifB (decide (x2.1.2.2.2.2.1 < x2.1.2.2.2.1)) (atA x2.1.2.2.1 x2.1.2.2.2.2.1 fun (i5 : Nat) => JoinA (V := (List Nat × Int × Int × List Nat × Int × Int × Bool × Unit) × Unit) (fun (x6 : (List Nat × Int × Int × List Nat × Int × Int × Bool × Unit) × Unit) (H7 : HP) => ifB x6.1.2.2.2.2.2.2.1 (B4 ((x6.1.1, x6.1.2.2.1, x6.1.2.2.2.1, x6.1.2.2.2.2.1, IntKind.i64.wrap (x6.1.2.2.2.2.2.1 + 1), ()), ()) H7) (B4 ((x6.1.1, x6.1.2.1, x6.1.2.2.2.1, x6.1.2.2.2.2.1, IntKind.i64.wrap (x6.1.2.2.2.2.2.1 + 1), ()), ()) H7)) fun B8 => ifB (decide (x2.1.2.1 < 0)) (B8 ((x2.1.1, x2.1.2.1, x2.1.2.2.2.2.1, x2.1.2.2.1, x2.1.2.2.2.1, x2.1.2.2.2.2.1, true, ()), ()) H3) (atA x2.1.1 x2.1.2.1 fun (i9 : Nat) => retA Try.prog 7 [(false, .one (.flt .f64)), (false, .one (.flt .f64))] (i5, i9, ()) [(false, .one (.int .i64))] fun (x10 : Int × Unit) => B8 ((x2.1.1, x2.1.2.1, x2.1.2.2.2.2.1, x2.1.2.2.1, x2.1.2.2.2.1, x2.1.2.2.2.2.1, decide (x10.1 > 0), ()), ()) H3)) (K (x2.1.2.1, ()) H3)
theorem eqA12 (a0 : AK.T (.row (.one (.flt .f64)))) (H : HP) (K : HT [(false, .one (.int .i64))] → HP → Prop) : A12 a0 H K = aFn ⟨Try.prog, sgTDweigh, okTDweigh, [], akTDweigh⟩ ⟨[(0, .row (.one (.flt .f64))), (6, .row (.one (.flt .f64))), (17, .row (.one (.flt .f64)))], []⟩ (.seq .n (.seq .n (.seq (.seq .n (.blk (.loop [0, 3, 6, 7, 8] [] (.seq .n (.seq (.cond .n .n) (.seq (.blk (.seq .n (.join [(0, .v (.row (.one (.flt .f64)))), (3, .v (.one (.int .i64))), (4, .v (.one (.int .i64))), (6, .v (.row (.one (.flt .f64)))), (7, .v (.one (.int .i64))), (8, .v (.one (.int .i64))), (23, .v (.one .bool))] [] .n (.cond .n .n)))) .n)))))) (.seq .n .n)))) Try.f12 [(false, .row (.one (.flt .f64)))] (a0, ()) [(false, .one (.int .i64))] H K := by kernel_rfl
theorem callA12 (a0 : AK.T (.row (.one (.flt .f64)))) (H : HP) (K : HT [(false, .one (.int .i64))] → HP → Prop) (h : A12 a0 H K) : callA Try.prog 12 [(false, .row (.one (.flt .f64)))] (a0, ()) [(false, .one (.int .i64))] H K :=
  aFn_sound mixedDweigh Try.func12 (Eq.mp (eqA12 a0 H K) h)
abbrev S12 (a0 : AK.T (.row (.one (.flt .f64)))) (r : HT [(false, .one (.int .i64))]) : Prop := PureA Try.prog 12 [(false, .row (.one (.flt .f64)))] (a0, ()) [(false, .one (.int .i64))] r
abbrev C12 (a0 : AK.T (.row (.one (.flt .f64)))) (H : HP) (K : HT [(false, .one (.int .i64))] → HP → Prop) : Prop := callA Try.prog 12 [(false, .row (.one (.flt .f64)))] (a0, ()) [(false, .one (.int .i64))] H K
theorem pure12 (a0 : AK.T (.row (.one (.flt .f64)))) {r : HT [(false, .one (.int .i64))]} (h : ∀ (H : HP) (K : HT [(false, .one (.int .i64))] → HP → Prop), K r H → A12 a0 H K) : S12 a0 r := fun H K hk => callA12 a0 H K (h H K hk)

/-! garnet/garnetlaw03.minus -/
def A14  (H : HP) (K : HT [(false, .one (.flt .f64))] → HP → Prop) : Prop :=
  K (fNeg .f64 0, ()) H
theorem eqA14  (H : HP) (K : HT [(false, .one (.flt .f64))] → HP → Prop) : A14  H K = aFn ⟨Try.prog, sgTDweigh, okTDweigh, [], akTDweigh⟩ ⟨[], []⟩ (.seq .n (.seq .n (.seq .n .n))) Try.f14 [] (()) [(false, .one (.flt .f64))] H K := by kernel_rfl
theorem callA14  (H : HP) (K : HT [(false, .one (.flt .f64))] → HP → Prop) (h : A14  H K) : callA Try.prog 14 [] (()) [(false, .one (.flt .f64))] H K :=
  aFn_sound mixedDweigh Try.func14 (Eq.mp (eqA14  H K) h)
abbrev S14  (r : HT [(false, .one (.flt .f64))]) : Prop := PureA Try.prog 14 [] (()) [(false, .one (.flt .f64))] r
abbrev C14  (H : HP) (K : HT [(false, .one (.flt .f64))] → HP → Prop) : Prop := callA Try.prog 14 [] (()) [(false, .one (.flt .f64))] H K
theorem pure14  {r : HT [(false, .one (.flt .f64))]} (h : ∀ (H : HP) (K : HT [(false, .one (.flt .f64))] → HP → Prop), K r H → A14  H K) : S14  r := fun H K hk => callA14  H K (h H K hk)

/-! garnet/weigh.Compare$1 -/
def A15 (a0 : AK.T (.one (.flt .f64))) (H : HP) (K : HT [(false, .one (.int .i64))] → HP → Prop) : Prop :=
  retA Try.prog 16 [(false, .one (.flt .f64))] (a0, ()) [(false, .one .bool)] fun (x1 : Bool × Unit) => ifB x1.1 (K (0, ()) H) (K (1, ()) H)
theorem eqA15 (a0 : AK.T (.one (.flt .f64))) (H : HP) (K : HT [(false, .one (.int .i64))] → HP → Prop) : A15 a0 H K = aFn ⟨Try.prog, sgTDweigh, okTDweigh, [], akTDweigh⟩ ⟨[], []⟩ (.seq .n (.seq (.seq .n (.cond (.seq .n .n) .n)) (.seq .n .n))) Try.f15 [(false, .one (.flt .f64))] (a0, ()) [(false, .one (.int .i64))] H K := by kernel_rfl
theorem callA15 (a0 : AK.T (.one (.flt .f64))) (H : HP) (K : HT [(false, .one (.int .i64))] → HP → Prop) (h : A15 a0 H K) : callA Try.prog 15 [(false, .one (.flt .f64))] (a0, ()) [(false, .one (.int .i64))] H K :=
  aFn_sound mixedDweigh Try.func15 (Eq.mp (eqA15 a0 H K) h)
abbrev S15 (a0 : AK.T (.one (.flt .f64))) (r : HT [(false, .one (.int .i64))]) : Prop := PureA Try.prog 15 [(false, .one (.flt .f64))] (a0, ()) [(false, .one (.int .i64))] r
abbrev C15 (a0 : AK.T (.one (.flt .f64))) (H : HP) (K : HT [(false, .one (.int .i64))] → HP → Prop) : Prop := callA Try.prog 15 [(false, .one (.flt .f64))] (a0, ()) [(false, .one (.int .i64))] H K
theorem pure15 (a0 : AK.T (.one (.flt .f64))) {r : HT [(false, .one (.int .i64))]} (h : ∀ (H : HP) (K : HT [(false, .one (.int .i64))] → HP → Prop), K r H → A15 a0 H K) : S15 a0 r := fun H K hk => callA15 a0 H K (h H K hk)

/-! math.IsNaN -/
def A17 (a0 : AK.T (.one (.flt .f64))) (H : HP) (K : HT [(false, .one .bool)] → HP → Prop) : Prop :=
  K (! (fEq .f64 a0 a0), ()) H
theorem eqA17 (a0 : AK.T (.one (.flt .f64))) (H : HP) (K : HT [(false, .one .bool)] → HP → Prop) : A17 a0 H K = aFn ⟨Try.prog, sgTDweigh, okTDweigh, [], akTDweigh⟩ ⟨[], []⟩ (.seq .n (.seq .n .n)) Try.f17 [(false, .one (.flt .f64))] (a0, ()) [(false, .one .bool)] H K := by kernel_rfl
theorem callA17 (a0 : AK.T (.one (.flt .f64))) (H : HP) (K : HT [(false, .one .bool)] → HP → Prop) (h : A17 a0 H K) : callA Try.prog 17 [(false, .one (.flt .f64))] (a0, ()) [(false, .one .bool)] H K :=
  aFn_sound mixedDweigh Try.func17 (Eq.mp (eqA17 a0 H K) h)
abbrev S17 (a0 : AK.T (.one (.flt .f64))) (r : HT [(false, .one .bool)]) : Prop := PureA Try.prog 17 [(false, .one (.flt .f64))] (a0, ()) [(false, .one .bool)] r
abbrev C17 (a0 : AK.T (.one (.flt .f64))) (H : HP) (K : HT [(false, .one .bool)] → HP → Prop) : Prop := callA Try.prog 17 [(false, .one (.flt .f64))] (a0, ()) [(false, .one .bool)] H K
theorem pure17 (a0 : AK.T (.one (.flt .f64))) {r : HT [(false, .one .bool)]} (h : ∀ (H : HP) (K : HT [(false, .one .bool)] → HP → Prop), K r H → A17 a0 H K) : S17 a0 r := fun H K hk => callA17 a0 H K (h H K hk)

/-! cmp.Compare[float64] -/
def A18 (a0 : AK.T (.one (.flt .f64))) (a1 : AK.T (.one (.flt .f64))) (H : HP) (K : HT [(false, .one (.int .i64))] → HP → Prop) : Prop :=
  retA Try.prog 24 [(false, .one (.flt .f64))] (a0, ()) [(false, .one .bool)] fun (x1 : Bool × Unit) => retA Try.prog 24 [(false, .one (.flt .f64))] (a1, ()) [(false, .one .bool)] fun (x2 : Bool × Unit) => ifB x1.1 (ifB x2.1 (K (0, ()) H) (K ((-1), ()) H)) (ifB x2.1 (K (1, ()) H) (ifB (fLt .f64 a0 a1) (K ((-1), ()) H) (ifB (fGt .f64 a0 a1) (K (1, ()) H) (K (0, ()) H))))
theorem eqA18 (a0 : AK.T (.one (.flt .f64))) (a1 : AK.T (.one (.flt .f64))) (H : HP) (K : HT [(false, .one (.int .i64))] → HP → Prop) : A18 a0 a1 H K = aFn ⟨Try.prog, sgTDweigh, okTDweigh, [], akTDweigh⟩ ⟨[], []⟩ (.seq .n (.seq .n (.seq .n (.seq (.seq .n (.cond (.seq (.seq .n (.cond (.seq .n .n) .n)) (.seq .n .n)) .n)) (.seq (.seq .n (.cond (.seq .n .n) .n)) (.seq (.seq .n (.cond (.seq .n .n) .n)) (.seq (.seq .n (.cond (.seq .n .n) .n)) (.seq .n .n)))))))) Try.f18 [(false, .one (.flt .f64)), (false, .one (.flt .f64))] (a0, a1, ()) [(false, .one (.int .i64))] H K := by kernel_rfl
theorem callA18 (a0 : AK.T (.one (.flt .f64))) (a1 : AK.T (.one (.flt .f64))) (H : HP) (K : HT [(false, .one (.int .i64))] → HP → Prop) (h : A18 a0 a1 H K) : callA Try.prog 18 [(false, .one (.flt .f64)), (false, .one (.flt .f64))] (a0, a1, ()) [(false, .one (.int .i64))] H K :=
  aFn_sound mixedDweigh Try.func18 (Eq.mp (eqA18 a0 a1 H K) h)
abbrev S18 (a0 : AK.T (.one (.flt .f64))) (a1 : AK.T (.one (.flt .f64))) (r : HT [(false, .one (.int .i64))]) : Prop := PureA Try.prog 18 [(false, .one (.flt .f64)), (false, .one (.flt .f64))] (a0, a1, ()) [(false, .one (.int .i64))] r
abbrev C18 (a0 : AK.T (.one (.flt .f64))) (a1 : AK.T (.one (.flt .f64))) (H : HP) (K : HT [(false, .one (.int .i64))] → HP → Prop) : Prop := callA Try.prog 18 [(false, .one (.flt .f64)), (false, .one (.flt .f64))] (a0, a1, ()) [(false, .one (.int .i64))] H K
theorem pure18 (a0 : AK.T (.one (.flt .f64))) (a1 : AK.T (.one (.flt .f64))) {r : HT [(false, .one (.int .i64))]} (h : ∀ (H : HP) (K : HT [(false, .one (.int .i64))] → HP → Prop), K r H → A18 a0 a1 H K) : S18 a0 a1 r := fun H K hk => callA18 a0 a1 H K (h H K hk)

/-! cmp.Compare[int] -/
def A19 (a0 : AK.T (.one (.int .i64))) (a1 : AK.T (.one (.int .i64))) (H : HP) (K : HT [(false, .one (.int .i64))] → HP → Prop) : Prop :=
  retA Try.prog 25 [(false, .one (.int .i64))] (a0, ()) [(false, .one .bool)] fun (x1 : Bool × Unit) => retA Try.prog 25 [(false, .one (.int .i64))] (a1, ()) [(false, .one .bool)] fun (x2 : Bool × Unit) => ifB x1.1 (ifB x2.1 (K (0, ()) H) (K ((-1), ()) H)) (ifB x2.1 (K (1, ()) H) (ifB (decide (a0 < a1)) (K ((-1), ()) H) (ifB (decide (a0 > a1)) (K (1, ()) H) (K (0, ()) H))))
theorem eqA19 (a0 : AK.T (.one (.int .i64))) (a1 : AK.T (.one (.int .i64))) (H : HP) (K : HT [(false, .one (.int .i64))] → HP → Prop) : A19 a0 a1 H K = aFn ⟨Try.prog, sgTDweigh, okTDweigh, [], akTDweigh⟩ ⟨[], []⟩ (.seq .n (.seq .n (.seq .n (.seq (.seq .n (.cond (.seq (.seq .n (.cond (.seq .n .n) .n)) (.seq .n .n)) .n)) (.seq (.seq .n (.cond (.seq .n .n) .n)) (.seq (.seq .n (.cond (.seq .n .n) .n)) (.seq (.seq .n (.cond (.seq .n .n) .n)) (.seq .n .n)))))))) Try.f19 [(false, .one (.int .i64)), (false, .one (.int .i64))] (a0, a1, ()) [(false, .one (.int .i64))] H K := by kernel_rfl
theorem callA19 (a0 : AK.T (.one (.int .i64))) (a1 : AK.T (.one (.int .i64))) (H : HP) (K : HT [(false, .one (.int .i64))] → HP → Prop) (h : A19 a0 a1 H K) : callA Try.prog 19 [(false, .one (.int .i64)), (false, .one (.int .i64))] (a0, a1, ()) [(false, .one (.int .i64))] H K :=
  aFn_sound mixedDweigh Try.func19 (Eq.mp (eqA19 a0 a1 H K) h)
abbrev S19 (a0 : AK.T (.one (.int .i64))) (a1 : AK.T (.one (.int .i64))) (r : HT [(false, .one (.int .i64))]) : Prop := PureA Try.prog 19 [(false, .one (.int .i64)), (false, .one (.int .i64))] (a0, a1, ()) [(false, .one (.int .i64))] r
abbrev C19 (a0 : AK.T (.one (.int .i64))) (a1 : AK.T (.one (.int .i64))) (H : HP) (K : HT [(false, .one (.int .i64))] → HP → Prop) : Prop := callA Try.prog 19 [(false, .one (.int .i64)), (false, .one (.int .i64))] (a0, a1, ()) [(false, .one (.int .i64))] H K
theorem pure19 (a0 : AK.T (.one (.int .i64))) (a1 : AK.T (.one (.int .i64))) {r : HT [(false, .one (.int .i64))]} (h : ∀ (H : HP) (K : HT [(false, .one (.int .i64))] → HP → Prop), K r H → A19 a0 a1 H K) : S19 a0 a1 r := fun H K hk => callA19 a0 a1 H K (h H K hk)

/-! cmp.isNaN[float64] -/
def A24 (a0 : AK.T (.one (.flt .f64))) (H : HP) (K : HT [(false, .one .bool)] → HP → Prop) : Prop :=
  K (! (fEq .f64 a0 a0), ()) H
theorem eqA24 (a0 : AK.T (.one (.flt .f64))) (H : HP) (K : HT [(false, .one .bool)] → HP → Prop) : A24 a0 H K = aFn ⟨Try.prog, sgTDweigh, okTDweigh, [], akTDweigh⟩ ⟨[], []⟩ (.seq .n (.seq .n .n)) Try.f24 [(false, .one (.flt .f64))] (a0, ()) [(false, .one .bool)] H K := by kernel_rfl
theorem callA24 (a0 : AK.T (.one (.flt .f64))) (H : HP) (K : HT [(false, .one .bool)] → HP → Prop) (h : A24 a0 H K) : callA Try.prog 24 [(false, .one (.flt .f64))] (a0, ()) [(false, .one .bool)] H K :=
  aFn_sound mixedDweigh Try.func24 (Eq.mp (eqA24 a0 H K) h)
abbrev S24 (a0 : AK.T (.one (.flt .f64))) (r : HT [(false, .one .bool)]) : Prop := PureA Try.prog 24 [(false, .one (.flt .f64))] (a0, ()) [(false, .one .bool)] r
abbrev C24 (a0 : AK.T (.one (.flt .f64))) (H : HP) (K : HT [(false, .one .bool)] → HP → Prop) : Prop := callA Try.prog 24 [(false, .one (.flt .f64))] (a0, ()) [(false, .one .bool)] H K
theorem pure24 (a0 : AK.T (.one (.flt .f64))) {r : HT [(false, .one .bool)]} (h : ∀ (H : HP) (K : HT [(false, .one .bool)] → HP → Prop), K r H → A24 a0 H K) : S24 a0 r := fun H K hk => callA24 a0 H K (h H K hk)

/-! cmp.isNaN[int] -/
def A25 (a0 : AK.T (.one (.int .i64))) (H : HP) (K : HT [(false, .one .bool)] → HP → Prop) : Prop :=
  K ((a0 : Int) != a0, ()) H
theorem eqA25 (a0 : AK.T (.one (.int .i64))) (H : HP) (K : HT [(false, .one .bool)] → HP → Prop) : A25 a0 H K = aFn ⟨Try.prog, sgTDweigh, okTDweigh, [], akTDweigh⟩ ⟨[], []⟩ (.seq .n (.seq .n .n)) Try.f25 [(false, .one (.int .i64))] (a0, ()) [(false, .one .bool)] H K := by kernel_rfl
theorem callA25 (a0 : AK.T (.one (.int .i64))) (H : HP) (K : HT [(false, .one .bool)] → HP → Prop) (h : A25 a0 H K) : callA Try.prog 25 [(false, .one (.int .i64))] (a0, ()) [(false, .one .bool)] H K :=
  aFn_sound mixedDweigh Try.func25 (Eq.mp (eqA25 a0 H K) h)
abbrev S25 (a0 : AK.T (.one (.int .i64))) (r : HT [(false, .one .bool)]) : Prop := PureA Try.prog 25 [(false, .one (.int .i64))] (a0, ()) [(false, .one .bool)] r
abbrev C25 (a0 : AK.T (.one (.int .i64))) (H : HP) (K : HT [(false, .one .bool)] → HP → Prop) : Prop := callA Try.prog 25 [(false, .one (.int .i64))] (a0, ()) [(false, .one .bool)] H K
theorem pure25 (a0 : AK.T (.one (.int .i64))) {r : HT [(false, .one .bool)]} (h : ∀ (H : HP) (K : HT [(false, .one .bool)] → HP → Prop), K r H → A25 a0 H K) : S25 a0 r := fun H K hk => callA25 a0 H K (h H K hk)

/-! garnet/weigh.Share -/
def A10 (a0 : AK.T (.row (.one (.int .i64)))) (H : HP) (K : HT [(false, .row (.one (.flt .f64)))] → HP → Prop) : Prop :=
  lenA a0.length fun (n1 : Int) => LoopA (V := (List Int × Nat × List Int × Int × Int × Unit) × Unit) ((a0, 0, a0, n1, 0, ()), ()) H fun (x2 : (List Int × Nat × List Int × Int × Int × Unit) × Unit) (H3 : HP) B4 => ifB (decide (x2.1.2.2.2.2.1 < x2.1.2.2.2.1)) (atA x2.1.2.2.1 x2.1.2.2.2.2.1 fun (n5 : Int) => ifB (decide (n5 > 0)) (fltA .add .f64 x2.1.2.1 (fInt .f64 n5) fun (i6 : Nat) => B4 ((x2.1.1, i6, x2.1.2.2.1, x2.1.2.2.2.1, IntKind.i64.wrap (x2.1.2.2.2.2.1 + 1), ()), ()) H3) (B4 ((x2.1.1, x2.1.2.1, x2.1.2.2.1, x2.1.2.2.2.1, IntKind.i64.wrap (x2.1.2.2.2.2.1 + 1), ()), ()) H3)) (lenA x2.1.1.length fun (n7 : Int) => LoopA (V := (Nat × List Nat × List Int × Int × Int × Unit) × Unit) ((x2.1.2.1, [], x2.1.1, n7, 0, ()), ()) H3 fun (x8 : (Nat × List Nat × List Int × Int × Int × Unit) × Unit) (H9 : HP) B10 => ifB (decide (x8.1.2.2.2.2.1 < x8.1.2.2.2.1)) (atA x8.1.2.2.1 x8.1.2.2.2.2.1 fun (n11 : Int) => ifB (decide (n11 > 0)) (fltA .quo .f64 (fInt .f64 n11) x8.1.1 fun (i12 : Nat) => appA x8.1.2.1.length 1 8 (B10 ((x8.1.1, x8.1.2.1 ++ [i12], x8.1.2.2.1, x8.1.2.2.2.1, IntKind.i64.wrap (x8.1.2.2.2.2.1 + 1), ()), ()) H9)) (ifB ((n11 : Int) == 0) (appA x8.1.2.1.length 1 8 (B10 ((x8.1.1, x8.1.2.1 ++ [0], x8.1.2.2.1, x8.1.2.2.2.1, IntKind.i64.wrap (x8.1.2.2.2.2.1 + 1), ()), ()) H9)) (retA Try.prog 20 [] () [(false, .one (.flt .f64))] fun (x13 : Nat × Unit) => appA x8.1.2.1.length 1 8 (B10 ((x8.1.1, x8.1.2.1 ++ [x13.1], x8.1.2.2.1, x8.1.2.2.2.1, IntKind.i64.wrap (x8.1.2.2.2.2.1 + 1), ()), ()) H9)))) (K (x8.1.2.1, ()) H9))
theorem eqA10 (a0 : AK.T (.row (.one (.int .i64)))) (H : HP) (K : HT [(false, .row (.one (.flt .f64)))] → HP → Prop) : A10 a0 H K = aFn ⟨Try.prog, sgTDweigh, okTDweigh, [], akTDweigh⟩ ⟨[(0, .row (.one (.int .i64))), (2, .own (.one (.flt .f64)) 22), (6, .own (.one (.flt .f64)) 22), (9, .row (.one (.int .i64))), (22, .row (.one (.int .i64))), (28, .own (.one (.flt .f64)) 22), (30, .row (.one (.flt .f64))), (31, .own (.one (.flt .f64)) 22), (35, .own (.one (.flt .f64)) 22), (40, .row (.one (.flt .f64))), (41, .own (.one (.flt .f64)) 22), (45, .own (.one (.flt .f64)) 22), (46, .row (.one (.flt .f64))), (47, .own (.one (.flt .f64)) 22), (49, .own (.one (.flt .f64)) 22)], []⟩ (.seq .n (.seq .n (.seq (.seq .n (.blk (.loop [0, 3, 9, 10, 11] [] (.seq .n (.seq (.cond .n .n) (.seq (.blk (.seq .n (.seq .n (.cond .n .n)))) .n)))))) (.seq .n (.seq (.seq .n (.blk (.loop [3, 6, 22, 23, 24] [] (.seq .n (.seq (.cond .n .n) (.seq (.blk (.seq .n (.blk (.seq .n (.cond .n (.seq .n (.cond .n .n))))))) .n)))))) (.seq .n .n)))))) Try.f10 [(false, .row (.one (.int .i64)))] (a0, ()) [(false, .row (.one (.flt .f64)))] H K := by kernel_rfl
theorem callA10 (a0 : AK.T (.row (.one (.int .i64)))) (H : HP) (K : HT [(false, .row (.one (.flt .f64)))] → HP → Prop) (h : A10 a0 H K) : callA Try.prog 10 [(false, .row (.one (.int .i64)))] (a0, ()) [(false, .row (.one (.flt .f64)))] H K :=
  aFn_sound mixedDweigh Try.func10 (Eq.mp (eqA10 a0 H K) h)
abbrev S10 (a0 : AK.T (.row (.one (.int .i64)))) (r : HT [(false, .row (.one (.flt .f64)))]) : Prop := PureA Try.prog 10 [(false, .row (.one (.int .i64)))] (a0, ()) [(false, .row (.one (.flt .f64)))] r
abbrev C10 (a0 : AK.T (.row (.one (.int .i64)))) (H : HP) (K : HT [(false, .row (.one (.flt .f64)))] → HP → Prop) : Prop := callA Try.prog 10 [(false, .row (.one (.int .i64)))] (a0, ()) [(false, .row (.one (.flt .f64)))] H K
theorem pure10 (a0 : AK.T (.row (.one (.int .i64)))) {r : HT [(false, .row (.one (.flt .f64)))]} (h : ∀ (H : HP) (K : HT [(false, .row (.one (.flt .f64)))] → HP → Prop), K r H → A10 a0 H K) : S10 a0 r := fun H K hk => callA10 a0 H K (h H K hk)

/-! garnet/garnetref01.Same -/
def A11 (a0 : AK.T (.one (.flt .f64))) (a1 : AK.T (.one (.flt .f64))) (H : HP) (K : HT [(false, .one .bool)] → HP → Prop) : Prop :=
  retA Try.prog 8 [(false, .one (.flt .f64)), (false, .one (.flt .f64))] (a0, a1, ()) [(false, .one (.int .i64))] fun (x1 : Int × Unit) => K ((x1.1 : Int) == 0, ()) H
theorem eqA11 (a0 : AK.T (.one (.flt .f64))) (a1 : AK.T (.one (.flt .f64))) (H : HP) (K : HT [(false, .one .bool)] → HP → Prop) : A11 a0 a1 H K = aFn ⟨Try.prog, sgTDweigh, okTDweigh, [], akTDweigh⟩ ⟨[], []⟩ (.seq .n (.seq .n .n)) Try.f11 [(false, .one (.flt .f64)), (false, .one (.flt .f64))] (a0, a1, ()) [(false, .one .bool)] H K := by kernel_rfl
theorem callA11 (a0 : AK.T (.one (.flt .f64))) (a1 : AK.T (.one (.flt .f64))) (H : HP) (K : HT [(false, .one .bool)] → HP → Prop) (h : A11 a0 a1 H K) : callA Try.prog 11 [(false, .one (.flt .f64)), (false, .one (.flt .f64))] (a0, a1, ()) [(false, .one .bool)] H K :=
  aFn_sound mixedDweigh Try.func11 (Eq.mp (eqA11 a0 a1 H K) h)
abbrev S11 (a0 : AK.T (.one (.flt .f64))) (a1 : AK.T (.one (.flt .f64))) (r : HT [(false, .one .bool)]) : Prop := PureA Try.prog 11 [(false, .one (.flt .f64)), (false, .one (.flt .f64))] (a0, a1, ()) [(false, .one .bool)] r
abbrev C11 (a0 : AK.T (.one (.flt .f64))) (a1 : AK.T (.one (.flt .f64))) (H : HP) (K : HT [(false, .one .bool)] → HP → Prop) : Prop := callA Try.prog 11 [(false, .one (.flt .f64)), (false, .one (.flt .f64))] (a0, a1, ()) [(false, .one .bool)] H K
theorem pure11 (a0 : AK.T (.one (.flt .f64))) (a1 : AK.T (.one (.flt .f64))) {r : HT [(false, .one .bool)]} (h : ∀ (H : HP) (K : HT [(false, .one .bool)] → HP → Prop), K r H → A11 a0 a1 H K) : S11 a0 a1 r := fun H K hk => callA11 a0 a1 H K (h H K hk)

/-! garnet/garnetlaw03.WeighShares -/
def A4 (a0 : AK.T (.row (.one (.int .i64)))) (H : HP) (K : HT [(false, .one .bool)] → HP → Prop) : Prop :=
  retA Try.prog 6 [] () [(false, .one .bool)] fun (x1 : Bool × Unit) => lenA a0.length fun (n2 : Int) => ifB (decide (n2 > 300)) (K (x1.1, ()) H) (callA Try.prog 10 [(false, .row (.one (.int .i64)))] (a0, ()) [(false, .row (.one (.flt .f64)))] H fun (l3 : List Nat × Unit) (H4 : HP) => LoopA (V := (List Int × Bool × List Nat × Nat × Int × Unit) × Unit) ((a0, x1.1, l3.1, 0, 0, ()), ()) H4 fun (x5 : (List Int × Bool × List Nat × Nat × Int × Unit) × Unit) (H6 : HP) B7 => lenA x5.1.1.length fun (n8 : Int) => ifB (decide (x5.1.2.2.2.2.1 < n8)) (atA x5.1.1 x5.1.2.2.2.2.1 fun (n9 : Int) => ifB (decide (n9 > 0)) (atA x5.1.1 x5.1.2.2.2.2.1 fun (n10 : Int) => fltA .add .f64 x5.1.2.2.2.1 (fInt .f64 n10) fun (i11 : Nat) => B7 ((x5.1.1, x5.1.2.1, x5.1.2.2.1, i11, IntKind.i64.wrap (x5.1.2.2.2.2.1 + 1), ()), ()) H6) (B7 ((x5.1.1, x5.1.2.1, x5.1.2.2.1, x5.1.2.2.2.1, IntKind.i64.wrap (x5.1.2.2.2.2.1 + 1), ()), ()) H6)) (lenA x5.1.2.2.1.length fun (n12 : Int) => lenA x5.1.1.length fun (n13 : Int) => ifB ((n12 : Int) != n13) (K (false, ()) H6) (LoopA (V := (List Int × Bool × List Nat × Nat × Int × Unit) × Unit) ((x5.1.1, x5.1.2.1, x5.1.2.2.1, x5.1.2.2.2.1, 0, ()), ()) H6 fun (x14 : (List Int × Bool × List Nat × Nat × Int × Unit) × Unit) (H15 : HP) B16 => lenA x14.1.1.length fun (n17 : Int) => ifB (decide (x14.1.2.2.2.2.1 < n17)) (JoinA (V := (List Int × Bool × List Nat × Nat × Int × Nat × Unit) × Unit) (fun (x18 : (List Int × Bool × List Nat × Nat × Int × Nat × Unit) × Unit) (H19 : HP) => JoinA (V := (List Int × Bool × List Nat × Nat × Int × Nat × Unit) × Unit) (fun (x20 : (List Int × Bool × List Nat × Nat × Int × Nat × Unit) × Unit) (H21 : HP) => atA x20.1.2.2.1 x20.1.2.2.2.2.1 fun (i22 : Nat) => retA Try.prog 11 [(false, .one (.flt .f64)), (false, .one (.flt .f64))] (i22, x20.1.2.2.2.2.2.1, ()) [(false, .one .bool)] fun (x23 : Bool × Unit) => ifB (! x23.1) (K (false, ()) H21) (B16 ((x20.1.1, x20.1.2.1, x20.1.2.2.1, x20.1.2.2.2.1, IntKind.i64.wrap (x20.1.2.2.2.2.1 + 1), ()), ()) H21)) fun B24 => atA x18.1.1 x18.1.2.2.2.2.1 fun (n25 : Int) => ifB (decide (n25 < 0)) (callA Try.prog 9 [] () [(false, .one (.flt .f64))] H19 fun (x26 : Nat × Unit) (H27 : HP) => B24 ((x18.1.1, x18.1.2.1, x18.1.2.2.1, x18.1.2.2.2.1, x18.1.2.2.2.2.1, x26.1, ()), ()) H27) (B24 ((x18.1.1, x18.1.2.1, x18.1.2.2.1, x18.1.2.2.2.1, x18.1.2.2.2.2.1, x18.1.2.2.2.2.2.1, ()), ()) H19)) fun B28 => atA x14.1.1 x14.1.2.2.2.2.1 fun (n29 : Int) => ifB (decide (n29 > 0)) (atA x14.1.1 x14.1.2.2.2.2.1 fun (n30 : Int) => fltA .quo .f64 (fInt .f64 n30) x14.1.2.2.2.1 fun (i31 : Nat) => B28 ((x14.1.1, x14.1.2.1, x14.1.2.2.1, x14.1.2.2.2.1, x14.1.2.2.2.2.1, i31, ()), ()) H15) (B28 ((x14.1.1, x14.1.2.1, x14.1.2.2.1, x14.1.2.2.2.1, x14.1.2.2.2.2.1, 0, ()), ()) H15)) (K (x14.1.2.1, ()) H15))))
theorem eqA4 (a0 : AK.T (.row (.one (.int .i64)))) (H : HP) (K : HT [(false, .one .bool)] → HP → Prop) : A4 a0 H K = aFn ⟨Try.prog, sgTDweigh, okTDweigh, [], akTDweigh⟩ ⟨[(0, .row (.one (.int .i64))), (4, .row (.one (.flt .f64))), (10, .row (.one (.int .i64))), (14, .row (.one (.int .i64))), (15, .row (.one (.flt .f64))), (17, .row (.one (.int .i64))), (22, .row (.one (.int .i64))), (28, .row (.one (.int .i64))), (34, .row (.one (.flt .f64))), (36, .row (.one (.int .i64))), (40, .row (.one (.int .i64))), (45, .row (.one (.int .i64))), (50, .row (.one (.int .i64))), (57, .row (.one (.int .i64))), (63, .row (.one (.flt .f64)))], []⟩ (.seq .n (.seq .n (.seq (.seq .n (.cond (.seq .n .n) .n)) (.seq .n (.seq .n (.seq (.seq .n (.blk (.loop [0, 3, 4, 5, 6] [] (.seq (.seq .n (.cond .n .n)) (.seq (.blk (.seq .n (.cond .n .n))) .n))))) (.seq (.seq .n (.cond (.seq .n .n) .n)) (.seq (.seq .n (.blk (.loop [0, 3, 4, 5, 7] [] (.seq (.seq .n (.cond .n .n)) (.seq (.blk (.seq .n (.join [(0, .v (.row (.one (.int .i64)))), (3, .v (.one .bool)), (4, .v (.row (.one (.flt .f64)))), (5, .v (.one (.flt .f64))), (7, .v (.one (.int .i64))), (8, .v (.one (.flt .f64)))] [] (.seq .n (.cond .n .n)) (.join [(0, .v (.row (.one (.int .i64)))), (3, .v (.one .bool)), (4, .v (.row (.one (.flt .f64)))), (5, .v (.one (.flt .f64))), (7, .v (.one (.int .i64))), (8, .v (.one (.flt .f64)))] [] (.seq .n (.cond .n .n)) (.seq .n (.cond (.seq .n .n) .n)))))) .n))))) (.seq .n .n))))))))) Try.f4 [(false, .row (.one (.int .i64)))] (a0, ()) [(false, .one .bool)] H K := by kernel_rfl
theorem callA4 (a0 : AK.T (.row (.one (.int .i64)))) (H : HP) (K : HT [(false, .one .bool)] → HP → Prop) (h : A4 a0 H K) : callA Try.prog 4 [(false, .row (.one (.int .i64)))] (a0, ()) [(false, .one .bool)] H K :=
  aFn_sound mixedDweigh Try.func4 (Eq.mp (eqA4 a0 H K) h)
abbrev S4 (a0 : AK.T (.row (.one (.int .i64)))) (r : HT [(false, .one .bool)]) : Prop := PureA Try.prog 4 [(false, .row (.one (.int .i64)))] (a0, ()) [(false, .one .bool)] r
abbrev C4 (a0 : AK.T (.row (.one (.int .i64)))) (H : HP) (K : HT [(false, .one .bool)] → HP → Prop) : Prop := callA Try.prog 4 [(false, .row (.one (.int .i64)))] (a0, ()) [(false, .one .bool)] H K
theorem pure4 (a0 : AK.T (.row (.one (.int .i64)))) {r : HT [(false, .one .bool)]} (h : ∀ (H : HP) (K : HT [(false, .one .bool)] → HP → Prop), K r H → A4 a0 H K) : S4 a0 r := fun H K hk => callA4 a0 H K (h H K hk)
end Go.Proofs.Ytjbpgebjcehfkaa
