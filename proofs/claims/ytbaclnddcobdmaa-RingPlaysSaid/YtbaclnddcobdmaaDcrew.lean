/-
  WRITTEN BY dec.py (a program of ours): of each function named below: its formula, and that the kernel reckons this very formula out of the function's code.
-/
import Derived.Test.YtbaclnddcobdmaaProg
import Derived.Test.YtbaclnddcobdmaaGk4
namespace Go.Proofs.Ytbaclnddcobdmaa
open Go Go.Gp
set_option linter.unusedVariables false
set_option maxRecDepth 100000
theorem mixedDcrew : Try.prog.follows .mixedOrders = true := by kernel_rfl
/-! garnet/garnetlaw02.CrewPlays -/
def G3 (a0 : Int) (a1 : Sl) (W : World) (K : Bool × Unit → World → Prop) : Prop :=
  callG Try.prog 13 [] [.one .bool] W fun (r1 : Bool × Unit) W => callG Try.prog 14 [(.int .i64 a0)] [.one .ptr, .one .any] W fun (r2 : (Option Addr) × Value × Unit) W => ifB (decide ((a0 : Int) < 1)) (ifB r1.1 (ifB (Option.isNone r2.1) (ifcEq Try.prog r2.2.1 (.iface 29 (.int .i64 1)) fun b3 => K (b3, ()) W) (K (false, ()) W)) (K (false, ()) W)) (ifB (decide ((a0 : Int) > 16)) (ifB r1.1 (ifB (Option.isNone r2.1) (ifcEq Try.prog r2.2.1 (.iface 29 (.int .i64 1)) fun b4 => K (b4, ()) W) (K (false, ()) W)) (K (false, ()) W)) (ifB (Option.isNone r2.1) (ifB r1.1 (ifB (!(Option.isNone r2.1)) ((isIfc r2.2.1 = true) ∧ (K ((isNilV r2.2.1), ()) W)) (K (false, ()) W)) (K (false, ()) W)) ((isIfc r2.2.1 = true) ∧ (ifB (!(isNilV r2.2.1)) (ifB r1.1 (ifB (!(Option.isNone r2.1)) ((isIfc r2.2.1 = true) ∧ (K ((isNilV r2.2.1), ()) W)) (K (false, ()) W)) (K (false, ()) W)) (ifB (decide ((((a1.len : Nat) : Int) : Int) > 300)) (ifB r1.1 (ifB (!(Option.isNone r2.1)) ((isIfc r2.2.1 = true) ∧ (K ((isNilV r2.2.1), ()) W)) (K (false, ()) W)) (K (false, ()) W)) (mkG 3 #[(.int .i64 0)] 1 8 a0 a0 W fun b5 W => newG (.cells #[(.slice (some (Addr.mk b5 0 none)) (Int.toNat a0) (Int.toNat a0)), (.int .i64 0)] 33) W fun b6 W => LoopG (V := Int × Sl × Bool × (Option Addr) × (Option Addr) × Int × Unit) (a0, a1, r1.1, r2.1, (some (Addr.mk b6 0 none)), 0, ()) W fun v7 W C9 => ∀ j8 : Nat → Value, ifB (decide ((v7.2.2.2.2.2.1 : Int) < ((v7.2.1.len : Nat) : Int))) (idx v7.2.1.a v7.2.1.len v7.2.2.2.2.2.1 fun p10 => ldN [.int .i64, .int .i64, .int .i64] (p10.add (Int.toNat v7.2.2.2.2.2.1 * 3)) W fun (x11 : Int × Int × Int × Unit) => newG (.cells #[(.int .i64 0), (.int .i64 0), (.int .i64 0)] 35) W fun b12 W => st1 (Addr.mk b12 0 none) (.int .i64 x11.1) W fun W => st1 ((Addr.mk b12 0 none).add 1) (.int .i64 x11.2.1) W fun W => st1 ((Addr.mk b12 0 none).add 2) (.int .i64 x11.2.2.1) W fun W => JoinG (V := Int × Sl × Bool × (Option Addr) × (Option Addr) × Int × Addr × Int × Value × Unit) (fun v13 W => ∀ j14 : Nat → Value, drwG W fun W => holdG W fun S16 => callG Try.prog 22 [v13.2.2.2.2.2.2.2.2.1] [.one (.int .i64)] W fun (r17 : Int × Unit) W => ifB ((r17.1 : Int) != v13.2.2.2.2.2.2.2.1) (S16 W ∧ (S16 W ∧ (S16 W ∧ (S16 W ∧ (S16 W ∧ (S16 W ∧ (S16 W ∧ (K (false, ()) W)))))))) (S16 W ∧ (ldS S16 (.int .i64) (v13.2.2.2.2.2.2.1.add 1) fun (x18 : Int) => ldS S16 (.int .i64) (v13.2.2.2.2.2.2.1.add 1) fun (x19 : Int) => callG Try.prog 23 [(.pointer v13.2.2.2.1), (.int .i64 x18)] [.one (.int .i64)] W fun (r20 : Int × Unit) W => S16 W ∧ (callG Try.prog 24 [(.pointer v13.2.2.2.2.1), (.int .i64 x19)] [.one (.int .i64)] W fun (r21 : Int × Unit) W => ifB ((r20.1 : Int) != r21.1) (S16 W ∧ (S16 W ∧ (S16 W ∧ (S16 W ∧ (S16 W ∧ (K (false, ()) W)))))) (S16 W ∧ (ldS S16 (.int .i64) (v13.2.2.2.2.2.2.1.add 1) fun (x22 : Int) => ldS S16 (.int .i64) (v13.2.2.2.2.2.2.1.add 1) fun (x23 : Int) => callG Try.prog 25 [(.pointer v13.2.2.2.1), (.int .i64 x22)] [.one .any] W fun (r24 : Value × Unit) W => S16 W ∧ (callG Try.prog 22 [r24.1] [.one (.int .i64)] W fun (r25 : Int × Unit) W => S16 W ∧ (callG Try.prog 26 [(.pointer v13.2.2.2.2.1), (.int .i64 x23)] [.one (.int .i64)] W fun (r26 : Int × Unit) W => ifB ((r25.1 : Int) != r26.1) (S16 W ∧ (S16 W ∧ (K (false, ()) W))) (nilck v13.2.2.2.2.1 fun p27 => S16 W ∧ (ldS S16 (.int .i64) (p27.add 1) fun (x28 : Int) => callG Try.prog 27 [(.pointer v13.2.2.2.1)] [.one (.int .i64)] W fun (r29 : Int × Unit) W => S16 W ∧ (ifB ((r29.1 : Int) != x28) (K (false, ()) W) (callG Try.prog 28 [(.pointer v13.2.2.2.1)] [.one (.int .i64)] W fun (r30 : Int × Unit) W => ifB ((r30.1 : Int) != v13.1) (K (false, ()) W) (C9 (v13.1, v13.2.1, v13.2.2.1, v13.2.2.2.1, v13.2.2.2.2.1, IntKind.i64.wrap (v13.2.2.2.2.2.1 + 1), ()) W))))))))))))) fun B15 => ld1 (.int .i64) (Addr.mk b12 0 none) W fun (x31 : Int) => callG Try.prog 15 [(.int .i64 x31), (.int .i64 4)] [.one (.int .i64)] W fun (r32 : Int × Unit) W => ifB ((r32.1 : Int) == 0) (ld1 (.int .i64) ((Addr.mk b12 0 none).add 1) W fun (x33 : Int) => callG Try.prog 16 [(.pointer v7.2.2.2.1), (.int .i64 x33)] [.one .any] W fun (r34 : Value × Unit) W => ld1 (.int .i64) ((Addr.mk b12 0 none).add 1) W fun (x35 : Int) => callG Try.prog 17 [(.pointer v7.2.2.2.2.1), (.int .i64 x35), (.int .i64 1)] [.one (.int .i64)] W fun (r36 : Int × Unit) W => B15 (v7.1, v7.2.1, v7.2.2.1, v7.2.2.2.1, v7.2.2.2.2.1, v7.2.2.2.2.2.1, (Addr.mk b12 0 none), r36.1, r34.1, ()) W) (ifB ((r32.1 : Int) == 1) (ld1 (.int .i64) ((Addr.mk b12 0 none).add 1) W fun (x37 : Int) => callG Try.prog 18 [(.pointer v7.2.2.2.1), (.int .i64 x37)] [.one .any] W fun (r38 : Value × Unit) W => ld1 (.int .i64) ((Addr.mk b12 0 none).add 1) W fun (x39 : Int) => callG Try.prog 17 [(.pointer v7.2.2.2.2.1), (.int .i64 x39), (.int .i64 0)] [.one (.int .i64)] W fun (r40 : Int × Unit) W => B15 (v7.1, v7.2.1, v7.2.2.1, v7.2.2.2.1, v7.2.2.2.2.1, v7.2.2.2.2.2.1, (Addr.mk b12 0 none), r40.1, r38.1, ()) W) (ifB ((r32.1 : Int) == 2) (ld1 (.int .i64) ((Addr.mk b12 0 none).add 1) W fun (x41 : Int) => callG Try.prog 19 [(.pointer v7.2.2.2.1), (.int .i64 x41)] [.one .any] W fun (r42 : Value × Unit) W => ld1 (.int .i64) ((Addr.mk b12 0 none).add 1) W fun (x43 : Int) => callG Try.prog 17 [(.pointer v7.2.2.2.2.1), (.int .i64 x43), (.int .i64 2)] [.one (.int .i64)] W fun (r44 : Int × Unit) W => B15 (v7.1, v7.2.1, v7.2.2.1, v7.2.2.2.1, v7.2.2.2.2.1, v7.2.2.2.2.2.1, (Addr.mk b12 0 none), r44.1, r42.1, ()) W) (ld1 (.int .i64) ((Addr.mk b12 0 none).add 2) W fun (x45 : Int) => callG Try.prog 20 [(.pointer v7.2.2.2.1), (.int .i64 x45)] [.one .any] W fun (r46 : Value × Unit) W => ld1 (.int .i64) ((Addr.mk b12 0 none).add 2) W fun (x47 : Int) => callG Try.prog 21 [(.pointer v7.2.2.2.2.1), (.int .i64 x47)] [.one (.int .i64)] W fun (r48 : Int × Unit) W => B15 (v7.1, v7.2.1, v7.2.2.1, v7.2.2.2.1, v7.2.2.2.2.1, v7.2.2.2.2.2.1, (Addr.mk b12 0 none), r48.1, r46.1, ()) W)))) (K (v7.2.2.1, ()) W)))))))
theorem eq3 (a0 : Int) (a1 : Sl) (W : World) (K : Bool × Unit → World → Prop) : G3 a0 a1 W K = cFn Try.prog (.seq .n (.seq .n (.seq .n (.seq (.seq .n (.cond (.seq .n .n) .n)) (.seq (.seq .n (.cond (.seq .n .n) .n)) (.seq .n (.seq (.seq .n (.blk (.loop 153 [(0, .int .i64), (1, .sl), (5, .bool), (6, .ptr), (8, .ptr), (9, .int .i64)] (.seq (.seq .n (.cond .n .n)) (.seq (.blk (.seq .n (.seq .n (.seq .n (.join 153 [(0, .int .i64), (1, .sl), (5, .bool), (6, .ptr), (8, .ptr), (9, .int .i64), (10, .adr), (11, .int .i64), (12, .any)] (.seq .n (.blk (.seq .n (.cond (.seq .n .n) (.seq .n (.cond (.seq .n .n) (.seq .n (.cond (.seq .n .n) (.seq .n .n))))))))) (.seq .n (.cond (.seq .n .n) .n))))))) .n))))) (.seq .n .n)))))))) Try.f3 [(.int .i64 a0), (.slice a1.a a1.len a1.cap)] [.one .bool] W K := by kernel_rfl
theorem call3 (a0 : Int) (a1 : Sl) (W : World) (K : Bool × Unit → World → Prop) (h : G3 a0 a1 W K) : callG Try.prog 3 [(.int .i64 a0), (.slice a1.a a1.len a1.cap)] [.one .bool] W K :=
  cFn_sound mixedDcrew Try.func3 (Eq.mp (eq3 a0 a1 W K) h)

/-! garnet/garnetlaw02.CrewDead -/
def G4 (a0 : Int) (a1 : Sl) (W : World) (K : Bool × Unit → World → Prop) : Prop :=
  callG Try.prog 13 [] [.one .bool] W fun (r1 : Bool × Unit) W => callG Try.prog 14 [(.int .i64 16)] [.one .ptr, .one .any] W fun (r2 : (Option Addr) × Value × Unit) W => ifB (Option.isNone r2.1) (ifB r1.1 (K ((!(Option.isNone r2.1)), ()) W) (K (false, ()) W)) ((isIfc r2.2.1 = true) ∧ (ifB (!(isNilV r2.2.1)) (ifB r1.1 (K ((!(Option.isNone r2.1)), ()) W) (K (false, ()) W)) (ifB (decide ((((a1.len : Nat) : Int) : Int) > 300)) (ifB r1.1 (K ((!(Option.isNone r2.1)), ()) W) (K (false, ()) W)) (ifB (decide ((a0 : Int) < 0)) (ifB r1.1 (K ((!(Option.isNone r2.1)), ()) W) (K (false, ()) W)) (ifB (decide ((a0 : Int) > 15)) (ifB r1.1 (K ((!(Option.isNone r2.1)), ()) W) (K (false, ()) W)) (callG Try.prog 19 [(.pointer r2.1), (.int .i64 a0)] [.one .any] W fun (r3 : Value × Unit) W => (isIfc r3.1 = true) ∧ (ifB (!(isNilV r3.1)) (K (false, ()) W) (callG Try.prog 27 [(.pointer r2.1)] [.one (.int .i64)] W fun (r4 : Int × Unit) W => LoopG (V := Int × Sl × Bool × (Option Addr) × Int × Int × Unit) (a0, a1, r1.1, r2.1, r4.1, 0, ()) W fun v5 W C7 => ∀ j6 : Nat → Value, ifB (decide ((v5.2.2.2.2.2.1 : Int) < ((v5.2.1.len : Nat) : Int))) (JoinG (V := Int × Sl × Bool × (Option Addr) × Int × Int × Unit) (fun v8 W => ∀ j9 : Nat → Value, callG Try.prog 23 [(.pointer v8.2.2.2.1), (.int .i64 v8.1)] [.one (.int .i64)] W fun (r11 : Int × Unit) W => ifB ((r11.1 : Int) != 2) (K (false, ()) W) (callG Try.prog 25 [(.pointer v8.2.2.2.1), (.int .i64 v8.1)] [.one .any] W fun (r12 : Value × Unit) W => ifcEq Try.prog r12.1 (.iface 29 (.int .i64 9)) fun b13 => ifB (!b13) (K (false, ()) W) (callG Try.prog 27 [(.pointer v8.2.2.2.1)] [.one (.int .i64)] W fun (r14 : Int × Unit) W => ifB (decide ((r14.1 : Int) < v8.2.2.2.2.1)) (K (false, ()) W) (callG Try.prog 27 [(.pointer v8.2.2.2.1)] [.one (.int .i64)] W fun (r15 : Int × Unit) W => C7 (v8.1, v8.2.1, v8.2.2.1, v8.2.2.2.1, r15.1, IntKind.i64.wrap (v8.2.2.2.2.2.1 + 1), ()) W)))) fun B10 => idx v5.2.1.a v5.2.1.len v5.2.2.2.2.2.1 fun p16 => ld1 (.int .i64) (p16.add (Int.toNat v5.2.2.2.2.2.1 * 3)) W fun (x17 : Int) => callG Try.prog 15 [(.int .i64 x17), (.int .i64 3)] [.one (.int .i64)] W fun (r18 : Int × Unit) W => ifB ((r18.1 : Int) == 0) (idx v5.2.1.a v5.2.1.len v5.2.2.2.2.2.1 fun p19 => ld1 (.int .i64) ((p19.add (Int.toNat v5.2.2.2.2.2.1 * 3)).add 1) W fun (x20 : Int) => callG Try.prog 16 [(.pointer v5.2.2.2.1), (.int .i64 x20)] [.one .any] W fun (r21 : Value × Unit) W => B10 (v5.1, v5.2.1, v5.2.2.1, v5.2.2.2.1, v5.2.2.2.2.1, v5.2.2.2.2.2.1, ()) W) (ifB ((r18.1 : Int) == 1) (idx v5.2.1.a v5.2.1.len v5.2.2.2.2.2.1 fun p22 => ld1 (.int .i64) ((p22.add (Int.toNat v5.2.2.2.2.2.1 * 3)).add 1) W fun (x23 : Int) => callG Try.prog 18 [(.pointer v5.2.2.2.1), (.int .i64 x23)] [.one .any] W fun (r24 : Value × Unit) W => B10 (v5.1, v5.2.1, v5.2.2.1, v5.2.2.2.1, v5.2.2.2.2.1, v5.2.2.2.2.2.1, ()) W) (idx v5.2.1.a v5.2.1.len v5.2.2.2.2.2.1 fun p25 => ld1 (.int .i64) ((p25.add (Int.toNat v5.2.2.2.2.2.1 * 3)).add 2) W fun (x26 : Int) => callG Try.prog 20 [(.pointer v5.2.2.2.1), (.int .i64 x26)] [.one .any] W fun (r27 : Value × Unit) W => B10 (v5.1, v5.2.1, v5.2.2.1, v5.2.2.2.1, v5.2.2.2.2.1, v5.2.2.2.2.2.1, ()) W))) (K (v5.2.2.1, ()) W)))))))))
theorem eq4 (a0 : Int) (a1 : Sl) (W : World) (K : Bool × Unit → World → Prop) : G4 a0 a1 W K = cFn Try.prog (.seq .n (.seq .n (.seq .n (.seq (.seq .n (.cond (.seq .n .n) .n)) (.seq .n (.seq (.seq .n (.cond (.seq .n .n) .n)) (.seq .n (.seq (.seq .n (.blk (.loop 104 [(0, .int .i64), (1, .sl), (5, .bool), (6, .ptr), (9, .int .i64), (10, .int .i64)] (.seq (.seq .n (.cond .n .n)) (.seq (.blk (.join 104 [(0, .int .i64), (1, .sl), (5, .bool), (6, .ptr), (9, .int .i64), (10, .int .i64)] (.seq .n (.blk (.seq .n (.cond .n (.seq .n (.cond .n .n)))))) (.seq (.seq .n (.cond (.seq .n .n) .n)) .n))) .n))))) (.seq .n .n))))))))) Try.f4 [(.int .i64 a0), (.slice a1.a a1.len a1.cap)] [.one .bool] W K := by kernel_rfl
theorem call4 (a0 : Int) (a1 : Sl) (W : World) (K : Bool × Unit → World → Prop) (h : G4 a0 a1 W K) : callG Try.prog 4 [(.int .i64 a0), (.slice a1.a a1.len a1.cap)] [.one .bool] W K :=
  cFn_sound mixedDcrew Try.func4 (Eq.mp (eq4 a0 a1 W K) h)

/-! garnet/garnetlaw02.up -/
def G13  (W : World) (K : Bool × Unit → World → Prop) : Prop :=
  callG Try.prog 14 [(.int .i64 2)] [.one .ptr, .one .any] W fun (r1 : (Option Addr) × Value × Unit) W => callG Try.prog 14 [(.int .i64 17)] [.one .ptr, .one .any] W fun (r2 : (Option Addr) × Value × Unit) W => ifB (Option.isNone r1.1) (K (false, ()) W) ((isIfc r1.2.1 = true) ∧ (ifB (!(isNilV r1.2.1)) (K (false, ()) W) (callG Try.prog 19 [(.pointer r1.1), (.int .i64 0)] [.one .any] W fun (r3 : Value × Unit) W => callG Try.prog 18 [(.pointer r1.1), (.int .i64 0)] [.one .any] W fun (r4 : Value × Unit) W => ifcEq Try.prog r2.2.1 (.iface 29 (.int .i64 1)) fun b5 => ifB b5 ((isIfc r3.1 = true) ∧ (ifB (isNilV r3.1) (ifcEq Try.prog r4.1 (.iface 29 (.int .i64 9)) fun b6 => ifB b6 (callG Try.prog 28 [(.pointer r1.1)] [.one (.int .i64)] W fun (r7 : Int × Unit) W => ifB ((r7.1 : Int) == 2) (callG Try.prog 23 [(.pointer r1.1), (.int .i64 1)] [.one (.int .i64)] W fun (r8 : Int × Unit) W => K (((r8.1 : Int) == 0), ()) W) (K (false, ()) W)) (K (false, ()) W)) (K (false, ()) W))) (K (false, ()) W))))
theorem eq13  (W : World) (K : Bool × Unit → World → Prop) : G13  W K = cFn Try.prog (.seq .n (.seq .n (.seq .n (.seq (.seq .n (.cond (.seq .n .n) .n)) (.seq .n (.seq .n (.seq .n .n))))))) Try.f13 [] [.one .bool] W K := by kernel_rfl
theorem call13  (W : World) (K : Bool × Unit → World → Prop) (h : G13  W K) : callG Try.prog 13 [] [.one .bool] W K :=
  cFn_sound mixedDcrew Try.func13 (Eq.mp (eq13  W K) h)

/-! garnet/crew.New -/
def G14 (a0 : Int) (W : World) (K : (Option Addr) × Value × Unit → World → Prop) : Prop :=
  ifB (decide ((a0 : Int) < 1)) (K (none, (.iface 29 (.int .i64 1)), ()) W) (ifB (decide ((a0 : Int) > 16)) (K (none, (.iface 29 (.int .i64 1)), ()) W) (mkG 3 #[(.int .i64 0)] 1 8 a0 a0 W fun b1 W => newG (.cells #[(.slice (some (Addr.mk b1 0 none)) (Int.toNat a0) (Int.toNat a0)), (.int .i64 0)] 143) W fun b2 W => K ((some (Addr.mk b2 0 none)), .nilIface, ()) W))
theorem eq14 (a0 : Int) (W : World) (K : (Option Addr) × Value × Unit → World → Prop) : G14 a0 W K = cFn Try.prog (.seq .n (.seq (.seq .n (.cond (.seq .n .n) .n)) (.seq .n .n))) Try.f14 [(.int .i64 a0)] [.one .ptr, .one .any] W K := by kernel_rfl
theorem call14 (a0 : Int) (W : World) (K : (Option Addr) × Value × Unit → World → Prop) (h : G14 a0 W K) : callG Try.prog 14 [(.int .i64 a0)] [.one .ptr, .one .any] W K :=
  cFn_sound mixedDcrew Try.func14 (Eq.mp (eq14 a0 W K) h)

/-! garnet/garnetlaw02.pick -/
def G15 (a0 : Int) (a1 : Int) (W : World) (K : Int × Unit → World → Prop) : Prop :=
  JoinG (V := Int × Int × Unit) (fun v1 W => ∀ j2 : Nat → Value, (v1.2.1 : Int) ≠ 0 ∧ (K (Int.tmod v1.1 v1.2.1, ()) W)) fun B3 => ifB (decide ((a0 : Int) < 0)) (B3 (IntKind.i64.wrap (0 - (IntKind.i64.wrap (a0 + 1))), a1, ()) W) (B3 (a0, a1, ()) W)
theorem eq15 (a0 : Int) (a1 : Int) (W : World) (K : Int × Unit → World → Prop) : G15 a0 a1 W K = cFn Try.prog (.seq .n (.join 13 [(0, .int .i64), (1, .int .i64)] (.seq .n (.cond .n .n)) (.seq .n .n))) Try.f15 [(.int .i64 a0), (.int .i64 a1)] [.one (.int .i64)] W K := by kernel_rfl
theorem call15 (a0 : Int) (a1 : Int) (W : World) (K : Int × Unit → World → Prop) (h : G15 a0 a1 W K) : callG Try.prog 15 [(.int .i64 a0), (.int .i64 a1)] [.one (.int .i64)] W K :=
  cFn_sound mixedDcrew Try.func15 (Eq.mp (eq15 a0 a1 W K) h)

/-! (*garnet/crew.Crew).Stall -/
def G16 (a0 : Option Addr) (a1 : Int) (W : World) (K : Value × Unit → World → Prop) : Prop :=
  callG Try.prog 84 [(.pointer a0), (.int .i64 a1), (.int .i64 1)] [.one .any] W fun (r1 : Value × Unit) W => K (r1.1, ()) W
theorem eq16 (a0 : Option Addr) (a1 : Int) (W : World) (K : Value × Unit → World → Prop) : G16 a0 a1 W K = cFn Try.prog (.seq .n (.seq .n .n)) Try.f16 [(.pointer a0), (.int .i64 a1)] [.one .any] W K := by kernel_rfl
theorem call16 (a0 : Option Addr) (a1 : Int) (W : World) (K : Value × Unit → World → Prop) (h : G16 a0 a1 W K) : callG Try.prog 16 [(.pointer a0), (.int .i64 a1)] [.one .any] W K :=
  cFn_sound mixedDcrew Try.func16 (Eq.mp (eq16 a0 a1 W K) h)

/-! (*garnet/garnetref01.Crew).Turn -/
def G17 (a0 : Option Addr) (a1 : Int) (a2 : Int) (W : World) (K : Int × Unit → World → Prop) : Prop :=
  callG Try.prog 24 [(.pointer a0), (.int .i64 a1)] [.one (.int .i64)] W fun (r1 : Int × Unit) W => ifB (decide ((r1.1 : Int) < 0)) (K (6, ()) W) (ifB ((r1.1 : Int) == 2) (K (9, ()) W) (nilck a0 fun p2 => ld1 .sl p2 W fun (x3 : Sl) => idx x3.a x3.len a1 fun p4 => st1 (p4.add (Int.toNat a1 * 1)) (.int .i64 a2) W fun W => K (0, ()) W))
theorem eq17 (a0 : Option Addr) (a1 : Int) (a2 : Int) (W : World) (K : Int × Unit → World → Prop) : G17 a0 a1 a2 W K = cFn Try.prog (.seq .n (.seq .n (.seq (.seq .n (.cond (.seq .n .n) .n)) (.seq (.seq .n (.cond (.seq .n .n) .n)) (.seq .n (.seq .n .n)))))) Try.f17 [(.pointer a0), (.int .i64 a1), (.int .i64 a2)] [.one (.int .i64)] W K := by kernel_rfl
theorem call17 (a0 : Option Addr) (a1 : Int) (a2 : Int) (W : World) (K : Int × Unit → World → Prop) (h : G17 a0 a1 a2 W K) : callG Try.prog 17 [(.pointer a0), (.int .i64 a1), (.int .i64 a2)] [.one (.int .i64)] W K :=
  cFn_sound mixedDcrew Try.func17 (Eq.mp (eq17 a0 a1 a2 W K) h)

/-! (*garnet/crew.Crew).Wake -/
def G18 (a0 : Option Addr) (a1 : Int) (W : World) (K : Value × Unit → World → Prop) : Prop :=
  callG Try.prog 84 [(.pointer a0), (.int .i64 a1), (.int .i64 0)] [.one .any] W fun (r1 : Value × Unit) W => K (r1.1, ()) W
theorem eq18 (a0 : Option Addr) (a1 : Int) (W : World) (K : Value × Unit → World → Prop) : G18 a0 a1 W K = cFn Try.prog (.seq .n (.seq .n .n)) Try.f18 [(.pointer a0), (.int .i64 a1)] [.one .any] W K := by kernel_rfl
theorem call18 (a0 : Option Addr) (a1 : Int) (W : World) (K : Value × Unit → World → Prop) (h : G18 a0 a1 W K) : callG Try.prog 18 [(.pointer a0), (.int .i64 a1)] [.one .any] W K :=
  cFn_sound mixedDcrew Try.func18 (Eq.mp (eq18 a0 a1 W K) h)

/-! (*garnet/crew.Crew).Kill -/
def G19 (a0 : Option Addr) (a1 : Int) (W : World) (K : Value × Unit → World → Prop) : Prop :=
  callG Try.prog 84 [(.pointer a0), (.int .i64 a1), (.int .i64 2)] [.one .any] W fun (r1 : Value × Unit) W => K (r1.1, ()) W
theorem eq19 (a0 : Option Addr) (a1 : Int) (W : World) (K : Value × Unit → World → Prop) : G19 a0 a1 W K = cFn Try.prog (.seq .n (.seq .n .n)) Try.f19 [(.pointer a0), (.int .i64 a1)] [.one .any] W K := by kernel_rfl
theorem call19 (a0 : Option Addr) (a1 : Int) (W : World) (K : Value × Unit → World → Prop) (h : G19 a0 a1 W K) : callG Try.prog 19 [(.pointer a0), (.int .i64 a1)] [.one .any] W K :=
  cFn_sound mixedDcrew Try.func19 (Eq.mp (eq19 a0 a1 W K) h)

/-! (*garnet/crew.Crew).Tick -/
def G20 (a0 : Option Addr) (a1 : Int) (W : World) (K : Value × Unit → World → Prop) : Prop :=
  ifB (decide ((a1 : Int) < 0)) (K ((.iface 29 (.int .i64 1)), ()) W) (nilck a0 fun p1 => ld1 (.int .i64) (p1.add 1) W fun (x2 : Int) => ifB (decide ((a1 : Int) > (IntKind.i64.wrap (1099511627776 - x2)))) (K ((.iface 29 (.int .i64 1)), ()) W) (nilck a0 fun p3 => ld1 (.int .i64) (p3.add 1) W fun (x4 : Int) => nilck a0 fun p5 => st1 (p5.add 1) (.int .i64 (IntKind.i64.wrap (x4 + a1))) W fun W => K (.nilIface, ()) W))
theorem eq20 (a0 : Option Addr) (a1 : Int) (W : World) (K : Value × Unit → World → Prop) : G20 a0 a1 W K = cFn Try.prog (.seq .n (.seq (.seq .n (.cond (.seq .n .n) .n)) (.seq .n (.seq .n .n)))) Try.f20 [(.pointer a0), (.int .i64 a1)] [.one .any] W K := by kernel_rfl
theorem call20 (a0 : Option Addr) (a1 : Int) (W : World) (K : Value × Unit → World → Prop) (h : G20 a0 a1 W K) : callG Try.prog 20 [(.pointer a0), (.int .i64 a1)] [.one .any] W K :=
  cFn_sound mixedDcrew Try.func20 (Eq.mp (eq20 a0 a1 W K) h)

/-! (*garnet/garnetref01.Crew).Tick -/
def G21 (a0 : Option Addr) (a1 : Int) (W : World) (K : Int × Unit → World → Prop) : Prop :=
  ifB (decide ((a1 : Int) < 0)) (K (1, ()) W) (ifB (decide ((a1 : Int) > 1099511627776)) (K (1, ()) W) (nilck a0 fun p1 => ld1 (.int .i64) (p1.add 1) W fun (x2 : Int) => ifB (decide (((IntKind.i64.wrap (x2 + a1)) : Int) > 1099511627776)) (K (1, ()) W) (nilck a0 fun p3 => ld1 (.int .i64) (p3.add 1) W fun (x4 : Int) => nilck a0 fun p5 => st1 (p5.add 1) (.int .i64 (IntKind.i64.wrap (x4 + a1))) W fun W => K (0, ()) W)))
theorem eq21 (a0 : Option Addr) (a1 : Int) (W : World) (K : Int × Unit → World → Prop) : G21 a0 a1 W K = cFn Try.prog (.seq .n (.seq (.seq .n (.cond (.seq .n .n) .n)) (.seq (.seq .n (.cond (.seq .n .n) .n)) (.seq .n (.seq .n .n))))) Try.f21 [(.pointer a0), (.int .i64 a1)] [.one (.int .i64)] W K := by kernel_rfl
theorem call21 (a0 : Option Addr) (a1 : Int) (W : World) (K : Int × Unit → World → Prop) (h : G21 a0 a1 W K) : callG Try.prog 21 [(.pointer a0), (.int .i64 a1)] [.one (.int .i64)] W K :=
  cFn_sound mixedDcrew Try.func21 (Eq.mp (eq21 a0 a1 W K) h)

/-! garnet/garnetlaw00.Code -/
def G22 (a0 : Value) (W : World) (K : Int × Unit → World → Prop) : Prop :=
  (isIfc a0 = true) ∧ (ifB (isNilV a0) (K (0, ()) W) (LoopG (V := Value × Int × Unit) (a0, 1, ()) W fun v1 W C3 => ∀ j2 : Nat → Value, ifB (decide ((v1.2.1 : Int) ≤ 11)) (ifcEq Try.prog v1.1 (.iface 29 (.int .i64 v1.2.1)) fun b4 => ifB b4 (K (v1.2.1, ()) W) (C3 (v1.1, IntKind.i64.wrap (v1.2.1 + 1), ()) W)) (K ((-1), ()) W)))
theorem eq22 (a0 : Value) (W : World) (K : Int × Unit → World → Prop) : G22 a0 W K = cFn Try.prog (.seq .n (.seq (.seq .n (.cond (.seq .n .n) .n)) (.seq (.seq .n (.blk (.loop 15 [(0, .any), (3, .int .i64)] (.seq (.seq .n (.cond .n .n)) (.seq (.blk (.seq .n (.cond (.seq .n .n) .n))) .n))))) (.seq .n .n)))) Try.f22 [a0] [.one (.int .i64)] W K := by kernel_rfl
theorem call22 (a0 : Value) (W : World) (K : Int × Unit → World → Prop) (h : G22 a0 W K) : callG Try.prog 22 [a0] [.one (.int .i64)] W K :=
  cFn_sound mixedDcrew Try.func22 (Eq.mp (eq22 a0 W K) h)

/-! (*garnet/crew.Crew).State -/
def G23 (a0 : Option Addr) (a1 : Int) (W : World) (K : Int × Unit → World → Prop) : Prop :=
  ifB (decide ((a1 : Int) < 0)) (K ((-1), ()) W) (nilck a0 fun p1 => ld1 .sl p1 W fun (x2 : Sl) => ifB (decide ((a1 : Int) ≥ ((x2.len : Nat) : Int))) (K ((-1), ()) W) (nilck a0 fun p3 => ld1 .sl p3 W fun (x4 : Sl) => idx x4.a x4.len a1 fun p5 => ld1 (.int .i64) (p5.add (Int.toNat a1 * 1)) W fun (x6 : Int) => K (x6, ()) W))
theorem eq23 (a0 : Option Addr) (a1 : Int) (W : World) (K : Int × Unit → World → Prop) : G23 a0 a1 W K = cFn Try.prog (.seq .n (.seq (.seq .n (.cond (.seq .n .n) .n)) (.seq .n .n))) Try.f23 [(.pointer a0), (.int .i64 a1)] [.one (.int .i64)] W K := by kernel_rfl
theorem call23 (a0 : Option Addr) (a1 : Int) (W : World) (K : Int × Unit → World → Prop) (h : G23 a0 a1 W K) : callG Try.prog 23 [(.pointer a0), (.int .i64 a1)] [.one (.int .i64)] W K :=
  cFn_sound mixedDcrew Try.func23 (Eq.mp (eq23 a0 a1 W K) h)

/-! (*garnet/garnetref01.Crew).State -/
def G24 (a0 : Option Addr) (a1 : Int) (W : World) (K : Int × Unit → World → Prop) : Prop :=
  ifB (decide ((a1 : Int) < 0)) (K ((-1), ()) W) (nilck a0 fun p1 => ld1 .sl p1 W fun (x2 : Sl) => ifB (decide ((a1 : Int) ≥ ((x2.len : Nat) : Int))) (K ((-1), ()) W) (nilck a0 fun p3 => ld1 .sl p3 W fun (x4 : Sl) => idx x4.a x4.len a1 fun p5 => ld1 (.int .i64) (p5.add (Int.toNat a1 * 1)) W fun (x6 : Int) => K (x6, ()) W))
theorem eq24 (a0 : Option Addr) (a1 : Int) (W : World) (K : Int × Unit → World → Prop) : G24 a0 a1 W K = cFn Try.prog (.seq .n (.seq (.seq .n (.cond (.seq .n .n) .n)) (.seq .n .n))) Try.f24 [(.pointer a0), (.int .i64 a1)] [.one (.int .i64)] W K := by kernel_rfl
theorem call24 (a0 : Option Addr) (a1 : Int) (W : World) (K : Int × Unit → World → Prop) (h : G24 a0 a1 W K) : callG Try.prog 24 [(.pointer a0), (.int .i64 a1)] [.one (.int .i64)] W K :=
  cFn_sound mixedDcrew Try.func24 (Eq.mp (eq24 a0 a1 W K) h)

/-! (*garnet/crew.Crew).May -/
def G25 (a0 : Option Addr) (a1 : Int) (W : World) (K : Value × Unit → World → Prop) : Prop :=
  callG Try.prog 85 [(.pointer a0), (.int .i64 a1)] [.one .any] W fun (r1 : Value × Unit) W => (isIfc r1.1 = true) ∧ (ifB (!(isNilV r1.1)) (K (r1.1, ()) W) (nilck a0 fun p2 => ld1 .sl p2 W fun (x3 : Sl) => idx x3.a x3.len a1 fun p4 => ld1 (.int .i64) (p4.add (Int.toNat a1 * 1)) W fun (x5 : Int) => ifB ((x5 : Int) == 1) (K ((.iface 29 (.int .i64 7)), ()) W) (K (.nilIface, ()) W)))
theorem eq25 (a0 : Option Addr) (a1 : Int) (W : World) (K : Value × Unit → World → Prop) : G25 a0 a1 W K = cFn Try.prog (.seq .n (.seq (.seq .n (.seq .n (.cond (.seq .n .n) .n))) (.seq (.seq .n (.cond (.seq .n .n) .n)) (.seq .n .n)))) Try.f25 [(.pointer a0), (.int .i64 a1)] [.one .any] W K := by kernel_rfl
theorem call25 (a0 : Option Addr) (a1 : Int) (W : World) (K : Value × Unit → World → Prop) (h : G25 a0 a1 W K) : callG Try.prog 25 [(.pointer a0), (.int .i64 a1)] [.one .any] W K :=
  cFn_sound mixedDcrew Try.func25 (Eq.mp (eq25 a0 a1 W K) h)

/-! (*garnet/garnetref01.Crew).May -/
def G26 (a0 : Option Addr) (a1 : Int) (W : World) (K : Int × Unit → World → Prop) : Prop :=
  callG Try.prog 24 [(.pointer a0), (.int .i64 a1)] [.one (.int .i64)] W fun (r1 : Int × Unit) W => ifB (decide ((r1.1 : Int) < 0)) (K (6, ()) W) (ifB ((r1.1 : Int) == 2) (K (9, ()) W) (ifB ((r1.1 : Int) == 1) (K (7, ()) W) (K (0, ()) W)))
theorem eq26 (a0 : Option Addr) (a1 : Int) (W : World) (K : Int × Unit → World → Prop) : G26 a0 a1 W K = cFn Try.prog (.seq .n (.seq .n (.seq (.seq .n (.cond (.seq .n .n) .n)) (.seq (.seq .n (.cond (.seq .n .n) .n)) (.seq (.seq .n (.cond (.seq .n .n) .n)) (.seq .n .n)))))) Try.f26 [(.pointer a0), (.int .i64 a1)] [.one (.int .i64)] W K := by kernel_rfl
theorem call26 (a0 : Option Addr) (a1 : Int) (W : World) (K : Int × Unit → World → Prop) (h : G26 a0 a1 W K) : callG Try.prog 26 [(.pointer a0), (.int .i64 a1)] [.one (.int .i64)] W K :=
  cFn_sound mixedDcrew Try.func26 (Eq.mp (eq26 a0 a1 W K) h)

/-! (*garnet/crew.Crew).Now -/
def G27 (a0 : Option Addr) (W : World) (K : Int × Unit → World → Prop) : Prop :=
  nilck a0 fun p1 => ld1 (.int .i64) (p1.add 1) W fun (x2 : Int) => K (x2, ()) W
theorem eq27 (a0 : Option Addr) (W : World) (K : Int × Unit → World → Prop) : G27 a0 W K = cFn Try.prog (.seq .n (.seq .n .n)) Try.f27 [(.pointer a0)] [.one (.int .i64)] W K := by kernel_rfl
theorem call27 (a0 : Option Addr) (W : World) (K : Int × Unit → World → Prop) (h : G27 a0 W K) : callG Try.prog 27 [(.pointer a0)] [.one (.int .i64)] W K :=
  cFn_sound mixedDcrew Try.func27 (Eq.mp (eq27 a0 W K) h)

/-! (*garnet/crew.Crew).Len -/
def G28 (a0 : Option Addr) (W : World) (K : Int × Unit → World → Prop) : Prop :=
  nilck a0 fun p1 => ld1 .sl p1 W fun (x2 : Sl) => K (((x2.len : Nat) : Int), ()) W
theorem eq28 (a0 : Option Addr) (W : World) (K : Int × Unit → World → Prop) : G28 a0 W K = cFn Try.prog (.seq .n (.seq .n .n)) Try.f28 [(.pointer a0)] [.one (.int .i64)] W K := by kernel_rfl
theorem call28 (a0 : Option Addr) (W : World) (K : Int × Unit → World → Prop) (h : G28 a0 W K) : callG Try.prog 28 [(.pointer a0)] [.one (.int .i64)] W K :=
  cFn_sound mixedDcrew Try.func28 (Eq.mp (eq28 a0 W K) h)

/-! (*garnet/crew.Crew).turn -/
def G84 (a0 : Option Addr) (a1 : Int) (a2 : Int) (W : World) (K : Value × Unit → World → Prop) : Prop :=
  callG Try.prog 85 [(.pointer a0), (.int .i64 a1)] [.one .any] W fun (r1 : Value × Unit) W => (isIfc r1.1 = true) ∧ (ifB (!(isNilV r1.1)) (K (r1.1, ()) W) (nilck a0 fun p2 => ld1 .sl p2 W fun (x3 : Sl) => idx x3.a x3.len a1 fun p4 => st1 (p4.add (Int.toNat a1 * 1)) (.int .i64 a2) W fun W => K (.nilIface, ()) W))
theorem eq84 (a0 : Option Addr) (a1 : Int) (a2 : Int) (W : World) (K : Value × Unit → World → Prop) : G84 a0 a1 a2 W K = cFn Try.prog (.seq .n (.seq (.seq .n (.seq .n (.cond (.seq .n .n) .n))) (.seq .n (.seq .n .n)))) Try.f84 [(.pointer a0), (.int .i64 a1), (.int .i64 a2)] [.one .any] W K := by kernel_rfl
theorem call84 (a0 : Option Addr) (a1 : Int) (a2 : Int) (W : World) (K : Value × Unit → World → Prop) (h : G84 a0 a1 a2 W K) : callG Try.prog 84 [(.pointer a0), (.int .i64 a1), (.int .i64 a2)] [.one .any] W K :=
  cFn_sound mixedDcrew Try.func84 (Eq.mp (eq84 a0 a1 a2 W K) h)

/-! (*garnet/crew.Crew).fit -/
def G85 (a0 : Option Addr) (a1 : Int) (W : World) (K : Value × Unit → World → Prop) : Prop :=
  callG Try.prog 23 [(.pointer a0), (.int .i64 a1)] [.one (.int .i64)] W fun (r1 : Int × Unit) W => ifB ((r1.1 : Int) == (-1)) (K ((.iface 29 (.int .i64 6)), ()) W) (ifB ((r1.1 : Int) == 2) (K ((.iface 29 (.int .i64 9)), ()) W) (K (.nilIface, ()) W))
theorem eq85 (a0 : Option Addr) (a1 : Int) (W : World) (K : Value × Unit → World → Prop) : G85 a0 a1 W K = cFn Try.prog (.seq .n (.seq (.seq .n (.blk (.seq .n (.cond (.seq .n .n) (.seq .n (.cond (.seq .n .n) .n)))))) (.seq .n .n))) Try.f85 [(.pointer a0), (.int .i64 a1)] [.one .any] W K := by kernel_rfl
theorem call85 (a0 : Option Addr) (a1 : Int) (W : World) (K : Value × Unit → World → Prop) (h : G85 a0 a1 W K) : callG Try.prog 85 [(.pointer a0), (.int .i64 a1)] [.one .any] W K :=
  cFn_sound mixedDcrew Try.func85 (Eq.mp (eq85 a0 a1 W K) h)

end Go.Proofs.Ytbaclnddcobdmaa
