/-
  Krq: texts of ours, one behind the other: Dtl, Tr7, Tr8, Tr9, Tra, Trb, Trr.
-/
import Derived.Test.YtabeehbgoljddaaDoorProg
import Derived.Test.YtabeehbgoljddaaDoorKk
import Derived.Test.YtabeehbgoljddaaDoorKrp
import Derived.Test.YtabeehbgoljddaaDoorRows
import Derived.ChangeVars
import Derived.JoinedOf
import Derived.ProofKit
import Derived.OpenShut
import Derived.ShutString
import Derived.SizedLaws
import Derived.LaidLaws
import Derived.LaidHandle
import Derived.Laws.Cover2
import Derived.Stop.Joined
namespace Go.Proofs.YtabeehbgoljddaaDoor
open Go Go.Gp
set_option linter.unusedVariables false
set_option maxRecDepth 100000
theorem mixedDtl : Tryd.prog.follows .mixedOrders = true := by kernel_rfl
/-! garnet/garnetlaw04.TrapAll -/
def G3 (a0 : Sl) (W : World) (K : Bool × Unit → World → Prop) : Prop :=
  callG Tryd.prog 5 [] [.one .bool] W fun (r1 : Bool × Unit) W => ifB (decide ((((a0.len : Nat) : Int) : Int) > 100)) (K (r1.1, ()) W) (newG (.cells #[(.int .i64 0)] 3) W fun b2 W => st1 (Addr.mk b2 0 none) (.int .i64 0) W fun W => LoopG (V := Sl × Bool × Addr × Int × Sl × Int × Unit) (a0, r1.1, (Addr.mk b2 0 none), 0, (Sl.mk none 0 0), 0, ()) W fun v3 W C5 => ∀ j4 : Nat → Value, ifB (decide ((v3.2.2.2.2.2.1 : Int) < ((v3.1.len : Nat) : Int))) (idx v3.1.a v3.1.len v3.2.2.2.2.2.1 fun p6 => ldN [.int .i64, .int .i64, .str] (p6.add (Int.toNat v3.2.2.2.2.2.1 * 3)) W fun (x7 : Int × Int × ByteArray × Unit) => newG (.cells #[(.int .i64 0), (.int .i64 0), (.string ByteArray.empty)] 26) W fun b8 W => st1 (Addr.mk b8 0 none) (.int .i64 x7.1) W fun W => st1 ((Addr.mk b8 0 none).add 1) (.int .i64 x7.2.1) W fun W => st1 ((Addr.mk b8 0 none).add 2) (.string x7.2.2.1) W fun W => JoinG (V := Sl × Bool × Addr × Int × Sl × Int × Addr × Unit) (fun v9 W => ∀ j10 : Nat → Value, newG (.cells #[(.func (.func 7) #[] #[(.pointer (some v9.2.2.2.2.2.2.1)), (.pointer (some v9.2.2.1))])] 1) W fun b12 W => runG' Tryd.prog (.val (.one .sl)) (Builtin.append_ #[24, 24] 24 #[(.slice v9.2.2.2.2.1.a v9.2.2.2.2.1.len v9.2.2.2.2.1.cap), (.slice (some (Addr.mk b12 0 none)) 1 1)]) W fun (r13 : Sl) W => C5 (v9.1, v9.2.1, v9.2.2.1, v9.2.2.2.1, r13, IntKind.i64.wrap (v9.2.2.2.2.2.1 + 1), ()) W) fun B11 => ld1 (.int .i64) (Addr.mk b8 0 none) W fun (x14 : Int) => callG Tryd.prog 6 [(.int .i64 x14), (.int .i64 5)] [.one (.int .i64)] W fun (r15 : Int × Unit) W => ifB (decide ((r15.1 : Int) < 2)) (B11 (v3.1, v3.2.1, v3.2.2.1, IntKind.i64.wrap (v3.2.2.2.1 + 1), v3.2.2.2.2.1, v3.2.2.2.2.2.1, (Addr.mk b8 0 none), ()) W) (B11 (v3.1, v3.2.1, v3.2.2.1, v3.2.2.2.1, v3.2.2.2.2.1, v3.2.2.2.2.2.1, (Addr.mk b8 0 none), ()) W)) (callG Tryd.prog 9 [(.slice v3.2.2.2.2.1.a v3.2.2.2.2.1.len v3.2.2.2.2.1.cap)] [.one .sl] W fun (r16 : Sl × Unit) W => ifB ((((r16.1.len : Nat) : Int) : Int) != ((v3.1.len : Nat) : Int)) (K (false, ()) W) (ld1 (.int .i64) v3.2.2.1 W fun (x17 : Int) => ifB ((x17 : Int) != v3.2.2.2.1) (K (false, ()) W) (LoopG (V := Sl × Bool × Sl × Int × Unit) (v3.1, v3.2.1, r16.1, 0, ()) W fun v18 W C20 => ∀ j19 : Nat → Value, ifB (decide ((v18.2.2.2.1 : Int) < ((v18.1.len : Nat) : Int))) (drwG W fun W => holdG W fun S21 => idx v18.1.a v18.1.len v18.2.2.2.1 fun p22 => ldNS S21 [.int .i64, .int .i64, .str] (p22.add (Int.toNat v18.2.2.2.1 * 3)) fun (x23 : Int × Int × ByteArray × Unit) => idx v18.2.2.1.a v18.2.2.1.len v18.2.2.2.1 fun p24 => ldS S21 .any (p24.add (Int.toNat v18.2.2.2.1 * 1)) fun (x25 : Value) => callG Tryd.prog 10 [(.agg #[(.int .i64 x23.1), (.int .i64 x23.2.1), (.string x23.2.2.1)]), x25] [.one .bool] W fun (r26 : Bool × Unit) W => ifB (!r26.1) (K (false, ()) W) (C20 (v18.1, v18.2.1, v18.2.2.1, IntKind.i64.wrap (v18.2.2.2.1 + 1), ()) W)) (K (v18.2.1, ()) W)))))
theorem eq3 (a0 : Sl) (W : World) (K : Bool × Unit → World → Prop) : G3 a0 W K = cFn Tryd.prog (.seq .n (.seq .n (.seq (.seq .n (.cond (.seq .n .n) .n)) (.seq .n (.seq .n (.seq .n (.seq (.seq .n (.blk (.loop 65 [(0, .sl), (3, .bool), (4, .adr), (5, .int .i64), (6, .sl), (7, .int .i64)] (.seq (.seq .n (.cond .n .n)) (.seq (.blk (.seq .n (.join 65 [(0, .sl), (3, .bool), (4, .adr), (5, .int .i64), (6, .sl), (7, .int .i64), (8, .adr)] (.seq .n (.cond .n .n)) .n))) .n))))) (.seq .n (.seq (.seq .n (.cond (.seq .n .n) .n)) (.seq (.seq .n (.blk (.loop 65 [(0, .sl), (3, .bool), (9, .sl), (10, .int .i64)] (.seq (.seq .n (.cond .n .n)) (.seq (.blk (.seq .n (.cond (.seq .n .n) .n))) .n))))) (.seq .n .n))))))))))) Tryd.f3 [(.slice a0.a a0.len a0.cap)] [.one .bool] W K := by kernel_rfl
theorem call3 (a0 : Sl) (W : World) (K : Bool × Unit → World → Prop) (h : G3 a0 W K) : callG Tryd.prog 3 [(.slice a0.a a0.len a0.cap)] [.one .bool] W K :=
  cFn_sound mixedDtl Tryd.func3 (Eq.mp (eq3 a0 W K) h)

/-! garnet/garnetlaw04.TrapCalls -/
def G4 (a0_0 : Int) (a0_1 : Int) (a0_2 : ByteArray) (W : World) (K : Bool × Unit → World → Prop) : Prop :=
  newG (.cells #[(.int .i64 a0_0), (.int .i64 a0_1), (.string a0_2)] 26) W fun b1 W => callG Tryd.prog 5 [] [.one .bool] W fun (r2 : Bool × Unit) W => newG (.cells #[(.int .i64 0)] 3) W fun b3 W => st1 (Addr.mk b3 0 none) (.int .i64 0) W fun W => callG Tryd.prog 11 [(.func (.func 12) #[] #[(.pointer (some (Addr.mk b1 0 none))), (.pointer (some (Addr.mk b3 0 none)))])] [.one .any] W fun (r4 : Value × Unit) W => callG Tryd.prog 13 [(.func (.func 14) #[] #[(.pointer (some (Addr.mk b1 0 none))), (.pointer (some (Addr.mk b3 0 none)))])] [.one (.int .i64), .one .any] W fun (r5 : Int × Value × Unit) W => ldN [.int .i64, .int .i64, .str] (Addr.mk b1 0 none) W fun (x6 : Int × Int × ByteArray × Unit) => callG Tryd.prog 10 [(.agg #[(.int .i64 x6.1), (.int .i64 x6.2.1), (.string x6.2.2.1)]), r4.1] [.one .bool] W fun (r7 : Bool × Unit) W => ifB (!r7.1) (K (false, ()) W) (ldN [.int .i64, .int .i64, .str] (Addr.mk b1 0 none) W fun (x8 : Int × Int × ByteArray × Unit) => callG Tryd.prog 10 [(.agg #[(.int .i64 x8.1), (.int .i64 x8.2.1), (.string x8.2.2.1)]), r5.2.1] [.one .bool] W fun (r9 : Bool × Unit) W => ifB (!r9.1) (K (false, ()) W) (ld1 (.int .i64) (Addr.mk b1 0 none) W fun (x10 : Int) => callG Tryd.prog 6 [(.int .i64 x10), (.int .i64 5)] [.one (.int .i64)] W fun (r11 : Int × Unit) W => ifB (decide ((r11.1 : Int) < 2)) (ifB r2.1 (ld1 (.int .i64) (Addr.mk b3 0 none) W fun (x12 : Int) => ifB ((x12 : Int) == 2) (K (((r5.1 : Int) == 7), ()) W) (K (false, ()) W)) (K (false, ()) W)) (ifB r2.1 (ld1 (.int .i64) (Addr.mk b3 0 none) W fun (x13 : Int) => ifB ((x13 : Int) == 0) (K (((r5.1 : Int) == 0), ()) W) (K (false, ()) W)) (K (false, ()) W))))
theorem eq4 (a0_0 : Int) (a0_1 : Int) (a0_2 : ByteArray) (W : World) (K : Bool × Unit → World → Prop) : G4 a0_0 a0_1 a0_2 W K = cFn Tryd.prog (.seq .n (.seq .n (.seq .n (.seq .n (.seq .n (.seq (.seq .n (.cond (.seq .n .n) .n)) (.seq (.seq .n (.cond (.seq .n .n) .n)) (.seq .n .n)))))))) Tryd.f4 [(.agg #[(.int .i64 a0_0), (.int .i64 a0_1), (.string a0_2)])] [.one .bool] W K := by kernel_rfl
theorem call4 (a0_0 : Int) (a0_1 : Int) (a0_2 : ByteArray) (W : World) (K : Bool × Unit → World → Prop) (h : G4 a0_0 a0_1 a0_2 W K) : callG Tryd.prog 4 [(.agg #[(.int .i64 a0_0), (.int .i64 a0_1), (.string a0_2)])] [.one .bool] W K :=
  cFn_sound mixedDtl Tryd.func4 (Eq.mp (eq4 a0_0 a0_1 a0_2 W K) h)

/-! garnet/garnetlaw04.up -/
def G5  (W : World) (K : Bool × Unit → World → Prop) : Prop :=
  callG Tryd.prog 11 [(.func (.func 15) #[] #[])] [.one .any] W fun (r1 : Value × Unit) W => callG Tryd.prog 11 [.nilFunc] [.one .any] W fun (r2 : Value × Unit) W => callG Tryd.prog 17 [r1.1, (.iface 42 (.int .i64 5))] [.one .bool] W fun (r3 : Bool × Unit) W => ifB r3.1 (ifcEq Tryd.prog r2.1 (.iface 42 (.int .i64 11)) fun b4 => K (b4, ()) W) (K (false, ()) W)
theorem eq5  (W : World) (K : Bool × Unit → World → Prop) : G5  W K = cFn Tryd.prog (.seq .n (.seq .n (.seq .n (.seq .n .n)))) Tryd.f5 [] [.one .bool] W K := by kernel_rfl
theorem call5  (W : World) (K : Bool × Unit → World → Prop) (h : G5  W K) : callG Tryd.prog 5 [] [.one .bool] W K :=
  cFn_sound mixedDtl Tryd.func5 (Eq.mp (eq5  W K) h)

/-! garnet/trap.Each -/
def G9 (a0 : Sl) (W : World) (K : Sl × Unit → World → Prop) : Prop :=
  LoopG (V := Sl × Sl × Int × Int × Unit) ((Sl.mk none 0 0), a0, ((a0.len : Nat) : Int), 0, ()) W fun v1 W C3 => ∀ j2 : Nat → Value, ifB (decide ((v1.2.2.2.1 : Int) < v1.2.2.1)) (idx v1.2.1.a v1.2.1.len v1.2.2.2.1 fun p4 => ld1 .any (p4.add (Int.toNat v1.2.2.2.1 * 1)) W fun (x5 : Value) => callG Tryd.prog 11 [x5] [.one .any] W fun (r6 : Value × Unit) W => fillS 1 #[.nilIface] 1 [(0, r6.1)] fun c6 => (newG (.cells c6 34) W fun b7 W => runG' Tryd.prog (.val (.one .sl)) (Builtin.append_ #[30, 30] 30 #[(.slice v1.1.a v1.1.len v1.1.cap), (.slice (some (Addr.mk b7 0 none)) 1 1)]) W fun (r8 : Sl) W => C3 (r8, v1.2.1, v1.2.2.1, IntKind.i64.wrap (v1.2.2.2.1 + 1), ()) W)) (K (v1.1, ()) W)
theorem eq9 (a0 : Sl) (W : World) (K : Sl × Unit → World → Prop) : G9 a0 W K = cFn Tryd.prog (.seq .n (.seq .n (.seq (.seq .n (.blk (.loop 19 [(3, .sl), (6, .sl), (7, .int .i64), (8, .int .i64)] (.seq .n (.seq (.cond .n .n) (.seq (.blk (.seq .n .n)) .n)))))) (.seq .n .n)))) Tryd.f9 [(.slice a0.a a0.len a0.cap)] [.one .sl] W K := by kernel_rfl
theorem call9 (a0 : Sl) (W : World) (K : Sl × Unit → World → Prop) (h : G9 a0 W K) : callG Tryd.prog 9 [(.slice a0.a a0.len a0.cap)] [.one .sl] W K :=
  cFn_sound mixedDtl Tryd.func9 (Eq.mp (eq9 a0 W K) h)

/-! garnet/garnetlaw04.told -/
def G10 (a0_0 : Int) (a0_1 : Int) (a0_2 : ByteArray) (a1 : Value) (W : World) (K : Bool × Unit → World → Prop) : Prop :=
  newG (.cells #[(.int .i64 a0_0), (.int .i64 a0_1), (.string a0_2)] 26) W fun b1 W => newG (.cells #[(.pointer none)] 45) W fun b2 W => ld1 (.int .i64) (Addr.mk b1 0 none) W fun (x3 : Int) => callG Tryd.prog 6 [(.int .i64 x3), (.int .i64 5)] [.one (.int .i64)] W fun (r4 : Int × Unit) W => ifB (decide ((r4.1 : Int) < 2)) ((isIfc a1 = true) ∧ (K ((isNilV a1), ()) W)) (callG Tryd.prog 18 [a1, (.iface 47 (.pointer (some (Addr.mk b2 0 none))))] [.one .bool] W fun (r5 : Bool × Unit) W => ifB (!r5.1) (K (false, ()) W) (ld1 .ptr (Addr.mk b2 0 none) W fun (x6 : Option Addr) => ifB (Option.isNone x6) (K (false, ()) W) (ld1 .ptr (Addr.mk b2 0 none) W fun (x7 : Option Addr) => callG Tryd.prog 19 [(.pointer x7)] [.one .str] W fun (r8 : ByteArray × Unit) W => ifB (decide ((((ByteArray.size r8.1 : Nat) : Int) : Int) < 5)) (K (false, ()) W) (runG' Tryd.prog (.val (.one .str)) (Instr.sliceAt 9 (.string r8.1) none (some (.int .i64 5)) none) W fun (r9 : ByteArray) W => ifB (!(ByteArray.toList r9 == ByteArray.toList (ByteArray.mk #[112, 97, 110, 105, 99]))) (K (false, ()) W) (ifB ((r4.1 : Int) == 2) (drwG W fun W => holdG W fun S10 => ldS S10 .ptr (Addr.mk b2 0 none) fun (x11 : Option Addr) => nilck x11 fun p12 => ldS S10 .any p12 fun (x13 : Value) => ldS S10 (.int .i64) ((Addr.mk b1 0 none).add 1) fun (x14 : Int) => ifcEq Tryd.prog x13 (.iface 42 (.int .i64 x14)) fun b15 => ifB b15 (ldS S10 (.int .i64) ((Addr.mk b1 0 none).add 1) fun (x16 : Int) => callG Tryd.prog 17 [a1, (.iface 42 (.int .i64 x16))] [.one .bool] W fun (r17 : Bool × Unit) W => K (r17.1, ()) W) (K (false, ()) W)) (ifB ((r4.1 : Int) == 3) (drwG W fun W => holdG W fun S18 => ldS S18 .ptr (Addr.mk b2 0 none) fun (x19 : Option Addr) => nilck x19 fun p20 => ldS S18 .any p20 fun (x21 : Value) => ldS S18 .str ((Addr.mk b1 0 none).add 2) fun (x22 : ByteArray) => ifcEq Tryd.prog x21 (.iface 9 (.string x22)) fun b23 => ifB b23 (callG Tryd.prog 17 [a1, (.iface 42 (.int .i64 11))] [.one .bool] W fun (r24 : Bool × Unit) W => K (r24.1, ()) W) (K (false, ()) W)) (callG Tryd.prog 17 [a1, (.iface 42 (.int .i64 11))] [.one .bool] W fun (r25 : Bool × Unit) W => ifB (!r25.1) (ld1 .ptr (Addr.mk b2 0 none) W fun (x26 : Option Addr) => callG Tryd.prog 20 [(.iface 45 (.pointer x26))] [.one .any] W fun (r27 : Value × Unit) W => (isIfc r27.1 = true) ∧ (K ((!(isNilV r27.1)), ()) W)) (K (false, ()) W))))))))
theorem eq10 (a0_0 : Int) (a0_1 : Int) (a0_2 : ByteArray) (a1 : Value) (W : World) (K : Bool × Unit → World → Prop) : G10 a0_0 a0_1 a0_2 a1 W K = cFn Tryd.prog (.seq .n (.seq .n (.seq .n (.seq (.seq .n (.cond (.seq .n .n) .n)) (.seq (.seq .n (.cond (.seq .n .n) .n)) (.seq (.seq .n (.cond (.seq .n .n) .n)) (.seq .n (.seq (.seq .n (.cond (.seq .n .n) .n)) (.seq (.seq .n (.cond (.seq .n .n) .n)) (.seq (.seq .n (.cond (.seq .n .n) .n)) (.seq (.seq .n (.cond (.seq .n .n) .n)) (.seq .n .n)))))))))))) Tryd.f10 [(.agg #[(.int .i64 a0_0), (.int .i64 a0_1), (.string a0_2)]), a1] [.one .bool] W K := by kernel_rfl
theorem call10 (a0_0 : Int) (a0_1 : Int) (a0_2 : ByteArray) (a1 : Value) (W : World) (K : Bool × Unit → World → Prop) (h : G10 a0_0 a0_1 a0_2 a1 W K) : callG Tryd.prog 10 [(.agg #[(.int .i64 a0_0), (.int .i64 a0_1), (.string a0_2)]), a1] [.one .bool] W K :=
  cFn_sound mixedDtl Tryd.func10 (Eq.mp (eq10 a0_0 a0_1 a0_2 a1 W K) h)

/-! garnet/trap.Get[int] -/
def G13 (a0 : Value) (W : World) (K : Int × Value × Unit → World → Prop) : Prop :=
  oneC a0 (newG (.cells #[a0] 39) W fun b1 W => newG (.cells #[(.int .i64 0)] 3) W fun b2 W => ld1 .any (Addr.mk b1 0 none) W fun (x3 : Value) => runG' Tryd.prog (.val (.one .bool)) ((do eqGuard .eql 39 (.tmp 7) (.const .nilFunc) x3 .nilFunc; binOp .eql 39 x3 .nilFunc)) W fun (r4 : Bool) W => ifB r4 (ld1 (.int .i64) (Addr.mk b2 0 none) W fun (x5 : Int) => K (x5, (.iface 42 (.int .i64 11)), ()) W) (callG Tryd.prog 11 [(.func (.func 22) #[] #[(.pointer (some (Addr.mk b1 0 none))), (.pointer (some (Addr.mk b2 0 none)))])] [.one .any] W fun (r6 : Value × Unit) W => (isIfc r6.1 = true) ∧ (ifB (!(isNilV r6.1)) (K (0, r6.1, ()) W) (ld1 (.int .i64) (Addr.mk b2 0 none) W fun (x7 : Int) => K (x7, .nilIface, ()) W))))
theorem eq13 (a0 : Value) (W : World) (K : Int × Value × Unit → World → Prop) : G13 a0 W K = cFn Tryd.prog (.seq .n (.seq .n (.seq (.seq .n (.cond (.seq .n .n) .n)) (.seq (.seq .n (.seq .n (.cond (.seq .n (.seq .n .n)) .n))) (.seq .n .n))))) Tryd.f13 [a0] [.one (.int .i64), .one .any] W K := by kernel_rfl
theorem call13 (a0 : Value) (W : World) (K : Int × Value × Unit → World → Prop) (h : G13 a0 W K) : callG Tryd.prog 13 [a0] [.one (.int .i64), .one .any] W K :=
  cFn_sound mixedDtl Tryd.func13 (Eq.mp (eq13 a0 W K) h)

end Go.Proofs.YtabeehbgoljddaaDoor
set_option linter.unusedSimpArgs false
set_option linter.unusedVariables false
set_option maxRecDepth 20000
namespace Go.Proofs.YtabeehbgoljddaaDoor
open Go Go.RowKit Go.Gp
/-- The package's variables: errors.errorType holds what the text lays; the table of powers holds any numbers. -/
structure GW (w : World) : Prop where
  et : w.cell? ⟨0, 0, none⟩ = some (.iface 70 (.agg #[.pointer (some ⟨4, 34, none⟩)]))
  tab : ∃ tab, tab.length = 20 ∧ (∀ v ∈ tab, ∃ y : Int, v = .int .u64 y) ∧ Blk w 1 tab 107
theorem GW.keep {S : List Nat} {w w' : World} (h : GW w) (k : Keeps S w w') (h0 : 0 ∉ S) (h1 : 1 ∉ S) : GW w' := by
  obtain ⟨tab, a, b, c⟩ := h.tab
  exact ⟨k.cell h.et h0, tab, a, b, c.keep k h1⟩
def Trp (w : World) (a b : Int) (s : ByteArray) (v : Value) : Prop :=
  (pickN a < 2 ∧ v = .nilIface) ∨ (2 ≤ pickN a ∧ ∃ m u, v = .iface 45 (.pointer (some ⟨m, 0, none⟩)) ∧ Blk w m [u] 50 ∧
    ((pickN a = 2 ∧ u = .iface 42 (.int .i64 b)) ∨ (pickN a = 3 ∧ u = .iface 9 (.string s)) ∨ (pickN a = 4 ∧ ∃ x f, u = bErr x f ∧ x.natAbs < 10 ^ 19)))
theorem Trp.keep {S : List Nat} {w w' : World} {a b : Int} {s : ByteArray} {v : Value} (h : Trp w a b s v) (k : Keeps S w w') (hs : ∀ m u, Blk w m u 50 → m ∉ S) : Trp w' a b s v := by
  rcases h with h | ⟨h0, m, u, h1, h2, h3⟩
  · exact .inl h
  · exact .inr ⟨h0, m, u, h1, h2.keep k (hs m _ h2), h3⟩
theorem callG_i {P : Program} {f : FuncId} {args : List Value} {ts : List Ty} {W : World} {K : TL ts → World → Prop} (x : TL ts) {R : World → Prop} (h : Calls P f ⟨args⟩ W fun e W' => e = .returned (RT.enc ts x) ∧ R W') (hk : ∀ W', R W' → K x W') : callG P f args ts W K :=
  h.mono fun e W' ⟨h1, h2⟩ => ⟨x, h1, hk W' h2⟩
/-- errors.As at a *Trapped, in few words. -/
theorem c_as (m t : Nat) (w : World) (hg : GW w) (ht : Blk w t [.pointer none] 45) : Calls Tryd.prog 18 #[.iface 45 (.pointer (some ⟨m, 0, none⟩)), .iface 47 (.pointer (some ⟨t, 0, none⟩))] w fun ev w' => ev = .returned (.bool true) ∧ Keeps [t] w w' ∧ Blk w' t [.pointer (some ⟨m, 0, none⟩)] 45 := by
  refine (as_hit ⟨m, 0, none⟩ ⟨t, 0, none⟩ (.pointer none) w hg.et (ht.cell 0) (ht.frz 0 none)).mono ?_
  rintro e w' ⟨rfl, rfl⟩
  have k := (((alloc_keeps w (.cells #[.pointer (some ⟨t, 0, none⟩)] 47) [t]).trans (alloc_keeps _ (.cells #[.pointer (some ⟨4, 47, none⟩), .pointer (some ⟨w.heap.size, 0, none⟩), .int .u64 150] 59) [t])).trans (alloc_keeps _ (.cells #[.pointer (some ⟨4, 47, none⟩), .pointer (some ⟨w.heap.size, 0, none⟩), .int .u64 150] 59) [t])).trans (alloc_keeps _ (.cells #[.pointer (some ⟨m, 0, none⟩)] 45) [t])
  have k' := (((alloc_keeps w (.cells #[.pointer (some ⟨t, 0, none⟩)] 47) []).trans (alloc_keeps _ (.cells #[.pointer (some ⟨4, 47, none⟩), .pointer (some ⟨w.heap.size, 0, none⟩), .int .u64 150] 59) [])).trans (alloc_keeps _ (.cells #[.pointer (some ⟨4, 47, none⟩), .pointer (some ⟨w.heap.size, 0, none⟩), .int .u64 150] 59) [])).trans (alloc_keeps _ (.cells #[.pointer (some ⟨m, 0, none⟩)] 45) [])
  exact ⟨rfl, k.trans (setCell_keeps (by simp) _), (ht.keep k' (by simp)).set 0 _⟩
theorem inf42 : (Tryd.prog.info? 42).map (·.comparable) = some true := by kernel_rfl
theorem inf9 : (Tryd.prog.info? 9).map (·.comparable) = some true := by kernel_rfl
theorem und42 : Tryd.prog.underlying 42 = some (.int .i64) := by kernel_rfl
theorem er_int {m n : Int} {K : Bool → Prop} (hk : K (m == n)) : ifcEq Tryd.prog (.iface 42 (.int .i64 m)) (.iface 42 (.int .i64 n)) K := by
  obtain ⟨i, h1, h2⟩ := Option.map_eq_some_iff.1 inf42
  exact ⟨_, .inl ⟨_, _, _, _, i, rfl, rfl, und42, h1, h2, rfl⟩, hk⟩
theorem er_str {m n : ByteArray} {K : Bool → Prop} (hk : K (m == n)) : ifcEq Tryd.prog (.iface 9 (.string m)) (.iface 9 (.string n)) K := by
  obtain ⟨i, h1, h2⟩ := Option.map_eq_some_iff.1 inf9
  exact ⟨_, .inr (.inr (.inr (.inr ⟨_, _, _, i, rfl, rfl, uStr9, h1, h2, rfl⟩))), hk⟩
theorem panic5 (s : ByteArray) : ((ByteArray.mk #[112, 97, 110, 105, 99, 58, 32]) ++ s).extract 0 5 = ByteArray.mk #[112, 97, 110, 105, 99] := by
  apply ByteArray.ext
  apply Array.ext'
  simp [ByteArray.data_extract, ByteArray.data_append]
theorem pick_lt {a : Int} (h0 : -9223372036854775808 ≤ a) (h1 : a ≤ 9223372036854775807) : 0 ≤ pickN a ∧ pickN a < 5 := by
  unfold pickN
  split
  · simp only [wrap64]
    rw [Int.tmod_eq_emod_of_nonneg (by omega)]
    omega
  · omega
theorem sl5 (s : ByteArray) (w : World) : (Instr.sliceAt 9 (.string ((ByteArray.mk #[112, 97, 110, 105, 99, 58, 32]) ++ s)) none (some (.int .i64 5)) none).run Tryd.prog w = .ok (.string (ByteArray.mk #[112, 97, 110, 105, 99])) w := by
  have hs : ((ByteArray.mk #[112, 97, 110, 105, 99, 58, 32]) ++ s).size = 7 + s.size := by rw [ByteArray.size_append]; rfl
  have h5 : (5 : Int) ≤ ((7 + s.size : Nat) : Int) := by omega
  have := panic5 s
  simp [Instr.sliceAt, Instr.slice, Instr.sliceBounds, Instr.sliceBound, run_underlying uStr9, asIntOf, Result.andThen, hs, this]
  rw [if_pos (by omega)]
  simp only [this]
theorem c_told (a b : Int) (s : ByteArray) (v : Value) (W : World) (K : Bool × Unit → World → Prop) (hg : GW W) (ht : Trp W a b s v) (b0 : -9223372036854775808 ≤ b) (b1 : b ≤ 9223372036854775807) (hK : ∀ W', Keeps [] W W' → K (true, ()) W') : G10 a b s v W K := by
  unfold G10
  refine new_blk fun p W1 e1 k1 B1 => new_blk fun q W2 e2 k2 B2 => ?_
  have k12 : Keeps [] W W2 := k1.trans k2
  have B1' : Blk W2 p [.int .i64 a, .int .i64 b, .string s] 26 := B1.keep k2 (by simp)
  have hpq : p ≠ q := fun e => by have := B1.lt; omega
  have hgw := hg.keep k12 (by simp) (by simp)
  refine ld_int (B1'.cell 0) (callG_i (pickN a, ()) (c_pick a W2) fun W' hW => ?_)
  subst hW
  dsimp only
  rcases ht with ⟨hk, rfl⟩ | ⟨hk, m, u, rfl, hm, hu⟩
  · exact ifB_t (by simpa using hk) ⟨rfl, hK _ k12⟩
  · refine ifB_f (by simpa using hk) (callG_i (true, ()) (c_as m q W' hgw B2) fun W3 ⟨k3, h3⟩ => ?_)
    have hmW : m < W.heap.size := hm.lt
    have hmq : m ≠ q := by have := k1.size; omega
    have hm3 : Blk W3 m [u] 50 := (hm.keep k12 (by simp)).keep k3 (by simpa using hmq)
    have q0 : 1 < q := by
      obtain ⟨tab, _, _, h⟩ := hg.tab
      have := h.lt
      have := k1.size
      omega
    have hg3 := hgw.keep k3 (by simp; omega) (by simp; omega)
    have B3 : Blk W3 p [.int .i64 a, .int .i64 b, .string s] 26 := B1'.keep k3 (by simpa using hpq)
    have k13 : Keeps [] W W3 := k12.push k3 (by simp; have := k1.size; omega)
    refine ifB_f rfl (ld_ptr (h3.cell 0) (ifB_f rfl (ld_ptr (h3.cell 0) ?_)))
    obtain ⟨tab, hl, htab, hbt⟩ := hg3.tab
    have hm3c : W3.cell? ⟨m, 0, none⟩ = some u := hm3.cell 0
    -- the text
    have text : ∀ r, UnOk m r W3 → ((∃ x : Int, r = .iface 42 (.int .i64 x) ∧ -9223372036854775808 ≤ x ∧ x ≤ 9223372036854775807) ∨ ∃ x f, r = bErr x f ∧ x.natAbs < 10 ^ 19) → (∀ W4, Keeps [] W3 W4 → ifB ((pickN a : Int) == 2) (drwG W4 fun W => holdG W fun S10 => ldS S10 .ptr (Addr.mk q 0 none) fun (x11 : Option Addr) => nilck x11 fun p12 => ldS S10 .any p12 fun (x13 : Value) => ldS S10 (.int .i64) ((Addr.mk p 0 none).add 1) fun (x14 : Int) => ifcEq Tryd.prog x13 (.iface 42 (.int .i64 x14)) fun b15 => ifB b15 (ldS S10 (.int .i64) ((Addr.mk p 0 none).add 1) fun (x16 : Int) => callG Tryd.prog 17 [.iface 45 (.pointer (some ⟨m, 0, none⟩)), (.iface 42 (.int .i64 x16))] [.one .bool] W fun (r17 : Bool × Unit) W => K (r17.1, ()) W) (K (false, ()) W)) (ifB ((pickN a : Int) == 3) (drwG W4 fun W => holdG W fun S18 => ldS S18 .ptr (Addr.mk q 0 none) fun (x19 : Option Addr) => nilck x19 fun p20 => ldS S18 .any p20 fun (x21 : Value) => ldS S18 .str ((Addr.mk p 0 none).add 2) fun (x22 : ByteArray) => ifcEq Tryd.prog x21 (.iface 9 (.string x22)) fun b23 => ifB b23 (callG Tryd.prog 17 [.iface 45 (.pointer (some ⟨m, 0, none⟩)), (.iface 42 (.int .i64 11))] [.one .bool] W fun (r24 : Bool × Unit) W => K (r24.1, ()) W) (K (false, ()) W)) (callG Tryd.prog 17 [.iface 45 (.pointer (some ⟨m, 0, none⟩)), (.iface 42 (.int .i64 11))] [.one .bool] W4 fun (r25 : Bool × Unit) W => ifB (!r25.1) (ld1 .ptr (Addr.mk q 0 none) W fun (x26 : Option Addr) => callG Tryd.prog 20 [(.iface 45 (.pointer x26))] [.one .any] W fun (r27 : Value × Unit) W => (isIfc r27.1 = true) ∧ (K ((!(isNilV r27.1)), ()) W)) (K (false, ()) W)))) →
        callG Tryd.prog 19 [(.pointer (some ⟨m, 0, none⟩))] [.one .str] W3 fun (r8 : ByteArray × Unit) W => ifB (decide ((((ByteArray.size r8.1 : Nat) : Int) : Int) < 5)) (K (false, ()) W) (runG' Tryd.prog (.val (.one .str)) (Instr.sliceAt 9 (.string r8.1) none (some (.int .i64 5)) none) W fun (r9 : ByteArray) W => ifB (!(ByteArray.toList r9 == ByteArray.toList (ByteArray.mk #[112, 97, 110, 105, 99]))) (K (false, ()) W) (ifB ((pickN a : Int) == 2) (drwG W fun W => holdG W fun S10 => ldS S10 .ptr (Addr.mk q 0 none) fun (x11 : Option Addr) => nilck x11 fun p12 => ldS S10 .any p12 fun (x13 : Value) => ldS S10 (.int .i64) ((Addr.mk p 0 none).add 1) fun (x14 : Int) => ifcEq Tryd.prog x13 (.iface 42 (.int .i64 x14)) fun b15 => ifB b15 (ldS S10 (.int .i64) ((Addr.mk p 0 none).add 1) fun (x16 : Int) => callG Tryd.prog 17 [.iface 45 (.pointer (some ⟨m, 0, none⟩)), (.iface 42 (.int .i64 x16))] [.one .bool] W fun (r17 : Bool × Unit) W => K (r17.1, ()) W) (K (false, ()) W)) (ifB ((pickN a : Int) == 3) (drwG W fun W => holdG W fun S18 => ldS S18 .ptr (Addr.mk q 0 none) fun (x19 : Option Addr) => nilck x19 fun p20 => ldS S18 .any p20 fun (x21 : Value) => ldS S18 .str ((Addr.mk p 0 none).add 2) fun (x22 : ByteArray) => ifcEq Tryd.prog x21 (.iface 9 (.string x22)) fun b23 => ifB b23 (callG Tryd.prog 17 [.iface 45 (.pointer (some ⟨m, 0, none⟩)), (.iface 42 (.int .i64 11))] [.one .bool] W fun (r24 : Bool × Unit) W => K (r24.1, ()) W) (K (false, ()) W)) (callG Tryd.prog 17 [.iface 45 (.pointer (some ⟨m, 0, none⟩)), (.iface 42 (.int .i64 11))] [.one .bool] W fun (r25 : Bool × Unit) W => ifB (!r25.1) (ld1 .ptr (Addr.mk q 0 none) W fun (x26 : Option Addr) => callG Tryd.prog 20 [(.iface 45 (.pointer x26))] [.one .any] W fun (r27 : Value × Unit) W => (isIfc r27.1 = true) ∧ (K ((!(isNilV r27.1)), ()) W)) (K (false, ()) W))))) := fun r hu hr hrest => by
      refine (c_terr tab W3 hl htab hbt m r hu hr).mono fun e W4 h => ?_
      obtain ⟨⟨s', rfl, hz⟩, k4⟩ := h
      refine ⟨(_, ()), rfl, ifB_f ?_ ⟨_, W4, sl5 s' W4, ifB_f (by simp) (hrest W4 k4)⟩⟩
      have : ((ByteArray.mk #[112, 97, 110, 105, 99, 58, 32]) ++ s').size = 7 + s'.size := by rw [ByteArray.size_append]; rfl
      simp only [this]
      exact decide_eq_false (by omega)
    rcases hu with ⟨h2, rfl⟩ | ⟨h2, rfl⟩ | ⟨h2, x, f, rfl, hx⟩
    · refine text _ (un_code _ _ _ hm3c) (.inl ⟨b, rfl, b0, b1⟩) fun W4 k4 => ifB_t (by rw [h2]; rfl) ?_
      have k5 := k4.trans (drew_keeps W4 [])
      have h5 := h3.keep k5 (by simp)
      have B5 := B3.keep k5 (by simp)
      have m5 := hm3.keep k5 (by simp)
      refine ⟨fun w => w = W4.drew, rfl, ldS_ptr (n := some ⟨m, 0, none⟩) (fun w hw => by subst hw; exact h5.cell 0) ⟨_, fun w hw => by subst hw; exact m5.cell 0, ldS_int (n := b) (fun w hw => by subst hw; rw [addr_add]; exact B5.cell 1) (er_int (ifB_t (by simp) (ldS_int (n := b) (fun w hw => by subst hw; rw [addr_add]; exact B5.cell 1) ?_)))⟩⟩
      refine callG_i (true, ()) (c_is m b true W4.drew ?_) fun W6 hW => by subst hW; exact hK _ (k13.trans k5)
      have := is_code m b b W4.drew (un_code _ _ _ (m5.cell 0))
      simpa using this
    · refine text _ (un_str _ _ _ hm3c) (.inl ⟨11, rfl, by omega, by omega⟩) fun W4 k4 => ifB_f (by rw [h2]; rfl) (ifB_t (by rw [h2]; rfl) ?_)
      have k5 := k4.trans (drew_keeps W4 [])
      have h5 := h3.keep k5 (by simp)
      have B5 := B3.keep k5 (by simp)
      have m5 := hm3.keep k5 (by simp)
      refine ⟨fun w => w = W4.drew, rfl, ldS_ptr (n := some ⟨m, 0, none⟩) (fun w hw => by subst hw; exact h5.cell 0) ⟨_, fun w hw => by subst hw; exact m5.cell 0, ⟨s, fun w hw => by subst hw; rw [addr_add]; exact B5.cell 2, er_str (ifB_t (by show (s.data == s.data) = true; simp) ?_)⟩⟩⟩
      refine callG_i (true, ()) (c_is m 11 true W4.drew ?_) fun W6 hW => by subst hW; exact hK _ (k13.trans k5)
      have := is_code m 11 11 W4.drew (un_str _ _ _ (m5.cell 0))
      simpa using this
    · refine text _ (un_bnd _ _ _ hm3c) (.inr ⟨x, f, rfl, hx⟩) fun W4 k4 => ifB_f (by rw [h2]; rfl) (ifB_f (by rw [h2]; rfl) ?_)
      have h5 := h3.keep k4 (by simp)
      have m5 := hm3.keep k4 (by simp)
      refine callG_i (false, ()) (c_is m 11 false W4 (is_bnd m _ 11 W4 (un_bnd _ _ _ (m5.cell 0)))) fun W6 hW => ?_
      subst hW
      refine ifB_t rfl (ld_ptr (h5.cell 0) (callG_i (bErr x f, ()) (unwrap_ m (bErr x f) W6 (un_bnd _ _ _ (m5.cell 0))) fun W7 hW => ?_))
      subst hW
      exact ⟨rfl, hK _ (k13.trans k4)⟩
end Go.Proofs.YtabeehbgoljddaaDoor
set_option linter.unusedSimpArgs false
set_option linter.unusedVariables false
set_option maxRecDepth 20000
namespace Go.Proofs.YtabeehbgoljddaaDoor
open Go Go.RowKit Go.Gp
/-- The world in which a Way's closure is called: its box, and the box of the number. -/
structure WB (w : World) (p q : Nat) (a b n : Int) (s : ByteArray) : Prop where
  hp : Blk w p [.int .i64 a, .int .i64 b, .string s] 26
  hq : Blk w q [.int .i64 n] 3
theorem WB.keep {w w' : World} {p q : Nat} {a b n : Int} {s : ByteArray} (h : WB w p q a b n s) (k : Keeps [] w w') : WB w' p q a b n s := ⟨h.hp.keep k (by simp), h.hq.keep k (by simp)⟩
theorem WB.c0 {w : World} {p q : Nat} {a b n : Int} {s : ByteArray} (h : WB w p q a b n s) : w.cell? ⟨p, 0, none⟩ = some (.int .i64 a) := h.hp.cell 0
theorem WB.c1 {w : World} {p q : Nat} {a b n : Int} {s : ByteArray} (h : WB w p q a b n s) : w.cell? ⟨p, 1, none⟩ = some (.int .i64 b) := h.hp.cell 1
theorem WB.c2 {w : World} {p q : Nat} {a b n : Int} {s : ByteArray} (h : WB w p q a b n s) : w.cell? ⟨p, 2, none⟩ = some (.string s) := h.hp.cell 2

theorem en7 (cap : Array Value) (w : World) : (callFunc 7 cap).run Tryd.prog w = .ok (.enter 7 cap) w := by
  have hb : Tryd.f7.body.isSome = true := by kernel_rfl
  obtain ⟨c, hc⟩ := Option.isSome_iff_exists.1 hb
  have hn : (Tryd.f7.name == "runtime.NumGoroutine") = false := by kernel_rfl
  simp only [beq_eq_false_iff_ne] at hn
  simp [callFunc, Tryd.func7, hc, hn]
theorem clo7_0 (p q : Nat) (a b n : Int) (s : ByteArray) (w : World) (h : WB w p q a b n s) (hk : pickN a < 2) : Calls Tryd.prog 7 #[.pointer (some ⟨p, 0, none⟩), .pointer (some ⟨q, 0, none⟩)] w fun e w' => e = .returned (.tuple #[]) ∧ Keeps [q] w w' ∧ Blk w' q [.int .i64 (wrap64 (n + 1))] 3 := by
  have c0 := h.c0; have c1 := h.c1; have c2 := h.c2
  go_enter Tryd.func7, Tryd.ntmps7
  go_wp2_with (go_at_call 8; refine (goes_0 a b s q n _ hk h.hq).mono ?_; rintro e w' ⟨rfl, k, hq'⟩)
  first | exact bodyPost_end (results_none rfl _ _ _) rfl ⟨rfl, k, hq'⟩ | (go_ret; exact ⟨rfl, k, hq'⟩)
theorem clo7_2 (p q : Nat) (a b n : Int) (s : ByteArray) (w : World) (h : WB w p q a b n s) (hk : pickN a = 2) : Calls Tryd.prog 7 #[.pointer (some ⟨p, 0, none⟩), .pointer (some ⟨q, 0, none⟩)] w fun e w' => e = .panicked [{ v := .iface 42 (.int .i64 b), recovered := false }] ∧ Keeps [] w w' := by
  have c0 := h.c0; have c1 := h.c1; have c2 := h.c2
  go_enter Tryd.func7, Tryd.ntmps7
  go_wp2_with (go_at_call 8; refine (goes_2 a b s _ _ hk).mono ?_; rintro e w' ⟨rfl, k⟩)
  exact ⟨rfl, rfl, k⟩
theorem clo7_3 (p q : Nat) (a b n : Int) (s : ByteArray) (w : World) (h : WB w p q a b n s) (hk : pickN a = 3) : Calls Tryd.prog 7 #[.pointer (some ⟨p, 0, none⟩), .pointer (some ⟨q, 0, none⟩)] w fun e w' => e = .panicked [{ v := .iface 9 (.string s), recovered := false }] ∧ Keeps [] w w' := by
  have c0 := h.c0; have c1 := h.c1; have c2 := h.c2
  go_enter Tryd.func7, Tryd.ntmps7
  go_wp2_with (go_at_call 8; refine (goes_3 a b s _ _ hk).mono ?_; rintro e w' ⟨rfl, k⟩)
  exact ⟨rfl, rfl, k⟩
theorem clo7_4 (p q : Nat) (a b n : Int) (s : ByteArray) (w : World) (h : WB w p q a b n s) (hk : pickN a = 4) : Calls Tryd.prog 7 #[.pointer (some ⟨p, 0, none⟩), .pointer (some ⟨q, 0, none⟩)] w fun e w' => (∃ x f, e = .panicked [{ v := bErr x f, recovered := false }] ∧ x.natAbs < 10 ^ 19) ∧ Keeps [] w w' := by
  have c0 := h.c0; have c1 := h.c1; have c2 := h.c2
  go_enter Tryd.func7, Tryd.ntmps7
  go_wp2_with (go_at_call 8; refine (goes_4 a b s _ _ hk).mono ?_; rintro e w' ⟨⟨x, f, rfl, hx⟩, k⟩)
  exact ⟨rfl, ⟨x, f, rfl, hx⟩, k⟩

theorem en12 (cap : Array Value) (w : World) : (callFunc 12 cap).run Tryd.prog w = .ok (.enter 12 cap) w := by
  have hb : Tryd.f12.body.isSome = true := by kernel_rfl
  obtain ⟨c, hc⟩ := Option.isSome_iff_exists.1 hb
  have hn : (Tryd.f12.name == "runtime.NumGoroutine") = false := by kernel_rfl
  simp only [beq_eq_false_iff_ne] at hn
  simp [callFunc, Tryd.func12, hc, hn]
theorem clo12_0 (p q : Nat) (a b n : Int) (s : ByteArray) (w : World) (h : WB w p q a b n s) (hk : pickN a < 2) : Calls Tryd.prog 12 #[.pointer (some ⟨p, 0, none⟩), .pointer (some ⟨q, 0, none⟩)] w fun e w' => e = .returned (.tuple #[]) ∧ Keeps [q] w w' ∧ Blk w' q [.int .i64 (wrap64 (n + 1))] 3 := by
  have c0 := h.c0; have c1 := h.c1; have c2 := h.c2
  go_enter Tryd.func12, Tryd.ntmps12
  go_wp2_with (go_at_call 8; refine (goes_0 a b s q n _ hk h.hq).mono ?_; rintro e w' ⟨rfl, k, hq'⟩)
  first | exact bodyPost_end (results_none rfl _ _ _) rfl ⟨rfl, k, hq'⟩ | (go_ret; exact ⟨rfl, k, hq'⟩)
theorem clo12_2 (p q : Nat) (a b n : Int) (s : ByteArray) (w : World) (h : WB w p q a b n s) (hk : pickN a = 2) : Calls Tryd.prog 12 #[.pointer (some ⟨p, 0, none⟩), .pointer (some ⟨q, 0, none⟩)] w fun e w' => e = .panicked [{ v := .iface 42 (.int .i64 b), recovered := false }] ∧ Keeps [] w w' := by
  have c0 := h.c0; have c1 := h.c1; have c2 := h.c2
  go_enter Tryd.func12, Tryd.ntmps12
  go_wp2_with (go_at_call 8; refine (goes_2 a b s _ _ hk).mono ?_; rintro e w' ⟨rfl, k⟩)
  exact ⟨rfl, rfl, k⟩
theorem clo12_3 (p q : Nat) (a b n : Int) (s : ByteArray) (w : World) (h : WB w p q a b n s) (hk : pickN a = 3) : Calls Tryd.prog 12 #[.pointer (some ⟨p, 0, none⟩), .pointer (some ⟨q, 0, none⟩)] w fun e w' => e = .panicked [{ v := .iface 9 (.string s), recovered := false }] ∧ Keeps [] w w' := by
  have c0 := h.c0; have c1 := h.c1; have c2 := h.c2
  go_enter Tryd.func12, Tryd.ntmps12
  go_wp2_with (go_at_call 8; refine (goes_3 a b s _ _ hk).mono ?_; rintro e w' ⟨rfl, k⟩)
  exact ⟨rfl, rfl, k⟩
theorem clo12_4 (p q : Nat) (a b n : Int) (s : ByteArray) (w : World) (h : WB w p q a b n s) (hk : pickN a = 4) : Calls Tryd.prog 12 #[.pointer (some ⟨p, 0, none⟩), .pointer (some ⟨q, 0, none⟩)] w fun e w' => (∃ x f, e = .panicked [{ v := bErr x f, recovered := false }] ∧ x.natAbs < 10 ^ 19) ∧ Keeps [] w w' := by
  have c0 := h.c0; have c1 := h.c1; have c2 := h.c2
  go_enter Tryd.func12, Tryd.ntmps12
  go_wp2_with (go_at_call 8; refine (goes_4 a b s _ _ hk).mono ?_; rintro e w' ⟨⟨x, f, rfl, hx⟩, k⟩)
  exact ⟨rfl, ⟨x, f, rfl, hx⟩, k⟩

theorem en14 (cap : Array Value) (w : World) : (callFunc 14 cap).run Tryd.prog w = .ok (.enter 14 cap) w := by
  have hb : Tryd.f14.body.isSome = true := by kernel_rfl
  obtain ⟨c, hc⟩ := Option.isSome_iff_exists.1 hb
  have hn : (Tryd.f14.name == "runtime.NumGoroutine") = false := by kernel_rfl
  simp only [beq_eq_false_iff_ne] at hn
  simp [callFunc, Tryd.func14, hc, hn]
theorem clo14_0 (p q : Nat) (a b n : Int) (s : ByteArray) (w : World) (h : WB w p q a b n s) (hk : pickN a < 2) : Calls Tryd.prog 14 #[.pointer (some ⟨p, 0, none⟩), .pointer (some ⟨q, 0, none⟩)] w fun e w' => e = .returned (.int .i64 7) ∧ Keeps [q] w w' ∧ Blk w' q [.int .i64 (wrap64 (n + 1))] 3 := by
  have c0 := h.c0; have c1 := h.c1; have c2 := h.c2
  go_enter Tryd.func14, Tryd.ntmps14
  go_wp2_with (go_at_call 8; refine (goes_0 a b s q n _ hk h.hq).mono ?_; rintro e w' ⟨rfl, k, hq'⟩)
  first | exact bodyPost_end (results_none rfl _ _ _) rfl ⟨rfl, k, hq'⟩ | (go_ret; exact ⟨rfl, k, hq'⟩)
theorem clo14_2 (p q : Nat) (a b n : Int) (s : ByteArray) (w : World) (h : WB w p q a b n s) (hk : pickN a = 2) : Calls Tryd.prog 14 #[.pointer (some ⟨p, 0, none⟩), .pointer (some ⟨q, 0, none⟩)] w fun e w' => e = .panicked [{ v := .iface 42 (.int .i64 b), recovered := false }] ∧ Keeps [] w w' := by
  have c0 := h.c0; have c1 := h.c1; have c2 := h.c2
  go_enter Tryd.func14, Tryd.ntmps14
  go_wp2_with (go_at_call 8; refine (goes_2 a b s _ _ hk).mono ?_; rintro e w' ⟨rfl, k⟩)
  exact ⟨rfl, rfl, k⟩
theorem clo14_3 (p q : Nat) (a b n : Int) (s : ByteArray) (w : World) (h : WB w p q a b n s) (hk : pickN a = 3) : Calls Tryd.prog 14 #[.pointer (some ⟨p, 0, none⟩), .pointer (some ⟨q, 0, none⟩)] w fun e w' => e = .panicked [{ v := .iface 9 (.string s), recovered := false }] ∧ Keeps [] w w' := by
  have c0 := h.c0; have c1 := h.c1; have c2 := h.c2
  go_enter Tryd.func14, Tryd.ntmps14
  go_wp2_with (go_at_call 8; refine (goes_3 a b s _ _ hk).mono ?_; rintro e w' ⟨rfl, k⟩)
  exact ⟨rfl, rfl, k⟩
theorem clo14_4 (p q : Nat) (a b n : Int) (s : ByteArray) (w : World) (h : WB w p q a b n s) (hk : pickN a = 4) : Calls Tryd.prog 14 #[.pointer (some ⟨p, 0, none⟩), .pointer (some ⟨q, 0, none⟩)] w fun e w' => (∃ x f, e = .panicked [{ v := bErr x f, recovered := false }] ∧ x.natAbs < 10 ^ 19) ∧ Keeps [] w w' := by
  have c0 := h.c0; have c1 := h.c1; have c2 := h.c2
  go_enter Tryd.func14, Tryd.ntmps14
  go_wp2_with (go_at_call 8; refine (goes_4 a b s _ _ hk).mono ?_; rintro e w' ⟨⟨x, f, rfl, hx⟩, k⟩)
  exact ⟨rfl, ⟨x, f, rfl, hx⟩, k⟩
end Go.Proofs.YtabeehbgoljddaaDoor
set_option linter.unusedSimpArgs false
set_option linter.unusedVariables false
set_option maxRecDepth 20000
namespace Go.Proofs.YtabeehbgoljddaaDoor
open Go Go.RowKit Go.Gp
/-- What the box of the number holds behind a call. -/
def cnt (a n : Int) : Int := if pickN a < 2 then wrap64 (n + 1) else n
theorem blk_old {w1 w2 : World} {q : Nat} {cs : List Value} {t : TypeId} {B : Nat} (h : Blk w1 q cs t) (hq : q < B) (he : ∀ b, b < B → w2.heap[b]? = w1.heap[b]?) : Blk w2 q cs t := by
  show w2.heap[q]? = _
  rw [he q hq]
  exact h
/-- What is told of an error that a call gave: the Trapped behind it is new. -/
structure Gave (w w' : World) (q : Nat) (a b n : Int) (s : ByteArray) (v : Value) : Prop where
  tr : Trp w' a b s v
  k : Keeps [q] w w'
  hq : Blk w' q [.int .i64 (cnt a n)] 3
theorem callT12 (p q : Nat) (a b n : Int) (s : ByteArray) (w : World) (h : WB w p q a b n s) (hp : 0 ≤ pickN a ∧ pickN a < 5) : Calls Tryd.prog 11 #[.func (.func 12) #[] #[.pointer (some ⟨p, 0, none⟩), .pointer (some ⟨q, 0, none⟩)]] w fun e w' => ∃ v, e = .returned v ∧ Gave w w' q a b n s v := by
  have hqs : ∀ b ∈ [q], b < w.heap.size := by simpa using h.hq.lt
  rcases (show pickN a < 2 ∨ pickN a = 2 ∨ pickN a = 3 ∨ pickN a = 4 by omega) with hk | hk | hk | hk
  · refine (call_ret 12 _ [q] (fun w' => Blk w' q [.int .i64 (wrap64 (n + 1))] 3) w hqs (en12 _) (fun w1 k => (clo12_0 p q a b n s w1 (h.keep k) hk).mono fun e w' h => h) fun w1 w2 h1 h2 => blk_old h1 h.hq.lt h2).mono ?_
    rintro e w' ⟨rfl, k, hb⟩
    exact ⟨_, rfl, .inl ⟨hk, rfl⟩, k, by unfold cnt; rw [if_pos hk]; exact hb⟩
  all_goals
    have hn : ¬ pickN a < 2 := by omega
  · refine (call_panic 12 _ (fun u => u = .iface 42 (.int .i64 b)) [] w (by simp) (en12 _) fun w1 k => (clo12_2 p q a b n s w1 (h.keep k) hk).mono ?_).mono ?_
    · rintro e w' ⟨rfl, k⟩; exact ⟨⟨_, _, rfl, rfl⟩, k⟩
    · rintro e w' ⟨k, m, u, hR, rfl, hm, hb⟩
      exact ⟨_, rfl, .inr ⟨by omega, m, u, rfl, hb, .inl ⟨hk, hR⟩⟩, k.nil, by unfold cnt; rw [if_neg hn]; exact h.hq.keep k (by simp)⟩
  · refine (call_panic 12 _ (fun u => u = .iface 9 (.string s)) [] w (by simp) (en12 _) fun w1 k => (clo12_3 p q a b n s w1 (h.keep k) hk).mono ?_).mono ?_
    · rintro e w' ⟨rfl, k⟩; exact ⟨⟨_, _, rfl, rfl⟩, k⟩
    · rintro e w' ⟨k, m, u, hR, rfl, hm, hb⟩
      exact ⟨_, rfl, .inr ⟨by omega, m, u, rfl, hb, .inr (.inl ⟨hk, hR⟩)⟩, k.nil, by unfold cnt; rw [if_neg hn]; exact h.hq.keep k (by simp)⟩
  · refine (call_panic 12 _ (fun u => ∃ x f, u = bErr x f ∧ x.natAbs < 10 ^ 19) [] w (by simp) (en12 _) fun w1 k => (clo12_4 p q a b n s w1 (h.keep k) hk).mono ?_).mono ?_
    · rintro e w' ⟨⟨x, f, rfl, hx⟩, k⟩; exact ⟨⟨_, _, rfl, x, f, rfl, hx⟩, k⟩
    · rintro e w' ⟨k, m, u, hR, rfl, hm, hb⟩
      exact ⟨_, rfl, .inr ⟨by omega, m, u, rfl, hb, .inr (.inr ⟨hk, hR⟩)⟩, k.nil, by unfold cnt; rw [if_neg hn]; exact h.hq.keep k (by simp)⟩
theorem callT7 (p q : Nat) (a b n : Int) (s : ByteArray) (w : World) (h : WB w p q a b n s) (hp : 0 ≤ pickN a ∧ pickN a < 5) : Calls Tryd.prog 11 #[.func (.func 7) #[] #[.pointer (some ⟨p, 0, none⟩), .pointer (some ⟨q, 0, none⟩)]] w fun e w' => ∃ v, e = .returned v ∧ Gave w w' q a b n s v := by
  have hqs : ∀ b ∈ [q], b < w.heap.size := by simpa using h.hq.lt
  rcases (show pickN a < 2 ∨ pickN a = 2 ∨ pickN a = 3 ∨ pickN a = 4 by omega) with hk | hk | hk | hk
  · refine (call_ret 7 _ [q] (fun w' => Blk w' q [.int .i64 (wrap64 (n + 1))] 3) w hqs (en7 _) (fun w1 k => (clo7_0 p q a b n s w1 (h.keep k) hk).mono fun e w' h => h) fun w1 w2 h1 h2 => blk_old h1 h.hq.lt h2).mono ?_
    rintro e w' ⟨rfl, k, hb⟩
    exact ⟨_, rfl, .inl ⟨hk, rfl⟩, k, by unfold cnt; rw [if_pos hk]; exact hb⟩
  all_goals
    have hn : ¬ pickN a < 2 := by omega
  · refine (call_panic 7 _ (fun u => u = .iface 42 (.int .i64 b)) [] w (by simp) (en7 _) fun w1 k => (clo7_2 p q a b n s w1 (h.keep k) hk).mono ?_).mono ?_
    · rintro e w' ⟨rfl, k⟩; exact ⟨⟨_, _, rfl, rfl⟩, k⟩
    · rintro e w' ⟨k, m, u, hR, rfl, hm, hb⟩
      exact ⟨_, rfl, .inr ⟨by omega, m, u, rfl, hb, .inl ⟨hk, hR⟩⟩, k.nil, by unfold cnt; rw [if_neg hn]; exact h.hq.keep k (by simp)⟩
  · refine (call_panic 7 _ (fun u => u = .iface 9 (.string s)) [] w (by simp) (en7 _) fun w1 k => (clo7_3 p q a b n s w1 (h.keep k) hk).mono ?_).mono ?_
    · rintro e w' ⟨rfl, k⟩; exact ⟨⟨_, _, rfl, rfl⟩, k⟩
    · rintro e w' ⟨k, m, u, hR, rfl, hm, hb⟩
      exact ⟨_, rfl, .inr ⟨by omega, m, u, rfl, hb, .inr (.inl ⟨hk, hR⟩)⟩, k.nil, by unfold cnt; rw [if_neg hn]; exact h.hq.keep k (by simp)⟩
  · refine (call_panic 7 _ (fun u => ∃ x f, u = bErr x f ∧ x.natAbs < 10 ^ 19) [] w (by simp) (en7 _) fun w1 k => (clo7_4 p q a b n s w1 (h.keep k) hk).mono ?_).mono ?_
    · rintro e w' ⟨⟨x, f, rfl, hx⟩, k⟩; exact ⟨⟨_, _, rfl, x, f, rfl, hx⟩, k⟩
    · rintro e w' ⟨k, m, u, hR, rfl, hm, hb⟩
      exact ⟨_, rfl, .inr ⟨by omega, m, u, rfl, hb, .inr (.inr ⟨hk, hR⟩)⟩, k.nil, by unfold cnt; rw [if_neg hn]; exact h.hq.keep k (by simp)⟩

/-! ### up -/
theorem en15 (cap : Array Value) (w : World) : (callFunc 15 cap).run Tryd.prog w = .ok (.enter 15 cap) w := by
  have hb : Tryd.f15.body.isSome = true := by kernel_rfl
  obtain ⟨c, hc⟩ := Option.isSome_iff_exists.1 hb
  have hn : (Tryd.f15.name == "runtime.NumGoroutine") = false := by kernel_rfl
  simp only [beq_eq_false_iff_ne] at hn
  simp [callFunc, Tryd.func15, hc, hn]
theorem clo15 (w : World) : Calls Tryd.prog 15 #[] w fun e w' => e = .panicked [{ v := .iface 42 (.int .i64 5), recovered := false }] ∧ w' = w := by
  go_enter Tryd.func15, Tryd.ntmps15
  go_wp2_with (go_at_call 16; refine (c_throw _ _ _).mono ?_; rintro e w' ⟨rfl, rfl⟩)
  exact ⟨rfl, rfl, rfl⟩
theorem c_up (W : World) (K : Bool × Unit → World → Prop) (hK : ∀ W', Keeps [] W W' → K (true, ()) W') : callG Tryd.prog 5 [] [.one .bool] W K := by
  refine call5 W K ?_
  unfold G5
  refine (call_panic 15 #[] (fun u => u = .iface 42 (.int .i64 5)) [] W (by simp) (en15 _) fun w1 k => (clo15 w1).mono ?_).mono ?_
  · rintro e w' ⟨rfl, rfl⟩
    exact ⟨⟨_, _, rfl, rfl⟩, Keeps.refl _ _⟩
  rintro e w1 ⟨k1, m, u, rfl, rfl, hm, hb⟩
  refine ⟨(_, ()), rfl, (call_nil w1).mono ?_⟩
  rintro e w2 ⟨rfl, k2⟩
  refine ⟨(_, ()), rfl, ?_⟩
  have hb2 := hb.keep k2 (by simp)
  refine callG_i (true, ()) (c_is m 5 true w2 ?_) fun W6 hW => by subst hW; exact ifB_t rfl (er_int (by rw [show ((11 : Int) == 11) = true from rfl]; exact hK _ (k1.trans k2)))
  exact is_code m 5 5 w2 (un_code _ _ _ (hb2.cell 0))
/-! ### Get -/
theorem en22 (cap : Array Value) (w : World) : (callFunc 22 cap).run Tryd.prog w = .ok (.enter 22 cap) w := by
  have hb : Tryd.f22.body.isSome = true := by kernel_rfl
  obtain ⟨c, hc⟩ := Option.isSome_iff_exists.1 hb
  have hn : (Tryd.f22.name == "runtime.NumGoroutine") = false := by kernel_rfl
  simp only [beq_eq_false_iff_ne] at hn
  simp [callFunc, Tryd.func22, hc, hn]
def f14 (p q : Nat) : Value := .func (.func 14) #[] #[.pointer (some ⟨p, 0, none⟩), .pointer (some ⟨q, 0, none⟩)]
theorem clo22_p (f r p q : Nat) (es : List PanicEntry → Prop) (S : List Nat) (w : World) (hf : Blk w f [f14 p q] 39) (h : Calls Tryd.prog 14 #[.pointer (some ⟨p, 0, none⟩), .pointer (some ⟨q, 0, none⟩)] w fun e w' => (∃ l, e = .panicked l ∧ es l) ∧ Keeps S w w') :
    Calls Tryd.prog 22 #[.pointer (some ⟨f, 0, none⟩), .pointer (some ⟨r, 0, none⟩)] w fun e w' => (∃ l, e = .panicked l ∧ es l) ∧ Keeps S w w' := by
  have hc : w.cell? ⟨f, 0, none⟩ = some (.func (.func 14) #[] #[.pointer (some ⟨p, 0, none⟩), .pointer (some ⟨q, 0, none⟩)]) := hf.cell 0
  have hg := en14
  go_enter Tryd.func22, Tryd.ntmps22
  go_wp2_with (go_at_call 14; refine h.mono ?_; rintro e w1 ⟨⟨l, rfl, he⟩, hk⟩)
  exact ⟨rfl, ⟨l, rfl, he⟩, hk⟩
theorem clo22_r (f r p q : Nat) (n : Int) (w : World) (hf : Blk w f [f14 p q] 39) (hr : Blk w r [.int .i64 0] 3) (hq : q < w.heap.size) (hrq : r ≠ q) (h : Calls Tryd.prog 14 #[.pointer (some ⟨p, 0, none⟩), .pointer (some ⟨q, 0, none⟩)] w fun e w' => e = .returned (.int .i64 7) ∧ Keeps [q] w w' ∧ Blk w' q [.int .i64 n] 3) :
    Calls Tryd.prog 22 #[.pointer (some ⟨f, 0, none⟩), .pointer (some ⟨r, 0, none⟩)] w fun e w' => e = .returned (.tuple #[]) ∧ Keeps [q, r] w w' ∧ Blk w' q [.int .i64 n] 3 ∧ Blk w' r [.int .i64 7] 3 := by
  have hc : w.cell? ⟨f, 0, none⟩ = some (.func (.func 14) #[] #[.pointer (some ⟨p, 0, none⟩), .pointer (some ⟨q, 0, none⟩)]) := hf.cell 0
  have hg := en14
  go_enter Tryd.func22, Tryd.ntmps22
  go_wp2_with (go_at_call 14; refine h.mono ?_; rintro e w1 ⟨rfl, hk, hb⟩; have hr1 := hr.keep hk (by simpa using hrq); have c1 : w1.cell? ⟨r, 0, none⟩ = some (.int .i64 0) := hr1.cell 0; have f1 : w1.frozen? ⟨r, 0, none⟩ = false := hr1.frz 0 none)
  have k2 := setCell_keeps (W := w1) (b := r) (i := 0) (v := .int .i64 7) (S := [r]) (by simp) none
  exact bodyPost_end (results_none rfl _ _ _) rfl ⟨rfl, (hk.mono (by simp)).trans (k2.mono (by simp)), hb.keep k2 (by simpa using fun h => hrq h.symm), hr1.set 0 _⟩
end Go.Proofs.YtabeehbgoljddaaDoor
set_option linter.unusedSimpArgs false
set_option linter.unusedVariables false
set_option maxRecDepth 20000
namespace Go.Proofs.YtabeehbgoljddaaDoor
open Go Go.RowKit Go.Gp
theorem blk_cells {W : World} {b : Nat} {cs : List Value} {t : TypeId} (h : Blk W b cs t) : cellsAt W ⟨b, 0, none⟩ 0 cs :=
  cellsAt_of cs 0 fun j v hv => by rw [addr_add]; have := h.cell j; rw [hv] at this; simpa using this
theorem blk_ne {W : World} {a b : Nat} {cs ds : List Value} {t u : TypeId} (h : Blk W a cs t) (k : Blk W b ds u) (hn : t ≠ u) : a ≠ b := by
  intro e; subst e
  have h1 : W.heap[a]? = some (.cells ⟨cs⟩ t) := h
  have h2 : W.heap[a]? = some (.cells ⟨ds⟩ u) := k
  rw [h1] at h2
  injection h2 with h2; injection h2 with _ h3; exact hn h3
def gcnt (a : Int) : Int := if pickN a < 2 then 7 else 0
theorem c_get (p q : Nat) (a b n : Int) (s : ByteArray) (W : World) (K : Int × Value × Unit → World → Prop) (h : WB W p q a b n s) (hp : 0 ≤ pickN a ∧ pickN a < 5) (hK : ∀ W' v, Gave W W' q a b n s v → K (gcnt a, v, ()) W') : G13 (f14 p q) W K := by
  unfold G13
  rw [show ∀ A : Prop, oneC (f14 p q) A = A from fun A => by simp [oneC, f14, Value.oneCell']]
  refine new_blk fun f W1 e1 k1 B1 => new_blk fun r W2 e2 k2 B2 => ?_
  have k12 : Keeps [] W W2 := k1.trans k2
  have h2 := h.keep k12
  have B1' := B1.keep k2 (by simp)
  refine ld_any (n := f14 p q) (B1'.cell 0) ⟨false, W2, by kernel_rfl, ifB_f rfl ?_⟩
  have hrq : r ≠ q := fun e => by have := h.hq.lt; have := k1.size; omega
  have hqW : q < W.heap.size := h.hq.lt
  have old : ∀ S W', Keeps S W2 W' → (∀ b ∈ S, b = q ∨ b = r) → Keeps [q] W W' := fun S W' k hb => k12.nil.trans' k fun b hb' => by
    rcases hb b hb' with rfl | rfl
    · simp
    · right; have := k1.size; omega
  rcases (show pickN a < 2 ∨ pickN a = 2 ∨ pickN a = 3 ∨ pickN a = 4 by omega) with hk | hk | hk | hk
  · refine (call_ret 22 #[.pointer (some ⟨f, 0, none⟩), .pointer (some ⟨r, 0, none⟩)] [q, r] (fun w' => Blk w' q [.int .i64 (wrap64 (n + 1))] 3 ∧ Blk w' r [.int .i64 7] 3) W2 (by simp; exact ⟨h2.hq.lt, B2.lt⟩) (en22 _) (fun w1 k => (clo22_r f r p q _ w1 (B1'.keep k (by simp)) (B2.keep k (by simp)) (h2.keep k).hq.lt hrq (clo14_0 p q a b n s w1 (h2.keep k) hk)).mono fun e w' h => h) fun w1 w2 hh h3 => ⟨blk_old hh.1 h2.hq.lt h3, blk_old hh.2 B2.lt h3⟩).mono ?_
    rintro e w' ⟨rfl, k, hb, hr⟩
    refine ⟨(.nilIface, ()), rfl, rfl, ifB_f rfl (ld_int (hr.cell 0) ?_)⟩
    have := hK w' .nilIface ⟨.inl ⟨hk, rfl⟩, old _ _ k (by simp), by unfold cnt; rw [if_pos hk]; exact hb⟩
    rwa [gcnt, if_pos hk] at this
  all_goals
    have hn : ¬ pickN a < 2 := by omega
  · refine (call_panic 22 #[.pointer (some ⟨f, 0, none⟩), .pointer (some ⟨r, 0, none⟩)] (fun u : Value => u = .iface 42 (.int .i64 b)) [] W2 (by simp) (en22 _) fun w1 k => (clo22_p f r p q (fun l => ∃ t x, l = [{ v := .iface t x, recovered := false }] ∧ (fun u : Value => u = .iface 42 (.int .i64 b)) (.iface t x)) [] w1 (B1'.keep k (by simp)) ((clo14_2 p q a b n s w1 (h2.keep k) hk).mono ?_)).mono ?_).mono ?_
    · rintro e w' ⟨rfl, k⟩; exact ⟨⟨_, rfl, _, _, rfl, rfl⟩, k⟩
    · rintro e w' ⟨⟨l, rfl, t, x, rfl, hx⟩, k⟩; exact ⟨⟨t, x, rfl, hx⟩, k⟩
    · rintro e w' ⟨k, m, u, hR, rfl, hm, hb⟩
      refine ⟨(.iface 45 (.pointer (some ⟨m, 0, none⟩)), ()), rfl, rfl, ifB_t rfl ?_⟩
      have := hK w' _ ⟨.inr ⟨by omega, m, u, rfl, hb, .inl ⟨hk, hR⟩⟩, old _ _ k (by simp), by unfold cnt; rw [if_neg hn]; exact h2.hq.keep k (by simp)⟩
      rwa [gcnt, if_neg hn] at this
  · refine (call_panic 22 #[.pointer (some ⟨f, 0, none⟩), .pointer (some ⟨r, 0, none⟩)] (fun u : Value => u = .iface 9 (.string s)) [] W2 (by simp) (en22 _) fun w1 k => (clo22_p f r p q (fun l => ∃ t x, l = [{ v := .iface t x, recovered := false }] ∧ (fun u : Value => u = .iface 9 (.string s)) (.iface t x)) [] w1 (B1'.keep k (by simp)) ((clo14_3 p q a b n s w1 (h2.keep k) hk).mono ?_)).mono ?_).mono ?_
    · rintro e w' ⟨rfl, k⟩; exact ⟨⟨_, rfl, _, _, rfl, rfl⟩, k⟩
    · rintro e w' ⟨⟨l, rfl, t, x, rfl, hx⟩, k⟩; exact ⟨⟨t, x, rfl, hx⟩, k⟩
    · rintro e w' ⟨k, m, u, hR, rfl, hm, hb⟩
      refine ⟨(.iface 45 (.pointer (some ⟨m, 0, none⟩)), ()), rfl, rfl, ifB_t rfl ?_⟩
      have := hK w' _ ⟨.inr ⟨by omega, m, u, rfl, hb, .inr (.inl ⟨hk, hR⟩)⟩, old _ _ k (by simp), by unfold cnt; rw [if_neg hn]; exact h2.hq.keep k (by simp)⟩
      rwa [gcnt, if_neg hn] at this
  · refine (call_panic 22 #[.pointer (some ⟨f, 0, none⟩), .pointer (some ⟨r, 0, none⟩)] (fun u : Value => ∃ x f, u = bErr x f ∧ x.natAbs < 10 ^ 19) [] W2 (by simp) (en22 _) fun w1 k => (clo22_p f r p q (fun l => ∃ t x, l = [{ v := .iface t x, recovered := false }] ∧ (fun u : Value => ∃ x f, u = bErr x f ∧ x.natAbs < 10 ^ 19) (.iface t x)) [] w1 (B1'.keep k (by simp)) ((clo14_4 p q a b n s w1 (h2.keep k) hk).mono ?_)).mono ?_).mono ?_
    · rintro e w' ⟨⟨x, f, rfl, hx⟩, k⟩; exact ⟨⟨_, rfl, _, _, rfl, x, f, rfl, hx⟩, k⟩
    · rintro e w' ⟨⟨l, rfl, t, x, rfl, hx⟩, k⟩; exact ⟨⟨t, x, rfl, hx⟩, k⟩
    · rintro e w' ⟨k, m, u, hR, rfl, hm, hb⟩
      refine ⟨(.iface 45 (.pointer (some ⟨m, 0, none⟩)), ()), rfl, rfl, ifB_t rfl ?_⟩
      have := hK w' _ ⟨.inr ⟨by omega, m, u, rfl, hb, .inr (.inr ⟨hk, hR⟩)⟩, old _ _ k (by simp), by unfold cnt; rw [if_neg hn]; exact h2.hq.keep k (by simp)⟩
      rwa [gcnt, if_neg hn] at this

theorem c_calls (a b : Int) (s : ByteArray) (W : World) (K : Bool × Unit → World → Prop) (hg : GW W) (a0 : -9223372036854775808 ≤ a) (a1 : a ≤ 9223372036854775807) (b0 : -9223372036854775808 ≤ b) (b1 : b ≤ 9223372036854775807) (hK : ∀ W', Keeps [] W W' → K (true, ()) W') : callG Tryd.prog 4 [.agg #[.int .i64 a, .int .i64 b, .string s]] [.one .bool] W K := by
  refine call4 a b s W K ?_
  unfold G4
  have hp := pick_lt a0 a1
  refine new_blk fun p W1 e1 k1 B1 => c_up W1 _ fun W2 k2 => new_blk fun q W3 e3 k3 B3 => st_blk B3 (by simp) ?_
  have k4 := setCell_keeps (W := W3) (b := q) (i := 0) (v := .int .i64 0) (S := [q]) (by simp) none
  have k04 : Keeps [] W (W3.setCell ⟨q, 0, none⟩ (.int .i64 0)) := ((k1.trans k2).trans k3).push k4 (by simp; have := (k1.trans k2).size; omega)
  generalize hW4 : W3.setCell ⟨q, 0, none⟩ (.int .i64 0) = W4 at *
  have hpq : p ≠ q := fun e => by have := B1.lt; have := k2.size; omega
  have q4 : Blk W4 q [.int .i64 0] 3 := by subst hW4; exact B3.set 0 _
  have p4 : Blk W4 p [.int .i64 a, .int .i64 b, .string s] 26 := ((B1.keep k2 (by simp)).keep k3 (by simp)).keep k4 (by simpa using hpq)
  have hg4 := hg.keep k04 (by simp) (by simp)
  have ne0 : 0 ∉ [q] ∧ 1 ∉ [q] := by
    obtain ⟨tab, _, _, h⟩ := hg.tab
    have := h.lt
    have := (k1.trans k2).size
    constructor <;> simp <;> omega
  refine (callT12 p q a b 0 s W4 ⟨p4, q4⟩ hp).mono ?_
  rintro e W5 ⟨v, rfl, t5, k5, q5⟩
  have p5 := p4.keep k5 (by simpa using hpq)
  have hg5 := hg4.keep k5 ne0.1 ne0.2
  refine ⟨(v, ()), rfl, call13 _ W5 _ (c_get p q a b _ s W5 _ ⟨p5, q5⟩ hp fun W6 u h6 => ?_)⟩
  obtain ⟨t6, k6, q6⟩ := h6
  have p6 := p5.keep k6 (by simpa using hpq)
  have hg6 := hg5.keep k6 ne0.1 ne0.2
  have t56 : Trp W6 a b s v := t5.keep k6 fun m u hm => by simpa using blk_ne hm q5 (by decide)
  refine ldN_intro (a, b, s, ()) (blk_cells p6) (call10 a b s _ W6 _ (c_told a b s v W6 _ hg6 t56 b0 b1 fun W7 k7 => ifB_f rfl ?_))
  have p7 := p6.keep k7 (by simp)
  have q7 := q6.keep k7 (by simp)
  have hg7 := hg6.keep k7 (by simp) (by simp)
  refine ldN_intro (a, b, s, ()) (blk_cells p7) (call10 a b s _ W7 _ (c_told a b s u W7 _ hg7 (t6.keep k7 (by simp)) b0 b1 fun W8 k8 => ifB_f rfl ?_))
  have p8 := p7.keep k8 (by simp)
  have q8 := q7.keep k8 (by simp)
  refine ld_int (p8.cell 0) (callG_i (pickN a, ()) (c_pick a W8) fun W' hW => ?_)
  subst hW
  have kF : Keeps [] W W' := (k04.trans' (k5.trans k6) fun b hb => by simp at hb; subst hb; right; have := (k1.trans k2).size; omega).trans (k7.trans k8)
  refine ifD (fun hk => ifB_t rfl (ld_int (q8.cell 0) (ifB_t ?_ ?_))) fun hk => ifB_t rfl (ld_int (q8.cell 0) (ifB_t ?_ ?_))
  · simp only [cnt, if_pos hk, wrap64]; decide
  · simp only [gcnt, if_pos hk]; exact hK _ kF
  · simp only [cnt, if_neg hk]; decide
  · simp only [gcnt, if_neg hk]; exact hK _ kF
end Go.Proofs.YtabeehbgoljddaaDoor
set_option linter.unusedSimpArgs false
set_option linter.unusedVariables false
set_option maxRecDepth 20000
namespace Go.Proofs.YtabeehbgoljddaaDoor
open Go Go.RowKit Go.Gp
theorem own_ne {W : World} {B e size m : Nat} {s : Sl} {xs cs : List Value} {t : TypeId} (h : OwnS W B e size s xs) (k : Blk W m cs t) (hn : t ≠ e) : m ∉ sblk s := by
  intro hm
  rcases h.2 with ⟨h0, _⟩ | ⟨g, cap, cur, hv, hb, hg, _⟩
  · injection h0 with h1
    unfold sblk at hm; rw [h1] at hm; simp at hm
  · injection hv with h1
    unfold sblk at hm; rw [h1] at hm
    simp only [List.mem_singleton] at hm
    subst hm
    have h2 : W.heap[m]? = some (.cells ⟨cs⟩ t) := k
    rw [hg] at h2
    injection h2 with h2; injection h2 with _ h3; exact hn h3.symm
def f7 (q p : Nat) : Value := .func (.func 7) #[] #[.pointer (some ⟨p, 0, none⟩), .pointer (some ⟨q, 0, none⟩)]
abbrev Wy := Int × Int × ByteArray
def wcells (w : Wy) : List Value := [.int .i64 w.1, .int .i64 w.2.1, .string w.2.2]
def cntAll (ws : List Wy) (n : Int) : Int := ws.foldl (fun n w => cnt w.1 n) n
theorem cntAll_snoc (ws : List Wy) (w : Wy) (n : Int) : cntAll (ws ++ [w]) n = cnt w.1 (cntAll ws n) := by simp [cntAll]
theorem take_snoc {α : Type} {l : List α} {j : Nat} {x : α} (h : l[j]? = some x) : l.take (j + 1) = l.take j ++ [x] := by
  have hj : j < l.length := (List.getElem?_eq_some_iff.1 h).1
  rw [List.take_add_one, h]; rfl
theorem get_lt {α : Type} {l : List α} {j : Nat} (h : j < l.length) : ∃ x, l[j]? = some x := ⟨_, List.getElem?_eq_getElem h⟩
theorem inf34 : ∃ i, Tryd.prog.info? 34 = some i ∧ i.zero = some .nilIface ∧ i.size = 1 ∧ i.bytes = 16 := by
  have h : (Tryd.prog.info? 34).map (fun i => (i.zero, i.size, i.bytes)) = some (some .nilIface, 1, 16) := by kernel_rfl
  obtain ⟨i, h1, h2⟩ := Option.map_eq_some_iff.1 h
  injection h2 with h2 h3; injection h3 with h3 h4
  exact ⟨i, h1, h2, h3, h4⟩
theorem inf1 : ∃ i, Tryd.prog.info? 1 = some i ∧ i.zero = some .nilFunc ∧ i.size = 1 ∧ i.bytes = 8 := by
  have h : (Tryd.prog.info? 1).map (fun i => (i.zero, i.size, i.bytes)) = some (some .nilFunc, 1, 8) := by kernel_rfl
  obtain ⟨i, h1, h2⟩ := Option.map_eq_some_iff.1 h
  injection h2 with h2 h3; injection h3 with h3 h4
  exact ⟨i, h1, h2, h3, h4⟩
theorem u30 : Tryd.prog.underlying 30 = some (.slice 34) := by kernel_rfl
theorem u24 : Tryd.prog.underlying 24 = some (.slice 1) := by kernel_rfl
theorem Gave.ifc {w w' : World} {q : Nat} {a b n : Int} {s : ByteArray} {v : Value} (h : Gave w w' q a b n s v) : v = .nilIface ∨ ∃ p, v = .iface 45 (.pointer p) := by
  rcases h.tr with ⟨_, rfl⟩ | ⟨_, m, u, rfl, _⟩
  · exact .inl rfl
  · exact .inr ⟨_, rfl⟩
theorem fill_v (v : Value) (K : Array Value → Prop) (hv : v = .nilIface ∨ ∃ p, v = .iface 45 (.pointer p)) (hk : K #[v]) : fillS 1 #[.nilIface] 1 [(0, v)] K := by
  rcases hv with rfl | ⟨p, rfl⟩
  · rw [show fillS 1 #[.nilIface] 1 [(0, .nilIface)] K = K #[.nilIface] from by kernel_rfl]; exact hk
  · rw [show fillS 1 #[.nilIface] 1 [(0, .iface 45 (.pointer p))] K = K #[.iface 45 (.pointer p)] from by kernel_rfl]; exact hk
theorem one_v {v : Value} (hv : v = .nilIface ∨ ∃ p, v = .iface 45 (.pointer p)) : v.oneCell' = true := by
  rcases hv with rfl | ⟨p, rfl⟩ <;> simp [Value.oneCell']
structure EachI (W : World) (s : Sl) (q : Nat) (n : Int) (ps : List Nat) (ws : List Wy) (v : Sl × Sl × Int × Int × Unit) (W' : World) (j : Nat) (vs : List Value) : Prop where
  e : v = (v.1, s, ((s.len : Nat) : Int), (j : Int), ())
  jl : j ≤ ws.length
  l : vs.length = j
  o : OwnS W' W.heap.size 34 1 v.1 vs
  k : Keeps [q] W W'
  hq : Blk W' q [.int .i64 (cntAll (ws.take j) n)] 3
  t : ∀ (i : Nat) (x : Value) (w : Wy), vs[i]? = some x → ws[i]? = some w → Trp W' w.1 w.2.1 w.2.2 x
theorem c_each (s : Sl) (q : Nat) (n : Int) (ps : List Nat) (ws : List Wy) (W : World) (K : Sl × Unit → World → Prop) (hs : Rs W 1 s (ps.map (f7 q))) (hl : ws.length = ps.length) (hqs : q ∉ sblk s)
    (hb : ∀ (i p : Nat) (w : Wy), ps[i]? = some p → ws[i]? = some w → Blk W p (wcells w) 26) (hq : Blk W q [.int .i64 n] 3) (hwp : ∀ w ∈ ws, 0 ≤ pickN w.1 ∧ pickN w.1 < 5) (h100 : ws.length ≤ 100)
    (hK : ∀ W' r vs, Rs W' 1 r vs → vs.length = ws.length → (∀ (i : Nat) (x : Value) (w : Wy), vs[i]? = some x → ws[i]? = some w → Trp W' w.1 w.2.1 w.2.2 x) → Keeps [q] W W' → Blk W' q [.int .i64 (cntAll ws n)] 3 → K (r, ()) W') :
    callG Tryd.prog 9 [.slice s.a s.len s.cap] [.one .sl] W K := by
  refine call9 s W K ?_
  unfold G9
  have hlen : s.len = ws.length := by have := hs.len; simp at this; omega
  obtain ⟨i34, hi, hz, hsz, hby⟩ := inf34
  refine LoopG.rule (fun v W' => ∃ j vs, EachI W s q n ps ws v W' j vs) (fun v _ => ws.length - v.2.2.2.1.toNat) ⟨0, [], rfl, Nat.zero_le _, rfl, OwnS.nil _ _ _ _, Keeps.refl _ _, hq, by simp⟩ ?_
  rintro v W' ⟨j, vs, hv, hj, hvl, ho, hk, hq', ht⟩ C hC _
  rw [hv]
  dsimp only
  refine ifD (fun hlt => ?_) fun hge => ?_
  · have hjl : j < ws.length := by omega
    obtain ⟨w, hw⟩ := get_lt hjl
    obtain ⟨p, hp⟩ := get_lt (l := ps) (j := j) (by omega)
    obtain ⟨pa, hpa, hc⟩ := hs.at_ j (f7 q p) (by rw [List.getElem?_map, hp]; rfl)
    have hpq : p ≠ q := blk_ne (hb j p w hp hw) hq (by decide)
    rw [hpa]
    refine idx_some (by omega) hlt (ld_any (n := f7 q p) (by
      rw [show (Int.toNat (j : Int) * 1) = j from by simp]
      exact hk.cell hc (by rw [add_block]; unfold sblk at hqs; rw [hpa] at hqs; simpa using fun e => hqs (by simp [e]))) ?_)
    have hwp' := hwp w (List.mem_of_getElem? hw)
    refine (callT7 p q w.1 w.2.1 _ w.2.2 W' ⟨(hb j p w hp hw).keep hk (by simpa using hpq), hq'⟩ hwp').mono ?_
    rintro e W1 ⟨x, rfl, g1⟩
    refine ⟨(x, ()), rfl, fill_v x _ g1.ifc (new_blk fun b W2 e2 k2 B2 => ?_)⟩
    have hqW : q < W.heap.size := hq.lt
    have k1 := g1.k
    have oq : q ∉ sblk v.1 := own_ne ho hq' (by decide)
    have o2 := (ho.keep k1 (fun b hb => by rw [List.mem_singleton]; rintro rfl; exact oq hb)).keep k2 (by simp)
    have hW2 : W.heap.size ≤ W2.heap.size := by have := hk.size; have := k1.size; have := k2.size; omega
    have hvl1 : v.1.len = j := by have := o2.len; omega
    refine app_own u30 hi hz hsz hby rfl (by decide) o2 (m := 1) [x] rfl (fun i u hu => by rw [addr_add, Nat.zero_add, B2.cell]; exact hu) (by simpa using one_v g1.ifc) (by omega) (by omega) hW2 fun r W3 o3 k3 l3 => ?_
    have k23 : ∀ b' cs t, Blk W1 b' cs t → t ≠ 34 → Blk W3 b' cs t := fun b' cs t h ht => (h.keep k2 (by simp)).keep k3 (own_ne o2 (h.keep k2 (by simp)) ht)
    have tk : ∀ a' b' s' v', Trp W1 a' b' s' v' → Trp W3 a' b' s' v' := fun a' b' s' v' h => (h.keep k2 (by simp)).keep k3 fun m u hm => own_ne o2 hm (by decide)
    refine hC _ _ ⟨j + 1, vs ++ [x], ?_, hjl, by simp [hvl], o3, ?_, ?_, ?_⟩ ?_
    · dsimp only
      rw [w64 (by omega) (by omega)]
      simp
    · refine (hk.trans k1).trans' (k2.nil.trans' k3 fun b hb => .inl hb : Keeps (sblk v.1) W1 W3) fun b hb => .inr (ho.lt b hb).1
    · rw [take_snoc hw, cntAll_snoc]
      exact k23 _ _ _ g1.hq (by decide)
    · intro i x' w' hx hw'
      rw [List.getElem?_append] at hx
      split at hx
      · exact tk _ _ _ _ ((ht i x' w' hx hw').keep k1 fun m u hm => by simpa using blk_ne hm hq' (by decide))
      · rename_i hi'
        have : i = j := by
          have := (List.getElem?_eq_some_iff.1 hx).1
          simp at this; omega
        subst this
        rw [hw] at hw'
        injection hw' with hw'
        subst hw'
        rw [hvl, Nat.sub_self] at hx
        simp at hx
        subst hx
        exact tk _ _ _ _ g1.tr
    · dsimp only
      rw [w64 (by omega) (by omega), hv]
      dsimp only
      omega
  · have : j = ws.length := by omega
    subst this
    rw [List.take_length] at hq'
    exact hK W' v.1 vs ho.rs hvl ht hk hq'

/-! ### TrapAll -/
def calmN (ws : List Wy) : Int := ws.foldl (fun n w => if pickN w.1 < 2 then n + 1 else n) 0
theorem calmN_snoc (ws : List Wy) (w : Wy) : calmN (ws ++ [w]) = if pickN w.1 < 2 then calmN ws + 1 else calmN ws := by simp [calmN]
theorem calmN_le (ws : List Wy) (j : Nat) : 0 ≤ calmN (ws.take j) ∧ calmN (ws.take j) ≤ j := by
  induction j with
  | zero => simp [calmN]
  | succ j ih =>
    rcases Nat.lt_or_ge j ws.length with h | h
    · obtain ⟨w, hw⟩ := get_lt h
      rw [take_snoc hw, calmN_snoc]
      split <;> omega
    · rw [List.take_of_length_le (by omega)] at ih ⊢
      omega
theorem cnt_calm (ws : List Wy) (h : ws.length ≤ 100) : cntAll ws 0 = calmN ws := by
  have : ∀ j, j ≤ ws.length → cntAll (ws.take j) 0 = calmN (ws.take j) := by
    intro j
    induction j with
    | zero => intro _; simp [cntAll, calmN]
    | succ j ih =>
      intro hj
      obtain ⟨w, hw⟩ := get_lt (l := ws) (j := j) (by omega)
      have := calmN_le ws j
      rw [take_snoc hw, calmN_snoc, cntAll_snoc, ih (by omega), cnt]
      split
      · simp only [wrap64]; omega
      · rfl
  have := this ws.length (Nat.le_refl _)
  rwa [List.take_length] at this
structure Wys (W : World) (s : Sl) (ws : List Wy) : Prop where
  len : ws.length = s.len
  at_ : ∀ (i : Nat) (w : Wy), ws[i]? = some w → ∃ p, s.a = some p ∧ cellsAt W (p.add (i * 3)) 0 (wcells w)
  ok : ∀ w ∈ ws, (-9223372036854775808 ≤ w.1 ∧ w.1 ≤ 9223372036854775807) ∧ -9223372036854775808 ≤ w.2.1 ∧ w.2.1 ≤ 9223372036854775807
theorem Wys.keep {W W' : World} {s : Sl} {ws : List Wy} (h : Wys W s ws) (k : Keeps [] W W') : Wys W' s ws :=
  ⟨h.len, fun i w hw => let ⟨p, hp, hc⟩ := h.at_ i w hw; ⟨p, hp, k.cells (by simp) _ _ hc⟩, h.ok⟩
structure AllI (W : World) (s : Sl) (q : Nat) (ws : List Wy) (v : Sl × Bool × Addr × Int × Sl × Int × Unit) (W' : World) (j : Nat) (ps : List Nat) : Prop where
  e : v = (s, true, ⟨q, 0, none⟩, calmN (ws.take j), v.2.2.2.2.1, (j : Int), ())
  jl : j ≤ ws.length
  l : ps.length = j
  o : OwnS W' W.heap.size 1 1 v.2.2.2.2.1 (ps.map (f7 q))
  k : Keeps [] W W'
  hq : Blk W' q [.int .i64 0] 3
  b : ∀ (i p : Nat) (w : Wy), ps[i]? = some p → ws[i]? = some w → Blk W' p (wcells w) 26
theorem one_f7 (q p : Nat) : (f7 q p).oneCell' = true := by simp [f7, Value.oneCell']
theorem c_all (s : Sl) (ws : List Wy) (W : World) (K : Bool × Unit → World → Prop) (hg : GW W) (hw : Wys W s ws) (hK : ∀ W', Keeps [] W W' → K (true, ()) W') : callG Tryd.prog 3 [.slice s.a s.len s.cap] [.one .bool] W K := by
  refine call3 s W K ?_
  unfold G3
  have hsl := hw.len
  refine c_up W _ fun W1 k1 => ifD (fun _ => hK _ k1) fun h100 => new_blk fun q W2 e2 k2 B2 => st_blk' B2 (by simp) fun W3 k3 B3 => ?_
  have k03 : Keeps [] W W3 := (k1.trans k2).push k3 (by simp; have := k1.size; omega)
  have B3' : Blk W3 q [.int .i64 0] 3 := B3
  have hq2 : 2 ≤ q := by
    obtain ⟨tab, _, _, h⟩ := hg.tab
    have := h.lt
    have := k1.size
    omega
  obtain ⟨i1, hi, hz, hsz, hby⟩ := inf1
  refine LoopG.rule (fun v W' => ∃ j ps, AllI W3 s q ws v W' j ps) (fun v _ => ws.length - v.2.2.2.2.2.1.toNat) ⟨0, [], rfl, Nat.zero_le _, rfl, OwnS.nil _ _ _ _, Keeps.refl _ _, B3', by simp⟩ ?_
  rintro v W' ⟨j, ps, hv, hj, pl, ho, hk, hq, hb⟩ C hC _
  have hcl := calmN_le ws j
  rw [hv]
  dsimp only
  refine ifD (fun hlt => ?_) fun hge => ?_
  · have hjl : j < ws.length := by omega
    obtain ⟨w, hw'⟩ := get_lt hjl
    obtain ⟨pa, hpa, hc⟩ := hw.at_ j w hw'
    have k0 : Keeps [] W W' := k03.trans hk
    rw [hpa]
    refine idx_some (by omega) hlt (ldN_intro (w.1, w.2.1, w.2.2, ()) (by rw [show Int.toNat (j : Int) * 3 = j * 3 from by simp]; exact k0.cells (by simp) _ _ hc) ?_)
    refine new_blk fun b W4 e4 k4 B4 => st_blk' B4 (by simp) fun W5 k5 B5 => ?_
    rw [addr_add, addr_add]
    refine st_blk' B5 (by simp) fun W6 k6 B6 => st_blk' B6 (by simp) fun W7 k7 B7 => ?_
    have B7' : Blk W7 b (wcells w) 26 := B7
    have kb : Keeps [b] W4 W7 := (k5.trans k6).trans k7
    have k47 : Keeps [] W' W7 := k4.push kb (by simp; omega)
    have hk7 : Keeps [] W3 W7 := hk.trans k47
    have pwr := pick_lt (hw.ok w (List.mem_of_getElem? hw')).1.1 (hw.ok w (List.mem_of_getElem? hw')).1.2
    have o7 := ho.keep k47 (by simp)
    refine JoinG.rule (fun x Wx => x = (s, true, ⟨q, 0, none⟩, calmN (ws.take (j + 1)), v.2.2.2.2.1, (j : Int), ⟨b, 0, none⟩, ()) ∧ Wx = W7) ?_ ?_
    · rintro x Wx ⟨rfl, rfl⟩ _
      refine new_blk fun c W8 e8 k8 B8 => ?_
      have o8 := o7.keep k8 (by simp)
      have hvl : v.2.2.2.2.1.len = j := by have := o8.len; simp at this; omega
      have hW8 : W3.heap.size ≤ W8.heap.size := by have := hk7.size; have := k8.size; omega
      refine app_own u24 hi hz hsz hby rfl (by decide) o8 (m := 1) [f7 q b] rfl (fun i u hu => by rw [addr_add, Nat.zero_add, B8.cell]; exact hu) (by simpa using one_f7 q b) (by omega) (by omega) hW8 fun r W9 o9 k9 l9 => ?_
      have k79 : ∀ b' cs t, Blk Wx b' cs t → t ≠ 1 → Blk W9 b' cs t := fun b' cs t h ht => (h.keep k8 (by simp)).keep k9 (own_ne o8 (h.keep k8 (by simp)) ht)
      refine hC _ _ ⟨j + 1, ps ++ [b], ?_, hjl, by simp [pl], by simpa using o9, ?_, ?_, ?_⟩ ?_
      · dsimp only
        rw [w64 (by omega) (by omega)]
        simp
      · exact (hk7.trans k8).push k9 fun b hb => (o8.lt b hb).1
      · exact k79 _ _ _ (hq.keep k47 (by simp)) (by decide)
      · intro i p' w' hp hw2
        rw [List.getElem?_append] at hp
        split at hp
        · exact k79 _ _ _ ((hb i p' w' hp hw2).keep k47 (by simp)) (by decide)
        · rename_i hi'
          have : i = j := by
            have := (List.getElem?_eq_some_iff.1 hp).1
            simp at this; omega
          subst this
          rw [hw'] at hw2
          injection hw2 with hw2
          subst hw2
          rw [pl, Nat.sub_self] at hp
          simp at hp
          subst hp
          exact k79 _ _ _ B7' (by decide)
      · dsimp only
        rw [w64 (by omega) (by omega), hv]
        dsimp only
        omega
    · intro B11 hB11
      refine ld_int (B7'.cell 0) (callG_i (pickN w.1, ()) (c_pick w.1 W7) fun Wx hWx => ?_)
      subst hWx
      have e1 := calmN_snoc (ws.take j) w
      rw [← take_snoc hw'] at e1
      refine ifD (fun hp => ?_) fun hp => ?_
      · rw [if_pos hp] at e1
        exact hB11 _ _ ⟨by rw [w64 (by omega) (by omega), e1], rfl⟩
      · rw [if_neg hp] at e1
        exact hB11 _ _ ⟨by rw [e1], rfl⟩
  · have : j = ws.length := by omega
    subst this
    rw [List.take_length] at hv hcl ⊢
    have hqs : q ∉ sblk v.2.2.2.2.1 := own_ne ho hq (by decide)
    refine c_each _ q 0 ps ws W' _ ho.rs pl.symm hqs hb hq (fun w h => pick_lt (hw.ok w h).1.1 (hw.ok w h).1.2) (by omega) fun W4 r vs hr hvl ht k4 q4 => ?_
    have hrl : r.len = ws.length := by have := hr.len; omega
    dsimp only
    refine ifN (fun hne => absurd (by rw [hrl, hsl]) hne) fun _ => ld_int (q4.cell 0) (ifN (fun hne => absurd (cnt_calm ws (by omega)) hne) fun _ => ?_)
    have hg4 : GW W4 := (hg.keep (k03.trans hk) (by simp) (by simp)).keep k4 (by simp; omega) (by simp; omega)
    have hw4 : ∀ i w, ws[i]? = some w → ∃ p, s.a = some p ∧ cellsAt W4 (p.add (i * 3)) 0 (wcells w) := fun i w hw' => by
      obtain ⟨p, hp, hc⟩ := hw.at_ i w hw'
      refine ⟨p, hp, k4.cells ?_ _ _ ((k03.trans hk).cells (by simp) _ _ hc)⟩
      have := cell_lt hc.1
      rw [add_block, add_block] at this
      rw [add_block]
      simp
      have := k1.size
      omega
    refine LoopG.rule (fun v W' => ∃ j : Nat, v = (s, true, r, (j : Int), ()) ∧ j ≤ ws.length ∧ Keeps [] W4 W') (fun v _ => ws.length - v.2.2.2.1.toNat) ⟨0, rfl, Nat.zero_le _, Keeps.refl _ _⟩ ?_
    rintro v5 W5 ⟨j, rfl, hj5, k5⟩ C5 hC5 _
    dsimp only
    refine ifD (fun hlt => ?_) fun _ => hK _ (((k03.trans hk).push k4 (by simp; have := k1.size; omega)).trans k5)
    have hjl : j < ws.length := by omega
    obtain ⟨w, hw'⟩ := get_lt hjl
    obtain ⟨pa, hpa, hc⟩ := hw4 j w hw'
    obtain ⟨x, hx⟩ := get_lt (l := vs) (j := j) (by omega)
    obtain ⟨ra, hra, hrc⟩ := hr.at_ j x hx
    refine drw_intro fun W6 k6 _ => ⟨fun w => w = W6, rfl, ?_⟩
    have k46 : Keeps [] W4 W6 := k5.trans k6
    rw [hpa, hra]
    refine idx_some (by omega) hlt (ldNS_eq.2 (ldN_intro (w.1, w.2.1, w.2.2, ()) (by rw [show Int.toNat (j : Int) * 3 = j * 3 from by simp]; exact k46.cells (by simp) _ _ hc) (idx_some (by omega) (by omega) (ldS_eq.2 (ld_any (n := x) (by rw [show Int.toNat (j : Int) * 1 = j from by simp]; exact k46.cell hrc (by simp)) ?_)))))
    have hok := hw.ok w (List.mem_of_getElem? hw')
    refine call10 w.1 w.2.1 w.2.2 x W6 _ (c_told _ _ _ x W6 _ (hg4.keep k46 (by simp) (by simp)) ((ht j x w hx hw').keep k46 (by simp)) hok.2.1 hok.2.2 fun W7 k7 => ifB_f rfl (hC5 _ _ ⟨j + 1, ?_, hjl, k46.trans k7⟩ ?_))
    · rw [w64 (by omega) (by omega)]
      simp
    · dsimp only
      rw [w64 (by omega) (by omega)]
      omega
end Go.Proofs.YtabeehbgoljddaaDoor
set_option linter.unusedSimpArgs false
set_option linter.unusedVariables false
set_option maxRecDepth 100000
namespace Go.Proofs.YtabeehbgoljddaaDoor
open Go Go.RowKit Go.Gp Go.ChangeShapes Go.WideShapes
theorem t_et : Tryd.prog.globalNamed "errors.errorType" = some 0 := by kernel_rfl
theorem t_rt : (Tryd.prog.cutTypes.find? (·.1 == "internal/reflectlite.rtype")).map (·.2) = some 70 := by kernel_rfl
theorem t_row : ((List.range 129).filter fun t => Tryd.prog.rowNamed t [101, 114, 114, 111, 114]) = [34] := by kernel_rfl
theorem t_size : Tryd.prog.types.size = 129 := by kernel_rfl
def LD : List (String × DataW Unit) := [("errors.errorType", Go.Proofs.YtabeehbgoljddaaDoor.Rows.laid_errors_errorType)]
theorem handle_of {W : World} (h : laidMetH Tryd.prog LD W) : W.cell? ⟨0, 0, none⟩ = some (.iface 70 (.agg #[.pointer (some ⟨4, 34, none⟩)])) := by
  have h' : laidMet Tryd.prog [] W ∧ handlesMet Tryd.prog LD W := h
  obtain ⟨name, u, ty, e1, e2, e3, e4, e5⟩ := h'.2 _ (List.mem_singleton.2 rfl)
  have en : name = [101, 114, 114, 111, 114] := (Option.some.inj e1).symm
  subst en
  obtain rfl := Option.some.inj (t_rt.symm.trans e2)
  have hm : ty ∈ (List.range 129).filter fun t => Tryd.prog.rowNamed t [101, 114, 114, 111, 114] := List.mem_filter.2 ⟨List.mem_range.2 (by rw [← t_size]; exact e3), e4⟩
  rw [t_row] at hm
  obtain rfl := List.mem_singleton.1 hm
  have hh : typeHandle Tryd.prog 34 = .pointer (some ⟨4, 34, none⟩) := by kernel_rfl
  rw [hh] at e5
  simpa using World.var?_cell t_et e5 0
noncomputable def laidWorld (os : Os) : World :=
  let w0 := World.holding Tryd.prog os ⟨#[], #[], []⟩
  { w0 with heap := w0.heap.modify 0 fun
      | .cells _ t frozen => .cells #[.iface 70 (.agg #[.pointer (some ⟨4, 34, none⟩)])] t frozen
      | o => o }
theorem laidWorld_met (os : Os) (args : Array Value) : laidMetH Tryd.prog LD ((laidWorld os).forCall (fun _ _ => 0) ⟨#[], args, []⟩).memory :=
  laidMetH_of_parts (laidMet_nil _ _) (by kernel_rfl)
theorem tab_of {w : World} (h : w.ShapedOpen Tryd.prog) : ∃ tab, tab.length = 20 ∧ (∀ v ∈ tab, ∃ y : Int, v = .int .u64 y) ∧ Blk w 1 tab 107 := by
  have h0 : ((begin Tryd.prog (fun _ _ => 0) default).world.heap[1]?).bind Obj.row? = some (Array.replicate 20 (.int .u64 0), 107) := by kernel_rfl
  obtain ⟨cs, hh, hs, hr⟩ := h.1 1 _ 107 (of_decide_eq_true (by kernel_rfl)) h0
  obtain ⟨ts, hts, _, hall⟩ := hr (by kernel_rfl)
  have e : (Tryd.prog.cellTypes Tryd.prog.depth 107).map (fun l => l.all fun t => match Tryd.prog.underlying t with | some (.int .u64) => true | _ => false) = some true := by kernel_rfl
  rw [hts] at e
  injection e with e
  refine ⟨cs.toList, by simpa using hs, fun v hv => ?_, hh⟩
  obtain ⟨i, hi⟩ := List.getElem?_of_mem hv
  obtain ⟨u, hu, hok⟩ := hall i v (by simpa using hi)
  have hu' := List.all_eq_true.1 e u (List.mem_of_getElem? hu)
  split at hu' <;> first | (cases hu'; done) | skip
  rename_i hund
  unfold Cell.ok at hok
  rw [hund] at hok
  cases v <;> simp at hok
  case int k' n => exact ⟨n, by rw [hok.1]⟩
theorem cf26 : cellFields Tryd.prog 26 [3, 3, 9] = true := by kernel_rfl
theorem t_u3 : Tryd.prog.underlying 3 = some (.int .i64) := by kernel_rfl
theorem wf64 {x : Int} (h : (Lit.int .i64 x).wf = true) : -9223372036854775808 ≤ x ∧ x ≤ 9223372036854775807 := by
  have h : (decide (IntKind.i64.min ≤ x) && decide (x ≤ IntKind.i64.max)) = true := h
  simp only [Bool.and_eq_true, decide_eq_true_eq] at h
  have h1 : IntKind.i64.min = -9223372036854775808 := by decide
  have h2 : IntKind.i64.max = 9223372036854775807 := by decide
  omega
/-- A Way's cells. -/
theorem rd_way {W : World} {n : Nat} {cs : List Value} (h : RdT Tryd.prog W n 26 cs) : ∃ w : Wy, cs = wcells w ∧ (-9223372036854775808 ≤ w.1 ∧ w.1 ≤ 9223372036854775807) ∧ -9223372036854775808 ≤ w.2.1 ∧ w.2.1 ≤ 9223372036854775807 := by
  obtain ⟨m, hl, hr⟩ := rd_cells cf26 h
  obtain ⟨x, y, z, rfl⟩ := len3 hl
  obtain ⟨a, rfl, ha⟩ := rd_int t_u3 (hr 0 3 x rfl rfl)
  obtain ⟨b, rfl, hb⟩ := rd_int t_u3 (hr 1 3 y rfl rfl)
  obtain ⟨s, rfl, _⟩ := rd_str uStr9 (hr 2 9 z rfl rfl)
  exact ⟨(a, b, s), rfl, wf64 ha, wf64 hb⟩
theorem u_ways : Tryd.prog.underlying 22 = some (.slice 26) := by kernel_rfl
theorem list_of {α : Type} (n : Nat) (R : Nat → α → Prop) (h : ∀ i, i < n → ∃ x, R i x) : ∃ l : List α, l.length = n ∧ ∀ i x, l[i]? = some x → R i x := by
  induction n with
  | zero => exact ⟨[], rfl, by simp⟩
  | succ n ih =>
    obtain ⟨l, h1, h2⟩ := ih fun i hi => h i (by omega)
    obtain ⟨x, hx⟩ := h n (by omega)
    refine ⟨l ++ [x], by simp [h1], fun i y hy => ?_⟩
    rw [List.getElem?_append] at hy
    split at hy
    · exact h2 i y hy
    · have : i = n := by have := (List.getElem?_eq_some_iff.1 hy).1; simp at this; omega
      subst this
      rw [h1, Nat.sub_self] at hy
      simp at hy
      exact hy ▸ hx
theorem rd_ways {W : World} {n : Nat} {s : Sl} (h : RdT Tryd.prog W n 22 [.slice s.a s.len s.cap]) : ∃ ws, Wys W s ws := by
  obtain ⟨a, len, cap, m, hv, hl, hm, _, hx⟩ := rd_slice u_ways h
  obtain ⟨rfl, rfl, rfl⟩ : s.a = a ∧ s.len = len ∧ s.cap = cap := by injection hv with h1 h2 h3; exact ⟨h1, h2, h3⟩
  have hc : Tryd.prog.cellsOf 26 = 3 := by kernel_rfl
  have each : ∀ i, i < s.len → ∃ w : Wy, (∃ p, s.a = some p ∧ cellsAt W (p.add (i * 3)) 0 (wcells w)) ∧ (-9223372036854775808 ≤ w.1 ∧ w.1 ≤ 9223372036854775807) ∧ -9223372036854775808 ≤ w.2.1 ∧ w.2.1 ≤ 9223372036854775807 := fun i hi => by
    obtain ⟨p, cs, hp, h1, h2⟩ := hx i hi
    obtain ⟨w, rfl, hw⟩ := rd_way h2
    rw [hc] at h1
    exact ⟨w, ⟨p, hp, h1⟩, hw⟩
  obtain ⟨ws, h1, h2⟩ := list_of s.len _ each
  exact ⟨ws, h1, fun i w hw => (h2 i w hw).1, fun w hw => by obtain ⟨i, hi⟩ := List.getElem?_of_mem hw; exact (h2 i w hi).2⟩
end Go.Proofs.YtabeehbgoljddaaDoor
