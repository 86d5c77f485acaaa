/-
  Krp: texts of ours, one behind the other: Tr1, Tr2, Tr3, Tr4, Dtr55, Tr5, Trs, Tr6.
-/
import Derived.Test.YtabeehbgoljddaaDoorProg
import Derived.Test.YtabeehbgoljddaaDoorKk
import Derived.WalkKit
import Derived.Defers
import Derived.Recover
import Derived.Laws.Pointers
import Derived.WalkLawsBesides
import Derived.LaidEql
import Derived.Stop.Asserts
import Derived.RowKitTokens
import GoSem.Extern.RuntimeError
set_option linter.unusedSimpArgs false
set_option linter.unusedVariables false
set_option maxRecDepth 20000
namespace Go.Proofs.YtabeehbgoljddaaDoor
open Go Go.Gp Go.RowKit
def pickN (a : Int) : Int := if a < 0 then (wrap64 (-wrap64 (a + 1))).tmod 5 else a % 5
theorem c_pick (a : Int) (w : World) : Calls Tryd.prog 6 #[.int .i64 a, .int .i64 5] w fun e w' => e = .returned (.int .i64 (pickN a)) ∧ w' = w := by
  by_cases h : a < 0
  · go_enter Tryd.func6, Tryd.ntmps6
    go_wp2
    go_ret
    exact ⟨by unfold pickN; rw [if_pos h]; rfl, rfl⟩
  · go_enter Tryd.func6, Tryd.ntmps6
    go_wp2
    go_ret
    exact ⟨by unfold pickN; rw [if_neg (by omega)]; rfl, rfl⟩
theorem c_throw (t : TypeId) (v : Value) (w : World) : Calls Tryd.prog 16 #[.iface t v] w fun e w' => e = .panicked [{ v := .iface t v, recovered := false }] ∧ w' = w := by
  go_enter Tryd.func16, Tryd.ntmps16
  go_wp2
  exact ⟨rfl, rfl, rfl⟩
theorem goes_2 (a b : Int) (s : ByteArray) (p : Addr) (w : World) (h : pickN a = 2) : Calls Tryd.prog 8 #[.agg #[.int .i64 a, .int .i64 b, .string s], .pointer (some p)] w fun e w' => e = .panicked [{ v := .iface 42 (.int .i64 b), recovered := false }] ∧ Keeps [] w w' := by
  go_enter Tryd.func8, Tryd.ntmps8
  go_wp2_with (first | (go_at_call 6; refine (c_pick a _).mono ?_; rintro e w' ⟨rfl, rfl⟩; rw [h]) | (go_at_call 16; refine (c_throw _ _ _).mono ?_; rintro e w' ⟨rfl, rfl⟩))
  exact ⟨rfl, rfl, alloc_keeps _ _ _⟩
theorem goes_3 (a b : Int) (s : ByteArray) (p : Addr) (w : World) (h : pickN a = 3) : Calls Tryd.prog 8 #[.agg #[.int .i64 a, .int .i64 b, .string s], .pointer (some p)] w fun e w' => e = .panicked [{ v := .iface 9 (.string s), recovered := false }] ∧ Keeps [] w w' := by
  go_enter Tryd.func8, Tryd.ntmps8
  go_wp2_with (first | (go_at_call 6; refine (c_pick a _).mono ?_; rintro e w' ⟨rfl, rfl⟩; rw [h]) | (go_at_call 16; refine (c_throw _ _ _).mono ?_; rintro e w' ⟨rfl, rfl⟩))
  exact ⟨rfl, rfl, alloc_keeps _ _ _⟩
/-- The run-time's error of an index that is out of range. -/
theorem rt8 : Tryd.prog.rt.boundsError = 8 := by kernel_rfl
def bErr (x : Int) (b : Bool) : Value := .iface 8 (.agg #[.int .i64 x, .int .i64 0, .bool b, .int .u8 0])
theorem bp_run (x : Int) (W : World) : ∃ b W', (boundsPanic (α := Value) .i64 x 0 .index).run Tryd.prog W = .halt (.panic (bErr (IntKind.i64.wrap x) b)) W' ∧ Keeps [] W W' := by
  by_cases h : 0 ≤ x ∧ x ≤ 31
  · exact ⟨_, _, by simp [boundsPanic, Question.forced, Question.cut, runtimePanic, goPanic, h.1, h.2, rt8]; rfl, drew_keeps _ _⟩
  · have h' : (decide (0 ≤ x) && decide (x ≤ 31)) = false := by simpa using h
    refine ⟨true, W, ?_, Keeps.refl _ _⟩
    simp [boundsPanic, Question.forced, Question.cut, runtimePanic, goPanic, Bool.and_assoc, h', rt8]
    rfl
theorem uInts44 : Tryd.prog.underlying 44 = some (.slice 3) := by kernel_rfl
theorem ix_nil (x : Int) (W : World) : (Instr.indexAt 44 (.slice none 0 0) (.int .i64 x)).run Tryd.prog W = (boundsPanic (α := Value) .i64 x 0 .index).run Tryd.prog W := by
  simp [Instr.indexAt, run_underlying uInts44, asIntOf]
theorem goes_4 (a b : Int) (s : ByteArray) (p : Addr) (w : World) (h : pickN a = 4) : Calls Tryd.prog 8 #[.agg #[.int .i64 a, .int .i64 b, .string s], .pointer (some p)] w fun e w' => (∃ x f, e = .panicked [{ v := bErr x f, recovered := false }] ∧ x.natAbs < 10 ^ 19) ∧ Keeps [] w w' := by
  obtain ⟨f, W1, hr, hk⟩ := bp_run (s.size : Int) (w.alloc (.cells #[.int .i64 a, .int .i64 b, .string s] 26))
  go_enter Tryd.func8, Tryd.ntmps8
  go_wp2_with (first | (go_at_call 6; refine (c_pick a _).mono ?_; rintro e w' ⟨rfl, rfl⟩; rw [h]) | (go_at_call 16; refine (c_throw _ _ _).mono ?_; rintro e w' ⟨rfl, rfl⟩))
  rw [ix_nil, hr]
  exact ⟨rfl, ⟨_, _, rfl, by rw [IntKind.wrap_i64]; omega⟩, (alloc_keeps _ _ _).trans hk⟩
theorem goes_0 (a b : Int) (s : ByteArray) (q : Nat) (n : Int) (w : World) (h : pickN a < 2) (hq : Blk w q [.int .i64 n] 3) : Calls Tryd.prog 8 #[.agg #[.int .i64 a, .int .i64 b, .string s], .pointer (some ⟨q, 0, none⟩)] w fun e w' => e = .returned (.tuple #[]) ∧ Keeps [q] w w' ∧ Blk w' q [.int .i64 (wrap64 (n + 1))] 3 := by
  have h2 : ¬ pickN a = 2 := by omega
  have h3 : ¬ pickN a = 3 := by omega
  have h4 : ¬ pickN a = 4 := by omega
  have hb := hq.keep (alloc_keeps w (.cells #[.int .i64 a, .int .i64 b, .string s] 26) []) (by simp)
  have hc : (w.alloc (.cells #[.int .i64 a, .int .i64 b, .string s] 26)).cell? ⟨q, 0, none⟩ = some (.int .i64 n) := hb.cell 0
  have hf : (w.alloc (.cells #[.int .i64 a, .int .i64 b, .string s] 26)).frozen? ⟨q, 0, none⟩ = false := hb.frz 0 none
  go_enter Tryd.func8, Tryd.ntmps8
  go_wp2_with (first | (go_at_call 6; refine (c_pick a _).mono ?_; rintro e w' ⟨rfl, rfl⟩) | (go_at_call 16; refine (c_throw _ _ _).mono ?_; rintro e w' ⟨rfl, rfl⟩))
  refine bodyPost_end (results_none rfl _ _ _) rfl ⟨rfl, ?_, ?_⟩
  · exact ((alloc_keeps _ _ _).trans (setCell_keeps (by simp) _))
  · exact hb.set 0 _
/-! ### The closure that catches -/
theorem catch_panicking (p q : Nat) (t : TypeId) (x : Value) (older : List PanicEntry) (w : World) (hp : Blk w p [.bool false] 4) (hq : Blk w q [.nilIface] 34) :
    CallsD Tryd.prog 21 #[.pointer (some ⟨p, 0, none⟩), .pointer (some ⟨q, 0, none⟩)] (.panicking ({ v := .iface t x, recovered := false } :: older)) w fun e u' w' =>
      e = .returned (.tuple #[]) ∧ u' = .panicking ({ v := .iface t x, recovered := true } :: older) ∧ ∃ m, Keeps [q] w w' ∧ Blk w' q [.iface 45 (.pointer (some ⟨m, 0, none⟩))] 34 ∧ w.heap.size ≤ m ∧ Blk w' m [.iface t x] 50 := by
  have hc : w.cell? ⟨p, 0, none⟩ = some (.bool false) := hp.cell 0
  refine callsD_of_wpS Tryd.func21 rfl fun c₀ cs hu => ?_
  apply wpS_seq
  apply wpS_region
  simp [wpOpsS, go_sem, recoverD, hu, Tryd.ntmps21, Exit.thenS]
  apply wpS_seq
  apply wpS_region
  simp [wpOpsS, go_sem, hc, Exit.thenS]
  refine wpS_cond (t := true) (by simp [Act.eval, Array.replicate]) ?_
  simp only [if_true]
  apply wpS_region
  have h1 := alloc_keeps w (.cells #[.iface t x] 50) []
  have hq1 := hq.keep h1 (by simp)
  have hc2 : (w.alloc (.cells #[.iface t x] 50)).cell? ⟨q, 0, none⟩ = some .nilIface := hq1.cell 0
  have hf2 : (w.alloc (.cells #[.iface t x] 50)).frozen? ⟨q, 0, none⟩ = false := hq1.frz 0 none
  simp [wpOpsS, go_sem, bodyPostS, results, Tryd.results21, hc2, hf2]
  refine ⟨(alloc_keeps w _ _).trans (setCell_keeps (by simp) _), _, hq1.set 0 _, Nat.le_refl _, ?_⟩
  have hne : w.heap.size ≠ q := fun e => by have := hq.lt; omega
  exact (alloc_blk w _ _).keep (setCell_keeps (S := [q]) (by simp) _) (by simp [hne])
theorem catch_idle (p q : Nat) (w : World) (hp : Blk w p [.bool true] 4) :
    CallsD Tryd.prog 21 #[.pointer (some ⟨p, 0, none⟩), .pointer (some ⟨q, 0, none⟩)] .returning w fun e u' w' => e = .returned (.tuple #[]) ∧ u' = .returning ∧ w' = w := by
  have hc : w.cell? ⟨p, 0, none⟩ = some (.bool true) := hp.cell 0
  refine callsD_of_wpS Tryd.func21 rfl fun c₀ cs hu => ?_
  apply wpS_seq
  apply wpS_region
  simp [wpOpsS, go_sem, recoverD, hu, Tryd.ntmps21, Exit.thenS]
  apply wpS_seq
  apply wpS_region
  simp [wpOpsS, go_sem, hc, Exit.thenS]
  refine wpS_cond (t := false) (by simp [Act.eval, Array.replicate]) ?_
  simp only [Bool.false_eq_true, if_false]
  refine wpS_of_wp (wp_skip ?_)
  cases c₀
  simp_all [bodyPostS, results, Tryd.results21]
/-! ### Call -/
theorem mk_func (fn : Fn) (first cap : Array Value) (w : World) : (Instr.makeFunc fn first cap).run Tryd.prog w = .ok (.func fn first cap) w := rfl
theorem call_nil (w : World) : Calls Tryd.prog 11 #[.nilFunc] w fun e w' => e = .returned (.iface 42 (.int .i64 11)) ∧ Keeps [] w w' := by
  have hmf := mk_func
  have hnil : ∀ w : World, (binOp BinOp.eql 1 .nilFunc .nilFunc).run Tryd.prog w = .ok (.bool true) w := fun _ => by kernel_rfl
  go_enter_defers Tryd.func11, Tryd.ntmps11
  go_wp2
  simp [bodyPostD, Leaves, settle, results, Tryd.results11, go_sem]
  exact alloc_keeps _ _ _
/-- The world in which Call calls. -/
def boxes (w : World) : World := (w.alloc (.cells #[.nilIface] 34)).alloc (.cells #[.bool false] 4)
theorem boxes_k (w : World) : Keeps [] w (boxes w) := (alloc_keeps _ _ _).trans (alloc_keeps _ _ _)
theorem boxes_e (w : World) : Blk (boxes w) w.heap.size [.nilIface] 34 := (alloc_blk w _ _).keep (alloc_keeps _ _ []) (by simp)
theorem boxes_b (w : World) : Blk (boxes w) (w.heap.size + 1) [.bool false] 4 := by
  have := alloc_blk (w.alloc (.cells #[.nilIface] 34)) #[.bool false] 4
  rw [show (w.alloc (.cells #[.nilIface] 34)).heap.size = w.heap.size + 1 from by simp] at this
  exact this
theorem call_panic (g : FuncId) (cap : Array Value) (R : Value → Prop) (S : List Nat) (w : World) (hS : ∀ b ∈ S, b < w.heap.size) (hg : ∀ w, (callFunc g cap).run Tryd.prog w = .ok (.enter g cap) w) (hf : ∀ w1, Keeps [] w w1 → Calls Tryd.prog g cap w1 fun e w' => (∃ t x, e = .panicked [{ v := .iface t x, recovered := false }] ∧ R (.iface t x)) ∧ Keeps S w1 w') :
    Calls Tryd.prog 11 #[.func (.func g) #[] cap] w fun e w' => Keeps S w w' ∧ ∃ m u, R u ∧ e = .returned (.iface 45 (.pointer (some ⟨m, 0, none⟩))) ∧ w.heap.size ≤ m ∧ Blk w' m [u] 50 := by
  have hmf := mk_func
  have hnil : ∀ w : World, (binOp BinOp.eql 1 (.func (.func g) #[] cap) .nilFunc).run Tryd.prog w = .ok (.bool false) w := fun _ => by kernel_rfl
  go_enter_defers Tryd.func11, Tryd.ntmps11
  go_wp2
  refine (hf _ (boxes_k w)).mono ?_
  rintro e w1 ⟨⟨t, x, rfl, hR⟩, hk⟩
  have n1 : w.heap.size ∉ S := fun h => by have := hS _ h; omega
  have n2 : w.heap.size + 1 ∉ S := fun h => by have := hS _ h; omega
  have he := (boxes_e w).keep hk n1
  have hb := (boxes_b w).keep hk n2
  refine leaves_cons (f := 21) (args := #[.pointer (some ⟨w.heap.size + 1, 0, none⟩), .pointer (some ⟨w.heap.size, 0, none⟩)]) (by simp) (by simp [go_sem]) ?_
  refine (catch_panicking (w.heap.size + 1) w.heap.size t x [] w1 hb he).mono ?_
  rintro e u' w2 ⟨rfl, rfl, m, h1, h2, h3, h4⟩
  have hc : w2.cell? ⟨w.heap.size, 0, none⟩ = some (.iface 45 (.pointer (some ⟨m, 0, none⟩))) := h2.cell 0
  simp [Leaves, settle, results, Tryd.results11, go_sem, hc, -exists_and_left]
  refine ⟨((boxes_k w).nil.trans hk).trans' h1 fun b hb => ?_, _, _, hR, rfl, ?_, h4⟩
  · simp at hb; right; omega
  · have := hk.size; have := (boxes_k w).size; omega
theorem call_ret (g : FuncId) (cap : Array Value) (S : List Nat) (R : World → Prop) (w : World) (hS : ∀ b ∈ S, b < w.heap.size) (hg : ∀ w, (callFunc g cap).run Tryd.prog w = .ok (.enter g cap) w) (hf : ∀ w1, Keeps [] w w1 → Calls Tryd.prog g cap w1 fun e w' => e = .returned (.tuple #[]) ∧ Keeps S w1 w' ∧ R w') (hR : ∀ w1 w2, R w1 → (∀ b, b < w.heap.size → w2.heap[b]? = w1.heap[b]?) → R w2) :
    Calls Tryd.prog 11 #[.func (.func g) #[] cap] w fun e w' => e = .returned .nilIface ∧ Keeps S w w' ∧ R w' := by
  have hmf := mk_func
  have hnil : ∀ w : World, (binOp BinOp.eql 1 (.func (.func g) #[] cap) .nilFunc).run Tryd.prog w = .ok (.bool false) w := fun _ => by kernel_rfl
  go_enter_defers Tryd.func11, Tryd.ntmps11
  go_wp2
  refine (hf _ (boxes_k w)).mono ?_
  rintro e w1 ⟨rfl, hk, hr⟩
  have n1 : w.heap.size ∉ S := fun h => by have := hS _ h; omega
  have n2 : w.heap.size + 1 ∉ S := fun h => by have := hS _ h; omega
  have he := (boxes_e w).keep hk n1
  have hb := (boxes_b w).keep hk n2
  have c1 : w1.cell? ⟨w.heap.size + 1, 0, none⟩ = some (.bool false) := hb.cell 0
  have f1 : w1.frozen? ⟨w.heap.size + 1, 0, none⟩ = false := hb.frz 0 none
  have k2 := setCell_keeps (W := w1) (b := w.heap.size + 1) (i := 0) (v := .bool true) (S := [w.heap.size + 1]) (by simp) none
  have he2 := he.keep k2 (by simp)
  have c2 : (w1.setCell ⟨w.heap.size + 1, 0, none⟩ (.bool true)).cell? ⟨w.heap.size, 0, none⟩ = some .nilIface := he2.cell 0
  have f2 : (w1.setCell ⟨w.heap.size + 1, 0, none⟩ (.bool true)).frozen? ⟨w.heap.size, 0, none⟩ = false := he2.frz 0 none
  go_wp2
  refine leaves_cons (f := 21) (args := #[.pointer (some ⟨w.heap.size + 1, 0, none⟩), .pointer (some ⟨w.heap.size, 0, none⟩)]) (by simp) (by simp [go_sem]) ?_
  have k3 := setCell_keeps (W := w1.setCell ⟨w.heap.size + 1, 0, none⟩ (.bool true)) (b := w.heap.size) (i := 0) (v := .nilIface) (S := [w.heap.size]) (by simp) none
  have hb2 : Blk (w1.setCell ⟨w.heap.size + 1, 0, none⟩ (.bool true)) (w.heap.size + 1) [.bool true] 4 := hb.set 0 _
  have hb3 := hb2.keep k3 (by simp)
  refine (catch_idle (w.heap.size + 1) w.heap.size _ hb3).mono ?_
  rintro e u' w2 ⟨rfl, rfl, rfl⟩
  have c3 : ((w1.setCell ⟨w.heap.size + 1, 0, none⟩ (.bool true)).setCell ⟨w.heap.size, 0, none⟩ .nilIface).cell? ⟨w.heap.size, 0, none⟩ = some .nilIface := (he2.set 0 .nilIface).cell 0
  simp [Leaves, settle, results, Tryd.results11, go_sem, c3]
  have hw1 : w.heap.size ≤ w1.heap.size := Nat.le_trans (boxes_k w).size hk.size
  refine ⟨(((boxes_k w).nil.trans hk).trans' k2 fun b hb => ?_).trans' k3 fun b hb => ?_, hR _ _ hr fun b hb => ?_⟩
  · simp at hb; right; omega
  · simp at hb; right; omega
  · rw [k3.block b (by have := k2.size; omega) (by simp; omega), k2.block b (by omega) (by simp; omega)]
end Go.Proofs.YtabeehbgoljddaaDoor
set_option linter.unusedSimpArgs false
set_option linter.unusedVariables false
set_option maxRecDepth 20000
namespace Go.Proofs.YtabeehbgoljddaaDoor
open Go.RowKit Go.Extern.Stop Go.Stop Go.Extern Go.Gp

theorem Tr.valueOf27 (t : Addr) (w : World) : (ReflectliteValue.unpack (.iface 47 (.pointer (some t)))).run Tryd.prog w
    = .ok (.agg #[.pointer (some ⟨4, 47, none⟩), .pointer (some ⟨w.heap.size, 0, none⟩), .int .u64 150]) (w.alloc (.cells #[.pointer (some t)] 47)) := by kernel_rfl
theorem Tr.type27 (a : Addr) (w : World) : (ReflectliteValue.methodAny (ReflectliteValue.valueError "reflectlite.Value.Type" 0) (fun t _ _ _ => ReflectliteType.toType t) #[.agg #[.pointer (some ⟨4, 47, none⟩), .pointer (some a), .int .u64 150]]).run Tryd.prog w
    = .ok (.iface 70 (.agg #[.pointer (some ⟨4, 47, none⟩)])) w := by kernel_rfl
theorem Tr.methodKind (h : Value) (w : World) : (Go.method 229 70 (.agg #[h]) "Kind").run Tryd.prog w = .ok (46, h) w := by kernel_rfl
theorem Tr.kind27 (w : World) : ((ReflectliteType.abiMethod fun t => (fun a : Nat => Value.int IntKind.u8 (a : Int)) <$> Rtype.kind t) #[.pointer (some ⟨4, 47, none⟩)]).run Tryd.prog w = .ok (.int .u8 22) w := by kernel_rfl
theorem Tr.kind25 (w : World) : ((ReflectliteType.abiMethod fun t => (fun a : Nat => Value.int IntKind.u8 (a : Int)) <$> Rtype.kind t) #[.pointer (some ⟨4, 45, none⟩)]).run Tryd.prog w = .ok (.int .u8 22) w := by kernel_rfl


theorem rlm (z : Sem Value) (f : TypeId → Addr → Nat → Nat → Sem Value) (v : Value) :
    ReflectliteValue.method z f #[v] = (do match ← ReflectliteValue.parts v with | none => z | some (t, a, fl) => f t a fl (fl % 32)) := rfl
theorem Tr.parts27 (a : Addr) (w : World) : (ReflectliteValue.parts (.agg #[.pointer (some ⟨4, 47, none⟩), .pointer (some a), .int .u64 150])).run Tryd.prog w = .ok (some (47, a, 150)) w := by kernel_rfl

theorem Tr.isNil27 (a p : Addr) (W : World) (ha : W.cell? a = some (.pointer (some p))) :
    (ReflectliteValue.method (ReflectliteValue.valueError "reflectlite.Value.IsNil" 0) ReflectliteValue.isNil #[.agg #[.pointer (some ⟨4, 47, none⟩), .pointer (some a), .int .u64 150]]).run Tryd.prog W = .ok (.bool false) W := by
  rw [rlm]
  simp only [Sem.run_bind, Tr.parts27, Result.andThen]
  simp [ReflectliteValue.isNil, loadVar, isAgg, underlying, Tryd.underlying47, ha, Result.andThen]

theorem Tr.methodElem (h : Value) (w : World) : (Go.method 229 70 (.agg #[h]) "Elem").run Tryd.prog w = .ok (70, .agg #[h]) w := by kernel_rfl
theorem Tr.methodImplements (h : Value) (w : World) : (Go.method 229 70 (.agg #[h]) "Implements").run Tryd.prog w = .ok (71, .agg #[h]) w := by kernel_rfl
theorem Tr.methodAssignableTo (h : Value) (w : World) : (Go.method 229 70 (.agg #[h]) "AssignableTo").run Tryd.prog w = .ok (68, .agg #[h]) w := by kernel_rfl
theorem Tr.elem27 (w : World) : (ReflectliteType.method ReflectliteType.elem #[.agg #[.pointer (some ⟨4, 47, none⟩)]]).run Tryd.prog w = .ok (.iface 70 (.agg #[.pointer (some ⟨4, 45, none⟩)])) w := by kernel_rfl
theorem Tr.implements25 (w : World) : (ReflectliteType.relation "Implements" ReflectliteType.implements_ #[.agg #[.pointer (some ⟨4, 45, none⟩)], .iface 70 (.agg #[.pointer (some ⟨4, 34, none⟩)])]).run Tryd.prog w = .ok (.bool true) w := by kernel_rfl
theorem Tr.typeOf25 (v : Value) (w : World) : (ReflectliteType.typeOf #[.iface 45 v]).run Tryd.prog w = .ok (.iface 70 (.agg #[.pointer (some ⟨4, 45, none⟩)])) w := by kernel_rfl
theorem Tr.assignable25 (w : World) : (ReflectliteType.relation "AssignableTo" ReflectliteType.assignableTo #[.agg #[.pointer (some ⟨4, 45, none⟩)], .iface 70 (.agg #[.pointer (some ⟨4, 45, none⟩)])]).run Tryd.prog w = .ok (.bool true) w := by kernel_rfl
theorem Tr.valueOf25 (e : Addr) (w : World) : (ReflectliteValue.unpack (.iface 45 (.pointer (some e)))).run Tryd.prog w
    = .ok (.agg #[.pointer (some ⟨4, 45, none⟩), .pointer (some ⟨w.heap.size, 0, none⟩), .int .u64 150]) (w.alloc (.cells #[.pointer (some e)] 45)) := by kernel_rfl

theorem Tr.elemOf27 (w : World) : (Rtype.elem? 47).run Tryd.prog w = .ok (some 45) w := by kernel_rfl
theorem Tr.mk25 (p : Addr) (w : World) : (ReflectliteValue.mk 45 p ReflectliteValue.flagAddr).run Tryd.prog w = .ok (.agg #[.pointer (some ⟨4, 45, none⟩), .pointer (some p), .int .u64 406]) w := by kernel_rfl

theorem Tr.elemV27 (a p : Addr) (W : World) (ha : W.cell? a = some (.pointer (some p))) :
    (ReflectliteValue.method (ReflectliteValue.valueError "reflectlite.Value.Elem" 0) ReflectliteValue.elem #[.agg #[.pointer (some ⟨4, 47, none⟩), .pointer (some a), .int .u64 150]]).run Tryd.prog W
      = .ok (.agg #[.pointer (some ⟨4, 45, none⟩), .pointer (some p), .int .u64 406]) W := by
  rw [rlm]
  simp only [Sem.run_bind, Tr.parts27, Result.andThen]
  simp [ReflectliteValue.elem, loadVar, isAgg, underlying, Tryd.underlying47, ha, Result.andThen, Tr.elemOf27, Tr.mk25]
theorem rls (v x : Value) : ReflectliteValue.set #[v, x] = (do
    let (some (dst, a, fl), some (src, b, _)) := (← ReflectliteValue.parts v, ← ReflectliteValue.parts x)
      | unsupported (.noEntry "extern/(internal/reflectlite.Value).Set.zeroValue")
    if fl / ReflectliteValue.flagAddr % 2 == 0 then unsupported (.noEntry "extern/(internal/reflectlite.Value).Set.unaddressable")
    let val ← loadVar src b
    if ← Rtype.directlyAssignable dst src then storeVar dst a val
    else if ← Rtype.implements dst src then
      if (← Rtype.kind src) == 20 then
        match val with
        | .nilIface => unsupported (.noEntry "extern/reflectlite: a nil value of one interface type handed on as a value of another")
        | _ => storeVar dst a val
      else storeVar dst a (.iface src val)
    else panicString ("reflectlite.Set: value of type " ++ (← Rtype.spelt src) ++ " is not assignable to type " ++ (← Rtype.spelt dst))
    pure (.tuple #[])) := rfl
theorem Tr.parts25a (a : Addr) (w : World) : (ReflectliteValue.parts (.agg #[.pointer (some ⟨4, 45, none⟩), .pointer (some a), .int .u64 406])).run Tryd.prog w = .ok (some (45, a, 406)) w := by kernel_rfl
theorem Tr.parts25 (a : Addr) (w : World) : (ReflectliteValue.parts (.agg #[.pointer (some ⟨4, 45, none⟩), .pointer (some a), .int .u64 150])).run Tryd.prog w = .ok (some (45, a, 150)) w := by kernel_rfl
theorem Tr.direct25 (w : World) : (Rtype.directlyAssignable 45 45).run Tryd.prog w = .ok true w := by kernel_rfl
theorem Tr.size25 (w : World) : (sizeOf 45).run Tryd.prog w = .ok 1 w := by kernel_rfl

theorem Tr.set25 (ta b e : Addr) (old : Value) (W : World) (hb : W.cell? b = some (.pointer (some e))) (ht : W.cell? ta = some old) (hf : W.frozen? ta = false) :
    (ReflectliteValue.set #[.agg #[.pointer (some ⟨4, 45, none⟩), .pointer (some ta), .int .u64 406], .agg #[.pointer (some ⟨4, 45, none⟩), .pointer (some b), .int .u64 150]]).run Tryd.prog W
      = .ok (.tuple #[]) (W.setCell ta (.pointer (some e))) := by
  rw [rls]
  simp only [Sem.run_bind, Tr.parts25a, Tr.parts25, Result.andThen]
  simp [ReflectliteValue.flagAddr, loadVar, isAgg, underlying, Tryd.underlying45, hb, Result.andThen, Tr.direct25, storeVar, Value.cells, storeCells, Addr.add]
  rw [run_store Tryd.prog W ta _ _ (by rfl)]
  simp [ht, hf]

set_option maxHeartbeats 4000000 in
theorem as_hit (e t : Addr) (old : Value) (w : World) (hg : w.cell? ⟨0, 0, none⟩ = some (.iface 70 (.agg #[.pointer (some ⟨4, 34, none⟩)]))) (ht0 : w.cell? t = some old) (hf0 : w.frozen? t = false) :
    Calls Tryd.prog 18 #[.iface 45 (.pointer (some e)), .iface 47 (.pointer (some t))] w fun ev w' => ev = .returned (.bool true) ∧ w' = ((((w.alloc (.cells #[.pointer (some t)] 47)).alloc (.cells #[.pointer (some ⟨4, 47, none⟩), .pointer (some ⟨w.heap.size, 0, none⟩), .int .u64 150] 59)).alloc (.cells #[.pointer (some ⟨4, 47, none⟩), .pointer (some ⟨w.heap.size, 0, none⟩), .int .u64 150] 59)).alloc (.cells #[.pointer (some e)] 45)).setCell t (.pointer (some e)) := by
  have h6 := @run_callFunc_extern Tryd.prog 25 _ (fun args => ReflectliteValue.unpack (args.getD 0 (.tuple #[]))) Tryd.func25 (by kernel_rfl) (by kernel_rfl) (by kernel_rfl) (by kernel_rfl)
  have h7 := @run_callFunc_extern Tryd.prog 26 _ (ReflectliteValue.methodAny (ReflectliteValue.valueError "reflectlite.Value.Type" 0) (fun t _ _ _ => ReflectliteType.toType t)) Tryd.func26 (by kernel_rfl) (by kernel_rfl) (by kernel_rfl) (by kernel_rfl)
  have h8 := @run_callFunc_extern Tryd.prog 27 _ (ReflectliteValue.method (ReflectliteValue.valueError "reflectlite.Value.IsNil" 0) ReflectliteValue.isNil) Tryd.func27 (by kernel_rfl) (by kernel_rfl) (by kernel_rfl) (by kernel_rfl)
  have h27 := @run_callFunc_extern Tryd.prog 46 _ (ReflectliteType.abiMethod fun t => do pure (.int .u8 (← Rtype.kind t))) Tryd.func46 (by kernel_rfl) (by kernel_rfl) (by kernel_rfl) (by kernel_rfl)
  have h37 := @run_callFunc_extern Tryd.prog 70 _ (ReflectliteType.method ReflectliteType.elem) Tryd.func70 (by kernel_rfl) (by kernel_rfl) (by kernel_rfl) (by kernel_rfl)
  have h38 := @run_callFunc_extern Tryd.prog 71 _ (ReflectliteType.relation "Implements" ReflectliteType.implements_) Tryd.func71 (by kernel_rfl) (by kernel_rfl) (by kernel_rfl) (by kernel_rfl)
  have h10 := @run_callFunc_extern Tryd.prog 23 _ ReflectliteType.typeOf Tryd.func23 (by kernel_rfl) (by kernel_rfl) (by kernel_rfl) (by kernel_rfl)
  have h35 := @run_callFunc_extern Tryd.prog 68 _ (ReflectliteType.relation "AssignableTo" ReflectliteType.assignableTo) Tryd.func68 (by kernel_rfl) (by kernel_rfl) (by kernel_rfl) (by kernel_rfl)
  have h11 := @run_callFunc_extern Tryd.prog 30 _ (ReflectliteValue.method (ReflectliteValue.valueError "reflectlite.Value.Elem" 0) ReflectliteValue.elem) Tryd.func30 (by kernel_rfl) (by kernel_rfl) (by kernel_rfl) (by kernel_rfl)
  have h12 := @run_callFunc_extern Tryd.prog 31 _ ReflectliteValue.set Tryd.func31 (by kernel_rfl) (by kernel_rfl) (by kernel_rfl) (by kernel_rfl)
  have tO := Tr.typeOf25
  have mA := Tr.methodAssignableTo
  have a25 := Tr.assignable25
  have v25 := Tr.valueOf25
  have f6 := Tr.valueOf27
  have f7 := Tr.type27
  have mK := Tr.methodKind
  have mE := Tr.methodElem
  have mI := Tr.methodImplements
  have k27 := Tr.kind27
  have k25 := Tr.kind25
  have e27 := Tr.elem27
  have i25 := Tr.implements25
  have n8 := Tr.isNil27 ⟨w.heap.size, 0, none⟩ t ((w.alloc (.cells #[.pointer (some t)] 47)).alloc (.cells #[.pointer (some ⟨4, 47, none⟩), .pointer (some ⟨w.heap.size, 0, none⟩), .int .u64 150] 59)) (by simp)
  have hlt : 0 < w.heap.size := by
    rcases Nat.eq_zero_or_pos w.heap.size with h0 | h
    · simp [World.cell?, h0] at hg
    · exact h
  have hg2 : ((w.alloc (.cells #[.pointer (some t)] 47)).alloc (.cells #[.pointer (some ⟨4, 47, none⟩), .pointer (some ⟨w.heap.size, 0, none⟩), .int .u64 150] 59)).cell? ⟨0, 0, none⟩ = some (.iface 70 (.agg #[.pointer (some ⟨4, 34, none⟩)])) := by
    rw [World.cell?_alloc_lt _ _ ⟨0, 0, none⟩ (by simp), World.cell?_alloc_lt _ _ ⟨0, 0, none⟩ hlt]; exact hg
  have htl : t.block < w.heap.size := by
    rcases Nat.lt_or_ge t.block w.heap.size with h | h
    · exact h
    · simp [World.cell?, Array.getElem?_eq_none h] at ht0
  have el := Tr.elemV27 ⟨w.heap.size, 0, none⟩ t (((w.alloc (.cells #[.pointer (some t)] 47)).alloc (.cells #[.pointer (some ⟨4, 47, none⟩), .pointer (some ⟨w.heap.size, 0, none⟩), .int .u64 150] 59)).alloc (.cells #[.pointer (some ⟨4, 47, none⟩), .pointer (some ⟨w.heap.size, 0, none⟩), .int .u64 150] 59)) (by rw [World.cell?_alloc_lt _ _ ⟨w.heap.size, 0, none⟩ (by simp; omega)]; simp)
  have st := Tr.set25 t ⟨w.heap.size + 1 + 1 + 1, 0, none⟩ e old ((((w.alloc (.cells #[.pointer (some t)] 47)).alloc (.cells #[.pointer (some ⟨4, 47, none⟩), .pointer (some ⟨w.heap.size, 0, none⟩), .int .u64 150] 59)).alloc (.cells #[.pointer (some ⟨4, 47, none⟩), .pointer (some ⟨w.heap.size, 0, none⟩), .int .u64 150] 59)).alloc (.cells #[.pointer (some e)] 45))
    (by rw [World.cell?_alloc_at _ _ _ _ (by simp)]; rfl)
    (by rw [World.cell?_alloc_lt _ _ t (by simp; omega), World.cell?_alloc_lt _ _ t (by simp; omega), World.cell?_alloc_lt _ _ t (by simp; omega), World.cell?_alloc_lt _ _ t htl]; exact ht0)
    (by rw [World.frozen?_alloc_old _ _ t (by simp; omega), World.frozen?_alloc_old _ _ t (by simp; omega), World.frozen?_alloc_old _ _ t (by simp; omega), World.frozen?_alloc_old _ _ t (Nat.ne_of_lt htl)]; exact hf0)
  go_enter Tryd.func18, Tryd.ntmps18
  go_wp2
  refine wp_loop_rounds 1 ?_
  rw [rounds_succ]
  go_wp2
  go_ret
  exact ⟨rfl, rfl⟩

end Go.Proofs.YtabeehbgoljddaaDoor
set_option linter.unusedSimpArgs false
set_option linter.unusedVariables false
set_option maxRecDepth 20000
namespace Go.Proofs.YtabeehbgoljddaaDoor
open Go Go.RowKit Go.Extern.Stop Go.Stop Go.Extern Go.Gp
section
variable (v u : Value) (w : World)
theorem ta42e : (Instr.typeAssert (.iface 42 v) 20 34 true).run Tryd.prog w = .ok (.tuple #[.iface 42 v, .bool true]) w := by kernel_rfl
theorem ta8e : (Instr.typeAssert (.iface 8 v) 20 34 true).run Tryd.prog w = .ok (.tuple #[.iface 8 v, .bool true]) w := by kernel_rfl
theorem ta9e : (Instr.typeAssert (.iface 9 v) 20 34 true).run Tryd.prog w = .ok (.tuple #[.nilIface, .bool false]) w := run_typeAssert_lacksB Tryd.underlying34 (by kernel_rfl) (by kernel_rfl) v 20 w
theorem ta45i : (Instr.typeAssert (.iface 45 v) 34 72 true).run Tryd.prog w = .ok (.tuple #[.nilIface, .bool false]) w := run_typeAssert_lacksB Tryd.underlying72 (by kernel_rfl) (by kernel_rfl) v 34 w
theorem ta42i : (Instr.typeAssert (.iface 42 v) 34 72 true).run Tryd.prog w = .ok (.tuple #[.nilIface, .bool false]) w := run_typeAssert_lacksB Tryd.underlying72 (by kernel_rfl) (by kernel_rfl) v 34 w
theorem ta8i : (Instr.typeAssert (.iface 8 v) 34 72 true).run Tryd.prog w = .ok (.tuple #[.nilIface, .bool false]) w := run_typeAssert_lacksB Tryd.underlying72 (by kernel_rfl) (by kernel_rfl) v 34 w
theorem ta45u : (Instr.typeAssert (.iface 45 v) 34 67 true).run Tryd.prog w = .ok (.tuple #[.iface 45 v, .bool true]) w := by kernel_rfl
theorem ta42u : (Instr.typeAssert (.iface 42 v) 34 67 true).run Tryd.prog w = .ok (.tuple #[.nilIface, .bool false]) w := run_typeAssert_lacksB Tryd.underlying67 (by kernel_rfl) (by kernel_rfl) v 34 w
theorem ta8u : (Instr.typeAssert (.iface 8 v) 34 67 true).run Tryd.prog w = .ok (.tuple #[.nilIface, .bool false]) w := run_typeAssert_lacksB Tryd.underlying67 (by kernel_rfl) (by kernel_rfl) v 34 w
theorem ta42l : (Instr.typeAssert (.iface 42 v) 34 75 true).run Tryd.prog w = .ok (.tuple #[.nilIface, .bool false]) w := run_typeAssert_lacksB Tryd.underlying75 (by kernel_rfl) (by kernel_rfl) v 34 w
theorem ta8l : (Instr.typeAssert (.iface 8 v) 34 75 true).run Tryd.prog w = .ok (.tuple #[.nilIface, .bool false]) w := run_typeAssert_lacksB Tryd.underlying75 (by kernel_rfl) (by kernel_rfl) v 34 w
theorem me45u : (Go.method 229 45 v "Unwrap").run Tryd.prog w = .ok (29, v) w := by kernel_rfl
theorem me70c (h : Value) : (Go.method 229 70 (.agg #[h]) "Comparable").run Tryd.prog w = .ok (69, .agg #[h]) w := by kernel_rfl
theorem me42e : (Go.method 229 42 v "Error").run Tryd.prog w = .ok (49, v) w := by kernel_rfl
theorem me8e (c : Array Value) : (Go.method 229 8 (.agg c) "Error").run Tryd.prog w = .ok (32, .agg c) w := by kernel_rfl
theorem eq4542 : (binOp BinOp.eql 34 (.iface 45 v) (.iface 42 u)).run Tryd.prog w = .ok (.bool false) w := by kernel_rfl
theorem eq842 : (binOp BinOp.eql 34 (.iface 8 v) (.iface 42 u)).run Tryd.prog w = .ok (.bool false) w := by kernel_rfl
theorem eq4242 (a b : Int) : (binOp BinOp.eql 34 (.iface 42 (.int .i64 a)) (.iface 42 (.int .i64 b))).run Tryd.prog w = .ok (.bool (a == b)) w := by kernel_rfl
theorem ty42 : (ReflectliteType.typeOf #[.iface 42 v]).run Tryd.prog w = .ok (.iface 70 (.agg #[.pointer (some ⟨4, 42, none⟩)])) w := by kernel_rfl
end
theorem un_code (m : Addr) (c : Value) (w : World) (h : w.cell? m = some (.iface 42 c)) : Calls Tryd.prog 29 #[.pointer (some m)] w fun e w' => e = .returned (.iface 42 c) ∧ w' = w := by
  have t1 := ta42e
  go_enter Tryd.func29, Tryd.ntmps29
  go_wp2
  go_ret
  exact ⟨rfl, rfl⟩
theorem un_bnd (m : Addr) (c : Value) (w : World) (h : w.cell? m = some (.iface 8 c)) : Calls Tryd.prog 29 #[.pointer (some m)] w fun e w' => e = .returned (.iface 8 c) ∧ w' = w := by
  have t1 := ta8e
  go_enter Tryd.func29, Tryd.ntmps29
  go_wp2
  go_ret
  exact ⟨rfl, rfl⟩
theorem un_str (m : Addr) (c : Value) (w : World) (h : w.cell? m = some (.iface 9 c)) : Calls Tryd.prog 29 #[.pointer (some m)] w fun e w' => e = .returned (.iface 42 (.int .i64 11)) ∧ w' = w := by
  have t1 := ta9e
  go_enter Tryd.func29, Tryd.ntmps29
  go_wp2
  go_ret
  exact ⟨rfl, rfl⟩
/-- What Unwrap gives, at a *Trapped. -/
def UnOk (m : Nat) (r : Value) (w : World) : Prop := Calls Tryd.prog 29 #[.pointer (some ⟨m, 0, none⟩)] w fun e w' => e = .returned r ∧ w' = w
theorem unwrap_ (m : Nat) (r : Value) (w : World) (h : UnOk m r w) : Calls Tryd.prog 20 #[.iface 45 (.pointer (some ⟨m, 0, none⟩))] w fun e w' => e = .returned r ∧ w' = w := by
  have t1 := ta45u
  have m1 := me45u
  go_enter Tryd.func20, Tryd.ntmps20
  go_wp2_with (go_at_call 29; refine h.mono ?_; rintro e w' ⟨rfl, rfl⟩)
  go_ret
  exact ⟨rfl, rfl⟩
theorem is_code (m : Nat) (b c : Int) (w : World) (h : UnOk m (.iface 42 (.int .i64 b)) w) : Calls Tryd.prog 24 #[.iface 45 (.pointer (some ⟨m, 0, none⟩)), .iface 42 (.int .i64 c), .bool true] w fun e w' => e = .returned (.bool (b == c)) ∧ w' = w := by
  have t1 := ta45u
  have t2 := ta45i
  have t3 := ta42i
  have t4 := ta42u
  have t5 := ta42l
  have m1 := me45u
  have e1 := eq4542
  have e2 := eq4242
  cases hbc : (b == c)
  · go_enter Tryd.func24, Tryd.ntmps24
    go_wp2
    refine wp_loop_rounds 2 ?_
    rw [rounds_succ]
    go_wp2_with (go_at_call 29; refine h.mono ?_; rintro e w' ⟨rfl, rfl⟩)
    rw [rounds_succ]
    go_wp2
    go_ret
    exact ⟨rfl, rfl⟩
  · go_enter Tryd.func24, Tryd.ntmps24
    go_wp2
    refine wp_loop_rounds 2 ?_
    rw [rounds_succ]
    go_wp2_with (go_at_call 29; refine h.mono ?_; rintro e w' ⟨rfl, rfl⟩)
    rw [rounds_succ]
    go_wp2
    go_ret
    exact ⟨rfl, rfl⟩
theorem is_bnd (m : Nat) (b : Value) (c : Int) (w : World) (h : UnOk m (.iface 8 b) w) : Calls Tryd.prog 24 #[.iface 45 (.pointer (some ⟨m, 0, none⟩)), .iface 42 (.int .i64 c), .bool true] w fun e w' => e = .returned (.bool false) ∧ w' = w := by
  have t1 := ta45u
  have t2 := ta45i
  have t3 := ta8i
  have t4 := ta8u
  have t5 := ta8l
  have m1 := me45u
  have e1 := eq4542
  have e2 := eq842
  go_enter Tryd.func24, Tryd.ntmps24
  go_wp2
  refine wp_loop_rounds 2 ?_
  rw [rounds_succ]
  go_wp2_with (go_at_call 29; refine h.mono ?_; rintro e w' ⟨rfl, rfl⟩)
  rw [rounds_succ]
  go_wp2
  go_ret
  exact ⟨rfl, rfl⟩
def compE : Array Value → Sem Value := ReflectliteType.method fun t => do Rtype.noPackHeld "Comparable" t; pure (.bool (← typeInfo t).comparable)
theorem c_is (m : Nat) (c : Int) (r : Bool) (w : World) (h : Calls Tryd.prog 24 #[.iface 45 (.pointer (some ⟨m, 0, none⟩)), .iface 42 (.int .i64 c), .bool true] w fun e w' => e = .returned (.bool r) ∧ w' = w) :
    Calls Tryd.prog 17 #[.iface 45 (.pointer (some ⟨m, 0, none⟩)), .iface 42 (.int .i64 c)] w fun e w' => e = .returned (.bool r) ∧ w' = w := by
  have h10 := @run_callFunc_extern Tryd.prog 23 _ ReflectliteType.typeOf Tryd.func23 (by kernel_rfl) (by kernel_rfl) (by kernel_rfl) (by kernel_rfl)
  have h69 := @run_callFunc_extern Tryd.prog 69 _ compE Tryd.func69 (by kernel_rfl) (by kernel_rfl) (by kernel_rfl) (by kernel_rfl)
  have c69 : ∀ w, (compE #[.agg #[.pointer (some ⟨4, 42, none⟩)]]).run Tryd.prog w = .ok (.bool true) w := fun w => by kernel_rfl
  have t1 := ty42
  have m1 := me70c
  go_enter Tryd.func17, Tryd.ntmps17
  go_wp2_with (go_at_call 24; refine h.mono ?_; rintro e w' ⟨rfl, rfl⟩)
  go_ret
  exact ⟨rfl, rfl⟩
end Go.Proofs.YtabeehbgoljddaaDoor
set_option linter.unusedSimpArgs false
set_option linter.unusedVariables false
set_option maxRecDepth 20000
namespace Go.Proofs.YtabeehbgoljddaaDoor
open Go Go.RowKit Go.Gp
theorem uStr9 : Tryd.prog.underlying 9 = some .string := by kernel_rfl
/-- A byte of a text. -/
theorem ix_str (s : ByteArray) (k : IntKind) (z : Int) (h0 : 0 ≤ z) (h1 : z < (s.size : Int)) (w : World) : ∃ u : UInt8, (Instr.index 9 (.string s) (.int k z)).run Tryd.prog w = .ok (.int .u8 (u.toNat : Int)) w := by
  refine ⟨s[z.toNat]'(by omega), ?_⟩
  have h : z.toNat < s.size := by omega
  simp [Instr.index, run_underlying uStr9, asIntOf, h0, h1, Result.andThen, h]
theorem c_log (x : Int) (h0 : 0 ≤ x) (h1 : x ≤ 64) (w : World) : Calls Tryd.prog 57 #[.int .i64 x] w fun e w' => (∃ y : Int, 0 ≤ y ∧ y ≤ 19 ∧ e = .returned (.int .i64 y)) ∧ w' = w := by
  go_enter Tryd.func57, Tryd.ntmps57
  go_wp2
  go_ret
  exact ⟨⟨_, by omega, by omega, rfl⟩, rfl⟩
theorem c_bool2 (b : Bool) (w : World) : Calls Tryd.prog 59 #[.bool b] w fun e w' => e = .returned (.int .i64 (if b then 1 else 0)) ∧ w' = w := by
  cases b
  · go_enter Tryd.func59, Tryd.ntmps59
    go_wp2
    go_ret
    exact ⟨rfl, rfl⟩
  · go_enter Tryd.func59, Tryd.ntmps59
    go_wp2
    go_ret
    exact ⟨rfl, rfl⟩
theorem tab_le (s : ByteArray) (hs : s.data.toList.all (fun b => decide (b.toNat ≤ 8)) = true) (i : Nat) (h : i < s.size) : s[i].toNat ≤ 8 := by
  have := List.all_eq_true.1 hs s[i] (by
    show s.data[i] ∈ s.data.toList
    simp)
  exact of_decide_eq_true this
theorem wr0 (b : UInt8) (h : b.toNat ≤ 8) : 0 ≤ wrap64 (wrap64 (b.toNat : Int)) ∧ wrap64 (wrap64 (b.toNat : Int)) ≤ 64 := by
  simp only [wrap64]; omega
theorem wr1 (c : Int) (b : UInt8) (h0 : 0 ≤ c) (h1 : c ≤ 56) (h : b.toNat ≤ 8) : 0 ≤ wrap64 (c + wrap64 (b.toNat : Int)) ∧ wrap64 (c + wrap64 (b.toNat : Int)) ≤ 64 := by
  simp only [wrap64]; omega
theorem c_len (x : Int) (h0 : 0 ≤ x) (h1 : x < 18446744073709551616) (w : World) : Calls Tryd.prog 58 #[.int .u64 x] w fun e w' => (∃ y : Int, 0 ≤ y ∧ y ≤ 64 ∧ e = .returned (.int .i64 y)) ∧ w' = w := by
  by_cases a : x ≥ 4294967296
  · by_cases b : x / 4294967296 ≥ 65536
    · by_cases c : x / 4294967296 / 65536 ≥ 256
      · go_enter Tryd.func58, Tryd.ntmps58
        go_wp2
        go_ret
        exact ⟨⟨_, (wr1 _ _ (by omega) (by omega) (tab_le _ (by decide +kernel) _ _)).1, (wr1 _ _ (by omega) (by omega) (tab_le _ (by decide +kernel) _ _)).2, rfl⟩, rfl⟩
      · go_enter Tryd.func58, Tryd.ntmps58
        go_wp2
        go_ret
        exact ⟨⟨_, (wr1 _ _ (by omega) (by omega) (tab_le _ (by decide +kernel) _ _)).1, (wr1 _ _ (by omega) (by omega) (tab_le _ (by decide +kernel) _ _)).2, rfl⟩, rfl⟩
    · by_cases c : x / 4294967296 ≥ 256
      · go_enter Tryd.func58, Tryd.ntmps58
        go_wp2
        go_ret
        exact ⟨⟨_, (wr1 _ _ (by omega) (by omega) (tab_le _ (by decide +kernel) _ _)).1, (wr1 _ _ (by omega) (by omega) (tab_le _ (by decide +kernel) _ _)).2, rfl⟩, rfl⟩
      · go_enter Tryd.func58, Tryd.ntmps58
        go_wp2
        go_ret
        exact ⟨⟨_, (wr1 _ _ (by omega) (by omega) (tab_le _ (by decide +kernel) _ _)).1, (wr1 _ _ (by omega) (by omega) (tab_le _ (by decide +kernel) _ _)).2, rfl⟩, rfl⟩
  · by_cases b : x ≥ 65536
    · by_cases c : x / 65536 ≥ 256
      · go_enter Tryd.func58, Tryd.ntmps58
        go_wp2
        go_ret
        exact ⟨⟨_, (wr1 _ _ (by omega) (by omega) (tab_le _ (by decide +kernel) _ _)).1, (wr1 _ _ (by omega) (by omega) (tab_le _ (by decide +kernel) _ _)).2, rfl⟩, rfl⟩
      · go_enter Tryd.func58, Tryd.ntmps58
        go_wp2
        go_ret
        exact ⟨⟨_, (wr1 _ _ (by omega) (by omega) (tab_le _ (by decide +kernel) _ _)).1, (wr1 _ _ (by omega) (by omega) (tab_le _ (by decide +kernel) _ _)).2, rfl⟩, rfl⟩
    · by_cases c : x ≥ 256
      · go_enter Tryd.func58, Tryd.ntmps58
        go_wp2
        go_ret
        exact ⟨⟨_, (wr1 _ _ (by omega) (by omega) (tab_le _ (by decide +kernel) _ _)).1, (wr1 _ _ (by omega) (by omega) (tab_le _ (by decide +kernel) _ _)).2, rfl⟩, rfl⟩
      · go_enter Tryd.func58, Tryd.ntmps58
        go_wp2
        go_ret
        exact ⟨⟨_, (wr0 _ (tab_le _ (by decide +kernel) _ _)).1, (wr0 _ (tab_le _ (by decide +kernel) _ _)).2, rfl⟩, rfl⟩
theorem c_digits (x : Int) (h0 : 0 ≤ x) (h1 : x < 18446744073709551616) (tab : List Value) (w : World) (hl : tab.length = 20) (ht : ∀ v ∈ tab, ∃ y : Int, v = .int .u64 y) (hb : Blk w 1 tab 107) : Calls Tryd.prog 54 #[.int .u64 x] w fun e w' => (∃ y : Int, 0 ≤ y ∧ y ≤ 20 ∧ e = .returned (.int .i64 y)) ∧ w' = w := by
  have htab : ∀ z : Int, 0 ≤ z → z ≤ 19 → ∃ yv : Int, w.cell? ⟨1, z.toNat, none⟩ = some (.int .u64 yv) := fun z z0 z1 => by
    have hlt : z.toNat < tab.length := by omega
    obtain ⟨yv, hy⟩ := ht _ (List.getElem_mem hlt)
    exact ⟨yv, by rw [hb.cell, List.getElem?_eq_getElem hlt, hy]⟩
  go_enter Tryd.func54, Tryd.ntmps54
  go_wp2_with (first | (go_at_call 58; refine (c_len x h0 h1 _).mono ?_; rintro e w' ⟨⟨y, hy0, hy1, rfl⟩, rfl⟩) | (go_at_call 57; refine (c_log _ (by assumption) (by assumption) _).mono ?_; rintro e w' ⟨⟨z, hz0, hz1, rfl⟩, rfl⟩; obtain ⟨yv, hyv⟩ := htab z hz0 hz1) | (go_at_call 59; refine (c_bool2 _ _).mono ?_; rintro e w' ⟨rfl, rfl⟩))
  all_goals (go_ret; exact ⟨⟨_, by omega, by omega, rfl⟩, rfl⟩)
end Go.Proofs.YtabeehbgoljddaaDoor
namespace Go.Proofs.YtabeehbgoljddaaDoor
open Go Go.Gp
set_option linter.unusedVariables false
set_option maxRecDepth 100000
theorem mixedDtr55 : Tryd.prog.follows .mixedOrders = true := by kernel_rfl
/-! internal/strconv.formatBase10 -/
def G55 (a0 : Sl) (a1 : Int) (W : World) (K : Unit → World → Prop) : Prop :=
  LoopG (V := Sl × Int × Int × Unit) (a0, a1, ((a0.len : Nat) : Int), ()) W fun v1 W C3 => ∀ j2 : Nat → Value, ifB (decide ((v1.2.2.1 : Int) ≥ 8)) ((100000000 : Int) ≠ 0 ∧ ((100000000 : Int) ≠ 0 ∧ ((10000 : Int) ≠ 0 ∧ ((10000 : Int) ≠ 0 ∧ ((100 : Int) ≠ 0 ∧ ((100 : Int) ≠ 0 ∧ ((100 : Int) ≠ 0 ∧ ((100 : Int) ≠ 0 ∧ (JoinG (V := Sl × Int × Int × Int × Int × Int × Unit) (fun v4 W => ∀ j5 : Nat → Value, JoinG (V := Sl × Int × Int × Int × Int × Unit) (fun v7 W => ∀ j8 : Nat → Value, JoinG (V := Sl × Int × Int × Int × Unit) (fun v10 W => ∀ j11 : Nat → Value, drwG W fun W => holdG W fun S13 => (runG' Tryd.prog (.val (.one (.int .u8))) (Instr.index 9 (.string (ByteArray.mk #[48, 48, 48, 49, 48, 50, 48, 51, 48, 52, 48, 53, 48, 54, 48, 55, 48, 56, 48, 57, 49, 48, 49, 49, 49, 50, 49, 51, 49, 52, 49, 53, 49, 54, 49, 55, 49, 56, 49, 57, 50, 48, 50, 49, 50, 50, 50, 51, 50, 52, 50, 53, 50, 54, 50, 55, 50, 56, 50, 57, 51, 48, 51, 49, 51, 50, 51, 51, 51, 52, 51, 53, 51, 54, 51, 55, 51, 56, 51, 57, 52, 48, 52, 49, 52, 50, 52, 51, 52, 52, 52, 53, 52, 54, 52, 55, 52, 56, 52, 57, 53, 48, 53, 49, 53, 50, 53, 51, 53, 52, 53, 53, 53, 54, 53, 55, 53, 56, 53, 57, 54, 48, 54, 49, 54, 50, 54, 51, 54, 52, 54, 53, 54, 54, 54, 55, 54, 56, 54, 57, 55, 48, 55, 49, 55, 50, 55, 51, 55, 52, 55, 53, 55, 54, 55, 55, 55, 56, 55, 57, 56, 48, 56, 49, 56, 50, 56, 51, 56, 52, 56, 53, 56, 54, 56, 55, 56, 56, 56, 57, 57, 48, 57, 49, 57, 50, 57, 51, 57, 52, 57, 53, 57, 54, 57, 55, 57, 56, 57, 57])) (.int .u32 (IntKind.u32.wrap (v10.2.2.2.1 + 1)))) W fun (r14 : Int) W => idx v10.1.a v10.1.len (IntKind.i64.wrap (v10.2.2.1 - 7)) fun p15 => (runG' Tryd.prog (.val (.one (.int .u8))) (Instr.index 9 (.string (ByteArray.mk #[48, 48, 48, 49, 48, 50, 48, 51, 48, 52, 48, 53, 48, 54, 48, 55, 48, 56, 48, 57, 49, 48, 49, 49, 49, 50, 49, 51, 49, 52, 49, 53, 49, 54, 49, 55, 49, 56, 49, 57, 50, 48, 50, 49, 50, 50, 50, 51, 50, 52, 50, 53, 50, 54, 50, 55, 50, 56, 50, 57, 51, 48, 51, 49, 51, 50, 51, 51, 51, 52, 51, 53, 51, 54, 51, 55, 51, 56, 51, 57, 52, 48, 52, 49, 52, 50, 52, 51, 52, 52, 52, 53, 52, 54, 52, 55, 52, 56, 52, 57, 53, 48, 53, 49, 53, 50, 53, 51, 53, 52, 53, 53, 53, 54, 53, 55, 53, 56, 53, 57, 54, 48, 54, 49, 54, 50, 54, 51, 54, 52, 54, 53, 54, 54, 54, 55, 54, 56, 54, 57, 55, 48, 55, 49, 55, 50, 55, 51, 55, 52, 55, 53, 55, 54, 55, 55, 55, 56, 55, 57, 56, 48, 56, 49, 56, 50, 56, 51, 56, 52, 56, 53, 56, 54, 56, 55, 56, 56, 56, 57, 57, 48, 57, 49, 57, 50, 57, 51, 57, 52, 57, 53, 57, 54, 57, 55, 57, 56, 57, 57])) (.int .u32 v10.2.2.2.1)) W fun (r16 : Int) W => st1 (p15.add (Int.toNat (IntKind.i64.wrap (v10.2.2.1 - 7)) * 1)) (.int .u8 r14) W fun W => idx v10.1.a v10.1.len (IntKind.i64.wrap (v10.2.2.1 - 8)) fun p17 => st1 (p17.add (Int.toNat (IntKind.i64.wrap (v10.2.2.1 - 8)) * 1)) (.int .u8 r16) W fun W => C3 (v10.1, v10.2.1, IntKind.i64.wrap (v10.2.2.1 - 8), ()) W) ∧ (st1 (p15.add (Int.toNat (IntKind.i64.wrap (v10.2.2.1 - 7)) * 1)) (.int .u8 r14) W fun W => runG' Tryd.prog (.val (.one (.int .u8))) (Instr.index 9 (.string (ByteArray.mk #[48, 48, 48, 49, 48, 50, 48, 51, 48, 52, 48, 53, 48, 54, 48, 55, 48, 56, 48, 57, 49, 48, 49, 49, 49, 50, 49, 51, 49, 52, 49, 53, 49, 54, 49, 55, 49, 56, 49, 57, 50, 48, 50, 49, 50, 50, 50, 51, 50, 52, 50, 53, 50, 54, 50, 55, 50, 56, 50, 57, 51, 48, 51, 49, 51, 50, 51, 51, 51, 52, 51, 53, 51, 54, 51, 55, 51, 56, 51, 57, 52, 48, 52, 49, 52, 50, 52, 51, 52, 52, 52, 53, 52, 54, 52, 55, 52, 56, 52, 57, 53, 48, 53, 49, 53, 50, 53, 51, 53, 52, 53, 53, 53, 54, 53, 55, 53, 56, 53, 57, 54, 48, 54, 49, 54, 50, 54, 51, 54, 52, 54, 53, 54, 54, 54, 55, 54, 56, 54, 57, 55, 48, 55, 49, 55, 50, 55, 51, 55, 52, 55, 53, 55, 54, 55, 55, 55, 56, 55, 57, 56, 48, 56, 49, 56, 50, 56, 51, 56, 52, 56, 53, 56, 54, 56, 55, 56, 56, 56, 57, 57, 48, 57, 49, 57, 50, 57, 51, 57, 52, 57, 53, 57, 54, 57, 55, 57, 56, 57, 57])) (.int .u32 v10.2.2.2.1)) W fun (r18 : Int) W => idx v10.1.a v10.1.len (IntKind.i64.wrap (v10.2.2.1 - 8)) fun p19 => st1 (p19.add (Int.toNat (IntKind.i64.wrap (v10.2.2.1 - 8)) * 1)) (.int .u8 r18) W fun W => C3 (v10.1, v10.2.1, IntKind.i64.wrap (v10.2.2.1 - 8), ()) W)) ∧ (runG' Tryd.prog (.val (.one (.int .u8))) (Instr.index 9 (.string (ByteArray.mk #[48, 48, 48, 49, 48, 50, 48, 51, 48, 52, 48, 53, 48, 54, 48, 55, 48, 56, 48, 57, 49, 48, 49, 49, 49, 50, 49, 51, 49, 52, 49, 53, 49, 54, 49, 55, 49, 56, 49, 57, 50, 48, 50, 49, 50, 50, 50, 51, 50, 52, 50, 53, 50, 54, 50, 55, 50, 56, 50, 57, 51, 48, 51, 49, 51, 50, 51, 51, 51, 52, 51, 53, 51, 54, 51, 55, 51, 56, 51, 57, 52, 48, 52, 49, 52, 50, 52, 51, 52, 52, 52, 53, 52, 54, 52, 55, 52, 56, 52, 57, 53, 48, 53, 49, 53, 50, 53, 51, 53, 52, 53, 53, 53, 54, 53, 55, 53, 56, 53, 57, 54, 48, 54, 49, 54, 50, 54, 51, 54, 52, 54, 53, 54, 54, 54, 55, 54, 56, 54, 57, 55, 48, 55, 49, 55, 50, 55, 51, 55, 52, 55, 53, 55, 54, 55, 55, 55, 56, 55, 57, 56, 48, 56, 49, 56, 50, 56, 51, 56, 52, 56, 53, 56, 54, 56, 55, 56, 56, 56, 57, 57, 48, 57, 49, 57, 50, 57, 51, 57, 52, 57, 53, 57, 54, 57, 55, 57, 56, 57, 57])) (.int .u32 v10.2.2.2.1)) W fun (r20 : Int) W => runG' Tryd.prog (.val (.one (.int .u8))) (Instr.index 9 (.string (ByteArray.mk #[48, 48, 48, 49, 48, 50, 48, 51, 48, 52, 48, 53, 48, 54, 48, 55, 48, 56, 48, 57, 49, 48, 49, 49, 49, 50, 49, 51, 49, 52, 49, 53, 49, 54, 49, 55, 49, 56, 49, 57, 50, 48, 50, 49, 50, 50, 50, 51, 50, 52, 50, 53, 50, 54, 50, 55, 50, 56, 50, 57, 51, 48, 51, 49, 51, 50, 51, 51, 51, 52, 51, 53, 51, 54, 51, 55, 51, 56, 51, 57, 52, 48, 52, 49, 52, 50, 52, 51, 52, 52, 52, 53, 52, 54, 52, 55, 52, 56, 52, 57, 53, 48, 53, 49, 53, 50, 53, 51, 53, 52, 53, 53, 53, 54, 53, 55, 53, 56, 53, 57, 54, 48, 54, 49, 54, 50, 54, 51, 54, 52, 54, 53, 54, 54, 54, 55, 54, 56, 54, 57, 55, 48, 55, 49, 55, 50, 55, 51, 55, 52, 55, 53, 55, 54, 55, 55, 55, 56, 55, 57, 56, 48, 56, 49, 56, 50, 56, 51, 56, 52, 56, 53, 56, 54, 56, 55, 56, 56, 56, 57, 57, 48, 57, 49, 57, 50, 57, 51, 57, 52, 57, 53, 57, 54, 57, 55, 57, 56, 57, 57])) (.int .u32 (IntKind.u32.wrap (v10.2.2.2.1 + 1)))) W fun (r21 : Int) W => idx v10.1.a v10.1.len (IntKind.i64.wrap (v10.2.2.1 - 7)) fun p22 => st1 (p22.add (Int.toNat (IntKind.i64.wrap (v10.2.2.1 - 7)) * 1)) (.int .u8 r21) W fun W => idx v10.1.a v10.1.len (IntKind.i64.wrap (v10.2.2.1 - 8)) fun p23 => st1 (p23.add (Int.toNat (IntKind.i64.wrap (v10.2.2.1 - 8)) * 1)) (.int .u8 r20) W fun W => C3 (v10.1, v10.2.1, IntKind.i64.wrap (v10.2.2.1 - 8), ()) W)) fun B12 => drwG W fun W => holdG W fun S24 => (runG' Tryd.prog (.val (.one (.int .u8))) (Instr.index 9 (.string (ByteArray.mk #[48, 48, 48, 49, 48, 50, 48, 51, 48, 52, 48, 53, 48, 54, 48, 55, 48, 56, 48, 57, 49, 48, 49, 49, 49, 50, 49, 51, 49, 52, 49, 53, 49, 54, 49, 55, 49, 56, 49, 57, 50, 48, 50, 49, 50, 50, 50, 51, 50, 52, 50, 53, 50, 54, 50, 55, 50, 56, 50, 57, 51, 48, 51, 49, 51, 50, 51, 51, 51, 52, 51, 53, 51, 54, 51, 55, 51, 56, 51, 57, 52, 48, 52, 49, 52, 50, 52, 51, 52, 52, 52, 53, 52, 54, 52, 55, 52, 56, 52, 57, 53, 48, 53, 49, 53, 50, 53, 51, 53, 52, 53, 53, 53, 54, 53, 55, 53, 56, 53, 57, 54, 48, 54, 49, 54, 50, 54, 51, 54, 52, 54, 53, 54, 54, 54, 55, 54, 56, 54, 57, 55, 48, 55, 49, 55, 50, 55, 51, 55, 52, 55, 53, 55, 54, 55, 55, 55, 56, 55, 57, 56, 48, 56, 49, 56, 50, 56, 51, 56, 52, 56, 53, 56, 54, 56, 55, 56, 56, 56, 57, 57, 48, 57, 49, 57, 50, 57, 51, 57, 52, 57, 53, 57, 54, 57, 55, 57, 56, 57, 57])) (.int .u32 (IntKind.u32.wrap (v7.2.2.2.2.1 + 1)))) W fun (r25 : Int) W => idx v7.1.a v7.1.len (IntKind.i64.wrap (v7.2.2.1 - 5)) fun p26 => (runG' Tryd.prog (.val (.one (.int .u8))) (Instr.index 9 (.string (ByteArray.mk #[48, 48, 48, 49, 48, 50, 48, 51, 48, 52, 48, 53, 48, 54, 48, 55, 48, 56, 48, 57, 49, 48, 49, 49, 49, 50, 49, 51, 49, 52, 49, 53, 49, 54, 49, 55, 49, 56, 49, 57, 50, 48, 50, 49, 50, 50, 50, 51, 50, 52, 50, 53, 50, 54, 50, 55, 50, 56, 50, 57, 51, 48, 51, 49, 51, 50, 51, 51, 51, 52, 51, 53, 51, 54, 51, 55, 51, 56, 51, 57, 52, 48, 52, 49, 52, 50, 52, 51, 52, 52, 52, 53, 52, 54, 52, 55, 52, 56, 52, 57, 53, 48, 53, 49, 53, 50, 53, 51, 53, 52, 53, 53, 53, 54, 53, 55, 53, 56, 53, 57, 54, 48, 54, 49, 54, 50, 54, 51, 54, 52, 54, 53, 54, 54, 54, 55, 54, 56, 54, 57, 55, 48, 55, 49, 55, 50, 55, 51, 55, 52, 55, 53, 55, 54, 55, 55, 55, 56, 55, 57, 56, 48, 56, 49, 56, 50, 56, 51, 56, 52, 56, 53, 56, 54, 56, 55, 56, 56, 56, 57, 57, 48, 57, 49, 57, 50, 57, 51, 57, 52, 57, 53, 57, 54, 57, 55, 57, 56, 57, 57])) (.int .u32 v7.2.2.2.2.1)) W fun (r27 : Int) W => st1 (p26.add (Int.toNat (IntKind.i64.wrap (v7.2.2.1 - 5)) * 1)) (.int .u8 r25) W fun W => idx v7.1.a v7.1.len (IntKind.i64.wrap (v7.2.2.1 - 6)) fun p28 => st1 (p28.add (Int.toNat (IntKind.i64.wrap (v7.2.2.1 - 6)) * 1)) (.int .u8 r27) W fun W => B12 (v7.1, v7.2.1, v7.2.2.1, v7.2.2.2.1, ()) W) ∧ (st1 (p26.add (Int.toNat (IntKind.i64.wrap (v7.2.2.1 - 5)) * 1)) (.int .u8 r25) W fun W => runG' Tryd.prog (.val (.one (.int .u8))) (Instr.index 9 (.string (ByteArray.mk #[48, 48, 48, 49, 48, 50, 48, 51, 48, 52, 48, 53, 48, 54, 48, 55, 48, 56, 48, 57, 49, 48, 49, 49, 49, 50, 49, 51, 49, 52, 49, 53, 49, 54, 49, 55, 49, 56, 49, 57, 50, 48, 50, 49, 50, 50, 50, 51, 50, 52, 50, 53, 50, 54, 50, 55, 50, 56, 50, 57, 51, 48, 51, 49, 51, 50, 51, 51, 51, 52, 51, 53, 51, 54, 51, 55, 51, 56, 51, 57, 52, 48, 52, 49, 52, 50, 52, 51, 52, 52, 52, 53, 52, 54, 52, 55, 52, 56, 52, 57, 53, 48, 53, 49, 53, 50, 53, 51, 53, 52, 53, 53, 53, 54, 53, 55, 53, 56, 53, 57, 54, 48, 54, 49, 54, 50, 54, 51, 54, 52, 54, 53, 54, 54, 54, 55, 54, 56, 54, 57, 55, 48, 55, 49, 55, 50, 55, 51, 55, 52, 55, 53, 55, 54, 55, 55, 55, 56, 55, 57, 56, 48, 56, 49, 56, 50, 56, 51, 56, 52, 56, 53, 56, 54, 56, 55, 56, 56, 56, 57, 57, 48, 57, 49, 57, 50, 57, 51, 57, 52, 57, 53, 57, 54, 57, 55, 57, 56, 57, 57])) (.int .u32 v7.2.2.2.2.1)) W fun (r29 : Int) W => idx v7.1.a v7.1.len (IntKind.i64.wrap (v7.2.2.1 - 6)) fun p30 => st1 (p30.add (Int.toNat (IntKind.i64.wrap (v7.2.2.1 - 6)) * 1)) (.int .u8 r29) W fun W => B12 (v7.1, v7.2.1, v7.2.2.1, v7.2.2.2.1, ()) W)) ∧ (runG' Tryd.prog (.val (.one (.int .u8))) (Instr.index 9 (.string (ByteArray.mk #[48, 48, 48, 49, 48, 50, 48, 51, 48, 52, 48, 53, 48, 54, 48, 55, 48, 56, 48, 57, 49, 48, 49, 49, 49, 50, 49, 51, 49, 52, 49, 53, 49, 54, 49, 55, 49, 56, 49, 57, 50, 48, 50, 49, 50, 50, 50, 51, 50, 52, 50, 53, 50, 54, 50, 55, 50, 56, 50, 57, 51, 48, 51, 49, 51, 50, 51, 51, 51, 52, 51, 53, 51, 54, 51, 55, 51, 56, 51, 57, 52, 48, 52, 49, 52, 50, 52, 51, 52, 52, 52, 53, 52, 54, 52, 55, 52, 56, 52, 57, 53, 48, 53, 49, 53, 50, 53, 51, 53, 52, 53, 53, 53, 54, 53, 55, 53, 56, 53, 57, 54, 48, 54, 49, 54, 50, 54, 51, 54, 52, 54, 53, 54, 54, 54, 55, 54, 56, 54, 57, 55, 48, 55, 49, 55, 50, 55, 51, 55, 52, 55, 53, 55, 54, 55, 55, 55, 56, 55, 57, 56, 48, 56, 49, 56, 50, 56, 51, 56, 52, 56, 53, 56, 54, 56, 55, 56, 56, 56, 57, 57, 48, 57, 49, 57, 50, 57, 51, 57, 52, 57, 53, 57, 54, 57, 55, 57, 56, 57, 57])) (.int .u32 v7.2.2.2.2.1)) W fun (r31 : Int) W => runG' Tryd.prog (.val (.one (.int .u8))) (Instr.index 9 (.string (ByteArray.mk #[48, 48, 48, 49, 48, 50, 48, 51, 48, 52, 48, 53, 48, 54, 48, 55, 48, 56, 48, 57, 49, 48, 49, 49, 49, 50, 49, 51, 49, 52, 49, 53, 49, 54, 49, 55, 49, 56, 49, 57, 50, 48, 50, 49, 50, 50, 50, 51, 50, 52, 50, 53, 50, 54, 50, 55, 50, 56, 50, 57, 51, 48, 51, 49, 51, 50, 51, 51, 51, 52, 51, 53, 51, 54, 51, 55, 51, 56, 51, 57, 52, 48, 52, 49, 52, 50, 52, 51, 52, 52, 52, 53, 52, 54, 52, 55, 52, 56, 52, 57, 53, 48, 53, 49, 53, 50, 53, 51, 53, 52, 53, 53, 53, 54, 53, 55, 53, 56, 53, 57, 54, 48, 54, 49, 54, 50, 54, 51, 54, 52, 54, 53, 54, 54, 54, 55, 54, 56, 54, 57, 55, 48, 55, 49, 55, 50, 55, 51, 55, 52, 55, 53, 55, 54, 55, 55, 55, 56, 55, 57, 56, 48, 56, 49, 56, 50, 56, 51, 56, 52, 56, 53, 56, 54, 56, 55, 56, 56, 56, 57, 57, 48, 57, 49, 57, 50, 57, 51, 57, 52, 57, 53, 57, 54, 57, 55, 57, 56, 57, 57])) (.int .u32 (IntKind.u32.wrap (v7.2.2.2.2.1 + 1)))) W fun (r32 : Int) W => idx v7.1.a v7.1.len (IntKind.i64.wrap (v7.2.2.1 - 5)) fun p33 => st1 (p33.add (Int.toNat (IntKind.i64.wrap (v7.2.2.1 - 5)) * 1)) (.int .u8 r32) W fun W => idx v7.1.a v7.1.len (IntKind.i64.wrap (v7.2.2.1 - 6)) fun p34 => st1 (p34.add (Int.toNat (IntKind.i64.wrap (v7.2.2.1 - 6)) * 1)) (.int .u8 r31) W fun W => B12 (v7.1, v7.2.1, v7.2.2.1, v7.2.2.2.1, ()) W)) fun B9 => drwG W fun W => holdG W fun S35 => (runG' Tryd.prog (.val (.one (.int .u8))) (Instr.index 9 (.string (ByteArray.mk #[48, 48, 48, 49, 48, 50, 48, 51, 48, 52, 48, 53, 48, 54, 48, 55, 48, 56, 48, 57, 49, 48, 49, 49, 49, 50, 49, 51, 49, 52, 49, 53, 49, 54, 49, 55, 49, 56, 49, 57, 50, 48, 50, 49, 50, 50, 50, 51, 50, 52, 50, 53, 50, 54, 50, 55, 50, 56, 50, 57, 51, 48, 51, 49, 51, 50, 51, 51, 51, 52, 51, 53, 51, 54, 51, 55, 51, 56, 51, 57, 52, 48, 52, 49, 52, 50, 52, 51, 52, 52, 52, 53, 52, 54, 52, 55, 52, 56, 52, 57, 53, 48, 53, 49, 53, 50, 53, 51, 53, 52, 53, 53, 53, 54, 53, 55, 53, 56, 53, 57, 54, 48, 54, 49, 54, 50, 54, 51, 54, 52, 54, 53, 54, 54, 54, 55, 54, 56, 54, 57, 55, 48, 55, 49, 55, 50, 55, 51, 55, 52, 55, 53, 55, 54, 55, 55, 55, 56, 55, 57, 56, 48, 56, 49, 56, 50, 56, 51, 56, 52, 56, 53, 56, 54, 56, 55, 56, 56, 56, 57, 57, 48, 57, 49, 57, 50, 57, 51, 57, 52, 57, 53, 57, 54, 57, 55, 57, 56, 57, 57])) (.int .u32 (IntKind.u32.wrap (v4.2.2.2.1 + 1)))) W fun (r36 : Int) W => idx v4.1.a v4.1.len (IntKind.i64.wrap (v4.2.2.1 - 3)) fun p37 => (runG' Tryd.prog (.val (.one (.int .u8))) (Instr.index 9 (.string (ByteArray.mk #[48, 48, 48, 49, 48, 50, 48, 51, 48, 52, 48, 53, 48, 54, 48, 55, 48, 56, 48, 57, 49, 48, 49, 49, 49, 50, 49, 51, 49, 52, 49, 53, 49, 54, 49, 55, 49, 56, 49, 57, 50, 48, 50, 49, 50, 50, 50, 51, 50, 52, 50, 53, 50, 54, 50, 55, 50, 56, 50, 57, 51, 48, 51, 49, 51, 50, 51, 51, 51, 52, 51, 53, 51, 54, 51, 55, 51, 56, 51, 57, 52, 48, 52, 49, 52, 50, 52, 51, 52, 52, 52, 53, 52, 54, 52, 55, 52, 56, 52, 57, 53, 48, 53, 49, 53, 50, 53, 51, 53, 52, 53, 53, 53, 54, 53, 55, 53, 56, 53, 57, 54, 48, 54, 49, 54, 50, 54, 51, 54, 52, 54, 53, 54, 54, 54, 55, 54, 56, 54, 57, 55, 48, 55, 49, 55, 50, 55, 51, 55, 52, 55, 53, 55, 54, 55, 55, 55, 56, 55, 57, 56, 48, 56, 49, 56, 50, 56, 51, 56, 52, 56, 53, 56, 54, 56, 55, 56, 56, 56, 57, 57, 48, 57, 49, 57, 50, 57, 51, 57, 52, 57, 53, 57, 54, 57, 55, 57, 56, 57, 57])) (.int .u32 v4.2.2.2.1)) W fun (r38 : Int) W => st1 (p37.add (Int.toNat (IntKind.i64.wrap (v4.2.2.1 - 3)) * 1)) (.int .u8 r36) W fun W => idx v4.1.a v4.1.len (IntKind.i64.wrap (v4.2.2.1 - 4)) fun p39 => st1 (p39.add (Int.toNat (IntKind.i64.wrap (v4.2.2.1 - 4)) * 1)) (.int .u8 r38) W fun W => B9 (v4.1, v4.2.1, v4.2.2.1, v4.2.2.2.2.1, v4.2.2.2.2.2.1, ()) W) ∧ (st1 (p37.add (Int.toNat (IntKind.i64.wrap (v4.2.2.1 - 3)) * 1)) (.int .u8 r36) W fun W => runG' Tryd.prog (.val (.one (.int .u8))) (Instr.index 9 (.string (ByteArray.mk #[48, 48, 48, 49, 48, 50, 48, 51, 48, 52, 48, 53, 48, 54, 48, 55, 48, 56, 48, 57, 49, 48, 49, 49, 49, 50, 49, 51, 49, 52, 49, 53, 49, 54, 49, 55, 49, 56, 49, 57, 50, 48, 50, 49, 50, 50, 50, 51, 50, 52, 50, 53, 50, 54, 50, 55, 50, 56, 50, 57, 51, 48, 51, 49, 51, 50, 51, 51, 51, 52, 51, 53, 51, 54, 51, 55, 51, 56, 51, 57, 52, 48, 52, 49, 52, 50, 52, 51, 52, 52, 52, 53, 52, 54, 52, 55, 52, 56, 52, 57, 53, 48, 53, 49, 53, 50, 53, 51, 53, 52, 53, 53, 53, 54, 53, 55, 53, 56, 53, 57, 54, 48, 54, 49, 54, 50, 54, 51, 54, 52, 54, 53, 54, 54, 54, 55, 54, 56, 54, 57, 55, 48, 55, 49, 55, 50, 55, 51, 55, 52, 55, 53, 55, 54, 55, 55, 55, 56, 55, 57, 56, 48, 56, 49, 56, 50, 56, 51, 56, 52, 56, 53, 56, 54, 56, 55, 56, 56, 56, 57, 57, 48, 57, 49, 57, 50, 57, 51, 57, 52, 57, 53, 57, 54, 57, 55, 57, 56, 57, 57])) (.int .u32 v4.2.2.2.1)) W fun (r40 : Int) W => idx v4.1.a v4.1.len (IntKind.i64.wrap (v4.2.2.1 - 4)) fun p41 => st1 (p41.add (Int.toNat (IntKind.i64.wrap (v4.2.2.1 - 4)) * 1)) (.int .u8 r40) W fun W => B9 (v4.1, v4.2.1, v4.2.2.1, v4.2.2.2.2.1, v4.2.2.2.2.2.1, ()) W)) ∧ (runG' Tryd.prog (.val (.one (.int .u8))) (Instr.index 9 (.string (ByteArray.mk #[48, 48, 48, 49, 48, 50, 48, 51, 48, 52, 48, 53, 48, 54, 48, 55, 48, 56, 48, 57, 49, 48, 49, 49, 49, 50, 49, 51, 49, 52, 49, 53, 49, 54, 49, 55, 49, 56, 49, 57, 50, 48, 50, 49, 50, 50, 50, 51, 50, 52, 50, 53, 50, 54, 50, 55, 50, 56, 50, 57, 51, 48, 51, 49, 51, 50, 51, 51, 51, 52, 51, 53, 51, 54, 51, 55, 51, 56, 51, 57, 52, 48, 52, 49, 52, 50, 52, 51, 52, 52, 52, 53, 52, 54, 52, 55, 52, 56, 52, 57, 53, 48, 53, 49, 53, 50, 53, 51, 53, 52, 53, 53, 53, 54, 53, 55, 53, 56, 53, 57, 54, 48, 54, 49, 54, 50, 54, 51, 54, 52, 54, 53, 54, 54, 54, 55, 54, 56, 54, 57, 55, 48, 55, 49, 55, 50, 55, 51, 55, 52, 55, 53, 55, 54, 55, 55, 55, 56, 55, 57, 56, 48, 56, 49, 56, 50, 56, 51, 56, 52, 56, 53, 56, 54, 56, 55, 56, 56, 56, 57, 57, 48, 57, 49, 57, 50, 57, 51, 57, 52, 57, 53, 57, 54, 57, 55, 57, 56, 57, 57])) (.int .u32 v4.2.2.2.1)) W fun (r42 : Int) W => runG' Tryd.prog (.val (.one (.int .u8))) (Instr.index 9 (.string (ByteArray.mk #[48, 48, 48, 49, 48, 50, 48, 51, 48, 52, 48, 53, 48, 54, 48, 55, 48, 56, 48, 57, 49, 48, 49, 49, 49, 50, 49, 51, 49, 52, 49, 53, 49, 54, 49, 55, 49, 56, 49, 57, 50, 48, 50, 49, 50, 50, 50, 51, 50, 52, 50, 53, 50, 54, 50, 55, 50, 56, 50, 57, 51, 48, 51, 49, 51, 50, 51, 51, 51, 52, 51, 53, 51, 54, 51, 55, 51, 56, 51, 57, 52, 48, 52, 49, 52, 50, 52, 51, 52, 52, 52, 53, 52, 54, 52, 55, 52, 56, 52, 57, 53, 48, 53, 49, 53, 50, 53, 51, 53, 52, 53, 53, 53, 54, 53, 55, 53, 56, 53, 57, 54, 48, 54, 49, 54, 50, 54, 51, 54, 52, 54, 53, 54, 54, 54, 55, 54, 56, 54, 57, 55, 48, 55, 49, 55, 50, 55, 51, 55, 52, 55, 53, 55, 54, 55, 55, 55, 56, 55, 57, 56, 48, 56, 49, 56, 50, 56, 51, 56, 52, 56, 53, 56, 54, 56, 55, 56, 56, 56, 57, 57, 48, 57, 49, 57, 50, 57, 51, 57, 52, 57, 53, 57, 54, 57, 55, 57, 56, 57, 57])) (.int .u32 (IntKind.u32.wrap (v4.2.2.2.1 + 1)))) W fun (r43 : Int) W => idx v4.1.a v4.1.len (IntKind.i64.wrap (v4.2.2.1 - 3)) fun p44 => st1 (p44.add (Int.toNat (IntKind.i64.wrap (v4.2.2.1 - 3)) * 1)) (.int .u8 r43) W fun W => idx v4.1.a v4.1.len (IntKind.i64.wrap (v4.2.2.1 - 4)) fun p45 => st1 (p45.add (Int.toNat (IntKind.i64.wrap (v4.2.2.1 - 4)) * 1)) (.int .u8 r42) W fun W => B9 (v4.1, v4.2.1, v4.2.2.1, v4.2.2.2.2.1, v4.2.2.2.2.2.1, ()) W)) fun B6 => drwG W fun W => holdG W fun S46 => (runG' Tryd.prog (.val (.one (.int .u8))) (Instr.index 9 (.string (ByteArray.mk #[48, 48, 48, 49, 48, 50, 48, 51, 48, 52, 48, 53, 48, 54, 48, 55, 48, 56, 48, 57, 49, 48, 49, 49, 49, 50, 49, 51, 49, 52, 49, 53, 49, 54, 49, 55, 49, 56, 49, 57, 50, 48, 50, 49, 50, 50, 50, 51, 50, 52, 50, 53, 50, 54, 50, 55, 50, 56, 50, 57, 51, 48, 51, 49, 51, 50, 51, 51, 51, 52, 51, 53, 51, 54, 51, 55, 51, 56, 51, 57, 52, 48, 52, 49, 52, 50, 52, 51, 52, 52, 52, 53, 52, 54, 52, 55, 52, 56, 52, 57, 53, 48, 53, 49, 53, 50, 53, 51, 53, 52, 53, 53, 53, 54, 53, 55, 53, 56, 53, 57, 54, 48, 54, 49, 54, 50, 54, 51, 54, 52, 54, 53, 54, 54, 54, 55, 54, 56, 54, 57, 55, 48, 55, 49, 55, 50, 55, 51, 55, 52, 55, 53, 55, 54, 55, 55, 55, 56, 55, 57, 56, 48, 56, 49, 56, 50, 56, 51, 56, 52, 56, 53, 56, 54, 56, 55, 56, 56, 56, 57, 57, 48, 57, 49, 57, 50, 57, 51, 57, 52, 57, 53, 57, 54, 57, 55, 57, 56, 57, 57])) (.int .u32 (IntKind.u32.wrap ((IntKind.u32.wrap ((Int.tmod (Int.tmod (IntKind.u32.wrap (Int.tmod v1.2.1 100000000)) 10000) 100) * 2)) + 1)))) W fun (r47 : Int) W => idx v1.1.a v1.1.len (IntKind.i64.wrap (v1.2.2.1 - 1)) fun p48 => (runG' Tryd.prog (.val (.one (.int .u8))) (Instr.index 9 (.string (ByteArray.mk #[48, 48, 48, 49, 48, 50, 48, 51, 48, 52, 48, 53, 48, 54, 48, 55, 48, 56, 48, 57, 49, 48, 49, 49, 49, 50, 49, 51, 49, 52, 49, 53, 49, 54, 49, 55, 49, 56, 49, 57, 50, 48, 50, 49, 50, 50, 50, 51, 50, 52, 50, 53, 50, 54, 50, 55, 50, 56, 50, 57, 51, 48, 51, 49, 51, 50, 51, 51, 51, 52, 51, 53, 51, 54, 51, 55, 51, 56, 51, 57, 52, 48, 52, 49, 52, 50, 52, 51, 52, 52, 52, 53, 52, 54, 52, 55, 52, 56, 52, 57, 53, 48, 53, 49, 53, 50, 53, 51, 53, 52, 53, 53, 53, 54, 53, 55, 53, 56, 53, 57, 54, 48, 54, 49, 54, 50, 54, 51, 54, 52, 54, 53, 54, 54, 54, 55, 54, 56, 54, 57, 55, 48, 55, 49, 55, 50, 55, 51, 55, 52, 55, 53, 55, 54, 55, 55, 55, 56, 55, 57, 56, 48, 56, 49, 56, 50, 56, 51, 56, 52, 56, 53, 56, 54, 56, 55, 56, 56, 56, 57, 57, 48, 57, 49, 57, 50, 57, 51, 57, 52, 57, 53, 57, 54, 57, 55, 57, 56, 57, 57])) (.int .u32 (IntKind.u32.wrap ((Int.tmod (Int.tmod (IntKind.u32.wrap (Int.tmod v1.2.1 100000000)) 10000) 100) * 2)))) W fun (r49 : Int) W => st1 (p48.add (Int.toNat (IntKind.i64.wrap (v1.2.2.1 - 1)) * 1)) (.int .u8 r47) W fun W => idx v1.1.a v1.1.len (IntKind.i64.wrap (v1.2.2.1 - 2)) fun p50 => st1 (p50.add (Int.toNat (IntKind.i64.wrap (v1.2.2.1 - 2)) * 1)) (.int .u8 r49) W fun W => B6 (v1.1, IntKind.u64.wrap (Int.tdiv v1.2.1 100000000), v1.2.2.1, IntKind.u32.wrap ((IntKind.u32.wrap (Int.tdiv (Int.tmod (IntKind.u32.wrap (Int.tmod v1.2.1 100000000)) 10000) 100)) * 2), IntKind.u32.wrap ((IntKind.u32.wrap (Int.tdiv (IntKind.u32.wrap (Int.tdiv (IntKind.u32.wrap (Int.tmod v1.2.1 100000000)) 10000)) 100)) * 2), IntKind.u32.wrap ((Int.tmod (IntKind.u32.wrap (Int.tdiv (IntKind.u32.wrap (Int.tmod v1.2.1 100000000)) 10000)) 100) * 2), ()) W) ∧ (st1 (p48.add (Int.toNat (IntKind.i64.wrap (v1.2.2.1 - 1)) * 1)) (.int .u8 r47) W fun W => runG' Tryd.prog (.val (.one (.int .u8))) (Instr.index 9 (.string (ByteArray.mk #[48, 48, 48, 49, 48, 50, 48, 51, 48, 52, 48, 53, 48, 54, 48, 55, 48, 56, 48, 57, 49, 48, 49, 49, 49, 50, 49, 51, 49, 52, 49, 53, 49, 54, 49, 55, 49, 56, 49, 57, 50, 48, 50, 49, 50, 50, 50, 51, 50, 52, 50, 53, 50, 54, 50, 55, 50, 56, 50, 57, 51, 48, 51, 49, 51, 50, 51, 51, 51, 52, 51, 53, 51, 54, 51, 55, 51, 56, 51, 57, 52, 48, 52, 49, 52, 50, 52, 51, 52, 52, 52, 53, 52, 54, 52, 55, 52, 56, 52, 57, 53, 48, 53, 49, 53, 50, 53, 51, 53, 52, 53, 53, 53, 54, 53, 55, 53, 56, 53, 57, 54, 48, 54, 49, 54, 50, 54, 51, 54, 52, 54, 53, 54, 54, 54, 55, 54, 56, 54, 57, 55, 48, 55, 49, 55, 50, 55, 51, 55, 52, 55, 53, 55, 54, 55, 55, 55, 56, 55, 57, 56, 48, 56, 49, 56, 50, 56, 51, 56, 52, 56, 53, 56, 54, 56, 55, 56, 56, 56, 57, 57, 48, 57, 49, 57, 50, 57, 51, 57, 52, 57, 53, 57, 54, 57, 55, 57, 56, 57, 57])) (.int .u32 (IntKind.u32.wrap ((Int.tmod (Int.tmod (IntKind.u32.wrap (Int.tmod v1.2.1 100000000)) 10000) 100) * 2)))) W fun (r51 : Int) W => idx v1.1.a v1.1.len (IntKind.i64.wrap (v1.2.2.1 - 2)) fun p52 => st1 (p52.add (Int.toNat (IntKind.i64.wrap (v1.2.2.1 - 2)) * 1)) (.int .u8 r51) W fun W => B6 (v1.1, IntKind.u64.wrap (Int.tdiv v1.2.1 100000000), v1.2.2.1, IntKind.u32.wrap ((IntKind.u32.wrap (Int.tdiv (Int.tmod (IntKind.u32.wrap (Int.tmod v1.2.1 100000000)) 10000) 100)) * 2), IntKind.u32.wrap ((IntKind.u32.wrap (Int.tdiv (IntKind.u32.wrap (Int.tdiv (IntKind.u32.wrap (Int.tmod v1.2.1 100000000)) 10000)) 100)) * 2), IntKind.u32.wrap ((Int.tmod (IntKind.u32.wrap (Int.tdiv (IntKind.u32.wrap (Int.tmod v1.2.1 100000000)) 10000)) 100) * 2), ()) W)) ∧ (runG' Tryd.prog (.val (.one (.int .u8))) (Instr.index 9 (.string (ByteArray.mk #[48, 48, 48, 49, 48, 50, 48, 51, 48, 52, 48, 53, 48, 54, 48, 55, 48, 56, 48, 57, 49, 48, 49, 49, 49, 50, 49, 51, 49, 52, 49, 53, 49, 54, 49, 55, 49, 56, 49, 57, 50, 48, 50, 49, 50, 50, 50, 51, 50, 52, 50, 53, 50, 54, 50, 55, 50, 56, 50, 57, 51, 48, 51, 49, 51, 50, 51, 51, 51, 52, 51, 53, 51, 54, 51, 55, 51, 56, 51, 57, 52, 48, 52, 49, 52, 50, 52, 51, 52, 52, 52, 53, 52, 54, 52, 55, 52, 56, 52, 57, 53, 48, 53, 49, 53, 50, 53, 51, 53, 52, 53, 53, 53, 54, 53, 55, 53, 56, 53, 57, 54, 48, 54, 49, 54, 50, 54, 51, 54, 52, 54, 53, 54, 54, 54, 55, 54, 56, 54, 57, 55, 48, 55, 49, 55, 50, 55, 51, 55, 52, 55, 53, 55, 54, 55, 55, 55, 56, 55, 57, 56, 48, 56, 49, 56, 50, 56, 51, 56, 52, 56, 53, 56, 54, 56, 55, 56, 56, 56, 57, 57, 48, 57, 49, 57, 50, 57, 51, 57, 52, 57, 53, 57, 54, 57, 55, 57, 56, 57, 57])) (.int .u32 (IntKind.u32.wrap ((Int.tmod (Int.tmod (IntKind.u32.wrap (Int.tmod v1.2.1 100000000)) 10000) 100) * 2)))) W fun (r53 : Int) W => runG' Tryd.prog (.val (.one (.int .u8))) (Instr.index 9 (.string (ByteArray.mk #[48, 48, 48, 49, 48, 50, 48, 51, 48, 52, 48, 53, 48, 54, 48, 55, 48, 56, 48, 57, 49, 48, 49, 49, 49, 50, 49, 51, 49, 52, 49, 53, 49, 54, 49, 55, 49, 56, 49, 57, 50, 48, 50, 49, 50, 50, 50, 51, 50, 52, 50, 53, 50, 54, 50, 55, 50, 56, 50, 57, 51, 48, 51, 49, 51, 50, 51, 51, 51, 52, 51, 53, 51, 54, 51, 55, 51, 56, 51, 57, 52, 48, 52, 49, 52, 50, 52, 51, 52, 52, 52, 53, 52, 54, 52, 55, 52, 56, 52, 57, 53, 48, 53, 49, 53, 50, 53, 51, 53, 52, 53, 53, 53, 54, 53, 55, 53, 56, 53, 57, 54, 48, 54, 49, 54, 50, 54, 51, 54, 52, 54, 53, 54, 54, 54, 55, 54, 56, 54, 57, 55, 48, 55, 49, 55, 50, 55, 51, 55, 52, 55, 53, 55, 54, 55, 55, 55, 56, 55, 57, 56, 48, 56, 49, 56, 50, 56, 51, 56, 52, 56, 53, 56, 54, 56, 55, 56, 56, 56, 57, 57, 48, 57, 49, 57, 50, 57, 51, 57, 52, 57, 53, 57, 54, 57, 55, 57, 56, 57, 57])) (.int .u32 (IntKind.u32.wrap ((IntKind.u32.wrap ((Int.tmod (Int.tmod (IntKind.u32.wrap (Int.tmod v1.2.1 100000000)) 10000) 100) * 2)) + 1)))) W fun (r54 : Int) W => idx v1.1.a v1.1.len (IntKind.i64.wrap (v1.2.2.1 - 1)) fun p55 => st1 (p55.add (Int.toNat (IntKind.i64.wrap (v1.2.2.1 - 1)) * 1)) (.int .u8 r54) W fun W => idx v1.1.a v1.1.len (IntKind.i64.wrap (v1.2.2.1 - 2)) fun p56 => st1 (p56.add (Int.toNat (IntKind.i64.wrap (v1.2.2.1 - 2)) * 1)) (.int .u8 r53) W fun W => B6 (v1.1, IntKind.u64.wrap (Int.tdiv v1.2.1 100000000), v1.2.2.1, IntKind.u32.wrap ((IntKind.u32.wrap (Int.tdiv (Int.tmod (IntKind.u32.wrap (Int.tmod v1.2.1 100000000)) 10000) 100)) * 2), IntKind.u32.wrap ((IntKind.u32.wrap (Int.tdiv (IntKind.u32.wrap (Int.tdiv (IntKind.u32.wrap (Int.tmod v1.2.1 100000000)) 10000)) 100)) * 2), IntKind.u32.wrap ((Int.tmod (IntKind.u32.wrap (Int.tdiv (IntKind.u32.wrap (Int.tmod v1.2.1 100000000)) 10000)) 100) * 2), ()) W)))))))))) (JoinG (V := Sl × Int × Int × Unit) (fun v57 W => ∀ j58 : Nat → Value, JoinG (V := Sl × Int × Int × Unit) (fun v60 W => ∀ j61 : Nat → Value, ifB (decide ((v60.2.1 : Int) > 0)) (idx v60.1.a v60.1.len 0 fun p63 => st1 (p63.add (Int.toNat 0 * 1)) (.int .u8 (IntKind.u8.wrap (IntKind.u32.wrap (48 + v60.2.2.1)))) W fun W => K (()) W) (K (()) W)) fun B62 => ifB (decide ((v57.2.1 : Int) ≥ 2)) ((100 : Int) ≠ 0 ∧ ((100 : Int) ≠ 0 ∧ (drwG W fun W => holdG W fun S64 => (runG' Tryd.prog (.val (.one (.int .u8))) (Instr.index 9 (.string (ByteArray.mk #[48, 48, 48, 49, 48, 50, 48, 51, 48, 52, 48, 53, 48, 54, 48, 55, 48, 56, 48, 57, 49, 48, 49, 49, 49, 50, 49, 51, 49, 52, 49, 53, 49, 54, 49, 55, 49, 56, 49, 57, 50, 48, 50, 49, 50, 50, 50, 51, 50, 52, 50, 53, 50, 54, 50, 55, 50, 56, 50, 57, 51, 48, 51, 49, 51, 50, 51, 51, 51, 52, 51, 53, 51, 54, 51, 55, 51, 56, 51, 57, 52, 48, 52, 49, 52, 50, 52, 51, 52, 52, 52, 53, 52, 54, 52, 55, 52, 56, 52, 57, 53, 48, 53, 49, 53, 50, 53, 51, 53, 52, 53, 53, 53, 54, 53, 55, 53, 56, 53, 57, 54, 48, 54, 49, 54, 50, 54, 51, 54, 52, 54, 53, 54, 54, 54, 55, 54, 56, 54, 57, 55, 48, 55, 49, 55, 50, 55, 51, 55, 52, 55, 53, 55, 54, 55, 55, 55, 56, 55, 57, 56, 48, 56, 49, 56, 50, 56, 51, 56, 52, 56, 53, 56, 54, 56, 55, 56, 56, 56, 57, 57, 48, 57, 49, 57, 50, 57, 51, 57, 52, 57, 53, 57, 54, 57, 55, 57, 56, 57, 57])) (.int .u32 (IntKind.u32.wrap ((IntKind.u32.wrap ((Int.tmod v57.2.2.1 100) * 2)) + 1)))) W fun (r65 : Int) W => idx v57.1.a v57.1.len (IntKind.i64.wrap (v57.2.1 - 1)) fun p66 => (runG' Tryd.prog (.val (.one (.int .u8))) (Instr.index 9 (.string (ByteArray.mk #[48, 48, 48, 49, 48, 50, 48, 51, 48, 52, 48, 53, 48, 54, 48, 55, 48, 56, 48, 57, 49, 48, 49, 49, 49, 50, 49, 51, 49, 52, 49, 53, 49, 54, 49, 55, 49, 56, 49, 57, 50, 48, 50, 49, 50, 50, 50, 51, 50, 52, 50, 53, 50, 54, 50, 55, 50, 56, 50, 57, 51, 48, 51, 49, 51, 50, 51, 51, 51, 52, 51, 53, 51, 54, 51, 55, 51, 56, 51, 57, 52, 48, 52, 49, 52, 50, 52, 51, 52, 52, 52, 53, 52, 54, 52, 55, 52, 56, 52, 57, 53, 48, 53, 49, 53, 50, 53, 51, 53, 52, 53, 53, 53, 54, 53, 55, 53, 56, 53, 57, 54, 48, 54, 49, 54, 50, 54, 51, 54, 52, 54, 53, 54, 54, 54, 55, 54, 56, 54, 57, 55, 48, 55, 49, 55, 50, 55, 51, 55, 52, 55, 53, 55, 54, 55, 55, 55, 56, 55, 57, 56, 48, 56, 49, 56, 50, 56, 51, 56, 52, 56, 53, 56, 54, 56, 55, 56, 56, 56, 57, 57, 48, 57, 49, 57, 50, 57, 51, 57, 52, 57, 53, 57, 54, 57, 55, 57, 56, 57, 57])) (.int .u32 (IntKind.u32.wrap ((Int.tmod v57.2.2.1 100) * 2)))) W fun (r67 : Int) W => st1 (p66.add (Int.toNat (IntKind.i64.wrap (v57.2.1 - 1)) * 1)) (.int .u8 r65) W fun W => idx v57.1.a v57.1.len (IntKind.i64.wrap (v57.2.1 - 2)) fun p68 => st1 (p68.add (Int.toNat (IntKind.i64.wrap (v57.2.1 - 2)) * 1)) (.int .u8 r67) W fun W => B62 (v57.1, IntKind.i64.wrap (v57.2.1 - 2), IntKind.u32.wrap (Int.tdiv v57.2.2.1 100), ()) W) ∧ (st1 (p66.add (Int.toNat (IntKind.i64.wrap (v57.2.1 - 1)) * 1)) (.int .u8 r65) W fun W => runG' Tryd.prog (.val (.one (.int .u8))) (Instr.index 9 (.string (ByteArray.mk #[48, 48, 48, 49, 48, 50, 48, 51, 48, 52, 48, 53, 48, 54, 48, 55, 48, 56, 48, 57, 49, 48, 49, 49, 49, 50, 49, 51, 49, 52, 49, 53, 49, 54, 49, 55, 49, 56, 49, 57, 50, 48, 50, 49, 50, 50, 50, 51, 50, 52, 50, 53, 50, 54, 50, 55, 50, 56, 50, 57, 51, 48, 51, 49, 51, 50, 51, 51, 51, 52, 51, 53, 51, 54, 51, 55, 51, 56, 51, 57, 52, 48, 52, 49, 52, 50, 52, 51, 52, 52, 52, 53, 52, 54, 52, 55, 52, 56, 52, 57, 53, 48, 53, 49, 53, 50, 53, 51, 53, 52, 53, 53, 53, 54, 53, 55, 53, 56, 53, 57, 54, 48, 54, 49, 54, 50, 54, 51, 54, 52, 54, 53, 54, 54, 54, 55, 54, 56, 54, 57, 55, 48, 55, 49, 55, 50, 55, 51, 55, 52, 55, 53, 55, 54, 55, 55, 55, 56, 55, 57, 56, 48, 56, 49, 56, 50, 56, 51, 56, 52, 56, 53, 56, 54, 56, 55, 56, 56, 56, 57, 57, 48, 57, 49, 57, 50, 57, 51, 57, 52, 57, 53, 57, 54, 57, 55, 57, 56, 57, 57])) (.int .u32 (IntKind.u32.wrap ((Int.tmod v57.2.2.1 100) * 2)))) W fun (r69 : Int) W => idx v57.1.a v57.1.len (IntKind.i64.wrap (v57.2.1 - 2)) fun p70 => st1 (p70.add (Int.toNat (IntKind.i64.wrap (v57.2.1 - 2)) * 1)) (.int .u8 r69) W fun W => B62 (v57.1, IntKind.i64.wrap (v57.2.1 - 2), IntKind.u32.wrap (Int.tdiv v57.2.2.1 100), ()) W)) ∧ (runG' Tryd.prog (.val (.one (.int .u8))) (Instr.index 9 (.string (ByteArray.mk #[48, 48, 48, 49, 48, 50, 48, 51, 48, 52, 48, 53, 48, 54, 48, 55, 48, 56, 48, 57, 49, 48, 49, 49, 49, 50, 49, 51, 49, 52, 49, 53, 49, 54, 49, 55, 49, 56, 49, 57, 50, 48, 50, 49, 50, 50, 50, 51, 50, 52, 50, 53, 50, 54, 50, 55, 50, 56, 50, 57, 51, 48, 51, 49, 51, 50, 51, 51, 51, 52, 51, 53, 51, 54, 51, 55, 51, 56, 51, 57, 52, 48, 52, 49, 52, 50, 52, 51, 52, 52, 52, 53, 52, 54, 52, 55, 52, 56, 52, 57, 53, 48, 53, 49, 53, 50, 53, 51, 53, 52, 53, 53, 53, 54, 53, 55, 53, 56, 53, 57, 54, 48, 54, 49, 54, 50, 54, 51, 54, 52, 54, 53, 54, 54, 54, 55, 54, 56, 54, 57, 55, 48, 55, 49, 55, 50, 55, 51, 55, 52, 55, 53, 55, 54, 55, 55, 55, 56, 55, 57, 56, 48, 56, 49, 56, 50, 56, 51, 56, 52, 56, 53, 56, 54, 56, 55, 56, 56, 56, 57, 57, 48, 57, 49, 57, 50, 57, 51, 57, 52, 57, 53, 57, 54, 57, 55, 57, 56, 57, 57])) (.int .u32 (IntKind.u32.wrap ((Int.tmod v57.2.2.1 100) * 2)))) W fun (r71 : Int) W => runG' Tryd.prog (.val (.one (.int .u8))) (Instr.index 9 (.string (ByteArray.mk #[48, 48, 48, 49, 48, 50, 48, 51, 48, 52, 48, 53, 48, 54, 48, 55, 48, 56, 48, 57, 49, 48, 49, 49, 49, 50, 49, 51, 49, 52, 49, 53, 49, 54, 49, 55, 49, 56, 49, 57, 50, 48, 50, 49, 50, 50, 50, 51, 50, 52, 50, 53, 50, 54, 50, 55, 50, 56, 50, 57, 51, 48, 51, 49, 51, 50, 51, 51, 51, 52, 51, 53, 51, 54, 51, 55, 51, 56, 51, 57, 52, 48, 52, 49, 52, 50, 52, 51, 52, 52, 52, 53, 52, 54, 52, 55, 52, 56, 52, 57, 53, 48, 53, 49, 53, 50, 53, 51, 53, 52, 53, 53, 53, 54, 53, 55, 53, 56, 53, 57, 54, 48, 54, 49, 54, 50, 54, 51, 54, 52, 54, 53, 54, 54, 54, 55, 54, 56, 54, 57, 55, 48, 55, 49, 55, 50, 55, 51, 55, 52, 55, 53, 55, 54, 55, 55, 55, 56, 55, 57, 56, 48, 56, 49, 56, 50, 56, 51, 56, 52, 56, 53, 56, 54, 56, 55, 56, 56, 56, 57, 57, 48, 57, 49, 57, 50, 57, 51, 57, 52, 57, 53, 57, 54, 57, 55, 57, 56, 57, 57])) (.int .u32 (IntKind.u32.wrap ((IntKind.u32.wrap ((Int.tmod v57.2.2.1 100) * 2)) + 1)))) W fun (r72 : Int) W => idx v57.1.a v57.1.len (IntKind.i64.wrap (v57.2.1 - 1)) fun p73 => st1 (p73.add (Int.toNat (IntKind.i64.wrap (v57.2.1 - 1)) * 1)) (.int .u8 r72) W fun W => idx v57.1.a v57.1.len (IntKind.i64.wrap (v57.2.1 - 2)) fun p74 => st1 (p74.add (Int.toNat (IntKind.i64.wrap (v57.2.1 - 2)) * 1)) (.int .u8 r71) W fun W => B62 (v57.1, IntKind.i64.wrap (v57.2.1 - 2), IntKind.u32.wrap (Int.tdiv v57.2.2.1 100), ()) W)))) (B62 (v57.1, v57.2.1, v57.2.2.1, ()) W)) fun B59 => ifB (decide ((v1.2.2.1 : Int) ≥ 4)) ((10000 : Int) ≠ 0 ∧ ((10000 : Int) ≠ 0 ∧ ((100 : Int) ≠ 0 ∧ ((100 : Int) ≠ 0 ∧ (JoinG (V := Sl × Int × Int × Int × Unit) (fun v75 W => ∀ j76 : Nat → Value, drwG W fun W => holdG W fun S78 => (runG' Tryd.prog (.val (.one (.int .u8))) (Instr.index 9 (.string (ByteArray.mk #[48, 48, 48, 49, 48, 50, 48, 51, 48, 52, 48, 53, 48, 54, 48, 55, 48, 56, 48, 57, 49, 48, 49, 49, 49, 50, 49, 51, 49, 52, 49, 53, 49, 54, 49, 55, 49, 56, 49, 57, 50, 48, 50, 49, 50, 50, 50, 51, 50, 52, 50, 53, 50, 54, 50, 55, 50, 56, 50, 57, 51, 48, 51, 49, 51, 50, 51, 51, 51, 52, 51, 53, 51, 54, 51, 55, 51, 56, 51, 57, 52, 48, 52, 49, 52, 50, 52, 51, 52, 52, 52, 53, 52, 54, 52, 55, 52, 56, 52, 57, 53, 48, 53, 49, 53, 50, 53, 51, 53, 52, 53, 53, 53, 54, 53, 55, 53, 56, 53, 57, 54, 48, 54, 49, 54, 50, 54, 51, 54, 52, 54, 53, 54, 54, 54, 55, 54, 56, 54, 57, 55, 48, 55, 49, 55, 50, 55, 51, 55, 52, 55, 53, 55, 54, 55, 55, 55, 56, 55, 57, 56, 48, 56, 49, 56, 50, 56, 51, 56, 52, 56, 53, 56, 54, 56, 55, 56, 56, 56, 57, 57, 48, 57, 49, 57, 50, 57, 51, 57, 52, 57, 53, 57, 54, 57, 55, 57, 56, 57, 57])) (.int .u32 (IntKind.u32.wrap (v75.2.2.2.1 + 1)))) W fun (r79 : Int) W => idx v75.1.a v75.1.len (IntKind.i64.wrap (v75.2.1 - 3)) fun p80 => (runG' Tryd.prog (.val (.one (.int .u8))) (Instr.index 9 (.string (ByteArray.mk #[48, 48, 48, 49, 48, 50, 48, 51, 48, 52, 48, 53, 48, 54, 48, 55, 48, 56, 48, 57, 49, 48, 49, 49, 49, 50, 49, 51, 49, 52, 49, 53, 49, 54, 49, 55, 49, 56, 49, 57, 50, 48, 50, 49, 50, 50, 50, 51, 50, 52, 50, 53, 50, 54, 50, 55, 50, 56, 50, 57, 51, 48, 51, 49, 51, 50, 51, 51, 51, 52, 51, 53, 51, 54, 51, 55, 51, 56, 51, 57, 52, 48, 52, 49, 52, 50, 52, 51, 52, 52, 52, 53, 52, 54, 52, 55, 52, 56, 52, 57, 53, 48, 53, 49, 53, 50, 53, 51, 53, 52, 53, 53, 53, 54, 53, 55, 53, 56, 53, 57, 54, 48, 54, 49, 54, 50, 54, 51, 54, 52, 54, 53, 54, 54, 54, 55, 54, 56, 54, 57, 55, 48, 55, 49, 55, 50, 55, 51, 55, 52, 55, 53, 55, 54, 55, 55, 55, 56, 55, 57, 56, 48, 56, 49, 56, 50, 56, 51, 56, 52, 56, 53, 56, 54, 56, 55, 56, 56, 56, 57, 57, 48, 57, 49, 57, 50, 57, 51, 57, 52, 57, 53, 57, 54, 57, 55, 57, 56, 57, 57])) (.int .u32 v75.2.2.2.1)) W fun (r81 : Int) W => st1 (p80.add (Int.toNat (IntKind.i64.wrap (v75.2.1 - 3)) * 1)) (.int .u8 r79) W fun W => idx v75.1.a v75.1.len (IntKind.i64.wrap (v75.2.1 - 4)) fun p82 => st1 (p82.add (Int.toNat (IntKind.i64.wrap (v75.2.1 - 4)) * 1)) (.int .u8 r81) W fun W => B59 (v75.1, IntKind.i64.wrap (v75.2.1 - 4), v75.2.2.1, ()) W) ∧ (st1 (p80.add (Int.toNat (IntKind.i64.wrap (v75.2.1 - 3)) * 1)) (.int .u8 r79) W fun W => runG' Tryd.prog (.val (.one (.int .u8))) (Instr.index 9 (.string (ByteArray.mk #[48, 48, 48, 49, 48, 50, 48, 51, 48, 52, 48, 53, 48, 54, 48, 55, 48, 56, 48, 57, 49, 48, 49, 49, 49, 50, 49, 51, 49, 52, 49, 53, 49, 54, 49, 55, 49, 56, 49, 57, 50, 48, 50, 49, 50, 50, 50, 51, 50, 52, 50, 53, 50, 54, 50, 55, 50, 56, 50, 57, 51, 48, 51, 49, 51, 50, 51, 51, 51, 52, 51, 53, 51, 54, 51, 55, 51, 56, 51, 57, 52, 48, 52, 49, 52, 50, 52, 51, 52, 52, 52, 53, 52, 54, 52, 55, 52, 56, 52, 57, 53, 48, 53, 49, 53, 50, 53, 51, 53, 52, 53, 53, 53, 54, 53, 55, 53, 56, 53, 57, 54, 48, 54, 49, 54, 50, 54, 51, 54, 52, 54, 53, 54, 54, 54, 55, 54, 56, 54, 57, 55, 48, 55, 49, 55, 50, 55, 51, 55, 52, 55, 53, 55, 54, 55, 55, 55, 56, 55, 57, 56, 48, 56, 49, 56, 50, 56, 51, 56, 52, 56, 53, 56, 54, 56, 55, 56, 56, 56, 57, 57, 48, 57, 49, 57, 50, 57, 51, 57, 52, 57, 53, 57, 54, 57, 55, 57, 56, 57, 57])) (.int .u32 v75.2.2.2.1)) W fun (r83 : Int) W => idx v75.1.a v75.1.len (IntKind.i64.wrap (v75.2.1 - 4)) fun p84 => st1 (p84.add (Int.toNat (IntKind.i64.wrap (v75.2.1 - 4)) * 1)) (.int .u8 r83) W fun W => B59 (v75.1, IntKind.i64.wrap (v75.2.1 - 4), v75.2.2.1, ()) W)) ∧ (runG' Tryd.prog (.val (.one (.int .u8))) (Instr.index 9 (.string (ByteArray.mk #[48, 48, 48, 49, 48, 50, 48, 51, 48, 52, 48, 53, 48, 54, 48, 55, 48, 56, 48, 57, 49, 48, 49, 49, 49, 50, 49, 51, 49, 52, 49, 53, 49, 54, 49, 55, 49, 56, 49, 57, 50, 48, 50, 49, 50, 50, 50, 51, 50, 52, 50, 53, 50, 54, 50, 55, 50, 56, 50, 57, 51, 48, 51, 49, 51, 50, 51, 51, 51, 52, 51, 53, 51, 54, 51, 55, 51, 56, 51, 57, 52, 48, 52, 49, 52, 50, 52, 51, 52, 52, 52, 53, 52, 54, 52, 55, 52, 56, 52, 57, 53, 48, 53, 49, 53, 50, 53, 51, 53, 52, 53, 53, 53, 54, 53, 55, 53, 56, 53, 57, 54, 48, 54, 49, 54, 50, 54, 51, 54, 52, 54, 53, 54, 54, 54, 55, 54, 56, 54, 57, 55, 48, 55, 49, 55, 50, 55, 51, 55, 52, 55, 53, 55, 54, 55, 55, 55, 56, 55, 57, 56, 48, 56, 49, 56, 50, 56, 51, 56, 52, 56, 53, 56, 54, 56, 55, 56, 56, 56, 57, 57, 48, 57, 49, 57, 50, 57, 51, 57, 52, 57, 53, 57, 54, 57, 55, 57, 56, 57, 57])) (.int .u32 v75.2.2.2.1)) W fun (r85 : Int) W => runG' Tryd.prog (.val (.one (.int .u8))) (Instr.index 9 (.string (ByteArray.mk #[48, 48, 48, 49, 48, 50, 48, 51, 48, 52, 48, 53, 48, 54, 48, 55, 48, 56, 48, 57, 49, 48, 49, 49, 49, 50, 49, 51, 49, 52, 49, 53, 49, 54, 49, 55, 49, 56, 49, 57, 50, 48, 50, 49, 50, 50, 50, 51, 50, 52, 50, 53, 50, 54, 50, 55, 50, 56, 50, 57, 51, 48, 51, 49, 51, 50, 51, 51, 51, 52, 51, 53, 51, 54, 51, 55, 51, 56, 51, 57, 52, 48, 52, 49, 52, 50, 52, 51, 52, 52, 52, 53, 52, 54, 52, 55, 52, 56, 52, 57, 53, 48, 53, 49, 53, 50, 53, 51, 53, 52, 53, 53, 53, 54, 53, 55, 53, 56, 53, 57, 54, 48, 54, 49, 54, 50, 54, 51, 54, 52, 54, 53, 54, 54, 54, 55, 54, 56, 54, 57, 55, 48, 55, 49, 55, 50, 55, 51, 55, 52, 55, 53, 55, 54, 55, 55, 55, 56, 55, 57, 56, 48, 56, 49, 56, 50, 56, 51, 56, 52, 56, 53, 56, 54, 56, 55, 56, 56, 56, 57, 57, 48, 57, 49, 57, 50, 57, 51, 57, 52, 57, 53, 57, 54, 57, 55, 57, 56, 57, 57])) (.int .u32 (IntKind.u32.wrap (v75.2.2.2.1 + 1)))) W fun (r86 : Int) W => idx v75.1.a v75.1.len (IntKind.i64.wrap (v75.2.1 - 3)) fun p87 => st1 (p87.add (Int.toNat (IntKind.i64.wrap (v75.2.1 - 3)) * 1)) (.int .u8 r86) W fun W => idx v75.1.a v75.1.len (IntKind.i64.wrap (v75.2.1 - 4)) fun p88 => st1 (p88.add (Int.toNat (IntKind.i64.wrap (v75.2.1 - 4)) * 1)) (.int .u8 r85) W fun W => B59 (v75.1, IntKind.i64.wrap (v75.2.1 - 4), v75.2.2.1, ()) W)) fun B77 => drwG W fun W => holdG W fun S89 => (runG' Tryd.prog (.val (.one (.int .u8))) (Instr.index 9 (.string (ByteArray.mk #[48, 48, 48, 49, 48, 50, 48, 51, 48, 52, 48, 53, 48, 54, 48, 55, 48, 56, 48, 57, 49, 48, 49, 49, 49, 50, 49, 51, 49, 52, 49, 53, 49, 54, 49, 55, 49, 56, 49, 57, 50, 48, 50, 49, 50, 50, 50, 51, 50, 52, 50, 53, 50, 54, 50, 55, 50, 56, 50, 57, 51, 48, 51, 49, 51, 50, 51, 51, 51, 52, 51, 53, 51, 54, 51, 55, 51, 56, 51, 57, 52, 48, 52, 49, 52, 50, 52, 51, 52, 52, 52, 53, 52, 54, 52, 55, 52, 56, 52, 57, 53, 48, 53, 49, 53, 50, 53, 51, 53, 52, 53, 53, 53, 54, 53, 55, 53, 56, 53, 57, 54, 48, 54, 49, 54, 50, 54, 51, 54, 52, 54, 53, 54, 54, 54, 55, 54, 56, 54, 57, 55, 48, 55, 49, 55, 50, 55, 51, 55, 52, 55, 53, 55, 54, 55, 55, 55, 56, 55, 57, 56, 48, 56, 49, 56, 50, 56, 51, 56, 52, 56, 53, 56, 54, 56, 55, 56, 56, 56, 57, 57, 48, 57, 49, 57, 50, 57, 51, 57, 52, 57, 53, 57, 54, 57, 55, 57, 56, 57, 57])) (.int .u32 (IntKind.u32.wrap ((IntKind.u32.wrap ((Int.tmod (Int.tmod (IntKind.u32.wrap v1.2.1) 10000) 100) * 2)) + 1)))) W fun (r90 : Int) W => idx v1.1.a v1.1.len (IntKind.i64.wrap (v1.2.2.1 - 1)) fun p91 => (runG' Tryd.prog (.val (.one (.int .u8))) (Instr.index 9 (.string (ByteArray.mk #[48, 48, 48, 49, 48, 50, 48, 51, 48, 52, 48, 53, 48, 54, 48, 55, 48, 56, 48, 57, 49, 48, 49, 49, 49, 50, 49, 51, 49, 52, 49, 53, 49, 54, 49, 55, 49, 56, 49, 57, 50, 48, 50, 49, 50, 50, 50, 51, 50, 52, 50, 53, 50, 54, 50, 55, 50, 56, 50, 57, 51, 48, 51, 49, 51, 50, 51, 51, 51, 52, 51, 53, 51, 54, 51, 55, 51, 56, 51, 57, 52, 48, 52, 49, 52, 50, 52, 51, 52, 52, 52, 53, 52, 54, 52, 55, 52, 56, 52, 57, 53, 48, 53, 49, 53, 50, 53, 51, 53, 52, 53, 53, 53, 54, 53, 55, 53, 56, 53, 57, 54, 48, 54, 49, 54, 50, 54, 51, 54, 52, 54, 53, 54, 54, 54, 55, 54, 56, 54, 57, 55, 48, 55, 49, 55, 50, 55, 51, 55, 52, 55, 53, 55, 54, 55, 55, 55, 56, 55, 57, 56, 48, 56, 49, 56, 50, 56, 51, 56, 52, 56, 53, 56, 54, 56, 55, 56, 56, 56, 57, 57, 48, 57, 49, 57, 50, 57, 51, 57, 52, 57, 53, 57, 54, 57, 55, 57, 56, 57, 57])) (.int .u32 (IntKind.u32.wrap ((Int.tmod (Int.tmod (IntKind.u32.wrap v1.2.1) 10000) 100) * 2)))) W fun (r92 : Int) W => st1 (p91.add (Int.toNat (IntKind.i64.wrap (v1.2.2.1 - 1)) * 1)) (.int .u8 r90) W fun W => idx v1.1.a v1.1.len (IntKind.i64.wrap (v1.2.2.1 - 2)) fun p93 => st1 (p93.add (Int.toNat (IntKind.i64.wrap (v1.2.2.1 - 2)) * 1)) (.int .u8 r92) W fun W => B77 (v1.1, v1.2.2.1, IntKind.u32.wrap (Int.tdiv (IntKind.u32.wrap v1.2.1) 10000), IntKind.u32.wrap ((IntKind.u32.wrap (Int.tdiv (Int.tmod (IntKind.u32.wrap v1.2.1) 10000) 100)) * 2), ()) W) ∧ (st1 (p91.add (Int.toNat (IntKind.i64.wrap (v1.2.2.1 - 1)) * 1)) (.int .u8 r90) W fun W => runG' Tryd.prog (.val (.one (.int .u8))) (Instr.index 9 (.string (ByteArray.mk #[48, 48, 48, 49, 48, 50, 48, 51, 48, 52, 48, 53, 48, 54, 48, 55, 48, 56, 48, 57, 49, 48, 49, 49, 49, 50, 49, 51, 49, 52, 49, 53, 49, 54, 49, 55, 49, 56, 49, 57, 50, 48, 50, 49, 50, 50, 50, 51, 50, 52, 50, 53, 50, 54, 50, 55, 50, 56, 50, 57, 51, 48, 51, 49, 51, 50, 51, 51, 51, 52, 51, 53, 51, 54, 51, 55, 51, 56, 51, 57, 52, 48, 52, 49, 52, 50, 52, 51, 52, 52, 52, 53, 52, 54, 52, 55, 52, 56, 52, 57, 53, 48, 53, 49, 53, 50, 53, 51, 53, 52, 53, 53, 53, 54, 53, 55, 53, 56, 53, 57, 54, 48, 54, 49, 54, 50, 54, 51, 54, 52, 54, 53, 54, 54, 54, 55, 54, 56, 54, 57, 55, 48, 55, 49, 55, 50, 55, 51, 55, 52, 55, 53, 55, 54, 55, 55, 55, 56, 55, 57, 56, 48, 56, 49, 56, 50, 56, 51, 56, 52, 56, 53, 56, 54, 56, 55, 56, 56, 56, 57, 57, 48, 57, 49, 57, 50, 57, 51, 57, 52, 57, 53, 57, 54, 57, 55, 57, 56, 57, 57])) (.int .u32 (IntKind.u32.wrap ((Int.tmod (Int.tmod (IntKind.u32.wrap v1.2.1) 10000) 100) * 2)))) W fun (r94 : Int) W => idx v1.1.a v1.1.len (IntKind.i64.wrap (v1.2.2.1 - 2)) fun p95 => st1 (p95.add (Int.toNat (IntKind.i64.wrap (v1.2.2.1 - 2)) * 1)) (.int .u8 r94) W fun W => B77 (v1.1, v1.2.2.1, IntKind.u32.wrap (Int.tdiv (IntKind.u32.wrap v1.2.1) 10000), IntKind.u32.wrap ((IntKind.u32.wrap (Int.tdiv (Int.tmod (IntKind.u32.wrap v1.2.1) 10000) 100)) * 2), ()) W)) ∧ (runG' Tryd.prog (.val (.one (.int .u8))) (Instr.index 9 (.string (ByteArray.mk #[48, 48, 48, 49, 48, 50, 48, 51, 48, 52, 48, 53, 48, 54, 48, 55, 48, 56, 48, 57, 49, 48, 49, 49, 49, 50, 49, 51, 49, 52, 49, 53, 49, 54, 49, 55, 49, 56, 49, 57, 50, 48, 50, 49, 50, 50, 50, 51, 50, 52, 50, 53, 50, 54, 50, 55, 50, 56, 50, 57, 51, 48, 51, 49, 51, 50, 51, 51, 51, 52, 51, 53, 51, 54, 51, 55, 51, 56, 51, 57, 52, 48, 52, 49, 52, 50, 52, 51, 52, 52, 52, 53, 52, 54, 52, 55, 52, 56, 52, 57, 53, 48, 53, 49, 53, 50, 53, 51, 53, 52, 53, 53, 53, 54, 53, 55, 53, 56, 53, 57, 54, 48, 54, 49, 54, 50, 54, 51, 54, 52, 54, 53, 54, 54, 54, 55, 54, 56, 54, 57, 55, 48, 55, 49, 55, 50, 55, 51, 55, 52, 55, 53, 55, 54, 55, 55, 55, 56, 55, 57, 56, 48, 56, 49, 56, 50, 56, 51, 56, 52, 56, 53, 56, 54, 56, 55, 56, 56, 56, 57, 57, 48, 57, 49, 57, 50, 57, 51, 57, 52, 57, 53, 57, 54, 57, 55, 57, 56, 57, 57])) (.int .u32 (IntKind.u32.wrap ((Int.tmod (Int.tmod (IntKind.u32.wrap v1.2.1) 10000) 100) * 2)))) W fun (r96 : Int) W => runG' Tryd.prog (.val (.one (.int .u8))) (Instr.index 9 (.string (ByteArray.mk #[48, 48, 48, 49, 48, 50, 48, 51, 48, 52, 48, 53, 48, 54, 48, 55, 48, 56, 48, 57, 49, 48, 49, 49, 49, 50, 49, 51, 49, 52, 49, 53, 49, 54, 49, 55, 49, 56, 49, 57, 50, 48, 50, 49, 50, 50, 50, 51, 50, 52, 50, 53, 50, 54, 50, 55, 50, 56, 50, 57, 51, 48, 51, 49, 51, 50, 51, 51, 51, 52, 51, 53, 51, 54, 51, 55, 51, 56, 51, 57, 52, 48, 52, 49, 52, 50, 52, 51, 52, 52, 52, 53, 52, 54, 52, 55, 52, 56, 52, 57, 53, 48, 53, 49, 53, 50, 53, 51, 53, 52, 53, 53, 53, 54, 53, 55, 53, 56, 53, 57, 54, 48, 54, 49, 54, 50, 54, 51, 54, 52, 54, 53, 54, 54, 54, 55, 54, 56, 54, 57, 55, 48, 55, 49, 55, 50, 55, 51, 55, 52, 55, 53, 55, 54, 55, 55, 55, 56, 55, 57, 56, 48, 56, 49, 56, 50, 56, 51, 56, 52, 56, 53, 56, 54, 56, 55, 56, 56, 56, 57, 57, 48, 57, 49, 57, 50, 57, 51, 57, 52, 57, 53, 57, 54, 57, 55, 57, 56, 57, 57])) (.int .u32 (IntKind.u32.wrap ((IntKind.u32.wrap ((Int.tmod (Int.tmod (IntKind.u32.wrap v1.2.1) 10000) 100) * 2)) + 1)))) W fun (r97 : Int) W => idx v1.1.a v1.1.len (IntKind.i64.wrap (v1.2.2.1 - 1)) fun p98 => st1 (p98.add (Int.toNat (IntKind.i64.wrap (v1.2.2.1 - 1)) * 1)) (.int .u8 r97) W fun W => idx v1.1.a v1.1.len (IntKind.i64.wrap (v1.2.2.1 - 2)) fun p99 => st1 (p99.add (Int.toNat (IntKind.i64.wrap (v1.2.2.1 - 2)) * 1)) (.int .u8 r96) W fun W => B77 (v1.1, v1.2.2.1, IntKind.u32.wrap (Int.tdiv (IntKind.u32.wrap v1.2.1) 10000), IntKind.u32.wrap ((IntKind.u32.wrap (Int.tdiv (Int.tmod (IntKind.u32.wrap v1.2.1) 10000) 100)) * 2), ()) W)))))) (B59 (v1.1, v1.2.2.1, IntKind.u32.wrap v1.2.1, ()) W))
theorem eq55 (a0 : Sl) (a1 : Int) (W : World) (K : Unit → World → Prop) : G55 a0 a1 W K = cFn Tryd.prog (.seq .n (.seq (.blk (.loop 167 [(0, .sl), (1, .int .u64), (4, .int .i64)] (.seq (.seq .n (.cond .n .n)) (.blk (.seq .n (.seq .n (.seq .n (.seq .n (.seq .n (.join 167 [(0, .sl), (1, .int .u64), (4, .int .i64), (8, .int .u32), (10, .int .u32), (11, .int .u32)] .n (.join 167 [(0, .sl), (1, .int .u64), (4, .int .i64), (10, .int .u32), (11, .int .u32)] .n (.join 167 [(0, .sl), (1, .int .u64), (4, .int .i64), (10, .int .u32)] .n (.seq .n .n))))))))))))) (.seq .n (.join 167 [(0, .sl), (4, .int .i64), (12, .int .u32)] (.seq .n (.cond (.seq .n (.seq .n (.seq .n (.join 167 [(0, .sl), (4, .int .i64), (12, .int .u32), (14, .int .u32)] .n (.seq .n .n))))) .n)) (.join 167 [(0, .sl), (4, .int .i64), (12, .int .u32)] (.seq .n (.cond (.seq .n (.seq .n (.seq .n .n))) .n)) (.seq .n (.cond .n .n))))))) Tryd.f55 [(.slice a0.a a0.len a0.cap), (.int .u64 a1)] [] W K := by kernel_rfl
theorem call55 (a0 : Sl) (a1 : Int) (W : World) (K : Unit → World → Prop) (h : G55 a0 a1 W K) : callG Tryd.prog 55 [(.slice a0.a a0.len a0.cap), (.int .u64 a1)] [] W K :=
  cFn_sound mixedDtr55 Tryd.func55 (Eq.mp (eq55 a0 a1 W K) h)

end Go.Proofs.YtabeehbgoljddaaDoor
set_option linter.unusedSimpArgs false
set_option linter.unusedVariables false
set_option maxRecDepth 20000
namespace Go.Proofs.YtabeehbgoljddaaDoor
open Go Go.RowKit Go.Gp
/-- A block of 24 bytes. -/
def BU (W : World) (b : Nat) : Prop := ∃ cs : List Value, cs.length = 24 ∧ (∀ v ∈ cs, ∃ x : UInt8, v = .int .u8 (x.toNat : Int)) ∧ Blk W b cs 98
theorem BU.drew {W : World} {b : Nat} (h : BU W b) : BU W.drew b := h
theorem bu_st {W : World} {b i : Nat} {x : UInt8} {K : World → Prop} (h : BU W b) (hi : i + 1 < 24) (hk : ∀ W', Keeps [b] W W' → BU W' b → K W') : st1 ((Addr.mk b 1 none).add (i * 1)) (.int .u8 (x.toNat : Int)) W K := by
  obtain ⟨cs, h1, h2, h3⟩ := h
  rw [addr_add, Nat.mul_one]
  refine st_blk' h3 (by omega) fun W' k h4 => hk W' k ⟨_, by simpa using h1, fun v hv => ?_, h4⟩
  rcases List.mem_or_eq_of_mem_set hv with h | h
  · exact h2 v h
  · exact ⟨x, h⟩
theorem bu_st' {W : World} {b : Nat} {i y : Int} {x : UInt8} {K : World → Prop} (h : BU W b) (h0 : 0 ≤ i) (hi : i + 1 < 24) (hy : y = (x.toNat : Int)) (hk : ∀ W', Keeps [b] W W' → BU W' b → K W') : st1 ((Addr.mk b 1 none).add (Int.toNat i * 1)) (.int .u8 y) W K := by
  subst hy
  exact bu_st h (by omega) hk
theorem run_ix {s : ByteArray} {k : IntKind} {z : Int} (h0 : 0 ≤ z) (h1 : z < (s.size : Int)) {W : World} {K : Int → World → Prop} (hk : ∀ u : UInt8, K (u.toNat : Int) W) : runG' Tryd.prog (.val (.one (.int .u8))) (Instr.index 9 (.string s) (.int k z)) W K := by
  obtain ⟨u, hu⟩ := ix_str s k z h0 h1 W
  exact ⟨(u.toNat : Int), W, hu, hk u⟩
theorem ix_i {b n cap : Nat} {i : Int} {K : Addr → Prop} (h0 : 0 ≤ i) (h1 : i < (n : Int)) (hk : K (Addr.mk b 1 none)) : idx (Sl.mk (some (Addr.mk b 1 none)) n cap).a (Sl.mk (some (Addr.mk b 1 none)) n cap).len i K := ⟨_, rfl, h0, h1, hk⟩
/-- Two bytes are written, in whatever order what is read is read. -/
theorem blk3 {b n cap : Nat} {s : ByteArray} {x1 x0 i1 i0 : Int} {W : World} {C : World → Prop} (hn : n + 1 ≤ 24) (h : BU W b) (hs : s.size = 200) (a0 : 0 ≤ x0) (a1 : x0 < 200) (c0 : 0 ≤ x1) (c1 : x1 < 200) (d0 : 0 ≤ i0) (d1 : i0 < (n : Int)) (e0 : 0 ≤ i1) (e1 : i1 < (n : Int))
    (hC : ∀ W', Keeps [b] W W' → BU W' b → C W') : drwG W fun W => holdG W fun S => (runG' Tryd.prog (.val (.one (.int .u8))) (Instr.index 9 (.string s) (.int .u32 x1)) W fun (r : Int) W => idx (Sl.mk (some (Addr.mk b 1 none)) n cap).a (Sl.mk (some (Addr.mk b 1 none)) n cap).len i1 fun p => (runG' Tryd.prog (.val (.one (.int .u8))) (Instr.index 9 (.string s) (.int .u32 x0)) W fun (r' : Int) W => st1 (p.add (Int.toNat i1 * 1)) (.int .u8 r) W fun W => idx (Sl.mk (some (Addr.mk b 1 none)) n cap).a (Sl.mk (some (Addr.mk b 1 none)) n cap).len i0 fun p' => st1 (p'.add (Int.toNat i0 * 1)) (.int .u8 r') W C) ∧ (st1 (p.add (Int.toNat i1 * 1)) (.int .u8 r) W fun W => runG' Tryd.prog (.val (.one (.int .u8))) (Instr.index 9 (.string s) (.int .u32 x0)) W fun (r' : Int) W => idx (Sl.mk (some (Addr.mk b 1 none)) n cap).a (Sl.mk (some (Addr.mk b 1 none)) n cap).len i0 fun p' => st1 (p'.add (Int.toNat i0 * 1)) (.int .u8 r') W C)) ∧ (runG' Tryd.prog (.val (.one (.int .u8))) (Instr.index 9 (.string s) (.int .u32 x0)) W fun (r' : Int) W => runG' Tryd.prog (.val (.one (.int .u8))) (Instr.index 9 (.string s) (.int .u32 x1)) W fun (r : Int) W => idx (Sl.mk (some (Addr.mk b 1 none)) n cap).a (Sl.mk (some (Addr.mk b 1 none)) n cap).len i1 fun p => st1 (p.add (Int.toNat i1 * 1)) (.int .u8 r) W fun W => idx (Sl.mk (some (Addr.mk b 1 none)) n cap).a (Sl.mk (some (Addr.mk b 1 none)) n cap).len i0 fun p' => st1 (p'.add (Int.toNat i0 * 1)) (.int .u8 r') W C) := by
  have a1 : x0 < (s.size : Int) := by omega
  have c1 : x1 < (s.size : Int) := by omega
  have fin : ∀ (r r' : UInt8) (W1 : World), W1 = W.drew → st1 ((Addr.mk b 1 none).add (Int.toNat i1 * 1)) (.int .u8 (r.toNat : Int)) W1 fun W => idx (Sl.mk (some (Addr.mk b 1 none)) n cap).a (Sl.mk (some (Addr.mk b 1 none)) n cap).len i0 fun p' => st1 (p'.add (Int.toNat i0 * 1)) (.int .u8 (r'.toNat : Int)) W C := fun r r' W1 hW => by
    subst hW
    refine bu_st' h.drew e0 (by omega) rfl fun W2 k2 h2 => ix_i d0 d1 (bu_st' h2 d0 (by omega) rfl fun W3 k3 h3 => hC W3 ?_ h3)
    exact ((drew_keeps W _).trans k2).trans k3
  refine ⟨fun _ => True, trivial, run_ix c0 c1 fun r => ix_i e0 e1 ⟨run_ix a0 a1 fun r' => fin r r' _ rfl, bu_st' h.drew e0 (by omega) rfl fun W2 k2 h2 => run_ix a0 a1 fun r' => ix_i d0 d1 (bu_st' h2 d0 (by omega) rfl fun W3 k3 h3 => hC W3 (((drew_keeps W _).trans k2).trans k3) h3)⟩, run_ix a0 a1 fun r' => run_ix c0 c1 fun r => ix_i e0 e1 (fin r r' _ rfl)⟩
theorem u32_le (x : Int) : 0 ≤ IntKind.u32.wrap x := by rw [IntKind.wrap_u32]; omega
theorem u32_id {x : Int} (h0 : 0 ≤ x) (h1 : x < 4294967296) : IntKind.u32.wrap x = x := by rw [IntKind.wrap_u32]; omega
theorem tm {x : Int} (h : 0 ≤ x) (m : Int) : Int.tmod x m = x % m := Int.tmod_eq_emod_of_nonneg h
theorem td {x : Int} (h : 0 ≤ x) (m : Int) : Int.tdiv x m = x / m := Int.tdiv_eq_ediv_of_nonneg h
theorem i64s {x k : Int} (h0 : k ≤ x) (h1 : x ≤ 24) (hk : 0 ≤ k) : IntKind.i64.wrap (x - k) = x - k := w64 (by omega) (by omega)
theorem fx1 {x : Int} (h0 : 0 ≤ x) (h1 : x ≤ 198) : 0 ≤ IntKind.u32.wrap (x + 1) ∧ IntKind.u32.wrap (x + 1) < 200 := by rw [u32_id (by omega) (by omega)]; omega
/-- The places of two digits. -/
theorem two_m {x : Int} (h : 0 ≤ x) : 0 ≤ IntKind.u32.wrap (Int.tmod x 100 * 2) ∧ IntKind.u32.wrap (Int.tmod x 100 * 2) ≤ 198 := by
  rw [tm h, u32_id (by omega) (by omega)]; omega
theorem two_d {x : Int} (h : 0 ≤ x) (h1 : x < 10000) : 0 ≤ IntKind.u32.wrap (IntKind.u32.wrap (Int.tdiv x 100) * 2) ∧ IntKind.u32.wrap (IntKind.u32.wrap (Int.tdiv x 100) * 2) ≤ 198 := by
  rw [td h, u32_id (x := x / 100) (by omega) (by omega), u32_id (by omega) (by omega)]; omega
theorem m4 (x : Int) (h : 0 ≤ x) : 0 ≤ Int.tmod x 10000 ∧ Int.tmod x 10000 < 10000 := by rw [tm h]; omega
theorem m8 (x : Int) (h : 0 ≤ x) : 0 ≤ Int.tmod x 100000000 ∧ Int.tmod x 100000000 < 100000000 := by rw [tm h]; omega
theorem u64_le (x : Int) : 0 ≤ IntKind.u64.wrap x := by rw [IntKind.wrap_u64]; omega
theorem c_fb (b n cap : Nat) (u : Int) (W : World) (hn : n + 1 ≤ 24) (h0 : 0 ≤ u) (hb : BU W b) (K : Unit → World → Prop) (hK : ∀ W', Keeps [b] W W' → BU W' b → K () W') : G55 ⟨some ⟨b, 1, none⟩, n, cap⟩ u W K := by
  unfold G55
  refine LoopG.rule (fun v W' => v.1 = ⟨some ⟨b, 1, none⟩, n, cap⟩ ∧ 0 ≤ v.2.1 ∧ 0 ≤ v.2.2.1 ∧ v.2.2.1 ≤ n ∧ Keeps [b] W W' ∧ BU W' b) (fun v _ => v.2.2.1.toNat) ⟨rfl, h0, Int.natCast_nonneg n, Int.le_refl _, Keeps.refl _ _, hb⟩ ?_
  rintro ⟨a, v, i, z⟩ W1 ⟨ha, hv, hi0, hin, hk, hbu⟩ C hC j2
  simp only at ha hv hi0 hin
  subst ha
  dsimp only
  refine ifD (fun h8 => ?_) fun h8 => ?_
  · refine ⟨by decide, by decide, by decide, by decide, by decide, by decide, by decide, by decide, ?_⟩
    have q1 := m8 v hv
    have q2 : IntKind.u32.wrap (Int.tmod v 100000000) = Int.tmod v 100000000 := u32_id (by omega) (by omega)
    rw [q2]
    generalize Int.tmod v 100000000 = y at q1
    have q3 := m4 y q1.1
    have q4 : IntKind.u32.wrap (Int.tdiv y 10000) = y / 10000 := by rw [td q1.1]; exact u32_id (by omega) (by omega)
    rw [q4]
    have q5 : 0 ≤ y / 10000 ∧ y / 10000 < 10000 := by omega
    refine JoinG.rule (fun v W' => v.1 = ⟨some ⟨b, 1, none⟩, n, cap⟩ ∧ 0 ≤ v.2.1 ∧ v.2.2.1 = i ∧ (0 ≤ v.2.2.2.1 ∧ v.2.2.2.1 ≤ 198) ∧ (0 ≤ v.2.2.2.2.1 ∧ v.2.2.2.2.1 ≤ 198) ∧ (0 ≤ v.2.2.2.2.2.1 ∧ v.2.2.2.2.2.1 ≤ 198) ∧ Keeps [b] W W' ∧ BU W' b) ?_ ?_
    · rintro ⟨a, v, i', x, x', x'', z⟩ W2 ⟨ha, hv2, hi, hx, hx', hx'', hk2, hb2⟩ j5
      simp only at ha hv2 hi hx hx' hx''
      subst ha hi
      dsimp only
      refine JoinG.rule (fun v W' => v.1 = ⟨some ⟨b, 1, none⟩, n, cap⟩ ∧ 0 ≤ v.2.1 ∧ v.2.2.1 = i' ∧ (0 ≤ v.2.2.2.1 ∧ v.2.2.2.1 ≤ 198) ∧ (0 ≤ v.2.2.2.2.1 ∧ v.2.2.2.2.1 ≤ 198) ∧ Keeps [b] W W' ∧ BU W' b) ?_ ?_
      · rintro ⟨a, v, i, x, x', z⟩ W2 ⟨ha, hv2, hi, hx, hx', hk2, hb2⟩ j5
        simp only at ha hv2 hi hx hx'
        subst ha hi
        dsimp only
        refine JoinG.rule (fun v W' => v.1 = ⟨some ⟨b, 1, none⟩, n, cap⟩ ∧ 0 ≤ v.2.1 ∧ v.2.2.1 = i ∧ (0 ≤ v.2.2.2.1 ∧ v.2.2.2.1 ≤ 198) ∧ Keeps [b] W W' ∧ BU W' b) ?_ ?_
        · rintro ⟨a, v, i', x, z⟩ W2 ⟨ha, hv2, hi, hx, hk2, hb2⟩ j5
          simp only at ha hv2 hi hx
          subst ha hi
          dsimp only
          rw [i64s (x := i') (k := 7) (by omega) (by omega) (by omega), i64s (x := i') (k := 8) (by omega) (by omega) (by omega)]
          refine blk3 (cap := cap) (C := fun W => C (⟨some ⟨b, 1, none⟩, n, cap⟩, v, i' - 8, ()) W) hn hb2 (by kernel_rfl) hx.1 (by omega) (fx1 hx.1 hx.2).1 (fx1 hx.1 hx.2).2 (by omega) (by omega) (by omega) (by omega) fun W3 k3 h3 => hC _ _ ⟨rfl, hv2, by dsimp only; omega, by dsimp only; omega, hk2.trans k3, h3⟩ (by dsimp only; omega)
        · intro B hB
          rw [i64s (x := i) (k := 5) (by omega) (by omega) (by omega), i64s (x := i) (k := 6) (by omega) (by omega) (by omega)]
          exact blk3 (cap := cap) (C := fun W => B (⟨some ⟨b, 1, none⟩, n, cap⟩, v, i, x, ()) W) hn hb2 (by kernel_rfl) hx'.1 (by omega) (fx1 hx'.1 hx'.2).1 (fx1 hx'.1 hx'.2).2 (by omega) (by omega) (by omega) (by omega) fun W3 k3 h3 => hB _ _ ⟨rfl, hv2, rfl, hx, hk2.trans k3, h3⟩
      · intro B hB
        rw [i64s (x := i') (k := 3) (by omega) (by omega) (by omega), i64s (x := i') (k := 4) (by omega) (by omega) (by omega)]
        exact blk3 (cap := cap) (C := fun W => B (⟨some ⟨b, 1, none⟩, n, cap⟩, v, i', x', x'', ()) W) hn hb2 (by kernel_rfl) hx.1 (by omega) (fx1 hx.1 hx.2).1 (fx1 hx.1 hx.2).2 (by omega) (by omega) (by omega) (by omega) fun W3 k3 h3 => hB _ _ ⟨rfl, hv2, rfl, hx', hx'', hk2.trans k3, h3⟩
    · intro B hB
      have r1 := two_m q3.1
      have r2 := two_d q3.1 q3.2
      have r3 := two_d q5.1 q5.2
      have r4 := two_m q5.1
      rw [i64s (x := i) (k := 1) (by omega) (by omega) (by omega), i64s (x := i) (k := 2) (by omega) (by omega) (by omega)]
      exact blk3 (cap := cap) (C := fun W => B (⟨some ⟨b, 1, none⟩, n, cap⟩, IntKind.u64.wrap (Int.tdiv v 100000000), i, IntKind.u32.wrap (IntKind.u32.wrap (Int.tdiv (Int.tmod y 10000) 100) * 2), IntKind.u32.wrap (IntKind.u32.wrap (Int.tdiv (y / 10000) 100) * 2), IntKind.u32.wrap (Int.tmod (y / 10000) 100 * 2), ()) W) hn hbu (by kernel_rfl) r1.1 (by omega) (fx1 r1.1 r1.2).1 (fx1 r1.1 r1.2).2 (by omega) (by omega) (by omega) (by omega) fun W3 k3 h3 => hB _ _ ⟨rfl, u64_le _, rfl, r2, r3, r4, hk.trans k3, h3⟩
  · refine JoinG.rule (fun v W' => v.1 = ⟨some ⟨b, 1, none⟩, n, cap⟩ ∧ 0 ≤ v.2.1 ∧ v.2.1 ≤ n ∧ 0 ≤ v.2.2.1 ∧ Keeps [b] W W' ∧ BU W' b) ?_ ?_
    · rintro ⟨a, i, us, z⟩ W2 ⟨ha, hi0, hin, hus, hk2, hb2⟩ j5
      simp only at ha hi0 hin hus
      subst ha
      dsimp only
      refine JoinG.rule (fun v W' => v.1 = ⟨some ⟨b, 1, none⟩, n, cap⟩ ∧ 0 ≤ v.2.1 ∧ v.2.1 ≤ n ∧ 0 ≤ v.2.2.1 ∧ Keeps [b] W W' ∧ BU W' b) ?_ ?_
      · rintro ⟨a, i, us, z⟩ W2 ⟨ha, hi0, hin, hus, hk2, hb2⟩ j5
        simp only at ha hi0 hin hus
        subst ha
        dsimp only
        refine ifD (fun hp => ?_) fun _ => hK _ hk2 hb2
        refine ix_i (cap := cap) (by omega) (by omega) ?_
        have e : IntKind.u8.wrap (IntKind.u32.wrap (48 + us)) = (((UInt8.ofNat (IntKind.u8.wrap (IntKind.u32.wrap (48 + us))).toNat).toNat : Nat) : Int) := by
          have : 0 ≤ IntKind.u8.wrap (IntKind.u32.wrap (48 + us)) ∧ IntKind.u8.wrap (IntKind.u32.wrap (48 + us)) < 256 := by rw [IntKind.wrap_u8]; omega
          rw [UInt8.toNat_ofNat', Nat.mod_eq_of_lt (by omega)]; omega
        exact bu_st' (i := 0) hb2 (by omega) (by omega) e fun W3 k3 h3 => hK _ (hk2.trans k3) h3
      · intro B hB
        refine ifD (fun h2 => ?_) fun _ => hB _ _ ⟨rfl, hi0, hin, hus, hk2, hb2⟩
        refine ⟨by decide, by decide, ?_⟩
        have r1 := two_m hus
        rw [i64s (x := i) (k := 1) (by omega) (by omega) (by omega), i64s (x := i) (k := 2) (by omega) (by omega) (by omega)]
        exact blk3 (cap := cap) (C := fun W => B (⟨some ⟨b, 1, none⟩, n, cap⟩, i - 2, IntKind.u32.wrap (Int.tdiv us 100), ()) W) hn hb2 (by kernel_rfl) r1.1 (by omega) (fx1 r1.1 r1.2).1 (fx1 r1.1 r1.2).2 (by omega) (by omega) (by omega) (by omega) fun W3 k3 h3 => hB _ _ ⟨rfl, by dsimp only; omega, by dsimp only; omega, u32_le _, hk2.trans k3, h3⟩
    · intro B hB
      refine ifD (fun h4 => ?_) fun _ => hB _ _ ⟨rfl, hi0, hin, u32_le _, hk, hbu⟩
      refine ⟨by decide, by decide, by decide, by decide, ?_⟩
      have q0 := u32_le v
      generalize IntKind.u32.wrap v = y at q0
      have q3 := m4 y q0
      have r1 := two_m q3.1
      have r2 := two_d q3.1 q3.2
      refine JoinG.rule (fun v W' => v.1 = ⟨some ⟨b, 1, none⟩, n, cap⟩ ∧ v.2.1 = i ∧ 0 ≤ v.2.2.1 ∧ (0 ≤ v.2.2.2.1 ∧ v.2.2.2.1 ≤ 198) ∧ Keeps [b] W W' ∧ BU W' b) ?_ ?_
      · rintro ⟨a, i', us, x, z⟩ W2 ⟨ha, hi, hus, hx, hk2, hb2⟩ j5
        simp only at ha hi hus hx
        subst ha hi
        dsimp only
        rw [i64s (x := i') (k := 3) (by omega) (by omega) (by omega), i64s (x := i') (k := 4) (by omega) (by omega) (by omega)]
        exact blk3 (cap := cap) (C := fun W => B (⟨some ⟨b, 1, none⟩, n, cap⟩, i' - 4, us, ()) W) hn hb2 (by kernel_rfl) hx.1 (by omega) (fx1 hx.1 hx.2).1 (fx1 hx.1 hx.2).2 (by omega) (by omega) (by omega) (by omega) fun W3 k3 h3 => hB _ _ ⟨rfl, by dsimp only; omega, by dsimp only; omega, hus, hk2.trans k3, h3⟩
      · intro B' hB'
        rw [i64s (x := i) (k := 1) (by omega) (by omega) (by omega), i64s (x := i) (k := 2) (by omega) (by omega) (by omega)]
        exact blk3 (cap := cap) (C := fun W => B' (⟨some ⟨b, 1, none⟩, n, cap⟩, i, IntKind.u32.wrap (Int.tdiv y 10000), IntKind.u32.wrap (IntKind.u32.wrap (Int.tdiv (Int.tmod y 10000) 100) * 2), ()) W) hn hbu (by kernel_rfl) r1.1 (by omega) (fx1 r1.1 r1.2).1 (fx1 r1.1 r1.2).2 (by omega) (by omega) (by omega) (by omega) fun W3 k3 h3 => hB' _ _ ⟨rfl, rfl, u32_le _, r2, hk.trans k3, h3⟩
end Go.Proofs.YtabeehbgoljddaaDoor
set_option linter.unusedSimpArgs false
set_option linter.unusedVariables false
namespace Go.Th
open String.Slice.Pattern
theorem app_sz (a : String) (b : String.Slice) : (a ++ b).utf8ByteSize = a.utf8ByteSize + b.utf8ByteSize := by
  show (a ++ b.copy).utf8ByteSize = _
  rw [String.utf8ByteSize_append, String.Slice.utf8ByteSize_copy]
theorem fold_sz {s : String.Slice} (r : String.Slice) {ρ : Type} {pat : ρ} [Model.PatternModel pat] [Model.StrictPatternModel pat] : ∀ {l : List (SearchStep s)} {p : s.Pos} (init : String), Model.IsValidSearchFrom pat p l →
    (l.foldl (fun x x_1 =>
      match x, x_1 with
      | sofar, SearchStep.matched startPos endPos => sofar ++ r
      | sofar, SearchStep.rejected start stop => sofar ++ s.slice! start stop) init).utf8ByteSize ≤ init.utf8ByteSize + (s.endPos.offset.byteIdx - p.offset.byteIdx) * (1 + r.utf8ByteSize) := by
  intro l
  induction l with
  | nil => intro p init h; simp
  | cons a l ih =>
    intro p init h
    cases h with
    | @matched _ _ q hm hv =>
      have h1 := ih (init ++ r) hv
      have hlt : p.offset < q.offset := String.Slice.Pos.lt_iff.1 hm.lt
      have hle : q.offset ≤ s.endPos.offset := String.Slice.Pos.le_iff.1 (String.Slice.Pos.le_endPos q)
      simp only [List.foldl_cons]
      refine Nat.le_trans h1 ?_
      rw [app_sz]
      have e1 : p.offset.byteIdx < q.offset.byteIdx := hlt
      have e2 : q.offset.byteIdx ≤ s.endPos.offset.byteIdx := hle
      have : (s.endPos.offset.byteIdx - q.offset.byteIdx + 1) * (1 + r.utf8ByteSize) ≤ (s.endPos.offset.byteIdx - p.offset.byteIdx) * (1 + r.utf8ByteSize) := Nat.mul_le_mul_right _ (by omega)
      rw [Nat.add_mul, Nat.one_mul] at this
      omega
    | @mismatched _ _ q hlt hn hv =>
      have h1 := ih (init ++ s.slice! p q) hv
      have hlt : p.offset < q.offset := String.Slice.Pos.lt_iff.1 hlt
      have hle : q.offset ≤ s.endPos.offset := String.Slice.Pos.le_iff.1 (String.Slice.Pos.le_endPos q)
      simp only [List.foldl_cons]
      refine Nat.le_trans h1 ?_
      rw [app_sz]
      have hs : (s.slice! p q).utf8ByteSize = q.offset.byteIdx - p.offset.byteIdx := by
        unfold String.Slice.slice!
        rw [dif_pos (String.Slice.Pos.le_iff.2 (Nat.le_of_lt hlt)), String.Slice.utf8ByteSize_slice]
        rfl
      have e1 : p.offset.byteIdx < q.offset.byteIdx := hlt
      have e2 : q.offset.byteIdx ≤ s.endPos.offset.byteIdx := hle
      rw [hs]
      have : (s.endPos.offset.byteIdx - q.offset.byteIdx + (q.offset.byteIdx - p.offset.byteIdx)) * (1 + r.utf8ByteSize) ≤ (s.endPos.offset.byteIdx - p.offset.byteIdx) * (1 + r.utf8ByteSize) := Nat.mul_le_mul_right _ (by omega)
      rw [Nat.add_mul, Nat.mul_add (q.offset.byteIdx - p.offset.byteIdx), Nat.mul_one] at this
      omega
theorem repl_sz (s p r : String) (hp : p ≠ "") : (s.replace p r).utf8ByteSize ≤ s.utf8ByteSize * (1 + r.utf8ByteSize) := by
  have hL := (Model.ForwardStringSearcher.lawfulToForwardSearcherModel hp).isValidSearchFrom_toList s.toSlice
  have := Model.ForwardStringSearcher.strictPatternModel hp
  unfold String.replace String.Slice.replace
  rw [← Std.Iter.foldl_toList]
  have := fold_sz (s := s.toSlice) r.toSlice (pat := p) "" hL
  refine Nat.le_trans this ?_
  simp
theorem ofl_sz : ∀ l : List Char, (String.ofList l).utf8ByteSize ≤ 4 * l.length
  | [] => by simp
  | c :: l => by
    have := ofl_sz l
    have h := Char.utf8Size_le_four c
    rw [show String.ofList (c :: l) = String.ofList [c] ++ String.ofList l from by rw [← String.ofList_append]; rfl, String.utf8ByteSize_append, ← String.singleton_eq_ofList]
    simp
    omega
theorem nat_sz (n : Nat) (h : n < 10 ^ 20) : (Nat.repr n).utf8ByteSize ≤ 80 := by
  rw [Nat.repr_eq_ofList_toDigits]
  have h1 := ofl_sz (Nat.toDigits 10 n)
  have h2 := (Nat.length_toDigits_le_iff (b := 10) (n := n) (k := 20) (by omega) (by omega)).2 h
  omega
theorem int_sz (x : Int) (h : x.natAbs < 10 ^ 20) : (toString x).utf8ByteSize ≤ 100 := by
  show (Int.repr x).utf8ByteSize ≤ 100
  cases x with
  | ofNat n => exact Nat.le_trans (nat_sz n h) (by omega)
  | negSucc n =>
    show ("-" ++ Nat.repr (n + 1)).utf8ByteSize ≤ 100
    rw [String.utf8ByteSize_append]
    have := nat_sz (n + 1) h
    have e : "-".utf8ByteSize = 1 := by decide
    omega
theorem utf_sz (s : String) : s.toUTF8.size = s.utf8ByteSize := rfl
theorem bnd_sz (fmt : String) (hf : fmt.utf8ByteSize ≤ 60) (x y : Int) (hx : x.natAbs < 10 ^ 20) (hy : y.natAbs < 10 ^ 20) : ("runtime error: " ++ (fmt.replace "%x" (toString x)).replace "%y" (toString y)).toUTF8.size ≤ 1000000 := by
  rw [utf_sz, String.utf8ByteSize_append]
  have h1 := repl_sz (fmt.replace "%x" (toString x)) "%y" (toString y) (by decide)
  have h2 := repl_sz fmt "%x" (toString x) (by decide)
  have h3 := int_sz x hx
  have h4 := int_sz y hy
  have h5 : fmt.utf8ByteSize * (1 + (toString x).utf8ByteSize) ≤ 60 * 101 := Nat.mul_le_mul hf (by omega)
  have h6 : (fmt.replace "%x" (toString x)).utf8ByteSize * (1 + (toString y).utf8ByteSize) ≤ (60 * 101) * 101 := Nat.mul_le_mul (by omega) (by omega)
  have h7 : "runtime error: ".utf8ByteSize = 15 := by decide
  omega
theorem be_run (P : Program) (x : Int) (f : Bool) (w : World) (hx : x.natAbs < 10 ^ 19) : ∃ s, (Go.Extern.RuntimeError.boundsError #[.agg #[.int .i64 x, .int .i64 0, .bool f, .int .u8 0]]).run P w = .ok (.string s) w ∧ s.size ≤ 1000000 := by
  have key : Go.Extern.RuntimeError.boundsError #[.agg #[.int .i64 x, .int .i64 0, .bool f, .int .u8 0]] = (match (if (f && decide (x < 0)) = true then Go.Extern.RuntimeError.boundsNegErrorFmts else Go.Extern.RuntimeError.boundsErrorFmts)[0]? with
    | some fmt => Go.Extern.RuntimeError.text ("runtime error: " ++ (fmt.replace "%x" (toString (if f = true then x else IntKind.u64.wrap x))).replace "%y" (toString (0 : Int)))
    | none => stuck "boundsError: no such code") := rfl
  have hx' : (if f = true then x else IntKind.u64.wrap x).natAbs < 10 ^ 20 := by
    split
    · omega
    · have : IntKind.u64.wrap x = x % 18446744073709551616 := by simp [IntKind.wrap, IntKind.bits, IntKind.signed]
      omega
  rw [key]
  cases (f && decide (x < 0)) with
  | true => exact ⟨_, rfl, bnd_sz _ (by decide) _ _ hx' (by decide)⟩
  | false => exact ⟨_, rfl, bnd_sz _ (by decide) _ _ hx' (by decide)⟩
end Go.Th
set_option linter.unusedSimpArgs false
set_option linter.unusedVariables false
set_option maxRecDepth 20000
namespace Go.Proofs.YtabeehbgoljddaaDoor
open Go Go.RowKit Go.Gp
theorem c_small (x : Int) (h0 : 0 ≤ x) (h1 : x < 100) (w : World) : Calls Tryd.prog 53 #[.int .i64 x] w fun e w' => (∃ s, e = .returned (.string s) ∧ s.size ≤ 24) ∧ w' = w := by
  by_cases h : x < 10
  · go_enter Tryd.func53, Tryd.ntmps53
    go_wp2
    rw [run_slice_string _ 9 _ .i64 .i64 _ _ Tryd.underlying9 (by omega) (by omega) (by rw [show ∀ l : Array UInt8, ByteArray.size ⟨l⟩ = l.size from fun _ => rfl]; simp; omega)]
    go_wp2
    go_ret
    exact ⟨⟨_, rfl, by rw [ByteArray.size_extract]; omega⟩, rfl⟩
  · go_enter Tryd.func53, Tryd.ntmps53
    go_wp2
    rw [run_slice_string _ 9 _ .i64 .i64 _ _ Tryd.underlying9 (by omega) (by omega) (by rw [show ∀ l : Array UInt8, ByteArray.size ⟨l⟩ = l.size from fun _ => rfl]; simp; omega)]
    go_wp2
    go_ret
    exact ⟨⟨_, rfl, by rw [ByteArray.size_extract]; omega⟩, rfl⟩
theorem uArr98 : Tryd.prog.underlying 98 = some (.array 24 5) := by kernel_rfl
theorem sz5 (w : World) : (sizeOf 5).run Tryd.prog w = .ok 1 w := by kernel_rfl
theorem sl1 (b : Nat) (nd : Int) (h0 : 0 ≤ nd) (h1 : nd ≤ 20) (w : World) : (Instr.sliceAt 98 (.pointer (some ⟨b, 0, none⟩)) (some (.int .i64 1)) (some (.int .i64 (1 + nd))) none).run Tryd.prog w = .ok (.slice (some ⟨b, 1, none⟩) nd.toNat 23) w := by
  have a1 : 0 ≤ 1 + nd ∧ 1 + nd ≤ 24 := by omega
  have a2 : (1 : Int) ≤ max (1 + nd) 0 := by omega
  have a3 : (1 + nd).toNat - 1 = nd.toNat := by omega
  simp [Instr.sliceAt, Instr.slice, Instr.sliceBounds, Instr.sliceBound, run_underlying uArr98, asIntOf, Instr.sureAddr, sz5, Result.andThen, a1.1, a1.2, a2, a3, addr_add]
theorem sl0 (b : Nat) (nd : Int) (h0 : 0 ≤ nd) (h1 : nd ≤ 20) (w : World) : (Instr.sliceAt 98 (.pointer (some ⟨b, 0, none⟩)) none (some (.int .i64 (1 + nd))) none).run Tryd.prog w = .ok (.slice (some ⟨b, 0, none⟩) (1 + nd).toNat 24) w := by
  have a1 : 0 ≤ 1 + nd ∧ 1 + nd ≤ 24 := by omega
  simp [Instr.sliceAt, Instr.slice, Instr.sliceBounds, Instr.sliceBound, run_underlying uArr98, asIntOf, Instr.sureAddr, sz5, Result.andThen, a1.1, a1.2, addr_add]
theorem ub (y : Int) : 0 ≤ IntKind.u64.wrap y ∧ IntKind.u64.wrap y < 18446744073709551616 := by rw [IntKind.wrap_u64]; omega
def byteOf : Value → UInt8
  | .int .u8 n => UInt8.ofNat n.toNat
  | _ => 0
theorem bu_str {W : World} {b off n cap : Nat} (h : BU W b) (ho : off + n ≤ 24) : ∃ s, (convert 102 9 (.slice (some ⟨b, off, none⟩) n cap)).run Tryd.prog W = .ok (.string s) W ∧ s.size ≤ 24 := by
  obtain ⟨cs, h1, h2, h3⟩ := h
  have hB : Bs W ⟨some ⟨b, off, none⟩, n, cap⟩ (((cs.map byteOf).drop off).take n) := by
    refine ⟨by simp; omega, by simp; omega, fun i x hx => ⟨_, rfl, ?_⟩⟩
    rw [addr_add, h3.cell]
    rw [List.getElem?_take] at hx
    split at hx <;> first | (cases hx; done) | skip
    rw [List.getElem?_drop, List.getElem?_map] at hx
    obtain ⟨v, hv, hx⟩ := Option.map_eq_some_iff.1 hx
    rw [hv]
    obtain ⟨y, rfl⟩ := h2 v (List.mem_of_getElem? hv)
    subst hx
    simp [byteOf]
  obtain ⟨s, W', hr, hz, hw⟩ := conv_str (P := Tryd.prog) (s := 102) (d := 9) (e := 5) (by kernel_rfl) (by kernel_rfl) (by kernel_rfl) hB (K := fun x W' => x.size ≤ 24 ∧ W' = W) ⟨by show (List.toArray _).size ≤ 24; simp; omega, rfl⟩
  subst hw
  exact ⟨s, hr, hz⟩
theorem bu_c {W : World} {b : Nat} (h : BU W b) : ∃ v, W.cell? ⟨b, 0, none⟩ = some v ∧ W.frozen? ⟨b, 0, none⟩ = false := by
  obtain ⟨cs, h1, h2, h3⟩ := h
  exact ⟨cs[0], by rw [h3.cell, List.getElem?_eq_getElem (by omega)], h3.frz 0 none⟩
theorem bu_set {W : World} {b : Nat} (h : BU W b) : BU (W.setCell ⟨b, 0, none⟩ (.int .u8 45)) b := by
  obtain ⟨cs, h1, h2, h3⟩ := h
  refine ⟨cs.set 0 (.int .u8 45), by simpa using h1, fun v hv => ?_, h3.set 0 _⟩
  rcases List.mem_or_eq_of_mem_set hv with h | h
  · exact h2 v h
  · exact ⟨45, h⟩
theorem bu_new (w : World) : BU (w.alloc (.cells #[.int .u8 0, .int .u8 0, .int .u8 0, .int .u8 0, .int .u8 0, .int .u8 0, .int .u8 0, .int .u8 0, .int .u8 0, .int .u8 0, .int .u8 0, .int .u8 0, .int .u8 0, .int .u8 0, .int .u8 0, .int .u8 0, .int .u8 0, .int .u8 0, .int .u8 0, .int .u8 0, .int .u8 0, .int .u8 0, .int .u8 0, .int .u8 0] 98)) w.heap.size :=
  ⟨List.replicate 24 (.int .u8 0), rfl, fun v hv => ⟨0, (List.mem_replicate.1 hv).2⟩, alloc_blk w _ _⟩
set_option maxHeartbeats 2000000 in
theorem c_fmt (x : Int) (h0 : -9223372036854775808 ≤ x) (h1 : x ≤ 9223372036854775807) (tab : List Value) (w : World) (hl : tab.length = 20) (ht : ∀ v ∈ tab, ∃ y : Int, v = .int .u64 y) (hb : Blk w 1 tab 107) : Calls Tryd.prog 52 #[.int .i64 x, .int .i64 10] w fun e w' => (∃ s, e = .returned (.string s) ∧ s.size ≤ 24) ∧ Keeps [] w w' := by
  by_cases hn : x < 0
  · go_enter Tryd.func52, Tryd.ntmps52
    go_wp2_with (first | (go_at_call 54; refine (c_digits _ (ub _).1 (ub _).2 tab _ hl ht (hb.keep (alloc_keeps w _ []) (by simp))).mono ?_; rintro e w' ⟨⟨nd, n0, n1, rfl⟩, rfl⟩))
    rw [sl1 _ _ n0 n1]
    go_wp2_with (first | (go_at_call 55; refine (call55 ⟨some ⟨w.heap.size, 1, none⟩, nd.toNat, 23⟩ _ _ (fun _ W' => Keeps [w.heap.size] _ W' ∧ BU W' w.heap.size) (c_fb w.heap.size nd.toNat 23 _ _ (by omega) (ub _).1 (bu_new w) _ fun W' k h => ⟨k, h⟩)).mono ?_; rintro e w2 ⟨u0, rfl, k2, hbu⟩; obtain ⟨cv, hcv, hfv⟩ := bu_c hbu))
    rw [sl0 _ _ n0 n1]
    obtain ⟨s, hs, hz⟩ := bu_str (off := 0) (n := (1 + nd).toNat) (cap := 24) (bu_set hbu) (by omega)
    go_wp2
    go_ret
    refine ⟨⟨_, rfl, hz⟩, ?_⟩
    exact ((alloc_keeps w _ []).push (k2.trans (setCell_keeps (by simp) none)) (by simp))
  · by_cases h : x < 100
    · go_enter Tryd.func52, Tryd.ntmps52
      go_wp2_with (first | (go_at_call 53; refine (c_small x (by omega) h _).mono ?_; rintro e w' ⟨⟨s, rfl, hz⟩, rfl⟩))
      go_ret
      exact ⟨⟨_, rfl, hz⟩, Keeps.refl _ _⟩
    · go_enter Tryd.func52, Tryd.ntmps52
      go_wp2_with (first | (go_at_call 54; refine (c_digits _ (by omega) (by omega) tab _ hl ht (hb.keep (alloc_keeps w _ []) (by simp))).mono ?_; rintro e w' ⟨⟨nd, n0, n1, rfl⟩, rfl⟩))
      rw [sl1 _ _ n0 n1]
      go_wp2_with (first | (go_at_call 55; refine (call55 ⟨some ⟨w.heap.size, 1, none⟩, nd.toNat, 23⟩ _ _ (fun _ W' => Keeps [w.heap.size] _ W' ∧ BU W' w.heap.size) (c_fb w.heap.size nd.toNat 23 _ _ (by omega) (by omega) (bu_new w) _ fun W' k h => ⟨k, h⟩)).mono ?_; rintro e w2 ⟨u0, rfl, k2, hbu⟩; obtain ⟨cv, hcv, hfv⟩ := bu_c hbu))
      rw [sl1 _ _ n0 n1]
      obtain ⟨s, hs, hz⟩ := bu_str (off := 1) (n := nd.toNat) (cap := 23) hbu (by omega)
      go_wp2
      go_ret
      exact ⟨⟨_, rfl, hz⟩, (alloc_keeps w _ []).push k2 (by simp)⟩
section
variable (tab : List Value) (w : World) (hl : tab.length = 20) (ht : ∀ v ∈ tab, ∃ y : Int, v = .int .u64 y) (hb : Blk w 1 tab 107)
include hl ht hb
theorem c_itoa (x : Int) (h0 : -9223372036854775808 ≤ x) (h1 : x ≤ 9223372036854775807) : Calls Tryd.prog 51 #[.int .i64 x] w fun e w' => (∃ s, e = .returned (.string s) ∧ s.size ≤ 24) ∧ Keeps [] w w' := by
  go_enter Tryd.func51, Tryd.ntmps51
  go_wp2_with (go_at_call 52; refine (c_fmt x h0 h1 tab _ hl ht hb).mono ?_; rintro e w' ⟨⟨s, rfl, hz⟩, hk⟩)
  go_ret
  exact ⟨⟨_, rfl, hz⟩, hk⟩
theorem c_itoa' (x : Int) (h0 : -9223372036854775808 ≤ x) (h1 : x ≤ 9223372036854775807) : Calls Tryd.prog 50 #[.int .i64 x] w fun e w' => (∃ s, e = .returned (.string s) ∧ s.size ≤ 24) ∧ Keeps [] w w' := by
  go_enter Tryd.func50, Tryd.ntmps50
  go_wp2_with (go_at_call 51; refine (c_itoa tab _ hl ht hb x h0 h1).mono ?_; rintro e w' ⟨⟨s, rfl, hz⟩, hk⟩)
  go_ret
  exact ⟨⟨_, rfl, hz⟩, hk⟩
theorem c_cerr (x : Int) (h0 : -9223372036854775808 ≤ x) (h1 : x ≤ 9223372036854775807) : Calls Tryd.prog 49 #[.int .i64 x] w fun e w' => (∃ s, e = .returned (.string s) ∧ s.size ≤ 1000000) ∧ Keeps [] w w' := by
  go_enter Tryd.func49, Tryd.ntmps49
  go_wp2_with (go_at_call 50; refine (c_itoa' tab _ hl ht hb x h0 h1).mono ?_; rintro e w' ⟨⟨s, rfl, hz⟩, hk⟩; have hz6 : ¬ 9223372036854775807 < 6 + s.size := by omega)
  go_ret
  exact ⟨⟨_, rfl, by rw [ByteArray.size_append]; have : ByteArray.size ⟨#[101, 114, 114, 111, 114, 32]⟩ = 6 := rfl; omega⟩, hk⟩
theorem c_terr (m : Nat) (r : Value) (hu : UnOk m r w) (hr : (∃ x : Int, r = .iface 42 (.int .i64 x) ∧ -9223372036854775808 ≤ x ∧ x ≤ 9223372036854775807) ∨ ∃ x f, r = bErr x f ∧ x.natAbs < 10 ^ 19) :
    Calls Tryd.prog 19 #[.pointer (some ⟨m, 0, none⟩)] w fun e w' => (∃ s : ByteArray, e = .returned (.string (⟨#[112, 97, 110, 105, 99, 58, 32]⟩ ++ s)) ∧ s.size ≤ 1000000) ∧ Keeps [] w w' := by
  have m1 := me42e
  rcases hr with ⟨x, rfl, h0, h1⟩ | ⟨x, f, rfl, hx⟩
  · go_enter Tryd.func19, Tryd.ntmps19
    go_wp2_with (first | (go_at_call 29; refine hu.mono ?_; rintro e w' ⟨rfl, rfl⟩) | (go_at_call 49; refine (c_cerr tab _ hl ht hb x h0 h1).mono ?_; rintro e w' ⟨⟨s, rfl, hz⟩, hk⟩; have hz6 : ¬ 9223372036854775807 < 7 + s.size := by omega))
    go_ret
    exact ⟨⟨_, rfl, hz⟩, hk⟩
  · have m2 : ∀ w : World, (Go.method 229 8 (.agg #[.int .i64 x, .int .i64 0, .bool f, .int .u8 0]) "Error").run Tryd.prog w = .ok (32, .agg #[.int .i64 x, .int .i64 0, .bool f, .int .u8 0]) w := fun w => by kernel_rfl
    have h32 := @run_callFunc_extern Tryd.prog 32 _ Go.Extern.RuntimeError.boundsError Tryd.func32 (by kernel_rfl) (by kernel_rfl) (by kernel_rfl) (by kernel_rfl)
    unfold bErr at hu
    obtain ⟨s, hs, hz⟩ := Go.Th.be_run Tryd.prog x f w hx
    have hz6 : ¬ 9223372036854775807 < 7 + s.size := by omega
    go_enter Tryd.func19, Tryd.ntmps19
    go_wp2_with (first | (go_at_call 29; refine hu.mono ?_; rintro e w' ⟨rfl, rfl⟩))
    go_ret
    exact ⟨⟨_, rfl, hz⟩, Keeps.refl _ _⟩
end
end Go.Proofs.YtabeehbgoljddaaDoor
