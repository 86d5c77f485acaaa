/-
  The lease (layer 16), the reference's, and the law.
-/
import Derived.Test.YtbaclnddcobdmaaDlease
import Derived.Test.YtbaclnddcobdmaaGk7
import Derived.Test.YtbaclnddcobdmaaCrew
import Derived.OpenShut
set_option linter.unusedSimpArgs false
set_option linter.unusedVariables false
namespace Go.Proofs.Ytbaclnddcobdmaa
open Go Go.Gp

/-- A lease in memory: its length, epoch, holder, end. -/
abbrev LeA (W : World) (p : Nat) (L E H U : Int) (t : TypeId) : Prop := Blk W p [.int .i64 L, .int .u64 E, .int .i64 H, .int .i64 U] t
def fairL (w now : Int) : Bool := decide (0 ≤ w) && decide (0 ≤ now) && decide (now ≤ 1099511627776)
def chkC (E H w e : Int) : Int := if w < 0 then 1 else if H ≠ w then 8 else if E ≠ e then 8 else 0
def busyL (H U w now : Int) : Prop := H ≠ -1 ∧ now < U ∧ H ≠ w
instance (H U w now : Int) : Decidable (busyL H U w now) := by unfold busyL; infer_instance
def takeC (H U w now : Int) : Int := if fairL w now = false then 1 else if busyL H U w now then 7 else 0
def takeE (E H w : Int) : Int := if H ≠ w then IntKind.u64.wrap (E + 1) else E
theorem chkC_range (E H w e : Int) : 0 ≤ chkC E H w e ∧ chkC E H w e ≤ 11 := by unfold chkC; (repeat' split) <;> omega
theorem takeC_range (H U w now : Int) : 0 ≤ takeC H U w now ∧ takeC H U w now ≤ 11 := by unfold takeC; (repeat' split) <;> omega

theorem fair_core {W : World} (w now : Int) {K : Bool × Unit → World → Prop} (hk : K (fairL w now, ()) W) : G52 w now W K := by
  unfold G52 fairL at *
  refine ifD (fun h1 => ifD (fun h2 => ?_) fun h2 => ?_) fun h1 => ?_
  · rwa [decide_eq_true (by omega : 0 ≤ w), decide_eq_true (by omega : 0 ≤ now), Bool.true_and, Bool.true_and] at hk
  · rwa [decide_eq_true (by omega : 0 ≤ w), decide_eq_false (by omega : ¬ 0 ≤ now), Bool.true_and, Bool.false_and] at hk
  · rwa [decide_eq_false (by omega : ¬ 0 ≤ w), Bool.false_and, Bool.false_and] at hk
theorem rfair_spec {W : World} (w now : Int) {K : Bool × Unit → World → Prop} (hk : K (fairL w now, ()) W) : callG Try.prog 52 [.int .i64 w, .int .i64 now] [.one .bool] W K := call52 _ _ _ _ (fair_core w now hk)
theorem lfair_spec {W : World} (w now : Int) {K : Bool × Unit → World → Prop} (hk : K (fairL w now, ()) W) : callG Try.prog 97 [.int .i64 w, .int .i64 now] [.one .bool] W K := call97 _ _ _ _ (fair_core w now hk)

theorem rchk_spec {W : World} {p : Nat} {L E H U : Int} (h : LeA W p L E H U 86) (w e : Int) {K : Int × Unit → World → Prop} (hk : K (chkC E H w e, ()) W) :
    callG Try.prog 53 [.pointer (some ⟨p, 0, none⟩), .int .i64 w, .int .u64 e] [.one (.int .i64)] W K := by
  apply call53
  unfold G53
  unfold chkC at hk
  simp only [nilck_some, addr0]
  refine ifD (fun h1 => by rwa [if_pos h1] at hk) fun h1 => ld_int (by rw [h.cell]; rfl) (ifN (fun h2 => by rwa [if_neg h1, if_pos h2] at hk) fun h2 => ld_int (by rw [h.cell]; rfl) (ifN (fun h3 => ?_) fun h3 => ?_))
  · rwa [if_neg h1, if_neg (by omega), if_pos h3] at hk
  · rwa [if_neg h1, if_neg (by omega), if_neg (by omega)] at hk
theorem lchk_spec {W : World} {p : Nat} {L E H U : Int} (h : LeA W p L E H U 161) (w e : Int) {K : Value × Unit → World → Prop} (hk : K (er (chkC E H w e), ()) W) :
    callG Try.prog 54 [.pointer (some ⟨p, 0, none⟩), .int .i64 w, .int .u64 e] [.one .any] W K := by
  apply call54
  unfold G54
  unfold chkC at hk
  simp only [nilck_some, addr0]
  refine ifD (fun h1 => by rwa [if_pos h1] at hk) fun h1 => ld_int (by rw [h.cell]; rfl) (ifN (fun h2 => by rwa [if_neg h1, if_pos h2] at hk) fun h2 => ld_int (by rw [h.cell]; rfl) (ifN (fun h3 => ?_) fun h3 => ?_))
  · rwa [if_neg h1, if_neg (by omega), if_pos h3] at hk
  · rwa [if_neg h1, if_neg (by omega), if_neg (by omega)] at hk
theorem lepoch_spec {W : World} {p : Nat} {L E H U : Int} (h : LeA W p L E H U 161) {K : Int × Unit → World → Prop} (hk : K (E, ()) W) :
    callG Try.prog 61 [.pointer (some ⟨p, 0, none⟩)] [.one (.int .u64)] W K := by
  apply call61
  unfold G61
  simp only [nilck_some, addr0]
  exact ld_int (by rw [h.cell]; rfl) hk
def heldL (H U now : Int) : Bool := decide (H ≠ -1) && decide (now < U)
theorem lholder_spec {W : World} {p : Nat} {L E H U : Int} (h : LeA W p L E H U 161) (now : Int) {K : Int × Bool × Unit → World → Prop} (hk : K (if heldL H U now then H else 0, heldL H U now, ()) W) :
    callG Try.prog 60 [.pointer (some ⟨p, 0, none⟩), .int .i64 now] [.one (.int .i64), .one .bool] W K := by
  apply call60
  unfold G60
  unfold heldL at hk
  simp only [nilck_some, addr0]
  refine ld_int (by rw [h.cell]; rfl) (ifE (fun h1 => ?_) fun h1 => ld_int (by rw [h.cell]; rfl) (ifD (fun h2 => ?_) fun h2 => ld_int (by rw [h.cell]; rfl) ?_))
  · rwa [decide_eq_false (by omega : ¬ H ≠ -1), Bool.false_and, if_neg (by decide)] at hk
  · rwa [decide_eq_true h1, decide_eq_false (by omega : ¬ now < U), Bool.true_and, if_neg (by decide)] at hk
  · rwa [decide_eq_true h1, decide_eq_true (by omega : now < U), Bool.true_and, if_pos rfl] at hk

theorem ltake_spec {W : World} {p : Nat} {L E H U : Int} (h : LeA W p L E H U 161) (w now : Int) {K : Int × Value × Unit → World → Prop}
    (hbad : takeC H U w now ≠ 0 → K (0, er (takeC H U w now), ()) W)
    (hk : takeC H U w now = 0 → ∀ W', Keeps [p] W W' → LeA W' p L (takeE E H w) w (IntKind.i64.wrap (now + L)) 161 → K (takeE E H w, er 0, ()) W') :
    callG Try.prog 56 [.pointer (some ⟨p, 0, none⟩), .int .i64 w, .int .i64 now] [.one (.int .u64), .one .any] W K := by
  apply call56
  unfold G56
  refine lfair_spec w now (ifNot (fun hf => ?_) fun hf => lholder_spec h now ?_)
  · have e : takeC H U w now = 1 := by rw [takeC, if_pos hf]
    have := hbad (by omega)
    rwa [e] at this
  replace hf : fairL w now = true := hf
  have hff : ¬ fairL w now = false := by rw [hf]; decide
  -- what is done where the lease is taken
  have go : takeC H U w now = 0 → JoinG (V := Option Addr × Int × Int × Unit) (fun v3 W => ∀ j4 : Nat → Value, nilck v3.1 fun p6 => ld1 (.int .i64) p6 W fun (x7 : Int) => nilck v3.1 fun p8 => st1 (p8.add 2) (.int .i64 v3.2.1) W fun W => nilck v3.1 fun p9 => st1 (p9.add 3) (.int .i64 (IntKind.i64.wrap (v3.2.2.1 + x7))) W fun W => nilck v3.1 fun p10 => ld1 (.int .u64) (p10.add 1) W fun (x11 : Int) => K (x11, .nilIface, ()) W)
      fun B5 => nilck (some ⟨p, 0, none⟩) fun p12 => ld1 (.int .i64) (p12.add 2) W fun (x13 : Int) => ifB ((x13 : Int) != w) (nilck (some ⟨p, 0, none⟩) fun p14 => ld1 (.int .u64) (p14.add 1) W fun (x15 : Int) => nilck (some ⟨p, 0, none⟩) fun p16 => st1 (p16.add 1) (.int .u64 (IntKind.u64.wrap (x15 + 1))) W fun W => B5 (some ⟨p, 0, none⟩, w, now, ()) W) (B5 (some ⟨p, 0, none⟩, w, now, ()) W) := fun h0 => by
    refine JoinG.rule (fun v W' => v = (some ⟨p, 0, none⟩, w, now, ()) ∧ Keeps [p] W W' ∧ LeA W' p L (takeE E H w) H U 161) ?_ fun B hB => ?_
    · rintro v W' ⟨rfl, k', h'⟩ j
      simp only [nilck_some, addr0]
      refine ld_int (by rw [h'.cell]; rfl) (st_blk' h' (by simp) fun W1 k1 b1 => st_blk' b1 (by simp) fun W2 k2 b2 => ?_)
      simp only [List.set_cons_zero, List.set_cons_succ] at b2
      exact ld_int (by rw [b2.cell]; rfl) (hk h0 W2 ((k'.trans k1).trans k2) b2)
    · simp only [nilck_some, addr0]
      refine ld_int (by rw [h.cell]; rfl) (ifN (fun h1 => ld_int (by rw [h.cell]; rfl) (st_blk' h (by simp) fun W1 k1 b1 => ?_)) fun h1 => ?_)
      · exact hB _ _ ⟨rfl, k1, by rw [takeE, if_pos h1]; exact b1⟩
      · exact hB _ _ ⟨rfl, Keeps.refl _ _, by rw [takeE, if_neg (by omega)]; exact h⟩
  dsimp only
  unfold heldL
  refine ifB_i (fun hh => ?_) fun hh => ?_
  · rw [Bool.and_eq_true, decide_eq_true_eq, decide_eq_true_eq] at hh
    rw [if_pos (by rw [Bool.and_eq_true, decide_eq_true_eq, decide_eq_true_eq]; exact hh)]
    refine ifN (fun h1 => ?_) fun h1 => go ?_
    · have e : takeC H U w now = 7 := by rw [takeC, if_neg hff, if_pos ⟨hh.1, hh.2, h1⟩]
      have := hbad (by omega)
      rwa [e] at this
    · rw [takeC, if_neg hff, if_neg (fun hb => hb.2.2 h1)]
  · refine go ?_
    rw [takeC, if_neg hff, if_neg (fun hb => ?_)]
    rw [decide_eq_true hb.1, decide_eq_true hb.2.1] at hh
    cases hh
theorem rtake_spec {W : World} {p : Nat} {L E H U : Int} (h : LeA W p L E H U 86) (hH : H = -1 ∨ 0 ≤ H) (w now : Int) {K : Int × Int × Unit → World → Prop}
    (hbad : takeC H U w now ≠ 0 → K (0, takeC H U w now, ()) W)
    (hk : takeC H U w now = 0 → ∀ W', Keeps [p] W W' → LeA W' p L (takeE E H w) w (IntKind.i64.wrap (now + L)) 86 → K (takeE E H w, 0, ()) W') :
    callG Try.prog 57 [.pointer (some ⟨p, 0, none⟩), .int .i64 w, .int .i64 now] [.one (.int .u64), .one (.int .i64)] W K := by
  apply call57
  unfold G57
  refine rfair_spec w now (ifNot (fun hf => ?_) fun hf => ?_)
  · have e : takeC H U w now = 1 := by rw [takeC, if_pos hf]
    have := hbad (by omega)
    rwa [e] at this
  replace hf : fairL w now = true := hf
  have hff : ¬ fairL w now = false := by rw [hf]; decide
  have go : takeC H U w now = 0 → JoinG (V := Option Addr × Int × Int × Unit) (fun v8 W => ∀ j9 : Nat → Value, nilck v8.1 fun p11 => st1 (p11.add 2) (.int .i64 v8.2.1) W fun W => nilck v8.1 fun p12 => ld1 (.int .i64) p12 W fun (x13 : Int) => nilck v8.1 fun p14 => st1 (p14.add 3) (.int .i64 (IntKind.i64.wrap (v8.2.2.1 + x13))) W fun W => nilck v8.1 fun p15 => ld1 (.int .u64) (p15.add 1) W fun (x16 : Int) => K (x16, 0, ()) W)
      fun B10 => nilck (some ⟨p, 0, none⟩) fun p17 => ld1 (.int .i64) (p17.add 2) W fun (x18 : Int) => ifB ((x18 : Int) != w) (nilck (some ⟨p, 0, none⟩) fun p19 => ld1 (.int .u64) (p19.add 1) W fun (x20 : Int) => nilck (some ⟨p, 0, none⟩) fun p21 => st1 (p21.add 1) (.int .u64 (IntKind.u64.wrap (x20 + 1))) W fun W => B10 (some ⟨p, 0, none⟩, w, now, ()) W) (B10 (some ⟨p, 0, none⟩, w, now, ()) W) := fun h0 => by
    refine JoinG.rule (fun v W' => v = (some ⟨p, 0, none⟩, w, now, ()) ∧ Keeps [p] W W' ∧ LeA W' p L (takeE E H w) H U 86) ?_ fun B hB => ?_
    · rintro v W' ⟨rfl, k', h'⟩ j
      simp only [nilck_some, addr0]
      refine st_blk' h' (by simp) fun W1 k1 b1 => ld_int (by rw [b1.cell]; rfl) (st_blk' b1 (by simp) fun W2 k2 b2 => ?_)
      simp only [List.set_cons_zero, List.set_cons_succ] at b2
      exact ld_int (by rw [b2.cell]; rfl) (hk h0 W2 ((k'.trans k1).trans k2) b2)
    · simp only [nilck_some, addr0]
      refine ld_int (by rw [h.cell]; rfl) (ifN (fun h1 => ld_int (by rw [h.cell]; rfl) (st_blk' h (by simp) fun W1 k1 b1 => ?_)) fun h1 => ?_)
      · exact hB _ _ ⟨rfl, k1, by rw [takeE, if_pos h1]; exact b1⟩
      · exact hB _ _ ⟨rfl, Keeps.refl _ _, by rw [takeE, if_neg (by omega)]; exact h⟩
  have no : ¬ busyL H U w now → takeC H U w now = 0 := fun hb => by rw [takeC, if_neg hff, if_neg hb]
  rw [nilck_some]
  rw [addr0]
  refine ld_int (by rw [h.cell]; rfl) (ifD (fun h1 => ?_) fun h1 => go (no fun hb => by have := hb.1; omega))
  rw [nilck_some, addr0]
  refine ld_int (by rw [h.cell]; rfl) (ifN (fun h2 => ?_) fun h2 => go (no fun hb => hb.2.2 h2))
  rw [nilck_some, addr0]
  refine ld_int (by rw [h.cell]; rfl) (ifD (fun h3 => ?_) fun h3 => go (no fun hb => h3 hb.2.1))
  have e : takeC H U w now = 7 := by rw [takeC, if_neg hff, if_pos ⟨by omega, h3, h2⟩]
  have := hbad (by omega)
  rwa [e] at this

def renewC (E H w e now : Int) : Int := if fairL w now = false then 1 else chkC E H w e
theorem lrenew_spec {W : World} {p : Nat} {L E H U : Int} (h : LeA W p L E H U 161) (w e now : Int) {K : Value × Unit → World → Prop}
    (hk : ∀ W', Keeps [p] W W' → LeA W' p L E H (if renewC E H w e now = 0 then IntKind.i64.wrap (now + L) else U) 161 → K (er (renewC E H w e now), ()) W') :
    callG Try.prog 58 [.pointer (some ⟨p, 0, none⟩), .int .i64 w, .int .u64 e, .int .i64 now] [.one .any] W K := by
  apply call58
  unfold G58
  unfold renewC at hk
  refine lfair_spec w now (ifNot (fun hf => ?_) fun hf => lchk_spec h w e ⟨er_ifc _, ?_⟩)
  · replace hf : fairL w now = false := hf
    have := hk W (Keeps.refl _ _) (by rw [if_pos hf, if_neg (by decide)]; exact h)
    rwa [if_pos hf] at this
  replace hf : fairL w now = true := hf
  have hff : ¬ fairL w now = false := by rw [hf]; decide
  simp only [if_neg hff] at hk
  rw [er_nil]
  refine ifNot (fun h1 => hk W (Keeps.refl _ _) (by rw [if_neg (of_decide_eq_false h1)]; exact h)) fun h1 => ?_
  have h1 := of_decide_eq_true h1
  simp only [nilck_some, addr0]
  refine ld_int (by rw [h.cell]; rfl) (st_blk' h (by simp) fun W1 k1 b1 => ?_)
  have := hk W1 k1 (by rw [if_pos h1]; exact b1)
  rwa [h1] at this
theorem lrelease_spec {W : World} {p : Nat} {L E H U : Int} (h : LeA W p L E H U 161) (w e : Int) {K : Value × Unit → World → Prop}
    (hk : ∀ W', Keeps [p] W W' → LeA W' p L E (if chkC E H w e = 0 then -1 else H) U 161 → K (er (chkC E H w e), ()) W') :
    callG Try.prog 59 [.pointer (some ⟨p, 0, none⟩), .int .i64 w, .int .u64 e] [.one .any] W K := by
  apply call59
  unfold G59
  refine lchk_spec h w e ⟨er_ifc _, ?_⟩
  rw [er_nil]
  refine ifNot (fun h1 => hk W (Keeps.refl _ _) (by rw [if_neg (of_decide_eq_false h1)]; exact h)) fun h1 => ?_
  have h1 := of_decide_eq_true h1
  simp only [nilck_some, addr0]
  refine st_blk' h (by simp) fun W1 k1 b1 => ?_
  have := hk W1 k1 (by rw [if_pos h1]; exact b1)
  rwa [h1] at this
theorem lnew_spec {W : World} (n : Int) {K : Option Addr × Value × Unit → World → Prop} (hbad : n < 1 ∨ 1000 < n → K (none, er 1, ()) W)
    (hk : 1 ≤ n → n ≤ 1000 → ∀ p W', W.heap.size ≤ p → Keeps [] W W' → LeA W' p n 0 (-1) 0 161 → K (some ⟨p, 0, none⟩, er 0, ()) W') :
    callG Try.prog 51 [.int .i64 n] [.one .ptr, .one .any] W K := by
  apply call51
  unfold G51
  refine ifD (fun h => hbad (.inl h)) fun h1 => ifD (fun h => hbad (.inr h)) fun h2 => new_blk fun p W1 hp k1 b1 => hk (by omega) (by omega) p W1 (by omega) k1 (by simpa using b1)
theorem lup_spec {W : World} {K : Bool × Unit → World → Prop} (hk : ∀ W', Keeps [] W W' → K (true, ()) W') : callG Try.prog 50 [] [.one .bool] W K := by
  apply call50
  unfold G50
  refine lnew_spec 5 (fun h => by omega) fun _ _ p W1 hp k1 h1 => ?_
  refine lnew_spec 0 (fun _ => ?_) fun h _ => by omega
  simp only [Option.isNone_some, ifB_false, er_nil, decide_true, Bool.not_true, er_ifc, true_and]
  refine ltake_spec h1 0 0 (fun h => absurd (by decide) h) fun _ W2 k2 h2 => ?_
  refine ltake_spec h2 1 0 (fun _ => ?_) fun h => absurd h (by decide)
  refine ltake_spec h2 1 5 (fun h => absurd (by decide) h) fun _ W3 k3 h3 => ?_
  refine er_eq (b := 1) (by decide) ?_
  simp only [decide_true, ifB_true, show takeE 0 (-1) 0 = 1 from by decide, show takeE 1 0 1 = 2 from by decide, show ((1 : Int) == 1) = true from rfl, show ((2 : Int) == 2) = true from rfl, er_ifc, true_and, er_nil]
  refine er_eq (b := 7) (by decide) ?_
  simp only [show decide (takeC 0 (IntKind.i64.wrap (0 + 5)) 1 0 = 7) = true from by decide, ifB_true]
  refine lchk_spec h3 0 1 ?_
  dsimp only
  refine er_eq (b := 8) (by decide) ?_
  rw [show decide (chkC (takeE (takeE 0 (-1) 0) 0 1) 1 0 1 = 8) = true from by decide]
  exact hk W3 ((k1.push k2 (by simpa using hp)).push k3 (by simpa using hp))

/-- What stands of a lease and its reference at the head of a round. -/
structure LP (W0 W : World) (p m : Nat) (L E H U : Int) : Prop where
  k : Keeps [] W0 W
  a : LeA W p L E H U 161
  r : LeA W m L E H U 86
  b1 : W0.heap.size ≤ p
  b2 : W0.heap.size ≤ m
  d : p ≠ m
  hh : H = -1 ∨ 0 ≤ H
theorem LP.far {W0 W W' : World} {p m : Nat} {L E H U : Int} (h : LP W0 W p m L E H U) {S : List Nat} (hk : Keeps S W W') (hs : ∀ b ∈ S, W.heap.size ≤ b) : LP W0 W' p m L E H U := by
  have ne : ∀ {x}, x < W.heap.size → x ∉ S := fun hx hm => by have := hs _ hm; omega
  exact ⟨h.k.push hk fun b hb => Nat.le_trans h.k.size (hs b hb), h.a.keep hk (ne h.a.lt), h.r.keep hk (ne h.r.lt), h.b1, h.b2, h.d, h.hh⟩

theorem llpick_spec {W : World} {c n : Int} (hc : -9223372036854775808 ≤ c) (hc' : c ≤ 9223372036854775807) (hn : n ≠ 0) {K : Int × Unit → World → Prop} (hk : K (pickN c n, ()) W) : callG Try.prog 55 [.int .i64 c, .int .i64 n] [.one (.int .i64)] W K := by
  apply call55
  unfold G55 JoinG
  refine ifD (fun h _ => ⟨hn, ?_⟩) fun h _ => ⟨hn, ?_⟩
  · dsimp only
    rw [w64 (x := c + 1) (by omega) (by omega), w64 (by omega) (by omega), show (0 : Int) - (c + 1) = -c - 1 from by omega]
    rwa [pickN, if_pos h] at hk
  · rwa [pickN, if_neg h] at hk

theorem leasePlays_walk (W0 : World) (n : Int) (s : Sl)
    (hr : ∀ i, i < s.len → ∃ p x y z u, s.a = some p ∧ p.block < W0.heap.size ∧ cellsAt W0 (p.add (i * 4)) 0 [.int .i64 x, .int .i64 y, .int .u64 z, .int .i64 u] ∧ -9223372036854775808 ≤ x ∧ x ≤ 9223372036854775807) :
    callG Try.prog 8 [.int .i64 n, .slice s.a s.len s.cap] [.one .bool] W0 fun x W' => x = (true, ()) ∧ Keeps [] W0 W' := by
  apply call8
  unfold G8
  refine lup_spec fun W1 k1 => ?_
  refine lnew_spec n (fun hb => ?_) fun g1 g2 p W2 hp k2 h2 => ?_
  · simp only [ifB_true, Option.isNone_none]
    exact ifD (fun _ => er_eq (by decide) ⟨by simp, k1⟩) fun h => ifD (fun _ => er_eq (by decide) ⟨by simp, k1⟩) fun h' => by omega
  simp only [ifB_true, ifB_false, Option.isNone_some, Bool.not_false, er_nil, er_ifc, decide_true, Bool.not_true, true_and]
  refine ifD (fun h => by omega) fun _ => ifD (fun h => by omega) fun _ => ifD (fun _ => k1.trans k2) fun hlen => ?_
  refine new_blk fun m W3 hm k3 b3 => ?_
  have e1 := k1.size
  have l1 := h2.lt
  refine LoopG.rule (fun x w => ∃ (i : Nat) (E H U : Int), i ≤ s.len ∧ x = (s, true, some ⟨p, 0, none⟩, some ⟨m, 0, none⟩, (i : Int), ()) ∧ LP W0 w p m n E H U)
    (fun x _ => s.len - x.2.2.2.2.1.toNat) ⟨0, 0, -1, 0, Nat.zero_le _, rfl, (k1.trans k2).trans k3, h2.keep k3 (by simp), by simpa using b3, by omega, by have := k2.size; omega, by omega, .inl rfl⟩ ?_
  rintro x W ⟨i, E, H, U, hi, rfl, lp⟩ C hC' j
  dsimp only
  refine ifD (fun hlt => ?_) fun hge => ⟨rfl, lp.k⟩
  obtain ⟨q, x, w, e, now, hq, hqb, hcells, x0, x1⟩ := hr i (by omega)
  have next : IntKind.i64.wrap ((i : Int) + 1) = ((i + 1 : Nat) : Int) := by rw [w64 (by omega) (by omega)]; simp
  refine ⟨q, hq, by omega, by omega, ?_⟩
  rw [Int.toNat_natCast]
  refine ldN_intro (x, w, e, now, ()) (lp.k.cells (by simp) _ _ hcells) ?_
  refine new_blk fun b W5 hb k5 b5 => ?_
  simp only [addr0]
  refine st_blk' b5 (by simp) fun W6 k6 b6 => st_blk' b6 (by simp) fun W7 k7 b7 => st_blk' b7 (by simp) fun W8 k8 b8 => st_blk' b8 (by simp) fun W9 k9 b9 => ?_
  simp only [List.set_cons_zero, List.set_cons_succ] at b9
  have lp9 : LP W0 W9 p m n E H U := lp.far (S := [b]) ((((k5.nil.trans k6).trans k7).trans k8).trans k9) (by simp [hb])
  have hbn : p < b ∧ m < b := by rw [hb]; exact ⟨lp.a.lt, lp.r.lt⟩
  clear lp b5 b6 b7 b8 k5 k6 k7 k8 k9
  refine ld_int (by rw [b9.cell]; rfl) (ld_int (by rw [b9.cell]; rfl) (rfair_spec w now ?_))
  refine ld_int (by rw [b9.cell]; rfl) (ld_int (by rw [b9.cell]; rfl) (rchk_spec lp9.r w e ?_))
  refine ld_int (by rw [b9.cell]; rfl) (ld_int (by rw [b9.cell]; rfl) (lchk_spec lp9.a w e ?_))
  dsimp only
  refine code_spec (chkC_range ..).1 (chkC_range ..).2 (ifN (fun h => absurd rfl h) fun _ => ?_)
  -- what stands where the deed has been done
  refine JoinG.rule (fun v W' => ∃ (E' H' U' code : Int), 0 ≤ code ∧ code ≤ 11 ∧ v = (s, true, some ⟨p, 0, none⟩, some ⟨m, 0, none⟩, (i : Int), ⟨b, 0, none⟩, code, er code, ()) ∧ LP W0 W' p m n E' H' U' ∧
    Blk W' b [.int .i64 x, .int .i64 w, .int .u64 e, .int .i64 now] 88) ?_ ?_
  · rintro v W' ⟨E', H', U', code, c0, c1, rfl, lp', b'⟩ j1
    dsimp only
    simp only [addr0]
    refine ld_int (by rw [b'.cell]; rfl) (lholder_spec lp'.a now ?_)
    refine JoinG.rule (fun v W'' => v = (s, true, some ⟨p, 0, none⟩, some ⟨m, 0, none⟩, (i : Int), code, er code, (if heldL H' U' now then H' else 0), heldL H' U' now, heldL H' U' now, ()) ∧ LP W0 W'' p m n E' H' U') ?_ ?_
    · rintro v W'' ⟨rfl, lp''⟩ j2
      dsimp only
      refine drw_intro fun W4 k4 bk => ?_
      have lp4 := lp''.far k4 (by simp)
      refine ⟨fun u => u = W4, rfl, ?_⟩
      simp only [ldS_eq, nilck_some, addr0]
      have fin : C (s, true, some ⟨p, 0, none⟩, some ⟨m, 0, none⟩, IntKind.i64.wrap ((i : Int) + 1), ()) W4 := by
        rw [next]
        exact hC' _ _ ⟨i + 1, E', H', U', by omega, rfl, lp4⟩ (by simp only; omega)
      refine code_spec c0 c1 (ifN (fun h => absurd rfl h) fun _ => ⟨rfl, ld_int (by rw [lp4.r.cell]; rfl) (lepoch_spec lp4.a ⟨rfl, ifN (fun h => absurd rfl h) fun _ => ?_⟩)⟩)
      refine ifNot (fun h => absurd h (by simp)) fun _ => ifB_i (fun hh => ?_) fun hh => ?_
      · refine ld_int (by rw [lp4.r.cell]; rfl) (ifN (fun h => absurd (by rw [if_pos hh]) h) fun _ => ?_)
        rw [hh]
        exact fin
      · rw [hh]
        simp only [Bool.not_false, ifB_true, Bool.false_eq_true, if_false]
        exact ifN (fun h => absurd rfl h) fun _ => fin
    · intro B hB
      refine drw_intro fun W4 k4 bk => ?_
      have lp4 := lp'.far k4 (by simp)
      have b4 := bk _ _ _ b'
      simp only [ldS_eq, nilck_some, addr0]
      have hH := lp'.hh
      refine ld_int (by rw [lp4.r.cell]; rfl) (ifD (fun h => ld_int (by rw [b4.cell]; rfl) (ld_int (by rw [lp4.r.cell]; rfl) (hB _ _ ⟨?_, lp4⟩))) fun h => hB _ _ ⟨?_, lp4⟩)
      · rw [show heldL H' U' now = decide (now < U') from by unfold heldL; rw [decide_eq_true (by omega), Bool.true_and]]
      · rw [show heldL H' U' now = false from by unfold heldL; rw [decide_eq_false (by omega : ¬ H' ≠ -1), Bool.false_and]]
  · intro B hB
    refine ld_int (by rw [b9.cell]; rfl) (llpick_spec x0 x1 (by decide) ?_)
    have nb : ∀ {S : List Nat} {Wa : World}, Keeps S W9 Wa → (b ∉ S) → Blk Wa b [.int .i64 x, .int .i64 w, .int .u64 e, .int .i64 now] 88 := fun hk hs => b9.keep hk hs
    have hpb : b ∉ [p] := by simp; omega
    have hmb : b ∉ [m] := by simp; omega
    refine JoinG.rule (fun v W' => W' = W9 ∧ ∃ t : Bool, v = (s, true, some ⟨p, 0, none⟩, some ⟨m, 0, none⟩, (i : Int), ⟨b, 0, none⟩, fairL w now, chkC E H w e, pickN x 4, t, ())) ?_ ?_
    · rintro v W' ⟨rfl, t, rfl⟩ j1
      dsimp only
      simp only [addr0]
      refine ifB_i (fun _ => ?_) fun _ => ifE (fun _ => ?_) fun _ => ?_
      · -- taken
        refine ld_int (by rw [b9.cell]; rfl) (ld_int (by rw [b9.cell]; rfl) (ltake_spec lp9.a w now (fun hb' => ?_) fun h0 Wa ka ha => ?_))
        · refine ld_int (by rw [b9.cell]; rfl) (ld_int (by rw [b9.cell]; rfl) (rtake_spec lp9.r lp9.hh w now (fun _ => ?_) fun h0 => absurd h0 hb'))
          exact ifN (fun h => absurd rfl h) fun _ => hB _ _ ⟨E, H, U, _, (takeC_range ..).1, (takeC_range ..).2, rfl, lp9, b9⟩
        · have ra := lp9.r.keep ka (by simp [Ne.symm lp9.d])
          have ba := nb ka hpb
          refine ld_int (by rw [ba.cell]; rfl) (ld_int (by rw [ba.cell]; rfl) (rtake_spec ra lp9.hh w now (fun hb' => absurd h0 hb') fun _ Wb kb hb' => ?_))
          refine ifN (fun h => absurd rfl h) fun _ => hB _ _ ⟨_, w, _, 0, by decide, by decide, rfl, ⟨(lp9.k.push ka (by simpa using lp9.b1)).push kb (by simpa using lp9.b2), ha.keep kb (by simp [lp9.d]), hb', lp9.b1, lp9.b2, lp9.d, .inr ?_⟩, ba.keep kb hmb⟩
          unfold takeC fairL at h0
          split at h0
          · omega
          · rename_i hf
            simp only [Bool.and_eq_false_iff, decide_eq_false_iff_not, not_or] at hf
            omega
      · -- renewed
        refine ld_int (by rw [b9.cell]; rfl) (ld_int (by rw [b9.cell]; rfl) (ld_int (by rw [b9.cell]; rfl) (lrenew_spec lp9.a w e now fun Wa ka ha => ?_)))
        have ra := lp9.r.keep ka (by simp [Ne.symm lp9.d])
        have ba := nb ka hpb
        have rc : 0 ≤ renewC E H w e now ∧ renewC E H w e now ≤ 11 := by
          unfold renewC; split
          · omega
          · exact chkC_range ..
        refine JoinG.rule (fun v W' => W' = Wa ∧ v = (s, true, some ⟨p, 0, none⟩, some ⟨m, 0, none⟩, (i : Int), ⟨b, 0, none⟩, renewC E H w e now, er (renewC E H w e now), ())) ?_ ?_
        · rintro v W' ⟨rfl, rfl⟩ j2
          dsimp only
          simp only [addr0]
          refine ifE (fun h0 => ?_) fun h0 => ?_
          · refine drw_intro fun W4 k4 bk => ⟨fun u => u = W4, rfl, ?_⟩
            have r4 := ra.keep k4 (by simp)
            simp only [ldS_eq, nilck_some, addr0]
            refine ld_int (by rw [(bk _ _ _ ba).cell]; rfl) (ld_int (by rw [r4.cell]; rfl) (st_blk' r4 (by simp) fun Wb kb hb' => ?_))
            rw [if_pos h0] at ha
            have kab := k4.nil.trans kb
            exact hB _ _ ⟨E, H, _, _, rc.1, rc.2, rfl, ⟨(lp9.k.push ka (by simpa using lp9.b1)).push kab (by simpa using lp9.b2), ha.keep kab (by simp [lp9.d]), hb', lp9.b1, lp9.b2, lp9.d, lp9.hh⟩, ba.keep kab hmb⟩
          · rw [if_neg h0] at ha
            exact hB _ _ ⟨E, H, U, _, rc.1, rc.2, rfl, ⟨lp9.k.push ka (by simpa using lp9.b1), ha, ra, lp9.b1, lp9.b2, lp9.d, lp9.hh⟩, ba⟩
        · intro B2 hB2
          refine ifNot (fun hf => hB2 _ _ ⟨rfl, ?_⟩) fun hf => hB2 _ _ ⟨rfl, ?_⟩
          · rw [show renewC E H w e now = 1 from by rw [renewC, if_pos hf]]
          · rw [show renewC E H w e now = chkC E H w e from by rw [renewC, if_neg (by rw [hf]; decide)]]
      · -- released
        refine ld_int (by rw [b9.cell]; rfl) (ld_int (by rw [b9.cell]; rfl) (lrelease_spec lp9.a w e fun Wa ka ha => ?_))
        have ra := lp9.r.keep ka (by simp [Ne.symm lp9.d])
        have ba := nb ka hpb
        refine ifE (fun h0 => ?_) fun h0 => ?_
        · simp only [nilck_some, addr0]
          refine st_blk' ra (by simp) fun Wb kb hb' => ?_
          rw [if_pos h0] at ha
          exact hB _ _ ⟨E, -1, U, _, (chkC_range ..).1, (chkC_range ..).2, rfl, ⟨(lp9.k.push ka (by simpa using lp9.b1)).push kb (by simpa using lp9.b2), ha.keep kb (by simp [lp9.d]), hb', lp9.b1, lp9.b2, lp9.d, .inl rfl⟩, ba.keep kb hmb⟩
        · rw [if_neg h0] at ha
          exact hB _ _ ⟨E, H, U, _, (chkC_range ..).1, (chkC_range ..).2, rfl, ⟨lp9.k.push ka (by simpa using lp9.b1), ha, ra, lp9.b1, lp9.b2, lp9.d, lp9.hh⟩, ba⟩
    · intro B2 hB2
      exact ifE (fun _ => hB2 _ _ ⟨rfl, _, rfl⟩) fun _ => hB2 _ _ ⟨rfl, _, rfl⟩
theorem leasePlays_row (W : World) (n : Int) (s : Sl) (_ : (Lit.int .i64 n).wf = true) (m : Nat) (h : RdT Try.prog W m 80 [.slice s.a s.len s.cap]) :
    callG Try.prog 8 [.int .i64 n, .slice s.a s.len s.cap] [.one .bool] W fun x W' => x = (true, ()) ∧ Keeps [] W W' := by
  have hu : Try.prog.underlying 80 = some (.slice 88) := by kernel_rfl
  have he : intFields Try.prog 88 [.i64, .i64, .u64, .i64] = true := by kernel_rfl
  have hs : Try.prog.cellsOf 88 = 4 := by kernel_rfl
  obtain ⟨_, hx⟩ := rd_intRows hu he hs (by simp) h
  refine leasePlays_walk W n s fun i hi => ?_
  obtain ⟨p, xs, h1, h2, h3, h4, h5⟩ := hx i hi
  obtain ⟨x, y, z, u, rfl⟩ := len4 h3
  obtain ⟨q1, q2⟩ := bounds_i64 (h5 0 .i64 x rfl rfl)
  exact ⟨p, x, y, z, u, h1, h2, h4, q1, q2⟩
end Go.Proofs.Ytbaclnddcobdmaa
