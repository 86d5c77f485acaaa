/-
  The crew (layer 2), and the reference's: what each function does with a crew in memory.
-/
import Derived.Test.YtbaclnddcobdmaaDcrew
import Derived.Test.YtbaclnddcobdmaaGk5
set_option linter.unusedSimpArgs false
set_option linter.unusedVariables false
namespace Go.Proofs.Ytbaclnddcobdmaa
open Go Go.Gp
set_option linter.unusedVariables false

/-- An error: none, or a number of api's. -/
def er (c : Int) : Value := if c = 0 then .nilIface else .iface 29 (.int .i64 c)
theorem er_zero : er 0 = .nilIface := rfl
theorem er_ifc (c : Int) : isIfc (er c) = true := by unfold er; split <;> rfl
theorem er_nil (c : Int) : isNilV (er c) = decide (c = 0) := by unfold er; split <;> rename_i h <;> simp [isNilV, h]
theorem er_of {c : Int} (h : c ≠ 0) : (Value.iface 29 (.int .i64 c)) = er c := by rw [er, if_neg h]
theorem und29 : Try.prog.underlying 29 = some (.int .i64) := by kernel_rfl
theorem inf29 : (Try.prog.info? 29).map (·.comparable) = some true := by kernel_rfl
theorem er_eq {a b : Int} {K : Bool → Prop} (hb : b ≠ 0) (hk : K (decide (a = b))) : ifcEq Try.prog (er a) (.iface 29 (.int .i64 b)) K := by
  have hi := inf29
  cases hh : Try.prog.info? 29 with
  | none => rw [hh] at hi; cases hi
  | some i =>
    rw [hh] at hi
    simp only [Option.map_some, Option.some.injEq] at hi
    by_cases ha : a = 0
    · refine ⟨decide (a = b), .inr (.inr (.inl ⟨29, .int .i64 b, by rw [ha]; rfl, rfl, ?_⟩)), hk⟩
      simp only [decide_eq_false_iff_not]; omega
    · refine ⟨decide (a = b), .inl ⟨29, .i64, a, b, i, by rw [er, if_neg ha], rfl, und29, hh, hi, ?_⟩, hk⟩
      rw [Bool.eq_iff_iff]; simp

/-- Code of an error. -/
theorem code_spec {W : World} {c : Int} (h0 : 0 ≤ c) (h1 : c ≤ 11) {K : Int × Unit → World → Prop} (hk : K (c, ()) W) : callG Try.prog 22 [er c] [.one (.int .i64)] W K := by
  apply call22
  unfold G22
  refine ⟨er_ifc c, ?_⟩
  rw [er_nil]
  by_cases hc : c = 0
  · subst hc; exact hk
  · simp only [hc, decide_false, ifB_false]
    refine LoopG.rule (fun x w => w = W ∧ ∃ i : Int, 1 ≤ i ∧ i ≤ c ∧ x = (er c, i, ())) (fun x _ => (12 - x.2.1).toNat) ⟨rfl, 1, by omega, by omega, rfl⟩ ?_
    rintro x w ⟨rfl, i, hi0, hi1, rfl⟩ C hC j
    simp only [ifB_dec]
    refine ⟨fun _ => ?_, fun h => absurd h (by omega)⟩
    refine er_eq (by omega) ?_
    rw [ifB_dec]
    refine ⟨fun h => by rw [← h]; exact hk, fun h => ?_⟩
    rw [w64 (by omega) (by omega)]
    exact hC _ _ ⟨rfl, i + 1, by omega, by omega, rfl⟩ (by simp only; omega)

/-- pick: one of n. -/
def pickN (c n : Int) : Int := if c < 0 then Int.tmod (-c - 1) n else Int.tmod c n
theorem pick_spec {W : World} {c n : Int} (hc : -9223372036854775808 ≤ c) (hc' : c ≤ 9223372036854775807) (hn : n ≠ 0) {K : Int × Unit → World → Prop} (hk : K (pickN c n, ()) W) : callG Try.prog 15 [.int .i64 c, .int .i64 n] [.one (.int .i64)] W K := by
  apply call15
  unfold G15 JoinG
  simp only [ifB_dec]
  refine ⟨fun h _ => ⟨hn, ?_⟩, fun h _ => ⟨hn, ?_⟩⟩
  · rw [w64 (x := c + 1) (by omega) (by omega), w64 (by omega) (by omega), show (0 : Int) - (c + 1) = -c - 1 from by omega]
    rwa [pickN, if_pos h] at hk
  · rwa [pickN, if_neg h] at hk

/-- A crew in memory. -/
structure CrewAt (W : World) (c cl : Nat) (l : List Int) (now : Int) (t : TypeId) : Prop where
  hd : Blk W c [.slice (some ⟨cl, 0, none⟩) l.length l.length, .int .i64 now] t
  ls : Blk W cl (l.map (Value.int .i64)) 3
  ne : c ≠ cl
theorem CrewAt.keep {W W' : World} {c cl : Nat} {l : List Int} {now : Int} {t : TypeId} (h : CrewAt W c cl l now t) {S : List Nat} (hk : Keeps S W W') (h1 : c ∉ S) (h2 : cl ∉ S) : CrewAt W' c cl l now t :=
  ⟨h.hd.keep hk h1, h.ls.keep hk h2, h.ne⟩
theorem CrewAt.cell {W : World} {c cl : Nat} {l : List Int} {now : Int} {t : TypeId} (h : CrewAt W c cl l now t) (i : Nat) (hi : i < l.length) : W.cell? ⟨cl, i, none⟩ = some (.int .i64 (l.getD i 0)) := by
  rw [h.ls.cell]; simp [hi]

def stateOf (l : List Int) (w : Int) : Int := if 0 ≤ w ∧ w < l.length then l.getD w.toNat 0 else -1
def fitC (l : List Int) (w : Int) : Int := if stateOf l w = -1 then 6 else if stateOf l w = 2 then 9 else 0
def turnS (l : List Int) (w s : Int) : List Int := if fitC l w = 0 then l.set w.toNat s else l
def mayC (l : List Int) (w : Int) : Int := if fitC l w ≠ 0 then fitC l w else if stateOf l w = 1 then 7 else 0
def tickC (now n : Int) : Int := if n < 0 ∨ 1099511627776 - now < n then 1 else 0
def tickS (now n : Int) : Int := if tickC now n = 0 then now + n else now

theorem addr0 (b n : Nat) : (Addr.mk b 0 none).add n = Addr.mk b n none := by rw [addr_add, Nat.zero_add]

/-- State of either crew: the formula is the same. -/
theorem state_core {W : World} {c cl : Nat} {l : List Int} {now : Int} {t : TypeId} (h : CrewAt W c cl l now t) (w : Int) {K : Int × Unit → World → Prop} (hk : K (stateOf l w, ()) W) :
    G23 (some ⟨c, 0, none⟩) w W K := by
  unfold G23
  simp only [ifB_dec, nilck_some]
  refine ⟨fun h1 => ?_, fun h1 => ?_⟩
  · rwa [stateOf, if_neg (by omega)] at hk
  · refine ld_sl (by rw [h.hd.cell]; rfl) ?_
    dsimp only
    refine ⟨fun h2 => ?_, fun h2 => ?_⟩
    · rwa [stateOf, if_neg (by omega)] at hk
    · refine ld_sl (by rw [h.hd.cell]; rfl) ?_
      refine idx_some (by omega) (by dsimp only; omega) ?_
      rw [addr0, Nat.mul_one]
      refine ld_int (h.cell _ (by omega)) ?_
      rwa [stateOf, if_pos (by omega)] at hk
theorem state_spec {W : World} {c cl : Nat} {l : List Int} {now : Int} (h : CrewAt W c cl l now 143) (w : Int) {K : Int × Unit → World → Prop} (hk : K (stateOf l w, ()) W) :
    callG Try.prog 23 [.pointer (some ⟨c, 0, none⟩), .int .i64 w] [.one (.int .i64)] W K := call23 _ _ _ _ (state_core h w hk)
theorem rstate_spec {W : World} {c cl : Nat} {l : List Int} {now : Int} (h : CrewAt W c cl l now 33) (w : Int) {K : Int × Unit → World → Prop} (hk : K (stateOf l w, ()) W) :
    callG Try.prog 24 [.pointer (some ⟨c, 0, none⟩), .int .i64 w] [.one (.int .i64)] W K := call24 _ _ _ _ (state_core h w hk)

theorem fit_spec {W : World} {c cl : Nat} {l : List Int} {now : Int} (h : CrewAt W c cl l now 143) (w : Int) {K : Value × Unit → World → Prop} (hk : K (er (fitC l w), ()) W) :
    callG Try.prog 85 [.pointer (some ⟨c, 0, none⟩), .int .i64 w] [.one .any] W K := by
  apply call85
  unfold G85
  refine state_spec h w ?_
  simp only [ifB_iff, beq_iff_eq, beq_eq_false_iff_ne]
  refine ⟨fun h1 => ?_, fun h1 => ⟨fun h2 => ?_, fun h2 => ?_⟩⟩
  · rwa [fitC, if_pos h1] at hk
  · rwa [fitC, if_neg h1, if_pos h2] at hk
  · rwa [fitC, if_neg h1, if_neg h2] at hk

theorem fit_range {l : List Int} {w : Int} (h : fitC l w = 0) : 0 ≤ w ∧ w < l.length := by
  unfold fitC stateOf at h
  by_cases h' : 0 ≤ w ∧ w < l.length
  · exact h'
  · rw [if_neg h'] at h; simp at h
theorem fitC_cases (l : List Int) (w : Int) : fitC l w = 0 ∨ fitC l w = 6 ∨ fitC l w = 9 := by
  unfold fitC; split
  · exact .inr (.inl rfl)
  · split
    · exact .inr (.inr rfl)
    · exact .inl rfl

theorem turn_spec {W : World} {c cl : Nat} {l : List Int} {now : Int} (h : CrewAt W c cl l now 143) (w s : Int) {K : Value × Unit → World → Prop}
    (hk : ∀ W', Keeps [cl] W W' → CrewAt W' c cl (turnS l w s) now 143 → K (er (fitC l w), ()) W') :
    callG Try.prog 84 [.pointer (some ⟨c, 0, none⟩), .int .i64 w, .int .i64 s] [.one .any] W K := by
  apply call84
  unfold G84
  refine fit_spec h w ⟨er_ifc _, ?_⟩
  simp only [er_nil, ifB_iff, Bool.not_eq_true', decide_eq_false_iff_not, Bool.not_eq_false', decide_eq_true_eq, nilck_some]
  refine ⟨fun h1 => ?_, fun h1 => ?_⟩
  · exact hk W (Keeps.refl _ _) (by rwa [turnS, if_neg h1])
  · obtain ⟨h2, h3⟩ := fit_range h1
    refine ld_sl (by rw [h.hd.cell]; rfl) (idx_some h2 (by simp only; omega) ?_)
    rw [addr0, Nat.mul_one]
    refine st_blk' h.ls (by simp; omega) fun W' hkp hb => ?_
    have := hk W' hkp ⟨by rw [turnS, if_pos h1, List.length_set]; exact h.hd.keep hkp (by simp [h.ne]), by rw [turnS, if_pos h1, List.map_set]; exact hb, h.ne⟩
    rwa [h1] at this

theorem stall_spec {W : World} {c cl : Nat} {l : List Int} {now : Int} (h : CrewAt W c cl l now 143) (w : Int) {K : Value × Unit → World → Prop}
    (hk : ∀ W', Keeps [cl] W W' → CrewAt W' c cl (turnS l w 1) now 143 → K (er (fitC l w), ()) W') :
    callG Try.prog 16 [.pointer (some ⟨c, 0, none⟩), .int .i64 w] [.one .any] W K := call16 _ _ _ _ (turn_spec h w 1 hk)
theorem wake_spec {W : World} {c cl : Nat} {l : List Int} {now : Int} (h : CrewAt W c cl l now 143) (w : Int) {K : Value × Unit → World → Prop}
    (hk : ∀ W', Keeps [cl] W W' → CrewAt W' c cl (turnS l w 0) now 143 → K (er (fitC l w), ()) W') :
    callG Try.prog 18 [.pointer (some ⟨c, 0, none⟩), .int .i64 w] [.one .any] W K := call18 _ _ _ _ (turn_spec h w 0 hk)
theorem kill_spec {W : World} {c cl : Nat} {l : List Int} {now : Int} (h : CrewAt W c cl l now 143) (w : Int) {K : Value × Unit → World → Prop}
    (hk : ∀ W', Keeps [cl] W W' → CrewAt W' c cl (turnS l w 2) now 143 → K (er (fitC l w), ()) W') :
    callG Try.prog 19 [.pointer (some ⟨c, 0, none⟩), .int .i64 w] [.one .any] W K := call19 _ _ _ _ (turn_spec h w 2 hk)

/-- States that may be. -/
def Sts (l : List Int) : Prop := ∀ x ∈ l, 0 ≤ x ∧ x ≤ 2
theorem Sts.turn {l : List Int} (h : Sts l) {w s : Int} (hs : 0 ≤ s ∧ s ≤ 2) : Sts (turnS l w s) := by
  unfold turnS
  split
  · intro x hx
    rcases List.mem_or_eq_of_mem_set hx with h' | h'
    · exact h x h'
    · subst h'; exact hs
  · exact h
theorem turn_len (l : List Int) (w s : Int) : (turnS l w s).length = l.length := by unfold turnS; split <;> simp
theorem Sts.state {l : List Int} (h : Sts l) {w : Int} : (0 ≤ w ∧ w < l.length ∧ 0 ≤ stateOf l w ∧ stateOf l w ≤ 2) ∨ stateOf l w = -1 := by
  unfold stateOf
  split
  · rename_i h'
    left
    have hm : l.getD w.toNat 0 ∈ l := by
      rw [List.getD_eq_getElem?_getD, List.getElem?_eq_getElem (by omega)]
      simp
    exact ⟨h'.1, h'.2, (h _ hm).1, (h _ hm).2⟩
  · exact .inr rfl

theorem rturn_spec {W : World} {c cl : Nat} {l : List Int} {now : Int} (hs : Sts l) (h : CrewAt W c cl l now 33) (w s : Int) {K : Int × Unit → World → Prop}
    (hk : ∀ W', Keeps [cl] W W' → CrewAt W' c cl (turnS l w s) now 33 → K (fitC l w, ()) W') :
    callG Try.prog 17 [.pointer (some ⟨c, 0, none⟩), .int .i64 w, .int .i64 s] [.one (.int .i64)] W K := by
  apply call17
  unfold G17
  refine rstate_spec h w ?_
  simp only [ifB_iff, decide_eq_true_eq, decide_eq_false_iff_not, beq_iff_eq, beq_eq_false_iff_ne, nilck_some]
  refine ⟨fun h1 => ?_, fun h1 => ⟨fun h2 => ?_, fun h2 => ?_⟩⟩
  · have e : stateOf l w = -1 := by rcases hs.state (w := w) with ⟨_, _, h3, _⟩ | h3 <;> omega
    have f : fitC l w = 6 := by rw [fitC, if_pos e]
    have := hk W (Keeps.refl _ _) (by rwa [turnS, if_neg (by omega)])
    rwa [f] at this
  · have f : fitC l w = 9 := by rw [fitC, if_neg (by omega), if_pos h2]
    have := hk W (Keeps.refl _ _) (by rwa [turnS, if_neg (by omega)])
    rwa [f] at this
  · have f : fitC l w = 0 := by rw [fitC, if_neg (by omega), if_neg h2]
    obtain ⟨h3, h4⟩ := fit_range f
    refine ld_sl (by rw [h.hd.cell]; rfl) (idx_some h3 (by simp only; omega) ?_)
    rw [addr0, Nat.mul_one]
    refine st_blk' h.ls (by simp; omega) fun W' hkp hb => ?_
    have := hk W' hkp ⟨by rw [turnS, if_pos f, List.length_set]; exact h.hd.keep hkp (by simp [h.ne]), by rw [turnS, if_pos f, List.map_set]; exact hb, h.ne⟩
    rwa [f] at this

theorem may_spec {W : World} {c cl : Nat} {l : List Int} {now : Int} (h : CrewAt W c cl l now 143) (w : Int) {K : Value × Unit → World → Prop} (hk : K (er (mayC l w), ()) W) :
    callG Try.prog 25 [.pointer (some ⟨c, 0, none⟩), .int .i64 w] [.one .any] W K := by
  apply call25
  unfold G25
  refine fit_spec h w ⟨er_ifc _, ?_⟩
  simp only [er_nil, ifB_iff, Bool.not_eq_true', decide_eq_false_iff_not, Bool.not_eq_false', decide_eq_true_eq, nilck_some]
  refine ⟨fun h1 => ?_, fun h1 => ?_⟩
  · rwa [mayC, if_pos h1] at hk
  · obtain ⟨h2, h3⟩ := fit_range h1
    refine ld_sl (by rw [h.hd.cell]; rfl) (idx_some h2 (by simp only; omega) ?_)
    rw [addr0, Nat.mul_one]
    refine ld_int (h.cell _ (by omega)) ?_
    have e : stateOf l w = l.getD w.toNat 0 := by rw [stateOf, if_pos ⟨h2, h3⟩]
    simp only [beq_iff_eq, beq_eq_false_iff_ne, ← e]
    refine ⟨fun h4 => ?_, fun h4 => ?_⟩
    · rwa [mayC, if_neg (by omega), if_pos h4] at hk
    · rwa [mayC, if_neg (by omega), if_neg h4] at hk
theorem rmay_spec {W : World} {c cl : Nat} {l : List Int} {now : Int} (hs : Sts l) (h : CrewAt W c cl l now 33) (w : Int) {K : Int × Unit → World → Prop} (hk : K (mayC l w, ()) W) :
    callG Try.prog 26 [.pointer (some ⟨c, 0, none⟩), .int .i64 w] [.one (.int .i64)] W K := by
  apply call26
  unfold G26
  refine rstate_spec h w ?_
  simp only [ifB_iff, decide_eq_true_eq, decide_eq_false_iff_not, beq_iff_eq, beq_eq_false_iff_ne]
  refine ⟨fun h1 => ?_, fun h1 => ⟨fun h2 => ?_, fun h2 => ⟨fun h3 => ?_, fun h3 => ?_⟩⟩⟩
  · have e : stateOf l w = -1 := by rcases hs.state (w := w) with ⟨_, _, h3, _⟩ | h3 <;> omega
    have f : fitC l w = 6 := by rw [fitC, if_pos e]
    rwa [mayC, if_pos (by omega), f] at hk
  · have f : fitC l w = 9 := by rw [fitC, if_neg (by omega), if_pos h2]
    rwa [mayC, if_pos (by omega), f] at hk
  · have f : fitC l w = 0 := by rw [fitC, if_neg (by omega), if_neg h2]
    rwa [mayC, if_neg (by omega), if_pos h3] at hk
  · have f : fitC l w = 0 := by rw [fitC, if_neg (by omega), if_neg h2]
    rwa [mayC, if_neg (by omega), if_neg h3] at hk

theorem tick_spec {W : World} {c cl : Nat} {l : List Int} {now : Int} (h : CrewAt W c cl l now 143) (h0 : 0 ≤ now) (h1 : now ≤ 1099511627776) (n : Int) {K : Value × Unit → World → Prop}
    (hk : ∀ W', Keeps [c] W W' → CrewAt W' c cl l (tickS now n) 143 → K (er (tickC now n), ()) W') :
    callG Try.prog 20 [.pointer (some ⟨c, 0, none⟩), .int .i64 n] [.one .any] W K := by
  apply call20
  unfold G20
  simp only [ifB_dec, nilck_some, addr0]
  refine ⟨fun h2 => ?_, fun h2 => ld_int (by rw [h.hd.cell]; rfl) ?_⟩
  · have f : tickC now n = 1 := by rw [tickC, if_pos (.inl h2)]
    have := hk W (Keeps.refl _ _) (by rwa [tickS, if_neg (by omega)])
    rwa [f] at this
  · rw [w64 (by omega) (by omega)]
    refine ⟨fun h3 => ?_, fun h3 => ld_int (by rw [h.hd.cell]; rfl) ?_⟩
    · have f : tickC now n = 1 := by rw [tickC, if_pos (.inr h3)]
      have := hk W (Keeps.refl _ _) (by rwa [tickS, if_neg (by omega)])
      rwa [f] at this
    · have f : tickC now n = 0 := by rw [tickC, if_neg (by omega)]
      rw [w64 (by omega) (by omega)]
      refine st_blk' h.hd (by simp) fun W' hkp hb => ?_
      have := hk W' hkp ⟨by rw [tickS, if_pos f]; exact hb, h.ls.keep hkp (by simp [Ne.symm h.ne]), h.ne⟩
      rwa [f] at this
theorem rtick_spec {W : World} {c cl : Nat} {l : List Int} {now : Int} (h : CrewAt W c cl l now 33) (h0 : 0 ≤ now) (h1 : now ≤ 1099511627776) (n : Int) {K : Int × Unit → World → Prop}
    (hk : ∀ W', Keeps [c] W W' → CrewAt W' c cl l (tickS now n) 33 → K (tickC now n, ()) W') :
    callG Try.prog 21 [.pointer (some ⟨c, 0, none⟩), .int .i64 n] [.one (.int .i64)] W K := by
  apply call21
  unfold G21
  simp only [ifB_dec, nilck_some, addr0]
  have bad : tickC now n = 1 → K (1, ()) W := fun f => by
    have := hk W (Keeps.refl _ _) (by rwa [tickS, if_neg (by omega)])
    rwa [f] at this
  refine ⟨fun h2 => bad (by rw [tickC, if_pos (.inl h2)]), fun h2 => ⟨fun h3 => bad (by rw [tickC, if_pos (by omega)]), fun h3 => ld_int (by rw [h.hd.cell]; rfl) ?_⟩⟩
  rw [w64 (by omega) (by omega)]
  refine ⟨fun h4 => bad (by rw [tickC, if_pos (by omega)]), fun h4 => ld_int (by rw [h.hd.cell]; rfl) ?_⟩
  have f : tickC now n = 0 := by rw [tickC, if_neg (by omega)]
  rw [w64 (by omega) (by omega)]
  refine st_blk' h.hd (by simp) fun W' hkp hb => ?_
  have := hk W' hkp ⟨by rw [tickS, if_pos f]; exact hb, h.ls.keep hkp (by simp [Ne.symm h.ne]), h.ne⟩
  rwa [f] at this
theorem now_spec {W : World} {c cl : Nat} {l : List Int} {now : Int} (h : CrewAt W c cl l now 143) {K : Int × Unit → World → Prop} (hk : K (now, ()) W) :
    callG Try.prog 27 [.pointer (some ⟨c, 0, none⟩)] [.one (.int .i64)] W K := by
  apply call27
  unfold G27
  simp only [nilck_some, addr0]
  exact ld_int (by rw [h.hd.cell]; rfl) hk
theorem len_spec {W : World} {c cl : Nat} {l : List Int} {now : Int} (h : CrewAt W c cl l now 143) {K : Int × Unit → World → Prop} (hk : K ((l.length : Int), ()) W) :
    callG Try.prog 28 [.pointer (some ⟨c, 0, none⟩)] [.one (.int .i64)] W K := by
  apply call28
  unfold G28
  simp only [nilck_some]
  exact ld_sl (by rw [h.hd.cell]; rfl) hk
theorem new_spec {W : World} (n : Int) {K : Option Addr × Value × Unit → World → Prop} (hbad : n < 1 ∨ 16 < n → K (none, er 1, ()) W)
    (hk : 1 ≤ n → n ≤ 16 → ∀ c cl W', W.heap.size ≤ c → W.heap.size ≤ cl → Keeps [] W W' → CrewAt W' c cl (List.replicate n.toNat 0) 0 143 → K (some ⟨c, 0, none⟩, er 0, ()) W') :
    callG Try.prog 14 [.int .i64 n] [.one .ptr, .one .any] W K := by
  apply call14
  unfold G14
  simp only [ifB_dec]
  refine ⟨fun h => hbad (.inl h), fun h1 => ⟨fun h => hbad (.inr h), fun h2 => ?_⟩⟩
  refine mk_blk (by omega) (by omega) (by omega) (by omega) fun cl W1 hcl k1 b1 => new_blk fun c W2 hc k2 b2 => ?_
  rw [madeCells_one, Nat.mul_one] at b1
  have hlt := b1.lt
  have hsz := k1.size
  refine hk (by omega) (by omega) c cl W2 (by omega) (by omega) (k1.trans k2) ⟨by simpa using b2, by simpa using b1.keep k2 (by simp), by omega⟩
end Go.Proofs.Ytbaclnddcobdmaa
