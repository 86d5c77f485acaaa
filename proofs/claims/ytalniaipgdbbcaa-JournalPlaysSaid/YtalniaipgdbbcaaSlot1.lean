/-
  Slots, over data: the program's own functions, and the document's, over blocks of slots.
-/
import Derived.Test.YtalniaipgdbbcaaDslot
import Derived.Test.YtalniaipgdbbcaaDslotp
import Derived.Test.YtalniaipgdbbcaaOmap2
import Derived.Test.YtalniaipgdbbcaaKt
import Derived.Test.YtalniaipgdbbcaaKd
set_option linter.unusedSimpArgs false
set_option linter.unusedVariables false
namespace Go.Proofs.Ytalniaipgdbbcaa
open Go Go.Gp Go.Ga Go.Th
abbrev RQk : AK := .cons (.one (.int .i64)) (.cons (.one (.int .i64)) (.cons (.one (.int .i64)) (.cons (.row .byte) (.cons (.row .byte) (.cons (.row .byte) (.cons (.row .byte) (.one (.int .i64))))))))
abbrev RSk : AK := .cons (.one (.int .i64)) (.cons (.one .bool) (.cons (.row .byte) (.cons (.row (.cons (.row .byte) (.row .byte))) (.one (.int .u64)))))
abbrev ONEk : AK := .cons (.one (.int .i64)) (.cons RQk RSk)
def er (c : Int) : Value := if c = 0 then .nilIface else .iface 44 (.int .i64 c)
theorem er_ifc (c : Int) : isIfc (er c) = true := by unfold er; split <;> rfl
theorem er_nil (c : Int) : isNilV (er c) = decide (c = 0) := by unfold er; split <;> rename_i h <;> simp [isNilV, h]
theorem er_of {c : Int} (h : c ≠ 0) : (Value.iface 44 (.int .i64 c)) = er c := by rw [er, if_neg h]
theorem undC : Try.prog.underlying 44 = some (.int .i64) := by kernel_rfl
theorem infC : (Try.prog.info? 44).map (·.comparable) = some true := by kernel_rfl
theorem er_eq {a b : Int} {K : Bool → Prop} (hb : b ≠ 0) (hk : K (decide (a = b))) : ifcEq Try.prog (er a) (.iface 44 (.int .i64 b)) K := by
  have hi := infC
  cases hh : Try.prog.info? 44 with
  | none => rw [hh] at hi; cases hi
  | some i =>
    rw [hh] at hi
    simp only [Option.map_some, Option.some.injEq] at hi
    by_cases ha : a = 0
    · refine ⟨decide (a = b), .inr (.inr (.inl ⟨44, .int .i64 b, by rw [ha]; rfl, rfl, ?_⟩)), hk⟩
      simp only [decide_eq_false_iff_not]; omega
    · refine ⟨decide (a = b), .inl ⟨44, .i64, a, b, i, by rw [er, if_neg ha], rfl, undC, hh, hi, ?_⟩, hk⟩
      rw [Bool.eq_iff_iff]; simp
structure SlotsAt (H : HP) (n b : Nat) (s : Sl) (l : List One) : Prop where
  hdr : H n = some ⟨.one .sl, s⟩
  arr : ArrAt H b ONEk 127 s l
  at0 : SlAt s b l.length
  le : l.length ≤ 32
theorem SlotsAt.ne {H : HP} {n b : Nat} {s : Sl} {l : List One} (h : SlotsAt H n b s l) : n ≠ b := fun e => by
  subst e
  have h1 := h.hdr
  have h2 := h.arr
  unfold ArrAt at h2
  rw [h1] at h2
  injection h2 with h2
  injection h2 with h2
  cases h2
theorem SlotsAt.le' {H H' : HP} {n b : Nat} {s : Sl} {l : List One} (h : SlotsAt H n b s l) (hl : H.le H') : SlotsAt H' n b s l := ⟨hl.get h.hdr, hl.get h.arr, h.at0, h.le⟩
theorem SlotsAt.put {H : HP} {n b : Nat} {s : Sl} {l l' : List One} (h : SlotsAt H n b s l) (he : l'.length = l.length) : SlotsAt (H.set b (.arr ONEk 127) (s, l')) n b s l' :=
  ⟨by rw [hp_ne h.ne]; exact h.hdr, hp_at _ _ _ _, by rw [he]; exact h.at0, by rw [he]; exact h.le⟩
abbrev adr (b : Nat) (i : Nat) : Addr := elAd b i 14
def shortA (a : Res) : Prop := a.2.2.1.length ≤ 100 ∧ a.2.2.2.1.length ≤ 1000 ∧ ∀ p ∈ a.2.2.2.1, p.1.length ≤ 1000 ∧ p.2.length ≤ 1000
theorem c_index (l : List Int) (x : Int) : S130 l x (idxI (fun y => x == y) l, ()) := pure130 l x fun H K hk => by
  unfold A130
  refine lenA_i fun hlen => ?_
  refine loop_n l.length (fun i => ((l, x, (l.length : Int), (i : Int), ()), ())) (fun i => ∀ j (h : j < l.length), j < i → (x == l[j]) = false) rfl (fun j h h0 => absurd h0 (Nat.not_lt_zero j)) fun i C hi hP hC => ?_
  dsimp only at hC ⊢
  refine ifLt (fun h1 => ?_) fun h1 => ?_
  · refine atA_lt h1 (ifB_i (fun hb => ?_) fun hb => ?_)
    · rw [(idxI_at (p := fun y => x == y) h1 hb hP).1] at hk; exact hk
    · rw [w1 (by omega)]
      refine hC h1 fun j h h2 => ?_
      rcases Nat.lt_or_ge j i with h3 | h3
      · exact hP j h h3
      · obtain rfl : j = i := by omega
        exact hb
  · rw [(idxI_no (p := fun y => x == y) fun j h => hP j h (by omega)).1] at hk; exact hk
theorem c_contains (l : List Int) (x : Int) : S114 l x (decide (x ∈ l), ()) := pure114 l x fun H K hk => by
  unfold A114
  refine retA_i _ (c_index l x) ?_
  have : decide (idxI (fun y => x == y) l ≥ 0) = decide (x ∈ l) := by
    rw [Bool.eq_iff_iff, decide_eq_true_eq, decide_eq_true_eq, ge_iff_le, idxI_any, List.any_eq_true]
    constructor
    · rintro ⟨y, hy, h⟩; rw [beq_iff_eq] at h; subst h; exact hy
    · exact fun h => ⟨x, h, by simp⟩
  show K (decide (idxI (fun y => x == y) l ≥ 0), ()) H
  rw [this]; exact hk
end Go.Proofs.Ytalniaipgdbbcaa
