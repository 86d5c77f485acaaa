/-
  The library's functions that compare and clone bytes, and that insert into rows of pairs and delete from them.
-/
import Derived.Test.YtalniaipgdbbcaaDlib
import Derived.Test.YtalniaipgdbbcaaKd
set_option linter.unusedSimpArgs false
set_option linter.unusedVariables false
namespace Go.Proofs.Ytalniaipgdbbcaa
open Go Go.Gp Go.Ga
theorem info_of {t : TypeId} {z : Value} {s b : Nat} (h : (Try.prog.info? t).map (fun i => (i.zero, i.size, i.bytes)) = some (some z, s, b)) : ∃ i, Try.prog.info? t = some i ∧ i.zero = some z ∧ i.size = s ∧ i.bytes = b := by
  obtain ⟨i, hi, h⟩ := Option.map_eq_some_iff.1 h
  simp only [Prod.mk.injEq] at h
  exact ⟨i, hi, h.1, h.2.1, h.2.2⟩
theorem uBytes : Try.prog.underlying 22 = some (.slice 5) := by kernel_rfl
theorem nByte : ∃ i, Try.prog.info? 5 = some i ∧ i.zero = some (.int .u8 0) ∧ i.size = 1 ∧ i.bytes = 1 := info_of (by kernel_rfl)
theorem c_bcompare (a b : List UInt8) : PureA Try.prog 125 [(false, .row .byte), (false, .row .byte)] (a, b, ()) [(false, .one (.int .i64))] (cmpL a b, ()) := pure_bb rfl fun W x y hx hy => by
  apply call125
  unfold G125
  exact ext_compare Try.func138 (by kernel_rfl) (by kernel_rfl) (by kernel_rfl) (by kernel_rfl) hx hy ⟨rfl, rfl⟩
set_option maxRecDepth 100000 in
theorem c_bclone (a : List UInt8) (ha : a.length ≤ 140737488355328) : PureA Try.prog 113 [(false, .row .byte)] (a, ()) [(false, .row .byte)] (a, ()) := pure_clone (t := 5) rfl (by decide) fun W s cs hs hl hn h1 => by
  apply call113
  unfold G113
  have hcl := hs.len
  obtain ⟨p, n, c⟩ := s
  cases p with
  | none =>
    have h0 := (hn rfl).1
    simp only at h0 hcl hl
    subst h0
    have : cs = [] := List.eq_nil_of_length_eq_zero (by rw [hcl]; simp)
    subst this
    exact ⟨OwnS.nil _ _ _ _, rfl, Keeps.refl _ _, by simp [sblk]⟩
  | some p =>
    simp only [Option.isNone_some, ifB_false]
    refine new_blk fun m W1 hm k1 b1 => ?_
    obtain ⟨i, hi, h2, h3, h4⟩ := nByte
    simp only at hl hcl
    refine app_own' uBytes hi h2 h3 h4 rfl (by decide) (OwnS.blank (B := 0) b1 (Nat.zero_le _)) cs hcl (fun j u hj => ?_) h1 (by simp only; omega) (by simp only; omega) (Nat.zero_le _) fun r W2 o2 k2 l2 hb hn0 => ?_
    · obtain ⟨q, hq, hc⟩ := (hs.keep0 k1).at_ j u hj
      injection hq with hq
      subst hq
      exact hc
    · simp only [List.nil_append] at o2
      have hb1 := b1.lt
      have hk2 := k2.size
      have hk1 := k1.size
      refine ⟨o2, by simpa using l2, k1.push k2 (by simp [sblk, hm]), fun b hbb => ?_⟩
      rcases hb b hbb with h | h
      · simp only [sblk, List.mem_singleton] at h
        subst h
        exact ⟨by omega, by omega⟩
      · exact ⟨Nat.le_trans hk1 h.1, h.2⟩
end Go.Proofs.Ytalniaipgdbbcaa
