/-
  The library's functions that compare and clone bytes, and that insert into rows of pairs and delete from them.
-/
import Derived.Test.YteljallgjmhkdaaDlib
import Derived.Test.YteljallgjmhkdaaKd
set_option linter.unusedSimpArgs false
set_option linter.unusedVariables false
namespace Go.Proofs.Yteljallgjmhkdaa
open Go Go.Gp Go.Ga
theorem info_of {t : TypeId} {z : Value} {s b : Nat} (h : (Try.prog.info? t).map (fun i => (i.zero, i.size, i.bytes)) = some (some z, s, b)) : ∃ i, Try.prog.info? t = some i ∧ i.zero = some z ∧ i.size = s ∧ i.bytes = b := by
  obtain ⟨i, hi, h⟩ := Option.map_eq_some_iff.1 h
  simp only [Prod.mk.injEq] at h
  exact ⟨i, hi, h.1, h.2.1, h.2.2⟩
theorem uBytes : Try.prog.underlying 30 = some (.slice 5) := by kernel_rfl
theorem uInt : Try.prog.underlying 3 = some (.int .i64) := by kernel_rfl
theorem uPairs : Try.prog.underlying 22 = some (.slice 45) := by kernel_rfl
theorem nByte : ∃ i, Try.prog.info? 5 = some i ∧ i.zero = some (.int .u8 0) ∧ i.size = 1 ∧ i.bytes = 1 := info_of (by kernel_rfl)
theorem elPair : ∃ i, ElemT Try.prog 22 45 3 2 48 i (.agg #[.slice none 0 0, .slice none 0 0]) := by
  obtain ⟨i, h1, h2, h3, h4⟩ := info_of (t := 45) (z := .agg #[.slice none 0 0, .slice none 0 0]) (s := 2) (b := 48) (by kernel_rfl)
  exact ⟨i, uPairs, uInt, h1, h2, h3, h4, rfl, by decide, by intro v hv; simp [Value.cells] at hv; subst hv; rfl⟩
theorem ovPair : OvF Try.prog 22 57 := ⟨4, fun W args => run_callFunc_extern Try.func57 (by kernel_rfl) (by kernel_rfl) (by kernel_rfl) (e := Extern.SlicesOverlaps.overlaps #[22, 22] #[4]) (by kernel_rfl) args W⟩
theorem c_bcompare (a b : List UInt8) : PureA Try.prog 29 [(false, .row .byte), (false, .row .byte)] (a, b, ()) [(false, .one (.int .i64))] (cmpL a b, ()) := pure_bb rfl fun W x y hx hy => by
  apply call29
  unfold G29
  exact ext_compare Try.func33 (by kernel_rfl) (by kernel_rfl) (by kernel_rfl) (by kernel_rfl) hx hy ⟨rfl, rfl⟩
set_option maxRecDepth 100000 in
theorem c_bclone (a : List UInt8) (ha : a.length ≤ 140737488355328) : PureA Try.prog 26 [(false, .row .byte)] (a, ()) [(false, .row .byte)] (a, ()) := pure_clone (t := 5) rfl (by decide) fun W s cs hs hl hn h1 => by
  apply call26
  unfold G26
  have hcl := hs.len
  obtain ⟨p, n, c⟩ := s
  cases p with
  | none =>
    have h0 := (hn rfl).1
    simp only at h0 hcl hl
    subst h0
    have : cs = [] := List.eq_nil_of_length_eq_zero (by rw [hcl]; simp)
    subst this
    exact ⟨OwnS.nil _ _ _ _, rfl, Keeps.refl _ _, by simp [sblk]⟩
  | some p =>
    simp only [Option.isNone_some, ifB_false]
    refine new_blk fun m W1 hm k1 b1 => ?_
    obtain ⟨i, hi, h2, h3, h4⟩ := nByte
    simp only at hl hcl
    refine app_own' uBytes hi h2 h3 h4 rfl (by decide) (OwnS.blank (B := 0) b1 (Nat.zero_le _)) cs hcl (fun j u hj => ?_) h1 (by simp only; omega) (by simp only; omega) (Nat.zero_le _) fun r W2 o2 k2 l2 hb hn0 => ?_
    · obtain ⟨q, hq, hc⟩ := (hs.keep0 k1).at_ j u hj
      injection hq with hq
      subst hq
      exact hc
    · simp only [List.nil_append] at o2
      have hb1 := b1.lt
      have hk2 := k2.size
      have hk1 := k1.size
      refine ⟨o2, by simpa using l2, k1.push k2 (by simp [sblk, hm]), fun b hbb => ?_⟩
      rcases hb b hbb with h | h
      · simp only [sblk, List.mem_singleton] at h
        subst h
        exact ⟨by omega, by omega⟩
      · exact ⟨Nat.le_trans hk1 h.1, h.2⟩
theorem c_insP (xs ys : List (List UInt8 × List UInt8)) (i : Nat) (hi : i ≤ xs.length) (hb : xs.length + ys.length ≤ 1000000000) {H : HP} {K : HT [(false, .own (.cons (.row .byte) (.row .byte)) 45)] → HP → Prop} (hk : K (xs.take i ++ ys ++ xs.drop i, ()) H) :
    callA Try.prog 54 [(false, .own (.cons (.row .byte) (.row .byte)) 45), (false, .one (.int .i64)), (false, .row (.cons (.row .byte) (.row .byte)))] (xs, (i : Int), ys, ()) [(false, .own (.cons (.row .byte) (.row .byte)) 45)] H K :=
  call_ins rfl (by decide) hi (fun W s v cs ds K ho hv hvn hne hsl hvl h1 h2 hk => by
    apply call54
    obtain ⟨inf, T⟩ := elPair
    exact ins_mem T ovPair (rt := 58) ho hv hvn hne (by omega) h1 h2 (by omega) (by omega) hk) hk
theorem c_delP (xs : List (List UInt8 × List UInt8)) (i j : Nat) (hi : i ≤ j) (hj : j ≤ xs.length) (hb : xs.length ≤ 1000000000) {H : HP} {K : HT [(false, .own (.cons (.row .byte) (.row .byte)) 45)] → HP → Prop} (hk : K (xs.take i ++ xs.drop j, ()) H) :
    callA Try.prog 53 [(false, .own (.cons (.row .byte) (.row .byte)) 45), (false, .one (.int .i64)), (false, .one (.int .i64))] (xs, (i : Int), (j : Int), ()) [(false, .own (.cons (.row .byte) (.row .byte)) 45)] H K :=
  call_del rfl (by decide) hi hj (fun W s cs K ho hsl h1 hk => by
    apply call53
    obtain ⟨inf, T⟩ := elPair
    exact del_mem T ho hi (by omega) h1 (by omega) hk) hk
end Go.Proofs.Yteljallgjmhkdaa
