/-
  Rows of keys, and of numbers: what inserts into them and deletes from them.
-/
import Derived.Test.YtdglfbeddbcbpaaLib1
set_option linter.unusedSimpArgs false
set_option linter.unusedVariables false
namespace Go.Proofs.Ytdglfbeddbcbpaa
open Go Go.Gp Go.Ga
theorem uK : Try.prog.underlying 69 = some (.slice 23) := by kernel_rfl
theorem elK : ∃ i, ElemT Try.prog 69 23 3 1 24 i (.slice none 0 0) := by
  obtain ⟨i, h1, h2, h3, h4⟩ := info_of (t := 23) (z := .slice none 0 0) (s := 1) (b := 24) (by kernel_rfl)
  exact ⟨i, uK, uInt, h1, h2, h3, h4, rfl, by decide, by intro v hv; simp [Value.cells] at hv; subst hv; rfl⟩
theorem ovK : OvF Try.prog 69 108 := ⟨4, fun W args => run_callFunc_extern Try.func108 (by kernel_rfl) (by kernel_rfl) (by kernel_rfl) (e := Extern.SlicesOverlaps.overlaps #[69, 69] #[4]) (by kernel_rfl) args W⟩
theorem c_insK (xs ys : List (List UInt8)) (i : Nat) (hi : i ≤ xs.length) (hb : xs.length + ys.length ≤ 1000000000) {H : HP} {K : HT [(false, .own (.row .byte) 23)] → HP → Prop} (hk : K (xs.take i ++ ys ++ xs.drop i, ()) H) :
    callA Try.prog 95 [(false, .own (.row .byte) 23), (false, .one (.int .i64)), (false, .row (.row .byte))] (xs, (i : Int), ys, ()) [(false, .own (.row .byte) 23)] H K :=
  call_ins rfl (by decide) hi (fun W s v cs ds K ho hv hvn hne hsl hvl h1 h2 hk => by
    apply call95
    obtain ⟨inf, T⟩ := elK
    exact ins_mem T ovK (rt := 109) ho hv hvn hne (by omega) h1 h2 (by omega) (by omega) hk) hk
theorem elI : ∃ i, ElemT Try.prog 65 3 3 1 8 i (.int .i64 0) := by
  obtain ⟨i, h1, h2, h3, h4⟩ := info_of (t := 3) (z := .int .i64 0) (s := 1) (b := 8) (by kernel_rfl)
  exact ⟨i, uInts, uInt, h1, h2, h3, h4, rfl, by decide, by intro v hv; simp [Value.cells] at hv; subst hv; rfl⟩
theorem ovI : OvF Try.prog 65 110 := ⟨4, fun W args => run_callFunc_extern Try.func110 (by kernel_rfl) (by kernel_rfl) (by kernel_rfl) (e := Extern.SlicesOverlaps.overlaps #[65, 65] #[4]) (by kernel_rfl) args W⟩
theorem c_insI (xs ys : List (Int)) (i : Nat) (hi : i ≤ xs.length) (hb : xs.length + ys.length ≤ 1000000000) {H : HP} {K : HT [(false, .own (.one (.int .i64)) 3)] → HP → Prop} (hk : K (xs.take i ++ ys ++ xs.drop i, ()) H) :
    callA Try.prog 96 [(false, .own (.one (.int .i64)) 3), (false, .one (.int .i64)), (false, .row (.one (.int .i64)))] (xs, (i : Int), ys, ()) [(false, .own (.one (.int .i64)) 3)] H K :=
  call_ins rfl (by decide) hi (fun W s v cs ds K ho hv hvn hne hsl hvl h1 h2 hk => by
    apply call96
    obtain ⟨inf, T⟩ := elI
    exact ins_mem T ovI (rt := 111) ho hv hvn hne (by omega) h1 h2 (by omega) (by omega) hk) hk
end Go.Proofs.Ytdglfbeddbcbpaa
