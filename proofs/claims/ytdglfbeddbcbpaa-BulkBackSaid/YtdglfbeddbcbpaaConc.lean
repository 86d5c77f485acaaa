/-
  slices.Concat of rows of pairs: slices.Grow of an empty row, over the memory; the rows one behind the other.
-/
import Derived.Test.YtdglfbeddbcbpaaLib1
import Derived.Test.YtdglfbeddbcbpaaDgrw
import Derived.Test.YtdglfbeddbcbpaaDconc
set_option linter.unusedSimpArgs false
set_option linter.unusedVariables false
namespace Go.Proofs.Ytdglfbeddbcbpaa
open Go Go.Gp Go.Ga
theorem grow_mem {W : World} {s : Sl} (ho : OwnS W 0 43 2 s []) (hl : s.len = 0) (n : Nat) (hn : n ≤ 1000000) (K : Sl × Unit → World → Prop)
    (hk : ∀ r W', OwnS W' 0 43 2 r [] → Keeps (sblk s) W W' → (∀ b ∈ sblk r, b ∈ sblk s ∨ newA W W' b) → r.len = 0 → K (r, ()) W') : callG Try.prog 100 [s.val, .int .i64 n] [.one .sl] W K := by
  apply call100
  unfold G100
  obtain ⟨inf, T⟩ := elPair
  have hs2 : inf.size = 2 := T.hsz
  have hcm : s.cap ≤ maxLen := by
    rcases ho.2 with ⟨hv, _⟩ | ⟨g, cap, cur, hv, _, hg, h1, h2, h3, h4⟩
    · injection hv with e1 e2 e3; rw [e3]; exact Nat.zero_le _
    · injection hv with e1 e2 e3; rw [e3]; exact h2
  refine JoinG.rule (fun v W1 => v = (s, (n : Int), ()) ∧ W1 = W) ?_ fun B' hB => ifF (decide_eq_false (by omega)) (hB _ _ ⟨rfl, rfl⟩)
  rintro v W1 ⟨rfl, rfl⟩ j2
  refine JoinG.rule (fun v W2 => K (v.1, ()) W2) (fun v W2 h _ => h) fun B6 hB => ?_
  have hm : maxLen = 9223372036854775807 := rfl
  refine ⟨(s.cap : Int), W1, run_cap T.ht _ _ _, ?_⟩
  dsimp only
  rw [hl, w64 (x := (s.cap : Int) - ((0 : Nat) : Int)) (by omega) (by omega), w64 (by omega) (by omega)]
  refine ifD (fun hgrow => ?_) fun hroom => hB _ _ (hk s W1 ho (Keeps.refl _ _) (fun b hb => .inl hb) hl)
  refine ⟨(s.cap : Int), W1, run_cap T.ht _ _ _, slc_hi (by omega) (by omega) ?_⟩
  have eC : ((s.cap : Int)).toNat = s.cap := by simp
  rw [eC]
  have eK : (n : Int) - ((s.cap : Int) - ((0 : Nat) : Int)) = ((n - s.cap : Nat) : Int) := by omega
  rw [eK]
  obtain ⟨olds, hol, hold⟩ : ∃ olds : List Value, olds.length = s.cap * 2 ∧ (Builtin.firstCells inf.size s.cap (.slice s.a s.cap s.cap)).run Try.prog W1.drew = .ok olds.toArray W1.drew := by
    rcases ho.2 with ⟨hv, _⟩ | ⟨g, cap, cur, hv, _, hg, h1, h2, h3, h4⟩
    · injection hv with e1 e2 e3
      rw [e1, e3]
      exact ⟨[], rfl, by simp [Builtin.firstCells]⟩
    · injection hv with e1 e2 e3
      subst e3
      refine ⟨cur.toList, by simpa using h3, ?_⟩
      have := run_loadCells_list (P := Try.prog) W1.drew ⟨g, 0, none⟩ cur.toList (fun j u hj => by
        rw [addr_add, Nat.zero_add]
        have hg' : RowAt W1 g 43 cur.toList := hg
        rw [← hj]
        exact hg'.cell j)
      rw [e1]
      have hlen : cur.toList.length = s.cap * inf.size := by rw [hs2]; simpa using h3
      rw [hlen] at this
      simpa [Builtin.firstCells] using this
  have hb : inf.bytes = 48 := T.hby
  have hrun := Lib.run_append_grow_zeros (P := Try.prog) W1 22 3 22 43 inf (.agg #[.slice none 0 0, .slice none 0 0]) .i64 .i64 T.ht T.hti T.hi T.hz s.a s.cap s.cap olds hold (n - s.cap) (by omega) (by rw [hs2]; decide) (by omega) (by omega)
      (by rw [hb]; omega)
      (by
        have := nextslicecap_le (need := s.cap + (n - s.cap)) (old := s.cap) (by omega)
        rw [hb]; omega)
  have eN : s.cap + (n - s.cap) = n := by omega
  rw [eN] at hrun
  obtain ⟨hcg, hcg2⟩ : n ≤ grownCap W1 n s.cap 43 ∧ grownCap W1 n s.cap 43 ≤ maxLen := ⟨grownCap_ge W1 _ _ _, grownCap_le_maxLen W1 _ _ _ (by omega)⟩
  generalize grownCap W1 n s.cap 43 = nc at hrun hcg hcg2
  generalize hz : Builtin.zeroCells (Value.agg #[.slice none 0 0, .slice none 0 0]).cells (n - s.cap) = Z1 at hrun
  generalize hz2 : Builtin.zeroCells (Value.agg #[.slice none 0 0, .slice none 0 0]).cells (nc - n) = Z2 at hrun
  have hZ1 : Z1.toList.length = (n - s.cap) * 2 := by rw [← hz, zeroCells_len]; rfl
  have hZ2 : Z2.toList.length = (nc - n) * 2 := by rw [← hz2, zeroCells_len]; rfl
  have hA : olds.toArray ++ Z1 ++ Z2 = (⟨olds ++ Z1.toList ++ Z2.toList⟩ : Array Value) := by
    rw [← Array.toList_inj]; simp
  have hrow : RowAt (W1.drew.alloc (.cells (olds.toArray ++ Z1 ++ Z2) 43)) W1.heap.size 43 (olds ++ Z1.toList ++ Z2.toList) := by
    have := heap_alloc_new W1.drew (.cells (olds.toArray ++ Z1 ++ Z2) 43)
    unfold RowAt
    rw [show (W1.drew.heap.size) = W1.heap.size from rfl] at this
    rw [this, hA]
  refine ⟨⟨some ⟨W1.heap.size, 0, none⟩, n, nc⟩, _, hrun, ?_⟩
  have kA : Keeps [] W1 (W1.drew.alloc (.cells (olds.toArray ++ Z1 ++ Z2) 43)) := (drew_keeps W1 []).trans (alloc_keeps W1.drew _ [])
  generalize (W1.drew.alloc (.cells (olds.toArray ++ Z1 ++ Z2) 43)) = W2 at hrow kA
  refine slc_hi (by omega) (by omega) (hB _ _ ?_)
  have hown := row_own (n := 0) (cap := nc) (size := 2) hrow (Nat.zero_le _) hcg2 (by simp only [List.length_append]; omega)
  refine hk _ _ hown (kA.mono (by simp)) (fun b hb => .inr ?_) rfl
  have : b = W1.heap.size := by simpa [sblk] using hb
  rw [this]
  exact ⟨Nat.le_refl _, hrow.lt⟩
abbrev kP : AK := .cons (.row .byte) (.row .byte)
theorem c_growP (n : Nat) (hn : n ≤ 1000000) {H : HP} {K : HT [(false, .own kP 43)] → HP → Prop} (hk : K ([], ()) H) :
    callA Try.prog 100 [(false, .own kP 43), (false, .one (.int .i64))] ([], (n : Int), ()) [(false, .own kP 43)] H K := fun w W vs hp ha => by
  obtain ⟨s, us, rfl, h1, ha⟩ := arg_own ha
  obtain ⟨us, rfl, _, ha⟩ := arg_one ha
  have ha : us = [] := ha
  subst ha
  obtain ⟨css, hl, hd, ho⟩ := h1.row
  have hcss : css = [] := List.length_eq_zero_iff.1 hl
  subst hcss
  refine (grow_mem ho h1.len n hn (fun z W' => OwnS W' 0 43 2 z.1 [] ∧ Keeps (sblk s) W W' ∧ (∀ b ∈ sblk z.1, b ∈ sblk s ∨ newA W W' b) ∧ z.1.len = 0) fun r W' a1 a2 a3 a4 => ⟨a1, a2, a3, a4⟩).mono fun e' W' ⟨z, he, hoz, hkp, hz, hzl⟩ => ?_
  obtain ⟨hpost, himm⟩ := own_post (S := []) (z := z.1) hp (fun b => h1.tag b) hkp hz
  refine ⟨[z.1.val], ([], ()), H, resW w z.1, by rw [he]; rfl, hk, hpost, ?_⟩
  exact own_res (css := []) (fun b => hp.res b 0) rfl (fun j cs x a b => by simp at a) hoz hzl
def lensB : List (List (List UInt8 × List UInt8)) → Nat
  | [] => 0
  | l :: r => l.length + lensB r
theorem lens_take (ls : List (List (List UInt8 × List UInt8))) (i : Nat) (h : i < ls.length) : lensB (ls.take (i + 1)) = lensB (ls.take i) + ls[i].length := by
  induction ls generalizing i with
  | nil => simp at h
  | cons a r ih =>
    cases i with
    | zero => simp [lensB]
    | succ i =>
      have h2 : i < r.length := by simpa using h
      have := ih i h2
      simp only [List.take_succ_cons, lensB, List.getElem_cons_succ, this]
      omega
theorem lens_le (ls : List (List (List UInt8 × List UInt8))) (i : Nat) : lensB (ls.take i) ≤ lensB ls := by
  induction ls generalizing i with
  | nil => simp
  | cons a r ih =>
    cases i with
    | zero => simp [lensB]
    | succ i => have := ih i; simp only [List.take_succ_cons, lensB]; omega
theorem lens_flat (ls : List (List (List UInt8 × List UInt8))) : ls.flatten.length = lensB ls := by
  induction ls with
  | nil => rfl
  | cons a r ih => simp [lensB, ih]
/-- Rows one behind the other. -/
theorem c_concP (ls : List (List (List UInt8 × List UInt8))) (h1 : ls.length ≤ 1000) (h2 : lensB ls ≤ 1000000) : S82 ls (ls.flatten, ()) := pure82 ls fun H K hk => by
  unfold A82
  refine lenA_i fun _ => loop_n ls.length (fun i => ((ls, (lensB (ls.take i) : Int), ls, (ls.length : Int), (i : Int), ()), ())) (fun _ => True) (by simp [lensB]) trivial fun i C hi _ hC => ?_
  dsimp only at hC ⊢
  refine ifLt (fun hlt => ?_) fun hge => ?_
  · have e1 := lens_take ls i hlt
    have e2 := lens_le ls (i + 1)
    refine atA_lt hlt (lenA_i fun _ => ?_)
    rw [w64 (by omega) (by omega)]
    refine ifF (decide_eq_false (by omega)) ?_
    rw [w1 (by omega), show (lensB (ls.take i) : Int) + (ls[i].length : Int) = ((lensB (ls.take (i + 1)) : Nat) : Int) from by rw [e1]; simp]
    exact hC hlt trivial
  · have hi2 : i = ls.length := by omega
    rw [hi2, List.take_length]
    refine c_growP (lensB ls) h2 (lenA_i fun _ => loop_n ls.length (fun i => (((ls.take i).flatten, ls, (ls.length : Int), (i : Int), ()), ())) (fun _ => True) (by simp) trivial fun i C hi _ hC => ?_)
    dsimp only at hC ⊢
    refine ifLt (fun hlt => ?_) fun hge => ?_
    · have e1 := lens_take ls i hlt
      have e2 := lens_le ls (i + 1)
      refine atA_lt hlt (appA_i (by rw [lens_flat]; omega) ?_)
      rw [w1 (by omega)]
      have e3 : (ls.take i).flatten ++ ls[i] = (ls.take (i + 1)).flatten := by rw [List.take_succ_eq_append_getElem hlt, List.flatten_append]; simp only [List.flatten_cons, List.flatten_nil, List.append_nil]
      rw [e3]
      exact hC hlt trivial
    · have hi3 : i = ls.length := by omega
      rw [hi3, List.take_length]
      exact hk
end Go.Proofs.Ytdglfbeddbcbpaa

