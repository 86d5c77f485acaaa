/-
  Kx: texts of ours, one behind the other: Tree1, Tree2, Tree3, Tree4, Tree5, Tree6, Tree7.
-/
import Derived.Test.YtdglfbeddbcbpaaDarena
import Derived.Test.YtdglfbeddbcbpaaLib1
import Derived.Test.YtdglfbeddbcbpaaKt
import Derived.Test.YtdglfbeddbcbpaaDkeys
import Derived.Test.YtdglfbeddbcbpaaRow2
import Derived.Test.YtdglfbeddbcbpaaLib2
import Derived.Test.YtdglfbeddbcbpaaDgrow
import Derived.Test.YtdglfbeddbcbpaaKd
set_option linter.unusedSimpArgs false
set_option linter.unusedVariables false
namespace Go.Proofs.Ytdglfbeddbcbpaa
open Go Go.Gp Go.Ga Go.Th
abbrev Nd := Bool × List Pr × List Key × List Int × Int
abbrev NDk : AK := .cons (.one .bool) (.cons (.row (.cons (.row .byte) (.row .byte))) (.cons (.row (.row .byte)) (.cons (.row (.one (.int .i64))) (.one (.int .i64)))))
abbrev ARk : AK := .cons (.own NDk 71) (.cons (.own (.one .bool) 4) (.own (.one (.int .i64)) 3))
theorem ldO_i {k : AK} {n : Nat} {H : HP} {x : k.T} {K : k.T → Prop} (hn : H n = some ⟨k, x⟩) (h : K x) : ldO k n H K := ⟨x, hn, h⟩
theorem refA_i {n : Nat} {K : Nat → Prop} (h : K n) : refA (some n) K := ⟨n, rfl, h⟩
theorem retH_i {P : Program} {f : FuncId} {ps : List (Bool × AK)} {xs : HT ps} {rs : List (Bool × AK)} {H : HP} {K : HT rs → Prop} (r : HT rs) (h : ∀ K' : HT rs → HP → Prop, K' r H → callA P f ps xs rs H K') (hk : K r) : retH P f ps xs rs H K := ⟨r, h, hk⟩
theorem inA_i {n i : Nat} {K : Nat → Prop} (h : i < n) (hk : K i) : inA' (i : Int) n K := ⟨Int.natCast_nonneg i, by omega, by simpa using hk⟩
theorem back {H : HP} {n : Nat} {k : AK} {x : k.T} (h : H n = some ⟨k, x⟩) : (H.del n).set n k x = H := by
  funext m
  unfold HP.set HP.del
  split
  · rename_i e; subst e; exact h.symm
  · rename_i e
    first | rfl | (show (if m = n then _ else H m) = H m; rw [if_neg e])
theorem delset (H : HP) (n : Nat) (k : AK) (x : k.T) : (H.del n).set n k x = H.set n k x := by
  funext m
  unfold HP.set HP.del
  split
  · rfl
  · rename_i e
    first | rfl | (show (if m = n then _ else H m) = H m; rw [if_neg e])
def isA (l : List Nd) (th : List Bool) (i : Int) : Bool := decide (0 ≤ i) && (decide (i < (l.length : Int)) && th.getD i.toNat false)
set_option maxRecDepth 100000 in
theorem c_iclone (a : List Int) (ha : a.length ≤ 17592186044416) : PureA Try.prog 98 [(false, .row (.one (.int .i64)))] (a, ()) [(false, .row (.one (.int .i64)))] (a, ()) := pure_clone (t := 3) rfl (by decide) fun W s cs hs hl hn h1 => by
  apply call98
  unfold G98
  have hcl := hs.len
  obtain ⟨p, n, c⟩ := s
  cases p with
  | none =>
    have h0 := (hn rfl).1
    simp only at h0 hcl hl
    subst h0
    have : cs = [] := List.eq_nil_of_length_eq_zero (by rw [hcl]; simp)
    subst this
    exact ⟨OwnS.nil _ _ _ _, rfl, Keeps.refl _ _, by simp [sblk]⟩
  | some p =>
    simp only [Option.isNone_some, ifB_false]
    refine new_blk fun m W1 hm k1 b1 => ?_
    obtain ⟨i, hi, h2, h3, h4⟩ := info_of (t := 3) (z := .int .i64 0) (s := 1) (b := 8) (by kernel_rfl)
    simp only at hl hcl
    refine app_own' uInts hi h2 h3 h4 rfl (by decide) (OwnS.blank (B := 0) b1 (Nat.zero_le _)) cs hcl (fun j u hj => ?_) h1 (by simp only; omega) (by simp only; omega) (Nat.zero_le _) fun r W2 o2 k2 l2 hb hn0 => ?_
    · obtain ⟨q, hq, hc⟩ := (hs.keep0 k1).at_ j u hj
      injection hq with hq
      subst hq
      exact hc
    · simp only [List.nil_append] at o2
      have hb1 := b1.lt
      have hk2 := k2.size
      have hk1 := k1.size
      refine ⟨o2, by simpa using l2, k1.push k2 (by simp [sblk, hm]), fun b hbb => ?_⟩
      rcases hb b hbb with h | h
      · simp only [sblk, List.mem_singleton] at h
        subst h
        exact ⟨by omega, by omega⟩
      · exact ⟨Nat.le_trans hk1 h.1, h.2⟩
structure NdOk (x : Nd) : Prop where
  kids : x.2.2.2.1.length ≤ 1000000000
  pairs : x.2.1.length ≤ 1000000000
  keys : x.2.2.1.length ≤ 1000000000
  short : ∀ p ∈ x.2.1, p.1.length ≤ 140737488355328 ∧ p.2.length ≤ 140737488355328
  low : ∀ k ∈ x.2.2.1, k.length ≤ 140737488355328
theorem c_ncopied (x : Nd) (hx : NdOk x) : S75 x (x, ()) := pure75 x fun H K hk => by
  obtain ⟨lf, ps, ks, kd, nx⟩ := x
  obtain ⟨h1, h2, h3, h4, h5⟩ := hx
  dsimp only at h1 h2 h3 h4 h5
  unfold A75
  refine retA_i _ (c_iclone kd (by omega)) (lenA_i fun _ => ?_)
  refine loop_n ps.length (fun i => (((), (), (), ps, (ps.length : Int), (i : Int), ()), (lf, ps, ks, kd, nx, ()), (false, (), (), (), 0, ()), (lf, ps.take i, [], kd, nx, ()), ())) (fun _ => True) (by simp) trivial fun i C hi _ hC => ?_
  dsimp only at hC ⊢
  refine ifLt (fun h => ?_) fun h => ?_
  · have hC := hC h trivial
    have hp := h4 _ (List.getElem_mem h)
    refine atA_lt h (retA_i _ (c_bclone _ hp.1) (retA_i _ (c_bclone _ hp.2) (appA_i (by rw [List.length_take]; omega) ?_)))
    rw [w1 (by omega)]
    rw [take_snoc h] at hC
    exact hC
  obtain rfl : i = ps.length := by omega
  clear hC
  refine lenA_i fun _ => ?_
  refine loop_n ks.length (fun i => (((), (), ks, (ks.length : Int), (i : Int), ()), (false, (), (), (), 0, ()), (lf, ps, ks.take i, kd, nx, ()), ())) (fun _ => True) (by simp) trivial fun i C hi' _ hC => ?_
  dsimp only at hC ⊢
  refine ifLt (fun h => ?_) fun h => ?_
  · have hC := hC h trivial
    refine atA_lt h (retA_i _ (c_bclone _ (h5 _ (List.getElem_mem h))) (appA_i (by rw [List.length_take]; omega) ?_))
    rw [w1 (by omega)]
    rw [take_snoc h] at hC
    exact hC
  · obtain rfl : i = ks.length := by omega
    rw [List.take_length]; exact hk
section
variable {H : HP} {n : Nat} {l : List Nd} {th : List Bool} {fr : List Int}
theorem c_ais (hn : H n = some ⟨ARk, (l, th, fr)⟩) (hl : th.length = l.length) (i : Int) (K : HT [(false, .one .bool)] → HP → Prop) (hk : K (isA l th i, ()) H) : C74 (some n) i H K := callA74 _ _ _ _ (by
  unfold A74
  unfold isA at hk
  refine refA_i (ldO_i hn (ifD (fun h0 => lenA_i fun _ => ifD (fun h1 => ?_) fun h1 => ?_) fun h0 => ?_))
  · have h0 : i ≥ 0 := h0
    have h1 : i < (l.length : Int) := h1
    obtain ⟨j, rfl⟩ : ∃ j : Nat, i = j := ⟨i.toNat, by omega⟩
    have hj : j < th.length := by omega
    refine inA_i (by dsimp only; omega) (elA_i (List.getElem?_eq_getElem hj) ?_)
    rw [back hn]
    rw [decide_eq_true (by omega : (0 : Int) ≤ j), decide_eq_true (by omega : (j : Int) < l.length), Int.toNat_natCast, List.getD_eq_getElem?_getD, List.getElem?_eq_getElem hj] at hk
    exact hk
  · have h1 : ¬ i < (l.length : Int) := h1
    rw [back hn]
    rw [decide_eq_false h1, Bool.false_and, Bool.and_false] at hk; exact hk
  · rw [back hn]
    rw [decide_eq_false (show ¬ 0 ≤ i from h0), Bool.false_and] at hk; exact hk)
theorem c_aused (hn : H n = some ⟨ARk, (l, th, fr)⟩) (hb : l.length ≤ 1000000000) (hb' : fr.length ≤ 1000000000) (K : HT [(false, .one (.int .i64))] → HP → Prop) (hk : K ((l.length : Int) - fr.length, ()) H) : C53 (some n) H K := callA53 _ _ _ (by
  unfold A53
  refine refA_i (ldO_i hn (lenA_i fun _ => lenA_i fun _ => ?_))
  rw [back hn]
  dsimp only
  rw [w64 (by omega) (by omega)]
  exact hk)
abbrev zeroNd : Nd := (false, [], [], [], 0)
def getA (l : List Nd) (th : List Bool) (i : Int) : Nd × Bool × Unit := if isA l th i = true then (l.getD i.toNat zeroNd, true, ()) else (zeroNd, false, ())
theorem isA_at {l : List Nd} {th : List Bool} {i : Int} (h : isA l th i = true) : ∃ j : Nat, i = j ∧ j < l.length := by
  unfold isA at h
  simp only [Bool.and_eq_true, decide_eq_true_eq] at h
  exact ⟨i.toNat, by omega, by omega⟩
theorem c_aget (hn : H n = some ⟨ARk, (l, th, fr)⟩) (hl : th.length = l.length) (ho : ∀ x ∈ l, NdOk x) (i : Int) (K : HT [(true, NDk), (false, .one .bool)] → HP → Prop) (hk : K (getA l th i) H) : C40 (some n) i H K := callA40 _ _ _ _ (by
  unfold A40
  unfold getA at hk
  refine retH_i _ (fun K' hk' => c_ais hn hl i K' hk') (ifNot (fun h => ?_) fun h => ?_)
  · rw [if_neg (by rw [show isA l th i = false from h]; simp)] at hk; exact hk
  · have h : isA l th i = true := h
    rw [if_pos h] at hk
    obtain ⟨j, rfl, hj⟩ := isA_at h
    refine refA_i (ldO_i hn (inA_i hj (elA_i (List.getElem?_eq_getElem hj) (retA_i _ (c_ncopied l[j] (ho _ (List.getElem_mem hj))) ?_))))
    rw [back hn]
    rw [Int.toNat_natCast, List.getD_eq_getElem?_getD, List.getElem?_eq_getElem hj] at hk
    exact hk)
theorem c_aset (hn : H n = some ⟨ARk, (l, th, fr)⟩) (hl : th.length = l.length) (x : Nd) (hx : NdOk x) (i : Int) (K : HT [(false, .one .any)] → HP → Prop) (h0 : isA l th i = false → K (.iface 39 (.int .i64 3), ()) H) (h1 : isA l th i = true → K (.nilIface, ()) (H.set n ARk (l.set i.toNat x, th, fr))) : C85 (some n) i x H K := callA85 _ _ _ _ _ (by
  unfold A85
  refine retH_i _ (fun K' hk' => c_ais hn hl i K' hk') (ifNot (fun h => h0 h) fun h => ?_)
  have hk := h1 h
  obtain ⟨j, rfl, hj⟩ := isA_at h
  refine refA_i (ldO_i hn (retA_i _ (c_ncopied x hx) (inA_i hj (elA_i (List.getElem?_eq_getElem hj) ?_))))
  rw [delset]
  exact hk)
theorem c_amake0 (hn : H n = some ⟨ARk, (l, th, [])⟩) (hl : th.length = l.length) (hb : l.length ≤ 1000000) (x : Nd) (hx : NdOk x) (K : HT [(false, .one (.int .i64))] → HP → Prop) (hk : K ((l.length : Int), ()) (H.set n ARk (l ++ [x], th ++ [true], []))) : C68 (some n) x H K := callA68 _ _ _ _ (by
  unfold A68
  refine refA_i (ldO_i hn (lenA_i fun _ => ifF rfl (retA_i _ (c_ncopied x hx) (appA_i (by dsimp only; omega) (appA_i (by dsimp only; omega) (lenA_i fun _ => ?_))))))
  rw [delset]
  have : IntKind.i64.wrap (((l ++ [x]).length : Int) - 1) = l.length := by
    rw [List.length_append, List.length_singleton, w64 (by omega) (by omega)]; omega
  show K (IntKind.i64.wrap (((l ++ [x]).length : Int) - 1), ()) _
  rw [this]
  exact hk)
theorem c_amake1 {q : Nat} (hn : H n = some ⟨ARk, (l, th, fr ++ [(q : Int)])⟩) (hl : th.length = l.length) (hq : q < l.length) (hb : fr.length ≤ 1000000) (x : Nd) (hx : NdOk x) (K : HT [(false, .one (.int .i64))] → HP → Prop) (hk : K ((q : Int), ()) (H.set n ARk (l.set q x, th.set q true, fr))) : C68 (some n) x H K := callA68 _ _ _ _ (by
  unfold A68
  have e : IntKind.i64.wrap ((((fr ++ [(q : Int)]).length : Nat) : Int) - 1) = (fr.length : Nat) := by
    rw [List.length_append, List.length_singleton, w64 (by omega) (by omega)]; omega
  have hq2 : q < th.length := by omega
  refine refA_i (ldO_i hn (lenA_i fun _ => ?_))
  dsimp only
  rw [e]
  refine ifT (decide_eq_true (by omega)) (inA_i (by simp) (elA_i (x := (q : Int)) (by simp) (slcA_z (a := 0) (b := fr.length) rfl rfl (Nat.zero_le _) (by simp) ⟨rfl, retA_i _ (c_ncopied x hx) (inA_i hq (elA_i (List.getElem?_eq_getElem hq) (inA_i hq2 (elA_i (List.getElem?_eq_getElem hq2) ?_))))⟩)))
  rw [delset]
  have e2 : List.take (fr.length - 0) (fr ++ [(q : Int)]) = fr := by rw [Nat.sub_zero, List.take_left']; rfl
  rw [e2]
  exact hk)
theorem c_anew (K : HT [(false, .ref)] → HP → Prop) (hk : ∀ n, H n = none → K (some n, ()) (H.set n ARk ([], [], []))) : C67 H K := callA67 _ _ (by
  unfold A67
  exact fun n hn => hk n hn)
end
end Go.Proofs.Ytdglfbeddbcbpaa
set_option linter.unusedSimpArgs false
set_option linter.unusedVariables false
namespace Go.Proofs.Ytdglfbeddbcbpaa
open Go Go.Gp Go.Ga Go.Th
def asR (ks : List Key) : List Pr := ks.map fun x => (x, [])
theorem asR_keys (ks : List Key) : keys (asR ks) = ks := by
  unfold keys asR
  rw [List.map_map]
  exact List.map_id' ks
theorem asR_get (ks : List Key) (i : Nat) : (asR ks)[i]? = ks[i]?.map fun x => (x, []) := by unfold asR; rw [List.getElem?_map]
theorem asR_len (ks : List Key) : (asR ks).length = ks.length := by unfold asR; rw [List.length_map]
theorem c_ksearch (ks : List Key) (k : Key) (hs : SortK ks) (hl : ks.length ≤ 1000000000) : S101 ks k ((lb (asR ks) k : Nat), hasR (asR ks) k, ()) := pure101 ks k fun H K hk => by
  unfold A101
  refine lenA_i fun _ => ?_
  refine LoopA_i (fun v H' => H' = H ∧ ∃ i j : Nat, v = ((ks, k, (), (ks.length : Int), (i : Int), (j : Int), ()), ()) ∧ i ≤ j ∧ j ≤ ks.length ∧ (∀ q p, q < i → ks[q]? = some p → lessL p k = true) ∧ (∀ q p, j ≤ q → ks[q]? = some p → lessL p k = false)) (fun v _ => (v.1.2.2.2.2.2.1 - v.1.2.2.2.2.1).toNat) ⟨rfl, 0, ks.length, rfl, Nat.zero_le _, Nat.le_refl _, fun q p h => absurd h (Nat.not_lt_zero _), fun q p h hp => by rw [List.getElem?_eq_none h] at hp; cases hp⟩ ?_
  rintro v H' ⟨rfl, i, j, rfl, hij, hjl, h1, h2⟩
  dsimp only
  refine ifLt (fun h => ?_) fun h => ?_
  · rw [half i j (by omega)]
    have hm : (i + j) / 2 < ks.length := by omega
    refine ⟨by omega, atA_lt hm ?_⟩
    refine (c_bcompare _ _).call ?_
    dsimp only
    refine ifD (fun hc => ?_) fun hc => ?_
    · rw [w1 (by omega)]
      have hless := cmpL_lt.1 hc
      refine ⟨⟨rfl, (i + j) / 2 + 1, j, rfl, by omega, hjl, fun q p hq hp => ?_, h2⟩, by omega⟩
      rcases Nat.lt_or_ge q ((i + j) / 2) with h3 | h3
      · have h4 := hs.get (i := q) (j := (i + j) / 2) h3 hp (List.getElem?_eq_getElem hm)
        exact less_trans h4 hless
      · obtain rfl : q = (i + j) / 2 := by omega
        rw [List.getElem?_eq_getElem hm] at hp
        injection hp with hp
        subst hp; exact hless
    · have hless : lessL ks[(i + j) / 2] k = false := by
        cases hb : lessL ks[(i + j) / 2] k with
        | false => rfl
        | true => exact absurd (cmpL_lt.2 hb) hc
      refine ⟨⟨rfl, i, (i + j) / 2, rfl, by omega, by omega, h1, fun q p hq hp => ?_⟩, by omega⟩
      rcases Nat.lt_or_ge ((i + j) / 2) q with h3 | h3
      · have h4 := hs.get (i := (i + j) / 2) (j := q) h3 (List.getElem?_eq_getElem hm) hp
        cases hb : lessL p k with
        | false => rfl
        | true => rw [less_trans h4 hb] at hless; cases hless
      · obtain rfl : q = (i + j) / 2 := by omega
        rw [List.getElem?_eq_getElem hm] at hp
        injection hp with hp
        subst hp; exact hless
  · obtain rfl : i = j := by omega
    have up : ∀ (q : Nat) (p : Pr), (asR ks)[q]? = some p → ks[q]? = some p.1 := fun q p hp => by
      rw [asR_get] at hp
      obtain ⟨x, hx, rfl⟩ := Option.map_eq_some_iff.1 hp
      exact hx
    have hlb : lb (asR ks) k = i := lb_eq (by rw [asR_len]; exact hjl) (fun q p hq hp => h1 q p.1 hq (up q p hp)) fun p hp => h2 i p.1 (Nat.le_refl _) (up i p hp)
    have hat : hasR (asR ks) k = atB (asR ks) i k := by rw [← hlb, atB_has (by rw [asR_keys]; exact hs)]
    rw [hlb, hat] at hk
    refine ifLt (fun hlt => atA_lt hlt ((c_bcompare _ _).call ?_)) fun hge => ?_
    · unfold atB at hk
      rw [asR_get, List.getElem?_eq_getElem hlt] at hk
      have : ((cmpL ks[i] k : Int) == 0) = decide (ks[i] = k) := by rw [Bool.eq_iff_iff]; simp [cmpL_eq]
      dsimp only
      rw [this]; exact hk
    · unfold atB at hk
      rw [asR_get, List.getElem?_eq_none hge] at hk
      exact hk
def kidI (ks : List Key) (k : Key) : Nat := if hasR (asR ks) k = true then lb (asR ks) k + 1 else lb (asR ks) k
theorem c_kid (x : Nd) (k : Key) (hs : SortK x.2.2.1) (hl : x.2.2.1.length ≤ 1000000000) (hlb : lb (asR x.2.2.1) k ≤ x.2.2.1.length) : S93 x k ((kidI x.2.2.1 k : Nat), ()) := pure93 x k fun H K hk => by
  unfold A93
  unfold kidI at hk
  refine retA_i _ (c_ksearch x.2.2.1 k hs hl) (JoinA_i (ifB_i (fun h => ?_) fun h => ?_))
  · rw [if_pos (show hasR (asR x.2.2.1) k = true from h)] at hk
    dsimp only
    rw [w1 (by omega)]; exact hk
  · rw [if_neg (by rw [show hasR (asR x.2.2.1) k = false from h]; simp)] at hk
    exact hk
end Go.Proofs.Ytdglfbeddbcbpaa
set_option linter.unusedSimpArgs false
set_option linter.unusedVariables false
namespace Go.Proofs.Ytdglfbeddbcbpaa
open Go Go.Gp Go.Ga Go.Th
abbrev TRk : AK := .cons .ref (.cons (.one (.int .i64)) (.cons (.one (.int .i64)) (.one (.int .i64))))
section
variable {H : HP} {t n : Nat} {root order many : Int} {l : List Nd} {th : List Bool} {fr : List Int}
theorem c_tset (ht : H t = some ⟨TRk, (some n, root, order, many)⟩) (hn : H n = some ⟨ARk, (l, th, fr)⟩) (hl : th.length = l.length) (x : Nd) (hx : NdOk x) (i : Int) (hi : isA l th i = true) (K : HT [] → HP → Prop) (hk : K () (H.set n ARk (l.set i.toNat x, th, fr))) : C70 (some t) i x H K := callA70 _ _ _ _ _ (by
  unfold A70
  exact refA_i (ldO_i ht (c_aset hn hl x hx i _ (fun h => by rw [hi] at h; cases h) fun _ => ⟨rfl, ifF rfl hk⟩)))
end
end Go.Proofs.Ytdglfbeddbcbpaa
set_option linter.unusedSimpArgs false
set_option linter.unusedVariables false
namespace Go.Proofs.Ytdglfbeddbcbpaa
open Go Go.Gp Go.Ga Go.Th
set_option maxRecDepth 100000 in
theorem iclone_mem {W : World} {s : Sl} {cs : List Value} {n : Nat} (hs : Rs W 1 s cs) (hl : s.len = n) (ha : n ≤ 17592186044416) (hn : s.a = none → s.len = 0 ∧ s.cap = 0) (h1 : ∀ u ∈ cs, u.oneCell' = true) :
    callG Try.prog 98 [s.val] [.one .sl] W fun z W' => OwnS W' 0 3 1 z.1 cs ∧ z.1.len = s.len ∧ Keeps [] W W' ∧ ∀ b ∈ sblk z.1, newA W W' b := by
  apply call98
  unfold G98
  have hcl := hs.len
  obtain ⟨p, n, c⟩ := s
  cases p with
  | none =>
    have h0 := (hn rfl).1
    simp only at h0 hcl hl
    subst h0
    have : cs = [] := List.eq_nil_of_length_eq_zero (by rw [hcl])
    subst this
    exact ⟨OwnS.nil _ _ _ _, rfl, Keeps.refl _ _, by simp [sblk]⟩
  | some p =>
    simp only [Option.isNone_some, ifB_false]
    refine new_blk fun m W1 hm k1 b1 => ?_
    obtain ⟨i, hi, h2, h3, h4⟩ := info_of (t := 3) (z := .int .i64 0) (s := 1) (b := 8) (by kernel_rfl)
    simp only at hl hcl
    refine app_own' uInts hi h2 h3 h4 rfl (by decide) (OwnS.blank (B := 0) b1 (Nat.zero_le _)) cs hcl (fun j u hj => ?_) h1 (by simp only; omega) (by simp only; omega) (Nat.zero_le _) fun r W2 o2 k2 l2 hb hn0 => ?_
    · obtain ⟨q, hq, hc⟩ := (hs.keep0 k1).at_ j u hj
      injection hq with hq
      subst hq
      exact hc
    · simp only [List.nil_append] at o2
      have hb1 := b1.lt
      have hk2 := k2.size
      have hk1 := k1.size
      refine ⟨o2, by simpa using l2, k1.push k2 (by simp [sblk, hm]), fun b hbb => ?_⟩
      rcases hb b hbb with h | h
      · simp only [sblk, List.mem_singleton] at h
        subst h
        exact ⟨by omega, by omega⟩
      · exact ⟨Nat.le_trans hk1 h.1, h.2⟩
theorem c_icloneO (a : List Int) (ha : a.length ≤ 17592186044416) {H : HP} {K : HT [(false, .own (.one (.int .i64)) 3)] → HP → Prop} (hk : K (a, ()) H) : callA Try.prog 98 [(false, .row (.one (.int .i64)))] (a, ()) [(false, .own (.one (.int .i64)) 3)] H K :=
  call_cloneO rfl (by decide) (fun W s cs hs hl hn h1 => iclone_mem hs hl ha hn h1) hk
abbrev NOk : AK := .cons (.one .bool) (.cons (.own (.cons (.row .byte) (.row .byte)) 43) (.cons (.own (.row .byte) 23) (.cons (.own (.one (.int .i64)) 3) (.one (.int .i64)))))
theorem c_ncopiedO (x : Nd) (hx : NdOk x) {H : HP} {K : HT [(true, NOk)] → HP → Prop} (hk : K (x, ()) H) : O.C75 x H K := O.callA75 x H K (by
  obtain ⟨lf, ps, ks, kd, nx⟩ := x
  obtain ⟨h1, h2, h3, h4, h5⟩ := hx
  dsimp only at h1 h2 h3 h4 h5
  unfold O.A75
  refine c_icloneO kd (by omega) (lenA_i fun _ => ?_)
  refine loop_n ps.length (fun i => (((), (), (), ps, (ps.length : Int), (i : Int), ()), (lf, ps, ks, kd, nx, ()), (false, (), (), (), 0, ()), (lf, ps.take i, [], kd, nx, ()), ())) (fun _ => True) (by simp) trivial fun i C hi _ hC => ?_
  dsimp only at hC ⊢
  refine ifLt (fun h => ?_) fun h => ?_
  · have hC := hC h trivial
    have hp := h4 _ (List.getElem_mem h)
    refine atA_lt h (retA_i _ (c_bclone _ hp.1) (retA_i _ (c_bclone _ hp.2) (appA_i (by rw [List.length_take]; omega) ?_)))
    rw [w1 (by omega)]
    rw [take_snoc h] at hC
    exact hC
  obtain rfl : i = ps.length := by omega
  clear hC
  refine lenA_i fun _ => ?_
  refine loop_n ks.length (fun i => (((), (), ks, (ks.length : Int), (i : Int), ()), (false, (), (), (), 0, ()), (lf, ps, ks.take i, kd, nx, ()), ())) (fun _ => True) (by simp) trivial fun i C hi' _ hC => ?_
  dsimp only at hC ⊢
  refine ifLt (fun h => ?_) fun h => ?_
  · have hC := hC h trivial
    refine atA_lt h (retA_i _ (c_bclone _ (h5 _ (List.getElem_mem h))) (appA_i (by rw [List.length_take]; omega) ?_))
    rw [w1 (by omega)]
    rw [take_snoc h] at hC
    exact hC
  · obtain rfl : i = ks.length := by omega
    rw [List.take_length]; exact hk)
abbrev ARt := List Nd × List Bool × List Int
structure Ar (v : ARt) (f : Nat → Option Nd) (u : Nat) : Prop where
  len : v.2.1.length = v.1.length
  ok : ∀ x ∈ v.1, NdOk x
  is : ∀ i : Nat, f i = if v.2.1[i]? = some true then v.1[i]? else none
  fre : ∃ fr : List Nat, v.2.2 = fr.map (fun q : Nat => (q : Int)) ∧ fr.Nodup ∧ ∀ q ∈ fr, v.2.1[q]? = some false
  used : v.1.length = u + v.2.2.length
  big : v.1.length ≤ 1000000
theorem Ar.new : Ar ([], [], []) (fun _ => none) 0 := ⟨rfl, by simp, by simp, ⟨[], rfl, List.nodup_nil, by simp⟩, rfl, by simp⟩
theorem isA_nat {l : List Nd} {th : List Bool} (hl : th.length = l.length) (i : Nat) : isA l th i = decide (th[i]? = some true) := by
  unfold isA
  rw [decide_eq_true (by omega : (0 : Int) ≤ i), Bool.true_and, Int.toNat_natCast, List.getD_eq_getElem?_getD]
  by_cases h : i < l.length
  · rw [decide_eq_true (by omega : (i : Int) < l.length), Bool.true_and, List.getElem?_eq_getElem (by omega : i < th.length)]
    cases th[i] <;> simp
  · rw [decide_eq_false (by omega : ¬ (i : Int) < l.length), List.getElem?_eq_none (by omega)]
    simp
section
variable {H : HP} {n u : Nat} {v : ARt} {f : Nat → Option Nd}
theorem Ar.some (ha : Ar v f u) {i : Nat} {x : Nd} (hf : f i = some x) : v.2.1[i]? = some true ∧ v.1[i]? = some x := by
  have := ha.is i
  rw [hf] at this
  split at this
  · rename_i h; exact ⟨h, this.symm⟩
  · cases this
theorem Ar.isA (ha : Ar v f u) (i : Nat) : isA v.1 v.2.1 i = (f i).isSome := by
  rw [isA_nat ha.len, ha.is i]
  split
  · rename_i h
    have hl : i < v.1.length := by have := (List.getElem?_eq_some_iff.1 h).1; have := ha.len; omega
    rw [List.getElem?_eq_getElem hl, h]; rfl
  · rename_i h
    simpa using h
theorem Ar.ndok (ha : Ar v f u) {i : Nat} {x : Nd} (hf : f i = Option.some x) : NdOk x := ha.ok x (List.mem_of_getElem? (ha.some hf).2)
theorem Ar.get (ha : Ar v f u) {i : Nat} {x : Nd} (hf : f i = Option.some x) : getA v.1 v.2.1 (i : Int) = (x, true, ()) := by
  unfold Go.Proofs.Ytdglfbeddbcbpaa.getA
  rw [if_pos (by rw [ha.isA, hf]; rfl), Int.toNat_natCast, List.getD_eq_getElem?_getD, (ha.some hf).2]
  rfl
theorem c_get (hn : H n = some ⟨ARk, v⟩) (ha : Ar v f u) {i : Nat} {x : Nd} (hf : f i = some x) {K : HT [(true, NDk), (false, .one .bool)] → HP → Prop} (hk : K (x, true, ()) H) : C40 (some n) (i : Int) H K :=
  c_aget hn ha.len ha.ok _ K (by rw [ha.get hf]; exact hk)
theorem g_get (hn : H n = some ⟨ARk, v⟩) (ha : Ar v f u) {i : Nat} {x : Nd} (hf : f i = some x) {K : HT [(true, NDk), (false, .one .bool)] → Prop} (hk : K (x, true, ())) : retH Try.prog 40 [(false, .ref), (false, .one (.int .i64))] (some n, (i : Int), ()) [(true, NDk), (false, .one .bool)] H K :=
  retH_i _ (fun K' hk' => c_get hn ha hf hk') hk
theorem c_getO (hn : H n = some ⟨ARk, v⟩) (ha : Ar v f u) {i : Nat} {x : Nd} (hf : f i = some x) {K : HT [(true, NOk), (false, .one .bool)] → HP → Prop} (hk : K (x, true, ()) H) : O.C40 (some n) (i : Int) H K := O.callA40 _ _ _ _ (by
  unfold O.A40
  obtain ⟨h1, h2⟩ := ha.some hf
  obtain ⟨l, th, fr⟩ := v
  have hj := (List.getElem?_eq_some_iff.1 h2).1
  refine retH_i _ (fun K' hk' => c_ais hn ha.len i K' hk') (ifNot (fun h => ?_) fun h => ?_)
  · have h : isA l th i = false := h
    have := ha.isA i
    rw [hf] at this
    simp only at this
    rw [this] at h; cases h
  · refine refA_i (ldO_i hn (inA_i hj (elA_i h2 (c_ncopiedO x (ha.ndok hf) ?_))))
    dsimp only
    rw [back hn]
    exact hk)
theorem Ar.set (ha : Ar v f u) {i : Nat} {y : Nd} (hf : f i = Option.some y) {x : Nd} (hx : NdOk x) : Ar (v.1.set i x, v.2.1, v.2.2) (upd f i (Option.some x)) u := by
  obtain ⟨h1, h2⟩ := ha.some hf
  have hj := (List.getElem?_eq_some_iff.1 h2).1
  refine ⟨by simpa using ha.len, fun z hz => ?_, fun j => ?_, ha.fre, by simpa using ha.used, by simpa using ha.big⟩
  · rcases List.mem_or_eq_of_mem_set hz with h | rfl
    · exact ha.ok z h
    · exact hx
  · unfold upd
    by_cases e : j = i
    · subst e; rw [if_pos rfl, if_pos h1, List.getElem?_set_self hj]
    · rw [if_neg e, ha.is j]; simp only; rw [List.getElem?_set_ne (fun h => e h.symm)]
theorem c_set (hn : H n = some ⟨ARk, v⟩) (ha : Ar v f u) {i : Nat} {y : Nd} (hf : f i = some y) {x : Nd} (hx : NdOk x) {K : HT [(false, .one .any)] → HP → Prop} (hk : ∀ v', Ar v' (upd f i (some x)) u → K (.nilIface, ()) (H.set n ARk v')) : C85 (some n) (i : Int) x H K := by
  obtain ⟨l, th, fr⟩ := v
  refine c_aset hn ha.len x hx _ K (fun h => ?_) fun _ => ?_
  · have := ha.isA i
    rw [hf] at this
    simp only at this
    rw [this] at h; cases h
  · rw [Int.toNat_natCast]
    exact hk _ (ha.set hf hx)
theorem c_make (hn : H n = some ⟨ARk, v⟩) (ha : Ar v f u) (hu : u < 1000000) {x : Nd} (hx : NdOk x) {K : HT [(false, .one (.int .i64))] → HP → Prop} (hk : ∀ (q : Nat) v', f q = none → Ar v' (upd f q (some x)) (u + 1) → K ((q : Int), ()) (H.set n ARk v')) : C68 (some n) x H K := by
  obtain ⟨l, th, fi⟩ := v
  obtain ⟨fr, hfr, hnd, hfree⟩ := ha.fre
  have hu' := ha.used
  have hb := ha.big
  have hlen := ha.len
  simp only at hfr hfree hu' hb hlen
  rcases List.eq_nil_or_concat fr with rfl | ⟨r, q, rfl⟩
  · simp only [List.map_nil] at hfr
    subst hfr
    simp only [List.length_nil, Nat.add_zero] at hu'
    refine c_amake0 hn ha.len (by omega) x hx K (hk l.length _ ?_ ⟨?_, ?_, ?_, ⟨[], rfl, List.nodup_nil, by simp⟩, ?_, ?_⟩)
    · rw [ha.is]; simp only
      rw [List.getElem?_eq_none (by omega : th.length ≤ l.length)]; rfl
    · simp [hlen]
    · intro z hz
      rcases List.mem_append.1 hz with h | h
      · exact ha.ok z h
      · rw [List.mem_singleton.1 h]; exact hx
    · intro j
      simp only
      unfold upd
      by_cases e : j = l.length
      · subst e
        rw [if_pos rfl, List.getElem?_append_right (by omega), hlen, Nat.sub_self, List.getElem?_append_right (Nat.le_refl _), Nat.sub_self]; rfl
      · rw [if_neg e, ha.is j]
        simp only
        rcases Nat.lt_or_ge j l.length with h | h
        · rw [List.getElem?_append_left (by omega), List.getElem?_append_left h]
        · rw [List.getElem?_eq_none (by omega : th.length ≤ j), List.getElem?_eq_none (by simp; omega : (th ++ [true]).length ≤ j)]; rfl
    · simp [hu']
    · simp; omega
  · rw [List.concat_eq_append] at hfr hnd hfree
    rw [List.map_append] at hfr
    subst hfr
    have hq := hfree q (by simp)
    have hqt := (List.getElem?_eq_some_iff.1 hq).1
    have hql : q < l.length := by omega
    simp only [List.length_append, List.length_map, List.length_singleton] at hu'
    refine c_amake1 hn ha.len hql (by simp; omega) x hx K (hk q _ ?_ ⟨?_, ?_, ?_, ⟨r, rfl, (List.nodup_append.1 hnd).1, fun j hj => ?_⟩, ?_, ?_⟩)
    · rw [ha.is]; simp only; rw [hq]; rfl
    · simpa using hlen
    · intro z hz
      rcases List.mem_or_eq_of_mem_set hz with h | rfl
      · exact ha.ok z h
      · exact hx
    · intro j
      simp only
      unfold upd
      by_cases e : j = q
      · subst e
        rw [if_pos rfl, List.getElem?_set_self hqt, List.getElem?_set_self hql]; rfl
      · rw [if_neg e, ha.is j]
        simp only
        rw [List.getElem?_set_ne (fun h => e h.symm), List.getElem?_set_ne (fun h => e h.symm)]
    · have hjq : q ≠ j := fun e => (List.nodup_append.1 hnd).2.2 j hj q (by simp) e.symm
      simp only
      rw [List.getElem?_set_ne hjq]
      exact hfree j (by simp [hj])
    · simp; omega
    · simpa using hb
end
end Go.Proofs.Ytdglfbeddbcbpaa
set_option linter.unusedSimpArgs false
set_option linter.unusedVariables false
namespace Go.Proofs.Ytdglfbeddbcbpaa
open Go Go.Gp Go.Ga Go.Th
theorem set_eq (H : HP) (n : Nat) (k : AK) (x : k.T) : H.set n k x n = some ⟨k, x⟩ := by unfold HP.set; rw [if_pos rfl]
theorem set_ne (H : HP) {n m : Nat} (k : AK) (x : k.T) (h : m ≠ n) : H.set n k x m = H m := by unfold HP.set; rw [if_neg h]
theorem set_set (H : HP) (n : Nat) (k k' : AK) (x : k.T) (y : k'.T) : (H.set n k x).set n k' y = H.set n k' y := by
  funext m; unfold HP.set; by_cases h : m = n
  · rw [if_pos h, if_pos h]
  · rw [if_neg h, if_neg h, if_neg h]
theorem set_back {H : HP} {n : Nat} {k : AK} {x : k.T} (h : H n = some ⟨k, x⟩) : H.set n k x = H := by
  funext m; unfold HP.set; by_cases e : m = n
  · rw [if_pos e, e, h]
  · rw [if_neg e]
theorem ne_TA {H : HP} {t n : Nat} {x : TRk.T} {v : ARk.T} (ht : H t = some ⟨TRk, x⟩) (hn : H n = some ⟨ARk, v⟩) : t ≠ n := fun e => by
  subst e
  rw [ht] at hn
  injection hn with hn
  injection hn with h1
  injection h1 with h1
  cases h1
theorem inA_z {n i : Nat} {z : Int} {K : Nat → Prop} (hz : z = (i : Int)) (h : i < n) (hk : K i) : inA' z n K := by subst hz; exact inA_i h hk
theorem ndok_cut {x y : Nd} (hx : NdOk x) (h1 : y.2.1.Sublist x.2.1) (h2 : y.2.2.1.Sublist x.2.2.1) (h3 : y.2.2.2.1.length ≤ 1000000000) : NdOk y :=
  ⟨h3, Nat.le_trans h1.length_le hx.pairs, Nat.le_trans h2.length_le hx.keys, fun p hp => hx.short p (h1.subset hp), fun k hk => hx.low k (h2.subset hk)⟩
theorem kidI_ub {ks : List Key} (hs : SortK ks) (k : Key) : kidI ks k = ubK ks k := by
  unfold kidI
  rw [ubK_of hs k, ← atB_has (by rw [asR_keys]; exact hs)]
  unfold atB lb
  rw [asR_keys, asR_get]
  cases ks[lbK ks k]? with
  | none => simp
  | some x => by_cases e : x = k <;> simp [e]
theorem g_kid {x : Nd} {k : Key} (hs : SortK x.2.2.1) (hl : x.2.2.1.length ≤ 1000000000) : S93 x k ((ubK x.2.2.1 k : Nat), ()) := by
  have := c_kid x k hs hl (by rw [← asR_len]; exact lb_le _ _)
  rwa [kidI_ub hs] at this
theorem inter_sub {x : List It} : ∀ {ks : List Key} {ls : List (List It)}, x ∈ ls → x.Sublist (inter ks ls)
  | _, [], h => by simp at h
  | [], l :: ls, h => by
    simp only [inter]
    rcases List.mem_cons.1 h with rfl | h
    · exact List.sublist_append_left _ _
    · exact (inter_sub h).trans (List.sublist_append_right _ _)
  | k :: ks, l :: ls, h => by
    simp only [inter]
    rcases List.mem_cons.1 h with rfl | h
    · exact List.sublist_append_left _ _
    · exact ((inter_sub h).trans (List.sublist_cons_self _ _)).trans (List.sublist_append_right _ _)
section
variable {H : HP} {t n u : Nat} {root many : Int} {order : Int} {v : ARt} {f : Nat → Option Nd}
theorem c_way (ht : H t = some ⟨TRk, (some n, root, order, many)⟩) (hn : H n = some ⟨ARk, v⟩) (ha : Ar v f u) {o lo hi hh : Nat} {T : Tr hh} (hroot : root = (T.id : Int)) (hr : Rep f T) (hz : Sz o lo hi T) (ho : Ord (fl T)) (hh20 : hh ≤ 1000000) (k : Key)
    {K : HT [(false, .row (.one (.int .i64)))] → HP → Prop} (hk : K ((way T k).map (fun j : Nat => (j : Int)), ()) H) : C69 (some t) k H K := callA69 _ _ _ _ (by
  unfold A69
  refine refA_i (ldO_i ht ?_)
  refine loop_h hh (fun i st H' => H' = H ∧ ∃ (h lo hi : Nat) (s : Tr h) (pr : List Nat), h + i = hh ∧ st = ((some t, k, (pr ++ [s.id]).map (fun j : Nat => (j : Int)), ()), ()) ∧ pr ++ way s k = way T k ∧ pr.length = i ∧ Rep f s ∧ Sz o lo hi s ∧ Ord (fl s)) ⟨rfl, hh, lo, hi, T, [], rfl, by rw [hroot]; rfl, rfl, rfl, hr, hz, ho⟩ ?_
  rintro i st H' C hi' ⟨rfl, h, lo, hi, s, pr, hhi, rfl, hw, hpl, hr, hz, ho⟩ hC
  dsimp only at hC ⊢
  have hlen : ((pr ++ [s.id]).map (fun j : Nat => (j : Int))).length = i + 1 := by simp [hpl]
  have hat : ((pr ++ [s.id]).map (fun j : Nat => (j : Int)))[i]? = some (s.id : Int) := by
    rw [List.getElem?_map, List.getElem?_append_right (by omega), hpl, Nat.sub_self]; rfl
  refine refA_i (ldO_i ht (lenA_i fun _ => ?_))
  rw [hlen]
  refine inA_z (i := i) (by rw [w64 (by omega) (by omega)]; omega) (by omega) (elA_i hat ?_)
  cases h with
  | zero =>
    obtain ⟨j, ps, rfl⟩ := s.ex0
    obtain ⟨ks, kd, nx, hf⟩ := rep_lf.1 hr
    refine g_get hn ha hf (ifNot (fun h => by cases h) fun _ => ifT rfl ?_)
    rw [way_lf] at hw
    rw [← hw] at hk
    exact hk
  | succ h =>
    obtain ⟨j, ks, l, rfl⟩ := s.exS
    obtain ⟨⟨ps, nx, hf⟩, hrk⟩ := rep_nd.1 hr
    obtain ⟨_, _, h3, h4⟩ := sz_nd.1 hz
    have hlt : ubK ks k < l.length := by have := ubK_le ks k; omega
    have hx := List.getElem?_eq_getElem hlt
    have hs : SortK ks := ord_keys (ls := l.map fl) (by rw [List.length_map]; omega) ho
    have hok := ha.ndok hf
    refine g_get hn ha hf (ifNot (fun h => by cases h) fun _ => ifF rfl (retA_i _ (g_kid hs hok.keys) ?_))
    refine atA_g (i := ubK ks k) rfl (x := (l[ubK ks k].id : Int)) (by rw [List.getElem?_map, hx]; rfl) (appA_i (by omega) ?_)
    rw [way_nd hx] at hw
    refine hC (by omega) _ _ ⟨rfl, h, o / 2, o, l[ubK ks k], pr ++ [j], by omega, ?_, by rw [List.append_assoc]; exact hw, by simp [hpl], hrk _ (List.getElem_mem hlt), h4 _ (List.getElem_mem hlt), List.Pairwise.sublist (inter_sub (List.mem_map.2 ⟨_, List.getElem_mem hlt, rfl⟩)) ho⟩
    simp)
theorem half_w {o : Nat} (h : o ≤ 1000000) : IntKind.i64.wrap (Int.tdiv (IntKind.i64.wrap ((o : Int) + 1)) 2) = (((o + 1) / 2 : Nat) : Int) := by
  rw [w64 (x := (o : Int) + 1) (by omega) (by omega), Int.tdiv_eq_ediv_of_nonneg (by omega), w64 (by omega) (by omega)]; omega
variable {o : Nat}
theorem split_no (ht : H t = some ⟨TRk, (some n, root, (o : Int), many)⟩) (hn : H n = some ⟨ARk, v⟩) (ha : Ar v f u) {i : Nat} {x : Nd} (hf : f i = some x) (h1 : x.1 = true → x.2.1.length ≤ o) (h2 : x.1 = false → x.2.2.1.length ≤ o)
    {K : HT [(false, .row .byte), (false, .one (.int .i64)), (false, .one .bool)] → HP → Prop} (hk : K ([], 0, false, ()) H) : C94 (some t) (i : Int) H K := callA94 _ _ _ _ (by
  unfold A94
  refine refA_i (ldO_i ht (g_get hn ha hf (refA_i (ldO_i ht ⟨by decide, ?_⟩))))
  obtain ⟨lf, ps, ks, kd, nx⟩ := x
  dsimp only at h1 h2
  cases lf with
  | true =>
    refine ifT rfl (lenA_i fun _ => refA_i (ldO_i ht (ifGt (fun h => ?_) fun _ => ifF rfl hk)))
    have := h1 rfl; dsimp only at h; omega
  | false =>
    refine ifF rfl (ifT rfl (lenA_i fun _ => refA_i (ldO_i ht (ifGt (fun h => ?_) fun _ => hk))))
    have := h2 rfl; dsimp only at h; omega)
theorem c_tset' (ht : H t = some ⟨TRk, (some n, root, order, many)⟩) (hn : H n = some ⟨ARk, v⟩) (ha : Ar v f u) {i : Nat} {y : Nd} (hf : f i = some y) {x : Nd} (hx : NdOk x) {K : HT [] → HP → Prop} (hk : ∀ v', Ar v' (upd f i (some x)) u → K () (H.set n ARk v')) : C70 (some t) (i : Int) x H K := by
  obtain ⟨l, th, fr⟩ := v
  refine c_tset ht hn ha.len x hx _ (by rw [ha.isA, hf]; rfl) _ ?_
  rw [Int.toNat_natCast]
  exact hk _ (ha.set hf hx)
theorem split_leaf (ht : H t = some ⟨TRk, (some n, root, (o : Int), many)⟩) (hn : H n = some ⟨ARk, v⟩) (ha : Ar v f u) (hu : u < 1000000) (ho : o ≤ 1000) {i : Nat} {ps : List Pr} {ks : List Key} {kd : List Int} {nx : Int} (hf : f i = some (true, ps, ks, kd, nx)) (hp : o < ps.length) {p : Pr} (hpm : ps[(o + 1) / 2]? = some p)
    {K : HT [(false, .row .byte), (false, .one (.int .i64)), (false, .one .bool)] → HP → Prop} (hk : ∀ (q : Nat) v', f q = none → Ar v' (upd (upd f q (some (true, ps.drop ((o + 1) / 2), [], [], nx))) i (some (true, ps.take ((o + 1) / 2), ks, kd, (q : Int)))) (u + 1) → K (p.1, (q : Int), true, ()) (H.set n ARk v')) : C94 (some t) (i : Int) H K := callA94 _ _ _ _ (by
  unfold A94
  have hlt := (List.getElem?_eq_some_iff.1 hpm).1
  have hne := ne_TA ht hn
  have hok := ha.ndok hf
  refine refA_i (ldO_i ht (g_get hn ha hf (refA_i (ldO_i ht ⟨by decide, ?_⟩))))
  dsimp only
  rw [half_w (by omega)]
  refine ifT rfl (lenA_i fun _ => refA_i (ldO_i ht (ifGt (fun h => ?_) fun h => by omega)))
  refine slcA_z (a := (o + 1) / 2) (b := ps.length) rfl rfl (by omega) (Nat.le_refl _) ?_
  rw [sub_to_end]
  refine refA_i (ldO_i ht (c_make hn ha hu (ndok_cut (y := (true, ps.drop ((o + 1) / 2), [], [], nx)) hok (List.drop_sublist _ _) (List.nil_sublist _) (by simp)) fun q v' hq ha' => ?_))
  refine slcA_z (a := 0) (b := (o + 1) / 2) rfl rfl (Nat.zero_le _) (by omega) ?_
  rw [sub_zero, Nat.sub_zero]
  have hqi : i ≠ q := fun e => by rw [← e, hf] at hq; cases hq
  refine c_tset' (by rw [set_ne _ _ _ hne]; exact ht) (set_eq _ _ _ _) ha' (i := i) (y := (true, ps, ks, kd, nx)) (by rw [upd_ne _ _ hqi]; exact hf) (ndok_cut (y := (true, ps.take ((o + 1) / 2), ks, kd, (q : Int))) hok (List.take_sublist _ _) (List.Sublist.refl _) hok.kids) fun v'' ha'' => ?_
  refine atA_g (i := 0) rfl (x := p) (by rw [List.getElem?_drop, Nat.add_zero]; exact hpm) ?_
  rw [set_set]
  exact hk q v'' hq ha'')
theorem split_node (ht : H t = some ⟨TRk, (some n, root, (o : Int), many)⟩) (hn : H n = some ⟨ARk, v⟩) (ha : Ar v f u) (hu : u < 1000000) (ho : o ≤ 1000) {i : Nat} {ps : List Pr} {ks : List Key} {kd : List Int} {nx : Int} (hf : f i = some (false, ps, ks, kd, nx)) (hp : o < ks.length) (hl : kd.length = ks.length + 1) {p : Key} (hpm : ks[(o + 1) / 2]? = some p)
    {K : HT [(false, .row .byte), (false, .one (.int .i64)), (false, .one .bool)] → HP → Prop} (hk : ∀ (q : Nat) v', f q = none → Ar v' (upd (upd f q (some (false, [], ks.drop ((o + 1) / 2 + 1), kd.drop ((o + 1) / 2 + 1), 0))) i (some (false, ps, ks.take ((o + 1) / 2), kd.take ((o + 1) / 2 + 1), nx))) (u + 1) → K (p, (q : Int), true, ()) (H.set n ARk v')) : C94 (some t) (i : Int) H K := callA94 _ _ _ _ (by
  unfold A94
  have hlt := (List.getElem?_eq_some_iff.1 hpm).1
  have hne := ne_TA ht hn
  have hok := ha.ndok hf
  have hkk := hok.kids
  dsimp only at hkk
  refine refA_i (ldO_i ht (g_get hn ha hf (refA_i (ldO_i ht ⟨by decide, ?_⟩))))
  dsimp only
  rw [half_w (by omega), w1 (by omega)]
  refine ifF rfl (ifT rfl (lenA_i fun _ => refA_i (ldO_i ht (ifGt (fun h => ?_) fun h => by omega))))
  refine atA_g (i := (o + 1) / 2) rfl hpm (refA_i (ldO_i ht ?_))
  refine slcA_z (a := (o + 1) / 2 + 1) (b := ks.length) rfl rfl (by omega) (Nat.le_refl _) ?_
  refine slcA_z (a := (o + 1) / 2 + 1) (b := kd.length) rfl rfl (by omega) (Nat.le_refl _) ?_
  rw [sub_to_end, sub_to_end]
  refine c_make hn ha hu (ndok_cut (y := (false, [], ks.drop ((o + 1) / 2 + 1), kd.drop ((o + 1) / 2 + 1), 0)) hok (List.nil_sublist _) (List.drop_sublist _ _) (by simp only [List.length_drop]; omega)) fun q v' hq ha' => ?_
  refine slcA_z (a := 0) (b := (o + 1) / 2) rfl rfl (Nat.zero_le _) (by omega) ?_
  refine slcA_z (a := 0) (b := (o + 1) / 2 + 1) rfl rfl (Nat.zero_le _) (by omega) ?_
  rw [sub_zero, sub_zero, Nat.sub_zero, Nat.sub_zero]
  have hqi : i ≠ q := fun e => by rw [← e, hf] at hq; cases hq
  refine c_tset' (by rw [set_ne _ _ _ hne]; exact ht) (set_eq _ _ _ _) ha' (i := i) (y := (false, ps, ks, kd, nx)) (by rw [upd_ne _ _ hqi]; exact hf) (ndok_cut (y := (false, ps, ks.take ((o + 1) / 2), kd.take ((o + 1) / 2 + 1), nx)) hok (List.Sublist.refl _) (List.take_sublist _ _) (by simp only [List.length_take]; omega)) fun v'' ha'' => ?_
  rw [set_set]
  exact hk q v'' hq ha'')
theorem c_splitT (ht : H t = some ⟨TRk, (some n, root, (o : Int), many)⟩) (hn : H n = some ⟨ARk, v⟩) (ha : Ar v f u) (hu : u < 1000000) (h3 : 3 ≤ o) (ho : o ≤ 1000) {h lo : Nat} {s : Tr h} (hr : Rep f s) (hnd : (ids s).Nodup) (hz : Sz o lo (o + 1) s)
    {K : HT [(false, .row .byte), (false, .one (.int .i64)), (false, .one .bool)] → HP → Prop} (h0 : s.size ≤ o → K ([], 0, false, ()) H)
    (h1 : ∀ (q : Nat) v' f' t1 k t2, f q = none → Ar v' f' (u + 1) → Spl f f' s q t1 k t2 → (∀ j, j ≠ q → j ≠ s.id → f' j = f j) → Sz o (o / 2) o t1 → Sz o (o / 2) o t2 → K (k, (q : Int), true, ()) (H.set n ARk v')) : C94 (some t) (s.id : Int) H K := by
  have hsz := hz.size
  by_cases hbig : s.size ≤ o
  · cases h with
    | zero =>
      obtain ⟨j, ps, rfl⟩ := s.ex0
      obtain ⟨ks, kd, nx, hf⟩ := rep_lf.1 hr
      exact split_no ht hn ha hf (fun _ => hbig) (fun h => by cases h) (h0 hbig)
    | succ h =>
      obtain ⟨j, ks, l, rfl⟩ := s.exS
      obtain ⟨⟨ps, nx, hf⟩, _⟩ := rep_nd.1 hr
      exact split_no ht hn ha hf (fun h => by cases h) (fun _ => hbig) (h0 hbig)
  · cases h with
    | zero =>
      obtain ⟨j, ps, rfl⟩ := s.ex0
      obtain ⟨ks, kd, nx, hf⟩ := rep_lf.1 hr
      have hl : ps.length = o + 1 := by have := hsz.2; have : (Tr.lf j ps).size = ps.length := rfl; omega
      have hm := List.getElem?_eq_getElem (show (o + 1) / 2 < ps.length by omega)
      refine split_leaf ht hn ha hu ho hf (by omega) hm fun q v' hq ha' => h1 q v' _ _ _ _ hq ha' (spl_leaf hf (fun e => by rw [e, hf] at hq; cases hq) hm (by omega)) (fun i h1 (h2 : i ≠ j) => by rw [upd_ne _ _ h2, upd_ne _ _ h1]) (sz_lf.2 ?_) (sz_lf.2 ?_)
      · rw [List.length_take]; omega
      · rw [List.length_drop]; omega
    | succ h =>
      obtain ⟨j, ks, l, rfl⟩ := s.exS
      obtain ⟨⟨ps, nx, hf⟩, _⟩ := rep_nd.1 hr
      obtain ⟨_, _, e1, e2⟩ := sz_nd.1 hz
      have hl : ks.length = o + 1 := by have := hsz.2; have : (Tr.nd j ks l).size = ks.length := rfl; omega
      have hm := List.getElem?_eq_getElem (show (o + 1) / 2 < ks.length by omega)
      refine split_node ht hn ha hu ho hf (by omega) (by rw [List.length_map]; omega) hm fun q v' hq ha' => h1 q v' _ _ _ _ hq ha' (spl_node hr hf hnd (fun hm => by have := rep_some hr q hm; rw [hq] at this; cases this) e1 hm) (fun i h1 (h2 : i ≠ j) => by rw [upd_ne _ _ h2, upd_ne _ _ h1]) (sz_nd.2 ⟨?_, ?_, ?_, fun x hx => e2 x (List.mem_of_mem_take hx)⟩) (sz_nd.2 ⟨?_, ?_, ?_, fun x hx => e2 x (List.mem_of_mem_drop hx)⟩) <;> simp only [List.length_take, List.length_drop] <;> omega
end
end Go.Proofs.Ytdglfbeddbcbpaa
set_option linter.unusedSimpArgs false
set_option linter.unusedVariables false
namespace Go.Proofs.Ytdglfbeddbcbpaa
open Go Go.Gp Go.Ga Go.Th
def Fm (S : List Nat) (H H' : HP) : Prop := ∀ m, m ∉ S → H' m = H m
theorem Fm.refl (S : List Nat) (H : HP) : Fm S H H := fun _ _ => rfl
theorem Fm.trans {S : List Nat} {H H' H'' : HP} (h : Fm S H H') (k : Fm S H' H'') : Fm S H H'' := fun m hm => (k m hm).trans (h m hm)
theorem Fm.set {S : List Nat} {H H' : HP} (h : Fm S H H') {n : Nat} (hn : n ∈ S) (k : AK) (x : k.T) : Fm S H (H'.set n k x) := fun m hm => by
  rw [set_ne _ _ _ (fun e => hm (by rw [e]; exact hn))]; exact h m hm
structure TI (H : HP) (t n o : Nat) (many : Int) {hh : Nat} (T : Tr hh) (v : ARt) (f : Nat → Option Nd) (u : Nat) : Prop where
  ht : H t = some ⟨TRk, (some n, (T.id : Int), (o : Int), many)⟩
  hn : H n = some ⟨ARk, v⟩
  ar : Ar v f u
  mid : Mid f u T
  sz : Sz o ((.top : Ctx hh hh).lo o) o T
def TreeIs (H : HP) (t n o : Nat) (ps : List Pr) (many : Int) : Prop := ∃ (hh : Nat) (T : Tr hh) (v : ARt) (f : Nat → Option Nd) (u : Nat), TI H t n o many T v f u ∧ allP T = ps
theorem TreeIs.fm {H H' : HP} {t n o : Nat} {ps : List Pr} {many : Int} {S : List Nat} (h : TreeIs H t n o ps many) (hf : Fm S H H') (h1 : t ∉ S) (h2 : n ∉ S) : TreeIs H' t n o ps many := by
  obtain ⟨hh, T, v, f, u, ⟨a, b, c, d, e⟩, g⟩ := h
  exact ⟨hh, T, v, f, u, ⟨by rw [hf t h1]; exact a, by rw [hf n h2]; exact b, c, d, e⟩, g⟩
theorem hgt {o : Nat} : ∀ {h lo hi : Nat} {t : Tr h}, Sz o lo hi t → h + 1 ≤ (ids t).length
  | 0, _, _, t, _ => by obtain ⟨i, ps, rfl⟩ := t.ex0; simp
  | h + 1, _, _, t, hz => by
    obtain ⟨i, ks, l, rfl⟩ := t.exS
    obtain ⟨_, _, h1, h2⟩ := sz_nd.1 hz
    cases l with
    | nil => simp at h1
    | cons x l =>
      have := hgt (h2 x (by simp))
      simp only [ids_nd, List.map_cons, List.flatten_cons, List.length_cons, List.length_append]
      omega
theorem plug_id : ∀ {h H : Nat} (c : Ctx h H) (t t' : Tr h), t.id = t'.id → (plug c t).id = (plug c t').id
  | _, _, .top, t, t', h => h
  | _, _, .down c f, t, t', h => by rw [plug, plug]; exact plug_id c _ _ rfl
theorem may_len {k : Key} (h : mayB k = true) : k.length ≤ 16 := by
  unfold mayB at h; simp only [Bool.and_eq_true, decide_eq_true_eq] at h; exact h.2
theorem lo_pos {o h H : Nat} (c : Ctx h H) (h3 : 3 ≤ o) : 1 ≤ c.lo o ∨ h = 0 := by
  cases c with
  | top =>
    by_cases e : h = 0
    · exact .inr e
    · left; simp [Ctx.lo, e]
  | down c f => left; simp [Ctx.lo]; omega
theorem c_grow {H : HP} {t n u o : Nat} {many : Int} {v : ARt} {f : Nat → Option Nd} {hh h0 : Nat} {c0 : Ctx h0 hh} {s0 : Tr h0} (h3 : 3 ≤ o) (h16 : o ≤ 16)
    (ht : H t = some ⟨TRk, (some n, ((plug c0 s0).id : Int), (o : Int), many)⟩) (hn : H n = some ⟨ARk, v⟩) (ha : Ar v f u) (hm : Mid f u (plug c0 s0)) (hc : c0.Sz o) (hz : Sz o (c0.lo o) (o + 1) s0) (hb : (allP (plug c0 s0)).length ≤ 100000)
    {K : HT [] → HP → Prop} (hk : ∀ H', Fm [t, n] H H' → TreeIs H' t n o (allP (plug c0 s0)) many → K () H') : O.C71 (some t) ((c0.path ++ [s0.id]).map (fun j : Nat => (j : Int))) H K := O.callA71 _ _ _ _ (by
  unfold O.A71
  refine lenA_i fun _ => ?_
  have hne0 := ne_TA ht hn
  have hlen0 : c0.path.length ≤ 1000000 := by
    have h1 := plug_ids c0 s0
    have h2 := pcnt (o := o) (by omega) hc hz (lo_pos c0 h3)
    rw [h1.length_eq, List.length_append] at h2
    have h4 : ∀ {h H : Nat} (c : Ctx h H), c.path.length ≤ c.ids.length := by
      intro h H c
      induction c with
      | top => simp [Ctx.path, Ctx.ids]
      | down c f ih => simp only [Ctx.path, Ctx.ids, List.length_append, List.length_cons, List.length_nil]; omega
    have := h4 c0
    omega
  refine loop_h c0.path.length (fun i st H' => Fm [t, n] H H' ∧ ∃ (h : Nat) (c : Ctx h hh) (s : Tr h) (v : ARt) (f : Nat → Option Nd) (u : Nat) (rest : List Nat), c.path.length + i = c0.path.length ∧ c0.path ++ [s0.id] = c.path ++ s.id :: rest ∧ st = ((some t, (c0.path ++ [s0.id]).map (fun j : Nat => (j : Int)), (c.path.length : Int), ()), ()) ∧ H' t = some ⟨TRk, (some n, ((plug c s).id : Int), (o : Int), many)⟩ ∧ H' n = some ⟨ARk, v⟩ ∧ Ar v f u ∧ Mid f u (plug c s) ∧ c.Sz o ∧ Sz o (c.lo o) (o + 1) s ∧ allP (plug c s) = allP (plug c0 s0))
    ⟨Fm.refl _ _, h0, c0, s0, v, f, u, [], rfl, rfl, ?_, ht, hn, ha, hm, hc, hz, rfl⟩ ?_
  · rw [List.length_map, List.length_append, List.length_singleton, w64 (by omega) (by omega)]
    rw [show (((c0.path.length + 1 : Nat) : Int) - 1) = c0.path.length from by omega]
  rintro i st H' C hi ⟨hfm, h, c, s, v, f, u, rest, hci, hw, rfl, ht, hn, ha, hm, hc, hz, hall⟩ hC
  dsimp only at hC ⊢
  have hne := ne_TA ht hn
  have hu : u < 900000 := by
    have h2 := pcnt (o := o) (by omega) hc hz (lo_pos c h3)
    rw [hm.used]; rw [hall] at h2; omega
  refine ifT (by simp) ?_
  have hat : ((c0.path ++ [s0.id]).map (fun j : Nat => (j : Int)))[c.path.length]? = some (s.id : Int) := by
    rw [hw, List.getElem?_map, List.getElem?_append_right (Nat.le_refl _), Nat.sub_self]; rfl
  refine atA_g rfl hat ?_
  have hperm := plug_ids c s
  have hnd : (c.ids ++ ids s).Nodup := (hperm.nodup_iff).1 hm.nd
  refine c_splitT ht hn ha (by omega) h3 (by omega) ((plug_rep c s).1 hm.rep).2 (List.nodup_append.1 hnd).2.1 hz (fun hsz => ?_) fun q v1 f1 t1 k t2 hq ha1 hs hf1 hz1 hz2 => ?_
  · refine ifT rfl (hk _ hfm ⟨hh, plug c s, v, f, u, ⟨ht, hn, ha, hm, plug_sz c s hc (hz.to hz.size.1 hsz)⟩, hall⟩)
  refine ifF rfl ?_
  have hqi := hm.fresh hq
  cases c with
  | top =>
    refine ifT (by simp [Ctx.path]) ?_
    refine refA_i (ldO_i (x := (some n, ((plug (.top : Ctx hh hh) s).id : Int), (o : Int), many)) (by rw [set_ne _ _ _ hne]; exact ht) ?_)
    have hat0 : ((c0.path ++ [s0.id]).map (fun j : Nat => (j : Int)))[0]? = some (s.id : Int) := hat
    refine atA_g (i := 0) rfl hat0 ?_
    have hkey : k.length ≤ 16 := may_len (hs.ok (by simpa [plug] using hm.ok) (.s k) (by simp))
    refine c_make (f := f1) (u := u + 1) (set_eq _ _ _ _) ha1 (by omega) (x := (false, [], [k], [(s.id : Int), (q : Int)], 0)) ⟨by simp, by simp, by simp, by simp, by simp; omega⟩ fun r v2 hr ha2 => ?_
    have hrq : r ≠ q := fun e => by
      have h1 := rep_some hs.rep2 q (by rw [← hs.id2]; exact id_mem t2)
      rw [← e, hr] at h1; cases h1
    have hrs : r ∉ ids s := fun hrs => by
      have h1 : r ∈ ids t1 ++ ids t2 := (hs.perm.mem_iff).2 (List.mem_cons.2 (.inr hrs))
      rcases List.mem_append.1 h1 with h1 | h1
      · have := rep_some hs.rep1 r h1; rw [hr] at this; cases this
      · have := rep_some hs.rep2 r h1; rw [hr] at this; cases this
    obtain ⟨m2, e2⟩ := Mid.root (f := f) (f' := f1) (ps := []) (nx := 0) (r := r) hm hs hqi hrs hrq
    rw [set_set]
    refine refA_i (ldO_i (x := (some n, ((plug (.top : Ctx hh hh) s).id : Int), (o : Int), many)) (by rw [set_ne _ _ _ hne]; exact ht) ?_)
    refine hk _ ((hfm.set (by simp) _ _).set (by simp) _ _) ⟨hh + 1, Tr.nd r [k] [t1, t2], v2, _, _, ⟨set_eq _ _ _ _, by rw [set_ne _ _ _ hne.symm]; exact set_eq _ _ _ _, ha2, m2, ?_⟩, e2.trans hall⟩
    refine sz_nd.2 ⟨by simp [Ctx.lo], by simp; omega, by simp, fun x hx => ?_⟩
    simp only [List.mem_cons, List.not_mem_nil, or_false] at hx
    rcases hx with rfl | rfl
    · exact hz1
    · exact hz2
  | down c fr =>
    have hpl : (Ctx.down c fr).path.length = c.path.length + 1 := by simp [Ctx.path]
    refine ifF (by rw [hpl]; simp; omega) ?_
    refine refA_i (ldO_i (x := (some n, ((plug (Ctx.down c fr) s).id : Int), (o : Int), many)) (by rw [set_ne _ _ _ hne]; exact ht) ?_)
    have hat1 : ((c0.path ++ [s0.id]).map (fun j : Nat => (j : Int)))[c.path.length]? = some (fr.id : Int) := by
      rw [hw, List.getElem?_map, Ctx.path, List.append_assoc, List.getElem?_append_right (Nat.le_refl _), Nat.sub_self]; rfl
    have hdi : IntKind.i64.wrap (((Ctx.down c fr).path.length : Int) - 1) = (c.path.length : Nat) := by
      rw [hpl, w64 (by omega) (by omega)]; omega
    rw [hdi]
    refine atA_g rfl hat1 ?_
    obtain ⟨z1, z2, e1, e2, z5, z6, z7⟩ := csz_down.1 hc
    obtain ⟨⟨ps0, nx0, hfr⟩, _, _, _⟩ := crep_down.1 ((plug_rep _ s).1 hm.rep).1
    have hfrid : fr.id ∈ (Ctx.down c fr).ids := by simp [Ctx.ids]
    have hne1 : fr.id ≠ q := fun e => hqi ((hperm.mem_iff).2 (List.mem_append.2 (.inl (by rw [← e]; exact hfrid))))
    have hne2 : fr.id ≠ s.id := fun e => (List.nodup_append.1 hnd).2.2 _ hfrid _ (id_mem s) e
    have hfr1 : f1 fr.id = some (false, ps0, fr.kl ++ fr.kr, fr.L.map (fun k => (k.id : Int)) ++ (s.id : Int) :: fr.R.map (fun k => (k.id : Int)), nx0) := by rw [hf1 _ hne1 hne2]; exact hfr
    obtain ⟨m2, e3⟩ := Mid.grow (ps := ps0) (nx := nx0) hm hc hs hqi hf1
    have hkey : mayB k = true := by
      refine m2.ok (.s k) ?_
      rw [plug_fl c _ z7]
      simp only [Fr.fill2, fl_nd, List.map_append, List.map_cons]
      rw [inter_at _ _ _ (by rw [e1, List.length_map]), suf_cons]
      simp
    have hsk : SortK (fr.kl ++ k :: fr.kr) := by
      have := m2.ord
      rw [plug_fl c _ z7] at this
      have := (List.pairwise_append.1 (List.pairwise_append.1 this).1).2.1
      exact ord_keys (ls := (fr.L ++ t1 :: t2 :: fr.R).map fl) (by simp; omega) this
    have hsk' := sortK_append.1 hsk
    have hsk2 : SortK (fr.kl ++ fr.kr) := List.Pairwise.sublist (List.Sublist.append_left (List.sublist_cons_self _ _) _) hsk
    have hub : ubK (fr.kl ++ fr.kr) k = fr.kl.length := by
      refine ubK_eq (by simp) (fun j x hj hx => ?_) fun x hx => ?_
      · rw [List.getElem?_append_left hj] at hx
        exact less_asym (hsk'.2.2 x (List.mem_of_getElem? hx) k (by simp))
      · rw [List.getElem?_append_right (Nat.le_refl _), Nat.sub_self] at hx
        exact (List.pairwise_cons.1 hsk'.2.1).1 x (List.mem_of_getElem? hx)
    refine c_getO (f := f1) (set_eq _ _ _ _) ha1 hfr1 ?_
    have hok1 := ha1.ndok hfr1
    refine retA_i _ (g_kid (x := (false, ps0, fr.kl ++ fr.kr, fr.L.map (fun k => (k.id : Int)) ++ (s.id : Int) :: fr.R.map (fun k => (k.id : Int)), nx0)) hsk2 hok1.keys) ?_
    dsimp only
    rw [hub]
    refine c_insK _ _ _ (by simp) (by simp; omega) ?_
    rw [w1 (by omega)]
    refine c_insI _ _ _ (by simp; omega) (by simp; omega) ?_
    refine atA_g rfl hat1 ?_
    have l1 : List.take fr.kl.length (fr.kl ++ fr.kr) ++ [k] ++ List.drop fr.kl.length (fr.kl ++ fr.kr) = fr.kl ++ k :: fr.kr := by
      rw [List.take_left', List.drop_left'] <;> simp
    have l2 : ∀ (A B : List Int) (a b : Int) (m : Nat), A.length = m → List.take (m + 1) (A ++ a :: B) ++ [b] ++ List.drop (m + 1) (A ++ a :: B) = A ++ a :: b :: B := by
      intro A B a b m hm
      have : A ++ a :: B = (A ++ [a]) ++ B := by simp
      rw [this, List.take_left' (by simp [hm]), List.drop_left' (by simp [hm])]
      simp
    rw [l1, l2 _ _ _ _ _ (by rw [List.length_map, e1])]
    refine c_tset' (root := ((plug (Ctx.down c fr) s).id : Int)) (many := many) (order := (o : Int)) (by rw [set_ne _ _ _ hne]; exact ht) (set_eq _ _ _ _) ha1 hfr1 (x := (false, ps0, fr.kl ++ k :: fr.kr, fr.L.map (fun k => (k.id : Int)) ++ (s.id : Int) :: (q : Int) :: fr.R.map (fun k => (k.id : Int)), nx0)) ⟨by simp; omega, hok1.pairs, by simp; omega, hok1.short, fun x hx => ?_⟩ fun v2 ha2 => ?_
    · have hlow := hok1.low
      simp only [List.mem_append, List.mem_cons] at hx hlow
      rcases hx with hx | rfl | hx
      · exact hlow x (.inl hx)
      · have := may_len hkey; omega
      · exact hlow x (.inr hx)
    rw [set_set]
    have hid : (plug c (fr.fill2 t1 k t2)).id = (plug (Ctx.down c fr) s).id := by
      rw [plug]; exact plug_id c _ _ rfl
    refine hC (by rw [hpl] at hci; omega) _ _ ⟨hfm.set (by simp) _ _, h + 1, c, fr.fill2 t1 k t2, v2, _, _, s.id :: rest, by rw [hpl] at hci; omega, ?_, rfl, by rw [set_ne _ _ _ hne, hid]; exact ht, set_eq _ _ _ _, ha2, m2, z7, ?_, e3.trans hall⟩
    · rw [hw, Ctx.path, List.append_assoc]; rfl
    · refine sz_nd.2 ⟨?_, ?_, ?_, fun x hx => ?_⟩
      · simp; omega
      · simp; omega
      · simp; omega
      · simp only [List.mem_append, List.mem_cons] at hx
        rcases hx with hx | rfl | rfl | hx
        · exact z5 x hx
        · exact hz1
        · exact hz2
        · exact z6 x hx)
end Go.Proofs.Ytdglfbeddbcbpaa
set_option linter.unusedSimpArgs false
set_option linter.unusedVariables false
namespace Go.Proofs.Ytdglfbeddbcbpaa
open Go Go.Gp Go.Ga Go.Th
section
variable {H : HP} {t n u o : Nat} {many : Int} {v : ARt} {f : Nat → Option Nd} {hh : Nat} {T : Tr hh}
theorem TI.row (h : TI H t n o many T v f u) : IsRow (allP T) := by rw [← prs_fl]; exact row_prs h.mid.ord h.mid.ok
theorem TI.cnt (h : TI H t n o many T v f u) (h3 : 3 ≤ o) : u ≤ 2 * (allP T).length + 1 := by
  have := pcnt (o := o) (c := (.top : Ctx hh hh)) (by omega) trivial h.sz (lo_pos _ h3)
  rw [h.mid.used]; exact this
theorem TI.high (h : TI H t n o many T v f u) (h3 : 3 ≤ o) : hh ≤ 2 * (allP T).length := by
  have h1 := hgt h.sz
  have h2 := h.cnt h3
  rw [h.mid.used] at h2
  omega
theorem TI.loc (h : TI H t n o many T v f u) (k : Key) : ∃ (c : Ctx 0 hh) (i : Nat) (ps : List Pr) (ks : List Key) (kd : List Int) (nx : Int), plug c (Tr.lf i ps) = T ∧ way T k = c.path ++ [i] ∧ c.Sz o ∧ Sz o (c.lo o) o (Tr.lf i ps) ∧ (∀ x ∈ c.l, Bel k x) ∧ (∀ x ∈ c.r, Aft k x) ∧ f i = some (true, ps, ks, kd, nx) := by
  obtain ⟨c, i, ps, h1, h2, h3, h4, h5, h6⟩ := Th.loc k (.top : Ctx hh hh) T trivial h.sz h.mid.ord (by simp [Ctx.l]) (by simp [Ctx.r])
  have hr := h.mid.rep
  rw [show T = plug .top T from rfl, ← h1] at hr
  obtain ⟨ks, kd, nx, hf⟩ := rep_lf.1 ((plug_rep c _).1 hr).2
  exact ⟨c, i, ps, ks, kd, nx, h1, by rw [h2]; rfl, h3, h4, h5, h6, hf⟩
theorem TI.all (h : TI H t n o many T v f u) {c : Ctx 0 hh} {i : Nat} {ps : List Pr} (h1 : plug c (Tr.lf i ps) = T) (h3 : c.Sz o) : allP T = prs c.l ++ ps ++ prs c.r := by rw [← h1, allP_plug h3, allP_lf]
def leafI {hh : Nat} (T : Tr hh) (k : Key) : Nat := (way T k).getLastD 0
theorem c_tway (h : TI H t n o many T v f u) (h3 : 3 ≤ o) (hb : (allP T).length ≤ 100000) (k : Key) {K : HT [(false, .row (.one (.int .i64)))] → HP → Prop} (hk : K ((way T k).map (fun j : Nat => (j : Int)), ()) H) : C69 (some t) k H K :=
  c_way h.ht h.hn h.ar rfl h.mid.rep h.sz h.mid.ord (by have := h.high h3; omega) k hk
theorem leafI_of {hh : Nat} {T : Tr hh} {k : Key} {p : List Nat} {i : Nat} (h : way T k = p ++ [i]) : leafI T k = i := by unfold leafI; rw [h, List.getLastD_concat]
theorem c_tleaf (h : TI H t n o many T v f u) (h3 : 3 ≤ o) (hb : (allP T).length ≤ 100000) (k : Key) {K : HT [(false, .one (.int .i64))] → HP → Prop} (hk : K ((leafI T k : Nat), ()) H) : C41 (some t) k H K := callA41 _ _ _ _ (by
  unfold A41
  obtain ⟨c, i, ps, ks, kd, nx, h1, h2, h4, h5, h6, h7, hf⟩ := h.loc k
  rw [leafI_of h2] at hk
  have hl := way_len (k := k) h.sz
  have hh' := h.high h3
  have hl2 : c.path.length + 1 = hh + 1 := by rw [h2, List.length_append] at hl; exact hl
  refine retH_i _ (fun K' hk' => c_tway h h3 hb k hk') (lenA_i fun _ => ?_)
  refine atA_g (i := c.path.length) ?_ (x := (i : Int)) ?_ hk
  · simp only [List.length_map, h2, List.length_append, List.length_singleton]
    rw [w64 (by omega) (by omega)]; omega
  · rw [List.getElem?_map, h2, List.getElem?_append_right (Nat.le_refl _), Nat.sub_self]; rfl)
theorem c_theight (h : TI H t n o many T v f u) (h3 : 3 ≤ o) (hb : (allP T).length ≤ 100000) {K : HT [(false, .one (.int .i64))] → HP → Prop} (hk : K (((hh + 1 : Nat) : Int), ()) H) : C39 (some t) H K := callA39 _ _ _ (by
  unfold A39
  refine retH_i _ (fun K' hk' => c_tway h h3 hb [] hk') (lenA_i fun _ => ?_)
  rw [show (((way T []).map (fun j : Nat => (j : Int)), ()) : List Int × Unit).1.length = hh + 1 from by simp only [List.length_map]; exact way_len h.sz]
  exact hk)
theorem lf_row {o : Nat} {T : Tr hh} {f : Nat → Option Nd} {u : Nat} (hm : Mid f u T) {c : Ctx 0 hh} {i : Nat} {ps : List Pr} (h1 : plug c (Tr.lf i ps) = T) (hc : c.Sz o) : IsRow ps := by
  have ho := hm.ord
  have hok := hm.ok
  rw [← h1, plug_fl c _ hc] at ho hok
  have := row_prs (List.pairwise_append.1 (List.pairwise_append.1 ho).1).2.1 fun x hx => hok x (List.mem_append.2 (.inl (List.mem_append.2 (.inr hx))))
  rwa [fl_lf, prs_map] at this
theorem c_tget (h : TI H t n o many T v f u) (h3 : 3 ≤ o) (hb : (allP T).length ≤ 100000) (k : Key) {K : HT [(false, .row .byte), (false, .one .bool)] → HP → Prop} (hk : K ((getR (allP T) k).getD [], hasR (allP T) k, ()) H) : C32 (some t) k H K := callA32 _ _ _ _ (by
  unfold A32
  obtain ⟨c, i, ps, ks, kd, nx, h1, h2, h4, h5, h6, h7, hf⟩ := h.loc k
  have hr := lf_row h.mid h1 h4
  have ha := h.all h1 h4
  have har := around h6 h7
  rw [ha, har.get, har.has] at hk
  have hpl : ps.length ≤ 100000 := by rw [ha] at hb; simp at hb; omega
  refine refA_i (ldO_i h.ht (retH_i _ (fun K' hk' => c_tleaf h h3 hb k hk') ?_))
  rw [leafI_of h2]
  refine g_get h.hn h.ar hf (retA_i _ (c_find ps k hr.sort (by omega)) ?_)
  dsimp only
  have hg := get_lb hr.sort k
  refine ifNot (fun hh => ?_) fun hh => ?_
  · unfold hasR at hh hk
    rw [Option.isSome_eq_false_iff, Option.isNone_iff_eq_none] at hh
    rw [hh] at hk; exact hk
  · obtain ⟨p, hp, he⟩ := hasR_at hr.sort hh
    refine atA_g rfl hp ?_
    rw [hg, hp, hh] at hk
    simp only [he, if_true] at hk
    exact hk)
theorem lvs_rep {f : Nat → Option Nod} : ∀ {h : Nat} {t : Tr h}, Rep f t → ∀ a ∈ lvs t, ∃ ks kd nx, f a.1 = some (true, a.2, ks, kd, nx)
  | 0, t, hr, a, ha => by
    obtain ⟨i, ps, rfl⟩ := t.ex0
    simp at ha
    subst ha
    exact rep_lf.1 hr
  | h + 1, t, hr, a, ha => by
    obtain ⟨i, ks, l, rfl⟩ := t.exS
    obtain ⟨_, h2⟩ := rep_nd.1 hr
    simp only [lvs_nd, List.mem_flatten, List.mem_map] at ha
    obtain ⟨_, ⟨x, hx, rfl⟩, ha⟩ := ha
    exact lvs_rep (h2 x hx) a ha
theorem ll_nil {o : Nat} : ∀ {h H : Nat} {c : Ctx h H}, c.Sz o → c.l = [] → c.ll = []
  | _, _, .top, _, _ => rfl
  | _, _, .down c f, hc, hl => by
    obtain ⟨_, _, e1, _, _, _, h7⟩ := csz_down.1 hc
    simp only [Ctx.l, List.append_eq_nil_iff] at hl
    have : f.L = [] := by
      cases hL : f.L with
      | nil => rfl
      | cons x l =>
        cases hk : f.kl with
        | nil => rw [hL, hk] at e1; simp at e1
        | cons k ks => rw [hL, hk] at hl; simp [Th.pre] at hl
    simp [Ctx.ll, ll_nil h7 hl.1, this]
theorem TI.first (h : TI H t n o many T v f u) : ∃ ps rest, lvs T = (leafI T [], ps) :: rest := by
  obtain ⟨c, i, ps, ks, kd, nx, h1, h2, h4, h5, h6, h7, hf⟩ := h.loc []
  have hok := h.mid.ok
  rw [← h1, plug_fl c _ h4] at hok
  have hl : c.l = [] := by
    cases hc : c.l with
    | nil => rfl
    | cons x l =>
      have hb := h6 x (by rw [hc]; simp)
      have hx := hok x (by rw [hc]; simp)
      cases x with
      | p a => simp only [Bel] at hb; rw [less_nil_r] at hb; cases hb
      | s s =>
        simp only [Bel] at hb
        rw [less_nil_l (fun e => by subst e; cases hx)] at hb; cases hb
  have := plug_lvs c (Tr.lf i ps)
  rw [h1, ll_nil h4 hl] at this
  exact ⟨ps, c.lr, by rw [this, leafI_of h2]; rfl⟩
theorem c_tpairs (h : TI H t n o many T v f u) (h3 : 3 ≤ o) (hb : (allP T).length ≤ 100000) {K : HT [(false, .row (.cons (.row .byte) (.row .byte)))] → HP → Prop} (hk : K (allP T, ()) H) : C38 (some t) H K := callA38 _ _ _ (by
  unfold A38
  obtain ⟨ps0, rest0, hfirst⟩ := h.first
  have hseg := h.mid.seg
  have hat : ∀ i a, (lvs T)[i]? = some a → ∃ ks kd, f a.1 = some (true, a.2, ks, kd, hd ((lvs T).drop (i + 1)) (-1)) := fun i a hi => by
    obtain ⟨ks, kd, nx, hf⟩ := lvs_rep h.mid.rep a (List.mem_of_getElem? hi)
    have hlt := (List.getElem?_eq_some_iff.1 hi).1
    have e := mem_split hlt
    rw [e, seg_app] at hseg
    have h5 := hseg.2.1
    rw [(List.getElem?_eq_some_iff.1 hi).2] at h5
    unfold nxt at h5
    rw [hf] at h5
    simp only at h5
    rw [← h5]
    exact ⟨ks, kd, hf⟩
  refine retH_i _ (fun K' hk' => c_tleaf h h3 hb [] hk') ?_
  refine loop_n (lvs T).length (fun i => ((some t, ((lvs T).take i).flatMap (·.2), hd ((lvs T).drop i) (-1), ()), ())) (fun _ => True) (by rw [hfirst]; rfl) trivial fun i C hi _ hC => ?_
  dsimp only at hC ⊢
  rcases Nat.lt_or_ge i (lvs T).length with h1 | h1
  · have hx := List.getElem?_eq_getElem h1
    obtain ⟨ks, kd, hf⟩ := hat i _ hx
    have hdr : (lvs T).drop i = (lvs T)[i] :: (lvs T).drop (i + 1) := (List.getElem_cons_drop h1).symm
    rw [hdr]
    have hlen : (((lvs T).take (i + 1)).flatMap (·.2)).length ≤ (allP T).length := by
      have e : allP T = ((lvs T).take (i + 1)).flatMap (·.2) ++ ((lvs T).drop (i + 1)).flatMap (·.2) := by
        rw [← List.flatMap_append, List.take_append_drop]; rfl
      rw [e, List.length_append]; omega
    have e2 : ((lvs T).take (i + 1)).flatMap (·.2) = ((lvs T).take i).flatMap (·.2) ++ (lvs T)[i].2 := by
      rw [List.take_succ_eq_append_getElem h1, List.flatMap_append]; simp
    rw [e2, List.length_append] at hlen
    have hC := hC h1 trivial
    rw [e2] at hC
    refine ifT (by simp [hd]) (refA_i (ldO_i h.ht (g_get h.hn h.ar (i := (lvs T)[i].1) hf (ifNot (fun h => by cases h) fun _ => appA_i (by dsimp only; omega) hC))))
  · have : i = (lvs T).length := by omega
    subst this
    rw [List.drop_length, List.take_length]
    exact ifF (by simp [hd]) hk)
theorem c_tnew (o : Int) {H : HP} {K : HT [(false, .ref), (false, .one .any)] → HP → Prop} (h0 : (o < 3 ∨ 16 < o) → K (none, eC 1, ()) H)
    (h1 : ∀ (q : Nat) t n H', o = q → 3 ≤ q → q ≤ 16 → H t = none → H n = none → t ≠ n → Fm [t, n] H H' → TreeIs H' t n q [] 0 → K (some t, .nilIface, ()) H') : C30 o H K := callA30 _ _ _ (by
  unfold A30
  refine ifD (fun h => h0 (.inl h)) fun h => ifD (fun h' => h0 (.inr h')) fun h' => ?_
  have h : ¬ o < 3 := h
  have h' : ¬ o > 16 := h'
  obtain ⟨q, rfl⟩ : ∃ q : Nat, o = q := ⟨o.toNat, by omega⟩
  refine c_anew _ fun n hn => ?_
  refine c_make (f := fun _ => none) (u := 0) (set_eq _ _ _ _) Ar.new (by omega) (x := (true, [], [], [], -1)) ⟨by simp, by simp, by simp, by simp, by simp⟩ fun r v' hr ha => ?_
  rw [set_set]
  intro t ht
  have hne : t ≠ n := fun e => by rw [e, set_eq] at ht; cases ht
  rw [set_ne _ _ _ hne] at ht
  refine h1 q t n _ rfl (by omega) (by omega) ht hn hne (((Fm.refl _ _).set (by simp) _ _).set (by simp) _ _) ⟨0, Tr.lf r [], v', _, _, ⟨set_eq _ _ _ _, by rw [set_ne _ _ _ hne.symm]; exact set_eq _ _ _ _, ha, ⟨rep_lf.2 ⟨[], [], -1, upd_eq _ _ _⟩, by simp, ⟨?_, trivial⟩, List.Pairwise.nil, by simp, rfl⟩, sz_lf.2 ⟨by simp [Ctx.lo], by simp⟩⟩, allP_lf _ _⟩
  show nxt _ r = _
  rw [nxt_upd]; rfl)
theorem c_tput {ps : List Pr} (h : TreeIs H t n o ps (ps.length : Int)) (h3 : 3 ≤ o) (h16 : o ≤ 16) (hb : ps.length ≤ 1000) (k w : Key) {K : HT [(false, .one .bool), (false, .one .any)] → HP → Prop}
    (k1 : (mayB k && fairB w) = false → K (false, eC 1, ()) H) (k2 : (mayB k && fairB w) = true → hasR ps k = false → 1000 ≤ ps.length → K (false, eC 5, ()) H)
    (k3 : (mayB k && fairB w) = true → (hasR ps k = true ∨ ps.length < 1000) → ∀ H', Fm [t, n] H H' → TreeIs H' t n o (putR ps k w) ((putR ps k w).length : Int) → K (!hasR ps k, .nilIface, ()) H') : C31 (some t) k w H K := callA31 _ _ _ _ _ (by
  obtain ⟨hh, T, v, f, u, h, rfl⟩ := h
  unfold A31
  refine retA_i _ (c_kmay _) (ifNot (fun hm => k1 (by simp only at hm; rw [hm]; rfl)) fun hm => retA_i _ (c_kfair _) (ifNot (fun hv => k1 (by simp only at hm hv; rw [hm, hv]; rfl)) fun hv => ?_))
  simp only at hm hv
  have hmv : (mayB k && fairB w) = true := by rw [hm, hv]; rfl
  have hk1 : k.length ≤ 140737488355328 := by have := may_len hm; omega
  have hw1 : w.length ≤ 140737488355328 := by unfold fairB at hv; simp only [decide_eq_true_eq] at hv; omega
  obtain ⟨c, i, ps, ks, kd, nx, h1, h2, h4, h5, h6, h7, hf⟩ := h.loc k
  have hr := lf_row h.mid h1 h4
  have ha := h.all h1 h4
  have har := around h6 h7
  have hl := way_len (k := k) h.sz
  have hh' := h.high h3
  have hl2 : c.path.length + 1 = hh + 1 := by rw [h2, List.length_append] at hl; exact hl
  have hpl : ps.length ≤ (allP T).length := by rw [ha]; simp; omega
  have hput : putR (allP T) k w = prs c.l ++ putR ps k w ++ prs c.r := by rw [ha, har.put]
  have hhas : hasR (allP T) k = hasR ps k := by rw [ha, har.has]
  have hordc : Th.Ord (c.l ++ ps.map .p ++ c.r) := by have := h.mid.ord; rwa [← h1, plug_fl c _ h4] at this
  have hord := ord_put (v := w) hordc h6 h7 hm
  have hrow' := hr.put hm hv
  have hne := ne_TA h.ht h.hn
  have hmid1 : Mid (upd f i (some (true, putR ps k w, ks, kd, nx))) u (plug c (Tr.lf i (putR ps k w))) :=
    Mid.leaf (by rw [h1]; exact h.mid) h4 hf hord fun p hp => ⟨hrow'.may p hp, hrow'.fair p hp⟩
  have hall1 : allP (plug c (Tr.lf i (putR ps k w))) = putR (allP T) k w := by rw [allP_plug h4, allP_lf, hput]
  have hid : (plug c (Tr.lf i (putR ps k w))).id = T.id := by rw [← h1]; exact plug_id c _ _ rfl
  have hok := h.ar.ndok hf
  have hok' : NdOk (true, putR ps k w, ks, kd, nx) := ⟨hok.kids, by
    have := len_put hr.sort k w
    simp only; rw [this]; split <;> omega, hok.keys, fun p hp => ?_, hok.low⟩
  rotate_left
  · rcases put_mem hp with rfl | hp
    · exact ⟨hk1, hw1⟩
    · exact hok.short p hp
  refine retH_i _ (fun K' hk' => c_tway h h3 (by omega) k hk') (lenA_i fun _ => ?_)
  refine atA_g (i := c.path.length) ?_ (x := (i : Int)) ?_ ?_
  · simp only [List.length_map, h2, List.length_append, List.length_singleton]
    rw [w64 (by omega) (by omega)]; omega
  · rw [List.getElem?_map, h2, List.getElem?_append_right (Nat.le_refl _), Nat.sub_self]; rfl
  refine refA_i (ldO_i h.ht (g_get h.hn h.ar hf (retA_i _ (c_put ps k w hr.sort (by omega) hr.short hk1 hw1) ?_)))
  dsimp only
  rw [putA_yes hmv]
  refine ⟨rfl, ifNot (fun h => by cases h) fun _ => ?_⟩
  dsimp only
  cases hhp : hasR ps k with
  | true =>
    rw [hhp] at hhas
    have hlen : (putR ps k w).length = ps.length := by rw [len_put hr.sort, if_pos hhp]
    refine ifF rfl (c_tset' h.ht h.hn h.ar hf hok' fun v' ha' => JoinA_i (ifF rfl ?_))
    have hk' := k3 hmv (.inl hhas) (H.set n ARk v') ((Fm.refl _ _).set (by simp) _ _) ⟨hh, plug c (Tr.lf i (putR ps k w)), v', _, u, ⟨?_, set_eq _ _ _ _, ha', hmid1, plug_sz c _ h4 (sz_lf.2 (by rw [hlen]; exact sz_lf.1 h5))⟩, hall1⟩
    · rw [hhas] at hk'; exact hk'
    · rw [set_ne _ _ _ hne, h.ht, hid]
      congr 4
      rw [len_put h.row.sort, if_pos hhas]
  | false =>
    rw [hhp] at hhas
    have hlen : (putR ps k w).length = ps.length + 1 := by rw [len_put hr.sort, if_neg (by rw [hhp]; simp)]
    have hlenT : (putR (allP T) k w).length = (allP T).length + 1 := by rw [len_put h.row.sort, if_neg (by rw [hhas]; simp)]
    refine ifT rfl (refA_i (ldO_i h.ht (ifD (fun hfull => k2 hmv hhas (by dsimp only at hfull; omega)) fun hfull => ?_)))
    dsimp only at hfull
    refine c_tset' h.ht h.hn h.ar hf hok' fun v' ha' => JoinA_i (ifT rfl ?_)
    have ht' : (H.set n ARk v') t = some ⟨TRk, (some n, (T.id : Int), (o : Int), ((allP T).length : Int))⟩ := by rw [set_ne _ _ _ hne]; exact h.ht
    refine refA_i (ldO_i ht' (refA_i (ldO_i ht' ?_)))
    rw [w1 (by omega), h2]
    refine c_grow (c0 := c) (s0 := Tr.lf i (putR ps k w)) (many := (((allP T).length + 1 : Nat) : Int)) h3 h16 (by rw [set_eq, hid]) (by rw [set_ne _ _ _ hne.symm]; exact set_eq _ _ _ _) ha' hmid1 h4 (sz_lf.2 ?_) (by rw [hall1, hlenT]; omega) fun H' hfm htree => ?_
    · have := sz_lf.1 h5; rw [hlen]; omega
    · have hk' := k3 hmv (.inr (by omega)) H' ((((Fm.refl _ _).set (by simp) _ _).set (by simp) _ _).trans hfm) (by rw [hlenT, ← hall1]; exact htree)
      rw [hhas] at hk'
      exact hk')
end
end Go.Proofs.Ytdglfbeddbcbpaa
