/-
  An arena whose nodes' Kids are handed in, and told, as blocks that may be changed: the program's own functions, and the document's.
-/
import Derived.Test.YtbaclnddcobdmaaDara
import Derived.Test.YtbaclnddcobdmaaDarg
import Derived.Test.YtbaclnddcobdmaaDarl
import Derived.Test.YtbaclnddcobdmaaDarr
import Derived.Test.YtbaclnddcobdmaaDarq
import Derived.Test.YtbaclnddcobdmaaDara0
import Derived.Test.YtbaclnddcobdmaaDclone
import Derived.Test.YtbaclnddcobdmaaKk
import Derived.Test.YtbaclnddcobdmaaKd
import Derived.Test.YtbaclnddcobdmaaKt
set_option linter.unusedSimpArgs false
set_option linter.unusedVariables false
namespace Go.Proofs.Ytbaclnddcobdmaa
open Go Go.Gp Go.Ga Go.Th
theorem info_of {t : TypeId} {z : Value} {s b : Nat} (h : (Try.prog.info? t).map (fun i => (i.zero, i.size, i.bytes)) = some (some z, s, b)) : ∃ i, Try.prog.info? t = some i ∧ i.zero = some z ∧ i.size = s ∧ i.bytes = b := by
  obtain ⟨i, hi, h⟩ := Option.map_eq_some_iff.1 h
  simp only [Prod.mk.injEq] at h
  exact ⟨i, hi, h.1, h.2.1, h.2.2⟩
theorem uBytes : Try.prog.underlying 45 = some (.slice 5) := by kernel_rfl
theorem uInts : Try.prog.underlying 31 = some (.slice 3) := by kernel_rfl
theorem nByte : ∃ i, Try.prog.info? 5 = some i ∧ i.zero = some (.int .u8 0) ∧ i.size = 1 ∧ i.bytes = 1 := info_of (by kernel_rfl)
set_option maxRecDepth 100000 in
theorem c_bclone (a : List UInt8) (ha : a.length ≤ 140737488355328) : PureA Try.prog 104 [(false, .row .byte)] (a, ()) [(false, .row .byte)] (a, ()) := pure_clone (t := 5) rfl (by decide) fun W s cs hs hl hn h1 => by
  apply call104
  unfold G104
  have hcl := hs.len
  obtain ⟨p, n, c⟩ := s
  cases p with
  | none =>
    have h0 := (hn rfl).1
    simp only at h0 hcl hl
    subst h0
    have : cs = [] := List.eq_nil_of_length_eq_zero (by rw [hcl]; simp)
    subst this
    exact ⟨OwnS.nil _ _ _ _, rfl, Keeps.refl _ _, by simp [sblk]⟩
  | some p =>
    simp only [Option.isNone_some, ifB_false]
    refine new_blk fun m W1 hm k1 b1 => ?_
    obtain ⟨i, hi, h2, h3, h4⟩ := nByte
    simp only at hl hcl
    refine app_own' uBytes hi h2 h3 h4 rfl (by decide) (OwnS.blank (B := 0) b1 (Nat.zero_le _)) cs hcl (fun j u hj => ?_) h1 (by simp only; omega) (by simp only; omega) (Nat.zero_le _) fun r W2 o2 k2 l2 hb hn0 => ?_
    · obtain ⟨q, hq, hc⟩ := (hs.keep0 k1).at_ j u hj
      injection hq with hq
      subst hq
      exact hc
    · simp only [List.nil_append] at o2
      have hb1 := b1.lt
      have hk2 := k2.size
      have hk1 := k1.size
      refine ⟨o2, by simpa using l2, k1.push k2 (by simp [sblk, hm]), fun b hbb => ?_⟩
      rcases hb b hbb with h | h
      · simp only [sblk, List.mem_singleton] at h
        subst h
        exact ⟨by omega, by omega⟩
      · exact ⟨Nat.le_trans hk1 h.1, h.2⟩
set_option maxRecDepth 100000 in
theorem iclone_h (a : List Int) (ha : a.length ≤ 17592186044416) : ∀ (W : World) (s : Sl) (cs : List Value), Rs W (AK.one (.int .i64)).sz s cs → s.len = a.length → (s.a = none → s.len = 0 ∧ s.cap = 0) → (∀ u ∈ cs, u.oneCell' = true) → callG Try.prog 105 [s.val] [.one .sl] W fun z W' => OwnS W' 0 3 (AK.one (.int .i64)).sz z.1 cs ∧ z.1.len = s.len ∧ Keeps [] W W' ∧ ∀ b ∈ sblk z.1, newA W W' b := fun W s cs hs hl hn h1 => by
  apply call105
  unfold G105
  have hcl := hs.len
  obtain ⟨p, n, c⟩ := s
  cases p with
  | none =>
    have h0 := (hn rfl).1
    simp only at h0 hcl hl
    subst h0
    have : cs = [] := List.eq_nil_of_length_eq_zero (by rw [hcl]; simp)
    subst this
    exact ⟨OwnS.nil _ _ _ _, rfl, Keeps.refl _ _, by simp [sblk]⟩
  | some p =>
    simp only [Option.isNone_some, ifB_false]
    refine new_blk fun m W1 hm k1 b1 => ?_
    obtain ⟨i, hi, h2, h3, h4⟩ := info_of (t := 3) (z := .int .i64 0) (s := 1) (b := 8) (by kernel_rfl)
    simp only at hl hcl
    refine app_own' uInts hi h2 h3 h4 rfl (by decide) (OwnS.blank (B := 0) b1 (Nat.zero_le _)) cs hcl (fun j u hj => ?_) h1 (by simp only; omega) (by simp only; omega) (Nat.zero_le _) fun r W2 o2 k2 l2 hb hn0 => ?_
    · obtain ⟨q, hq, hc⟩ := (hs.keep0 k1).at_ j u hj
      injection hq with hq
      subst hq
      exact hc
    · simp only [List.nil_append] at o2
      have hb1 := b1.lt
      have hk2 := k2.size
      have hk1 := k1.size
      refine ⟨o2, by simpa using l2, k1.push k2 (by simp [sblk, hm]), fun b hbb => ?_⟩
      rcases hb b hbb with h | h
      · simp only [sblk, List.mem_singleton] at h
        subst h
        exact ⟨by omega, by omega⟩
      · exact ⟨Nat.le_trans hk1 h.1, h.2⟩
theorem c_few (l : List Pr) (n : Int) : S98 l n (fewB l n, ()) := pure98 l n fun H K hk => by
  unfold A98
  have bad : ∀ {i : Nat} (hi : i < l.length), (100 < l[i].1.length ∨ 100 < l[i].2.length) → K (false, ()) H := fun {i} hi h => by
    have : fewB l n = false := by
      unfold fewB
      rw [allN_false hi (by simp only [List.getElem?_eq_getElem hi]; rcases h with h | h <;> simp <;> omega)]
      rfl
    rw [← this]; exact hk
  refine loop_n l.length (fun i => ((l, n, (i : Int), ()), ())) (fun i => ∀ j p, j < i → l[j]? = some p → p.1.length ≤ 100 ∧ p.2.length ≤ 100) rfl (fun j p h => absurd h (Nat.not_lt_zero _)) fun i C hi hP hC => ?_
  dsimp only at hC ⊢
  refine lenA_i fun _ => ifLt (fun h1 => ?_) fun h1 => ?_
  · refine atA_lt h1 (lenA_i fun _ => ifD (fun h => bad h1 (.inl (by omega))) fun h => atA_lt h1 (lenA_i fun _ => ifD (fun h' => bad h1 (.inr (by omega))) fun h' => ?_))
    rw [w1 (by omega)]
    refine hC h1 fun j p hj hp => ?_
    rcases Nat.lt_or_ge j i with h3 | h3
    · exact hP j p h3 hp
    · obtain rfl : j = i := by omega
      rw [List.getElem?_eq_getElem h1] at hp
      injection hp with hp
      subst hp
      exact ⟨by omega, by omega⟩
  · refine lenA_i fun _ => ?_
    have : fewB l n = decide ((l.length : Int) ≤ n) := by
      unfold fewB
      rw [allN_true fun j hj => ?_, Bool.true_and]
      have := hP j _ (by omega) (List.getElem?_eq_getElem hj)
      simp [hj, this.1, this.2]
    rw [← this]; exact hk
theorem c_pairs (a b : List Pr) : S99 a b (decide (a = b), ()) := pure99 a b fun H K hk => by
  unfold A99
  refine lenA_i fun _ => lenA_i fun _ => ifN (fun h => ?_) fun h => ?_
  · have : decide (a = b) = false := by rw [decide_eq_false_iff_not]; rintro rfl; exact h rfl
    rw [this] at hk; exact hk
  have hlen : a.length = b.length := by omega
  have bad : a ≠ b → K (false, ()) H := fun h => by
    rw [decide_eq_false h] at hk; exact hk
  refine loop_n a.length (fun i => ((a, b, (i : Int), ()), ())) (fun i => ∀ j, j < i → a[j]? = b[j]?) rfl (fun j h => absurd h (Nat.not_lt_zero _)) fun i C hi hP hC => ?_
  dsimp only at hC ⊢
  refine lenA_i fun _ => ifLt (fun h1 => ?_) fun h1 => ?_
  · have h2 : i < b.length := by omega
    refine atA_lt h1 (atA_lt h2 ?_)
    rw [strB_eq]
    refine ifNot (fun hne => bad fun e => ?_) fun he => atA_lt h1 (atA_lt h2 ?_)
    · rw [decide_eq_false_iff_not] at hne; exact hne (by subst e; rfl)
    rw [strB_eq]
    refine ifNot (fun hne => bad fun e => ?_) fun he' => ?_
    · rw [decide_eq_false_iff_not] at hne; exact hne (by subst e; rfl)
    · rw [decide_eq_true_eq] at he he'
      rw [w1 (by omega)]
      refine hC h1 fun j hj => ?_
      rcases Nat.lt_or_ge j i with h3 | h3
      · exact hP j h3
      · obtain rfl : j = i := by omega
        rw [List.getElem?_eq_getElem h1, List.getElem?_eq_getElem h2]
        exact congrArg some (Prod.ext he he')
  · have : a = b := List.ext_getElem? fun j => by
      rcases Nat.lt_or_ge j i with h3 | h3
      · exact hP j h3
      · rw [List.getElem?_eq_none (by omega), List.getElem?_eq_none (by omega)]
    rw [decide_eq_true this] at hk; exact hk
abbrev IK : AK := .one (.int .i64)
abbrev Nd := Bool × List Pr × List Key × List Int × Int
abbrev NdS := Bool × List Pr × List Key × Sl × Int
abbrev rawN (x : Nd) (s : Sl) : NdS := (x.1, x.2.1, x.2.2.1, s, x.2.2.2.2)
def KidsAt (H : HP) (s : Sl) (xs : List Int) : Prop := (s = ⟨none, 0, 0⟩ ∧ xs = []) ∨ ∃ n, ArrAt H n IK 3 s xs ∧ s.a = some ⟨n, 0, none⟩ ∧ s.len = xs.length
theorem KidsAt.len {H : HP} {s : Sl} {xs : List Int} (h : KidsAt H s xs) : s.len = xs.length := by
  rcases h with ⟨rfl, rfl⟩ | ⟨n, _, _, h⟩
  · rfl
  · exact h
theorem KidsAt.le {H H' : HP} {s : Sl} {xs : List Int} (h : KidsAt H s xs) (f : H.le H') : KidsAt H' s xs := by
  rcases h with h | ⟨n, h1, h2, h3⟩
  · exact .inl h
  · exact .inr ⟨n, f.get h1, h2, h3⟩
theorem KidsAt.set {H : HP} {s : Sl} {xs : List Int} (h : KidsAt H s xs) {m : Nat} {k : AK} {x : k.T} (hm : ∀ t s' xs', H m ≠ some ⟨.arr IK t, (s', xs')⟩) : KidsAt (H.set m k x) s xs := by
  rcases h with h | ⟨n, h1, h2, h3⟩
  · exact .inl h
  · exact .inr ⟨n, (hp_ne (fun e => by subst e; exact hm _ _ _ h1)).trans h1, h2, h3⟩
theorem KidsAt.del {H : HP} {s : Sl} {xs : List Int} (h : KidsAt H s xs) {m : Nat} (hm : ∀ t s' xs', H m ≠ some ⟨.arr IK t, (s', xs')⟩) : KidsAt (H.del m) s xs := by
  rcases h with h | ⟨n, h1, h2, h3⟩
  · exact .inl h
  · refine .inr ⟨n, ?_, h2, h3⟩
    show (if n = m then none else H n) = _
    rw [if_neg (fun e => by subst e; exact hm _ _ _ h1)]; exact h1
theorem KidsAt.pub {H H' : HP} {s : Sl} {xs : List Int} (h : PubR IK 3 xs H s H') : KidsAt H' s xs ∧ H.le H' := by
  obtain ⟨h1, h2, h3, h4⟩ := h
  rcases h4 with ⟨h5, h6, rfl⟩ | ⟨n, h5, h6, rfl⟩
  · exact ⟨.inl ⟨h5, h6⟩, HP.le.refl _⟩
  · exact ⟨.inr ⟨n, hp_at _ _ _ _, h5, h1⟩, hp_le_new h6⟩
theorem KidsAt.clone {H : HP} {s : Sl} {xs : List Int} (h : KidsAt H s xs) : (s = ⟨none, 0, 0⟩ ∧ xs = []) ∨ ∃ n, ArrAt H n IK 3 s xs := by
  rcases h with h | ⟨n, h1, _⟩
  · exact .inl h
  · exact .inr ⟨n, h1⟩
theorem retH_i {P : Program} {f : FuncId} {ps : List (Bool × AK)} {xs : HT ps} {rs : List (Bool × AK)} {H : HP} {K : HT rs → Prop} (r : HT rs) (h : ∀ K' : HT rs → HP → Prop, K' r H → callA P f ps xs rs H K') (hk : K r) : retH P f ps xs rs H K := ⟨r, h, hk⟩
theorem inA_i {n i : Nat} {K : Nat → Prop} (h : i < n) (hk : K i) : inA' (i : Int) n K := ⟨Int.natCast_nonneg i, by omega, by simpa using hk⟩
theorem back {H : HP} {n : Nat} {k : AK} {x : k.T} (h : H n = some ⟨k, x⟩) : (H.del n).set n k x = H := by
  funext m
  unfold HP.set HP.del
  split
  · rename_i e; subst e; exact h.symm
  · rename_i e
    first | rfl | (show (if m = n then _ else H m) = H m; rw [if_neg e])
theorem delset (H : HP) (n : Nat) (k : AK) (x : k.T) : (H.del n).set n k x = H.set n k x := by
  funext m
  unfold HP.set HP.del
  split
  · rfl
  · rename_i e
    first | rfl | (show (if m = n then _ else H m) = H m; rw [if_neg e])
structure NdOk (x : Nd) : Prop where
  kids : x.2.2.2.1.length ≤ 1000000000
  pairs : x.2.1.length ≤ 1000000000
  keys : x.2.2.1.length ≤ 1000000000
  short : ∀ p ∈ x.2.1, p.1.length ≤ 140737488355328 ∧ p.2.length ≤ 140737488355328
  low : ∀ k ∈ x.2.2.1, k.length ≤ 140737488355328
theorem c_copied (x : Nd) (hx : NdOk x) {H : HP} {s : Sl} (hs : KidsAt H s x.2.2.2.1) (K : HT [(true, kND)] → HP → Prop) (hk : K (x, ()) H) : C95 (rawN x s) H K := callA95 _ _ _ (by
  obtain ⟨lf, ps, ks, kd, nx⟩ := x
  obtain ⟨h1, h2, h3, h4, h5⟩ := hx
  dsimp only at h1 h2 h3 h4 h5
  unfold A95
  refine retH_i _ (fun K' hk' => call_cloneS rfl (by decide) (iclone_h kd (by omega)) hs.clone hk') (lenA_i fun _ => ?_)
  refine loop_n ps.length (fun i => (((), (), (), ps, (ps.length : Int), (i : Int), ()), (lf, ps, ks, s, nx, ()), (false, (), (), (), 0, ()), (lf, ps.take i, [], kd, nx, ()), ())) (fun _ => True) (by simp) trivial fun i C hi _ hC => ?_
  dsimp only at hC ⊢
  refine ifLt (fun h => ?_) fun h => ?_
  · have hC := hC h trivial
    have hp := h4 _ (List.getElem_mem h)
    refine atA_lt h (retA_i _ (c_bclone _ hp.1) (retA_i _ (c_bclone _ hp.2) (appA_i (by rw [List.length_take]; omega) ?_)))
    rw [w1 (by omega)]
    rw [take_snoc h] at hC
    exact hC
  obtain rfl : i = ps.length := by omega
  clear hC
  refine lenA_i fun _ => ?_
  refine loop_n ks.length (fun i => (((), (), ks, (ks.length : Int), (i : Int), ()), (false, (), (), (), 0, ()), (lf, ps, ks.take i, kd, nx, ()), ())) (fun _ => True) (by simp) trivial fun i C hi' _ hC => ?_
  dsimp only at hC ⊢
  refine ifLt (fun h => ?_) fun h => ?_
  · have hC := hC h trivial
    refine atA_lt h (retA_i _ (c_bclone _ (h5 _ (List.getElem_mem h))) (appA_i (by rw [List.length_take]; omega) ?_))
    rw [w1 (by omega)]
    rw [take_snoc h] at hC
    exact hC
  · obtain rfl : i = ks.length := by omega
    rw [List.take_length]; exact hk)
theorem g_copied (x : Nd) (hx : NdOk x) (H : HP) (K : HT [(true, kNK)] → HP → Prop) (hk : ∀ s H', PubR IK 3 x.2.2.2.1 H s H' → K (rawN x s, ()) H') : G.C95 x H K := G.callA95 _ _ _ (by
  obtain ⟨lf, ps, ks, kd, nx⟩ := x
  obtain ⟨h1, h2, h3, h4, h5⟩ := hx
  dsimp only at h1 h2 h3 h4 h5
  unfold G.A95
  refine call_cloneO rfl (by decide) (iclone_h kd (by omega)) (lenA_i fun _ => ?_)
  refine loop_n ps.length (fun i => (((), (), (), ps, (ps.length : Int), (i : Int), ()), (lf, ps, ks, kd, nx, ()), (false, (), (), (), 0, ()), (lf, ps.take i, [], kd, nx, ()), ())) (fun _ => True) (by simp) trivial fun i C hi _ hC => ?_
  dsimp only at hC ⊢
  refine ifLt (fun h => ?_) fun h => ?_
  · have hC := hC h trivial
    have hp := h4 _ (List.getElem_mem h)
    refine atA_lt h (retA_i _ (c_bclone _ hp.1) (retA_i _ (c_bclone _ hp.2) (appA_i (by rw [List.length_take]; omega) ?_)))
    rw [w1 (by omega)]
    rw [take_snoc h] at hC
    exact hC
  obtain rfl : i = ps.length := by omega
  clear hC
  refine lenA_i fun _ => ?_
  refine loop_n ks.length (fun i => (((), (), ks, (ks.length : Int), (i : Int), ()), (false, (), (), (), 0, ()), (lf, ps, ks.take i, kd, nx, ()), ())) (fun _ => True) (by simp) trivial fun i C hi' _ hC => ?_
  dsimp only at hC ⊢
  refine ifLt (fun h => ?_) fun h => ?_
  · have hC := hC h trivial
    refine atA_lt h (retA_i _ (c_bclone _ (h5 _ (List.getElem_mem h))) (appA_i (by rw [List.length_take]; omega) ?_))
    rw [w1 (by omega)]
    rw [take_snoc h] at hC
    exact hC
  · obtain rfl : i = ks.length := by omega
    rw [List.take_length]; exact fun s H' hp => hk s H' hp)
end Go.Proofs.Ytbaclnddcobdmaa
