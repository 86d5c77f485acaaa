/-
  Slots, over data: the program's own functions, and the document's, over blocks of slots.
-/
import Derived.Test.YtalniaipgdbbcaaDslot
import Derived.Test.YtalniaipgdbbcaaDslotp
import Derived.Test.YtalniaipgdbbcaaOmap2
import Derived.Test.YtalniaipgdbbcaaKt
import Derived.Test.YtalniaipgdbbcaaKd
set_option linter.unusedSimpArgs false
set_option linter.unusedVariables false
namespace Go.Proofs.Ytalniaipgdbbcaa
open Go Go.Gp Go.Ga Go.Th
abbrev RQk : AK := .cons (.one (.int .i64)) (.cons (.one (.int .i64)) (.cons (.one (.int .i64)) (.cons (.row .byte) (.cons (.row .byte) (.cons (.row .byte) (.cons (.row .byte) (.one (.int .i64))))))))
abbrev RSk : AK := .cons (.one (.int .i64)) (.cons (.one .bool) (.cons (.row .byte) (.cons (.row (.cons (.row .byte) (.row .byte))) (.one (.int .u64)))))
abbrev ONEk : AK := .cons (.one (.int .i64)) (.cons RQk RSk)
def er (c : Int) : Value := if c = 0 then .nilIface else .iface 44 (.int .i64 c)
theorem er_ifc (c : Int) : isIfc (er c) = true := by unfold er; split <;> rfl
theorem er_nil (c : Int) : isNilV (er c) = decide (c = 0) := by unfold er; split <;> rename_i h <;> simp [isNilV, h]
theorem undC : Try.prog.underlying 44 = some (.int .i64) := by kernel_rfl
theorem infC : (Try.prog.info? 44).map (·.comparable) = some true := by kernel_rfl
theorem er_eq {a b : Int} {K : Bool → Prop} (hb : b ≠ 0) (hk : K (decide (a = b))) : ifcEq Try.prog (er a) (.iface 44 (.int .i64 b)) K := by
  have hi := infC
  cases hh : Try.prog.info? 44 with
  | none => rw [hh] at hi; cases hi
  | some i =>
    rw [hh] at hi
    simp only [Option.map_some, Option.some.injEq] at hi
    by_cases ha : a = 0
    · refine ⟨decide (a = b), .inr (.inr (.inl ⟨44, .int .i64 b, by rw [ha]; rfl, rfl, ?_⟩)), hk⟩
      simp only [decide_eq_false_iff_not]; omega
    · refine ⟨decide (a = b), .inl ⟨44, .i64, a, b, i, by rw [er, if_neg ha], rfl, undC, hh, hi, ?_⟩, hk⟩
      rw [Bool.eq_iff_iff]; simp
structure SlotsAt (H : HP) (n b : Nat) (s : Sl) (l : List One) : Prop where
  hdr : H n = some ⟨.one .sl, s⟩
  arr : ArrAt H b ONEk 127 s l
  at0 : SlAt s b l.length
  le : l.length ≤ 32
theorem SlotsAt.ne {H : HP} {n b : Nat} {s : Sl} {l : List One} (h : SlotsAt H n b s l) : n ≠ b := fun e => by
  subst e
  have h1 := h.hdr
  have h2 := h.arr
  unfold ArrAt at h2
  rw [h1] at h2
  injection h2 with h2
  injection h2 with h2
  cases h2
theorem SlotsAt.le' {H H' : HP} {n b : Nat} {s : Sl} {l : List One} (h : SlotsAt H n b s l) (hl : H.le H') : SlotsAt H' n b s l := ⟨hl.get h.hdr, hl.get h.arr, h.at0, h.le⟩
theorem SlotsAt.put {H : HP} {n b : Nat} {s : Sl} {l l' : List One} (h : SlotsAt H n b s l) (he : l'.length = l.length) : SlotsAt (H.set b (.arr ONEk 127) (s, l')) n b s l' :=
  ⟨by rw [hp_ne h.ne]; exact h.hdr, hp_at _ _ _ _, by rw [he]; exact h.at0, by rw [he]; exact h.le⟩
theorem slAt_lt {s : Sl} {b n : Nat} (h : SlAt s b n) (i : Int) : decide (i < ((s.len : Nat) : Int)) = decide (i < (n : Int)) := by rw [h.len]
abbrev adr (b : Nat) (i : Nat) : Addr := elAd b i 14
theorem c_at {H : HP} {n b : Nat} {s : Sl} {l : List One} (h : SlotsAt H n b s l) (i : Int) (K : HT [(false, .one .ptr)] → HP → Prop) (hk : K ((nthI l i).map (fun _ => adr b i.toNat), ()) H) : C80 (some n) i H K := callA80 _ _ _ _ (by
  unfold A80
  refine ifD (fun h0 => ?_) fun h0 => refA_r (ldO_r h.hdr (ifD (fun h1 => ?_) fun h1 => refA_r (ldO_r h.hdr ?_)))
  · have h0 : i < 0 := h0
    rw [nthI_out (by omega)] at hk; exact hk
  · have h1 : i ≥ ((s.len : Nat) : Int) := h1
    rw [h.at0.len] at h1
    rw [nthI_out (by omega)] at hk; exact hk
  · have h1 : ¬ i ≥ ((s.len : Nat) : Int) := h1
    have h0 : ¬ i < 0 := h0
    rw [h.at0.len] at h1
    obtain ⟨j, rfl, hj, hx⟩ := nthI_in (l := l) (i := i) (by omega) (by omega)
    rw [hx] at hk
    exact arrA_r h.at0.at0 rfl (by rw [h.at0.len]; exact hj) (by rw [Addr.add_zero']; simpa using hk))
theorem get_of {l : List One} {i : Int} {x : One} (hx : nthI l i = some x) : l[i.toNat]? = some x := by
  obtain ⟨j, rfl, hj⟩ := nthI_some hx
  rw [Int.toNat_natCast]; exact hj
theorem c_state {H : HP} {n b : Nat} {s : Sl} {l : List One} (h : SlotsAt H n b s l) (i : Int) (K : HT [(false, .one (.int .i64))] → HP → Prop) (hk : K (stS l i, ()) H) : C23 (some n) i H K := callA23 _ _ _ _ (by
  unfold A23
  refine retH_r _ (c_at h i) ?_
  unfold stS at hk
  cases hx : nthI l i with
  | none => rw [hx] at hk; exact ifF rfl hk
  | some x =>
    rw [hx] at hk
    exact ifT rfl (ptrA_r (ldE_r h.arr (get_of hx) hk)))
theorem c_first1 {H : HP} {m : Nat} {st : Int} (hm : H m = some ⟨.one (.int .i64), st⟩) (x : One) (K : HT [(false, .one .bool)] → HP → Prop) (hk : K ((x.1 : Int) == st, ()) H) : C79 x (some m) H K := callA79 _ _ _ _ (by
  unfold A79
  exact refA_r (ldO_r hm hk))
theorem c_ifun {H : HP} {b m t : Nat} {s : Sl} {l : List One} (ha : ArrAt H b ONEk t s l) (hs : SlAt s b l.length) (hl : l.length ≤ 1000) (p : One → Bool) (hp : ∀ x (K : HT [(false, .one .bool)] → HP → Prop), K (p x, ()) H → C79 x (some m) H K) (K : HT [(false, .one (.int .i64))] → HP → Prop) (hk : K (idxI p l, ()) H) : C78 s [m] H K := callA78 _ _ _ _ (by
  unfold A78
  refine loop_n l.length (fun i => ((s, [m], ((s.len : Nat) : Int), (i : Int), ()), ())) (fun i => ∀ j (h : j < l.length), j < i → p l[j] = false) rfl (fun j h h0 => absurd h0 (Nat.not_lt_zero j)) fun i C hi hP hC => ?_
  dsimp only at hC ⊢
  rw [slAt_lt hs]
  refine ifLt (fun h1 => ?_) fun h1 => ?_
  · refine arrA_r hs.at0 rfl (by rw [hs.len]; exact h1) (ldE_r ha (List.getElem?_eq_getElem h1) (capA_r ⟨rfl, hp _ _ (ifB_i (fun hb => ?_) fun hb => ?_)⟩))
    · rw [(idxI_at h1 hb hP).1] at hk; exact hk
    · rw [w1 (by omega)]
      refine hC h1 fun j h h2 => ?_
      rcases Nat.lt_or_ge j i with h3 | h3
      · exact hP j h h3
      · obtain rfl : j = i := by omega
        exact hb
  · rw [(idxI_no fun j h => hP j h (by omega)).1] at hk; exact hk)
theorem c_first {H : HP} {n b : Nat} {s : Sl} {l : List One} (h : SlotsAt H n b s l) (st : Int) (K : HT [(false, .one (.int .i64))] → HP → Prop) (hk : K (firS l st, ()) H) : C18 (some n) st H K := callA_sub rfl (callA18 _ _ _ _ (by
  unfold A18
  intro m hm
  have h' := h.le' (hp_le_new (k := .one (.int .i64)) (x := st) hm)
  refine refA_r (ldO_r h'.hdr (retH_r _ (c_ifun h'.arr h'.at0 (by have := h.le; omega) (fun x => (x.1 : Int) == st) fun x K hk => c_first1 (hp_at _ _ _ _) x K hk) ?_))
  exact ⟨H, hp_le_new hm, hk⟩))
theorem c_post1 {H : HP} {m : Nat} {r : Req} (hm : H m = some ⟨RQk, r⟩) (x : One) (K : HT [(false, .one .bool)] → HP → Prop) (hk : K (twinS r x, ()) H) : P.C75 x (some m) H K := P.callA75 _ _ _ _ (by
  unfold P.A75
  unfold twinS at hk
  refine refA_r (ifB_i (fun hb => ?_) fun hb => ?_)
  · rw [if_pos hb] at hk; exact ldO_r hm hk
  · rw [if_neg (by rw [hb]; simp)] at hk; exact hk)
theorem c_ifunP {H : HP} {b m t : Nat} {s : Sl} {l : List One} (ha : ArrAt H b ONEk t s l) (hs : SlAt s b l.length) (hl : l.length ≤ 1000) (p : One → Bool) (hp : ∀ x (K : HT [(false, .one .bool)] → HP → Prop), K (p x, ()) H → P.C75 x (some m) H K) (K : HT [(false, .one (.int .i64))] → HP → Prop) (hk : K (idxI p l, ()) H) : P.C78 s [m] H K := P.callA78 _ _ _ _ (by
  unfold P.A78
  refine loop_n l.length (fun i => ((s, [m], ((s.len : Nat) : Int), (i : Int), ()), ())) (fun i => ∀ j (h : j < l.length), j < i → p l[j] = false) rfl (fun j h h0 => absurd h0 (Nat.not_lt_zero j)) fun i C hi hP hC => ?_
  dsimp only at hC ⊢
  rw [slAt_lt hs]
  refine ifLt (fun h1 => ?_) fun h1 => ?_
  · refine arrA_r hs.at0 rfl (by rw [hs.len]; exact h1) (ldE_r ha (List.getElem?_eq_getElem h1) (capA_r ⟨rfl, hp _ _ (ifB_i (fun hb => ?_) fun hb => ?_)⟩))
    · rw [(idxI_at h1 hb hP).1] at hk; exact hk
    · rw [w1 (by omega)]
      refine hC h1 fun j h h2 => ?_
      rcases Nat.lt_or_ge j i with h3 | h3
      · exact hP j h h3
      · obtain rfl : j = i := by omega
        exact hb
  · rw [(idxI_no fun j h => hP j h (by omega)).1] at hk; exact hk)
theorem c_cfun {H : HP} {b m t : Nat} {s : Sl} {l : List One} (ha : ArrAt H b ONEk t s l) (hs : SlAt s b l.length) (hl : l.length ≤ 1000) {r : Req} (hm : H m = some ⟨RQk, r⟩) (K : HT [(false, .one .bool)] → HP → Prop) (hk : K (l.any (twinS r), ()) H) : P.C76 s [m] H K := P.callA76 _ _ _ _ (by
  unfold P.A76
  refine retH_r _ (c_ifunP ha hs hl (twinS r) fun x K hk => c_post1 hm x K hk) ?_
  have : decide (idxI (twinS r) l ≥ 0) = l.any (twinS r) := by
    rw [Bool.eq_iff_iff, decide_eq_true_eq]; exact idxI_any
  show K (decide (idxI (twinS r) l ≥ 0), ()) H
  rw [this]; exact hk)
theorem c_asked (r : Req) (hr : shortQ r) : S77 r (r, ()) := pure77 r fun H K hk => by
  unfold A77
  obtain ⟨h1, h2, h3, h4⟩ := hr
  exact retA_i _ (c_bclone _ (by show r.key.length ≤ _; omega)) (retA_i _ (c_bclone _ (by show r.val.length ≤ _; omega)) (retA_i _ (c_bclone _ (by show r.old.length ≤ _; omega)) (retA_i _ (c_bclone _ (by show r.to.length ≤ _; omega)) hk)))
def shortA (a : Res) : Prop := a.2.2.1.length ≤ 100 ∧ a.2.2.2.1.length ≤ 1000 ∧ ∀ p ∈ a.2.2.2.1, p.1.length ≤ 1000 ∧ p.2.length ≤ 1000
theorem c_told (a : Res) (ha : shortA a) : S82 a (a, ()) := pure82 a fun H K hk => by
  obtain ⟨h1, h2, h3⟩ := ha
  obtain ⟨c, f, v, l, st⟩ := a
  simp only at h1 h2 h3
  unfold A82
  refine retA_i _ (c_bclone _ (by show v.length ≤ _; omega)) (lenA_i fun _ => ?_)
  refine loop_n l.length (fun i => (((), (), l, (l.length : Int), (i : Int), ()), (c, f, v, l.take i, st, ()), (0, false, (), (), 0, ()), ())) (fun _ => True) (by simp) trivial fun i C hi _ hC => ?_
  dsimp only at hC ⊢
  refine ifLt (fun hlt => ?_) fun hge => ?_
  · have hp := h3 _ (List.getElem_mem hlt)
    refine atA_lt hlt (retA_i _ (c_bclone _ (by omega)) (retA_i _ (c_bclone _ (by omega)) (appA_i (by rw [List.length_take]; omega) ?_)))
    rw [w1 (by omega)]
    have := hC hlt trivial
    rw [take_snoc hlt] at this
    exact this
  · obtain rfl : i = l.length := by omega
    rw [List.take_length]; exact hk
theorem c_index (l : List Int) (x : Int) : S130 l x (idxI (fun y => x == y) l, ()) := pure130 l x fun H K hk => by
  unfold A130
  refine lenA_i fun hlen => ?_
  refine loop_n l.length (fun i => ((l, x, (l.length : Int), (i : Int), ()), ())) (fun i => ∀ j (h : j < l.length), j < i → (x == l[j]) = false) rfl (fun j h h0 => absurd h0 (Nat.not_lt_zero j)) fun i C hi hP hC => ?_
  dsimp only at hC ⊢
  refine ifLt (fun h1 => ?_) fun h1 => ?_
  · refine atA_lt h1 (ifB_i (fun hb => ?_) fun hb => ?_)
    · rw [(idxI_at (p := fun y => x == y) h1 hb hP).1] at hk; exact hk
    · rw [w1 (by omega)]
      refine hC h1 fun j h h2 => ?_
      rcases Nat.lt_or_ge j i with h3 | h3
      · exact hP j h h3
      · obtain rfl : j = i := by omega
        exact hb
  · rw [(idxI_no (p := fun y => x == y) fun j h => hP j h (by omega)).1] at hk; exact hk
theorem c_contains (l : List Int) (x : Int) : S114 l x (decide (x ∈ l), ()) := pure114 l x fun H K hk => by
  unfold A114
  refine retA_i _ (c_index l x) ?_
  have : decide (idxI (fun y => x == y) l ≥ 0) = decide (x ∈ l) := by
    rw [Bool.eq_iff_iff, decide_eq_true_eq, decide_eq_true_eq, ge_iff_le, idxI_any, List.any_eq_true]
    constructor
    · rintro ⟨y, hy, h⟩; rw [beq_iff_eq] at h; subst h; exact hy
    · exact fun h => ⟨x, h, by simp⟩
  show K (decide (idxI (fun y => x == y) l ≥ 0), ()) H
  rw [this]; exact hk
theorem c_turn {H : HP} {n b : Nat} {s : Sl} {l : List One} (h : SlotsAt H n b s l) (i to : Int) (fr : List Int) (K : HT [(false, .one .any)] → HP → Prop) (hk : K (er (turnS l i to fr).1, ()) (H.set b (.arr ONEk 127) (s, (turnS l i to fr).2))) : C81 (some n) i to fr H K := callA81 _ _ _ _ _ _ (by
  unfold A81
  refine retH_r _ (c_at h i) ?_
  unfold turnS at hk
  cases hx : nthI l i with
  | none => rw [hx] at hk; simp only at hk; rw [hp_same h.arr] at hk; exact ifT rfl hk
  | some x =>
    rw [hx] at hk
    simp only at hk
    refine ifF rfl (ptrA_r (ldE_r h.arr (get_of hx) (retA_i _ (c_contains fr x.1) (ifNot (fun hb => ?_) fun hb => ?_))))
    · have hb : decide (x.1 ∈ fr) = false := hb
      rw [if_neg (by simpa using hb)] at hk
      simp only at hk
      rw [hp_same h.arr] at hk; exact hk
    · have hb : decide (x.1 ∈ fr) = true := hb
      rw [if_pos (by simpa using hb)] at hk
      exact ptrA_r (stE_r h.arr (get_of hx) hk))
theorem c_claim {H : HP} {n b : Nat} {s : Sl} {l : List One} (h : SlotsAt H n b s l) (i : Int) (K : HT [(false, .one .any)] → HP → Prop) (hk : K (er (turnS l i 2 [1]).1, ()) (H.set b (.arr ONEk 127) (s, (turnS l i 2 [1]).2))) : C21 (some n) i H K := callA21 _ _ _ _ (by
  unfold A21
  exact c_turn h i 2 [1] _ hk)
theorem c_redirect {H : HP} {n b : Nat} {s : Sl} {l : List One} (h : SlotsAt H n b s l) (i : Int) (K : HT [(false, .one .any)] → HP → Prop) (hk : K (er (turnS l i 4 [1, 2]).1, ()) (H.set b (.arr ONEk 127) (s, (turnS l i 4 [1, 2]).2))) : C27 (some n) i H K := callA27 _ _ _ _ (by
  unfold A27
  exact c_turn h i 4 [1, 2] _ hk)
theorem c_answer {H : HP} {n b : Nat} {s : Sl} {l : List One} (h : SlotsAt H n b s l) (i : Int) (a : Res) (ha : shortA a) (K : HT [(false, .one .any)] → HP → Prop) (hk : K (er (answS l i a).1, ()) (H.set b (.arr ONEk 127) (s, (answS l i a).2))) : C20 (some n) i a H K := callA20 _ _ _ _ _ (by
  unfold A20
  refine c_turn h i 3 [2] _ ⟨er_ifc _, ?_⟩
  have h' := h.put (turnS_len l i 3 [2])
  generalize hT : turnS l i 3 [2] = T at h' ⊢
  rw [er_nil]
  unfold answS at hk
  unfold turnS at hT
  cases hx : nthI l i with
  | none => rw [hx] at hk hT; subst hT; exact ifT rfl hk
  | some x =>
    rw [hx] at hk hT
    simp only [List.mem_singleton] at hk hT
    by_cases hb : x.1 = 2
    · rw [if_pos hb] at hk hT
      subst hT
      obtain ⟨j, rfl, hj⟩ := nthI_some hx
      have hlt := (List.getElem?_eq_some_iff.1 hj).1
      simp only [Int.toNat_natCast] at h' hk ⊢
      have hg : (l.set j (3, x.2))[j]? = some (3, x.2) := by rw [List.getElem?_set, if_pos rfl, if_pos hlt]
      refine ifF rfl (refA_r (ldO_r h'.hdr (retA_i _ (c_told a ha) (arrA_r h.at0.at0 rfl (by rw [h.at0.len]; exact hlt) (stE_r h'.arr hg ?_)))))
      show K _ ((H.set b (.arr ONEk 127) (s, l.set j (3, x.2))).set b (.arr ONEk 127) (s, (l.set j (3, x.2)).set j (3, x.2.1, a)))
      rw [hp_set2, List.set_set]
      exact hk
    · rw [if_neg hb] at hk hT
      subst hT
      exact ifT rfl hk)
theorem c_post {H : HP} {n b : Nat} {s : Sl} {l : List One} (h : SlotsAt H n b s l) (r : Req) (hr : shortQ r) (K : HT [(false, .one (.int .i64)), (false, .one .any)] → HP → Prop) (hk : K ((postS l r).1, er (postS l r).2.1, ()) (H.set b (.arr ONEk 127) (s, (postS l r).2.2))) : C17 (some n) r H K := callA_sub rfl (callA17 _ _ _ _ (by
  unfold A17
  intro m hm
  have hle := hp_le_new (k := RQk) (x := r) hm
  have h' := h.le' hle
  have hat : (H.set m RQk r) m = some ⟨RQk, r⟩ := hp_at _ _ _ _
  have bm : m ≠ b := fun e => by subst e; have := h.arr; unfold ArrAt at this; rw [hm] at this; cases this
  refine c_first h' 0 _ (ldO_r hat (retA_i _ (c_omay r) (ifNot (fun hb => ?_) fun hb => refA_r (ldO_r h'.hdr (retH_r _ (c_cfun h'.arr h'.at0 (by have := h.le; omega) hat) (ifB_i (fun ht => ?_) fun ht => ifD (fun hf => ?_) fun hf => refA_r (ldO_r h'.hdr (ldO_r hat (retA_i _ (c_asked r hr) ?_)))))))))
  · have hb : mayQ r = false := hb
    refine ⟨H, hle, ?_⟩
    unfold postS at hk
    rw [if_pos hb] at hk
    simp only at hk
    rw [hp_same h.arr] at hk; exact hk
  · have hb : mayQ r = true := hb
    have ht : l.any (twinS r) = true := ht
    refine ⟨H, hle, ?_⟩
    unfold postS at hk
    rw [if_neg (by rw [hb]; simp), if_pos ht] at hk
    simp only at hk
    rw [hp_same h.arr] at hk; exact hk
  · have hb : mayQ r = true := hb
    have ht : l.any (twinS r) = false := ht
    have hf : firS l 0 < 0 := hf
    refine ⟨H, hle, ?_⟩
    unfold postS at hk
    rw [if_neg (by rw [hb]; simp), if_neg (by rw [ht]; simp), show l.findIdx? (fun x => (x.1 : Int) == 0) = none from idxI_neg.1 hf] at hk
    simp only at hk
    rw [hp_same h.arr] at hk; exact hk
  · have hb : mayQ r = true := hb
    have ht : l.any (twinS r) = false := ht
    have hf : ¬ firS l 0 < 0 := hf
    cases hi : l.findIdx? (fun x => (x.1 : Int) == 0) with
    | none => exact absurd (idxI_neg.2 hi) hf
    | some i =>
      have hlt := (List.findIdx?_eq_some_iff_getElem.1 hi).1
      have hfi : firS l 0 = (i : Int) := by unfold firS idxI; rw [hi]
      refine arrA_r h'.at0.at0 hfi (by rw [h'.at0.len]; exact hlt) (stE_r h'.arr (List.getElem?_eq_getElem hlt) ?_)
      unfold postS at hk
      rw [if_neg (by rw [hb]; simp), if_neg (by rw [ht]; simp), hi] at hk
      exact ⟨_, (hp_le_new hm).set, by show K (firS l 0, _) _; rw [hfi]; exact hk⟩))
theorem c_req {H : HP} {n b : Nat} {s : Sl} {l : List One} (h : SlotsAt H n b s l) (ok : okS l) (i : Int) (K : HT [(true, RQk), (false, .one .any)] → HP → Prop) (hk : K ((reqS l i).1, er (reqS l i).2, ()) H) : C31 (some n) i H K := callA31 _ _ _ _ (by
  unfold A31
  refine retH_r _ (c_at h i) ?_
  unfold reqS at hk
  cases hx : nthI l i with
  | none => rw [hx] at hk; exact ifT rfl hk
  | some x =>
    rw [hx] at hk
    simp only at hk
    refine ifF rfl (ptrA_r (ldE_r h.arr (get_of hx) (ifB_i (fun hb => ?_) fun hb => ptrA_r (ldE_r h.arr (get_of hx) (retA_i _ (c_asked x.2.1 (okS_nth ok hx).2.2.1) ?_)))))
    · rw [if_pos (by simpa using hb)] at hk; exact hk
    · rw [if_neg (by simpa using hb)] at hk; exact hk)
theorem c_take {H : HP} {n b : Nat} {s : Sl} {l : List One} (h : SlotsAt H n b s l) (ok : okS l) (i c q : Int) (K : HT [(true, RSk), (false, .one .any)] → HP → Prop) (hk : K ((takeS l i c q).1, er (takeS l i c q).2.1, ()) (H.set b (.arr ONEk 127) (s, (takeS l i c q).2.2))) : C19 (some n) i c q H K := callA19 _ _ _ _ _ _ (by
  unfold A19
  refine retH_r _ (c_at h i) ?_
  unfold takeS at hk
  cases hx : nthI l i with
  | none => rw [hx] at hk; simp only at hk; rw [hp_same h.arr] at hk; exact ifT rfl hk
  | some x =>
    rw [hx] at hk
    simp only at hk
    have g := get_of hx
    have hok := okS_nth ok hx
    refine ifF rfl (ptrA_r (ldE_r h.arr g (ifB_i (fun h0 => ?_) fun h0 => ptrA_r (ldE_r h.arr g (ifB_i (fun h1 => ?_) fun h1 => ptrA_r (ldE_r h.arr g (ifB_i (fun h2 => ?_) fun h2 => ptrA_r (ldE_r h.arr g (ifB_i (fun h3 => ?_) fun h3 => ptrA_r (ldE_r h.arr g (ifB_i (fun h4 => ?_) fun h4 => ?_)))))))))))
    · rw [if_pos (.inl (by simpa using h0))] at hk; simp only at hk; rw [hp_same h.arr] at hk; exact hk
    · rw [if_pos (.inr (.inl (by simpa using h1)))] at hk; simp only at hk; rw [hp_same h.arr] at hk; exact hk
    · rw [if_pos (.inr (.inr (by simpa using h2)))] at hk; simp only at hk; rw [hp_same h.arr] at hk; exact hk
    all_goals
      have h0 : x.1 ≠ 0 := by simpa using h0
      have h1 : x.2.1.1 = c := by simpa using h1
      have h2 : x.2.1.2.1 = q := by simpa using h2
      rw [if_neg (by rintro (h | h | h) <;> contradiction)] at hk
    · have h3 : x.1 = 1 := by simpa using h3
      rw [if_pos (by omega)] at hk; simp only at hk; rw [hp_same h.arr] at hk; exact hk
    · have h4 : x.1 = 2 := by simpa using h4
      rw [if_pos (by omega)] at hk; simp only at hk; rw [hp_same h.arr] at hk; exact hk
    · have h3 : x.1 ≠ 1 := by simpa using h3
      have h4 : x.1 ≠ 2 := by simpa using h4
      rw [if_neg (by have := hok.1; omega)] at hk
      refine ptrA_r (ldE_r h.arr g (ptrA_r (ldE_r h.arr g (ptrA_r (stE_r h.arr g (ifB_i (fun h5 => ?_) fun h5 => ?_))))))
      · rw [if_pos (by simpa using h5)] at hk; exact hk
      · rw [if_neg (by simpa using h5)] at hk; exact hk)
theorem c_slen {H : HP} {n b : Nat} {s : Sl} {l : List One} (h : SlotsAt H n b s l) (K : HT [(false, .one (.int .i64))] → HP → Prop) (hk : K ((l.length : Int), ()) H) : C30 (some n) H K := callA30 _ _ _ (by
  unfold A30
  refine refA_r (ldO_r h.hdr ?_)
  show K (((s.len : Nat) : Int), ()) H
  rw [h.at0.len]; exact hk)
theorem c_snew {H : HP} (m : Int) (K : HT [(false, .ref), (false, .one .any)] → HP → Prop) (h0 : ¬ (1 ≤ m ∧ m ≤ 32) → K (none, er 1, ()) H)
    (h1 : 1 ≤ m → m ≤ 32 → ∀ n b s (H' : HP), H.le H' → H n = none → H b = none → SlotsAt H' n b s (List.replicate m.toNat zOne) → K (some n, er 0, ()) H') : C14 m H K := callA14 _ _ _ (by
  unfold A14
  refine ifD (fun h => h0 (by have h : m < 1 := h; omega)) fun h => ifD (fun h' => h0 (by have h : m > 32 := h'; omega)) fun h' => ?_
  have h : ¬ m < 1 := h
  have h' : ¬ m > 32 := h'
  refine ⟨by omega, Int.le_refl _, by omega, by omega, ?_⟩
  refine pubA_r (fun e => ?_) fun s b hb hs n hn => ?_
  · have := congrArg List.length e
    simp at this
    omega
  · have hnb : n ≠ b := fun e => by subst e; rw [hp_at] at hn; cases hn
    have hHn : H n = none := by rw [hp_ne hnb] at hn; exact hn
    refine h1 (by omega) (by omega) n b s _ ((hp_le_new hb).trans (hp_le_new hn)) hHn hb ⟨hp_at _ _ _ _, ?_, by simpa using hs, by simp; omega⟩
    show ((_ : HP).set n _ _) b = _
    rw [hp_ne (Ne.symm hnb)]
    exact hp_at _ _ _ _)
end Go.Proofs.Ytalniaipgdbbcaa
