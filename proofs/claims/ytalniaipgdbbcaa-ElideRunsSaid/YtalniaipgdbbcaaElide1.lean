/-
  A group's run, over data.
-/
import Derived.Test.YtalniaipgdbbcaaDelide
import Derived.Test.YtalniaipgdbbcaaOmap2
set_option linter.unusedSimpArgs false
set_option linter.unusedVariables false
namespace Go.Proofs.Ytalniaipgdbbcaa
open Go Go.Gp Go.Ga Go.Th
theorem JoinA_w {V : Type} {B : V → HP → Prop} {A : (V → HP → Prop) → Prop} (P : V → HP → Prop) (hB : ∀ v H, P v H → B v H) (h : ∀ C : V → HP → Prop, (∀ v H, P v H → C v H) → A C) : JoinA B A := h B hB
def key0 (l : List Req) : Key := match l with | [] => [] | r :: _ => r.key
theorem key0_at {l : List Req} (h : 0 < l.length) : key0 l = (l[0]'h).key := by
  cases l with
  | nil => exact absurd h (by simp)
  | cons => rfl
def okL (k : Key) (r : Req) : Bool := mayQ r && (!((r.kind : Int) == 6) && decide (r.key = k))
def okI (l : List Req) (j : Nat) : Bool := match l[j]? with | some p => okL (key0 l) p | none => true
def fitL (l : List Req) : Bool := decide (0 < l.length) && allN l.length (okI l)
theorem okI_at {l : List Req} {i : Nat} (h : i < l.length) : okI l i = okL (key0 l) l[i] := by unfold okI; rw [List.getElem?_eq_getElem h]
theorem allN_snoc (n : Nat) (f : Nat → Bool) : allN (n + 1) f = (allN n f && f n) := by
  unfold allN
  rw [List.range_succ, List.all_append]
  simp
theorem c_fit (l : List Req) : S100 l (fitL l, ()) := pure100 l fun H K hk => by
  unfold A100
  refine lenA_i fun _ => loop_n l.length (fun i => ((l, l, (l.length : Int), (i : Int), ()), ())) (fun i => ∀ j, j < i → okI l j = true) rfl (fun j h => absurd h (Nat.not_lt_zero _)) fun i C hi hP hC => ?_
  dsimp only at hC ⊢
  refine ifLt (fun h1 => ?_) fun h1 => ?_
  · have h0 : 0 < l.length := by omega
    have no : okI l i = false → K (false, ()) H := fun h => by
      have : fitL l = false := by unfold fitL; rw [allN_false h1 h, Bool.and_false]
      rw [this] at hk; exact hk
    have e := okI_at h1
    unfold okL at e
    refine atA_lt h1 (retA_i _ (c_omay l[i]) (ifNot (fun hm => no ?_) fun hm => ifE (fun h6 => no ?_) fun h6 => atA_g (i := 0) rfl (List.getElem?_eq_getElem h0) (retA_i _ (c_bequal _ _) (ifNot (fun he => no ?_) fun he => ?_))))
    · rw [e, show mayQ l[i] = false from hm]; rfl
    · rw [e, show ((l[i].kind : Int) == 6) = true from beq_iff_eq.2 h6]; simp
    · rw [e, key0_at h0, show decide (l[i].key = l[0].key) = false from he]; simp
    · rw [w1 (by omega)]
      refine hC h1 fun j hj => ?_
      rcases Nat.lt_or_ge j i with h3 | h3
      · exact hP j h3
      · obtain rfl : j = i := by omega
        rw [e, key0_at h0, show decide (l[j].key = l[0].key) = true from he, show mayQ l[j] = true from hm, show ((l[j].kind : Int) == 6) = false from beq_eq_false_iff_ne.2 h6]; rfl
  · refine lenA_i fun _ => ?_
    have : fitL l = decide ((l.length : Int) > 0) := by
      unfold fitL
      rw [allN_true fun j hj => hP j (by omega), Bool.and_true]
      congr 1
      simp
    rw [← this]; exact hk
abbrev Net := List Res × Bool × Key × Bool
def valR (p : List Pr) : Key := match p with | [x] => x.2 | _ => []
def runP (has : Bool) (val : Key) (p : List Pr × List Res) : Net := (p.2, (p.1.length : Int) == 1, valR p.1, if (((p.1.length : Int) == 1) == has) = true then (if ((p.1.length : Int) == 1) = true then !decide (valR p.1 = val) else false) else true)
def rowR (has : Bool) (val : Key) (l : List Req) : List Pr := if has = true then [(key0 l, val)] else []
def mostR (has room : Bool) : Int := if has = true then 1 else if room = true then 1 else 0
def fitR (has : Bool) (val : Key) (l : List Req) : Bool := fitL l && (!has || fairB val)
def runR (has : Bool) (val : Key) (room : Bool) (l : List Req) : Net × Value × Unit := if fitR has val l = true then (runP has val (allQ (mostR has room) (rowR has val l) l), .nilIface, ()) else (([], false, [], false), eC 1, ())
theorem fitL_0 {l : List Req} (h : fitL l = true) : 0 < l.length := by
  unfold fitL at h
  simp only [Bool.and_eq_true, decide_eq_true_eq] at h
  exact h.1
theorem fitL_key {l : List Req} (h : fitL l = true) : mayB (key0 l) = true := by
  have h0 := fitL_0 h
  unfold fitL at h
  simp only [Bool.and_eq_true] at h
  have := allN_iff.1 h.2 0 h0
  rw [okI_at h0] at this
  unfold okL at this
  simp only [Bool.and_eq_true, Bool.not_eq_true', beq_eq_false_iff_ne] at this
  rw [key0_at h0]
  exact (may_key this.1 this.2.1).1
theorem rowR_row {has : Bool} {val : Key} {l : List Req} (h : fitR has val l = true) : IsRow (rowR has val l) := by
  unfold fitR at h
  simp only [Bool.and_eq_true, Bool.or_eq_true, Bool.not_eq_true'] at h
  unfold rowR
  cases has with
  | false => exact IsRow.nil
  | true =>
    have hv : fairB val = true := by rcases h.2 with h | h; cases h; exact h
    have := IsRow.nil.put (fitL_key h.1) hv
    exact this
theorem allQ_one (most : Int) (hm : most ≤ 1) : ∀ (q : List Req) {p : List Pr}, IsRow p → p.length ≤ 1 → (allQ most p q).1.length ≤ 1
  | [], p, _, h => h
  | r :: q, p, hp, h => by
    have h1 := (doQ_row hp r most).1
    have h2 := doQ_room hp r most
    exact allQ_one most hm q h1 (by rcases h2 with h2 | h2 <;> omega)
theorem mostR_le (has room : Bool) : mostR has room ≤ 1 := by cases has <;> cases room <;> decide
theorem run_one {has : Bool} {val : Key} {room : Bool} {l : List Req} (h : fitR has val l = true) : (allQ (mostR has room) (rowR has val l) l).1 = [] ∨ ∃ q, (allQ (mostR has room) (rowR has val l) l).1 = [q] := by
  have := allQ_one (mostR has room) (mostR_le has room) l (rowR_row h) (by unfold rowR; split <;> simp)
  generalize (allQ (mostR has room) (rowR has val l) l).1 = p at this
  match p, this with
  | [], _ => exact .inl rfl
  | [q], _ => exact .inr ⟨q, rfl⟩
  | _ :: _ :: _, h => simp at h
theorem c_run (has : Bool) (val : Key) (room : Bool) (l : List Req) (hq : l.length ≤ 1000) : S66 has val room l (runR has val room l) := pure66 has val room l fun H K hk => by
  unfold A66
  have no : fitR has val l = false → K (([], false, [], false), eC 1, ()) H := fun h => by
    unfold runR at hk
    rw [if_neg (by rw [h]; simp)] at hk; exact hk
  refine retA_i _ (c_fit l) (ifNot (fun hf => no ?_) fun hf => ?_)
  · unfold fitR; rw [show fitL l = false from hf]; rfl
  have hf : fitL l = true := hf
  have h0 := fitL_0 hf
  have yes : fitR has val l = true → K (runP has val (allQ (mostR has room) (rowR has val l) l), .nilIface, ()) H := fun h => by
    unfold runR at hk
    rw [if_pos h] at hk; exact hk
  cases has with
  | true =>
    refine ifT rfl (retA_i _ (c_kfair val) (ifNot (fun hv => no ?_) fun hv => ?_))
    · unfold fitR; rw [show fairB val = false from hv]; simp
    have hfit : fitR true val l = true := by unfold fitR; rw [hf, show fairB val = true from hv]; rfl
    have hk := yes hfit
    have ho := run_one (room := room) hfit
    have hr := rowR_row hfit
    have ca := c_all (rowR true val l) l 1 hr (by simp [rowR]) hq
    have er : rowR true val l = [(l[0].key, val)] := by unfold rowR; rw [key0_at h0]; rfl
    have em : mostR true room = 1 := rfl
    rw [em] at hk ho
    generalize allQ 1 (rowR true val l) l = pa at hk ho ca
    rw [er] at ca
    obtain ⟨p, a⟩ := pa
    dsimp only at ho ca
    refine JoinA_i (ifT rfl (atA_g (i := 0) rfl (List.getElem?_eq_getElem h0) (appA_i (by decide) (JoinA_i (ifT rfl (retA_i _ ca (lenA_i fun _ => ?_)))))))
    rcases ho with rfl | ⟨q, rfl⟩
    · exact JoinA_i (ifF rfl (JoinA_i (ifT rfl hk)))
    · exact JoinA_i (ifT rfl (atA_g (i := 0) rfl rfl (JoinA_i (ifF rfl (ifT rfl (retA_i _ (c_bequal _ _) hk))))))
  | false =>
    refine ifF rfl ?_
    have hfit : fitR false val l = true := by unfold fitR; rw [hf]; rfl
    have hk := yes hfit
    have ho := run_one (room := room) hfit
    have hr := rowR_row hfit
    have ca := c_all (rowR false val l) l (mostR false room) hr (by simp [rowR]) hq
    generalize allQ (mostR false room) (rowR false val l) l = pa at hk ho ca
    obtain ⟨p, a⟩ := pa
    dsimp only at ho ca
    refine JoinA_i (ifF rfl ?_)
    cases room with
    | true =>
      refine JoinA_i (ifF rfl (ifT rfl (retA_i _ ca (lenA_i fun _ => ?_))))
      rcases ho with rfl | ⟨q, rfl⟩
      · exact JoinA_i (ifF rfl (JoinA_i (ifF rfl (ifF rfl hk))))
      · exact JoinA_i (ifT rfl (atA_g (i := 0) rfl rfl (JoinA_i (ifT rfl hk))))
    | false =>
      refine JoinA_i (ifF rfl (ifF rfl (retA_i _ ca (lenA_i fun _ => ?_))))
      rcases ho with rfl | ⟨q, rfl⟩
      · exact JoinA_i (ifF rfl (JoinA_i (ifF rfl (ifF rfl hk))))
      · exact JoinA_i (ifT rfl (atA_g (i := 0) rfl rfl (JoinA_i (ifT rfl hk))))
theorem c_up13 : S65 (true, ()) := pure65 fun H K hk => by
  unfold A65
  refine ⟨by decide, by decide, by decide, by decide, ?_⟩
  have e : runR false [] true [((0, 0, 2, [UInt8.ofNat (97 : Int).toNat], [], [], [], 0) : Req), (0, 0, 3, [UInt8.ofNat (97 : Int).toNat], [], [], [], 0)] = (([(0, false, [], [], 0), (0, true, [], [], 0)], false, [], false), .nilIface, ()) := by kernel_rfl
  have e2 : runR false [] true [] = (([], false, [], false), eC 1, ()) := by kernel_rfl
  refine retA_i _ (c_run _ _ _ _ (by simp)) ?_
  rw [e]
  refine retA_i _ (c_run _ _ _ _ (by simp)) ?_
  rw [e2]
  exact ⟨rfl, ifT rfl (ifT rfl (ifT rfl (lenA_i fun _ => ifT rfl (atA_g (i := 1) rfl rfl (ifT rfl (er_self hk))))))⟩
theorem strB0 (x : Key) : (ByteArray.toList (bys x) == ByteArray.toList (ByteArray.mk #[])) = decide (x = []) := strB_eq x []
theorem strB0' (x : Key) : (ByteArray.toList (ByteArray.mk #[]) == ByteArray.toList (bys x)) = decide ([] = x) := strB_eq [] x
def fitN (has : Bool) (val : Key) (l : List Req) (i : Nat) : Bool := (decide (0 < l.length) && (!has || fairB val)) && allN i (okI l)
theorem elideRuns_walk (has : Bool) (val : Key) (room : Bool) (l : List Req) (H : HP) (K : HT [(false, .one .bool)] → HP → Prop) (hk : K (true, ()) H) : A10 has val room l H K := by
  unfold A10
  refine retA_i _ c_up13 (retA_i _ (c_qfew l 50) (ifNot (fun _ => hk) fun hs => lenA_i fun _ => ifD (fun _ => hk) fun hv => ?_))
  have hql := fewQ_len hs
  refine retA_i _ (c_run has val room l (by omega)) ?_
  generalize hR : runR has val room l = R
  obtain ⟨⟨r1, r2, r3, r4⟩, e, u⟩ := R
  dsimp only
  refine JoinA_w (fun v H' => H' = H ∧ v = ((has, val, room, l, true, (), e, fitN has val l 0, ()), (r1, r2, r3, r4, ()), ())) ?_ ?_
  rotate_left
  · intro C hC
    have f0 : ∀ b, b = fitN has val l 0 → C ((has, val, room, l, true, (), e, b, ()), (r1, r2, r3, r4, ()), ()) H := fun b hb => hC _ _ ⟨rfl, by rw [hb]⟩
    refine lenA_i fun _ => ifD (fun hl => ifNot (fun hh => f0 _ ?_) fun hh => lenA_i fun _ => f0 _ ?_) fun hl => f0 _ ?_
    · have hh : has = false := hh
      unfold fitN
      rw [decide_eq_true (show 0 < l.length by omega), hh]; rfl
    · have hh : has = true := hh
      unfold fitN
      rw [decide_eq_true (show 0 < l.length by omega), hh]
      unfold fairB allN
      rw [Bool.eq_iff_iff]
      simp
      omega
    · unfold fitN
      rw [decide_eq_false (show ¬ 0 < l.length by omega)]; rfl
  · rintro _ H ⟨rfl, rfl⟩
    dsimp only
    refine loop_n l.length (fun i => ((has, val, room, l, true, (), e, fitN has val l i, (i : Int), ()), (r1, r2, r3, r4, ()), ())) (fun _ => True) rfl trivial fun i C hi _ hC => ?_
    dsimp only at hC ⊢
    refine lenA_i fun _ => ifLt (fun h1 => ?_) fun h1 => ?_
    · have hC := hC h1 trivial
      have h0 : 0 < l.length := by omega
      have en : fitN has val l (i + 1) = (fitN has val l i && okL (key0 l) l[i]) := by
        unfold fitN
        rw [allN_snoc, okI_at h1, Bool.and_assoc, Bool.and_assoc, Bool.and_assoc]
      rw [en] at hC
      unfold okL at hC
      rw [key0_at h0] at hC
      rw [← w1 (by omega)] at hC
      refine atA_lt h1 (retA_i _ (c_qmay l[i]) (ifB_i (fun hb => ifB_i (fun hm => atA_lt h1 (ifN (fun h6 => ?_) fun h6 => ?_)) fun hm => ?_) fun hb => ?_))
      · refine atA_lt h1 (atA_g (i := 0) rfl (List.getElem?_eq_getElem h0) ?_)
        rw [strB_eq]
        rw [show fitN has val l i = true from hb, show mayQ l[i] = true from hm, show ((l[i].kind : Int) == 6) = false from beq_eq_false_iff_ne.2 h6] at hC
        exact hC
      · rw [show fitN has val l i = true from hb, show mayQ l[i] = true from hm, show ((l[i].kind : Int) == 6) = true from beq_iff_eq.2 h6] at hC
        exact hC
      · rw [show fitN has val l i = true from hb, show mayQ l[i] = false from hm] at hC
        exact hC
      · rw [show fitN has val l i = false from hb] at hC
        exact hC
    · obtain rfl : i = l.length := by omega
      have ef : fitN has val l l.length = fitR has val l := by
        unfold fitN fitR fitL
        cases decide (0 < l.length) <;> cases allN l.length (okI l) <;> simp
      rw [ef]
      unfold runR at hR
      refine ifNot (fun hf => ?_) fun hf => ?_
      · rw [if_neg (by rw [hf]; simp)] at hR
        injection hR with hR1 hR2
        injection hR1 with hR1 hR3
        injection hR3 with hR3 hR4
        injection hR4 with hR4 hR5
        injection hR2 with hR2 _
        subst hR1 hR2 hR3 hR4 hR5
        exact ifT rfl (er_self (ifT rfl (lenA_i fun _ => ifT rfl (ifT rfl hk))))
      have hf : fitR has val l = true := hf
      rw [if_pos hf] at hR
      have hr := rowR_row hf
      have ho := run_one (room := room) hf
      have hfl : fitL l = true := by unfold fitR at hf; simp only [Bool.and_eq_true] at hf; exact hf.1
      have h0 := fitL_0 hfl
      have ca := c_qall (rowR has val l) l (mostR has room) hr (by unfold rowR; split <;> simp) (by omega)
      unfold runP at hR
      injection hR with hR1 hR2
      injection hR1 with hR1 hR3
      injection hR3 with hR3 hR4
      injection hR4 with hR4 hR5
      injection hR2 with hR2 _
      subst hR2
      refine JoinA_w (fun v H' => H' = H ∧ v = ((has, val, room, l, true, (), .nilIface, rowR has val l, 0, ()), (r1, r2, r3, r4, ()), ())) ?_ ?_
      rotate_left
      · intro C hC
        refine ifB_i (fun hh => atA_g (i := 0) rfl (List.getElem?_eq_getElem h0) (appA_i (by decide) (hC _ _ ⟨rfl, ?_⟩))) fun hh => hC _ _ ⟨rfl, ?_⟩
        · unfold rowR; rw [if_pos hh, key0_at h0]
        · unfold rowR; rw [if_neg (by rw [hh]; simp)]
      rintro _ H ⟨rfl, rfl⟩
      dsimp only
      refine JoinA_w (fun v H' => H' = H ∧ v = ((has, val, l, true, (), .nilIface, rowR has val l, mostR has room, ()), (r1, r2, r3, r4, ()), ())) ?_ ?_
      rotate_left
      · intro C hC
        refine ifB_i (fun hh => hC _ _ ⟨rfl, ?_⟩) fun hh => ifB_i (fun hh' => hC _ _ ⟨rfl, ?_⟩) fun hh' => hC _ _ ⟨rfl, ?_⟩
        · unfold mostR; rw [if_pos hh]
        · unfold mostR; rw [if_neg (by rw [hh]; simp), if_pos hh']
        · unfold mostR; rw [if_neg (by rw [hh]; simp), if_neg (by rw [hh']; simp)]
      rintro _ H ⟨rfl, rfl⟩
      subst hR1 hR3 hR4 hR5
      dsimp only
      refine retA_i _ ca ?_
      generalize allQ (mostR has room) (rowR has val l) l = pa at ho ⊢
      obtain ⟨p, a⟩ := pa
      dsimp only at ho ⊢
      rcases ho with rfl | ⟨q, rfl⟩
      · refine JoinA_i (lenA_i fun _ => ifF rfl (lenA_i fun _ => ?_))
        cases has with
        | true => exact JoinA_i (ifT rfl (ifT rfl ⟨rfl, ifT rfl (retA_i _ (c_answers a) (ifT rfl (ifT rfl (ifT (strB0 []) hk))))⟩))
        | false => exact JoinA_i (ifF rfl (ifF rfl (ifT rfl ⟨rfl, ifT rfl (retA_i _ (c_answers a) (ifT rfl (ifT rfl (ifT (strB0 []) hk))))⟩)))
      · refine JoinA_i (lenA_i fun _ => ifT rfl (atA_g (i := 0) rfl rfl (lenA_i fun _ => ?_)))
        cases has with
        | true =>
          refine JoinA_i (ifF rfl (ifT rfl (ifT rfl ⟨rfl, ifT rfl (retA_i _ (c_answers a) (ifT rfl (ifT rfl (ifT ?_ ?_))))⟩)))
          · rw [strB_eq]; exact decide_eq_true rfl
          · rw [strB_eq]
            show K ((!decide (q.2 = val)) == !decide (q.2 = val), ()) H
            rw [show ((!decide (q.2 = val)) == !decide (q.2 = val)) = true from by simp]; exact hk
        | false =>
          refine JoinA_i (ifT rfl (ifT rfl ⟨rfl, ifT rfl (retA_i _ (c_answers a) (ifT rfl (ifT rfl (ifT ?_ hk))))⟩))
          rw [strB_eq]; exact decide_eq_true rfl
/-! ### Arguments -/
theorem fitBytes : fitT Try.prog 9 (.row .byte) 22 = true := by kernel_rfl
theorem fitReqs : fitT Try.prog 21 (.row (.cons (.one (.int .i64)) (.cons (.one (.int .i64)) (.cons (.one (.int .i64)) (.cons (.row .byte) (.cons (.row .byte) (.cons (.row .byte) (.cons (.row .byte) (.one (.int .i64)))))))))) 71 = true := by kernel_rfl
theorem arg_bool {W : World} {j : Nat} {r : List (Bool × AK)} {n : Bool} {vs : List Value} {y : HT r} (h : ArgRep (fun _ => none) W (j + 1) r vs y) : ArgRep (fun _ => none) W j ((false, .one .bool) :: r) (.bool n :: vs) (n, y) := arg_cons rfl rfl (cs := [.bool n]) ⟨rfl, rfl⟩ rfl h
theorem elideRuns_row (W : World) (a : Bool) (b : Sl) (c : Bool) (d : Sl) (n1 : Nat) (h1 : RdT Try.prog W n1 22 [.slice b.a b.len b.cap]) (n3 : Nat) (h3 : RdT Try.prog W n3 71 [.slice d.a d.len d.cap]) :
    callG Try.prog 10 [.bool a, .slice b.a b.len b.cap, .bool c, .slice d.a d.len d.cap] [.one .bool] W fun x W' => x = (true, ()) ∧ Keeps [] W W' := by
  obtain ⟨y, hy, _⟩ := fit_dat _ fitBytes h1
  obtain ⟨z, hz, _⟩ := fit_dat _ fitReqs h3
  exact callG_of (callA10 a y c z _ _ (elideRuns_walk a y c z _ _ rfl)) (arg_bool (arg_cons rfl rfl hy rfl (arg_bool (arg_cons rfl rfl hz rfl arg_nil))))
end Go.Proofs.Ytalniaipgdbbcaa
