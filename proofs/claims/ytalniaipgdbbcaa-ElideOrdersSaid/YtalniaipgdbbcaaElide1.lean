/-
  A group's run, over data.
-/
import Derived.Test.YtalniaipgdbbcaaDelide
import Derived.Test.YtalniaipgdbbcaaOmap2
set_option linter.unusedSimpArgs false
set_option linter.unusedVariables false
namespace Go.Proofs.Ytalniaipgdbbcaa
open Go Go.Gp Go.Ga Go.Th
def key0 (l : List Req) : Key := match l with | [] => [] | r :: _ => r.key
theorem key0_at {l : List Req} (h : 0 < l.length) : key0 l = (l[0]'h).key := by
  cases l with
  | nil => exact absurd h (by simp)
  | cons => rfl
def okL (k : Key) (r : Req) : Bool := mayQ r && (!((r.kind : Int) == 6) && decide (r.key = k))
def okI (l : List Req) (j : Nat) : Bool := match l[j]? with | some p => okL (key0 l) p | none => true
def fitL (l : List Req) : Bool := decide (0 < l.length) && allN l.length (okI l)
theorem okI_at {l : List Req} {i : Nat} (h : i < l.length) : okI l i = okL (key0 l) l[i] := by unfold okI; rw [List.getElem?_eq_getElem h]
theorem c_fit (l : List Req) : S100 l (fitL l, ()) := pure100 l fun H K hk => by
  unfold A100
  refine lenA_i fun _ => loop_n l.length (fun i => ((l, l, (l.length : Int), (i : Int), ()), ())) (fun i => ∀ j, j < i → okI l j = true) rfl (fun j h => absurd h (Nat.not_lt_zero _)) fun i C hi hP hC => ?_
  dsimp only at hC ⊢
  refine ifLt (fun h1 => ?_) fun h1 => ?_
  · have h0 : 0 < l.length := by omega
    have no : okI l i = false → K (false, ()) H := fun h => by
      have : fitL l = false := by unfold fitL; rw [allN_false h1 h, Bool.and_false]
      rw [this] at hk; exact hk
    have e := okI_at h1
    unfold okL at e
    refine atA_lt h1 (retA_i _ (c_omay l[i]) (ifNot (fun hm => no ?_) fun hm => ifE (fun h6 => no ?_) fun h6 => atA_g (i := 0) rfl (List.getElem?_eq_getElem h0) (retA_i _ (c_bequal _ _) (ifNot (fun he => no ?_) fun he => ?_))))
    · rw [e, show mayQ l[i] = false from hm]; rfl
    · rw [e, show ((l[i].kind : Int) == 6) = true from beq_iff_eq.2 h6]; simp
    · rw [e, key0_at h0, show decide (l[i].key = l[0].key) = false from he]; simp
    · rw [w1 (by omega)]
      refine hC h1 fun j hj => ?_
      rcases Nat.lt_or_ge j i with h3 | h3
      · exact hP j h3
      · obtain rfl : j = i := by omega
        rw [e, key0_at h0, show decide (l[j].key = l[0].key) = true from he, show mayQ l[j] = true from hm, show ((l[j].kind : Int) == 6) = false from beq_eq_false_iff_ne.2 h6]; rfl
  · refine lenA_i fun _ => ?_
    have : fitL l = decide ((l.length : Int) > 0) := by
      unfold fitL
      rw [allN_true fun j hj => hP j (by omega), Bool.and_true]
      congr 1
      simp
    rw [← this]; exact hk
abbrev Net := List Res × Bool × Key × Bool
def valR (p : List Pr) : Key := match p with | [x] => x.2 | _ => []
def runP (has : Bool) (val : Key) (p : List Pr × List Res) : Net := (p.2, (p.1.length : Int) == 1, valR p.1, if (((p.1.length : Int) == 1) == has) = true then (if ((p.1.length : Int) == 1) = true then !decide (valR p.1 = val) else false) else true)
def rowR (has : Bool) (val : Key) (l : List Req) : List Pr := if has = true then [(key0 l, val)] else []
def mostR (has room : Bool) : Int := if has = true then 1 else if room = true then 1 else 0
def fitR (has : Bool) (val : Key) (l : List Req) : Bool := fitL l && (!has || fairB val)
def runR (has : Bool) (val : Key) (room : Bool) (l : List Req) : Net × Value × Unit := if fitR has val l = true then (runP has val (allQ (mostR has room) (rowR has val l) l), .nilIface, ()) else (([], false, [], false), eC 1, ())
theorem fitL_0 {l : List Req} (h : fitL l = true) : 0 < l.length := by
  unfold fitL at h
  simp only [Bool.and_eq_true, decide_eq_true_eq] at h
  exact h.1
theorem fitL_key {l : List Req} (h : fitL l = true) : mayB (key0 l) = true := by
  have h0 := fitL_0 h
  unfold fitL at h
  simp only [Bool.and_eq_true] at h
  have := allN_iff.1 h.2 0 h0
  rw [okI_at h0] at this
  unfold okL at this
  simp only [Bool.and_eq_true, Bool.not_eq_true', beq_eq_false_iff_ne] at this
  rw [key0_at h0]
  exact (may_key this.1 this.2.1).1
theorem rowR_row {has : Bool} {val : Key} {l : List Req} (h : fitR has val l = true) : IsRow (rowR has val l) := by
  unfold fitR at h
  simp only [Bool.and_eq_true, Bool.or_eq_true, Bool.not_eq_true'] at h
  unfold rowR
  cases has with
  | false => exact IsRow.nil
  | true =>
    have hv : fairB val = true := by rcases h.2 with h | h; cases h; exact h
    have := IsRow.nil.put (fitL_key h.1) hv
    exact this
theorem allQ_one (most : Int) (hm : most ≤ 1) : ∀ (q : List Req) {p : List Pr}, IsRow p → p.length ≤ 1 → (allQ most p q).1.length ≤ 1
  | [], p, _, h => h
  | r :: q, p, hp, h => by
    have h1 := (doQ_row hp r most).1
    have h2 := doQ_room hp r most
    exact allQ_one most hm q h1 (by rcases h2 with h2 | h2 <;> omega)
theorem mostR_le (has room : Bool) : mostR has room ≤ 1 := by cases has <;> cases room <;> decide
theorem run_one {has : Bool} {val : Key} {room : Bool} {l : List Req} (h : fitR has val l = true) : (allQ (mostR has room) (rowR has val l) l).1 = [] ∨ ∃ q, (allQ (mostR has room) (rowR has val l) l).1 = [q] := by
  have := allQ_one (mostR has room) (mostR_le has room) l (rowR_row h) (by unfold rowR; split <;> simp)
  generalize (allQ (mostR has room) (rowR has val l) l).1 = p at this
  match p, this with
  | [], _ => exact .inl rfl
  | [q], _ => exact .inr ⟨q, rfl⟩
  | _ :: _ :: _, h => simp at h
theorem c_run (has : Bool) (val : Key) (room : Bool) (l : List Req) (hq : l.length ≤ 1000) : S66 has val room l (runR has val room l) := pure66 has val room l fun H K hk => by
  unfold A66
  have no : fitR has val l = false → K (([], false, [], false), eC 1, ()) H := fun h => by
    unfold runR at hk
    rw [if_neg (by rw [h]; simp)] at hk; exact hk
  refine retA_i _ (c_fit l) (ifNot (fun hf => no ?_) fun hf => ?_)
  · unfold fitR; rw [show fitL l = false from hf]; rfl
  have hf : fitL l = true := hf
  have h0 := fitL_0 hf
  have yes : fitR has val l = true → K (runP has val (allQ (mostR has room) (rowR has val l) l), .nilIface, ()) H := fun h => by
    unfold runR at hk
    rw [if_pos h] at hk; exact hk
  cases has with
  | true =>
    refine ifT rfl (retA_i _ (c_kfair val) (ifNot (fun hv => no ?_) fun hv => ?_))
    · unfold fitR; rw [show fairB val = false from hv]; simp
    have hfit : fitR true val l = true := by unfold fitR; rw [hf, show fairB val = true from hv]; rfl
    have hk := yes hfit
    have ho := run_one (room := room) hfit
    have hr := rowR_row hfit
    have ca := c_all (rowR true val l) l 1 hr (by simp [rowR]) hq
    have er : rowR true val l = [(l[0].key, val)] := by unfold rowR; rw [key0_at h0]; rfl
    have em : mostR true room = 1 := rfl
    rw [em] at hk ho
    generalize allQ 1 (rowR true val l) l = pa at hk ho ca
    rw [er] at ca
    obtain ⟨p, a⟩ := pa
    dsimp only at ho ca
    refine JoinA_i (ifT rfl (atA_g (i := 0) rfl (List.getElem?_eq_getElem h0) (appA_i (by decide) (JoinA_i (ifT rfl (retA_i _ ca (lenA_i fun _ => ?_)))))))
    rcases ho with rfl | ⟨q, rfl⟩
    · exact JoinA_i (ifF rfl (JoinA_i (ifT rfl hk)))
    · exact JoinA_i (ifT rfl (atA_g (i := 0) rfl rfl (JoinA_i (ifF rfl (ifT rfl (retA_i _ (c_bequal _ _) hk))))))
  | false =>
    refine ifF rfl ?_
    have hfit : fitR false val l = true := by unfold fitR; rw [hf]; rfl
    have hk := yes hfit
    have ho := run_one (room := room) hfit
    have hr := rowR_row hfit
    have ca := c_all (rowR false val l) l (mostR false room) hr (by simp [rowR]) hq
    generalize allQ (mostR false room) (rowR false val l) l = pa at hk ho ca
    obtain ⟨p, a⟩ := pa
    dsimp only at ho ca
    refine JoinA_i (ifF rfl ?_)
    cases room with
    | true =>
      refine JoinA_i (ifF rfl (ifT rfl (retA_i _ ca (lenA_i fun _ => ?_))))
      rcases ho with rfl | ⟨q, rfl⟩
      · exact JoinA_i (ifF rfl (JoinA_i (ifF rfl (ifF rfl hk))))
      · exact JoinA_i (ifT rfl (atA_g (i := 0) rfl rfl (JoinA_i (ifT rfl hk))))
    | false =>
      refine JoinA_i (ifF rfl (ifF rfl (retA_i _ ca (lenA_i fun _ => ?_))))
      rcases ho with rfl | ⟨q, rfl⟩
      · exact JoinA_i (ifF rfl (JoinA_i (ifF rfl (ifF rfl hk))))
      · exact JoinA_i (ifT rfl (atA_g (i := 0) rfl rfl (JoinA_i (ifT rfl hk))))
theorem c_up13 : S65 (true, ()) := pure65 fun H K hk => by
  unfold A65
  refine ⟨by decide, by decide, by decide, by decide, ?_⟩
  have e : runR false [] true [((0, 0, 2, [UInt8.ofNat (97 : Int).toNat], [], [], [], 0) : Req), (0, 0, 3, [UInt8.ofNat (97 : Int).toNat], [], [], [], 0)] = (([(0, false, [], [], 0), (0, true, [], [], 0)], false, [], false), .nilIface, ()) := by kernel_rfl
  have e2 : runR false [] true [] = (([], false, [], false), eC 1, ()) := by kernel_rfl
  refine retA_i _ (c_run _ _ _ _ (by simp)) ?_
  rw [e]
  refine retA_i _ (c_run _ _ _ _ (by simp)) ?_
  rw [e2]
  exact ⟨rfl, ifT rfl (ifT rfl (ifT rfl (lenA_i fun _ => ifT rfl (atA_g (i := 1) rfl rfl (ifT rfl (er_self hk))))))⟩
theorem fitReqs : fitT Try.prog 21 (.row (.cons (.one (.int .i64)) (.cons (.one (.int .i64)) (.cons (.one (.int .i64)) (.cons (.row .byte) (.cons (.row .byte) (.cons (.row .byte) (.cons (.row .byte) (.one (.int .i64)))))))))) 71 = true := by kernel_rfl
end Go.Proofs.Ytalniaipgdbbcaa
