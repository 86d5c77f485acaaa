/-
  A batch's groups, and ElideOrders.
-/
import Derived.Test.YtalniaipgdbbcaaDgr2
import Derived.Test.YtalniaipgdbbcaaElord1
set_option linter.unusedSimpArgs false
set_option linter.unusedVariables false
namespace Go.Proofs.Ytalniaipgdbbcaa
open Go Go.Gp Go.Ga Go.Th
theorem rq_nat {l : List Req} {x : Int} (h : inQ l x) : ∃ i : Nat, x = (i : Int) ∧ l[i]? = some (rq l x) := ⟨x.toNat, by have := h.1; omega, rq_at h⟩
theorem hd_at {g : List Int} (h : g ≠ []) : g[0]? = some (g.headD 0) := by
  cases g with
  | nil => exact absurd rfl h
  | cons x g => rfl
theorem hd_mem {g : List Int} (h : g ≠ []) : g.headD 0 ∈ g := by
  cases g with
  | nil => exact absurd rfl h
  | cons x g => exact List.mem_cons_self
theorem nil_or (out : List (List Int)) : out = [] ∨ ∃ D g, out = D ++ [g] := by
  rcases List.eq_nil_or_concat out with h | ⟨D, g, h⟩
  · exact .inl h
  · exact .inr ⟨D, g, by rw [h, List.concat_eq_append]⟩
theorem ordL_at {l : List Req} {i : Nat} (h : i < l.length) : ∃ x, (ordL l)[i]? = some x ∧ inQ l x := by
  have hi : i < (ordL l).length := by rw [ordL, ordN_len]; exact h
  exact ⟨_, List.getElem?_eq_getElem hi, ordL_ok (List.getElem_mem hi)⟩
theorem grpN_at {l : List Req} {i : Nat} {x : Int} (h : (ordL l)[i]? = some x) : grpN l (ordL l) (i + 1) = grp1 l (grpN l (ordL l) i) x := by
  show (match (ordL l)[i]? with | some i' => grp1 l (grpN l (ordL l) i) i' | none => grpN l (ordL l) i) = _
  rw [h]
theorem c_rgroups (l : List Req) (hl : l.length ≤ 1000) : S68 l (grpL l, ()) := pure68 l fun H K hk => by
  unfold A68
  refine retA_i _ (c_rorder l hl) ?_
  have lo : (ordL l).length = l.length := by rw [ordL, ordN_len]
  refine loop_n l.length (fun i => ((l, grpN l (ordL l) i, ordL l, (i : Int), ()), ())) (fun _ => True) rfl trivial ?_
  intro i C hi _ hC
  dsimp only
  refine lenA_i fun _ => ?_
  rw [lo]
  refine ifLt (fun h => ?_) fun h => ?_
  · obtain ⟨x, hx, hqx⟩ := ordL_at h
    have ok := grpN_ok (fun x hx => ordL_ok hx) i (l := l) (o := ordL l)
    have nx := hC h trivial
    rw [grpN_at hx] at nx
    generalize grpN l (ordL l) i = out at ok nx ⊢
    obtain ⟨ix, ex, hrx⟩ := rq_nat hqx
    have lout := ok.len
    rw [w1 (by omega)]
    have add : out ++ [[x]] = grp1 l out x → atA (ordL l) (i : Int) fun n => appA out.length 1 24 (C ((l, out ++ [[n]], ordL l, ((i + 1 : Nat) : Int), ()), ()) H) := fun e => by
      refine atA_g rfl hx (appA_i (by omega) ?_)
      rw [e]; exact nx
    refine lenA_i fun _ => ?_
    rcases nil_or out with rfl | ⟨D, g, rfl⟩
    · exact ifF rfl (add rfl)
    · have hg : g ≠ [] := ok.ne g (by simp)
      have hlg := ok.all g (by simp)
      have hqh : inQ l (g.headD 0) := ok.ok g (by simp) _ (hd_mem hg)
      obtain ⟨ih, eh, hrh⟩ := rq_nat hqh
      rw [grp1_snoc] at nx add
      have hz := hd_at hg
      generalize g.headD 0 = hd at hqh eh hrh nx add hz
      rw [List.length_append, List.length_cons, List.length_nil] at lout
      have wD : IntKind.i64.wrap (((D ++ [g]).length : Nat) - 1) = (D.length : Int) := by rw [wI (by simp <;> omega) (by simp <;> omega)]; simp <;> omega
      rw [wD]
      have inD : ∀ {A : Nat → Prop}, A D.length → inA' (D.length : Int) (D ++ [g]).length A := fun {A} h => ⟨by omega, by simp <;> omega, by rw [Int.toNat_natCast]; exact h⟩
      have gD : (D ++ [g])[D.length]? = some g := by simp
      have join : joinQ l hd x = true → C ((l, List.set (D ++ [g]) D.length (([] ++ g) ++ [x]), ordL l, ((i + 1 : Nat) : Int), ()), ()) H := fun h => by
        rw [if_pos h] at nx
        rw [show List.set (D ++ [g]) D.length (([] ++ g) ++ [x]) = D ++ [g ++ [x]] from by rw [List.nil_append]; exact upd_mid rfl]
        exact nx
      have no : joinQ l hd x = false → _ := fun h => add (by rw [if_neg (by rw [h]; simp)])
      refine ifT (decide_eq_true (by omega)) (inD (elA_i gD (atA_g (i := 0) rfl hz (atA_g eh hrh ?_))))
      unfold joinQ at no join
      by_cases h1 : (rq l hd).kind = 6
      · refine ifF (by simpa using h1) (no (by simp [h1]))
      refine ifT (by simpa using h1) (atA_g rfl hx (atA_g ex hrx ?_))
      by_cases h2 : (rq l x).kind = 6
      · refine ifF (by simpa using h2) (no (by simp [h2]))
      refine ifT (by simpa using h2) (atA_g rfl hx (atA_g ex hrx ?_))
      rw [strB_eq]
      by_cases h3 : (rq l hd).key = (rq l x).key
      · refine ifT (decide_eq_true h3) (atA_g rfl hx ?_)
        have j := join (by simp [h1, h2, h3])
        have one : elA (D ++ [g]) D.length fun l24 => appA 0 l24.length 8 (appA (([] ++ l24).length) 1 8 (inA' (D.length : Int) (D ++ [g]).length fun i25 => elA (D ++ [g]) i25 fun l26 => C ((l, List.set (D ++ [g]) i25 (([] ++ l24) ++ [x]), ordL l, ((i + 1 : Nat) : Int), ()), ()) H)) := elA_i gD (appA_i (by omega) (appA_i (by simp; omega) (inD (elA_i gD j))))
        exact ⟨inD one, inD ⟨one, one⟩⟩
      · exact ifF (decide_eq_false h3) (no (by simp [h3]))
  · obtain rfl : i = l.length := by omega
    exact hk
abbrev GrT := Nat × Sl × List Int
structure GrAt (H : HP) (T : List GrT) : Prop where
  nd : (T.map (·.1)).Nodup
  at0 : ∀ p ∈ T, p.2.1.a = some ⟨p.1, 0, none⟩ ∧ p.2.1.len = p.2.2.length ∧ H p.1 = some ⟨.arr IK 3, (p.2.1, p.2.2)⟩
theorem GrAt.le {H H' : HP} {T : List GrT} (h : GrAt H T) (hl : H.le H') : GrAt H' T := ⟨h.nd, fun p hp => by obtain ⟨h1, h2, h3⟩ := h.at0 p hp; exact ⟨h1, h2, hl.get h3⟩⟩
theorem GrAt.new {H : HP} {T : List GrT} (h : GrAt H T) {n : Nat} (hn : H n = none) {s : Sl} {g : List Int} (h1 : s.a = some ⟨n, 0, none⟩) (h2 : s.len = g.length) : GrAt (H.set n (.arr IK 3) (s, g)) (T ++ [(n, s, g)]) := by
  have ne : ∀ p ∈ T, p.1 ≠ n := fun p hp e => by have := (h.at0 p hp).2.2; rw [e, hn] at this; cases this
  refine ⟨?_, fun p hp => ?_⟩
  · rw [List.map_append]
    refine List.nodup_append.2 ⟨h.nd, by simp, fun a ha b hb => ?_⟩
    obtain ⟨p, hp, rfl⟩ := List.mem_map.1 ha
    obtain rfl : b = n := by simpa using hb
    exact ne p hp
  · rcases List.mem_append.1 hp with hp | hp
    · obtain ⟨a, b, c⟩ := h.at0 p hp
      exact ⟨a, b, by rw [hp_ne (ne p hp)]; exact c⟩
    · obtain rfl : p = (n, s, g) := by simpa using hp
      exact ⟨h1, h2, hp_at _ _ _ _⟩
theorem GrAt.pop {H : HP} {T : List GrT} {p : GrT} (h : GrAt H (T ++ [p])) : GrAt (H.del p.1) T := by
  have nd := h.nd
  rw [List.map_append] at nd
  have nd := List.nodup_append.1 nd
  refine ⟨nd.1, fun q hq => ?_⟩
  obtain ⟨a, b, c⟩ := h.at0 q (List.mem_append_left _ hq)
  refine ⟨a, b, ?_⟩
  have : q.1 ≠ p.1 := nd.2.2 q.1 (List.mem_map_of_mem hq) p.1 (by simp)
  show (if q.1 = p.1 then none else H q.1) = _
  rw [if_neg this]; exact c
abbrev gSl (T : List GrT) : List Sl := T.map fun p => p.2.1
abbrev gIn (T : List GrT) : List (List Int) := T.map fun p => p.2.2
theorem late0 {r : Req} (h : r.kind ≠ 6) : lateI r = 0 := by unfold lateI; rw [if_neg h]
theorem late1 {r : Req} (h : r.kind = 6) : lateI r = 1 := by unfold lateI; rw [if_pos h]
theorem nil_or' (T : List GrT) : T = [] ∨ ∃ D g, T = D ++ [g] := by
  rcases List.eq_nil_or_concat T with h | ⟨D, g, h⟩
  · exact .inl h
  · exact .inr ⟨D, g, by rw [h, List.concat_eq_append]⟩
theorem nohp {H H' : HP} {n : Nat} (h : H.le H') (hn : H' n = none) : H n = none := by
  cases e : H n with
  | none => rfl
  | some o => have := h.get e; rw [hn] at this; cases this
theorem c_groups (l : List Req) (hl : l.length ≤ 1000) (H : HP) (K : HT [(false, .row (.one .sl))] → HP → Prop) (hk : ∀ H' T, H.le H' → GrAt H' T → gIn T = grpL l → K (gSl T, ()) H') : C67 l H K := callA67 _ _ _ (by
  unfold A67
  refine c_order l hl H _ ?_
  have lo : (ordL l).length = l.length := by rw [ordL, ordN_len]
  intro s H0 hp
  obtain ⟨p1, p2, p3, p4⟩ := hp
  have tk : ∃ H1, TakR IK 3 s H0 (ordL l) H1 ∧ H.le H1 := by
    rcases p4 with ⟨h5, h6, rfl⟩ | ⟨n, h5, h6, rfl⟩
    · exact ⟨H0, .inl ⟨h5, h6, rfl⟩, HP.le.refl _⟩
    · refine ⟨_, .inr ⟨n, h5, hp_at _ _ _ _, rfl⟩, fun m hm => ?_⟩
      have : m ≠ n := fun e => by rw [e, h6] at hm; cases hm
      show (if m = n then none else (H.set n _ _) m) = _
      rw [if_neg this, hp_ne this]
  obtain ⟨H1, tk, hle1⟩ := tk
  refine ⟨ordL l, H1, tk, lenA_i fun _ => ?_⟩
  rw [lo]
  refine loop_h l.length (fun i v H' => ∃ T, v = ((l, gSl T, ordL l, (l.length : Int), (i : Int), ()), ()) ∧ GrAt H' T ∧ gIn T = grpN l (ordL l) i ∧ H.le H' ∧ ∀ p ∈ T, H p.1 = none) ⟨[], rfl, ⟨by simp, by simp⟩, rfl, hle1, by simp⟩ ?_
  rintro i v H' C hi ⟨T, rfl, hT, eT, hle, hno⟩ hC
  dsimp only
  refine ifLt (fun h => ?_) fun h => ?_
  · obtain ⟨x, hx, hqx⟩ := ordL_at h
    have ok := grpN_ok (fun x hx => ordL_ok hx) i (l := l) (o := ordL l)
    have nx := hC h
    simp only [grpN_at hx] at nx
    rw [← eT] at ok nx
    obtain ⟨ix, ex, hrx⟩ := rq_nat hqx
    have lout := ok.len
    rw [List.length_map] at lout
    rw [w1 (by omega)]
    have add : gIn T ++ [[x]] = grp1 l (gIn T) x → pubA IK 3 [x] H' fun s H2 => appA (gSl T).length 1 24 (C ((l, gSl T ++ [s], ordL l, (l.length : Int), ((i + 1 : Nat) : Int), ()), ()) H2) := fun e => by
      refine pubA_r (by simp) fun s n hn hs => appA_i (by rw [List.length_map]; omega) ?_
      exact nx _ _ ⟨T ++ [(n, s, [x])], by simp, hT.new hn hs.at0 hs.len, by rw [← e]; simp, hle.trans (hp_le_new hn), fun p hp => (List.mem_append.1 hp).elim (hno p) fun hp => by obtain rfl : p = (n, s, [x]) := (by simpa using hp); exact nohp hle hn⟩
    refine ⟨by omega, by rw [lo]; omega, ?_⟩
    rw [Int.toNat_natCast]
    refine elA_i hx (lenA_i fun _ => ?_)
    rcases nil_or' T with rfl | ⟨D, p, rfl⟩
    · exact ifF rfl (add rfl)
    · obtain ⟨b, s1, g⟩ := p
      have eI : gIn (D ++ [(b, s1, g)]) = gIn D ++ [g] := by simp
      have eS : gSl (D ++ [(b, s1, g)]) = gSl D ++ [s1] := by simp
      rw [eI] at ok add nx
      rw [eS] at add ⊢
      have hg : g ≠ [] := ok.ne g (by simp)
      have hlg := ok.all g (by simp)
      have hqh : inQ l (g.headD 0) := ok.ok g (by simp) _ (hd_mem hg)
      obtain ⟨ih, eh, hrh⟩ := rq_nat hqh
      obtain ⟨a1, a2, a3⟩ := hT.at0 (b, s1, g) (by simp)
      dsimp only at a1 a2 a3
      rw [grp1_snoc] at nx add
      have hz := hd_at hg
      generalize g.headD 0 = hd at hqh eh hrh nx add hz
      rw [List.length_append, List.length_cons, List.length_nil] at lout
      have lD : (gSl D).length = D.length := List.length_map _
      have wD : IntKind.i64.wrap (((gSl D ++ [s1]).length : Nat) - 1) = (D.length : Int) := by rw [wI (by simp <;> omega) (by simp <;> omega)]; simp <;> omega
      rw [wD]
      have inD : ∀ {A : Nat → Prop}, A D.length → inA' (D.length : Int) (gSl D ++ [s1]).length A := fun {A} h => ⟨by omega, by simp <;> omega, by rw [Int.toNat_natCast]; exact h⟩
      have gD : (gSl D ++ [s1])[D.length]? = some s1 := by rw [← lD]; simp
      have no : joinQ l hd x = false → _ := fun h => add (by rw [if_neg (by rw [h]; simp)])
      unfold joinQ at no nx
      refine ifT (decide_eq_true (by omega)) (atA_g ex hrx (retA_i _ (c_late _) ?_))
      dsimp only
      by_cases h2 : (rq l x).kind = 6
      · refine ifF (by rw [late1 h2]; rfl) (no (by simp [h2]))
      refine ifT (by rw [late0 h2]; rfl) (inD (elA_i gD ?_))
      have hg0 : 0 < s1.len := by rw [a2]; exact List.length_pos_iff.2 hg
      refine arrA_r (i := 0) a1 rfl hg0 (ldE_r a3 hz (atA_g eh hrh (retA_i _ (c_late _) ?_)))
      dsimp only
      by_cases h1 : (rq l hd).kind = 6
      · refine ifF (by rw [late1 h1]; rfl) (no (by simp [h1]))
      refine ifT (by rw [late0 h1]; rfl) (atA_g ex hrx (retA_i _ (c_bequal _ _) ?_))
      dsimp only
      by_cases h3 : (rq l hd).key = (rq l x).key
      · refine ifT (decide_eq_true h3) (inD (elA_i gD ?_))
        refine ⟨g, _, .inr ⟨b, a1, a3, rfl⟩, appA_i (by omega) (pubA_r (by simp) fun s2 n hn hs => inD (elA_i gD ?_))⟩
        rw [if_pos (by simp [h1, h2, h3])] at nx
        have hb0 : H b = none := hno (b, s1, g) (by simp)
        have hle2 : H.le (H'.del b) := fun m hm => by
          have : m ≠ b := fun e => by rw [e, hb0] at hm; cases hm
          show (if m = b then none else H' m) = _
          rw [if_neg this]; exact hle m hm
        refine nx _ _ ⟨D ++ [(n, s2, g ++ [x])], ?_, hT.pop.new hn hs.at0 hs.len, by simp, hle2.trans (hp_le_new hn), fun p hp => (List.mem_append.1 hp).elim (fun hp => hno p (List.mem_append_left _ hp)) fun hp => by obtain rfl : p = (n, s2, g ++ [x]) := (by simpa using hp); exact nohp hle2 hn⟩
        rw [show List.set (gSl D ++ [s1]) D.length s2 = gSl D ++ [s2] from upd_mid lD.symm]
        simp
      · exact ifF (decide_eq_false h3) (no (by simp [h3]))
  · obtain rfl : i = l.length := by omega
    exact hk H' T hle hT eT)
end Go.Proofs.Ytalniaipgdbbcaa
