/-
  Ky: texts of ours, one behind the other: Tree8, Tree9, Tree10, Tree11, Tree12, Tree13.
-/
import Derived.Test.YtdglfbeddbcbpaaKx
import Derived.Test.YtdglfbeddbcbpaaRow1
import Derived.Test.YtdglfbeddbcbpaaDlook
import Derived.Test.YtdglfbeddbcbpaaDsound
import Derived.Test.YtdglfbeddbcbpaaKt
import Derived.Test.YtdglfbeddbcbpaaKd
set_option linter.unusedSimpArgs false
set_option linter.unusedVariables false
namespace Go.Proofs.Ytdglfbeddbcbpaa
open Go Go.Gp Go.Ga Go.Th
abbrev LKk : AK := .cons .ref (.cons (.own (.one (.int .i64)) 3) (.cons (.own (.one (.int .i64)) 3) (.cons (.own (.cons (.row .byte) (.row .byte)) 43) (.cons (.one (.int .i64)) (.cons (.one (.int .i64)) (.one .bool))))))
abbrev LFk : AK := .cons .ref (.cons (.row (.one (.int .i64))) (.cons (.row (.one (.int .i64))) (.cons (.row (.cons (.row .byte) (.row .byte))) (.cons (.one (.int .i64)) (.cons (.one (.int .i64)) (.one .bool))))))
theorem JoinA_r {V : Type} {B : V → HP → Prop} {A : (V → HP → Prop) → Prop} (P : V → HP → Prop) (h : ∀ v H, P v H → B v H) (hA : (∀ v H, P v H → B v H) → A B) : JoinA B A := hA h
theorem both {A B C : Prop} {c : Bool} (h : C) (h1 : C → A) (h2 : C → B) : ifB c A B := by cases c with
  | true => exact h1 h
  | false => exact h2 h
theorem ne_LT {H : HP} {x t : Nat} {a : LKk.T} {b : TRk.T} (hx : H x = some ⟨LKk, a⟩) (ht : H t = some ⟨TRk, b⟩) : x ≠ t := fun e => by
  subst e; rw [hx] at ht; injection ht with ht; injection ht with h1; injection h1 with _ h1; cases h1
theorem ne_LA {H : HP} {x t : Nat} {a : LKk.T} {b : ARk.T} (hx : H x = some ⟨LKk, a⟩) (ht : H t = some ⟨ARk, b⟩) : x ≠ t := fun e => by
  subst e; rw [hx] at ht; injection ht with ht; injection ht with h1; injection h1 with h1; cases h1
section
variable {H : HP} {x t n o : Nat} {root many : Int} {lv nx : List Int} {ps : List Pr} {nodes D d : Int}
theorem c_lkleaf (hx : H x = some ⟨LKk, (some t, lv, nx, ps, nodes, D, false)⟩) (ht : H t = some ⟨TRk, (some n, root, (o : Int), many)⟩) (hD : D = 0 ∨ D = d) (ho : o ≤ 1000) (i : Int) (y : Nd) (r : Key × Key)
    (hrow : IsRow y.2.1) (hlen : y.2.1.length ≤ o) (hmin : i = root ∨ o / 2 ≤ y.2.1.length) (hin : ∀ p ∈ y.2.1, inR r.1 r.2 p.1 = true) (hb1 : lv.length ≤ 1000000) (hb2 : nx.length ≤ 1000000) (hb3 : ps.length ≤ 1000000)
    {K : HT [] → HP → Prop} (hk : K () (H.set x LKk (some t, lv ++ [i], nx ++ [y.2.2.2.2], ps ++ y.2.1, nodes, d, false))) : C97 (some x) i y r d H K := callA97 _ _ _ _ _ _ _ (by
  obtain ⟨lf, qs, ks, kd, nxt⟩ := y
  obtain ⟨lo, hi⟩ := r
  dsimp only at hrow hlen hmin hin hk
  have hne := ne_LT hx ht
  unfold A97
  refine JoinA_r (fun v H1 => v = ((some x, i, d, (), (), ()), (lf, qs, ks, kd, nxt, ()), (lo, hi, ()), ()) ∧ H1 = H.set x LKk (some t, lv, nx, ps, nodes, d, false)) ?_ fun hB => ?_
  · rintro v H1 ⟨rfl, rfl⟩
    have hx1 := set_eq H x LKk (some t, lv, nx, ps, nodes, d, false)
    have ht1 : (H.set x LKk (some t, lv, nx, ps, nodes, d, false)) t = some ⟨TRk, (some n, root, (o : Int), many)⟩ := by rw [set_ne _ _ _ hne.symm]; exact ht
    dsimp only
    refine retA_i _ (c_ris qs) ?_
    rw [isRowB_iff.2 hrow]
    refine JoinA_r (fun v H1 => v = ((some x, i, d, (), (), true, false, ()), (lf, qs, ks, kd, nxt, ()), (lo, hi, ()), ()) ∧ H1 = H.set x LKk (some t, lv, nx, ps, nodes, d, false)) ?_ fun hB => ?_
    · rintro v H1 ⟨rfl, rfl⟩
      dsimp only
      refine JoinA_r (fun v H1 => v = ((some x, i, (), (), ()), (lf, qs, ks, kd, nxt, ()), (lo, hi, ()), ()) ∧ H1 = H.set x LKk (some t, lv, nx, ps, nodes, d, false)) ?_ fun hB => ?_
      · rintro v H1 ⟨rfl, rfl⟩
        dsimp only
        refine loop_n qs.length (fun j => ((some x, i, (), (), (j : Int), ()), (lf, qs, ks, kd, nxt, ()), (lo, hi, ()), ())) (fun _ => True) rfl trivial fun j C hj _ hC => ?_
        dsimp only at hC ⊢
        refine lenA_i fun _ => ifLt (fun h1 => ?_) fun h1 => ?_
        · refine atA_lt h1 (retA_i _ (c_rin (lo, hi) _) (refA_i (ldO_i hx1 (ifF rfl (refA_i (ldO_i hx1 ?_))))))
          dsimp only
          rw [hin _ (List.getElem_mem h1), set_set, w1 (by omega)]
          exact hC h1 trivial
        · refine refA_i (ldO_i hx1 (appA_i (by dsimp only; omega) (appA_i (by dsimp only; omega) (appA_i (by dsimp only; omega) ?_))))
          rw [delset, set_set]
          exact hk
      · refine refA_i (ldO_i hx1 (ifF rfl (ifF rfl (ifF rfl (refA_i (ldO_i hx1 (refA_i (ldO_i hx1 ?_))))))))
        have e : ((d : Int) != d) = false := by simp
        rw [set_set, e]
        exact hB _ _ ⟨rfl, rfl⟩
    · refine lenA_i fun _ => refA_i (ldO_i hx1 (refA_i (ldO_i ht1 (ifGt (fun h => ?_) fun h => ?_))))
      · omega
      · refine refA_i (ldO_i hx1 (refA_i (ldO_i ht1 ?_)))
        refine ifN (fun hne => ?_) fun he => hB _ _ ⟨rfl, rfl⟩
        have hh : o / 2 ≤ qs.length := by
          rcases hmin with h | h
          · exact absurd h hne
          · exact h
        refine lenA_i fun _ => refA_i (ldO_i hx1 (refA_i (ldO_i ht1 ⟨by decide, ?_⟩)))
        dsimp only
        rw [Int.tdiv_eq_ediv_of_nonneg (by omega), w64 (by omega) (by omega), decide_eq_false (by omega)]
        exact hB _ _ ⟨rfl, rfl⟩
  · refine refA_i (ldO_i hx (ifE (fun h => ?_) fun h => ?_))
    · exact refA_i (ldO_i hx (hB _ _ ⟨rfl, rfl⟩))
    · rcases hD with rfl | rfl
      · exact absurd rfl h
      · exact hB _ _ ⟨rfl, (set_back hx).symm⟩)
end
end Go.Proofs.Ytdglfbeddbcbpaa
set_option linter.unusedSimpArgs false
set_option linter.unusedVariables false
namespace Go.Proofs.Ytdglfbeddbcbpaa
open Go Go.Gp Go.Ga Go.Th
def lvI (l : List (Nat × List Pr)) : List Int := l.map fun a => (a.1 : Int)
def lvN (f : Nat → Option Nd) (l : List (Nat × List Pr)) : List Int := l.map fun a => nxt f a.1
def lkS (t : Nat) (f : Nat → Option Nd) (lv nx : List Int) (ps : List Pr) (nodes D : Int) (l : List (Nat × List Pr)) (m : Nat) : LKk.T := (some t, lv ++ lvI l, nx ++ lvN f l, ps ++ l.flatMap (·.2), nodes + m, D, false)
theorem both' {A B C : Prop} {c : Bool} (h1 : c = true → C → A) (h2 : C → B) (h : C) : ifB c A B := by cases c with
  | true => exact h1 rfl h
  | false => exact h2 h
theorem c_node {t n u o : Nat} {root many : Int} {v : ARt} {f : Nat → Option Nd} (ha : Ar v f u) (h3 : 3 ≤ o) (h16 : o ≤ 16) : ∀ {h : Nat} {H : HP} {x : Nat} {lv nx : List Int} {ps : List Pr} {nodes D d : Int} {lo : Nat} (s : Tr h) (r : Key × Key)
    (_ : H x = some ⟨LKk, (some t, lv, nx, ps, nodes, D, false)⟩) (_ : H t = some ⟨TRk, (some n, root, (o : Int), many)⟩) (_ : H n = some ⟨ARk, v⟩) (_ : Rep f s) (_ : Sz o lo o s) (_ : (s.id : Int) = root ∨ o / 2 ≤ s.size) (_ : h = 0 ∨ 1 ≤ s.size)
    (_ : Th.Ord (fl s)) (_ : ∀ y ∈ fl s, InIt r.1 r.2 y ∧ ItOk y) (_ : r.1.length ≤ 16) (_ : r.2.length ≤ 16) (_ : D = 0 ∨ D = d + h) (_ : 1 ≤ d) (_ : d + h ≤ 20) (_ : 0 ≤ nodes) (_ : nodes + (ids s).length ≤ 3000)
    (_ : lv.length + (lvs s).length ≤ 100000) (_ : nx.length + (lvs s).length ≤ 100000) (_ : ps.length + (allP s).length ≤ 100000)
    {K : HT [] → HP → Prop} (_ : K () (H.set x LKk (lkS t f lv nx ps nodes (d + h) (lvs s) (ids s).length))), C72 (some x) (s.id : Int) r d H K := by
  intro h
  induction h with
  | zero =>
    intro H x lv nx ps nodes D d lo s r hx ht hn hr hz hroot hone ho hin hr1 hr2 hD hd1 hd2 hn0 hn1 hb1 hb2 hb3 K hk
    obtain ⟨i, qs, rfl⟩ := s.ex0
    obtain ⟨ks, kd, nxx, hf⟩ := rep_lf.1 hr
    have hne := ne_LT hx ht
    have hne2 := ne_LA hx hn
    refine callA72 _ _ _ _ _ _ ?_
    unfold A72
    refine refA_i (ldO_i hx (refA_i (ldO_i ht (g_get hn ha hf (refA_i (ldO_i hx (refA_i (ldO_i hx ?_))))))))
    have hx1 := set_eq H x LKk (some t, lv, nx, ps, nodes + 1, D, false)
    have ht1 : (H.set x LKk (some t, lv, nx, ps, nodes + 1, D, false)) t = some ⟨TRk, (some n, root, (o : Int), many)⟩ := by rw [set_ne _ _ _ hne.symm]; exact ht
    simp only [ids_lf, List.length_singleton, lvs_lf, allP_lf] at hn1 hb1 hb2 hb3
    have hw : IntKind.i64.wrap (nodes + 1) = nodes + 1 := w64 (by omega) (by omega)
    refine JoinA_r (fun v' H1 => v' = ((some x, (i : Int), d, (), (), ()), (r.1, r.2, ()), (true, qs, ks, kd, nxx, ()), ()) ∧ H1 = H.set x LKk (some t, lv, nx, ps, nodes + 1, D, false)) ?_ fun hB => ?_
    · rintro v' H1 ⟨rfl, rfl⟩
      dsimp only
      refine refA_i (ldO_i hx1 (ifF rfl (ifT rfl ?_)))
      have hrow : IsRow qs := by
        have := row_prs ho fun y hy => (hin y hy).2
        rwa [fl_lf, prs_map] at this
      refine c_lkleaf hx1 ht1 (d := d) (by simpa using hD) (by omega) _ (true, qs, ks, kd, nxx) (r.1, r.2) hrow (sz_lf.1 hz).2 ?_ (fun p hp => (hin (.p p) (List.mem_map.2 ⟨p, hp, rfl⟩)).1) (by omega) (by omega) (by omega) ?_
      · exact hroot
      · rw [set_set]
        have e : nxt f i = nxx := by unfold nxt; rw [hf]
        have e2 : lkS t f lv nx ps nodes (d + ((0 : Nat) : Int)) (lvs (Tr.lf i qs)) (ids (Tr.lf i qs)).length = (some t, lv ++ [(i : Int)], nx ++ [nxx], ps ++ qs, nodes + 1, d, false) := by
          unfold lkS lvI lvN
          simp [e]
        rw [e2] at hk
        exact hk
    · refine JoinA_r (fun v' H1 => v' = ((some x, (i : Int), d, (), (), false, ()), (r.1, r.2, ()), (true, qs, ks, kd, nxx, ()), ()) ∧ H1 = H.set x LKk (some t, lv, nx, ps, nodes + 1, D, false)) ?_ fun hB2 => ?_
      · rintro v' H1 ⟨rfl, rfl⟩
        exact ifF rfl (hB _ _ ⟨rfl, rfl⟩)
      · dsimp only
        rw [hw]
        refine ifNot (fun h => by cases h) fun _ => ifD (fun h => by have h : d > 20 := h; omega) fun h => refA_i (ldO_i hx1 ?_)
        dsimp only
        rw [decide_eq_false (by omega)]
        exact hB2 _ _ ⟨rfl, rfl⟩
  | succ h ih =>
    intro H x lv nx ps nodes D d lo s r hx ht hn hr hz hroot hone ho hin hr1 hr2 hD hd1 hd2 hn0 hn1 hb1 hb2 hb3 K hk
    obtain ⟨i, ks, l, rfl⟩ := s.exS
    obtain ⟨⟨ps0, nxx, hf⟩, hrk⟩ := rep_nd.1 hr
    obtain ⟨z1, z2, z3, z4⟩ := sz_nd.1 hz
    have hne := ne_LT hx ht
    have hne2 := ne_LA hx hn
    have hks1 : 1 ≤ ks.length := by
      rcases hone with h | h
      · omega
      · exact h
    refine callA72 _ _ _ _ _ _ ?_
    unfold A72
    refine refA_i (ldO_i hx (refA_i (ldO_i ht (g_get hn ha hf (refA_i (ldO_i hx (refA_i (ldO_i hx ?_))))))))
    have hids : (ids (Tr.nd i ks l)).length = 1 + ((l.map ids).flatten).length := by rw [ids_nd, List.length_cons]; omega
    rw [hids] at hn1
    have hlv : lvs (Tr.nd i ks l) = (l.map lvs).flatten := lvs_nd _ _ _
    have hw : IntKind.i64.wrap (nodes + 1) = nodes + 1 := w64 (by omega) (by omega)
    have hx1 := set_eq H x LKk (some t, lv, nx, ps, nodes + 1, D, false)
    have ht1 : (H.set x LKk (some t, lv, nx, ps, nodes + 1, D, false)) t = some ⟨TRk, (some n, root, (o : Int), many)⟩ := by rw [set_ne _ _ _ hne.symm]; exact ht
    refine JoinA_r (fun v' H1 => v' = ((some x, (i : Int), d, (), (), ()), (r.1, r.2, ()), (false, ps0, ks, l.map (fun k => (k.id : Int)), nxx, ()), ()) ∧ H1 = H.set x LKk (some t, lv, nx, ps, nodes + 1, D, false)) ?_ fun hB => ?_
    · rintro v' H1 ⟨rfl, rfl⟩
      dsimp only
      refine refA_i (ldO_i hx1 (ifF rfl (ifF rfl (lenA_i fun _ => ifD (fun h => by omega) fun _ => refA_i (ldO_i hx1 (refA_i (ldO_i ht1 (ifGt (fun h => by omega) fun _ => refA_i (ldO_i hx1 (refA_i (ldO_i ht1 ?_)))))))))))
      refine both' (fun hb hc => ?_) (fun hc => hc) ?_
      · refine refA_i (ldO_i hx1 (refA_i (ldO_i ht1 ⟨by decide, ifD (fun h => ?_) fun _ => hc⟩)))
        exfalso
        have hsz : o / 2 ≤ ks.length := by
          rcases hroot with h' | h'
          · have h' : (i : Int) = root := h'
            have hb : ((i : Int) != root) = true := hb
            rw [h'] at hb; simp at hb
          · exact h'
        dsimp only at h
        rw [Int.tdiv_eq_ediv_of_nonneg (by omega), w64 (by omega) (by omega)] at h
        omega
      refine lenA_i fun _ => ifN (fun h => ?_) fun _ => ?_
      · exfalso
        rw [w1 (by omega), List.length_map] at h
        omega
      have hord : Th.Ord (inter ks (l.map fl)) := ho
      let Lj : Nat → List (Nat × List Pr) := fun j => ((l.take j).map lvs).flatten
      let Nj : Nat → Nat := fun j => 1 + (((l.take j).map ids).flatten).length
      have stepL : ∀ j (hj : j < l.length), Lj (j + 1) = Lj j ++ lvs l[j] := fun j hj => by
        show ((l.take (j + 1)).map lvs).flatten = ((l.take j).map lvs).flatten ++ lvs l[j]
        rw [take_snoc hj, List.map_append, List.flatten_append]
        congr 1
        exact List.append_nil _
      have stepN : ∀ j (hj : j < l.length), Nj (j + 1) = Nj j + (ids l[j]).length := fun j hj => by
        show 1 + (((l.take (j + 1)).map ids).flatten).length = 1 + (((l.take j).map ids).flatten).length + (ids l[j]).length
        rw [take_snoc hj, List.map_append, List.flatten_append, List.length_append]
        have : (([l[j]].map ids).flatten).length = (ids l[j]).length := congrArg List.length (List.append_nil _)
        omega
      have sumL : ∀ j, (Lj j).length ≤ (lvs (Tr.nd i ks l)).length ∧ (((Lj j).flatMap (·.2)).length ≤ (allP (Tr.nd i ks l)).length) := fun j => by
        have e : lvs (Tr.nd i ks l) = Lj j ++ ((l.drop j).map lvs).flatten := by
          rw [hlv]; show _ = ((l.take j).map lvs).flatten ++ _
          rw [← List.flatten_append, ← List.map_append, List.take_append_drop]
        refine ⟨by rw [e, List.length_append]; omega, ?_⟩
        show _ ≤ ((lvs (Tr.nd i ks l)).flatMap (·.2)).length
        rw [e, List.flatMap_append, List.length_append]; omega
      have sumN : ∀ j, Nj j ≤ 1 + ((l.map ids).flatten).length := fun j => by
        have e : (l.map ids).flatten = ((l.take j).map ids).flatten ++ ((l.drop j).map ids).flatten := by
          rw [← List.flatten_append, ← List.map_append, List.take_append_drop]
        show 1 + _ ≤ _
        rw [e, List.length_append]; omega
      let Dj : Nat → Int := fun j => if j = 0 then D else d + ((h + 1 : Nat) : Int)
      let Hj : Nat → HP := fun j => H.set x LKk (lkS t f lv nx ps nodes (Dj j) (Lj j) (Nj j))
      have hH0 : Hj 0 = H.set x LKk (some t, lv, nx, ps, nodes + 1, D, false) := by
        show H.set x LKk _ = _
        unfold lkS lvI lvN
        simp [Lj, Nj, Dj]
      rw [← hH0]
      refine loop_h l.length (fun j v' H' => v' = ((some x, d, (), (), (ks.length : Int), (j : Int), ()), (r.1, r.2, ()), (false, ps0, ks, l.map (fun k => (k.id : Int)), nxx, ()), ()) ∧ H' = Hj j) ⟨rfl, rfl⟩ ?_
      rintro j v' H' C hj ⟨rfl, rfl⟩ hC
      have hxj : Hj j x = some ⟨LKk, lkS t f lv nx ps nodes (Dj j) (Lj j) (Nj j)⟩ := set_eq _ _ _ _
      have htj : Hj j t = some ⟨TRk, (some n, root, (o : Int), many)⟩ := by show H.set _ _ _ t = _; rw [set_ne _ _ _ hne.symm]; exact ht
      have hnj : Hj j n = some ⟨ARk, v⟩ := by show H.set _ _ _ n = _; rw [set_ne _ _ _ hne2.symm]; exact hn
      dsimp only at hC ⊢
      rcases Nat.lt_or_ge j l.length with hlt | hge
      · refine ifT (decide_eq_true (by omega)) ?_
        obtain ⟨g1, g2, g3⟩ := kid_range (ls := l.map fl) (lo := r.1) (hi := r.2) (by rw [List.length_map]; exact z3) hord hin hr1 hr2 (j := j) (by rw [List.length_map]; exact hlt) hks1
        obtain ⟨g4, g5, _⟩ := soundR_iff.1 g1
        rw [List.getElem_map] at g3
        refine JoinA_r (fun v' H1 => v' = ((some x, d, (), (), (ks.length : Int), (j : Int), (), ()), (r.1, r.2, ()), (false, ps0, ks, l.map (fun k => (k.id : Int)), nxx, ()), (loK ks r.1 j, r.2, ()), ()) ∧ H1 = Hj j) ?_ fun hB => ?_
        · rintro v' H1 ⟨rfl, rfl⟩
          refine JoinA_r (fun v' H1 => v' = ((some x, d, (), (), (ks.length : Int), (j : Int), (), ()), (r.1, r.2, ()), (false, ps0, ks, l.map (fun k => (k.id : Int)), nxx, ()), (loK ks r.1 j, hiK ks r.2 j, ()), ()) ∧ H1 = Hj j) ?_ fun hB => ?_
          · rintro v' H1 ⟨rfl, rfl⟩
            dsimp only
            refine retA_i _ (c_rsound _) ?_
            dsimp only
            rw [g1]
            refine ifF rfl (both' (fun hb hc => ?_) (fun hc => hc) ?_)
            · have hjk : j < ks.length := by simp only [decide_eq_true_eq] at hb; omega
              refine lenA_i fun _ => ifE (fun h => ?_) fun _ => hc
              exfalso
              have := g2 hjk
              cases hc : hiK ks r.2 j with
              | nil => exact this hc
              | cons a b => rw [hc] at h; simp at h; omega
            refine atA_g (i := j) rfl (x := (l[j].id : Int)) (by rw [List.getElem?_map, List.getElem?_eq_getElem hlt]; rfl) ?_
            rw [show IntKind.i64.wrap (d + 1) = d + 1 from w64 (by omega) (by omega)]
            have hzk := z4 _ (List.getElem_mem hlt)
            have s1 := sumL (j + 1)
            have s2 := sumN (j + 1)
            rw [stepL j hlt, List.length_append, List.flatMap_append, List.length_append] at s1
            rw [stepN j hlt] at s2
            have eall : allP l[j] = (lvs l[j]).flatMap (·.2) := rfl
            have hNj : Nj j = 1 + (((l.take j).map ids).flatten).length := rfl
            refine ih (d := d + 1) l[j] (loK ks r.1 j, hiK ks r.2 j) hxj htj hnj (hrk _ (List.getElem_mem hlt)) hzk (.inr hzk.size.1) ?_ ?_ (fun y hy => ⟨g3 y hy, (hin y ((inter_sub (List.mem_map.2 ⟨_, List.getElem_mem hlt, rfl⟩)).subset hy)).2⟩) g4 g5 ?_ (by omega) (by omega) (by omega) (by omega) ?_ ?_ ?_ ?_
            · rcases Nat.eq_zero_or_pos h with h' | h'
              · exact .inl h'
              · have := hzk.size.1; right; omega
            · exact List.Pairwise.sublist (inter_sub (List.mem_map.2 ⟨_, List.getElem_mem hlt, rfl⟩)) hord
            · show Dj j = 0 ∨ Dj j = _
              simp only [Dj]
              split
              · rcases hD with hD | hD
                · exact .inl hD
                · right; rw [hD]; omega
              · right; omega
            · rw [List.length_append, lvI, List.length_map]; omega
            · rw [List.length_append, lvN, List.length_map]; omega
            · rw [List.length_append, eall]; omega
            · have e : (Hj j).set x LKk (lkS t f (lv ++ lvI (Lj j)) (nx ++ lvN f (Lj j)) (ps ++ (Lj j).flatMap (·.2)) (nodes + (Nj j : Nat)) (d + 1 + (h : Int)) (lvs l[j]) (ids l[j]).length) = Hj (j + 1) := by
                show (H.set x LKk _).set x LKk _ = H.set x LKk _
                rw [set_set]
                congr 1
                rw [stepL j hlt, stepN j hlt]
                unfold lkS lvI lvN
                simp only [List.map_append, List.flatMap_append, List.append_assoc, Dj]
                rw [if_neg (by omega)]
                have a1 : nodes + (Nj j : Int) + ((ids l[j]).length : Int) = nodes + ((Nj j + (ids l[j]).length : Nat) : Int) := by omega
                have a2 : d + 1 + (h : Int) = d + ((h + 1 : Nat) : Int) := by omega
                rw [a1, a2]
              rw [e, w1 (by omega)]
              exact hC (by omega) _ _ ⟨rfl, rfl⟩
          · dsimp only
            refine ifD (fun hb => ?_) fun hb => ?_
            · have hjk : j < ks.length := by omega
              refine atA_lt hjk ?_
              have e : hiK ks r.2 j = ks[j] := by unfold hiK; rw [if_pos hjk, List.getD_eq_getElem?_getD, List.getElem?_eq_getElem hjk]; rfl
              rw [← e]
              exact hB _ _ ⟨rfl, rfl⟩
            · have e : hiK ks r.2 j = r.2 := by unfold hiK; rw [if_neg (by omega)]
              have := hB ((some x, d, (), (), (ks.length : Int), (j : Int), (), ()), (r.1, r.2, ()), (false, ps0, ks, l.map (fun k => (k.id : Int)), nxx, ()), (loK ks r.1 j, hiK ks r.2 j, ()), ()) _ ⟨rfl, rfl⟩
              rw [e] at this
              exact this
        · refine ifD (fun hb => ?_) fun hb => ?_
          · have hj0 : 0 < j := by omega
            have e : loK ks r.1 j = ks[j - 1]'(by omega) := by unfold loK; rw [if_pos hj0, List.getD_eq_getElem?_getD, List.getElem?_eq_getElem (by omega)]; rfl
            refine atA_z (i := j - 1) (by rw [w64 (by omega) (by omega)]; omega) (by omega) ?_
            rw [← e]
            exact hB _ _ ⟨rfl, rfl⟩
          · have e : loK ks r.1 j = r.1 := by unfold loK; rw [if_neg (by omega)]
            have := hB ((some x, d, (), (), (ks.length : Int), (j : Int), (), ()), (r.1, r.2, ()), (false, ps0, ks, l.map (fun k => (k.id : Int)), nxx, ()), (loK ks r.1 j, r.2, ()), ()) _ ⟨rfl, rfl⟩
            rw [e] at this
            exact this
      · refine ifF (decide_eq_false (by omega)) ?_
        have hjl : j = l.length := by omega
        subst hjl
        have e : Hj l.length = H.set x LKk (lkS t f lv nx ps nodes (d + ((h + 1 : Nat) : Int)) (lvs (Tr.nd i ks l)) (ids (Tr.nd i ks l)).length) := by
          show H.set x LKk (lkS t f lv nx ps nodes (Dj l.length) (Lj l.length) (Nj l.length)) = _
          have e1 : Dj l.length = d + ((h + 1 : Nat) : Int) := by simp only [Dj]; rw [if_neg (by omega)]
          have e2 : Lj l.length = lvs (Tr.nd i ks l) := by simp only [Lj]; rw [List.take_length, hlv]
          have e3 : Nj l.length = (ids (Tr.nd i ks l)).length := by simp only [Nj]; rw [List.take_length, hids]
          rw [e1, e2, e3]
        rw [e]
        exact hk
    · refine JoinA_r (fun v' H1 => v' = ((some x, (i : Int), d, (), (), false, ()), (r.1, r.2, ()), (false, ps0, ks, l.map (fun k => (k.id : Int)), nxx, ()), ()) ∧ H1 = H.set x LKk (some t, lv, nx, ps, nodes + 1, D, false)) ?_ fun hB2 => ?_
      · rintro v' H1 ⟨rfl, rfl⟩
        exact ifF rfl (hB _ _ ⟨rfl, rfl⟩)
      · dsimp only
        rw [hw]
        refine ifNot (fun h => by cases h) fun _ => ifD (fun h => by have h : d > 20 := h; omega) fun h => refA_i (ldO_i hx1 ?_)
        dsimp only
        rw [decide_eq_false (by omega)]
        exact hB2 _ _ ⟨rfl, rfl⟩
end Go.Proofs.Ytdglfbeddbcbpaa
set_option linter.unusedSimpArgs false
set_option linter.unusedVariables false
namespace Go.Proofs.Ytdglfbeddbcbpaa
open Go Go.Gp Go.Ga Go.Th
section
variable {H : HP} {t n u o : Nat} {many : Int} {v : ARt} {f : Nat → Option Nd} {hh : Nat} {T : Tr hh}
theorem c_used (hn : H n = some ⟨ARk, v⟩) (ha : Ar v f u) {K : HT [(false, .one (.int .i64))] → HP → Prop} (hk : K ((u : Int), ()) H) : C53 (some n) H K := by
  obtain ⟨l, th, fr⟩ := v
  have h1 := ha.used
  have h2 := ha.big
  simp only at h1 h2
  refine c_aused hn (by omega) (by omega) K ?_
  have e : (l.length : Int) - fr.length = u := by omega
  rw [e]; exact hk
theorem seg_at {f : Nat → Option Nod} {l : List (Nat × List Pr)} {e : Int} (h : Seg f l e) {i : Nat} {a : Nat × List Pr} (hi : l[i]? = some a) : nxt f a.1 = hd (l.drop (i + 1)) e := by
  have hlt := (List.getElem?_eq_some_iff.1 hi).1
  have e1 := mem_split hlt
  rw [e1, seg_app] at h
  have h5 := h.2.1
  rw [(List.getElem?_eq_some_iff.1 hi).2] at h5
  exact h5
theorem lv_le {o : Nat} (h2 : 2 ≤ o) {h lo hi : Nat} {t : Tr h} (hz : Sz o lo hi t) (hl : h = 0 ∨ 1 ≤ lo) : (lvs t).length ≤ (ids t).length := by
  have : ∀ {h : Nat} (t : Tr h), (lvs t).length ≤ (ids t).length := by
    intro h
    induction h with
    | zero => intro t; obtain ⟨i, ps, rfl⟩ := t.ex0; simp
    | succ h ih =>
      intro t
      obtain ⟨i, ks, l, rfl⟩ := t.exS
      rw [ids_nd, lvs_nd, List.length_cons]
      induction l with
      | nil => simp
      | cons x l ih2 =>
        have := ih x
        simp only [List.map_cons, List.flatten_cons, List.length_append]
        omega
  exact this t
theorem c_tsound (h : TI H t n o many T v f u) (hm : many = ((allP T).length : Int)) (h3 : 3 ≤ o) (h16 : o ≤ 16) (hb : (allP T).length ≤ 1000) {K : HT [(false, .ref), (false, .one .bool)] → HP → Prop}
    (hk : ∀ x lv nx, H x = none → K (some x, true, ()) (H.set x LFk (some t, lv, nx, allP T, ((ids T).length : Int), ((hh + 1 : Nat) : Int), false))) : C33 (some t) H K := callA33 _ _ _ (by
  unfold A33
  have h9 := high9 (by omega) h.sz (by omega)
  have hcnt := h.cnt h3
  rw [h.mid.used] at hcnt
  have hlo : hh = 0 ∨ 1 ≤ ((.top : Ctx hh hh).lo o) := (lo_pos _ h3).symm
  have hlv := lv_le (by omega) h.sz hlo
  refine ifF rfl (refA_i (ldO_i h.ht (ifF rfl ?_)))
  intro x hx
  have hne : x ≠ t := fun e => by rw [e, h.ht] at hx; cases hx
  have hne2 : x ≠ n := fun e => by rw [e, h.hn] at hx; cases hx
  have ht1 : (H.set x LKk (some t, [], [], [], 0, 0, false)) t = some ⟨TRk, (some n, (T.id : Int), (o : Int), many)⟩ := by rw [set_ne _ _ _ hne.symm]; exact h.ht
  have hn1 : (H.set x LKk (some t, [], [], [], 0, 0, false)) n = some ⟨ARk, v⟩ := by rw [set_ne _ _ _ hne2.symm]; exact h.hn
  refine refA_i (ldO_i ht1 ?_)
  refine c_node h.ar h3 h16 (D := 0) (d := 1) T ([], []) (set_eq _ _ _ _) ht1 hn1 h.mid.rep h.sz (.inl rfl) (hlo.imp id fun hl => Nat.le_trans hl h.sz.size.1) h.mid.ord (fun y hy => ⟨?_, h.mid.ok y hy⟩) (by simp) (by simp) (.inl rfl) (by omega) (by omega) (by omega) (by first | omega | (simp only [List.length_nil]; omega)) (by first | omega | (simp only [List.length_nil]; omega)) (by first | omega | (simp only [List.length_nil]; omega)) (by first | omega | (simp only [List.length_nil]; omega)) ?_
  · have := h.mid.ok y hy
    cases y with
    | p a =>
      refine inR_iff.2 ⟨less_nil_r _, .inl rfl⟩
    | s k => exact ⟨less_nil_l (may_ne this), .inl rfl⟩
  refine ⟨rfl, ldO_i (x := lkS t f [] [] [] 0 (1 + (hh : Int)) (lvs T) (ids T).length) (set_eq _ _ _ _) ?_⟩
  rw [set_set, delset, set_set]
  have e0 : lkS t f [] [] [] 0 (1 + (hh : Int)) (lvs T) (ids T).length = (some t, lvI (lvs T), lvN f (lvs T), allP T, ((ids T).length : Int), ((hh + 1 : Nat) : Int), false) := by
    unfold lkS
    rw [show (1 + (hh : Int)) = ((hh + 1 : Nat) : Int) from by omega]
    simp [allP]
  rw [e0]
  dsimp only
  have hxx := set_eq H x LFk (some t, lvI (lvs T), lvN f (lvs T), allP T, ((ids T).length : Int), ((hh + 1 : Nat) : Int), false)
  have htt : (H.set x LFk (some t, lvI (lvs T), lvN f (lvs T), allP T, ((ids T).length : Int), ((hh + 1 : Nat) : Int), false)) t = some ⟨TRk, (some n, (T.id : Int), (o : Int), many)⟩ := by rw [set_ne _ _ _ hne.symm]; exact h.ht
  have hnn : (H.set x LFk (some t, lvI (lvs T), lvN f (lvs T), allP T, ((ids T).length : Int), ((hh + 1 : Nat) : Int), false)) n = some ⟨ARk, v⟩ := by rw [set_ne _ _ _ hne2.symm]; exact h.hn
  refine ldO_i hxx (ifF rfl ?_)
  have hlI : (lvI (lvs T)).length = (lvs T).length := by unfold lvI; rw [List.length_map]
  have hlN : (lvN f (lvs T)).length = (lvs T).length := by unfold lvN; rw [List.length_map]
  refine loop_n (lvs T).length (fun i => ((some t, x, (i : Int), ()), ())) (fun _ => True) rfl trivial fun i C hi _ hC => ?_
  dsimp only at hC ⊢
  refine ldO_i hxx (lenA_i fun _ => ?_)
  dsimp only
  rw [hlI]
  refine ifLt (fun h1 => ?_) fun h1 => ?_
  · have hC := hC h1 trivial
    have hx1 := List.getElem?_eq_getElem h1
    have hnx := seg_at h.mid.seg hx1
    have hN : (lvN f (lvs T))[i]? = some (hd ((lvs T).drop (i + 1)) (-1)) := by
      unfold lvN; rw [List.getElem?_map, hx1, ← hnx]; rfl
    refine ldO_i hxx (lenA_i fun _ => ?_)
    dsimp only
    rw [hlI, w1 (by omega)]
    refine ifLt (fun h2 => ?_) fun h2 => ?_
    · have hx2 := List.getElem?_eq_getElem h2
      refine ldO_i hxx (atA_g (i := i + 1) rfl (x := ((lvs T)[i + 1].1 : Int)) (by unfold lvI; rw [List.getElem?_map, hx2]; rfl) (ldO_i hxx (atA_g rfl hN ?_)))
      have e : hd ((lvs T).drop (i + 1)) (-1) = ((lvs T)[i + 1].1 : Int) := by rw [← List.getElem_cons_drop h2]; rfl
      rw [e]
      exact ifF (by simp) hC
    · refine ldO_i hxx (atA_g rfl hN ?_)
      rw [List.drop_eq_nil_of_le h2]
      exact ifF (by simp [hd]) hC
  · refine ldO_i hxx (refA_i (ldO_i htt (retH_i _ (fun K' hk' => c_used hnn h.ar hk') ?_)))
    refine ifT (by simp [h.mid.used]) (refA_i (ldO_i htt (ldO_i hxx (lenA_i fun _ => ifT (by simp [hm]) (ldO_i hxx (lenA_i fun _ => ?_))))))
    rw [decide_eq_true (by dsimp only; omega)]
    exact hk x _ _ hx)
set_option maxRecDepth 100000 in
theorem c_power (a m : Nat) (h1 : 1 ≤ a) (hb : a ^ m < 1000000) (ha : a ≤ 1000) (hm : m ≤ 1000) : S73 (a : Int) (m : Int) (((a ^ m : Nat) : Int), ()) := pure73 (a : Int) (m : Int) fun H K hk => by
  unfold A73
  refine loop_n m (fun i => (((a : Int), (m : Int), ((a ^ i : Nat) : Int), (i : Int), ()), ())) (fun _ => True) (by simp) trivial fun i C hi _ hC => ?_
  dsimp only at hC ⊢
  refine ifLt (fun h => ?_) fun h => ?_
  · have hle : a ^ i ≤ a ^ m := Nat.pow_le_pow_right h1 hi
    have e : ((a ^ i : Nat) : Int) * (a : Int) = ((a ^ (i + 1) : Nat) : Int) := by rw [Nat.pow_succ]; simp
    have hle2 : a ^ (i + 1) ≤ a ^ m := Nat.pow_le_pow_right h1 h
    generalize a ^ i = p at *
    generalize a ^ (i + 1) = p' at *
    generalize a ^ m = p'' at *
    refine ifT ?_ ?_
    · rw [decide_eq_true_eq]; omega
    rw [e, w64 (by omega) (by omega), w1 (by omega)]
    exact hC h trivial
  · obtain rfl : i = m := by omega
    exact hk
theorem c_over {x : Nat} {lv nx : List Int} (hx : H x = some ⟨LFk, (some t, lv, nx, allP T, ((ids T).length : Int), ((hh + 1 : Nat) : Int), false)⟩) {root : Int} (ht : H t = some ⟨TRk, (some n, root, (o : Int), many)⟩) (hz : Sz o ((.top : Ctx hh hh).lo o) o T) (h3 : 3 ≤ o) (h16 : o ≤ 16) (hb : (allP T).length ≤ 1001) {K : HT [(false, .one (.int .i64))] → HP → Prop} (hk : K (0, ()) H) : C35 (some x) H K := callA35 _ _ _ (by
  unfold A35
  have h9 := high9 (by omega) hz hb
  have hhalf : IntKind.i64.wrap (Int.tdiv (o : Int) 2) = ((o / 2 : Nat) : Int) := by
    rw [Int.tdiv_eq_ediv_of_nonneg (by omega), w64 (by omega) (by omega)]; omega
  refine refA_i (ldO_i hx (refA_i (ldO_i ht ⟨by decide, refA_i (ldO_i hx (lenA_i fun _ => refA_i (ldO_i hx ?_)))⟩)))
  dsimp only
  rw [hhalf]
  cases hh with
  | zero =>
    obtain ⟨i, ps, rfl⟩ := T.ex0
    refine ifT (by simp) (refA_i (ldO_i hx ?_))
    exact hk
  | succ h =>
    have hz1 : Sz o 1 o T := by simpa [Ctx.lo] using hz
    have p1 := pw_root hz1
    have p2 := id_cnt (by omega) hz1 (.inr (by omega))
    have p3 := lv_cnt_root hz1
    have hid : (ids T).length ≤ 3000 := by
      have := cnt (o := o) (by omega) hz1 (by omega); omega
    have q1 : (ids T).length * (o / 2) ≤ 2 * (allP T).length := by
      have : (ids T).length * (o / 2) ≤ (2 * (lvs T).length) * (o / 2) := Nat.mul_le_mul_right _ (by omega)
      rw [Nat.mul_assoc] at this
      omega
    refine ifF (by simp; omega) (refA_i (ldO_i hx ?_))
    dsimp only
    have e1 : ((ids T).length : Int) * ((o / 2 : Nat) : Int) = (((ids T).length * (o / 2) : Nat) : Int) := by simp
    rw [e1, w64 (x := (((ids T).length * (o / 2) : Nat) : Int)) (by omega) (by omega), w64 (x := 2 * ((allP T).length : Int)) (by omega) (by omega)]
    refine ifF (decide_eq_false (by omega)) (refA_i (ldO_i hx ?_))
    dsimp only
    have hpow : (o / 2 + 1) ^ h ≤ 1000 := by
      have : (o / 2 + 1) ^ h * 1 ≤ (o / 2 + 1) ^ h * (o / 2) := Nat.mul_le_mul_left _ (by omega)
      omega
    rw [show IntKind.i64.wrap (((o / 2 : Nat) : Int) + 1) = ((o / 2 + 1 : Nat) : Int) from by rw [w64 (by omega) (by omega)]; omega, show IntKind.i64.wrap (((h + 1 + 1 : Nat) : Int) - 2) = (h : Int) from by rw [w64 (by omega) (by omega)]; omega]
    refine retA_i _ (c_power (o / 2 + 1) h (by omega) (by omega) (by omega) (by omega)) ?_
    dsimp only
    have e2 : IntKind.i64.wrap (2 * (((o / 2 + 1) ^ h : Nat) : Int)) = ((2 * (o / 2 + 1) ^ h : Nat) : Int) := by
      rw [w64 (by omega) (by omega)]; simp
    rw [e2]
    have e3 : ((2 * (o / 2 + 1) ^ h : Nat) : Int) * ((o / 2 : Nat) : Int) = ((2 * ((o / 2 + 1) ^ h * (o / 2)) : Nat) : Int) := by rw [← Nat.mul_assoc]; simp
    rw [e3, w64 (by omega) (by omega)]
    exact ifF (decide_eq_false (by omega)) hk)
def capStep (out : List Pr) (p : Pr) : List Pr := if (mayB p.1 && fairB p.2) = true ∧ (hasR out p.1 = true ∨ out.length < 1000) then putR out p.1 p.2 else out
def capOf (l : List Pr) : List Pr := l.foldl capStep []
theorem capStep_row {out : List Pr} (h : IsRow out) (p : Pr) : IsRow (capStep out p) := by
  unfold capStep
  split
  · rename_i hc
    have := hc.1
    simp only [Bool.and_eq_true] at this
    exact h.put this.1 this.2
  · exact h
theorem capStep_len {out : List Pr} (h : IsRow out) (p : Pr) (hb : out.length ≤ 1000) : (capStep out p).length ≤ 1000 := by
  unfold capStep
  split
  · rename_i hc
    rw [len_put h.sort]
    split
    · exact hb
    · rename_i hn
      rcases hc.2 with h' | h'
      · exact absurd h' hn
      · omega
  · exact hb
theorem cap_foldl : ∀ (l : List Pr) {out : List Pr}, IsRow out → out.length ≤ 1000 → IsRow (l.foldl capStep out) ∧ (l.foldl capStep out).length ≤ 1000
  | [], _, h, hb => ⟨h, hb⟩
  | p :: l, _, h, hb => cap_foldl l (capStep_row h p) (capStep_len h p hb)
theorem capOf_row (l : List Pr) : IsRow (capOf l) ∧ (capOf l).length ≤ 1000 := cap_foldl l IsRow.nil (by simp)
theorem capOf_take {l : List Pr} {i : Nat} (h : i < l.length) : capOf (l.take (i + 1)) = capStep (capOf (l.take i)) l[i] := by
  rw [take_snoc h]; unfold capOf; rw [List.foldl_append]; rfl
theorem cap_few : ∀ (l : List Pr) {out : List Pr}, IsRow out → out.length + l.length ≤ 1000 → l.foldl capStep out = l.foldl rowStep out
  | [], _, _, _ => rfl
  | p :: l, out, h, hb => by
    simp only [List.length_cons] at hb
    have e : capStep out p = rowStep out p := by
      unfold capStep rowStep
      by_cases hc : (mayB p.1 && fairB p.2) = true
      · rw [if_pos ⟨hc, .inr (by omega)⟩, if_pos hc]
      · rw [if_neg (fun h => hc h.1), if_neg hc]
    simp only [List.foldl_cons]
    rw [e]
    exact cap_few l (rowStep_row h p) (by have := rowStep_len h.sort p; omega)
theorem capOf_few {l : List Pr} (h : l.length ≤ 1000) : capOf l = rowOf l := cap_few l IsRow.nil (by simpa using h)
theorem c_tput' {ps : List Pr} (h : TreeIs H t n o ps (ps.length : Int)) (h3 : 3 ≤ o) (h16 : o ≤ 16) (hb : ps.length ≤ 1000) (k w : Key) {K : HT [(false, .one .bool), (false, .one .any)] → HP → Prop}
    (hk : ∀ b e H', Fm [t, n] H H' → TreeIs H' t n o (capStep ps (k, w)) ((capStep ps (k, w)).length : Int) → K (b, e, ()) H') : C31 (some t) k w H K := by
  have keep : ∀ b e, capStep ps (k, w) = ps → K (b, e, ()) H := fun b e he => hk b e H (Fm.refl _ _) (by rw [he]; exact h)
  refine c_tput h h3 h16 hb k w (fun h1 => keep _ _ ?_) (fun h1 h2 h4 => keep _ _ ?_) fun h1 h2 H' hfm hT => hk _ _ H' hfm ?_
  · unfold capStep; rw [if_neg (fun hc => by rw [h1] at hc; cases hc.1)]
  · unfold capStep; rw [if_neg (fun hc => by
      rcases hc.2 with h5 | h5
      · have h5 : hasR ps k = true := h5
        rw [h2] at h5; cases h5
      · omega)]
  · have e : capStep ps (k, w) = putR ps k w := by unfold capStep; rw [if_pos ⟨h1, h2⟩]
    rw [e]; exact hT
theorem c_made (oi : Int) (l : List Pr) {K : HT [(false, .ref)] → HP → Prop} (h0 : (oi < 3 ∨ 16 < oi) → K (none, ()) H)
    (h1 : ∀ (q : Nat) t n H', oi = q → 3 ≤ q → q ≤ 16 → H t = none → H n = none → t ≠ n → Fm [t, n] H H' → TreeIs H' t n q (capOf l) ((capOf l).length : Int) → K (some t, ()) H') : C34 oi l H K := callA34 _ _ _ _ (by
  unfold A34
  refine c_tnew oi (fun h => ⟨rfl, ifT rfl (h0 h)⟩) fun q t n H' hq h3 h16 ht hn hne hfm hT => ⟨rfl, ifF rfl ?_⟩
  refine loop_h l.length (fun i v' H'' => v' = ((l, some t, (i : Int), ()), ()) ∧ Fm [t, n] H H'' ∧ TreeIs H'' t n q (capOf (l.take i)) ((capOf (l.take i)).length : Int)) ⟨rfl, hfm, hT⟩ ?_
  rintro i v' H'' C hi ⟨rfl, hfm, hT⟩ hC
  dsimp only at hC ⊢
  refine lenA_i fun _ => ifLt (fun hlt => ifT rfl (atA_lt hlt (atA_lt hlt ?_))) fun hge => ?_
  · refine c_tput' hT h3 h16 (capOf_row _).2 _ _ fun b e H3 hf3 hT3 => ?_
    rw [w1 (by omega)]
    exact hC hlt _ _ ⟨rfl, hfm.trans hf3, by rw [capOf_take hlt]; exact hT3⟩
  · obtain rfl : i = l.length := by omega
    rw [List.take_length] at hT
    exact h1 q t n H'' hq h3 h16 ht hn hne hfm hT)
end
end Go.Proofs.Ytdglfbeddbcbpaa
set_option linter.unusedSimpArgs false
set_option linter.unusedVariables false
namespace Go.Proofs.Ytdglfbeddbcbpaa
open Go Go.Gp Go.Ga Go.Th
theorem byteA_c {z : Int} {K : UInt8 → Prop} (h1 : 0 ≤ z) (h2 : z < 256) (hk : K (UInt8.ofNat z.toNat)) : byteA z K := ⟨h1, h2, hk⟩
theorem TreeIs.low {H : HP} {t n o : Nat} {ps : List Pr} {many : Int} {K : HT [(false, .one (.int .i64))] → HP → Prop} (h : TreeIs H t n o ps many) (h3 : 3 ≤ o) (hb : ps.length ≤ 1) (hk : K (1, ()) H) : C39 (some t) H K := by
  obtain ⟨hh, T, v, f, u, h, rfl⟩ := h
  have e : hh = 0 := by
    cases hh with
    | zero => rfl
    | succ m =>
      have hz : Sz o 1 o T := by simpa [Ctx.lo] using h.sz
      have h1 := pw_root hz
      have h2 : 1 * 1 ≤ (o / 2 + 1) ^ m * (o / 2) := Nat.mul_le_mul (Nat.one_le_pow _ _ (by omega)) (by omega)
      omega
  subst e
  exact c_theight h h3 (by omega) hk
theorem TreeIs.get {H : HP} {t n o : Nat} {ps : List Pr} {many : Int} {K : HT [(false, .row .byte), (false, .one .bool)] → HP → Prop} (h : TreeIs H t n o ps many) (h3 : 3 ≤ o) (hb : ps.length ≤ 100000) (k : Key) (hk : K ((getR ps k).getD [], hasR ps k, ()) H) : C32 (some t) k H K := by
  obtain ⟨hh, T, v, f, u, h, rfl⟩ := h
  exact c_tget h h3 hb k hk
theorem TreeIs.pairs {H : HP} {t n o : Nat} {ps : List Pr} {many : Int} {K : HT [(false, .row (.cons (.row .byte) (.row .byte)))] → HP → Prop} (h : TreeIs H t n o ps many) (h3 : 3 ≤ o) (hb : ps.length ≤ 100000) (hk : K (ps, ()) H) : C38 (some t) H K := by
  obtain ⟨hh, T, v, f, u, h, rfl⟩ := h
  exact c_tpairs h h3 hb hk
theorem TreeIs.row {H : HP} {t n o : Nat} {ps : List Pr} {many : Int} (h : TreeIs H t n o ps many) : IsRow ps := by
  obtain ⟨hh, T, v, f, u, h, rfl⟩ := h
  exact h.row
theorem TreeIs.sound {H : HP} {t n o : Nat} {ps : List Pr} (h : TreeIs H t n o ps (ps.length : Int)) (h3 : 3 ≤ o) (h16 : o ≤ 16) (hb : ps.length ≤ 1000) {K : HT [(false, .ref), (false, .one .bool)] → HP → Prop}
    (hk : ∀ x lv nx nodes depth, H x = none → (∀ H' K', (∀ m, m ≠ x → H' m = H m) → H' x = some ⟨LFk, (some t, lv, nx, ps, nodes, depth, false)⟩ → (K' (0, ()) H') → C35 (some x) H' K') → (∀ H' K', (∀ m, m ≠ x → H' m = H m) → K' (depth, ()) H' → C39 (some t) H' K') → K (some x, true, ()) (H.set x LFk (some t, lv, nx, ps, nodes, depth, false))) : C33 (some t) H K := by
  obtain ⟨hh, T, v, f, u, h, rfl⟩ := h
  refine c_tsound h rfl h3 h16 hb fun x lv nx hx => hk x lv nx _ _ hx (fun H' K' he hx' hk' => ?_) fun H' K' he hk' => ?_
  · have hne : t ≠ x := fun e => by rw [← e, h.ht] at hx; cases hx
    exact c_over hx' (by rw [he t hne]; exact h.ht) h.sz h3 h16 (by omega) hk'
  · have hne : t ≠ x := fun e => by rw [← e, h.ht] at hx; cases hx
    have hne2 : n ≠ x := fun e => by rw [← e, h.hn] at hx; cases hx
    exact c_theight (H := H') ⟨by rw [he t hne]; exact h.ht, by rw [he n hne2]; exact h.hn, h.ar, h.mid, h.sz⟩ h3 (by omega) hk'
theorem fm_new {H H' : HP} {t n : Nat} (ht : H t = none) (hn : H n = none) (h : Fm [t, n] H H') : ∀ m, (H m).isSome → H' m = H m := fun m hm => h m (by
  simp only [List.mem_cons, List.not_mem_nil, or_false, not_or]
  exact ⟨fun e => (by rw [e, ht] at hm; cases hm), fun e => (by rw [e, hn] at hm; cases hm)⟩)
end Go.Proofs.Ytdglfbeddbcbpaa
set_option linter.unusedSimpArgs false
set_option linter.unusedVariables false
namespace Go.Proofs.Ytdglfbeddbcbpaa
open Go Go.Gp Go.Ga Go.Th
theorem u8w (i : Nat) (h : i < 9223372036854775808) : IntKind.u8.wrap (i : Int) = ((i % 256 : Nat) : Int) := by
  unfold IntKind.wrap
  simp only [IntKind.signed, IntKind.bits, Bool.false_and, Bool.false_eq_true, if_false]
  omega
theorem mod_w {i d : Nat} : Int.tmod (i : Int) (d : Int) = ((i % d : Nat) : Int) := by
  rw [Int.tmod_eq_emod_of_nonneg (by omega)]; simp
theorem hasR_keys {l : List Pr} {k : Key} (h : ∀ p ∈ l, p.1 ≠ k) : hasR l k = false := by
  unfold hasR; rw [getR_none.2 h]; rfl
end Go.Proofs.Ytdglfbeddbcbpaa
set_option linter.unusedSimpArgs false
set_option linter.unusedVariables false
namespace Go.Proofs.Ytdglfbeddbcbpaa
open Go Go.Gp Go.Ga Go.Th
theorem fitPairs8 : fitT Try.prog 9 (.row (.cons (.row .byte) (.row .byte))) 22 = true := by kernel_rfl
theorem arg_int {W : World} {j : Nat} {r : List (Bool × AK)} {n : Int} {vs : List Value} {y : HT r} (h : ArgRep (fun _ => none) W (j + 1) r vs y) : ArgRep (fun _ => none) W j ((false, .one (.int .i64)) :: r) (.int .i64 n :: vs) (n, y) := arg_cons rfl rfl (cs := [.int .i64 n]) ⟨rfl, rfl⟩ rfl h
end Go.Proofs.Ytdglfbeddbcbpaa
