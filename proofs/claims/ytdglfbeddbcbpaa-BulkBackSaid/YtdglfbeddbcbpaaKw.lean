/-
  Kw: texts of ours, one behind the other: Bulk1, Bulk2, Bulk3, Bulk4.
-/
import Derived.Test.YtdglfbeddbcbpaaKy
import Derived.Test.YtdglfbeddbcbpaaDbulk
import Derived.Test.YtdglfbeddbcbpaaKv
set_option linter.unusedSimpArgs false
set_option linter.unusedVariables false
namespace Go.Proofs.Ytdglfbeddbcbpaa
open Go Go.Gp Go.Ga Go.Th
theorem c_sizes (n most : Nat) (h1 : 1 ≤ most) (hn : n ≤ 1000000) (hm : most ≤ 1000000) : S99 (n : Int) (most : Int) ((sizesN n most).map (fun i : Nat => (i : Int)), ()) := pure99 (n : Int) (most : Int) fun H K hk => by
  unfold A99
  have e1 : IntKind.i64.wrap (IntKind.i64.wrap ((n : Int) + most) - 1) = ((n + most - 1 : Nat) : Int) := by
    rw [w64 (x := (n : Int) + most) (by omega) (by omega), w64 (by omega) (by omega)]; omega
  have hle : (n + most - 1) / most ≤ n + most - 1 := Nat.div_le_self _ _
  have e2 : IntKind.i64.wrap (Int.tdiv ((n + most - 1 : Nat) : Int) (most : Int)) = (((n + most - 1) / most : Nat) : Int) := by
    rw [Int.tdiv_eq_ediv_of_nonneg (by omega), show (((n + most - 1 : Nat) : Int) / (most : Int)) = (((n + most - 1) / most : Nat) : Int) from by simp]
    generalize (n + most - 1) / most = q at *
    rw [w64 (by omega) (by omega)]
  have e3 : mxI 1 (((n + most - 1) / most : Nat) : Int) = (partsN n most : Int) := by
    unfold mxI partsN
    generalize (n + most - 1) / most = q
    by_cases h : 1 < q
    · rw [if_pos (by omega), if_pos h]
    · rw [if_neg (by omega), if_neg h]; rfl
  have hp := partsN_pos n most
  have hpl : partsN n most ≤ 2000000 := by unfold partsN; generalize (n + most - 1) / most = q at *; split <;> omega
  rw [e1, e2, e3]
  refine ⟨(by have h9 : (most : Int) ≠ 0 := by omega
              exact h9), ?_⟩
  refine loop_n (partsN n most) (fun i => (((n : Int), (partsN n most : Int), ((List.range i).map fun j => (((n + j) / partsN n most : Nat) : Int)), (partsN n most : Int), (i : Int), ()), ())) (fun _ => True) rfl trivial fun i C hi _ hC => ?_
  dsimp only at hC ⊢
  refine ifLt (fun h => ?_) fun h => ?_
  · have hC := hC h trivial
    refine ⟨by omega, appA_i (by simp; omega) ?_⟩
    have e4 : IntKind.i64.wrap (Int.tdiv (IntKind.i64.wrap ((n : Int) + i)) (partsN n most : Int)) = (((n + i) / partsN n most : Nat) : Int) := by
      have hle2 : (n + i) / partsN n most ≤ n + i := Nat.div_le_self _ _
      rw [w64 (x := (n : Int) + i) (by omega) (by omega), show ((n : Int) + i) = ((n + i : Nat) : Int) from by omega, Int.tdiv_eq_ediv_of_nonneg (by omega), show (((n + i : Nat) : Int) / ((partsN n most : Nat) : Int)) = (((n + i) / partsN n most : Nat) : Int) from by simp]
      generalize (n + i) / partsN n most = q at *
      rw [w64 (by omega) (by omega)]
    rw [e4, w1 (by omega)]
    rw [List.range_succ, List.map_append] at hC
    exact hC
  · obtain rfl : i = partsN n most := by omega
    unfold sizesN at hk
    rw [List.map_map] at hk
    exact hk
abbrev lowR (g : List Pr) : Key := (g.head?.map (·.1)).getD []
def levelOf {h : Nat} (es : List (Key × Tr h)) : List (Int × Key) := es.map fun e => ((e.2.id : Int), e.1)
theorem seg_idx {f : Nat → Option Nd} {e : Int} : ∀ {l : List (Nat × List Pr)}, (∀ i a, l[i]? = some a → nxt f a.1 = hd (l.drop (i + 1)) e) → Seg f l e
  | [], _ => trivial
  | a :: r, h => ⟨by have := h 0 a rfl; simpa using this, seg_idx fun i b hb => by have := h (i + 1) b (by simpa using hb); simpa using this⟩
section
variable {H : HP} {n u o : Nat} {v : ARt} {f : Nat → Option Nd}
theorem c_leaves (hn : H n = some ⟨ARk, v⟩) (ha : Ar v (fun _ => none) 0) {l : List Pr} (hl : IsRow l) (hb : l.length ≤ 1000) (h3 : 3 ≤ o) (h16 : o ≤ 16) {K : HT [(false, .row (.cons (.one (.int .i64)) (.row .byte)))] → HP → Prop}
    (hk : ∀ v' f' u' (es : List (Key × Tr 0)), Ar v' f' u' → Fo f' u' o es l → K (levelOf es, ()) (H.set n ARk v')) : C80 (some n) l (o : Int) H K := callA80 _ _ _ _ _ (by
  unfold A80
  refine lenA_i fun _ => retA_i _ (c_sizes l.length o (by omega) (by omega) (by omega)) (lenA_i fun _ => ?_)
  have hsum := sizes_sum l.length o
  have hslen := sizes_len l.length o
  have hparts := partsN_pos l.length o
  have hone := parts_one (n := l.length) (most := o) (by omega)
  have hmem : ∀ s ∈ sizesN l.length o, s ≤ o ∧ (2 ≤ partsN l.length o → (o + 1) / 2 ≤ s) := fun s hs => sizes_mem (by omega) hs
  have hpl : partsN l.length o ≤ 2000 := by
    unfold partsN
    have : (l.length + o - 1) / o ≤ l.length + o - 1 := Nat.div_le_self _ _
    generalize (l.length + o - 1) / o = q at *
    split <;> omega
  generalize sizesN l.length o = ns at hsum hslen hmem
  generalize partsN l.length o = pN at hslen hparts hone hmem hpl
  have hgl := chunks_len ns l
  have hgf := chunks_flat (l := l) hsum
  have hgm := chunks_mem (l := l) hsum
  have hglen : (ns.map (fun i : Nat => (i : Int))).length = pN := by rw [List.length_map, hslen]
  dsimp only
  rw [hglen]
  refine loop_h pN (fun i v' H' => ∃ (li : List Pr) (ds : List (List Pr × Nat)) (v1 : ARt) (f1 : Nat → Option Nd), v' = ((some n, li, ds.map (fun d => ((d.2 : Int), lowR d.1)), ns.map (fun i : Nat => (i : Int)), (pN : Int), (i : Int), ()), ()) ∧ H' = H.set n ARk v1 ∧ Ar v1 f1 i ∧ ds.length = i ∧ ds.map (·.1) = (chunks ns l).take i ∧ (chunks ns l).drop i = chunks (ns.drop i) li ∧ (ns.drop i).sum = li.length ∧ (ds.map (·.2)).Nodup ∧ ∀ d ∈ ds, f1 d.2 = some (true, d.1, [], [], -1))
    ⟨l, [], v, _, rfl, (set_back hn).symm, ha, rfl, rfl, rfl, hsum, List.nodup_nil, by simp⟩ ?_
  rintro i v' H' C hi ⟨li, ds, v1, f1, rfl, rfl, ha1, hdl, hdg, hdr, hds, hnd, hf1⟩ hC
  have hn1 := set_eq H n ARk v1
  dsimp only at hC ⊢
  refine ifLt (fun hlt => ?_) fun hge => ?_
  · have hilt : i < ns.length := by omega
    have hnd' : ns.drop i = ns[i] :: ns.drop (i + 1) := (List.getElem_cons_drop hilt).symm
    rw [hnd', List.sum_cons] at hds
    rw [hnd'] at hdr
    have hg : (chunks ns l)[i]? = some (li.take ns[i]) := by
      have : ((chunks ns l).drop i)[0]? = some (li.take ns[i]) := by rw [hdr]; rfl
      rwa [List.getElem?_drop, Nat.add_zero] at this
    have hgi : i < (chunks ns l).length := by omega
    have hge' : (chunks ns l)[i] = li.take ns[i] := (List.getElem?_eq_some_iff.1 hg).2
    have hdr2 : (chunks ns l).drop (i + 1) = chunks (ns.drop (i + 1)) (li.drop ns[i]) := by
      have : ((chunks ns l).drop i).drop 1 = chunks (ns.drop (i + 1)) (li.drop ns[i]) := by rw [hdr]; rfl
      rwa [List.drop_drop] at this
    have hsub : (li.take ns[i]).Sublist l := by
      have h1 : (li.take ns[i]) ∈ chunks ns l := List.mem_of_getElem? hg
      have := List.sublist_flatten_of_mem h1
      rwa [hgf] at this
    have hrow := hl.sub hsub
    refine atA_g (i := i) rfl (x := (ns[i] : Int)) (by rw [List.getElem?_map, List.getElem?_eq_getElem hilt]; rfl) ?_
    refine slcA_z (a := 0) (b := ns[i]) rfl rfl (Nat.zero_le _) (by omega) ?_
    rw [sub_zero, Nat.sub_zero]
    have hll : li.length ≤ 1000 := by
      have h6 : ((ns.drop i).sum) ≤ ns.sum := by
        have := List.sum_append (l₁ := ns.take i) (l₂ := ns.drop i)
        rw [List.take_append_drop] at this; omega
      rw [hnd', List.sum_cons] at h6; omega
    have hgl2 := hsub.length_le
    refine c_make hn1 ha1 (by omega) (x := (true, li.take ns[i], [], [], -1)) ⟨by simp, by simp only; omega, by simp, hrow.short, by simp⟩ fun q v2 hq ha2 => ?_
    rw [set_set]
    -- the least key
    refine JoinA_r (fun v' H1 => v' = ((some n, li, ds.map (fun d => ((d.2 : Int), lowR d.1)), (ns[i] : Int), (), ns.map (fun i : Nat => (i : Int)), (pN : Int), (i : Int), ()), ((q : Int), lowR (li.take ns[i]), ()), ()) ∧ H1 = H.set n ARk v2) ?_ fun hB => ?_
    · rintro v' H1 ⟨rfl, rfl⟩
      refine slcA_z (a := ns[i]) (b := li.length) rfl rfl (by omega) (Nat.le_refl _) ?_
      rw [sub_to_end]
      refine appA_i (by simp; omega) ?_
      rw [w1 (by omega)]
      refine hC (by omega) _ _ ⟨li.drop ns[i], ds ++ [(li.take ns[i], q)], v2, _, by simp, rfl, ha2, by simp [hdl], ?_, hdr2, by rw [List.length_drop]; omega, ?_, fun d hd => ?_⟩
      · rw [List.map_append, hdg, take_snoc hgi, hge']; rfl
      · rw [List.map_append, List.nodup_append]
        refine ⟨hnd, by simp, fun a ha b hb e => ?_⟩
        obtain ⟨d, hd, rfl⟩ := List.mem_map.1 ha
        have hb : b = q := by simpa using hb
        have := hf1 d hd
        rw [e, hb, hq] at this; cases this
      · rcases List.mem_append.1 hd with hd | hd
        · have hne : d.2 ≠ q := fun e => by have := hf1 d hd; rw [e, hq] at this; cases this
          rw [upd_ne _ _ hne]; exact hf1 d hd
        · rw [List.mem_singleton.1 hd, upd_eq]
    · refine ifD (fun hpos => ?_) fun hz => ?_
      · have hpos : 0 < ns[i] := by omega
        have hl0 : 0 < li.length := by omega
        refine atA_z (i := 0) rfl hl0 ?_
        have e : lowR (li.take ns[i]) = li[0].1 := by
          unfold lowR
          rw [List.head?_take, if_neg (by omega), List.head?_eq_getElem?, List.getElem?_eq_getElem hl0]; rfl
        rw [← e]
        exact hB _ _ ⟨rfl, rfl⟩
      · have h0 : ns[i] = 0 := by omega
        have := hB ((some n, li, ds.map (fun d => ((d.2 : Int), lowR d.1)), (ns[i] : Int), (), ns.map (fun i : Nat => (i : Int)), (pN : Int), (i : Int), ()), ((q : Int), lowR (li.take ns[i]), ()), ()) (H.set n ARk v2) ⟨rfl, rfl⟩
        rw [show lowR (li.take ns[i]) = [] from by rw [h0]; rfl] at this
        exact this
  · -- the leaves are linked
    clear hC
    have hip : i = pN := by omega
    have hdn : ds ≠ [] := fun e => by subst e; simp at hdl; omega
    rw [hip] at ha1 hdl hdg
    have hdg : ds.map (·.1) = chunks ns l := by rw [hdg, List.take_of_length_le (by omega)]
    have hlev : ∀ (j : Nat) (d : List Pr × Nat), ds[j]? = some d → (ds.map (fun d => ((d.2 : Int), lowR d.1)))[j]? = some ((d.2 : Int), lowR d.1) := fun j d hd => by rw [List.getElem?_map, hd]; rfl
    refine lenA_i fun _ => ?_
    have hml : (ds.map (fun d => ((d.2 : Int), lowR d.1))).length = pN := by rw [List.length_map, hdl]
    rw [hml, show IntKind.i64.wrap ((pN : Int) - 1) = ((pN - 1 : Nat) : Int) from by rw [w64 (by omega) (by omega)]; omega]
    have hinj : ∀ (j k : Nat) (d e : List Pr × Nat), ds[j]? = some d → ds[k]? = some e → d.2 = e.2 → j = k := fun j k d e hd he h => by
      have h1 : (ds.map (·.2))[j]? = some d.2 := by rw [List.getElem?_map, hd]; rfl
      have h2 : (ds.map (·.2))[k]? = some e.2 := by rw [List.getElem?_map, he]; rfl
      have hj := (List.getElem?_eq_some_iff.1 h1).1
      exact (List.getElem?_inj hj hnd).1 (by rw [h1, h2, h])
    refine loop_h (pN - 1) (fun i v' H' => ∃ (v1 : ARt) (f1 : Nat → Option Nd), v' = ((some n, ds.map (fun d => ((d.2 : Int), lowR d.1)), ((pN - 1 : Nat) : Int), (i : Int), ()), ()) ∧ H' = H.set n ARk v1 ∧ Ar v1 f1 pN ∧ ∀ (j : Nat) (d : List Pr × Nat), ds[j]? = some d → f1 d.2 = some (true, d.1, [], [], if j < i then ((ds[j + 1]?.map (fun d => (d.2 : Int))).getD (-1)) else -1)) ⟨v1, f1, rfl, rfl, ha1, fun j d hd => by rw [if_neg (by omega)]; exact hf1 d (List.mem_of_getElem? hd)⟩ ?_
    rintro i v' H' C hi ⟨v3, f3, rfl, rfl, ha3, hf3⟩ hC
    have hn3 := set_eq H n ARk v3
    dsimp only at hC ⊢
    refine ifLt (fun hlt => ?_) fun hge => ?_
    · have hd1 := List.getElem?_eq_getElem (show i < ds.length by omega)
      have hd2 := List.getElem?_eq_getElem (show i + 1 < ds.length by omega)
      have hfi := hf3 i _ hd1
      rw [if_neg (by omega)] at hfi
      refine inA_i (by omega) (elA_i (hlev i _ hd1) (g_get hn3 ha3 hfi ?_))
      rw [w1 (by omega)]
      refine inA_i (by omega) (elA_i (hlev (i + 1) _ hd2) (inA_i (by omega) (elA_i (hlev i _ hd1) ?_)))
      have hok := ha3.ndok hfi
      refine c_set hn3 ha3 hfi (x := (true, (ds[i]'(by omega)).1, [], [], ((ds[i + 1]'(by omega)).2 : Int))) ⟨hok.kids, hok.pairs, hok.keys, hok.short, hok.low⟩ fun v4 ha4 => ⟨rfl, ifF rfl ?_⟩
      rw [set_set]
      refine hC hlt _ _ ⟨v4, _, rfl, rfl, ha4, fun j d hd => ?_⟩
      by_cases hji : j = i
      · subst hji
        rw [hd1] at hd
        injection hd with hd
        subst hd
        rw [upd_eq, if_pos (by omega), hd2]; rfl
      · rw [upd_ne _ _ (fun e => hji (hinj j i d _ hd hd1 e)), hf3 j d hd]
        by_cases h5 : j < i
        · rw [if_pos h5, if_pos (by omega)]
        · rw [if_neg h5, if_neg (by omega)]
    · have hi1 : i = pN - 1 := by omega
      have e : ds.map (fun d => ((d.2 : Int), lowR d.1)) = levelOf (ds.map mkL) := by
        unfold levelOf
        rw [List.map_map]; rfl
      rw [e]
      have hF : Fo f3 ds.length o (ds.map mkL) l := by
        refine Fo.leaves hl hdn (by rw [hdg]; exact hgf) (fun d hd => ?_) hnd (fun d hd => ?_) (seg_idx fun j a hj => ?_)
        · have h5 := hgm d.1 (by rw [← hdg]; exact List.mem_map.2 ⟨d, hd, rfl⟩)
          obtain ⟨h6, h7⟩ := hmem _ h5
          refine ⟨h6, fun h8 => ?_⟩
          have h9 := h7 (by omega)
          refine ⟨fun e => ?_, by omega⟩
          rw [e] at h9; simp at h9; omega
        · obtain ⟨j, hj⟩ := List.getElem?_of_mem hd
          exact ⟨_, _, _, hf3 j d hj⟩
        · rw [List.getElem?_map] at hj
          obtain ⟨d, hd, rfl⟩ := Option.map_eq_some_iff.1 hj
          have h5 := hf3 j d hd
          have hjl := (List.getElem?_eq_some_iff.1 hd).1
          unfold nxt
          simp only
          rw [h5]
          simp only
          by_cases h6 : j < i
          · have hd3 := List.getElem?_eq_getElem (show j + 1 < ds.length by omega)
            rw [if_pos h6, hd3, List.drop_eq_getElem_cons (by rw [List.length_map]; omega), List.getElem_map]; rfl
          · rw [if_neg h6, List.drop_eq_nil_of_le (by rw [List.length_map]; omega)]; rfl
      rw [← hdl] at ha3
      exact hk v3 f3 _ _ ha3 hF)
end
end Go.Proofs.Ytdglfbeddbcbpaa
set_option linter.unusedSimpArgs false
set_option linter.unusedVariables false
namespace Go.Proofs.Ytdglfbeddbcbpaa
open Go Go.Gp Go.Ga Go.Th
theorem levelOf_len {h : Nat} (es : List (Key × Tr h)) : (levelOf es).length = es.length := by unfold levelOf; rw [List.length_map]
theorem levelOf_get {h : Nat} {es : List (Key × Tr h)} {i : Nat} {e : Key × Tr h} (hi : es[i]? = some e) : (levelOf es)[i]? = some ((e.2.id : Int), e.1) := by unfold levelOf; rw [List.getElem?_map, hi]; rfl
theorem levelOf_take {h : Nat} (es : List (Key × Tr h)) (n : Nat) : (levelOf es).take n = levelOf (es.take n) := by unfold levelOf; rw [List.map_take]
theorem levelOf_drop {h : Nat} (es : List (Key × Tr h)) (n : Nat) : (levelOf es).drop n = levelOf (es.drop n) := by unfold levelOf; rw [List.map_drop]
theorem tail_take {α : Type} {l : List α} {j : Nat} (hj : j < l.length) (h0 : 0 < j) : (l.take (j + 1)).tail = (l.take j).tail ++ [l[j]] := by
  cases l with
  | nil => simp at hj
  | cons a b =>
    obtain ⟨k, rfl⟩ : ∃ k, j = k + 1 := ⟨j - 1, by omega⟩
    show b.take (k + 1) = b.take k ++ [(a :: b)[k + 1]]
    exact take_snoc (by simpa using hj)
section
variable {H : HP} {n u o : Nat} {v : ARt} {f : Nat → Option Nd}
theorem c_over' (hn : H n = some ⟨ARk, v⟩) (ha : Ar v f u) {h : Nat} {es : List (Key × Tr h)} {l : List Pr} (F : Fo f u o es l) (h2 : 2 ≤ es.length) (hb : es.length ≤ 2000) (hu : u ≤ 100000) (h3 : 3 ≤ o) (h16 : o ≤ 16) {K : HT [(false, .row (.cons (.one (.int .i64)) (.row .byte)))] → HP → Prop}
    (hk : ∀ v' f' u' (es' : List (Key × Tr (h + 1))), Ar v' f' u' → Fo f' u' o es' l → es'.length < es.length → u' ≤ u + es.length → K (levelOf es', ()) (H.set n ARk v')) : C81 (some n) (levelOf es) (o : Int) H K := callA81 _ _ _ _ _ (by
  unfold A81
  refine lenA_i fun _ => ?_
  rw [levelOf_len, w1 (by omega)]
  refine retA_i _ (c_sizes es.length (o + 1) (by omega) (by omega) (by omega)) (lenA_i fun _ => ?_)
  have hsum := sizes_sum es.length (o + 1)
  have hslen := sizes_len es.length (o + 1)
  have hparts := partsN_pos es.length (o + 1)
  have hone := parts_one (n := es.length) (most := o + 1) (by omega)
  have hmem : ∀ s ∈ sizesN es.length (o + 1), s ≤ o + 1 ∧ (2 ≤ partsN es.length (o + 1) → (o + 1 + 1) / 2 ≤ s) := fun s hs => sizes_mem (by omega) hs
  have hpl : partsN es.length (o + 1) < es.length := by
    rcases Nat.lt_or_ge (partsN es.length (o + 1)) 2 with h5 | h5
    · omega
    · have h6 := parts_low (n := es.length) (most := o + 1) (by omega) h5
      generalize partsN es.length (o + 1) = p at *
      obtain ⟨q, rfl⟩ : ∃ q, p = q + 2 := ⟨p - 2, by omega⟩
      have h7 : (q + 1) * 4 ≤ (q + 2 - 1) * (o + 1) := Nat.mul_le_mul (by omega) (by omega)
      omega
  generalize sizesN es.length (o + 1) = ns at hsum hslen hmem
  generalize partsN es.length (o + 1) = pN at hslen hparts hone hmem hpl
  have hgl := chunks_len ns es
  have hgf := chunks_flat (l := es) hsum
  have hgm := chunks_mem (l := es) hsum
  have hglen : (ns.map (fun i : Nat => (i : Int))).length = pN := by rw [List.length_map, hslen]
  have hpos : ∀ s ∈ ns, 1 ≤ s := fun s hs => by
    obtain ⟨h5, h6⟩ := hmem s hs
    rcases Nat.lt_or_ge pN 2 with h7 | h7
    · -- the one part is all
      have : ns.length = 1 := by omega
      obtain ⟨a, rfl⟩ := List.length_eq_one_iff.1 this
      simp at hs hsum; omega
    · have := h6 h7; omega
  have hin : ∀ j ∈ idsF es, (f j).isSome := fun j hj => by
    obtain ⟨_, hm, hj⟩ := List.mem_flatten.1 hj
    obtain ⟨e, he, rfl⟩ := List.mem_map.1 hm
    exact rep_some (F.rep e he) j hj
  dsimp only
  rw [hglen]
  refine loop_h pN (fun i v' H' => ∃ (li : List (Key × Tr h)) (ds : List (List (Key × Tr h) × Nat)) (v1 : ARt) (f1 : Nat → Option Nd), v' = ((some n, levelOf li, levelOf (ds.map mkN), ns.map (fun i : Nat => (i : Int)), (pN : Int), (i : Int), ()), ()) ∧ H' = H.set n ARk v1 ∧ Ar v1 f1 (u + i) ∧ ds.length = i ∧ ds.map (·.1) = (chunks ns es).take i ∧ (chunks ns es).drop i = chunks (ns.drop i) li ∧ (ns.drop i).sum = li.length ∧ (ds.map (·.2)).Nodup ∧ (∀ d ∈ ds, f1 d.2 = some (false, [], d.1.tail.map (·.1), d.1.map (fun e => (e.2.id : Int)), 0)) ∧ (∀ j ∈ idsF es, f1 j = f j) ∧ ∀ d ∈ ds, d.2 ∉ idsF es)
    ⟨es, [], v, f, rfl, (set_back hn).symm, ha, rfl, rfl, rfl, hsum, List.nodup_nil, by simp, fun _ _ => rfl, by simp⟩ ?_
  rintro i v' H' C hi ⟨li, ds, v1, f1, rfl, rfl, ha1, hdl, hdg, hdr, hds, hnd, hf1, hff, hdis⟩ hC
  have hn1 := set_eq H n ARk v1
  dsimp only at hC ⊢
  refine ifLt (fun hlt => ?_) fun hge => ?_
  · have hilt : i < ns.length := by omega
    have hnd' : ns.drop i = ns[i] :: ns.drop (i + 1) := (List.getElem_cons_drop hilt).symm
    rw [hnd', List.sum_cons] at hds
    rw [hnd'] at hdr
    have hg : (chunks ns es)[i]? = some (li.take ns[i]) := by
      have : ((chunks ns es).drop i)[0]? = some (li.take ns[i]) := by rw [hdr]; rfl
      rwa [List.getElem?_drop, Nat.add_zero] at this
    have hgi : i < (chunks ns es).length := by omega
    have hge' : (chunks ns es)[i] = li.take ns[i] := (List.getElem?_eq_some_iff.1 hg).2
    have hdr2 : (chunks ns es).drop (i + 1) = chunks (ns.drop (i + 1)) (li.drop ns[i]) := by
      have : ((chunks ns es).drop i).drop 1 = chunks (ns.drop (i + 1)) (li.drop ns[i]) := by rw [hdr]; rfl
      rwa [List.drop_drop] at this
    have hs1 := hpos ns[i] (List.getElem_mem hilt)
    have hs2 := (hmem ns[i] (List.getElem_mem hilt)).1
    have hll : li.length ≤ 2000 := by
      have h6 : ((ns.drop i).sum) ≤ ns.sum := by
        have := List.sum_append (l₁ := ns.take i) (l₂ := ns.drop i)
        rw [List.take_append_drop] at this; omega
      rw [hnd', List.sum_cons] at h6; omega
    generalize hsi : ns[i] = s at *
    refine atA_g (i := i) rfl (x := (s : Int)) (by rw [List.getElem?_map, List.getElem?_eq_getElem hilt, hsi]; rfl) ?_
    refine slcA_z (a := 0) (b := s) rfl rfl (Nat.zero_le _) (by rw [levelOf_len]; omega) ?_
    rw [sub_zero, Nat.sub_zero, levelOf_take]
    generalize hgd : li.take s = g at *
    have hgs : g.length = s := by rw [← hgd, List.length_take]; omega
    refine lenA_i fun _ => ?_
    rw [levelOf_len, hgs]
    refine loop_n s (fun j => ((some n, levelOf li, levelOf (ds.map mkN), (s : Int), (), ns.map (fun i : Nat => (i : Int)), (pN : Int), (i : Int), levelOf g, (s : Int), (j : Int), ()), (false, [], (g.take j).tail.map (·.1), (g.take j).map (fun e => (e.2.id : Int)), 0, ()), ())) (fun _ => True) rfl trivial fun j C' hj _ hC' => ?_
    dsimp only at hC' ⊢
    refine ifLt (fun hj1 => ?_) fun hj1 => ?_
    · have hC' := hC' hj1 trivial
      have hjg : j < g.length := by omega
      refine atA_g (i := j) rfl (levelOf_get (List.getElem?_eq_getElem hjg)) (appA_i (by simp; omega) ?_)
      rw [w1 (by omega)]
      have ek : (g.take (j + 1)).map (fun e => (e.2.id : Int)) = (g.take j).map (fun e => (e.2.id : Int)) ++ [(g[j].2.id : Int)] := by rw [take_snoc hjg, List.map_append]; rfl
      rw [ek] at hC'
      refine ifD (fun h0 => appA_i (by simp; omega) ?_) fun h0 => ?_
      · rw [tail_take hjg (by omega), List.map_append] at hC'
        exact hC'
      · have hj0 : j = 0 := by omega
        subst hj0
        have et : (g.take (0 + 1)).tail = (g.take 0).tail := by
          cases g with
          | nil => simp at hjg
          | cons a b => rfl
        rw [et] at hC'
        exact hC'
    · clear hC'
      have hjs : j = s := by omega
      subst hjs
      rw [List.take_of_length_le (by omega)]
      have hl0 : 0 < li.length := by omega
      have hli0 := List.getElem?_eq_getElem hl0
      refine atA_g (i := 0) rfl (levelOf_get hli0) ?_
      refine slcA_z (a := j) (b := (levelOf li).length) rfl rfl (by rw [levelOf_len]; omega) (Nat.le_refl _) ?_
      rw [sub_to_end, levelOf_drop]
      have hshort : ∀ k ∈ g.tail.map (·.1), k.length ≤ 140737488355328 := fun k hk => by
        obtain ⟨e, he, rfl⟩ := List.mem_map.1 hk
        have he2 : e ∈ es := by
          rw [← hgf]
          exact List.mem_flatten.2 ⟨g, List.mem_of_getElem? hg, List.mem_of_mem_tail he⟩
        -- a key between is some pair's
        have hks : ∀ (xs : List (Key × List It)) (c : Key × List It), c ∈ xs.tail → It.s c.1 ∈ seqL xs := by
          intro xs c hc
          cases xs with
          | nil => simp at hc
          | cons a r =>
            have hc : c ∈ r := hc
            have : ∀ (r : List (Key × List It)), c ∈ r → It.s c.1 ∈ tailL r := by
              intro r
              induction r with
              | nil => intro h; simp at h
              | cons b r ih =>
                intro h
                simp only [tailL, List.mem_cons, List.mem_append]
                rcases List.mem_cons.1 h with rfl | h
                · exact .inl rfl
                · exact .inr (.inr (ih h))
            exact List.mem_append.2 (.inr (this r hc))
        have het : e ∈ es.tail := by
          have h8 : g.Sublist es := by rw [← hgf]; exact List.sublist_flatten_of_mem (List.mem_of_getElem? hg)
          exact h8.tail.subset he
        have := F.ok (.s e.1) (hks (itsF es) (e.1, fl e.2) (by
          unfold itsF; rw [← List.map_tail]; exact List.mem_map.2 ⟨e, het, rfl⟩))
        have := may_len this
        omega
      refine c_make hn1 ha1 (by omega) (x := (false, [], g.tail.map (·.1), g.map (fun e => (e.2.id : Int)), 0)) ⟨by simp; omega, by simp, by simp; omega, by simp, hshort⟩ fun q v2 hq ha2 => ?_
      rw [set_set]
      refine appA_i (by rw [levelOf_len]; simp; omega) ?_
      rw [w1 (by omega)]
      have hlow : ((g.head?.map (·.1)).getD []) = li[0].1 := by
        rw [← hgd, List.head?_take, if_neg (by omega), List.head?_eq_getElem?, hli0]; rfl
      have hlev : levelOf (ds.map mkN) ++ [((q : Int), li[0].1)] = levelOf ((ds ++ [(g, q)]).map mkN) := by
        unfold levelOf
        rw [List.map_append, List.map_append]
        congr 1
        show _ = [((q : Int), (g.head?.map (·.1)).getD [])]
        rw [hlow]
      rw [hlev]
      refine hC (by omega) _ _ ⟨li.drop j, ds ++ [(g, q)], v2, _, rfl, rfl, ha2, by simp [hdl], ?_, hdr2, by rw [List.length_drop]; omega, ?_, fun d hd => ?_, fun k hk => ?_, fun d hd => ?_⟩
      · rw [List.map_append, hdg, take_snoc hgi, hge']; rfl
      · rw [List.map_append, List.nodup_append]
        refine ⟨hnd, by simp, fun a ha b hb e => ?_⟩
        obtain ⟨d, hd, rfl⟩ := List.mem_map.1 ha
        have hb : b = q := by simpa using hb
        have := hf1 d hd
        rw [e, hb, hq] at this; cases this
      · rcases List.mem_append.1 hd with hd | hd
        · have hne : d.2 ≠ q := fun e => by have := hf1 d hd; rw [e, hq] at this; cases this
          rw [upd_ne _ _ hne]; exact hf1 d hd
        · rw [List.mem_singleton.1 hd, upd_eq]
      · have hne : k ≠ q := fun e => by
          have := hin k hk
          rw [← hff k hk, e, hq] at this; cases this
        rw [upd_ne _ _ hne]; exact hff k hk
      · rcases List.mem_append.1 hd with hd | hd
        · exact hdis d hd
        · rw [List.mem_singleton.1 hd]
          intro hm
          have := hin q hm
          rw [← hff q hm, hq] at this; cases this
  · have hip : i = pN := by omega
    rw [hip] at ha1 hdl hdg
    have hdg : ds.map (·.1) = chunks ns es := by rw [hdg, List.take_of_length_le (by omega)]
    refine hk v1 f1 _ (ds.map mkN) ?_ (F.over h2 (by rw [hdg]; exact hgf) (fun d hd => ?_) hnd hdis hff fun d hd => ⟨_, _, hf1 d hd⟩) (by rw [List.length_map]; omega) (by rw [hdl]; omega)
    · rw [hdl]; exact ha1
    · have h5 := hgm d.1 (by rw [← hdg]; exact List.mem_map.2 ⟨d, hd, rfl⟩)
      obtain ⟨h6, h7⟩ := hmem _ h5
      have h8 := hpos _ h5
      refine ⟨h6, fun e => by rw [e] at h8; simp at h8, fun h9 => ?_⟩
      have := h7 (by omega)
      omega)
end
end Go.Proofs.Ytdglfbeddbcbpaa
set_option linter.unusedSimpArgs false
set_option linter.unusedVariables false
namespace Go.Proofs.Ytdglfbeddbcbpaa
open Go Go.Gp Go.Ga Go.Th
theorem c_is (l : List Pr) : S18 l (isRowB l, ()) := pure18 l fun H K hk => by
  unfold A18
  have bad : ∀ {i : Nat}, i < l.length → okAt l i = false → K (false, ()) H := fun {i} hi h => by
    have : isRowB l = false := allN_false hi h
    rw [← this]; exact hk
  refine lenA_i fun _ => ?_
  refine loop_n l.length (fun i => ((l, l, (l.length : Int), (i : Int), ()), ())) (fun i => ∀ j, j < i → okAt l j = true) rfl (fun j h => absurd h (Nat.not_lt_zero _)) fun i C hi hP hC => ?_
  dsimp only at hC ⊢
  refine ifLt (fun h1 => ?_) fun h1 => ?_
  · have next : okAt l i = true → C ((l, l, (l.length : Int), IntKind.i64.wrap ((i : Int) + 1), ()), ()) H := fun h => by
      rw [w1 (by omega)]
      refine hC h1 fun j hj => ?_
      rcases Nat.lt_or_ge j i with h3 | h3
      · exact hP j h3
      · obtain rfl : j = i := by omega
        exact h
    refine atA_lt h1 (retA_i _ (c_kmay _) (ifNot (fun hm => bad h1 ?_) fun hm => retA_i _ (c_kfair _) (ifNot (fun hf => bad h1 ?_) fun hf => ?_)))
    · simp only at hm; simp [okAt, h1, hm]
    · simp only at hm hf; simp [okAt, h1, hm, hf]
    · simp only at hm hf
      refine ifD (fun h0 => ?_) fun h0 => ?_
      · obtain ⟨j, rfl⟩ : ∃ j, i = j + 1 := ⟨i - 1, by omega⟩
        refine atA_z (i := j) (by rw [w64 (by omega) (by omega)]; omega) (by omega) (retA_i _ (c_kcmp _ _) ?_)
        rw [cmpL_ge']
        refine ifNot (fun hl => bad h1 ?_) fun hl => next ?_
        · simp [okAt, h1, hm, hf, Nat.lt_of_succ_lt h1, hl]
        · simp [okAt, h1, hm, hf, Nat.lt_of_succ_lt h1, hl]
      · obtain rfl : i = 0 := by omega
        exact next (by simp [okAt, h1, hm, hf])
  · have : isRowB l = true := allN_true fun j hj => hP j (by omega)
    rw [← this]; exact hk
/-- What was there is as it was. -/
def FmN (H H' : HP) : Prop := ∀ m, (H m).isSome → H' m = H m
theorem FmN.refl (H : HP) : FmN H H := fun _ _ => rfl
theorem FmN.trans {H H' H'' : HP} (h : FmN H H') (k : FmN H' H'') : FmN H H'' := fun m hm => (k m (by rw [h m hm]; exact hm)).trans (h m hm)
theorem FmN.none {H H' : HP} (h : FmN H H') {m : Nat} (hm : H' m = none) : H m = none := by
  cases hh : H m with
  | none => rfl
  | some x => rw [h m (by rw [hh]; rfl), hh] at hm; cases hm
theorem TreeIs.keep {H H' : HP} {t n o : Nat} {ps : List Pr} {many : Int} (h : TreeIs H t n o ps many) (hf : FmN H H') : TreeIs H' t n o ps many := by
  obtain ⟨hh, T, v, f, u, ⟨a, b, c, d, e⟩, g⟩ := h
  exact ⟨hh, T, v, f, u, ⟨by rw [hf t (by rw [a]; rfl)]; exact a, by rw [hf n (by rw [b]; rfl)]; exact b, c, d, e⟩, g⟩
theorem TreeIs.some {H : HP} {t n o : Nat} {ps : List Pr} {many : Int} (h : TreeIs H t n o ps many) : (H t).isSome ∧ (H n).isSome := by
  obtain ⟨hh, T, v, f, u, ⟨a, b, c, d, e⟩, g⟩ := h
  exact ⟨by rw [a]; rfl, by rw [b]; rfl⟩
theorem fo_cnt {f : Nat → Option Nd} {u o h : Nat} {es : List (Key × Tr h)} {l : List Pr} (F : Fo f u o es l) (h3 : 3 ≤ o) (h2 : es.length ≠ 1) : u + es.length ≤ 2 * l.length := by
  rw [F.used, ← F.pr, prs_seq]
  have hs := F.two h2
  clear F
  induction es with
  | nil => simp [idsF, itsF]
  | cons e es ih =>
    have h5 := Th.cnt (o := o) (by omega) (hs e (by simp)) (by omega)
    have h6 : (idsF es).length + es.length ≤ 2 * ((itsF es).map fun e => prs e.2).flatten.length := by
      have key : ∀ es : List (Key × Tr h), (∀ e ∈ es, Sz o (o / 2) o e.2) → (idsF es).length + es.length ≤ 2 * ((itsF es).map fun e => prs e.2).flatten.length := by
        intro es
        induction es with
        | nil => intro _; simp [idsF, itsF]
        | cons e es ih =>
          intro hs
          have h5 := Th.cnt (o := o) (by omega) (hs e (by simp)) (by omega)
          have h6 := ih fun x hx => hs x (by simp [hx])
          rw [← prs_fl] at h5
          simp only [idsF, itsF, List.map_cons, List.flatten_cons, List.length_append, List.length_cons] at h6 ⊢
          omega
      exact key es fun x hx => hs x (by simp [hx])
    rw [← prs_fl] at h5
    simp only [idsF, itsF, List.map_cons, List.flatten_cons, List.length_append, List.length_cons] at h6 ⊢
    omega
/-- The error's number of what can't be loaded. -/
def loadC (o : Int) (l : List Pr) : Nat := if o < 3 ∨ 16 < o ∨ isRowB l = false then 1 else if 1000 < l.length then 5 else 0
theorem c_load {H : HP} (oi : Int) (l : List Pr) (hb : l.length ≤ 100000) {K : HT [(false, .ref), (false, .one .any)] → HP → Prop}
    (k0 : loadC oi l ≠ 0 → ∀ H', FmN H H' → K (none, eC (loadC oi l), ()) H')
    (k1 : loadC oi l = 0 → ∀ (q : Nat) t n H', oi = q → 3 ≤ q → q ≤ 16 → IsRow l → l.length ≤ 1000 → H t = none → H n = none → t ≠ n → FmN H H' → TreeIs H' t n q l (l.length : Int) → K (some t, .nilIface, ()) H') : C47 oi l H K := callA47 _ _ _ _ (by
  unfold A47
  refine c_tnew oi (fun hbad => ⟨rfl, ifT rfl ?_⟩) fun q t n0 H1 hq h3 h16 ht hn0 hne0 hfm hT0 => ⟨rfl, ifF rfl (retA_i _ (c_is l) (ifNot (fun hr => ?_) fun hr => lenA_i fun _ => ifD (fun hbig => ?_) fun hsm => ?_))⟩
  · have e : loadC oi l = 1 := if_pos (hbad.imp id .inl)
    have := k0 (by omega) H (FmN.refl _)
    rw [e] at this; exact this
  · have hr : isRowB l = false := hr
    have e : loadC oi l = 1 := if_pos (.inr (.inr hr))
    have := k0 (by omega) H1 (fm_new ht hn0 hfm)
    rw [e] at this; exact this
  · have hr : isRowB l = true := hr
    have e : loadC oi l = 5 := by unfold loadC; rw [if_neg (by rw [hr]; simp; omega), if_pos (by omega)]
    have := k0 (by omega) H1 (fm_new ht hn0 hfm)
    rw [e] at this; exact this
  have hr : isRowB l = true := hr
  have e0 : loadC oi l = 0 := by unfold loadC; rw [if_neg (by rw [hr]; simp; omega), if_neg (by omega)]
  have hrow := isRowB_iff.1 hr
  have hll : l.length ≤ 1000 := by omega
  subst hq
  refine c_anew _ fun n hn => ?_
  have hTs := hT0.some
  have hnt : n ≠ t := fun e => by rw [← e, hn] at hTs; cases hTs.1
  have hnn0 : n ≠ n0 := fun e => by rw [← e, hn] at hTs; cases hTs.2
  have hnH : H n = none := by rw [← hfm n (by simp [hnt, hnn0])]; exact hn
  obtain ⟨_, T0, _, _, _, hT0i, _⟩ := hT0
  have ht1 := hT0i.ht
  refine c_leaves (set_eq _ _ _ _) Ar.new hrow hll h3 h16 fun v0 f0 u0 es0 ha0 F0 => ?_
  rw [set_set]
  refine LoopA_i (fun v' H' => ∃ (h : Nat) (es : List (Key × Tr h)) (v : ARt) (f : Nat → Option Nd) (u : Nat), v' = (((q : Int), l, some t, some n, levelOf es, ()), ()) ∧ H' = H1.set n ARk v ∧ Ar v f u ∧ Fo f u q es l ∧ u ≤ 4000 + u) (fun v' _ => v'.1.2.2.2.2.1.length) ⟨0, es0, v0, f0, u0, rfl, rfl, ha0, F0, by omega⟩ ?_
  rintro v' H' ⟨h, es, v, f, u, rfl, rfl, ha, F, _⟩
  dsimp only
  have hne := F.ne
  have hpos : 0 < es.length := by cases es with | nil => exact absurd rfl hne | cons _ _ => simp
  refine lenA_i fun _ => ?_
  rw [levelOf_len]
  refine ifD (fun h1 => ?_) fun h1 => ?_
  · have hc := fo_cnt F h3 (by omega)
    refine c_over' (set_eq _ _ _ _) ha F (by omega) (by omega) (by omega) h3 h16 fun v2 f2 u2 es2 ha2 F2 hlt hu2 => ?_
    rw [set_set]
    refine ⟨⟨h + 1, es2, v2, f2, u2, rfl, rfl, ha2, F2, by omega⟩, ?_⟩
    rw [levelOf_len]; exact hlt
  · obtain ⟨e, rfl⟩ := List.length_eq_one_iff.1 (show es.length = 1 by omega)
    obtain ⟨hm, hz, hp⟩ := F.mid
    refine atA_g (i := 0) rfl (x := ((e.2.id : Int), e.1)) rfl (lenA_i fun _ => ?_)
    have htn : (H1.set n ARk v) t = some ⟨TRk, (some n0, (T0.id : Int), (q : Int), 0)⟩ := by rw [set_ne _ _ _ hnt.symm]; exact ht1
    refine refA_i (ldO_i htn (refA_i (ldO_i (set_eq _ _ _ _) (refA_i (ldO_i (x := (some n, (e.2.id : Int), (q : Int), 0)) (set_eq _ _ _ _) ?_)))))
    rw [set_set, set_set]
    dsimp only
    refine k1 e0 q t n _ rfl h3 h16 hrow hll ht hnH hnt.symm (fun m hmm => ?_) ⟨h, e.2, v, f, u, ⟨set_eq _ _ _ _, by rw [set_ne _ _ _ hnt]; exact set_eq _ _ _ _, ha, hm, hz⟩, hp⟩
    have h5 : m ≠ t := fun e => by rw [e, ht] at hmm; cases hmm
    have h6 : m ≠ n := fun e => by rw [e, hnH] at hmm; cases hmm
    rw [set_ne _ _ _ h5, set_ne _ _ _ h6]
    exact fm_new ht hn0 hfm m hmm)
theorem c_cut {H : HP} {t n o : Nat} {l : List Pr} (h : TreeIs H t n o l (l.length : Int)) (h3 : 3 ≤ o) (h16 : o ≤ 16) (hb : l.length ≤ 1000) (k : Key) {K : HT [(false, .ref), (false, .ref), (false, .one .any)] → HP → Prop}
    (k0 : mayB k = false → K (none, none, eC 1, ()) H)
    (k1 : mayB k = true → ∀ t1 n1 t2 n2 H', FmN H H' → H t1 = none → H n1 = none → H t2 = none → H n2 = none → t1 ≠ n1 → t2 ≠ n2 → t1 ≠ t2 → t1 ≠ n2 → n1 ≠ t2 → n1 ≠ n2 → TreeIs H' t1 n1 o (l.take (lb l k)) ((l.take (lb l k)).length : Int) → TreeIs H' t2 n2 o (l.drop (lb l k)) ((l.drop (lb l k)).length : Int) → K (some t1, some t2, .nilIface, ()) H') : C49 (some t) k H K := callA49 _ _ _ _ (by
  unfold A49
  refine ifF rfl (retA_i _ (c_kmay k) (ifNot (fun hm => k0 hm) fun hm => ?_))
  have hrow := h.row
  have hle := lb_le l k
  have ht := h
  obtain ⟨hh, T, v, f, u, hTI, hps⟩ := ht
  refine retH_i _ (fun K' hk' => h.pairs h3 (by omega) hk') (retA_i _ (c_find l k hrow.sort (by omega)) (refA_i (ldO_i hTI.ht ?_)))
  dsimp only
  refine slcA_z (a := 0) (b := lb l k) rfl rfl (Nat.zero_le _) hle ?_
  rw [sub_zero, Nat.sub_zero]
  have r1 := hrow.sub (List.take_sublist (lb l k) l)
  have r2 := hrow.sub (List.drop_sublist (lb l k) l)
  have e1 : loadC (o : Int) (l.take (lb l k)) = 0 := by
    unfold loadC; rw [if_neg (by rw [isRowB_iff.2 r1]; simp; omega), if_neg (by simp; omega)]
  have e2 : loadC (o : Int) (l.drop (lb l k)) = 0 := by
    unfold loadC; rw [if_neg (by rw [isRowB_iff.2 r2]; simp; omega), if_neg (by simp; omega)]
  refine c_load _ _ (by simp; omega) (fun h => absurd e1 h) fun _ q1 t1 n1 H1 hq1 _ _ _ _ ht1 hn1 hne1 hf1 hT1 => ⟨rfl, ifF rfl ?_⟩
  obtain rfl : o = q1 := by omega
  have ht1' : H1 t = some ⟨TRk, (some n, (T.id : Int), (o : Int), (l.length : Int))⟩ := by rw [hf1 t (by rw [hTI.ht]; rfl)]; exact hTI.ht
  refine refA_i (ldO_i ht1' ?_)
  dsimp only
  refine slcA_z (a := lb l k) (b := l.length) rfl rfl hle (Nat.le_refl _) ?_
  rw [sub_to_end]
  refine c_load _ _ (by simp; omega) (fun h => absurd e2 h) fun _ q2 t2 n2 H2 hq2 _ _ _ _ ht2 hn2 hne2 hf2 hT2 => ⟨rfl, ifF rfl ?_⟩
  obtain rfl : o = q2 := by omega
  have hs1 := hT1.some
  refine k1 hm t1 n1 t2 n2 H2 (hf1.trans hf2) ht1 hn1 (hf1.none ht2) (hf1.none hn2) hne1 hne2 ?_ ?_ ?_ ?_ (hT1.keep hf2) hT2
  · exact fun e => by rw [e, ht2] at hs1; cases hs1.1
  · exact fun e => by rw [e, hn2] at hs1; cases hs1.1
  · exact fun e => by rw [e, ht2] at hs1; cases hs1.2
  · exact fun e => by rw [e, hn2] at hs1; cases hs1.2)
theorem c_cut_nil {H : HP} (k : Key) {K : HT [(false, .ref), (false, .ref), (false, .one .any)] → HP → Prop} (hk : K (none, none, eC 1, ()) H) : C49 none k H K := callA49 _ _ _ _ (by
  unfold A49
  exact ifT rfl hk)
theorem c_has {H : HP} {t n o : Nat} {l : List Pr} (h : TreeIs H t n o l (l.length : Int)) (h3 : 3 ≤ o) (h16 : o ≤ 16) (hb : l.length ≤ 1000) {K : HT [(false, .one .bool)] → HP → Prop} (hk : ∀ x H', H x = none → Fm [x] H H' → K (true, ()) H') : C48 (some t) (o : Int) l H K := callA48 _ _ _ _ _ (by
  unfold A48
  obtain ⟨hh, T, v, f, u, hTI, hps⟩ := h
  rw [← hps] at hTI hb
  refine c_tsound hTI rfl h3 h16 hb fun x lv nx hx => ifF rfl ?_
  have hne1 : t ≠ x := fun e => by rw [← e, hTI.ht] at hx; cases hx
  have ht1 : (H.set x LFk (some t, lv, nx, allP T, ((ids T).length : Int), ((hh + 1 : Nat) : Int), false)) t = some ⟨TRk, (some n, (T.id : Int), (o : Int), ((allP T).length : Int))⟩ := by rw [set_ne _ _ _ hne1]; exact hTI.ht
  refine refA_i (ldO_i ht1 (ifT (by simp) (refA_i (ldO_i (set_eq _ _ _ _) (retA_i _ (c_pairs (allP T) l) (ifT (decide_eq_true hps) ?_))))))
  refine retH_i _ (fun K' hk' => c_over (set_eq _ _ _ _) ht1 hTI.sz h3 h16 (by omega) hk') ?_
  exact hk x _ hx ((Fm.refl _ _).set (by simp) _ _))
set_option maxRecDepth 10000 in
theorem c_up11 : S46 (true, ()) := pure_forget rfl fun H => callA46 _ _ (by
  unfold A46
  refine byteA_c (by decide) (by decide) (byteA_c (by decide) (by decide) (byteA_c (by decide) (by decide) ?_))
  refine c_made 3 _ (fun h => by omega) fun q t n H1 hq h3 h16 ht hn hne hfm hT => byteA_c (by decide) (by decide) ?_
  have hcap : capOf [([UInt8.ofNat (97 : Int).toNat], []), ([UInt8.ofNat (98 : Int).toNat], []), ([UInt8.ofNat (99 : Int).toNat], [])] = [([97], []), ([98], []), ([99], [])] := by decide
  rw [hcap] at hT
  have hlb : lb [([97], []), ([98], []), ([99], [])] [UInt8.ofNat (98 : Int).toNat] = 1 := by decide
  refine c_cut hT h3 h16 (by simp) _ (fun h => by cases h) fun _ t1 n1 t2 n2 H2 hf2 _ _ _ _ _ _ _ _ _ _ hT1 hT2 => byteA_c (by decide) (by decide) (c_cut_nil _ ?_)
  rw [hlb] at hT1 hT2
  obtain ⟨_, _, _, _, _, i1, _⟩ := hT1
  obtain ⟨_, _, _, _, _, i2, _⟩ := hT2
  refine ifF rfl (ifF rfl ⟨rfl, ifF rfl (er_self (ifT rfl (refA_i (ldO_i i1.ht (ifT rfl (refA_i (ldO_i i2.ht ⟨?_, rfl⟩)))))))⟩)
  exact fun m hm => ((show FmN H H1 from fm_new ht hn hfm).trans hf2) m hm)
end Go.Proofs.Ytdglfbeddbcbpaa
set_option linter.unusedSimpArgs false
set_option linter.unusedVariables false
namespace Go.Proofs.Ytdglfbeddbcbpaa
open Go Go.Gp Go.Ga Go.Th
theorem c_load' {H : HP} (oi : Int) (l : List Pr) (hb : l.length ≤ 100000) {K : HT [(false, .ref), (false, .one .any)] → HP → Prop}
    (k : ∀ p e H', FmN H H' → (loadC oi l ≠ 0 → p = none ∧ e = eC (loadC oi l)) → (loadC oi l = 0 → ∃ (q : Nat) (t n : Nat), oi = q ∧ 3 ≤ q ∧ q ≤ 16 ∧ IsRow l ∧ l.length ≤ 1000 ∧ p = some t ∧ e = .nilIface ∧ H t = none ∧ H n = none ∧ t ≠ n ∧ TreeIs H' t n q l (l.length : Int)) → K (p, e, ()) H') : C47 oi l H K :=
  c_load oi l hb (fun hbad H1 hf1 => k _ _ _ hf1 (fun _ => ⟨rfl, rfl⟩) fun h => absurd h hbad) fun hz q t n H1 hq h3 h16 hrow hl1 ht hn hne hfm hT => k _ _ _ hfm (fun h => absurd hz h) fun _ => ⟨q, t, n, hq, h3, h16, hrow, hl1, rfl, rfl, ht, hn, hne, hT⟩
end Go.Proofs.Ytdglfbeddbcbpaa

