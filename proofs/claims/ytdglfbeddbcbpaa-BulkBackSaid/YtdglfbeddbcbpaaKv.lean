/-
  Kv: texts of ours, one behind the other: Tt5, Tt6.
-/
import Derived.Test.YtdglfbeddbcbpaaKt
set_option linter.unusedSimpArgs false
set_option linter.unusedVariables false
namespace Go.Th
open Go Go.Gp
/-! ### Even parts -/
def partsN (n most : Nat) : Nat := if 1 < (n + most - 1) / most then (n + most - 1) / most else 1
def sizesN (n most : Nat) : List Nat := (List.range (partsN n most)).map fun i => (n + i) / partsN n most
theorem partsN_pos (n most : Nat) : 1 ≤ partsN n most := by unfold partsN; split <;> omega
theorem sum_div (p : Nat) (hp : 0 < p) : ∀ n, ((List.range p).map fun i => (n + i) / p).sum = n := by
  have key : ∀ (m n : Nat), ((List.range m).map fun i => (n + 1 + i) / p).sum + n / p = ((List.range m).map fun i => (n + i) / p).sum + (n + m) / p := by
    intro m
    induction m with
    | zero => intro n; simp
    | succ m ih =>
      intro n
      rw [List.range_succ, List.map_append, List.map_append, List.sum_append, List.sum_append]
      have := ih n
      simp only [List.map_cons, List.map_nil, List.sum_cons, List.sum_nil]
      rw [show n + 1 + m = n + (m + 1) from by omega]
      omega
  intro n
  induction n with
  | zero =>
    have : ∀ m, m ≤ p → ((List.range m).map fun i => (0 + i) / p).sum = 0 := by
      intro m
      induction m with
      | zero => intro _; simp
      | succ m ih =>
        intro hm
        rw [List.range_succ, List.map_append, List.sum_append, ih (by omega)]
        simp only [List.map_cons, List.map_nil, List.sum_cons, List.sum_nil]
        rw [Nat.div_eq_of_lt (by omega)]; rfl
    exact this p (Nat.le_refl _)
  | succ n ih =>
    have := key p n
    rw [ih, Nat.add_div_right n hp] at this
    omega
theorem sizes_sum (n most : Nat) : (sizesN n most).sum = n := sum_div _ (partsN_pos n most) n
theorem sizes_len (n most : Nat) : (sizesN n most).length = partsN n most := by simp [sizesN]
theorem parts_up {n most : Nat} (hm : 1 ≤ most) : n ≤ partsN n most * most := by
  have h1 : n + most - 1 < ((n + most - 1) / most + 1) * most := by rw [Nat.add_mul, Nat.one_mul]; have := Nat.div_add_mod (n + most - 1) most; have := Nat.mod_lt (n + most - 1) (show 0 < most by omega); rw [Nat.mul_comm]; omega
  rw [Nat.add_mul, Nat.one_mul] at h1
  unfold partsN
  split
  · omega
  · rename_i h
    have h2 : (n + most - 1) / most * most ≤ 1 * most := Nat.mul_le_mul_right _ (by omega)
    omega
theorem parts_low {n most : Nat} (hm : 1 ≤ most) (h : 2 ≤ partsN n most) : (partsN n most - 1) * most < n := by
  have h1 := Nat.div_mul_le_self (n + most - 1) most
  unfold partsN at h ⊢
  split at h
  · rename_i hc
    rw [if_pos hc, Nat.sub_mul, Nat.one_mul]
    have : 1 * most ≤ (n + most - 1) / most * most := Nat.mul_le_mul_right _ (by omega)
    omega
  · omega
theorem parts_one {n most : Nat} (hm : 1 ≤ most) : partsN n most = 1 ↔ n ≤ most := by
  constructor
  · intro h; have := parts_up (n := n) hm; rw [h] at this; omega
  · intro h
    rcases Nat.lt_or_ge (partsN n most) 2 with h1 | h1
    · have := partsN_pos n most; omega
    · have h2 := parts_low hm h1
      have h3 : 1 * most ≤ (partsN n most - 1) * most := Nat.mul_le_mul_right _ (by omega)
      omega
theorem sizes_mem {n most s : Nat} (hm : 1 ≤ most) (h : s ∈ sizesN n most) : s ≤ most ∧ (2 ≤ partsN n most → (most + 1) / 2 ≤ s) := by
  unfold sizesN at h
  obtain ⟨i, hi, rfl⟩ := List.mem_map.1 h
  rw [List.mem_range] at hi
  have hp := partsN_pos n most
  have hu := parts_up (n := n) hm
  refine ⟨?_, fun h2 => ?_⟩
  · have : (n + i) / partsN n most < most + 1 := by
      rw [Nat.div_lt_iff_lt_mul hp, Nat.add_mul, Nat.one_mul, Nat.mul_comm most]
      omega
    omega
  · have hl := parts_low hm h2
    rw [Nat.le_div_iff_mul_le hp]
    generalize partsN n most = p at *
    obtain ⟨q, rfl⟩ : ∃ q, p = q + 2 := ⟨p - 2, by omega⟩
    rw [show q + 2 - 1 = q + 1 from rfl, Nat.add_mul, Nat.one_mul] at hl
    have h3 : 2 * ((most + 1) / 2) ≤ most + 1 := by omega
    have h4 : 2 * ((most + 1) / 2 * (q + 2)) ≤ (most + 1) * (q + 2) := by
      rw [← Nat.mul_assoc]; exact Nat.mul_le_mul_right _ h3
    have h5 : (most + 1) * (q + 2) = most * q + 2 * most + q + 2 := by rw [Nat.add_mul, Nat.mul_add]; omega
    have h6 : q ≤ most * q := by
      have := Nat.mul_le_mul_right q hm
      omega
    rw [Nat.mul_comm q most] at hl
    omega
/-- A row is cut into parts of such sizes. -/
def chunks {α : Type} : List Nat → List α → List (List α)
  | [], _ => []
  | n :: ns, l => l.take n :: chunks ns (l.drop n)
theorem chunks_flat {α : Type} : ∀ {ns : List Nat} {l : List α}, ns.sum = l.length → (chunks ns l).flatten = l
  | [], l, h => by
    have : l = [] := List.eq_nil_of_length_eq_zero (by simpa using h.symm)
    subst this; rfl
  | n :: ns, l, h => by
    simp only [List.sum_cons] at h
    simp only [chunks, List.flatten_cons]
    rw [chunks_flat (by rw [List.length_drop]; omega), List.take_append_drop]
theorem chunks_mem {α : Type} : ∀ {ns : List Nat} {l : List α}, ns.sum = l.length → ∀ g ∈ chunks ns l, g.length ∈ ns
  | [], l, h, g, hg => by simp [chunks] at hg
  | n :: ns, l, h, g, hg => by
    simp only [List.sum_cons] at h
    simp only [chunks, List.mem_cons] at hg
    rcases hg with rfl | hg
    · rw [List.length_take, Nat.min_eq_left (by omega)]; simp
    · exact List.mem_cons_of_mem _ (chunks_mem (by rw [List.length_drop]; omega) g hg)
theorem chunks_len {α : Type} : ∀ (ns : List Nat) (l : List α), (chunks ns l).length = ns.length
  | [], _ => rfl
  | n :: ns, l => by simp [chunks, chunks_len ns]
/-! ### Items with keys between -/
def tailL : List (Key × List It) → List It
  | [] => []
  | e :: r => .s e.1 :: (e.2 ++ tailL r)
def seqL : List (Key × List It) → List It
  | [] => []
  | e :: r => e.2 ++ tailL r
theorem tailL_app : ∀ (a b : List (Key × List It)), tailL (a ++ b) = tailL a ++ tailL b
  | [], b => rfl
  | e :: a, b => by simp [tailL, tailL_app a b]
theorem inter_seq : ∀ (r : List (Key × List It)) (x : List It), inter (r.map (·.1)) (x :: r.map (·.2)) = x ++ tailL r
  | [], x => by simp [inter, tailL]
  | e :: r, x => by
    simp only [List.map_cons, inter, tailL]
    rw [inter_seq r e.2]
theorem seq_groups : ∀ {gs : List (List (Key × List It))}, (∀ g ∈ gs, g ≠ []) → seqL (gs.map fun g => ((g.head?.map (·.1)).getD [], seqL g)) = seqL gs.flatten := by
  have key : ∀ {gs : List (List (Key × List It))}, (∀ g ∈ gs, g ≠ []) → tailL (gs.map fun g => ((g.head?.map (·.1)).getD [], seqL g)) = tailL gs.flatten := by
    intro gs
    induction gs with
    | nil => intro _; rfl
    | cons g gs ih =>
      intro h
      cases g with
      | nil => exact absurd rfl (h [] (by simp))
      | cons e r =>
        simp only [List.map_cons, List.flatten_cons, tailL, tailL_app]
        rw [ih fun g hg => h g (by simp [hg])]
        simp [seqL]
  intro gs h
  cases gs with
  | nil => rfl
  | cons g gs =>
    cases g with
    | nil => exact absurd rfl (h [] (by simp))
    | cons e r =>
      show (seqL (e :: r)) ++ tailL (gs.map fun g => ((g.head?.map (·.1)).getD [], seqL g)) = e.2 ++ tailL (r ++ gs.flatten)
      rw [key fun g hg => h g (by simp [hg]), tailL_app]
      show (e.2 ++ tailL r) ++ tailL gs.flatten = _
      rw [List.append_assoc]
theorem prs_tail : ∀ (es : List (Key × List It)), prs (tailL es) = (es.map fun e => prs e.2).flatten
  | [] => rfl
  | e :: r => by simp [tailL, prs, prs_app, prs_tail r]
theorem prs_seq (es : List (Key × List It)) : prs (seqL es) = (es.map fun e => prs e.2).flatten := by
  cases es with
  | nil => rfl
  | cons e r => simp [seqL, prs_app, prs_tail]
/-- Rows one behind the other, the first key of each but the first between. -/
def rowsK (gs : List (List Pr)) : List (Key × List It) := gs.map fun g => ((g.head?.map (·.1)).getD [], g.map .p)
theorem ord_rows : ∀ {gs : List (List Pr)}, (∀ g ∈ gs, g ≠ []) → SortK (keys gs.flatten) → Ord (seqL (rowsK gs)) ∧ ∀ (q : Pr), (∀ p ∈ gs.flatten, lessL q.1 p.1 = true) → Ord (.p q :: tailL (rowsK gs))
  | [], _, _ => ⟨List.Pairwise.nil, fun q _ => by simp [rowsK, tailL, Ord]⟩
  | g :: gs, hne, hs => by
    have hflat : (g :: gs).flatten = g ++ gs.flatten := rfl
    rw [hflat, keys_append, sortK_append] at hs
    obtain ⟨h1, h2, h3⟩ := hs
    have ih := ord_rows (fun x hx => hne x (by simp [hx])) h2
    have hp1 := sortK_keys.1 h1
    have hgp : (g.map It.p).Pairwise Ro := by rw [List.pairwise_map]; exact hp1
    have hk3 : ∀ a ∈ g, ∀ b ∈ gs.flatten, lessL a.1 b.1 = true := fun a ha b hb => h3 a.1 (List.mem_map.2 ⟨a, ha, rfl⟩) b.1 (List.mem_map.2 ⟨b, hb, rfl⟩)
    -- what stands behind is behind each of g's
    have hbeh : ∀ (q : Pr), (∀ p ∈ gs.flatten, lessL q.1 p.1 = true) → ∀ y ∈ tailL (rowsK gs), Ro (.p q) y := fun q hq y hy => (List.pairwise_cons.1 (ih.2 q hq)).1 y hy
    have hseq : Ord (seqL (rowsK (g :: gs))) := by
      show (g.map It.p ++ tailL (rowsK gs)).Pairwise Ro
      refine List.pairwise_append.2 ⟨hgp, ?_, fun x hx y hy => ?_⟩
      · -- what stands behind is in order: a pair ahead of all is put before it
        have : g ≠ [] := hne g (by simp)
        obtain ⟨a, ha⟩ := List.exists_mem_of_ne_nil g this
        exact (List.pairwise_cons.1 (ih.2 a fun p hp => hk3 a ha p hp)).2
      · obtain ⟨a, ha, rfl⟩ := List.mem_map.1 hx
        exact hbeh a (fun p hp => hk3 a ha p hp) y hy
    refine ⟨hseq, fun q hq => ?_⟩
    cases g with
    | nil => exact absurd rfl (hne [] (by simp))
    | cons a g =>
      have hqa : lessL q.1 a.1 = true := hq a (by simp)
      show ((It.p q) :: (.s a.1 :: ((It.p a :: g.map It.p) ++ tailL (rowsK gs)))).Pairwise Ro
      have hq2 : Ord ([] ++ .p q :: .p a :: (g.map It.p ++ tailL (rowsK gs))) := by
        show ((It.p q) :: (It.p a :: (g.map It.p ++ tailL (rowsK gs)))).Pairwise Ro
        refine List.pairwise_cons.2 ⟨fun y hy => ?_, hseq⟩
        rcases List.mem_cons.1 hy with rfl | hy
        · exact hqa
        · rcases List.mem_append.1 hy with hy | hy
          · obtain ⟨b, hb, rfl⟩ := List.mem_map.1 hy
            exact hq b (by simp [hb])
          · exact hbeh q (fun p hp => hq p (by rw [hflat]; exact List.mem_append.2 (.inr hp))) y hy
      exact ord_sep hq2
end Go.Th
set_option linter.unusedSimpArgs false
set_option linter.unusedVariables false
namespace Go.Th
open Go Go.Gp
def itsF {h : Nat} (es : List (Key × Tr h)) : List (Key × List It) := es.map fun e => (e.1, fl e.2)
def idsF {h : Nat} (es : List (Key × Tr h)) : List Nat := (es.map fun e => ids e.2).flatten
def lvsF {h : Nat} (es : List (Key × Tr h)) : List (Nat × List Pr) := (es.map fun e => lvs e.2).flatten
/-- Trees of one height, in order, a key ahead of each. -/
structure Fo (f : Nat → Option Nod) (u o : Nat) {h : Nat} (es : List (Key × Tr h)) (l : List Pr) : Prop where
  rep : ∀ e ∈ es, Rep f e.2
  nd : (idsF es).Nodup
  seg : Seg f (lvsF es) (-1)
  ord : Ord (seqL (itsF es))
  ok : ∀ x ∈ seqL (itsF es), ItOk x
  used : u = (idsF es).length
  pr : prs (seqL (itsF es)) = l
  one : es.length = 1 → ∀ e ∈ es, Sz o ((.top : Ctx h h).lo o) o e.2
  two : es.length ≠ 1 → ∀ e ∈ es, Sz o (o / 2) o e.2
  ne : es ≠ []
theorem Fo.mid {f : Nat → Option Nod} {u o h : Nat} {e : Key × Tr h} {l : List Pr} (F : Fo f u o [e] l) : Mid f u e.2 ∧ Sz o ((.top : Ctx h h).lo o) o e.2 ∧ allP e.2 = l := by
  have h1 : idsF [e] = ids e.2 := by simp [idsF]
  have h2 : lvsF [e] = lvs e.2 := by simp [lvsF]
  have h3 : seqL (itsF [e]) = fl e.2 := by simp [itsF, seqL, tailL]
  refine ⟨⟨F.rep e (by simp), by rw [← h1]; exact F.nd, by rw [← h2]; exact F.seg, by rw [← h3]; exact F.ord, by rw [← h3]; exact F.ok, by rw [← h1]; exact F.used⟩, F.one rfl e (by simp), by rw [← prs_fl, ← h3]; exact F.pr⟩
/-- A node over some, with its number. -/
def mkN {h : Nat} (d : List (Key × Tr h) × Nat) : Key × Tr (h + 1) := ((d.1.head?.map (·.1)).getD [], Tr.nd d.2 (d.1.tail.map (·.1)) (d.1.map (·.2)))
theorem fl_mkN {h : Nat} {d : List (Key × Tr h) × Nat} (hd : d.1 ≠ []) : fl (mkN d).2 = seqL (itsF d.1) := by
  obtain ⟨g, q⟩ := d
  cases g with
  | nil => exact absurd rfl hd
  | cons e r =>
    show inter (r.map (·.1)) ((e.2 :: r.map (·.2)).map fl) = fl e.2 ++ tailL (itsF r)
    rw [← inter_seq]
    simp [itsF]
    rfl
theorem Fo.over {f f' : Nat → Option Nod} {u o h : Nat} {es : List (Key × Tr h)} {l : List Pr} (F : Fo f u o es l) (h2 : 2 ≤ es.length) {ds : List (List (Key × Tr h) × Nat)} (hfl : (ds.map (·.1)).flatten = es)
    (hsz : ∀ d ∈ ds, d.1.length ≤ o + 1 ∧ d.1 ≠ [] ∧ (ds.length ≠ 1 → o / 2 + 1 ≤ d.1.length)) (hq : (ds.map (·.2)).Nodup) (hdis : ∀ d ∈ ds, d.2 ∉ idsF es) (hf : ∀ j ∈ idsF es, f' j = f j)
    (hn : ∀ d ∈ ds, ∃ ps nx, f' d.2 = some (false, ps, d.1.tail.map (·.1), d.1.map (fun e => (e.2.id : Int)), nx)) : Fo f' (u + ds.length) o (ds.map mkN) l := by
  have hmem : ∀ d ∈ ds, ∀ e ∈ d.1, e ∈ es := fun d hd e he => by
    rw [← hfl]; exact List.mem_flatten.2 ⟨_, List.mem_map.2 ⟨d, hd, rfl⟩, he⟩
  have hidm : ∀ e ∈ es, ∀ j ∈ ids e.2, j ∈ idsF es := fun e he j hj => List.mem_flatten.2 ⟨_, List.mem_map.2 ⟨e, he, rfl⟩, hj⟩
  have hidn : ∀ d : List (Key × Tr h) × Nat, ids (mkN d).2 = d.2 :: idsF d.1 := fun d => by simp [mkN, idsF, List.map_map, Function.comp_def]
  have hlvn : ∀ d : List (Key × Tr h) × Nat, lvs (mkN d).2 = lvsF d.1 := fun d => by simp [mkN, lvsF, List.map_map, Function.comp_def]
  have hperm : ∀ ds : List (List (Key × Tr h) × Nat), (idsF (ds.map mkN)).Perm (ds.map (·.2) ++ idsF (ds.map (·.1)).flatten) := by
    intro ds
    induction ds with
    | nil => exact List.Perm.refl _
    | cons d ds ih =>
      have e1 : idsF ((d :: ds).map mkN) = d.2 :: (idsF d.1 ++ idsF (ds.map mkN)) := by
        show ids (mkN d).2 ++ idsF (ds.map mkN) = _
        rw [hidn]; rfl
      have e2 : idsF ((d :: ds).map (·.1)).flatten = idsF d.1 ++ idsF (ds.map (·.1)).flatten := by simp [idsF]
      rw [e1, e2, List.map_cons, List.cons_append]
      refine List.Perm.cons _ ((List.Perm.append_left _ ih).trans ?_)
      rw [← List.append_assoc, ← List.append_assoc]
      exact List.Perm.append_right _ List.perm_append_comm
  have hp := hperm ds
  rw [hfl] at hp
  have hlv : lvsF (ds.map mkN) = lvsF es := by
    rw [← hfl]
    have : ∀ ds : List (List (Key × Tr h) × Nat), lvsF (ds.map mkN) = lvsF (ds.map (·.1)).flatten := by
      intro ds
      induction ds with
      | nil => rfl
      | cons d ds ih =>
        show lvs (mkN d).2 ++ lvsF (ds.map mkN) = _
        rw [hlvn, ih]; simp [lvsF]
    exact this ds
  have hseq : seqL (itsF (ds.map mkN)) = seqL (itsF es) := by
    have e1 : itsF (ds.map mkN) = ((ds.map (·.1)).map itsF).map fun g => ((g.head?.map (·.1)).getD [], seqL g) := by
      unfold itsF
      rw [List.map_map, List.map_map, List.map_map]
      refine List.map_congr_left fun d hd => ?_
      have := fl_mkN (hsz d hd).2.1
      show ((mkN d).1, fl (mkN d).2) = _
      rw [this]
      obtain ⟨g, q⟩ := d
      cases g with
      | nil => exact absurd rfl (hsz _ hd).2.1
      | cons e r => rfl
    rw [e1, seq_groups]
    · rw [← hfl]
      unfold itsF
      rw [List.map_flatten]
    · intro g hg
      obtain ⟨g', hg', rfl⟩ := List.mem_map.1 hg
      obtain ⟨d, hd, rfl⟩ := List.mem_map.1 hg'
      intro e
      exact (hsz d hd).2.1 (by unfold itsF at e; simpa using e)
  have hk : ∀ e ∈ es, Sz o (o / 2) o e.2 := F.two (by omega)
  refine ⟨fun e he => ?_, ?_, ?_, by rw [hseq]; exact F.ord, by rw [hseq]; exact F.ok, ?_, by rw [hseq]; exact F.pr, fun h1 e he => ?_, fun h1 e he => ?_, ?_⟩
  · obtain ⟨d, hd, rfl⟩ := List.mem_map.1 he
    obtain ⟨ps, nx, h4⟩ := hn d hd
    refine rep_nd.2 ⟨⟨ps, nx, by rw [h4]; simp [List.map_map, Function.comp_def]⟩, fun x hx => ?_⟩
    obtain ⟨e, he, rfl⟩ := List.mem_map.1 hx
    exact rep_congr (fun j hj => (hf j (hidm e (hmem d hd e he) j hj)).symm) (F.rep e (hmem d hd e he))
  · refine (hp.nodup_iff).2 (List.nodup_append.2 ⟨hq, F.nd, fun a ha b hb e => ?_⟩)
    obtain ⟨d, hd, rfl⟩ := List.mem_map.1 ha
    exact hdis d hd (by rw [e]; exact hb)
  · rw [hlv]
    refine seg_congr (fun a ha => ?_) F.seg
    obtain ⟨_, hm, ha⟩ := List.mem_flatten.1 ha
    obtain ⟨e, he, rfl⟩ := List.mem_map.1 hm
    unfold nxt
    rw [hf _ (hidm e he _ (lvs_ids _ a ha))]
  · rw [hp.length_eq, List.length_append, List.length_map, F.used]; omega
  · obtain ⟨d, hd, rfl⟩ := List.mem_map.1 he
    rw [List.length_map] at h1
    obtain ⟨d', rfl⟩ := List.length_eq_one_iff.1 h1
    have hd' : d = d' := by simpa using hd
    subst hd'
    have e1 : d.1 = es := by simpa using hfl
    have h5 := (hsz d hd).1
    rw [e1] at h5
    refine sz_nd.2 ⟨?_, ?_, ?_, fun x hx => ?_⟩
    · simp [Ctx.lo, e1]; omega
    · simp [e1]; omega
    · simp [e1]; omega
    · obtain ⟨e, he, rfl⟩ := List.mem_map.1 hx
      exact hk e (hmem d hd e he)
  · obtain ⟨d, hd, rfl⟩ := List.mem_map.1 he
    rw [List.length_map] at h1
    obtain ⟨h5, h6, h7⟩ := hsz d hd
    have h7 := h7 h1
    refine sz_nd.2 ⟨?_, ?_, ?_, fun x hx => ?_⟩
    · simp; omega
    · simp; omega
    · simp; omega
    · obtain ⟨e, he, rfl⟩ := List.mem_map.1 hx
      exact hk e (hmem d hd e he)
  · intro e
    have h5 : ds = [] := by simpa using e
    rw [h5] at hfl
    rw [← hfl] at h2; simp at h2
/-- Leaves of a row's parts. -/
def mkL (d : List Pr × Nat) : Key × Tr 0 := ((d.1.head?.map (·.1)).getD [], Tr.lf d.2 d.1)
theorem Fo.leaves {f : Nat → Option Nod} {o : Nat} {l : List Pr} (hl : IsRow l) {ds : List (List Pr × Nat)} (hne : ds ≠ []) (hfl : (ds.map (·.1)).flatten = l) (hsz : ∀ d ∈ ds, d.1.length ≤ o ∧ (ds.length ≠ 1 → d.1 ≠ [] ∧ o / 2 ≤ d.1.length))
    (hq : (ds.map (·.2)).Nodup) (hf : ∀ d ∈ ds, ∃ ks kd nx, f d.2 = some (true, d.1, ks, kd, nx)) (hseg : Seg f (ds.map fun d => (d.2, d.1)) (-1)) : Fo f ds.length o (ds.map mkL) l := by
  have hid : idsF (ds.map mkL) = ds.map (·.2) := by
    clear hne hfl hsz hq hf hseg
    induction ds with
    | nil => rfl
    | cons d ds ih => show ids (mkL d).2 ++ idsF (ds.map mkL) = _; rw [ih]; rfl
  have hlv : lvsF (ds.map mkL) = ds.map fun d => (d.2, d.1) := by
    clear hne hfl hsz hq hf hseg hid
    induction ds with
    | nil => rfl
    | cons d ds ih => show lvs (mkL d).2 ++ lvsF (ds.map mkL) = _; rw [ih]; rfl
  have hit : itsF (ds.map mkL) = rowsK (ds.map (·.1)) := by
    unfold itsF rowsK
    rw [List.map_map, List.map_map]; rfl
  have hpr : prs (seqL (itsF (ds.map mkL))) = l := by
    rw [prs_seq, hit, ← hfl]
    unfold rowsK
    rw [List.map_map]
    congr 1
    refine (List.map_congr_left fun g _ => ?_).trans (List.map_id _)
    exact prs_map g
  have hord : Ord (seqL (itsF (ds.map mkL))) := by
    rw [hit]
    by_cases h1 : ds.length = 1
    · obtain ⟨d, rfl⟩ := List.length_eq_one_iff.1 h1
      have e : d.1 = l := by simpa using hfl
      show (d.1.map It.p ++ []).Pairwise Ro
      rw [List.append_nil, List.pairwise_map, e]
      exact sortK_keys.1 hl.sort
    · refine (ord_rows (fun g hg => ?_) (by rw [hfl]; exact hl.sort)).1
      obtain ⟨d, hd, rfl⟩ := List.mem_map.1 hg
      exact ((hsz d hd).2 h1).1
  refine ⟨fun e he => ?_, by rw [hid]; exact hq, by rw [hlv]; exact hseg, hord, fun x hx => ?_, by rw [hid, List.length_map], hpr, fun h1 e he => ?_, fun h1 e he => ?_, by simpa using hne⟩
  · obtain ⟨d, hd, rfl⟩ := List.mem_map.1 he
    exact hf d hd
  · -- keys between are keys of pairs
    cases x with
    | p a =>
      have : a ∈ l := by rw [← hpr]; exact prs_mem.2 hx
      exact ⟨hl.may a this, hl.fair a this⟩
    | s k =>
      have key : ∀ gs : List (List Pr), (∀ g ∈ gs, g ≠ []) → It.s k ∈ tailL (rowsK gs) → ∃ p ∈ gs.flatten, p.1 = k := by
        intro gs
        induction gs with
        | nil => intro _ h; simp [rowsK, tailL] at h
        | cons g gs ih =>
          intro hne h
          cases g with
          | nil => exact absurd rfl (hne [] (by simp))
          | cons a g =>
            have h : It.s k ∈ (.s a.1 :: ((It.p a :: g.map It.p) ++ tailL (rowsK gs))) := h
            simp only [List.mem_cons, List.mem_append, List.mem_map] at h
            rcases h with h | (h | ⟨_, _, h⟩) | h
            · injection h with h; exact ⟨a, by simp, h.symm⟩
            · cases h
            · cases h
            · obtain ⟨p, hp, e⟩ := ih (fun g hg => hne g (by simp [hg])) h
              exact ⟨p, by simp only [List.flatten_cons, List.mem_append]; exact .inr hp, e⟩
      have hex : ∃ p ∈ l, p.1 = k := by
        rw [hit] at hx
        cases hds : ds with
        | nil => exact absurd hds hne
        | cons d r =>
          rw [hds] at hx
          have hx : It.s k ∈ d.1.map It.p ++ tailL (rowsK (r.map (·.1))) := hx
          rcases List.mem_append.1 hx with hx | hx
          · obtain ⟨_, _, h⟩ := List.mem_map.1 hx; cases h
          · have hr : r ≠ [] := fun e => by subst e; simp [rowsK, tailL] at hx
            obtain ⟨p, hp, e⟩ := key (r.map (·.1)) (fun g hg => by
              obtain ⟨d', hd', rfl⟩ := List.mem_map.1 hg
              refine ((hsz d' (by rw [hds]; simp [hd'])).2 ?_).1
              rw [hds]
              cases r with
              | nil => exact absurd rfl hr
              | cons _ _ => simp) hx
            refine ⟨p, ?_, e⟩
            rw [← hfl, hds]
            simp only [List.map_cons, List.flatten_cons, List.mem_append]
            exact .inr hp
      obtain ⟨p, hp, rfl⟩ := hex
      exact hl.may p hp
  · obtain ⟨d, hd, rfl⟩ := List.mem_map.1 he
    exact sz_lf.2 ⟨by simp [Ctx.lo], (hsz d hd).1⟩
  · obtain ⟨d, hd, rfl⟩ := List.mem_map.1 he
    rw [List.length_map] at h1
    exact sz_lf.2 ⟨((hsz d hd).2 h1).2, (hsz d hd).1⟩
end Go.Th

