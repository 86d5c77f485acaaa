/-
  Ku: texts of ours, one behind the other: Tt7, Tt8.
-/
import Derived.Test.YtdglfbeddbcbpaaKt
set_option linter.unusedSimpArgs false
set_option linter.unusedVariables false
namespace Go.Th
open Go Go.Gp
structure Swp (f f' : Nat → Option Nod) {h : Nat} (t t' : Tr h) (g : List Nat) : Prop where
  id : t'.id = t.id
  perm : (g ++ ids t').Perm (ids t)
  ord : ∀ A B, Ord (A ++ fl t ++ B) → Ord (A ++ fl t' ++ B)
  ok : (∀ x ∈ fl t, ItOk x) → ∀ x ∈ fl t', ItOk x
  prs : prs (fl t') = prs (fl t)
  rep : Rep f' t'
  seg : ∀ A B e, (∀ a ∈ A ++ B, nxt f a.1 = nxt f' a.1) → Seg f (A ++ lvs t ++ B) e → Seg f' (A ++ lvs t' ++ B) e
  same : ∀ j, j ∉ ids t → f' j = f j
theorem Mid.swap {f f' : Nat → Option Nod} {u o h H : Nat} {c : Ctx h H} {t t' : Tr h} {g : List Nat} (m : Mid f u (plug c t)) (hc : c.Sz o) (s : Swp f f' t t' g) : Mid f' (u - g.length) (plug c t') ∧ allP (plug c t') = allP (plug c t) := by
  have hperm := plug_ids c t
  have hperm' := plug_ids c t'
  have hnd : (c.ids ++ ids t).Nodup := (hperm.nodup_iff).1 m.nd
  have hndt : (c.ids ++ (g ++ ids t')).Nodup := ((List.Perm.append_left c.ids s.perm).nodup_iff).2 hnd
  have hne : ∀ j ∈ c.ids, j ∉ ids t := fun j hj hm => (List.nodup_append.1 hnd).2.2 j hj j hm rfl
  have hr := (plug_rep c _).1 m.rep
  refine ⟨⟨(plug_rep c _).2 ⟨?_, s.rep⟩, (hperm'.nodup_iff).2 (hndt.sublist (List.Sublist.append_left (List.sublist_append_right _ _) _)), ?_, ?_, ?_, ?_⟩, ?_⟩
  · rw [s.id]; exact crep_congr (fun j hj => (s.same j (hne j hj)).symm) hr.1
  · have hs := m.seg
    rw [plug_lvs] at hs ⊢
    refine s.seg _ _ _ (fun a ha => ?_) hs
    have := ll_ids c a ha
    unfold nxt
    rw [s.same _ (hne _ this)]
  · have := m.ord
    rw [plug_fl c _ hc] at this ⊢
    exact s.ord _ _ this
  · have hok := m.ok
    rw [plug_fl c _ hc] at hok ⊢
    intro x hx
    simp only [List.mem_append] at hx hok
    rcases hx with (hx | hx) | hx
    · exact hok x (.inl (.inl hx))
    · exact s.ok (fun y hy => hok y (.inl (.inr hy))) x hx
    · exact hok x (.inr hx)
  · have h1 := s.perm.length_eq
    rw [m.used, hperm.length_eq, hperm'.length_eq, List.length_append, List.length_append]
    rw [List.length_append] at h1
    omega
  · rw [← prs_fl, ← prs_fl, plug_fl c _ hc, plug_fl c _ hc]
    simp only [prs_app, s.prs]
section
variable {h : Nat} {i : Nat} {ka kb : List Key} {A B : List (Tr h)}
theorem fl_two (hl : ka.length = A.length) (k : Key) (a b : Tr h) : fl (Tr.nd i (ka ++ k :: kb) (A ++ a :: b :: B)) = pre ka (A.map fl) ++ (fl a ++ .s k :: fl b) ++ suf kb (B.map fl) := by
  simp only [fl_nd, List.map_append, List.map_cons]
  rw [inter_at _ _ _ (by rw [hl, List.length_map]), suf_cons]
  simp
theorem fl_one (hl : ka.length = A.length) (a : Tr h) : fl (Tr.nd i (ka ++ kb) (A ++ a :: B)) = pre ka (A.map fl) ++ fl a ++ suf kb (B.map fl) := by
  simp only [fl_nd, List.map_append, List.map_cons]
  rw [inter_at _ _ _ (by rw [hl, List.length_map])]
  simp
structure Rot (f f' : Nat → Option Nod) (a : Tr h) (k : Key) (b a' : Tr h) (k' : Key) (b' : Tr h) : Prop where
  id1 : a'.id = a.id
  id2 : b'.id = b.id
  perm : (ids a' ++ ids b').Perm (ids a ++ ids b)
  ord : ∀ X Y, Ord (X ++ (fl a ++ .s k :: fl b) ++ Y) → Ord (X ++ (fl a' ++ .s k' :: fl b') ++ Y)
  ok : (∀ x ∈ fl a ++ .s k :: fl b, ItOk x) → ∀ x ∈ fl a' ++ .s k' :: fl b', ItOk x
  prs : prs (fl a' ++ .s k' :: fl b') = prs (fl a ++ .s k :: fl b)
  rep1 : Rep f' a'
  rep2 : Rep f' b'
  seg : ∀ X Y e, (∀ a ∈ X ++ Y, nxt f a.1 = nxt f' a.1) → Seg f (X ++ (lvs a ++ lvs b) ++ Y) e → Seg f' (X ++ (lvs a' ++ lvs b') ++ Y) e
theorem kids_ids (a b : Tr h) : ids (Tr.nd i ka (A ++ a :: b :: B)) = i :: ((A.map ids).flatten ++ (ids a ++ ids b) ++ (B.map ids).flatten) := by simp
theorem kid_ids (a : Tr h) : ids (Tr.nd i ka (A ++ a :: B)) = i :: ((A.map ids).flatten ++ ids a ++ (B.map ids).flatten) := by simp
theorem kids_lvs (a b : Tr h) : lvs (Tr.nd i ka (A ++ a :: b :: B)) = (A.map lvs).flatten ++ (lvs a ++ lvs b) ++ (B.map lvs).flatten := by simp
theorem kid_lvs (a : Tr h) : lvs (Tr.nd i ka (A ++ a :: B)) = (A.map lvs).flatten ++ lvs a ++ (B.map lvs).flatten := by simp
theorem lvs_kids {x : Nat × List Pr} {l : List (Tr h)} (hx : x ∈ (l.map lvs).flatten) : x.1 ∈ (l.map ids).flatten := by
  obtain ⟨y, hy, hxy⟩ := List.mem_flatten.1 hx
  obtain ⟨t, ht, rfl⟩ := List.mem_map.1 hy
  exact mem_kid ht (lvs_ids t x hxy)
theorem Rot.swp {f f' : Nat → Option Nod} {a b a' b' : Tr h} {k k' : Key} {ps : List Pr} {nx : Int} (r : Rot f f' a k b a' k' b') (hl : ka.length = A.length) (hr : Rep f (Tr.nd i (ka ++ k :: kb) (A ++ a :: b :: B))) (hnd : (ids (Tr.nd i (ka ++ k :: kb) (A ++ a :: b :: B))).Nodup)
    (hi : f' i = some (false, ps, ka ++ k' :: kb, (A ++ a :: b :: B).map (fun k => (k.id : Int)), nx)) (hs : ∀ j, j ≠ i → j ∉ ids a → j ∉ ids b → f' j = f j) : Swp f f' (Tr.nd i (ka ++ k :: kb) (A ++ a :: b :: B)) (Tr.nd i (ka ++ k' :: kb) (A ++ a' :: b' :: B)) [] := by
  rw [kids_ids] at hnd
  obtain ⟨hni, hnd⟩ := List.nodup_cons.1 hnd
  have hdA : ∀ j ∈ (A.map ids).flatten, f' j = f j := fun j hj => by
    have h1 := (List.nodup_append.1 (List.nodup_append.1 hnd).1).2.2 j hj
    refine hs j (fun e => hni (by rw [← e]; simp [hj])) (fun hm => h1 j (by simp [hm]) rfl) fun hm => h1 j (by simp [hm]) rfl
  have hdB : ∀ j ∈ (B.map ids).flatten, f' j = f j := fun j hj => by
    have h1 := (List.nodup_append.1 hnd).2.2
    refine hs j (fun e => hni (by rw [← e]; simp [hj])) (fun hm => h1 j (by simp [hm]) j hj rfl) fun hm => h1 j (by simp [hm]) j hj rfl
  obtain ⟨_, hk⟩ := rep_nd.1 hr
  refine ⟨rfl, ?_, fun X Y ho => ?_, fun hok => ?_, ?_, ?_, fun X Y e hc hse => ?_, fun j hj => ?_⟩
  · rw [kids_ids, kids_ids, List.nil_append]
    exact List.Perm.cons _ (List.Perm.append_right _ (List.Perm.append_left _ r.perm))
  · rw [fl_two hl] at ho ⊢
    have := r.ord (X ++ pre ka (A.map fl)) (suf kb (B.map fl) ++ Y) (by simpa using ho)
    simpa using this
  · rw [fl_two hl] at hok ⊢
    intro x hx
    simp only [List.mem_append] at hx
    rcases hx with (hx | hx) | hx
    · exact hok x (by simp [hx])
    · exact r.ok (fun y hy => hok y (by rw [List.mem_append, List.mem_append]; exact .inl (.inr hy))) x (by rw [List.mem_append]; exact hx)
    · exact hok x (by simp [hx])
  · rw [fl_two hl, fl_two hl]
    simp only [prs_app _ (suf _ _), prs_app (pre _ _), r.prs]
  · refine rep_nd.2 ⟨⟨ps, nx, ?_⟩, fun x hx => ?_⟩
    · rw [hi]; simp [r.id1, r.id2]
    · rcases List.mem_append.1 hx with hx | hx
      · exact rep_congr (fun j hj => (hdA j (mem_kid hx hj)).symm) (hk x (by simp [hx]))
      · rcases List.mem_cons.1 hx with rfl | hx
        · exact r.rep1
        · rcases List.mem_cons.1 hx with rfl | hx
          · exact r.rep2
          · exact rep_congr (fun j hj => (hdB j (mem_kid hx hj)).symm) (hk x (by simp [hx]))
  · rw [kids_lvs] at hse ⊢
    have := r.seg (X ++ (A.map lvs).flatten) ((B.map lvs).flatten ++ Y) e (fun x hx => ?_) (by simpa using hse)
    · simpa using this
    · simp only [List.mem_append] at hx
      rcases hx with (hx | hx) | (hx | hx)
      · exact hc x (by simp [hx])
      · unfold nxt; rw [hdA _ (lvs_kids hx)]
      · unfold nxt; rw [hdB _ (lvs_kids hx)]
      · exact hc x (by simp [hx])
  · rw [kids_ids] at hj
    simp only [List.mem_cons, List.mem_append, not_or] at hj
    exact hs j hj.1 hj.2.1.2.1 hj.2.1.2.2
structure Mrg (f f' : Nat → Option Nod) (a : Tr h) (k : Key) (b m : Tr h) : Prop where
  id : m.id = a.id
  perm : (b.id :: ids m).Perm (ids a ++ ids b)
  ord : ∀ X Y, Ord (X ++ (fl a ++ .s k :: fl b) ++ Y) → Ord (X ++ fl m ++ Y)
  ok : (∀ x ∈ fl a ++ .s k :: fl b, ItOk x) → ∀ x ∈ fl m, ItOk x
  prs : Th.prs (fl m) = Th.prs (fl a ++ .s k :: fl b)
  rep : Rep f' m
  seg : ∀ X Y e, (∀ a ∈ X ++ Y, nxt f a.1 = nxt f' a.1) → Seg f (X ++ (lvs a ++ lvs b) ++ Y) e → Seg f' (X ++ lvs m ++ Y) e
theorem Mrg.swp {f f' : Nat → Option Nod} {a b m : Tr h} {k : Key} {ps : List Pr} {nx : Int} (r : Mrg f f' a k b m) (hl : ka.length = A.length) (hr : Rep f (Tr.nd i (ka ++ k :: kb) (A ++ a :: b :: B))) (hnd : (ids (Tr.nd i (ka ++ k :: kb) (A ++ a :: b :: B))).Nodup)
    (hi : f' i = some (false, ps, ka ++ kb, (A ++ a :: B).map (fun k => (k.id : Int)), nx)) (hs : ∀ j, j ≠ i → j ∉ ids a → j ∉ ids b → f' j = f j) : Swp f f' (Tr.nd i (ka ++ k :: kb) (A ++ a :: b :: B)) (Tr.nd i (ka ++ kb) (A ++ m :: B)) [b.id] := by
  rw [kids_ids] at hnd
  obtain ⟨hni, hnd⟩ := List.nodup_cons.1 hnd
  have hdA : ∀ j ∈ (A.map ids).flatten, f' j = f j := fun j hj => by
    have h1 := (List.nodup_append.1 (List.nodup_append.1 hnd).1).2.2 j hj
    refine hs j (fun e => hni (by rw [← e]; simp [hj])) (fun hm => h1 j (by simp [hm]) rfl) fun hm => h1 j (by simp [hm]) rfl
  have hdB : ∀ j ∈ (B.map ids).flatten, f' j = f j := fun j hj => by
    have h1 := (List.nodup_append.1 hnd).2.2
    refine hs j (fun e => hni (by rw [← e]; simp [hj])) (fun hm => h1 j (by simp [hm]) j hj rfl) fun hm => h1 j (by simp [hm]) j hj rfl
  obtain ⟨_, hk⟩ := rep_nd.1 hr
  refine ⟨rfl, ?_, fun X Y ho => ?_, fun hok => ?_, ?_, ?_, fun X Y e hc hse => ?_, fun j hj => ?_⟩
  · rw [kids_ids, kid_ids]
    refine (List.Perm.swap _ _ _).trans (List.Perm.cons _ ?_)
    refine (List.Perm.trans ?_ (List.Perm.append_right ((B.map ids).flatten) (List.Perm.append_left ((A.map ids).flatten) r.perm)))
    rw [List.append_assoc, List.append_assoc]
    exact List.perm_middle.symm
  · rw [fl_two hl] at ho
    rw [fl_one hl]
    have := r.ord (X ++ pre ka (A.map fl)) (suf kb (B.map fl) ++ Y) (by simpa using ho)
    simpa using this
  · rw [fl_two hl] at hok
    rw [fl_one hl]
    intro x hx
    simp only [List.mem_append] at hx
    rcases hx with (hx | hx) | hx
    · exact hok x (by simp [hx])
    · exact r.ok (fun y hy => hok y (by rw [List.mem_append, List.mem_append]; exact .inl (.inr hy))) x hx
    · exact hok x (by simp [hx])
  · rw [fl_two hl, fl_one hl]
    simp only [prs_app _ (suf _ _), prs_app (pre _ _), r.prs]
  · refine rep_nd.2 ⟨⟨ps, nx, ?_⟩, fun x hx => ?_⟩
    · rw [hi]; simp [r.id]
    · rcases List.mem_append.1 hx with hx | hx
      · exact rep_congr (fun j hj => (hdA j (mem_kid hx hj)).symm) (hk x (by simp [hx]))
      · rcases List.mem_cons.1 hx with rfl | hx
        · exact r.rep
        · exact rep_congr (fun j hj => (hdB j (mem_kid hx hj)).symm) (hk x (by simp [hx]))
  · rw [kids_lvs] at hse
    rw [kid_lvs]
    have := r.seg (X ++ (A.map lvs).flatten) ((B.map lvs).flatten ++ Y) e (fun x hx => ?_) (by simpa using hse)
    · simpa using this
    · simp only [List.mem_append] at hx
      rcases hx with (hx | hx) | (hx | hx)
      · exact hc x (by simp [hx])
      · unfold nxt; rw [hdA _ (lvs_kids hx)]
      · unfold nxt; rw [hdB _ (lvs_kids hx)]
      · exact hc x (by simp [hx])
  · rw [kids_ids] at hj
    simp only [List.mem_cons, List.mem_append, not_or] at hj
    exact hs j hj.1 hj.2.1.2.1 hj.2.1.2.2
end
end Go.Th
set_option linter.unusedSimpArgs false
set_option linter.unusedVariables false
namespace Go.Th
open Go Go.Gp
theorem ord_drop {X Y : List It} {k : Key} {a b : List It} (h : Ord (X ++ (a ++ .s k :: b) ++ Y)) : Ord (X ++ (a ++ b) ++ Y) :=
  List.Pairwise.sublist (List.Sublist.append_right (List.Sublist.append_left (List.Sublist.append_left (List.sublist_cons_self _ _) _) _) _) h
theorem rot_leaf {f f' : Nat → Option Nod} {ia ib : Nat} {pa pb pa' pb' : List Pr} {k : Key} {y : Pr} (e : pa ++ pb = pa' ++ y :: pb') (hne : pa' ≠ []) {ks1 ks2 ks3 ks4 : List Key} {kd1 kd2 kd3 kd4 : List Int} {n1 n2 : Int}
    (h1 : f ia = some (true, pa, ks1, kd1, n1)) (h2 : f ib = some (true, pb, ks2, kd2, n2)) (h3 : f' ia = some (true, pa', ks3, kd3, n1)) (h4 : f' ib = some (true, y :: pb', ks4, kd4, n2)) : Rot f f' (Tr.lf ia pa) k (Tr.lf ib pb) (Tr.lf ia pa') y.1 (Tr.lf ib (y :: pb')) := by
  have x1 : nxt f ia = nxt f' ia := by unfold nxt; rw [h1, h3]
  have x2 : nxt f ib = nxt f' ib := by unfold nxt; rw [h2, h4]
  refine ⟨rfl, rfl, by simp, fun X Y ho => ?_, fun hok x hx => ?_, ?_, ⟨_, _, _, h3⟩, ⟨_, _, _, h4⟩, fun X Y e hc hs => ?_⟩
  · have h5 := ord_drop ho
    simp only [fl_lf] at h5 ⊢
    rw [← List.map_append, e] at h5
    rcases List.eq_nil_or_concat pa' with h0 | ⟨qa, q, rfl⟩
    · exact absurd h0 hne
    · have := ord_sep (A := X ++ qa.map .p) (q := q) (p := y) (B := pb'.map .p ++ Y) (by simpa using h5)
      simpa using this
  · simp only [fl_lf] at hok hx
    have hp : ∀ p ∈ pa ++ pb, ItOk (.p p) := fun p hp => hok _ (by
      rcases List.mem_append.1 hp with hp | hp
      · exact List.mem_append.2 (.inl (List.mem_map.2 ⟨p, hp, rfl⟩))
      · exact List.mem_append.2 (.inr (List.mem_cons.2 (.inr (List.mem_map.2 ⟨p, hp, rfl⟩)))))
    rw [e] at hp
    simp only [List.mem_append, List.mem_cons, List.mem_map] at hx
    rcases hx with ⟨p, hx, rfl⟩ | rfl | ⟨p, hx, rfl⟩
    · exact hp p (by simp [hx])
    · exact (hp y (by simp)).1
    · exact hp p (by simp only [List.mem_append, List.mem_cons]; exact .inr hx)
  · simp only [fl_lf, prs_app, prs_map, prs]
    exact e.symm
  · simp only [lvs_lf] at hs ⊢
    have h5 : Seg f (X ++ ([(ia, pa')] ++ [(ib, y :: pb')]) ++ Y) e := by
      rw [seg_app, seg_app] at hs ⊢
      simpa [Seg, hd] using hs
    refine seg_congr (fun a ha => ?_) h5
    simp only [List.mem_append, List.mem_singleton, List.cons_append, List.nil_append, List.mem_cons, List.not_mem_nil, or_false] at ha
    rcases ha with (ha | rfl | rfl) | ha
    · exact hc a (by simp [ha])
    · exact x1
    · exact x2
    · exact hc a (by simp [ha])
theorem mrg_leaf {f f' : Nat → Option Nod} {ia ib : Nat} {pa pb : List Pr} {k : Key} {ks1 ks2 ks3 : List Key} {kd1 kd2 kd3 : List Int} {n1 n2 : Int}
    (h1 : f ia = some (true, pa, ks1, kd1, n1)) (h2 : f ib = some (true, pb, ks2, kd2, n2)) (h3 : f' ia = some (true, pa ++ pb, ks3, kd3, n2)) : Mrg f f' (Tr.lf ia pa) k (Tr.lf ib pb) (Tr.lf ia (pa ++ pb)) := by
  refine ⟨rfl, List.Perm.swap _ _ _, fun X Y ho => ?_, fun hok x hx => ?_, ?_, ⟨_, _, _, h3⟩, fun X Y e hc hs => ?_⟩
  · have h5 := ord_drop ho
    simpa using h5
  · simp only [fl_lf, List.map_append] at hok hx
    exact hok x (by rcases List.mem_append.1 hx with hx | hx <;> simp [hx])
  · simp only [fl_lf, List.map_append, prs_app, prs_map, prs]
  · simp only [lvs_lf] at hs ⊢
    rw [seg_app, seg_app] at hs
    have hs2 : Seg f X ia ∧ (nxt f ia = ib ∧ nxt f ib = hd Y e) ∧ Seg f Y e := by simpa [Seg, hd, and_assoc] using hs
    obtain ⟨s1, ⟨_, s3⟩, s4⟩ := hs2
    have x1 : nxt f' ia = nxt f ib := by unfold nxt; rw [h2, h3]
    have t1 := seg_congr (g := f') (fun a ha => hc a (by simp [ha])) s1
    have t4 := seg_congr (g := f') (fun a ha => hc a (by simp [ha])) s4
    rw [seg_app, seg_app]
    simp only [Seg, hd, and_true]
    exact ⟨⟨t1, by rw [x1]; exact s3⟩, t4⟩
theorem inter_glue : ∀ {ka : List Key} {La : List (List It)} {k : Key} {kb : List Key} {Lb : List (List It)}, La.length = ka.length + 1 → inter (ka ++ k :: kb) (La ++ Lb) = inter ka La ++ .s k :: inter kb Lb
  | [], [x], k, kb, Lb, _ => by simp [inter]
  | c :: ka, x :: La, k, kb, Lb, h => by
    simp only [List.cons_append, inter, List.append_assoc]
    rw [inter_glue (by simpa using h)]
  | [], [], _, _, _, h => by simp at h
  | [], _ :: _ :: _, _, _, _, h => by simp at h
  | _ :: _, [], _, _, _, h => by simp at h
section
variable {f f' : Nat → Option Nod} {h ia ib : Nat} {ka kb : List Key} {k : Key} {La Lb : List (Tr h)}
theorem fl_glue {m : Nat} (hl : La.length = ka.length + 1) : fl (Tr.nd m (ka ++ k :: kb) (La ++ Lb)) = fl (Tr.nd ia ka La) ++ .s k :: fl (Tr.nd ib kb Lb) := by
  simp only [fl_nd, List.map_append]
  exact inter_glue (by simpa using hl)
theorem kids_keep (hnd : (ids (Tr.nd ia ka La) ++ ids (Tr.nd ib kb Lb)).Nodup) (hs : ∀ j, j ≠ ia → j ≠ ib → j ∈ ids (Tr.nd ia ka La) ++ ids (Tr.nd ib kb Lb) → f' j = f j) {x : Tr h} (hx : x ∈ La ++ Lb) : ∀ j ∈ ids x, f' j = f j := fun j hj => by
  simp only [ids_nd] at hnd hs
  have hm : j ∈ ((La ++ Lb).map ids).flatten := mem_kid hx hj
  simp only [List.map_append, List.flatten_append, List.mem_append] at hm
  refine hs j (fun e => ?_) (fun e => ?_) (by simp only [List.mem_append, List.mem_cons]; rcases hm with hm | hm <;> simp [hm])
  · subst e
    rcases hm with hm | hm
    · exact (List.nodup_cons.1 (List.nodup_append.1 hnd).1).1 hm
    · exact (List.nodup_append.1 hnd).2.2 j (by simp) j (by simp [hm]) rfl
  · subst e
    rcases hm with hm | hm
    · exact (List.nodup_append.1 hnd).2.2 j (by simp [hm]) j (by simp) rfl
    · exact (List.nodup_cons.1 (List.nodup_append.1 hnd).2.1).1 hm
theorem seg_kids (hnd : (ids (Tr.nd ia ka La) ++ ids (Tr.nd ib kb Lb)).Nodup) (hs : ∀ j, j ≠ ia → j ≠ ib → j ∈ ids (Tr.nd ia ka La) ++ ids (Tr.nd ib kb Lb) → f' j = f j) {X Y : List (Nat × List Pr)} {e : Int} (hc : ∀ a ∈ X ++ Y, nxt f a.1 = nxt f' a.1) (h : Seg f (X ++ ((La ++ Lb).map lvs).flatten ++ Y) e) : Seg f' (X ++ ((La ++ Lb).map lvs).flatten ++ Y) e := by
  refine seg_congr (fun a ha => ?_) h
  simp only [List.mem_append] at ha
  rcases ha with (ha | ha) | ha
  · exact hc a (by simp [ha])
  · obtain ⟨y, hy, hxy⟩ := List.mem_flatten.1 ha
    obtain ⟨t, ht, rfl⟩ := List.mem_map.1 hy
    unfold nxt
    rw [kids_keep hnd hs ht _ (lvs_ids t a hxy)]
  · exact hc a (by simp [ha])
theorem rot_node {ka' kb' : List Key} {k' : Key} {La' Lb' : List (Tr h)} (eK : ka ++ k :: kb = ka' ++ k' :: kb') (eL : La ++ Lb = La' ++ Lb') (hl : La.length = ka.length + 1) (hl' : La'.length = ka'.length + 1)
    (r1 : Rep f (Tr.nd ia ka La)) (r2 : Rep f (Tr.nd ib kb Lb)) (hnd : (ids (Tr.nd ia ka La) ++ ids (Tr.nd ib kb Lb)).Nodup) (hs : ∀ j, j ≠ ia → j ≠ ib → j ∈ ids (Tr.nd ia ka La) ++ ids (Tr.nd ib kb Lb) → f' j = f j)
    {ps1 ps2 : List Pr} {n1 n2 : Int} (h3 : f' ia = some (false, ps1, ka', La'.map (fun k => (k.id : Int)), n1)) (h4 : f' ib = some (false, ps2, kb', Lb'.map (fun k => (k.id : Int)), n2)) :
    Rot f f' (Tr.nd ia ka La) k (Tr.nd ib kb Lb) (Tr.nd ia ka' La') k' (Tr.nd ib kb' Lb') := by
  have efl : fl (Tr.nd ia ka' La') ++ .s k' :: fl (Tr.nd ib kb' Lb') = fl (Tr.nd ia ka La) ++ .s k :: fl (Tr.nd ib kb Lb) := by
    rw [← fl_glue (m := ia) hl, ← fl_glue (m := ia) hl', eK, eL]
  have elv : ∀ (a b : Nat) (x y : List Key) (P Q : List (Tr h)), lvs (Tr.nd a x P) ++ lvs (Tr.nd b y Q) = ((P ++ Q).map lvs).flatten := fun a b x y P Q => by simp
  have hkid : ∀ x ∈ La ++ Lb, Rep f' x := fun x hx => by
    have h0 : Rep f x := by
      rcases List.mem_append.1 hx with hx | hx
      · exact (rep_nd.1 r1).2 x hx
      · exact (rep_nd.1 r2).2 x hx
    exact rep_congr (fun j hj => (kids_keep hnd hs hx j hj).symm) h0
  refine ⟨rfl, rfl, ?_, fun X Y ho => by rw [efl]; exact ho, fun hok => by rw [efl]; exact hok, by rw [efl], rep_nd.2 ⟨⟨_, _, h3⟩, fun x hx => hkid x (by rw [eL]; simp [hx])⟩, rep_nd.2 ⟨⟨_, _, h4⟩, fun x hx => hkid x (by rw [eL]; simp [hx])⟩, fun X Y e hc hse => ?_⟩
  · have hp : ∀ (P Q : List (Tr h)), (ids (Tr.nd ia ka P) ++ ids (Tr.nd ib kb Q)).Perm (ia :: ib :: ((P ++ Q).map ids).flatten) := fun P Q => by
      simp only [ids_nd, List.map_append, List.flatten_append, List.cons_append]
      exact List.Perm.cons _ List.perm_middle
    have h1 := hp La' Lb'
    rw [← eL] at h1
    exact h1.trans (hp La Lb).symm
  · rw [elv] at hse ⊢
    rw [← eL]
    exact seg_kids hnd hs hc hse
theorem mrg_node (hl : La.length = ka.length + 1) (r1 : Rep f (Tr.nd ia ka La)) (r2 : Rep f (Tr.nd ib kb Lb)) (hnd : (ids (Tr.nd ia ka La) ++ ids (Tr.nd ib kb Lb)).Nodup) (hs : ∀ j, j ≠ ia → j ≠ ib → j ∈ ids (Tr.nd ia ka La) ++ ids (Tr.nd ib kb Lb) → f' j = f j)
    {ps1 : List Pr} {n1 : Int} (h3 : f' ia = some (false, ps1, ka ++ k :: kb, (La ++ Lb).map (fun k => (k.id : Int)), n1)) : Mrg f f' (Tr.nd ia ka La) k (Tr.nd ib kb Lb) (Tr.nd ia (ka ++ k :: kb) (La ++ Lb)) := by
  have efl : fl (Tr.nd ia (ka ++ k :: kb) (La ++ Lb)) = fl (Tr.nd ia ka La) ++ .s k :: fl (Tr.nd ib kb Lb) := fl_glue hl
  refine ⟨rfl, ?_, fun X Y ho => by rw [efl]; exact ho, fun hok => by rw [efl]; exact hok, by rw [efl], rep_nd.2 ⟨⟨_, _, h3⟩, fun x hx => ?_⟩, fun X Y e hc hse => ?_⟩
  · simp only [ids_nd, id_nd, List.map_append, List.flatten_append, List.cons_append]
    exact (List.Perm.swap _ _ _).trans (List.Perm.cons _ List.perm_middle.symm)
  · have h0 : Rep f x := by
      rcases List.mem_append.1 hx with hx | hx
      · exact (rep_nd.1 r1).2 x hx
      · exact (rep_nd.1 r2).2 x hx
    exact rep_congr (fun j hj => (kids_keep hnd hs hx j hj).symm) h0
  · rw [show lvs (Tr.nd ia ka La) ++ lvs (Tr.nd ib kb Lb) = ((La ++ Lb).map lvs).flatten from by simp] at hse
    rw [show lvs (Tr.nd ia (ka ++ k :: kb) (La ++ Lb)) = ((La ++ Lb).map lvs).flatten from rfl]
    exact seg_kids hnd hs hc hse
end
end Go.Th
