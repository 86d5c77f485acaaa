/-
  The arena (layer 7): a node is copied.
-/
import Derived.Test.YtbaclnddcobdmaaArena1
set_option linter.unusedSimpArgs false
set_option linter.unusedVariables false
namespace Go.Proofs.Ytbaclnddcobdmaa
open Go Go.Gp
theorem copied_spec {A : Nat → Prop} {W : World} {x : NdX} {n : Nd} (hn : NdA A W x n) (hsm : n.Small) {K : (Bool × Sl × Sl × Sl × Int × Unit) × Unit → World → Prop}
    (hk : ∀ y W', NdA (newA W W') W' y n → Keeps [] W W' → K ((y.1, y.2.1, y.2.2.1, y.2.2.2.1, y.2.2.2.2, ()), ()) W') :
    callG Try.prog 95 [.agg ⟨ndC x⟩] [.agg [.bool, .sl, .sl, .sl, .int .i64]] W K := by
  refine call95 x.1 x.2.1 x.2.2.1 x.2.2.2.1 x.2.2.2.2 W K ?_
  unfold G95
  refine new_blk fun b1 W1 hb1 k1 e1 => new_blk fun b2 W2 hb2 k2 e2 => ?_
  have l1 := e1.lt
  have l2 := e2.lt
  have z1 := k1.size
  have z2 := k2.size
  have k02 := k1.trans k2
  obtain ⟨iP, hiP, hzP, hsP, hbP⟩ := nPair
  obtain ⟨iB, hiB, hzB, hsB, hbB⟩ := nBytes
  refine JoinG.rule (fun v w => ∃ bo r, v = (⟨b1, 0, none⟩, ⟨b2, 0, none⟩, ⟨bo, 0, none⟩, ()) ∧ CP W w W2.heap.size b1 b2 bo x ⟨none, 0, 0⟩ ⟨none, 0, 0⟩ r [] [] [] [] n.kids) ?_ ?_
  · rintro v w ⟨bo, r, rfl, cp⟩ j
    dsimp only
    rw [addr0]
    refine ld_sl (by rw [cp.e1.cell]; rfl) ?_
    dsimp only
    have hpl := hn.prs.len
    have hkl := hn.kys.len
    have s1 := hsm.p
    have s2 := hsm.k
    refine LoopG.rule (fun v w => ∃ (i : Nat) (q : Sl) (ys : List (Sl × Sl)), i ≤ n.pairs.length ∧ v = (⟨b1, 0, none⟩, ⟨b2, 0, none⟩, ⟨bo, 0, none⟩, x.2.1, ((x.2.1.len : Nat) : Int), (i : Int), ()) ∧ CP W w W2.heap.size b1 b2 bo x q ⟨none, 0, 0⟩ r ys [] (n.pairs.take i) [] n.kids)
      (fun v _ => n.pairs.length - v.2.2.2.2.2.1.toNat) ⟨0, _, _, Nat.zero_le _, rfl, cp⟩ ?_
    clear cp
    rintro v w ⟨i, q, ys, hi, rfl, cp⟩ C hC j
    dsimp only
    have hyl := cp.yl
    rw [List.length_take] at hyl
    have hql := cp.oq.len
    rw [flat_len (k := 2) prC (fun _ => rfl)] at hql
    refine ifD (fun hlt => ?_) fun hge => ?_
    · -- one pair more
      have hil : i < n.pairs.length := by omega
      obtain ⟨xs, hxl, hrs, hrel⟩ := (hn.prs.kp cp.k (by simp)).row
      have hxi : i < xs.length := by omega
      have hc0 : (xs.flatMap prC)[i * 2 + 0]? = some xs[i].1.val := by rw [flat_get (k := 2) prC (fun _ => rfl) _ _ _ (by decide), List.getElem?_eq_getElem hxi]; rfl
      have hc1 : (xs.flatMap prC)[i * 2 + 1]? = some xs[i].2.val := by rw [flat_get (k := 2) prC (fun _ => rfl) _ _ _ (by decide), List.getElem?_eq_getElem hxi]; rfl
      obtain ⟨p, hp, hcp⟩ := hrs.at_ _ _ hc0
      obtain ⟨p', hp', hcp'⟩ := hrs.at_ _ _ hc1
      rw [hp] at hp'
      injection hp' with hp'
      subst hp'
      obtain ⟨rk, rv⟩ := hrel i _ _ (List.getElem?_eq_getElem hxi) (List.getElem?_eq_getElem hil)
      obtain ⟨sm1, sm2⟩ := hsm.pb _ (List.getElem_mem hil)
      refine ⟨p, hp, by omega, by omega, ?_⟩
      rw [Int.toNat_natCast]
      refine ldN_intro (xs[i].1, xs[i].2, ()) ⟨by rw [Addr.add_zero']; exact hcp, by rw [addr_add_add]; exact hcp', trivial⟩ ?_
      refine new_blk fun m W3 hm k3 e3 => stP e3 fun W4 k4 e4 => drw_intro fun W5 k5 bk => ?_
      have e5 := bk _ _ _ e4
      have k35 : Keeps [m] w W5 := (k3.nil.trans k4).trans k5.nil
      have hmS : ∀ b ∈ [m], w.heap.size ≤ b := by simp [hm]
      have cp5 := cp.far k35 hmS
      have hmw : w.heap.size = m := hm.symm
      refine ⟨fun U => U.cell? ⟨bo, 1, none⟩ = some q.val ∧ U.cell? ⟨m, 0, none⟩ = some xs[i].1.val ∧ U.cell? ⟨m, 1, none⟩ = some xs[i].2.val, ⟨cp5.eo.cell 1, e5.cell 0, e5.cell 1⟩, ?_⟩
      simp only [addr0]
      refine ldS_sl (fun u hu => hu.1) (ldS_sl (fun u hu => hu.2.1) (ldS_sl (fun u hu => hu.2.2) ?_))
      have rk5 := rk.bs.keep0 (k3.push (k4.trans k5.nil) (by simp [hm]))
      have rv5 := rv.bs.keep0 (k3.push (k4.trans k5.nil) (by simp [hm]))
      refine bclone_spec rk5 (by omega) fun c1 W6 a6 k6 _ => ?_
      have cp6 := cp5.far k6 (by simp)
      have e6 := e5.keep k6 (by simp)
      refine ⟨⟨cp6.eo.cell 1, e6.cell 0, e6.cell 1⟩, ?_⟩
      refine bclone_spec (rv5.keep0 k6) (by omega) fun c2 W7 a7 k7 _ => ?_
      have cp7 := cp6.far k7 (by simp)
      have e7 := e6.keep k7 (by simp)
      refine ⟨⟨cp7.eo.cell 1, e7.cell 0, e7.cell 1⟩, ?_⟩
      refine new_blk fun m2 W8 hm2 k8 e8 => ?_
      have cp8 := cp7.far k8 (by simp)
      have e78 := e7.keep k8 (by simp)
      refine ⟨⟨cp8.eo.cell 1, e78.cell 0, e78.cell 1⟩, ?_⟩
      have dsk := cp8.dq
      have hloq := cp8.oq.lt
      have hbo := cp8.eo.lt
      obtain ⟨d1, d2, d3, d4, d5, d6, d7⟩ := cp8.d
      refine app_own' u72 hiP hzP hsP hbP rfl (by decide) cp8.oq [c1.val, c2.val] rfl (fun j u hj => by rw [addr0, e8.cell]; exact hj) (by simp [Value.oneCell']) (by omega) (by omega) (Nat.zero_le _) fun q' W9 o9 k9 l9 hs9 _ => ?_
      have bon : bo ∉ sblk q := fun h => (dsk _ h).2.1 rfl
      have eo9 := cp8.eo.keep k9 bon
      refine st_blk' eo9 (by simp) fun W10 k10 e10 => ?_
      rw [w64 (by omega) (by omega)]
      -- the regions
      have s89 := k9.size
      have s910 := k10.size
      have k810 : Keeps (bo :: sblk q) W8 W10 := (k9.mono fun b hb => List.mem_cons_of_mem _ hb).trans (k10.mono (by simp))
      have grow := Ex.grow (n := W2.heap.size) (w := W8) (w' := W10) (L := bo :: (sblk q ++ sblk ⟨none, 0, 0⟩)) (L' := bo :: (sblk q' ++ sblk ⟨none, 0, 0⟩)) (Nat.le_trans s89 s910) (fun b hb => by
        simp only [sblk, List.append_nil, List.mem_cons] at hb ⊢
        rcases hb with rfl | hb
        · exact .inl (.inl rfl)
        · rcases hs9 b hb with h | h
          · exact .inl (.inr h)
          · exact .inr h.1)
      have kn : ∀ b ∈ bo :: sblk q, ¬ Ex W2.heap.size W8 (bo :: (sblk q ++ sblk ⟨none, 0, 0⟩)) b := fun b hb he => he.2.2 (by simpa [sblk] using hb)
      have o10 := o9.keep k10 (fun b hb => by
        rcases hs9 b hb with h | h
        · intro hm'; simp at hm'; subst hm'; exact bon h
        · intro hm'; simp at hm'; subst hm'; have := h.1; omega)
      have new6 : ∀ b, newA W5 W6 b → Ex W2.heap.size W6 (bo :: (sblk q ++ sblk ⟨none, 0, 0⟩)) b := Ex.ofNew (by have := cp5.d; omega) (fun b hb => by
        simp only [sblk, List.append_nil, List.mem_cons] at hb
        rcases hb with rfl | hb
        · exact cp5.eo.lt
        · exact (cp5.oq.lt b hb).2)
      have new7 : ∀ b, newA W6 W7 b → Ex W2.heap.size W7 (bo :: (sblk q ++ sblk ⟨none, 0, 0⟩)) b := Ex.ofNew (by have := cp6.d; omega) (fun b hb => by
        simp only [sblk, List.append_nil, List.mem_cons] at hb
        rcases hb with rfl | hb
        · exact cp6.eo.lt
        · exact (cp6.oq.lt b hb).2)
      have gr : ∀ {w w' : World}, w.heap.size ≤ w'.heap.size → ∀ b, Ex W2.heap.size w (bo :: (sblk q ++ sblk ⟨none, 0, 0⟩)) b → Ex W2.heap.size w' (bo :: (sblk q ++ sblk ⟨none, 0, 0⟩)) b := fun h => Ex.grow h fun b hb => .inl hb
      have c1' := ((((a6.mono new6).keep (k7.trans k8) (by simp)).mono (gr (k7.trans k8).size)).keep k810 kn).mono grow
      have c2' := ((((a7.mono new7).keep k8 (by simp)).mono (gr k8.size)).keep k810 kn).mono grow
      have ks810 : ∀ b ∈ bo :: sblk q, W2.heap.size ≤ b := by
        intro b hb
        simp only [List.mem_cons] at hb
        rcases hb with rfl | hb
        · exact d6
        · exact (dsk b hb).1
      have hW : W.heap.size ≤ W2.heap.size := k02.size
      refine hC _ _ ⟨i + 1, q', ys ++ [(c1, c2)], by omega, rfl, ⟨cp8.k.push k810 fun b hb => Nat.le_trans hW (ks810 b hb), ?_, ?_, by simpa using e10, by simpa using o10, cp8.ok.keep k810 (by simp [sblk]), by simp; omega, rfl, ?_, by simp, ((cp8.hr.kp k810 kn).mn grow), ⟨d1, d2, d3, d4, d5, d6, by omega⟩, ?_, by simp [sblk]⟩⟩ (by simp only; omega)
      · exact cp8.e1.keep k810 fun h => by have := ks810 _ h; omega
      · exact cp8.e2.keep k810 fun h => by have := ks810 _ h; omega
      · intro z y pr hy hpr
        rcases (by have := (List.getElem?_eq_some_iff.1 hy).1; simp at this; omega : z < ys.length ∨ z = ys.length) with hz | rfl
        · rw [List.getElem?_append_left hz] at hy
          have hpr' : (n.pairs.take i)[z]? = some pr := by
            rw [List.getElem?_take] at hpr ⊢
            rw [if_pos (by omega)] at hpr
            rw [if_pos (by omega)]
            exact hpr
          obtain ⟨t1, t2⟩ := cp8.hy z y pr hy hpr'
          exact ⟨(t1.keep k810 kn).mono grow, (t2.keep k810 kn).mono grow⟩
        · rw [List.getElem?_append_right (Nat.le_refl _)] at hy
          simp only [Nat.sub_self, List.getElem?_cons_zero, Option.some.injEq] at hy
          subst hy
          rw [List.getElem?_take, if_pos (by omega), show ys.length = i from by omega, List.getElem?_eq_getElem hil] at hpr
          injection hpr with hpr
          subst hpr
          exact ⟨c1', c2'⟩
      · intro b hb
        rcases hs9 b hb with h | h
        · exact dsk b h
        · have h1 := h.1
          exact ⟨by omega, by omega, by simp [sblk]⟩
    · -- all keys
      obtain rfl : i = n.pairs.length := by omega
      rw [List.take_length] at cp
      refine ld_sl (by rw [addr0, cp.e1.cell]; rfl) ?_
      dsimp only
      refine LoopG.rule (fun v w => ∃ (i : Nat) (kq : Sl) (zs : List Sl), i ≤ n.keys.length ∧ v = (⟨b2, 0, none⟩, ⟨bo, 0, none⟩, x.2.2.1, ((x.2.2.1.len : Nat) : Int), (i : Int), ()) ∧ CP W w W2.heap.size b1 b2 bo x q kq r ys zs n.pairs (n.keys.take i) n.kids)
        (fun v _ => n.keys.length - v.2.2.2.2.1.toNat) ⟨0, _, _, Nat.zero_le _, rfl, cp⟩ ?_
      clear cp
      rintro v w ⟨i, kq, zs, hi, rfl, cp⟩ C hC j
      dsimp only
      have hzl := cp.zl
      rw [List.length_take] at hzl
      have hkql := cp.ok.len
      rw [flat_len (k := 1) slC (fun _ => rfl)] at hkql
      refine ifD (fun hlt => ?_) fun hge => ?_
      · have hil : i < n.keys.length := by omega
        obtain ⟨xs, hxl, hrs, hrel⟩ := (hn.kys.kp cp.k (by simp)).row
        have hxi : i < xs.length := by omega
        have hc0 : (xs.flatMap slC)[i * 1 + 0]? = some xs[i].val := by rw [flat_get (k := 1) slC (fun _ => rfl) _ _ _ (by decide), List.getElem?_eq_getElem hxi]; rfl
        obtain ⟨p, hp, hcp⟩ := hrs.at_ _ _ hc0
        have rk := hrel i _ _ (List.getElem?_eq_getElem hxi) (List.getElem?_eq_getElem hil)
        have sm1 := hsm.kb _ (List.getElem_mem hil)
        refine ⟨p, hp, by omega, by omega, ?_⟩
        rw [Int.toNat_natCast]
        refine ld_sl hcp (drw_intro fun W5 k5 bk => ?_)
        have cp5 := cp.far k5 (by simp)
        refine ⟨fun U => U.cell? ⟨bo, 2, none⟩ = some kq.val, cp5.eo.cell 2, ?_⟩
        simp only [addr0]
        refine ldS_sl (fun u hu => hu) ?_
        refine bclone_spec (rk.bs.keep0 k5) (by omega) fun c1 W7 a7 k7 _ => ?_
        have cp7 := cp5.far k7 (by simp)
        refine ⟨cp7.eo.cell 2, ?_⟩
        refine new_blk fun m2 W8 hm2 k8 e8 => ?_
        have cp8 := cp7.far k8 (by simp)
        refine ⟨cp8.eo.cell 2, ?_⟩
        have dsk := cp8.dk
        have dsq := cp8.dq
        have hloq := cp8.oq.lt
        have hlok := cp8.ok.lt
        have hbo := cp8.eo.lt
        obtain ⟨d1, d2, d3, d4, d5, d6, d7⟩ := cp8.d
        refine app_own' u73 hiB hzB hsB hbB rfl (by decide) cp8.ok [c1.val] rfl (fun j u hj => by rw [addr0, e8.cell]; exact hj) (by simp [Value.oneCell']) (by omega) (by omega) (Nat.zero_le _) fun q' W9 o9 k9 l9 hs9 _ => ?_
        have bon : bo ∉ sblk kq := fun h => (dsk _ h).2 rfl
        have eo9 := cp8.eo.keep k9 bon
        refine st_blk' eo9 (by simp) fun W10 k10 e10 => ?_
        rw [w64 (by omega) (by omega)]
        have s89 := k9.size
        have s910 := k10.size
        have k810 : Keeps (bo :: sblk kq) W8 W10 := (k9.mono fun b hb => List.mem_cons_of_mem _ hb).trans (k10.mono (by simp))
        have grow := Ex.grow (n := W2.heap.size) (w := W8) (w' := W10) (L := bo :: (sblk q ++ sblk kq)) (L' := bo :: (sblk q ++ sblk q')) (Nat.le_trans s89 s910) (fun b hb => by
          simp only [List.mem_append, List.mem_cons] at hb ⊢
          rcases hb with rfl | hb | hb
          · exact .inl (.inl rfl)
          · exact .inl (.inr (.inl hb))
          · rcases hs9 b hb with h | h
            · exact .inl (.inr (.inr h))
            · exact .inr h.1)
        have kn : ∀ b ∈ bo :: sblk kq, ¬ Ex W2.heap.size W8 (bo :: (sblk q ++ sblk kq)) b := fun b hb he => he.2.2 (by
          simp only [List.mem_append, List.mem_cons] at hb ⊢
          rcases hb with h | h
          · exact .inl h
          · exact .inr (.inr h))
        have o10 := o9.keep k10 (fun b hb => by
          rcases hs9 b hb with h | h
          · intro hm'; simp at hm'; subst hm'; exact bon h
          · intro hm'; simp at hm'; subst hm'; have := h.1; omega)
        have oq10 := cp8.oq.keep k810 (fun b hb hm' => by
          simp only [List.mem_cons] at hm'
          rcases hm' with rfl | h
          · exact (dsq _ hb).2.1 rfl
          · exact (dsq _ hb).2.2 h)
        have new7 : ∀ b, newA W5 W7 b → Ex W2.heap.size W7 (bo :: (sblk q ++ sblk kq)) b := Ex.ofNew (by have := cp5.d; omega) (fun b hb => by
          simp only [List.mem_append, List.mem_cons] at hb
          rcases hb with rfl | hb | hb
          · exact cp5.eo.lt
          · exact (cp5.oq.lt b hb).2
          · exact (cp5.ok.lt b hb).2)
        have gr : ∀ {w w' : World}, w.heap.size ≤ w'.heap.size → ∀ b, Ex W2.heap.size w (bo :: (sblk q ++ sblk kq)) b → Ex W2.heap.size w' (bo :: (sblk q ++ sblk kq)) b := fun h => Ex.grow h fun b hb => .inl hb
        have c1' := ((((a7.mono new7).keep k8 (by simp)).mono (gr k8.size)).keep k810 kn).mono grow
        have ks810 : ∀ b ∈ bo :: sblk kq, W2.heap.size ≤ b := by
          intro b hb
          simp only [List.mem_cons] at hb
          rcases hb with rfl | hb
          · exact d6
          · exact (dsk b hb).1
        have hW : W.heap.size ≤ W2.heap.size := k02.size
        refine hC _ _ ⟨i + 1, q', zs ++ [c1], by omega, rfl, ⟨cp8.k.push k810 fun b hb => Nat.le_trans hW (ks810 b hb), ?_, ?_, by simpa using e10, oq10, by simpa using o10, cp8.yl, by simp; omega, ?_, ?_, ((cp8.hr.kp k810 kn).mn grow), ⟨d1, d2, d3, d4, d5, d6, by omega⟩, ?_, ?_⟩⟩ (by simp only; omega)
        · exact cp8.e1.keep k810 fun h => by have := ks810 _ h; omega
        · exact cp8.e2.keep k810 fun h => by have := ks810 _ h; omega
        · intro z y pr hy hpr
          obtain ⟨t1, t2⟩ := cp8.hy z y pr hy hpr
          exact ⟨(t1.keep k810 kn).mono grow, (t2.keep k810 kn).mono grow⟩
        · intro z y pr hy hpr
          rcases (by have := (List.getElem?_eq_some_iff.1 hy).1; simp at this; omega : z < zs.length ∨ z = zs.length) with hz | rfl
          · rw [List.getElem?_append_left hz] at hy
            have hpr' : (n.keys.take i)[z]? = some pr := by
              rw [List.getElem?_take] at hpr ⊢
              rw [if_pos (by omega)] at hpr
              rw [if_pos (by omega)]
              exact hpr
            exact ((cp8.hz z y pr hy hpr').keep k810 kn).mono grow
          · rw [List.getElem?_append_right (Nat.le_refl _)] at hy
            simp only [Nat.sub_self, List.getElem?_cons_zero, Option.some.injEq] at hy
            subst hy
            rw [List.getElem?_take, if_pos (by omega), show zs.length = i from by omega, List.getElem?_eq_getElem hil] at hpr
            injection hpr with hpr
            subst hpr
            exact c1'
        · intro b hb
          refine ⟨(dsq b hb).1, (dsq b hb).2.1, fun hm' => ?_⟩
          rcases hs9 b hm' with h | h
          · exact (dsq b hb).2.2 h
          · have := h.1; have := (hloq b hb).2; omega
        · intro b hb
          rcases hs9 b hb with h | h
          · exact dsk b h
          · have h1 := h.1
            exact ⟨by omega, by omega⟩
      · -- the end
        obtain rfl : i = n.keys.length := by omega
        rw [List.take_length] at cp
        obtain ⟨d1, d2, d3, d4, d5, d6, d7⟩ := cp.d
        refine ld5 cp.eo (st5 _ _ _ _ _ cp.e2 fun Wz kz ez => ld5 (x := (x.1, q, kq, r, x.2.2.2.2)) ez ?_)
        have sz := kz.size
        have grow : ∀ b, Ex W2.heap.size w (bo :: (sblk q ++ sblk kq)) b → newA W Wz b := fun b hb => ⟨by have := hb.1; omega, by have := hb.2.1; omega⟩
        have kn : ∀ b ∈ [b2], ¬ Ex W2.heap.size w (bo :: (sblk q ++ sblk kq)) b := fun b hb he => by simp at hb; subst hb; have := he.1; omega
        have oq := cp.oq.keep kz (fun b hb hm' => by simp at hm'; subst hm'; have := (cp.dq _ hb).1; omega)
        have ok := cp.ok.keep kz (fun b hb hm' => by simp at hm'; subst hm'; have := (cp.dk _ hb).1; omega)
        refine hk (x.1, q, kq, r, x.2.2.2.2) Wz ⟨hn.leaf, ?_, ?_, (cp.hr.kp kz kn).mn grow, hn.next⟩ (cp.k.push kz (by simp; omega))
        · refine OwnS.row (f := prC) (k := 2) oq (fun _ => rfl) (by decide) cp.yl (fun b hb => ⟨by have := (cp.dq _ hb).1; omega, (oq.lt b hb).2⟩) fun i y p hy hp => ?_
          obtain ⟨t1, t2⟩ := cp.hy i y p hy hp
          exact ⟨(t1.keep kz kn).mono grow, (t2.keep kz kn).mono grow⟩
        · refine OwnS.row (f := slC) (k := 1) ok (fun _ => rfl) (by decide) cp.zl (fun b hb => ⟨by have := (cp.dk _ hb).1; omega, (ok.lt b hb).2⟩) fun i y p hy hp => ?_
          exact ((cp.hz i y p hy hp).keep kz kn).mono grow
  · intro B hB
    refine drw_intro fun W3 k3 bk => ?_
    have e13 := bk _ _ _ (e1.keep k2 (by simp))
    have e23 := bk _ _ _ e2
    refine ⟨fun U => U.cell? ⟨b1, 0, none⟩ = some (.bool x.1) ∧ U.cell? ⟨b1, 3, none⟩ = some x.2.2.2.1.val ∧ U.cell? ⟨b1, 4, none⟩ = some (.int .i64 x.2.2.2.2), ⟨e13.cell 0, e13.cell 3, e13.cell 4⟩, ?_⟩
    simp only [addr0]
    refine ⟨_, fun u hu => hu.1, ldS_sl (fun u hu => hu.2.1) (ldS_int (fun u hu => hu.2.2) ?_)⟩
    have k03 := k02.trans k3
    have hkid := hn.kids.kp k03 (by simp)
    have z3 := k3.size
    refine ⟨?_, ?_⟩
    · refine iclone_spec hkid (by have := hsm.c; omega) fun r W4 a4 k4 _ => ?_
      have e14 := e13.keep k4 (by simp)
      refine ⟨⟨e14.cell 0, e14.cell 3, e14.cell 4⟩, new_blk fun bo W5 hbo k5 eo => ?_⟩
      have e15 := e14.keep k5 (by simp)
      refine ⟨⟨e15.cell 0, e15.cell 3, e15.cell 4⟩, ?_⟩
      have z4 := k4.size
      have z5 := k5.size
      refine st_blk' eo (by simp) fun V1 q1 f1 => st_blk' f1 (by simp) fun V2 q2 f2 => st_blk' f2 (by simp) fun V3 q3 f3 => st_blk' f3 (by simp) fun V4 q4 f4 => st_blk' f4 (by simp) fun V5 q5 f5 => ?_
      have kq : Keeps [bo] W5 V5 := (((q1.trans q2).trans q3).trans q4).trans q5
      have zq := kq.size
      refine hB _ _ ⟨bo, r, rfl, ((k03.trans k4).trans k5).push kq (by simp; omega), e15.keep kq (by simp; omega), (((e23.keep k4 (by simp)).keep k5 (by simp)).keep kq (by simp; omega)), by simpa using f5, OwnS.nil .., OwnS.nil .., rfl, rfl, by simp, by simp, ?_, ⟨by omega, by omega, by omega, by omega, by omega, by omega, by omega⟩, by simp [sblk], by simp [sblk]⟩
      refine IntsA.mn ((a4.kp k5 (by simp)).kp kq fun b hb he => ?_) fun b hb => ⟨by have := hb.1; omega, by have := hb.2; omega, ?_⟩
      · simp at hb; subst hb; have := he.2; omega
      · simp [sblk]; have := hb.2; omega
    · refine new_blk fun bo W4 hbo k4 eo => ?_
      have e14 := e13.keep k4 (by simp)
      refine ⟨⟨e14.cell 0, e14.cell 3, e14.cell 4⟩, iclone_spec (hkid.kp k4 (by simp)) (by have := hsm.c; omega) fun r W5 a5 k5 _ => ?_⟩
      have e15 := e14.keep k5 (by simp)
      refine ⟨⟨e15.cell 0, e15.cell 3, e15.cell 4⟩, ?_⟩
      have z4 := k4.size
      have z5 := k5.size
      have lbo := eo.lt
      refine st_blk' (eo.keep k5 (by simp)) (by simp) fun V1 q1 f1 => st_blk' f1 (by simp) fun V2 q2 f2 => st_blk' f2 (by simp) fun V3 q3 f3 => st_blk' f3 (by simp) fun V4 q4 f4 => st_blk' f4 (by simp) fun V5 q5 f5 => ?_
      have kq : Keeps [bo] W5 V5 := (((q1.trans q2).trans q3).trans q4).trans q5
      have zq := kq.size
      refine hB _ _ ⟨bo, r, rfl, ((k03.trans k4).trans k5).push kq (by simp; omega), e15.keep kq (by simp; omega), (((e23.keep k4 (by simp)).keep k5 (by simp)).keep kq (by simp; omega)), by simpa using f5, OwnS.nil .., OwnS.nil .., rfl, rfl, by simp, by simp, ?_, ⟨by omega, by omega, by omega, by omega, by omega, by omega, by omega⟩, by simp [sblk], by simp [sblk]⟩
      refine IntsA.mn (a5.kp kq fun b hb he => ?_) fun b hb => ⟨by have := hb.1; omega, by have := hb.2; omega, ?_⟩
      · simp at hb; subst hb; have := he.1; omega
      · simp [sblk]; have := hb.1; omega
end Go.Proofs.Ytbaclnddcobdmaa
