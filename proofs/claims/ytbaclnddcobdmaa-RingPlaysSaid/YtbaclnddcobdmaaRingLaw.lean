/-
  The laws RingOrder and RingPlays.
-/
import Derived.Test.YtbaclnddcobdmaaRing
import Derived.OpenShut
set_option linter.unusedSimpArgs false
set_option linter.unusedVariables false
namespace Go.Proofs.Ytbaclnddcobdmaa
open Go Go.Gp
theorem ringUp_spec {W : World} {K : Bool × Unit → World → Prop} (hk : ∀ W', Keeps [] W W' → K (true, ()) W') : callG Try.prog 71 [] [.one .bool] W K := by
  apply call71
  unfold G71
  refine newI 1 (fun h => absurd h (by omega)) fun _ _ r c cl b W1 g1 g2 g3 g4 k1 h1 => newI 65 (fun _ => ?_) fun _ h => absurd h (by omega)
  have base : ∀ {Wa Wb : World}, Keeps [] W Wa → Keeps [cl, b] Wa Wb → Keeps [] W Wb := fun ka kb => ka.push kb (by simp; omega)
  refine ifB_f rfl ⟨er_ifc 0, ifB_f rfl ?_⟩
  refine putI h1 5 (by decide) (fun h => absurd h (by decide)) fun _ W2 k2 h2 => ?_
  refine putI h2 6 (by decide) (fun _ W3 k3 => ?_) fun h => absurd h (by decide)
  have h3 := h2.keep0 k3
  refine takeI h3 (fun h => absurd h (by simp)) fun x q' he W4 k4 h4 => ?_
  simp only [List.nil_append, List.cons.injEq] at he
  obtain ⟨rfl, rfl⟩ := he
  dsimp only
  refine er_eq (b := 1) (by decide) (ifB_t (by decide) ⟨er_ifc 0, ifB_t rfl ?_⟩)
  refine er_eq (b := 5) (by decide) (ifB_t (by decide) (ifB_t rfl ⟨er_ifc 0, ifB_t rfl (lenI h4 ?_)⟩))
  exact hk W4 (base ((base k1 k2).trans k3) k4)

/-- What holds where the row has been walked so far. -/
structure RO (W0 W : World) (r c cl b : Nat) (n : Nat) (t p : Nat) : Prop where
  k : Keeps [] W0 W
  h : ∃ q : List Int, RingAtI W r c cl b n t q ∧ t + q.length = p ∧ ∀ i x, q[i]? = some x → x = ((t + i : Nat) : Int)
  f : W0.heap.size ≤ r ∧ W0.heap.size ≤ c ∧ W0.heap.size ≤ cl ∧ W0.heap.size ≤ b
theorem ringOrder_walk (W0 : World) (n : Int) (s : Sl) (hr : ∀ i, i < s.len → ∃ p x, s.a = some p ∧ W0.cell? (p.add i) = some (.bool x)) {K : Bool × Unit → World → Prop} (hk : ∀ W', Keeps [] W0 W' → K (true, ()) W') :
    callG Try.prog 12 [.int .i64 n, .slice s.a s.len s.cap] [.one .bool] W0 K := by
  apply call12
  unfold G12
  refine ringUp_spec fun W1 k1 => newI n (fun hb => ?_) fun n1 n2 r c cl b W2 g1 g2 g3 g4 k2 h2 => ?_
  · refine ifB_t rfl (ifB_t rfl ⟨er_ifc 1, ?_⟩)
    exact hk W1 k1
  refine ifB_f rfl ⟨er_ifc 0, ifB_f rfl ?_⟩
  have s1 := k1.size
  refine ifD (fun _ => ifB_t rfl ⟨er_ifc 0, hk W2 (k1.trans k2)⟩) fun hlen => ?_
  refine LoopG.rule (fun v w => ∃ i p t : Nat, i ≤ s.len ∧ p ≤ i ∧ v = (n, s, true, some ⟨r, 0, none⟩, (p : Int), (t : Int), (i : Int), ()) ∧ RO W0 w r c cl b n.toNat t p) (fun v _ => s.len - v.2.2.2.2.2.2.1.toNat)
    ⟨0, 0, 0, Nat.zero_le _, Nat.le_refl _, rfl, k1.trans k2, ⟨[], h2, rfl, by simp⟩, by omega, by omega, by omega, by omega⟩ ?_
  rintro v w ⟨i, p, t, hi, hp, rfl, ro⟩ C hC j
  dsimp only
  obtain ⟨q, hq, htp, hqx⟩ := ro.h
  have qn := hq.qn
  obtain ⟨f1, f2, f3, f4⟩ := ro.f
  refine ifD (fun hlt => ?_) fun hge => ?_
  · obtain ⟨a, x, ha, hx⟩ := hr i (by omega)
    refine JoinG.rule (fun v w => ∃ p t : Nat, p ≤ i + 1 ∧ v = (n, s, true, some ⟨r, 0, none⟩, (p : Int), (t : Int), (i : Int), ()) ∧ RO W0 w r c cl b n.toNat t p) ?_ fun B hB => ?_
    · rintro v w ⟨p, t, hp, rfl, ro⟩ j
      dsimp only
      obtain ⟨q, hq, htp, hqx⟩ := ro.h
      have qn := hq.qn
      rw [w64 (x := (p : Int) - t) (by omega) (by omega), w64 (by omega) (by omega)]
      refine ifD (fun h => absurd h (by omega)) fun _ => ifD (fun h => absurd h (by omega)) fun _ => ?_
      exact hC _ _ ⟨i + 1, p, t, by omega, hp, rfl, ro⟩ (by simp only; omega)
    · rw [ha]
      refine idx_some (by omega) (by omega) ?_
      rw [Int.toNat_natCast, Nat.mul_one]
      refine ld_bool (ro.k.cell hx (by simp)) (ifB_i (fun _ => ?_) fun _ => ?_)
      · refine putI hq (p : Int) (by omega) (fun hf W3 k3 => ?_) fun hf W3 k3 h3 => ?_
        · dsimp only
          refine ⟨er_ifc 5, ifB_f ?_ ⟨er_ifc 5, ifB_f rfl (hB _ _ ⟨p, t, by omega, rfl, ro.k.trans k3, ⟨q, hq.keep0 k3, htp, hqx⟩, ro.f⟩)⟩⟩
          rw [w64 (by omega) (by omega), er_nil, show ((p : Int) - t == n) = true from by rw [beq_iff_eq]; omega]; decide
        · dsimp only
          refine ⟨er_ifc 0, ifB_f ?_ ⟨er_ifc 0, ifB_t rfl ?_⟩⟩
          · rw [w64 (by omega) (by omega), er_nil, show ((p : Int) - t == n) = false from by rw [beq_eq_false_iff_ne]; omega]; decide
          · rw [w64 (by omega) (by omega)]
            refine hB _ _ ⟨p + 1, t, by omega, rfl, ro.k.push k3 (by simp; omega), ⟨q ++ [(p : Int)], h3, by simp; omega, fun i x hx => ?_⟩, ro.f⟩
            rcases (by have := (List.getElem?_eq_some_iff.1 hx).1; simp at this; omega : i < q.length ∨ i = q.length) with hi | rfl
            · rw [List.getElem?_append_left hi] at hx
              exact hqx i x hx
            · simp at hx
              omega
      · refine takeI hq (fun he => ?_) fun x q' he W3 k3 h3 => ?_
        · dsimp only
          exact ⟨er_ifc 3, ifB_f rfl ⟨er_ifc 3, ifB_f rfl (hB _ _ ⟨p, t, by omega, rfl, ro⟩)⟩⟩
        · dsimp only
          have hx0 := hqx 0 x (by rw [he]; rfl)
          have hl : q.length = q'.length + 1 := by rw [he]; rfl
          refine ⟨er_ifc 0, ifB_t rfl (ifN (fun h => absurd hx0 (by omega)) fun _ => ⟨er_ifc 0, ifB_t rfl ?_⟩)⟩
          rw [w64 (by omega) (by omega)]
          refine hB _ _ ⟨p, t + 1, by omega, rfl, ro.k.push k3 (by simp; omega), ⟨q', h3, by omega, fun i x hx => ?_⟩, ro.f⟩
          have := hqx (i + 1) x (by rw [he]; simpa using hx)
          omega
  · refine drainI hq fun d W3 k3 h3 ho => ?_
    have kk := ro.k.push k3 (by simp; omega)
    have hol := ho.len
    simp only [List.length_map, Nat.mul_one] at hol
    refine LoopG.rule (fun v w => w = W3 ∧ ∃ i : Nat, i ≤ d.len ∧ v = (true, some ⟨r, 0, none⟩, (p : Int), (t : Int), d, (i : Int), ())) (fun v _ => d.len - v.2.2.2.2.2.1.toNat) ⟨rfl, 0, Nat.zero_le _, rfl⟩ ?_
    rintro v w ⟨rfl, i, hi, rfl⟩ C2 hC2 j2
    dsimp only
    refine ifD (fun hlt => ?_) fun hge => ?_
    · have hil : i < q.length := by omega
      obtain ⟨g, hg, hcell⟩ := ho.cell (j := i) (by rw [List.getElem?_map, List.getElem?_eq_getElem hil]; rfl)
      rw [hg]
      refine idx_some (by omega) (by omega) ?_
      rw [addr_add, Int.toNat_natCast, Nat.mul_one, Nat.zero_add]
      refine ld_int hcell ?_
      have := hqx i _ (List.getElem?_eq_getElem hil)
      rw [w64 (by omega) (by omega), w64 (by omega) (by omega)]
      refine ifN (fun h => absurd this (by omega)) fun _ => ?_
      exact hC2 _ _ ⟨rfl, i + 1, by omega, by simp⟩ (by simp only; omega)
    · refine ifB_t rfl ?_
      rw [w64 (by omega) (by omega)]
      refine ifE (fun _ => lenI h3 ?_) fun h => absurd h (by omega)
      exact hk _ kk
theorem ringOrder_row (W : World) (n : Int) (s : Sl) (_ : (Lit.int .i64 n).wf = true) (m : Nat) (h : RdT Try.prog W m 109 [.slice s.a s.len s.cap]) :
    callG Try.prog 12 [.int .i64 n, .slice s.a s.len s.cap] [.one .bool] W fun x W' => x = (true, ()) ∧ Keeps [] W W' := by
  have hu : Try.prog.underlying 109 = some (.slice 4) := by kernel_rfl
  have he : Try.prog.underlying 4 = some .bool := by kernel_rfl
  have hs : Try.prog.cellsOf 4 = 1 := by kernel_rfl
  obtain ⟨_, h3⟩ := rd_bools hu he hs h
  exact ringOrder_walk W n s h3 fun W' k => ⟨rfl, k⟩

theorem ringPick_spec {W : World} {c n : Int} (hc : -9223372036854775808 ≤ c) (hc' : c ≤ 9223372036854775807) (hn : n ≠ 0) {K : Int × Unit → World → Prop} (hk : K (pickN c n, ()) W) : callG Try.prog 73 [.int .i64 c, .int .i64 n] [.one (.int .i64)] W K := by
  apply call73
  unfold G73 JoinG
  refine ifD (fun h _ => ⟨hn, ?_⟩) fun h _ => ⟨hn, ?_⟩
  · dsimp only
    rw [w64 (x := c + 1) (by omega) (by omega), w64 (by omega) (by omega), show (0 : Int) - (c + 1) = -c - 1 from by omega]
    rwa [pickN, if_pos h] at hk
  · rwa [pickN, if_neg h] at hk
structure RP (W0 Wn W : World) (r c cl b n t : Nat) (q : List ByteArray) (want : Sl) : Prop where
  k : Keeps [] W0 W
  kn : Wn.heap.size ≤ W.heap.size
  h : RingAtS W r c cl b n t q
  f : W0.heap.size ≤ r ∧ W0.heap.size ≤ c ∧ W0.heap.size ≤ cl ∧ W0.heap.size ≤ b
  g : r < Wn.heap.size ∧ c < Wn.heap.size ∧ cl < Wn.heap.size ∧ b < Wn.heap.size
  w : Rs W 1 want (q.map Value.string)
  wb : ∀ x ∈ sblk want, Wn.heap.size ≤ x
  wn : want.a = none → want.len = 0 ∧ want.cap = 0
theorem RP.wl {W0 Wn W : World} {r c cl b n t : Nat} {q : List ByteArray} {want : Sl} (h : RP W0 Wn W r c cl b n t q want) : want.len = q.length := by
  have := h.w.len
  simp only [List.length_map, Nat.mul_one] at this
  omega
theorem RP.far {W0 Wn W W' : World} {r c cl b n t : Nat} {q : List ByteArray} {want : Sl} (h : RP W0 Wn W r c cl b n t q want) (hk : Keeps [] W W') : RP W0 Wn W' r c cl b n t q want :=
  ⟨h.k.trans hk, Nat.le_trans h.kn hk.size, h.h.keep0 hk, h.f, h.g, h.w.keep0 hk, h.wb, h.wn⟩
theorem ringPlays_walk (W0 : World) (n : Int) (s : Sl) (hr : ∀ i, i < s.len → ∃ p x t, s.a = some p ∧ W0.cell? (p.add (i * 2)) = some (.int .i64 x) ∧ W0.cell? ((p.add (i * 2)).add 1) = some (.string t) ∧ -9223372036854775808 ≤ x ∧ x ≤ 9223372036854775807) {K : Bool × Unit → World → Prop} (hk : ∀ W', Keeps [] W0 W' → K (true, ()) W') :
    callG Try.prog 11 [.int .i64 n, .slice s.a s.len s.cap] [.one .bool] W0 K := by
  apply call11
  unfold G11
  refine ringUp_spec fun W1 k1 => newS n (fun hb => ?_) fun n1 n2 r c cl b W2 g1 g2 g3 g4 k2 h2 => ?_
  · dsimp only
    refine ifD (fun _ => ifB_t rfl (ifB_t rfl (er_eq (b := 1) (by decide) ?_))) fun h => ifD (fun _ => ifB_t rfl (ifB_t rfl (er_eq (b := 1) (by decide) ?_))) fun h' => absurd hb (by omega)
    · exact hk W1 k1
    · exact hk W1 k1
  refine ifD (fun h => absurd h (by omega)) fun _ => ifD (fun h => absurd h (by omega)) fun _ => ifB_f rfl ⟨er_ifc 0, ifB_f rfl ?_⟩
  have s1 := k1.size
  obtain ⟨l1, l2, l3, l4⟩ := h2.lt
  refine ifD (fun _ => ifB_t rfl (ifB_t rfl ⟨er_ifc 0, hk W2 (k1.trans k2)⟩)) fun hlen => ?_
  refine LoopG.rule (fun v w => ∃ (i t : Nat) (q : List ByteArray) (want : Sl), i ≤ s.len ∧ t + q.length ≤ i ∧ v = (n, s, true, some ⟨r, 0, none⟩, want, (t : Int), (i : Int), ()) ∧ RP W0 W2 w r c cl b n.toNat t q want) (fun v _ => s.len - v.2.2.2.2.2.2.1.toNat)
    ⟨0, 0, [], ⟨none, 0, 0⟩, Nat.zero_le _, Nat.le_refl _, rfl, k1.trans k2, Nat.le_refl _, h2, ⟨by omega, by omega, by omega, by omega⟩, ⟨l1, l2, l3, l4⟩, Rs.nil _ _, by simp [sblk], fun _ => ⟨rfl, rfl⟩⟩ ?_
  rintro v w ⟨i, t, q, want, hi, hp, rfl, rp⟩ C hC j
  dsimp only
  have qn := rp.h.qn
  obtain ⟨f1, f2, f3, f4⟩ := rp.f
  obtain ⟨g1, g2, g3, g4⟩ := rp.g
  have hwl := rp.wl
  refine ifD (fun hlt => ?_) fun hge => hk w rp.k
  obtain ⟨a, x, tx, ha, hx, htx, x0, x1⟩ := hr i (by omega)
  have kb : ∀ x ∈ [cl, b], W0.heap.size ≤ x := by simp; omega
  have wfar : ∀ {W' W'' : World} {qq : List Value} {ww : Sl}, Rs W' 1 ww qq → (∀ x ∈ sblk ww, W2.heap.size ≤ x) → Keeps [cl, b] W' W'' → Rs W'' 1 ww qq := fun hw hb hk => hw.keep hk fun x hx _ => by have := hb x hx; simp; omega
  -- the end of a deed
  refine JoinG.rule (fun v w => ∃ (t : Nat) (q : List ByteArray) (want : Sl), t + q.length ≤ i + 1 ∧ v = (n, s, true, some ⟨r, 0, none⟩, want, (t : Int), (i : Int), ()) ∧ RP W0 W2 w r c cl b n.toNat t q want) ?_ fun B hB => ?_
  · rintro v w ⟨t, q, want, hp, rfl, rp⟩ j
    dsimp only
    have qn := rp.h.qn
    have hwl := rp.wl
    refine stampsS rp.h (lenS rp.h ?_)
    dsimp only
    rw [hwl, w64 (x := (t : Int) + _) (by omega) (by omega), wu64, wu64, w64 (by omega) (by omega)]
    refine ifN (fun h => absurd rfl h) fun _ => ifN (fun h => absurd h (by omega)) fun _ => ifN (fun h => absurd h (by omega)) fun _ => ?_
    exact hC _ _ ⟨i + 1, t, q, want, by omega, hp, rfl, rp⟩ (by simp only; omega)
  rw [ha]
  refine idx_some (by omega) (by omega) ?_
  rw [Int.toNat_natCast]
  refine ld_int (rp.k.cell hx (by simp)) (ringPick_spec x0 x1 (by decide) ?_)
  refine JoinG.rule (fun v w' => w' = w ∧ ∃ e : Bool, v = (n, s, true, some ⟨r, 0, none⟩, want, (t : Int), (i : Int), pickN x 4, e, ())) ?_ fun B2 hB2 => ?_
  · rintro v w' ⟨rfl, e, rfl⟩ j2
    dsimp only
    refine ifB_i (fun _ => ?_) fun _ => ifE (fun _ => ?_) fun _ => ?_
    · -- put
      rw [ha]
      refine idx_some (by omega) (by omega) ?_
      rw [Int.toNat_natCast]
      refine ld_str (rp.k.cell htx (by simp)) ?_
      refine putS rp.h tx (by omega) (fun hf W3 k3 => ?_) fun hf W3 k3 h3 => ?_
      · dsimp only
        refine ifE (fun _ => er_eq (b := 5) (by decide) (ifB_f (by decide) (hB _ _ ⟨t, q, want, by omega, rfl, rp.far k3⟩))) fun h => absurd (by omega) h
      · dsimp only
        refine ifE (fun h => absurd hf (by omega)) fun _ => ⟨er_ifc 0, ifB_f rfl (drw_intro fun W4 k4 _ => ?_)⟩
        have k04 := (rp.k.push k3 kb).trans k4
        refine ⟨fun u => u.cell? ((a.add (i * 2)).add 1) = some (.string tx), k04.cell htx (by simp), idx_some (by omega) (by omega) ?_⟩
        refine ⟨tx, fun u hu => hu, ?_⟩
        have h4 := h3.keep0 k4
        have w4 := (wfar rp.w rp.wb k3).keep0 k4
        have s4 := Nat.le_trans (Nat.le_trans rp.kn k3.size) k4.size
        obtain ⟨ii, hii, hiz, his, hib⟩ := i9
        have fin : ∀ {W' : World} {rs : Sl}, Keeps [] W4 W' → OwnS W' W4.heap.size 9 1 rs (q.map Value.string ++ [Value.string tx]) → rs.len = want.len + 1 → B (n, s, true, some ⟨r, 0, none⟩, rs, (t : Int), (i : Int), ()) W' := fun {W'} {rs} hk' ho hl => by
          refine hB _ _ ⟨t, q ++ [tx], rs, by simp; omega, rfl, k04.trans hk', Nat.le_trans s4 hk'.size, h4.keep0 hk', rp.f, rp.g, by rw [List.map_append]; exact ho.rs, fun x hx => Nat.le_trans s4 (ho.lt x hx).1, fun hn => ?_⟩
          obtain ⟨g, hg, _⟩ := ho.cell (j := q.length) (u := Value.string tx) (by simp)
          rw [hg] at hn; cases hn
        have one : ∀ u ∈ q.map Value.string, u.oneCell' = true := fun u hu => by obtain ⟨y, _, rfl⟩ := List.mem_map.1 hu; rfl
        refine ⟨?_, ?_⟩
        · refine new_blk fun m W5 hm k5 b5 => ⟨(k04.trans k5).cell htx (by simp), ?_, ?_⟩
          · refine app_rs u125 hii hiz his hib rfl (by decide) (OwnS.blank (B := W4.heap.size) b5 (by omega)) (w4.keep0 k5) rp.wn one (by simp only; omega) (by simp only; omega) k5.size fun r1 W6 o6 k6 l6 => ?_
            have k46 : Keeps [] W4 W6 := k5.push k6 (by simp [sblk, hm])
            refine ⟨(k04.trans k46).cell htx (by simp), new_blk fun m2 W7 hm2 k7 b7 => ?_⟩
            refine app_own (bytes := 16) u125 hii hiz his hib rfl (by decide) (o6.fresh k7 (by simp)) [Value.string tx] rfl (fun j u hj => by rw [addr0, b7.cell]; exact hj) (by simp [Value.oneCell']) (by simp only at l6; omega) (by simp only at l6; omega) (Nat.le_trans k46.size k7.size) fun r2 W8 o8 k8 l8 => ?_
            exact fin ((k46.trans k7).push k8 fun x hx => (o6.lt x hx).1) (by simpa using o8) (by simp only at l6; omega)
          · refine new_blk fun m2 W6 hm2 k6 b6 => ?_
            have k46 := k5.trans k6
            refine app_rs u125 hii hiz his hib rfl (by decide) (OwnS.blank (B := W4.heap.size) (b5.keep k6 (by simp)) (by omega)) (w4.keep0 k46) rp.wn one (by simp only; omega) (by simp only; omega) k46.size fun r1 W7 o7 k7 l7 => ?_
            have k47 : Keeps [] W4 W7 := k46.push k7 (by simp [sblk, hm])
            have lm := b5.lt
            refine ⟨(k04.trans k47).cell htx (by simp), ?_⟩
            refine app_own (bytes := 16) u125 hii hiz his hib rfl (by decide) o7 [Value.string tx] rfl (fun j u hj => by rw [addr0, (b6.keep k7 (by simp [sblk]; omega)).cell]; exact hj) (by simp [Value.oneCell']) (by simp only at l7; omega) (by simp only at l7; omega) k47.size fun r2 W8 o8 k8 l8 => ?_
            exact fin (k47.push k8 fun x hx => (o7.lt x hx).1) (by simpa using o8) (by simp only at l7; omega)
        · refine new_blk fun m2 W5 hm2 k5 b6 => new_blk fun m W6 hm k6 b5 => ⟨((k04.trans k5).trans k6).cell htx (by simp), ?_⟩
          have k46 := k5.trans k6
          have lm := b6.lt
          have ls := k5.size
          refine app_rs u125 hii hiz his hib rfl (by decide) (OwnS.blank (B := W4.heap.size) b5 (by omega)) (w4.keep0 k46) rp.wn one (by simp only; omega) (by simp only; omega) k46.size fun r1 W7 o7 k7 l7 => ?_
          have k47 : Keeps [] W4 W7 := k46.push k7 (by simp [sblk]; omega)
          refine ⟨(k04.trans k47).cell htx (by simp), ?_⟩
          refine app_own (bytes := 16) u125 hii hiz his hib rfl (by decide) o7 [Value.string tx] rfl (fun j u hj => by rw [addr0, ((b6.keep k6 (by simp)).keep k7 (by simp [sblk]; omega)).cell]; exact hj) (by simp [Value.oneCell']) (by simp only at l7; omega) (by simp only at l7; omega) k47.size fun r2 W8 o8 k8 l8 => ?_
          exact fin (k47.push k8 fun x hx => (o7.lt x hx).1) (by simpa using o8) (by simp only at l7; omega)
    · -- take
      refine takeS rp.h (fun he => ?_) fun y q' he W3 k3 h3 => ?_
      · dsimp only
        subst he
        simp only [List.length_nil] at hwl
        refine ifE (fun _ => er_eq (b := 3) (by decide) (ifB_f (by decide) (ifB_f (by simp) ?_))) fun h => absurd (by omega) h
        rw [w64 (by omega) (by omega)]
        exact hC _ _ ⟨i + 1, t, [], want, by omega, by simp at hp ⊢; omega, rfl, rp⟩ (by simp only; omega)
      · dsimp only
        subst he
        simp only [List.length_cons] at hwl hp
        refine ifE (fun h => absurd h (by omega)) fun _ => ⟨er_ifc 0, ifB_f rfl ?_⟩
        have w3 := wfar rp.w rp.wb k3
        obtain ⟨p', hpa', hcell'⟩ := w3.at_ 0 (Value.string y) rfl
        refine ⟨p', hpa', by omega, by omega, ld_str hcell' (ifB_f (by simp) ?_)⟩
        obtain ⟨ii, hii, hiz, his, hib⟩ := i9
        refine slice_lo u125 hii his w3 (by decide) (by omega) fun r1 hr1 e1 e2 e3 e4 => ?_
        rw [w64 (by omega) (by omega)]
        refine hB _ _ ⟨t + 1, q', r1, by omega, rfl, rp.k.push k3 kb, Nat.le_trans rp.kn k3.size, h3, rp.f, rp.g, by simpa using hr1, fun x hx => rp.wb x (by rw [← e1]; exact hx), fun hn => ?_⟩
        rw [e4, hpa'] at hn
        cases hn
    · -- all
      refine drainS rp.h fun d W3 k3 h3 ho => ?_
      dsimp only
      have hol := ho.len
      simp only [List.length_map, Nat.mul_one] at hol
      refine ifN (fun h => absurd (by omega) h) fun _ => ?_
      have k03 := rp.k.push k3 kb
      refine LoopG.rule (fun v w => Keeps [] W3 w ∧ ∃ z : Nat, z ≤ d.len ∧ v = (n, s, true, some ⟨r, 0, none⟩, want, (t : Int), (i : Int), d, (z : Int), ())) (fun v _ => d.len - v.2.2.2.2.2.2.2.2.1.toNat) ⟨Keeps.refl _ _, 0, Nat.zero_le _, rfl⟩ ?_
      rintro v w ⟨kw, z, hz, rfl⟩ C2 hC2 j3
      dsimp only
      refine ifD (fun hlt2 => drw_intro fun W4 k4 _ => ?_) fun hge2 => ?_
      · have hzl : z < q.length := by omega
        have hzq : (q.map Value.string)[z]? = some (Value.string q[z]) := by rw [List.getElem?_map, List.getElem?_eq_getElem hzl]; rfl
        have k34 := kw.trans k4
        obtain ⟨g, hg, hcell⟩ := (ho.fresh k34 (by simp)).cell hzq
        obtain ⟨p, hp2, hcell2⟩ := ((wfar rp.w rp.wb k3).keep0 k34).at_ z _ hzq
        rw [hg]
        refine idx_some (by omega) (by omega) ?_
        simp only [ldS_eq]
        rw [addr_add, Int.toNat_natCast, Nat.mul_one, Nat.zero_add]
        refine ld_str hcell ?_
        rw [hp2]
        refine idx_some (by omega) (by omega) (ld_str hcell2 (ifB_f (by simp) ?_))
        rw [w64 (by omega) (by omega)]
        exact hC2 _ _ ⟨k34, z + 1, by omega, by simp⟩ (by simp only; omega)
      · rw [w64 (by omega) (by omega), hwl]
        have h4 := h3.keep0 kw
        exact hB _ _ ⟨t + q.length, [], ⟨none, 0, 0⟩, by simp; omega, by simp, k03.trans kw, Nat.le_trans (Nat.le_trans rp.kn k3.size) kw.size, h4, rp.f, rp.g, Rs.nil _ _, by simp [sblk], fun _ => ⟨rfl, rfl⟩⟩
  · exact ifE (fun _ => hB2 _ _ ⟨rfl, _, rfl⟩) fun _ => hB2 _ _ ⟨rfl, _, rfl⟩
theorem ringPlays_row (W : World) (n : Int) (s : Sl) (_ : (Lit.int .i64 n).wf = true) (m : Nat) (h : RdT Try.prog W m 121 [.slice s.a s.len s.cap]) :
    callG Try.prog 11 [.int .i64 n, .slice s.a s.len s.cap] [.one .bool] W fun x W' => x = (true, ()) ∧ Keeps [] W W' := by
  have hu : Try.prog.underlying 121 = some (.slice 127) := by kernel_rfl
  have hf : cellFields Try.prog 127 [3, 9] = true := by kernel_rfl
  have hs : Try.prog.cellsOf 127 = 2 := by kernel_rfl
  have u3 : Try.prog.underlying 3 = some (.int .i64) := by kernel_rfl
  have u9 : Try.prog.underlying 9 = some .string := by kernel_rfl
  obtain ⟨a, len, cap, m, hv, hl, hm, _, hx⟩ := rd_slice hu h
  obtain ⟨e1, e2, e3⟩ : s.a = a ∧ s.len = len ∧ s.cap = cap := by injection hv with h1 h2 h3; exact ⟨h1, h2, h3⟩
  refine ringPlays_walk W n s (fun i hi => ?_) fun W' k => ⟨rfl, k⟩
  obtain ⟨p, cs, hp, hc, hr⟩ := hx i (by omega)
  rw [hs] at hc
  obtain ⟨m', hlen, hall⟩ := rd_cells hf hr
  obtain ⟨v0, v1, rfl⟩ := len2 hlen
  obtain ⟨x, rfl, wx⟩ := rd_int u3 (hall 0 3 v0 rfl rfl)
  obtain ⟨tx, rfl, _⟩ := rd_str u9 (hall 1 9 v1 rfl rfl)
  obtain ⟨b1, b2⟩ := bounds_i64 wx
  exact ⟨p, x, tx, by rw [e1, hp], by have h0 := hc.1; rwa [Addr.add_zero'] at h0, hc.2.1, b1, b2⟩
end Go.Proofs.Ytbaclnddcobdmaa
