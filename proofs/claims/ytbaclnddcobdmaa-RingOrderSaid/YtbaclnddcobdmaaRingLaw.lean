/-
  The laws RingOrder and RingPlays.
-/
import Derived.Test.YtbaclnddcobdmaaRing
import Derived.OpenShut
set_option linter.unusedSimpArgs false
set_option linter.unusedVariables false
namespace Go.Proofs.Ytbaclnddcobdmaa
open Go Go.Gp
theorem ringUp_spec {W : World} {K : Bool × Unit → World → Prop} (hk : ∀ W', Keeps [] W W' → K (true, ()) W') : callG Try.prog 71 [] [.one .bool] W K := by
  apply call71
  unfold G71
  refine newI 1 (fun h => absurd h (by omega)) fun _ _ r c cl b W1 g1 g2 g3 g4 k1 h1 => newI 65 (fun _ => ?_) fun _ h => absurd h (by omega)
  have base : ∀ {Wa Wb : World}, Keeps [] W Wa → Keeps [cl, b] Wa Wb → Keeps [] W Wb := fun ka kb => ka.push kb (by simp; omega)
  refine ifB_f rfl ⟨er_ifc 0, ifB_f rfl ?_⟩
  refine putI h1 5 (by decide) (fun h => absurd h (by decide)) fun _ W2 k2 h2 => ?_
  refine putI h2 6 (by decide) (fun _ W3 k3 => ?_) fun h => absurd h (by decide)
  have h3 := h2.keep0 k3
  refine takeI h3 (fun h => absurd h (by simp)) fun x q' he W4 k4 h4 => ?_
  simp only [List.nil_append, List.cons.injEq] at he
  obtain ⟨rfl, rfl⟩ := he
  dsimp only
  refine er_eq (b := 1) (by decide) (ifB_t (by decide) ⟨er_ifc 0, ifB_t rfl ?_⟩)
  refine er_eq (b := 5) (by decide) (ifB_t (by decide) (ifB_t rfl ⟨er_ifc 0, ifB_t rfl (lenI h4 ?_)⟩))
  exact hk W4 (base ((base k1 k2).trans k3) k4)

/-- What holds where the row has been walked so far. -/
structure RO (W0 W : World) (r c cl b : Nat) (n : Nat) (t p : Nat) : Prop where
  k : Keeps [] W0 W
  h : ∃ q : List Int, RingAtI W r c cl b n t q ∧ t + q.length = p ∧ ∀ i x, q[i]? = some x → x = ((t + i : Nat) : Int)
  f : W0.heap.size ≤ r ∧ W0.heap.size ≤ c ∧ W0.heap.size ≤ cl ∧ W0.heap.size ≤ b
theorem ringOrder_walk (W0 : World) (n : Int) (s : Sl) (hr : ∀ i, i < s.len → ∃ p x, s.a = some p ∧ W0.cell? (p.add i) = some (.bool x)) {K : Bool × Unit → World → Prop} (hk : ∀ W', Keeps [] W0 W' → K (true, ()) W') :
    callG Try.prog 12 [.int .i64 n, .slice s.a s.len s.cap] [.one .bool] W0 K := by
  apply call12
  unfold G12
  refine ringUp_spec fun W1 k1 => newI n (fun hb => ?_) fun n1 n2 r c cl b W2 g1 g2 g3 g4 k2 h2 => ?_
  · refine ifB_t rfl (ifB_t rfl ⟨er_ifc 1, ?_⟩)
    exact hk W1 k1
  refine ifB_f rfl ⟨er_ifc 0, ifB_f rfl ?_⟩
  have s1 := k1.size
  refine ifD (fun _ => ifB_t rfl ⟨er_ifc 0, hk W2 (k1.trans k2)⟩) fun hlen => ?_
  refine LoopG.rule (fun v w => ∃ i p t : Nat, i ≤ s.len ∧ p ≤ i ∧ v = (n, s, true, some ⟨r, 0, none⟩, (p : Int), (t : Int), (i : Int), ()) ∧ RO W0 w r c cl b n.toNat t p) (fun v _ => s.len - v.2.2.2.2.2.2.1.toNat)
    ⟨0, 0, 0, Nat.zero_le _, Nat.le_refl _, rfl, k1.trans k2, ⟨[], h2, rfl, by simp⟩, by omega, by omega, by omega, by omega⟩ ?_
  rintro v w ⟨i, p, t, hi, hp, rfl, ro⟩ C hC j
  dsimp only
  obtain ⟨q, hq, htp, hqx⟩ := ro.h
  have qn := hq.qn
  obtain ⟨f1, f2, f3, f4⟩ := ro.f
  refine ifD (fun hlt => ?_) fun hge => ?_
  · obtain ⟨a, x, ha, hx⟩ := hr i (by omega)
    refine JoinG.rule (fun v w => ∃ p t : Nat, p ≤ i + 1 ∧ v = (n, s, true, some ⟨r, 0, none⟩, (p : Int), (t : Int), (i : Int), ()) ∧ RO W0 w r c cl b n.toNat t p) ?_ fun B hB => ?_
    · rintro v w ⟨p, t, hp, rfl, ro⟩ j
      dsimp only
      obtain ⟨q, hq, htp, hqx⟩ := ro.h
      have qn := hq.qn
      rw [w64 (x := (p : Int) - t) (by omega) (by omega), w64 (by omega) (by omega)]
      refine ifD (fun h => absurd h (by omega)) fun _ => ifD (fun h => absurd h (by omega)) fun _ => ?_
      exact hC _ _ ⟨i + 1, p, t, by omega, hp, rfl, ro⟩ (by simp only; omega)
    · rw [ha]
      refine idx_some (by omega) (by omega) ?_
      rw [Int.toNat_natCast, Nat.mul_one]
      refine ld_bool (ro.k.cell hx (by simp)) (ifB_i (fun _ => ?_) fun _ => ?_)
      · refine putI hq (p : Int) (by omega) (fun hf W3 k3 => ?_) fun hf W3 k3 h3 => ?_
        · dsimp only
          refine ⟨er_ifc 5, ifB_f ?_ ⟨er_ifc 5, ifB_f rfl (hB _ _ ⟨p, t, by omega, rfl, ro.k.trans k3, ⟨q, hq.keep0 k3, htp, hqx⟩, ro.f⟩)⟩⟩
          rw [w64 (by omega) (by omega), er_nil, show ((p : Int) - t == n) = true from by rw [beq_iff_eq]; omega]; decide
        · dsimp only
          refine ⟨er_ifc 0, ifB_f ?_ ⟨er_ifc 0, ifB_t rfl ?_⟩⟩
          · rw [w64 (by omega) (by omega), er_nil, show ((p : Int) - t == n) = false from by rw [beq_eq_false_iff_ne]; omega]; decide
          · rw [w64 (by omega) (by omega)]
            refine hB _ _ ⟨p + 1, t, by omega, rfl, ro.k.push k3 (by simp; omega), ⟨q ++ [(p : Int)], h3, by simp; omega, fun i x hx => ?_⟩, ro.f⟩
            rcases (by have := (List.getElem?_eq_some_iff.1 hx).1; simp at this; omega : i < q.length ∨ i = q.length) with hi | rfl
            · rw [List.getElem?_append_left hi] at hx
              exact hqx i x hx
            · simp at hx
              omega
      · refine takeI hq (fun he => ?_) fun x q' he W3 k3 h3 => ?_
        · dsimp only
          exact ⟨er_ifc 3, ifB_f rfl ⟨er_ifc 3, ifB_f rfl (hB _ _ ⟨p, t, by omega, rfl, ro⟩)⟩⟩
        · dsimp only
          have hx0 := hqx 0 x (by rw [he]; rfl)
          have hl : q.length = q'.length + 1 := by rw [he]; rfl
          refine ⟨er_ifc 0, ifB_t rfl (ifN (fun h => absurd hx0 (by omega)) fun _ => ⟨er_ifc 0, ifB_t rfl ?_⟩)⟩
          rw [w64 (by omega) (by omega)]
          refine hB _ _ ⟨p, t + 1, by omega, rfl, ro.k.push k3 (by simp; omega), ⟨q', h3, by omega, fun i x hx => ?_⟩, ro.f⟩
          have := hqx (i + 1) x (by rw [he]; simpa using hx)
          omega
  · refine drainI hq fun d W3 k3 h3 ho => ?_
    have kk := ro.k.push k3 (by simp; omega)
    have hol := ho.len
    simp only [List.length_map, Nat.mul_one] at hol
    refine LoopG.rule (fun v w => w = W3 ∧ ∃ i : Nat, i ≤ d.len ∧ v = (true, some ⟨r, 0, none⟩, (p : Int), (t : Int), d, (i : Int), ())) (fun v _ => d.len - v.2.2.2.2.2.1.toNat) ⟨rfl, 0, Nat.zero_le _, rfl⟩ ?_
    rintro v w ⟨rfl, i, hi, rfl⟩ C2 hC2 j2
    dsimp only
    refine ifD (fun hlt => ?_) fun hge => ?_
    · have hil : i < q.length := by omega
      obtain ⟨g, hg, hcell⟩ := ho.cell (j := i) (by rw [List.getElem?_map, List.getElem?_eq_getElem hil]; rfl)
      rw [hg]
      refine idx_some (by omega) (by omega) ?_
      rw [addr_add, Int.toNat_natCast, Nat.mul_one, Nat.zero_add]
      refine ld_int hcell ?_
      have := hqx i _ (List.getElem?_eq_getElem hil)
      rw [w64 (by omega) (by omega), w64 (by omega) (by omega)]
      refine ifN (fun h => absurd this (by omega)) fun _ => ?_
      exact hC2 _ _ ⟨rfl, i + 1, by omega, by simp⟩ (by simp only; omega)
    · refine ifB_t rfl ?_
      rw [w64 (by omega) (by omega)]
      refine ifE (fun _ => lenI h3 ?_) fun h => absurd h (by omega)
      exact hk _ kk
theorem ringOrder_row (W : World) (n : Int) (s : Sl) (_ : (Lit.int .i64 n).wf = true) (m : Nat) (h : RdT Try.prog W m 109 [.slice s.a s.len s.cap]) :
    callG Try.prog 12 [.int .i64 n, .slice s.a s.len s.cap] [.one .bool] W fun x W' => x = (true, ()) ∧ Keeps [] W W' := by
  have hu : Try.prog.underlying 109 = some (.slice 4) := by kernel_rfl
  have he : Try.prog.underlying 4 = some .bool := by kernel_rfl
  have hs : Try.prog.cellsOf 4 = 1 := by kernel_rfl
  obtain ⟨_, h3⟩ := rd_bools hu he hs h
  exact ringOrder_walk W n s h3 fun W' k => ⟨rfl, k⟩
end Go.Proofs.Ytbaclnddcobdmaa
