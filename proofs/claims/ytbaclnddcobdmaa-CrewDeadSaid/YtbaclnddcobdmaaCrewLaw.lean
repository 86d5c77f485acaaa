/-
  The laws of layer 2 (crew), over the formulas.
-/
import Derived.Test.YtbaclnddcobdmaaCrew
import Derived.Test.YtbaclnddcobdmaaGk6
import Derived.OpenShut
set_option linter.unusedSimpArgs false
set_option linter.unusedVariables false
namespace Go.Proofs.Ytbaclnddcobdmaa
open Go Go.Gp
set_option linter.unusedVariables false

theorem er_one : Value.iface 29 (.int .i64 1) = er 1 := rfl
theorem new_bad {W : World} (n : Int) (hb : n < 1 ∨ 16 < n) {K : Option Addr × Value × Unit → World → Prop} (hk : K (none, er 1, ()) W) : callG Try.prog 14 [.int .i64 n] [.one .ptr, .one .any] W K :=
  new_spec n (fun _ => hk) fun h1 h2 => by omega
theorem up_spec {W : World} {K : Bool × Unit → World → Prop} (hk : ∀ W', Keeps [] W W' → K (true, ()) W') : callG Try.prog 13 [] [.one .bool] W K := by
  apply call13
  unfold G13
  refine new_spec 2 (fun h => by omega) fun _ _ c cl W1 hc hcl k1 h1 => ?_
  refine new_bad 17 (by omega) ?_
  simp only [Option.isNone_some, ifB_false, er_nil, decide_true, Bool.not_true, er_ifc, true_and]
  refine kill_spec h1 0 fun W2 k2 h2 => ?_
  refine wake_spec h2 0 fun W3 k3 h3 => ?_
  refine er_eq (by decide) ?_
  simp only [decide_true, ifB_true, er_ifc, true_and, er_nil, show fitC (List.replicate (Int.toNat 2) 0) 0 = 0 from by decide]
  refine er_eq (by decide) ?_
  simp only [show fitC (turnS (List.replicate (Int.toNat 2) 0) 0 2) 0 = 9 from by decide, decide_true, ifB_true]
  refine len_spec h3 ?_
  simp only [turn_len, List.length_replicate]
  refine state_spec h3 1 ?_
  rw [show stateOf (turnS (turnS (List.replicate (Int.toNat 2) 0) 0 2) 0 0) 1 = 0 from by decide]
  exact hk _ ((k1.push k2 (by simpa using hcl)).push k3 (by simpa using hcl))

/-- Deeds in old memory: three whole numbers each. -/
def Rd3 (W : World) (s : Sl) : Prop := ∀ i : Nat, i < s.len → ∃ p x y z, s.a = some p ∧ p.block < W.heap.size ∧ cellsAt W (p.add (i * 3)) 0 [.int .i64 x, .int .i64 y, .int .i64 z] ∧
  -9223372036854775808 ≤ x ∧ x ≤ 9223372036854775807 ∧ -9223372036854775808 ≤ z ∧ z ≤ 9223372036854775807

/-- What stands of a crew and its reference at the head of a round. -/
structure CP (W0 W : World) (c cl m ml : Nat) (st : List Int) (now : Int) : Prop where
  k : Keeps [] W0 W
  a : CrewAt W c cl st now 143
  r : CrewAt W m ml st now 33
  b1 : W0.heap.size ≤ c
  b2 : W0.heap.size ≤ cl
  b3 : W0.heap.size ≤ m
  b4 : W0.heap.size ≤ ml
  d1 : c ≠ m
  d2 : c ≠ ml
  d3 : cl ≠ m
  d4 : cl ≠ ml
  s : Sts st
  n0 : 0 ≤ now
  n1 : now ≤ 1099511627776
theorem CP.lts {W0 W : World} {c cl m ml : Nat} {st : List Int} {now : Int} (h : CP W0 W c cl m ml st now) : c < W.heap.size ∧ cl < W.heap.size ∧ m < W.heap.size ∧ ml < W.heap.size := ⟨h.a.hd.lt, h.a.ls.lt, h.r.hd.lt, h.r.ls.lt⟩
/-- A step that touches none of them. -/
theorem CP.far {W0 W W' : World} {c cl m ml : Nat} {st : List Int} {now : Int} (h : CP W0 W c cl m ml st now) {S : List Nat} (hk : Keeps S W W') (hs : ∀ b ∈ S, W.heap.size ≤ b) : CP W0 W' c cl m ml st now := by
  obtain ⟨l1, l2, l3, l4⟩ := h.lts
  have ne : ∀ {x}, x < W.heap.size → x ∉ S := fun hx hm => by have := hs _ hm; omega
  exact ⟨h.k.push hk fun b hb => Nat.le_trans h.k.size (hs b hb), h.a.keep hk (ne l1) (ne l2), h.r.keep hk (ne l3) (ne l4), h.b1, h.b2, h.b3, h.b4, h.d1, h.d2, h.d3, h.d4, h.s, h.n0, h.n1⟩
theorem tick_range {now n : Int} (h0 : 0 ≤ now) (h1 : now ≤ 1099511627776) : 0 ≤ tickS now n ∧ tickS now n ≤ 1099511627776 ∧ now ≤ tickS now n ∧ (tickC now n = 0 ∨ tickC now n = 1) := by
  unfold tickS tickC
  split <;> simp <;> omega
theorem mayC_range {l : List Int} {w : Int} : 0 ≤ mayC l w ∧ mayC l w ≤ 11 := by
  unfold mayC
  rcases fitC_cases l w with h | h | h <;> rw [h] <;> simp
  split <;> omega
theorem fitC_range {l : List Int} {w : Int} : 0 ≤ fitC l w ∧ fitC l w ≤ 11 := by
  rcases fitC_cases l w with h | h | h <;> rw [h] <;> decide

theorem crewPlays_walk (W0 : World) (n : Int) (s : Sl) (hr : Rd3 W0 s) (hl : s.len ≤ 9223372036854775807) :
    callG Try.prog 3 [.int .i64 n, .slice s.a s.len s.cap] [.one .bool] W0 fun x W' => x = (true, ()) ∧ Keeps [] W0 W' := by
  apply call3
  unfold G3
  refine up_spec fun W1 k1 => ?_
  refine new_spec n (fun hb => ?_) fun g1 g2 c cl W2 hc hcl k2 hC => ?_
  · simp only [ifB_dec, ifB_true, Option.isNone_none]
    refine ⟨fun _ => er_eq (by decide) ⟨by simp, k1⟩, fun h => ⟨fun _ => er_eq (by decide) ⟨by simp, k1⟩, fun h' => by omega⟩⟩
  simp only [ifB_dec, ifB_true, ifB_false, Option.isNone_some, Bool.not_false, er_nil, er_ifc, decide_true, Bool.not_true, true_and]
  refine ⟨fun h => by omega, fun _ => ⟨fun h => by omega, fun _ => ⟨fun _ => k1.trans k2, fun hlen => ?_⟩⟩⟩
  refine mk_blk (by omega) (by omega) (by omega) (by omega) fun ml W3 hml k3 b3 => new_blk fun m W4 hm k4 b4 => ?_
  have e3 := k3.size
  have e2 := k2.size
  have e1 := k1.size
  have l1 := hC.hd.lt
  have l2 := hC.ls.lt
  have l3 := b3.lt
  rw [madeCells_one, Nat.mul_one] at b3
  refine LoopG.rule (fun x w => ∃ (i : Nat) (st : List Int) (now : Int), i ≤ s.len ∧ x = (n, s, true, some ⟨c, 0, none⟩, some ⟨m, 0, none⟩, (i : Int), ()) ∧ st.length = n.toNat ∧ CP W0 w c cl m ml st now)
    (fun x _ => s.len - x.2.2.2.2.2.1.toNat) ⟨0, List.replicate n.toNat 0, 0, Nat.zero_le _, rfl, by simp, ?_⟩ ?_
  · refine ⟨(k1.trans k2).trans (k3.trans k4), (hC.keep k3 (by simp) (by simp)).keep k4 (by simp) (by simp), ⟨by simpa using b4, by simpa using b3.keep k4 (by simp), by omega⟩, by omega, by omega, by omega, by omega, by omega, by omega, by omega, by omega, ?_, by omega, by omega⟩
    intro x hx
    rw [List.eq_of_mem_replicate hx]; omega
  rintro x W ⟨i, st, now, hi, rfl, hst, cp⟩ C hC j
  dsimp only
  refine ⟨fun hlt => ?_, fun hge => ⟨rfl, cp.k⟩⟩
  obtain ⟨p, x, y, z, hp, hpb, hcells, x0, x1, z0, z1⟩ := hr i (by omega)
  refine ⟨p, hp, by omega, by omega, ?_⟩
  rw [Int.toNat_natCast]
  refine ldN_intro (x, y, z, ()) (cp.k.cells (by simp) _ _ hcells) ?_
  refine new_blk fun b W5 hb k5 b5 => ?_
  simp only [addr0]
  refine st_blk' b5 (by simp) fun W6 k6 b6 => st_blk' b6 (by simp) fun W7 k7 b7 => st_blk' b7 (by simp) fun W8 k8 b8 => ?_
  simp only [List.set_cons_zero, List.set_cons_succ] at b8
  have cp8 : CP W0 W8 c cl m ml st now := by
    have e5 := k5.size
    refine cp.far (S := [b]) (W' := W8) ?_ (by simp [hb])
    exact ((k5.nil.trans k6).trans k7).trans k8
  have hbn : c < b ∧ cl < b ∧ m < b ∧ ml < b := by rw [hb]; exact cp.lts
  clear cp b5 b6 b7 k5 k6 k7 k8
  refine JoinG.rule (fun v w => ∃ (st' : List Int) (now' code : Int), 0 ≤ code ∧ code ≤ 11 ∧ v = (n, s, true, some ⟨c, 0, none⟩, some ⟨m, 0, none⟩, (i : Int), (Addr.mk b 0 none), code, er code, ()) ∧
    st'.length = n.toNat ∧ CP W0 w c cl m ml st' now' ∧ Blk w b [.int .i64 x, .int .i64 y, .int .i64 z] 35) ?_ ?_
  · rintro v w ⟨st', now', code, hc0, hc1, rfl, hst', cp', hb'⟩ j'
    refine drw_intro fun w1 kw bw => ?_
    have cpw := cp'.far kw (by simp)
    have hbw := bw _ _ _ hb'
    refine ⟨fun u => u = w1, rfl, ?_⟩
    simp only [ldS_eq, addr0]
    refine code_spec hc0 hc1 ⟨rfl, ?_⟩
    simp only [bne_self_eq_false, ifB_false]
    refine ld_int (by rw [hbw.cell]; rfl) (ld_int (by rw [hbw.cell]; rfl) ?_)
    refine state_spec cpw.a y ⟨rfl, rstate_spec cpw.r y ⟨rfl, ?_⟩⟩
    simp only [bne_self_eq_false, ifB_false]
    refine ld_int (by rw [hbw.cell]; rfl) (ld_int (by rw [hbw.cell]; rfl) ?_)
    refine may_spec cpw.a y ⟨rfl, code_spec mayC_range.1 mayC_range.2 ⟨rfl, rmay_spec cpw.s cpw.r y ⟨rfl, ?_⟩⟩⟩
    simp only [bne_self_eq_false, ifB_false, nilck_some, addr0]
    refine ld_int (by rw [cpw.r.hd.cell]; rfl) ?_
    refine now_spec cpw.a ⟨rfl, ?_⟩
    simp only [bne_self_eq_false, ifB_false]
    refine len_spec cpw.a ⟨rfl, ?_⟩
    rw [hst', show ((n.toNat : Nat) : Int) = n from by omega]
    simp only [bne_self_eq_false, ifB_false]
    rw [w64 (by omega) (by omega)]
    exact hC _ _ ⟨i + 1, st', now', by omega, by simp, hst', cpw⟩ (by simp only; omega)
  · intro B hB
    have lts := cp8.lts
    have lb := b8.lt
    refine ld_int (by rw [b8.cell]; rfl) (pick_spec x0 x1 (by decide) ?_)
    have fin : ∀ W' st' now' code, 0 ≤ code → code ≤ 11 → st'.length = n.toNat → CP W0 W' c cl m ml st' now' → Blk W' b [.int .i64 x, .int .i64 y, .int .i64 z] 35 →
        B (n, s, true, some ⟨c, 0, none⟩, some ⟨m, 0, none⟩, (i : Int), (Addr.mk b 0 none), code, er code, ()) W' := fun W' st' now' code h1 h2 h3 h4 h5 => hB _ _ ⟨st', now', code, h1, h2, rfl, h3, h4, h5⟩
    have turn : ∀ (sv : Int) (Wa Wb : World), 0 ≤ sv ∧ sv ≤ 2 → Keeps [cl] W8 Wa → CrewAt Wa c cl (turnS st y sv) now 143 → Keeps [ml] Wa Wb → CrewAt Wb m ml (turnS st y sv) now 33 →
        B (n, s, true, some ⟨c, 0, none⟩, some ⟨m, 0, none⟩, (i : Int), (Addr.mk b 0 none), fitC st y, er (fitC st y), ()) Wb := fun sv Wa Wb hsv ka ha kb hb' => by
      refine fin Wb _ now _ fitC_range.1 fitC_range.2 (by rw [turn_len]; exact hst) ⟨(cp8.k.push ka (by simpa using cp8.b2)).push kb (by simpa using cp8.b4), ha.keep kb (by simp [cp8.d2]) (by simp [cp8.d4]), hb',
        cp8.b1, cp8.b2, cp8.b3, cp8.b4, cp8.d1, cp8.d2, cp8.d3, cp8.d4, cp8.s.turn hsv, cp8.n0, cp8.n1⟩ ((b8.keep ka (by simp; omega)).keep kb (by simp; omega))
    simp only [ifB_iff, beq_iff_eq, beq_eq_false_iff_ne]
    have ry : ∀ {Wa : World}, Keeps [cl] W8 Wa → Wa.cell? (Addr.mk b 1 none) = some (.int .i64 y) := fun {Wa} ka => by rw [(b8.keep ka (by simp; omega)).cell]; rfl
    refine ⟨fun _ => ?_, fun _ => ⟨fun _ => ?_, fun _ => ⟨fun _ => ?_, fun _ => ?_⟩⟩⟩
    · refine ld_int (by rw [b8.cell]; rfl) (stall_spec cp8.a y fun Wa ka ha => ld_int (ry ka) ?_)
      exact rturn_spec cp8.s (cp8.r.keep ka (by simp [Ne.symm cp8.d3]) (by simp [Ne.symm cp8.d4])) y 1 fun Wb kb hb' => turn 1 Wa Wb (by decide) ka ha kb hb'
    · refine ld_int (by rw [b8.cell]; rfl) (wake_spec cp8.a y fun Wa ka ha => ld_int (ry ka) ?_)
      exact rturn_spec cp8.s (cp8.r.keep ka (by simp [Ne.symm cp8.d3]) (by simp [Ne.symm cp8.d4])) y 0 fun Wb kb hb' => turn 0 Wa Wb (by decide) ka ha kb hb'
    · refine ld_int (by rw [b8.cell]; rfl) (kill_spec cp8.a y fun Wa ka ha => ld_int (ry ka) ?_)
      exact rturn_spec cp8.s (cp8.r.keep ka (by simp [Ne.symm cp8.d3]) (by simp [Ne.symm cp8.d4])) y 2 fun Wb kb hb' => turn 2 Wa Wb (by decide) ka ha kb hb'
    · refine ld_int (by rw [b8.cell]; rfl) (tick_spec cp8.a cp8.n0 cp8.n1 z fun Wa ka ha => ld_int (by rw [(b8.keep ka (by simp; omega)).cell]; rfl) ?_)
      refine rtick_spec (cp8.r.keep ka (by simp [Ne.symm cp8.d1]) (by simp [Ne.symm cp8.d2])) cp8.n0 cp8.n1 z fun Wb kb hb' => ?_
      obtain ⟨t0, t1, _, t2⟩ := tick_range (n := z) cp8.n0 cp8.n1
      exact fin Wb st _ _ (by omega) (by omega) hst ⟨(cp8.k.push ka (by simpa using cp8.b1)).push kb (by simpa using cp8.b3), ha.keep kb (by simp [cp8.d1]) (by simp [cp8.d3]), hb',
        cp8.b1, cp8.b2, cp8.b3, cp8.b4, cp8.d1, cp8.d2, cp8.d3, cp8.d4, cp8.s, t0, t1⟩ ((b8.keep ka (by simp; omega)).keep kb (by simp; omega))

theorem rd3_of {W : World} {n : Nat} {s : Sl} (h : RdT Try.prog W n 22 [.slice s.a s.len s.cap]) : Rd3 W s ∧ s.len ≤ 9223372036854775807 := by
  have hu22 : Try.prog.underlying 22 = some (.slice 35) := by kernel_rfl
  obtain ⟨a, len, cap, m, hv, hl, hm, _, hx⟩ := rd_slice hu22 h
  obtain ⟨rfl, rfl, rfl⟩ : s.a = a ∧ s.len = len ∧ s.cap = cap := by injection hv with h1 h2 h3; exact ⟨h1, h2, h3⟩
  rw [maxLen_eq] at hm
  refine ⟨fun i hi => ?_, by omega⟩
  obtain ⟨p, cs, hp, hc, hr⟩ := hx i hi
  have hs : Try.prog.cellsOf 35 = 3 := by kernel_rfl
  rw [hs] at hc
  have hu35 : Try.prog.underlying 35 = some (.struct #[⟨ "What", 3, 0, false, "", "", 0⟩, ⟨ "W", 3, 1, false, "", "", 8⟩, ⟨ "N", 2, 2, false, "", "", 16⟩]) := by kernel_rfl
  have hu3 : Try.prog.underlying 3 = some (.int .i64) := by kernel_rfl
  have hu2 : Try.prog.underlying 2 = some (.int .i64) := by kernel_rfl
  obtain ⟨m', hlen, hf⟩ := rd_struct (t := 35) (fs := #[⟨ "What", 3, 0, false, "", "", 0⟩, ⟨ "W", 3, 1, false, "", "", 8⟩, ⟨ "N", 2, 2, false, "", "", 16⟩]) hu35 hr
  rw [hs] at hlen
  have h3 : Try.prog.cellsOf 3 = 1 := by kernel_rfl
  have h2 : Try.prog.cellsOf 2 = 1 := by kernel_rfl
  obtain ⟨u, v, w, rfl⟩ := len3 hlen
  have f0 : RdT Try.prog W m' 3 (([u, v, w].drop 0).take (Try.prog.cellsOf 3)) := hf 0 _ rfl
  have f1 : RdT Try.prog W m' 3 (([u, v, w].drop 1).take (Try.prog.cellsOf 3)) := hf 1 _ rfl
  have f2 : RdT Try.prog W m' 2 (([u, v, w].drop 2).take (Try.prog.cellsOf 2)) := hf 2 _ rfl
  rw [h3] at f0 f1
  rw [h2] at f2
  obtain ⟨x, rfl, wx⟩ := rd_int hu3 f0
  obtain ⟨y, rfl, wy⟩ := rd_int hu3 f1
  obtain ⟨z, rfl, wz⟩ := rd_int hu2 f2
  obtain ⟨b1, b2⟩ := bounds_i64 wx
  obtain ⟨b3, b4⟩ := bounds_i64 wz
  exact ⟨p, x, y, z, hp, by have := cell_lt hc.1; rwa [add_block, add_block] at this, hc, b1, b2, b3, b4⟩
theorem crewPlays_row (W : World) (n : Int) (s : Sl) (_ : (Lit.int .i64 n).wf = true) (m : Nat) (h : RdT Try.prog W m 22 [.slice s.a s.len s.cap]) :
    callG Try.prog 3 [.int .i64 n, .slice s.a s.len s.cap] [.one .bool] W fun x W' => x = (true, ()) ∧ Keeps [] W W' :=
  crewPlays_walk W n s (rd3_of h).1 (rd3_of h).2

theorem turn_dead {l : List Int} {d w v : Int} (h0 : 0 ≤ d) (h : stateOf l d = 2) (hd : d < l.length) : stateOf (turnS l w v) d = 2 := by
  unfold turnS
  split
  · rename_i hf
    obtain ⟨h1, h2⟩ := fit_range hf
    have hne : w ≠ d := by
      rintro rfl
      unfold fitC at hf
      rw [h] at hf
      simp at hf
    unfold stateOf at *
    rw [if_pos ⟨h0, hd⟩] at h
    rw [if_pos ⟨h0, by rw [List.length_set]; exact hd⟩, List.getD_eq_getElem?_getD, List.getElem?_set, if_neg (by omega), ← List.getD_eq_getElem?_getD, h]
  · exact h
theorem kill_dead {l : List Int} {d : Int} (h0 : 0 ≤ d) (hd : d < l.length) : stateOf (turnS l d 2) d = 2 ∨ fitC l d ≠ 0 := by
  by_cases hf : fitC l d = 0
  · left
    unfold turnS stateOf
    rw [if_pos hf, if_pos ⟨h0, by rw [List.length_set]; exact hd⟩, List.getD_eq_getElem?_getD, List.getElem?_set, if_pos rfl, if_pos (by omega)]
    rfl
  · exact .inr hf

theorem crewDead_walk (W0 : World) (d : Int) (s : Sl) (hr : Rd3 W0 s) :
    callG Try.prog 4 [.int .i64 d, .slice s.a s.len s.cap] [.one .bool] W0 fun x W' => x = (true, ()) ∧ Keeps [] W0 W' := by
  apply call4
  unfold G4
  refine up_spec fun W1 k1 => ?_
  refine new_spec 16 (fun hb => by omega) fun g1 g2 c cl W2 hc hcl k2 hC => ?_
  simp only [ifB_dec, ifB_true, ifB_false, Option.isNone_some, Bool.not_false, er_nil, er_ifc, decide_true, Bool.not_true, true_and]
  refine ⟨fun _ => k1.trans k2, fun hlen => ⟨fun _ => k1.trans k2, fun hd0 => ⟨fun _ => k1.trans k2, fun hd1 => ?_⟩⟩⟩
  refine kill_spec hC d fun W3 k3 h3 => ⟨er_ifc _, ?_⟩
  have hfit : fitC (List.replicate (Int.toNat 16) 0) d = 0 := by
    have : stateOf (List.replicate (Int.toNat 16) 0) d = 0 := by
      unfold stateOf
      rw [if_pos ⟨by omega, by simp; omega⟩, List.getD_eq_getElem?_getD, List.getElem?_replicate, if_pos (by omega)]
      rfl
    rw [fitC, this]; rfl
  have hdead : stateOf (turnS (List.replicate (Int.toNat 16) 0) d 2) d = 2 := by
    rcases kill_dead (l := List.replicate (Int.toNat 16) 0) (d := d) (by omega) (by simp; omega) with h | h
    · exact h
    · exact absurd hfit h
  simp only [er_nil, hfit, decide_true, Bool.not_true, ifB_false]
  refine now_spec h3 ?_
  have e1 := k1.size
  refine LoopG.rule (fun x w => ∃ (i : Nat) (st : List Int) (now : Int), i ≤ s.len ∧ x = (d, s, true, some ⟨c, 0, none⟩, now, (i : Int), ()) ∧ Keeps [] W0 w ∧ CrewAt w c cl st now 143 ∧ st.length = 16 ∧ stateOf st d = 2 ∧ 0 ≤ now ∧ now ≤ 1099511627776)
    (fun x _ => s.len - x.2.2.2.2.2.1.toNat) ⟨0, _, 0, Nat.zero_le _, rfl, (k1.trans k2).push k3 (by simp; omega), h3, by rw [turn_len]; simp, hdead, by omega, by omega⟩ ?_
  rintro x W ⟨i, st, now, hi, rfl, k, ha, hst, hdd, n0, n1⟩ C hC' j
  dsimp only
  simp only [ifB_dec]
  refine ⟨fun hlt => ?_, fun hge => ⟨by trivial, k⟩⟩
  obtain ⟨p, x, y, z, hp, hpb, hcells, x0, x1, z0, z1⟩ := hr i (by omega)
  have hcw := k.cells (by simp) _ _ hcells
  have hfd : fitC st d = 9 := by rw [fitC, hdd]; rfl
  have hmd : mayC st d = 9 := by rw [mayC, hfd]; rfl
  refine JoinG.rule (fun v w => ∃ (st' : List Int) (now' : Int), v = (d, s, true, some ⟨c, 0, none⟩, now, (i : Int), ()) ∧ Keeps [] W0 w ∧ CrewAt w c cl st' now' 143 ∧ st'.length = 16 ∧ stateOf st' d = 2 ∧ now ≤ now' ∧ now' ≤ 1099511627776) ?_ ?_
  · rintro v w ⟨st', now', rfl, k', ha', hst', hdd', n0', n1'⟩ j'
    have hfd' : fitC st' d = 9 := by rw [fitC, hdd']; rfl
    have hmd' : mayC st' d = 9 := by rw [mayC, hfd']; rfl
    refine state_spec ha' d ?_
    simp only [hdd', bne_self_eq_false, ifB_false]
    refine may_spec ha' d (er_eq (by decide) ?_)
    simp only [hmd', decide_true, Bool.not_true, ifB_false]
    refine now_spec ha' ?_
    simp only [ifB_dec]
    refine ⟨fun h => by omega, fun _ => now_spec ha' ?_⟩
    rw [w64 (by omega) (by omega)]
    exact hC' _ _ ⟨i + 1, st', now', by omega, by simp, k', ha', hst', hdd', by omega, n1'⟩ (by simp only; omega)
  · intro B hB
    refine ⟨p, hp, by omega, by omega, ?_⟩
    rw [Int.toNat_natCast]
    refine ld_int (by have := hcw.1; unfold Addr.add at this ⊢; simpa using this) (pick_spec x0 x1 (by decide) ?_)
    have step : ∀ (Wa : World) (st' : List Int) (now' : Int) (T : List Nat), Keeps T W Wa → (∀ b ∈ T, W0.heap.size ≤ b) → CrewAt Wa c cl st' now' 143 → st'.length = 16 → stateOf st' d = 2 → now ≤ now' → now' ≤ 1099511627776 →
        B (d, s, true, some ⟨c, 0, none⟩, now, (i : Int), ()) Wa := fun Wa st' now' T ka hT h1 h2 h3 h4 h5 => hB _ _ ⟨st', now', rfl, k.push ka hT, h1, h2, h3, h4, h5⟩
    have hb1 : W0.heap.size ≤ cl := by omega
    have hb2 : W0.heap.size ≤ c := by omega
    simp only [ifB_iff, beq_iff_eq, beq_eq_false_iff_ne]
    refine ⟨fun _ => ?_, fun _ => ⟨fun _ => ?_, fun _ => ?_⟩⟩
    · refine ⟨p, hp, by omega, by omega, ?_⟩
      exact ld_int hcw.2.1 (stall_spec ha y fun Wa ka h1 => step Wa _ now [cl] ka (by simpa using hb1) h1 (by rw [turn_len]; exact hst) (turn_dead (by omega) hdd (by omega)) (by omega) n1)
    · refine ⟨p, hp, by omega, by omega, ?_⟩
      exact ld_int hcw.2.1 (wake_spec ha y fun Wa ka h1 => step Wa _ now [cl] ka (by simpa using hb1) h1 (by rw [turn_len]; exact hst) (turn_dead (by omega) hdd (by omega)) (by omega) n1)
    · refine ⟨p, hp, by omega, by omega, ?_⟩
      obtain ⟨t0, t1, t2, _⟩ := tick_range (n := z) n0 n1
      exact ld_int hcw.2.2.1 (tick_spec ha n0 n1 z fun Wa ka h1 => step Wa st _ [c] ka (by simpa using hb2) h1 hst hdd t2 t1)
theorem crewDead_row (W : World) (n : Int) (s : Sl) (_ : (Lit.int .i64 n).wf = true) (m : Nat) (h : RdT Try.prog W m 22 [.slice s.a s.len s.cap]) :
    callG Try.prog 4 [.int .i64 n, .slice s.a s.len s.cap] [.one .bool] W fun x W' => x = (true, ()) ∧ Keeps [] W W' :=
  crewDead_walk W n s (rd3_of h).1
end Go.Proofs.Ytbaclnddcobdmaa
