/-
  The law KeyCuts.
-/
import Derived.Test.YtbaclnddcobdmaaKey
import Derived.OpenShut
set_option linter.unusedSimpArgs false
set_option linter.unusedVariables false
namespace Go.Proofs.Ytbaclnddcobdmaa
open Go Go.Gp

theorem cutC_range (x y k : List UInt8) : 0 ≤ cutC x y k ∧ cutC x y k ≤ 11 := by unfold cutC; (repeat' split) <;> omega
theorem joinC_range (x y u v : List UInt8) : 0 ≤ joinC x y u v ∧ joinC x y u v ≤ 11 := by unfold joinC; (repeat' split) <;> omega
/-- The law's second half: two ranges are joined. -/
theorem second_half {W0 W : World} {m1 m2 : Nat} {a b c d : Sl} {x y u v : List UInt8} (kk : Keeps [] W0 W) (h1 : Blk W m1 [.slice a.a a.len a.cap, .slice b.a b.len b.cap] 47) (h2 : Blk W m2 [.slice c.a c.len c.cap, .slice d.a d.len d.cap] 47)
    (ha : Bs W a x) (hb : Bs W b y) (hc : Bs W c u) (hd : Bs W d v) (hx : x.length ≤ 1000) (hv : v.length ≤ 1000) {K : Bool × Unit → World → Prop} (hk : ∀ W', Keeps [] W0 W' → K (true, ()) W') :
    ldN [.sl, .sl] (Addr.mk m2 0 none) W fun (x53 : Sl × Sl × Unit) => callG Try.prog 30 [(.agg #[(.slice x53.1.a x53.1.len x53.1.cap), (.slice x53.2.1.a x53.2.1.len x53.2.1.cap)])] [.one .bool] W fun (r54 : Bool × Unit) W => ld1 .sl ((Addr.mk m1 0 none).add 1) W fun (x55 : Sl) => ld1 .sl (Addr.mk m2 0 none) W fun (x56 : Sl) => callG Try.prog 33 [(.slice x55.a x55.len x55.cap), (.slice x56.a x56.len x56.cap)] [.one .bool] W fun (r57 : Bool × Unit) W => JoinG (V := Addr × Addr × Bool × Bool × Int × Bool × Unit) (fun v58 W => ∀ j59 : Nat → Value, JoinG (V := Addr × Addr × Bool × Int × Unit) (fun v61 W => ∀ j62 : Nat → Value, ldN [.sl, .sl] v61.1 W fun (x64 : Sl × Sl × Unit) => ldN [.sl, .sl] v61.2.1 W fun (x65 : Sl × Sl × Unit) => callG Try.prog 36 [(.agg #[(.slice x64.1.a x64.1.len x64.1.cap), (.slice x64.2.1.a x64.2.1.len x64.2.1.cap)]), (.agg #[(.slice x65.1.a x65.1.len x65.1.cap), (.slice x65.2.1.a x65.2.1.len x65.2.1.cap)])] [.agg [.sl, .sl], .one .any] W fun (r66 : (Sl × Sl × Unit) × Value × Unit) W => newG (.cells #[(.slice none 0 0), (.slice none 0 0)] 47) W fun b67 W => st1 (Addr.mk b67 0 none) (.slice r66.1.1.a r66.1.1.len r66.1.1.cap) W fun W => st1 ((Addr.mk b67 0 none).add 1) (.slice r66.1.2.1.a r66.1.2.1.len r66.1.2.1.cap) W fun W => callG Try.prog 22 [r66.2.1] [.one (.int .i64)] W fun (r68 : Int × Unit) W => ifB ((r68.1 : Int) != v61.2.2.2.1) (K (false, ()) W) (ifB v61.2.2.1 (ifB ((v61.2.2.2.1 : Int) != 0) (K (true, ()) W) (ldN [.sl, .sl] (Addr.mk b67 0 none) W fun (x69 : Sl × Sl × Unit) => ld1 .sl v61.1 W fun (x70 : Sl) => ld1 .sl (v61.2.1.add 1) W fun (x71 : Sl) => callG Try.prog 35 [(.agg #[(.slice x69.1.a x69.1.len x69.1.cap), (.slice x69.2.1.a x69.2.1.len x69.2.1.cap)]), (.agg #[(.slice x70.a x70.len x70.cap), (.slice x71.a x71.len x71.cap)])] [.one .bool] W fun (r72 : Bool × Unit) W => K (r72.1, ()) W)) (K (false, ()) W))) fun B63 => ifB (!v58.2.2.2.1) (B63 (v58.1, v58.2.1, v58.2.2.1, 1, ()) W) (ifB (!v58.2.2.2.2.2.1) (B63 (v58.1, v58.2.1, v58.2.2.1, 1, ()) W) (B63 (v58.1, v58.2.1, v58.2.2.1, v58.2.2.2.2.1, ()) W))) fun B60 => ld1 .sl ((Addr.mk m1 0 none).add 1) W fun (x73 : Sl) => ifB ((((x73.len : Nat) : Int) : Int) == 0) (B60 ((Addr.mk m1 0 none), (Addr.mk m2 0 none), true, (soundR x y), 6, r54.1, ()) W) (ifB (!r57.1) (B60 ((Addr.mk m1 0 none), (Addr.mk m2 0 none), true, (soundR x y), 6, r54.1, ()) W) (B60 ((Addr.mk m1 0 none), (Addr.mk m2 0 none), true, (soundR x y), 0, r54.1, ()) W)) := by
  refine ld2 h2 (rsound_spec hc hd fun W1 k1 => ?_)
  replace h1 := h1.keep k1 (by simp)
  replace h2 := h2.keep k1 (by simp)
  replace ha := ha.keep0 k1
  replace hb := hb.keep0 k1
  replace hc := hc.keep0 k1
  replace hd := hd.keep0 k1
  replace kk := kk.trans k1
  simp only [addr0]
  refine ld_sl (by rw [h1.cell]; rfl) (ld_sl (by rw [h2.cell]; rfl) (rsame_spec hb hc ?_))
  refine JoinG.rule (fun w W' => W' = W1 ∧ w = (⟨m1, 0, none⟩, ⟨m2, 0, none⟩, true, soundR x y, (if y.length = 0 then 6 else if y = u then 0 else 6), soundR u v, ())) ?_ ?_
  · rintro w W' ⟨rfl, rfl⟩ j
    dsimp only
    refine JoinG.rule (fun w W'' => W'' = W' ∧ w = (⟨m1, 0, none⟩, ⟨m2, 0, none⟩, true, joinC x y u v, ())) ?_ ?_
    · rintro w W'' ⟨rfl, rfl⟩ j2
      dsimp only
      refine ld2 h1 (ld2 h2 (join_spec ha hb hc hd (by omega) (by omega) fun r1 r2 W2 k2 hr => ?_))
      refine new_blk fun m W3 hm k3 b3 => st2 b3 fun W4 k4 b4 => ?_
      have k34 := k3.push k4 (by simp [hm])
      refine code_spec (joinC_range ..).1 (joinC_range ..).2 (ifN (fun h => absurd rfl h) fun _ => ifB_t rfl (ifN (fun h => ?_) fun h => ?_))
      · exact hk _ ((kk.trans k2).trans k34)
      · obtain ⟨q1, q2⟩ := hr h
        simp only [addr0]
        refine ld2 b4 (ld_sl (by rw [((h1.keep k2 (by simp)).keep k34 (by simp)).cell]; rfl) (ld_sl (by rw [((h2.keep k2 (by simp)).keep k34 (by simp)).cell]; rfl) ?_))
        refine ranges_spec (q1.keep0 k34) (q2.keep0 k34) ((ha.keep0 k2).keep0 k34) ((hd.keep0 k2).keep0 k34) fun W5 k5 => ?_
        rw [decide_eq_true rfl, decide_eq_true rfl]
        exact hk _ (((kk.trans k2).trans k34).trans k5)
    · intro B hB
      refine ifNot (fun h => hB _ _ ⟨rfl, ?_⟩) fun h => ifNot (fun h2 => hB _ _ ⟨rfl, ?_⟩) fun h2 => hB _ _ ⟨rfl, ?_⟩
      · rw [show joinC x y u v = 1 from by rw [joinC, if_pos h]]
      · rw [show joinC x y u v = 1 from by rw [joinC, if_neg (by rw [show soundR x y = true from h]; decide), if_pos h2]]
      · rw [show joinC x y u v = (if y.length = 0 then 6 else if y = u then 0 else 6) from by rw [joinC, if_neg (by rw [show soundR x y = true from h]; decide), if_neg (by rw [show soundR u v = true from h2]; decide)]]
  · intro B hB
    refine ld_sl (by rw [h1.cell]; rfl) ?_
    dsimp only
    rw [hb.len]
    refine ifE (fun h => hB _ _ ⟨rfl, ?_⟩) fun h => ifNot (fun h2 => hB _ _ ⟨rfl, ?_⟩) fun h2 => hB _ _ ⟨rfl, ?_⟩
    · rw [if_pos (by omega)]
    · rw [if_neg (by omega), if_neg (by simpa using h2)]
    · rw [if_neg (by omega), if_pos (by simpa using h2)]

theorem keyCuts_walk (W0 : World) (a b e c d : Sl) {x y k u v : List UInt8} (ha : Bs W0 a x) (hb : Bs W0 b y) (he : Bs W0 e k) (hc : Bs W0 c u) (hd : Bs W0 d v) {K : Bool × Unit → World → Prop} (hk : ∀ W', Keeps [] W0 W' → K (true, ()) W') :
    callG Try.prog 5 [.agg #[.slice a.a a.len a.cap, .slice b.a b.len b.cap], .slice e.a e.len e.cap, .agg #[.slice c.a c.len c.cap, .slice d.a d.len d.cap]] [.one .bool] W0 K := by
  apply call5
  unfold G5
  refine new_blk fun m1 W1 hm1 k1 b1 => new_blk fun m2 W2 hm2 k2 b2 => kup_spec fun W3 k3 => ?_
  replace b1 := (b1.keep k2 (by simp)).keep k3 (by simp)
  replace b2 := b2.keep k3 (by simp)
  have kk := (k1.trans k2).trans k3
  clear k1 k2 k3 hm1 hm2
  have out := hk W3 kk
  have hal := ha.len
  have hbl := hb.len
  have hel := he.len
  have hcl := hc.len
  have hdl := hd.len
  refine ifD (fun _ => out) fun g1 => ld_sl (by rw [b1.cell]; rfl) (ifD (fun _ => out) fun g2 => ld_sl (by rw [addr0, b1.cell]; rfl) (ifD (fun _ => out) fun g3 => ld_sl (by rw [b2.cell]; rfl) (ifD (fun _ => out) fun g4 => ld_sl (by rw [addr0, b2.cell]; rfl) (ifD (fun _ => out) fun g5 => ?_))))
  dsimp only at g1 g2 g3 g4 g5
  replace ha := ha.keep0 kk
  replace hb := hb.keep0 kk
  replace hc := hc.keep0 kk
  replace hd := hd.keep0 kk
  replace he := he.keep0 kk
  clear out
  refine ld2 b1 (rsound_spec ha hb fun W4 k4 => krmay_spec (he.keep0 k4) (ld2 (b1.keep k4 (by simp)) (rin_spec (ha.keep0 k4) (hb.keep0 k4) (he.keep0 k4) fun W5 k5 => ?_)))
  replace k4 := k4.trans k5
  clear k5
  replace b1 := b1.keep k4 (by simp)
  replace b2 := b2.keep k4 (by simp)
  replace ha := ha.keep0 k4
  replace hb := hb.keep0 k4
  replace hc := hc.keep0 k4
  replace hd := hd.keep0 k4
  replace he := he.keep0 k4
  replace kk := kk.trans k4
  clear k4
  refine ld_sl (by rw [b1.cell]; rfl) (rsame_spec ha he ?_)
  refine JoinG.rule (fun w W' => W' = W5 ∧ w = (e, ⟨m1, 0, none⟩, ⟨m2, 0, none⟩, true, soundR x y, mayK k, (if inR x y k = false then 6 else if x = k then 6 else 0), ())) ?_ ?_
  · rintro w W' ⟨rfl, rfl⟩ j
    dsimp only
    refine JoinG.rule (fun w W'' => W'' = W' ∧ w = (e, ⟨m1, 0, none⟩, ⟨m2, 0, none⟩, true, soundR x y, cutC x y k, ())) ?_ ?_
    · rintro w W'' ⟨rfl, rfl⟩ j2
      dsimp only
      refine ld2 b1 (cut_spec ha hb he (by omega) (by omega) (by omega) fun r1 r2 s1 s2 W6 k6 hr => ?_)
      refine new_blk fun n1 W7 hn1 k7 c1 => new_blk fun n2 W8 hn2 k8 c2 => ?_
      have d12 : n1 < n2 := by rw [hn2]; exact c1.lt
      refine st2 (c1.keep k8 (by simp)) fun W9 k9 c1 => st2 (c2.keep k9 (by simp; omega)) fun Wa ka c2 => ?_
      replace c1 := c1.keep ka (by simp; omega)
      have k6a : Keeps [] W6 Wa := (k7.trans k8).push ((k9.mono (T := [n1, n2]) (by simp)).trans (ka.mono (by simp))) (by simp; omega)
      have kt := k6.trans k6a
      clear k7 k8 k9 ka
      refine code_spec (cutC_range ..).1 (cutC_range ..).2 (ifN (fun h => absurd rfl h) fun _ => ifE (fun h => ?_) fun h => ?_)
      · obtain ⟨p1, p2, p3, p4⟩ := hr h
        refine ld2 c1 (ld_sl (by rw [(b1.keep kt (by simp)).cell]; rfl) (ranges_spec (p1.keep0 k6a) (p2.keep0 k6a) (ha.keep0 kt) (he.keep0 kt) fun Wb kb => ?_))
        rw [decide_eq_true rfl, decide_eq_true rfl]
        have ktb := kt.trans kb
        have k6b := k6a.trans kb
        refine ifB_f rfl (ld2 (c2.keep kb (by simp)) (ld_sl (by rw [addr0, (b1.keep ktb (by simp)).cell]; rfl) (ranges_spec (p3.keep0 k6b) (p4.keep0 k6b) (he.keep0 ktb) (hb.keep0 ktb) fun Wc kc => ?_)))
        rw [decide_eq_true rfl, decide_eq_true rfl]
        have ktc := ktb.trans kc
        refine ifB_f rfl ?_
        exact second_half (kk.trans ktc) (b1.keep ktc (by simp)) (b2.keep ktc (by simp)) (ha.keep0 ktc) (hb.keep0 ktc) (hc.keep0 ktc) (hd.keep0 ktc) (by omega) (by omega) hk
      · exact second_half (kk.trans kt) (b1.keep kt (by simp)) (b2.keep kt (by simp)) (ha.keep0 kt) (hb.keep0 kt) (hc.keep0 kt) (hd.keep0 kt) (by omega) (by omega) hk
    · intro B hB
      refine ifNot (fun h => hB _ _ ⟨rfl, ?_⟩) fun h => ifNot (fun h2 => hB _ _ ⟨rfl, ?_⟩) fun h2 => hB _ _ ⟨rfl, ?_⟩
      · rw [show cutC x y k = 1 from by rw [cutC, if_pos h]]
      · rw [show cutC x y k = 1 from by rw [cutC, if_neg (by rw [show soundR x y = true from h]; decide), if_pos h2]]
      · rw [show cutC x y k = (if inR x y k = false then 6 else if x = k then 6 else 0) from by rw [cutC, if_neg (by rw [show soundR x y = true from h]; decide), if_neg (by rw [show mayK k = true from h2]; decide)]]
  · intro B hB
    refine ifNot (fun h => hB _ _ ⟨rfl, ?_⟩) fun h => ifD (fun h2 => hB _ _ ⟨rfl, ?_⟩) fun h2 => hB _ _ ⟨rfl, ?_⟩
    · rw [if_pos h]
    · rw [if_neg (by rw [show inR x y k = true from h]; decide), if_pos h2]
    · rw [if_neg (by rw [show inR x y k = true from h]; decide), if_neg h2]
theorem c45 : Try.prog.cellsOf 5 = 1 := by kernel_rfl
/-- A range that is read. -/
theorem rd_range {W : World} {n : Nat} {cs : List Value} (h : RdT Try.prog W n 47 cs) : ∃ a b : Sl, cs = [.slice a.a a.len a.cap, .slice b.a b.len b.cap] ∧ (∃ x, Bs W a x) ∧ ∃ y, Bs W b y := by
  have hu : ∃ fs, Try.prog.underlying 47 = some (.struct fs) ∧ fs[0]?.map (fun f => (f.offset, f.type)) = some (0, 45) ∧ fs[1]?.map (fun f => (f.offset, f.type)) = some (1, 45) := by
    have h : (match Try.prog.underlying 47 with | some (.struct fs) => some (fs[0]?.map (fun f => (f.offset, f.type)), fs[1]?.map (fun f => (f.offset, f.type))) | _ => none) = some (some (0, 45), some (1, 45)) := by kernel_rfl
    split at h
    · rename_i fs hf
      injection h with h
      simp only [Prod.mk.injEq] at h
      exact ⟨fs, hf, h.1, h.2⟩
    · cases h
  obtain ⟨fs, hf, h0, h1⟩ := hu
  have hc : Try.prog.cellsOf 47 = 2 := by kernel_rfl
  have hc' : Try.prog.cellsOf 45 = 1 := by kernel_rfl
  obtain ⟨m, hl, hx⟩ := rd_struct hf h
  rw [hc] at hl
  obtain ⟨p, q, rfl⟩ := len2 hl
  obtain ⟨f0, e0, g0⟩ := Option.map_eq_some_iff.1 h0
  obtain ⟨f1, e1, g1⟩ := Option.map_eq_some_iff.1 h1
  simp only [Prod.mk.injEq] at g0 g1
  have r0 := hx 0 f0 e0
  have r1 := hx 1 f1 e1
  rw [g0.1, g0.2, hc'] at r0
  rw [g1.1, g1.2, hc'] at r1
  obtain ⟨s0, n0, c0, _, rfl, _⟩ := rd_slice u45 r0
  obtain ⟨s1, n1, c1, _, rfl, _⟩ := rd_slice u45 r1
  exact ⟨⟨s0, n0, c0⟩, ⟨s1, n1, c1⟩, rfl, bs_of u45 u5 c45 r0, bs_of u45 u5 c45 r1⟩
theorem keyCuts_row (W : World) (cs : Array Value) (e : Sl) (ds : Array Value) (n0 : Nat) (h0 : RdT Try.prog W n0 47 cs.toList) (n1 : Nat) (h1 : RdT Try.prog W n1 45 [.slice e.a e.len e.cap]) (n2 : Nat) (h2 : RdT Try.prog W n2 47 ds.toList) :
    callG Try.prog 5 [.agg cs, .slice e.a e.len e.cap, .agg ds] [.one .bool] W fun x W' => x = (true, ()) ∧ Keeps [] W W' := by
  obtain ⟨a, b, ec, ⟨x, ha⟩, y, hb⟩ := rd_range h0
  obtain ⟨c, d, ed, ⟨u, hc⟩, v, hd⟩ := rd_range h2
  obtain ⟨k, he⟩ := bs_of u45 u5 c45 h1
  obtain rfl : cs = #[.slice a.a a.len a.cap, .slice b.a b.len b.cap] := by cases cs; exact congrArg Array.mk ec
  obtain rfl : ds = #[.slice c.a c.len c.cap, .slice d.a d.len d.cap] := by cases ds; exact congrArg Array.mk ed
  exact keyCuts_walk W a b e c d ha hb he hc hd fun W' k => ⟨rfl, k⟩
end Go.Proofs.Ytbaclnddcobdmaa
