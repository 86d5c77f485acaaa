/-
  The laws of layer 1 (cell), over the formulas.
-/
import Derived.Test.YtbaclnddcobdmaaCell
import Derived.OpenShut
set_option linter.unusedSimpArgs false
set_option linter.unusedVariables false
namespace Go.Proofs.Ytbaclnddcobdmaa
open Go Go.Gp

theorem cnew_bad {W : World} (n : Int) (hb : n < 1 ∨ 1000 < n) {K : Option Addr × Value × Unit → World → Prop} (hk : K (none, er 1, ()) W) : callG Try.prog 38 [.int .i64 n] [.one .ptr, .one .any] W K :=
  cnew_spec n (fun _ => hk) fun h1 h2 => by omega
theorem cup_spec {W : World} {K : Bool × Unit → World → Prop} (hk : ∀ W', Keeps [] W W' → K (true, ()) W') : callG Try.prog 37 [] [.one .bool] W K := by
  apply call37
  unfold G37
  refine cnew_spec 1 (fun h => by omega) fun _ _ c cl W1 hc hcl k1 h1 => ?_
  refine cnew_bad 0 (by omega) ?_
  simp only [Option.isNone_some, ifB_false, er_nil, decide_true, Bool.not_true, er_ifc, true_and]
  refine cswap_spec h1 0 0 5 (fun h => absurd h (by decide)) (fun _ h => absurd h (by decide)) fun _ _ W2 k2 h2 => ?_
  refine cswap_spec h2 0 0 6 (fun h => absurd h (by decide)) (fun _ _ => ?_) (fun _ h => absurd h (by decide))
  refine er_eq (by decide) ?_
  simp only [decide_true, ifB_true, er_ifc, true_and, er_nil, Bool.not_false]
  refine cstamp_spec h2 0 ?_
  rw [show (if inR (wrote (List.replicate (Int.toNat 1) (0, 0)) (Int.toNat 0) 5) 0 then (valAt (wrote (List.replicate (Int.toNat 1) (0, 0)) (Int.toNat 0) 5) 0).2 else 0) = 1 from by decide]
  exact hk _ (k1.push k2 (by simpa using hcl))

/-- Whole numbers without sign in old memory. -/
def Rd1 (W : World) (s : Sl) : Prop := ∀ i : Nat, i < s.len → ∃ p x, s.a = some p ∧ W.cell? (p.add i) = some (.int .u64 x) ∧ p.block < W.heap.size

theorem cellOne_walk (W0 : World) (old : Int) (s : Sl) (hr : Rd1 W0 s) :
    callG Try.prog 6 [.int .u64 old, .slice s.a s.len s.cap] [.one .bool] W0 fun x W' => x = (true, ()) ∧ Keeps [] W0 W' := by
  apply call6
  unfold G6
  refine cup_spec fun W1 k1 => ?_
  refine cnew_spec 2 (fun h => by omega) fun _ _ c cl W2 hc hcl k2 h2 => ?_
  simp only [Option.isNone_some, ifB_false, er_nil, decide_true, Bool.not_true, er_ifc, true_and, ifB_true, Bool.not_false]
  refine ifD (fun _ => k1.trans k2) fun hlen => ?_
  refine cstore_spec h2 1 old (fun h => absurd h (by decide)) fun _ W3 k3 h3 => ?_
  simp only [er_ifc, er_nil, decide_true, Bool.not_true, ifB_false, true_and]
  have e1 := k1.size
  have hcb : W0.heap.size ≤ cl := by omega
  refine LoopG.rule (fun x w => ∃ (i : Nat) (v won : Int), i ≤ s.len ∧ x = (old, s, true, some ⟨c, 0, none⟩, won, (i : Int), ()) ∧ Keeps [] W0 w ∧ CellsAt w c cl [(0, 0), (v, 1 + won)] ∧ (won = 0 ∧ v = old ∨ won = 1 ∧ v ≠ old))
    (fun x _ => s.len - x.2.2.2.2.2.1.toNat) ⟨0, old, 0, Nat.zero_le _, rfl, (k1.trans k2).push k3 (by simpa using hcb), h3, .inl ⟨rfl, rfl⟩⟩ ?_
  rintro x W ⟨i, v, won, hi, rfl, k, h, hw⟩ C hC j
  dsimp only
  refine ifD (fun hlt => ?_) fun hge => ⟨rfl, k⟩
  obtain ⟨p, y, hp, hcell, hpb⟩ := hr i (by omega)
  have hcw : W.cell? (p.add i) = some (.int .u64 y) := k.cell hcell (by simp)
  refine ⟨p, hp, by omega, by omega, ?_⟩
  rw [Int.toNat_natCast, Nat.mul_one]
  refine ld_int hcw ?_
  have next : IntKind.i64.wrap ((i : Int) + 1) = ((i + 1 : Nat) : Int) := by rw [w64 (by omega) (by omega)]; simp
  refine ifE (fun _ => ?_) fun hne => ?_
  · rw [next]
    exact hC _ _ ⟨i + 1, v, won, by omega, rfl, k, h, hw⟩ (by simp only; omega)
  refine ⟨p, hp, by omega, by omega, ld_int hcw ?_⟩
  -- what stands behind the call of Swap
  refine cswap_spec h 1 old y (fun hn => absurd (show inR [(0, 0), (v, 1 + won)] 1 from ⟨by decide, by simp⟩) hn) (fun _ hv => ?_) (fun _ hv W' k' h' => ?_)
  all_goals
    dsimp only
    refine ⟨er_ifc _, ?_⟩
    rw [er_nil]
    refine ifB_f rfl ?_
    refine JoinG.rule (fun x w => ∃ (v' won' : Int), x = (old, s, true, some ⟨c, 0, none⟩, won', (i : Int), ()) ∧ Keeps [] W0 w ∧ CellsAt w c cl [(0, 0), (v', 1 + won')] ∧ (won' = 0 ∧ v' = old ∨ won' = 1 ∧ v' ≠ old)) (fun x w hx => ?body) fun B hB => ?_
    case body =>
      obtain ⟨v', won', rfl, k', h', hw'⟩ := hx
      intro j'
      have hin : inR [(0, 0), (v', 1 + won')] 1 := ⟨by decide, by simp⟩
      have hin0 : inR [(0, 0), (v', 1 + won')] 0 := ⟨by decide, by simp⟩
      refine cload_spec h' 1 ?_
      rw [if_pos hin, show valAt [(0, 0), (v', 1 + won')] 1 = (v', 1 + won') from rfl]
      dsimp only
      refine ⟨er_ifc _, ?_⟩
      rw [er_nil]
      refine ifB_f rfl (ifD (fun h => by omega) fun _ => cstamp_spec h' 1 ?_)
      rw [if_pos hin, show valAt [(0, 0), (v', 1 + won')] 1 = (v', 1 + won') from rfl]
      have stamp0 : ∀ {K : Int × Unit → World → Prop}, K (0, ()) w → callG Try.prog 42 [.pointer (some ⟨c, 0, none⟩), .int .i64 0] [.one (.int .i64)] w K := fun {K} hK => cstamp_spec h' 0 (by rw [if_pos hin0]; exact hK)
      have fin : C (old, s, true, some ⟨c, 0, none⟩, won', IntKind.i64.wrap ((i : Int) + 1), ()) w := by
        rw [next]
        exact hC _ _ ⟨i + 1, v', won', by omega, rfl, k', h', hw'⟩ (by simp only; omega)
      refine ifN (fun h => absurd (w64 (x := 1 + won') (by omega) (by omega)).symm h) fun _ => ifE (fun hz => ?_) fun hz => ?_
      · refine ifN (fun h => ?_) fun _ => ifE (fun h => by omega) fun _ => stamp0 (ifN (fun h => absurd rfl h) fun _ => fin)
        rcases hw' with ⟨_, h2⟩ | ⟨h1, _⟩
        · exact absurd h2 h
        · omega
      · refine ifE (fun _ => ifE (fun h => ?_) fun _ => stamp0 (ifN (fun h => absurd rfl h) fun _ => fin)) fun h => by omega
        rcases hw' with ⟨h1, _⟩ | ⟨_, h2⟩
        · omega
        · exact absurd h h2
  · simp only [ifB_false]
    exact hB _ _ ⟨v, won, rfl, k, h, hw⟩
  · have hv' : v = old := hv
    simp only [ifB_true]
    rcases hw with ⟨rfl, _⟩ | ⟨_, hne'⟩
    · rw [w64 (by omega) (by omega)]
      exact hB _ _ ⟨y, 1, rfl, k.push k' (by simpa using hcb), h', .inr ⟨rfl, hne⟩⟩
    · exact absurd hv' hne'
theorem cellOne_row (W : World) (n : Int) (s : Sl) (_ : (Lit.int .u64 n).wf = true) (m : Nat) (h : RdT Try.prog W m 59 [.slice s.a s.len s.cap]) :
    callG Try.prog 6 [.int .u64 n, .slice s.a s.len s.cap] [.one .bool] W fun x W' => x = (true, ()) ∧ Keeps [] W W' := by
  have hu : Try.prog.underlying 59 = some (.slice 58) := by kernel_rfl
  have he : Try.prog.underlying 58 = some (.int .u64) := by kernel_rfl
  have hs : Try.prog.cellsOf 58 = 1 := by kernel_rfl
  obtain ⟨_, _, hx⟩ := rd_ints hu he hs h
  exact cellOne_walk W n s fun i hi => let ⟨p, x, h1, h2, h3, _⟩ := hx i hi; ⟨p, x, h1, h3, h2⟩

/-- What stands of cells and of the reference's row beside them. -/
structure CE (W0 W : World) (c cl mb : Nat) (l l' : List (Int × Int)) : Prop where
  k : Keeps [] W0 W
  a : CellsAt W c cl l'
  r : Blk W mb (l.flatMap celF) 104
  b1 : W0.heap.size ≤ c
  b2 : W0.heap.size ≤ cl
  b3 : W0.heap.size ≤ mb
  d1 : c ≠ mb
  d2 : cl ≠ mb
theorem CE.far {W0 W W' : World} {c cl mb : Nat} {l l' : List (Int × Int)} (h : CE W0 W c cl mb l l') {S : List Nat} (hk : Keeps S W W') (hs : ∀ b ∈ S, W.heap.size ≤ b) : CE W0 W' c cl mb l l' := by
  have ne : ∀ {x}, x < W.heap.size → x ∉ S := fun hx hm => by have := hs _ hm; omega
  exact ⟨h.k.push hk fun b hb => Nat.le_trans h.k.size (hs b hb), h.a.keep hk (ne h.a.hd.lt) (ne h.a.ls.lt), h.r.keep hk (ne h.r.lt), h.b1, h.b2, h.b3, h.d1, h.d2⟩
theorem CE.step {W0 W W' : World} {c cl mb : Nat} {l l' l'' : List (Int × Int)} (h : CE W0 W c cl mb l l') (hk : Keeps [cl] W W') (ha : CellsAt W' c cl l'') : CE W0 W' c cl mb l l'' :=
  ⟨h.k.push hk (by simpa using h.b2), ha, h.r.keep hk (by simp [Ne.symm h.d2]), h.b1, h.b2, h.b3, h.d1, h.d2⟩

theorem cpick_spec {W : World} {c n : Int} (hc : -9223372036854775808 ≤ c) (hc' : c ≤ 9223372036854775807) (hn : n ≠ 0) {K : Int × Unit → World → Prop} (hk : K (pickN c n, ()) W) : callG Try.prog 62 [.int .i64 c, .int .i64 n] [.one (.int .i64)] W K := by
  apply call62
  unfold G62 JoinG
  refine ifD (fun h _ => ⟨hn, ?_⟩) fun h _ => ⟨hn, ?_⟩
  · dsimp only
    rw [w64 (x := c + 1) (by omega) (by omega), w64 (by omega) (by omega), show (0 : Int) - (c + 1) = -c - 1 from by omega]
    rwa [pickN, if_pos h] at hk
  · rwa [pickN, if_neg h] at hk

theorem cellPlays_walk (W0 : World) (n : Int) (s : Sl)
    (hr : ∀ i, i < s.len → ∃ p x y z u, s.a = some p ∧ p.block < W0.heap.size ∧ cellsAt W0 (p.add (i * 4)) 0 [.int .i64 x, .int .i64 y, .int .u64 z, .int .u64 u] ∧ -9223372036854775808 ≤ x ∧ x ≤ 9223372036854775807) :
    callG Try.prog 9 [.int .i64 n, .slice s.a s.len s.cap] [.one .bool] W0 fun x W' => x = (true, ()) ∧ Keeps [] W0 W' := by
  apply call9
  unfold G9
  refine cup_spec fun W1 k1 => ?_
  refine cnew_spec n (fun hb => ?_) fun g1 g2 c cl W2 hc hcl k2 hC => ?_
  · simp only [ifB_true, Option.isNone_none]
    exact ifD (fun _ => er_eq (by decide) ⟨by simp, k1⟩) fun h => ifD (fun _ => er_eq (by decide) ⟨by simp, k1⟩) fun h' => by omega
  simp only [ifB_true, ifB_false, Option.isNone_some, Bool.not_false, er_nil, er_ifc, decide_true, Bool.not_true, true_and]
  refine ifD (fun h => by omega) fun _ => ifD (fun h => by omega) fun _ => ifD (fun _ => k1.trans k2) fun hlen => ?_
  refine mk_blk (by omega) (by omega) (by omega) (by omega) fun mb W3 hmb k3 b3 => ?_
  rw [madeCells_two] at b3
  have e1 := k1.size
  have e2 := k2.size
  have l1 := hC.hd.lt
  have l2 := hC.ls.lt
  have b3' : Blk W3 mb ((List.replicate n.toNat ((0 : Int), (0 : Int))).flatMap celF) 104 := by
    rwa [show ((List.replicate n.toNat ()).flatMap fun _ => [Value.int .u64 0, Value.int .i64 0]) = (List.replicate n.toNat ((0 : Int), (0 : Int))).flatMap celF from by
      rw [show List.replicate n.toNat ((0 : Int), (0 : Int)) = (List.replicate n.toNat ()).map fun _ => (0, 0) from by simp, List.flatMap_map]; rfl] at b3
  refine LoopG.rule (fun x w => ∃ (i : Nat) (l : List (Int × Int)), i ≤ s.len ∧ x = (n, s, true, some ⟨c, 0, none⟩, ⟨some ⟨mb, 0, none⟩, n.toNat, n.toNat⟩, (i : Int), ()) ∧ l.length = n.toNat ∧ CE W0 w c cl mb l l)
    (fun x _ => s.len - x.2.2.2.2.2.1.toNat) ⟨0, List.replicate n.toNat (0, 0), Nat.zero_le _, rfl, by simp, (k1.trans k2).trans k3, hC.keep k3 (by simp) (by simp), b3', by omega, by omega, by omega, by omega, by omega⟩ ?_
  rintro x W ⟨i, l, hi, rfl, hl, ce⟩ C hC' j
  dsimp only
  refine ifD (fun hlt => ?_) fun hge => ⟨rfl, ce.k⟩
  obtain ⟨p, x, y, z, u, hp, hpb, hcells, x0, x1⟩ := hr i (by omega)
  have next : IntKind.i64.wrap ((i : Int) + 1) = ((i + 1 : Nat) : Int) := by rw [w64 (by omega) (by omega)]; simp
  refine ⟨p, hp, by omega, by omega, ?_⟩
  rw [Int.toNat_natCast]
  refine ldN_intro (x, y, z, u, ()) (ce.k.cells (by simp) _ _ hcells) ?_
  refine new_blk fun b W5 hb k5 b5 => ?_
  simp only [addr0]
  refine st_blk' b5 (by simp) fun W6 k6 b6 => st_blk' b6 (by simp) fun W7 k7 b7 => st_blk' b7 (by simp) fun W8 k8 b8 => st_blk' b8 (by simp) fun W9 k9 b9 => ?_
  simp only [List.set_cons_zero, List.set_cons_succ] at b9
  have ce9 : CE W0 W9 c cl mb l l := ce.far (S := [b]) ((((k5.nil.trans k6).trans k7).trans k8).trans k9) (by simp [hb])
  have hbn : c < b ∧ cl < b ∧ mb < b := by rw [hb]; exact ⟨ce.a.hd.lt, ce.a.ls.lt, ce.r.lt⟩
  clear ce b5 b6 b7 b8 k5 k6 k7 k8 k9
  have hir : inR l y ↔ 0 ≤ y ∧ y < n := by unfold inR; rw [hl]; omega
  -- what stands where the deed has been done
  let R22 : Int × Sl × Bool × Option Addr × Sl × Int × Addr × Bool × Int × Int × Int × Bool × Value × Unit → World → Prop := fun v w =>
    ∃ (l' : List (Int × Int)) (old got want : Int) (wr : Bool) (f : Value), v = (n, s, true, some ⟨c, 0, none⟩, ⟨some ⟨mb, 0, none⟩, n.toNat, n.toNat⟩, (i : Int), ⟨b, 0, none⟩, decide (inR l y), old, got, want, wr, f, ()) ∧
      CE W0 w c cl mb l l' ∧ Blk w b [.int .i64 x, .int .i64 y, .int .u64 z, .int .u64 u] 102 ∧ (¬ inR l y → f = er 6 ∧ l' = l) ∧ (inR l y → f = er 0 ∧ got = old ∧ old = (valAt l y).1 ∧ l' = if wr then wrote l y.toNat want else l)
  refine JoinG.rule (fun v w => v = (n, s, true, some ⟨c, 0, none⟩, ⟨some ⟨mb, 0, none⟩, n.toNat, n.toNat⟩, (i : Int), ⟨b, 0, none⟩, decide (inR l y), ()) ∧ CE W0 w c cl mb l l ∧ Blk w b [.int .i64 x, .int .i64 y, .int .u64 z, .int .u64 u] 102) ?_ ?_
  · rintro v w ⟨rfl, cw, bw⟩ j1
    refine JoinG.rule (fun v w' => v = (n, s, true, some ⟨c, 0, none⟩, ⟨some ⟨mb, 0, none⟩, n.toNat, n.toNat⟩, (i : Int), ⟨b, 0, none⟩, decide (inR l y), (if inR l y then (valAt l y).1 else 0), (if inR l y then (valAt l y).2 else 0), ()) ∧ w = w') ?_ ?_
    · rintro v w' ⟨rfl, rfl⟩ j2
      dsimp only
      simp only [addr0]
      refine ld_int (by rw [bw.cell]; rfl) (cstamp_spec cw.a y ?_)
      refine ifN (fun h => absurd rfl h) fun _ => ?_
      refine JoinG.rule R22 ?_ ?_
      · rintro v w2 ⟨l', old, got, want, wr, f, rfl, cw2, bw2, hno, hyes⟩ j3
        dsimp only
        by_cases hin : inR l y
        · obtain ⟨rfl, rfl, hold, hl'⟩ := hyes hin
          simp only [hin, decide_true, Bool.not_true, ifB_false]
          refine ⟨er_ifc _, ?_⟩
          rw [er_nil]
          refine ifB_f rfl (ifN (fun h => absurd rfl h) fun _ => ifB_i (fun hw => ?_) fun hw => ?_)
          · subst hw
            rw [if_pos rfl] at hl'
            have hix := hir.1 hin
            have hyl : y.toNat < l.length := by omega
            have hx := getD_some hyl (0, 0)
            have hfl : (l.flatMap celF).length = l.length * 2 := flat_len (k := 2) celF (fun _ => rfl) l
            simp only [addr0]
            refine ld_int (by rw [bw2.cell]; rfl) (idx_some (by omega) (by omega) ?_)
            simp only [addr_add, Nat.zero_add]
            refine st_blk' cw2.r (by omega) fun W' k' b' => drw_intro fun W'' k'' bk => ?_
            rw [cel_set0 hx] at b'
            have hx1 : (l.set y.toNat (want, (l.getD y.toNat (0, 0)).2))[y.toNat]? = some (want, (l.getD y.toNat (0, 0)).2) := by rw [List.getElem?_set, if_pos rfl, if_pos hyl]
            have bb := bk _ _ _ (bw2.keep k' (by simp; omega))
            have bm := bk _ _ _ b'
            refine ⟨fun w => w = W'', rfl, ?_⟩
            simp only [ldS_eq]
            refine ld_int (by rw [bb.cell]; rfl) (ld_int (by rw [bb.cell]; rfl) (idx_some (by omega) (by omega) ?_))
            simp only [addr_add, Nat.zero_add]
            refine ld_int (celBlk_stamp bm hx1) (idx_some (by omega) (by omega) ?_)
            simp only [addr_add, Nat.zero_add]
            refine st_blk' bm (by rw [flat_len (k := 2) celF (fun _ => rfl), List.length_set]; omega) fun W3' k3' b3' => ?_
            rw [cel_set1 hx1, List.set_set] at b3'
            rw [next]
            have hk3 : Keeps [mb] w2 W3' := (k'.trans k''.nil).trans k3'
            refine hC' _ _ ⟨i + 1, wrote l y.toNat want, by omega, rfl, by rw [wrote_len]; exact hl, cw2.k.push hk3 (by simpa using cw2.b3), ?_, b3', cw2.b1, cw2.b2, cw2.b3, cw2.d1, cw2.d2⟩ (by simp only; omega)
            rw [← hl']
            exact cw2.a.keep hk3 (by simp [cw2.d1]) (by simp [cw2.d2])
          · subst hw
            rw [next]
            simp only [Bool.false_eq_true, if_false] at hl'
            subst hl'
            exact hC' _ _ ⟨i + 1, _, by omega, rfl, hl, cw2⟩ (by simp only; omega)
        · obtain ⟨rfl, rfl⟩ := hno hin
          simp only [hin, decide_false, Bool.not_false, ifB_true]
          refine code_spec (by decide) (by decide) (ifN (fun h => absurd rfl h) fun _ => ?_)
          rw [next]
          exact hC' _ _ ⟨i + 1, _, by omega, rfl, hl, cw2⟩ (by simp only; omega)
      · intro B hB
        have fin : ∀ (w' : World) (l' : List (Int × Int)) (old got want : Int) (wr : Bool) (f : Value), CE W0 w' c cl mb l l' → Keeps [cl] w w' → (¬ inR l y → f = er 6 ∧ l' = l) →
            (inR l y → f = er 0 ∧ got = old ∧ old = (valAt l y).1 ∧ l' = if wr then wrote l y.toNat want else l) →
            B (n, s, true, some ⟨c, 0, none⟩, ⟨some ⟨mb, 0, none⟩, n.toNat, n.toNat⟩, (i : Int), ⟨b, 0, none⟩, decide (inR l y), old, got, want, wr, f, ()) w' := fun w' l' old got want wr f h1 h2 h3 h4 =>
          hB _ _ ⟨l', old, got, want, wr, f, rfl, h1, bw.keep h2 (by simp; omega), h3, h4⟩
        have rb : ∀ {w' : World}, Keeps [cl] w w' → Blk w' b [.int .i64 x, .int .i64 y, .int .u64 z, .int .u64 u] 102 := fun h2 => bw.keep h2 (by simp; omega)
        refine ld_int (by rw [bw.cell]; rfl) (cpick_spec x0 x1 (by decide) ?_)
        refine ifE (fun _ => ?_) fun _ => ifE (fun _ => ?_) fun _ => ifE (fun _ => ?_) fun _ => ?_
        · refine ld_int (by rw [bw.cell]; rfl) (cload_spec cw.a y ?_)
          by_cases hin : inR l y
          · simp only [hin, if_true]
            have := fin w l (valAt l y).1 (valAt l y).1 (valAt l y).1 false (er 0) cw (Keeps.refl _ _) (fun h => absurd hin h) fun _ => ⟨rfl, rfl, rfl, rfl⟩
            simpa only [hin, decide_true] using this
          · simp only [hin, if_false]
            have := fin w l 0 0 0 false (er 6) cw (Keeps.refl _ _) (fun _ => ⟨rfl, rfl⟩) fun h => absurd h hin
            simpa only [hin, decide_false] using this
        · refine ld_int (by rw [bw.cell]; rfl) (ld_int (by rw [bw.cell]; rfl) (cstore_spec cw.a y u (fun hin => ?_) fun hin W' k' h' => ?_))
          · refine ld_int (by rw [bw.cell]; rfl) ?_
            simp only [hin, if_false]
            have := fin w l 0 0 u true (er 6) cw (Keeps.refl _ _) (fun _ => ⟨rfl, rfl⟩) fun h => absurd h hin
            simpa only [hin, decide_false] using this
          · refine ld_int (by rw [(rb k').cell]; rfl) ?_
            simp only [hin, if_true]
            have := fin W' _ (valAt l y).1 (valAt l y).1 u true (er 0) (cw.step k' h') k' (fun h => absurd hin h) fun _ => ⟨rfl, rfl, rfl, rfl⟩
            simpa only [hin, decide_true] using this
        · refine ld_int (by rw [bw.cell]; rfl) (ld_int (by rw [bw.cell]; rfl) (ld_int (by rw [bw.cell]; rfl) (cswap_spec cw.a y z u (fun hin => ?_) (fun hin hne => ?_) fun hin heq W' k' h' => ?_)))
          · refine ld_int (by rw [bw.cell]; rfl) (ld_int (by rw [bw.cell]; rfl) ?_)
            simp only [hin, if_false, decide_false, ifB_false, Bool.not_false, ifB_true]
            have := fin w l 0 0 u ((0 : Int) == z) (er 6) cw (Keeps.refl _ _) (fun _ => ⟨rfl, rfl⟩) fun h => absurd h hin
            simpa only [hin, decide_false] using this
          · refine ld_int (by rw [bw.cell]; rfl) (ld_int (by rw [bw.cell]; rfl) ?_)
            have hz : ((valAt l y).1 == z) = false := by simpa using hne
            simp only [hin, if_true, decide_true, ifB_true, hz, Bool.not_true, ifB_false, show (!(false == false)) = false from rfl]
            have := fin w l (valAt l y).1 (valAt l y).1 u false (er 0) cw (Keeps.refl _ _) (fun h => absurd hin h) fun _ => ⟨rfl, rfl, rfl, rfl⟩
            simpa only [hin, decide_true] using this
          · refine ld_int (by rw [(rb k').cell]; rfl) (ld_int (by rw [(rb k').cell]; rfl) ?_)
            have hz : ((valAt l y).1 == z) = true := by simpa using heq
            simp only [hin, if_true, decide_true, ifB_true, hz, Bool.not_true, ifB_false, show (!(true == true)) = false from rfl]
            have := fin W' _ (valAt l y).1 (valAt l y).1 u true (er 0) (cw.step k' h') k' (fun h => absurd hin h) fun _ => ⟨rfl, rfl, rfl, rfl⟩
            simpa only [hin, decide_true] using this
        · refine ld_int (by rw [bw.cell]; rfl) (ld_int (by rw [bw.cell]; rfl) (cadd_spec cw.a y u (fun hin => ?_) fun hin W' k' h' => ?_))
          · refine ld_int (by rw [bw.cell]; rfl) ?_
            simp only [hin, if_false]
            have := fin w l 0 0 (IntKind.u64.wrap (0 + u)) true (er 6) cw (Keeps.refl _ _) (fun _ => ⟨rfl, rfl⟩) fun h => absurd h hin
            simpa only [hin, decide_false] using this
          · refine ld_int (by rw [(rb k').cell]; rfl) ?_
            simp only [hin, if_true]
            have := fin W' _ (valAt l y).1 (valAt l y).1 (IntKind.u64.wrap ((valAt l y).1 + u)) true (er 0) (cw.step k' h') k' (fun h => absurd hin h) fun _ => ⟨rfl, rfl, rfl, rfl⟩
            simpa only [hin, decide_true] using this
    · intro B hB
      dsimp only
      simp only [addr0]
      refine ifB_i (fun h => ?_) fun h => ?_
      · have hin : inR l y := of_decide_eq_true h
        have hix := hir.1 hin
        have hx := getD_some (l := l) (i := y.toNat) (by omega) (0, 0)
        refine ld_int (by rw [bw.cell]; rfl) (idx_some (by omega) (by omega) ?_)
        simp only [addr_add, Nat.zero_add]
        refine ld_int (celBlk_val cw.r hx) (ld_int (by rw [bw.cell]; rfl) (idx_some (by omega) (by omega) ?_))
        simp only [addr_add, Nat.zero_add]
        refine ld_int (celBlk_stamp cw.r hx) (hB _ _ ⟨?_, rfl⟩)
        simp only [hin, if_true]; rfl
      · have hin : ¬ inR l y := of_decide_eq_false h
        refine hB _ _ ⟨?_, rfl⟩
        simp only [hin, if_false]
  · intro B hB
    refine ld_int (by rw [b9.cell]; rfl) (ifD (fun h0 => ld_int (by rw [b9.cell]; rfl) (hB _ _ ⟨?_, ce9, b9⟩)) fun h0 => hB _ _ ⟨?_, ce9, b9⟩)
    · rw [show decide (inR l y) = decide (y < n) from decide_eq_decide.2 (by rw [hir]; omega)]
    · rw [show decide (inR l y) = false from decide_eq_false (by rw [hir]; omega)]
theorem cellPlays_row (W : World) (n : Int) (s : Sl) (_ : (Lit.int .i64 n).wf = true) (m : Nat) (h : RdT Try.prog W m 99 [.slice s.a s.len s.cap]) :
    callG Try.prog 9 [.int .i64 n, .slice s.a s.len s.cap] [.one .bool] W fun x W' => x = (true, ()) ∧ Keeps [] W W' := by
  have hu : Try.prog.underlying 99 = some (.slice 102) := by kernel_rfl
  have he : intFields Try.prog 102 [.i64, .i64, .u64, .u64] = true := by kernel_rfl
  have hs : Try.prog.cellsOf 102 = 4 := by kernel_rfl
  obtain ⟨_, hx⟩ := rd_intRows hu he hs (by simp) h
  refine cellPlays_walk W n s fun i hi => ?_
  obtain ⟨p, xs, h1, h2, h3, h4, h5⟩ := hx i hi
  obtain ⟨x, y, z, u, rfl⟩ := len4 h3
  obtain ⟨q1, q2⟩ := bounds_i64 (h5 0 .i64 x rfl rfl)
  exact ⟨p, x, y, z, u, h1, h2, h4, q1, q2⟩
end Go.Proofs.Ytbaclnddcobdmaa
