/-
  The ring (layer 15), of whole numbers and of strings.
-/
import Derived.Test.YtbaclnddcobdmaaDring
import Derived.Test.YtbaclnddcobdmaaCell
import Derived.Test.YtbaclnddcobdmaaGk10
set_option linter.unusedSimpArgs false
set_option linter.unusedVariables false
namespace Go.Proofs.Ytbaclnddcobdmaa
open Go Go.Gp
theorem wu64 (x : Int) : IntKind.u64.wrap x = x % 18446744073709551616 := by simp [IntKind.wrap, IntKind.signed, IntKind.bits]
theorem mod_ne {t i j n : Nat} (h : i < j) (hn : j < n) (e : (t + i) % n = (t + j) % n) : False := by
  have h1 := Nat.sub_mod_eq_zero_of_mod_eq e.symm
  rw [show t + j - (t + i) = j - i from by omega, Nat.mod_eq_of_lt (by omega)] at h1
  omega
theorem i3 : ∃ i, Try.prog.info? 3 = some i ∧ i.zero = some (.int .i64 0) ∧ i.size = 1 ∧ i.bytes = 8 := by
  have h : (Try.prog.info? 3).map (fun i => (i.zero, i.size, i.bytes)) = some (some (.int .i64 0), 1, 8) := by kernel_rfl
  obtain ⟨i, hi, h⟩ := Option.map_eq_some_iff.1 h
  simp only [Prod.mk.injEq] at h
  exact ⟨i, hi, h.1, h.2.1, h.2.2⟩
theorem i9 : ∃ i, Try.prog.info? 9 = some i ∧ i.zero = some (.string ByteArray.empty) ∧ i.size = 1 ∧ i.bytes = 16 := by
  have h : (Try.prog.info? 9).map (fun i => (i.zero, i.size, i.bytes)) = some (some (.string ByteArray.empty), 1, 16) := by kernel_rfl
  obtain ⟨i, hi, h⟩ := Option.map_eq_some_iff.1 h
  simp only [Prod.mk.injEq] at h
  exact ⟨i, hi, h.1, h.2.1, h.2.2⟩
theorem u31 : Try.prog.underlying 31 = some (.slice 3) := by kernel_rfl
theorem u125 : Try.prog.underlying 125 = some (.slice 9) := by kernel_rfl
/-! ### A ring of Int -/
structure RingAtI (W : World) (r c cl b : Nat) (n tk : Nat) (q : List Int) : Prop where
  hd : Blk W r [.slice (some ⟨b, 0, none⟩) n n, .pointer (some ⟨c, 0, none⟩)] 169
  cel : ∃ s0 s1, CellsAt W c cl [((tk : Int), s0), (((tk + q.length : Nat) : Int), s1)]
  buf : ∃ l : List Int, l.length = n ∧ Blk W b (l.map (Value.int .i64)) 3 ∧ ∀ i x, q[i]? = some x → l[(tk + i) % n]? = some x
  n1 : 1 ≤ n
  n2 : n ≤ 64
  qn : q.length ≤ n
  tb : tk + q.length ≤ 4611686018427387904
  d : r ≠ c ∧ r ≠ cl ∧ r ≠ b ∧ c ≠ b ∧ cl ≠ b
theorem RingAtI.keep {W W' : World} {r c cl b n tk : Nat} {q : List Int} (h : RingAtI W r c cl b n tk q) {S : List Nat} (hk : Keeps S W W') (h1 : r ∉ S) (h2 : c ∉ S) (h3 : cl ∉ S) (h4 : b ∉ S) : RingAtI W' r c cl b n tk q :=
  ⟨h.hd.keep hk h1, h.cel.imp fun _ => Exists.imp fun _ k => k.keep hk h2 h3, h.buf.imp fun _ k => ⟨k.1, k.2.1.keep hk h4, k.2.2⟩, h.n1, h.n2, h.qn, h.tb, h.d⟩
theorem RingAtI.lt {W : World} {r c cl b n tk : Nat} {q : List Int} (h : RingAtI W r c cl b n tk q) : r < W.heap.size ∧ c < W.heap.size ∧ cl < W.heap.size ∧ b < W.heap.size := by
  obtain ⟨s0, s1, hc⟩ := h.cel
  obtain ⟨l, _, hb, _⟩ := h.buf
  exact ⟨h.hd.lt, hc.hd.lt, hc.ls.lt, hb.lt⟩
theorem RingAtI.keep0 {W W' : World} {r c cl b n tk : Nat} {q : List Int} (h : RingAtI W r c cl b n tk q) (hk : Keeps [] W W') : RingAtI W' r c cl b n tk q := h.keep hk (by simp) (by simp) (by simp) (by simp)
theorem stampsI {W : World} {r c cl b n tk : Nat} {q : List Int} (h : RingAtI W r c cl b n tk q) {K : Int × Int × Unit → World → Prop} (hk : K ((tk : Int), ((tk + q.length : Nat) : Int), ()) W) :
    callG Try.prog 101 [.pointer (some ⟨r, 0, none⟩)] [.one (.int .u64), .one (.int .u64)] W K := by
  apply call101
  unfold G101
  obtain ⟨s0, s1, hc⟩ := h.cel
  have r0 : inR [((tk : Int), s0), (((tk + q.length : Nat) : Int), s1)] 0 := ⟨by decide, by simp⟩
  have r1 : inR [((tk : Int), s0), (((tk + q.length : Nat) : Int), s1)] 1 := ⟨by decide, by simp⟩
  simp only [nilck_some, addr0]
  refine ld_ptr (by rw [h.hd.cell]; rfl) (cload_spec hc 0 ?_)
  rw [if_pos r0]
  refine ⟨er_ifc 0, ifB_f rfl (ld_ptr (by rw [h.hd.cell]; rfl) (cload_spec hc 1 ?_))⟩
  rw [if_pos r1]
  exact ⟨er_ifc 0, ifB_f rfl hk⟩
theorem lenI {W : World} {r c cl b n tk : Nat} {q : List Int} (h : RingAtI W r c cl b n tk q) {K : Int × Unit → World → Prop} (hk : K (((q.length : Nat) : Int), ()) W) :
    callG Try.prog 83 [.pointer (some ⟨r, 0, none⟩)] [.one (.int .i64)] W K := by
  apply call83
  unfold G83
  refine stampsI h ?_
  have h1 := h.qn
  have h2 := h.n2
  have e : IntKind.u64.wrap (((tk + q.length : Nat) : Int) - (tk : Int)) = ((q.length : Nat) : Int) := by
    rw [show ((tk + q.length : Nat) : Int) - (tk : Int) = ((q.length : Nat) : Int) from by omega, wu64]; omega
  dsimp only
  rw [e, w64 (by omega) (by omega)]
  exact hk
theorem placeI {W : World} {r c cl b n tk : Nat} {q : List Int} (h : RingAtI W r c cl b n tk q) (m : Nat) (hm : m ≤ 4611686018427387904) {K : Option Addr × Unit → World → Prop} (hk : ∀ W', Keeps [] W W' → K (some ⟨b, m % n, none⟩, ()) W') :
    callG Try.prog 102 [.pointer (some ⟨r, 0, none⟩), .int .u64 (m : Int)] [.one .ptr] W K := by
  apply call102
  unfold G102
  have h1 := h.n1
  have h2 := h.n2
  refine drw_intro fun W1 k1 _ => ?_
  have h' := h.keep0 k1
  simp only [nilck_some, ldS_eq]
  refine ld_sl (by rw [h'.hd.cell]; rfl) (ld_sl (by rw [h'.hd.cell]; rfl) ?_)
  dsimp only
  have e : IntKind.u64.wrap ((n : Nat) : Int) = (n : Int) := by rw [wu64]; omega
  have e2 : Int.tmod (m : Int) (n : Int) = ((m % n : Nat) : Int) := rfl
  have hlt : m % n < n := Nat.mod_lt _ (by omega)
  rw [e, e2]
  refine ⟨by omega, idx_some (by omega) (by omega) ?_⟩
  rw [addr0, Int.toNat_natCast, Nat.mul_one]
  exact hk W1 k1
theorem putI {W : World} {r c cl b n tk : Nat} {q : List Int} (h : RingAtI W r c cl b n tk q) (x : Int) (hb : tk + q.length < 4611686018427387904) {K : Value × Unit → World → Prop} (hfull : q.length = n → ∀ W', Keeps [] W W' → K (er 5, ()) W')
    (hk : q.length < n → ∀ W', Keeps [cl, b] W W' → RingAtI W' r c cl b n tk (q ++ [x]) → K (er 0, ()) W') :
    callG Try.prog 80 [.pointer (some ⟨r, 0, none⟩), (Value.int .i64) x] [.one .any] W K := by
  apply call80
  unfold G80
  refine drw_intro fun W1 k1 _ => ?_
  have h1 := h.keep0 k1
  refine ⟨fun u => u.cell? ⟨r, 0, none⟩ = some (.slice (some ⟨b, 0, none⟩) n n), (h1.hd.cell 0).trans rfl, ?_⟩
  simp only [nilck_some, addr0]
  refine ldS_sl (fun u hu => hu) (lenI h1 ⟨by rw [h1.hd.cell]; rfl, ?_⟩)
  dsimp only
  have hq := h.qn
  refine ifE (fun he => hfull (by omega) _ k1) fun he => stampsI h1 (placeI h1 _ (by omega) fun W2 k2 => ?_)
  have h2 := h1.keep0 k2
  obtain ⟨s0, s1, hc⟩ := h2.cel
  obtain ⟨l, hl, hbk, hq'⟩ := h2.buf
  have n1 := h.n1
  have d := h.d
  have hlt : (tk + q.length) % n < n := Nat.mod_lt _ (by omega)
  dsimp only
  rw [nilck_some]
  refine st_blk' hbk (by simp [hl]; omega) fun W3 k3 b3 => ?_
  refine ld_ptr (by rw [(h2.hd.keep k3 (by simp [d.2.2.1])).cell]; rfl) ?_
  have r1 : inR [((tk : Int), s0), (((tk + q.length : Nat) : Int), s1)] 1 := ⟨by decide, by simp⟩
  refine cadd_spec (hc.keep k3 (by simp [d.2.2.2.1]) (by simp [d.2.2.2.2])) 1 1 (fun hn => absurd r1 hn) fun _ W4 k4 h4 => ?_
  have kk : Keeps [cl, b] W W4 := ((k1.trans k2).nil.trans (k3.mono (by simp))).trans (k4.mono (by simp))
  have e : IntKind.u64.wrap (((tk + q.length : Nat) : Int) + 1) = ((tk + (q ++ [x]).length : Nat) : Int) := by
    rw [wu64, List.length_append, List.length_singleton]; omega
  refine hk (by omega) W4 kk ⟨(h2.hd.keep k3 (by simp [d.2.2.1])).keep k4 (by simp [d.2.1]), ⟨s0, _, by rw [← e]; exact h4⟩, ⟨l.set ((tk + q.length) % n) x, by simp [hl], by
    rw [← List.map_set] at b3
    exact b3.keep k4 (by simp [Ne.symm d.2.2.2.2]), fun i y hy => ?_⟩, h.n1, h.n2, by simp; omega, by simp; omega, h.d⟩
  rw [List.getElem?_set]
  rcases (by have := (List.getElem?_eq_some_iff.1 hy).1; simp at this; omega : i < q.length ∨ i = q.length) with hi | rfl
  · rw [List.getElem?_append_left hi] at hy
    rw [if_neg (fun e => mod_ne hi (by omega) e.symm)]
    exact hq' i y hy
  · rw [if_pos rfl, if_pos (by omega)]
    simpa using hy
theorem takeI {W : World} {r c cl b n tk : Nat} {q : List Int} (h : RingAtI W r c cl b n tk q) {K : Int × Value × Unit → World → Prop} (hno : q = [] → K (0, er 3, ()) W)
    (hk : ∀ x q', q = x :: q' → ∀ W', Keeps [cl, b] W W' → RingAtI W' r c cl b n (tk + 1) q' → K (x, er 0, ()) W') :
    callG Try.prog 81 [.pointer (some ⟨r, 0, none⟩)] [.one (.int .i64), .one .any] W K := by
  apply call81
  unfold G81
  refine lenI h ?_
  cases q with
  | nil => exact ifB_t rfl (hno rfl)
  | cons x q' =>
    have tb := h.tb
    simp only [List.length_cons] at tb
    refine ifB_f (by simp; omega) (stampsI h (placeI h _ (by omega) fun W2 k2 => ?_))
    have h2 := h.keep0 k2
    obtain ⟨l, hl, hbk, hq'⟩ := h2.buf
    have n1 := h.n1
    have n2 := h.n2
    have hqn := h.qn
    simp only [List.length_cons] at hqn
    have d := h.d
    have hlt : tk % n < n := Nat.mod_lt _ (by omega)
    have hx : l[tk % n]? = some x := hq' 0 x rfl
    simp only [nilck_some]
    refine ld_int (by rw [hbk.cell, List.getElem?_map, hx]; rfl) (placeI h2 _ (by omega) fun W3 k3 => ?_)
    have h3 := h2.keep0 k3
    have hbk3 := hbk.keep k3 (by simp)
    obtain ⟨s0, s1, hc⟩ := h3.cel
    simp only [nilck_some, addr0]
    refine st_blk' hbk3 (by simp [hl]; omega) fun W4 k4 b4 => ?_
    refine ld_ptr (by rw [(h3.hd.keep k4 (by simp [d.2.2.1])).cell]; rfl) ?_
    have r0 : inR [((tk : Int), s0), (((tk + (x :: q').length : Nat) : Int), s1)] 0 := ⟨by decide, by simp⟩
    refine cadd_spec (hc.keep k4 (by simp [d.2.2.2.1]) (by simp [d.2.2.2.2])) 0 1 (fun hn => absurd r0 hn) fun _ W5 k5 h5 => ?_
    have kk : Keeps [cl, b] W W5 := ((k2.trans k3).nil.trans (k4.mono (by simp))).trans (k5.mono (by simp))
    have e : IntKind.u64.wrap ((tk : Int) + 1) = ((tk + 1 : Nat) : Int) := by rw [wu64]; omega
    refine hk x q' rfl W5 kk ⟨(h3.hd.keep k4 (by simp [d.2.2.1])).keep k5 (by simp [d.2.1]), ⟨_, s1, by
      rw [← e, show tk + 1 + q'.length = tk + (x :: q').length from by simp only [List.length_cons]; omega]; exact h5⟩, ⟨l.set (tk % n) 0, by simp [hl], by
      have := b4.keep k5 (by simp [Ne.symm d.2.2.2.2])
      rwa [← List.map_set] at this, fun i y hy => ?_⟩, h.n1, h.n2, by omega, by omega, h.d⟩
    have hi := (List.getElem?_eq_some_iff.1 hy).1
    rw [List.getElem?_set, if_neg (fun e => mod_ne (t := tk) (i := 0) (j := i + 1) (n := n) (Nat.succ_pos i) (by omega) (by rw [Nat.add_zero, e, Nat.add_assoc, Nat.add_comm 1 i])), show tk + 1 + i = tk + (i + 1) from by omega]
    exact hq' (i + 1) y (by simpa using hy)
theorem newI {W : World} (n : Int) {K : Option Addr × Value × Unit → World → Prop} (hbad : n < 1 ∨ 64 < n → K (none, er 1, ()) W)
    (hk : 1 ≤ n → n ≤ 64 → ∀ r c cl b W', W.heap.size ≤ r → W.heap.size ≤ c → W.heap.size ≤ cl → W.heap.size ≤ b → Keeps [] W W' → RingAtI W' r c cl b n.toNat 0 [] → K (some ⟨r, 0, none⟩, er 0, ()) W') :
    callG Try.prog 79 [.int .i64 n] [.one .ptr, .one .any] W K := by
  apply call79
  unfold G79
  refine ifD (fun h => hbad (.inl h)) fun h1 => ifD (fun h => hbad (.inr h)) fun h2 => cnew_spec 2 (fun h => absurd h (by omega)) fun _ _ c cl W1 hc hcl k1 h' => ?_
  refine ⟨er_ifc 0, ifB_f rfl (mk_blk (by omega) (by omega) (by omega) (by omega) fun b W2 hb k2 b2 => new_blk fun r W3 hr k3 b3 => ?_)⟩
  rw [Nat.mul_one, madeCells_one] at b2
  have s1 := k1.size
  have s2 := k2.size
  have l1 := h'.hd.lt
  have l2 := h'.ls.lt
  have l3 := b2.lt
  refine hk (by omega) (by omega) r c cl b W3 (by omega) hc hcl (by omega) ((k1.trans k2).trans k3) ⟨b3, ⟨0, 0, (h'.keep k2 (by simp) (by simp)).keep k3 (by simp) (by simp)⟩,
    ⟨List.replicate n.toNat 0, by simp, by rw [List.map_replicate]; exact b2.keep k3 (by simp), fun i x hx => by simp at hx⟩, by omega, by omega, Nat.zero_le _, by simp, by omega⟩
theorem drainI {W : World} {r c cl b n tk : Nat} {q : List Int} (h : RingAtI W r c cl b n tk q) {K : Sl × Unit → World → Prop}
    (hk : ∀ s W', Keeps [cl, b] W W' → RingAtI W' r c cl b n (tk + q.length) [] → OwnS W' W.heap.size 3 1 s (q.map (Value.int .i64)) → K (s, ()) W') :
    callG Try.prog 82 [.pointer (some ⟨r, 0, none⟩)] [.one .sl] W K := by
  apply call82
  unfold G82
  have n2 := h.n2
  have qn := h.qn
  obtain ⟨l1, l2, l3, l4⟩ := h.lt
  obtain ⟨i, hi, hz, hsz, hby⟩ := i3
  refine JoinG.rule (fun v w => Keeps [cl, b] W w ∧ RingAtI w r c cl b n (tk + q.length) [] ∧ OwnS w W.heap.size 3 1 v.1 (q.map (Value.int .i64))) (fun v w hv _ => hk _ _ hv.1 hv.2.1 hv.2.2) ?_
  intro B hB
  refine LoopG.rule (fun v w => Keeps [cl, b] W w ∧ ∃ s p q', p ++ q' = q ∧ v = (some ⟨r, 0, none⟩, s, ()) ∧ RingAtI w r c cl b n (tk + p.length) q' ∧ OwnS w W.heap.size 3 1 s (p.map (Value.int .i64))) (fun v _ => q.length - v.2.1.len)
    ⟨Keeps.refl _ _, ⟨none, 0, 0⟩, [], q, rfl, rfl, h, OwnS.nil ..⟩ ?_
  rintro v w ⟨k, s, p, q', hpq, rfl, hr, ho⟩ C hC j
  dsimp only
  have hol := ho.len
  have hpl : p.length + q'.length = q.length := by rw [← hpq, List.length_append]
  simp only [List.length_map, Nat.mul_one] at hol
  refine lenI hr (ifD (fun hlt => takeI hr (fun he => ?_) fun x q2 he W1 k1 h1 => ?_) fun hge => ?_)
  · subst he; simp at hlt
  · subst he
    refine ⟨er_ifc 0, ifB_f rfl (new_blk fun m W2 hm k2 b2 => ?_)⟩
    have kb : ∀ x ∈ [cl, b], x < W.heap.size := by simp; omega
    have o2 := (ho.far k1 kb).fresh k2 (by simp)
    have hsz2 := (k.trans k1).size
    have hsz3 := k2.size
    simp only [List.length_cons] at hpl
    refine app_own (bytes := 8) u31 hi hz hsz hby rfl (by decide) o2 [(Value.int .i64) x] rfl (fun j u hj => ?_) (by simp [Value.oneCell']) (by omega) (by omega) (by omega) fun s' W3 o3 k3 hl3 => ?_
    · rw [addr0, b2.cell]; exact hj
    · have hblk := o2.lt
      have k3' : ∀ x ∈ sblk s, W.heap.size ≤ x := fun x hx => (hblk x hx).1
      refine hC _ _ ⟨(((k.trans k1).trans k2.nil).trans' k3 fun x hx => .inr (k3' x hx)), s', p ++ [x], q2, by rw [← hpq]; simp, rfl, ?_, by rw [List.map_append]; exact o3⟩ (by simp only; omega)
      have := (h1.keep0 k2).keep k3 (fun hx => by have := k3' _ hx; omega) (fun hx => by have := k3' _ hx; omega) (fun hx => by have := k3' _ hx; omega) (fun hx => by have := k3' _ hx; omega)
      rwa [List.length_append, List.length_singleton, ← Nat.add_assoc]
  · have hq0 : q' = [] := by cases q' with | nil => rfl | cons _ _ => simp at hge
    subst hq0
    rw [List.append_nil] at hpq
    subst hpq
    exact hB _ _ ⟨k, hr, ho⟩
/-! ### A ring of ByteArray -/
structure RingAtS (W : World) (r c cl b : Nat) (n tk : Nat) (q : List ByteArray) : Prop where
  hd : Blk W r [.slice (some ⟨b, 0, none⟩) n n, .pointer (some ⟨c, 0, none⟩)] 165
  cel : ∃ s0 s1, CellsAt W c cl [((tk : Int), s0), (((tk + q.length : Nat) : Int), s1)]
  buf : ∃ l : List ByteArray, l.length = n ∧ Blk W b (l.map Value.string) 9 ∧ ∀ i x, q[i]? = some x → l[(tk + i) % n]? = some x
  n1 : 1 ≤ n
  n2 : n ≤ 64
  qn : q.length ≤ n
  tb : tk + q.length ≤ 4611686018427387904
  d : r ≠ c ∧ r ≠ cl ∧ r ≠ b ∧ c ≠ b ∧ cl ≠ b
theorem RingAtS.keep {W W' : World} {r c cl b n tk : Nat} {q : List ByteArray} (h : RingAtS W r c cl b n tk q) {S : List Nat} (hk : Keeps S W W') (h1 : r ∉ S) (h2 : c ∉ S) (h3 : cl ∉ S) (h4 : b ∉ S) : RingAtS W' r c cl b n tk q :=
  ⟨h.hd.keep hk h1, h.cel.imp fun _ => Exists.imp fun _ k => k.keep hk h2 h3, h.buf.imp fun _ k => ⟨k.1, k.2.1.keep hk h4, k.2.2⟩, h.n1, h.n2, h.qn, h.tb, h.d⟩
theorem RingAtS.lt {W : World} {r c cl b n tk : Nat} {q : List ByteArray} (h : RingAtS W r c cl b n tk q) : r < W.heap.size ∧ c < W.heap.size ∧ cl < W.heap.size ∧ b < W.heap.size := by
  obtain ⟨s0, s1, hc⟩ := h.cel
  obtain ⟨l, _, hb, _⟩ := h.buf
  exact ⟨h.hd.lt, hc.hd.lt, hc.ls.lt, hb.lt⟩
theorem RingAtS.keep0 {W W' : World} {r c cl b n tk : Nat} {q : List ByteArray} (h : RingAtS W r c cl b n tk q) (hk : Keeps [] W W') : RingAtS W' r c cl b n tk q := h.keep hk (by simp) (by simp) (by simp) (by simp)
theorem stampsS {W : World} {r c cl b n tk : Nat} {q : List ByteArray} (h : RingAtS W r c cl b n tk q) {K : Int × Int × Unit → World → Prop} (hk : K ((tk : Int), ((tk + q.length : Nat) : Int), ()) W) :
    callG Try.prog 77 [.pointer (some ⟨r, 0, none⟩)] [.one (.int .u64), .one (.int .u64)] W K := by
  apply call77
  unfold G77
  obtain ⟨s0, s1, hc⟩ := h.cel
  have r0 : inR [((tk : Int), s0), (((tk + q.length : Nat) : Int), s1)] 0 := ⟨by decide, by simp⟩
  have r1 : inR [((tk : Int), s0), (((tk + q.length : Nat) : Int), s1)] 1 := ⟨by decide, by simp⟩
  simp only [nilck_some, addr0]
  refine ld_ptr (by rw [h.hd.cell]; rfl) (cload_spec hc 0 ?_)
  rw [if_pos r0]
  refine ⟨er_ifc 0, ifB_f rfl (ld_ptr (by rw [h.hd.cell]; rfl) (cload_spec hc 1 ?_))⟩
  rw [if_pos r1]
  exact ⟨er_ifc 0, ifB_f rfl hk⟩
theorem lenS {W : World} {r c cl b n tk : Nat} {q : List ByteArray} (h : RingAtS W r c cl b n tk q) {K : Int × Unit → World → Prop} (hk : K (((q.length : Nat) : Int), ()) W) :
    callG Try.prog 78 [.pointer (some ⟨r, 0, none⟩)] [.one (.int .i64)] W K := by
  apply call78
  unfold G78
  refine stampsS h ?_
  have h1 := h.qn
  have h2 := h.n2
  have e : IntKind.u64.wrap (((tk + q.length : Nat) : Int) - (tk : Int)) = ((q.length : Nat) : Int) := by
    rw [show ((tk + q.length : Nat) : Int) - (tk : Int) = ((q.length : Nat) : Int) from by omega, wu64]; omega
  dsimp only
  rw [e, w64 (by omega) (by omega)]
  exact hk
theorem placeS {W : World} {r c cl b n tk : Nat} {q : List ByteArray} (h : RingAtS W r c cl b n tk q) (m : Nat) (hm : m ≤ 4611686018427387904) {K : Option Addr × Unit → World → Prop} (hk : ∀ W', Keeps [] W W' → K (some ⟨b, m % n, none⟩, ()) W') :
    callG Try.prog 100 [.pointer (some ⟨r, 0, none⟩), .int .u64 (m : Int)] [.one .ptr] W K := by
  apply call100
  unfold G100
  have h1 := h.n1
  have h2 := h.n2
  refine drw_intro fun W1 k1 _ => ?_
  have h' := h.keep0 k1
  simp only [nilck_some, ldS_eq]
  refine ld_sl (by rw [h'.hd.cell]; rfl) (ld_sl (by rw [h'.hd.cell]; rfl) ?_)
  dsimp only
  have e : IntKind.u64.wrap ((n : Nat) : Int) = (n : Int) := by rw [wu64]; omega
  have e2 : Int.tmod (m : Int) (n : Int) = ((m % n : Nat) : Int) := rfl
  have hlt : m % n < n := Nat.mod_lt _ (by omega)
  rw [e, e2]
  refine ⟨by omega, idx_some (by omega) (by omega) ?_⟩
  rw [addr0, Int.toNat_natCast, Nat.mul_one]
  exact hk W1 k1
theorem putS {W : World} {r c cl b n tk : Nat} {q : List ByteArray} (h : RingAtS W r c cl b n tk q) (x : ByteArray) (hb : tk + q.length < 4611686018427387904) {K : Value × Unit → World → Prop} (hfull : q.length = n → ∀ W', Keeps [] W W' → K (er 5, ()) W')
    (hk : q.length < n → ∀ W', Keeps [cl, b] W W' → RingAtS W' r c cl b n tk (q ++ [x]) → K (er 0, ()) W') :
    callG Try.prog 74 [.pointer (some ⟨r, 0, none⟩), Value.string x] [.one .any] W K := by
  apply call74
  unfold G74
  refine drw_intro fun W1 k1 _ => ?_
  have h1 := h.keep0 k1
  refine ⟨fun u => u.cell? ⟨r, 0, none⟩ = some (.slice (some ⟨b, 0, none⟩) n n), (h1.hd.cell 0).trans rfl, ?_⟩
  simp only [nilck_some, addr0]
  refine ldS_sl (fun u hu => hu) (lenS h1 ⟨by rw [h1.hd.cell]; rfl, ?_⟩)
  dsimp only
  have hq := h.qn
  refine ifE (fun he => hfull (by omega) _ k1) fun he => stampsS h1 (placeS h1 _ (by omega) fun W2 k2 => ?_)
  have h2 := h1.keep0 k2
  obtain ⟨s0, s1, hc⟩ := h2.cel
  obtain ⟨l, hl, hbk, hq'⟩ := h2.buf
  have n1 := h.n1
  have d := h.d
  have hlt : (tk + q.length) % n < n := Nat.mod_lt _ (by omega)
  dsimp only
  rw [nilck_some]
  refine st_blk' hbk (by simp [hl]; omega) fun W3 k3 b3 => ?_
  refine ld_ptr (by rw [(h2.hd.keep k3 (by simp [d.2.2.1])).cell]; rfl) ?_
  have r1 : inR [((tk : Int), s0), (((tk + q.length : Nat) : Int), s1)] 1 := ⟨by decide, by simp⟩
  refine cadd_spec (hc.keep k3 (by simp [d.2.2.2.1]) (by simp [d.2.2.2.2])) 1 1 (fun hn => absurd r1 hn) fun _ W4 k4 h4 => ?_
  have kk : Keeps [cl, b] W W4 := ((k1.trans k2).nil.trans (k3.mono (by simp))).trans (k4.mono (by simp))
  have e : IntKind.u64.wrap (((tk + q.length : Nat) : Int) + 1) = ((tk + (q ++ [x]).length : Nat) : Int) := by
    rw [wu64, List.length_append, List.length_singleton]; omega
  refine hk (by omega) W4 kk ⟨(h2.hd.keep k3 (by simp [d.2.2.1])).keep k4 (by simp [d.2.1]), ⟨s0, _, by rw [← e]; exact h4⟩, ⟨l.set ((tk + q.length) % n) x, by simp [hl], by
    rw [← List.map_set] at b3
    exact b3.keep k4 (by simp [Ne.symm d.2.2.2.2]), fun i y hy => ?_⟩, h.n1, h.n2, by simp; omega, by simp; omega, h.d⟩
  rw [List.getElem?_set]
  rcases (by have := (List.getElem?_eq_some_iff.1 hy).1; simp at this; omega : i < q.length ∨ i = q.length) with hi | rfl
  · rw [List.getElem?_append_left hi] at hy
    rw [if_neg (fun e => mod_ne hi (by omega) e.symm)]
    exact hq' i y hy
  · rw [if_pos rfl, if_pos (by omega)]
    simpa using hy
theorem takeS {W : World} {r c cl b n tk : Nat} {q : List ByteArray} (h : RingAtS W r c cl b n tk q) {K : ByteArray × Value × Unit → World → Prop} (hno : q = [] → K ((ByteArray.mk #[]), er 3, ()) W)
    (hk : ∀ x q', q = x :: q' → ∀ W', Keeps [cl, b] W W' → RingAtS W' r c cl b n (tk + 1) q' → K (x, er 0, ()) W') :
    callG Try.prog 75 [.pointer (some ⟨r, 0, none⟩)] [.one .str, .one .any] W K := by
  apply call75
  unfold G75
  refine lenS h ?_
  cases q with
  | nil => exact ifB_t rfl (hno rfl)
  | cons x q' =>
    have tb := h.tb
    simp only [List.length_cons] at tb
    refine ifB_f (by simp; omega) (stampsS h (placeS h _ (by omega) fun W2 k2 => ?_))
    have h2 := h.keep0 k2
    obtain ⟨l, hl, hbk, hq'⟩ := h2.buf
    have n1 := h.n1
    have n2 := h.n2
    have hqn := h.qn
    simp only [List.length_cons] at hqn
    have d := h.d
    have hlt : tk % n < n := Nat.mod_lt _ (by omega)
    have hx : l[tk % n]? = some x := hq' 0 x rfl
    simp only [nilck_some]
    refine ld_str (by rw [hbk.cell, List.getElem?_map, hx]; rfl) (placeS h2 _ (by omega) fun W3 k3 => ?_)
    have h3 := h2.keep0 k3
    have hbk3 := hbk.keep k3 (by simp)
    obtain ⟨s0, s1, hc⟩ := h3.cel
    simp only [nilck_some, addr0]
    refine st_blk' hbk3 (by simp [hl]; omega) fun W4 k4 b4 => ?_
    refine ld_ptr (by rw [(h3.hd.keep k4 (by simp [d.2.2.1])).cell]; rfl) ?_
    have r0 : inR [((tk : Int), s0), (((tk + (x :: q').length : Nat) : Int), s1)] 0 := ⟨by decide, by simp⟩
    refine cadd_spec (hc.keep k4 (by simp [d.2.2.2.1]) (by simp [d.2.2.2.2])) 0 1 (fun hn => absurd r0 hn) fun _ W5 k5 h5 => ?_
    have kk : Keeps [cl, b] W W5 := ((k2.trans k3).nil.trans (k4.mono (by simp))).trans (k5.mono (by simp))
    have e : IntKind.u64.wrap ((tk : Int) + 1) = ((tk + 1 : Nat) : Int) := by rw [wu64]; omega
    refine hk x q' rfl W5 kk ⟨(h3.hd.keep k4 (by simp [d.2.2.1])).keep k5 (by simp [d.2.1]), ⟨_, s1, by
      rw [← e, show tk + 1 + q'.length = tk + (x :: q').length from by simp only [List.length_cons]; omega]; exact h5⟩, ⟨l.set (tk % n) (ByteArray.mk #[]), by simp [hl], by
      have := b4.keep k5 (by simp [Ne.symm d.2.2.2.2])
      rwa [← List.map_set] at this, fun i y hy => ?_⟩, h.n1, h.n2, by omega, by omega, h.d⟩
    have hi := (List.getElem?_eq_some_iff.1 hy).1
    rw [List.getElem?_set, if_neg (fun e => mod_ne (t := tk) (i := 0) (j := i + 1) (n := n) (Nat.succ_pos i) (by omega) (by rw [Nat.add_zero, e, Nat.add_assoc, Nat.add_comm 1 i])), show tk + 1 + i = tk + (i + 1) from by omega]
    exact hq' (i + 1) y (by simpa using hy)
theorem newS {W : World} (n : Int) {K : Option Addr × Value × Unit → World → Prop} (hbad : n < 1 ∨ 64 < n → K (none, er 1, ()) W)
    (hk : 1 ≤ n → n ≤ 64 → ∀ r c cl b W', W.heap.size ≤ r → W.heap.size ≤ c → W.heap.size ≤ cl → W.heap.size ≤ b → Keeps [] W W' → RingAtS W' r c cl b n.toNat 0 [] → K (some ⟨r, 0, none⟩, er 0, ()) W') :
    callG Try.prog 72 [.int .i64 n] [.one .ptr, .one .any] W K := by
  apply call72
  unfold G72
  refine ifD (fun h => hbad (.inl h)) fun h1 => ifD (fun h => hbad (.inr h)) fun h2 => cnew_spec 2 (fun h => absurd h (by omega)) fun _ _ c cl W1 hc hcl k1 h' => ?_
  refine ⟨er_ifc 0, ifB_f rfl (mk_blk (by omega) (by omega) (by omega) (by omega) fun b W2 hb k2 b2 => new_blk fun r W3 hr k3 b3 => ?_)⟩
  rw [Nat.mul_one, madeCells_one] at b2
  have s1 := k1.size
  have s2 := k2.size
  have l1 := h'.hd.lt
  have l2 := h'.ls.lt
  have l3 := b2.lt
  refine hk (by omega) (by omega) r c cl b W3 (by omega) hc hcl (by omega) ((k1.trans k2).trans k3) ⟨b3, ⟨0, 0, (h'.keep k2 (by simp) (by simp)).keep k3 (by simp) (by simp)⟩,
    ⟨List.replicate n.toNat ByteArray.empty, by simp, by rw [List.map_replicate]; exact b2.keep k3 (by simp), fun i x hx => by simp at hx⟩, by omega, by omega, Nat.zero_le _, by simp, by omega⟩
theorem drainS {W : World} {r c cl b n tk : Nat} {q : List ByteArray} (h : RingAtS W r c cl b n tk q) {K : Sl × Unit → World → Prop}
    (hk : ∀ s W', Keeps [cl, b] W W' → RingAtS W' r c cl b n (tk + q.length) [] → OwnS W' W.heap.size 9 1 s (q.map Value.string) → K (s, ()) W') :
    callG Try.prog 76 [.pointer (some ⟨r, 0, none⟩)] [.one .sl] W K := by
  apply call76
  unfold G76
  have n2 := h.n2
  have qn := h.qn
  obtain ⟨l1, l2, l3, l4⟩ := h.lt
  obtain ⟨i, hi, hz, hsz, hby⟩ := i9
  refine JoinG.rule (fun v w => Keeps [cl, b] W w ∧ RingAtS w r c cl b n (tk + q.length) [] ∧ OwnS w W.heap.size 9 1 v.1 (q.map Value.string)) (fun v w hv _ => hk _ _ hv.1 hv.2.1 hv.2.2) ?_
  intro B hB
  refine LoopG.rule (fun v w => Keeps [cl, b] W w ∧ ∃ s p q', p ++ q' = q ∧ v = (some ⟨r, 0, none⟩, s, ()) ∧ RingAtS w r c cl b n (tk + p.length) q' ∧ OwnS w W.heap.size 9 1 s (p.map Value.string)) (fun v _ => q.length - v.2.1.len)
    ⟨Keeps.refl _ _, ⟨none, 0, 0⟩, [], q, rfl, rfl, h, OwnS.nil ..⟩ ?_
  rintro v w ⟨k, s, p, q', hpq, rfl, hr, ho⟩ C hC j
  dsimp only
  have hol := ho.len
  have hpl : p.length + q'.length = q.length := by rw [← hpq, List.length_append]
  simp only [List.length_map, Nat.mul_one] at hol
  refine lenS hr (ifD (fun hlt => takeS hr (fun he => ?_) fun x q2 he W1 k1 h1 => ?_) fun hge => ?_)
  · subst he; simp at hlt
  · subst he
    refine ⟨er_ifc 0, ifB_f rfl (new_blk fun m W2 hm k2 b2 => ?_)⟩
    have kb : ∀ x ∈ [cl, b], x < W.heap.size := by simp; omega
    have o2 := (ho.far k1 kb).fresh k2 (by simp)
    have hsz2 := (k.trans k1).size
    have hsz3 := k2.size
    simp only [List.length_cons] at hpl
    refine app_own (bytes := 16) u125 hi hz hsz hby rfl (by decide) o2 [Value.string x] rfl (fun j u hj => ?_) (by simp [Value.oneCell']) (by omega) (by omega) (by omega) fun s' W3 o3 k3 hl3 => ?_
    · rw [addr0, b2.cell]; exact hj
    · have hblk := o2.lt
      have k3' : ∀ x ∈ sblk s, W.heap.size ≤ x := fun x hx => (hblk x hx).1
      refine hC _ _ ⟨(((k.trans k1).trans k2.nil).trans' k3 fun x hx => .inr (k3' x hx)), s', p ++ [x], q2, by rw [← hpq]; simp, rfl, ?_, by rw [List.map_append]; exact o3⟩ (by simp only; omega)
      have := (h1.keep0 k2).keep k3 (fun hx => by have := k3' _ hx; omega) (fun hx => by have := k3' _ hx; omega) (fun hx => by have := k3' _ hx; omega) (fun hx => by have := k3' _ hx; omega)
      rwa [List.length_append, List.length_singleton, ← Nat.add_assoc]
  · have hq0 : q' = [] := by cases q' with | nil => rfl | cons _ _ => simp at hge
    subst hq0
    rw [List.append_nil] at hpq
    subst hpq
    exact hB _ _ ⟨k, hr, ho⟩
end Go.Proofs.Ytbaclnddcobdmaa
