/-
  What clones bytes, and whole numbers.
-/
import Derived.Test.YtbaclnddcobdmaaDclone
import Derived.Test.YtbaclnddcobdmaaGk11
set_option linter.unusedSimpArgs false
set_option linter.unusedVariables false
namespace Go.Proofs.Ytbaclnddcobdmaa
open Go Go.Gp
theorem uBytes : Try.prog.underlying 45 = some (.slice 5) := by kernel_rfl
theorem uByte : Try.prog.underlying 5 = some (.int .u8) := by kernel_rfl
theorem uStr : Try.prog.underlying 9 = some .string := by kernel_rfl
theorem uInts : Try.prog.underlying 31 = some (.slice 3) := by kernel_rfl
theorem uInt : Try.prog.underlying 3 = some (.int .i64) := by kernel_rfl
theorem info_of {t : TypeId} {z : Value} {s b : Nat} (h : (Try.prog.info? t).map (fun i => (i.zero, i.size, i.bytes)) = some (some z, s, b)) : ∃ i, Try.prog.info? t = some i ∧ i.zero = some z ∧ i.size = s ∧ i.bytes = b := by
  obtain ⟨i, hi, h⟩ := Option.map_eq_some_iff.1 h
  simp only [Prod.mk.injEq] at h
  exact ⟨i, hi, h.1, h.2.1, h.2.2⟩
theorem nByte : ∃ i, Try.prog.info? 5 = some i ∧ i.zero = some (.int .u8 0) ∧ i.size = 1 ∧ i.bytes = 1 := info_of (by kernel_rfl)
theorem nInt : ∃ i, Try.prog.info? 3 = some i ∧ i.zero = some (.int .i64 0) ∧ i.size = 1 ∧ i.bytes = 8 := info_of (by kernel_rfl)
abbrev byC (b : UInt8) : Value := .int .u8 b.toNat
theorem own_bs {W : World} {B : Nat} {e : TypeId} {s : Sl} {l : List UInt8} (h : OwnS W B e 1 s (l.map byC)) (hl : l.length ≤ 9223372036854775807) : Bs W s l :=
  ⟨by have := h.len; simp only [List.length_map] at this; omega, hl, fun i b hb => h.rs.at_ i _ (by rw [List.getElem?_map, hb]; rfl)⟩
theorem bclone_spec {W : World} {a : Sl} {x : List UInt8} (ha : Bs W a x) (hx : x.length ≤ 140737488355328) {K : Sl × Unit → World → Prop}
    (hk : ∀ r W', BsA (newA W W') W' r x → Keeps [] W W' → (r.a = none ↔ a.a = none) → K (r, ()) W') : callG Try.prog 104 [.slice a.a a.len a.cap] [.one .sl] W K := by
  apply call104
  unfold G104
  obtain ⟨p, n, c⟩ := a
  cases p with
  | none =>
    rw [ha.nil] at hk
    exact hk _ _ ⟨Bs.none W, inA.nil _⟩ (Keeps.refl _ _) (by simp)
  | some p =>
    simp only [Option.isNone_some, ifB_false]
    refine new_blk fun m W1 hm k1 b1 => ?_
    obtain ⟨i, hi, h1, h2, h3⟩ := nByte
    have hl : n = x.length := ha.len
    refine app_own' uBytes hi h1 h2 h3 rfl (by decide) (OwnS.blank (B := 0) b1 (Nat.zero_le _)) (x.map byC) (by simp [hl]) (fun j u hj => ?_) (fun u hu => by obtain ⟨b', _, rfl⟩ := List.mem_map.1 hu; rfl) (by simp only; omega) (by simp only; omega) (Nat.zero_le _) fun r W2 o2 k2 l2 hs hn0 => ?_
    · rw [List.getElem?_map] at hj
      obtain ⟨b', hb', rfl⟩ := Option.map_eq_some_iff.1 hj
      exact (ha.keep0 k1).cells j b' hb'
    · simp only [List.nil_append] at o2
      have hb1 := b1.lt
      have hk2 := k2.size
      have hk1 := k1.size
      have kk : Keeps [] W W2 := k1.push k2 (by simp [sblk, hm])
      refine hk r W2 ⟨own_bs o2 ha.big, fun b hb => ?_⟩ kk ⟨fun hn => ?_, fun hn => by simp at hn⟩
      · rcases hs b hb with h | h
        · simp only [sblk, List.mem_singleton] at h
          subst h
          exact ⟨by omega, by omega⟩
        · exact ⟨Nat.le_trans hk1 h.1, h.2⟩
      · have := hn0 hn; simp at this
theorem iclone_spec {A : Nat → Prop} {W : World} {a : Sl} {x : List Int} (ha : IntsA A W a x) (hx : x.length ≤ 1000000000000) {K : Sl × Unit → World → Prop}
    (hk : ∀ r W', IntsA (newA W W') W' r x → Keeps [] W W' → (r.a = none ↔ a.a = none) → K (r, ()) W') : callG Try.prog 105 [.slice a.a a.len a.cap] [.one .sl] W K := by
  apply call105
  unfold G105
  have hl := ha.len
  have hr := ha.rs
  have hnl := ha.nil
  obtain ⟨p, n, c⟩ := a
  cases p with
  | none =>
    have hx0 : x = [] := List.eq_nil_of_length_eq_zero (by have := (hnl rfl).1; omega)
    subst hx0
    exact hk _ _ (RowOf.none _ _ _ _ _) (Keeps.refl _ _) (by simp)
  | some p =>
    simp only [Option.isNone_some, ifB_false]
    simp only at hl
    refine new_blk fun m W1 hm k1 b1 => ?_
    obtain ⟨i, hi, h1, h2, h3⟩ := nInt
    refine app_own' uInts hi h1 h2 h3 rfl (by decide) (OwnS.blank (B := 0) b1 (Nat.zero_le _)) (x.map (Value.int .i64)) (by simp [hl]) (fun j u hj => ?_) (fun u hu => by obtain ⟨b', _, rfl⟩ := List.mem_map.1 hu; rfl) (by simp only; omega) (by simp only; omega) (Nat.zero_le _) fun r W2 o2 k2 l2 hs hn0 => ?_
    · obtain ⟨q, hq, hc⟩ := (hr.keep0 k1).at_ j u hj
      simp only [Option.some.injEq] at hq
      subst hq
      exact hc
    · simp only [List.nil_append] at o2
      have hb1 := b1.lt
      have hk2 := k2.size
      have hk1 := k1.size
      have kk : Keeps [] W W2 := k1.push k2 (by simp [sblk, hm])
      have o3 : OwnS W2 0 3 1 r (x.flatMap inC) := by rw [← List.map_eq_flatMap]; exact o2
      have hin : inA (newA W W2) r := fun b hb => ?_
      refine hk r W2 (OwnS.row (f := inC) (k := 1) (xs := x) o3 (fun _ => rfl) (by decide) rfl hin fun i y z h4 h5 => ?_) kk ⟨fun hn => by have := hn0 hn; simp at this, fun hn => by simp at hn⟩
      · rw [h4] at h5; injection h5
      rcases hs b hb with h | h
      · simp only [sblk, List.mem_singleton] at h
        subst h
        exact ⟨by omega, by omega⟩
      · exact ⟨Nat.le_trans hk1 h.1, h.2⟩
end Go.Proofs.Ytbaclnddcobdmaa
