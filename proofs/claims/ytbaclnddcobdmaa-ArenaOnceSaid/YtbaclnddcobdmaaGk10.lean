/-
  Gk10: rows of one's own, that grow.
-/
import Derived.Test.YtbaclnddcobdmaaGk9
import Derived.Laws.Slices
set_option linter.unusedSimpArgs false
set_option linter.unusedVariables false
namespace Go.Gp
open Go
/-- Slice s is nil, or the head of a block of its own (numbered B or more), and its cells are xs. -/
def OwnS (W : World) (B : Nat) (e : TypeId) (size : Nat) (s : Sl) (xs : List Value) : Prop := W.ownsRow B e size (.slice s.a s.len s.cap) s.len xs
def sblk (s : Sl) : List Nat := match s.a with | some p => [p.block] | none => []
theorem OwnS.nil (W : World) (B : Nat) (e : TypeId) (size : Nat) : OwnS W B e size ⟨none, 0, 0⟩ [] := World.ownsRow_nil W B e size
theorem OwnS.keep {W W' : World} {B : Nat} {e : TypeId} {size : Nat} {s : Sl} {xs : List Value} (h : OwnS W B e size s xs) {S : List Nat} (hk : Keeps S W W') (hs : ∀ b ∈ sblk s, b ∉ S) : OwnS W' B e size s xs := by
  refine ⟨h.1, ?_⟩
  rcases h.2 with hn | ⟨g, cap, cur, hv, hb, hgg, rest⟩
  · exact .inl hn
  · refine .inr ⟨g, cap, cur, hv, hb, ?_, rest⟩
    injection hv with h1 h2 h3
    rw [hk.block g (Array.getElem?_eq_some_iff.1 hgg).1 (hs g (by unfold sblk; rw [h1]; simp))]
    exact hgg
theorem OwnS.lt {W : World} {B : Nat} {e : TypeId} {size : Nat} {s : Sl} {xs : List Value} (h : OwnS W B e size s xs) : ∀ b ∈ sblk s, B ≤ b ∧ b < W.heap.size := by
  intro b hb
  rcases h.2 with ⟨hn, _⟩ | ⟨g, cap, cur, hv, hg, hgg, _⟩
  · injection hn with h1
    unfold sblk at hb; rw [h1] at hb; simp at hb
  · injection hv with h1
    unfold sblk at hb; rw [h1] at hb
    simp only [List.mem_singleton] at hb
    subst hb
    exact ⟨hg, (Array.getElem?_eq_some_iff.1 hgg).1⟩
theorem OwnS.far {W W' : World} {B : Nat} {e : TypeId} {size : Nat} {s : Sl} {xs : List Value} (h : OwnS W B e size s xs) {S : List Nat} (hk : Keeps S W W') (hs : ∀ b ∈ S, b < B) : OwnS W' B e size s xs :=
  h.keep hk fun b hb hm => by have := (h.lt b hb).1; have := hs b hm; omega
theorem OwnS.fresh {W W' : World} {B : Nat} {e : TypeId} {size : Nat} {s : Sl} {xs : List Value} (h : OwnS W B e size s xs) {S : List Nat} (hk : Keeps S W W') (hs : ∀ b ∈ S, W.heap.size ≤ b) : OwnS W' B e size s xs :=
  h.keep hk fun b hb hm => by have := (h.lt b hb).2; have := hs b hm; omega
theorem OwnS.len {W : World} {B : Nat} {e : TypeId} {size : Nat} {s : Sl} {xs : List Value} (h : OwnS W B e size s xs) : xs.length = s.len * size := h.1
theorem OwnS.cell {W : World} {B : Nat} {e : TypeId} {size : Nat} {s : Sl} {xs : List Value} (h : OwnS W B e size s xs) {j : Nat} {u : Value} (hj : xs[j]? = some u) : ∃ g, s.a = some ⟨g, 0, none⟩ ∧ W.cell? ⟨g, j, none⟩ = some u := by
  rcases h.2 with ⟨hn, h0⟩ | ⟨g, cap, cur, hv, hb, hgg, _⟩
  · have := h.1
    rw [h0, Nat.zero_mul] at this
    rw [List.eq_nil_of_length_eq_zero this] at hj
    simp at hj
  · injection hv with h1
    refine ⟨g, h1, ?_⟩
    have := World.ownsRow.cells h (g := g) (by rw [h1]; rfl) j u hj
    rwa [addr_add, Nat.zero_add] at this
theorem app_own {P : Program} {W : World} {t e : TypeId} {i : TypeInfo} {z : Value} {size bytes : Nat} (ht : P.underlying t = some (.slice e)) (hi : P.info? e = some i) (hz : i.zero = some z) (hsz : i.size = size) (hby : i.bytes = bytes)
    (hzs : z.cells.size = size) (h0 : 0 < size) {B : Nat} {s : Sl} {xs : List Value} (ho : OwnS W B e size s xs) {a : Addr} {m c : Nat} (news : List Value) (hl : news.length = m * size) (hn : ∀ j u, news[j]? = some u → W.cell? (a.add j) = some u)
    (h1 : ∀ u ∈ news, u.oneCell' = true) (hb : (s.len + m) * bytes ≤ 140737488355328) (h63 : s.len + m ≤ 9223372036854775807) (hB : B ≤ W.heap.size) {K : Sl → World → Prop}
    (hk : ∀ r W', OwnS W' B e size r (xs ++ news) → Keeps (sblk s) W W' → r.len = s.len + m → K r W') :
    runG' P (.val (.one .sl)) (Builtin.append_ #[t, t] t #[.slice s.a s.len s.cap, .slice (some a) m c]) W K := by
  obtain ⟨v', w', hr, ho', hg, hnil⟩ := run_append_own (P := P) W B t t e i z size bytes ht hi hz hsz hby hzs h0 _ s.len xs ho a m c news hl hn h1 (by rw [maxLen_eq]; exact h63) hb hB
  have hks : Keeps (sblk s) W w' := ⟨hg.os, hg.tape, hg.output, hg.size, fun x hx hxs => hg.block x hx (by
    unfold sblk at hxs
    obtain ⟨p, n, c⟩ := s
    cases p with
    | none => simp [Value.ownBlock]
    | some p => simpa [Value.ownBlock] using hxs)⟩
  rcases ho'.2 with ⟨rfl, h00⟩ | ⟨g, cap, cur, rfl, rest⟩
  · refine ⟨⟨none, 0, 0⟩, w', hr, hk _ _ ?_ hks (by simp only; omega)⟩
    have h2 := ho'
    rw [h00] at h2
    exact h2
  · exact ⟨⟨some ⟨g, 0, none⟩, s.len + m, cap⟩, w', hr, hk _ _ ho' hks rfl⟩
/-- A slice's elements, each a bool. -/
theorem rd_bools {P : Program} {W : World} {n : Nat} {t e : TypeId} {s : Sl} (ht : P.underlying t = some (.slice e)) (he : P.underlying e = some .bool) (hs : P.cellsOf e = 1)
    (h : RdT P W n t [.slice s.a s.len s.cap]) : s.len ≤ 9223372036854775807 ∧ ∀ i, i < s.len → ∃ p x, s.a = some p ∧ W.cell? (p.add i) = some (.bool x) := by
  obtain ⟨a, len, cap, m, hv, hl, hm, _, hx⟩ := rd_slice ht h
  obtain ⟨rfl, rfl, rfl⟩ : s.a = a ∧ s.len = len ∧ s.cap = cap := by injection hv with h1 h2 h3; exact ⟨h1, h2, h3⟩
  rw [maxLen_eq] at hm
  refine ⟨by omega, fun i hi => ?_⟩
  obtain ⟨p, cs, hp, hc, hr⟩ := hx i hi
  rw [hs, Nat.mul_one] at hc
  cases m with
  | zero => exact hr.elim
  | succ m =>
    unfold RdT at hr
    simp only [he] at hr
    obtain ⟨x, rfl⟩ := hr
    have h0 := hc.1
    rw [show (p.add i).add 0 = p.add i from by simp [Addr.add]] at h0
    exact ⟨p, x, hp, h0⟩
end Go.Gp
namespace Go.Gp
open Go
/-- Slice s is read: its cells are xs. -/
structure Rs (W : World) (size : Nat) (s : Sl) (xs : List Value) : Prop where
  len : xs.length = s.len * size
  cap : s.len ≤ s.cap
  at_ : ∀ j u, xs[j]? = some u → ∃ p, s.a = some p ∧ W.cell? (p.add j) = some u
theorem Rs.nil (W : World) (size : Nat) : Rs W size ⟨none, 0, 0⟩ [] := ⟨by simp, Nat.le_refl _, fun j u h => by simp at h⟩
theorem Rs.keep {W W' : World} {size : Nat} {s : Sl} {xs : List Value} (h : Rs W size s xs) {S : List Nat} (hk : Keeps S W W') (hs : ∀ b ∈ sblk s, b < W.heap.size → b ∉ S) : Rs W' size s xs :=
  ⟨h.len, h.cap, fun j u hu => let ⟨p, hp, hc⟩ := h.at_ j u hu
    ⟨p, hp, hk.cell hc (by have := cell_lt hc; rw [add_block] at this ⊢; exact hs _ (by unfold sblk; rw [hp]; simp) this)⟩⟩
theorem Rs.keep0 {W W' : World} {size : Nat} {s : Sl} {xs : List Value} (h : Rs W size s xs) (hk : Keeps [] W W') : Rs W' size s xs := h.keep hk (by simp)
theorem OwnS.cap {W : World} {B : Nat} {e : TypeId} {size : Nat} {s : Sl} {xs : List Value} (h : OwnS W B e size s xs) : s.len ≤ s.cap := by
  rcases h.2 with ⟨hn, h0⟩ | ⟨g, cap, cur, hv, _, _, hc, _⟩
  · omega
  · injection hv with _ _ h3
    omega
theorem OwnS.rs {W : World} {B : Nat} {e : TypeId} {size : Nat} {s : Sl} {xs : List Value} (h : OwnS W B e size s xs) : Rs W size s xs :=
  ⟨h.len, h.cap, fun j u hu => let ⟨g, hg, hc⟩ := h.cell hu; ⟨_, hg, by rw [addr_add, Nat.zero_add]; exact hc⟩⟩
theorem OwnS.blank {W : World} {B b : Nat} {e : TypeId} {size : Nat} (h : Blk W b [] e) (hB : B ≤ b) : OwnS W B e size ⟨some ⟨b, 0, none⟩, 0, 0⟩ [] :=
  ⟨by simp, .inr ⟨b, 0, #[], rfl, hB, h, Nat.le_refl _, Nat.zero_le _, by simp, by simp⟩⟩
/-- A slice that is read, appended to a row of one's own. -/
theorem app_rs {P : Program} {W : World} {t e : TypeId} {i : TypeInfo} {z : Value} {size bytes : Nat} (ht : P.underlying t = some (.slice e)) (hi : P.info? e = some i) (hz : i.zero = some z) (hsz : i.size = size) (hby : i.bytes = bytes)
    (hzs : z.cells.size = size) (h0 : 0 < size) {B : Nat} {s u : Sl} {xs ys : List Value} (ho : OwnS W B e size s xs) (hu : Rs W size u ys) (hnone : u.a = none → u.len = 0 ∧ u.cap = 0) (h1 : ∀ u ∈ ys, u.oneCell' = true)
    (hb : (s.len + u.len) * bytes ≤ 140737488355328) (h63 : s.len + u.len ≤ 9223372036854775807) (hB : B ≤ W.heap.size) {K : Sl → World → Prop}
    (hk : ∀ r W', OwnS W' B e size r (xs ++ ys) → Keeps (sblk s) W W' → r.len = s.len + u.len → K r W') :
    runG' P (.val (.one .sl)) (Builtin.append_ #[t, t] t #[.slice s.a s.len s.cap, .slice u.a u.len u.cap]) W K := by
  obtain ⟨a, m, c⟩ := u
  cases a with
  | some p =>
    refine app_own ht hi hz hsz hby hzs h0 ho ys hu.len (fun j v hj => ?_) h1 hb h63 hB hk
    obtain ⟨q, hq, hc⟩ := hu.at_ j v hj
    injection hq with hq
    subst hq
    exact hc
  | none =>
    obtain ⟨h2, h3⟩ := hnone rfl
    simp only at h2 h3
    subst h2 h3
    have : ys = [] := List.eq_nil_of_length_eq_zero (by rw [hu.len]; simp)
    subst this
    rw [List.append_nil] at hk
    exact ⟨s, W, run_append_owned_none (P := P) W B t t e i size ht hi _ _ xs ho, hk s W ho (Keeps.refl _ _) rfl⟩
theorem addr_add_add (a : Addr) (m n : Nat) : (a.add m).add n = a.add (m + n) := by
  unfold Addr.add
  split <;> split <;> (try split) <;> simp_all <;> omega
theorem sizeOf_run {P : Program} {W : World} {e : TypeId} {i : TypeInfo} (hi : P.info? e = some i) : (sizeOf e).run P W = .ok i.size W := by
  simp [sizeOf, typeInfo, hi]
/-- s[l:] -/
theorem slice_lo {P : Program} {W : World} {t e : TypeId} {i : TypeInfo} {size : Nat} (ht : P.underlying t = some (.slice e)) (hi : P.info? e = some i) (hsz : i.size = size) {k : IntKind} {l : Int} {s : Sl} {xs : List Value} (hs : Rs W size s xs)
    (h0 : 0 ≤ l) (h1 : l ≤ s.len) {K : Sl → World → Prop} (hk : ∀ r, Rs W size r (xs.drop (l.toNat * size)) → sblk r = sblk s → r.len = s.len - l.toNat → r.cap = s.cap - l.toNat → (r.a = none ↔ s.a = none) → K r W) :
    runG' P (.val (.one .sl)) (Instr.sliceAt t (.slice s.a s.len s.cap) (some (.int k l)) none none) W K := by
  have he : P.elem t = e := by simp [Program.elem, ht]
  have ht' : P.underlying t = some (.slice (P.elem t)) := by rw [he]; exact ht
  have hc := hs.cap
  refine ⟨⟨if s.cap = l.toNat then s.a else s.a.map (·.add (l.toNat * size)), s.len - l.toNat, s.cap - l.toNat⟩, W, ?_, hk _ ⟨?_, by simp only; omega, fun j u hu => ?_⟩ ?_ rfl rfl ?_⟩
  · rw [run_sliceAt_slice W t _ _ _ _ ht', run_slice_l W t s.a s.len s.cap ht' k l h0 h1, he, sizeOf_run hi, hsz]
    rfl
  · rw [List.length_drop, hs.len, Nat.sub_mul]
  · rw [List.getElem?_drop] at hu
    obtain ⟨p, hp, hcell⟩ := hs.at_ _ u hu
    have hlt := (List.getElem?_eq_some_iff.1 hu).1
    rw [hs.len] at hlt
    have hne : ¬ s.cap = l.toNat := fun e => by
      have : s.len * size ≤ l.toNat * size := Nat.mul_le_mul_right _ (by omega)
      omega
    refine ⟨p.add (l.toNat * size), by simp only; rw [if_neg hne, hp]; rfl, ?_⟩
    rw [addr_add_add]
    exact hcell
  · unfold sblk
    simp only
    split <;> rename_i h
    all_goals
      split at h
      · rw [h]
      · cases ha : s.a <;> rw [ha] at h <;> simp at h
        try (rw [← h, add_block])
  · simp only
    split
    · rfl
    · simp
end Go.Gp
namespace Go.Gp
open Go
/-- Is t a struct of fields of these types, a cell each? -/
def cellFields (P : Program) (t : TypeId) (ts : List TypeId) : Bool :=
  P.cellsOf t == ts.length && match P.underlying t with
  | some (.struct fs) => (List.range ts.length).all fun i => match fs[i]?, ts[i]? with
    | some f, some u => f.offset == i && f.type == u && P.cellsOf u == 1
    | _, _ => false
  | _ => false
theorem rd_cells {P : Program} {W : World} {n : Nat} {t : TypeId} {ts : List TypeId} {cs : List Value} (hk : cellFields P t ts = true) (h : RdT P W n t cs) :
    ∃ m, cs.length = ts.length ∧ ∀ (i : Nat) u v, ts[i]? = some u → cs[i]? = some v → RdT P W m u [v] := by
  unfold cellFields at hk
  rw [Bool.and_eq_true, beq_iff_eq] at hk
  obtain ⟨hc, hk⟩ := hk
  split at hk
  · rename_i fs hu
    obtain ⟨m, hl, hf⟩ := rd_struct hu h
    rw [hc] at hl
    refine ⟨m, hl, fun i u v hti hv => ?_⟩
    have hi : i < ts.length := (List.getElem?_eq_some_iff.1 hti).1
    have hi' := List.all_eq_true.1 hk i (by simpa using hi)
    rw [hti] at hi'
    split at hi' <;> first | (cases hi'; done) | skip
    rename_i f u' hfi hu'
    injection hu' with hu'
    subst hu'
    simp only [Bool.and_eq_true, beq_iff_eq] at hi'
    obtain ⟨⟨h1, h2⟩, h3⟩ := hi'
    have hr := hf i f hfi
    rw [h1, h2, h3] at hr
    have hd : (cs.drop i).take 1 = [v] := by
      have hlt : i < cs.length := by omega
      rw [List.drop_eq_getElem_cons hlt]
      rw [List.getElem?_eq_getElem hlt] at hv
      injection hv with hv
      simp [hv]
    rwa [hd] at hr
  · cases hk
end Go.Gp
