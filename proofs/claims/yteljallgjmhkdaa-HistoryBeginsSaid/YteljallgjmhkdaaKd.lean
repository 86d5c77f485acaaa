/-
  Kd: texts of ours, one behind the other: Gl1, Gl2, Ga33, Ga34, Ga35, Ga36, Ga37, Ga38, Ga39.
-/
import Derived.Test.YteljallgjmhkdaaKk
import Derived.Laws.CopyRow
import Derived.Laws.Externs
import Derived.Lib.AppendZerosOnto
import Derived.Lib.Overlaps
import Derived.Test.YteljallgjmhkdaaKc
set_option linter.unusedSimpArgs false
set_option linter.unusedVariables false
namespace Go.Gp
open Go
def RowAt (W : World) (g : Nat) (e : TypeId) (C : List Value) : Prop := W.heap[g]? = some (.cells ⟨C⟩ e (0, 0))
theorem RowAt.lt {W : World} {g : Nat} {e : TypeId} {C : List Value} (h : RowAt W g e C) : g < W.heap.size := (Array.getElem?_eq_some_iff.1 h).1
theorem setRow_size (W : World) (g : Nat) (cs : Array Value) : (W.setRow g cs).heap.size = W.heap.size := by simp [World.setRow]
theorem setRow_row {W : World} {g : Nat} {e : TypeId} {C : List Value} (h : RowAt W g e C) (C' : List Value) : RowAt (W.setRow g ⟨C'⟩) g e C' := setRow_heap W g _ _ e (0, 0) h
theorem setRow_other (W : World) (g : Nat) (cs : Array Value) {b : Nat} (hb : b ≠ g) : (W.setRow g cs).heap[b]? = W.heap[b]? := by
  unfold World.setRow
  simp only [Array.getElem?_modify]
  rw [if_neg (Ne.symm hb)]
theorem setRow_keeps (W : World) (g : Nat) (cs : Array Value) : Keeps [g] W (W.setRow g cs) :=
  ⟨rfl, rfl, rfl, by rw [setRow_size]; exact Nat.le_refl _, fun b _ hn => setRow_other W g cs (by simpa using hn)⟩
theorem RowAt.cell {W : World} {g : Nat} {e : TypeId} {C : List Value} (h : RowAt W g e C) (i : Nat) : W.cell? ⟨g, i, none⟩ = C[i]? := by
  unfold World.cell?
  rw [h]
  simp
theorem own_row {W : World} {e : TypeId} {size : Nat} {s : Sl} {xs : List Value} (h : OwnS W 0 e size s xs) (hn : s.len ≠ 0) : ∃ g C, s.a = some ⟨g, 0, none⟩ ∧ RowAt W g e C ∧ s.len ≤ s.cap ∧ s.cap ≤ maxLen ∧ C.length = s.cap * size ∧ C.take (s.len * size) = xs := by
  rcases h.2 with ⟨_, h0⟩ | ⟨g, cap, cur, hv, _, hg, h1, h2, h3, h4⟩
  · exact absurd h0 hn
  · injection hv with e1 e2 e3
    subst e3
    exact ⟨g, cur.toList, e1, hg, h1, h2, by simpa using h3, h4⟩
theorem row_own {W : World} {e : TypeId} {size g n cap : Nat} {C : List Value} (h : RowAt W g e C) (h1 : n ≤ cap) (h2 : cap ≤ maxLen) (h3 : C.length = cap * size) : OwnS W 0 e size ⟨some ⟨g, 0, none⟩, n, cap⟩ (C.take (n * size)) :=
  ⟨by rw [List.length_take, h3]; exact Nat.min_eq_left (Nat.mul_le_mul_right _ h1), .inr ⟨g, cap, ⟨C⟩, rfl, Nat.zero_le _, h, h1, h2, by simpa using h3, rfl⟩⟩
section
variable {P : Program} {W : World}
theorem run_copy_n {t t' ty e : TypeId} {i : TypeInfo} (ht : P.underlying t = some (.slice e)) (hi : P.info? e = some i) {g o dl dc : Nat} {a : Addr} {sl sc : Nat} {C cs : List Value} {et : TypeId} (hg : RowAt W g et C)
    {k : Nat} (hk : k = Nat.min sl dl) (hl : cs.length = k * i.size) (hsrc : ∀ j v, cs[j]? = some v → W.cell? (a.add j) = some v) (hfit : o + cs.length ≤ C.length) (h1 : ∀ v ∈ cs, v.oneCell' = true) :
    (Builtin.copy_ #[t, t'] ty #[.slice (some ⟨g, o, none⟩) dl dc, .slice (some a) sl sc]).run P W = .ok (goInt k) (W.setRow g ⟨C.take o ++ cs ++ C.drop (o + cs.length)⟩) := by
  have hld := run_loadCells_list (P := P) W a cs hsrc
  have hst := run_storeCells_at P g o et cs 0 ⟨C⟩ W hg (by simpa using hfit) h1
  have hsz := run_szof (w := W) hi
  simp only [Nat.add_zero] at hst
  subst hk
  simp only [Builtin.copy_, Sem.run_bind, Sem.run_pure, Result.andThen_ok, run_underlying ht, Builtin.lenOf, hsz, Builtin.firstCells, ← hl, hld, hst]
  simp [run_underlying ht, Builtin.lenOf, hsz, Builtin.firstCells, ← hl, hld, hst]
theorem run_append_room_n {t ty e : TypeId} {i : TypeInfo} (ht : P.underlying t = some (.slice e)) (hi : P.info? e = some i) {g n cap : Nat} {a : Addr} {m c : Nat} {C cs : List Value} {et : TypeId} (hg : RowAt W g et C)
    (hroom : n + m ≤ cap) (hl : cs.length = m * i.size) (hsrc : ∀ j v, cs[j]? = some v → W.cell? (a.add j) = some v) (hfit : n * i.size + cs.length ≤ C.length) (h1 : ∀ v ∈ cs, v.oneCell' = true) :
    (Builtin.append_ #[t, t] ty #[.slice (some ⟨g, 0, none⟩) n cap, .slice (some a) m c]).run P W = .ok (.slice (some ⟨g, 0, none⟩) (n + m) cap) (W.setRow g ⟨C.take (n * i.size) ++ cs ++ C.drop (n * i.size + cs.length)⟩) := by
  have hld := run_loadCells_list (P := P) W a cs hsrc
  have hst := run_storeCells_at P g (n * i.size) et cs 0 ⟨C⟩ W hg (by simpa using hfit) h1
  have hsz := run_szof (w := W) hi
  simp only [Nat.add_zero] at hst
  simp [Builtin.append_, run_underlying ht, Builtin.lenOf, hsz, Builtin.firstCells, ← hl, hld, hroom, addr_add, hst]
theorem zeroCells_len (z : Array Value) (n : Nat) : (Builtin.zeroCells z n).toList.length = n * z.size := by simp [Builtin.zeroCells]
theorem zeroCells_one {z : Array Value} (hz : ∀ v ∈ z, v.oneCell' = true) (n : Nat) (h0 : 0 < z.size) : ∀ v ∈ (Builtin.zeroCells z n).toList, v.oneCell' = true := by
  intro v hv
  simp only [Builtin.zeroCells, Array.toList_map, List.mem_map] at hv
  obtain ⟨j, _, rfl⟩ := hv
  have hlt : j % z.size < z.size := Nat.mod_lt _ h0
  rw [getElem!_pos z _ hlt]
  exact hz _ (Array.getElem_mem hlt)
theorem run_clear_n {t ty e : TypeId} {i : TypeInfo} {z : Value} (ht : P.underlying t = some (.slice e)) (hi : P.info? e = some i) (hz : i.zero = some z) (hz1 : ∀ v ∈ z.cells, v.oneCell' = true) (h0 : 0 < z.cells.size) {g o n c : Nat} {C : List Value} {et : TypeId} (hg : RowAt W g et C) (hfit : o + n * z.cells.size ≤ C.length) :
    ∃ D : List Value, D.length = n * z.cells.size ∧ (Builtin.clear_ #[t] ty #[.slice (some ⟨g, o, none⟩) n c]).run P W = .ok (.tuple #[]) (W.setRow g ⟨C.take o ++ D ++ C.drop (o + D.length)⟩) := by
  have hzv : (zeroValue e).run P W = .ok z W := by simp [zeroValue, typeInfo, hi, hz]
  cases n with
  | zero =>
    refine ⟨[], by simp, ?_⟩
    have : (⟨C.take o ++ [] ++ C.drop (o + ([] : List Value).length)⟩ : Array Value) = ⟨C⟩ := by simp
    rw [this, setRow_self W g _ et (0, 0) hg]
    simp [Builtin.clear_, run_underlying ht]
  | succ n =>
    refine ⟨(Builtin.zeroCells z.cells (n + 1)).toList, zeroCells_len _ _, ?_⟩
    have hst := run_storeCells_at P g o et (Builtin.zeroCells z.cells (n + 1)).toList 0 ⟨C⟩ W hg (by rw [zeroCells_len]; simpa using hfit) (zeroCells_one hz1 _ h0)
    simp only [Nat.add_zero] at hst
    simp [Builtin.clear_, run_underlying ht, hzv, hst]
theorem run_cap {t ty e : TypeId} (ht : P.underlying t = some (.slice e)) (a : Option Addr) (n c : Nat) : (Builtin.cap_ #[t] ty #[.slice a n c]).run P W = .ok (goInt c) W := by
  simp [Builtin.cap_, run_underlying ht]
theorem run_apart {tS tR e : TypeId} {i : TypeInfo} (ht : P.underlying tS = some (.slice e)) (hi : P.info? e = some i) {a b : Addr} {la ca lb cb : Nat} (hne : a.block ≠ b.block) {Ca Cb : Array Value} {ta tb : TypeId} {fa : Nat × Nat}
    (ha : W.heap[a.block]? = some (.cells Ca ta fa)) (hb : W.heap[b.block]? = some (.cells Cb tb (0, 0))) (h0 : Ca.size ≠ 0) (h0' : Cb.size ≠ 0) :
    (Extern.SlicesOverlaps.overlaps #[tS, tS] #[tR] #[.slice (some a) la ca, .slice (some b) lb cb]).run P W = .ok (.bool false) W := by
  have hnb : (a.block != b.block) = true := by simpa using hne
  have hnb' : (a.block == b.block) = false := by simpa using hne
  have hsa : W.shape? a.block = some (ta, Ca.size) := by simp [World.shape?, ha]
  have hsb : W.shape? b.block = some (tb, Cb.size) := by simp [World.shape?, hb]
  have hfb : W.frozen? b = false := by simp [World.frozen?, hb]
  have hfe : W.frozen? { block := b.block, off := Cb.size } = false := by simp [World.frozen?, hb]
  have hz := run_szof (w := W) hi
  change Sem.run P (α := Value) (do
    let some t := (#[tS, tS] : Array TypeId)[0]? | stuck "slices.overlaps: no parameter types"
    let .slice elem ← underlying t | stuck "slices.overlaps: slice type expected"
    let size ← sizeOf elem
    match (some a : Option Addr), (some b : Option Addr) with
    | some a, some b =>
      if la = 0 ∨ lb = 0 ∨ size = 0 then pure (Value.bool false)
      else if a.block != b.block && (← frozen a) && (← frozen b) then unsupported .addressObserved
      else do
        if a.block != b.block then do
          noView a; noView b
          if ← mayBeOne a b then return Value.bool ((← choose (.extern "sameAddr.stringBytes" 2)) == 1)
        pure (Value.bool (a.block == b.block && a.off < b.off + lb * size && b.off < a.off + la * size))
    | _, _ => pure (Value.bool false)) W = _
  by_cases hc : la = 0 ∨ lb = 0 ∨ i.size = 0
  · simp [run_underlying ht, hz, hc]
  · cases hka : Ca.size with
    | zero => exact absurd hka h0
    | succ ka =>
      cases hkb : Cb.size with
      | zero => exact absurd hkb h0'
      | succ kb =>
        rw [hka] at hsa
        rw [hkb] at hsb hfe
        cases hfa : W.frozen? a <;> cases hfe' : W.frozen? { block := a.block, off := ka + 1 } <;>
          simp [run_underlying ht, hz, hc, hnb, hnb', frozen, noView, viewAt, mayBeOne, stringish, shape, Sem.run, hsa, hsb, hfb, hfe, hfa, hfe']
end
end Go.Gp
set_option linter.unusedSimpArgs false
set_option linter.unusedVariables false
namespace Go.Gp
open Go
def GIns (P : Program) (t ti : TypeId) (sz : Nat) (ov rt : FuncId) (a0 : Sl) (a1 : Int) (a2 : Sl) (W : World) (K : Sl × Unit → World → Prop) : Prop :=
  slcG a0.a a0.cap sz a1 ((a0.len : Nat) : Int) fun (q1 : Sl) => ifB ((((a2.len : Nat) : Int) : Int) == 0) (K (a0, ()) W) (ifB ((a1 : Int) == ((a0.len : Nat) : Int)) (runG' P (.val (.one .sl)) (Builtin.append_ #[t, t] t #[(.slice a0.a a0.len a0.cap), (.slice a2.a a2.len a2.cap)]) W fun (r2 : Sl) W => K (r2, ()) W) (runG' P (.val (.one (.int .i64))) (Builtin.cap_ #[t] ti #[(.slice a0.a a0.len a0.cap)]) W fun (r3 : Int) W => ifB (decide (((IntKind.i64.wrap (((a0.len : Nat) : Int) + ((a2.len : Nat) : Int))) : Int) > r3)) (slcG a0.a a0.cap sz 0 a1 fun (q4 : Sl) => runG' P (.val (.one .sl)) (Builtin.append_ #[t, ti] t #[(.slice q4.a q4.len q4.cap), (.int .i64 (IntKind.i64.wrap ((IntKind.i64.wrap (((a0.len : Nat) : Int) + ((a2.len : Nat) : Int))) - a1)))]) W fun (r5 : Sl) W => slcG r5.a r5.cap sz a1 ((r5.len : Nat) : Int) fun (q6 : Sl) => runG' P (.val (.one (.int .i64))) (Builtin.copy_ #[t, t] ti #[(.slice q6.a q6.len q6.cap), (.slice a2.a a2.len a2.cap)]) W fun (r7 : Int) W => drwG W fun W => holdG W fun S8 => slcG r5.a r5.cap sz (IntKind.i64.wrap (a1 + ((a2.len : Nat) : Int))) ((r5.len : Nat) : Int) fun (q9 : Sl) => slcG a0.a a0.cap sz a1 ((a0.len : Nat) : Int) fun (q10 : Sl) => runG' P (.val (.one (.int .i64))) (Builtin.copy_ #[t, t] ti #[(.slice q9.a q9.len q9.cap), (.slice q10.a q10.len q10.cap)]) W fun (r11 : Int) W => K (r5, ()) W) (slcG a0.a a0.cap sz 0 (IntKind.i64.wrap (((a0.len : Nat) : Int) + ((a2.len : Nat) : Int))) fun (q12 : Sl) => slcG q12.a q12.cap sz (IntKind.i64.wrap (a1 + ((a2.len : Nat) : Int))) ((q12.len : Nat) : Int) fun (q13 : Sl) => extG P ov [(.slice a2.a a2.len a2.cap), (.slice q13.a q13.len q13.cap)] [.one .bool] W fun (r14 : Bool × Unit) W => ifB (!r14.1) (drwG W fun W => holdG W fun S15 => slcG q12.a q12.cap sz (IntKind.i64.wrap (a1 + ((a2.len : Nat) : Int))) ((q12.len : Nat) : Int) fun (q16 : Sl) => slcG q12.a q12.cap sz a1 ((q12.len : Nat) : Int) fun (q17 : Sl) => runG' P (.val (.one (.int .i64))) (Builtin.copy_ #[t, t] ti #[(.slice q16.a q16.len q16.cap), (.slice q17.a q17.len q17.cap)]) W fun (r18 : Int) W => slcG q12.a q12.cap sz a1 ((q12.len : Nat) : Int) fun (q19 : Sl) => runG' P (.val (.one (.int .i64))) (Builtin.copy_ #[t, t] ti #[(.slice q19.a q19.len q19.cap), (.slice a2.a a2.len a2.cap)]) W fun (r20 : Int) W => K (q12, ()) W) (slcG q12.a q12.cap sz ((a0.len : Nat) : Int) ((q12.len : Nat) : Int) fun (q21 : Sl) => runG' P (.val (.one (.int .i64))) (Builtin.copy_ #[t, t] ti #[(.slice q21.a q21.len q21.cap), (.slice a2.a a2.len a2.cap)]) W fun (r22 : Int) W => slcG q12.a q12.cap sz a1 ((q12.len : Nat) : Int) fun (q23 : Sl) => callG P rt [(.slice q23.a q23.len q23.cap), (.int .i64 ((a2.len : Nat) : Int))] [] W fun (r24 : Unit) W => K (q12, ()) W))))
def GDel (P : Program) (t : TypeId) (sz : Nat) (a0 : Sl) (a1 : Int) (a2 : Int) (W : World) (K : Sl × Unit → World → Prop) : Prop :=
  runG' P (.val (.one .sl)) (Instr.sliceAt t (.slice a0.a a0.len a0.cap) (some (.int .i64 a1)) (some (.int .i64 a2)) (some (.int .i64 ((a0.len : Nat) : Int)))) W fun (r1 : Sl) W => ifB ((a1 : Int) == a2) (K (a0, ()) W) (drwG W fun W => holdG W fun S2 => slcG a0.a a0.cap sz 0 a1 fun (q3 : Sl) => slcG a0.a a0.cap sz a2 ((a0.len : Nat) : Int) fun (q4 : Sl) => runG' P (.val (.one .sl)) (Builtin.append_ #[t, t] t #[(.slice q3.a q3.len q3.cap), (.slice q4.a q4.len q4.cap)]) W fun (r5 : Sl) W => slcG r5.a r5.cap sz ((r5.len : Nat) : Int) ((a0.len : Nat) : Int) fun (q6 : Sl) => runG' P (.tup []) (Builtin.clear_ #[t] 0 #[(.slice q6.a q6.len q6.cap)]) W fun (r7 : Unit) W => K (r5, ()) W)
theorem take_get {α : Type} {l : List α} {n j : Nat} {u : α} (h : (l.take n)[j]? = some u) : l[j]? = some u := by
  rw [List.getElem?_take] at h
  split at h
  · exact h
  · cases h
theorem take_app {α : Type} {A R : List α} {k : Nat} (h : A.length = k) : (A ++ R).take k = A := by subst h; simp
theorem drop_app {α : Type} {A R : List α} {k : Nat} (h : A.length = k) : (A ++ R).drop k = R := by subst h; simp
theorem drop_app_add {α : Type} {A R : List α} {k j : Nat} (h : A.length = k) : (A ++ R).drop (k + j) = R.drop j := by subst h; rw [List.drop_append]; simp
theorem RowAt.drew {W : World} {g : Nat} {e : TypeId} {C : List Value} (h : RowAt W g e C) : RowAt W.drew g e C := h
structure ElemT (P : Program) (t e ti : TypeId) (sz bytes : Nat) (i : TypeInfo) (z : Value) : Prop where
  ht : P.underlying t = some (.slice e)
  hti : P.underlying ti = some (.int .i64)
  hi : P.info? e = some i
  hz : i.zero = some z
  hsz : i.size = sz
  hby : i.bytes = bytes
  hzs : z.cells.size = sz
  h0 : 0 < sz
  hz1 : ∀ v ∈ z.cells, v.oneCell' = true
def OvF (P : Program) (t : TypeId) (ov : FuncId) : Prop := ∃ tr : TypeId, ∀ (W : World) (args : Array Value), (callFunc ov args).run P W = ((Extern.SlicesOverlaps.overlaps #[t, t] #[tr] args).run P W).andThen fun v w' => .ok (.value v) w'
theorem slcG_some {g o : Nat} {cap size : Nat} {l h : Int} {K : Sl → Prop} (h0 : 0 ≤ l) (h1 : l ≤ h) (h2 : h ≤ cap) (hne : l.toNat ≠ cap) (hk : K ⟨some ⟨g, o + l.toNat * size, none⟩, h.toNat - l.toNat, cap - l.toNat⟩) : slcG (some ⟨g, o, none⟩) cap size l h K := by
  refine ⟨h0, h1, h2, ?_⟩
  rw [if_neg (Ne.symm hne)]
  simpa [addr_add] using hk
theorem slcG_any {a : Option Addr} {cap size : Nat} {l h : Int} {K : Sl → Prop} (h0 : 0 ≤ l) (h1 : l ≤ h) (h2 : h ≤ cap) (hk : ∀ r : Sl, r.len = h.toNat - l.toNat → K r) : slcG a cap size l h K := ⟨h0, h1, h2, hk _ rfl⟩
theorem Keeps.put {W W' W'' : World} {g : Nat} {S : List Nat} (h : Keeps S W W') (k : Keeps [g] W' W'') (hg : g ∈ S ∨ W.heap.size ≤ g) : Keeps S W W'' := h.trans' k fun b hb => by
  simp only [List.mem_singleton] at hb
  subst hb
  exact hg
section
variable {P : Program}
theorem ins_mem {t e ti : TypeId} {sz bytes : Nat} {inf : TypeInfo} {z : Value} (T : ElemT P t e ti sz bytes inf z) {ov rt : FuncId} (hov : OvF P t ov) {W : World} {s v : Sl} {xs ys : List Value} {i : Nat} (ho : OwnS W 0 e sz s xs) (hv : Rs W sz v ys) (hvn : v.a = none → v.len = 0 ∧ v.cap = 0)
    (hne : v.len ≠ 0 → ∀ b ∈ sblk v, b ∉ sblk s) (hi : i ≤ s.len) (h1 : ∀ u ∈ ys, u.oneCell' = true) (h1x : ∀ u ∈ xs, u.oneCell' = true) (hbig : (s.len + v.len) * bytes ≤ 140737488355328) (h63 : s.len + v.len ≤ 1000000000000) {K : Sl × Unit → World → Prop}
    (hk : ∀ r W', OwnS W' 0 e sz r (xs.take (i * sz) ++ ys ++ xs.drop (i * sz)) → Keeps (sblk s) W W' → (∀ b ∈ sblk r, b ∈ sblk s ∨ newA W W' b) → r.len = s.len + v.len → K (r, ()) W') : GIns P t ti sz ov rt s (i : Int) v W K := by
  obtain ⟨tr, hov⟩ := hov
  have hyl := hv.len
  have hxl := ho.len
  have hc := ho.cap
  have hmx := maxLen_eq
  have i1 := T.hsz
  have i2 := T.hby
  subst i1 i2
  unfold GIns
  refine slcG_any (by omega) (by omega) (by omega) fun _ _ => ifE (fun hm => ?_) fun hm => ?_
  · have hm0 : v.len = 0 := by omega
    rw [hm0, Nat.zero_mul] at hyl
    have := List.eq_nil_of_length_eq_zero hyl
    subst this
    refine hk s W (by rw [List.append_nil, List.take_append_drop]; exact ho) (Keeps.refl _ _) (fun b hb => .inl hb) (by omega)
  have hmp : v.len ≠ 0 := by omega
  obtain ⟨va, hva⟩ : ∃ a, v.a = some a := by
    cases h : v.a with
    | none => exact absurd (hvn h).1 hmp
    | some a => exact ⟨a, rfl⟩
  have hvs : ∀ (W' : World), (∀ b ∈ sblk v, W'.heap[b]? = W.heap[b]?) → ∀ j u, ys[j]? = some u → W'.cell? (va.add j) = some u := fun W' hW j u hj => by
    obtain ⟨p, hp, hcell⟩ := hv.at_ j u hj
    rw [hva] at hp
    injection hp with hp
    subst hp
    have : W'.heap[va.block]? = W.heap[va.block]? := hW _ (by unfold sblk; rw [hva]; simp)
    unfold World.cell? at hcell ⊢
    rw [add_block, this]
    rw [add_block] at hcell
    exact hcell
  have hvb : va.block ∈ sblk v := by unfold sblk; rw [hva]; simp
  refine ifE (fun hin => ?_) fun hin => ?_
  · have hin' : i = s.len := by omega
    rw [hva]
    refine app_own' (K := fun r2 W => K (r2, ()) W) T.ht T.hi T.hz rfl rfl T.hzs T.h0 ho ys hyl (fun j u hj => hvs W (fun _ _ => rfl) j u hj) h1 hbig (by omega) (Nat.zero_le _) fun r W' h2 h3 h4 h5 _ => hk r W' ?_ h3 h5 h4
    have : xs.length ≤ i * inf.size := by rw [hxl, hin']; exact Nat.le_refl _
    rw [List.take_of_length_le this, List.drop_eq_nil_of_le this, List.append_nil]
    exact h2
  have hlt : i < s.len := by omega
  have hn0 : s.len ≠ 0 := by omega
  obtain ⟨g, C, hsa, hg, _, hcm, hCl, hCt⟩ := own_row ho hn0
  have hsb : sblk s = [g] := by unfold sblk; rw [hsa]
  have hgv : va.block ≠ g := fun e => hne hmp _ hvb (by rw [hsb, e]; simp)
  refine ⟨(s.cap : Int), W, run_cap T.ht _ _ _, ?_⟩
  rw [w64 (by omega) (by omega)]
  have hxd : (xs.drop (i * inf.size)).length = (s.len - i) * inf.size := by rw [List.length_drop, hxl, Nat.sub_mul]
  have hxt : (xs.take (i * inf.size)).length = i * inf.size := by
    rw [List.length_take, hxl]
    exact Nat.min_eq_left (Nat.mul_le_mul_right _ hi)
  have hsx : ∀ (W' : World), (W'.heap[g]? = W.heap[g]?) → ∀ j u, (xs.drop (i * inf.size))[j]? = some u → W'.cell? ((Addr.mk g (i * inf.size) none).add j) = some u := fun W' hW j u hj => by
    rw [List.getElem?_drop] at hj
    rw [addr_add]
    have h2 := hg.cell (i * inf.size + j)
    rw [← hCt] at hj
    have h3 := take_get hj
    rw [h3] at h2
    unfold World.cell? at h2 ⊢
    rw [hW]
    exact h2
  refine ifD (fun hgrow => ?_) fun hroom => ?_
  · -- a new row
    refine ⟨by omega, by omega, by omega, ?_⟩
    have hz0 : ((0 : Int).toNat) = 0 := rfl
    have hcap0 : ¬ s.cap = (0 : Int).toNat := by rw [hz0]; omega
    rw [if_neg hcap0, hsa]
    have e0 : (Option.map (fun x => x.add ((0 : Int).toNat * inf.size)) (some (Addr.mk g 0 none))) = some ⟨g, 0, none⟩ := by simp [addr_add]
    rw [e0, w64 (by omega) (by omega)]
    have eI : ((i : Int).toNat - (0 : Int).toNat) = i := by simp
    have eC : s.cap - (0 : Int).toNat = s.cap := by simp
    rw [eI, eC]
    have eK : ((s.len : Nat) : Int) + ((v.len : Nat) : Int) - (i : Int) = ((s.len + v.len - i : Nat) : Int) := by omega
    rw [eK]
    have hold : (Builtin.firstCells inf.size i (.slice (some ⟨g, 0, none⟩) i s.cap)).run P W.drew = .ok (xs.take (i * inf.size)).toArray W.drew := by
      have := run_loadCells_list (P := P) W.drew ⟨g, 0, none⟩ (xs.take (i * inf.size)) (fun j u hj => by
        rw [addr_add, Nat.zero_add]
        have h2 := hg.cell j
        rw [← hCt, List.take_take] at hj
        have h3 := take_get hj
        rw [h3] at h2
        exact h2)
      rw [hxt] at this
      simpa [Builtin.firstCells] using this
    have hrun := Lib.run_append_grow_zeros (P := P) W t ti t e inf z .i64 .i64 T.ht T.hti T.hi T.hz (some ⟨g, 0, none⟩) i s.cap (xs.take (i * inf.size)) hold (s.len + v.len - i) (by omega) T.h0 (by omega) (by omega)
      (by have : (s.len + v.len - i) * inf.bytes ≤ (s.len + v.len) * inf.bytes := Nat.mul_le_mul_right _ (by omega); omega)
      (growslice_fits (by omega) (by rw [show i + (s.len + v.len - i) = s.len + v.len from by omega]; exact hbig))
    have eN : i + (s.len + v.len - i) = s.len + v.len := by omega
    rw [eN] at hrun
    obtain ⟨hcg, hcg2⟩ : s.len + v.len ≤ grownCap W (s.len + v.len) s.cap e ∧ grownCap W (s.len + v.len) s.cap e ≤ maxLen := ⟨grownCap_ge W _ _ e, grownCap_le_maxLen W _ _ e (by omega)⟩
    generalize grownCap W (s.len + v.len) s.cap e = nc at hrun hcg hcg2
    have hA : ((i + v.len) * inf.size) = i * inf.size + v.len * inf.size := Nat.add_mul _ _ _
    have hN : ((s.len + v.len) * inf.size) = i * inf.size + v.len * inf.size + (s.len - i) * inf.size := by rw [← Nat.add_mul, ← Nat.add_mul]; congr 1; omega
    have hle : (s.len + v.len) * inf.size ≤ nc * inf.size := Nat.mul_le_mul_right _ hcg
    generalize hD : (Builtin.zeroCells z.cells (s.len + v.len - i)).toList ++ (Builtin.zeroCells z.cells (nc - (s.len + v.len))).toList = D
    have hDl : (xs.take (i * inf.size) ++ D).length = nc * inf.size := by
      rw [← hD, List.length_append, List.length_append, zeroCells_len, zeroCells_len, hxt, T.hzs, ← Nat.add_mul, ← Nat.add_mul]
      congr 1; omega
    have hrow : RowAt (W.drew.alloc (.cells ((xs.take (i * inf.size)).toArray ++ Builtin.zeroCells z.cells (s.len + v.len - i) ++ Builtin.zeroCells z.cells (nc - (s.len + v.len))) e)) W.heap.size e (xs.take (i * inf.size) ++ D) := by
      have := heap_alloc_new W.drew (.cells ((xs.take (i * inf.size)).toArray ++ Builtin.zeroCells z.cells (s.len + v.len - i) ++ Builtin.zeroCells z.cells (nc - (s.len + v.len))) e)
      unfold RowAt
      rw [show (W.drew.heap.size) = W.heap.size from rfl] at this
      rw [this]
      congr 2
      rw [← Array.toList_inj, ← hD]
      simp
    refine ⟨⟨some ⟨W.heap.size, 0, none⟩, s.len + v.len, nc⟩, _, hrun, ?_⟩
    have kA : Keeps [] W (W.drew.alloc (.cells ((xs.take (i * inf.size)).toArray ++ Builtin.zeroCells z.cells (s.len + v.len - i) ++ Builtin.zeroCells z.cells (nc - (s.len + v.len))) e)) := (drew_keeps W []).trans (alloc_keeps W.drew _ [])
    generalize (W.drew.alloc (.cells ((xs.take (i * inf.size)).toArray ++ Builtin.zeroCells z.cells (s.len + v.len - i) ++ Builtin.zeroCells z.cells (nc - (s.len + v.len))) e)) = W1 at hrow kA
    have hvlt : ∀ b ∈ sblk v, b < W.heap.size := fun b hb => by
      unfold sblk at hb; rw [hva] at hb
      simp only [List.mem_singleton] at hb
      subst hb
      have h0 : 0 < ys.length := by rw [hyl]; exact Nat.mul_pos (by omega) T.h0
      have := hvs W (fun _ _ => rfl) 0 _ (List.getElem?_eq_getElem h0)
      have := cell_lt this
      rwa [add_block] at this
    have hglt : g < W.heap.size := hg.lt
    have hmin : v.len = Nat.min v.len (s.len + v.len - i) := by simp only [Nat.min_def]; split <;> omega
    try dsimp only
    refine slcG_some (by omega) (by omega) (by omega) (by omega) ?_
    have eq6 : (((s.len + v.len : Nat) : Int).toNat - ((i : Int)).toNat) = s.len + v.len - i := by omega
    have eo6 : 0 + ((i : Int)).toNat * inf.size = i * inf.size := by simp
    rw [eq6, eo6, hva]
    refine ⟨(v.len : Int), _, run_copy_n (P := P) T.ht T.hi hrow hmin hyl (hvs W1 fun b hb => kA.block b (hvlt b hb) (by simp)) (by rw [hDl, hyl]; omega) h1, ?_⟩
    have hrow2 := (setRow_row hrow ((xs.take (i * inf.size) ++ D).take (i * inf.size) ++ ys ++ (xs.take (i * inf.size) ++ D).drop (i * inf.size + ys.length))).drew
    have k2 := setRow_keeps W1 W.heap.size ⟨((xs.take (i * inf.size) ++ D).take (i * inf.size) ++ ys ++ (xs.take (i * inf.size) ++ D).drop (i * inf.size + ys.length))⟩
    rw [take_app hxt, drop_app_add hxt] at hrow2
    rw [take_app hxt, drop_app_add hxt] at k2
    rw [take_app hxt, drop_app_add hxt]
    have hDl2 : (xs.take (i * inf.size) ++ ys ++ D.drop ys.length).length = nc * inf.size := by
      rw [List.length_append, List.length_append, List.length_drop, hxt, ← hDl, List.length_append, hxt]
      rw [List.length_append, hxt] at hDl
      omega
    have k3 : Keeps [] W (W1.setRow W.heap.size ⟨xs.take (i * inf.size) ++ ys ++ D.drop ys.length⟩).drew := (kA.put k2 (.inr (Nat.le_refl _))).trans (drew_keeps _ [])
    unfold drwG holdG
    refine ⟨fun w => w = (W1.setRow W.heap.size ⟨xs.take (i * inf.size) ++ ys ++ D.drop ys.length⟩).drew, rfl, ?_⟩
    generalize (W1.setRow W.heap.size ⟨xs.take (i * inf.size) ++ ys ++ D.drop ys.length⟩).drew = W2 at hrow2 k3
    rw [w64 (by omega) (by omega)]
    try dsimp only
    refine slcG_some (by omega) (by omega) (by omega) (by omega) ?_
    try dsimp only
    refine slcG_some (by omega) (by omega) (by omega) (by omega) ?_
    have e1 : 0 + ((i : Int) + (v.len : Int)).toNat * inf.size = (i + v.len) * inf.size := by rw [show ((i : Int) + (v.len : Int)).toNat = i + v.len from by omega, Nat.zero_add]
    have e2 : (((s.len + v.len : Nat) : Int).toNat - ((i : Int) + (v.len : Int)).toNat) = s.len - i := by omega
    have e3 : (((s.len : Nat) : Int).toNat - ((i : Int)).toNat) = s.len - i := by omega
    rw [e1, e2, e3, eo6]
    have hAy : (xs.take (i * inf.size) ++ ys).length = (i + v.len) * inf.size := by rw [List.length_append, hxt, hyl, hA]
    refine ⟨((s.len - i : Nat) : Int), _, run_copy_n (P := P) T.ht T.hi hrow2 (by simp [Nat.min_def]) hxd (hsx W2 (k3.block g hglt (by simp))) (by rw [hDl2, hxd, hA]; omega) (fun u hu => h1x u (List.mem_of_mem_drop hu)), ?_⟩
    rw [take_app hAy]
    refine hk _ _ ?_ ((k3.put (setRow_keeps W2 W.heap.size _) (.inr (Nat.le_refl _))).nil) (fun b hb => .inr ?_) rfl
    · have := row_own (size := inf.size) (n := s.len + v.len) (cap := nc) (setRow_row hrow2 (xs.take (i * inf.size) ++ ys ++ xs.drop (i * inf.size) ++ (xs.take (i * inf.size) ++ ys ++ D.drop ys.length).drop ((i + v.len) * inf.size + (xs.drop (i * inf.size)).length))) hcg hcg2 (by
        rw [List.length_append, List.length_append, hAy, hxd, List.length_drop, hDl2]
        omega)
      rwa [take_app (by rw [List.length_append, hAy, hxd]; omega)] at this
    · simp only [sblk, List.mem_singleton] at hb
      subst hb
      exact ⟨Nat.le_refl _, by rw [setRow_size]; exact hrow2.lt⟩
  · -- there is room
    have hroom' : s.len + v.len ≤ s.cap := by omega
    have hA : ((i + v.len) * inf.size) = i * inf.size + v.len * inf.size := Nat.add_mul _ _ _
    have hN : ((s.len + v.len) * inf.size) = i * inf.size + v.len * inf.size + (s.len - i) * inf.size := by rw [← Nat.add_mul, ← Nat.add_mul]; congr 1; omega
    have hle : (s.len + v.len) * inf.size ≤ s.cap * inf.size := Nat.mul_le_mul_right _ hroom'
    rw [hsa, w64 (by omega) (by omega)]
    try dsimp only
    refine slcG_some (by omega) (by omega) (by omega) (by simp; omega) ?_
    have c1 : 0 + (0 : Int).toNat * inf.size = 0 := by simp
    have c2 : ((s.len : Int) + (v.len : Int)).toNat - (0 : Int).toNat = s.len + v.len := by simp; omega
    have c3 : s.cap - (0 : Int).toNat = s.cap := by simp
    rw [c1, c2, c3]
    try dsimp only
    refine slcG_some (by omega) (by omega) (by omega) (by omega) ?_
    have e1 : 0 + ((i : Int) + (v.len : Int)).toNat * inf.size = (i + v.len) * inf.size := by rw [show ((i : Int) + (v.len : Int)).toNat = i + v.len from by omega, Nat.zero_add]
    have e2 : (((s.len + v.len : Nat) : Int).toNat - ((i : Int) + (v.len : Int)).toNat) = s.len - i := by omega
    have eo6 : 0 + ((i : Int)).toNat * inf.size = i * inf.size := by simp
    have eq6 : (((s.len + v.len : Nat) : Int).toNat - ((i : Int)).toNat) = s.len + v.len - i := by omega
    rw [e1, e2, hva]
    have hvcell : ∃ Ca ta fa, W.heap[va.block]? = some (.cells Ca ta fa) ∧ Ca.size ≠ 0 := by
      have h0 : 0 < ys.length := by rw [hyl]; exact Nat.mul_pos (by omega) T.h0
      have := hvs W (fun _ _ => rfl) 0 _ (List.getElem?_eq_getElem h0)
      unfold World.cell? at this
      rw [add_block] at this
      split at this
      · rename_i Ca ta fa hb
        refine ⟨Ca, ta, fa, hb, fun h => ?_⟩
        split at this
        · cases this
        · have h3 := (Array.getElem?_eq_some_iff.1 this).1
          omega
      · cases this
    obtain ⟨Ca, ta, fa, hca, hca0⟩ := hvcell
    have hC0 : (⟨C⟩ : Array Value).size ≠ 0 := by
      show C.length ≠ 0
      rw [hCl]
      exact Nat.mul_ne_zero (by omega) (by have := T.h0; omega)
    refine ⟨(false, ()), W, ?_, ?_⟩
    · rw [hov, run_apart (P := P) T.ht T.hi (a := va) (b := ⟨g, (i + v.len) * inf.size, none⟩) hgv hca hg hca0 hC0]
      rfl
    refine ifNot (fun _ => ?_) fun h => by cases h
    unfold drwG holdG
    refine ⟨fun w => w = W.drew, rfl, ?_⟩
    try dsimp only
    refine slcG_some (by omega) (by omega) (by omega) (by omega) ?_
    try dsimp only
    refine slcG_some (by omega) (by omega) (by omega) (by omega) ?_
    rw [e1, e2, eo6, eq6]
    refine ⟨((s.len - i : Nat) : Int), _, run_copy_n (P := P) T.ht T.hi hg.drew (by simp only [Nat.min_def]; split <;> omega) hxd (hsx W.drew rfl) (by rw [hCl, hxd, hA]; omega) (fun u hu => h1x u (List.mem_of_mem_drop hu)), ?_⟩
    have hrow2 := setRow_row hg.drew (C.take ((i + v.len) * inf.size) ++ xs.drop (i * inf.size) ++ C.drop ((i + v.len) * inf.size + (xs.drop (i * inf.size)).length))
    have k2 : Keeps [g] W (W.drew.setRow g ⟨C.take ((i + v.len) * inf.size) ++ xs.drop (i * inf.size) ++ C.drop ((i + v.len) * inf.size + (xs.drop (i * inf.size)).length)⟩) := (drew_keeps W [g]).trans (setRow_keeps W.drew g _)
    generalize (W.drew.setRow g ⟨C.take ((i + v.len) * inf.size) ++ xs.drop (i * inf.size) ++ C.drop ((i + v.len) * inf.size + (xs.drop (i * inf.size)).length)⟩) = W2 at hrow2 k2
    have hCt1 : (C.take ((i + v.len) * inf.size)).length = (i + v.len) * inf.size := by rw [List.length_take, hCl]; omega
    try dsimp only
    refine slcG_some (by omega) (by omega) (by omega) (by omega) ?_
    rw [eo6, eq6]
    refine ⟨(v.len : Int), _, run_copy_n (P := P) T.ht T.hi hrow2 (by simp only [Nat.min_def]; split <;> omega) hyl (hvs W2 fun b hb => k2.block b ?_ ?_) (by rw [List.length_append, List.length_append, hCt1, hxd, List.length_drop, hCl, hyl]; omega) h1, ?_⟩
    · unfold sblk at hb; rw [hva] at hb
      simp only [List.mem_singleton] at hb
      subst hb
      exact (Array.getElem?_eq_some_iff.1 hca).1
    · have := hne hmp b hb
      rwa [hsb] at this
    have t1 : (C.take ((i + v.len) * inf.size) ++ xs.drop (i * inf.size) ++ C.drop ((i + v.len) * inf.size + (xs.drop (i * inf.size)).length)).take (i * inf.size) = xs.take (i * inf.size) := by
      rw [List.append_assoc, List.take_append_of_le_length (by rw [hCt1, hA]; omega), List.take_take, ← hCt, List.take_take]
      congr 1
      have : i * inf.size ≤ s.len * inf.size := Nat.mul_le_mul_right _ hi
      rw [hA, Nat.min_eq_left (by omega), Nat.min_eq_left this]
    have t2 : (C.take ((i + v.len) * inf.size) ++ xs.drop (i * inf.size) ++ C.drop ((i + v.len) * inf.size + (xs.drop (i * inf.size)).length)).drop (i * inf.size + ys.length) = xs.drop (i * inf.size) ++ C.drop ((i + v.len) * inf.size + (xs.drop (i * inf.size)).length) := by
      rw [List.append_assoc, drop_app (by rw [hCt1, hA, hyl])]
    rw [t1, t2]
    refine hk _ _ ?_ ?_ (fun b hb => .inl ?_) rfl
    · have := row_own (size := inf.size) (n := s.len + v.len) (cap := s.cap) (setRow_row hrow2 (xs.take (i * inf.size) ++ ys ++ (xs.drop (i * inf.size) ++ C.drop ((i + v.len) * inf.size + (xs.drop (i * inf.size)).length)))) hroom' hcm (by
        rw [List.length_append, List.length_append, List.length_append, hxt, hyl, hxd, List.length_drop, hCl, hA]
        omega)
      rw [← List.append_assoc] at this
      rwa [take_app (by rw [List.length_append, List.length_append, hxt, hyl, hxd]; omega), List.append_assoc (xs.take (i * inf.size) ++ ys)] at this
    · rw [hsb]; exact k2.trans (setRow_keeps W2 g _)
    · rw [hsb]; simpa [sblk] using hb
theorem del_mem {t e ti : TypeId} {sz bytes : Nat} {inf : TypeInfo} {z : Value} (T : ElemT P t e ti sz bytes inf z) {W : World} {s : Sl} {xs : List Value} {i j : Nat} (ho : OwnS W 0 e sz s xs) (hij : i ≤ j) (hj : j ≤ s.len) (h1x : ∀ u ∈ xs, u.oneCell' = true) (h63 : s.len ≤ 1000000000000) {K : Sl × Unit → World → Prop}
    (hk : ∀ r W', OwnS W' 0 e sz r (xs.take (i * sz) ++ xs.drop (j * sz)) → Keeps (sblk s) W W' → (∀ b ∈ sblk r, b ∈ sblk s) → r.len + (j - i) = s.len → K (r, ()) W') : GDel P t sz s (i : Int) (j : Int) W K := by
  have hxl := ho.len
  have hc := ho.cap
  have hmx := maxLen_eq
  have i1 := T.hsz
  have i2 := T.hby
  subst i1 i2
  have he : P.elem t = e := by simp [Program.elem, T.ht]
  have ht' : P.underlying t = some (.slice (P.elem t)) := by rw [he]; exact T.ht
  unfold GDel
  refine ⟨⟨if s.len = i then s.a else s.a.map (·.add (i * inf.size)), j - i, s.len - i⟩, W, ?_, ?_⟩
  · rw [run_sliceAt_slice W t _ _ _ _ ht', run_slice_lhm W t s.a s.len s.cap ht' .i64 .i64 .i64 i j s.len (by omega) (by omega) (by omega) (by omega), he, run_szof T.hi]
    simp
    rfl
  refine ifE (fun heq => ?_) fun hne => ?_
  · have : i = j := by omega
    subst this
    exact hk s W (by rw [List.take_append_drop]; exact ho) (Keeps.refl _ _) (fun b hb => hb) (by omega)
  have hlt : i < j := by omega
  have hn0 : s.len ≠ 0 := by omega
  obtain ⟨g, C, hsa, hg, _, hcm, hCl, hCt⟩ := own_row ho hn0
  have hsb : sblk s = [g] := by unfold sblk; rw [hsa]
  have hxd : (xs.drop (j * inf.size)).length = (s.len - j) * inf.size := by rw [List.length_drop, hxl, Nat.sub_mul]
  have hiN : i * inf.size ≤ s.len * inf.size := Nat.mul_le_mul_right _ (by omega)
  have hjN : j * inf.size ≤ s.len * inf.size := Nat.mul_le_mul_right _ hj
  have hcN : s.len * inf.size ≤ s.cap * inf.size := Nat.mul_le_mul_right _ hc
  have hijN : i * inf.size ≤ j * inf.size := Nat.mul_le_mul_right _ hij
  have hdN : (s.len - j) * inf.size = s.len * inf.size - j * inf.size := Nat.sub_mul _ _ _
  have hrN : (i + (s.len - j)) * inf.size = i * inf.size + (s.len - j) * inf.size := Nat.add_mul _ _ _
  have hxt : (xs.take (i * inf.size)).length = i * inf.size := by
    rw [List.length_take, hxl]
    exact Nat.min_eq_left hiN
  unfold drwG holdG
  refine ⟨fun w => w = W.drew, rfl, ?_⟩
  rw [hsa]
  refine slcG_some (by omega) (by omega) (by omega) (by simp; omega) ?_
  have c1 : 0 + (0 : Int).toNat * inf.size = 0 := by simp
  have c2 : ((i : Int)).toNat - (0 : Int).toNat = i := by simp
  have c3 : s.cap - (0 : Int).toNat = s.cap := by simp
  rw [c1, c2, c3]
  refine ⟨by omega, by omega, by omega, ?_⟩
  have e1 : ((s.len : Nat) : Int).toNat - ((j : Int)).toNat = s.len - j := by omega
  have ha : ∃ o, (if s.cap = ((j : Int)).toNat then some (Addr.mk g 0 none) else (some (Addr.mk g 0 none)).map (·.add (((j : Int)).toNat * inf.size))) = some ⟨g, o, none⟩ ∧ (s.len - j ≠ 0 → o = j * inf.size) := by
    split
    · exact ⟨0, rfl, fun h => by omega⟩
    · exact ⟨j * inf.size, by simp [addr_add], fun _ => rfl⟩
  obtain ⟨o, ha, ho'⟩ := ha
  rw [ha, e1]
  have hCi : C.take (i * inf.size) = xs.take (i * inf.size) := by
    rw [← hCt, List.take_take, Nat.min_eq_left hiN]
  have happ := run_append_room_n (P := P) (ty := t) (c := s.cap - ((j : Int)).toNat) (n := i) (cap := s.cap) (a := ⟨g, o, none⟩) (m := s.len - j) T.ht T.hi hg.drew (by omega) hxd (fun q u hq => by
      have hlen := (List.getElem?_eq_some_iff.1 hq).1
      rw [hxd] at hlen
      have hne0 : s.len - j ≠ 0 := fun h => by rw [h] at hlen; omega
      rw [ho' hne0, addr_add]
      rw [List.getElem?_drop] at hq
      rw [hg.drew.cell, ← hCt] at *
      exact take_get hq) (by rw [hxd, hCl]; omega) (fun u hu => h1x u (List.mem_of_mem_drop hu))
  rw [hCi] at happ
  refine ⟨⟨some ⟨g, 0, none⟩, i + (s.len - j), s.cap⟩, _, happ, ?_⟩
  have hrow2 := setRow_row hg.drew (xs.take (i * inf.size) ++ xs.drop (j * inf.size) ++ C.drop (i * inf.size + (xs.drop (j * inf.size)).length))
  have k2 : Keeps [g] W (W.drew.setRow g ⟨xs.take (i * inf.size) ++ xs.drop (j * inf.size) ++ C.drop (i * inf.size + (xs.drop (j * inf.size)).length)⟩) := (drew_keeps W [g]).trans (setRow_keeps W.drew g _)
  generalize (W.drew.setRow g ⟨xs.take (i * inf.size) ++ xs.drop (j * inf.size) ++ C.drop (i * inf.size + (xs.drop (j * inf.size)).length)⟩) = W2 at hrow2 k2
  have hl1 : (xs.take (i * inf.size) ++ xs.drop (j * inf.size)).length = (i + (s.len - j)) * inf.size := by rw [List.length_append, hxt, hxd, hrN]
  have hlC : (xs.take (i * inf.size) ++ xs.drop (j * inf.size) ++ C.drop (i * inf.size + (xs.drop (j * inf.size)).length)).length = s.cap * inf.size := by
    rw [List.length_append, hl1, List.length_drop, hxd, hCl, hrN]; omega
  dsimp only
  refine slcG_some (by omega) (by omega) (by omega) (by omega) ?_
  have e2 : 0 + ((i + (s.len - j) : Nat) : Int).toNat * inf.size = (i + (s.len - j)) * inf.size := by rw [Int.toNat_natCast, Nat.zero_add]
  have e3 : ((s.len : Nat) : Int).toNat - ((i + (s.len - j) : Nat) : Int).toNat = j - i := by omega
  rw [e2, e3]
  have hfit : (i + (s.len - j)) * inf.size + (j - i) * inf.size = s.len * inf.size := by rw [← Nat.add_mul]; congr 1; omega
  obtain ⟨D, hD, hclr⟩ := run_clear_n (P := P) (ty := 0) (n := j - i) (c := s.cap - ((i + (s.len - j) : Nat) : Int).toNat) T.ht T.hi T.hz T.hz1 (by rw [T.hzs]; exact T.h0) hrow2 (o := (i + (s.len - j)) * inf.size) (by rw [hlC, T.hzs]; omega)
  rw [T.hzs] at hD
  refine ⟨(), _, hclr, ?_⟩
  rw [take_app hl1]
  refine hk _ _ ?_ (by rw [hsb]; exact k2.trans (setRow_keeps W2 g _)) (fun b hb => by rw [hsb]; simpa [sblk] using hb) (by simp only; omega)
  have := row_own (size := inf.size) (n := i + (s.len - j)) (cap := s.cap) (setRow_row hrow2 (xs.take (i * inf.size) ++ xs.drop (j * inf.size) ++ D ++ (xs.take (i * inf.size) ++ xs.drop (j * inf.size) ++ C.drop (i * inf.size + (xs.drop (j * inf.size)).length)).drop ((i + (s.len - j)) * inf.size + D.length))) (by omega) hcm (by
    rw [List.length_append, List.length_append, hl1, List.length_drop, hlC, hD]; omega)
  have h9 : ∀ (R : List Value), (xs.take (i * inf.size) ++ xs.drop (j * inf.size) ++ D ++ R).take ((i + (s.len - j)) * inf.size) = xs.take (i * inf.size) ++ xs.drop (j * inf.size) := fun R => by rw [List.append_assoc (xs.take (i * inf.size) ++ xs.drop (j * inf.size)), take_app hl1]
  rw [h9] at this
  exact this
end
end Go.Gp
set_option linter.unusedSimpArgs false
set_option linter.unusedVariables false
namespace Go.Ga
open Go Go.Gp
theorem loop_n {V : Type} {x : V} {H : HP} {body : V → HP → (V → HP → Prop) → Prop} (n : Nat) (st : Nat → V) (P : Nat → Prop) (h0 : x = st 0) (p0 : P 0)
    (step : ∀ i C, i ≤ n → P i → (i < n → P (i + 1) → C (st (i + 1)) H) → body (st i) H C) : LoopA x H body := by
  let S : V → Nat → Prop := fun v k => ∃ i, i ≤ n ∧ P i ∧ v = st i ∧ n - i = k
  have hex : ∀ v, ∃ k, (∃ k, S v k) → S v k ∧ ∀ j, S v j → k ≤ j := fun v => by
    by_cases h : ∃ k, S v k
    · obtain ⟨k, h1, h2⟩ := least h; exact ⟨k, fun _ => ⟨h1, h2⟩⟩
    · exact ⟨0, fun h' => absurd h' h⟩
  refine ⟨fun v H' => (∃ k, S v k) ∧ H' = H, fun v _ => Classical.choose (hex v), ⟨⟨_, 0, Nat.zero_le _, p0, h0, rfl⟩, rfl⟩, ?_⟩
  rintro v H' ⟨hv, rfl⟩
  obtain ⟨⟨i, hi, hp, rfl, hk⟩, hmin⟩ := Classical.choose_spec (hex v) hv
  refine step i _ hi hp fun hlt hp' => ⟨⟨⟨_, i + 1, hlt, hp', rfl, rfl⟩, rfl⟩, ?_⟩
  have := (Classical.choose_spec (hex (st (i + 1))) ⟨_, i + 1, hlt, hp', rfl, rfl⟩).2 (n - (i + 1)) ⟨i + 1, hlt, hp', rfl, rfl⟩
  have h2 : n - (i + 1) < n - i := by omega
  rw [hk] at h2
  exact Nat.lt_of_le_of_lt this h2
theorem loop_h {V : Type} {x : V} {H : HP} {body : V → HP → (V → HP → Prop) → Prop} (n : Nat) (P : Nat → V → HP → Prop) (h0 : P 0 x H)
    (step : ∀ i v H C, i ≤ n → P i v H → (i < n → ∀ v' H', P (i + 1) v' H' → C v' H') → body v H C) : LoopA x H body := by
  let S : V × HP → Nat → Prop := fun v k => ∃ i, i ≤ n ∧ P i v.1 v.2 ∧ n - i = k
  have hex : ∀ v, ∃ k, (∃ k, S v k) → S v k ∧ ∀ j, S v j → k ≤ j := fun v => by
    by_cases h : ∃ k, S v k
    · obtain ⟨k, h1, h2⟩ := least h; exact ⟨k, fun _ => ⟨h1, h2⟩⟩
    · exact ⟨0, fun h' => absurd h' h⟩
  refine ⟨fun v H' => ∃ k, S (v, H') k, fun v H' => Classical.choose (hex (v, H')), ⟨_, 0, Nat.zero_le _, h0, rfl⟩, ?_⟩
  rintro v H' hv
  obtain ⟨⟨i, hi, hp, hk⟩, hmin⟩ := Classical.choose_spec (hex (v, H')) hv
  refine step i v H' _ hi hp fun hlt v' H'' hp' => ⟨⟨_, i + 1, hlt, hp', rfl⟩, ?_⟩
  have := (Classical.choose_spec (hex (v', H'')) ⟨_, i + 1, hlt, hp', rfl⟩).2 (n - (i + 1)) ⟨i + 1, hlt, hp', rfl⟩
  have h2 : n - (i + 1) < n - i := by omega
  rw [hk] at h2
  exact Nat.lt_of_le_of_lt this h2
theorem w1 {i : Nat} (h : i < 9223372036854775807) : IntKind.i64.wrap ((i : Int) + 1) = ((i + 1 : Nat) : Int) := by
  rw [w64 (by omega) (by omega)]; omega
theorem wI {x : Int} (h1 : -9223372036854775808 ≤ x) (h2 : x ≤ 9223372036854775807) : IntKind.i64.wrap x = x := w64 h1 h2
theorem ifT {A B : Prop} {b : Bool} (hb : b = true) (h : A) : ifB b A B := by subst hb; exact h
theorem ifF {A B : Prop} {b : Bool} (hb : b = false) (h : B) : ifB b A B := by subst hb; exact h
theorem ifLt {i : Nat} {n : Nat} {A B : Prop} (h1 : i < n → A) (h2 : n ≤ i → B) : ifB (decide ((i : Int) < (n : Int))) A B := ifD (fun h => h1 (by omega)) fun h => h2 (by omega)
theorem atA_lt {α : Type} {xs : List α} {i : Nat} {K : α → Prop} (hi : i < xs.length) (h : K xs[i]) : atA xs (i : Int) K := atA_i (List.getElem?_eq_getElem hi) h
theorem atA_g {α : Type} {xs : List α} {z : Int} {i : Nat} {x : α} {K : α → Prop} (hz : z = (i : Int)) (hi : xs[i]? = some x) (h : K x) : atA xs z K := by subst hz; exact atA_i hi h
theorem strB_eq (x y : List UInt8) : (ByteArray.toList (bys x) == ByteArray.toList (bys y)) = decide (x = y) := str_eq x y
theorem slcA_z {n : Nat} {l h : Int} {a b : Nat} {K : Nat → Nat → Prop} (hl : l = a) (hh : h = b) (h1 : a ≤ b) (h2 : b ≤ n) (hk : K a (b - a)) : slcA n l h K := by subst hl hh; exact slcA_i h1 h2 hk
theorem sub_zero {α : Type} (xs : List α) (n : Nat) : sub xs 0 n = xs.take n := by simp [sub]
theorem sub_to_end {α : Type} (xs : List α) (a : Nat) : sub xs a (xs.length - a) = xs.drop a := by
  unfold sub; rw [List.take_of_length_le (by rw [List.length_drop]; omega)]
theorem byteA_n {n : Nat} {K : UInt8 → Prop} (h : n < 256) (hk : K (UInt8.ofNat n)) : byteA (n : Int) K := ⟨by omega, by omega, by simpa using hk⟩
end Go.Ga
set_option linter.unusedSimpArgs false
set_option linter.unusedVariables false
namespace Go.Ga
open Go Go.Gp
theorem bs_of_row {I : Nat → Prop} {W : World} {s : Sl} {xs : List UInt8} (h : RowIs I W 1 (Dat I W .byte) s xs) : Bs W s xs :=
  ⟨h.len, by have := h.big; rw [maxLen_eq] at this; have := h.len; omega, fun i b hb => by
    obtain ⟨p, cs, h1, _, h2, h3, h4⟩ := h.el i b hb
    have h4 : cs = [.int .u8 b.toNat] := h4
    subst h4
    rw [Nat.mul_one] at h3
    refine ⟨p, h1, ?_⟩
    have := h3.1
    rwa [show (p.add i).add 0 = p.add i from by simp [Addr.add]] at this⟩
theorem arg_row {w : Mk} {W : World} {j : Nat} {e : AK} {r : List (Bool × AK)} {vs : List Value} {xs : List e.T} {y : HT r} (h : ArgRep w W j ((false, .row e) :: r) vs (xs, y)) : ∃ (s : Sl) (us : List Value), vs = s.val :: us ∧ RowIs (imm w) W e.sz (Dat (imm w) W e) s xs ∧ ArgRep w W (j + 1) r us y := by
  obtain ⟨v, us, rfl, h1, cs, h2, h3⟩ := h
  have h3 : cs = [v] := h3
  subst h3
  obtain ⟨s, h4, h5⟩ := h2
  injection h4 with h4
  subst h4
  exact ⟨s, us, rfl, h5, h1⟩
theorem arg_one {w : Mk} {W : World} {j : Nat} {k : K1} {r : List (Bool × AK)} {vs : List Value} {x : k.T} {y : HT r} (h : ArgRep w W j ((false, .one k) :: r) vs (x, y)) : ∃ us : List Value, vs = k.enc x :: us ∧ (k.enc x).oneCell' = true ∧ ArgRep w W (j + 1) r us y := by
  obtain ⟨v, us, rfl, h1, cs, h2, h3⟩ := h
  have h3 : cs = [v] := h3
  subst h3
  obtain ⟨h4, h5⟩ := h2
  injection h4 with h4
  subst h4
  exact ⟨us, rfl, h5, h1⟩
theorem arg_own {w : Mk} {W : World} {j : Nat} {e : AK} {t : Nat} {r : List (Bool × AK)} {vs : List Value} {xs : List e.T} {y : HT r} (h : ArgRep w W j ((false, .own e t) :: r) vs (xs, y)) : ∃ (s : Sl) (us : List Value), vs = s.val :: us ∧ OwnIs (imm w) (fun b => w b = some (.arg j)) W e t s xs ∧ ArgRep w W (j + 1) r us y := by
  obtain ⟨v, us, rfl, h1, cs, h2, h3⟩ := h
  have h3 : cs = [v] := h3
  subst h3
  obtain ⟨s, h4, h5⟩ := h2
  injection h4 with h4
  subst h4
  exact ⟨s, us, rfl, h5, h1⟩
theorem res_one {w : Mk} {W : World} {j : Nat} {k : K1} {r : List (Bool × AK)} {us : List Value} {x : k.T} {y : HT r} (hx : (k.enc x).oneCell' = true) (h : ResRep w W (j + 1) r us y) : ResRep w W j ((false, .one k) :: r) (k.enc x :: us) (x, y) :=
  ⟨_, _, rfl, h, [k.enc x], ⟨rfl, hx⟩, rfl⟩
theorem pure_bb {P : Program} {f : FuncId} {k : K1} {a b : List UInt8} {r : k.T} (hr : (k.enc r).oneCell' = true) (h : ∀ (W : World) (x y : Sl), Bs W x a → Bs W y b → callG P f [x.val, y.val] [.one k] W fun z W' => z = (r, ()) ∧ W' = W) :
    PureA P f [(false, .row .byte), (false, .row .byte)] (a, b, ()) [(false, .one k)] (r, ()) := fun H K hk w W vs hp ha => by
  obtain ⟨s1, us, rfl, h1, ha⟩ := arg_row ha
  obtain ⟨s2, us, rfl, h2, ha⟩ := arg_row ha
  have ha : us = [] := ha
  subst ha
  refine (h W s1 s2 (bs_of_row h1) (bs_of_row h2)).mono fun e W' ⟨z, he, hz, hW⟩ => ?_
  subst hz hW
  exact ⟨[k.enc r], (r, ()), H, w, he, hk, ⟨hp.wf, hp.ob, Since.refl _ _⟩, res_one hr rfl⟩
theorem keeps_same {w : Mk} {W W' : World} {S : List Nat} (hwf : ∀ b, W.heap.size ≤ b → w b = none) (hk : Keeps S W W') {τ : Tag} (hS : ∀ b ∈ S, w b ≠ some τ) : ∀ b, w b = some τ → W'.heap[b]? = W.heap[b]? := fun b hb => by
  have hlt : b < W.heap.size := Nat.lt_of_not_le fun h => by rw [hwf b h] at hb; cases hb
  exact hk.block b hlt fun hm => hS b hm hb
theorem pure_clone {P : Program} {f : FuncId} {e : AK} {t : TypeId} {xs : List e.T} (g : e.good = true) (h0 : e.sz ≠ 0)
    (h : ∀ (W : World) (s : Sl) (cs : List Value), Rs W e.sz s cs → s.len = xs.length → (s.a = none → s.len = 0 ∧ s.cap = 0) → (∀ u ∈ cs, u.oneCell' = true) → callG P f [s.val] [.one .sl] W fun z W' => OwnS W' 0 t e.sz z.1 cs ∧ z.1.len = s.len ∧ Keeps [] W W' ∧ ∀ b ∈ sblk z.1, newA W W' b) :
    PureA P f [(false, .row e)] (xs, ()) [(false, .row e)] (xs, ()) := fun H K hk w W vs hp ha => by
  obtain ⟨s, us, rfl, h1, ha⟩ := arg_row ha
  have ha : us = [] := ha
  subst ha
  obtain ⟨css, hl, hd, hall, hrs⟩ := row_cells h1
  refine (h W s css.flatten hrs h1.len h1.nil (flat_one hl hd)).mono fun e' W' ⟨z, he, ho, hzl, hkp, hnew⟩ => ?_
  have himm : Imm (imm w) (imm w) W W' := fun b hb hlt => ⟨hb, SameC.of (hkp.block b hlt (by simp))⟩
  have hsame : ∀ τ, ∀ b, w b = some τ → W'.heap[b]? = W.heap[b]? := fun τ => keeps_same hp.wf hkp (by simp)
  have own : OwnIs (imm w) (fun b => b ∈ sblk z.1) W' e t z.1 xs := ⟨⟨css, hl, fun i c x h2 h3 => (hd i c x h2 h3).imm himm g, ho⟩, by rw [hzl, h1.len], fun b => Iff.rfl⟩
  refine ⟨[z.1.val], (xs, ()), H, w, ?_, hk, ⟨fun b hb => hp.wf b (Nat.le_trans hkp.size hb), fun n => (hp.ob n).keep himm (fun b => ⟨Iff.rfl, hsame _ b⟩) fun j b => ⟨Iff.rfl, hsame _ b⟩, ⟨hkp.os, hkp.tape, hkp.output, hkp.size, fun b hb h => ⟨h, hkp.block b hb (by simp)⟩, fun b h => ⟨h, hsame _ b h⟩, fun b h => h⟩⟩, ?_⟩
  · rw [he]
    rfl
  · refine ⟨z.1.val, [], rfl, rfl, [z.1.val], ?_, rfl⟩
    exact ⟨z.1, rfl, own.freeze g h0 (Imm.refl _ _) fun b hb => ⟨hp.wf b (hnew b hb).1, SameC.of rfl⟩⟩
def resW (w : Mk) (z : Sl) : Mk := fun b => if b ∈ sblk z then some (.res 0) else match w b with
  | some (.arg 0) => none
  | τ => τ
theorem own_post {w : Mk} {W W' : World} {H : HP} {S : List Nat} {z s : Sl} (hp : Pre w W H) (hs : ∀ b, w b = some (.arg 0) ↔ b ∈ sblk s) (hkp : Keeps (sblk s) W W') (hz : ∀ b ∈ sblk z, b ∈ sblk s ∨ newA W W' b) :
    Post w W (resW w z) W' H ∧ Imm (imm w) (imm (resW w z)) W W' := by
  have hblk : ∀ b, b ∈ sblk z → w b = some (.arg 0) ∨ w b = none := fun b hb => by
    rcases hz b hb with h | h
    · exact .inl ((hs b).2 h)
    · exact .inr (hp.wf b h.1)
  have other : ∀ b τ, τ ≠ Tag.arg 0 → w b = some τ → resW w z b = some τ := fun b τ hne hb => by
    unfold resW
    rw [if_neg (fun hm => by rcases hblk b hm with h | h <;> rw [hb] at h <;> first | (cases h; done) | (injection h with h; exact hne h)), hb]
    cases τ <;> first | rfl | skip
    rename_i j
    cases j with
    | zero => exact absurd rfl hne
    | succ j => rfl
  have back : ∀ b τ, τ ≠ Tag.res 0 → resW w z b = some τ → w b = some τ := fun b τ hne hb => by
    unfold resW at hb
    split at hb
    · injection hb with hb; exact absurd hb.symm hne
    · split at hb
      · cases hb
      · exact hb
  have same : ∀ τ, τ ≠ Tag.arg 0 → ∀ b, w b = some τ → W'.heap[b]? = W.heap[b]? := fun τ hne => keeps_same hp.wf hkp fun b hb h => by
    rw [(hs b).2 hb] at h; injection h with h; exact hne h.symm
  have imm' : ∀ b, b < W.heap.size → w b = none → resW w z b = none := fun b hlt hb => by
    unfold resW
    rw [if_neg (fun hm => by
      rcases hz b hm with h | h
      · rw [(hs b).2 h] at hb; cases hb
      · have := h.1; omega), hb]
  have hblock : ∀ b, b < W.heap.size → w b = none → W'.heap[b]? = W.heap[b]? := fun b hlt hb => hkp.block b hlt fun hm => by rw [(hs b).2 hm] at hb; cases hb
  have himm : Imm (imm w) (imm (resW w z)) W W' := fun b hb hlt => ⟨imm' b hlt hb, SameC.of (hblock b hlt hb)⟩
  refine ⟨⟨fun b hb => ?_, fun n => (hp.ob n).keep himm (fun b => ⟨⟨back b _ (by simp), other b _ (by simp)⟩, same _ (by simp) b⟩) fun j b => ⟨⟨back b _ (by simp), other b _ (by simp)⟩, same _ (by simp) b⟩, ⟨hkp.os, hkp.tape, hkp.output, hkp.size, fun b hb h => ⟨imm' b hb h, hblock b hb h⟩, fun b h => ⟨other b _ (by simp) h, same _ (by simp) b h⟩, fun b h => back b _ (by simp) h⟩⟩, himm⟩
  unfold resW
  rw [if_neg (fun hm => by
    rcases hz b hm with h | h
    · have : w b = some (.arg 0) := (hs b).2 h
      rw [hp.wf b (Nat.le_trans hkp.size hb)] at this; cases this
    · have := h.2; omega), hp.wf b (Nat.le_trans hkp.size hb)]
theorem own_res {w : Mk} {W' : World} {e : AK} {t : Nat} {z : Sl} {xs : List e.T} {css : List (List Value)} (hz0 : ∀ b, w b ≠ some (.res 0)) (hl : css.length = xs.length) (hd : ∀ (i : Nat) cs x, css[i]? = some cs → xs[i]? = some x → Dat (imm (resW w z)) W' e cs x) (ho : OwnS W' 0 t e.sz z css.flatten) (hzl : z.len = xs.length) :
    ResRep (resW w z) W' 0 [(false, .own e t)] [z.val] (xs, ()) := by
  refine ⟨z.val, [], rfl, rfl, [z.val], ⟨z, rfl, ⟨css, hl, hd, ho⟩, hzl, fun b => ?_⟩, rfl⟩
  show resW w z b = some (.res 0) ↔ _
  unfold resW
  constructor
  · intro h
    split at h
    · assumption
    · split at h
      · cases h
      · exact absurd h (hz0 b)
  · intro h; rw [if_pos h]
theorem flat_drop {k : Nat} : ∀ (css : List (List Value)) (n : Nat), (∀ cs ∈ css, cs.length = k) → css.flatten.drop (n * k) = (css.drop n).flatten
  | _, 0, _ => by simp
  | [], n + 1, _ => by simp
  | c :: css, n + 1, h => by
    have hc := h c (by simp)
    rw [List.flatten_cons, List.drop_succ_cons, Nat.succ_mul, Nat.add_comm, ← flat_drop css n fun cs hcs => h cs (by simp [hcs]), ← hc, List.drop_append]
    simp
section
variable {α : Type} {D : List Value → α → Prop} {css dss : List (List Value)} {xs ys : List α}
theorem dat_app (h1 : ∀ (j : Nat) cs x, css[j]? = some cs → xs[j]? = some x → D cs x) (h2 : ∀ (j : Nat) cs x, dss[j]? = some cs → ys[j]? = some x → D cs x) (hl : css.length = xs.length) : ∀ (j : Nat) cs x, (css ++ dss)[j]? = some cs → (xs ++ ys)[j]? = some x → D cs x := fun j cs x a b => by
  rw [List.getElem?_append] at a b
  by_cases h : j < css.length
  · rw [if_pos h] at a
    rw [if_pos (by omega)] at b
    exact h1 j cs x a b
  · rw [if_neg h] at a
    rw [if_neg (by omega), ← hl] at b
    exact h2 _ cs x a b
theorem dat_take (h1 : ∀ (j : Nat) cs x, css[j]? = some cs → xs[j]? = some x → D cs x) {n : Nat} : ∀ (j : Nat) cs x, (css.take n)[j]? = some cs → (xs.take n)[j]? = some x → D cs x := fun j cs x a b => h1 j cs x (take_get a) (take_get b)
theorem dat_drop (h1 : ∀ (j : Nat) cs x, css[j]? = some cs → xs[j]? = some x → D cs x) {n : Nat} : ∀ (j : Nat) cs x, (css.drop n)[j]? = some cs → (xs.drop n)[j]? = some x → D cs x := fun j cs x a b => by
  rw [List.getElem?_drop] at a b
  exact h1 _ cs x a b
end
theorem call_ins {P : Program} {f : FuncId} {e : AK} {t : TypeId} {xs ys : List e.T} {i : Nat} (g : e.good = true) (h0 : e.sz ≠ 0) (hi : i ≤ xs.length)
    (h : ∀ (W : World) (s v : Sl) (cs ds : List Value) (K : Sl × Unit → World → Prop), OwnS W 0 t e.sz s cs → Rs W e.sz v ds → (v.a = none → v.len = 0 ∧ v.cap = 0) → (v.len ≠ 0 → ∀ b ∈ sblk v, b ∉ sblk s) → s.len = xs.length → v.len = ys.length → (∀ u ∈ ds, u.oneCell' = true) → (∀ u ∈ cs, u.oneCell' = true) →
      (∀ r W', OwnS W' 0 t e.sz r (cs.take (i * e.sz) ++ ds ++ cs.drop (i * e.sz)) → Keeps (sblk s) W W' → (∀ b ∈ sblk r, b ∈ sblk s ∨ newA W W' b) → r.len = s.len + v.len → K (r, ()) W') → callG P f [s.val, .int .i64 i, v.val] [.one .sl] W K)
    {H : HP} {K : HT [(false, .own e t)] → HP → Prop} (hk : K (xs.take i ++ ys ++ xs.drop i, ()) H) : callA P f [(false, .own e t), (false, .one (.int .i64)), (false, .row e)] (xs, (i : Int), ys, ()) [(false, .own e t)] H K := fun w W vs hp ha => by
  obtain ⟨s, us, rfl, h1, ha⟩ := arg_own ha
  obtain ⟨us, rfl, _, ha⟩ := arg_one ha
  obtain ⟨v, us, rfl, h2, ha⟩ := arg_row ha
  have ha : us = [] := ha
  subst ha
  obtain ⟨css, hl, hd, ho⟩ := h1.row
  obtain ⟨dss, hl2, hd2, hall2, hrs⟩ := row_cells h2
  have hall := dat_all_len hl hd
  refine (h W s v css.flatten dss.flatten (fun z W' => OwnS W' 0 t e.sz z.1 (css.flatten.take (i * e.sz) ++ dss.flatten ++ css.flatten.drop (i * e.sz)) ∧ Keeps (sblk s) W W' ∧ (∀ b ∈ sblk z.1, b ∈ sblk s ∨ newA W W' b) ∧ z.1.len = s.len + v.len) ho hrs h2.nil (fun hvn b hb hm => ?_) h1.len h2.len (flat_one hl2 hd2) (flat_one hl hd) fun r W' a1 a2 a3 a4 => ⟨a1, a2, a3, a4⟩).mono fun e' W' ⟨z, he, hoz, hkp, hz, hzl⟩ => ?_
  · -- they lie apart
    have hmb := (h1.tag b).2 hm
    unfold sblk at hb
    split at hb
    · rename_i p hp'
      simp only [List.mem_singleton] at hb
      subst hb
      cases hy : ys with
      | nil => rw [hy] at h2; exact hvn h2.len
      | cons y r =>
        obtain ⟨p', cs, h3, h4, _⟩ := h2.el 0 y (by rw [hy]; rfl)
        rw [hp'] at h3
        injection h3 with h3
        subst h3
        have h4 : w p.block = none := h4
        rw [hmb] at h4; cases h4
    · simp at hb
  obtain ⟨hpost, himm⟩ := own_post (S := []) (z := z.1) hp (fun b => h1.tag b) hkp hz
  refine ⟨[z.1.val], (xs.take i ++ ys ++ xs.drop i, ()), H, resW w z.1, by rw [he]; rfl, hk, hpost, ?_⟩
  have hd' : ∀ (j : Nat) cs x, css[j]? = some cs → xs[j]? = some x → Dat (imm (resW w z.1)) W' e cs x := fun j cs x a b => (hd j cs x a b).imm himm g
  have hd2' : ∀ (j : Nat) cs x, dss[j]? = some cs → ys[j]? = some x → Dat (imm (resW w z.1)) W' e cs x := fun j cs x a b => (hd2 j cs x a b).imm himm g
  refine own_res (css := css.take i ++ dss ++ css.drop i) (fun b => hp.res b 0) (by simp [hl, hl2]) (dat_app (dat_app (dat_take hd') hd2' (by simp [hl])) (dat_drop hd') (by simp [hl, hl2])) ?_ (by rw [hzl, h1.len, h2.len]; simp; omega)
  rw [List.flatten_append, List.flatten_append, ← flat_take _ _ hall, ← flat_drop _ _ hall]
  exact hoz
theorem call_del {P : Program} {f : FuncId} {e : AK} {t : TypeId} {xs : List e.T} {i j : Nat} (g : e.good = true) (h0 : e.sz ≠ 0) (hi : i ≤ j) (hj : j ≤ xs.length)
    (h : ∀ (W : World) (s : Sl) (cs : List Value) (K : Sl × Unit → World → Prop), OwnS W 0 t e.sz s cs → s.len = xs.length → (∀ u ∈ cs, u.oneCell' = true) →
      (∀ r W', OwnS W' 0 t e.sz r (cs.take (i * e.sz) ++ cs.drop (j * e.sz)) → Keeps (sblk s) W W' → (∀ b ∈ sblk r, b ∈ sblk s) → r.len + (j - i) = s.len → K (r, ()) W') → callG P f [s.val, .int .i64 i, .int .i64 j] [.one .sl] W K)
    {H : HP} {K : HT [(false, .own e t)] → HP → Prop} (hk : K (xs.take i ++ xs.drop j, ()) H) : callA P f [(false, .own e t), (false, .one (.int .i64)), (false, .one (.int .i64))] (xs, (i : Int), (j : Int), ()) [(false, .own e t)] H K := fun w W vs hp ha => by
  obtain ⟨s, us, rfl, h1, ha⟩ := arg_own ha
  obtain ⟨us, rfl, _, ha⟩ := arg_one ha
  obtain ⟨us, rfl, _, ha⟩ := arg_one ha
  have ha : us = [] := ha
  subst ha
  obtain ⟨css, hl, hd, ho⟩ := h1.row
  have hall := dat_all_len hl hd
  refine (h W s css.flatten (fun z W' => OwnS W' 0 t e.sz z.1 (css.flatten.take (i * e.sz) ++ css.flatten.drop (j * e.sz)) ∧ Keeps (sblk s) W W' ∧ (∀ b ∈ sblk z.1, b ∈ sblk s) ∧ z.1.len + (j - i) = s.len) ho h1.len (flat_one hl hd) fun r W' a1 a2 a3 a4 => ⟨a1, a2, a3, a4⟩).mono fun e' W' ⟨z, he, hoz, hkp, hz, hzl⟩ => ?_
  obtain ⟨hpost, himm⟩ := own_post (S := []) (z := z.1) hp (fun b => h1.tag b) hkp (fun b hb => .inl (hz b hb))
  refine ⟨[z.1.val], (xs.take i ++ xs.drop j, ()), H, resW w z.1, by rw [he]; rfl, hk, hpost, ?_⟩
  have hd' : ∀ (j : Nat) cs x, css[j]? = some cs → xs[j]? = some x → Dat (imm (resW w z.1)) W' e cs x := fun j cs x a b => (hd j cs x a b).imm himm g
  refine own_res (css := css.take i ++ css.drop j) (fun b => hp.res b 0) (by simp [hl]) (dat_app (dat_take hd') (dat_drop hd') (by simp [hl])) ?_ (by have := h1.len; simp; omega)
  rw [List.flatten_append, ← flat_take _ _ hall, ← flat_drop _ _ hall]
  exact hoz
end Go.Ga
set_option linter.unusedSimpArgs false
set_option linter.unusedVariables false
namespace Go.Ga
open Go Go.Gp
end Go.Ga
set_option linter.unusedSimpArgs false
set_option linter.unusedVariables false
namespace Go.Ga
open Go Go.Gp
def forW (w : Mk) (H : HP) : Mk := fun b => match w b with
  | some (.ob n) => (match H n with | some _ => some (.ob n) | none => none)
  | some (.oo n j) => (match H n with | some _ => some (.oo n j) | none => none)
  | t => t
theorem forW_none {w : Mk} {H : HP} {b : Nat} (h : w b = none) : forW w H b = none := by unfold forW; rw [h]
theorem forW_same {w : Mk} {H : HP} {b : Nat} {t : Tag} (h1 : ∀ n, t ≠ .ob n) (h2 : ∀ n j, t ≠ .oo n j) : forW w H b = some t ↔ w b = some t := by
  unfold forW
  cases hw : w b with
  | none => simp
  | some u =>
    cases u with
    | ob n =>
      simp only
      constructor
      · intro h; split at h
        · injection h with h; exact absurd h.symm (h1 n)
        · cases h
      · intro h; injection h with h; exact absurd h.symm (h1 n)
    | oo n j =>
      simp only
      constructor
      · intro h; split at h
        · injection h with h; exact absurd h.symm (h2 n j)
        · cases h
      · intro h; injection h with h; exact absurd h.symm (h2 n j)
    | _ => simp
theorem forW_ob {w : Mk} {H : HP} {b n : Nat} : forW w H b = some (.ob n) ↔ w b = some (.ob n) ∧ (H n).isSome := by
  unfold forW
  cases hw : w b with
  | none => simp
  | some u =>
    cases u with
    | ob m =>
      simp only
      cases hm : H m with
      | none => simp; intro e; subst e; simp [hm]
      | some o => simp; intro e; subst e; simp [hm]
    | oo m j => simp only; split <;> simp
    | _ => simp
theorem forW_oo {w : Mk} {H : HP} {b n j : Nat} : forW w H b = some (.oo n j) ↔ w b = some (.oo n j) ∧ (H n).isSome := by
  unfold forW
  cases hw : w b with
  | none => simp
  | some u =>
    cases u with
    | oo m i =>
      simp only
      cases hm : H m with
      | none => simp; intro e; subst e; simp [hm]
      | some o => simp; intro e; subst e; simp [hm]
    | ob m => simp only; split <;> simp
    | _ => simp
theorem resrep_keep {w w' : Mk} {W : World} (hi : Imm (imm w) (imm w') W W) (hs : ∀ j, Same w W w' W (.res j) (.res j)) : ∀ {rs : List (Bool × AK)} {j : Nat} {us : List Value} {r : HT rs}, goodPs rs = true → ResRep w W j rs us r → ResRep w' W j rs us r
  | [], _, _, _, _, h => h
  | p :: rs, j, us, r, hg, h => by
    simp only [goodPs, Bool.and_eq_true] at hg
    obtain ⟨v, us', e, h1, cs, h2, h3⟩ := h
    exact ⟨v, us', e, resrep_keep hi hs hg.2 h1, cs, TCel.keep hi hg.1 (fun i _ _ => hs i) h2, h3⟩
theorem callA_forget {P : Program} {f : FuncId} {ps : List (Bool × AK)} {xs : HT ps} {rs : List (Bool × AK)} {H : HP} {K : HT rs → HP → Prop} (hg : goodPs rs = true)
    (h : callA P f ps xs rs H fun r H' => (∀ m, (H m).isSome → H' m = H m) ∧ K r H) : callA P f ps xs rs H K := fun w W vs hp ha => by
  refine Calls.mono (h w W vs hp ha) fun e W' ⟨us, r, H', w', h1, ⟨h2, hk⟩, hpost, hres⟩ => ?_
  have him : Imm (imm w') (imm (forW w' H)) W' W' := fun b hb _ => ⟨forW_none hb, SameC.of rfl⟩
  refine ⟨us, r, H, forW w' H, h1, hk, ⟨fun b hb => forW_none (hpost.wf b hb), fun n => ?_, ⟨hpost.since.os, hpost.since.tape, hpost.since.output, hpost.since.size, fun b hb h0 => ?_, fun b hb => ?_, fun b hb => ?_⟩⟩, ?_⟩
  · cases hn : H n with
    | none =>
      refine fun b => ⟨fun hb => ?_, fun j hb => ?_⟩
      · have := (forW_ob.1 hb).2; rw [hn] at this; cases this
      · have := (forW_oo.1 hb).2; rw [hn] at this; cases this
    | some o =>
      have := hpost.ob n
      rw [h2 n (by rw [hn]; rfl), hn] at this
      refine this.keep him (fun b => ⟨?_, fun _ => rfl⟩) fun j b => ⟨?_, fun _ => rfl⟩
      · rw [forW_ob, hn]; simp
      · rw [forW_oo, hn]; simp
  · obtain ⟨a1, a2⟩ := hpost.since.im b hb h0
    exact ⟨forW_none a1, a2⟩
  · obtain ⟨a1, a2⟩ := hpost.since.ext b hb
    exact ⟨(forW_same (by simp) (by simp)).2 a1, a2⟩
  · exact hpost.since.noext b ((forW_same (by simp) (by simp)).1 hb)
  · exact resrep_keep him (fun j b => ⟨forW_same (by simp) (by simp), fun _ => rfl⟩) hg hres
theorem pure_forget {P : Program} {f : FuncId} {ps : List (Bool × AK)} {xs : HT ps} {rs : List (Bool × AK)} {r : HT rs} (hg : goodPs rs = true)
    (h : ∀ H, callA P f ps xs rs H fun r' H' => (∀ m, (H m).isSome → H' m = H m) ∧ r' = r) : PureA P f ps xs rs r := fun H K hk =>
  callA_forget hg ((fun w W vs hp ha => Calls.mono (h H w W vs hp ha) fun e W' ⟨us, r', H', w', h1, ⟨h2, h3⟩, h4⟩ => ⟨us, r', H', w', h1, ⟨h2, by rw [h3]; exact hk⟩, h4⟩))
end Go.Ga
set_option linter.unusedSimpArgs false
set_option linter.unusedVariables false
namespace Go.Ga
open Go Go.Gp
end Go.Ga
set_option linter.unusedSimpArgs false
set_option linter.unusedVariables false
namespace Go.Ga
open Go Go.Gp
theorem hp_at (H : HP) (n : Nat) (k : AK) (x : k.T) : (H.set n k x) n = some ⟨k, x⟩ := if_pos rfl
theorem hp_ne {H : HP} {n m : Nat} {k : AK} {x : k.T} (h : m ≠ n) : (H.set n k x) m = H m := if_neg h
def HP.le (H H' : HP) : Prop := ∀ m, (H m).isSome → H' m = H m
theorem HP.le.refl (H : HP) : H.le H := fun _ _ => rfl
theorem HP.le.trans {H H' H'' : HP} (h : H.le H') (k : H'.le H'') : H.le H'' := fun m hm => by
  have := h m hm
  rw [k m (by rw [this]; exact hm), this]
theorem HP.le.get {H H' : HP} (h : H.le H') {n : Nat} {o : OB} (hn : H n = some o) : H' n = some o := by rw [h n (by rw [hn]; rfl), hn]
theorem HP.le.set {H H' : HP} (h : H.le H') {n : Nat} {k : AK} {x : k.T} : (H.set n k x).le (H'.set n k x) := fun m hm => by
  by_cases e : m = n
  · subst e; rw [hp_at, hp_at]
  · rw [hp_ne e] at hm ⊢; rw [hp_ne e]; exact h m hm
theorem ldO_r {k : AK} {n : Nat} {H : HP} {x : k.T} {K : k.T → Prop} (hn : H n = some ⟨k, x⟩) (h : K x) : ldO k n H K := ⟨x, hn, h⟩
theorem refA_r {n : Nat} {K : Nat → Prop} (h : K n) : refA (some n) K := ⟨n, rfl, h⟩
theorem retH_r {P : Program} {f : FuncId} {ps : List (Bool × AK)} {xs : HT ps} {rs : List (Bool × AK)} {H : HP} {K : HT rs → Prop} (r : HT rs) (h : ∀ K' : HT rs → HP → Prop, K' r H → callA P f ps xs rs H K') (hk : K r) : retH P f ps xs rs H K := ⟨r, h, hk⟩
structure SlAt (s : Sl) (b n : Nat) : Prop where
  at0 : s.a = some ⟨b, 0, none⟩
  len : s.len = n
  cap : n ≤ s.cap
end Go.Ga
set_option linter.unusedSimpArgs false
set_option linter.unusedVariables false
namespace Go.Ga
open Go Go.Gp
end Go.Ga
