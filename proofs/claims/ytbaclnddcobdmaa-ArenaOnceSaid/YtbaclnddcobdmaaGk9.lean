/-
  Gk9: literal rows of bytes, strings compared, the run-time's compare.
-/
import Derived.Test.YtbaclnddcobdmaaGk8
import Derived.Lib.SlBytesConst
set_option linter.unusedSimpArgs false
set_option linter.unusedVariables false
namespace Go.Gp
open Go
theorem toList_loop (bs : ByteArray) : ∀ (n i : Nat) (r : List UInt8), bs.size - i = n → ByteArray.toList.loop bs i r = r.reverse ++ bs.data.toList.drop i
  | 0, i, r, h => by
    rw [ByteArray.toList.loop, if_neg (by omega), List.drop_eq_nil_of_le (by simp only [Array.length_toList]; have : bs.size = bs.data.size := rfl; omega), List.append_nil]
  | n + 1, i, r, h => by
    have hi : i < bs.data.toList.length := by simp only [Array.length_toList]; have : bs.size = bs.data.size := rfl; omega
    rw [ByteArray.toList.loop, if_pos (by omega), toList_loop bs n (i + 1) _ (by omega), List.drop_eq_getElem_cons hi, List.reverse_cons, List.append_assoc]
    congr 2
    have : i < bs.data.size := by simpa using hi
    show [bs.get! i] ++ _ = _
    simp only [ByteArray.get!, List.singleton_append, List.cons.injEq, and_true]
    rw [getElem!_pos bs.data i this]; simp
theorem toList_bys (l : List UInt8) : ByteArray.toList (bys l) = l := by
  rw [ByteArray.toList, toList_loop _ _ 0 [] rfl]; rfl
theorem str_eq (x y : List UInt8) : (ByteArray.toList (bys x) == ByteArray.toList (bys y)) = decide (x = y) := by
  rw [toList_bys, toList_bys, Bool.eq_iff_iff]; simp
theorem Bs.none (W : World) : Bs W ⟨none, 0, 0⟩ [] := ⟨rfl, by decide, fun i b h => by simp at h⟩
/-- The new row of a literal, and its mark. -/
theorem lit_bytes {P : Program} {W : World} {t e : TypeId} {C : Array Value} {n : Nat} (ht : P.underlying t = some (.slice e)) (he : P.underlying e = some (.int .u8)) (l : List UInt8) (hC : C.toList = l.map fun b => .int .u8 b.toNat) (hn : n = l.length) (hb : l.length ≤ 9223372036854775807)
    {K : Sl → World → Prop} (hk : ∀ s W', Bs W' s l → Keeps [] W W' → K s W') :
    newG (.cells C e) W fun b W => runG' P (.val (.one .sl)) (convert t t (.slice (some (Addr.mk b 0 none)) n n)) W K := by
  refine ⟨⟨some ⟨W.heap.size, 0, none⟩, n, n⟩, _, Lib.run_convert_bytes_const (P := P) W t e C n n ht he, hk _ _ ⟨hn, hb, fun i b h => ⟨_, rfl, ?_⟩⟩ (alloc_keeps _ _ _)⟩
  have hh : (W.alloc (.cells C e (C.size, C.size + 1))).heap[W.heap.size]? = some (.cells C e (C.size, C.size + 1)) := by
    show (W.heap.push _)[W.heap.size]? = _
    simp
  rw [addr_add, Nat.zero_add]
  simp only [World.cell?, hh]
  rw [← Array.getElem?_toList, hC, List.getElem?_map, h]; rfl
theorem ext_compare {P : Program} {W : World} {g : Nat} {fn : Func} (hf : P.funcs[g]? = some fn) (h1 : (fn.name == "runtime.NumGoroutine") = false) (h2 : fn.body.isNone = true) (h3 : Extern.findNext fn = none) (h4 : Extern.find fn = some Extern.BytealgCompare.compare)
    {a b : Sl} {x y : List UInt8} (ha : Bs W a x) (hb : Bs W b y) {K : Int × Unit → World → Prop} (hk : K (cmpL x y, ()) W) :
    extG P g [.slice a.a a.len a.cap, .slice b.a b.len b.cap] [.one (.int .i64)] W K := by
  refine ⟨(cmpL x y, ()), W, ?_, hk⟩
  have hc : ∀ u v, Extern.BytealgCompare.compare ⟨[u, v]⟩ = (do pure (goInt (Extern.BytealgCompare.cmp (← Extern.Bytes.bytesOf u) (← Extern.Bytes.bytesOf v)))) := fun _ _ => rfl
  simp only [callFunc, Sem.run_bind, run_program, Result.andThen_ok, hf, h1, h2, h3, h4, Bool.false_eq_true, if_false, if_true, run_mark, hc, run_bytesOf ha, run_bytesOf hb, cmp_eq]
  rfl
/-- A slice of bytes that is read. -/
theorem bs_of {P : Program} {W : World} {n : Nat} {t e : TypeId} {s : Sl} (ht : P.underlying t = some (.slice e)) (he : P.underlying e = some (.int .u8)) (hs : P.cellsOf e = 1)
    (h : RdT P W n t [.slice s.a s.len s.cap]) : ∃ l, Bs W s l := by
  obtain ⟨h1, _, h3⟩ := rd_ints ht he hs h
  obtain ⟨a, len, cap⟩ := s
  cases a with
  | none =>
    have : len = 0 := by
      rcases Nat.eq_zero_or_pos len with h0 | h0
      · exact h0
      · obtain ⟨p, x, hp, _⟩ := h3 0 h0
        cases hp
    subst this
    exact ⟨[], rfl, by decide, fun i b h => by simp at h⟩
  | some p =>
    refine ⟨(List.range len).map fun i => UInt8.ofNat (intOf ((W.cell? (p.add i)).getD undef)).toNat, by simp, by simpa using h1, fun i b hb => ⟨p, rfl, ?_⟩⟩
    rw [List.getElem?_map] at hb
    obtain ⟨j, hj, rfl⟩ := Option.map_eq_some_iff.1 hb
    obtain ⟨hlt, rfl⟩ := List.getElem?_eq_some_iff.1 hj
    simp only [List.length_range] at hlt
    simp only [List.getElem_range]
    obtain ⟨q, x, hq, _, hc, hw⟩ := h3 i hlt
    injection hq with hq
    subst hq
    rw [hc]
    simp only [Option.getD_some, intOf]
    have hx : 0 ≤ x ∧ x < 256 := by
      have := hw
      simp only [Lit.wf, Bool.and_eq_true, decide_eq_true_eq] at this
      have h4 : IntKind.u8.min = 0 := by decide
      have h5 : IntKind.u8.max = 255 := by decide
      omega
    have : ((UInt8.ofNat x.toNat).toNat : Int) = x := by
      rw [UInt8.toNat_ofNat']
      omega
    rw [this]
end Go.Gp
