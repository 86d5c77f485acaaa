/-
  Kp: texts of ours, one behind the other: Prune1, Prune2, Prune3, Prune4, Prune5, Prune6, Prune7, Prune8.
-/
import Derived.Test.YtdglfbeddbcbpaaKx
import Derived.Test.YtdglfbeddbcbpaaKu
import Derived.Test.YtdglfbeddbcbpaaLib2
import Derived.Test.YtdglfbeddbcbpaaDprune
import Derived.Test.YtdglfbeddbcbpaaKeep
import Derived.Test.YtdglfbeddbcbpaaDprlaw
set_option linter.unusedSimpArgs false
set_option linter.unusedVariables false
namespace Go.Proofs.Ytdglfbeddbcbpaa
open Go Go.Gp Go.Ga Go.Th
theorem c_delK (xs : List (List UInt8)) (i j : Nat) (hi : i ≤ j) (hj : j ≤ xs.length) (hb : xs.length ≤ 1000000000) {H : HP} {K : HT [(false, .own (.row .byte) 23)] → HP → Prop} (hk : K (xs.take i ++ xs.drop j, ()) H) :
    callA Try.prog 113 [(false, .own (.row .byte) 23), (false, .one (.int .i64)), (false, .one (.int .i64))] (xs, (i : Int), (j : Int), ()) [(false, .own (.row .byte) 23)] H K :=
  call_del rfl (by decide) hi hj (fun W s cs K ho hsl h1 hk => by
    apply call113
    obtain ⟨inf, T⟩ := elK
    exact del_mem T ho hi (by omega) h1 (by omega) hk) hk
theorem c_delI (xs : List Int) (i j : Nat) (hi : i ≤ j) (hj : j ≤ xs.length) (hb : xs.length ≤ 1000000000) {H : HP} {K : HT [(false, .own (.one (.int .i64)) 3)] → HP → Prop} (hk : K (xs.take i ++ xs.drop j, ()) H) :
    callA Try.prog 114 [(false, .own (.one (.int .i64)) 3), (false, .one (.int .i64)), (false, .one (.int .i64))] (xs, (i : Int), (j : Int), ()) [(false, .own (.one (.int .i64)) 3)] H K :=
  call_del rfl (by decide) hi hj (fun W s cs K ho hsl h1 hk => by
    apply call114
    obtain ⟨inf, T⟩ := elI
    exact del_mem T ho hi (by omega) h1 (by omega) hk) hk
theorem ndok0 : NdOk zeroNd := ⟨by simp, by simp, by simp, by simp, by simp⟩
section
variable {H : HP} {t n u : Nat} {v : ARt} {f : Nat → Option Nd} {order many root : Int}
theorem Ar.del (ha : Ar v f u) {i : Nat} {y : Nd} (hf : f i = Option.some y) (hu : 0 < u) : Ar (v.1.set i zeroNd, v.2.1.set i false, v.2.2 ++ [(i : Int)]) (upd f i Option.none) (u - 1) := by
  obtain ⟨h1, h2⟩ := ha.some hf
  have hj := (List.getElem?_eq_some_iff.1 h2).1
  have hj2 := (List.getElem?_eq_some_iff.1 h1).1
  obtain ⟨fr, e1, e2, e3⟩ := ha.fre
  refine ⟨by simpa using ha.len, fun z hz => ?_, fun j => ?_, ⟨fr ++ [i], by simp [e1], ?_, fun q hq => ?_⟩, ?_, by simpa using ha.big⟩
  · rcases List.mem_or_eq_of_mem_set hz with h | rfl
    · exact ha.ok z h
    · exact ndok0
  · unfold upd
    by_cases e : j = i
    · subst e
      rw [if_pos rfl]
      simp only
      rw [List.getElem?_set_self hj2, if_neg (by simp)]
    · rw [if_neg e, ha.is j]; simp only; rw [List.getElem?_set_ne (fun h => e h.symm), List.getElem?_set_ne (fun h => e h.symm)]
  · refine List.nodup_append.2 ⟨e2, by simp, fun a ha' b hb => ?_⟩
    simp only [List.mem_singleton] at hb
    subst hb
    intro e
    subst e
    have := e3 a ha'
    rw [h1] at this; cases this
  · rcases List.mem_append.1 hq with hq | hq
    · by_cases e : q = i
      · subst e; simp only; rw [List.getElem?_set_self hj2]
      · simp only; rw [List.getElem?_set_ne (fun h => e h.symm)]; exact e3 q hq
    · simp only [List.mem_singleton] at hq
      subst hq
      simp only; rw [List.getElem?_set_self hj2]
  · have := ha.used
    simp only [List.length_set, List.length_append, List.length_singleton]
    omega
theorem c_free (hn : H n = some ⟨ARk, v⟩) (ha : Ar v f u) {i : Nat} {y : Nd} (hf : f i = some y) (hu : 0 < u) {K : HT [(false, .one .any)] → HP → Prop} (hk : ∀ v', Ar v' (upd f i none) (u - 1) → K (.nilIface, ()) (H.set n ARk v')) : C88 (some n) (i : Int) H K := callA88 _ _ _ _ (by
  unfold A88
  obtain ⟨h1, h2⟩ := ha.some hf
  have hd := ha.del hf hu
  have hb := ha.big
  have hus := ha.used
  have hi := ha.isA i
  have hl := ha.len
  obtain ⟨l, th, fr⟩ := v
  have hj := (List.getElem?_eq_some_iff.1 h2).1
  have hj2 := (List.getElem?_eq_some_iff.1 h1).1
  have hx := List.getElem?_eq_getElem hj
  dsimp only at hb hus hj hj2 hi hl
  refine retH_i _ (fun K' hk' => c_ais hn hl i K' hk') (ifNot (fun h => ?_) fun h => ?_)
  · have h : isA l th i = false := h
    rw [hi, hf] at h; cases h
  · refine refA_i (ldO_i hn (inA_i hj (elA_i hx (inA_i hj2 (elA_i h1 (appA_i (by dsimp only; omega) ?_))))))
    have := hk _ hd
    rw [← delset] at this
    exact this)
theorem c_must : S84 .nilIface () := pure84 _ fun H K hk => by
  unfold A84
  exact ⟨rfl, ifF rfl hk⟩
theorem c_size (x : Nd) : S86 x (((if x.1 = true then x.2.1.length else x.2.2.1.length : Nat) : Int), ()) := pure86 x fun H K hk => by
  unfold A86
  cases h : x.1 with
  | true =>
    rw [if_pos h] at hk
    exact ifT rfl (lenA_i fun _ => hk)
  | false =>
    rw [if_neg (by rw [h]; simp)] at hk
    exact ifF rfl (lenA_i fun _ => hk)
abbrev THk : AK := .cons .ref (.cons NOk (.cons NOk (.cons NOk (.cons (.one (.int .i64)) (.cons (.one (.int .i64)) (.cons (.one (.int .i64)) (.one (.int .i64))))))))
abbrev TLk : AK := .cons .ref (.cons NDk (.cons NDk (.cons NDk (.cons (.one (.int .i64)) (.cons (.one (.int .i64)) (.cons (.one (.int .i64)) (.one (.int .i64))))))))
abbrev TQk : AK := .cons .ref (.cons NOk (.cons NDk (.cons NOk (.cons (.one (.int .i64)) (.cons (.one (.int .i64)) (.cons (.one (.int .i64)) (.one (.int .i64))))))))
abbrev TPk : AK := .cons .ref (.cons NOk (.cons NOk (.cons NDk (.cons (.one (.int .i64)) (.cons (.one (.int .i64)) (.cons (.one (.int .i64)) (.one (.int .i64))))))))
theorem c_of (ht : H t = some ⟨TRk, (some n, root, order, many)⟩) (hn : H n = some ⟨ARk, v⟩) (ha : Ar v f u) {iu ia ib at0 : Nat} {xu xa xb : Nd} (hu : f iu = some xu) (hat : xu.2.2.2.1[at0]? = some (ia : Int)) (hat2 : xu.2.2.2.1[at0 + 1]? = some (ib : Int)) (h1 : f ia = some xa) (h2 : f ib = some xb)
    {K : HT [(false, .ref)] → HP → Prop} (hk : ∀ x, H x = none → K (some x, ()) (H.set x THk (some t, xu, xa, xb, (at0 : Int), (iu : Int), (ia : Int), (ib : Int)))) : C102 (some t) (iu : Int) (at0 : Int) H K := callA102 _ _ _ _ _ (by
  unfold A102
  have hlt := (List.getElem?_eq_some_iff.1 hat).1
  have hlt2 := (List.getElem?_eq_some_iff.1 hat2).1
  have hkb := (ha.ndok hu).kids
  refine refA_i (ldO_i ht (c_getO hn ha hu (inA_i hlt (elA_i hat (inA_z (i := at0 + 1) ?_ hlt2 (elA_i hat2 (refA_i (ldO_i ht (c_getO hn ha h1 (refA_i (ldO_i ht (c_getO hn ha h2 fun x hx => hk x hx))))))))))))
  rw [w64 (by omega) (by omega)]; omega)
end
end Go.Proofs.Ytdglfbeddbcbpaa
set_option linter.unusedSimpArgs false
set_option linter.unusedVariables false
namespace Go.Proofs.Ytdglfbeddbcbpaa
open Go Go.Gp Go.Ga Go.Th
theorem upd_some {f : Nat → Option Nd} {i j : Nat} {x : Nd} (h : ∃ y, f j = some y) : ∃ y, upd f i (some x) j = some y := by
  by_cases e : j = i
  · subst e; exact ⟨x, upd_eq _ _ _⟩
  · rw [upd_ne _ _ e]; exact h
theorem ne_XT {H : HP} {x t : Nat} {a : TLk.T} {b : TRk.T} (hx : H x = some ⟨TLk, a⟩) (ht : H t = some ⟨TRk, b⟩) : t ≠ x := fun e => by
  subst e; rw [hx] at ht; injection ht with ht; injection ht with h1; injection h1 with h1 h2; cases h2
theorem ne_XA {H : HP} {x t : Nat} {a : TLk.T} {b : ARk.T} (hx : H x = some ⟨TLk, a⟩) (ht : H t = some ⟨ARk, b⟩) : x ≠ t := fun e => by
  subst e; rw [hx] at ht; injection ht with ht; injection ht with h1; injection h1 with h1 h2; cases h1
section
variable {H : HP} {t n u x : Nat} {v : ARt} {f : Nat → Option Nd} {order many root at1 : Int} {iu ia ib : Nat}
theorem c_pset {xu xa xb : Nd} (hx : H x = some ⟨TLk, (some t, xu, xa, xb, at1, (iu : Int), (ia : Int), (ib : Int))⟩) (ht : H t = some ⟨TRk, (some n, root, order, many)⟩) (hn : H n = some ⟨ARk, v⟩) (ha : Ar v f u)
    (h1 : ∃ y, f iu = some y) (h2 : ∃ y, f ia = some y) (h3 : ∃ y, f ib = some y) (o1 : NdOk xu) (o2 : NdOk xa) (o3 : NdOk xb) {K : HT [] → HP → Prop}
    (hk : ∀ v', Ar v' (upd (upd (upd f iu (some xu)) ia (some xa)) ib (some xb)) u → K () (H.set n ARk v')) : C112 (some x) H K := callA112 _ _ _ (by
  unfold A112
  have hxt := ne_XT hx ht
  have hxn := ne_XA hx hn
  have htn := ne_TA ht hn
  obtain ⟨y1, h1⟩ := h1
  refine refA_i (ldO_i hx (refA_i (ldO_i ht (refA_i (ldO_i hx (refA_i (ldO_i hx (c_set hn ha h1 o1 fun v1 ha1 => retA_i _ c_must ?_))))))))
  have hx1 : (H.set n ARk v1) x = some ⟨TLk, (some t, xu, xa, xb, at1, (iu : Int), (ia : Int), (ib : Int))⟩ := by rw [set_ne _ _ _ hxn]; exact hx
  have ht1 : (H.set n ARk v1) t = some ⟨TRk, (some n, root, order, many)⟩ := by rw [set_ne _ _ _ htn]; exact ht
  obtain ⟨y2, h2'⟩ := upd_some (i := iu) (x := xu) h2
  refine refA_i (ldO_i hx1 (refA_i (ldO_i ht1 (refA_i (ldO_i hx1 (refA_i (ldO_i hx1 (c_set (set_eq _ _ _ _) ha1 h2' o2 fun v2 ha2 => retA_i _ c_must ?_))))))))
  rw [set_set]
  have hx2 : (H.set n ARk v2) x = some ⟨TLk, (some t, xu, xa, xb, at1, (iu : Int), (ia : Int), (ib : Int))⟩ := by rw [set_ne _ _ _ hxn]; exact hx
  have ht2 : (H.set n ARk v2) t = some ⟨TRk, (some n, root, order, many)⟩ := by rw [set_ne _ _ _ htn]; exact ht
  obtain ⟨y3, h3'⟩ := upd_some (i := ia) (x := xa) (upd_some (i := iu) (x := xu) h3)
  refine refA_i (ldO_i hx2 (refA_i (ldO_i ht2 (refA_i (ldO_i hx2 (refA_i (ldO_i hx2 (c_set (set_eq _ _ _ _) ha2 h3' o3 fun v3 ha3 => retA_i _ c_must ?_))))))))
  rw [set_set]
  exact hk v3 ha3)
theorem c_pset' {xu xa xb : Nd} (hxt : t ≠ x) (hxn : n ≠ x) (ht : H t = some ⟨TRk, (some n, root, order, many)⟩) (hn : H n = some ⟨ARk, v⟩) (ha : Ar v f u)
    (h1 : ∃ y, f iu = some y) (h2 : ∃ y, f ia = some y) (h3 : ∃ y, f ib = some y) (o1 : NdOk xu) (o2 : NdOk xa) (o3 : NdOk xb) {K : HT [] → HP → Prop}
    (hk : ∀ v' H', Ar v' (upd (upd (upd f iu (some xu)) ia (some xa)) ib (some xb)) u → Fm [n, x] H H' → H' n = some ⟨ARk, v'⟩ → H' x = some ⟨TLk, (some t, xu, xa, xb, at1, (iu : Int), (ia : Int), (ib : Int))⟩ → K () H') : C112 (some x) ((H.del x).set x TLk (some t, xu, xa, xb, at1, (iu : Int), (ia : Int), (ib : Int))) K := by
  rw [delset]
  refine c_pset (set_eq _ _ _ _) (by rw [set_ne _ _ _ hxt]; exact ht) (by rw [set_ne _ _ _ hxn]; exact hn) ha h1 h2 h3 o1 o2 o3 fun v' ha' => hk v' _ ha' ?_ (set_eq _ _ _ _) ?_
  · exact ((Fm.refl _ _).set (by simp) _ _).set (by simp) _ _
  · rw [set_ne _ _ _ hxn.symm]; exact set_eq _ _ _ _
theorem ndok_of {x : Nd} (h1 : x.2.2.2.1.length ≤ 1000000000) (h2 : x.2.1.length ≤ 1000000000) (h3 : x.2.2.1.length ≤ 1000000000) (h4 : ∀ p ∈ x.2.1, p.1.length ≤ 140737488355328 ∧ p.2.length ≤ 140737488355328) (h5 : ∀ k ∈ x.2.2.1, k.length ≤ 140737488355328) : NdOk x := ⟨h1, h2, h3, h4, h5⟩
theorem mem_set' {α : Type} {l : List α} {i : Nat} {a b : α} (h : b ∈ l.set i a) : b ∈ l ∨ b = a := List.mem_or_eq_of_mem_set h
theorem right_leaf {bu lb : Bool} {pu pa pb : List Pr} {p : Pr} {ku k1 k2 : List Key} {du d1 d2 : List Int} {nu n1 n2 : Int} {at0 : Nat}
    (hx : H x = some ⟨TQk, (some t, (bu, pu, ku, du, nu), (true, pa ++ [p], k1, d1, n1), (lb, pb, k2, d2, n2), (at0 : Int), (iu : Int), (ia : Int), (ib : Int))⟩) (hxt : t ≠ x) (hxn : n ≠ x) (ht : H t = some ⟨TRk, (some n, root, order, many)⟩) (hn : H n = some ⟨ARk, v⟩) (ha : Ar v f u)
    (h1 : f iu = some (bu, pu, ku, du, nu)) (h2 : f ia = some (true, pa ++ [p], k1, d1, n1)) (h3 : f ib = some (lb, pb, k2, d2, n2)) (hat : at0 < ku.length) (hpa : pa.length ≤ 100000) (hb : pb.length ≤ 100000) {K : HT [] → HP → Prop}
    (hk : ∀ v' H', Ar v' (upd (upd (upd f iu (some (bu, pu, ku.set at0 p.1, du, nu))) ia (some (true, pa, k1, d1, n1))) ib (some (lb, p :: pb, k2, d2, n2))) u → Fm [n, x] H H' → H' n = some ⟨ARk, v'⟩ → K () H') : C103 (some x) H K := callA103 _ _ _ (by
  unfold A103
  have o1 := ha.ndok h1
  have o2 := ha.ndok h2
  have o3 := ha.ndok h3
  have hsh := o2.short p (by simp)
  have hlen : (pa ++ [p]).length = pa.length + 1 := by simp
  refine refA_i (ldO_i hx (ifT rfl (lenA_i fun _ => ?_)))
  dsimp only
  rw [hlen, show (((pa.length + 1 : Nat) : Int) - 1) = (pa.length : Int) from by omega, w64 (by omega) (by omega)]
  refine atA_g (i := pa.length) rfl (x := p) (by simp) (slcA_z (a := 0) (b := pa.length) rfl rfl (Nat.zero_le _) (by omega) ?_)
  rw [Nat.sub_zero, sub_zero, List.take_left']
  · refine c_insP pb [p] 0 (Nat.zero_le _) (by simp; omega) (inA_i hat (elA_i (List.getElem?_eq_getElem hat) ?_))
    simp only [List.take_zero, List.nil_append, List.drop_zero, List.singleton_append]
    refine c_pset' hxt hxn ht hn ha ⟨_, h1⟩ ⟨_, h2⟩ ⟨_, h3⟩ ?_ ?_ ?_ fun v' H' ha' hf hn' _ => hk v' H' ha' hf hn'
    · exact ndok_of o1.kids o1.pairs (by simpa using o1.keys) o1.short fun k hk' => by
        rcases mem_set' hk' with h | rfl
        · exact o1.low k h
        · exact hsh.1
    · exact ndok_of o2.kids (by simp only; omega) o2.keys (fun q hq => o2.short q (by simp only at hq ⊢; simp [hq])) o2.low
    · exact ndok_of o3.kids (by simp only [List.length_cons]; omega) o3.keys (fun q hq => by
        rcases List.mem_cons.1 hq with rfl | hq
        · exact hsh
        · exact o3.short q hq) o3.low
  · rfl)
theorem right_node {bu lb : Bool} {pu pa pb : List Pr} {y k : Key} {ku ka kb : List Key} {z : Int} {du da db : List Int} {nu n1 n2 : Int} {at0 : Nat}
    (hx : H x = some ⟨TQk, (some t, (bu, pu, ku, du, nu), (false, pa, ka ++ [y], da ++ [z], n1), (lb, pb, kb, db, n2), (at0 : Int), (iu : Int), (ia : Int), (ib : Int))⟩) (hxt : t ≠ x) (hxn : n ≠ x) (ht : H t = some ⟨TRk, (some n, root, order, many)⟩) (hn : H n = some ⟨ARk, v⟩) (ha : Ar v f u)
    (h1 : f iu = some (bu, pu, ku, du, nu)) (h2 : f ia = some (false, pa, ka ++ [y], da ++ [z], n1)) (h3 : f ib = some (lb, pb, kb, db, n2)) (hat : ku[at0]? = some k) (hdl : da.length = ka.length + 1) (hpa : ka.length ≤ 100000) (hb : kb.length ≤ 100000) (hdb : db.length ≤ 100000) {K : HT [] → HP → Prop}
    (hk : ∀ v' H', Ar v' (upd (upd (upd f iu (some (bu, pu, ku.set at0 y, du, nu))) ia (some (false, pa, ka, da, n1))) ib (some (lb, pb, k :: kb, z :: db, n2))) u → Fm [n, x] H H' → H' n = some ⟨ARk, v'⟩ → K () H') : C103 (some x) H K := callA103 _ _ _ (by
  unfold A103
  have o1 := ha.ndok h1
  have o2 := ha.ndok h2
  have o3 := ha.ndok h3
  have hatl := (List.getElem?_eq_some_iff.1 hat).1
  have hlow := o1.low k (List.mem_of_getElem? hat)
  have hlen : (ka ++ [y]).length = ka.length + 1 := by simp
  have hlen2 : (da ++ [z]).length = da.length + 1 := by simp
  refine refA_i (ldO_i hx (ifF rfl (lenA_i fun _ => inA_i hatl (elA_i hat ?_))))
  dsimp only
  rw [hlen, show (((ka.length + 1 : Nat) : Int) - 1) = (ka.length : Int) from by omega, w64 (x := (ka.length : Int)) (by omega) (by omega), w64 (by omega) (by omega)]
  refine atA_g (i := da.length) (by omega) (x := z) (by simp) ?_
  refine c_insK kb [k] 0 (Nat.zero_le _) (by simp; omega) (c_insI db [z] 0 (Nat.zero_le _) (by simp; omega) (atA_g (i := ka.length) rfl (x := y) (by simp) (inA_i hatl (elA_i hat ?_))))
  refine slcA_z (a := 0) (b := ka.length) rfl rfl (Nat.zero_le _) (by omega) (slcA_z (a := 0) (b := da.length) rfl (by omega) (Nat.zero_le _) (by omega) ?_)
  rw [Nat.sub_zero, Nat.sub_zero, sub_zero, sub_zero, List.take_left' rfl, List.take_left' rfl]
  simp only [List.take_zero, List.nil_append, List.drop_zero, List.singleton_append]
  refine c_pset' hxt hxn ht hn ha ⟨_, h1⟩ ⟨_, h2⟩ ⟨_, h3⟩ ?_ ?_ ?_ fun v' H' ha' hf hn' _ => hk v' H' ha' hf hn'
  · exact ndok_of o1.kids o1.pairs (by simpa using o1.keys) o1.short fun q hq => by
      rcases mem_set' hq with h | rfl
      · exact o1.low q h
      · exact o2.low q (by simp)
  · exact ndok_of (by simp only; omega) o2.pairs (by simp only; omega) o2.short fun q hq => o2.low q (by simp only at hq ⊢; simp [hq])
  · exact ndok_of (by simp only [List.length_cons]; omega) o3.pairs (by simp only [List.length_cons]; omega) o3.short fun q hq => by
      rcases List.mem_cons.1 hq with rfl | hq
      · exact hlow
      · exact o3.low q hq)
theorem left_leaf {bu lb : Bool} {pu pa pb : List Pr} {p q : Pr} {ku k1 k2 : List Key} {du d1 d2 : List Int} {nu n1 n2 : Int} {at0 : Nat}
    (hx : H x = some ⟨TPk, (some t, (bu, pu, ku, du, nu), (true, pa, k1, d1, n1), (lb, p :: q :: pb, k2, d2, n2), (at0 : Int), (iu : Int), (ia : Int), (ib : Int))⟩) (hxt : t ≠ x) (hxn : n ≠ x) (ht : H t = some ⟨TRk, (some n, root, order, many)⟩) (hn : H n = some ⟨ARk, v⟩) (ha : Ar v f u)
    (h1 : f iu = some (bu, pu, ku, du, nu)) (h2 : f ia = some (true, pa, k1, d1, n1)) (h3 : f ib = some (lb, p :: q :: pb, k2, d2, n2)) (hat : at0 < ku.length) (hpa : pa.length ≤ 100000) {K : HT [] → HP → Prop}
    (hk : ∀ v' H', Ar v' (upd (upd (upd f iu (some (bu, pu, ku.set at0 q.1, du, nu))) ia (some (true, pa ++ [p], k1, d1, n1))) ib (some (lb, q :: pb, k2, d2, n2))) u → Fm [n, x] H H' → H' n = some ⟨ARk, v'⟩ → K () H') : C104 (some x) H K := callA104 _ _ _ (by
  unfold A104
  have o1 := ha.ndok h1
  have o2 := ha.ndok h2
  have o3 := ha.ndok h3
  refine refA_i (ldO_i hx (ifT rfl ?_))
  dsimp only
  refine atA_g (i := 0) rfl (x := p) rfl (slcA_z (a := 1) (b := (p :: q :: pb).length) rfl rfl (by simp) (Nat.le_refl _) (appA_i (by omega) ?_))
  rw [sub_to_end]
  refine atA_g (i := 0) rfl (x := q) rfl (inA_i hat (elA_i (List.getElem?_eq_getElem hat) ?_))
  refine c_pset' hxt hxn ht hn ha ⟨_, h1⟩ ⟨_, h2⟩ ⟨_, h3⟩ ?_ ?_ ?_ fun v' H' ha' hf hn' _ => hk v' H' ha' hf hn'
  · exact ndok_of o1.kids o1.pairs (by simpa using o1.keys) o1.short fun k hk' => by
      rcases mem_set' hk' with h | rfl
      · exact o1.low k h
      · exact (o3.short q (by simp)).1
  · exact ndok_of o2.kids (by simp only [List.length_append, List.length_singleton]; omega) o2.keys (fun r hr => by
      rcases List.mem_append.1 hr with hr | hr
      · exact o2.short r hr
      · rw [List.mem_singleton.1 hr]; exact o3.short p (by simp)) o2.low
  · exact ndok_of o3.kids (by have := o3.pairs; simp at this ⊢; omega) o3.keys (fun r hr => o3.short r (by
      have : r ∈ q :: pb := hr
      simp only [List.mem_cons] at this ⊢
      exact .inr this)) o3.low)
theorem left_node {bu lb : Bool} {pu pa pb : List Pr} {y k : Key} {ku ka kb : List Key} {z : Int} {du da db : List Int} {nu n1 n2 : Int} {at0 : Nat}
    (hx : H x = some ⟨TPk, (some t, (bu, pu, ku, du, nu), (false, pa, ka, da, n1), (lb, pb, y :: kb, z :: db, n2), (at0 : Int), (iu : Int), (ia : Int), (ib : Int))⟩) (hxt : t ≠ x) (hxn : n ≠ x) (ht : H t = some ⟨TRk, (some n, root, order, many)⟩) (hn : H n = some ⟨ARk, v⟩) (ha : Ar v f u)
    (h1 : f iu = some (bu, pu, ku, du, nu)) (h2 : f ia = some (false, pa, ka, da, n1)) (h3 : f ib = some (lb, pb, y :: kb, z :: db, n2)) (hat : ku[at0]? = some k) (hpa : ka.length ≤ 100000) (hda : da.length ≤ 100000) {K : HT [] → HP → Prop}
    (hk : ∀ v' H', Ar v' (upd (upd (upd f iu (some (bu, pu, ku.set at0 y, du, nu))) ia (some (false, pa, ka ++ [k], da ++ [z], n1))) ib (some (lb, pb, kb, db, n2))) u → Fm [n, x] H H' → H' n = some ⟨ARk, v'⟩ → K () H') : C104 (some x) H K := callA104 _ _ _ (by
  unfold A104
  have o1 := ha.ndok h1
  have o2 := ha.ndok h2
  have o3 := ha.ndok h3
  have hatl := (List.getElem?_eq_some_iff.1 hat).1
  have hlow := o1.low k (List.mem_of_getElem? hat)
  refine refA_i (ldO_i hx (ifF rfl (inA_i hatl (elA_i hat ?_))))
  dsimp only
  refine atA_g (i := 0) rfl (x := z) rfl (appA_i (by omega) (appA_i (by omega) (atA_g (i := 0) rfl (x := y) rfl (inA_i hatl (elA_i hat ?_)))))
  refine slcA_z (a := 1) (b := (y :: kb).length) rfl rfl (by simp) (Nat.le_refl _) (slcA_z (a := 1) (b := (z :: db).length) rfl rfl (by simp) (Nat.le_refl _) ?_)
  rw [sub_to_end, sub_to_end]
  refine c_pset' hxt hxn ht hn ha ⟨_, h1⟩ ⟨_, h2⟩ ⟨_, h3⟩ ?_ ?_ ?_ fun v' H' ha' hf hn' _ => hk v' H' ha' hf hn'
  · exact ndok_of o1.kids o1.pairs (by simpa using o1.keys) o1.short fun q hq => by
      rcases mem_set' hq with h | rfl
      · exact o1.low q h
      · exact o3.low q (by simp)
  · exact ndok_of (by simp only [List.length_append, List.length_singleton]; omega) o2.pairs (by simp only [List.length_append, List.length_singleton]; omega) o2.short fun q hq => by
      rcases List.mem_append.1 hq with hq | hq
      · exact o2.low q hq
      · rw [List.mem_singleton.1 hq]; exact hlow
  · exact ndok_of (by have := o3.kids; simp at this ⊢; omega) o3.pairs (by have := o3.keys; simp at this ⊢; omega) o3.short fun q hq => o3.low q (by
      have : q ∈ kb := hq
      simp [this]))
end
end Go.Proofs.Ytdglfbeddbcbpaa
set_option linter.unusedSimpArgs false
set_option linter.unusedVariables false
namespace Go.Proofs.Ytdglfbeddbcbpaa
open Go Go.Gp Go.Ga Go.Th
section
variable {H : HP} {t n u x : Nat} {v : ARt} {f : Nat → Option Nd} {order many root at1 : Int} {iu ia ib : Nat}
theorem merge_leaf {bu lb : Bool} {pu pa pb : List Pr} {ku k1 k2 : List Key} {du d1 d2 : List Int} {nu n1 n2 : Int} {at0 : Nat} (hu : 0 < u)
    (hx : H x = some ⟨THk, (some t, (bu, pu, ku, du, nu), (true, pa, k1, d1, n1), (lb, pb, k2, d2, n2), (at0 : Int), (iu : Int), (ia : Int), (ib : Int))⟩) (hxt : t ≠ x) (hxn : n ≠ x) (ht : H t = some ⟨TRk, (some n, root, order, many)⟩) (hn : H n = some ⟨ARk, v⟩) (ha : Ar v f u)
    (h1 : f iu = some (bu, pu, ku, du, nu)) (h2 : f ia = some (true, pa, k1, d1, n1)) (h3 : f ib = some (lb, pb, k2, d2, n2)) (hat : at0 < ku.length) (hdu : at0 + 2 ≤ du.length) (hku : ku.length ≤ 100000) (hdu2 : du.length ≤ 100000) (hpa : pa.length ≤ 100000) (hb : pb.length ≤ 100000) {K : HT [] → HP → Prop}
    (hk : ∀ v' H', Ar v' (upd (upd (upd (upd f iu (some (bu, pu, ku.take at0 ++ ku.drop (at0 + 1), du.take (at0 + 1) ++ du.drop (at0 + 2), nu))) ia (some (true, pa ++ pb, k1, d1, n2))) ib (some (lb, pb, k2, d2, n2))) ib none) (u - 1) → Fm [n, x] H H' → H' n = some ⟨ARk, v'⟩ → K () H') : C105 (some x) H K := callA105 _ _ _ (by
  unfold A105
  have o1 := ha.ndok h1
  have o2 := ha.ndok h2
  have o3 := ha.ndok h3
  have htn := ne_TA ht hn
  refine refA_i (ldO_i hx (ifT rfl (appA_i (by dsimp only; omega) ?_)))
  dsimp only
  rw [show (at0 : Int) + 1 = ((at0 + 1 : Nat) : Int) from by omega, show (at0 : Int) + 2 = ((at0 + 2 : Nat) : Int) from by omega, w64 (by omega) (by omega), w64 (by omega) (by omega)]
  refine c_delK ku at0 (at0 + 1) (by omega) (by omega) (by omega) (c_delI du (at0 + 1) (at0 + 2) (by omega) (by omega) (by omega) ?_)
  refine c_pset' hxt hxn ht hn ha ⟨_, h1⟩ ⟨_, h2⟩ ⟨_, h3⟩ ?_ ?_ ?_ fun v1 H1 ha1 hf1 hn1 hx1 => ?_
  · exact ndok_of (by simp only [List.length_append, List.length_take, List.length_drop]; omega) o1.pairs (by simp only [List.length_append, List.length_take, List.length_drop]; omega) o1.short fun q hq => o1.low q (by
      rcases List.mem_append.1 hq with hq | hq
      · exact List.mem_of_mem_take hq
      · exact List.mem_of_mem_drop hq)
  · exact ndok_of o2.kids (by simp only [List.length_append]; omega) o2.keys (fun r hr => by
      rcases List.mem_append.1 hr with hr | hr
      · exact o2.short r hr
      · exact o3.short r hr) o2.low
  · exact o3
  · have ht1 : H1 t = some ⟨TRk, (some n, root, order, many)⟩ := by rw [hf1 t (by simp [htn, hxt])]; exact ht
    refine ldO_i hx1 (refA_i (ldO_i ht1 (ldO_i hx1 (c_free hn1 ha1 (upd_eq _ _ _) hu fun v2 ha2 => retA_i _ c_must (hk v2 _ ha2 (hf1.set (by simp) _ _) (set_eq _ _ _ _))))))
    )
theorem merge_node {bu lb : Bool} {pu pa pb : List Pr} {k : Key} {ku ka kb : List Key} {du da db : List Int} {nu n1 n2 : Int} {at0 : Nat} (hu : 0 < u)
    (hx : H x = some ⟨THk, (some t, (bu, pu, ku, du, nu), (false, pa, ka, da, n1), (lb, pb, kb, db, n2), (at0 : Int), (iu : Int), (ia : Int), (ib : Int))⟩) (hxt : t ≠ x) (hxn : n ≠ x) (ht : H t = some ⟨TRk, (some n, root, order, many)⟩) (hn : H n = some ⟨ARk, v⟩) (ha : Ar v f u)
    (h1 : f iu = some (bu, pu, ku, du, nu)) (h2 : f ia = some (false, pa, ka, da, n1)) (h3 : f ib = some (lb, pb, kb, db, n2)) (hat : ku[at0]? = some k) (hdu : at0 + 2 ≤ du.length) (hku : ku.length ≤ 100000) (hdu2 : du.length ≤ 100000) (hka : ka.length ≤ 100000) (hkb : kb.length ≤ 100000) (hda : da.length ≤ 100000) (hdb : db.length ≤ 100000) {K : HT [] → HP → Prop}
    (hk : ∀ v' H', Ar v' (upd (upd (upd (upd f iu (some (bu, pu, ku.take at0 ++ ku.drop (at0 + 1), du.take (at0 + 1) ++ du.drop (at0 + 2), nu))) ia (some (false, pa, ka ++ k :: kb, da ++ db, n1))) ib (some (lb, pb, kb, db, n2))) ib none) (u - 1) → Fm [n, x] H H' → H' n = some ⟨ARk, v'⟩ → K () H') : C105 (some x) H K := callA105 _ _ _ (by
  unfold A105
  have o1 := ha.ndok h1
  have o2 := ha.ndok h2
  have o3 := ha.ndok h3
  have htn := ne_TA ht hn
  have hatl := (List.getElem?_eq_some_iff.1 hat).1
  have hlow := o1.low k (List.mem_of_getElem? hat)
  refine refA_i (ldO_i hx (ifF rfl (inA_i hatl (elA_i hat (appA_i (by dsimp only; omega) (appA_i (by dsimp only; simp only [List.length_append, List.length_singleton]; omega) (appA_i (by dsimp only; omega) ?_)))))))
  dsimp only
  rw [show (at0 : Int) + 1 = ((at0 + 1 : Nat) : Int) from by omega, show (at0 : Int) + 2 = ((at0 + 2 : Nat) : Int) from by omega, w64 (by omega) (by omega), w64 (by omega) (by omega), show ka ++ [k] ++ kb = ka ++ k :: kb from by simp]
  refine c_delK ku at0 (at0 + 1) (by omega) (by omega) (by omega) (c_delI du (at0 + 1) (at0 + 2) (by omega) (by omega) (by omega) ?_)
  refine c_pset' hxt hxn ht hn ha ⟨_, h1⟩ ⟨_, h2⟩ ⟨_, h3⟩ ?_ ?_ ?_ fun v1 H1 ha1 hf1 hn1 hx1 => ?_
  · exact ndok_of (by simp only [List.length_append, List.length_take, List.length_drop]; omega) o1.pairs (by simp only [List.length_append, List.length_take, List.length_drop]; omega) o1.short fun q hq => o1.low q (by
      rcases List.mem_append.1 hq with hq | hq
      · exact List.mem_of_mem_take hq
      · exact List.mem_of_mem_drop hq)
  · exact ndok_of (by simp only [List.length_append]; omega) o2.pairs (by simp only [List.length_append, List.length_cons]; omega) o2.short fun q hq => by
      rcases List.mem_append.1 hq with hq | hq
      · exact o2.low q hq
      · rcases List.mem_cons.1 hq with rfl | hq
        · exact hlow
        · exact o3.low q hq
  · exact o3
  · have ht1 : H1 t = some ⟨TRk, (some n, root, order, many)⟩ := by rw [hf1 t (by simp [htn, hxt])]; exact ht
    refine ldO_i hx1 (refA_i (ldO_i ht1 (ldO_i hx1 (c_free hn1 ha1 (upd_eq _ _ _) hu fun v2 ha2 => retA_i _ c_must (hk v2 _ ha2 (hf1.set (by simp) _ _) (set_eq _ _ _ _))))))
    )
def stepsI (l : List (Nat × Nat)) : List (Int × Int) := l.map fun p => ((p.1 : Int), (p.2 : Int))
theorem c_pway (ht : H t = some ⟨TRk, (some n, root, order, many)⟩) (hn : H n = some ⟨ARk, v⟩) (ha : Ar v f u) {o hh : Nat} {T : Tr hh} (hroot : root = (T.id : Int)) (hr : Rep f T) (hz : Sz o ((.top : Ctx hh hh).lo o) o T) (ho : Ord (fl T)) (hh20 : hh ≤ 1000000) (k : Key)
    {K : HT [(false, .row (.cons (.one (.int .i64)) (.one (.int .i64))))] → HP → Prop}
    (hk : ∀ (c : Ctx 0 hh) (i : Nat) (ps : List Pr), plug c (Tr.lf i ps) = T → c.Sz o → Sz o (c.lo o) o (Tr.lf i ps) → (∀ y ∈ c.l, Bel k y) → (∀ y ∈ c.r, Aft k y) → K (stepsI c.steps ++ [((i : Int), 0)], ()) H) : C83 (some t) k H K := callA83 _ _ _ _ (by
  unfold A83
  refine refA_i (ldO_i ht ?_)
  refine loop_h hh (fun i st H' => H' = H ∧ ∃ (h : Nat) (c : Ctx h hh) (s : Tr h), h + i = hh ∧ st = ((some t, k, stepsI c.steps, (s.id : Int), ()), ()) ∧ plug c s = T ∧ c.steps.length = i ∧ c.Sz o ∧ Sz o (c.lo o) o s ∧ Ord (fl s) ∧ (∀ y ∈ c.l, Bel k y) ∧ (∀ y ∈ c.r, Aft k y)) ⟨rfl, hh, .top, T, rfl, by rw [hroot]; rfl, rfl, rfl, trivial, hz, ho, fun y hy => (by simp [Ctx.l] at hy), fun y hy => (by simp [Ctx.r] at hy)⟩ ?_
  rintro i st H' C hi' ⟨rfl, h, c, s, hhi, rfl, hpl, hsl, hc, hzs, hos, hl, hr'⟩ hC
  have hrs : Rep f s := ((plug_rep c s).1 (by rw [hpl]; exact hr)).2
  dsimp only at hC ⊢
  have hlenS : (stepsI c.steps).length = i := by simp [stepsI, hsl]
  refine refA_i (ldO_i ht ?_)
  cases h with
  | zero =>
    obtain ⟨j, ps, rfl⟩ := s.ex0
    obtain ⟨ks, kd, nx, hf⟩ := rep_lf.1 hrs
    refine c_getO hn ha hf (ifNot (fun h => by cases h) fun _ => ifT rfl (appA_i (by omega) (hk c j ps hpl hc hzs hl hr')))
  | succ h =>
    obtain ⟨j, ks, l, rfl⟩ := s.exS
    obtain ⟨⟨ps, nx, hf⟩, hrk⟩ := rep_nd.1 hrs
    obtain ⟨_, _, h3, h4⟩ := sz_nd.1 hzs
    have hs : SortK ks := ord_keys (ls := l.map fl) (by rw [List.length_map]; omega) hos
    have hok := ha.ndok hf
    obtain ⟨y, fr, hy, hfill, hid, hkl, hc', hz', ho', hl', hr''⟩ := step_down hc hzs hos hl hr'
    have hlb := ubK_le ks k
    have hub := kidI_ub hs k
    have hkb : ks.length ≤ 1000000000 := hok.keys
    have hne0 : (stepsI c.steps ++ [((j : Int), ((ubK ks k : Nat) : Int))]) = stepsI (Ctx.down c fr).steps := by
      simp [stepsI, Ctx.steps, hid, hkl]
    have next : ∀ z : Int, z = (ubK ks k : Nat) → appA (stepsI c.steps).length 1 16 (atA (l.map (fun k => (k.id : Int))) z fun n13 => C ((some t, k, stepsI c.steps ++ [((j : Int), z)], n13, ()), ()) H') := by
      rintro z rfl
      refine appA_i (by omega) (atA_g (i := ubK ks k) rfl (x := (y.id : Int)) (by rw [List.getElem?_map, hy]; rfl) ?_)
      rw [hne0]
      refine hC (by omega) _ _ ⟨rfl, h, .down c fr, y, by omega, rfl, ?_, ?_, hc', hz', ho', hl', hr''⟩
      · rw [plug, hfill]; exact hpl
      · simp [Ctx.steps, hsl]
    refine c_getO hn ha hf (ifNot (fun h => by cases h) fun _ => ifF rfl (retA_i _ (c_ksearch ks k hs hkb) (JoinA_i (ifB_i (fun h => ?_) fun h => ?_))))
    · have h : hasR (asR ks) k = true := h
      have e : kidI ks k = lb (asR ks) k + 1 := by unfold kidI; rw [if_pos h]
      dsimp only
      exact next _ (by rw [w1 (by omega)]; omega)
    · have h : hasR (asR ks) k = false := h
      have e : kidI ks k = lb (asR ks) k := by unfold kidI; rw [if_neg (by rw [h]; simp)]
      dsimp only
      exact next _ (by omega))
end
end Go.Proofs.Ytdglfbeddbcbpaa
set_option linter.unusedSimpArgs false
set_option linter.unusedVariables false
namespace Go.Proofs.Ytdglfbeddbcbpaa
open Go Go.Gp Go.Ga Go.Th
theorem upd3 {f : Nat → Option Nd} {i ia ib : Nat} {X Y Z : Option Nd} (h1 : i ≠ ia) (h2 : i ≠ ib) (h3 : ia ≠ ib) : let g := upd (upd (upd f i X) ia Y) ib Z
    g i = X ∧ g ia = Y ∧ g ib = Z ∧ ∀ j, j ≠ i → j ≠ ia → j ≠ ib → g j = f j :=
  ⟨by rw [upd_ne _ _ h2, upd_ne _ _ h1, upd_eq], by rw [upd_ne _ _ h3, upd_eq], upd_eq _ _ _, fun j a b c => by rw [upd_ne _ _ c, upd_ne _ _ b, upd_ne _ _ a]⟩
section
variable {h hh i : Nat} {ka kb : List Key} {k : Key} {A B : List (Tr h)} {a b : Tr h} {f : Nat → Option Nd} {u o : Nat} {c : Ctx (h + 1) hh}
structure Two (f : Nat → Option Nd) (u i : Nat) (ka : List Key) (k : Key) (kb : List Key) (A : List (Tr h)) (a b : Tr h) (B : List (Tr h)) : Prop where
  root : ∃ pu nu, f i = some (false, pu, ka ++ k :: kb, (A ++ a :: b :: B).map (fun k => (k.id : Int)), nu)
  rep : Rep f (Tr.nd i (ka ++ k :: kb) (A ++ a :: b :: B))
  nd : (ids (Tr.nd i (ka ++ k :: kb) (A ++ a :: b :: B))).Nodup
  ra : Rep f a
  rb : Rep f b
  na : i ≠ a.id
  nb : i ≠ b.id
  ab : a.id ≠ b.id
  nab : (ids a ++ ids b).Nodup
  out : i ∉ ids a ++ ids b
  pos : 0 < u
theorem two_of (hm : Mid f u (plug c (Tr.nd i (ka ++ k :: kb) (A ++ a :: b :: B)))) : Two f u i ka k kb A a b B := by
  have hp := plug_ids c (Tr.nd i (ka ++ k :: kb) (A ++ a :: b :: B))
  have hnd := (List.nodup_append.1 ((hp.nodup_iff).1 hm.nd)).2.1
  have hr := ((plug_rep c _).1 hm.rep).2
  obtain ⟨⟨pu, nu, h1⟩, h2⟩ := rep_nd.1 hr
  have hnd' := hnd
  rw [kids_ids] at hnd'
  obtain ⟨hni, hn2⟩ := List.nodup_cons.1 hnd'
  have hab := (List.nodup_append.1 (List.nodup_append.1 hn2).1).2.1
  have hout : i ∉ ids a ++ ids b := fun hm => hni (by simp only [List.mem_append] at hm ⊢; exact .inl (.inr hm))
  refine ⟨⟨pu, nu, h1⟩, hr, hnd, h2 a (by simp), h2 b (by simp), fun e => hout (by rw [e]; exact List.mem_append.2 (.inl (id_mem a))), fun e => hout (by rw [e]; exact List.mem_append.2 (.inr (id_mem b))), fun e => (List.nodup_append.1 hab).2.2 a.id (id_mem a) b.id (id_mem b) e, hab, hout, ?_⟩
  rw [hm.used, hp.length_eq]; simp
  omega
theorem set_mid {x y : Key} {a b : List Key} : (a ++ x :: b).set a.length y = a ++ y :: b := by
  rw [List.set_append_right _ _ (Nat.le_refl _)]; simp
theorem cut_mid {α : Type} {x : α} {a b : List α} : (a ++ x :: b).take a.length ++ (a ++ x :: b).drop (a.length + 1) = a ++ b := by
  rw [List.take_left' rfl, ← List.drop_drop, List.drop_left' rfl]; rfl
theorem cut_mid2 {α : Type} {x y : α} {a b : List α} : (a ++ x :: y :: b).take (a.length + 1) ++ (a ++ x :: y :: b).drop (a.length + 2) = a ++ x :: b := by
  have e1 : a ++ x :: y :: b = (a ++ [x]) ++ y :: b := by simp
  have e2 : (a ++ [x]).length = a.length + 1 := by simp
  rw [e1, show a.length + 2 = a.length + 1 + 1 from rfl, ← e2, cut_mid]; simp
theorem two_sz {s : Nat} {a' b' : Tr h} {k' : Key} (hl : ka.length = A.length) (hr : kb.length = B.length) (hks : ka.length + kb.length + 1 ≤ o) (hA : ∀ x ∈ A, Sz o (o / 2) o x) (hB : ∀ x ∈ B, Sz o (o / 2) o x) (ha : Sz o (o / 2) o a') (hb : Sz o (o / 2) o b') : Sz o (ka.length + kb.length) o (Tr.nd i (ka ++ k' :: kb) (A ++ a' :: b' :: B)) := by
  refine sz_nd.2 ⟨by simp only [List.length_append, List.length_cons]; omega, by simp only [List.length_append, List.length_cons]; omega, by simp only [List.length_append, List.length_cons]; omega, fun x hx => ?_⟩
  rcases List.mem_append.1 hx with hx | hx
  · exact hA x hx
  · rcases List.mem_cons.1 hx with rfl | hx
    · exact ha
    · rcases List.mem_cons.1 hx with rfl | hx
      · exact hb
      · exact hB x hx
theorem one_sz {m : Tr h} (hl : ka.length = A.length) (hr : kb.length = B.length) (hks : ka.length + kb.length + 1 ≤ o) (hA : ∀ x ∈ A, Sz o (o / 2) o x) (hB : ∀ x ∈ B, Sz o (o / 2) o x) (ha : Sz o (o / 2) o m) : Sz o (ka.length + kb.length) o (Tr.nd i (ka ++ kb) (A ++ m :: B)) := by
  refine sz_nd.2 ⟨by simp only [List.length_append]; omega, by simp only [List.length_append]; omega, by simp only [List.length_append, List.length_cons]; omega, fun x hx => ?_⟩
  rcases List.mem_append.1 hx with hx | hx
  · exact hA x hx
  · rcases List.mem_cons.1 hx with rfl | hx
    · exact ha
    · exact hB x hx
end
section
variable {H : HP} {t n u x o : Nat} {v : ARt} {f : Nat → Option Nd} {many root : Int} {h hh i : Nat} {ka kb : List Key} {k : Key} {A B : List (Tr h)} {a b : Tr h} {c : Ctx (h + 1) hh} {xu xa xb : Nd}
theorem op_right (h3 : 3 ≤ o) (h16 : o ≤ 16) (hl : ka.length = A.length) (hlr : kb.length = B.length) (hks : ka.length + kb.length + 1 ≤ o) (hA : ∀ x ∈ A, Sz o (o / 2) o x) (hB : ∀ x ∈ B, Sz o (o / 2) o x) (hza : Sz o (o / 2) o a) (hza1 : o / 2 < a.size) (hzb : Sz o (o / 2 - 1) o b) (hzb1 : b.size < o / 2) (hc : c.Sz o)
    (hx : H x = some ⟨TQk, (some t, xu, xa, xb, (A.length : Int), (i : Int), (a.id : Int), (b.id : Int))⟩) (hxu : f i = some xu) (hxa : f a.id = some xa) (hxb : f b.id = some xb) (hxt : t ≠ x) (hxn : n ≠ x) (ht : H t = some ⟨TRk, (some n, root, (o : Int), many)⟩) (hn : H n = some ⟨ARk, v⟩) (ha : Ar v f u) (hm : Mid f u (plug c (Tr.nd i (ka ++ k :: kb) (A ++ a :: b :: B))))
    {K : HT [] → HP → Prop} (hk : ∀ v' f' u' (P' : Tr (h + 1)) H', Ar v' f' u' → Mid f' u' (plug c P') → allP (plug c P') = allP (plug c (Tr.nd i (ka ++ k :: kb) (A ++ a :: b :: B))) → P'.id = i → Sz o (ka.length + kb.length) o P' → Fm [n, x] H H' → H' n = some ⟨ARk, v'⟩ → K () H') : C103 (some x) H K := by
  have T := two_of hm
  obtain ⟨pu, nu, hr⟩ := T.root
  obtain rfl := Option.some.inj (hxu.symm.trans hr)
  cases h with
  | zero =>
    obtain ⟨ia, pa, rfl⟩ := a.ex0
    obtain ⟨ib, pb, rfl⟩ := b.ex0
    obtain ⟨k1, d1, n1, fa⟩ := rep_lf.1 T.ra
    obtain ⟨k2, d2, n2, fb⟩ := rep_lf.1 T.rb
    obtain rfl := Option.some.inj (hxa.symm.trans fa)
    obtain rfl := Option.some.inj (hxb.symm.trans fb)
    obtain ⟨a1, a2⟩ := sz_lf.1 hza
    obtain ⟨b1, b2⟩ := sz_lf.1 hzb
    have hza1 : o / 2 < pa.length := hza1
    have hzb1 : pb.length < o / 2 := hzb1
    rcases List.eq_nil_or_concat pa with h0 | ⟨pa', p, h0⟩
    · rw [h0] at hza1; simp at hza1
    rw [List.concat_eq_append] at h0
    subst h0
    have hpl : (pa' ++ [p]).length = pa'.length + 1 := by simp
    rw [← hl] at hx
    refine right_leaf hx hxt hxn ht hn ha hr fa fb (by simp) (by omega) (by omega) fun v' H' ha' hf hn' => ?_
    rw [set_mid] at ha'
    obtain ⟨g1, g2, g3, g4⟩ := upd3 (f := f) (X := some (false, pu, ka ++ p.1 :: kb, (A ++ Tr.lf ia (pa' ++ [p]) :: Tr.lf ib pb :: B).map (fun k => (k.id : Int)), nu)) (Y := some (true, pa', k1, d1, n1)) (Z := some (true, p :: pb, k2, d2, n2)) T.na T.nb T.ab
    simp only [id_lf] at g1 g2 g3 g4
    have hrot := rot_leaf (k := k) (y := p) (pa := pa' ++ [p]) (pb := pb) (pa' := pa') (pb' := pb) (by simp) (fun e => by rw [e] at hza1; simp at hza1; omega) fa fb g2 g3
    have hsw := hrot.swp hl T.rep T.nd g1 fun j e1 e2 e3 => g4 j e1 (by simpa using e2) (by simpa using e3)
    obtain ⟨m1, m2⟩ := hm.swap hc hsw
    refine hk v' _ _ _ H' ha' m1 m2 rfl (two_sz (s := 0) hl hlr hks hA hB (sz_lf.2 ⟨by omega, by omega⟩) (sz_lf.2 ⟨by simp only [List.length_cons]; omega, by simp only [List.length_cons]; omega⟩)) hf hn'
  | succ h =>
    obtain ⟨ia, qa, La, rfl⟩ := a.exS
    obtain ⟨ib, qb, Lb, rfl⟩ := b.exS
    obtain ⟨⟨p1, n1, fa⟩, ka1⟩ := rep_nd.1 T.ra
    obtain ⟨⟨p2, n2, fb⟩, kb1⟩ := rep_nd.1 T.rb
    obtain rfl := Option.some.inj (hxa.symm.trans fa)
    obtain rfl := Option.some.inj (hxb.symm.trans fb)
    obtain ⟨a1, a2, a3, a4⟩ := sz_nd.1 hza
    obtain ⟨b1, b2, b3, b4⟩ := sz_nd.1 hzb
    have hza1 : o / 2 < qa.length := hza1
    have hzb1 : qb.length < o / 2 := hzb1
    rcases List.eq_nil_or_concat qa with h0 | ⟨qa', y, h0⟩
    · rw [h0] at hza1; simp at hza1
    rw [List.concat_eq_append] at h0
    subst h0
    have hpl : (qa' ++ [y]).length = qa'.length + 1 := by simp
    rcases List.eq_nil_or_concat La with h0 | ⟨La', z, h0⟩
    · rw [h0] at a3; simp at a3
    rw [List.concat_eq_append] at h0
    subst h0
    have hll : (La' ++ [z]).length = La'.length + 1 := by simp
    have hmap : (La' ++ [z]).map (fun k => (k.id : Int)) = La'.map (fun k => (k.id : Int)) ++ [(z.id : Int)] := by simp
    rw [hmap] at fa hx hxa
    rw [← hl] at hx
    refine right_node (k := k) hx hxt hxn ht hn ha hr fa fb (by simp) (by simp only [List.length_map]; omega) (by omega) (by omega) (by simp only [List.length_map]; omega) fun v' H' ha' hf hn' => ?_
    rw [set_mid] at ha'
    obtain ⟨g1, g2, g3, g4⟩ := upd3 (f := f) (X := some (false, pu, ka ++ y :: kb, (A ++ Tr.nd ia (qa' ++ [y]) (La' ++ [z]) :: Tr.nd ib qb Lb :: B).map (fun k => (k.id : Int)), nu)) (Y := some (false, p1, qa', La'.map (fun k => (k.id : Int)), n1)) (Z := some (false, p2, k :: qb, (z.id : Int) :: Lb.map (fun k => (k.id : Int)), n2)) T.na T.nb T.ab
    simp only [id_nd] at g1 g2 g3 g4
    have hs : ∀ j, j ≠ ia → j ≠ ib → j ∈ ids (Tr.nd ia (qa' ++ [y]) (La' ++ [z])) ++ ids (Tr.nd ib qb Lb) → upd (upd (upd f i (some (false, pu, ka ++ y :: kb, (A ++ Tr.nd ia (qa' ++ [y]) (La' ++ [z]) :: Tr.nd ib qb Lb :: B).map (fun k => (k.id : Int)), nu))) ia (some (false, p1, qa', La'.map (fun k => (k.id : Int)), n1))) ib (some (false, p2, k :: qb, (z.id : Int) :: Lb.map (fun k => (k.id : Int)), n2)) j = f j := fun j e1 e2 e3 => g4 j (fun e => T.out (by rw [← e]; exact e3)) e1 e2
    have hrot := rot_node (k := k) (k' := y) (ka' := qa') (kb' := k :: qb) (La' := La') (Lb' := z :: Lb) (by simp) (by simp) a3 (by omega) T.ra T.rb T.nab hs g2 (by rw [g3]; rfl)
    have hsw := hrot.swp hl T.rep T.nd g1 fun j e1 e2 e3 => g4 j e1 (fun e => e2 (by rw [e]; exact id_mem _)) (fun e => e3 (by rw [e]; exact id_mem _))
    obtain ⟨m1, m2⟩ := hm.swap hc hsw
    refine hk v' _ _ _ H' ha' m1 m2 rfl (two_sz (s := 0) hl hlr hks hA hB (sz_nd.2 ⟨by omega, by omega, by omega, fun w hw => a4 w (by simp [hw])⟩) (sz_nd.2 ⟨by simp only [List.length_cons]; omega, by simp only [List.length_cons]; omega, by simp only [List.length_cons]; omega, fun w hw => ?_⟩)) hf hn'
    rcases List.mem_cons.1 hw with rfl | hw
    · exact a4 w (by simp)
    · exact b4 w hw
end
end Go.Proofs.Ytdglfbeddbcbpaa
set_option linter.unusedSimpArgs false
set_option linter.unusedVariables false
namespace Go.Proofs.Ytdglfbeddbcbpaa
open Go Go.Gp Go.Ga Go.Th
section
variable {H : HP} {t n u x o : Nat} {v : ARt} {f : Nat → Option Nd} {many root : Int} {h hh i : Nat} {ka kb : List Key} {k : Key} {A B : List (Tr h)} {a b : Tr h} {c : Ctx (h + 1) hh} {xu xa xb : Nd}
theorem op_left (h3 : 3 ≤ o) (h16 : o ≤ 16) (hl : ka.length = A.length) (hlr : kb.length = B.length) (hks : ka.length + kb.length + 1 ≤ o) (hA : ∀ x ∈ A, Sz o (o / 2) o x) (hB : ∀ x ∈ B, Sz o (o / 2) o x) (hza : Sz o (o / 2 - 1) o a) (hza1 : a.size < o / 2) (hzb : Sz o (o / 2) o b) (hzb1 : o / 2 < b.size) (hc : c.Sz o)
    (hx : H x = some ⟨TPk, (some t, xu, xa, xb, (A.length : Int), (i : Int), (a.id : Int), (b.id : Int))⟩) (hxu : f i = some xu) (hxa : f a.id = some xa) (hxb : f b.id = some xb) (hxt : t ≠ x) (hxn : n ≠ x) (ht : H t = some ⟨TRk, (some n, root, (o : Int), many)⟩) (hn : H n = some ⟨ARk, v⟩) (ha : Ar v f u) (hm : Mid f u (plug c (Tr.nd i (ka ++ k :: kb) (A ++ a :: b :: B))))
    {K : HT [] → HP → Prop} (hk : ∀ v' f' u' (P' : Tr (h + 1)) H', Ar v' f' u' → Mid f' u' (plug c P') → allP (plug c P') = allP (plug c (Tr.nd i (ka ++ k :: kb) (A ++ a :: b :: B))) → P'.id = i → Sz o (ka.length + kb.length) o P' → Fm [n, x] H H' → H' n = some ⟨ARk, v'⟩ → K () H') : C104 (some x) H K := by
  have T := two_of hm
  obtain ⟨pu, nu, hr⟩ := T.root
  obtain rfl := Option.some.inj (hxu.symm.trans hr)
  cases h with
  | zero =>
    obtain ⟨ia, pa, rfl⟩ := a.ex0
    obtain ⟨ib, pb, rfl⟩ := b.ex0
    obtain ⟨k1, d1, n1, fa⟩ := rep_lf.1 T.ra
    obtain ⟨k2, d2, n2, fb⟩ := rep_lf.1 T.rb
    obtain rfl := Option.some.inj (hxa.symm.trans fa)
    obtain rfl := Option.some.inj (hxb.symm.trans fb)
    obtain ⟨a1, a2⟩ := sz_lf.1 hza
    obtain ⟨b1, b2⟩ := sz_lf.1 hzb
    have hza1 : pa.length < o / 2 := hza1
    have hzb1 : o / 2 < pb.length := hzb1
    obtain ⟨p, q, pb', rfl⟩ : ∃ p q pb', pb = p :: q :: pb' := by
      match pb, hzb1 with
      | [], hb => simp at hb
      | [_], hb => simp at hb; omega
      | p :: q :: r, _ => exact ⟨p, q, r, rfl⟩
    simp only [List.length_cons] at b1 b2 hzb1
    rw [← hl] at hx
    refine left_leaf hx hxt hxn ht hn ha hr fa fb (by simp) (by omega) fun v' H' ha' hf hn' => ?_
    rw [set_mid] at ha'
    obtain ⟨g1, g2, g3, g4⟩ := upd3 (f := f) (X := some (false, pu, ka ++ q.1 :: kb, (A ++ Tr.lf ia pa :: Tr.lf ib (p :: q :: pb') :: B).map (fun k => (k.id : Int)), nu)) (Y := some (true, pa ++ [p], k1, d1, n1)) (Z := some (true, q :: pb', k2, d2, n2)) T.na T.nb T.ab
    simp only [id_lf] at g1 g2 g3 g4
    have hrot := rot_leaf (k := k) (y := q) (pa := pa) (pb := p :: q :: pb') (pa' := pa ++ [p]) (pb' := pb') (by simp) (by simp) fa fb g2 g3
    have hsw := hrot.swp hl T.rep T.nd g1 fun j e1 e2 e3 => g4 j e1 (by simpa using e2) (by simpa using e3)
    obtain ⟨m1, m2⟩ := hm.swap hc hsw
    refine hk v' _ _ _ H' ha' m1 m2 rfl (two_sz (s := 0) hl hlr hks hA hB (sz_lf.2 ⟨by simp only [List.length_append, List.length_singleton]; omega, by simp only [List.length_append, List.length_singleton]; omega⟩) (sz_lf.2 ⟨by simp only [List.length_cons]; omega, by simp only [List.length_cons]; omega⟩)) hf hn'
  | succ h =>
    obtain ⟨ia, qa, La, rfl⟩ := a.exS
    obtain ⟨ib, qb, Lb, rfl⟩ := b.exS
    obtain ⟨⟨p1, n1, fa⟩, ka1⟩ := rep_nd.1 T.ra
    obtain ⟨⟨p2, n2, fb⟩, kb1⟩ := rep_nd.1 T.rb
    obtain rfl := Option.some.inj (hxa.symm.trans fa)
    obtain rfl := Option.some.inj (hxb.symm.trans fb)
    obtain ⟨a1, a2, a3, a4⟩ := sz_nd.1 hza
    obtain ⟨b1, b2, b3, b4⟩ := sz_nd.1 hzb
    have hza1 : qa.length < o / 2 := hza1
    have hzb2 : o / 2 < qb.length := hzb1
    obtain ⟨y, qb', rfl⟩ : ∃ y qb', qb = y :: qb' := by
      cases qb with
      | nil => simp at hzb2
      | cons y q => exact ⟨y, q, rfl⟩
    obtain ⟨z, Lb', rfl⟩ : ∃ z Lb', Lb = z :: Lb' := by
      cases Lb with
      | nil => simp at b3
      | cons y q => exact ⟨y, q, rfl⟩
    simp only [List.length_cons] at b1 b2 b3 hzb2
    rw [List.map_cons] at fb hx hxb
    rw [← hl] at hx
    refine left_node (k := k) hx hxt hxn ht hn ha hr fa fb (by simp) (by omega) (by simp only [List.length_map]; omega) fun v' H' ha' hf hn' => ?_
    rw [set_mid] at ha'
    obtain ⟨g1, g2, g3, g4⟩ := upd3 (f := f) (X := some (false, pu, ka ++ y :: kb, (A ++ Tr.nd ia qa La :: Tr.nd ib (y :: qb') (z :: Lb') :: B).map (fun k => (k.id : Int)), nu)) (Y := some (false, p1, qa ++ [k], La.map (fun k => (k.id : Int)) ++ [(z.id : Int)], n1)) (Z := some (false, p2, qb', Lb'.map (fun k => (k.id : Int)), n2)) T.na T.nb T.ab
    simp only [id_nd] at g1 g2 g3 g4
    have hrot := rot_node (f' := upd (upd (upd f i (some (false, pu, ka ++ y :: kb, (A ++ Tr.nd ia qa La :: Tr.nd ib (y :: qb') (z :: Lb') :: B).map (fun k => (k.id : Int)), nu))) ia (some (false, p1, qa ++ [k], La.map (fun k => (k.id : Int)) ++ [(z.id : Int)], n1))) ib (some (false, p2, qb', Lb'.map (fun k => (k.id : Int)), n2)))
      (k := k) (k' := y) (ka' := qa ++ [k]) (kb' := qb') (La' := La ++ [z]) (Lb' := Lb') (by simp) (by simp) a3 (by simp only [List.length_append, List.length_singleton]; omega) T.ra T.rb T.nab (fun j e1 e2 e3 => g4 j (fun e => T.out (by rw [← e]; exact e3)) e1 e2) (by rw [g2, List.map_append]; rfl) g3
    have hsw := hrot.swp hl T.rep T.nd g1 fun j e1 e2 e3 => g4 j e1 (fun e => e2 (by rw [e]; exact id_mem _)) (fun e => e3 (by rw [e]; exact id_mem _))
    obtain ⟨m1, m2⟩ := hm.swap hc hsw
    refine hk v' _ _ _ H' ha' m1 m2 rfl (two_sz (s := 0) hl hlr hks hA hB (sz_nd.2 ⟨by simp only [List.length_append, List.length_singleton]; omega, by simp only [List.length_append, List.length_singleton]; omega, by simp only [List.length_append, List.length_singleton]; omega, fun w hw => ?_⟩) (sz_nd.2 ⟨by omega, by omega, by omega, fun w hw => b4 w (by simp [hw])⟩)) hf hn'
    rcases List.mem_append.1 hw with hw | hw
    · exact a4 w hw
    · rw [List.mem_singleton.1 hw]; exact b4 z (by simp)
theorem op_merge (h3 : 3 ≤ o) (h16 : o ≤ 16) (hl : ka.length = A.length) (hlr : kb.length = B.length) (hks : ka.length + kb.length + 1 ≤ o) (hA : ∀ x ∈ A, Sz o (o / 2) o x) (hB : ∀ x ∈ B, Sz o (o / 2) o x) (hza : Sz o (o / 2 - 1) o a) (hzb : Sz o (o / 2 - 1) o b) (hab : o / 2 ≤ a.size + b.size) (hab2 : a.size + b.size + 1 ≤ o) (hc : c.Sz o)
    (hx : H x = some ⟨THk, (some t, xu, xa, xb, (A.length : Int), (i : Int), (a.id : Int), (b.id : Int))⟩) (hxu : f i = some xu) (hxa : f a.id = some xa) (hxb : f b.id = some xb) (hxt : t ≠ x) (hxn : n ≠ x) (ht : H t = some ⟨TRk, (some n, root, (o : Int), many)⟩) (hn : H n = some ⟨ARk, v⟩) (ha : Ar v f u) (hm : Mid f u (plug c (Tr.nd i (ka ++ k :: kb) (A ++ a :: b :: B))))
    {K : HT [] → HP → Prop} (hk : ∀ v' f' u' (P' : Tr (h + 1)) H', Ar v' f' u' → Mid f' u' (plug c P') → allP (plug c P') = allP (plug c (Tr.nd i (ka ++ k :: kb) (A ++ a :: b :: B))) → P'.id = i → Sz o (ka.length + kb.length) o P' → Fm [n, x] H H' → H' n = some ⟨ARk, v'⟩ → K () H') : C105 (some x) H K := by
  have T := two_of hm
  obtain ⟨pu, nu, hr⟩ := T.root
  obtain rfl := Option.some.inj (hxu.symm.trans hr)
  have hck : (ka ++ k :: kb).take ka.length ++ (ka ++ k :: kb).drop (ka.length + 1) = ka ++ kb := cut_mid
  have hmA : (A.map (fun k => (k.id : Int))).length = ka.length := by simp [hl]
  have hcd : ((A ++ a :: b :: B).map (fun k => (k.id : Int))).take (ka.length + 1) ++ ((A ++ a :: b :: B).map (fun k => (k.id : Int))).drop (ka.length + 2) = (A ++ a :: B).map (fun k => (k.id : Int)) := by
    rw [← hmA]
    simp only [List.map_append, List.map_cons]
    exact cut_mid2
  have hdl : ka.length + 2 ≤ ((A ++ a :: b :: B).map (fun k => (k.id : Int))).length := by simp; omega
  have hdl2 : ((A ++ a :: b :: B).map (fun k => (k.id : Int))).length ≤ 100000 := by simp; omega
  have hkl : (ka ++ k :: kb).length ≤ 100000 := by simp; omega
  cases h with
  | zero =>
    obtain ⟨ia, pa, rfl⟩ := a.ex0
    obtain ⟨ib, pb, rfl⟩ := b.ex0
    obtain ⟨k1, d1, n1, fa⟩ := rep_lf.1 T.ra
    obtain ⟨k2, d2, n2, fb⟩ := rep_lf.1 T.rb
    obtain rfl := Option.some.inj (hxa.symm.trans fa)
    obtain rfl := Option.some.inj (hxb.symm.trans fb)
    obtain ⟨a1, a2⟩ := sz_lf.1 hza
    obtain ⟨b1, b2⟩ := sz_lf.1 hzb
    have hab : o / 2 ≤ pa.length + pb.length := hab
    have hab2 : pa.length + pb.length + 1 ≤ o := hab2
    rw [← hl] at hx
    refine merge_leaf T.pos hx hxt hxn ht hn ha hr fa fb (by simp) hdl hkl hdl2 (by omega) (by omega) fun v' H' ha' hf hn' => ?_
    rw [hck, hcd] at ha'
    obtain ⟨g1, g2, g3, g4⟩ := upd3 (f := f) (X := some (false, pu, ka ++ kb, (A ++ Tr.lf ia pa :: B).map (fun k => (k.id : Int)), nu)) (Y := some (true, pa ++ pb, k1, d1, n2)) (Z := some (true, pb, k2, d2, n2)) T.na T.nb T.ab
    have hab := T.ab
    have hnb := T.nb
    simp only [id_lf] at g1 g2 g3 g4 hab hnb
    have g2 := (upd_ne _ none hab).trans g2
    have g1 := (upd_ne _ none hnb).trans g1
    have hmrg := mrg_leaf (k := k) fa fb g2
    have hsw := hmrg.swp hl T.rep T.nd g1 fun j e1 e2 e3 => by
      have e3' : j ≠ ib := by simpa using e3
      rw [upd_ne _ _ e3']
      exact g4 j e1 (by simpa using e2) e3'
    obtain ⟨m1, m2⟩ := hm.swap hc hsw
    exact hk v' _ _ _ H' ha' m1 m2 rfl (one_sz hl hlr hks hA hB (sz_lf.2 ⟨by simp only [List.length_append]; omega, by simp only [List.length_append]; omega⟩)) hf hn'
  | succ h =>
    obtain ⟨ia, qa, La, rfl⟩ := a.exS
    obtain ⟨ib, qb, Lb, rfl⟩ := b.exS
    obtain ⟨⟨p1, n1, fa⟩, ka1⟩ := rep_nd.1 T.ra
    obtain ⟨⟨p2, n2, fb⟩, kb1⟩ := rep_nd.1 T.rb
    obtain rfl := Option.some.inj (hxa.symm.trans fa)
    obtain rfl := Option.some.inj (hxb.symm.trans fb)
    obtain ⟨a1, a2, a3, a4⟩ := sz_nd.1 hza
    obtain ⟨b1, b2, b3, b4⟩ := sz_nd.1 hzb
    have hab : o / 2 ≤ qa.length + qb.length := hab
    have hab2 : qa.length + qb.length + 1 ≤ o := hab2
    rw [← hl] at hx
    refine merge_node (k := k) T.pos hx hxt hxn ht hn ha hr fa fb (by simp) hdl hkl hdl2 (by omega) (by omega) (by simp only [List.length_map]; omega) (by simp only [List.length_map]; omega) fun v' H' ha' hf hn' => ?_
    rw [hck, hcd, ← List.map_append] at ha'
    obtain ⟨g1, g2, g3, g4⟩ := upd3 (f := f) (X := some (false, pu, ka ++ kb, (A ++ Tr.nd ia qa La :: B).map (fun k => (k.id : Int)), nu)) (Y := some (false, p1, qa ++ k :: qb, (La ++ Lb).map (fun k => (k.id : Int)), n1)) (Z := some (false, p2, qb, Lb.map (fun k => (k.id : Int)), n2)) T.na T.nb T.ab
    have hab' := T.ab
    have hnb := T.nb
    simp only [id_nd] at g1 g2 g3 g4 hab' hnb
    have g2 := (upd_ne _ none hab').trans g2
    have g1 := (upd_ne _ none hnb).trans g1
    have hmrg := mrg_node (k := k) a3 T.ra T.rb T.nab (fun j e1 e2 e3 => (upd_ne _ none e2).trans (g4 j (fun e => T.out (by rw [← e]; exact e3)) e1 e2)) g2
    have hsw := hmrg.swp hl T.rep T.nd g1 fun j e1 e2 e3 => by
      have e3' : j ≠ ib := fun e => e3 (by rw [e]; exact id_mem (Tr.nd ib qb Lb))
      rw [upd_ne _ _ e3']
      exact g4 j e1 (fun e => e2 (by rw [e]; exact id_mem (Tr.nd ia qa La))) e3'
    obtain ⟨m1, m2⟩ := hm.swap hc hsw
    refine hk v' _ _ _ H' ha' m1 m2 rfl (one_sz hl hlr hks hA hB (sz_nd.2 ⟨by simp only [List.length_append, List.length_cons]; omega, by simp only [List.length_append, List.length_cons]; omega, by simp only [List.length_append, List.length_cons]; omega, fun w hw => ?_⟩)) hf hn'
    rcases List.mem_append.1 hw with hw | hw
    · exact a4 w hw
    · exact b4 w hw
end
end Go.Proofs.Ytdglfbeddbcbpaa
set_option linter.unusedSimpArgs false
set_option linter.unusedVariables false
namespace Go.Proofs.Ytdglfbeddbcbpaa
open Go Go.Gp Go.Ga Go.Th
def FmA (n : Nat) (H H' : HP) : Prop := ∀ m, m ≠ n → (H m).isSome → H' m = H m
theorem FmA.refl (n : Nat) (H : HP) : FmA n H H := fun _ _ _ => rfl
theorem FmA.trans {n : Nat} {H H' H'' : HP} (h : FmA n H H') (k : FmA n H' H'') : FmA n H H'' := fun m h1 h2 => (k m h1 (by rw [h m h1 h2]; exact h2)).trans (h m h1 h2)
theorem del_set {H : HP} {x : Nat} (hx : H x = none) (k : AK) (y : k.T) : (H.set x k y).del x = H := by
  funext m
  unfold HP.del HP.set
  by_cases e : m = x
  · simp [e, hx]
  · simp [e]
theorem fmA_of {H H' : HP} {n x : Nat} {k : AK} {y : k.T} (hx : H x = none) (hf : Fm [n, x] (H.set x k y) H') : FmA n H H' := fun m h1 h2 => by
  have hmx : m ≠ x := fun e => by rw [e, hx] at h2; cases h2
  rw [hf m (by simp [h1, hmx]), set_ne _ _ _ hmx]
theorem nd_size {f : Nat → Option Nd} : ∀ {h : Nat} {a : Tr h}, Rep f a → ∃ xa : Nd, f a.id = some xa ∧ (if xa.1 = true then xa.2.1.length else xa.2.2.1.length) = a.size
  | 0, a, hr => by
    obtain ⟨i, ps, rfl⟩ := a.ex0
    obtain ⟨ks, kd, nx, hf⟩ := rep_lf.1 hr
    exact ⟨_, hf, rfl⟩
  | h + 1, a, hr => by
    obtain ⟨i, ks, l, rfl⟩ := a.exS
    obtain ⟨⟨ps, nx, hf⟩, _⟩ := rep_nd.1 hr
    exact ⟨_, hf, rfl⟩
theorem half2 {o : Nat} (h : o ≤ 1000000) : IntKind.i64.wrap (Int.tdiv (o : Int) 2) = ((o / 2 : Nat) : Int) := by
  have h1 : o / 2 ≤ o := Nat.div_le_self _ _
  rw [Int.tdiv_eq_ediv_of_nonneg (by omega), show ((o : Int) / 2) = ((o / 2 : Nat) : Int) from by simp]
  exact w64 (by omega) (by omega)
section
variable {H : HP} {t n u o : Nat} {v : ARt} {f : Nat → Option Nd} {many root : Int} {h hh i : Nat} {ka kb : List Key} {k : Key} {A B : List (Tr h)} {a b : Tr h} {c : Ctx (h + 1) hh}
theorem two_at (T : Two f u i ka k kb A a b B) : ∃ xu xa xb : Nd, f i = some xu ∧ f a.id = some xa ∧ f b.id = some xb ∧ xu.2.2.2.1[A.length]? = some (a.id : Int) ∧ xu.2.2.2.1[A.length + 1]? = some (b.id : Int) ∧ (if xa.1 = true then xa.2.1.length else xa.2.2.1.length) = a.size ∧ (if xb.1 = true then xb.2.1.length else xb.2.2.1.length) = b.size := by
  obtain ⟨pu, nu, hr⟩ := T.root
  obtain ⟨xa, h1, h2⟩ := nd_size T.ra
  obtain ⟨xb, h3, h4⟩ := nd_size T.rb
  exact ⟨_, xa, xb, hr, h1, h3, by simp, by simp, h2, h4⟩
theorem do_merge (h3 : 3 ≤ o) (h16 : o ≤ 16) (hl : ka.length = A.length) (hlr : kb.length = B.length) (hks : ka.length + kb.length + 1 ≤ o) (hA : ∀ x ∈ A, Sz o (o / 2) o x) (hB : ∀ x ∈ B, Sz o (o / 2) o x) (hza : Sz o (o / 2 - 1) o a) (hzb : Sz o (o / 2 - 1) o b) (hab : o / 2 ≤ a.size + b.size) (hab2 : a.size + b.size + 1 ≤ o) (hc : c.Sz o)
    (ht : H t = some ⟨TRk, (some n, root, (o : Int), many)⟩) (hn : H n = some ⟨ARk, v⟩) (ha : Ar v f u) (hm : Mid f u (plug c (Tr.nd i (ka ++ k :: kb) (A ++ a :: b :: B)))) {z : Int} (hz : z = (A.length : Int))
    {K : HT [] → HP → Prop} (hk : ∀ v' f' u' (P' : Tr (h + 1)) H', Ar v' f' u' → Mid f' u' (plug c P') → allP (plug c P') = allP (plug c (Tr.nd i (ka ++ k :: kb) (A ++ a :: b :: B))) → P'.id = i → Sz o (ka.length + kb.length) o P' → FmA n H H' → H' n = some ⟨ARk, v'⟩ → K () H') :
    callA Try.prog 102 [(false, .ref), (false, .one (.int .i64)), (false, .one (.int .i64))] (some t, (i : Int), z, ()) [(false, .ref)] H fun x7 H8 => callA Try.prog 105 [(false, .ref)] (x7.1, ()) [] H8 fun _ H9 => K () H9 := by
  subst hz
  have T := two_of hm
  obtain ⟨xu, xa, xb, f1, f2, f3, at1, at2, _, _⟩ := two_at T
  refine c_of ht hn ha f1 at1 at2 f2 f3 fun x hx => ?_
  have hxt : t ≠ x := fun e => by rw [e, hx] at ht; cases ht
  have hxn : n ≠ x := fun e => by rw [e, hx] at hn; cases hn
  exact op_merge h3 h16 hl hlr hks hA hB hza hzb hab hab2 hc (set_eq _ _ _ _) f1 f2 f3 hxt hxn (by rw [set_ne _ _ _ hxt]; exact ht) (by rw [set_ne _ _ _ hxn]; exact hn) ha hm fun v' f' u' P' H' e1 e2 e3 e4 e5 e6 e7 => hk v' f' u' P' H' e1 e2 e3 e4 e5 (fmA_of hx e6) e7
end
theorem c_mend {H : HP} {t n u o : Nat} {v : ARt} {f : Nat → Option Nd} {many root : Int} {h hh : Nat} {c : Ctx (h + 1) hh} {fr : Fr h} {s : Tr h} (h3 : 3 ≤ o) (h16 : o ≤ 16) (hc : (Ctx.down c fr).Sz o) (hz : Sz o (o / 2 - 1) o s) (hs : s.size < o / 2)
    (ht : H t = some ⟨TRk, (some n, root, (o : Int), many)⟩) (hn : H n = some ⟨ARk, v⟩) (ha : Ar v f u) (hm : Mid f u (plug c (fr.fill s)))
    {K : HT [] → HP → Prop} (hk : ∀ v' f' u' (P' : Tr (h + 1)) H', Ar v' f' u' → Mid f' u' (plug c P') → allP (plug c P') = allP (plug c (fr.fill s)) → P'.id = fr.id → Sz o (c.lo o - 1) o P' → FmA n H H' → H' n = some ⟨ARk, v'⟩ → K () H') : C87 (some t) ((fr.id : Int), (fr.kl.length : Int)) H K := callA87 _ _ _ _ (by
  unfold A87
  obtain ⟨i, kl, L, kr, R⟩ := fr
  obtain ⟨q1, q2, q3, q4, hL, hR, hc'⟩ := csz_down.1 hc
  dsimp only at q1 q2 q3 q4 hL hR hk
  have hlo : 1 ≤ c.lo o := (lo_pos c h3).resolve_right (by omega)
  have hss := hz.size
  obtain ⟨⟨pu, nu, hroot⟩, _⟩ := rep_nd.1 ((plug_rep c _).1 hm.rep).2
  dsimp only at hroot
  have hlenK : ((L ++ s :: R).map (fun k => (k.id : Int))).length = L.length + 1 + R.length := by simp; omega
  refine refA_i (ldO_i ht ⟨by decide, refA_i (ldO_i ht (c_getO hn ha hroot ?_))⟩)
  dsimp only [Fr.fill] at hm hk ⊢
  rw [half2 (by omega), hlenK]
  have sub1 : ∀ m : Nat, 0 < m → m < 1000000 → IntKind.i64.wrap ((m : Int) - 1) = ((m - 1 : Nat) : Int) := fun m h1 h2 => by rw [w64 (by omega) (by omega)]; omega
  have lefts : ∀ (b : Tr h) (B : List (Tr h)) (k : Key) (kb : List Key), R = b :: B → kr = k :: kb → ∀ M : HP → Prop, (¬ o / 2 < b.size → M H) →
      (callA Try.prog 102 [(false, .ref), (false, .one (.int .i64)), (false, .one (.int .i64))] (some t, (i : Int), (kl.length : Int), ()) [(false, .ref)] H fun x15 H16 => refA x15.1 fun i17 => ldO THk i17 H16 fun x18 => retA Try.prog 86 [(true, kNB)] (x18.2.2.2.1, ()) [(false, .one (.int .i64))] fun x19 => ifB (decide (x19.1 > ((o / 2 : Nat) : Int))) (callA Try.prog 104 [(false, .ref)] (some i17, ()) [] ((H16.del i17).set i17 TPk x18) fun _ H21 => K () H21) (M (H16.del i17))) := by
    rintro b B k kb rfl rfl M hM
    have T := two_of (ka := kl) (A := L) (a := s) hm
    obtain ⟨xu, xa, xb, f1, f2, f3, at1, at2, _, sz2⟩ := two_at T
    rw [q3]
    refine c_of ht hn ha f1 at1 at2 f2 f3 fun x hx => refA_i (ldO_i (set_eq _ _ _ _) (retA_i _ (c_size _) ?_))
    dsimp only
    rw [sz2]
    have hxt : t ≠ x := fun e => by rw [e, hx] at ht; cases ht
    have hxn : n ≠ x := fun e => by rw [e, hx] at hn; cases hn
    refine ifGt (fun hgt => ?_) fun hle => ?_
    · rw [delset, set_set]
      have q2' : kl.length + kb.length + 1 ≤ o := by simp only [List.length_cons] at q2; omega
      refine op_left h3 h16 q3 (by simpa using q4) q2' hL (fun y hy => hR y (by simp [hy])) hz hs (hR b (by simp)) hgt hc' (set_eq _ _ _ _) f1 f2 f3 hxt hxn (by rw [set_ne _ _ _ hxt]; exact ht) (by rw [set_ne _ _ _ hxn]; exact hn) ha hm fun v' f' u' P' H' e1 e2 e3 e4 e5 e6 e7 => hk v' f' u' P' H' e1 e2 e3 e4 (e5.wide (by simp only [List.length_cons] at q1; omega) (Nat.le_refl _)) (fmA_of hx e6) e7
    · rw [del_set hx]
      exact hM (by omega)
  rcases List.eq_nil_or_concat L with rfl | ⟨L0, a, rfl⟩
  · have hkl0 : kl = [] := List.length_eq_zero_iff.1 q3
    subst hkl0
    refine ifF rfl (lenA_i fun _ => ?_)
    obtain ⟨b, B, rfl⟩ : ∃ b B, R = b :: B := by
      cases R with
      | nil =>
        exfalso
        have h0 : kr.length = 0 := by simpa using q4
        simp only [List.length_nil, h0] at q1
        omega
      | cons b B => exact ⟨b, B, rfl⟩
    obtain ⟨k, kb, rfl⟩ : ∃ k kb, kr = k :: kb := by
      cases kr with
      | nil => simp at q4
      | cons b B => exact ⟨b, B, rfl⟩
    refine ifT ?_ (lefts b B k kb rfl rfl (fun H => callA Try.prog 102 [(false, .ref), (false, .one (.int .i64)), (false, .one (.int .i64))] (some t, (i : Int), mxI (IntKind.i64.wrap (((([] : List Key).length : Nat) : Int) - 1)) 0, ()) [(false, .ref)] H fun x7 H8 => callA Try.prog 105 [(false, .ref)] (x7.1, ()) [] H8 fun _ H9 => K () H9) fun hle => ?_)
    · refine decide_eq_true ?_
      simp only [List.length_nil, List.length_cons]
      rw [w64 (by omega) (by omega)]
      omega
    · have hzb := hR b (by simp)
      have hbs := hzb.size
      exact do_merge (ka := []) (A := []) h3 h16 rfl (by simpa using q4) (by simp only [List.length_cons, List.length_nil] at q2 ⊢; omega) (by simp) (fun y hy => hR y (by simp [hy])) hz (hzb.wide (by omega) (Nat.le_refl _)) (by omega) (by omega) hc' ht hn ha hm rfl fun v' f' u' P' H' e1 e2 e3 e4 e5 e6 e7 => hk v' f' u' P' H' e1 e2 e3 e4 (e5.wide (by simp only [List.length_cons, List.length_nil] at q1 ⊢; omega) (Nat.le_refl _)) e6 e7
  · obtain ⟨ka, k, rfl⟩ : ∃ ka k, kl = ka ++ [k] := by
      rcases List.eq_nil_or_concat kl with h0 | ⟨x, y, h0⟩
      · rw [h0] at q3; simp at q3
      · exact ⟨x, y, by rw [h0]; simp⟩
    rw [List.concat_eq_append] at *
    have q3' : ka.length = L0.length := by simpa using q3
    have eK : (ka ++ [k]) ++ kr = ka ++ k :: kr := by simp
    have eL : (L0 ++ [a]) ++ s :: R = L0 ++ a :: s :: R := by simp
    have hkl : (ka ++ [k]).length = ka.length + 1 := by simp
    have hLl : (L0 ++ [a]).length = L0.length + 1 := by simp
    have eW : IntKind.i64.wrap ((((ka ++ [k]).length : Nat) : Int) - 1) = (L0.length : Int) := by
      rw [hkl, show (((ka.length + 1 : Nat) : Int) - 1) = (L0.length : Int) from by omega]
      exact w64 (by omega) (by omega)
    have eX : mxI (L0.length : Int) 0 = (L0.length : Int) := by unfold mxI; rw [if_neg (by omega)]
    have hm1 := hm
    rw [eK, eL] at hm1
    have T := two_of hm1
    have hza := hL a (by simp)
    have has := hza.size
    have hks : ka.length + kr.length + 1 ≤ o := by omega
    have merge : ¬ o / 2 < a.size → ∀ z : Int, z = (L0.length : Int) → callA Try.prog 102 [(false, .ref), (false, .one (.int .i64)), (false, .one (.int .i64))] (some t, (i : Int), z, ()) [(false, .ref)] H fun x7 H8 => callA Try.prog 105 [(false, .ref)] (x7.1, ()) [] H8 fun _ H9 => K () H9 := fun hle z hz' =>
      do_merge h3 h16 q3' q4 hks (fun y hy => hL y (by simp [hy])) hR (hza.wide (by omega) (Nat.le_refl _)) hz (by omega) (by omega) hc' ht hn ha hm1 hz' fun v' f' u' P' H' e1 e2 e3 e4 e5 e6 e7 => hk v' f' u' P' H' e1 e2 (by rw [eK, eL]; exact e3) e4 (e5.wide (by omega) (Nat.le_refl _)) e6 e7
    have hpos : (0 : Int) < (((ka ++ [k]).length : Nat) : Int) := by omega
    refine ifT (decide_eq_true hpos) ?_
    rw [eW, eX]
    obtain ⟨xu, xa, xb, f1, f2, f3, at1, at2, sz1, _⟩ := two_at T
    refine c_of ht hn ha f1 at1 at2 f2 f3 fun x hx => refA_i (ldO_i (set_eq _ _ _ _) (retA_i _ (c_size _) ?_))
    dsimp only
    rw [sz1]
    have hxt : t ≠ x := fun e => by rw [e, hx] at ht; cases ht
    have hxn : n ≠ x := fun e => by rw [e, hx] at hn; cases hn
    refine ifGt (fun hgt => ?_) fun hle => ?_
    · rw [delset, set_set]
      refine op_right h3 h16 q3' q4 hks (fun y hy => hL y (by simp [hy])) hR hza hgt hz hs hc' (set_eq _ _ _ _) f1 f2 f3 hxt hxn (by rw [set_ne _ _ _ hxt]; exact ht) (by rw [set_ne _ _ _ hxn]; exact hn) ha hm1 fun v' f' u' P' H' e1 e2 e3 e4 e5 e6 e7 => hk v' f' u' P' H' e1 e2 (by rw [eK, eL]; exact e3) e4 (e5.wide (by omega) (Nat.le_refl _)) (fmA_of hx e6) e7
    · rw [del_set hx]
      have hle2 : ¬ o / 2 < a.size := by omega
      refine lenA_i fun _ => ?_
      cases R with
      | nil =>
        refine ifF (decide_eq_false ?_) (merge hle2 _ rfl)
        rw [w64 (by omega) (by omega)]
        simp only [List.length_nil]
        omega
      | cons b B =>
        obtain ⟨k2, kb2, rfl⟩ : ∃ k2 kb2, kr = k2 :: kb2 := by
          cases kr with
          | nil => simp at q4
          | cons b B => exact ⟨b, B, rfl⟩
        refine ifT (decide_eq_true ?_) (lefts b B k2 kb2 rfl rfl (fun H => callA Try.prog 102 [(false, .ref), (false, .one (.int .i64)), (false, .one (.int .i64))] (some t, (i : Int), (L0.length : Int), ()) [(false, .ref)] H fun x7 H8 => callA Try.prog 105 [(false, .ref)] (x7.1, ()) [] H8 fun _ H9 => K () H9) fun _ => merge hle2 _ rfl)
        rw [w64 (by omega) (by omega)]
        simp only [List.length_cons]
        omega)
end Go.Proofs.Ytdglfbeddbcbpaa
set_option linter.unusedSimpArgs false
set_option linter.unusedVariables false
namespace Go.Proofs.Ytdglfbeddbcbpaa
open Go Go.Gp Go.Ga Go.Th
theorem mid_lone {f : Nat → Option Nd} {u i h : Nat} {z : Tr h} (m : Mid f u (Tr.nd i [] [z])) : Mid (upd f i none) (u - 1) z ∧ allP z = allP (Tr.nd i [] [z]) := by
  have hfl : fl (Tr.nd i [] [z]) = fl z := by simp [inter]
  have hlv : lvs (Tr.nd i [] [z]) = lvs z := by simp
  have hid : ids (Tr.nd i [] [z]) = i :: ids z := by simp
  have hnd := m.nd
  rw [hid] at hnd
  obtain ⟨h1, h2⟩ := List.nodup_cons.1 hnd
  have hne : ∀ j ∈ ids z, upd f i none j = f j := fun j hj => upd_ne _ _ (fun e => h1 (by rw [← e]; exact hj))
  refine ⟨⟨rep_congr (fun j hj => (hne j hj).symm) ((rep_nd.1 m.rep).2 z (by simp)), h2, ?_, ?_, ?_, ?_⟩, ?_⟩
  · have := m.seg
    rw [hlv] at this
    refine seg_congr (fun a ha => ?_) this
    unfold nxt; rw [hne _ (lvs_ids z a ha)]
  · have := m.ord; rwa [hfl] at this
  · have := m.ok; rwa [hfl] at this
  · have := m.used; rw [hid] at this; rw [this]; simp
  · unfold allP; rw [hlv]
def FmT (t n : Nat) (H H' : HP) : Prop := ∀ m, m ≠ t → m ≠ n → (H m).isSome → H' m = H m
theorem FmT.refl (t n : Nat) (H : HP) : FmT t n H H := fun _ _ _ _ => rfl
theorem FmT.trans {t n : Nat} {H H' H'' : HP} (h : FmT t n H H') (k : FmT t n H' H'') : FmT t n H H'' := fun m h1 h2 h3 => (k m h1 h2 (by rw [h m h1 h2 h3]; exact h3)).trans (h m h1 h2 h3)
theorem FmA.t {t n : Nat} {H H' : HP} (h : FmA n H H') : FmT t n H H' := fun m _ h2 h3 => h m h2 h3
theorem FmT.setT {t n : Nat} {H H' : HP} (h : FmT t n H H') (k : AK) (x : k.T) : FmT t n H (H'.set t k x) := fun m h1 h2 h3 => by rw [set_ne _ _ _ h1]; exact h m h1 h2 h3
theorem FmT.setN {t n : Nat} {H H' : HP} (h : FmT t n H H') (k : AK) (x : k.T) : FmT t n H (H'.set n k x) := fun m h1 h2 h3 => by rw [set_ne _ _ _ h2]; exact h m h1 h2 h3
section
variable {H : HP} {t n u o : Nat} {many : Int} {v : ARt} {f : Nat → Option Nd} {hh : Nat} {T : Tr hh}
theorem root_step {R : Nat} {s : Tr hh} (hid : s.id = R) (ht : H t = some ⟨TRk, (some n, (R : Int), (o : Int), many)⟩) (hn : H n = some ⟨ARk, v⟩) (ha : Ar v f u) (hm : Mid f u s) (hz : Sz o ((.top : Ctx hh hh).lo o - 1) o s) (h3 : 3 ≤ o) {K : HT [(false, .one .bool), (false, .one .any)] → HP → Prop}
    (hk : ∀ H', FmT t n H H' → TreeIs H' t n o (allP s) many → K (true, .nilIface, ()) H') :
    JoinA (V := Unit × Unit) (fun (x33 : Unit × Unit) H34 => K (true, .nilIface, ()) H34) fun B35 => refA (some t) fun i36 => ldO kTR i36 H fun (x37 : tTR) => refA (some t) fun i38 => ldO kTR i38 H fun (x39 : tTR) => callA Try.prog 40 [(false, .ref), (false, .one (.int .i64))] (x37.1, x39.2.1, ()) [(true, NOk), (false, .one .bool)] H fun x40 H41 =>
      JoinA (V := (Option Nat × Unit × Bool × Unit) × (Bool × List tPR × List (List UInt8) × List Int × Int × Unit) × Unit) (fun x42 H43 => ifB x42.1.2.2.1 (refA x42.1.1 fun i44 => ldO kTR i44 H43 fun (x45 : tTR) => atA x42.2.1.2.2.2.1 0 fun n46 => refA x42.1.1 fun i47 => ldO kTR i47 H43 fun (x48 : tTR) => refA x42.1.1 fun i49 => ldO kTR i49 (H43.set i47 kTR (x48.1, n46, x48.2.2)) fun (x50 : tTR) => callA Try.prog 88 [(false, .ref), (false, .one (.int .i64))] (x50.1, x45.2.1, ()) [(false, .one .any)] (H43.set i47 kTR (x48.1, n46, x48.2.2)) fun x51 H52 => retA Try.prog 84 [(false, .one .any)] (x51.1, ()) [] fun _ => B35 ((), ()) H52) (B35 ((), ()) H43)) fun B54 =>
        ifB (! x40.1.1) (lenA x40.1.2.2.1.length fun n55 => B54 ((some t, (), (n55 : Int) == 0, ()), (x40.1.1, x40.1.2.1, x40.1.2.2.1, x40.1.2.2.2.1, x40.1.2.2.2.2, ()), ()) H41) (B54 ((some t, (), false, ()), (x40.1.1, x40.1.2.1, x40.1.2.2.1, x40.1.2.2.2.1, x40.1.2.2.2.2, ()), ()) H41) := by
  subst hid
  have hne := ne_TA ht hn
  cases hh with
  | zero =>
    obtain ⟨i, ps, rfl⟩ := s.ex0
    obtain ⟨ks, kd, nx, hf⟩ := rep_lf.1 hm.rep
    refine JoinA_i (refA_i (ldO_i ht (refA_i (ldO_i ht (c_getO hn ha hf (JoinA_i (ifF rfl (ifF rfl ?_))))))))
    exact hk H (FmT.refl _ _ _) ⟨0, Tr.lf i ps, v, f, u, ⟨ht, hn, ha, hm, hz.wide (Nat.zero_le _) (Nat.le_refl _)⟩, rfl⟩
  | succ hh =>
    obtain ⟨i, ks, l, rfl⟩ := s.exS
    obtain ⟨⟨ps, nx, hf⟩, hrk⟩ := rep_nd.1 hm.rep
    obtain ⟨z1, z2, z3, z4⟩ := sz_nd.1 hz
    refine JoinA_i (refA_i (ldO_i ht (refA_i (ldO_i ht (c_getO hn ha hf (JoinA_i (ifT rfl (lenA_i fun _ => ?_))))))))
    cases ks with
    | nil =>
      obtain ⟨z, rfl⟩ := List.length_eq_one_iff.1 (show l.length = 1 from z3)
      refine ifT rfl (refA_i (ldO_i ht (atA_g (i := 0) rfl (x := (z.id : Int)) rfl (refA_i (ldO_i ht (refA_i (ldO_i (set_eq _ _ _ _) ?_)))))))
      have hn' : (H.set t kTR (some n, (z.id : Int), (o : Int), many)) n = some ⟨ARk, v⟩ := by rw [set_ne _ _ _ hne.symm]; exact hn
      have hu : 0 < u := by rw [hm.used]; simp
      obtain ⟨m1, m2⟩ := mid_lone hm
      refine c_free hn' ha hf hu fun v' ha' => retA_i _ c_must ?_
      refine hk _ (((FmT.refl _ _ _).setT _ _).setN _ _) ⟨hh, z, v', _, _, ⟨by rw [set_ne _ _ _ hne]; exact set_eq _ _ _ _, set_eq _ _ _ _, ha', m1, (z4 z (by simp)).wide ?_ (Nat.le_refl _)⟩, m2⟩
      show (if hh = 0 then 0 else 1) ≤ o / 2
      split <;> omega
    | cons k0 ks =>
      refine ifF (by simp; omega) ?_
      exact hk H (FmT.refl _ _ _) ⟨hh + 1, _, v, f, u, ⟨ht, hn, ha, hm, hz.to (by show (if hh + 1 = 0 then 0 else 1) ≤ (k0 :: ks).length; simp) hz.size.2⟩, rfl⟩
theorem c_pdelete (h : TI H t n o many T v f u) (hm : many = ((allP T).length : Int)) (h3 : 3 ≤ o) (h16 : o ≤ 16) (hb : (allP T).length ≤ 1000) (k : Key) {K : HT [(false, .one .bool), (false, .one .any)] → HP → Prop}
    (k0 : hasR (allP T) k = false → K (false, .nilIface, ()) H)
    (k1 : hasR (allP T) k = true → ∀ H', FmT t n H H' → TreeIs H' t n o (delR (allP T) k) ((delR (allP T) k).length : Int) → K (true, .nilIface, ()) H') : C52 (some t) k H K := callA52 _ _ _ _ (by
  unfold A52
  have hh' := h.high h3
  refine ifF rfl (c_pway h.ht h.hn h.ar rfl h.mid.rep h.sz h.mid.ord (by omega) k fun c0 i ps p1 p2 p3 p4 p5 => lenA_i fun _ => ?_)
  have hr := lf_row h.mid p1 p2
  have ha := h.all p1 p2
  have har := around p4 p5
  have hpl : ps.length ≤ (allP T).length := by rw [ha]; simp; omega
  have hdel : delR (allP T) k = prs c0.l ++ delR ps k ++ prs c0.r := by rw [ha, har.del]
  have hhas : hasR (allP T) k = hasR ps k := by rw [ha, har.has]
  have hrep : Rep f (Tr.lf i ps) := ((plug_rep c0 _).1 (by rw [p1]; exact h.mid.rep)).2
  obtain ⟨ks, kd, nx, hf⟩ := rep_lf.1 hrep
  have hordc : Th.Ord (c0.l ++ ps.map .p ++ c0.r) := by have := h.mid.ord; rwa [← p1, plug_fl c0 _ p2] at this
  have hrow' := hr.del k
  have hmid1 : Mid (upd f i (some (true, delR ps k, ks, kd, nx))) u (plug c0 (Tr.lf i (delR ps k))) :=
    Mid.leaf (by rw [p1]; exact h.mid) p2 hf (ord_sub hordc List.filter_sublist) fun p hp => ⟨hrow'.may p hp, hrow'.fair p hp⟩
  have hall1 : allP (plug c0 (Tr.lf i (delR ps k))) = delR (allP T) k := by rw [allP_plug p2, allP_lf, hdel]
  have hid : (plug c0 (Tr.lf i (delR ps k))).id = T.id := by rw [← p1]; exact plug_id c0 _ _ rfl
  have hok := h.ar.ndok hf
  have hok' : NdOk (true, delR ps k, ks, kd, nx) := ⟨hok.kids, by
    have := List.length_filter_le (fun p : Pr => p.1 != k) ps
    unfold delR; simp only; omega, hok.keys, fun p hp => hok.short p (List.mem_filter.1 hp).1, hok.low⟩
  have hne := ne_TA h.ht h.hn
  have hst : ∀ {h H : Nat} (c : Ctx h H), c.steps.length + h = H := by
    intro h H c
    induction c with
    | top => simp [Ctx.steps]
    | down c f ih => simp only [Ctx.steps, List.length_append, List.length_singleton]; omega
  have hs0 := hst c0
  have hlen0 : (stepsI c0.steps ++ [((i : Int), (0 : Int))]).length = c0.steps.length + 1 := by simp [stepsI]
  have hlen1 : (stepsI c0.steps).length = c0.steps.length := by simp [stepsI]
  dsimp only
  rw [hlen0, show (((c0.steps.length + 1 : Nat) : Int) - 1) = (c0.steps.length : Int) from by omega, w64 (x := (c0.steps.length : Int)) (by omega) (by omega)]
  refine atA_g (i := c0.steps.length) rfl (x := ((i : Int), (0 : Int))) (by rw [List.getElem?_append_right (by omega), hlen1, Nat.sub_self]; rfl) (refA_i (ldO_i h.ht (c_getO h.hn h.ar hf (retA_i _ (c_delete ps k hr.sort (by omega) hr.short) ?_))))
  refine ifNot (fun hno => k0 (hhas.trans hno)) fun hyes => ?_
  have hyes : hasR ps k = true := hyes
  have hldel := len_del hr.sort k
  rw [if_pos hyes] at hldel
  have hmany := len_del h.row.sort k
  rw [if_pos (hhas.trans hyes)] at hmany
  have hpos : 0 < (allP T).length := by
    rcases Nat.eq_zero_or_pos (allP T).length with h0 | h0
    · rw [List.length_eq_zero_iff.1 h0] at hhas
      rw [hyes] at hhas; cases hhas
    · exact h0
  have kk := k1 (hhas.trans hyes)
  refine refA_i (ldO_i h.ht (c_set h.hn h.ar hf hok' fun v1 ha1 => retA_i _ c_must ?_))
  have ht1 : (H.set n ARk v1) t = some ⟨TRk, (some n, (T.id : Int), (o : Int), many)⟩ := by rw [set_ne _ _ _ hne]; exact h.ht
  refine refA_i (ldO_i ht1 (refA_i (ldO_i ht1 (lenA_i fun _ => ?_))))
  dsimp only
  rw [show (((c0.steps.length + 1 : Nat) : Int) - 2) = (c0.steps.length : Int) - 1 from by omega, w64 (x := (c0.steps.length : Int) - 1) (by omega) (by omega), hm, show (((allP T).length : Nat) : Int) - 1 = ((delR (allP T) k).length : Int) from by omega, w64 (by omega) (by omega)]
  refine loop_h c0.steps.length (fun j st H' => ∃ (h : Nat) (c : Ctx h hh) (s : Tr h) (z : Nat) (tl : List (Nat × Nat)) (v : ARt) (f : Nat → Option Nd) (u : Nat), st = ((some t, stepsI (c.steps ++ (s.id, z) :: tl), (c.steps.length : Int) - 1, ()), ()) ∧ c.steps.length + j = c0.steps.length ∧ H' t = some ⟨TRk, (some n, (T.id : Int), (o : Int), ((delR (allP T) k).length : Int))⟩ ∧ H' n = some ⟨ARk, v⟩ ∧ Ar v f u ∧ Mid f u (plug c s) ∧ c.Sz o ∧ Sz o (c.lo o - 1) o s ∧ allP (plug c s) = delR (allP T) k ∧ (plug c s).id = T.id ∧ FmT t n H H') ?_ ?_
  · refine ⟨0, c0, Tr.lf i (delR ps k), 0, [], v1, _, u, ?_, rfl, set_eq _ _ _ _, by rw [set_ne _ _ _ hne.symm]; exact set_eq _ _ _ _, ha1, hmid1, p2, ?_, hall1, hid, ((FmT.refl _ _ _).setN _ _).setT _ _⟩
    · simp [stepsI]
    · obtain ⟨b1, b2⟩ := sz_lf.1 p3
      exact sz_lf.2 ⟨by omega, by omega⟩
  rintro j st H1 C hj ⟨h', c, s, z, tl, v2, f2, u2, rfl, hcl, ht2, hn2, ha2, hm2, hc2, hz2, hall2, hid2, hfr2⟩ hC
  dsimp only at hC ⊢
  have hsc := hst c
  have hrs : Rep f2 s := ((plug_rep c _).1 hm2.rep).2
  obtain ⟨xs, hxs, hxz⟩ := nd_size hrs
  cases c with
  | top =>
    have hid2 : s.id = T.id := hid2
    have hm2 : Mid f2 u2 s := hm2
    have hall2 : allP s = delR (allP T) k := hall2
    refine ifF (decide_eq_false (by simp [Ctx.steps])) ?_
    exact root_step hid2 ht2 hn2 ha2 hm2 hz2 h3 fun H3 g1 g2 => kk H3 (hfr2.trans g1) (hall2 ▸ g2)
  | down c fr =>
    have hm2 : Mid f2 u2 (plug c (fr.fill s)) := hm2
    have hstep : (Ctx.down c fr).steps = c.steps ++ [(fr.id, fr.kl.length)] := rfl
    have hsl : (Ctx.down c fr).steps.length = c.steps.length + 1 := by rw [hstep]; simp
    have hw : stepsI ((Ctx.down c fr).steps ++ (s.id, z) :: tl) = stepsI c.steps ++ ((fr.id : Int), (fr.kl.length : Int)) :: ((s.id : Int), (z : Int)) :: stepsI tl := by rw [hstep]; simp [stepsI]
    have hl1 : (stepsI c.steps).length = c.steps.length := by simp [stepsI]
    have hsz2 : Sz o (o / 2 - 1) o s := hz2
    refine ifT (decide_eq_true ?_) (refA_i (ldO_i ht2 ?_))
    · show (0 : Int) ≤ _
      omega
    rw [hw, hsl, show (((c.steps.length + 1 : Nat) : Int) - 1) = (c.steps.length : Int) from by omega, w64 (x := (c.steps.length : Int) + 1) (by omega) (by omega)]
    refine atA_g (i := c.steps.length + 1) (by omega) (x := ((s.id : Int), (z : Int))) (by rw [List.getElem?_append_right (by omega), hl1, Nat.add_sub_cancel_left]; rfl) (c_getO hn2 ha2 hxs (retA_i _ (c_size _) (refA_i (ldO_i ht2 ⟨by decide, ?_⟩))))
    dsimp only
    rw [hxz, half2 (by omega)]
    refine ifB_i (fun hge => ?_) fun hlt => ?_
    · rw [decide_eq_true_eq] at hge
      have hge : ((o / 2 : Nat) : Int) ≤ (s.size : Int) := hge
      exact kk H1 hfr2 ⟨hh, plug (.down c fr) s, v2, f2, u2, ⟨by rw [hid2]; exact ht2, hn2, ha2, hm2, plug_sz _ _ hc2 (hsz2.to (by show o / 2 ≤ _; omega) hsz2.size.2)⟩, hall2⟩
    · rw [decide_eq_false_iff_not] at hlt
      have hlt : ¬ ((o / 2 : Nat) : Int) ≤ (s.size : Int) := hlt
      refine atA_g (i := c.steps.length) rfl (x := ((fr.id : Int), (fr.kl.length : Int))) (by rw [List.getElem?_append_right (by omega), hl1, Nat.sub_self]; rfl) ?_
      refine c_mend h3 h16 hc2 hsz2 (by omega) ht2 hn2 ha2 hm2 fun v3 f3 u3 P' H3 g1 g2 g3 g4 g5 g6 g7 => ?_
      have hnt : t ≠ n := hne
      refine hC (by omega) _ _ ⟨h' + 1, c, P', fr.kl.length, (s.id, z) :: tl, v3, f3, u3, ?_, by omega, ?_, g7, g1, g2, (csz_down.1 hc2).2.2.2.2.2.2, g5, ?_, ?_, hfr2.trans g6.t⟩
      · rw [g4, w64 (by omega) (by omega)]
        simp [stepsI]
      · rw [g6 t hnt (by rw [ht2]; rfl)]; exact ht2
      · rw [g3]; exact hall2
      · rw [← hid2]; exact plug_id c _ _ g4)
end
end Go.Proofs.Ytdglfbeddbcbpaa
set_option linter.unusedSimpArgs false
set_option linter.unusedVariables false
namespace Go.Proofs.Ytdglfbeddbcbpaa
open Go Go.Gp Go.Ga Go.Th
theorem tree_del {H : HP} {t n o : Nat} {ps : List Pr} (h : TreeIs H t n o ps (ps.length : Int)) (h3 : 3 ≤ o) (h16 : o ≤ 16) (hb : ps.length ≤ 1000) (k : Key) {K : HT [(false, .one .bool), (false, .one .any)] → HP → Prop}
    (hk : ∀ H', FmT t n H H' → TreeIs H' t n o (delR ps k) ((delR ps k).length : Int) → K (hasR ps k, .nilIface, ()) H') : C52 (some t) k H K := by
  have h0 := h
  obtain ⟨hh, T, v, f, u, h, rfl⟩ := h
  refine c_pdelete h rfl h3 h16 hb k (fun hno => ?_) fun hyes H' hf hT => ?_
  · have : getR (allP T) k = none := by unfold hasR at hno; cases hg : getR (allP T) k with | none => rfl | some x => rw [hg] at hno; cases hno
    have := hk H (FmT.refl _ _ _) (by rw [del_none this]; exact h0)
    rw [hno] at this; exact this
  · have := hk H' hf hT
    rw [hyes] at this; exact this
theorem c_del_nil {H : HP} (k : Key) {K : HT [(false, .one .bool), (false, .one .any)] → HP → Prop} (hk : K (false, eC 1, ()) H) : C52 none k H K := callA52 _ _ _ _ (by
  unfold A52
  exact ifT rfl hk)
theorem fmT_N {H H0 H' : HP} {t n : Nat} (ht : H0 t = none) (hn : H0 n = none) (h0 : FmN H0 H) (h : FmT t n H H') : FmN H0 H' := fun m hm => by
  have h1 : m ≠ t := fun e => by rw [e, ht] at hm; cases hm
  have h2 : m ≠ n := fun e => by rw [e, hn] at hm; cases hm
  exact (h m h1 h2 (by rw [h0 m hm]; exact hm)).trans (h0 m hm)
theorem c_up09 : S51 (true, ()) := pure_forget rfl fun H => callA51 _ _ (by
  unfold A51
  refine byteA_c (by decide) (by decide) ?_
  refine c_made 3 _ (fun h => by omega) fun q t n H1 hq h3 h16 ht hn hne hfm hT => ifF rfl (byteA_c (by decide) (by decide) ?_)
  have hcap : capOf [([UInt8.ofNat (97 : Int).toNat], [])] = [([97], [])] := by decide
  rw [hcap] at hT
  have hd : delR [(([97] : Key), ([] : Key))] [UInt8.ofNat (97 : Int).toNat] = [] := by decide
  have hh : hasR [(([97] : Key), ([] : Key))] [UInt8.ofNat (97 : Int).toNat] = true := by decide
  refine tree_del hT h3 h16 (by simp) _ fun H2 hf2 hT2 => c_del_nil _ ?_
  rw [hd] at hT2
  rw [hh]
  obtain ⟨i, r⟩ : ∃ i : Int, H2 t = some ⟨TRk, (some n, i, (q : Int), 0)⟩ := by
    obtain ⟨_, _, _, _, _, i1, _⟩ := hT2
    exact ⟨_, i1.ht⟩
  refine ifT rfl ⟨rfl, ifT rfl (er_self (ifT rfl (retH_i _ (fun K' hk' => hT2.low h3 (by simp) hk') (ifT rfl (refA_i (ldO_i r ⟨?_, rfl⟩))))))⟩
  exact fmT_N ht hn (fm_new ht hn hfm) hf2)
end Go.Proofs.Ytdglfbeddbcbpaa
