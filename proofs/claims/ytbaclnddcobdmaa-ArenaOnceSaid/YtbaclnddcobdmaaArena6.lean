/-
  The arena (layer 7): Make.
-/
import Derived.Test.YtbaclnddcobdmaaArena5
set_option linter.unusedSimpArgs false
set_option linter.unusedVariables false
namespace Go.Proofs.Ytbaclnddcobdmaa
open Go Go.Gp
/-- A node more, at the end. -/
theorem ArenaX.push {A : Nat → Prop} {W0 W W' : World} {a : Nat} {sl st sf sl' st' : Sl} {xs : List NdX} {ns : List (Option Nd)} {fr : List Nat} (h : ArenaX A W a sl st sf xs ns fr) (h0 : ∀ b, A b → b < W0.heap.size) {y : NdX} {n : Nd} {D : Nat → Prop} (hy : NdA D W y n) (hD : ∀ b, D b → newA W0 W b)
    (hW : W0.heap.size ≤ W.heap.size) {S : List Nat} (hk : Keeps S W W') (hS : ∀ b ∈ S, b ∈ a :: (sblk sl ++ (sblk st ++ sblk sf)) ∨ W.heap.size ≤ b) (hd : Blk W' a [sl'.val, st'.val, sf.val] 158) (ol : OwnS W' 0 75 5 sl' ((xs ++ [y]).flatMap ndC)) (ot : OwnS W' 0 4 1 st' ((ns ++ [some n]).map boC))
    (of : OwnS W' 0 3 1 sf (fr.map frC)) (hsl : ∀ b ∈ sblk sl', b ∈ sblk sl ∨ newA W W' b) (hst : ∀ b ∈ sblk st', b ∈ sblk st ∨ newA W W' b) (hdis : ∀ b ∈ sblk sl', b ∉ sblk st') : ArenaX (AA A W0 W') W' a sl' st' sf (xs ++ [y]) (ns ++ [some n]) fr := by
  have sz := hk.size
  have own : ∀ b ∈ a :: (sblk sl' ++ (sblk st' ++ sblk sf)), b ∈ a :: (sblk sl ++ (sblk st ++ sblk sf)) ∨ newA W W' b := fun b hb => by
    simp only [List.mem_cons, List.mem_append] at hb ⊢
    rcases hb with h | h | h | h
    · exact .inl (.inl h)
    · rcases hsl b h with h | h
      · exact .inl (.inr (.inl h))
      · exact .inr h
    · rcases hst b h with h | h
      · exact .inl (.inr (.inr (.inl h)))
      · exact .inr h
    · exact .inl (.inr (.inr (.inr h)))
  have hlt : ∀ b ∈ a :: (sblk sl ++ (sblk st ++ sblk sf)), b < W0.heap.size := fun b hb => h0 b (h.aA b hb)
  refine ⟨hd, ol, ot, of, by simp [h.xl], fun j x m hx hn => ?_, fun b hb => ?_, fun b hb => ?_, fun b hb => ?_, fun b hb => ?_, h.d3, fun j hj => ?_, h.nd2⟩
  · rcases (by have := (List.getElem?_eq_some_iff.1 hx).1; simp at this; omega : j < xs.length ∨ j = xs.length) with hj | rfl
    · rw [List.getElem?_append_left hj] at hx
      rw [List.getElem?_append_left (by rw [← h.xl]; exact hj)] at hn
      refine ((h.nd j x m hx hn).keep hk fun b hb he => ?_).mono fun b hb => ⟨.inl hb.1, fun hm => ?_⟩
      · rcases hS b hb with h1 | h1
        · exact he.2 h1
        · have := h.lt b he.1; omega
      · rcases own b hm with h1 | h1
        · exact hb.2 h1
        · have := h.lt b hb.1; have := h1.1; omega
    · rw [List.getElem?_append_right (Nat.le_refl _)] at hx
      rw [h.xl, List.getElem?_append_right (Nat.le_refl _)] at hn
      simp only [Nat.sub_self, List.getElem?_cons_zero, Option.some.injEq] at hx hn
      subst hx; subst hn
      refine (hy.keep hk fun b hb he => ?_).mono fun b hb => ⟨.inr ⟨(hD b hb).1, by have := (hD b hb).2; omega⟩, fun hm => ?_⟩
      · rcases hS b hb with h1 | h1
        · have := hlt b h1; have := (hD b he).1; omega
        · have := (hD b he).2; omega
      · rcases own b hm with h1 | h1
        · have := hlt b h1; have := (hD b hb).1; omega
        · have := h1.1; have := (hD b hb).2; omega
  · rcases own b hb with h1 | h1
    · exact .inl (h.aA b h1)
    · exact .inr ⟨by have := h1.1; omega, h1.2⟩
  · rcases hb with h1 | h1
    · have := h.lt b h1; omega
    · exact h1.2
  · rcases hsl b hb with h1 | h1
    · obtain ⟨e1, e2, e3⟩ := h.d1 b h1
      exact ⟨e1, hdis b hb, e3⟩
    · exact ⟨fun e => by subst e; have := hlt b (by simp); have := h1.1; omega, hdis b hb, fun hm => by have := hlt b (by simp [hm]); have := h1.1; omega⟩
  · rcases hst b hb with h1 | h1
    · exact h.d2 b h1
    · exact ⟨fun e => by subst e; have := hlt b (by simp); have := h1.1; omega, fun hm => by have := hlt b (by simp [hm]); have := h1.1; omega⟩
  · have := h.frn j hj
    rw [List.getElem?_append_left (List.getElem?_eq_some_iff.1 this).1]
    exact this
/-- Make. -/
theorem amake_spec {A Ain : Nat → Prop} {W : World} {a : Nat} {sl st sf : Sl} {xs : List NdX} {ns : List (Option Nd)} {fr : List Nat} (h : ArenaX A W a sl st sf xs ns fr) (hf : fr.length ≤ 1000000000) (hl : ns.length ≤ 1000000000) {x : NdX} {n : Nd} (hx : NdA Ain W x n) (hdj : ∀ b, Ain b → ¬ A b) (hsm : n.Small) {K : Int × Unit → World → Prop}
    (hk1 : ∀ fr0 k, fr = fr0 ++ [k] → ∀ W', StepA A W W' → ArenaAt (AA A W W') W' a (ns.set k (some n)) fr0 → K ((k : Int), ()) W')
    (hk2 : fr = [] → ∀ W', StepA A W W' → ArenaAt (AA A W W') W' a (ns ++ [some n]) [] → K ((ns.length : Int), ()) W') :
    callG Try.prog 46 [.pointer (some ⟨a, 0, none⟩), .agg ⟨ndC x⟩] [.one (.int .i64)] W K := by
  refine call46 (some ⟨a, 0, none⟩) x.1 x.2.1 x.2.2.1 x.2.2.2.1 x.2.2.2.2 W K ?_
  unfold G46
  refine new_blk fun b1 W1 hb1 k1 e1 => ?_
  have h1 := h.keep k1 (by simp)
  have z1 := k1.size
  obtain ⟨l1, l2, l3⟩ := h.slen
  have la := h.lt a (h.aA a (by simp))
  have e1a : b1 ≠ a := by omega
  simp only [nilck_some, addr0]
  refine ld_sl (by rw [h1.hd.cell]; rfl) ?_
  dsimp only
  rw [l3, w64 (by omega) (by omega)]
  refine ifD (fun hpos => ?_) fun hneg => ?_
  · -- a free one
    rcases List.eq_nil_or_concat fr with rfl | ⟨fr0, k, rfl⟩
    · simp at hpos
    simp only [List.concat_eq_append] at *
    have hlen : (fr0 ++ [k]).length = fr0.length + 1 := by simp
    have hkn := h.frn k (by simp)
    have hlt := (List.getElem?_eq_some_iff.1 hkn).1
    have ei : ((fr0 ++ [k]).length : Int) - 1 = (fr0.length : Int) := by omega
    rw [ei]
    obtain ⟨g, hg, hc⟩ := h1.of.cell (j := fr0.length) (u := frC k) (by rw [List.getElem?_map]; simp)
    refine ld_sl (by rw [h1.hd.cell]; rfl) ⟨_, hg, by omega, by simp only; omega, ?_⟩
    dsimp only
    rw [addr0, Int.toNat_natCast, Nat.mul_one]
    refine ld_int hc (ld_sl (by rw [h1.hd.cell]; rfl) ?_)
    have hcap := h1.of.cap
    refine slc_hi (by omega) (by simp only; omega) (st_blk' h1.hd (by simp) fun W2 k2 b2 => drw_intro fun W3 k3 bk => ?_)
    have b3 := bk _ _ _ b2
    rw [Int.toNat_natCast] at b3
    have e13 := bk _ _ _ (e1.keep k2 (by simpa using e1a))
    have na : ∀ b ∈ [a], b ∉ sblk sl ∧ b ∉ sblk st ∧ b ∉ sblk sf := fun b hb => by
      simp at hb; subst hb
      exact ⟨fun hm => (h.d1 _ hm).1 rfl, fun hm => (h.d2 _ hm).1 rfl, fun hm => h.d3 _ hm rfl⟩
    have k13 : Keeps [a] W1 W3 := k2.trans k3.nil
    -- the arena without the number that is taken: an arena, too
    have z2 := k13.size
    have h3 : ArenaX A W3 a sl st ⟨sf.a, fr0.length, sf.cap⟩ xs ns fr0 := by
      refine ⟨by simpa using b3, h1.ol.keep k13 fun b hb hm => (na b hm).1 hb, h1.ot.keep k13 fun b hb hm => (na b hm).2.1 hb, ?_, h.xl, fun j x' n' hx' hn' => ?_, fun b hb => h.aA b hb, fun b hb => by have := h.lt b hb; omega, h.d1, h.d2, h.d3, fun j hj => h.frn j (by simp [hj]), (List.nodup_append.1 h.nd2).1⟩
      · have := (h1.of.cut fr0.length (by omega)).keep k13 fun b hb hm => (na b hm).2.2 hb
        rwa [Nat.mul_one, List.map_append, List.take_left' (by simp)] at this
      · exact (h1.nd j x' n' hx' hn').keep k13 fun b hb he => he.2 (by simp at hb; simp [hb])
    refine ⟨fun U => U.cell? ⟨a, 0, none⟩ = some sl.val ∧ U.cell? ⟨a, 1, none⟩ = some st.val, ⟨h3.hd.cell 0, h3.hd.cell 1⟩, ?_⟩
    refine ldS_sl (fun u hu => hu.1) (ldS_sl (fun u hu => hu.2) (ld5 (x := x) e13 ⟨⟨h3.hd.cell 0, h3.hd.cell 1⟩, ?_⟩))
    have hx3 : NdA Ain W3 x n := (hx.keep0 k1).keep k13 fun b hb he => by simp at hb; subst hb; exact hdj _ he (h.aA _ (by simp))
    refine copied_spec hx3 hsm fun y W4 hy k4 => ?_
    have h4 := h3.keep k4 (by simp)
    refine ⟨⟨h4.hd.cell 0, h4.hd.cell 1⟩, ?_⟩
    refine st5_own h4.ol (by rw [h.xl]; exact hlt) y fun W5 k5 o5 => ?_
    refine st1_own (h4.ot.keep k5 fun b hb hm => (h4.d1 _ hm).2.1 hb) (by simpa using hlt) (.bool true) fun W6 k6 o6 => ?_
    have z4 := k4.size
    have kk : Keeps (sblk sl ++ sblk st) W4 W6 := (k5.mono fun b hb => by simp [hb]).trans (k6.mono fun b hb => by simp [hb])
    refine hk1 fr0 k rfl W6 ⟨a :: (sblk sl ++ sblk st), fun b hb => h.aA b (by simp only [List.mem_cons, List.mem_append] at hb ⊢; rcases hb with h | h | h <;> simp [h]), ((k1.nil.trans (k13.mono (by simp))).trans k4.nil).trans (kk.mono fun b hb => by simp at hb ⊢; exact .inr hb)⟩ ⟨sl, st, ⟨sf.a, fr0.length, sf.cap⟩, xs.set k y, ?_⟩
    refine h4.put (fun b hb => h.lt b hb) (W0 := W) (o := some n) (fun n' hn' => by injection hn' with hn'; subst hn'; exact hy.mono fun b hb => ⟨by have := hb.1; omega, hb.2⟩) (by omega) kk (fun b hb => .inl (by simp only [List.mem_cons, List.mem_append] at hb ⊢; rcases hb with h | h <;> simp [h])) ?_ ?_ ?_ ?_ (fun b hb => .inl hb) ?_ h4.nd2
    · exact h4.hd.keep kk fun hm => by
        rw [List.mem_append] at hm
        rcases hm with hm | hm
        · exact (h4.d1 _ hm).1 rfl
        · exact (h4.d2 _ hm).1 rfl
    · exact o5.keep k6 fun b hb hm => (h4.d1 _ hb).2.1 hm
    · rw [List.map_set]; exact o6
    · exact h4.of.keep kk fun b hb hm => by
        rw [List.mem_append] at hm
        rcases hm with hm | hm
        · exact (h4.d1 _ hm).2.2 hb
        · exact (h4.d2 _ hm).2 hb
    · intro j hj
      rw [List.getElem?_set, if_neg fun e => ?_]
      · exact h4.frn j hj
      · subst e
        have := (List.nodup_append.1 h.nd2).2.2 k hj k (by simp)
        exact this rfl
  · -- none is free
    have hfr : fr = [] := List.eq_nil_of_length_eq_zero (by omega)
    subst hfr
    refine JoinG.rule (fun v w => v = (some ⟨a, 0, none⟩, ()) ∧ StepA A W w ∧ ArenaAt (AA A W w) w a (ns ++ [some n]) []) ?_ fun B hB => ?_
    · rintro v w ⟨rfl, hst, ha⟩ j
      dsimp only
      rw [nilck_some]
      obtain ⟨sl', st', sf', xs', h'⟩ := ha
      obtain ⟨m1, _, _⟩ := h'.slen
      rw [List.length_append, List.length_singleton] at m1
      refine ld_sl (by rw [h'.hd.cell]; rfl) ?_
      dsimp only
      rw [m1, w64 (by omega) (by omega), show ((ns.length + 1 : Nat) : Int) - 1 = (ns.length : Int) from by omega]
      exact hk2 rfl w hst ⟨sl', st', sf', xs', h'⟩
    · refine drw_intro fun W2 k2 bk => ?_
      have h2 := h1.keep k2 (by simp)
      have e12 := bk _ _ _ e1
      have k02 := k1.trans k2
      obtain ⟨iN, hiN, hzN, hsN, hbN⟩ := nNode
      obtain ⟨iB, hiB, hzB, hsB, hbB⟩ := nBool
      refine ⟨fun U => U.cell? ⟨a, 0, none⟩ = some sl.val ∧ U.cell? ⟨a, 1, none⟩ = some st.val, ⟨h2.hd.cell 0, h2.hd.cell 1⟩, ?_⟩
      refine ldS_sl (fun u hu => hu.1) (ldS_sl (fun u hu => hu.2) ?_)
      have fin : ∀ {Wc w : World} {y : NdX} {r r2 : Sl}, ArenaX A Wc a sl st sf xs ns [] → NdA (newA W Wc) Wc y n → Keeps [] W Wc → Keeps (sblk sl ++ sblk st) Wc w → OwnS w 0 75 5 r ((xs ++ [y]).flatMap ndC) → OwnS w 0 4 1 r2 ((ns ++ [some n]).map boC) →
          (∀ b ∈ sblk r, b ∈ sblk sl ∨ newA Wc w b) → (∀ b ∈ sblk r2, b ∈ sblk st ∨ newA Wc w b) → (∀ b ∈ sblk r, b ∉ sblk r2) → st1 ⟨a, 0, none⟩ (.slice r.a r.len r.cap) w fun W => st1 ⟨a, 1, none⟩ (.slice r2.a r2.len r2.cap) W fun W => B (some ⟨a, 0, none⟩, ()) W := fun {Wc w y r r2} hc hy kc kw o1 o2 n1 n2 dis => by
        have zc := kc.size
        have zw := kw.size
        have hda : a ∉ sblk sl ++ sblk st := fun hm => by
          rw [List.mem_append] at hm
          rcases hm with hm | hm
          · exact (hc.d1 _ hm).1 rfl
          · exact (hc.d2 _ hm).1 rfl
        refine st_blk' (hc.hd.keep kw hda) (by simp) fun V1 q1 f1 => st_blk' f1 (by simp) fun V2 q2 f2 => ?_
        have kq : Keeps [a] w V2 := q1.trans q2
        have kt : Keeps (a :: (sblk sl ++ sblk st)) Wc V2 := (kw.mono fun b hb => List.mem_cons_of_mem _ hb).trans (kq.mono (by simp))
        have sub : ∀ b ∈ a :: (sblk sl ++ sblk st), b ∈ a :: (sblk sl ++ (sblk st ++ sblk sf)) := fun b hb => by
          simp only [List.mem_cons, List.mem_append] at hb ⊢
          rcases hb with h | h | h <;> simp [h]
        have zq := kq.size
        have nr : ∀ b ∈ sblk r, b ≠ a := fun b hb => by
          rcases n1 b hb with h' | h'
          · exact (hc.d1 b h').1
          · have := h'.1; omega
        have nr2 : ∀ b ∈ sblk r2, b ≠ a := fun b hb => by
          rcases n2 b hb with h' | h'
          · exact (hc.d2 b h').1
          · have := h'.1; omega
        refine hB _ _ ⟨rfl, ⟨a :: (sblk sl ++ sblk st), fun b hb => h.aA b (sub b hb), kc.nil.trans kt⟩, r, r2, sf, xs ++ [y], ?_⟩
        refine hc.push (fun b hb => h.lt b hb) hy (fun b hb => hb) zc kt (fun b hb => .inl (sub b hb)) (by simpa using f2) (o1.keep kq fun b hb hm => by simp at hm; exact nr b hb hm) (o2.keep kq fun b hb hm => by simp at hm; exact nr2 b hb hm) (hc.of.keep kt fun b hb hm => ?_) (fun b hb => ?_) (fun b hb => ?_) dis
        · simp only [List.mem_cons, List.mem_append] at hm
          rcases hm with h' | h' | h'
          · exact hc.d3 b hb h'
          · exact (hc.d1 b h').2.2 hb
          · exact (hc.d2 b h').2 hb
        · rcases n1 b hb with h' | h'
          · exact .inl h'
          · exact .inr ⟨h'.1, by have := h'.2; omega⟩
        · rcases n2 b hb with h' | h'
          · exact .inl h'
          · exact .inr ⟨h'.1, by have := h'.2; omega⟩
      -- the second append
      have snd : ∀ {Wc w w2 : World} {y : NdX} {r : Sl} {bb : Nat}, ArenaX A Wc a sl st sf xs ns [] → NdA (newA W Wc) Wc y n → Keeps [] W Wc → Keeps [] Wc w → Keeps (sblk sl) w w2 → OwnS w2 0 75 5 r ((xs ++ [y]).flatMap ndC) → (∀ b ∈ sblk r, b ∈ sblk sl ∨ newA w w2 b) → Blk w2 bb [.bool true] 4 →
          runG' Try.prog (.val (.one .sl)) (Builtin.append_ #[109, 109] 109 #[.slice st.a st.len st.cap, .slice (some (Addr.mk bb 0 none)) 1 1]) w2 fun (r2 : Sl) W => st1 ⟨a, 0, none⟩ (.slice r.a r.len r.cap) W fun W => st1 ⟨a, 1, none⟩ (.slice r2.a r2.len r2.cap) W fun W => B (some ⟨a, 0, none⟩, ()) W := fun {Wc w w2 y r bb} hc hy kc kw k2' o1 n1 eb => by
        have z1' := kw.size
        have z2' := k2'.size
        have ot2 := (hc.ot.keep kw (by simp)).keep k2' fun b hb hm => (hc.d1 b hm).2.1 hb
        refine app_own' uBools hiB hzB hsB hbB rfl (by decide) ot2 [.bool true] rfl (fun j u hj => by rw [addr0, eb.cell]; exact hj) (by simp [Value.oneCell']) (by omega) (by omega) (Nat.zero_le _) fun r2 w3 o2 k3 l3' n2 _ => ?_
        have z3' := k3.size
        have lst := hc.ot.lt
        have lsl := hc.ol.lt
        have kall : Keeps (sblk sl ++ sblk st) Wc w3 := (kw.nil.trans (k2'.mono fun b hb => by simp [hb])).trans (k3.mono fun b hb => by simp [hb])
        have dsj : ∀ b ∈ sblk r, b ∉ sblk st := fun b hb hm => by
          rcases n1 b hb with h' | h'
          · exact (hc.d1 b h').2.1 hm
          · have := h'.1; have := (lst b hm).2; omega
        refine fin hc hy kc kall (o1.keep k3 fun b hb hm => dsj b hb hm) (by rw [List.map_append]; exact o2) (fun b hb => ?_) (fun b hb => ?_) fun b hb hm => ?_
        · rcases n1 b hb with h' | h'
          · exact .inl h'
          · exact .inr ⟨by have := h'.1; omega, by have := h'.2; omega⟩
        · rcases n2 b hb with h' | h'
          · exact .inl h'
          · exact .inr ⟨by have := h'.1; omega, h'.2⟩
        · rcases n2 b hm with h' | h'
          · exact dsj b hb h'
          · rcases n1 b hb with h'' | h''
            · have := (lsl b h'').2; have := h'.1; omega
            · have := h''.2; have := h'.1; omega
      -- the first append
      have fst' : ∀ {Wc w : World} {y : NdX} {bn : Nat} {K' : Sl → World → Prop}, ArenaX A Wc a sl st sf xs ns [] → Keeps [] Wc w → Blk w bn (ndC y) 75 → (∀ r w2, Keeps (sblk sl) w w2 → OwnS w2 0 75 5 r ((xs ++ [y]).flatMap ndC) → (∀ b ∈ sblk r, b ∈ sblk sl ∨ newA w w2 b) → K' r w2) →
          runG' Try.prog (.val (.one .sl)) (Builtin.append_ #[156, 156] 156 #[.slice sl.a sl.len sl.cap, .slice (some (Addr.mk bn 0 none)) 1 1]) w K' := fun {Wc w y bn K'} hc kw en hk' => by
        refine app_own' uNodes hiN hzN hsN hbN rfl (by decide) (hc.ol.keep kw (by simp)) (ndC y) rfl (fun j u hj => by rw [addr0, en.cell]; exact hj) (by simp [Value.oneCell']) (by omega) (by omega) (Nat.zero_le _) fun r w2 o1 k3 l3' n1 _ => ?_
        exact hk' r w2 k3 (by rw [List.flatMap_append]; simpa using o1) n1
      have inS : ∀ {Wc w : World}, ArenaX A Wc a sl st sf xs ns [] → Keeps [] Wc w → w.cell? ⟨a, 0, none⟩ = some sl.val ∧ w.cell? ⟨a, 1, none⟩ = some st.val := fun hc kw => ⟨(hc.hd.keep kw (by simp)).cell 0, (hc.hd.keep kw (by simp)).cell 1⟩
      have inS2 : ∀ {Wc w w2 : World}, ArenaX A Wc a sl st sf xs ns [] → Keeps [] Wc w → Keeps (sblk sl) w w2 → w2.cell? ⟨a, 0, none⟩ = some sl.val ∧ w2.cell? ⟨a, 1, none⟩ = some st.val := fun hc kw k2' =>
        have hd := (hc.hd.keep kw (by simp)).keep k2' fun hm => (hc.d1 _ hm).1 rfl
        ⟨hd.cell 0, hd.cell 1⟩
      have two : ∀ {Wc w : World} {y : NdX} {bn bb : Nat}, ArenaX A Wc a sl st sf xs ns [] → NdA (newA W Wc) Wc y n → Keeps [] W Wc → Keeps [] Wc w → Blk w bn (ndC y) 75 → Blk w bb [.bool true] 4 → bb ∉ sblk sl →
          runG' Try.prog (.val (.one .sl)) (Builtin.append_ #[156, 156] 156 #[.slice sl.a sl.len sl.cap, .slice (some (Addr.mk bn 0 none)) 1 1]) w fun (r : Sl) W => (W.cell? ⟨a, 0, none⟩ = some sl.val ∧ W.cell? ⟨a, 1, none⟩ = some st.val) ∧ (runG' Try.prog (.val (.one .sl)) (Builtin.append_ #[109, 109] 109 #[.slice st.a st.len st.cap, .slice (some (Addr.mk bb 0 none)) 1 1]) W fun (r2 : Sl) W => st1 ⟨a, 0, none⟩ (.slice r.a r.len r.cap) W fun W => st1 ⟨a, 1, none⟩ (.slice r2.a r2.len r2.cap) W fun W => B (some ⟨a, 0, none⟩, ()) W) := fun {Wc w y bn bb} hc hy kc kw en eb nb =>
        fst' hc kw en fun r w2 k3 o1 n1 => ⟨inS2 hc kw k3, snd hc hy kc kw k3 o1 n1 (eb.keep k3 nb)⟩
      have lsl := h2.ol.lt
      have cp : ∀ {w w' : World} {y : NdX}, Keeps [] W w → NdA (newA w w') w' y n → NdA (newA W w') w' y n := fun kw hy => hy.mono fun b hb => ⟨Nat.le_trans kw.size hb.1, hb.2⟩
      refine ⟨ld5 (x := x) e12 ⟨inS h2 (Keeps.refl _ _), ⟨copied_spec (hx.keep0 k02) hsm fun y W3 hy k3 => ?_, ?_⟩⟩, ?_⟩
      · have h3 := h2.keep k3 (by simp)
        have k03 := k02.trans k3
        refine ⟨inS h3 (Keeps.refl _ _), ⟨?_, ?_⟩⟩
        · refine new_blk fun bn W4 hbn k4 en => ⟨inS h3 k4, ⟨?_, ?_⟩⟩
          · refine fst' h3 k4 en fun r W5 k5 o5 n5 => ⟨inS2 h3 k4 k5, new_blk fun bb W6 hbb k6 eb => ?_⟩
            have z6 := k6.size
            have kk : Keeps (sblk sl) W4 W6 := k5.trans k6.nil
            exact ⟨inS2 h3 k4 kk, snd h3 (cp k02 hy) k03 k4 kk (o5.keep k6 (by simp)) (fun b hb => (n5 b hb).imp id fun h' => ⟨h'.1, by have := h'.2; omega⟩) eb⟩
          · refine new_blk fun bb W5 hbb k5 eb => ⟨inS h3 (k4.trans k5), ?_⟩
            exact two h3 (cp k02 hy) k03 (k4.trans k5) (en.keep k5 (by simp)) eb fun hm => by have := (lsl _ hm).2; have := k3.size; have := k4.size; omega
        · refine new_blk fun bb W4 hbb k4 eb => ⟨inS h3 k4, new_blk fun bn W5 hbn k5 en => ⟨inS h3 (k4.trans k5), ?_⟩⟩
          exact two h3 (cp k02 hy) k03 (k4.trans k5) en (eb.keep k5 (by simp)) fun hm => by have := (lsl _ hm).2; have := k3.size; omega
      · refine new_blk fun bb W3 hbb k3 eb => ⟨inS h2 k3, copied_spec ((hx.keep0 k02).keep0 k3) hsm fun y W4 hy k4 => ?_⟩
        have h4 := h2.keep (k3.trans k4) (by simp)
        have k03 := k02.trans k3
        refine ⟨inS h4 (Keeps.refl _ _), new_blk fun bn W5 hbn k5 en => ⟨inS h4 k5, ?_⟩⟩
        exact two h4 (cp k03 hy) (k03.trans k4) k5 en ((eb.keep k4 (by simp)).keep k5 (by simp)) fun hm => by have := (lsl _ hm).2; omega
      · refine new_blk fun bb W3 hbb k3 eb => ⟨inS h2 k3, ld5 (x := x) (e12.keep k3 (by simp)) ⟨inS h2 k3, copied_spec ((hx.keep0 k02).keep0 k3) hsm fun y W4 hy k4 => ?_⟩⟩
        have h4 := h2.keep (k3.trans k4) (by simp)
        have k03 := k02.trans k3
        refine ⟨inS h4 (Keeps.refl _ _), new_blk fun bn W5 hbn k5 en => ⟨inS h4 k5, ?_⟩⟩
        exact two h4 (cp k03 hy) (k03.trans k4) k5 en ((eb.keep k4 (by simp)).keep k5 (by simp)) fun hm => by have := (lsl _ hm).2; omega
end Go.Proofs.Ytbaclnddcobdmaa
