/-
  Kb: texts of ours, one behind the other: Ga13, Ga14, Ga15, Ga16, Ga163, Ga17, Ga18, Ga19, Ga20, Ga21, Ga22, Ga23, Ga231.
-/
import Derived.Test.YteljallgjmhkdaaKa
set_option linter.unusedSimpArgs false
set_option linter.unusedVariables false
namespace Go.Ga
open Go Go.Gp
section
variable {cx : Cx} {W0 : World} {w0 : Mk} {X : Nat → Prop} {E : Env} {B : BL} {O : OL} {H : HP} {W W' W'' : World} {K : AV → BL → OL → HP → Prop}
structure OnlyB (W W' : World) (b : Nat) : Prop where
  os : W'.os = W.os
  tape : W'.tape = W.tape
  output : W'.output = W.output
  size : W'.heap.size = W.heap.size
  other : ∀ c, c ≠ b → W'.heap[c]? = W.heap[c]?
theorem OnlyB.refl (W : World) (b : Nat) : OnlyB W W b := ⟨rfl, rfl, rfl, rfl, fun _ _ => rfl⟩
theorem OnlyB.trans {b : Nat} (h : OnlyB W W' b) (k : OnlyB W' W'' b) : OnlyB W W'' b := ⟨k.os.trans h.os, k.tape.trans h.tape, k.output.trans h.output, k.size.trans h.size, fun c hc => (k.other c hc).trans (h.other c hc)⟩
theorem only_set (b o : Nat) (v : Value) : OnlyB W (W.setCell ⟨b, o, none⟩ v) b := by
  refine ⟨rfl, rfl, rfl, by simp [World.setCell], fun c hc => ?_⟩
  simp only [World.setCell, Array.getElem?_modify]
  rw [if_neg (fun e => hc e.symm)]
theorem cells_of_ob {C : Array Value} {t : TypeId} {b : Nat} (h : W.heap[b]? = some (.cells C t (0, 0))) (o : Nat) (v : Value) : (W.setCell ⟨b, o, none⟩ v).heap[b]? = some (.cells (C.setIfInBounds o v) t (0, 0)) := by
  simp [World.setCell, Array.getElem?_modify, h]
theorem store_cells {P : Program} {t : TypeId} {b : Nat} : ∀ (ws : List Value) (off i : Nat) {C : Array Value} {W : World}, W.heap[b]? = some (.cells C t (0, 0)) → off + i + ws.length ≤ C.size → (∀ w ∈ ws, w.oneCell' = true) →
    ∃ W' C', (storeCells ⟨b, off, none⟩ ws i).run P W = .ok () W' ∧ W'.heap[b]? = some (.cells C' t (0, 0)) ∧ C'.toList = putV C.toList (off + i) ws ∧ OnlyB W W' b
  | [], off, i, C, W, h, _, _ => ⟨W, C, rfl, h, rfl, OnlyB.refl _ _⟩
  | v :: ws, off, i, C, W, h, hle, h1 => by
    simp only [List.length_cons] at hle
    have hc : W.cell? ⟨b, off + i, none⟩ = some (C[off + i]'(by omega)) := by simp [World.cell?, h, Array.getElem?_eq_getElem (show off + i < C.size by omega)]
    have hf : W.frozen? ⟨b, off + i, none⟩ = false := by simp [World.frozen?, h]
    obtain ⟨W', C', r1, r2, r3, r4⟩ := store_cells (P := P) ws off (i + 1) (cells_of_ob h (off + i) v) (by simp; omega) fun w hw => h1 w (by simp [hw])
    refine ⟨W', C', ?_, r2, ?_, (only_set b (off + i) v).trans r4⟩
    · have ha : (Addr.mk b off none).add i = ⟨b, off + i, none⟩ := addr_add _ _ _
      simp [storeCells, run_store P W _ v .plain (h1 v (by simp)), ha, hc, hf, r1]
    · rw [r3, Array.toList_setIfInBounds]; rfl
theorem store_run {P : Program} {t ty : TypeId} {i : TypeInfo} {b off : Nat} {C : Array Value} {v : Value} (hi : P.info? t = some i) (h : W.heap[b]? = some (.cells C ty (0, 0))) (hsz : v.cells.size = i.size) (hle : off + i.size ≤ C.size) (h1 : ∀ w ∈ v.cells.toList, w.oneCell' = true) :
    ∃ W' C', (Instr.storeAt t (.pointer (some ⟨b, off, none⟩)) v).run P W = .ok () W' ∧ W'.heap[b]? = some (.cells C' ty (0, 0)) ∧ C'.toList = putV C.toList off v.cells.toList ∧ OnlyB W W' b := by
  obtain ⟨W', C', r1, r2, r3, r4⟩ := store_cells (P := P) v.cells.toList off 0 h (by rw [Array.length_toList]; omega) h1
  exact ⟨W', C', by simp [Instr.storeAt, Instr.sureAddr, storeVar, run_szof hi, hsz, r1], r2, r3, r4⟩
theorem reps_one : ∀ {us : List AV0} {ws : List Value}, VReps E W us ws → (∀ a ∈ us, a ≠ .dead ∧ a ≠ .und) → ∀ w ∈ ws, w.oneCell' = true
  | [], [], _, _, w, hw => by simp at hw
  | a :: us, v :: ws, h, hn, w, hw => by
    rcases List.mem_cons.1 hw with rfl | hw
    · exact (cells_one (hn a (by simp)).1 (hn a (by simp)).2 h.1).2
    · exact reps_one h.2 (fun b hb => hn b (by simp [hb])) w hw
  | [], _ :: _, h, _, _, _ => h.elim
  | _ :: _, [], h, _, _, _ => h.elim
theorem only_pers {b : Nat} {τ : Tag} (ho : OnlyB W W' b) (hb : E.w b = some τ) (hne : τ ≠ .ext) : Pers E W E W' :=
  ⟨fun c hc hl => ⟨hc, SameC.of (ho.other c fun e => by subst e; have hc : E.w c = none := hc; rw [hb] at hc; cases hc)⟩, fun c hc => ⟨hc, ho.other c fun e => by subst e; rw [hb] at hc; injection hc with hc; exact hne hc⟩, fun _ h => ⟨h, rfl⟩, fun _ h => ⟨h, rfl⟩, rfl⟩
theorem only_same {b : Nat} {τ u : Tag} (ho : OnlyB W W' b) (hb : E.w b = some τ) (hu : u ≠ τ) : Same E.w W E.w W' u u := fun c => ⟨Iff.rfl, fun hc => ho.other c fun e => by subst e; rw [hb] at hc; injection hc with hc; exact hu hc.symm⟩
theorem only_since {b : Nat} {τ : Tag} (hm : RelM W0 w0 X E B O H W) (ho : OnlyB W W' b) (hb : E.w b = some τ) (hne : τ ≠ .ext) : Since W0 w0 W' E.w := by
  have hs := hm.since
  refine ⟨ho.os.trans hs.os, ho.tape.trans hs.tape, ho.output.trans hs.output, by rw [ho.size]; exact hs.size, fun c hc h => ?_, fun c h => ?_, hs.noext⟩
  · obtain ⟨h1, h2⟩ := hs.im c hc h
    exact ⟨h1, (ho.other c fun e => by subst e; rw [hb] at h1; cases h1).trans h2⟩
  · obtain ⟨h1, h2⟩ := hs.ext c h
    exact ⟨h1, (ho.other c fun e => by subst e; rw [hb] at h1; injection h1 with h1; exact hne h1).trans h2⟩
theorem setC_sound {g : Nat → OwE} (hg : GOk E W g) {a : AV0} {v : Value} (hv : VRep0 E W a v) {tg : Nat → Tag} : ∀ {k : AK} {j0 : Nat} {vs : List Value} {x : k.T} {j : Nat} {Kr : k.T → Prop}, k.good = true → TCel E.w W tg k j0 vs x → setC g a k x j Kr → ∃ y, Kr y ∧ j < k.sz ∧ TCel E.w W tg k j0 (vs.set j v) y
  | .cons p q, j0, vs, x, j, Kr, hgd, hc, h => by
    simp only [AK.good, Bool.and_eq_true] at hgd
    obtain ⟨va, vb, rfl, ha, hb⟩ := hc
    have hla := ha.len
    simp only [setC] at h
    split at h
    · rename_i hj
      obtain ⟨y, h1, h2, h3⟩ := setC_sound hg hv hgd.1 ha h
      exact ⟨_, h1, by simp only [AK.sz]; omega, va.set j v, vb, by rw [List.set_append_left _ _ (by omega)], h3, hb⟩
    · rename_i hj
      obtain ⟨y, h1, h2, h3⟩ := setC_sound hg hv hgd.2 hb h
      exact ⟨_, h1, by simp only [AK.sz]; omega, va, vb.set (j - p.sz) v, by rw [List.set_append_right _ _ (by omega), hla], ha, h3⟩
  | .fn k, j0, vs, x, j, Kr, hgd, hc, h => by
    simp only [setC] at h
    split at h <;> first | exact h.elim | skip
    obtain ⟨y, h1, h2⟩ := dataA_sound hg hv hgd h
    have hl := hc.len
    obtain ⟨u, rfl⟩ := len1 hl
    exact ⟨y, h1, by simp [AK.sz], h2⟩
  | .one k, j0, vs, x, j, Kr, hgd, hc, h => by
    simp only [setC] at h
    split at h <;> first | exact h.elim | skip
    obtain ⟨y, h1, h2⟩ := dataA_sound hg hv hgd h
    have hl := hc.len
    obtain ⟨u, rfl⟩ := len1 hl
    exact ⟨y, h1, by simp [AK.sz], h2⟩
  | .byte, j0, vs, x, j, Kr, hgd, hc, h => by
    simp only [setC] at h
    split at h <;> first | exact h.elim | skip
    obtain ⟨y, h1, h2⟩ := dataA_sound (k := .byte) hg hv hgd h
    have hl := TCel.len (k := .byte) hc
    obtain ⟨u, rfl⟩ := len1 hl
    exact ⟨y, h1, by simp [AK.sz], h2⟩
  | .ref, j0, vs, x, j, Kr, hgd, hc, h => by
    simp only [setC] at h
    split at h <;> first | exact h.elim | skip
    obtain ⟨y, h1, h2⟩ := dataA_sound (k := .ref) hg hv hgd h
    have hl := TCel.len (k := .ref) hc
    obtain ⟨u, rfl⟩ := len1 hl
    exact ⟨y, h1, by simp [AK.sz], h2⟩
  | .row e, j0, vs, x, j, Kr, hgd, hc, h => by
    simp only [setC] at h
    split at h <;> first | exact h.elim | skip
    obtain ⟨y, h1, h2⟩ := dataA_sound hg hv hgd h
    have hl := hc.len
    obtain ⟨u, rfl⟩ := len1 hl
    exact ⟨y, h1, by simp [AK.sz], h2⟩
  | .own _ _, _, _, _, _, _, _, _, h => h.elim
  | .brw _, _, _, _, _, _, _, _, h => h.elim
  | .nil, _, _, _, _, _, _, _, h => h.elim
theorem setCs_sound {g : Nat → OwE} (hg : GOk E W g) {tg : Nat → Tag} {k : AK} {j0 : Nat} (hgd : k.good = true) : ∀ {us : List AV0} {ws : List Value} {vs : List Value} {x : k.T} {j : Nat} {Kr : k.T → Prop}, VReps E W us ws → TCel E.w W tg k j0 vs x → setCs g k x j us Kr → ∃ y, Kr y ∧ (us ≠ [] → j + us.length ≤ k.sz) ∧ TCel E.w W tg k j0 (putV vs j ws) y
  | [], [], vs, x, j, Kr, _, hc, h => ⟨x, h, fun h => absurd rfl h, hc⟩
  | a :: us, w :: ws, vs, x, j, Kr, hr, hc, h => by
    simp only [setCs] at h
    obtain ⟨y, h1, h2, h3⟩ := setC_sound hg hr.1 hgd hc h
    obtain ⟨z, h4, h5, h6⟩ := setCs_sound hg hgd hr.2 h3 h1
    refine ⟨z, h4, fun _ => ?_, h6⟩
    simp only [List.length_cons]
    by_cases hu : us = []
    · subst hu; simp; omega
    · have := h5 hu; omega
  | [], _ :: _, _, _, _, _, hr, _, _ => hr.elim
  | _ :: _, [], _, _, _, _, hr, _, _ => hr.elim
theorem setC_dat {g : Nat → OwE} (hg : GOk E W g) {a : AV0} {v : Value} (hv : VRep0 E W a v) : ∀ {k : AK} {vs : List Value} {x : k.T} {j : Nat} {Kr : k.T → Prop}, k.good = true → Dat (imm E.w) W k vs x → setC g a k x j Kr → ∃ y, Kr y ∧ j < k.sz ∧ Dat (imm E.w) W k (vs.set j v) y
  | .cons p q, vs, x, j, Kr, hgd, hc, h => by
    simp only [AK.good, Bool.and_eq_true] at hgd
    obtain ⟨va, vb, rfl, ha, hb⟩ := hc
    have hla := ha.len
    simp only [setC] at h
    split at h
    · rename_i hj
      obtain ⟨y, h1, h2, h3⟩ := setC_dat hg hv hgd.1 ha h
      exact ⟨_, h1, by simp only [AK.sz]; omega, va.set j v, vb, by rw [List.set_append_left _ _ (by omega)], h3, hb⟩
    · rename_i hj
      obtain ⟨y, h1, h2, h3⟩ := setC_dat hg hv hgd.2 hb h
      exact ⟨_, h1, by simp only [AK.sz]; omega, va, vb.set (j - p.sz) v, by rw [List.set_append_right _ _ (by omega), hla], ha, h3⟩
  | .fn k, vs, x, j, Kr, hgd, hc, h => setC_sound (tg := fun _ => .ext) (k := .fn k) (j0 := 0) hg hv hgd hc h
  | .one k, vs, x, j, Kr, hgd, hc, h => setC_sound (tg := fun _ => .ext) (k := .one k) (j0 := 0) hg hv hgd hc h
  | .byte, vs, x, j, Kr, hgd, hc, h => setC_sound (tg := fun _ => .ext) (k := .byte) (j0 := 0) hg hv hgd hc h
  | .ref, vs, x, j, Kr, hgd, hc, h => setC_sound (tg := fun _ => .ext) (k := .ref) (j0 := 0) hg hv hgd hc h
  | .row e, vs, x, j, Kr, hgd, hc, h => setC_sound (tg := fun _ => .ext) (k := .row e) (j0 := 0) hg hv hgd hc h
  | .own _ _, _, _, _, _, _, _, h => h.elim
  | .brw _, _, _, _, _, _, _, h => h.elim
  | .nil, _, _, _, _, _, _, h => h.elim
theorem setCs_dat {g : Nat → OwE} (hg : GOk E W g) {k : AK} (hgd : k.good = true) : ∀ {us : List AV0} {ws : List Value} {vs : List Value} {x : k.T} {j : Nat} {Kr : k.T → Prop}, VReps E W us ws → Dat (imm E.w) W k vs x → setCs g k x j us Kr → ∃ y, Kr y ∧ (us ≠ [] → j + us.length ≤ k.sz) ∧ Dat (imm E.w) W k (putV vs j ws) y
  | [], [], vs, x, j, Kr, _, hc, h => ⟨x, h, fun h => absurd rfl h, hc⟩
  | a :: us, w :: ws, vs, x, j, Kr, hr, hc, h => by
    simp only [setCs] at h
    obtain ⟨y, h1, h2, h3⟩ := setC_dat hg hr.1 hgd hc h
    obtain ⟨z, h4, h5, h6⟩ := setCs_dat hg hgd hr.2 h3 h1
    refine ⟨z, h4, fun _ => ?_, h6⟩
    simp only [List.length_cons]
    by_cases hu : us = []
    · subst hu; simp; omega
    · have := h5 hu; omega
  | [], _ :: _, _, _, _, _, hr, _, _ => hr.elim
  | _ :: _, [], _, _, _, _, hr, _, _ => hr.elim
theorem flat_set1 {k : Nat} : ∀ (css : List (List Value)) (i j : Nat) (w : Value) (cs : List Value), (∀ c ∈ css, c.length = k) → css[i]? = some cs → j < k → css.flatten.set (i * k + j) w = (css.set i (cs.set j w)).flatten
  | [], i, j, w, cs, _, h, _ => by simp at h
  | c :: css, 0, j, w, cs, hl, h, hj => by
    simp at h
    subst h
    have := hl c (by simp)
    simp only [List.flatten_cons, List.set_cons_zero, Nat.zero_mul, Nat.zero_add]
    rw [List.set_append_left _ _ (by omega)]
  | c :: css, i + 1, j, w, cs, hl, h, hj => by
    have hc := hl c (by simp)
    simp only [List.flatten_cons, List.set_cons_succ]
    have he : (i + 1) * k + j = k + (i * k + j) := by rw [Nat.add_mul, Nat.one_mul]; omega
    rw [List.set_append_right _ _ (by rw [hc, he]; omega), hc, show (i + 1) * k + j - k = i * k + j from by omega, flat_set1 css i j w cs (fun c hc => hl c (by simp [hc])) (by simpa using h) hj]
theorem set_same (css : List (List Value)) (i : Nat) (cs : List Value) (h : css[i]? = some cs) : css.set i cs = css := by
  apply List.ext_getElem?
  intro q
  rw [List.getElem?_set]
  split
  · rename_i e; subst e; rw [if_pos (List.getElem?_eq_some_iff.1 h).1, h]
  · rfl
theorem flat_put {k : Nat} (i : Nat) : ∀ (ws : List Value) (css : List (List Value)) (j : Nat) (cs : List Value), (∀ c ∈ css, c.length = k) → css[i]? = some cs → j + ws.length ≤ k → putV css.flatten (i * k + j) ws = (css.set i (putV cs j ws)).flatten
  | [], css, j, cs, _, hi, _ => by simp only [putV]; rw [set_same css i cs hi]
  | w :: ws, css, j, cs, h, hi, hle => by
    simp only [List.length_cons] at hle
    have hcl := h cs (List.mem_of_getElem? hi)
    simp only [putV]
    rw [flat_set1 css i j w cs h hi (by omega), show i * k + j + 1 = i * k + (j + 1) from by omega]
    have hlt := (List.getElem?_eq_some_iff.1 hi).1
    rw [flat_put i ws (css.set i (cs.set j w)) (j + 1) (cs.set j w) (fun c hc => by
      rcases List.mem_or_eq_of_mem_set hc with hc | rfl
      · exact h c hc
      · simpa using hcl) (by rw [List.getElem?_set]; simp [hlt]) (by omega), List.set_set]
theorem putV_take : ∀ (ws cs : List Value) (j n : Nat), j + ws.length ≤ n → (putV cs j ws).take n = putV (cs.take n) j ws
  | [], cs, j, n, _ => rfl
  | w :: ws, cs, j, n, h => by
    simp only [List.length_cons] at h
    simp only [putV]
    rw [putV_take ws (cs.set j w) (j + 1) n (by omega), List.take_set]
theorem noDead_all : ∀ {us : List AV0}, noDead us = true → ∀ a ∈ us, a ≠ .dead ∧ a ≠ .und
  | [], _, a, ha => by simp at ha
  | b :: us, h, a, ha => by
    have hb : b ≠ .dead ∧ b ≠ .und ∧ noDead us = true := by cases b <;> simp [noDead] at h <;> exact ⟨by simp, by simp, h⟩
    rcases List.mem_cons.1 ha with rfl | ha
    · exact ⟨hb.1, hb.2.1⟩
    · exact noDead_all hb.2.2 a ha
theorem store_sound {t : TypeId} {a x : AV} {va vx : Value} {Kr : BL → OL → HP → Prop} {ac : Act} {o : Oper} (hm : RelM W0 w0 X E B O H W) (h : storeOf cx t a x B O H Kr) (hva : VRep E W a va) (hvx : VRep E W x vx)
    (hrun : ∀ W', (Instr.storeAt t va vx).run cx.P W = .ok () W' → (execOp ac.eval o).run cx.P W = .ok .skip W') : Gets cx.P o ac W (EfK W0 w0 X E B O H W fun av B O H => av = .v .und ∧ Kr B O H) := by
  unfold storeOf at h
  split at h <;> first | exact h.elim | skip
  rename_i ag n hsz
  obtain ⟨d, i, hd, hi, rfl, rfl⟩ := szOf_some hsz
  split at h <;> first | exact h.elim | skip
  rename_i us hus
  split at h <;> first | exact h.elim | skip
  rename_i hul
  obtain ⟨hul, hn0, hnd⟩ := hul
  have hcr := cells_rep hus hvx
  have hcl := hcr.len
  have hcs : vx.cells.size = i.size := by rw [← hul, hcl, Array.length_toList]
  have hone : ∀ w ∈ vx.cells.toList, w.oneCell' = true := reps_one hcr (noDead_all hnd)
  split at h
  · -- a local box
    rename_i b j
    obtain ⟨hvb, rfl⟩ := hva
    split at h <;> first | exact h.elim | skip
    rename_i nm cs hb
    split at h <;> first | exact h.elim | skip
    rename_i hle
    have hbox := hm.bx b
    rw [hb] at hbox
    have hnx : ¬ X b := fun hx => by have := (hbox.1 hx).2; rw [hvb] at this; cases this
    obtain ⟨_, htag, hnm, vs, ty, hblk, hrep⟩ := hbox.2 hnx
    have hvl := hrep.len
    obtain ⟨W', C', r1, r2, r3, r4⟩ := store_run (P := cx.P) (C := ⟨vs⟩) (off := j) hi hblk hcs (by simp only [List.size_toArray]; omega) hone
    have htg := (htag _).2 rfl
    have pers := only_pers r4 htg (by simp)
    refine gets_skip (hrun _ r1) ⟨.v .und, setB B b (.bx nm (putC cs j us)), O, H, E, ⟨rfl, h⟩, rfl, ⟨fun c hc => hm.wf c (by rw [← r4.size]; exact hc), only_since hm r4 htg (by simp), fun q => ?_, fun k => (hm.ow k).keep pers (only_same r4 htg (by simp)) id, fun n => (hm.ob n).keep pers.im (only_same r4 htg (by simp)) fun j => only_same r4 htg (by simp), hm.clean, hm.ba⟩, pers, by rw [r4.size]; exact Nat.le_refl _, fun q hq => ?_, fun q n k => ?_⟩
    · rw [getB_set]
      by_cases hq : b = q
      · subst hq
        rw [if_pos rfl]
        refine ⟨fun hx => absurd hx hnx, fun _ => ⟨hvb, htag, hnm, C'.toList, ty, ?_, ?_⟩⟩
        · unfold Blk; rw [r2]
        · rw [r3]; exact (putC_rep j hcr hrep).pers pers
      · rw [if_neg hq]
        exact (hm.bx q).keep pers (only_same r4 htg (by simp; exact fun e => hq e.symm)) id
    · rw [getB_set, if_neg (fun e => by subst e; exact hnx hq)]
    · rw [getB_set]
      by_cases hq : b = q
      · subst hq; rw [if_pos rfl, hb]; simp
      · rw [if_neg hq]
  · -- an own row
    rename_i k z q j
    obtain ⟨E1, hm1, p1⟩ := frzs_rel us hm
    have hva1 : VRep0 E1 W (.elp k z q j) va := VRep0.pers p1 hva
    obtain ⟨hvo, hlt, p, hp, rfl⟩ := hva1
    split at h <;> first | exact h.elim | skip
    rename_i e ty xs ho
    split at h <;> first | exact h.elim | skip
    rename_i hz
    subst hz
    obtain ⟨y, hy, h⟩ := h
    have hkk := hm1.ow k
    rw [ho] at hkk
    obtain ⟨_, hg, h0, hown⟩ := hkk
    have ⟨css, q1, q2, q3⟩ := hown.row
    obtain ⟨gb, cs0, e1, e2, e3, e4, e5⟩ := hown.el hy h0
    rw [hp] at e1
    injection e1 with e1
    subst e1
    have hql := (List.getElem?_eq_some_iff.1 hy).1
    have hqc : css[q]? = some css[q] := List.getElem?_eq_getElem (by omega)
    have hcr1 : VReps E1 W us vx.cells.toList := hcr.pers p1
    obtain ⟨y', h1, h2, h3⟩ := setCs_dat (gok_of hm1) hg hcr1 (q2 q _ _ hqc hy) h
    have hall := dat_all_len q1 q2
    rcases q3.2 with ⟨hv0, _⟩ | ⟨g', cap, cur, hv, _, hgg, hc1, hc2, hc3, hc4⟩
    · injection hv0 with hv0; rw [hp] at hv0; cases hv0
    injection hv with hv1 hv2 hv3
    rw [hp] at hv1
    injection hv1 with hv1
    injection hv1 with hv1
    subst hv1
    have hune : us ≠ [] := fun e => by subst e; exact hn0 hul.symm
    have h2 := h2 hune
    have hm1' : (q + 1) * e.sz ≤ xs.length * e.sz := Nat.mul_le_mul_right _ (by omega)
    have hm2 : xs.length * e.sz ≤ cap * e.sz := Nat.mul_le_mul_right _ (by have := hown.len; omega)
    rw [Nat.add_mul, Nat.one_mul] at hm1'
    obtain ⟨W', C', r1, r2, r3, r4⟩ := store_run (P := cx.P) (off := q * e.sz + j) hi hgg hcs (by omega) hone
    have htg : E1.w gb = some (.lo k) := e2
    have pers := only_pers r4 htg (by simp)
    rw [addr_add, addr_add, Nat.zero_add] at hrun
    refine gets_skip (hrun _ r1) ⟨.v .und, B, setO (frzs O us) k (.own e ty (xs.set q y')), H, E1, ⟨rfl, h1⟩, rfl, ⟨fun c hc => hm1.wf c (by rw [← r4.size]; exact hc), only_since hm1 r4 htg (by simp), fun p => (hm1.bx p).keep pers (only_same r4 htg (by simp)) id, fun k' => ?_, fun n => (hm1.ob n).keep pers.im (only_same r4 htg (by simp)) fun j => only_same r4 htg (by simp), hm1.clean, hm1.ba⟩, p1.trans pers (Nat.le_refl _), by rw [r4.size]; exact Nat.le_refl _, fun _ _ => rfl, ClosedSame.refl _⟩
    rw [getO_set]
    by_cases hk : k = k'
    · subst hk
      rw [if_pos rfl]
      refine ⟨hvo, hg, h0, ⟨css.set q (putV css[q] j vx.cells.toList), by simp [q1], fun p cs x hcs' hx => ?_, ?_⟩, by simp only [List.length_set]; exact hown.len, hown.tag⟩
      · rw [List.getElem?_set] at hcs' hx
        by_cases hpq : q = p
        · subst hpq
          rw [if_pos rfl, if_pos (by omega)] at hcs'
          rw [if_pos rfl, if_pos hql] at hx
          injection hcs' with hcs'
          injection hx with hx
          subst hcs' hx
          exact h3.imm pers.im hg
        · rw [if_neg hpq] at hcs' hx
          exact (q2 p cs x hcs' hx).imm pers.im hg
      · have hcl' : (putV css[q] j vx.cells.toList).length = e.sz := by rw [putV_len]; exact hall _ (List.getElem_mem _)
        have hws : vx.cells.toList.length = us.length := hcr1.len.symm
        have hput := flat_put (k := e.sz) q vx.cells.toList css j _ hall hqc (by omega)
        refine ⟨?_, .inr ⟨gb, cap, C', ?_, Nat.zero_le _, r2, hc1, hc2, ?_, ?_⟩⟩
        · rw [flat_length (k := e.sz) _ (fun c hc => by
            rcases List.mem_or_eq_of_mem_set hc with hc | rfl
            · exact hall c hc
            · exact hcl'), List.length_set, q1, hown.len]
        · rw [hp, hv3]
        · rw [← Array.length_toList, r3, putV_len, Array.length_toList, hc3]
        · rw [r3, putV_take _ _ _ _ (by rw [hws, hown.len]; omega), hc4, hput]
    · rw [if_neg hk]
      exact (hm1.ow k').keep pers (only_same r4 htg (by simp; exact fun e => hk e.symm)) id
  · -- an object
    rename_i m k j
    obtain ⟨E1, hm1, p1⟩ := frzs_rel us hm
    have hva : va = .pointer (some ⟨m, j, none⟩) := hva
    subst hva
    split at h <;> first | exact h.elim | skip
    rename_i k' hk'
    obtain ⟨y, hy, h⟩ := h
    have hob := hm1.ob m
    rw [hy] at hob
    have hcr1 : VReps E1 W us vx.cells.toList := hcr.pers p1
    have hgk : k'.good = true := by
      rcases hob with hob | ⟨e, t', s, xs, ho, _⟩ | ⟨e, c, l, ho, _⟩
      · exact hob.1
      rotate_left
      · injection ho with ho _
        subst ho
        cases us with
        | nil => exact absurd hul.symm hn0
        | cons u us => exact h.elim
      · injection ho with ho _
        subst ho
        cases us with
        | nil => exact absurd hul.symm hn0
        | cons u us => exact h.elim
    obtain ⟨htag, hat, vs, ty, hblk, hcel⟩ := hob.dat hgk
    have hg := hgk
    obtain ⟨y', h1, h2, h3⟩ := setCs_sound (gok_of hm1) hg hcr1 hcel h
    have hune : us ≠ [] := fun e => by subst e; exact hn0 hul.symm
    have h2 := h2 hune
    have hvl := hcel.len
    obtain ⟨W', C', r1, r2, r3, r4⟩ := store_run (P := cx.P) (C := ⟨vs⟩) (off := j) hi hblk hcs (by simp only [List.size_toArray]; omega) hone
    have htg := (htag _).2 rfl
    have pers := only_pers r4 htg (by simp)
    refine gets_skip (hrun _ r1) ⟨.v .und, B, frzs O us, H.set m k' y', E1, ⟨rfl, h1⟩, rfl, ⟨fun c hc => hm1.wf c (by rw [← r4.size]; exact hc), only_since hm1 r4 htg (by simp), fun p => (hm1.bx p).keep pers (only_same r4 htg (by simp)) id, fun k => (hm1.ow k).keep pers (only_same r4 htg (by simp)) id, fun n => ?_, hm1.clean, hm1.ba⟩, p1.trans pers (Nat.le_refl _), by rw [r4.size]; exact Nat.le_refl _, fun _ _ => rfl, ClosedSame.refl _⟩
    by_cases hn : n = m
    · subst hn
      show ObjOk _ _ _ (if n = n then _ else _)
      rw [if_pos rfl]
      refine .inl ⟨hg, htag, hat, C'.toList, ty, ?_, ?_⟩
      · unfold Blk; rw [r2]
      · rw [r3]
        exact h3.keep pers.im hg fun i _ _ => only_same r4 htg (by simp)
    · show ObjOk _ _ _ (if n = m then _ else _)
      rw [if_neg hn]
      exact (hm1.ob n).keep pers.im (only_same r4 htg (by simp; exact hn)) fun j => only_same r4 htg (by simp)
  · -- an element of a block that is an object
    rename_i e0 p j
    obtain ⟨E1, hm1, p1⟩ := frzs_rel us hm
    have hva : va = .pointer (some (p.add j)) := hva
    subst hva
    split at h <;> first | exact h.elim | skip
    rename_i e hk'
    obtain ⟨ty, s, xs, q, y, hx, hpq, hy, h⟩ := h
    have hob := hm1.ob p.block
    rw [hx] at hob
    have ha := hob.arr
    have hg := ha.good
    have h0 := ha.sz
    have hown := ha.own
    obtain ⟨css, q1, q2, q3⟩ := hown.row
    have hql := (List.getElem?_eq_some_iff.1 hy).1
    have hqc : css[q]? = some css[q] := List.getElem?_eq_getElem (by omega)
    have hcr1 : VReps E1 W us vx.cells.toList := hcr.pers p1
    obtain ⟨y', h1, h2, h3⟩ := setCs_dat (gok_of hm1) hg hcr1 (q2 q _ _ hqc hy) h
    have hall := dat_all_len q1 q2
    rcases q3.2 with ⟨hv0, _⟩ | ⟨g', cap, cur, hv, _, hgg, hc1, hc2, hc3, hc4⟩
    · injection hv0 with hv0; rw [ha.at0] at hv0; cases hv0
    injection hv with hv1 hv2 hv3
    rw [ha.at0] at hv1
    injection hv1 with hv1
    injection hv1 with hv1
    subst hv1
    have hune : us ≠ [] := fun e => by subst e; exact hn0 hul.symm
    have h2 := h2 hune
    have hm1' : (q + 1) * e.sz ≤ xs.length * e.sz := Nat.mul_le_mul_right _ (by omega)
    have hm2 : xs.length * e.sz ≤ cap * e.sz := Nat.mul_le_mul_right _ (by have := hown.len; omega)
    rw [Nat.add_mul, Nat.one_mul] at hm1'
    obtain ⟨W', C', r1, r2, r3, r4⟩ := store_run (P := cx.P) (off := q * e.sz + j) hi hgg hcs (by omega) hone
    have htg : E1.w p.block = some (.ob p.block) := (hob.tag _).2 rfl
    have pers := only_pers r4 htg (by simp)
    rw [hpq, addr_add] at hrun
    refine gets_skip (hrun _ r1) ⟨.v .und, B, frzs O us, H.set p.block (.arr e ty) (s, xs.set q y'), E1, ⟨rfl, h1⟩, rfl, ⟨fun c hc => hm1.wf c (by rw [← r4.size]; exact hc), only_since hm1 r4 htg (by simp), fun q => (hm1.bx q).keep pers (only_same r4 htg (by simp)) id, fun k => (hm1.ow k).keep pers (only_same r4 htg (by simp)) id, fun n => ?_, hm1.clean, hm1.ba⟩, p1.trans pers (Nat.le_refl _), by rw [r4.size]; exact Nat.le_refl _, fun _ _ => rfl, ClosedSame.refl _⟩
    by_cases hn : n = p.block
    · subst hn
      show ObjOk _ _ _ (if p.block = p.block then _ else _)
      rw [if_pos rfl]
      refine .inr (.inl ⟨e, ty, s, xs.set q y', rfl, hg, h0, ha.at0, ⟨⟨css.set q (putV css[q] j vx.cells.toList), by simp [q1], fun p cs x hcs' hx => ?_, ?_⟩, by simp only [List.length_set]; exact hown.len, hown.tag⟩, ha.noo⟩)
      · rw [List.getElem?_set] at hcs' hx
        by_cases hpq : q = p
        · subst hpq
          rw [if_pos rfl, if_pos (by omega)] at hcs'
          rw [if_pos rfl, if_pos hql] at hx
          injection hcs' with hcs'
          injection hx with hx
          subst hcs' hx
          exact h3.imm pers.im hg
        · rw [if_neg hpq] at hcs' hx
          exact (q2 p cs x hcs' hx).imm pers.im hg
      · have hcl' : (putV css[q] j vx.cells.toList).length = e.sz := by rw [putV_len]; exact hall _ (List.getElem_mem _)
        have hws : vx.cells.toList.length = us.length := hcr1.len.symm
        have hput := flat_put (k := e.sz) q vx.cells.toList css j _ hall hqc (by omega)
        refine ⟨?_, .inr ⟨p.block, cap, C', ?_, Nat.zero_le _, r2, hc1, hc2, ?_, ?_⟩⟩
        · rw [flat_length (k := e.sz) _ (fun c hc => by
            rcases List.mem_or_eq_of_mem_set hc with hc | rfl
            · exact hall c hc
            · exact hcl'), List.length_set, q1, hown.len]
        · rw [ha.at0, hv3]
        · rw [← Array.length_toList, r3, putV_len, Array.length_toList, hc3]
        · rw [r3, putV_take _ _ _ _ (by rw [hws, hown.len]; omega), hc4, hput]
    · show ObjOk _ _ _ (if n = p.block then _ else _)
      rw [if_neg hn]
      exact (hm1.ob n).keep pers.im (only_same r4 htg (by simp; exact hn)) fun j => only_same r4 htg (by simp)
  · exact h.elim
end
end Go.Ga
set_option linter.unusedSimpArgs false
set_option linter.unusedVariables false
namespace Go.Ga
open Go Go.Gp
section
variable {cx : Cx} {W0 : World} {w0 : Mk} {X : Nat → Prop} {E : Env} {B : BL} {O : OL} {H : HP} {W W' W'' : World}
structure Handed (O' O : OL) (c : Nat → Option Nat) : Prop where
  same : ∀ k, c k = none → getO O' k = getO O k
  gone : ∀ k j, c k = some j → getO O' k = .gone ∧ ∃ e t xs, getO O k = .own e t xs
def HCel (E : Env) (W : World) (O : OL) (c : Nat → Option Nat) : (k : AK) → Nat → List Value → k.T → Prop
  | .own e t, j, vs, xs => (vs = [.slice none 0 0] ∧ xs = [] ∧ ∀ k, c k ≠ some j) ∨ ∃ k, (∀ k', c k' = some j ↔ k' = k) ∧ getO O k = .own e t xs ∧ vs = [(E.hdr k).val]
  | .cons a b, j, vs, x => ∃ va vb, vs = va ++ vb ∧ HCel E W O c a j va x.1 ∧ HCel E W O c b (j + a.sz) vb x.2
  | .arr _ _, _, _, _ => False
  | .mp _, _, _, _ => False
  | .brw e, j, vs, xs => ∃ s : Sl, vs = [s.val] ∧ RowIs (rdl E.w) W e.sz (Dat (imm E.w) W e) s xs
  | .fn k, j, vs, x => Dat (imm E.w) W (.fn k) vs x
  | .one k, j, vs, x => Dat (imm E.w) W (.one k) vs x
  | .byte, j, vs, x => Dat (imm E.w) W .byte vs x
  | .ref, j, vs, x => Dat (imm E.w) W .ref vs x
  | .row e, j, vs, x => Dat (imm E.w) W (.row e) vs x
  | .nil, j, vs, x => Dat (imm E.w) W .nil vs x
structure Later (E : Env) (O : OL) (c : Nat → Option Nat) (j : Nat) (E' : Env) (O' : OL) (c' : Nat → Option Nat) : Prop where
  old : ∀ k i, c k = some i → c' k = some i
  new : ∀ k i, c' k = some i → c k = some i ∨ (j ≤ i ∧ c k = none)
  own : ∀ k i, c k = some i → getO O' k = getO O k
  rd : ∀ b, rdl E.w b → rdl E'.w b
theorem Later.refl (E : Env) (O : OL) (c : Nat → Option Nat) (j : Nat) : Later E O c j E O c := ⟨fun _ _ h => h, fun _ _ h => .inl h, fun _ _ _ => rfl, fun _ h => h⟩
theorem Later.trans {E E' E'' : Env} {O O' O'' : OL} {c c' c'' : Nat → Option Nat} {j j' : Nat} (h : Later E O c j E' O' c') (k : Later E' O' c' j' E'' O'' c'') (hj : j ≤ j') : Later E O c j E'' O'' c'' := by
  refine ⟨fun a i ha => k.old a i (h.old a i ha), fun a i ha => ?_, fun a i ha => (k.own a i (h.old a i ha)).trans (h.own a i ha), fun b hb => k.rd b (h.rd b hb)⟩
  rcases k.new a i ha with h1 | ⟨h1, h2⟩
  · exact h.new a i h1
  · refine .inr ⟨by omega, ?_⟩
    cases hc : c a with
    | none => rfl
    | some x => rw [h.old a x hc] at h2; cases h2
theorem HCel.later {E' : Env} {O' : OL} {c c' : Nat → Option Nat} {j0 : Nat} (hp : Pers E W E' W) (hl : Later E O c j0 E' O' c') (hvo : ∀ k i, c k = some i → E.vo k = true) : ∀ {k : AK} {j : Nat} {vs : List Value} {x : k.T}, k.goodB = true → j + k.sz ≤ j0 → HCel E W O c k j vs x → HCel E' W O' c' k j vs x
  | .own e t, j, vs, xs, g, hj, h => by
    simp only [AK.sz] at hj
    rcases h with ⟨h1, h2, h3⟩ | ⟨k, h1, h2, h3⟩
    · refine .inl ⟨h1, h2, fun k hk => ?_⟩
      rcases hl.new k j hk with h4 | h4
      · exact h3 k h4
      · omega
    · have hk := (h1 k).2 rfl
      refine .inr ⟨k, fun k' => ⟨fun hk' => ?_, fun e => by subst e; exact hl.old _ _ hk⟩, (hl.own k j hk).trans h2, by rw [(hp.ow k (hvo k j hk)).2]; exact h3⟩
      rcases hl.new k' j hk' with h4 | h4
      · exact (h1 k').1 h4
      · omega
  | .cons a b, j, vs, x, g, hj, h => by
    obtain ⟨va, vb, e, ha, hb⟩ := h
    simp only [AK.sz] at hj
    simp only [AK.goodB, Bool.and_eq_true] at g
    exact ⟨va, vb, e, HCel.later hp hl hvo g.1 (by omega) ha, HCel.later hp hl hvo g.2 (by omega) hb⟩
  | .brw e, j, vs, xs, g, hj, h => by
    obtain ⟨s, hs, hr⟩ := h
    obtain ⟨g1, g2⟩ := good_row g
    exact ⟨s, hs, hr.imm (fun b hb _ => ⟨hl.rd b hb, SameC.of rfl⟩) g2 fun _ _ hd => hd.imm hp.im g1⟩
  | .fn k, j, vs, x, g, hj, h => Dat.imm hp.im rfl h
  | .one k, j, vs, x, g, hj, h => Dat.imm hp.im rfl h
  | .byte, j, vs, x, g, hj, h => Dat.imm (k := .byte) hp.im rfl h
  | .ref, j, vs, x, g, hj, h => Dat.imm (k := .ref) hp.im rfl h
  | .row e, j, vs, x, g, hj, h => Dat.imm hp.im g h
  | .nil, j, vs, x, g, hj, h => Dat.imm (k := .nil) hp.im rfl h
theorem frz_later {k : Nat} {c : Nat → Option Nat} {j : Nat} {e : AK} {t : Nat} {xs : List e.T} (ho : getO O k = .own e t xs) (hc : c k = none) : Later E O c j (frzE E k) (setO O k (.frz e xs)) c := by
  refine ⟨fun _ _ h => h, fun _ _ h => .inl h, fun k' i h => ?_, fun b hb => ?_⟩
  · rw [getO_set, if_neg (fun e => by subst e; rw [hc] at h; cases h)]
  · show rdl (unlo E.w _) b
    rcases hb with hb | hb | ⟨k', hb⟩
    · exact .inl (unlo_none hb)
    · exact .inr (.inl (unlo_eq.2 ⟨hb, by simp⟩))
    · by_cases h : k' = k
      · subst h; exact .inl (by unfold unlo; rw [hb]; simp)
      · exact .inr (.inr ⟨k', unlo_eq.2 ⟨hb, fun k'' e => by injection e with e; subst e; simpa using h⟩⟩)
theorem frz1_handed {O' : OL} {c : Nat → Option Nat} (hm : RelM W0 w0 X E B O H W) (hh : Handed O' O c) (a : AV0) (j : Nat) : ∃ E2 O2, RelM W0 w0 X E2 B O2 H W ∧ Pers E W E2 W ∧ Handed (frz1 O' a) O2 c ∧ Later E O c j E2 O2 c ∧ (∀ k, c k = none → getO (frz1 O' a) k = getO O2 k) := by
  have go : ∀ k, (match getO O' k with | .own e _ xs => frz1 O' a = setO O' k (.frz e xs) | _ => frz1 O' a = O') → ∃ E2 O2, RelM W0 w0 X E2 B O2 H W ∧ Pers E W E2 W ∧ Handed (frz1 O' a) O2 c ∧ Later E O c j E2 O2 c ∧ (∀ k, c k = none → getO (frz1 O' a) k = getO O2 k) := fun k hk => by
    cases hok : getO O' k with
    | own e t xs =>
      rw [hok] at hk
      simp only at hk
      have hck : c k = none := by
        cases hc : c k with
        | none => rfl
        | some i => have := (hh.gone k i hc).1; rw [hok] at this; cases this
      have ho : getO O k = .own e t xs := by rw [← hh.same k hck]; exact hok
      obtain ⟨h1, h2⟩ := frz_rel hm ho
      rw [hk]
      have hs : ∀ q, c q = none → getO (setO O' k (.frz e xs)) q = getO (setO O k (.frz e xs)) q := fun q hq => by
        rw [getO_set, getO_set]
        split
        · rfl
        · exact hh.same q hq
      refine ⟨_, _, h1, h2, ⟨hs, fun q i hq => ?_⟩, frz_later ho hck, hs⟩
      have hne : k ≠ q := fun e => by subst e; rw [hck] at hq; cases hq
      rw [getO_set, getO_set, if_neg hne, if_neg hne]
      exact hh.gone q i hq
    | no => rw [hok] at hk; simp only at hk; rw [hk]; exact ⟨E, O, hm, Pers.refl _ _, hh, Later.refl _ _ _ _, hh.same⟩
    | frz e xs => rw [hok] at hk; simp only at hk; rw [hk]; exact ⟨E, O, hm, Pers.refl _ _, hh, Later.refl _ _ _ _, hh.same⟩
    | gone => rw [hok] at hk; simp only at hk; rw [hk]; exact ⟨E, O, hm, Pers.refl _ _, hh, Later.refl _ _ _ _, hh.same⟩
  cases a with
  | own k => exact go k (by cases hq : getO O' k <;> simp [frz1, hq])
  | part k n o l => exact go k (by cases hq : getO O' k <;> simp [frz1, hq])
  | _ => exact ⟨E, O, hm, Pers.refl _ _, hh, Later.refl _ _ _ _, hh.same⟩
theorem gok_handed {O' : OL} {c : Nat → Option Nat} (hm : RelM W0 w0 X E B O H W) (hh : Handed O' O c) : GOk E W (getO O') := fun k => by
  cases hc : c k with
  | none => rw [hh.same k hc]; exact gok_of hm k
  | some i => rw [(hh.gone k i hc).1]; exact ⟨fun _ _ h => (by cases h), fun _ _ _ h => (by cases h)⟩
theorem same_ocase {a b : AK} {h : PLift (a = b)} {t : Nat} {xs : List a.T} : (OwE.own a t xs) = OwE.own b t (castRow h xs) := by obtain ⟨h⟩ := h; subst h; rfl
theorem movL_sound : ∀ {k : AK} {l : List AV0} {vs : List Value} {E : Env} {O O' : OL} {c : Nat → Option Nat} {j : Nat} {K : k.T → List AV0 → OL → Prop}, k.goodB = true → RelM W0 w0 X E B O H W → Handed O' O c → (∀ q i, c q = some i → i < j) → VReps E W l vs → movL O' k l K →
    ∃ x rest O2' O2 c2 E2 ws us, vs = ws ++ us ∧ K x rest O2' ∧ RelM W0 w0 X E2 B O2 H W ∧ Pers E W E2 W ∧ Handed O2' O2 c2 ∧ Later E O c j E2 O2 c2 ∧ (∀ q i, c2 q = some i → i < j + k.sz) ∧ HCel E2 W O2 c2 k j ws x ∧ VReps E2 W rest us ∧ (noOwn k = true → c2 = c) ∧ (∀ q i, c2 q = some i → c q = some i ∨ (j ≤ i ∧ k.ownAt (i - j) = true))
  | .nil, l, vs, E, O, O', c, j, K, _, hm, hh, hj, hr, h => ⟨(), l, O', O, c, E, [], vs, rfl, h, hm, Pers.refl _ _, hh, Later.refl _ _ _ _, by simpa [AK.sz] using hj, rfl, hr, fun _ => rfl, fun q i h => .inl h⟩
  | .cons a b, l, vs, E, O, O', c, j, K, hgd, hm, hh, hj, hr, h => by
    simp only [AK.goodB, Bool.and_eq_true] at hgd
    obtain ⟨x, r1, O1', O1, c1, E1, ws, us, rfl, h1, m1, p1, hh1, l1, b1, hc1, hr1, n1, o1⟩ := movL_sound hgd.1 hm hh hj hr h
    obtain ⟨y, r2, O2', O2, c2, E2, ws', us', rfl, h2, m2, p2, hh2, l2, b2, hc2, hr2, n2, o2⟩ := movL_sound hgd.2 m1 hh1 b1 hr1 h1
    refine ⟨(x, y), r2, O2', O2, c2, E2, ws ++ ws', us', by rw [List.append_assoc], h2, m2, p1.trans p2 (Nat.le_refl _), hh2, l1.trans l2 (by omega), fun q i hq => by have := b2 q i hq; simp only [AK.sz]; omega, ⟨ws, ws', rfl, hc1.later p2 l2 (fun q i hq => ?_) hgd.1 (Nat.le_refl _), hc2⟩, hr2, fun hn => by simp only [noOwn, Bool.and_eq_true] at hn; rw [n2 hn.2, n1 hn.1], fun q i hq => ?_⟩
    · obtain ⟨_, e, t, xs, ho⟩ := hh1.gone q i hq
      have := m1.ow q
      rw [ho] at this
      exact this.1
    · rcases o2 q i hq with h3 | ⟨h3, h4⟩
      · rcases o1 q i h3 with h5 | ⟨h5, h6⟩
        · exact .inl h5
        · refine .inr ⟨h5, ?_⟩
          have : i - j < a.sz := by have := b1 q i h3; omega
          simp only [AK.ownAt]
          rw [if_pos this]; exact h6
      · refine .inr ⟨by omega, ?_⟩
        simp only [AK.ownAt]
        rw [if_neg (by omega), show i - j - a.sz = i - (j + a.sz) from by omega]; exact h4
  | .own e t, l, vs, E, O, O', c, j, K, hgd, hm, hh, hj, hr, h => by
    simp only [movL] at h
    split at h <;> first | exact h.elim | skip
    · rename_i k r
      cases vs with
      | nil => exact hr.elim
      | cons v vs =>
        obtain ⟨hvo, hv⟩ := hr.1
        split at h <;> first | exact h.elim | skip
        rename_i e' t' xs ho'
        split at h <;> first | exact h.elim | skip
        rename_i ht
        subst ht
        split at h <;> first | exact h.elim | skip
        rename_i hsame _
        have hck : c k = none := by
          cases hc : c k with
          | none => rfl
          | some i => have := (hh.gone k i hc).1; rw [ho'] at this; cases this
        have ho : getO O k = .own e' t' xs := by rw [← hh.same k hck]; exact ho'
        refine ⟨_, r, _, O, fun q => if q = k then some j else c q, E, [v], vs, rfl, h, hm, Pers.refl _ _, ⟨fun q hq => ?_, fun q i hq => ?_⟩, ⟨fun q i hq => ?_, fun q i hq => ?_, fun _ _ _ => rfl, fun _ hb => hb⟩, fun q i hq => ?_, .inr ⟨k, fun q => ⟨fun hq => ?_, fun e => ?_⟩, by rw [ho]; exact same_ocase, by rw [hv]⟩, hr.2, fun hn => by simp [noOwn] at hn, fun q i hq => ?_⟩
        · try simp only at hq
          split at hq <;> first | (cases hq; done) | skip
          rename_i hne
          rw [getO_set, if_neg (fun e => hne e.symm)]; exact hh.same q hq
        · try simp only at hq
          rw [getO_set]
          split at hq
          · rename_i e1; subst e1; rw [if_pos rfl]; exact ⟨rfl, e', t', xs, ho⟩
          · rename_i hne; rw [if_neg (fun e => hne e.symm)]; exact hh.gone q i hq
        · try simp only
          rw [if_neg (fun e => by subst e; rw [hck] at hq; cases hq)]; exact hq
        · try simp only at hq
          split at hq
          · rename_i e1; subst e1; injection hq with hq; exact .inr ⟨by omega, hck⟩
          · exact .inl hq
        · try simp only at hq
          split at hq
          · injection hq with hq; simp only [AK.sz]; omega
          · have := hj q i hq; omega
        · try simp only at hq
          split at hq
          · rename_i e1; exact e1
          · have := hj q j hq; omega
        · try simp only
          rw [if_pos e]
        · try simp only at hq
          split at hq
          · injection hq with hq; subst hq; exact .inr ⟨Nat.le_refl _, by rw [Nat.sub_self]; rfl⟩
          · exact .inl hq
    · rename_i r
      cases vs with
      | nil => exact hr.elim
      | cons v vs =>
        have hv : v = .slice none 0 0 := hr.1
        split at h <;> first | exact h.elim | skip
        exact ⟨[], r, O', O, c, E, [v], vs, rfl, h, hm, Pers.refl _ _, hh, Later.refl _ _ _ _, fun q i hq => by have := hj q i hq; omega, .inl ⟨by rw [hv], rfl, fun q hq => by have := hj q j hq; omega⟩, hr.2, fun hn => by simp [noOwn] at hn, fun q i h => .inl h⟩
  | .brw e, l, vs, E, O, O', c, j, K, hgd, hm, hh, hj, hr, h => by
    cases l with
    | nil => exact h.elim
    | cons a r =>
      cases vs with
      | nil => exact hr.elim
      | cons v vs =>
        obtain ⟨x, h1, s, hs, hrow⟩ := brw_sound (K := fun x => K x r O') (gok_handed hm hh) hr.1 h
        exact ⟨x, r, O', O, c, E, [v], vs, rfl, h1, hm, Pers.refl _ _, hh, Later.refl _ _ _ _, fun q i hq => by have := hj q i hq; omega, ⟨s, by rw [hs], hrow⟩, hr.2, fun _ => rfl, fun q i h => .inl h⟩
  | .fn k, l, vs, E, O, O', c, j, K, hgd, hm, hh, hj, hr, h => by
    cases l with
    | nil => exact h.elim
    | cons a r =>
      cases vs with
      | nil => exact hr.elim
      | cons v vs =>
        obtain ⟨x, h1, h2⟩ := dataA_sound (k := .fn k) (K := fun x => K x r O') (gok_handed hm hh) hr.1 rfl h
        exact ⟨x, r, O', O, c, E, [v], vs, rfl, h1, hm, Pers.refl _ _, hh, Later.refl _ _ _ _, fun q i hq => by have := hj q i hq; omega, h2, hr.2, fun _ => rfl, fun q i h => .inl h⟩
  | .one k, l, vs, E, O, O', c, j, K, hgd, hm, hh, hj, hr, h => by
    cases l with
    | nil => exact h.elim
    | cons a r =>
      cases vs with
      | nil => exact hr.elim
      | cons v vs =>
        obtain ⟨x, h1, h2⟩ := dataA_sound (k := .one k) (K := fun x => K x r O') (gok_handed hm hh) hr.1 rfl h
        exact ⟨x, r, O', O, c, E, [v], vs, rfl, h1, hm, Pers.refl _ _, hh, Later.refl _ _ _ _, fun q i hq => by have := hj q i hq; omega, h2, hr.2, fun _ => rfl, fun q i h => .inl h⟩
  | .byte, l, vs, E, O, O', c, j, K, hgd, hm, hh, hj, hr, h => by
    cases l with
    | nil => exact h.elim
    | cons a r =>
      cases vs with
      | nil => exact hr.elim
      | cons v vs =>
        obtain ⟨x, h1, h2⟩ := dataA_sound (k := .byte) (K := fun x => K x r O') (gok_handed hm hh) hr.1 rfl h
        exact ⟨x, r, O', O, c, E, [v], vs, rfl, h1, hm, Pers.refl _ _, hh, Later.refl _ _ _ _, fun q i hq => by have := hj q i hq; omega, h2, hr.2, fun _ => rfl, fun q i h => .inl h⟩
  | .ref, l, vs, E, O, O', c, j, K, hgd, hm, hh, hj, hr, h => by
    cases l with
    | nil => exact h.elim
    | cons a r =>
      cases vs with
      | nil => exact hr.elim
      | cons v vs =>
        obtain ⟨x, h1, h2⟩ := dataA_sound (k := .ref) (K := fun x => K x r O') (gok_handed hm hh) hr.1 rfl h
        exact ⟨x, r, O', O, c, E, [v], vs, rfl, h1, hm, Pers.refl _ _, hh, Later.refl _ _ _ _, fun q i hq => by have := hj q i hq; omega, h2, hr.2, fun _ => rfl, fun q i h => .inl h⟩
  | .row e, l, vs, E, O, O', c, j, K, hgd, hm, hh, hj, hr, h => by
    cases l with
    | nil => exact h.elim
    | cons a r =>
      cases vs with
      | nil => exact hr.elim
      | cons v vs =>
        obtain ⟨E2, O2, m2, p2, hh2, l2, _⟩ := frz1_handed hm hh a j
        obtain ⟨x, h1, h2⟩ := dataA_sound (k := .row e) (K := fun x => K x r (frz1 O' a)) (gok_handed m2 hh2) (hr.1.pers p2) hgd h
        exact ⟨x, r, _, O2, c, E2, [v], vs, rfl, h1, m2, p2, hh2, l2, fun q i hq => by have := hj q i hq; omega, h2, hr.2.pers p2, fun _ => rfl, fun q i h => .inl h⟩
end
end Go.Ga
set_option linter.unusedSimpArgs false
set_option linter.unusedVariables false
namespace Go.Ga
open Go Go.Gp
section
variable {cx : Cx} {W0 : World} {w0 : Mk} {X : Nat → Prop} {E : Env} {B : BL} {O : OL} {H : HP} {W W' W'' : World}
theorem handed_refl (O : OL) : Handed O O fun _ => none := ⟨fun _ _ => rfl, fun _ _ h => by cases h⟩
theorem Handed.vo {O' : OL} {c : Nat → Option Nat} (hh : Handed O' O c) (hm : RelM W0 w0 X E B O H W) {k j : Nat} (h : c k = some j) : E.vo k = true := by
  obtain ⟨_, e, t, xs, ho⟩ := hh.gone k j h
  have := hm.ow k
  rw [ho] at this
  exact this.1
theorem hcel_tag (hm : RelM W0 w0 X E B O H W) {c : Nat → Option Nat} {w : Mk} {W2 : World} {τ : Nat → Tag} (hi : Imm (imm E.w) (imm w) W W2) (hw : ∀ b j, w b = some (τ j) ↔ ∃ k, E.w b = some (.lo k) ∧ c k = some j) (hb : ∀ b k, E.w b = some (.lo k) → W2.heap[b]? = W.heap[b]?) : ∀ {k : AK} {j : Nat} {vs : List Value} {x : k.T}, k.good = true → HCel E W O c k j vs x → TCel w W2 τ k j vs x
  | .own e t, j, vs, xs, g, h => by
    rcases h with ⟨rfl, rfl, h3⟩ | ⟨k, h1, h2, rfl⟩
    · exact ⟨⟨none, 0, 0⟩, rfl, OwnIs.nil _ _ _ _ _ fun b hb' => by
        obtain ⟨k, h4, h5⟩ := (hw b j).1 hb'
        exact h3 k h5⟩
    · have hk := hm.ow k
      rw [h2] at hk
      obtain ⟨_, g', h0, hown⟩ := hk
      refine ⟨_, rfl, hown.keep g' hi (fun b hb' => hb b k hb') fun b => ?_⟩
      rw [hw]
      constructor
      · rintro ⟨k', h4, h5⟩
        have := (h1 k').1 h5
        subst this
        exact h4
      · exact fun h4 => ⟨k, h4, (h1 k).2 rfl⟩
  | .cons a b, j, vs, x, g, h => by
    obtain ⟨va, vb, e, ha, hb'⟩ := h
    simp only [AK.good, Bool.and_eq_true] at g
    exact ⟨va, vb, e, hcel_tag hm hi hw hb g.1 ha, hcel_tag hm hi hw hb g.2 hb'⟩
  | .brw e, j, vs, xs, g, h => by simp [AK.good] at g
  | .fn k, j, vs, x, g, h => Dat.imm (k := .fn k) hi g h
  | .one k, j, vs, x, g, h => Dat.imm (k := .one k) hi g h
  | .byte, j, vs, x, g, h => Dat.imm (k := .byte) hi g h
  | .ref, j, vs, x, g, h => Dat.imm (k := .ref) hi g h
  | .row e, j, vs, x, g, h => Dat.imm (k := .row e) hi g h
  | .nil, j, vs, x, g, h => Dat.imm (k := .nil) hi g h
def ArgH (E : Env) (W : World) (O : OL) (c : Nat → Option Nat) : Nat → (ps : List (Bool × AK)) → List Value → HT ps → Prop
  | _, [], vs, _ => vs = []
  | j, p :: r, vs, x => ∃ v us, vs = v :: us ∧ ArgH E W O c (j + p.2.sz) r us x.2 ∧ ∃ cs, HCel E W O c p.2 j cs x.1 ∧ Shp p.1 v cs
theorem args_sound : ∀ {ps : List (Bool × AK)} {l : List AV} {vs : List Value} {E : Env} {O O' : OL} {c : Nat → Option Nat} {j : Nat} {K : HT ps → OL → Prop}, goodQs ps = true → RelM W0 w0 X E B O H W → Handed O' O c → (∀ q i, c q = some i → i < j) → VRepL E W l vs → argsA O' ps l K →
    ∃ xs O2' O2 c2 E2, K xs O2' ∧ RelM W0 w0 X E2 B O2 H W ∧ Pers E W E2 W ∧ Handed O2' O2 c2 ∧ Later E O c j E2 O2 c2 ∧ ArgH E2 W O2 c2 j ps vs xs ∧ (noOwnR ps = true → c2 = c)
  | [], [], [], E, O, O', c, j, K, _, hm, hh, hj, _, h => ⟨(), O', O, c, E, h, hm, Pers.refl _ _, hh, Later.refl _ _ _ _, rfl, fun _ => rfl⟩
  | [], [], _ :: _, E, O, O', c, j, K, _, _, _, _, hv, _ => hv.elim
  | [], _ :: _, _, E, O, O', c, j, K, _, _, _, _, _, h => h.elim
  | _ :: _, [], _, E, O, O', c, j, K, _, _, _, _, _, h => h.elim
  | _ :: _, _ :: _, [], E, O, O', c, j, K, _, _, _, _, hv, _ => hv.elim
  | (ag, k) :: ps, a :: l, v :: vs, E, O, O', c, j, K, hgd, hm, hh, hj, hv, h => by
    simp only [goodQs, Bool.and_eq_true] at hgd
    simp only [argsA] at h
    split at h <;> first | exact h.elim | skip
    rename_i cs hcs
    obtain ⟨ws, hws, hsh⟩ := cells_shape hcs hv.1
    have hgk := hgd.1
    obtain ⟨x, rest, O1', O1, c1, E1, ws1, us1, e1, h1, m1, p1, hh1, l1, b1, hc1, hr1, n1, _⟩ := movL_sound hgk hm hh hj hws h
    split at h1 <;> first | exact h1.elim | skip
    have : us1 = [] := by cases us1 with | nil => rfl | cons _ _ => exact hr1.elim
    subst this
    rw [List.append_nil] at e1
    subst e1
    have hv1 : VRepL E1 W l vs := by
      have : ∀ {l : List AV} {vs : List Value}, VRepL E W l vs → VRepL E1 W l vs := by
        intro l
        induction l with
        | nil => intro vs h; cases vs with | nil => trivial | cons _ _ => exact h.elim
        | cons a l ih => intro vs h; cases vs with | nil => exact h.elim | cons v vs => exact ⟨h.1.pers p1, ih h.2⟩
      exact this hv.2
    obtain ⟨xs, O2', O2, c2, E2, h2, m2, p2, hh2, l2, ha, n2⟩ := args_sound hgd.2 m1 hh1 b1 hv1 h1
    exact ⟨(x, xs), O2', O2, c2, E2, h2, m2, p1.trans p2 (Nat.le_refl _), hh2, l1.trans l2 (by omega), ⟨v, vs, rfl, ha, ws, hc1.later p2 l2 (fun q i hq => hh1.vo m1 hq) hgk (Nat.le_refl _), hsh⟩, fun hn => by simp only [noOwnR, Bool.and_eq_true] at hn; rw [n2 hn.2, n1 hn.1]⟩
theorem cm_arg {w : Mk} {c : Nat → Option Nat} {b j : Nat} (hcl : ∀ j, w b ≠ some (.arg j)) : cm w c b = some (.arg j) ↔ ∃ k, w b = some (.lo k) ∧ c k = some j := by
  unfold cm
  cases h : w b with
  | none => simp
  | some t =>
    cases t with
    | lo k => cases hc : c k <;> simp [hc]
    | arg i => exact absurd h (hcl i)
    | _ => simp
theorem hcel_p (hm : RelM W0 w0 X E B O H W) {c : Nat → Option Nat} : ∀ {k : AK} {j : Nat} {vs : List Value} {x : k.T}, k.goodB = true → (hasBrw k = false ∨ ∀ b q, E.w b = some (.lo q) → c q = none) → HCel E W O c k j vs x → PCel (cm E.w c) W k j vs x := by
  have im : Imm (imm E.w) (imm (cm E.w c)) W W := fun b hb _ => ⟨cm_none.2 hb, SameC.of rfl⟩
  have ht : ∀ {k : AK} {j : Nat} {vs : List Value} {x : k.T}, k.good = true → HCel E W O c k j vs x → TCel (cm E.w c) W .arg k j vs x := fun hg h => hcel_tag hm im (fun b j => cm_arg fun j => (hm.clean b j).1) (fun _ _ _ => rfl) hg h
  intro k
  induction k with
  | cons a b iha ihb =>
    intro j vs x g hb h
    simp only [AK.goodB, Bool.and_eq_true] at g
    have hb' : (hasBrw a = false ∧ hasBrw b = false) ∨ ∀ b q, E.w b = some (.lo q) → c q = none := by
      rcases hb with hb | hb
      · simp only [hasBrw, Bool.or_eq_false_iff] at hb; exact .inl hb
      · exact .inr hb
    obtain ⟨va, vb, e, h1, h2⟩ := h
    exact ⟨va, vb, e, iha g.1 (hb'.imp (·.1) id) h1, ihb g.2 (hb'.imp (·.2) id) h2⟩
  | brw e _ =>
    intro j vs x g hb h
    rcases hb with hb | hb
    · simp [hasBrw] at hb
    obtain ⟨g1, g2⟩ := good_row g
    obtain ⟨s, hs, hr⟩ := h
    refine ⟨g1, g2, s, hs, hr.imm (fun b hb' _ => ⟨?_, SameC.of rfl⟩) g2 fun _ _ hd => hd.imm im g1⟩
    rcases hb' with hb' | hb' | ⟨k, hb'⟩
    · exact .inl (cm_none.2 hb')
    · exact .inr (by unfold cm; rw [hb'])
    · exact .inr (by unfold cm; rw [hb']; simp only [hb b k hb'])
  | own e t _ => intro j vs x g _ h; exact ht (k := .own e t) g h
  | row e _ => intro j vs x g _ h; exact ht (k := .row e) g h
  | one k => intro j vs x _ _ h; exact ht (k := .one k) rfl h
  | fn k => intro j vs x _ _ h; exact ht (k := .fn k) rfl h
  | arr e t _ => intro j vs x g _ h; exact h.elim
  | mp e _ => intro j vs x g _ h; exact h.elim
  | byte => intro j vs x _ _ h; exact ht (k := .byte) rfl h
  | ref => intro j vs x _ _ h; exact ht (k := .ref) rfl h
  | nil => intro j vs x _ _ h; exact ht (k := .nil) rfl h
theorem arg_rep (hm : RelM W0 w0 X E B O H W) {c : Nat → Option Nat} : ∀ {ps : List (Bool × AK)} {j : Nat} {vs : List Value} {xs : HT ps}, goodQs ps = true → (noBrwR ps = true ∨ ∀ b k, E.w b = some (.lo k) → c k = none) → ArgH E W O c j ps vs xs → ArgRep (cm E.w c) W j ps vs xs
  | [], j, vs, xs, _, _, h => h
  | (ag, k) :: ps, j, vs, xs, hgd, hb, h => by
    simp only [goodQs, Bool.and_eq_true] at hgd
    obtain ⟨v, us, rfl, h1, cs, h2, h3⟩ := h
    have hb' : (hasBrw k = false ∧ noBrwR ps = true) ∨ ∀ b k, E.w b = some (.lo k) → c k = none := by
      rcases hb with hb | hb
      · simp only [noBrwR, Bool.and_eq_true, Bool.not_eq_true'] at hb; exact .inl hb
      · exact .inr hb
    exact ⟨v, us, rfl, arg_rep hm hgd.2 (hb'.imp (·.2) id) h1, cs, hcel_p hm hgd.1 (hb'.imp (·.1) id) h2, h3⟩
end
end Go.Ga
set_option linter.unusedSimpArgs false
set_option linter.unusedVariables false
namespace Go.Ga
open Go Go.Gp
section
variable {cx : Cx} {W0 : World} {w0 : Mk} {X : Nat → Prop} {E : Env} {B : BL} {O : OL} {H : HP} {W W' W'' : World} {K : AV → BL → OL → HP → Prop}
theorem ownAt_lt : ∀ {k : AK} {i : Nat}, k.ownAt i = true → i < k.sz
  | .own _ _, i, h => by simp [AK.ownAt] at h; subst h; simp [AK.sz]
  | .cons a b, i, h => by
    simp only [AK.ownAt] at h
    simp only [AK.sz]
    split at h
    · omega
    · have := ownAt_lt h; omega
  | .one _, _, h => by simp [AK.ownAt] at h
  | .byte, _, h => by simp [AK.ownAt] at h
  | .ref, _, h => by simp [AK.ownAt] at h
  | .row _, _, h => by simp [AK.ownAt] at h
  | .brw _, _, h => by simp [AK.ownAt] at h
  | .nil, _, h => by simp [AK.ownAt] at h
theorem ownsM_other {base : Nat} : ∀ {k : AK} {j : Nat} {x : k.T} {O : OL} {n : Nat}, ¬ (base + j ≤ n ∧ k.ownAt (n - base - j) = true) → getO (k.ownsM base j x O) n = getO O n
  | .own e t, j, xs, O, n, h => by
    simp only [AK.ownsM]
    rw [getO_set, if_neg]
    intro e; subst e; exact h ⟨Nat.le_refl _, by simp [AK.ownAt]⟩
  | .cons a b, j, x, O, n, h => by
    simp only [AK.ownsM]
    rw [ownsM_other (k := b), ownsM_other (k := a)]
    · rintro ⟨h1, h2⟩
      refine h ⟨h1, ?_⟩
      simp only [AK.ownAt]
      rw [if_pos (ownAt_lt h2)]; exact h2
    · rintro ⟨h1, h2⟩
      refine h ⟨by omega, ?_⟩
      simp only [AK.ownAt]
      rw [if_neg (by omega), show n - base - j - a.sz = n - base - (j + a.sz) from by omega]; exact h2
  | .fn _, _, _, _, _, _ => rfl
  | .one _, _, _, _, _, _ => rfl
  | .byte, _, _, _, _, _ => rfl
  | .ref, _, _, _, _, _ => rfl
  | .row _, _, _, _, _, _ => rfl
  | .arr _ _, _, _, _, _, _ => rfl
  | .mp _, _, _, _, _, _ => rfl
  | .brw _, _, _, _, _, _ => rfl
  | .nil, _, _, _, _, _ => rfl
def OwnN (w : Mk) (W : World) (tg : Tag) (s : Sl) : OwE → Prop
  | .own e t xs => e.good = true ∧ e.sz ≠ 0 ∧ OwnIs (imm w) (fun b => w b = some tg) W e t s xs
  | _ => False
theorem ownsM_own {w : Mk} {tg : Nat → Tag} {hd : Nat → Sl} {base : Nat} : ∀ {k : AK} {j : Nat} {x : k.T} {O : OL} {n : Nat}, k.goodB = true → OwnCells w W tg hd k j x → base + j ≤ n → k.ownAt (n - base - j) = true → OwnN w W (tg (n - base)) (hd (n - base)) (getO (k.ownsM base j x O) n)
  | .own e t, j, xs, O, n, g, ho, h1, h2 => by
    simp [AK.ownAt] at h2
    have : n = base + j := by omega
    subst this
    simp only [AK.goodB, AK.good, Bool.and_eq_true, bne_iff_ne] at g
    simp only [AK.ownsM]
    rw [getO_set, if_pos rfl, show base + j - base = j from by omega]
    exact ⟨g.2, g.1, ho⟩
  | .cons a b, j, x, O, n, g, ho, h1, h2 => by
    simp only [AK.goodB, Bool.and_eq_true] at g
    simp only [AK.ownAt] at h2
    simp only [AK.ownsM]
    split at h2
    · rename_i hlt
      rw [ownsM_other (k := b)]
      · exact ownsM_own g.1 ho.1 h1 h2
      · rintro ⟨h3, _⟩; omega
    · rename_i hlt
      exact ownsM_own g.2 ho.2 (by omega) (by rw [show n - base - (j + a.sz) = n - base - j - a.sz from by omega]; exact h2)
  | .one _, _, _, _, _, _, _, _, h => by simp [AK.ownAt] at h
  | .byte, _, _, _, _, _, _, _, h => by simp [AK.ownAt] at h
  | .ref, _, _, _, _, _, _, _, h => by simp [AK.ownAt] at h
  | .row _, _, _, _, _, _, _, _, h => by simp [AK.ownAt] at h
  | .brw _, _, _, _, _, _, _, _, h => by simp [AK.ownAt] at h
  | .nil, _, _, _, _, _, _, _, h => by simp [AK.ownAt] at h
theorem resO_other {base : Nat} : ∀ {rs : List (Bool × AK)} {j : Nat} {r : HT rs} {O : OL} {n : Nat}, ¬ (base + j ≤ n ∧ ownR rs (n - base - j) = true) → getO (resO base rs j r O) n = getO O n
  | [], _, _, _, _, _ => rfl
  | p :: rs, j, r, O, n, h => by
    simp only [resO]
    rw [resO_other, ownsM_other]
    · rintro ⟨h1, h2⟩
      refine h ⟨h1, ?_⟩
      simp only [ownR]
      rw [if_pos (ownAt_lt h2)]; exact h2
    · rintro ⟨h1, h2⟩
      refine h ⟨by omega, ?_⟩
      simp only [ownR]
      rw [if_neg (by omega), show n - base - j - p.2.sz = n - base - (j + p.2.sz) from by omega]; exact h2
theorem resO_own {w : Mk} {hd : Nat → Sl} {base : Nat} : ∀ {rs : List (Bool × AK)} {j : Nat} {r : HT rs} {O : OL} {n : Nat}, goodPs rs = true → ResOwn w W hd j rs r → base + j ≤ n → ownR rs (n - base - j) = true → OwnN w W (.res (n - base)) (hd (n - base)) (getO (resO base rs j r O) n)
  | [], _, _, _, _, _, _, _, h => by simp [ownR] at h
  | p :: rs, j, r, O, n, g, ho, h1, h2 => by
    simp only [goodPs, Bool.and_eq_true] at g
    simp only [ownR] at h2
    simp only [resO]
    split at h2
    · rename_i hlt
      rw [resO_other]
      · exact ownsM_own (good_goodB g.1) ho.1 h1 h2
      · rintro ⟨h3, _⟩; omega
    · rename_i hlt
      exact resO_own g.2 ho.2 (by omega) (by rw [show n - base - (j + p.2.sz) = n - base - j - p.2.sz from by omega]; exact h2)
theorem freeM_no {base : Nat} {O : OL} : ∀ {k : AK} {j n : Nat}, k.freeM base O j = true → base + j ≤ n → k.ownAt (n - base - j) = true → getO O n = .no
  | .own e t, j, n, h, h1, h2 => by
    simp [AK.ownAt] at h2
    have : n = base + j := by omega
    subst this
    simp only [AK.freeM] at h
    split at h
    · assumption
    · cases h
  | .cons a b, j, n, h, h1, h2 => by
    simp only [AK.freeM, Bool.and_eq_true] at h
    simp only [AK.ownAt] at h2
    split at h2
    · exact freeM_no h.1 h1 h2
    · exact freeM_no h.2 (by omega) (by rw [show n - base - (j + a.sz) = n - base - j - a.sz from by omega]; exact h2)
  | .one _, _, _, _, _, h => by simp [AK.ownAt] at h
  | .byte, _, _, _, _, h => by simp [AK.ownAt] at h
  | .ref, _, _, _, _, h => by simp [AK.ownAt] at h
  | .row _, _, _, _, _, h => by simp [AK.ownAt] at h
  | .brw _, _, _, _, _, h => by simp [AK.ownAt] at h
  | .nil, _, _, _, _, h => by simp [AK.ownAt] at h
theorem resFree_no {base : Nat} {O : OL} : ∀ {rs : List (Bool × AK)} {j n : Nat}, resFree base O rs j = true → base + j ≤ n → ownR rs (n - base - j) = true → getO O n = .no
  | [], _, _, _, _, h => by simp [ownR] at h
  | p :: rs, j, n, h, h1, h2 => by
    simp only [resFree, Bool.and_eq_true] at h
    simp only [ownR] at h2
    split at h2
    · exact freeM_no h.1 h1 h2
    · exact resFree_no h.2 (by omega) (by rw [show n - base - (j + p.2.sz) = n - base - j - p.2.sz from by omega]; exact h2)
theorem am_imm {c : Nat → Option Nat} {base : Nat} {rk : Nat → Bool} {w w' : Mk} {H' : HP} (hp : Post (cm w c) W w' W' H') : Imm (imm w') (imm (am w c base rk w')) W' W' := fun b hb _ => by
  have hb : w' b = none := hb
  refine ⟨?_, SameC.of rfl⟩
  show am w c base rk w' b = none
  unfold am
  split
  · rename_i i hi; have := (hp.since.ext b (by unfold cm; rw [hi])).1; rw [hb] at this; cases this
  · rename_i k hk
    split
    · rw [hb]; rfl
    · rename_i hc; have := (hp.since.ext b (by unfold cm; rw [hk]; simp only [hc])).1; rw [hb] at this; cases this
  · rw [hb]; rfl
theorem am_res {c : Nat → Option Nat} {base : Nat} {rk : Nat → Bool} {w w' : Mk} {H' : HP} (hp : Post (cm w c) W w' W' H') {k : Nat} (hk : isRes base rk k = true) (hfree : ∀ b, w b ≠ some (.lo k)) (b : Nat) : am w c base rk w' b = some (.lo k) ↔ w' b = some (.res (k - base)) := by
  have hk' : base ≤ k ∧ rk (k - base) = true := by unfold isRes at hk; simpa using hk
  have st : stp base rk (w' b) = some (.lo k) ↔ w' b = some (.res (k - base)) := by
    rw [stp_lo]
    constructor
    · rintro ⟨j, h1, h2, rfl⟩; rw [h1, show base + j - base = j from by omega]
    · exact fun h => ⟨k - base, h, hk'.2, by omega⟩
  have ext : cm w c b = some .ext → ¬ w' b = some (.res (k - base)) := fun h => by rw [(hp.since.ext b h).1]; simp
  unfold am
  split
  · rename_i i hi
    refine ⟨fun h => (by cases h), fun h => absurd h (ext (by unfold cm; rw [hi]))⟩
  · rename_i q hq
    split
    · exact st
    · rename_i hc
      refine ⟨fun h => ?_, fun h => absurd h (ext (by unfold cm; rw [hq]; simp only [hc]))⟩
      injection h with h; injection h with h
      subst h
      exact absurd hq (hfree b)
  · exact st
theorem call_runE {c : Call} {f : FuncId} {fn : Func} {a : Act} {x : Operand} (hc : c.callee = .value x) {ns : List Nat} (hf : a.eval x = cloV f ns) (hfn : cx.P.funcs[f]? = some fn) (hb : fn.body.isSome = true) (hn : ¬ fn.name = "runtime.NumGoroutine") (dst : Option Tmp) (type : TypeId) (pos : String) (after : Array Edge) (guard : Option (Nat × Bool)) :
    (execOp a.eval ⟨dst, .call c, type, pos, after, guard⟩).run cx.P W = .ok (.enter f ⟨c.args.toList.map a.eval ++ ns.map fun n => .pointer (some ⟨n, 0, none⟩)⟩) W := by
  obtain ⟨callee, args, ats⟩ := c
  simp only at hc
  subst hc
  obtain ⟨b, hb⟩ := Option.isSome_iff_exists.1 hb
  simp [execOp, resolve, hf, cloV, Deferred.ofValue, invoke, callFunc, hfn, hb, hn]
theorem caps_rep : ∀ {ns : List Nat}, VRepL E W (ns.map capV) (ns.map fun n => .pointer (some ⟨n, 0, none⟩))
  | [] => trivial
  | _ :: _ => ⟨rfl, caps_rep⟩
theorem vrepl_app : ∀ {l l' : List AV} {vs vs' : List Value}, VRepL E W l vs → VRepL E W l' vs' → VRepL E W (l ++ l') (vs ++ vs')
  | [], _, [], _, _, h => h
  | _ :: _, _, _ :: _, _, h, h' => ⟨h.1, vrepl_app h.2 h'⟩
  | [], _, _ :: _, _, h, _ => h.elim
  | _ :: _, _, [], _, h, _ => h.elim
theorem ecall_sound {c : Call} {f : FuncId} {s : Sig} {ρ : Operand → AV} {a : Act} (hm : RelM W0 w0 X E B O H W) {ns : List Nat} (hsig : ∃ x, c.callee = .value x ∧ a.eval x = cloV f ns ∧ ∃ fn, cx.P.funcs[f]? = some fn ∧ fn.body.isSome = true ∧ ¬ fn.name = "runtime.NumGoroutine") (h3 : goodQs s.ps = true) (h4 : goodPs s.rs = true) (h5 : okMix s.ps = true) (dst : Option Tmp) (type : TypeId) (pos : String) (after : Array Edge) (guard : Option (Nat × Bool))
    (h : argsA O s.ps (c.args.toList.map ρ ++ ns.map capV) fun xs O' => (match dst with
          | some d => (match resFree (d * 64) O' s.rs 0 with
            | true => callA cx.P f s.ps xs s.rs H fun r H' => K (resAV (d * 64) s.rs r) B (resO (d * 64) s.rs 0 r O') H'
            | false => False)
          | none => callA cx.P f s.ps xs s.rs H fun r H' => K (.v .dead) B O' H')) (hρ : ∀ z ∈ c.args, VRep E W (ρ z) (a.eval z)) :
    Gets cx.P ⟨dst, .call c, type, pos, after, guard⟩ a W (EfK W0 w0 X E B O H W K) := by
  obtain ⟨x0, hc, hc', fn, hfn, hb, hn⟩ := hsig
  obtain ⟨xs, O', O2, c2, E2, h, m2, p2, hh, _, ha, hno⟩ := args_sound h3 hm (handed_refl O) (j := 0) (fun q i hq => (by cases hq)) (vrepl_app (vrepl_of (ev := a.eval) fun x hx => hρ x (by simpa using hx)) caps_rep) h
  have harg : ArgRep (cm E2.w c2) W 0 s.ps _ xs := arg_rep m2 h3 (by
    unfold okMix at h5
    rw [Bool.or_eq_true] at h5
    rcases h5 with h5 | h5
    · exact .inl h5
    · exact .inr fun b k _ => by rw [hno h5]) ha
  intro next Q hnext
  unfold Oper.wp
  rw [call_runE hc hc' hfn hb hn]
  cases dst with
  | none =>
    simp only at h
    refine Calls.mono (h (cm E2.w c2) W _ (pre_call m2 _) harg) fun e W' he => ?_
    obtain ⟨us, r, H', w', rfl, hk, hpost, hres⟩ := he
    obtain ⟨hm', hp'⟩ := call_rel m2 hpost (base := 0) (rk := fun _ => false) (hd := fun _ => ⟨none, 0, 0⟩) (O' := O') (fun k hk => by simp [isRes] at hk) (fun k _ => by
      cases hck : c2 k with
      | none => exact .inl ⟨hh.same k hck, rfl⟩
      | some j => exact .inr ⟨(hh.gone k j hck).1, rfl, hh.vo m2 hck⟩) (fun k hk => by simp [isRes] at hk)
    exact hnext _ _ ⟨_, B, O', H', _, hk, trivial, hm', p2.trans hp' (Nat.le_refl _), hpost.since.size, fun _ _ => rfl, ClosedSame.refl _⟩
  | some d =>
    simp only at h
    split at h <;> first | exact h.elim | skip
    rename_i hfree
    have hfr : ∀ k, isRes (d * 64) (ownR s.rs) k = true → getO O2 k = .no := fun k hk => by
      have hk' : d * 64 ≤ k ∧ ownR s.rs (k - d * 64) = true := by unfold isRes at hk; simpa using hk
      have h1 := resFree_no hfree (n := k) (Nat.le_trans (Nat.le_of_eq (Nat.add_zero _)) hk'.1) (by rw [Nat.sub_zero]; exact hk'.2)
      cases hck : c2 k with
      | none => rw [← hh.same k hck]; exact h1
      | some j => rw [(hh.gone k j hck).1] at h1; cases h1
    refine Calls.mono (h (cm E2.w c2) W _ (pre_call m2 _) harg) fun e W' he => ?_
    obtain ⟨us, r, H', w', rfl, hk, hpost, hres⟩ := he
    obtain ⟨hd, ho, hr⟩ := res_split h4 hres
    obtain ⟨hm', hp'⟩ := call_rel m2 hpost (base := d * 64) (rk := ownR s.rs) (hd := hd) (O' := resO (d * 64) s.rs 0 r O') hfr (fun k hk => by
      have h1 : getO (resO (d * 64) s.rs 0 r O') k = getO O' k := resO_other (by
        rintro ⟨h6, h7⟩
        unfold isRes at hk
        rw [Nat.sub_zero] at h7
        simp [h7] at hk
        omega)
      rw [h1]
      cases hck : c2 k with
      | none => exact .inl ⟨hh.same k hck, rfl⟩
      | some j => exact .inr ⟨(hh.gone k j hck).1, rfl, hh.vo m2 hck⟩) (fun k hk => by
      have hk' : d * 64 ≤ k ∧ ownR s.rs (k - d * 64) = true := by unfold isRes at hk; simpa using hk
      have h1 := resO_own (O := O') (n := k) h4 ho (base := d * 64) (Nat.le_trans (Nat.le_of_eq (Nat.add_zero _)) hk'.1) (by rw [Nat.sub_zero]; exact hk'.2)
      have hnk : ∀ b, E2.w b ≠ some (.lo k) := by have := m2.ow k; rw [hfr k hk] at this; exact this.1
      have hvo : (E2.after c2 (d * 64) (ownR s.rs) hd w').vo k = true := by show (E2.vo k || isRes (d * 64) (ownR s.rs) k) = true; rw [hk, Bool.or_true]
      have hhd : (E2.after c2 (d * 64) (ownR s.rs) hd w').hdr k = hd (k - d * 64) := by show (if isRes (d * 64) (ownR s.rs) k = true then _ else _) = _; rw [if_pos hk]
      unfold OwnN at h1
      split at h1 <;> first | exact h1.elim | skip
      rename_i e t xs' heq
      obtain ⟨g1, g2, g3⟩ := h1
      rw [heq]
      refine ⟨hvo, g1, g2, ?_⟩
      rw [hhd]
      exact g3.keep g1 (am_imm hpost) (fun _ _ => rfl) fun b => am_res hpost hk hnk b)
    refine hnext _ _ ⟨_, B, _, H', _, hk, resAV_rep (hr _ W' (d * 64) (am_imm hpost) fun i _ hi => ?_), hm', p2.trans hp' (Nat.le_refl _), hpost.since.size, fun _ _ => rfl, ClosedSame.refl _⟩
    rw [Nat.sub_zero] at hi
    have hres : isRes (d * 64) (ownR s.rs) (d * 64 + i) = true := by unfold isRes; rw [Nat.add_sub_cancel_left, hi]; simp
    refine ⟨by show (E2.vo _ || isRes (d * 64) (ownR s.rs) _) = true; rw [hres, Bool.or_true], ?_⟩
    show (if isRes (d * 64) (ownR s.rs) _ = true then _ else _) = _
    rw [if_pos hres, Nat.add_sub_cancel_left]
end
end Go.Ga
set_option linter.unusedSimpArgs false
set_option linter.unusedVariables false
namespace Go.Ga
open Go Go.Gp
theorem run_get_map {P : Program} {w : World} {r : Nat} {es : Array MapEntry} {c : Nat} (hb : w.heap[r]? = some (.map es c)) : (getObj r).run P w = .ok (.map es c) w := by
  simp [getObj, Sem.run, hb]
theorem run_set_map {P : Program} {w : World} {r : Nat} {es : Array MapEntry} {c : Nat} (o : Obj) (hb : w.heap[r]? = some (.map es c)) : (setObj r o).run P w = .ok () { w with heap := w.heap.setIfInBounds r o } := by
  simp [setObj, Sem.run, hb]
theorem run_check {P : Program} {w : World} {kt : TypeId} (hd : P.underlying kt = some (.int .i64)) (k : Int) (e : Bool) : (Instr.checkKey e 10000 kt (.int .i64 k)).run P w = .ok () w := by
  show (Instr.checkKey e (9999 + 1) kt (.int .i64 k)).run P w = .ok () w
  unfold Instr.checkKey
  simp [run_und hd, Result.andThen]
theorem run_find {P : Program} {w : World} {kt : TypeId} (hd : P.underlying kt = some (.int .i64)) {k : Int} {l : List MapEntry} {a : Option (Nat × Value)} (h : Instr.findNow (.int .i64) (.int .i64 k) l 0 = some a) : (Instr.findKey kt (.int .i64 k) l).run P w = .ok a w := by
  simp [Instr.findKey, run_und hd, Result.andThen, h]
section
variable {I : Nat → Prop} {W : World} {e : AK}
theorem ent_none {k : Int} : ∀ {es : List MapEntry} {l : List (Int × Nat × e.T)} {i : Nat}, EntR I W e es l → mHas k l = false → Instr.findNow (.int .i64) (.int .i64 k) es i = some none
  | [], [], _, _, _ => rfl
  | m :: es, q :: l, i, h, hk => by
    simp only [mHas] at hk
    split at hk <;> first | (cases hk; done) | skip
    rename_i hne
    simp only [Instr.findNow, h.1, Instr.sameNow, if_true]
    have : (k == q.1) = false := by simpa using fun e => hne e.symm
    rw [this]
    exact ent_none h.2.2.2 hk
  | [], _ :: _, _, h, _ => h.elim
  | _ :: _, [], _, h, _ => h.elim
theorem ent_some {k : Int} {z : e.T} {c : Nat} : ∀ {es : List MapEntry} {l : List (Int × Nat × e.T)} {i : Nat}, EntR I W e es l → mHas k l = true → ∃ j m, Instr.findNow (.int .i64) (.int .i64 k) es i = some (some (i + j, m.val)) ∧ es[j]? = some m ∧ m.key = .int .i64 k ∧ m.born = mBorn k c l ∧ Dat I W e [m.val] (mGet k z l) ∧ (∀ v x, Dat I W e [v] x → EntR I W e (es.set j ⟨.int .i64 k, v, m.born⟩) (mPut k x l)) ∧ EntR I W e (es.eraseIdx j) (mDel k l)
  | [], [], _, _, h => by cases h
  | m :: es, q :: l, i, h, hk => by
    obtain ⟨h1, h2, h3, h4⟩ := h
    by_cases hq : q.1 = k
    · refine ⟨0, m, ?_, rfl, by rw [h1, hq], by simp [mBorn, hq, h2], by simpa [mGet, hq] using h3, fun v x hx => ?_, by simpa [mDel, hq] using h4⟩
      · simp only [Instr.findNow, h1, Instr.sameNow, if_true]
        have : (k == q.1) = true := by simp [hq]
        rw [this]; rfl
      · simp only [List.set_cons_zero, mPut, hq, if_true]
        exact ⟨rfl, h2, hx, h4⟩
    · simp only [mHas, if_neg hq] at hk
      obtain ⟨j, m', a1, a2, a3, a4, a5, a6, a7⟩ := ent_some (k := k) (z := z) (c := c) (i := i + 1) h4 hk
      refine ⟨j + 1, m', ?_, a2, a3, by simpa [mBorn, hq] using a4, by simpa [mGet, hq] using a5, fun v x hx => ?_, ?_⟩
      · simp only [Instr.findNow, h1, Instr.sameNow, if_true]
        have : (k == q.1) = false := by simpa using fun e => hq e.symm
        rw [this]
        simp only [a1]
        rw [show i + 1 + j = i + (j + 1) from by omega]
      · simp only [List.set_cons_succ, mPut, if_neg hq]
        exact ⟨h1, h2, h3, a6 v x hx⟩
      · simp only [List.eraseIdx_cons_succ, mDel, if_neg hq]
        exact ⟨h1, h2, h3, a7⟩
  | [], _ :: _, _, h, _ => h.elim
  | _ :: _, [], _, h, _ => h.elim
theorem ent_get {k : Int} {z : e.T} : ∀ {l : List (Int × Nat × e.T)}, mHas k l = false → mGet k z l = z
  | [], _ => rfl
  | q :: l, h => by
    simp only [mHas] at h
    split at h <;> first | (cases h; done) | skip
    rename_i hne
    simp only [mGet, if_neg hne]; exact ent_get h
theorem ent_born {k : Int} {c : Nat} : ∀ {l : List (Int × Nat × e.T)}, mHas k l = false → mBorn k c l = c
  | [], _ => rfl
  | q :: l, h => by
    simp only [mHas] at h
    split at h <;> first | (cases h; done) | skip
    rename_i hne
    simp only [mBorn, if_neg hne]; exact ent_born h
theorem ent_del {k : Int} : ∀ {l : List (Int × Nat × e.T)}, mHas k l = false → mDel k l = l
  | [], _ => rfl
  | q :: l, h => by
    simp only [mHas] at h
    split at h <;> first | (cases h; done) | skip
    rename_i hne
    simp only [mDel, if_neg hne]; rw [ent_del h]
theorem ent_push {m : MapEntry} {q : Int × Nat × e.T} : ∀ {es : List MapEntry} {l : List (Int × Nat × e.T)}, EntR I W e es l → m.key = .int .i64 q.1 → m.born = q.2.1 → Dat I W e [m.val] q.2.2 → EntR I W e (es ++ [m]) (l ++ [q])
  | [], [], _, h1, h2, h3 => ⟨h1, h2, h3, trivial⟩
  | _ :: _, _ :: _, h, h1, h2, h3 => ⟨h.1, h.2.1, h.2.2.1, ent_push h.2.2.2 h1 h2 h3⟩
  | [], _ :: _, h, _, _, _ => h.elim
  | _ :: _, [], h, _, _, _ => h.elim
theorem ent_sto {s : Int} {x : e.T} {v : Value} (hv : Dat I W e [v] x) : ∀ {es : List MapEntry} {l l' : List (Int × Nat × e.T)}, EntR I W e es l → mSto s x l = some l' → ∃ j m, es.findIdx? (fun m => (m.born : Int) == s) = some j ∧ es[j]? = some m ∧ EntR I W e (es.set j { m with val := v }) l'
  | [], [], _, _, h => by cases h
  | m :: es, q :: l, l', h, hk => by
    obtain ⟨h1, h2, h3, h4⟩ := h
    simp only [mSto] at hk
    split at hk
    · rename_i hq
      injection hk with hk
      subst hk
      refine ⟨0, m, by simp [List.findIdx?_cons, h2, hq], rfl, h1, h2, hv, h4⟩
    · rename_i hq
      cases hs : mSto s x l with
      | none => rw [hs] at hk; cases hk
      | some l1 =>
        rw [hs] at hk
        injection hk with hk
        subst hk
        obtain ⟨j, m', a1, a2, a3⟩ := ent_sto hv h4 hs
        refine ⟨j + 1, m', ?_, a2, h1, h2, h3, a3⟩
        have : ((m.born : Int) == s) = false := by rw [h2]; simpa using hq
        simp [List.findIdx?_cons, this, a1]
  | [], _ :: _, _, h, _ => h.elim
  | _ :: _, [], _, h, _ => h.elim
end
section
variable {cx : Cx} {W0 : World} {w0 : Mk} {X : Nat → Prop} {E : Env} {B : BL} {O : OL} {H : HP} {W W' W'' : World} {K : AV → BL → OL → HP → Prop}
theorem zero1_rep {P : Program} {t : TypeId} {a : AV0} (h : zero1 P t = some a) : ∃ i z, P.info? t = some i ∧ i.zero = some z ∧ VRep0 E W a z := by
  unfold zero1 at h
  split at h <;> first | (cases h; done) | skip
  rename_i i hi
  split at h <;> first | (cases h; done) | skip
  rename_i v hv hz
  split at h <;> first | (cases h; done) | skip
  injection h with h
  subst h
  exact ⟨i, v, hi, hz, cst_rep v⟩
theorem mapT_some {t : TypeId} {K : (e : AK) → e.T → Prop} (h : mapT cx t K) : ∃ kt et e x z, cx.P.underlying t = some (.map kt et) ∧ cx.P.underlying kt = some (.int .i64) ∧ e.good = true ∧ e.sz = 1 ∧ (zeroValue et).run cx.P W = .ok z W ∧ Dat (imm E.w) W e [z] x ∧ K e x := by
  unfold mapT at h
  split at h <;> first | exact h.elim | skip
  rename_i kt et ht
  split at h <;> first | exact h.elim | skip
  rename_i hk
  split at h <;> first | exact h.elim | skip
  rename_i e zc hake hzc
  split at h <;> first | exact h.elim | skip
  rename_i hg
  obtain ⟨i, z, hi, hz, hzr⟩ := zero1_rep (E := E) (W := W) hzc
  obtain ⟨x, rest, ws, us, e1, h1, h2, h3⟩ := dataL_sound (E := E) (W := W) (g := fun _ => .no) (l := [zc]) (vs := [z]) (fun k => ⟨fun _ _ h => (by cases h), fun _ _ _ h => (by cases h)⟩) hg.1 (show VReps E W [zc] [z] from ⟨hzr, trivial⟩) h
  split at h1 <;> first | exact h1.elim | skip
  have : us = [] := by cases us with | nil => rfl | cons _ _ => exact h3.elim
  subst this
  rw [List.append_nil] at e1
  refine ⟨kt, et, e, x, z, ht, hk, hg.1, hg.2, by simp [zeroValue, typeInfo, hi, hz], by rw [e1]; exact h2, h1⟩
theorem map_rel (hm : RelM W0 w0 X E B O H W) {n : Nat} {e : AK} {c c' : Nat} {l l' : List (Int × Nat × e.T)} (hx : H n = some ⟨.mp e, (c, l)⟩) {es' : Array MapEntry} (hl : EntR (imm E.w) W e es'.toList l') :
    RelM W0 w0 X E B O (H.set n (.mp e) (c', l')) { W with heap := W.heap.setIfInBounds n (.map es' c') } ∧ Pers E W E { W with heap := W.heap.setIfInBounds n (.map es' c') } ∧ W.heap.size ≤ (W.heap.setIfInBounds n (.map es' c')).size := by
  have hob := hm.ob n
  rw [hx] at hob
  have hM := hob.map
  obtain ⟨es, he, _⟩ := hM.ents
  have hn : n < W.heap.size := by
    rcases Nat.lt_or_ge n W.heap.size with h | h
    · exact h
    · rw [Array.getElem?_eq_none h] at he; cases he
  have ho : OnlyB W { W with heap := W.heap.setIfInBounds n (.map es' c') } n := ⟨rfl, rfl, rfl, by simp, fun c hc => by simp only [Array.getElem?_setIfInBounds]; rw [if_neg (fun e => hc e.symm)]⟩
  have htg : E.w n = some (.ob n) := (hM.tag n).2 rfl
  have pers := only_pers ho htg (by simp)
  refine ⟨⟨fun c hc => hm.wf c (by rw [← ho.size]; exact hc), only_since hm ho htg (by simp), fun q => (hm.bx q).keep pers (only_same ho htg (by simp)) id, fun k => (hm.ow k).keep pers (only_same ho htg (by simp)) id, fun m => ?_, hm.clean, hm.ba⟩, pers, by simp⟩
  by_cases hmn : m = n
  · subst hmn
    show ObjOk _ _ _ (if m = m then _ else _)
    rw [if_pos rfl]
    exact .inr (.inr ⟨e, c', l', rfl, hM.good, hM.tag, hM.noo, es', by simp [hn], hl.imm pers.im hM.good⟩)
  · show ObjOk _ _ _ (if m = n then _ else _)
    rw [if_neg hmn]
    exact (hm.ob m).keep pers.im (only_same ho htg (by simp; exact hmn)) fun j => only_same ho htg (by simp)
theorem cell_rep {e : AK} (hg : e.good = true) {v : Value} {x : e.T} (h : Dat (imm E.w) W e [v] x) : VRep0 E W (cellAV0 e x) v := by
  have := dat_reps (E := E) hg h
  unfold cellAV0
  split
  · rename_i a ha; rw [ha] at this; exact this.1
  · trivial
theorem set_self {α : Type} {l : List α} {i : Nat} {a : α} (h : l[i]? = some a) : l.set i a = l := by
  obtain ⟨hi, rfl⟩ := List.getElem?_eq_some_iff.1 h
  exact List.set_getElem_self hi
theorem set_toList {es : Array MapEntry} {j : Nat} {f : MapEntry → MapEntry} {m : MapEntry} (h : es.toList[j]? = some m) : (es.modify j f).toList = es.toList.set j (f m) := by
  rw [Array.toList_modify]
  apply List.ext_getElem?
  intro i
  rw [List.getElem?_modify, List.getElem?_set]
  by_cases hij : j = i
  · subst hij
    have hl := (List.getElem?_eq_some_iff.1 h).1
    have hl' : j < es.size := by simpa using hl
    have h' : es[j]? = some m := by rw [← Array.getElem?_toList]; exact h
    simp only [Array.getElem?_toList, h', Option.map_some, if_true, Array.length_toList, hl']
    rfl
  · simp [hij]
theorem look_sound {t : TypeId} {m k : AV} {vm vk : Value} {ac : Act} {o : Oper} {K : AV → Prop} {Kr : AV → BL → OL → HP → Prop} (hm : RelM W0 w0 X E B O H W) (h : lookM cx t m k H K) (hvm : VRep E W m vm) (hvk : VRep E W k vk)
    (hrun : ∀ v W', (Instr.lookup t vm vk false).run cx.P W = .ok v W' → (execOp ac.eval o).run cx.P W = .ok (.value v) W') (hK : ∀ a, K a → Kr a B O H) : Gets cx.P o ac W (EfK W0 w0 X E B O H W Kr) := by
  unfold lookM at h
  split at h <;> first | exact h.elim | skip
  rename_i v k
  have hvm : vm = v := hvm.1
  have hvk : vk = .int .i64 k := hvk.1
  subst hvm hvk
  obtain ⟨kt, et, e, x, z, h1, h2, h3, h4, h5, h6, n, c, l, rfl, hx, h⟩ := mapT_some (E := E) (W := W) h
  have hob := hm.ob n
  rw [hx] at hob
  have hM := hob.map
  obtain ⟨es, he, hl⟩ := hM.ents
  cases hh : mHas k l with
  | false =>
    have hf := run_find (w := W) h2 (ent_none (i := 0) hl hh)
    rw [ent_get hh] at h
    refine gets_run (hrun z W (by simp [Instr.lookup, run_und h1, run_get_map he, run_check h2, hf, h5, Result.andThen])) ⟨_, B, O, H, E, hK _ h, cell_rep h3 h6, hm, Pers.refl _ _, Nat.le_refl _, fun _ _ => rfl, ClosedSame.refl _⟩
  | true =>
    obtain ⟨j, m, a1, a2, a3, a4, a5, a6, a7⟩ := ent_some (z := x) (c := c) (i := 0) hl hh
    have hf := run_find (w := W) h2 a1
    refine gets_run (hrun m.val W (by simp [Instr.lookup, run_und h1, run_get_map he, run_check h2, hf, Result.andThen])) ⟨_, B, O, H, E, hK _ h, cell_rep h3 a5, hm, Pers.refl _ _, Nat.le_refl _, fun _ _ => rfl, ClosedSame.refl _⟩
theorem same_bits {k : Int} : Instr.sameBits 10000 (.int .i64 k) (.int .i64 k) = true := by
  show Instr.sameBits 10000 (.int .i64 k) (.int .i64 k) = true
  unfold Instr.sameBits
  simp
theorem ent_sound {t : TypeId} {m k : AV} {vm vk : Value} {ac : Act} {o : Oper} {K : AV → HP → Prop} {Kr : AV → BL → OL → HP → Prop} (hm : RelM W0 w0 X E B O H W) (h : entM cx t m k H K) (hvm : VRep E W m vm) (hvk : VRep E W k vk)
    (hrun : ∀ v W', (Instr.mapEntry t vm vk).run cx.P W = .ok v W' → (execOp ac.eval o).run cx.P W = .ok (.value v) W') (hK : ∀ a H, K a H → Kr a B O H) : Gets cx.P o ac W (EfK W0 w0 X E B O H W Kr) := by
  unfold entM at h
  split at h <;> first | exact h.elim | skip
  rename_i v k
  have hvm : vm = v := hvm.1
  have hvk : vk = .int .i64 k := hvk.1
  subst hvm hvk
  obtain ⟨kt, et, e, x, z, h1, h2, h3, h4, h5, h6, n, c, l, rfl, hx, h⟩ := mapT_some (E := E) (W := W) h
  have hob := hm.ob n
  rw [hx] at hob
  have hM := hob.map
  obtain ⟨es, he, hl⟩ := hM.ents
  cases hh : mHas k l with
  | false =>
    have hf := run_find (w := W) h2 (ent_none (i := 0) hl hh)
    rw [ent_get hh, ent_born hh] at h
    obtain ⟨r1, r2, r3⟩ := map_rel hm hx (c' := c + 1) (es' := es.push ⟨.int .i64 k, z, c⟩) (l' := l ++ [(k, c, x)]) (by rw [Array.toList_push]; exact ent_push hl rfl rfl h6)
    refine gets_run (hrun (.tuple #[z, goInt c]) { W with heap := W.heap.setIfInBounds n (.map (es.push ⟨.int .i64 k, z, c⟩) (c + 1)) } (by simp [Instr.mapEntry, run_und h1, run_get_map he, run_check h2, hf, h5, run_set_map _ he, Result.andThen])) ⟨_, B, O, _, E, hK _ _ h, ⟨[z, goInt c], rfl, ?_⟩, by unfold mEnt; rw [hh]; exact r1, r2, r3, fun _ _ => rfl, ClosedSame.refl _⟩
    exact ⟨(cell_rep h3 h6).pers r2, ⟨rfl, rfl⟩, trivial⟩
  | true =>
    obtain ⟨j, m, a1, a2, a3, a4, a5, a6, a7⟩ := ent_some (z := x) (c := c) (i := 0) hl hh
    rw [Nat.zero_add] at a1
    have hf := run_find (w := W) h2 a1
    have a2' : es[j]? = some m := by rw [← Array.getElem?_toList]; exact a2
    have hme : (⟨m.key, m.val, m.born⟩ : MapEntry) = m := rfl
    have hes : EntR (imm E.w) W e (es.modify j fun e => { e with key := .int .i64 k }).toList l := by
      rw [set_toList a2, ← a3, hme, set_self a2]; exact hl
    obtain ⟨r1, r2, r3⟩ := map_rel hm hx (c' := c) hes
    refine gets_run (hrun (.tuple #[m.val, goInt (m.born : Int)]) _ (by simp [Instr.mapEntry, run_und h1, run_get_map he, run_check h2, hf, a2', a3, Instr.keyThatStays, same_bits, run_set_map _ he, Result.andThen])) ⟨_, B, O, _, E, hK _ _ h, ⟨[m.val, goInt (m.born : Int)], rfl, ?_⟩, by unfold mEnt; rw [hh]; exact r1, r2, r3, fun _ _ => rfl, ClosedSame.refl _⟩
    exact ⟨(cell_rep h3 a5).pers r2, ⟨by rw [← a4]; rfl, rfl⟩, trivial⟩
theorem val_sound {g : Nat → OwE} (hg : GOk E W g) {a : AV} {v : Value} {e : AK} {K : e.T → Prop} (he : e.good = true) (h1 : e.sz = 1) (hv : VRep E W a v) (h : valA g a e K) : ∃ x, K x ∧ Dat (imm E.w) W e [v] x := by
  unfold valA at h
  split at h <;> first | exact h.elim | skip
  rename_i a
  obtain ⟨x, rest, ws, us, e1, k1, k2, k3⟩ := dataL_sound hg (l := [a]) (vs := [v]) he (show VReps E W [a] [v] from ⟨hv, trivial⟩) h
  split at k1 <;> first | exact k1.elim | skip
  have : us = [] := by cases us with | nil => rfl | cons _ _ => exact k3.elim
  subst this
  rw [List.append_nil] at e1
  exact ⟨x, k1, by rw [e1]; exact k2⟩
theorem sto_sound {t : TypeId} {m s y : AV} {vm vs vy : Value} {ac : Act} {o : Oper} {K : HP → Prop} {Kr : AV → BL → OL → HP → Prop} (hm : RelM W0 w0 X E B O H W) (h : stoM cx (getO O) t m s y H K) (hvm : VRep E W m vm) (hvs : VRep E W s vs) (hvy : VRep E W y vy)
    (hrun : ∀ W', (Instr.entryStore t vm vs vy).run cx.P W = .ok () W' → (execOp ac.eval o).run cx.P W = .ok .skip W') (hK : ∀ H, K H → Kr (.v .und) B O H) : Gets cx.P o ac W (EfK W0 w0 X E B O H W Kr) := by
  unfold stoM at h
  split at h <;> first | exact h.elim | skip
  rename_i v s
  have hvm : vm = v := hvm.1
  have hvs : vs = .int .i64 s := hvs.1
  subst hvm hvs
  obtain ⟨kt, et, e, x0, z, h1, h2, h3, h4, h5, h6, h⟩ := mapT_some (E := E) (W := W) h
  obtain ⟨x, ⟨n, c, l, rfl, hx, l', hs, h⟩, hd⟩ := val_sound (gok_of hm) h3 h4 hvy h
  have hob := hm.ob n
  rw [hx] at hob
  have hM := hob.map
  obtain ⟨es, he, hl⟩ := hM.ents
  obtain ⟨j, m, a1, a2, a3⟩ := ent_sto hd hl hs
  have a1' : es.findIdx? (fun m => (m.born : Int) == s) = some j := by rw [← List.findIdx?_toArray] at a1; exact a1
  obtain ⟨r1, r2, r3⟩ := map_rel hm hx (c' := c) (es' := es.modify j fun e => { e with val := vy }) (l' := l') (by rw [set_toList a2]; exact a3)
  exact gets_skip (hrun _ (by simp [Instr.entryStore, run_get_map he, asInt, asIntOf, a1', run_set_map _ he, Result.andThen])) ⟨_, B, O, _, E, hK _ h, rfl, r1, r2, r3, fun _ _ => rfl, ClosedSame.refl _⟩
theorem upd_sound {t : TypeId} {m k y : AV} {vm vk vy : Value} {ac : Act} {o : Oper} {K : HP → Prop} {Kr : AV → BL → OL → HP → Prop} (hm : RelM W0 w0 X E B O H W) (h : updM cx (getO O) t m k y H K) (hvm : VRep E W m vm) (hvk : VRep E W k vk) (hvy : VRep E W y vy)
    (hrun : ∀ W', (Instr.mapUpdate t vm vk vy).run cx.P W = .ok () W' → (execOp ac.eval o).run cx.P W = .ok .skip W') (hK : ∀ H, K H → Kr (.v .und) B O H) : Gets cx.P o ac W (EfK W0 w0 X E B O H W Kr) := by
  unfold updM at h
  split at h <;> first | exact h.elim | skip
  rename_i v k
  have hvm : vm = v := hvm.1
  have hvk : vk = .int .i64 k := hvk.1
  subst hvm hvk
  obtain ⟨kt, et, e, x0, z, h1, h2, h3, h4, h5, h6, h⟩ := mapT_some (E := E) (W := W) h
  obtain ⟨x, ⟨n, c, l, rfl, hx, h⟩, hd⟩ := val_sound (gok_of hm) h3 h4 hvy h
  have hob := hm.ob n
  rw [hx] at hob
  have hM := hob.map
  obtain ⟨es, he, hl⟩ := hM.ents
  cases hh : mHas k l with
  | false =>
    have hf := run_find (w := W) h2 (ent_none (i := 0) hl hh)
    obtain ⟨r1, r2, r3⟩ := map_rel hm hx (c' := c + 1) (es' := es.push ⟨.int .i64 k, vy, c⟩) (l' := l ++ [(k, c, x)]) (by rw [Array.toList_push]; exact ent_push hl rfl rfl hd)
    exact gets_skip (hrun _ (by simp [Instr.mapUpdate, run_und h1, run_get_map he, run_check h2, hf, run_set_map _ he, Result.andThen])) ⟨_, B, O, _, E, hK _ h, rfl, by unfold mUpd; rw [hh]; exact r1, r2, r3, fun _ _ => rfl, ClosedSame.refl _⟩
  | true =>
    obtain ⟨j, m, a1, a2, a3, a4, a5, a6, a7⟩ := ent_some (z := x) (c := c) (i := 0) hl hh
    rw [Nat.zero_add] at a1
    have hf := run_find (w := W) h2 a1
    have a2' : es[j]? = some m := by rw [← Array.getElem?_toList]; exact a2
    obtain ⟨r1, r2, r3⟩ := map_rel hm hx (c' := c) (es' := es.modify j fun e => { e with key := .int .i64 k, val := vy }) (l' := mPut k x l) (by rw [set_toList a2]; exact a6 _ _ hd)
    exact gets_skip (hrun _ (by simp [Instr.mapUpdate, run_und h1, run_get_map he, run_check h2, hf, a2', a3, Instr.keyThatStays, same_bits, run_set_map _ he, Result.andThen])) ⟨_, B, O, _, E, hK _ h, rfl, by unfold mUpd; rw [hh]; exact r1, r2, r3, fun _ _ => rfl, ClosedSame.refl _⟩
theorem del_sound {t : TypeId} {m k : AV} {vm vk : Value} {ac : Act} {o : Oper} {ats : Array TypeId} {ty : TypeId} {K : HP → Prop} {Kr : AV → BL → OL → HP → Prop} (hm : RelM W0 w0 X E B O H W) (h : delM cx t m k H K) (hvm : VRep E W m vm) (hvk : VRep E W k vk) (hat : ats[0]? = some t)
    (hrun : ∀ v W', (Builtin.delete_ ats ty #[vm, vk]).run cx.P W = .ok v W' → (execOp ac.eval o).run cx.P W = .ok (.value v) W') (hK : ∀ H, K H → Kr (.v .dead) B O H) : Gets cx.P o ac W (EfK W0 w0 X E B O H W Kr) := by
  unfold delM at h
  split at h <;> first | exact h.elim | skip
  rename_i v k
  have hvm : vm = v := hvm.1
  have hvk : vk = .int .i64 k := hvk.1
  subst hvm hvk
  obtain ⟨kt, et, e, x, z, h1, h2, h3, h4, h5, h6, n, c, l, rfl, hx, h⟩ := mapT_some (E := E) (W := W) h
  have hob := hm.ob n
  rw [hx] at hob
  have hM := hob.map
  obtain ⟨es, he, hl⟩ := hM.ents
  cases hh : mHas k l with
  | false =>
    have hf := run_find (w := W) h2 (ent_none (i := 0) hl hh)
    obtain ⟨r1, r2, r3⟩ := map_rel hm hx (c' := c) (es' := es) (l' := mDel k l) (by rw [ent_del hh]; exact hl)
    exact gets_run (hrun (.tuple #[]) _ (by simp [Builtin.delete_, hat, run_und h1, run_get_map he, run_check h2, hf, run_set_map _ he, Result.andThen])) ⟨_, B, O, _, E, hK _ h, trivial, r1, r2, r3, fun _ _ => rfl, ClosedSame.refl _⟩
  | true =>
    obtain ⟨j, m, a1, a2, a3, a4, a5, a6, a7⟩ := ent_some (z := x) (c := c) (i := 0) hl hh
    rw [Nat.zero_add] at a1
    have hf := run_find (w := W) h2 a1
    obtain ⟨r1, r2, r3⟩ := map_rel hm hx (c' := c) (es' := es.eraseIdxIfInBounds j) (l' := mDel k l) (by simpa using a7)
    exact gets_run (hrun (.tuple #[]) _ (by simp [Builtin.delete_, hat, run_und h1, run_get_map he, run_check h2, hf, run_set_map _ he, Result.andThen])) ⟨_, B, O, _, E, hK _ h, trivial, r1, r2, r3, fun _ _ => rfl, ClosedSame.refl _⟩
def obE (E : Env) (b : Nat) : Env := { E with w := fun c => if c = b then some (.ob b) else E.w c }
theorem ob_new (hm : RelM W0 w0 X E B O H W) {o : Obj} {k : AK} {x : k.T} (hob : Pers E W (obE E W.heap.size) (W.alloc o) → (∀ b, (obE E W.heap.size).w b = some (.ob W.heap.size) ↔ b = W.heap.size) → (∀ b j, (obE E W.heap.size).w b ≠ some (.oo W.heap.size j)) → ObjOk (obE E W.heap.size).w (W.alloc o) W.heap.size (some ⟨k, x⟩)) :
    H W.heap.size = none ∧ RelM W0 w0 X (obE E W.heap.size) B O (H.set W.heap.size k x) (W.alloc o) ∧ Pers E W (obE E W.heap.size) (W.alloc o) := by
  have hn : E.w W.heap.size = none := hm.wf _ (Nat.le_refl _)
  have hH : H W.heap.size = none := by
    have := hm.ob W.heap.size
    cases hx : H W.heap.size with
    | none => rfl
    | some o => rw [hx] at this; have := (this.tag _).2 rfl; rw [hn] at this; cases this
  have heap : ∀ b, b ≠ W.heap.size → (W.alloc o).heap[b]? = W.heap[b]? := fun b h => by rw [heap_alloc, if_neg h]
  have pers : Pers E W (obE E W.heap.size) (W.alloc o) := by
    refine ⟨fun b hb hl => ⟨?_, SameC.of (heap b (by omega))⟩, fun b hb => ?_, fun i hi => ⟨hi, rfl⟩, fun i hi => ⟨hi, rfl⟩, rfl⟩
    · show (if b = W.heap.size then _ else _) = none
      rw [if_neg (by omega)]; exact hb
    · have hne : b ≠ W.heap.size := fun e => by rw [e, hn] at hb; cases hb
      exact ⟨by show (if b = W.heap.size then _ else _) = _; rw [if_neg hne]; exact hb, heap b hne⟩
  have same : ∀ u : Tag, u ≠ .ob W.heap.size → Same E.w W (obE E W.heap.size).w (W.alloc o) u u := fun u hu b => by
    by_cases hbe : b = W.heap.size
    · subst hbe
      refine ⟨⟨fun h => ?_, fun h => ?_⟩, fun h => ?_⟩
      · have h : (if W.heap.size = W.heap.size then some (Tag.ob W.heap.size) else _) = some u := h
        rw [if_pos rfl] at h
        injection h with h
        exact absurd h.symm hu
      · rw [hn] at h; cases h
      · rw [hn] at h; cases h
    · refine ⟨?_, fun _ => heap b hbe⟩
      show (if b = W.heap.size then _ else _) = some u ↔ _
      rw [if_neg hbe]
  have hs := hm.since
  have hsz := hs.size
  refine ⟨hH, ⟨fun b hb => ?_, ⟨hs.os, hs.tape, hs.output, by rw [alloc_size]; omega, fun b hb h => ?_, fun b h => ?_, fun b h => ?_⟩, fun i => (hm.bx i).keep pers (same _ (by simp)) id, fun k => (hm.ow k).keep pers (same _ (by simp)) id, fun n => ?_, fun b j => ⟨fun h => ?_, fun h => ?_⟩, hm.ba⟩, pers⟩
  · rw [alloc_size] at hb
    show (if b = W.heap.size then _ else _) = none
    rw [if_neg (by omega)]; exact hm.wf b (by omega)
  · obtain ⟨h1, h2⟩ := hs.im b hb h
    exact ⟨by show (if b = W.heap.size then _ else _) = _; rw [if_neg (by omega)]; exact h1, (heap b (by omega)).trans h2⟩
  · obtain ⟨h1, h2⟩ := hs.ext b h
    obtain ⟨h3, h4⟩ := pers.ex b h1
    exact ⟨h3, h4.trans h2⟩
  · exact hs.noext b ((same .ext (by simp) b).1.1 h)
  · show ObjOk _ _ _ (if n = W.heap.size then _ else _)
    by_cases hnb : n = W.heap.size
    · subst hnb
      rw [if_pos rfl]
      have hno := hm.ob W.heap.size
      rw [hH] at hno
      refine hob pers (fun b => ?_) fun b j hb => (hno b).2 j ((same _ (by simp) b).1.1 hb)
      show (if b = W.heap.size then _ else _) = _ ↔ _
      by_cases hbe : b = W.heap.size
      · rw [if_pos hbe]; exact ⟨fun _ => hbe, fun _ => rfl⟩
      · rw [if_neg hbe]; exact ⟨fun h => absurd h (hno b).1, fun h => absurd h hbe⟩
    · rw [if_neg hnb]
      exact (hm.ob n).keep pers.im (same _ (by simp; exact hnb)) fun j => same _ (by simp)
  · exact (hm.clean b j).1 ((same _ (by simp) b).1.1 h)
  · exact (hm.clean b j).2 ((same _ (by simp) b).1.1 h)
theorem new_sound {t : TypeId} {ac : Act} {o : Oper} {K : AV → HP → Prop} {Kr : AV → BL → OL → HP → Prop} (hm : RelM W0 w0 X E B O H W) (h : newM cx t H K)
    (hrun : ∀ v W', (Instr.makeMap t none).run cx.P W = .ok v W' → (execOp ac.eval o).run cx.P W = .ok (.value v) W') (hK : ∀ a H, K a H → Kr a B O H) : Gets cx.P o ac W (EfK W0 w0 X E B O H W Kr) := by
  unfold newM at h
  obtain ⟨kt, et, e, x, z, h1, h2, h3, h4, h5, h6, h⟩ := mapT_some (E := E) (W := W) h
  obtain ⟨r1, r2, r3⟩ := ob_new hm (o := .map #[] 0) (k := .mp e) (x := (0, [])) fun _ q1 q2 => .inr (.inr ⟨e, 0, [], rfl, h3, q1, q2, #[], by rw [heap_alloc, if_pos rfl], trivial⟩)
  exact gets_run (hrun (.map (some W.heap.size)) (W.alloc (.map #[] 0)) (by simp [Instr.makeMap, Result.andThen])) ⟨_, B, O, _, obE E W.heap.size, hK _ _ (h _ r1), ⟨rfl, rfl⟩, r2, r3, by rw [alloc_size]; omega, fun _ _ => rfl, ClosedSame.refl _⟩
theorem tcel_dat {w : Mk} {tg : Nat → Tag} : ∀ {k : AK} {j : Nat} {vs : List Value} {x : k.T}, noOwn k = true → Dat (imm w) W k vs x → TCel w W tg k j vs x
  | .cons a b, j, vs, x, hn, h => by
    simp only [noOwn, Bool.and_eq_true] at hn
    obtain ⟨va, vb, e, h1, h2⟩ := h
    exact ⟨va, vb, e, tcel_dat hn.1 h1, tcel_dat hn.2 h2⟩
  | .own _ _, _, _, _, hn, _ => by cases hn
  | .one _, _, _, _, _, h => h
  | .byte, _, _, _, _, h => h
  | .ref, _, _, _, _, h => h
  | .row _, _, _, _, _, h => h
  | .brw _, _, _, _, _, h => h.elim
  | .fn _, _, _, _, _, h => h
  | .arr _ _, _, _, _, _, h => h.elim
  | .mp _, _, _, _, _, h => h.elim
  | .nil, _, _, _, _, h => h
theorem newB_sound {t : TypeId} {a : AV} {v : Value} {ac : Act} {o : Oper} {K : AV → OL → HP → Prop} {Kr : AV → BL → OL → HP → Prop} (hm : RelM W0 w0 X E B O H W) (h : newB cx t a O H K) (hv : VRep E W a v)
    (hrun : ∀ r W', (Instr.box t v).run cx.P W = .ok r W' → (execOp ac.eval o).run cx.P W = .ok (.value r) W') (hK : ∀ a O H, K a O H → Kr a B O H) : Gets cx.P o ac W (EfK W0 w0 X E B O H W Kr) := by
  unfold newB at h
  split at h <;> first | exact h.elim | skip
  rename_i ag n k hsz hk
  split at h <;> first | exact h.elim | skip
  rename_i us hus hg
  simp only [Bool.and_eq_true] at hg
  obtain ⟨E1, m1, p1⟩ := frzs_rel us hm
  obtain ⟨x, rest, ws, us', e1, k1, k2, k3⟩ := dataL_sound (gok_of m1) hg.1 ((cells_rep hus hv).pers p1) h
  split at k1 <;> first | exact k1.elim | skip
  have : us' = [] := by cases us' with | nil => rfl | cons _ _ => exact k3.elim
  subst this
  rw [List.append_nil] at e1
  obtain ⟨r1, r2, r3⟩ := ob_new m1 (o := .cells v.cells t) (k := k) (x := x) fun pp q1 q2 => .inl ⟨hg.1, q1, fun b j hb => absurd hb (q2 b j), ws, t, by unfold Blk; rw [heap_alloc, if_pos rfl, ← e1], tcel_dat hg.2 (k2.imm pp.im hg.1)⟩
  exact gets_run (hrun _ (W.alloc (.cells v.cells t)) (by simp [Instr.box, newVar, newRow])) ⟨_, B, _, _, _, hK _ _ _ (k1 _ r1), rfl, r2, p1.trans r3 (Nat.le_refl _), by rw [alloc_size]; omega, fun _ _ => rfl, ClosedSame.refl _⟩
end
end Go.Ga
set_option linter.unusedSimpArgs false
set_option linter.unusedVariables false
namespace Go.Ga
open Go Go.Gp
section
variable {cx : Cx} {W0 : World} {w0 : Mk} {X : Nat → Prop} {E : Env} {B : BL} {O : OL} {H : HP} {W W' W'' : World} {K : AV → BL → OL → HP → Prop}
theorem Gets.efk {o : Oper} {a : Act} {E1 : Env} {O1 : OL} {H1 : HP} (h : Gets cx.P o a W (EfK W0 w0 X E1 B O1 H1 W K)) (hp : Pers E W E1 W) : Gets cx.P o a W (EfK W0 w0 X E B O H W K) :=
  h.mono fun _ _ ⟨av, B', O', H', E', h1, h2, h3, h4, h5, h6, h7⟩ => ⟨av, B', O', H', E', h1, h2, h3, hp.trans h4 (Nat.le_refl _), h5, h6, h7⟩
theorem frz1_no (O : OL) (a : AV0) (k : Nat) : getO (frz1 O a) k = .no ↔ getO O k = .no := by
  unfold frz1
  split
  · rename_i q
    split
    · rename_i ho
      rw [getO_set]
      split
      · rename_i e; subst e; rw [ho]; simp
      · rfl
    · rfl
  · rename_i q _ _ _
    split
    · rename_i ho
      rw [getO_set]
      split
      · rename_i e; subst e; rw [ho]; simp
      · rfl
    · rfl
  · rfl
theorem frzs_no : ∀ (l : List AV0) (O : OL) {k : Nat}, getO (frzs O l) k = .no ↔ getO O k = .no
  | [], O, k => Iff.rfl
  | a :: l, O, k => (frzs_no l _).trans (frz1_no O a k)
theorem frzVs_no : ∀ (l : List AV) (O : OL) {k : Nat}, getO (frzVs O l) k = .no ↔ getO O k = .no
  | [], O, k => Iff.rfl
  | a :: l, O, k => (frzVs_no l _).trans (frzs_no _ O)
theorem fnV_some {v : Value} {g : FuncId} (h : fnV v = some g) : v = .func (.func g) #[] #[] := by
  unfold fnV at h
  split at h <;> first | (cases h; done) | skip
  split at h <;> first | (cases h; done) | skip
  rename_i hs
  injection h with h
  subst h
  rw [Array.eq_empty_of_size_eq_zero hs.1, Array.eq_empty_of_size_eq_zero hs.2]
theorem fnOf_rep {a : AV} {v : Value} {g : FuncId} {ns : Option (List Nat)} (h : fnOf a = some (g, ns)) (hv : VRep E W a v) : v = cloV g (ns.getD []) := by
  unfold fnOf at h
  split at h <;> first | (cases h; done) | skip
  · split at h <;> first | (cases h; done) | skip
    rename_i g' hg
    injection h with h
    injection h with h1 h2
    subst h1; subst h2
    exact hv.1.trans (fnV_some hg)
  · injection h with h
    injection h with h1 h2
    subst h1; subst h2
    exact hv
theorem sigE_some {d : Option Tmp} {c : Call} {f : FuncId} {s : Sig} {ns : Option (List Nat)} {ρ : Operand → AV} (h : sigE cx d c ρ = some (f, s, ns)) : ∃ x, c.callee = .value x ∧ fnOf (ρ x) = some (f, ns) ∧ ∃ fn, cx.P.funcs[f]? = some fn ∧ fn.body.isSome = true ∧ ¬ fn.name = "runtime.NumGoroutine" := by
  unfold sigE at h
  split at h <;> first | (cases h; done) | skip
  rename_i x hx
  split at h <;> first | (cases h; done) | skip
  rename_i g ns' hg
  split at h <;> first | (cases h; done) | skip
  split at h <;> first | (cases h; done) | skip
  rename_i fn hfn
  split at h <;> first | (cases h; done) | skip
  rename_i hb
  injection h with h
  injection h with h1 h2
  injection h2 with h2 h3
  subst h1
  subst h3
  rw [Bool.and_eq_true] at hb
  exact ⟨x, hx, hg, fn, hfn, hb.1, by simpa using hb.2⟩
theorem aEff_sound {o : Oper} {ρ : Operand → AV} {a : Act} (hm : RelM W0 w0 X E B O H W) (h : aEff cx o ρ B O H K) (hρ : ∀ x ∈ o.op.operands, VRep E W (ρ x) (a.eval x)) :
    Gets cx.P o a W (EfK W0 w0 X E B O H W K) := by
  obtain ⟨dst, op, type, pos, after, guard⟩ := o
  cases op <;> simp only [aEff] at h <;> first | exact h.elim | skip
  case store t x y =>
    refine (store_sound (cx := cx) hm h (hρ x (by simp [Op.operands])) (hρ y (by simp [Op.operands])) fun W' hr => ?_).mono fun v W' ⟨av, B', O', H', E', h1, h2, h3⟩ => ⟨av, B', O', H', E', ?_, h2, h3⟩
    · simp [execOp, hr]
    · rw [h1.1]; exact h1.2
  case binOp op t x y yt =>
    split at h <;> first | exact h.elim | skip
    rename_i hfa
    split at h <;> first | exact h.elim | skip
    rename_i k a' k' b hx hy
    split at h <;> first | exact h.elim | skip
    rename_i e
    subst e
    have hvx := hρ x (by simp [Op.operands])
    have hvy := hρ y (by simp [Op.operands])
    rw [hx] at hvx
    rw [hy] at hvy
    have ex : a.eval x = .float k' a' := hvx.1
    have ey : a.eval y = .float k' b := hvy.1
    have har : isAr op = true := by
      unfold isFA at hfa
      split at hfa <;> first | exact hfa | (cases hfa; done)
    cases hb : fBits op k' a' b with
    | some r =>
      refine gets_run (W' := W) (v := .float k' r) ?_ ⟨_, B, O, H, E, h r (by rw [hb]), ⟨rfl, rfl⟩, hm, Pers.refl _ _, Nat.le_refl _, fun _ _ => rfl, ClosedSame.refl _⟩
      cases op <;> simp only [isAr] at har <;> first | (cases har; done) | skip
      all_goals
        simp only [fBits] at hb
        simp [execOp, ex, ey, eqGuard, binOp, Op.floatArith, hb]
    | none =>
      refine gets_run (W' := W.drew) (v := .float k' (Question.cut (.nanBits k' a' b) (W.tape W.drawn (.nanBits k' a' b)))) ?_ ⟨_, B, O, H, E, h _ (by rw [hb]; exact ⟨_, rfl⟩), ⟨rfl, rfl⟩, hm.quiet quiet_drew, quiet_drew.pers, Nat.le_refl _, fun _ _ => rfl, ClosedSame.refl _⟩
      cases op <;> simp only [isAr] at har <;> first | (cases har; done) | skip
      all_goals
        simp only [fBits] at hb
        simp [execOp, ex, ey, eqGuard, binOp, Op.floatArith, hb, Question.forced]
  case makeSlice t x y =>
    refine make_sound (cx := cx) hm h (hρ x (by simp [Op.operands])) (hρ y (by simp [Op.operands])) fun r W' hr => ?_
    simp [execOp, hr]
  case box t x =>
    refine newB_sound (cx := cx) hm h (hρ x (by simp [Op.operands])) (fun v W' hr => ?_) fun _ _ _ h => h
    simp [execOp, hr]
  case makeMap t r =>
    cases r with
    | some r => exact h.elim
    | none => exact new_sound (cx := cx) hm h (fun v W' hr => by simp [execOp, hr]) fun _ _ h => h
  case lookup t m k ok =>
    cases ok with
    | true => exact h.elim
    | false => exact look_sound (cx := cx) hm h (hρ m (by simp [Op.operands])) (hρ k (by simp [Op.operands])) (fun v W' hr => by simp [execOp, hr]) fun _ h => h
  case mapEntry t m k => exact ent_sound (cx := cx) hm h (hρ m (by simp [Op.operands])) (hρ k (by simp [Op.operands])) (fun v W' hr => by simp [execOp, hr]) fun _ _ h => h
  case entryStore t m s x => exact sto_sound (cx := cx) hm h (hρ m (by simp [Op.operands])) (hρ s (by simp [Op.operands])) (hρ x (by simp [Op.operands])) (fun W' hr => by simp [execOp, hr]) fun _ h => h
  case mapUpdate t m k x => exact upd_sound (cx := cx) hm h (hρ m (by simp [Op.operands])) (hρ k (by simp [Op.operands])) (hρ x (by simp [Op.operands])) (fun W' hr => by simp [execOp, hr]) fun _ h => h
  case buildSlice t n ps =>
    split at h <;> first | exact h.elim | skip
    rename_i d
    split at h <;> first | exact h.elim | skip
    rename_i hfree
    split at h <;> first | exact h.elim | skip
    rename_i et het
    obtain ⟨E1, m1, p1⟩ := frzVs_rel (ps.toList.map fun p => ρ p.2) hm
    refine (litown_sound (cx := cx) m1 ?_ het h (fun z hz => (hρ z hz).pers p1) (some d) type pos after guard).efk p1
    exact (frzVs_no _ _).2 hfree
  case slice t x lo hi mx =>
    cases mx with
    | some m => exact h.elim
    | none =>
      simp only at h
      split at h <;> first | exact h.elim | skip
      rename_i d
      split at h <;> first | exact h.elim | skip
      rename_i hfree
      split at h <;> first | exact h.elim | skip
      rename_i k hx
      split at h <;> first | exact h.elim | skip
      rename_i e et xs ho
      split at h <;> first | exact h.elim | skip
      rename_i l u hl hu
      split at h <;> first | exact h.elim | skip
      rename_i het
      obtain ⟨i, hi'⟩ := Option.isSome_iff_exists.1 het.2
      obtain ⟨h1, h2, h3, hl0, hk⟩ := h
      have hv := hρ x (by simp [Op.operands])
      rw [hx] at hv
      have hlo := bnd_sound (E := E) (W := W) (ev := a.eval) hl fun y hy => hρ y (by subst hy; simp [Op.operands])
      have hhi := bnd_sound (E := E) (W := W) (ev := a.eval) hu fun y hy => hρ y (by subst hy; simp [Op.operands])
      refine cut_sound (cx := cx) hm hfree ho het.1 hv hlo hhi hl0 h2 h3 hi' (by rw [hl0] at hk; simpa using hk) fun r W' hr => ?_
      exact upv hr
  case call c =>
    have hargs : ∀ z ∈ c.args, VRep E W (ρ z) (a.eval z) := fun z hz => hρ z (by simp only [Op.operands, Call.operands]; simp [hz])
    split at h
    · rename_i hcal
      split at h <;> first | exact h.elim | skip
      rename_i t1 t2 x y hts hxs
      split at h <;> first | exact h.elim | skip
      rename_i ht
      obtain ⟨rfl, hty⟩ := ht
      have hargs' : c.args = #[x, y] := by rw [← Array.toList_inj]; exact hxs
      have hats : c.argTypes = #[t1, t1] := by rw [← Array.toList_inj]; exact hts
      have hty : type = t1 := hty
      subst hty
      refine append_sound (cx := cx) hm h (hargs x (by rw [hargs']; simp)) (hargs y (by rw [hargs']; simp)) fun r W' hr => ?_
      obtain ⟨callee, args, ats⟩ := c
      simp only at hargs' hats hcal
      subst hargs' hats hcal
      simp [execOp, resolve, invoke, builtin, hr]
    · rename_i hcal
      split at h <;> first | exact h.elim | skip
      rename_i t ts m k hts hxs
      have hargs' : c.args = #[m, k] := by rw [← Array.toList_inj]; exact hxs
      have hats : c.argTypes[0]? = some t := by rw [← Array.getElem?_toList, hts]; rfl
      refine del_sound (cx := cx) (ty := type) hm h (hargs m (by rw [hargs']; simp)) (hargs k (by rw [hargs']; simp)) hats (fun r W' hr => ?_) fun _ h => h
      obtain ⟨callee, args, ats⟩ := c
      simp only at hargs' hcal hr
      subst hargs' hcal
      simp [execOp, resolve, invoke, builtin, hr]
    · split at h <;> first | exact h.elim | skip
      rename_i f s hsig
      split at h <;> first | exact h.elim | skip
      rename_i hg
      simp only [Bool.and_eq_true] at hg
      obtain ⟨x0, hx0, hfx, fn, hfn, hb, hn⟩ := sigE_some hsig
      have hv := hρ x0 (by simp only [Op.operands, Call.operands, hx0]; simp)
      exact ecall_sound hm ⟨x0, hx0, fnOf_rep hfx hv, fn, hfn, hb, hn⟩ hg.1.1 hg.1.2 hg.2 dst type pos after guard (capO_iff h) hargs
end
end Go.Ga
set_option linter.unusedSimpArgs false
set_option linter.unusedVariables false
namespace Go.Ga
open Go Go.Gp
def FrzLe (g g' : Nat → OwE) : Prop := ∀ k, g' k = g k ∨ ∃ e t xs, g k = .own e t xs ∧ g' k = .frz e xs
theorem FrzLe.refl (g : Nat → OwE) : FrzLe g g := fun _ => .inl rfl
theorem FrzLe.trans {g g' g'' : Nat → OwE} (h : FrzLe g g') (k : FrzLe g' g'') : FrzLe g g'' := fun q => by
  rcases h q with h1 | ⟨e, t, xs, h1, h2⟩
  · rw [← h1]; exact k q
  · rcases k q with h3 | ⟨e', t', xs', h3, h4⟩
    · exact .inr ⟨e, t, xs, h1, h3.trans h2⟩
    · rw [h2] at h3; cases h3
theorem frz1_le (O : OL) (a : AV0) : FrzLe (getO O) (getO (frz1 O a)) := by
  have go : ∀ k e t xs, getO O k = .own e t xs → FrzLe (getO O) (getO (setO O k (.frz e xs))) := fun k e t xs ho q => by
    rw [getO_set]
    by_cases h : k = q
    · subst h; rw [if_pos rfl]; exact .inr ⟨e, t, xs, ho, rfl⟩
    · rw [if_neg h]; exact .inl rfl
  unfold frz1
  split
  · split
    · rename_i ho; exact go _ _ _ _ ho
    · exact FrzLe.refl _
  · split
    · rename_i ho; exact go _ _ _ _ ho
    · exact FrzLe.refl _
  · exact FrzLe.refl _
theorem frzs_le : ∀ (l : List AV0) (O : OL), FrzLe (getO O) (getO (frzs O l))
  | [], O => FrzLe.refl _
  | a :: l, O => (frz1_le O a).trans (frzs_le l _)
theorem frzVs_le : ∀ (l : List AV) (O : OL), FrzLe (getO O) (getO (frzVs O l))
  | [], O => FrzLe.refl _
  | a :: l, O => (frzs_le _ O).trans (frzVs_le l _)
theorem frzPs_le : ∀ (ps : List (Bool × AK)) (l : List AV) (O : OL), FrzLe (getO O) (getO (frzPs O ps l))
  | [], _, O => FrzLe.refl _
  | _ :: _, [], O => FrzLe.refl _
  | p :: ps, a :: l, O => by
    simp only [frzPs]
    split
    · exact frzPs_le ps l O
    · exact (frzs_le _ O).trans (frzPs_le ps l _)
theorem frzOf_le (cx : Cx) (o : Oper) (ρ : Operand → AV) (O : OL) : FrzLe (getO O) (getO (frzOf cx o ρ O)) := by
  unfold frzOf
  split
  · exact frzVs_le _ _
  · split
    · exact FrzLe.refl _
    · split
      · exact FrzLe.refl _
      · exact frzPs_le _ _ _
  · exact FrzLe.refl _
theorem frz_own {g g' : Nat → OwE} (h : FrzLe g g') {k : Nat} {e : AK} {t : Nat} {xs : List e.T} (ho : g k = .own e t xs) : g' k = .own e t xs ∨ g' k = .frz e xs := by
  rcases h k with h1 | ⟨e', t', xs', h1, h2⟩
  · exact .inl (h1.trans ho)
  · rw [ho] at h1
    injection h1 with a b c
    subst a b
    have := eq_of_heq c
    subst this
    exact .inr h2
theorem frz_frz {g g' : Nat → OwE} (h : FrzLe g g') {k : Nat} {e : AK} {xs : List e.T} (ho : g k = .frz e xs) : g' k = .frz e xs := by
  rcases h k with h1 | ⟨e', t', xs', h1, h2⟩
  · exact h1.trans ho
  · rw [ho] at h1; cases h1
section
variable {cx : Cx} {g g' : Nat → OwE} {K : AV → Prop}
theorem lenOf_agree {a : AV} (h : lenOf g a K) (hg : rdV a = true → FrzLe g g') : lenOf g' a K := by
  unfold lenOf at h ⊢
  split at h <;> first | exact h.elim | exact h | skip
  rename_i k
  have hg := hg rfl
  try simp only
  split at h <;> first | exact h.elim | skip
  · rename_i ho
    rcases frz_own hg ho with h1 | h1 <;> rw [h1] <;> exact h
  · rename_i ho
    rw [frz_frz hg ho]; exact h
theorem idxOf_agree {ek : Option AK} {n : Nat} {a i : AV} (h : idxOf g ek n a i K) (hg : rdV a = true → FrzLe g g') : idxOf g' ek n a i K := by
  unfold idxOf at h ⊢
  split at h <;> first | exact h.elim | skip
  try simp only
  split at h <;> first | exact h.elim | exact h | skip
  rename_i k
  have hg := hg rfl
  try simp only
  split at h <;> first | exact h.elim | skip
  · rename_i ho
    rcases frz_own hg ho with h1 | h1 <;> rw [h1] <;> exact h
  · rename_i ho
    rw [frz_frz hg ho]; exact h
theorem slcOf_agree {n : Nat} {a : AV} {lo hi : Option AV} (h : slcOf g n a lo hi K) (hg : rdV a = true → FrzLe g g') : slcOf g' n a lo hi K := by
  unfold slcOf at h ⊢
  split at h <;> first | exact h.elim | skip
  try simp only
  split at h <;> first | exact h.elim | exact h | skip
  rename_i k
  have hg := hg rfl
  try simp only
  split at h <;> first | exact h.elim | skip
  · rename_i ho
    rcases frz_own hg ho with h1 | h1 <;> rw [h1] <;> exact h
  · rename_i ho
    rw [frz_frz hg ho]; exact h
theorem bytesOf_agree {a : AV} {xs : List UInt8} (h : bytesOf g a = some xs) (hg : rdV a = true → FrzLe g g') : bytesOf g' a = some xs := by
  unfold bytesOf at h ⊢
  split at h <;> first | (cases h; done) | exact h | skip
  rename_i k
  have hg := hg rfl
  try simp only
  split at h <;> first | (cases h; done) | skip
  · rename_i ho
    rcases frz_own hg ho with h1 | h1 <;> rw [h1] <;> exact h
  · rename_i ho
    rw [frz_frz hg ho]; exact h
theorem cvtOf_agree {s d : TypeId} {x : Operand} {ρ ρ0 : Operand → AV} (h : cvtOf cx g s d x ρ ρ0 K) (hg : rdV (ρ x) = true → FrzLe g g') : cvtOf cx g' s d x ρ ρ0 K := by
  unfold cvtOf at h ⊢
  split
  · rename_i hs; rw [hs] at h; exact h
  · rename_i e hs
    rw [hs] at h
    simp only at h ⊢
    split at h <;> first | exact h.elim | skip
    rename_i he
    split at h <;> first | exact h.elim | skip
    · rename_i hd
      split at h <;> first | exact h.elim | skip
      rename_i xs hx
      rw [bytesOf_agree hx hg]; exact h
    · exact h
  · rename_i h1 h2
    split at h
    · rename_i hs; exact absurd hs h1
    · rename_i hs; exact absurd hs (h2 _)
    · exact h
def rd0 : AV0 → Bool
  | .own _ => true
  | .part _ _ _ _ => true
  | _ => false
theorem rdV_agg (l : List AV0) : rdV (.agg l) = l.any rd0 := by
  unfold rdV
  congr 1
theorem dataA_agree {a : AV0} : ∀ {k : AK} {Kr : k.T → Prop}, dataA g a k Kr → (rd0 a = true → FrzLe g g') → dataA g' a k Kr := by
  intro k Kr h hg
  cases k <;> unfold dataA at h ⊢ <;> first | exact h | skip
  · simp only at h ⊢
    split at h <;> first | exact h.elim | exact h | skip
    · rename_i q
      have hg := hg rfl
      try simp only
      split at h <;> first | exact h.elim | skip
      rename_i ho
      rw [frz_frz hg ho]; exact h
    · rename_i q _ _ _
      have hg := hg rfl
      try simp only
      split at h <;> first | exact h.elim | skip
      rename_i ho
      rw [frz_frz hg ho]; exact h
  · simp only at h ⊢
    split at h <;> first | exact h.elim | exact h | skip
    · rename_i q
      have hg := hg rfl
      try simp only
      split at h <;> first | exact h.elim | skip
      · rename_i ho
        rw [frz_frz hg ho]; exact h
      · rename_i ho
        rcases frz_own hg ho with h1 | h1 <;> rw [h1] <;> exact h
    · rename_i q _ _ _
      have hg := hg rfl
      try simp only
      split at h <;> first | exact h.elim | skip
      · rename_i ho
        rw [frz_frz hg ho]; exact h
      · rename_i ho
        rcases frz_own hg ho with h1 | h1 <;> rw [h1] <;> exact h
theorem dataO_mono {a : AV0} : ∀ {k : K1} {Kr Kr' : k.T → Prop}, dataO a k Kr → (∀ x, Kr x → Kr' x) → dataO a k Kr' := by
  intro k Kr Kr' h hk
  cases k <;> unfold dataO at h ⊢ <;> simp only at h ⊢ <;> repeat' (split at h <;> first | exact h.elim | exact hk _ h | skip)
  all_goals first | exact h.elim | exact hk _ h
theorem dataA_mono {a : AV0} : ∀ {k : AK} {Kr Kr' : k.T → Prop}, dataA g a k Kr → (∀ x, Kr x → Kr' x) → dataA g a k Kr' := by
  intro k Kr Kr' h hk
  cases k <;> unfold dataA at h ⊢ <;> simp only at h ⊢ <;> repeat' (split at h <;> first | exact h.elim | exact hk _ h | exact ⟨h.1, h.2.1, hk _ h.2.2⟩ | skip)
  all_goals first | exact h.elim | exact hk _ h | exact dataO_mono h hk | (rw [if_pos (by assumption)]; exact hk _ h)
theorem dataL_agree : ∀ {k : AK} {l : List AV0} {Kr Kr' : k.T → List AV0 → Prop}, dataL g k l Kr → (l.any rd0 = true → FrzLe g g') → (∀ x r, (r.any rd0 = true → l.any rd0 = true) → Kr x r → Kr' x r) → dataL g' k l Kr' := by
  have one : ∀ {k : AK} {a : AV0} {r : List AV0} {Kr Kr' : k.T → List AV0 → Prop}, dataA g a k (fun x => Kr x r) → ((a :: r).any rd0 = true → FrzLe g g') → (∀ x r', (r'.any rd0 = true → (a :: r).any rd0 = true) → Kr x r' → Kr' x r') → dataA g' a k (fun x => Kr' x r) := fun {k a r Kr Kr'} h hg hk => by
    have h1 := dataA_agree (Kr := fun x => Kr x r) h fun ha => hg (by simp [ha])
    exact dataA_mono h1 fun x hx => hk x r (fun hr => by simp [hr]) hx
  intro k
  induction k with
  | nil => intro l Kr Kr' h hg hk; exact hk _ _ id h
  | cons a b iha ihb =>
    intro l Kr Kr' h hg hk
    exact iha h hg fun x r hr hx => ihb hx (fun h' => hg (hr h')) fun y r' hr' hy => hk _ _ (fun h' => hr (hr' h')) hy
  | one k => intro l Kr Kr' h hg hk; cases l with | nil => exact h.elim | cons a r => exact one (k := .one k) (Kr := Kr) (Kr' := Kr') h hg hk
  | byte => intro l Kr Kr' h hg hk; cases l with | nil => exact h.elim | cons a r => exact one (k := .byte) (Kr := Kr) (Kr' := Kr') h hg hk
  | ref => intro l Kr Kr' h hg hk; cases l with | nil => exact h.elim | cons a r => exact one (k := .ref) (Kr := Kr) (Kr' := Kr') h hg hk
  | row e => intro l Kr Kr' h hg hk; cases l with | nil => exact h.elim | cons a r => exact one (k := .row e) (Kr := Kr) (Kr' := Kr') h hg hk
  | brw e => intro l Kr Kr' h hg hk; cases l with | nil => exact h.elim | cons a r => exact one (k := .brw e) (Kr := Kr) (Kr' := Kr') h hg hk
  | fn f => intro l Kr Kr' h hg hk; cases l with | nil => exact h.elim | cons a r => exact one (k := .fn f) (Kr := Kr) (Kr' := Kr') h hg hk
  | arr e t => intro l Kr Kr' h hg hk; exact h.elim
  | mp e => intro l Kr Kr' h hg hk; exact h.elim
  | own e t => intro l Kr Kr' h hg hk; exact h.elim
theorem cellsV_rd {ag : Bool} {a : AV} {cs : List AV0} (h : cellsV ag a = some cs) (hr : cs.any rd0 = true) : rdV a = true := by
  unfold cellsV at h
  split at h
  · split at h <;> first | (cases h; done) | skip
    injection h with h
    subst h
    rw [rdV_agg]; exact hr
  · cases h
  · cases h
  · split at h <;> first | (cases h; done) | skip
    injection h with h
    subst h
    rename_i a _ _ _
    simp at hr
    cases a <;> simp [rd0] at hr <;> rfl
  · cases h
theorem litL_agree {ρ : Operand → AV} {ag : Bool} {k : AK} : ∀ {ps : List (Nat × Operand)} {i : Nat} {Kr Kr' : List k.T → Prop}, litL g ρ ag k i ps Kr → ((ps.any fun p => rdV (ρ p.2)) = true → FrzLe g g') → (∀ x, Kr x → Kr' x) → litL g' ρ ag k i ps Kr'
  | [], i, Kr, Kr', h, _, hk => hk _ h
  | (j, x) :: r, i, Kr, Kr', h, hg, hk => by
    unfold litL at h ⊢
    split at h <;> first | exact h.elim | skip
    rename_i hij
    rw [if_pos hij]
    split at h <;> first | exact h.elim | skip
    rename_i cs hcs
    try simp only [hcs]
    refine dataL_agree h (fun hr => hg (by simp [cellsV_rd hcs hr])) fun y rest _ hy => ?_
    split at hy <;> first | exact hy.elim | skip
    exact litL_agree hy (fun hr => hg (by rw [List.any_cons, hr, Bool.or_true])) fun ys => hk _
theorem litOf_agree {t : TypeId} {n : Nat} {ps : List (Nat × Operand)} {ρ : Operand → AV} {Kr : (k : AK) → List k.T → Prop} (h : litOf cx g t n ps ρ Kr) (hg : (ps.any fun p => rdV (ρ p.2)) = true → FrzLe g g') : litOf cx g' t n ps ρ Kr := by
  unfold litOf at h ⊢
  split at h <;> first | exact h.elim | skip
  rename_i h1; try simp only [h1]
  split at h <;> first | exact h.elim | skip
  rename_i h2; try simp only [h2]
  split at h <;> first | exact h.elim | skip
  rename_i h3; try simp only [h3]
  split at h <;> first | exact h.elim | skip
  rename_i h4; rw [if_pos h4]
  exact litL_agree h hg fun _ => id
theorem readA_agree : ∀ {ps : List (Bool × AK)} {l : List AV} {Kr Kr' : HT ps → Prop}, readA g ps l Kr → (l.any rdV = true → FrzLe g g') → (∀ x, Kr x → Kr' x) → readA g' ps l Kr'
  | [], [], Kr, Kr', h, _, hk => hk _ h
  | [], _ :: _, _, _, h, _, _ => h.elim
  | _ :: _, [], _, _, h, _, _ => h.elim
  | p :: r, a :: l, Kr, Kr', h, hg, hk => by
    unfold readA at h ⊢
    simp only at h ⊢
    split at h <;> first | exact h.elim | skip
    rename_i cs hcs
    try simp only [hcs]
    refine dataL_agree h (fun hr => hg (by simp [cellsV_rd hcs hr])) fun y rest _ hy => ?_
    split at hy <;> first | exact hy.elim | skip
    exact readA_agree hy (fun hr => hg (by rw [List.any_cons, hr, Bool.or_true])) fun ys => hk _
end
theorem elA_mono {α : Type} {xs : List α} {i : Nat} {K K' : α → Prop} (h : elA xs i K) (hk : ∀ x, K x → K' x) : elA xs i K' := by
  obtain ⟨x, h1, h2⟩ := h; exact ⟨x, h1, hk x h2⟩
theorem loadOf_agree {cx : Cx} {gB gB' : Nat → BxE} {g g' : Nat → OwE} {H H' : HP} {t : TypeId} {a : AV} {K : AV → Prop} (h : loadOf cx gB g H t a K)
    (hb : ∀ i j, a = .v (.bx i j) → gB i = .no ∨ gB' i = gB i) (hg : (∃ k z i j, a = .v (.elp k z i j)) → FrzLe g g') (hh : ((∃ m k j, a = .v (.op m k j)) ∨ ∃ e p j, a = .v (.ope e p j)) → H' = H) : loadOf cx gB' g' H' t a K := by
  unfold loadOf at h ⊢
  split at h <;> first | exact h.elim | skip
  rename_i h1; try simp only [h1]
  split at h <;> first | exact h.elim | exact h | skip
  · rename_i i j
    rcases hb i j rfl with h2 | h2
    · rw [h2] at h; exact h.elim
    · simp only [h2]; exact h
  · rename_i k z i j
    have hg := hg ⟨k, z, i, j, rfl⟩
    split at h <;> first | exact h.elim | skip
    · rename_i ho
      rcases frz_own hg ho with h1 | h1 <;> rw [h1] <;> exact h
    · rename_i ho
      rw [frz_frz hg ho]; exact h
  · rename_i m k j
    rw [hh (.inl ⟨m, k, j, rfl⟩)]; exact h
  · rename_i e p j
    rw [hh (.inr ⟨e, p, j, rfl⟩)]; exact h
theorem aRead_agree {cx : Cx} {o : Oper} {ρ ρ0 : Operand → AV} {gB gB' : Nat → BxE} {g g' : Nat → OwE} {H H' : HP} {K : AV → Prop} (h : aRead cx o ρ ρ0 gB g H K)
    (hb : ∀ i ∈ (rdOf cx o ρ).b, gB i = .no ∨ gB' i = gB i) (hg : (rdOf cx o ρ).o = true → FrzLe g g') (hh : (rdOf cx o ρ).h = true → H' = H) : aRead cx o ρ ρ0 gB' g' H' K := by
  obtain ⟨dst, op, type, pos, after, guard⟩ := o
  cases op <;> simp only [rdOf] at hb hg hh <;> simp only [aRead] at h ⊢ <;> first | exact h | skip
  case indexAddr t x i =>
    split at h <;> first | exact h.elim | skip
    rename_i h1; try simp only [h1]
    split at h <;> first | exact h.elim | skip
    rename_i h2; try simp only [h2]
    exact idxOf_agree h hg
  case convert s d x => exact cvtOf_agree h hg
  case slice t x lo hi mx =>
    cases mx with
    | some m => exact h.elim
    | none =>
      simp only at h ⊢
      split at h <;> first | exact h.elim | skip
      rename_i h1; try simp only [h1]
      split at h <;> first | exact h.elim | skip
      rename_i h2; try simp only [h2]
      exact slcOf_agree h hg
  case load t a =>
    refine loadOf_agree h (fun i j ha => hb i (by rw [ha]; simp)) (fun ⟨k, z, i, j, ha⟩ => hg (by rw [ha])) fun ha => hh (by rcases ha with ⟨m, k, j, ha⟩ | ⟨e, p, j, ha⟩ <;> rw [ha])
  case buildSlice t n ps => exact litOf_agree h hg
  case call c =>
    split at h
    · rename_i hc
      try simp only [hc]
      split at h <;> first | exact h.elim | skip
      rename_i x hx
      try simp only [hx]
      split at h <;> first | exact h.elim | skip
      rename_i t ht
      try simp only [ht]
      split at h <;> first | exact h.elim | skip
      · rename_i e hu
        exact lenOf_agree h fun hr => hg (by simp [hx, hr])
      · exact h
    · rename_i hc
      try simp only [hc]
      exact h
    · rename_i hc
      split at h <;> first | exact h.elim | skip
      · rename_i f s hs
        simp only [hs] at hh ⊢
        refine readA_agree h (fun hr => hg (by rw [List.any_map] at hr; exact hr)) fun xs hx => ?_
        split at hx <;> first | exact hx.elim | exact hx | skip
        rename_i hcls
        rw [hh (by rw [hcls]; rfl)]; exact hx
theorem rdOf_congr {cx : Cx} {o : Oper} {ρ ρ' : Operand → AV} (h : ∀ x ∈ o.op.operands, ρ x = ρ' x) : rdOf cx o ρ = rdOf cx o ρ' := by
  obtain ⟨dst, op, type, pos, after, guard⟩ := o
  cases op <;> simp only [rdOf] <;> first | rfl | skip
  case load t a => rw [h a (by simp [Op.operands])]
  case indexAddr t x i => rw [h x (by simp [Op.operands])]
  case slice t x lo hi mx => rw [h x (by simp [Op.operands])]
  case convert s d x => rw [h x (by simp [Op.operands])]
  case buildSlice t n ps =>
    have : (ps.toList.any fun p => rdV (ρ p.2)) = ps.toList.any fun p => rdV (ρ' p.2) := by
      have : ∀ p ∈ ps.toList, rdV (ρ p.2) = rdV (ρ' p.2) := fun p hp => by rw [h p.2 (by simp only [Op.operands]; simp at hp ⊢; exact ⟨p.1, hp⟩)]
      revert this
      generalize ps.toList = l
      intro hl
      induction l with
      | nil => rfl
      | cons p l ih => simp only [List.any_cons]; rw [hl p (by simp), ih fun q hq => hl q (by simp [hq])]
    rw [this]
  case call c =>
    have : (c.args.toList.any fun x => rdV (ρ x)) = c.args.toList.any fun x => rdV (ρ' x) := by
      have : ∀ x ∈ c.args.toList, rdV (ρ x) = rdV (ρ' x) := fun x hx => by rw [h x (by simp only [Op.operands, Call.operands]; simp at hx ⊢; exact .inr hx)]
      revert this
      generalize c.args.toList = l
      intro hl
      induction l with
      | nil => rfl
      | cons p l ih => simp only [List.any_cons]; rw [hl p (by simp), ih fun q hq => hl q (by simp [hq])]
    rw [this]
theorem litL_mono {g : Nat → OwE} {ρ : Operand → AV} {ag : Bool} {k : AK} {ps : List (Nat × Operand)} {i : Nat} {Kr Kr' : List k.T → Prop} (h : litL g ρ ag k i ps Kr) (hk : ∀ x, Kr x → Kr' x) : litL g ρ ag k i ps Kr' := litL_agree h (fun _ => FrzLe.refl _) hk
theorem litOf_mono {cx : Cx} {g : Nat → OwE} {t : TypeId} {n : Nat} {ps : List (Nat × Operand)} {ρ : Operand → AV} {Kr Kr' : (k : AK) → List k.T → Prop} (h : litOf cx g t n ps ρ Kr) (hk : ∀ k x, Kr k x → Kr' k x) : litOf cx g t n ps ρ Kr' := by
  unfold litOf at h ⊢
  split at h <;> first | exact h.elim | skip
  rename_i h1; try simp only [h1]
  split at h <;> first | exact h.elim | skip
  rename_i h2; try simp only [h2]
  split at h <;> first | exact h.elim | skip
  rename_i h3; try simp only [h3]
  split at h <;> first | exact h.elim | skip
  rename_i h4; rw [if_pos h4]
  exact litL_mono h fun x => hk _ x
theorem dataL_mono {g : Nat → OwE} {k : AK} {l : List AV0} {Kr Kr' : k.T → List AV0 → Prop} (h : dataL g k l Kr) (hk : ∀ x r, Kr x r → Kr' x r) : dataL g k l Kr' := dataL_agree h (fun _ => FrzLe.refl _) fun x r _ => hk x r
theorem srcOf_mono {g : Nat → OwE} {e : AK} {a : AV} {Kr Kr' : List e.T → Prop} (h : srcOf g e a Kr) (hk : ∀ x, Kr x → Kr' x) : srcOf g e a Kr' := by
  unfold srcOf at h ⊢
  repeat' (split at h <;> first | exact h.elim | exact hk _ h | skip)
  all_goals first | exact h.elim | exact hk _ h | (rw [if_pos (by assumption)]; exact hk _ h)
theorem movL_mono : ∀ {k : AK} {O : OL} {l : List AV0} {Kr Kr' : k.T → List AV0 → OL → Prop}, movL O k l Kr → (∀ x r O', Kr x r O' → Kr' x r O') → movL O k l Kr' := by
  intro k
  induction k with
  | nil => intro O l Kr Kr' h hk; exact hk _ _ _ h
  | cons a b iha ihb => intro O l Kr Kr' h hk; exact iha h fun x r O' hx => ihb hx fun y r' O'' => hk _ _ _
  | one k => intro O l Kr Kr' h hk; cases l with | nil => exact h.elim | cons a r => exact dataA_mono (g := getO O) (k := .one k) (Kr := fun x => Kr x r O) h fun x => hk x _ _
  | byte => intro O l Kr Kr' h hk; cases l with | nil => exact h.elim | cons a r => exact dataA_mono (g := getO O) (k := .byte) (Kr := fun x => Kr x r O) h fun x => hk x _ _
  | ref => intro O l Kr Kr' h hk; cases l with | nil => exact h.elim | cons a r => exact dataA_mono (g := getO O) (k := .ref) (Kr := fun x => Kr x r O) h fun x => hk x _ _
  | row e => intro O l Kr Kr' h hk; cases l with | nil => exact h.elim | cons a r => exact dataA_mono (g := getO (frz1 O a)) (k := .row e) (Kr := fun x => Kr x r _) h fun x => hk x _ _
  | fn f => intro O l Kr Kr' h hk; cases l with | nil => exact h.elim | cons a r => exact dataA_mono (g := getO O) (k := .fn f) (Kr := fun x => Kr x r O) h fun x => hk x _ _
  | arr e t => intro O l Kr Kr' h hk; exact h.elim
  | mp e => intro O l Kr Kr' h hk; exact h.elim
  | brw e => intro O l Kr Kr' h hk; cases l with | nil => exact h.elim | cons a r => exact dataA_mono (g := getO O) (k := .brw e) (Kr := fun x => Kr x r _) h fun x => hk x _ _
  | own e t =>
    intro O l Kr Kr' h hk
    simp only [movL] at h ⊢
    repeat' (split at h <;> first | exact h.elim | exact hk _ _ _ h | skip)
    all_goals first | exact h.elim | exact hk _ _ _ h | (rw [if_pos (by assumption)]; exact hk _ _ _ h)
theorem argsA_mono : ∀ {ps : List (Bool × AK)} {O : OL} {l : List AV} {Kr Kr' : HT ps → OL → Prop}, argsA O ps l Kr → (∀ x O', Kr x O' → Kr' x O') → argsA O ps l Kr'
  | [], O, [], Kr, Kr', h, hk => hk _ _ h
  | [], _, _ :: _, _, _, h, _ => h.elim
  | _ :: _, _, [], _, _, h, _ => h.elim
  | p :: r, O, a :: l, Kr, Kr', h, hk => by
    unfold argsA at h ⊢
    simp only at h ⊢
    split at h <;> first | exact h.elim | skip
    rename_i cs hcs
    try simp only [hcs]
    refine movL_mono h fun y rest O' hy => ?_
    split at hy <;> first | exact hy.elim | skip
    exact argsA_mono hy fun x O'' => hk _ _
theorem callA_mono {P : Program} {f : FuncId} {ps : List (Bool × AK)} {xs : HT ps} {rs : List (Bool × AK)} {H : HP} {K K' : HT rs → HP → Prop} (h : callA P f ps xs rs H K) (hk : ∀ r H', K r H' → K' r H') : callA P f ps xs rs H K' := fun w W vs hp ha =>
  Calls.mono (h w W vs hp ha) fun e W' ⟨us, r, H', w', h1, h2, h3⟩ => ⟨us, r, H', w', h1, hk _ _ h2, h3⟩
theorem setC_mono {g : Nat → OwE} {a : AV0} : ∀ {k : AK} {x : k.T} {j : Nat} {Kr Kr' : k.T → Prop}, setC g a k x j Kr → (∀ y, Kr y → Kr' y) → setC g a k x j Kr' := by
  intro k
  induction k with
  | cons p q ihp ihq =>
    intro x j Kr Kr' h hk
    unfold setC at h ⊢
    split at h
    · rename_i hj; try rw [if_pos hj]
      exact ihp h fun y => hk _
    · rename_i hj; try rw [if_neg hj]
      exact ihq h fun y => hk _
  | one k => intro x j Kr Kr' h hk; cases j with | zero => exact dataA_mono (g := g) (k := .one k) h hk | succ j => exact h.elim
  | byte => intro x j Kr Kr' h hk; cases j with | zero => exact dataA_mono (g := g) (k := .byte) h hk | succ j => exact h.elim
  | ref => intro x j Kr Kr' h hk; cases j with | zero => exact dataA_mono (g := g) (k := .ref) h hk | succ j => exact h.elim
  | row e => intro x j Kr Kr' h hk; cases j with | zero => exact dataA_mono (g := g) (k := .row e) h hk | succ j => exact h.elim
  | own e t => intro x j Kr Kr' h hk; exact h.elim
  | fn f => intro x j Kr Kr' h hk; cases j with | zero => exact dataA_mono (g := g) (k := .fn f) h hk | succ j => exact h.elim
  | arr e t => intro x j Kr Kr' h hk; exact h.elim
  | mp e => intro x j Kr Kr' h hk; exact h.elim
  | brw e => intro x j Kr Kr' h hk; exact h.elim
  | nil => intro x j Kr Kr' h hk; exact h.elim
theorem setCs_mono {g : Nat → OwE} {k : AK} : ∀ {us : List AV0} {x : k.T} {j : Nat} {Kr Kr' : k.T → Prop}, setCs g k x j us Kr → (∀ y, Kr y → Kr' y) → setCs g k x j us Kr'
  | [], x, j, Kr, Kr', h, hk => hk _ h
  | a :: r, x, j, Kr, Kr', h, hk => setC_mono (Kr := fun y => setCs g k y (j + 1) r Kr) h fun y hy => setCs_mono hy hk
theorem storeOf_mono {cx : Cx} {t : TypeId} {a x : AV} {B : BL} {O : OL} {H : HP} {K K' : BL → OL → HP → Prop} (h : storeOf cx t a x B O H K) (hk : ∀ B O H, K B O H → K' B O H) : storeOf cx t a x B O H K' := by
  unfold storeOf at h ⊢
  split at h <;> first | exact h.elim | skip
  split at h <;> first | exact h.elim | skip
  split at h <;> first | exact h.elim | skip
  rename_i h3; try rw [if_pos h3]
  split at h <;> first | exact h.elim | skip
  · split at h <;> first | exact h.elim | skip
    split at h <;> first | exact h.elim | skip
    rename_i h4; try rw [if_pos h4]
    exact hk _ _ _ h
  · split at h <;> first | exact h.elim | skip
    split at h <;> first | exact h.elim | skip
    rename_i h4; try rw [if_pos h4]
    exact elA_mono h fun y hy => setCs_mono hy fun y' => hk _ _ _
  · split at h <;> first | exact h.elim | skip
    rename_i h4; try simp only [h4]
    obtain ⟨y, h5, h6⟩ := h
    exact ⟨y, h5, setCs_mono h6 fun y' => hk _ _ _⟩
  · split at h <;> first | exact h.elim | skip
    try rename_i h4
    try simp only [h4]
    obtain ⟨t, s, xs, i, y, h5, h6, h7, h8⟩ := h
    exact ⟨t, s, xs, i, y, h5, h6, h7, setCs_mono h8 fun y' => hk _ _ _⟩
theorem makeOf_wr {cx : Cx} {d : Option Tmp} {t : TypeId} {l c : AV} {B : BL} {O : OL} {H : HP} {K : AV → BL → OL → HP → Prop} (h : makeOf cx d t l c B O H K) : makeOf cx d t l c B O H fun a B' O' H' => K a B' O' H' ∧ B' = B ∧ H' = H := by
  unfold makeOf at h ⊢
  split at h <;> first | exact h.elim | skip
  split at h <;> first | exact h.elim | skip
  split at h <;> first | exact h.elim | skip
  split at h <;> first | exact h.elim | skip
  split at h <;> first | exact h.elim | skip
  rename_i h3; try rw [if_pos h3]
  split at h <;> first | exact h.elim | skip
  refine dataL_mono h fun x r hx => ?_
  split at hx <;> first | exact hx.elim | skip
  obtain ⟨h1, h2, h3, h4, h5⟩ := hx
  exact ⟨h1, h2, h3, h4, h5, rfl, rfl⟩
theorem appendOf_wr {cx : Cx} {d : Option Tmp} {t : TypeId} {a b : AV} {B : BL} {O : OL} {H : HP} {K : AV → BL → OL → HP → Prop} (h : appendOf cx d t a b B O H K) : appendOf cx d t a b B O H fun a B' O' H' => K a B' O' H' ∧ B' = B ∧ H' = H := by
  unfold appendOf at h ⊢
  split at h <;> first | exact h.elim | skip
  split at h <;> first | exact h.elim | skip
  split at h <;> first | exact h.elim | skip
  split at h <;> first | exact h.elim | skip
  split at h <;> first | exact h.elim | skip
  rename_i h3; try rw [if_pos h3]
  split at h <;> first | exact h.elim | skip
  · split at h <;> first | exact h.elim | skip
    split at h <;> first | exact h.elim | skip
    rename_i h4; try rw [if_pos h4]
    split at h <;> first | exact h.elim | skip
    exact srcOf_mono h fun ys hy => ⟨hy.1, hy.2, rfl, rfl⟩
  · exact srcOf_mono h fun ys hy => ⟨hy.1, hy.2, rfl, rfl⟩
  · exact ⟨h.1, srcOf_mono h.2 fun ys hy => ⟨hy.1, hy.2, rfl, rfl⟩⟩
theorem makeOf_mono {cx : Cx} {d : Option Tmp} {t : TypeId} {l c : AV} {B : BL} {O : OL} {H : HP} {K K' : AV → BL → OL → HP → Prop} (h : makeOf cx d t l c B O H K) (hk : ∀ a B O H, K a B O H → K' a B O H) : makeOf cx d t l c B O H K' := by
  unfold makeOf at h ⊢
  split at h <;> first | exact h.elim | skip
  split at h <;> first | exact h.elim | skip
  split at h <;> first | exact h.elim | skip
  split at h <;> first | exact h.elim | skip
  split at h <;> first | exact h.elim | skip
  rename_i h3; try rw [if_pos h3]
  split at h <;> first | exact h.elim | skip
  refine dataL_mono h fun x r hx => ?_
  split at hx <;> first | exact hx.elim | skip
  obtain ⟨h1, h2, h3, h4, h5⟩ := hx
  exact ⟨h1, h2, h3, h4, hk _ _ _ _ h5⟩
theorem appendOf_mono {cx : Cx} {d : Option Tmp} {t : TypeId} {a b : AV} {B : BL} {O : OL} {H : HP} {K K' : AV → BL → OL → HP → Prop} (h : appendOf cx d t a b B O H K) (hk : ∀ a B O H, K a B O H → K' a B O H) : appendOf cx d t a b B O H K' := by
  unfold appendOf at h ⊢
  split at h <;> first | exact h.elim | skip
  split at h <;> first | exact h.elim | skip
  split at h <;> first | exact h.elim | skip
  split at h <;> first | exact h.elim | skip
  split at h <;> first | exact h.elim | skip
  rename_i h3; try rw [if_pos h3]
  split at h <;> first | exact h.elim | skip
  · split at h <;> first | exact h.elim | skip
    split at h <;> first | exact h.elim | skip
    rename_i h4; try rw [if_pos h4]
    split at h <;> first | exact h.elim | skip
    exact srcOf_mono h fun ys hy => ⟨hy.1, hk _ _ _ _ hy.2⟩
  · exact srcOf_mono h fun ys hy => ⟨hy.1, hk _ _ _ _ hy.2⟩
  · exact ⟨h.1, srcOf_mono h.2 fun ys hy => ⟨hy.1, hk _ _ _ _ hy.2⟩⟩
theorem storeOf_ob {cx : Cx} {t : TypeId} {a x : AV} {B : BL} {O : OL} {H : HP} {K : BL → OL → HP → Prop} (hob : (match a with | .v (.op _ _ _) => true | .v (.ope _ _ _) => true | _ => false) = true) (h : storeOf cx t a x B O H K) : storeOf cx t a x B O H fun B' O' H' => K B' O' H' ∧ B' = B := by
  unfold storeOf at h ⊢
  split at h <;> first | exact h.elim | skip
  split at h <;> first | exact h.elim | skip
  split at h <;> first | exact h.elim | skip
  rename_i h3; try rw [if_pos h3]
  split at h <;> first | exact h.elim | skip
  · cases hob
  · cases hob
  · split at h <;> first | exact h.elim | skip
    rename_i h4; try simp only [h4]
    obtain ⟨y, h5, h6⟩ := h
    exact ⟨y, h5, setCs_mono h6 fun y' hy => ⟨hy, by trivial⟩⟩
  · split at h <;> first | exact h.elim | skip
    try rename_i h4
    try simp only [h4]
    obtain ⟨t, s, xs, i, y, h5, h6, h7, h8⟩ := h
    exact ⟨t, s, xs, i, y, h5, h6, h7, setCs_mono h8 fun y' hy => ⟨hy, by trivial⟩⟩
theorem aEff_ob {cx : Cx} {o : Oper} {ρ : Operand → AV} {B : BL} {O : OL} {H : HP} {K : AV → BL → OL → HP → Prop} (hob : objSt o ρ = true) (h : aEff cx o ρ B O H K) : aEff cx o ρ B O H fun a B' O' H' => K a B' O' H' ∧ (false = false → B' = B) ∧ (true = false → H' = H) := by
  obtain ⟨dst, op, type, pos, after, guard⟩ := o
  cases op <;> simp only [objSt] at hob <;> first | (cases hob; done) | skip
  case store t a x =>
    have h1 := storeOf_ob hob h
    simp only [aEff]
    exact storeOf_mono h1 fun B' O' H' hk => ⟨hk.1, fun _ => hk.2, fun hf => by cases hf⟩
theorem storeOf_bx {cx : Cx} {t : TypeId} {a x : AV} {B : BL} {O : OL} {H : HP} {K : BL → OL → HP → Prop} (hob : (match a with | .v (.bx _ _) => true | _ => false) = true) (h : storeOf cx t a x B O H K) : storeOf cx t a x B O H fun B' O' H' => K B' O' H' ∧ H' = H := by
  unfold storeOf at h ⊢
  split at h <;> first | exact h.elim | skip
  split at h <;> first | exact h.elim | skip
  split at h <;> first | exact h.elim | skip
  rename_i h3; try rw [if_pos h3]
  split at h <;> first | exact h.elim | (cases hob; done) | skip
  split at h <;> first | exact h.elim | skip
  split at h <;> first | exact h.elim | skip
  rename_i h4; try rw [if_pos h4]
  exact ⟨h, rfl⟩
theorem aEff_bx {cx : Cx} {o : Oper} {ρ : Operand → AV} {B : BL} {O : OL} {H : HP} {K : AV → BL → OL → HP → Prop} (hob : boxSt o ρ = true) (h : aEff cx o ρ B O H K) : aEff cx o ρ B O H fun a B' O' H' => K a B' O' H' ∧ (true = false → B' = B) ∧ (false = false → H' = H) := by
  obtain ⟨dst, op, type, pos, after, guard⟩ := o
  cases op <;> simp only [boxSt] at hob <;> first | (cases hob; done) | skip
  case store t a x =>
    have h1 := storeOf_bx hob h
    simp only [aEff]
    exact storeOf_mono h1 fun B' O' H' hk => ⟨hk.1, (fun hf => by cases hf), fun _ => hk.2⟩
theorem newB_mono {cx : Cx} {t : TypeId} {a : AV} {O : OL} {H : HP} {K K' : AV → OL → HP → Prop} (h : newB cx t a O H K) (hk : ∀ a O H, K a O H → K' a O H) : newB cx t a O H K' := by
  unfold newB at h ⊢
  split at h <;> first | exact h.elim | skip
  split at h <;> first | exact h.elim | skip
  refine dataL_mono h fun x l hx => ?_
  split at hx <;> first | exact hx.elim | skip
  exact fun n hn => hk _ _ _ (hx n hn)
theorem mapT_mono {cx : Cx} {t : TypeId} {K K' : (e : AK) → e.T → Prop} (h : mapT cx t K) (hk : ∀ e x, K e x → K' e x) : mapT cx t K' := by
  unfold mapT at h ⊢
  split at h <;> first | exact h.elim | skip
  split at h <;> first | exact h.elim | skip
  split at h <;> first | exact h.elim | skip
  split at h <;> first | exact h.elim | skip
  rename_i hc
  rw [if_pos hc]
  refine dataL_mono h fun x l hx => ?_
  split at hx <;> first | exact hx.elim | skip
  exact hk _ _ hx
theorem mapA_mono {e : AK} {v : Value} {H : HP} {K K' : Nat → Nat → List (Int × Nat × e.T) → Prop} (h : mapA e v H K) (hk : ∀ n c l, K n c l → K' n c l) : mapA e v H K' := by
  obtain ⟨n, c, l, h1, h2, h3⟩ := h
  exact ⟨n, c, l, h1, h2, hk _ _ _ h3⟩
theorem valA_mono {g : Nat → OwE} {a : AV} {e : AK} {K K' : e.T → Prop} (h : valA g a e K) (hk : ∀ x, K x → K' x) : valA g a e K' := by
  unfold valA at h ⊢
  split at h <;> first | exact h.elim | skip
  refine dataL_mono h fun x l hx => ?_
  split at hx <;> first | exact hx.elim | skip
  exact hk _ hx
theorem lookM_mono {cx : Cx} {t : TypeId} {m k : AV} {H : HP} {K K' : AV → Prop} (h : lookM cx t m k H K) (hk : ∀ a, K a → K' a) : lookM cx t m k H K' := by
  unfold lookM at h ⊢
  split at h <;> first | exact h.elim | skip
  exact mapT_mono h fun e z h => mapA_mono h fun n c l h => hk _ h
theorem entM_mono {cx : Cx} {t : TypeId} {m k : AV} {H : HP} {K K' : AV → HP → Prop} (h : entM cx t m k H K) (hk : ∀ a H, K a H → K' a H) : entM cx t m k H K' := by
  unfold entM at h ⊢
  split at h <;> first | exact h.elim | skip
  exact mapT_mono h fun e z h => mapA_mono h fun n c l h => hk _ _ h
theorem stoM_mono {cx : Cx} {g : Nat → OwE} {t : TypeId} {m s x : AV} {H : HP} {K K' : HP → Prop} (h : stoM cx g t m s x H K) (hk : ∀ H, K H → K' H) : stoM cx g t m s x H K' := by
  unfold stoM at h ⊢
  split at h <;> first | exact h.elim | skip
  exact mapT_mono h fun e z h => valA_mono h fun x h => mapA_mono h fun n c l ⟨l', h1, h2⟩ => ⟨l', h1, hk _ h2⟩
theorem updM_mono {cx : Cx} {g : Nat → OwE} {t : TypeId} {m k x : AV} {H : HP} {K K' : HP → Prop} (h : updM cx g t m k x H K) (hk : ∀ H, K H → K' H) : updM cx g t m k x H K' := by
  unfold updM at h ⊢
  split at h <;> first | exact h.elim | skip
  exact mapT_mono h fun e z h => valA_mono h fun x h => mapA_mono h fun n c l h => hk _ h
theorem delM_mono {cx : Cx} {t : TypeId} {m k : AV} {H : HP} {K K' : HP → Prop} (h : delM cx t m k H K) (hk : ∀ H, K H → K' H) : delM cx t m k H K' := by
  unfold delM at h ⊢
  split at h <;> first | exact h.elim | skip
  exact mapT_mono h fun e z h => mapA_mono h fun n c l h => hk _ h
theorem aEff_wr {cx : Cx} {o : Oper} {ρ : Operand → AV} {B : BL} {O : OL} {H : HP} {K : AV → BL → OL → HP → Prop} (h : aEff cx o ρ B O H K) :
    aEff cx o ρ B O H fun a B' O' H' => K a B' O' H' ∧ ((wrOf cx o).b = false → B' = B) ∧ ((wrOf cx o).h = false → H' = H) := by
  obtain ⟨dst, op, type, pos, after, guard⟩ := o
  cases op <;> simp only [wrOf] <;> simp only [aEff] at h ⊢ <;> first | exact h.elim | skip
  case store t a x => exact storeOf_mono h fun B O H hk => ⟨hk, fun h => (by cases h), fun h => (by cases h)⟩
  case binOp op t x y yt =>
    split at h <;> first | exact h.elim | skip
    split at h <;> first | exact h.elim | skip
    split at h <;> first | exact h.elim | skip
    rename_i e
    rw [if_pos e]
    exact fun r hr => ⟨h r hr, fun _ => (by trivial), fun _ => (by trivial)⟩
  case makeSlice t l c =>
    exact makeOf_mono (makeOf_wr h) fun a B' O' H' hk => ⟨hk.1, fun _ => hk.2.1, fun _ => hk.2.2⟩
  case box t x => exact newB_mono h fun a O H' hk => ⟨hk, fun _ => (by trivial), fun h => (by cases h)⟩
  case makeMap t r =>
    cases r with
    | some r => exact h.elim
    | none => exact mapT_mono h fun e z h n hn => ⟨h n hn, fun _ => (by trivial), fun h => (by cases h)⟩
  case lookup t m k ok =>
    cases ok with
    | true => exact h.elim
    | false => exact lookM_mono h fun a hk => ⟨hk, fun _ => (by trivial), fun _ => (by trivial)⟩
  case mapEntry t m k => exact entM_mono h fun a H' hk => ⟨hk, fun _ => (by trivial), fun h => (by cases h)⟩
  case entryStore t m s x => exact stoM_mono h fun H' hk => ⟨hk, fun _ => (by trivial), fun h => (by cases h)⟩
  case mapUpdate t m k x => exact updM_mono h fun H' hk => ⟨hk, fun _ => (by trivial), fun h => (by cases h)⟩
  case buildSlice t n ps =>
    split at h <;> first | exact h.elim | skip
    split at h <;> first | exact h.elim | skip
    split at h <;> first | exact h.elim | skip
    exact litOf_mono h fun k xs hk => ⟨hk, fun _ => (by trivial), fun _ => (by trivial)⟩
  case slice t x lo hi mx =>
    cases mx with
    | some m => exact h.elim
    | none =>
      simp only at h ⊢
      split at h <;> first | exact h.elim | skip
      split at h <;> first | exact h.elim | skip
      split at h <;> first | exact h.elim | skip
      split at h <;> first | exact h.elim | skip
      split at h <;> first | exact h.elim | skip
      split at h <;> first | exact h.elim | skip
      rename_i h4; try rw [if_pos h4]
      obtain ⟨h1, h2, h3, h4, h5⟩ := h
      exact ⟨h1, h2, h3, h4, h5, fun _ => (by trivial), fun _ => (by trivial)⟩
  case call c =>
    split at h
    · rename_i hc
      split at h <;> first | exact h.elim | skip
      split at h <;> first | exact h.elim | skip
      rename_i h4; try rw [if_pos h4]
      exact appendOf_mono (appendOf_wr h) fun a B' O' H' hk => ⟨hk.1, fun _ => hk.2.1, fun _ => hk.2.2⟩
    · rename_i hc
      simp only [hc]
      split at h <;> first | exact h.elim | skip
      exact delM_mono h fun H' hk => ⟨hk, fun _ => (by trivial), fun h => (by cases h)⟩
    · rename_i hc
      split at h <;> first | exact h.elim | skip
      rename_i f s hs
      obtain ⟨x0, hcal, _⟩ := sigE_some hs
      simp only [hcal]
      split at h <;> first | exact h.elim | skip
      refine capO_mono h fun l h => argsA_mono h fun xs O' hx => ?_
      split at hx
      · split at hx <;> first | exact hx.elim | skip
        exact callA_mono hx fun r H' hk => ⟨hk, fun _ => (by trivial), fun h => (by cases h)⟩
      · exact callA_mono hx fun r H' hk => ⟨hk, fun _ => (by trivial), fun h => (by cases h)⟩
end Go.Ga
set_option linter.unusedSimpArgs false
set_option linter.unusedVariables false
namespace Go.Ga
open Go Go.Gp
theorem blt_iff {a b : Nat} : Nat.blt a b = true ↔ a < b := by simp [Nat.blt]; omega
theorem blt_no {a b : Nat} : Nat.blt a b = false ↔ ¬ a < b := by
  cases h : Nat.blt a b with
  | true => have := blt_iff.1 h; simp [this]
  | false => exact ⟨fun _ e => (by rw [blt_iff.2 e] at h; cases h), fun _ => rfl⟩
theorem getA_in {f : FA} {t : Nat} (h : t < f.length) : getA f t = f.g t := by
  have : Nat.blt t f.n = true := blt_iff.2 h
  unfold getA; rw [this]
theorem getA_out (f : FA) {t : Nat} (h : f.length ≤ t) : getA f t = .v .dead := by
  have : Nat.blt t f.n = false := blt_no.2 (Nat.not_lt.2 h)
  unfold getA; rw [this]
theorem setA_out (f : FA) {d : Nat} (a : AV) (h : f.length ≤ d) : setA f d a = f := by
  obtain ⟨n, g⟩ := f
  have : Nat.blt d n = false := blt_no.2 (Nat.not_lt.2 h)
  unfold setA; simp only [this]
theorem setA_in (f : FA) {d : Nat} (a : AV) (h : d < f.length) : setA f d a = ⟨f.n, fun t => match Nat.beq d t with | true => a | false => f.g t⟩ := by
  obtain ⟨n, g⟩ := f
  have : Nat.blt d n = true := blt_iff.2 h
  unfold setA; simp only [this]; rfl
theorem setA_len (f : FA) (d : Nat) (a : AV) : (setA f d a).length = f.length := by
  by_cases h : d < f.length
  · rw [setA_in f a h]; rfl
  · rw [setA_out f a (Nat.le_of_not_lt h)]
theorem getA_set (f : FA) (d : Nat) (a : AV) (t : Nat) : getA (setA f d a) t = if d = t ∧ t < f.length then a else getA f t := by
  by_cases ht : t < f.length
  · rw [getA_in (by rw [setA_len]; exact ht), getA_in ht]
    by_cases hd : d < f.length
    · rw [setA_in f a hd]
      by_cases e : d = t
      · subst e; simp [ht]
      · have : Nat.beq d t = false := by cases h : Nat.beq d t with | false => rfl | true => exact absurd (Nat.eq_of_beq_eq_true h) e
        simp only [this, e, false_and, if_false]
    · rw [setA_out f a (Nat.le_of_not_lt hd), if_neg (fun h => by rw [h.1] at hd; exact hd h.2)]
  · rw [getA_out _ (by rw [setA_len]; exact Nat.le_of_not_lt ht), getA_out _ (Nat.le_of_not_lt ht), if_neg (fun h => ht h.2)]
theorem setA_same (f : FA) (d : Nat) {a : AV} (h : getA f d = a) : setA f d a = f := by
  by_cases hd : d < f.length
  · rw [setA_in f a hd]
    rw [getA_in hd] at h
    obtain ⟨n, g⟩ := f
    congr 1
    funext t
    split
    · rename_i e
      have := Nat.eq_of_beq_eq_true e
      subst this; exact h.symm
    · rfl
  · exact setA_out f a (Nat.le_of_not_lt hd)
theorem putA_len (f : FA) (d : Option Tmp) (a : AV) : (putA f d a).length = f.length := by
  cases d with
  | none => rfl
  | some t => exact setA_len f t a
theorem getL_set (l : List Value) (d : Nat) (v : Value) (t : Nat) : getL (setL l d v) t = if d = t ∧ t < l.length then v else getL l t := by
  rw [getL_eq, getL_eq, setL_eq]
  simp only [List.getD_eq_getElem?_getD, List.getElem?_set]
  by_cases h : d = t
  · subst h
    by_cases h2 : d < l.length
    · simp [h2]
    · simp [h2]
  · simp [h]
theorem putL_len (l : Fr) (d : Option Tmp) (v : Value) : (putL l d v).length = l.length := by
  cases d with
  | none => rfl
  | some t => exact setL_length l t v
def FRel (E : Env) (W : World) (D : Nat → Prop) (f : FA) (l : Fr) : Prop := f.length = l.length ∧ ∀ t, ¬ D t → VRep E W (getA f t) (getL l t)
theorem FRel.pers {E E' : Env} {W W' : World} {D : Nat → Prop} {f : FA} {l : Fr} (h : FRel E W D f l) (hp : Pers E W E' W') : FRel E' W' D f l := ⟨h.1, fun t ht => (h.2 t ht).pers hp⟩
theorem FRel.put {E : Env} {W : World} {D D' : Nat → Prop} {f : FA} {l : Fr} (h : FRel E W D f l) {d : Option Tmp} {a : AV} {v : Value} (hv : VRep E W a v) (hD : ∀ t, ¬ D' t → ¬ D t ∨ d = some t) : FRel E W D' (putA f d a) (putL l d v) := by
  refine ⟨by rw [putA_len, putL_len]; exact h.1, fun t ht => ?_⟩
  cases d with
  | none =>
    rcases hD t ht with h1 | h1
    · exact h.2 t h1
    · cases h1
  | some d =>
    show VRep E W (getA (setA f d a) t) (getL (setL l d v) t)
    rw [getA_set, getL_set]
    by_cases h1 : d = t ∧ t < f.length
    · rw [if_pos h1, if_pos ⟨h1.1, by rw [← h.1]; exact h1.2⟩]; exact hv
    · rw [if_neg h1, if_neg (fun h2 => h1 ⟨h2.1, by rw [h.1]; exact h2.2⟩)]
      rcases hD t ht with h2 | h2
      · exact h.2 t h2
      · injection h2 with h2
        have : ¬ t < f.length := fun h3 => h1 ⟨h2, h3⟩
        rw [getA_out f (by omega)]; trivial
def SRel (W0 : World) (w0 : Mk) (s : St) (l : Fr) (W : World) : Prop := ∃ E, RelM W0 w0 (fun _ => False) E s.B s.O s.H W ∧ FRel E W (fun _ => False) s.f l
section
variable {cx : Cx} {W0 : World} {w0 : Mk} {X : Nat → Prop} {E : Env} {B : BL} {O : OL} {H : HP} {W W' W'' : World}
theorem ev_rep (hm : RelM W0 w0 X E B O H W) {f : FA} {l : Fr} {x : Operand} (h : ∀ t, x = .tmp t → VRep E W (getA f t) (getL l t)) : VRep E W (evA f (getB B) x) ((actOf l).eval x) := by
  rw [ev_act]
  cases x with
  | tmp t => exact res_rep hm (h t rfl)
  | const v => exact cst_rep v
  | global g => rfl
  | func f => exact ⟨rfl, rfl⟩
theorem ev0_rep (hm : RelM W0 w0 X E B O H W) {f : FA} {l : Fr} {x : Operand} (h : ∀ t, x = .tmp t → VRep E W (getA f t) (getL l t)) : VRep E W ((fun x => match x with | .tmp t => getA f t | x => evA f (getB B) x) x) ((actOf l).eval x) := by
  cases x with
  | tmp t => rw [ev_act]; exact h t rfl
  | const v => exact ev_rep hm h
  | global g => exact ev_rep hm h
  | func f => exact ev_rep hm h
theorem RelM.congrX {X' : Nat → Prop} (hm : RelM W0 w0 X E B O H W) (h : ∀ i, (∃ nm cs, getB B i = .bx nm cs) → (X i ↔ X' i)) : RelM W0 w0 X' E B O H W := by
  refine ⟨hm.wf, hm.since, fun i => ?_, hm.ow, hm.ob, hm.clean, hm.ba⟩
  have hb := hm.bx i
  cases hi : getB B i with
  | no => rw [hi] at hb; exact hb
  | closed n k => rw [hi] at hb; exact hb
  | bx nm cs =>
    rw [hi] at hb
    have := h i ⟨nm, cs, hi⟩
    exact ⟨fun hx => hb.1 (this.2 hx), fun hx => hb.2 fun h => hx (this.1 h)⟩
theorem al_run {op : Op} {ρ : Operand → AV} {a : Act} {cs : List AV0} (h : alCells cx op ρ = some cs) (hρ : ∀ x ∈ op.operands, VRep E W (ρ x) (a.eval x)) (dst : Option Tmp) (type : TypeId) (pos : String) (after : Array Edge) (guard : Option (Nat × Bool)) :
    ∃ vs t, VReps E W cs vs ∧ (execOp a.eval ⟨dst, op, type, pos, after, guard⟩).run cx.P W = .ok (.value (.pointer (some ⟨W.heap.size, 0, none⟩))) (W.alloc (.cells ⟨vs⟩ t)) := by
  unfold alCells at h
  split at h
  · rename_i t
    obtain ⟨i, z, hi, hz, hr⟩ := zero_rep (E := E) (W := W) h
    exact ⟨_, t, hr, by simp [execOp, Instr.alloc, zeroValue, run_tinf hi, hz, newVar, newRow]⟩
  · rename_i t x
    split at h <;> first | (cases h; done) | skip
    split at h <;> first | (cases h; done) | skip
    rename_i l hl
    split at h <;> first | (cases h; done) | skip
    injection h with h
    subst h
    exact ⟨_, t, cells_rep hl (hρ x (by simp [Op.operands])), by simp [execOp, Instr.box, newVar, newRow]⟩
  · cases h
theorem box_sound {o : Oper} {ρ : Operand → AV} {a : Act} {d : Nat} {cs : List AV0} (hm : RelM W0 w0 X E B O H W) (hX : X d) (hd : o.dst = some d) (hb : getB B d = .bx none cs) (h : alCells cx o.op ρ = some cs) (hρ : ∀ x ∈ o.op.operands, VRep E W (ρ x) (a.eval x)) :
    Gets cx.P o a W fun v W' => ∃ E', VRep E' W' (.v (.bx d 0)) v ∧ RelM W0 w0 (fun i => X i ∧ i ≠ d) E' B O H W' ∧ Pers E W E' W' ∧ W.heap.size ≤ W'.heap.size := by
  obtain ⟨dst, op, type, pos, after, guard⟩ := o
  obtain ⟨vs, t, hr, hrun⟩ := al_run (cx := cx) (a := a) h hρ dst type pos after guard
  obtain ⟨h1, h2, h3⟩ := box_new hm hX hb hr t
  exact gets_run hrun ⟨_, h3, h1, h2, by rw [alloc_size]; omega⟩
theorem aTake_sound {o : Oper} {ρ ρ0 : Operand → AV} {a : Act} {K : AV → BL → OL → Prop} (hm : RelM W0 w0 X E B O H W) (hX : ∀ d, getB B d = .no → ¬ X d) (hp : isP cx o = true) (h : aTake cx o ρ ρ0 B O H K) (hρ : ∀ x ∈ o.op.operands, VRep E W (ρ x) (a.eval x)) (hρ0 : ∀ x ∈ o.op.operands, VRep E W (ρ0 x) (a.eval x)) (hcv : ∀ v, a.eval (.const v) = v) :
    Gets cx.P o a W (EfK W0 w0 X E B O H W fun a B O H' => K a B O ∧ H' = H) := by
  unfold aTake at h
  split at h
  · split at h <;> first | exact h.elim | skip
    rename_i d hd
    split at h <;> first | exact h.elim | skip
    rename_i hno
    split at h <;> first | exact h.elim | skip
    rename_i cs hcs
    have m1 := box_take hm hno cs
    have hget : getB (setB B d (.bx none cs)) d = .bx none cs := by rw [getB_set, if_pos rfl]
    refine (box_sound (cx := cx) m1 (.inr rfl) hd hget hcs hρ).mono fun v W' ⟨E', h1, h2, h3, h4⟩ => ?_
    refine ⟨_, _, _, H, E', ⟨h, rfl⟩, h1, h2.congrX fun i _ => ⟨fun hx => hx.1.resolve_right hx.2, fun hx => ⟨.inl hx, fun e => ?_⟩⟩, h3, h4, fun i hi => ?_, fun i n k => ?_⟩
    · subst e; exact hX _ hno hx
    · rw [getB_set, if_neg]
      intro e; subst e; exact hX _ hno hi
    · rw [getB_set]
      split
      · rename_i e; subst e; rw [hno]; simp
      · rfl
  · rename_i hal
    have hrd : isRd cx o = true := by
      unfold isP at hp
      rw [hal] at hp
      simpa using hp
    obtain ⟨E1, m1, p1⟩ := frzOf_rel (cx := cx) hm o ρ
    refine (aRead_sound m1 hrd h (fun x hx => (hρ x hx).pers p1) (fun x hx => (hρ0 x hx).pers p1) hcv).mono fun v W' ⟨av, E', h1, h2, h3, h4, h5⟩ => ?_
    exact ⟨av, B, _, H, E', ⟨h1, rfl⟩, h2, h3, p1.trans h4 (Nat.le_refl _), h5, fun _ _ => rfl, ClosedSame.refl _⟩
def want (ops : Array Oper) (o : Oper) (f : FA) : Option Bool :=
  match o.guard with
  | none => some true
  | some g => match ops[g.1]? with
    | none => none
    | some oj => match oj.dst with
      | none => none
      | some d => match getA f d with
        | .v (.c .bool b) => some (b == g.2)
        | .v .und => some false
        | _ => none
theorem guard_cases {ops : Array Oper} {o : Oper} {f : FA} {yes no : FA → Prop} (h : aGuard ops o f yes no) : (want ops o f = some true ∧ yes f) ∨ (want ops o f = some false ∧ no f) := by
  unfold aGuard at h
  unfold want
  split at h
  · rename_i hg; exact .inl ⟨by simp [*], h⟩
  · rename_i g hg
    split at h <;> first | exact h.elim | skip
    rename_i oj hj
    split at h <;> first | exact h.elim | skip
    rename_i d hd
    split at h
    · rename_i b hb
      obtain ⟨j, wnt⟩ := g
      cases b <;> cases wnt <;> simp only [ifB] at h <;> rw [setA_same f d hb] at h
      · exact .inl ⟨by simp [*], h⟩
      · exact .inr ⟨by simp [*], h⟩
      · exact .inr ⟨by simp [*], h⟩
      · exact .inl ⟨by simp [*], h⟩
    · exact .inr ⟨by simp [*], h⟩
    · exact h.elim
theorem want_sound {ops : Array Oper} {o : Oper} {f : FA} {l : Fr} {b : Bool} (h : want ops o f = some b) (hg : ∀ g oj d, o.guard = some g → ops[g.1]? = some oj → oj.dst = some d → VRep E W (getA f d) (getL l d)) : Region.wanted o (yielded ops (actOf l).tmps) = b := by
  unfold want at h
  split at h
  · rename_i hg'; injection h with h; subst h; simp [Region.wanted, hg']
  · rename_i g hg'
    split at h <;> first | (cases h; done) | skip
    rename_i oj hj
    split at h <;> first | (cases h; done) | skip
    rename_i d hd
    have hv := hg g oj d hg' hj hd
    have hy := yielded_act ops l g.1 hj hd
    split at h <;> first | (cases h; done) | skip
    · rename_i x hx
      rw [hx] at hv
      have hv : getL l d = .bool x := hv.1
      rw [hv] at hy
      injection h with h
      subst h
      simp [Region.wanted, hg', hy]
    · rename_i hx
      rw [hx] at hv
      have hv : getL l d = undef := hv
      rw [hv] at hy
      injection h with h
      subst h
      simp [Region.wanted, hg', hy, undef]
theorem anyG_sound {ops : Array Oper} {o : Oper} {s : St} {l : Fr} {K : St → Prop} {next : Act → World → Prop} {Q : Exit → Act → World → Prop} (hs : SRel W0 w0 s l W) (h : anyG cx ops o s K) (hk : ∀ s' l' W', SRel W0 w0 s' l' W' → K s' → next (actOf l') W') :
    if Region.wanted o (yielded ops (actOf l).tmps) then o.wp cx.P (actOf l) W next Q else next ((actOf l).put o.dst undef) W := by
  obtain ⟨E, hm, hf⟩ := hs
  have all : ∀ t, VRep E W (getA s.f t) (getL l t) := fun t => hf.2 t id
  have und : want ops o s.f = some false → K ⟨putA s.f o.dst (.v .und), s.B, s.O, s.H⟩ → if Region.wanted o (yielded ops (actOf l).tmps) then o.wp cx.P (actOf l) W next Q else next ((actOf l).put o.dst undef) W := fun hw hk' => by
    rw [want_sound hw fun _ _ d _ _ _ => all d, if_neg Bool.false_ne_true, put_act]
    exact hk ⟨putA s.f o.dst (.v .und), s.B, s.O, s.H⟩ _ _ ⟨E, hm, hf.put (a := .v .und) (v := undef) rfl fun t ht => .inl ht⟩ hk'
  have yes : ∀ {K' : AV → BL → OL → HP → Prop}, want ops o s.f = some true → (∀ a B O H, K' a B O H → K ⟨putA s.f o.dst a, B, O, H⟩) → Gets cx.P o (actOf l) W (EfK W0 w0 (fun _ => False) E s.B s.O s.H W K') → if Region.wanted o (yielded ops (actOf l).tmps) then o.wp cx.P (actOf l) W next Q else next ((actOf l).put o.dst undef) W := fun {K'} hw hk' hg => by
    rw [want_sound hw fun _ _ d _ _ _ => all d, if_pos rfl]
    refine hg next Q fun v W' ⟨av, B', O', H', E', h1, h2, h3, h4, h5, h6, h7⟩ => ?_
    rw [put_act]
    exact hk _ _ _ ⟨E', h3, (hf.pers h4).put h2 fun t ht => .inl ht⟩ (hk' _ _ _ _ h1)
  unfold anyG at h
  split at h
  · rename_i hp
    rw [takeG_def] at h
    rcases guard_cases h with ⟨hw, h⟩ | ⟨hw, h⟩
    · exact yes hw (fun a B O H h => by rw [h.2]; exact h.1) (aTake_sound hm (fun _ _ => id) hp h (fun x _ => ev_rep hm fun t _ => all t) (fun x _ => ev0_rep hm fun t _ => all t) fun _ => rfl)
    · exact und hw h
  · rw [effG_def] at h
    rcases guard_cases h with ⟨hw, h⟩ | ⟨hw, h⟩
    · exact yes hw (fun a B O H h => h) (aEff_sound hm h fun x _ => ev_rep hm fun t _ => all t)
    · exact und hw h
theorem aList_sound {ops : Array Oper} {K : St → Prop} {Q : Exit → Act → World → Prop} (hk : ∀ s l W, SRel W0 w0 s l W → K s → Q .normal (actOf l) W) :
    ∀ (os : List Oper) (s : St) (l : Fr) (W : World), SRel W0 w0 s l W → aList cx ops K os s → wpList cx.P ops Q os (actOf l) W
  | [], s, l, W, hs, h => wpList_nil (hk s l W hs h)
  | o :: rest, s, l, W, hs, h => by
    unfold wpList
    have := anyG_sound (Q := Q) (next := wpList cx.P ops Q rest) hs h fun s' l' W' hs' h' => aList_sound hk rest s' l' W' hs' h'
    split
    · rename_i hw; rw [if_pos hw] at this; exact .inl this
    · rename_i hw; rw [if_neg hw] at this; exact this
end
end Go.Ga
set_option linter.unusedSimpArgs false
set_option linter.unusedVariables false
namespace Go.Ga
open Go Go.Gp
def SS {α : Type} (F : (α → Prop) → Prop) : Prop := ∀ K K', F K → (∀ a, K a → F (fun a' => a' = a) → K' a) → F K'
theorem ss_at {α : Type} (a : α) : SS (fun K : α → Prop => K a) := fun K K' h hk => hk a h rfl
theorem ss_false {α : Type} : SS (fun _ : α → Prop => False) := fun _ _ h _ => h
theorem ss_and {α : Type} {p : Prop} {F : (α → Prop) → Prop} (h : SS F) : SS (fun K => p ∧ F K) := fun K K' ⟨hp, hf⟩ hk => ⟨hp, h K K' hf fun a ha hfa => hk a ha ⟨hp, hfa⟩⟩
theorem ss_ex {α β : Type} {F : β → (α → Prop) → Prop} (h : ∀ x, SS (F x)) : SS (fun K => ∃ x, F x K) := fun K K' ⟨x, hf⟩ hk => ⟨x, h x K K' hf fun a ha hfa => hk a ha ⟨x, hfa⟩⟩
theorem ss_imp {α : Type} {p : Prop} {F : (α → Prop) → Prop} (h : SS F) : SS (fun K => p → F K) := fun K K' hf hk hp => h K K' (hf hp) fun a ha hfa => hk a ha fun _ => hfa
theorem ss_ifB {α : Type} {b : Bool} {F G : (α → Prop) → Prop} (h : SS F) (k : SS G) : SS (fun K => ifB b (F K) (G K)) := by
  cases b
  · exact k
  · exact h
theorem SS.mono {α : Type} {F : (α → Prop) → Prop} (h : SS F) {K K' : α → Prop} (hf : F K) (hk : ∀ a, K a → K' a) : F K' := h K K' hf fun a ha _ => hk a ha
theorem ss_bind {α β : Type} {G : (β → Prop) → Prop} {F : β → (α → Prop) → Prop} (h : SS G) (k : ∀ x, SS (F x)) : SS (fun K => G fun x => F x K) := fun K K' hg hk =>
  h _ _ hg fun x hx hgx => k x K K' hx fun a ha hfa => hk a ha (h.mono hgx fun y hy => by subst hy; exact hfa)
theorem ss_intBin (op : BinOp) (k : IntKind) (a b : Int) : SS (intBin op k a b) := by
  unfold intBin
  cases op <;> first | exact ss_at _ | exact ss_and (ss_at _) | exact ss_false
theorem ss_strBin (op : BinOp) (a b : ByteArray) : SS (strBin op a b) := by
  unfold strBin
  cases op <;> first | exact ss_at _ | exact ss_false
theorem ss_fltBin (op : BinOp) (k : FloatKind) (a b : Nat) : SS (fltBin op k a b) := by
  unfold fltBin
  cases op <;> first | exact ss_at _ | exact ss_false
theorem ss_eqB (op : BinOp) (b : Bool) : SS (eqB op b) := by
  unfold eqB
  cases op <;> first | exact ss_at _ | exact ss_false
theorem ss_cBin (P : Program) (op : BinOp) (t : TypeId) (x y : Operand) (vx vy : Value) : SS (cBin P op t x y vx vy) := by
  unfold cBin
  split <;> (repeat' split) <;> first | exact ss_false | exact ss_eqB _ _ | exact ss_intBin _ _ _ _ | exact ss_strBin _ _ _ | exact ss_fltBin _ _ _ _ | exact ss_and (ss_eqB _ _) | exact ss_ex fun b => ss_and (ss_eqB _ _)
theorem ss_cConv (P : Program) (s d : TypeId) (v : Value) : SS (cConv P s d v) := by
  unfold cConv
  (repeat' split) <;> first | exact ss_false | exact ss_at _
theorem ss_cPure (P : Program) (op : Op) (ρ : Operand → Value) (h : (match op with | .binOp _ _ _ _ _ => true | .unOp _ _ _ => true | .makeInterface _ _ => true | .makeFunc _ _ _ => true | .convert _ _ _ => true | _ => false) = true) : SS (cPure P op ρ) := by
  cases op <;> simp only at h <;> first | (cases h; done) | skip
  all_goals unfold cPure <;> try simp only
  · exact ss_cBin _ _ _ _ _ _ _
  · rename_i uo _ _
    cases uo <;> simp only <;> (repeat' split) <;> first | exact ss_false | exact ss_at _
  · exact ss_cConv _ _ _ _
  · (repeat' split) <;> first | exact ss_false | exact ss_at _
  · exact ss_at _
theorem ss_rawA {cx : Cx} {op : Op} {ρ : Operand → AV} (h : (match op with | .binOp _ _ _ _ _ => true | .unOp _ _ _ => true | .makeInterface _ _ => true | .makeFunc _ _ _ => true | .convert _ _ _ => true | _ => false) = true) : SS (rawA cx op ρ) := by
  unfold rawA
  split
  · exact ss_bind (ss_cPure _ _ _ h) fun v => ss_at _
  · exact ss_false
theorem ss_lenOf (g : Nat → OwE) (a : AV) : SS (lenOf g a) := by
  unfold lenOf
  (repeat' split) <;> first | exact ss_false | exact ss_at _ | exact ss_imp (ss_at _)
theorem ss_atA {α : Type} (xs : List α) (i : Int) : SS (atA xs i) := ss_ex fun x => ss_and (ss_and (ss_at _))
theorem ss_inA (i : Int) (n : Nat) : SS (inA' i n) := ss_and (ss_and (ss_at _))
theorem ss_arrA (s : Sl) (m : Int) (n : Nat) : SS (arrA s m n) := ss_and (ss_and (ss_ex fun p => ss_and (ss_at _)))
theorem ss_idxOf (g : Nat → OwE) (ek : Option AK) (n : Nat) (a i : AV) : SS (idxOf g ek n a i) := by
  unfold idxOf
  (repeat' split) <;> first | exact ss_false | exact ss_bind (ss_arrA _ _ _) fun x => ss_at _ | exact ss_bind (ss_atA _ _) fun x => ss_at _ | exact ss_bind (ss_inA _ _) fun x => ss_at _
theorem ss_slc {β : Type} {n : Nat} {l h : Int} {F : Nat → Nat → (β → Prop) → Prop} (k : ∀ a b, SS (F a b)) : SS (fun K => slcA n l h fun a b => F a b K) := ss_and (ss_and (ss_and (k _ _)))
theorem ss_slcOf (g : Nat → OwE) (n : Nat) (a : AV) (lo hi : Option AV) : SS (slcOf g n a lo hi) := by
  unfold slcOf
  (repeat' split) <;> first | exact ss_false | exact ss_and (ss_and (ss_and (ss_at _))) | exact ss_slc fun a b => ss_at _
theorem ss_addJ (cx : Cx) (s : TypeId) (n : Nat) (a : AV) : SS (fun K => addJ cx s n K a) := by
  unfold addJ
  (repeat' split) <;> first | exact ss_false | exact ss_at _
theorem ss_fldOf (cx : Cx) (s : TypeId) (f : Nat) (a : AV) : SS (fldOf cx s f a) := by
  unfold fldOf
  (repeat' split) <;> first | exact ss_false | exact ss_addJ _ _ _ _
theorem ss_eqA (op : BinOp) (b : Bool) : SS (eqA op b) := by
  unfold eqA
  cases op <;> first | exact ss_at _ | exact ss_false
theorem ss_binOf (cx : Cx) (op : BinOp) (t : TypeId) (x y : Operand) (yt : TypeId) (ρ : Operand → AV) : SS (binOf cx op t x y yt ρ) := by
  unfold binOf
  (repeat' split) <;> first | exact ss_false | exact ss_eqA _ _ | exact ss_rawA rfl
theorem ss_cvtOf (cx : Cx) (g : Nat → OwE) (s d : TypeId) (x : Operand) (ρ ρ0 : Operand → AV) : SS (cvtOf cx g s d x ρ ρ0) := by
  unfold cvtOf
  (repeat' split) <;> first | exact ss_false | exact ss_at _ | exact ss_and (ss_at _) | exact ss_rawA rfl
theorem ss_bldOf (cx : Cx) (t : TypeId) (ps : List (Nat × Operand)) (ρ : Operand → AV) : SS (bldOf cx t ps ρ) := by
  unfold bldOf
  (repeat' split) <;> first | exact ss_false | exact ss_at _
theorem ss_fieldOf (cx : Cx) (t : TypeId) (f : Nat) (a : AV) : SS (fieldOf cx t f a) := by
  unfold fieldOf
  (repeat' split) <;> first | exact ss_false | exact ss_at _
theorem ss_ldK (ag : Bool) (n : Nat) (cs : List AV0) (j : Nat) : SS (ldK ag n cs j) := by
  unfold ldK
  (repeat' split) <;> first | exact ss_false | exact ss_at _
theorem ss_elA {α : Type} (xs : List α) (i : Nat) : SS (elA xs i) := ss_ex fun x => ss_and (ss_at _)
theorem ss_ldE (e : AK) (p : Addr) (H : HP) : SS (ldE e p H) := ss_ex fun _ => ss_ex fun _ => ss_ex fun _ => ss_ex fun _ => ss_ex fun x => ss_and (ss_and (ss_and (ss_at _)))
theorem ss_loadOf (cx : Cx) (gB : Nat → BxE) (g : Nat → OwE) (H : HP) (t : TypeId) (a : AV) : SS (loadOf cx gB g H t a) := by
  unfold loadOf
  (repeat' split) <;> first | exact ss_false | exact ss_bind (ss_ldE _ _ _) (fun x => ss_ldK _ _ _ _) | exact ss_ldK _ _ _ _ | exact ss_bind (ss_elA _ _) fun x => ss_ldK _ _ _ _ | exact ss_ex fun x => ss_and (ss_ldK _ _ _ _)
theorem ss_dataO (a : AV0) : ∀ k : K1, SS (dataO a k) := by
  intro k
  cases k <;> unfold dataO <;> simp only <;> (repeat' split) <;> first | exact ss_false | exact ss_at _
theorem ss_dataA (g : Nat → OwE) (a : AV0) : ∀ k : AK, SS (dataA g a k) := by
  intro k
  cases k <;> unfold dataA <;> simp only <;> (repeat' split) <;> first | exact ss_false | exact ss_at _ | exact ss_dataO _ _ | exact ss_and (ss_and (ss_at _))
def SS2 {α β : Type} (F : (α → β → Prop) → Prop) : Prop := SS fun K : α × β → Prop => F fun x y => K (x, y)
theorem ss2_bind {α β γ : Type} {G : (α → β → Prop) → Prop} {F : α → β → (γ → Prop) → Prop} (h : SS2 G) (k : ∀ x y, SS (F x y)) : SS (fun K => G fun x y => F x y K) :=
  ss_bind (G := fun K : α × β → Prop => G fun x y => K (x, y)) (F := fun p => F p.1 p.2) h fun p => k _ _
theorem ss_dataL (g : Nat → OwE) : ∀ (k : AK) (l : List AV0), SS2 (dataL g k l) := by
  intro k
  induction k with
  | nil => intro l; exact ss_at _
  | cons a b iha ihb =>
    intro l
    exact ss2_bind (F := fun x l' (K : _ → Prop) => dataL g b l' fun y l'' => K ((x, y), l'')) (iha l) fun x l' => ss2_bind (F := fun y l'' (K : _ → Prop) => K ((x, y), l'')) (ihb l') fun y l'' => ss_at _
  | one k => intro l; cases l with | nil => exact ss_false | cons a r => exact ss_bind (F := fun x (K : _ → Prop) => K (x, r)) (ss_dataA g a (.one k)) fun x => ss_at _
  | byte => intro l; cases l with | nil => exact ss_false | cons a r => exact ss_bind (F := fun x (K : _ → Prop) => K (x, r)) (ss_dataA g a .byte) fun x => ss_at _
  | ref => intro l; cases l with | nil => exact ss_false | cons a r => exact ss_bind (F := fun x (K : _ → Prop) => K (x, r)) (ss_dataA g a .ref) fun x => ss_at _
  | row e => intro l; cases l with | nil => exact ss_false | cons a r => exact ss_bind (F := fun x (K : _ → Prop) => K (x, r)) (ss_dataA g a (.row e)) fun x => ss_at _
  | brw e => intro l; cases l with | nil => exact ss_false | cons a r => exact ss_bind (F := fun x (K : _ → Prop) => K (x, r)) (ss_dataA g a (.brw e)) fun x => ss_at _
  | fn f => intro l; cases l with | nil => exact ss_false | cons a r => exact ss_bind (F := fun x (K : _ → Prop) => K (x, r)) (ss_dataA g a (.fn f)) fun x => ss_at _
  | arr e t => intro l; exact ss_false
  | mp e => intro l; exact ss_false
  | own e t => intro l; exact ss_false
theorem ss_litL (g : Nat → OwE) (ρ : Operand → AV) (ag : Bool) (k : AK) : ∀ (ps : List (Nat × Operand)) (i : Nat), SS (litL g ρ ag k i ps)
  | [], i => ss_at _
  | (j, x) :: r, i => by
    show SS fun K => litL g ρ ag k i ((j, x) :: r) K
    unfold litL
    split
    · split
      · exact ss_false
      · refine ss2_bind (F := fun y rest (K : _ → Prop) => match rest with | [] => litL g ρ ag k (i + 1) r fun ys => K (y :: ys) | _ :: _ => False) (ss_dataL g _ _) fun y rest => ?_
        split
        · exact ss_bind (F := fun ys (K : _ → Prop) => K (y :: ys)) (ss_litL g ρ ag k r (i + 1)) fun ys => ss_at _
        · exact ss_false
    · exact ss_false
theorem ss_litOf (cx : Cx) (g : Nat → OwE) (t : TypeId) (n : Nat) (ps : List (Nat × Operand)) (ρ : Operand → AV) (f : (k : AK) → List k.T → AV) : SS (fun K => litOf cx g t n ps ρ fun k xs => K (f k xs)) := by
  unfold litOf
  (repeat' split) <;> first | exact ss_false | exact ss_bind (ss_litL _ _ _ _ _ _) fun x => ss_at _
theorem ss_readA (g : Nat → OwE) : ∀ (ps : List (Bool × AK)) (l : List AV), SS (readA g ps l)
  | [], [] => ss_at _
  | [], _ :: _ => ss_false
  | _ :: _, [] => ss_false
  | p :: r, a :: l => by
    show SS fun K => readA g (p :: r) (a :: l) K
    unfold readA
    simp only
    split
    · exact ss_false
    · refine ss2_bind (F := fun x rest (K : _ → Prop) => match rest with | [] => readA g r l fun y => K (x, y) | _ :: _ => False) (ss_dataL g _ _) fun x rest => ?_
      split
      · exact ss_bind (F := fun y (K : _ → Prop) => K (x, y)) (ss_readA g r l) fun y => ss_at _
      · exact ss_false
theorem ss_aRead (cx : Cx) (o : Oper) (ρ ρ0 : Operand → AV) (gB : Nat → BxE) (g : Nat → OwE) (H : HP) : SS (aRead cx o ρ ρ0 gB g H) := by
  obtain ⟨dst, op, type, pos, after, guard⟩ := o
  unfold aRead
  cases op <;> simp only <;> first | exact ss_false | exact ss_at _ | exact ss_rawA rfl | exact ss_fldOf _ _ _ _ | exact ss_binOf _ _ _ _ _ _ _ | exact ss_cvtOf _ _ _ _ _ _ _ | exact ss_bldOf _ _ _ _ | exact ss_fieldOf _ _ _ _ | exact ss_loadOf _ _ _ _ _ _ | exact ss_litOf _ _ _ _ _ _ litK | skip
  case pick c a b =>
    split
    · exact ss_ifB (ss_at _) (ss_at _)
    · exact ss_false
  case nilCheck x =>
    (repeat' split) <;> first | exact ss_false | exact ss_at _ | exact ss_ex fun n => ss_and (ss_at _)
  case indexAddr t x i =>
    (repeat' split) <;> first | exact ss_false | exact ss_idxOf _ _ _ _ _
  case makeFunc f a b =>
    unfold makeF
    (repeat' split) <;> first | exact ss_false | exact ss_at _ | exact ss_rawA rfl
  case extract x i =>
    (repeat' split) <;> first | exact ss_false | exact ss_at _
  case slice t x lo hi mx =>
    cases mx with
    | some m => exact ss_false
    | none =>
      simp only
      (repeat' split) <;> first | exact ss_false | exact ss_slcOf _ _ _ _ _
  case call c =>
    (repeat' split) <;> first | exact ss_false | exact ss_at _ | exact ss_lenOf _ _ | skip
    all_goals refine ss_bind (ss_readA _ _ _) fun xs => ?_
    all_goals first | exact ss_false | exact ss_ex fun r => ss_and (ss_at _) | (split <;> first | exact ss_false | exact ss_ex fun r => ss_and (ss_at _))
end Go.Ga
set_option linter.unusedSimpArgs false
set_option linter.unusedVariables false
namespace Go.Ga
open Go Go.Gp
theorem gets_ex {P : Program} {o : Oper} {a : Act} {W : World} {R : Value → World → Prop} (h : Gets P o a W R) : ∃ v W', R v W' := by
  have := h (fun _ _ => ∃ v W', R v W') (fun _ _ _ => False) fun v W' hr => ⟨v, W', hr⟩
  unfold Oper.wp at this
  generalize (execOp a.eval o).run P W = r at this
  cases r with
  | ok n w' =>
    cases n <;> simp only [Oper.upon] at this
    case value u => exact this
    case skip => exact this
    case defer d => exact this
    case enter f args =>
      obtain ⟨e, w', fr, h1, _⟩ := this []
      cases e with
      | returned u => exact h1
      | panicked c => exact h1.elim
      | outgrown => obtain ⟨_, _, h1⟩ := h1; exact h1.elim
    case row row args =>
      obtain ⟨v, w', h1, _⟩ := this (Frame.enter P 0 #[] .normal) []
      exact h1
  | halt x w' =>
    cases x <;> simp only [Oper.upon] at this
section
variable {cx : Cx} {ops : Array Oper} {W0 : World} {w0 : Mk}
def Pend (LA LR : Array Bool) (p : Nat) : Prop := LA.getD p false = true ∧ LR.getD p false = false
def PD (ops : Array Oper) (LA LR : Array Bool) (t : Nat) : Prop := ∃ p o, Pend LA LR p ∧ ops[p]? = some o ∧ o.dst = some t
def PX (ops : Array Oper) (LA LR : Array Bool) (f : FA) (i : Nat) : Prop := ∃ p o, Pend LA LR p ∧ ops[p]? = some o ∧ o.dst = some i ∧ isAl o.op = true ∧ want ops o f = some true
def ev0 (s : St) (x : Operand) : AV := match x with | .tmp t => getA s.f t | x => evA s.f (getB s.B) x
def Prom (cx : Cx) (ops : Array Oper) (s : St) (o : Oper) : Prop :=
  (want ops o s.f = some false ∧ putA s.f o.dst (.v .und) = s.f) ∨
  (want ops o s.f = some true ∧ ∃ ρ ρ0 : Operand → AV, (∀ x ∈ o.op.operands, ρ x = evA s.f (getB s.B) x ∧ ρ0 x = ev0 s x) ∧
    ((isAl o.op = true ∧ ∃ d cs, o.dst = some d ∧ getB s.B d = .bx none cs ∧ alCells cx o.op ρ = some cs ∧ putA s.f o.dst (.v (.bx d 0)) = s.f) ∨
     (isAl o.op = false ∧ isRd cx o = true ∧ aRead cx o ρ ρ0 (getB s.B) (getO s.O) s.H fun a => putA s.f o.dst a = s.f)))
structure Inv (cx : Cx) (ops : Array Oper) (Z : Nat → Bool) (W0 : World) (w0 : Mk) (LA LR : Array Bool) (s : St) (l : Fr) (W : World) : Prop where
  szA : LA.size = ops.size
  szR : LR.size = ops.size
  sub : ∀ j, LR.getD j false = true → LA.getD j false = true
  clA : Closed ops LA
  clR : Closed ops LR
  rel : ∃ E, RelM W0 w0 (PX ops LA LR s.f) E s.B s.O s.H W ∧ FRel E W (PD ops LA LR) s.f l
  prom : ∀ p o, Pend LA LR p → ops[p]? = some o → Prom cx ops s o
  nz : ∀ p, Pend LA LR p → Z p = false
inductive Bef (ops : Array Oper) : Nat → Nat → Prop where
  | one {j : Nat} {o : Oper} {e : Edge} (h : ops[j]? = some o) (he : e ∈ o.after) (hb : Region.binds .any e = true) : Bef ops j e.on
  | more {j i : Nat} {o : Oper} {e : Edge} (h : ops[j]? = some o) (he : e ∈ o.after) (hb : Region.binds .any e = true) (hr : Bef ops e.on i) : Bef ops j i
theorem bef_listed {LR : Array Bool} (hc : Closed ops LR) {j i : Nat} (h : Bef ops j i) : ∀ {o : Oper}, ops[j]? = some o → (∀ e ∈ o.after, Region.binds .any e = true → LR.getD e.on false = true) → LR.getD i false = true := by
  induction h with
  | one h he hb =>
    intro o' ho hall
    rw [h] at ho
    injection ho with ho
    subst ho
    exact hall _ he hb
  | more h he hb hr ih =>
    intro o' ho hall
    rw [h] at ho
    injection ho with ho
    subst ho
    have h1 := hall _ he hb
    cases hr with
    | one h2 he2 hb2 => exact hc _ _ h2 h1 _ he2 hb2
    | more h2 he2 hb2 hr2 => exact ih h2 fun e' he' hb' => hc _ _ h2 h1 e' he' hb'
theorem pre_bef (hp : preOk ops = true) : ∀ (n j : Nat) {i : Nat}, j < n → j < ops.size → i < ops.size → pre ops j i = true → Bef ops j i
  | 0, _, _, h, _, _, _ => absurd h (Nat.not_lt_zero _)
  | n + 1, j, i, hj, hjs, his, h => by
    have h1 := List.all_eq_true.1 hp j (by simpa using hjs)
    have ho : ops[j]? = some ops[j] := Array.getElem?_eq_getElem hjs
    rw [ho] at h1
    simp only at h1
    have h2 := List.all_eq_true.1 h1 i (by simpa using his)
    rw [h] at h2
    simp only [Bool.not_true, Bool.false_or] at h2
    obtain ⟨e, he, hb⟩ := Array.any_eq_true'.1 h2
    simp only [Bool.and_eq_true, decide_eq_true_eq, Bool.or_eq_true, beq_iff_eq] at hb
    obtain ⟨⟨h3, h4⟩, h5⟩ := hb
    rcases h5 with h5 | h5
    · rw [← h5]; exact .one ho he h3
    · exact .more ho he h3 (pre_bef hp n e.on (by omega) (by omega) his h5)
def Calm (cx : Cx) (ops : Array Oper) (om : Nat) (LA LR : Array Bool) (s : St) : Prop := ∀ p o j oj, Pend LA LR p → ops[p]? = some o → ops[j]? = some oj → LA.getD j true = false →
  isP cx oj = true ∨ Bef ops j p ∨ clash (rdOf cx o (evA s.f (getB s.B))) (wrM cx om j oj) = false
structure WfR (ops : Array Oper) (Z : Nat → Bool) : Prop where
  edge : ∀ (i : Nat) (oi : Oper), ops[i]? = some oi → ∀ e ∈ oi.after, Region.binds .any e = true → e.on < i
  self : ∀ (i : Nat) (oi : Oper), ops[i]? = some oi → ∀ d, oi.dst = some d → d ∉ oi.looksAt ops
  look : ∀ (i j : Nat) (oi oj : Oper), ops[i]? = some oi → ops[j]? = some oj → j ≠ i → Z j = false → (∃ e ∈ oi.after, Region.binds .any e = true ∧ e.on = j) ∨ ∀ d, oj.dst = some d → d ∉ oi.looksAt ops ∧ oi.dst ≠ some d
theorem wfr_of (h : wfReg ops = true) : WfR ops (fun _ => false) := by
  have go : ∀ i oi, ops[i]? = some oi → (oi.after.toList.all fun e => !Region.binds .any e || decide (e.on < i)) = true ∧ (match oi.dst with | some d => !(oi.looksAt ops).contains d | none => true) = true ∧ ((List.range ops.size).all fun j => j == i || (match ops[j]? with
      | none => true
      | some oj => (oi.after.any fun e => Region.binds .any e && e.on == j) || noLook ops oi oj)) = true := fun i oi hi => by
    have := List.all_eq_true.1 h i (by simpa using size_of_get hi)
    rw [hi] at this
    simp only [Bool.and_eq_true] at this
    exact ⟨this.1.1, this.1.2, this.2⟩
  refine ⟨fun i oi hi e he hb => ?_, fun i oi hi d hd => ?_, fun i j oi oj hi hj hne _ => ?_⟩
  · have := List.all_eq_true.1 (go i oi hi).1 e (by simpa using he)
    rw [hb] at this
    simpa using this
  · have := (go i oi hi).2.1
    rw [hd] at this
    simpa using this
  · have := List.all_eq_true.1 (go i oi hi).2.2 j (by simpa using size_of_get hj)
    rw [hj] at this
    simp only [Bool.or_eq_true, beq_iff_eq, hne, false_or] at this
    rcases this with h1 | h1
    · obtain ⟨e, he, hb⟩ := Array.any_eq_true'.1 h1
      simp only [Bool.and_eq_true, beq_iff_eq] at hb
      exact .inl ⟨e, he, hb⟩
    · refine .inr fun d hd => ?_
      unfold noLook at h1
      rw [hd] at h1
      simpa using h1
theorem WfR.dst {Z : Nat → Bool} (hw : WfR ops Z) {i j : Nat} {oi oj : Oper} {d : Nat} (hi : ops[i]? = some oi) (hj : ops[j]? = some oj) (hne : i ≠ j) (hzi : Z i = false) (hzj : Z j = false) (h1 : oi.dst = some d) (h2 : oj.dst = some d) : False := by
  rcases hw.look i j oi oj hi hj (Ne.symm hne) hzj with ⟨e, he, hb, heq⟩ | h
  · rcases hw.look j i oj oi hj hi hne hzi with ⟨e', he', hb', heq'⟩ | h
    · have := hw.edge i oi hi e he hb
      have := hw.edge j oj hj e' he' hb'
      omega
    · exact (h d h1).2 h2
  · exact (h d h2).2 h1
theorem all_listed {Z : Nat → Bool} (hw : WfR ops Z) {L : Array Bool} (hsz : L.size = ops.size) (hr : Region.ready .any ops L = []) : ∀ j, j < ops.size → L.getD j false = true := by
  intro j
  induction j using Nat.strongRecOn with
  | ind j ih =>
    intro hj
    cases h : L.getD j false with
    | true => rfl
    | false =>
      have ho : ops[j]? = some ops[j] := Array.getElem?_eq_getElem hj
      have : j ∈ Region.ready .any ops L := mem_ready.2 ⟨by
        have hlt : j < L.size := by omega
        simp [Array.getD, hlt] at h ⊢
        exact h, _, ho, fun e he hb => ih e.on (hw.edge j _ ho e he hb) (Nat.lt_trans (hw.edge j _ ho e he hb) hj)⟩
      rw [hr] at this
      cases this
theorem closed_resA {B B' : BL} (h : ClosedSame B B') (a : AV0) : resA (getB B') a = resA (getB B) a := by
  unfold resA
  split
  · rename_i i j
    cases hb : getB B i with
    | closed n k => rw [(h i n k).2 hb]
    | no =>
      cases hb' : getB B' i with
      | closed n k => rw [(h i n k).1 hb'] at hb; cases hb
      | no => rfl
      | bx _ _ => rfl
    | bx nm cs =>
      cases hb' : getB B' i with
      | closed n k => rw [(h i n k).1 hb'] at hb; cases hb
      | no => rfl
      | bx _ _ => rfl
  · rfl
  · rfl
theorem closed_resV {B B' : BL} (h : ClosedSame B B') (a : AV) : resV (getB B') a = resV (getB B) a := by
  unfold resV
  split
  · rw [closed_resA h]
  · congr 1
    exact List.map_congr_left fun a _ => closed_resA h a
  · rfl
theorem mem_looks {o : Oper} {t : Tmp} (h : Operand.tmp t ∈ o.op.operands) : t ∈ o.looksAt ops := by
  unfold Oper.looksAt
  exact List.mem_append_left _ (List.mem_filterMap.2 ⟨.tmp t, by simpa using h, rfl⟩)
theorem guard_looks {o : Oper} {g : Nat × Bool} {oj : Oper} {d : Nat} (h1 : o.guard = some g) (h2 : ops[g.1]? = some oj) (h3 : oj.dst = some d) : d ∈ o.looksAt ops := by
  unfold Oper.looksAt
  refine List.mem_append_right _ ?_
  rw [h1]
  obtain ⟨a, b⟩ := g
  simp only at h2 ⊢
  rw [h2]
  simp [h3]
theorem getA_put {f : FA} {d : Option Tmp} {a : AV} {t : Nat} (h : d ≠ some t) : getA (putA f d a) t = getA f t := by
  cases d with
  | none => rfl
  | some d =>
    show getA (setA f d a) t = _
    rw [getA_set, if_neg]
    rintro ⟨rfl, _⟩; exact h rfl
theorem ev_keep {o oj : Oper} {s s' : St} {a : AV} (hl : ∀ d, oj.dst = some d → d ∉ o.looksAt ops) (hf : s'.f = putA s.f oj.dst a) (hc : ClosedSame s.B s'.B) : ∀ x ∈ o.op.operands, evA s'.f (getB s'.B) x = evA s.f (getB s.B) x ∧ ev0 s' x = ev0 s x := fun x hx => by
  have tmp : ∀ t, x = .tmp t → getA s'.f t = getA s.f t := fun t ht => by
    subst ht
    rw [hf, getA_put]
    intro e
    exact hl t e (mem_looks hx)
  cases x with
  | tmp t => exact ⟨by show resV _ _ = resV _ _; rw [tmp t rfl, closed_resV hc], tmp t rfl⟩
  | const v => exact ⟨rfl, rfl⟩
  | global v => exact ⟨rfl, rfl⟩
  | func v => exact ⟨rfl, rfl⟩
theorem want_keep {o oj : Oper} {f : FA} {a : AV} (hl : ∀ d, oj.dst = some d → d ∉ o.looksAt ops) : want ops o (putA f oj.dst a) = want ops o f := by
  unfold want
  cases hg : o.guard with
  | none => rfl
  | some g =>
    simp only
    cases hj : ops[g.1]? with
    | none => rfl
    | some ok =>
      simp only
      cases hd : ok.dst with
      | none => rfl
      | some d =>
        simp only
        rw [getA_put]
        intro e
        exact hl d e (guard_looks hg hj hd)
theorem put_keep {f f' : FA} {d : Option Tmp} {a : AV} (h : putA f d a = f) (hl : f'.length = f.length) (hg : ∀ t, d = some t → getA f' t = getA f t) : putA f' d a = f' := by
  cases d with
  | none => rfl
  | some t =>
    show setA f' t a = f'
    by_cases ht : t < f.length
    · refine setA_same f' t ?_
      rw [hg t rfl, ← h]
      show getA (setA f t a) t = a
      rw [getA_set, if_pos ⟨rfl, ht⟩]
    · exact setA_out f' a (by rw [hl]; exact Nat.le_of_not_lt ht)
theorem prom_keep {o oj : Oper} {s s' : St} {a : AV} (h : Prom cx ops s o) (hl : ∀ d, oj.dst = some d → d ∉ o.looksAt ops ∧ o.dst ≠ some d) (hf : s'.f = putA s.f oj.dst a) (hc : ClosedSame s.B s'.B)
    (hbx : ∀ d cs, want ops o s.f = some true → isAl o.op = true → o.dst = some d → getB s.B d = .bx none cs → getB s'.B d = .bx none cs)
    (hrd : isAl o.op = false → (∀ i ∈ (rdOf cx o (evA s.f (getB s.B))).b, getB s.B i = .no ∨ getB s'.B i = getB s.B i) ∧ ((rdOf cx o (evA s.f (getB s.B))).o = true → FrzLe (getO s.O) (getO s'.O)) ∧ ((rdOf cx o (evA s.f (getB s.B))).h = true → s'.H = s.H)) : Prom cx ops s' o := by
  have hl1 : ∀ d, oj.dst = some d → d ∉ o.looksAt ops := fun d hd => (hl d hd).1
  have hlen : s'.f.length = s.f.length := by rw [hf, putA_len]
  have hget : ∀ t, o.dst = some t → getA s'.f t = getA s.f t := fun t ht => by
    rw [hf, getA_put]
    intro e; exact (hl t e).2 ht
  have hw : want ops o s'.f = want ops o s.f := by rw [hf]; exact want_keep hl1
  have hev := ev_keep hl1 hf hc
  unfold Prom at h ⊢
  rw [hw]
  rcases h with ⟨h1, h2⟩ | ⟨h1, ρ, ρ0, h2, h3⟩
  · exact .inl ⟨h1, put_keep h2 hlen hget⟩
  · refine .inr ⟨h1, ρ, ρ0, fun x hx => ⟨(h2 x hx).1.trans (hev x hx).1.symm, (h2 x hx).2.trans (hev x hx).2.symm⟩, ?_⟩
    rcases h3 with ⟨h3, d, cs, h4, h5, h6, h7⟩ | ⟨h3, h4, h5⟩
    · exact .inl ⟨h3, d, cs, h4, hbx d cs h1 h3 h4 h5, h6, put_keep h7 hlen hget⟩
    · obtain ⟨r1, r2, r3⟩ := hrd h3
      have hrr : rdOf cx o ρ = rdOf cx o (evA s.f (getB s.B)) := rdOf_congr fun x hx => (h2 x hx).1
      exact .inr ⟨h3, h4, (ss_aRead _ _ _ _ _ _ _).mono (aRead_agree h5 (by rw [hrr]; exact r1) (by rw [hrr]; exact r2) (by rw [hrr]; exact r3)) fun a ha => put_keep ha hlen hget⟩
end
end Go.Ga
set_option linter.unusedSimpArgs false
set_option linter.unusedVariables false
namespace Go.Ga
open Go Go.Gp
section
variable {cx : Cx} {ops : Array Oper} {Z : Nat → Bool} {W0 : World} {w0 : Mk} {LA LR : Array Bool} {s : St} {l : Fr} {W : World}
theorem pend_lt {p : Nat} {L : Array Bool} (h : L.getD p false = true) : p < L.size := by
  rcases Nat.lt_or_ge p L.size with h1 | h1
  · exact h1
  · simp [Array.getD, Nat.not_lt.2 h1] at h
theorem getD_flip {L : Array Bool} {j : Nat} (h : j < L.size) : (L.getD j true = false) ↔ (L.getD j false = false) := by
  simp [Array.getD, h]
theorem ready_look (hw : WfR ops Z) (hz : ∀ p, Pend LA LR p → Z p = false) {j : Nat} {o : Oper} (hj : j ∈ Region.ready .any ops LR) (ho : ops[j]? = some o) {t : Nat} (ht : t ∈ o.looksAt ops) : ¬ PD ops LA LR t := by
  rintro ⟨q, oq, hq, hoq, hdq⟩
  obtain ⟨_, o', ho', hall⟩ := mem_ready.1 hj
  rw [ho] at ho'
  injection ho' with ho'
  subst ho'
  by_cases hqj : q = j
  · subst hqj
    rw [ho] at hoq
    injection hoq with hoq
    subst hoq
    exact hw.self _ _ ho t hdq ht
  · rcases hw.look j q o oq ho hoq hqj (hz q hq) with ⟨e, he, hb, heq⟩ | h
    · have := hall e he hb
      rw [heq, hq.2] at this; cases this
    · exact (h t hdq).1 ht
theorem ready_ev (hw : WfR ops Z) (hz : ∀ p, Pend LA LR p → Z p = false) {X : Nat → Prop} {E : Env} (hm : RelM W0 w0 X E s.B s.O s.H W) (hf : FRel E W (PD ops LA LR) s.f l) {j : Nat} {o : Oper} (hj : j ∈ Region.ready .any ops LR) (ho : ops[j]? = some o) :
    (∀ x ∈ o.op.operands, VRep E W (evA s.f (getB s.B) x) ((actOf l).eval x) ∧ VRep E W (ev0 s x) ((actOf l).eval x)) ∧ ∀ b, want ops o s.f = some b → Region.wanted o (yielded ops (actOf l).tmps) = b := by
  refine ⟨fun x hx => ⟨ev_rep hm fun t ht => ?_, ev0_rep (x := x) hm fun t ht => ?_⟩, fun b hb => want_sound hb fun g oj d hg hoj hd => hf.2 d (ready_look hw hz hj ho (guard_looks hg hoj hd))⟩
  · subst ht; exact hf.2 t (ready_look hw hz hj ho (mem_looks hx))
  · subst ht; exact hf.2 t (ready_look hw hz hj ho (mem_looks hx))
theorem pend_done {j p : Nat} (h : Pend LA (LR.setIfInBounds j true) p) : Pend LA LR p ∧ (j < LR.size → p ≠ j) := by
  obtain ⟨h1, h2⟩ := h
  refine ⟨⟨h1, ?_⟩, fun hj e => ?_⟩
  · cases hp : LR.getD p false with
    | false => rfl
    | true => rw [getD_set_true hp] at h2; cases h2
  · subst e
    simp [Array.getD, hj] at h2
theorem pend_keep {j p : Nat} (h : Pend LA LR p) (hne : p ≠ j) : Pend LA (LR.setIfInBounds j true) p := ⟨h.1, by rw [getD_set_ne false (Ne.symm hne)]; exact h.2⟩
theorem exec_pend (hw : WfR ops Z) (inv : Inv cx ops Z W0 w0 LA LR s l W) {j : Nat} {o : Oper} (hj : j ∈ Region.ready .any ops LR) (hp : Pend LA LR j) (ho : ops[j]? = some o) :
    (Region.wanted o (yielded ops (actOf l).tmps) = false ∧ Inv cx ops Z W0 w0 LA (LR.setIfInBounds j true) s (putL l o.dst undef) W) ∨
    (Region.wanted o (yielded ops (actOf l).tmps) = true ∧ Gets cx.P o (actOf l) W fun v W' => Inv cx ops Z W0 w0 LA (LR.setIfInBounds j true) s (putL l o.dst v) W') := by
  obtain ⟨E, hm, hf⟩ := inv.rel
  obtain ⟨hev, hwant⟩ := ready_ev hw inv.nz hm hf hj ho
  have hjR : j < LR.size := by rw [inv.szR]; exact size_of_get ho
  have mk : ∀ {E' : Env} {l' : Fr} {W' : World}, RelM W0 w0 (PX ops LA (LR.setIfInBounds j true) s.f) E' s.B s.O s.H W' → FRel E' W' (PD ops LA (LR.setIfInBounds j true)) s.f l' → Inv cx ops Z W0 w0 LA (LR.setIfInBounds j true) s l' W' := fun {E' l' W'} h1 h2 =>
    ⟨inv.szA, by simpa using inv.szR, fun q hq => by
      by_cases hqj : q = j
      · subst hqj; exact hp.1
      · rw [getD_set_ne false (Ne.symm hqj)] at hq; exact inv.sub q hq, inv.clA, closed_set inv.clR hj, ⟨E', h1, h2⟩, fun p op hpp hop => inv.prom p op (pend_done hpp).1 hop, fun p hpp => inv.nz p (pend_done hpp).1⟩
  have hD : ∀ t, ¬ PD ops LA (LR.setIfInBounds j true) t → ¬ PD ops LA LR t ∨ o.dst = some t := fun t ht => by
    by_cases hd : o.dst = some t
    · exact .inr hd
    · refine .inl fun ⟨q, oq, hq, hoq, hdq⟩ => ht ⟨q, oq, pend_keep hq fun e => ?_, hoq, hdq⟩
      subst e
      rw [ho] at hoq
      injection hoq with hoq
      subst hoq
      exact hd hdq
  have hXs : (isAl o.op = true → want ops o s.f ≠ some true) → ∀ i, PX ops LA LR s.f i ↔ PX ops LA (LR.setIfInBounds j true) s.f i := fun hn i => by
    constructor
    · rintro ⟨p, op, h1, h2, h3, h4, h5⟩
      refine ⟨p, op, pend_keep h1 fun e => ?_, h2, h3, h4, h5⟩
      subst e
      rw [ho] at h2
      injection h2 with h2
      subst h2
      exact hn h4 h5
    · rintro ⟨p, op, h1, h2, h3, h4, h5⟩
      exact ⟨p, op, (pend_done h1).1, h2, h3, h4, h5⟩
  rcases inv.prom j o hp ho with ⟨h1, h2⟩ | ⟨h1, ρ, ρ0, h2, h3⟩
  · refine .inl ⟨hwant false h1, mk (hm.congrX fun i _ => hXs (fun _ => by rw [h1]; simp) i) ?_⟩
    have := hf.put (a := .v .und) (v := undef) (d := o.dst) rfl hD
    rwa [h2] at this
  · refine .inr ⟨hwant true h1, ?_⟩
    rcases h3 with ⟨h3, d, cs, h4, h5, h6, h7⟩ | ⟨h3, h4, h5⟩
    · refine (box_sound (cx := cx) hm ⟨j, o, hp, ho, h4, h3, h1⟩ h4 h5 h6 fun x hx => by rw [(h2 x hx).1]; exact (hev x hx).1).mono fun v W' ⟨E', r1, r2, r3, r4⟩ => mk (r2.congrX fun i _ => ?_) ?_
      · constructor
        · rintro ⟨⟨p, op, g1, g2, g3, g4, g5⟩, hne⟩
          refine ⟨p, op, pend_keep g1 fun e => ?_, g2, g3, g4, g5⟩
          subst e
          rw [ho] at g2
          injection g2 with g2
          subst g2
          rw [h4] at g3
          injection g3 with g3
          exact hne g3.symm
        · rintro ⟨p, op, g1, g2, g3, g4, g5⟩
          obtain ⟨g6, g7⟩ := pend_done g1
          refine ⟨⟨p, op, g6, g2, g3, g4, g5⟩, fun e => ?_⟩
          subst e
          exact hw.dst g2 ho (g7 hjR) (inv.nz _ g6) (inv.nz _ hp) g3 h4
      · have := (hf.pers r3).put (d := o.dst) r1 hD
        rwa [h7] at this
    · refine (aRead_sound (cx := cx) hm h4 h5 (fun x hx => by rw [(h2 x hx).1]; exact (hev x hx).1) (fun x hx => by rw [(h2 x hx).2]; exact (hev x hx).2) fun _ => rfl).mono fun v W' ⟨av, E', r1, r2, r3, r4, r5⟩ => mk (r3.congrX fun i _ => hXs (fun h => by rw [h3] at h; cases h) i) ?_
      have := (hf.pers r4).put (d := o.dst) r2 hD
      rwa [r1] at this
theorem run_all (hw : WfR ops Z) : ∀ (n k : Nat) {LR : Array Bool} {l : Fr} {W : World}, ops.size - k ≤ n → Inv cx ops Z W0 w0 LA LR s l W → (∀ p, p < k → ¬ Pend LA LR p) → ∃ l' W', SRel W0 w0 s l' W'
  | 0, k, LR, l, W, hn, inv, hk => by
    have none : ∀ p, ¬ Pend LA LR p := fun p hp => hk p (by have := pend_lt hp.1; have := inv.szA; omega) hp
    obtain ⟨E, hm, hf⟩ := inv.rel
    exact ⟨l, W, E, hm.congrX fun i _ => ⟨fun ⟨p, op, h, _⟩ => none p h, fun h => h.elim⟩, hf.1, fun t _ => hf.2 t fun ⟨q, oq, h, _⟩ => none q h⟩
  | n + 1, k, LR, l, W, hn, inv, hk => by
    by_cases hp : Pend LA LR k
    · have hks : k < ops.size := by have := pend_lt hp.1; have := inv.szA; omega
      have ho : ops[k]? = some ops[k] := Array.getElem?_eq_getElem hks
      have hj : k ∈ Region.ready .any ops LR := mem_ready.2 ⟨(getD_flip (by rw [inv.szR]; exact hks)).2 hp.2, _, ho, fun e he hb => by
        have h1 := hw.edge k _ ho e he hb
        have h2 := inv.clA k _ ho hp.1 e he hb
        cases h : LR.getD e.on false with
        | true => rfl
        | false => exact absurd ⟨h2, h⟩ (hk _ h1)⟩
      have next : ∀ {l' : Fr} {W' : World}, Inv cx ops Z W0 w0 LA (LR.setIfInBounds k true) s l' W' → ∃ l' W', SRel W0 w0 s l' W' := fun {l' W'} inv' => run_all hw n (k + 1) (by omega) inv' fun p hpk hpp => by
        obtain ⟨h1, h2⟩ := pend_done hpp
        have := h2 (by rw [inv.szR]; exact hks)
        exact hk p (by omega) h1
      rcases exec_pend hw inv hj hp ho with ⟨_, h⟩ | ⟨_, h⟩
      · exact next h
      · obtain ⟨v, W', h⟩ := gets_ex h
        exact next h
    · exact run_all hw n (k + 1) (by omega) inv fun p hpk => by
        rcases Nat.lt_or_ge p k with h | h
        · exact hk p h
        · rw [show p = k from by omega]; exact hp
theorem pend_take {i p : Nat} (h : Pend (LA.setIfInBounds i true) LR p) (hne : p ≠ i) : Pend LA LR p := ⟨by rw [← getD_set_ne false (Ne.symm hne)]; exact h.1, h.2⟩
theorem pend_more {i p : Nat} (h : Pend LA LR p) : Pend (LA.setIfInBounds i true) LR p := ⟨getD_set_true h.1, h.2⟩
theorem taken_look (hw : WfR ops Z) (clA : Closed ops LA) {i p : Nat} (hzi : Z i = false) {o op : Oper} (hi : LA.getD i false = false) (hp : LA.getD p false = true) (ho : ops[i]? = some o) (hop : ops[p]? = some op) : ∀ d, o.dst = some d → d ∉ op.looksAt ops ∧ op.dst ≠ some d := by
  have hne : i ≠ p := fun e => by rw [e, hp] at hi; cases hi
  rcases hw.look p i op o hop ho hne hzi with ⟨e, he, hb, heq⟩ | h
  · have := clA p op hop hp e he hb
    rw [heq, hi] at this; cases this
  · exact h
theorem take_step (hw : WfR ops Z) (inv : Inv cx ops Z W0 w0 LA LR s l W) {i : Nat} {o : Oper} {K' : St → Prop} (hzi : Z i = false) (hi : i ∈ Region.ready .any ops LA) (ho : ops[i]? = some o) (hp : isP cx o = true) (h : takeG cx ops o s K') :
    ∃ s', K' s' ∧ Inv cx ops Z W0 w0 (LA.setIfInBounds i true) LR s' l W ∧ ∀ p op, ops[p]? = some op → (p = i ∨ Pend LA LR p) → rdOf cx op (evA s'.f (getB s'.B)) = rdOf cx op (evA s.f (getB s.B)) := by
  obtain ⟨E, hm, hf⟩ := inv.rel
  have hiA : i < LA.size := by rw [inv.szA]; exact size_of_get ho
  have hun : LA.getD i false = false := (getD_flip hiA).1 (mem_ready.1 hi).1
  have hunR : LR.getD i false = false := by
    cases h : LR.getD i false with
    | false => rfl
    | true => rw [inv.sub i h] at hun; cases hun
  have hpi : Pend (LA.setIfInBounds i true) LR i := ⟨by simp [Array.getD, hiA], hunR⟩
  have hself : ∀ d, o.dst = some d → d ∉ o.looksAt ops := hw.self i o ho
  have hlook : ∀ p op, Pend LA LR p → ops[p]? = some op → ∀ d, o.dst = some d → d ∉ op.looksAt ops ∧ op.dst ≠ some d := fun p op hpp hop => taken_look hw inv.clA hzi hun hpp.1 ho hop
  have fin : ∀ {s' : St} {a : AV} {E' : Env}, s'.f = putA s.f o.dst a → ClosedSame s.B s'.B → s'.H = s.H → FrzLe (getO s.O) (getO s'.O) → (∀ q, getB s.B q = .no ∨ getB s'.B q = getB s.B q) → K' s' →
      RelM W0 w0 (PX ops (LA.setIfInBounds i true) LR s'.f) E' s'.B s'.O s'.H W → Pers E W E' W → Prom cx ops s' o → ∃ s', K' s' ∧ Inv cx ops Z W0 w0 (LA.setIfInBounds i true) LR s' l W ∧ ∀ p op, ops[p]? = some op → (p = i ∨ Pend LA LR p) → rdOf cx op (evA s'.f (getB s'.B)) = rdOf cx op (evA s.f (getB s.B)) := fun {s' a E'} e1 e2 e3 e4 e5 hk hm' hp' hpr => by
    refine ⟨s', hk, ⟨by simpa using inv.szA, inv.szR, fun q hq => getD_set_true (inv.sub q hq), closed_set inv.clA hi, inv.clR, ⟨E', hm', ?_⟩, fun p op hpp hop => ?_, fun p hpp => by
      by_cases hpe : p = i
      · rw [hpe]; exact hzi
      · exact inv.nz p (pend_take hpp hpe)⟩, fun p op hop hpp => rdOf_congr fun x hx => ?_⟩
    · refine ⟨by rw [e1, putA_len]; exact hf.1, fun t ht => ?_⟩
      rw [e1, getA_put]
      · exact (hf.2 t fun ⟨q, oq, h1, h2, h3⟩ => ht ⟨q, oq, pend_more h1, h2, h3⟩).pers hp'
      · exact fun e => ht ⟨i, o, hpi, ho, e⟩
    · by_cases hpe : p = i
      · subst hpe
        rw [ho] at hop
        injection hop with hop
        subst hop
        exact hpr
      · have hpp' := pend_take hpp hpe
        exact prom_keep (inv.prom p op hpp' hop) (hlook p op hpp' hop) e1 e2 (fun d cs _ _ _ hb => by
          rcases e5 d with h | h
          · rw [h] at hb; cases hb
          · rw [h]; exact hb) fun _ => ⟨fun q _ => e5 q, fun _ => e4, fun _ => e3⟩
    · rcases hpp with rfl | hpp
      · rw [ho] at hop
        injection hop with hop
        subst hop
        exact (ev_keep hself e1 e2 x hx).1
      · exact (ev_keep (fun d hd => (hlook p op hpp hop d hd).1) e1 e2 x hx).1
  have wk : ∀ {a : AV} p op, (p = i ∨ Pend LA LR p) → ops[p]? = some op → want ops op (putA s.f o.dst a) = want ops op s.f := fun {a} p op hpp hop => by
    rcases hpp with rfl | hpp
    · rw [ho] at hop
      injection hop with hop
      subst hop
      exact want_keep hself
    · exact want_keep fun d hd => (hlook p op hpp hop d hd).1
  have px : ∀ {a : AV} (q : Nat), PX ops (LA.setIfInBounds i true) LR (putA s.f o.dst a) q ↔ PX ops LA LR s.f q ∨ (o.dst = some q ∧ isAl o.op = true ∧ want ops o s.f = some true) := fun {a} q => by
    constructor
    · rintro ⟨p, op, h1, h2, h3, h4, h5⟩
      by_cases hpe : p = i
      · subst hpe
        rw [wk p op (.inl rfl) h2] at h5
        rw [ho] at h2
        injection h2 with h2
        subst h2
        exact .inr ⟨h3, h4, h5⟩
      · have h1' := pend_take h1 hpe
        rw [wk p op (.inr h1') h2] at h5
        exact .inl ⟨p, op, h1', h2, h3, h4, h5⟩
    · rintro (⟨p, op, h1, h2, h3, h4, h5⟩ | ⟨h3, h4, h5⟩)
      · exact ⟨p, op, pend_more h1, h2, h3, h4, by rw [wk p op (.inr h1) h2]; exact h5⟩
      · exact ⟨i, o, hpi, ho, h3, h4, by rw [wk i o (.inl rfl) ho]; exact h5⟩
  have pput : ∀ (a : AV), putA (putA s.f o.dst a) o.dst a = putA s.f o.dst a := fun a => by
    cases o.dst with
    | none => rfl
    | some d =>
      show setA (setA s.f d a) d a = setA s.f d a
      by_cases hd : d < s.f.length
      · exact setA_same _ _ (by rw [getA_set, if_pos ⟨rfl, hd⟩])
      · rw [setA_out s.f a (Nat.le_of_not_lt hd), setA_out s.f a (Nat.le_of_not_lt hd)]
  rw [takeG_def] at h
  rcases guard_cases h with ⟨hwt, h⟩ | ⟨hwt, h⟩
  · unfold aTake at h
    split at h
    · rename_i hal
      split at h <;> first | exact h.elim | skip
      rename_i d hd
      split at h <;> first | exact h.elim | skip
      rename_i hno
      split at h <;> first | exact h.elim | skip
      rename_i cs hcs
      have cl : ClosedSame s.B (setB s.B d (.bx none cs)) := fun q n k => by
        rw [getB_set]
        split
        · rename_i e; subst e; rw [hno]; simp
        · rfl
      refine fin (a := .v (.bx d 0)) (E' := E) (s' := ⟨putA s.f o.dst (.v (.bx d 0)), setB s.B d (.bx none cs), s.O, s.H⟩) rfl cl rfl (FrzLe.refl _) (fun q => ?_) h ((box_take hm hno cs).congrX fun q _ => ?_) (Pers.refl _ _) ?_
      · show getB s.B q = .no ∨ getB (setB s.B d (.bx none cs)) q = _
        rw [getB_set]
        split
        · rename_i e; subst e; exact .inl hno
        · exact .inr rfl
      · rw [px]
        constructor
        · rintro (h | rfl)
          · exact .inl h
          · exact .inr ⟨hd, hal, hwt⟩
        · rintro (h | h)
          · exact .inl h
          · have := h.1
            rw [hd] at this
            injection this with this
            exact .inr this.symm
      · refine .inr ⟨by rw [wk i o (.inl rfl) ho]; exact hwt, evA s.f (getB s.B), ev0 s, fun x hx => ?_, .inl ⟨hal, d, cs, hd, by rw [getB_set, if_pos rfl], hcs, pput _⟩⟩
        have := ev_keep (s := s) (s' := ⟨putA s.f o.dst (.v (.bx d 0)), setB s.B d (.bx none cs), s.O, s.H⟩) hself rfl cl x hx
        exact ⟨this.1.symm, this.2.symm⟩
    · rename_i hal
      have hal : isAl o.op = false := hal
      have hrd : isRd cx o = true := by
        unfold isP at hp
        rw [hal] at hp
        simpa using hp
      have h' := ss_aRead _ _ _ _ _ _ _ _ _ h fun a ha hfa => (⟨ha, hfa⟩ : _ ∧ _)
      obtain ⟨l', W', E1, m1, f1⟩ := run_all hw ops.size 0 (by omega) inv fun p hp => absurd hp (Nat.not_lt_zero _)
      obtain ⟨E2, m2, p2⟩ := frzOf_rel (cx := cx) m1 o (evA s.f (getB s.B))
      have f2 := f1.pers p2
      obtain ⟨v, W'', av, E3, ⟨hk, hav⟩, _⟩ := gets_ex (aRead_sound (a := actOf l') m2 hrd h' (fun x hx => ev_rep m2 fun t _ => f2.2 t id) (fun x hx => ev0_rep m2 fun t _ => f2.2 t id) fun _ => rfl)
      obtain ⟨E4, m4, p4⟩ := frzOf_rel (cx := cx) hm o (evA s.f (getB s.B))
      refine fin (a := av) (E' := E4) (s' := ⟨putA s.f o.dst av, s.B, frzOf cx o (evA s.f (getB s.B)) s.O, s.H⟩) rfl (ClosedSame.refl _) rfl (frzOf_le _ _ _ _) (fun q => .inr rfl) hk (m4.congrX fun q _ => ?_) p4 ?_
      · rw [px]
        exact ⟨.inl, fun h => h.resolve_right fun h => by rw [hal] at h; cases h.2.1⟩
      · refine .inr ⟨by rw [wk i o (.inl rfl) ho]; exact hwt, evA s.f (getB s.B), ev0 s, fun x hx => ?_, .inr ⟨hal, hrd, (ss_aRead _ _ _ _ _ _ _).mono hav fun a ha => by subst ha; exact pput _⟩⟩
        have := ev_keep (s := s) (s' := ⟨putA s.f o.dst av, s.B, frzOf cx o (evA s.f (getB s.B)) s.O, s.H⟩) hself rfl (ClosedSame.refl _) x hx
        exact ⟨this.1.symm, this.2.symm⟩
  · refine fin (a := .v .und) (E' := E) (s' := ⟨putA s.f o.dst (.v .und), s.B, s.O, s.H⟩) rfl (ClosedSame.refl _) rfl (FrzLe.refl _) (fun q => .inr rfl) h (hm.congrX fun q _ => ?_) (Pers.refl _ _) (.inl ⟨by rw [wk i o (.inl rfl) ho]; exact hwt, pput _⟩)
    rw [px]
    exact ⟨.inl, fun h => h.resolve_right fun h => by rw [hwt] at h; cases h.2.2⟩
end
end Go.Ga
set_option linter.unusedSimpArgs false
set_option linter.unusedVariables false
namespace Go.Ga
open Go Go.Gp
section
variable {cx : Cx} {ops : Array Oper} {Z : Nat → Bool} {W0 : World} {w0 : Mk} {LA LR : Array Bool} {s : St} {l : Fr} {W : World} {om : Nat}
theorem pend_both {j p : Nat} (hj : LA.getD j false = false) (hsz : j < LR.size) : Pend (LA.setIfInBounds j true) (LR.setIfInBounds j true) p ↔ Pend LA LR p := by
  constructor
  · intro h
    obtain ⟨h1, h2⟩ := pend_done h
    exact pend_take h1 (h2 hsz)
  · intro h
    exact pend_more (pend_keep h fun e => by subst e; have := h.1; rw [hj] at this; cases this)
theorem calm_more {s' : St} {j : Nat} (h : Calm cx ops om LA LR s) (hj : LA.getD j false = false) (hsz : j < LR.size) (hrd : ∀ p op, Pend LA LR p → ops[p]? = some op → rdOf cx op (evA s'.f (getB s'.B)) = rdOf cx op (evA s.f (getB s.B))) : Calm cx ops om (LA.setIfInBounds j true) (LR.setIfInBounds j true) s' := fun p o q oq hp ho hq hu => by
  have hp' := (pend_both hj hsz).1 hp
  rw [hrd p o hp' ho]
  refine h p o q oq hp' ho hq ?_
  cases hqj : LA.getD q true with
  | false => rfl
  | true =>
    by_cases hqe : j = q
    · subst hqe
      by_cases hl : j < LA.size
      · rw [(getD_flip hl).2 hj] at hqj; cases hqj
      · simp [Array.getD, hl] at hu
    · rw [getD_set_ne true hqe, hqj] at hu; cases hu
theorem tb0 (j : Nat) : tbit 0 j = false := by
  unfold tbit
  have : Nat.shiftRight 0 j = 0 := Nat.zero_shiftRight j
  rw [this]; rfl
theorem wrM_0 (cx : Cx) (j : Nat) (o : Oper) : wrM cx 0 j o = wrOf cx o := by unfold wrM; rw [tb0, tb0]
theorem wrM_o (cx : Cx) (om j : Nat) (o : Oper) : (wrM cx om j o).o = true := by
  unfold wrM
  cases tbit om j with
  | true => rfl
  | false =>
   cases tbit om (j + 64) with
   | true => rfl
   | false => unfold wrOf; cases o.op <;> simp <;> (try (split <;> simp))
theorem eff_step (hw : WfR ops Z) (inv : Inv cx ops Z W0 w0 LA LR s l W) (calm : Calm cx ops om LA LR s) {j : Nat} {o : Oper} {K' : St → Prop} (hzj : Z j = false) (hj : j ∈ Region.ready .any ops LR) (hnA : LA.getD j false = false) (ho : ops[j]? = some o) (hnp : isP cx o = false) (hob : tbit om j = true → objSt o (evA s.f (getB s.B)) = true) (hbx : tbit om (j + 64) = true → boxSt o (evA s.f (getB s.B)) = true) (h : effG cx ops o s K') :
    (Region.wanted o (yielded ops (actOf l).tmps) = false ∧ ∃ s', K' s' ∧ Inv cx ops Z W0 w0 (LA.setIfInBounds j true) (LR.setIfInBounds j true) s' (putL l o.dst undef) W ∧ Calm cx ops om (LA.setIfInBounds j true) (LR.setIfInBounds j true) s') ∨
    (Region.wanted o (yielded ops (actOf l).tmps) = true ∧ Gets cx.P o (actOf l) W fun v W' => ∃ s', K' s' ∧ Inv cx ops Z W0 w0 (LA.setIfInBounds j true) (LR.setIfInBounds j true) s' (putL l o.dst v) W' ∧ Calm cx ops om (LA.setIfInBounds j true) (LR.setIfInBounds j true) s') := by
  obtain ⟨E, hm, hf⟩ := inv.rel
  obtain ⟨hev, hwant⟩ := ready_ev hw inv.nz hm hf hj ho
  have hjR : j < LR.size := by rw [inv.szR]; exact size_of_get ho
  have hjA : j < LA.size := by rw [inv.szA]; exact size_of_get ho
  have hall : ∀ e ∈ o.after, Region.binds .any e = true → LR.getD e.on false = true := by
    obtain ⟨_, o', ho', hall⟩ := mem_ready.1 hj
    rw [ho] at ho'
    injection ho' with ho'
    subst ho'
    exact hall
  have hjL : j ∈ Region.ready .any ops LA := mem_ready.2 ⟨(getD_flip hjA).2 hnA, o, ho, fun e he hb => inv.sub _ (hall e he hb)⟩
  have hlook : ∀ p op, Pend LA LR p → ops[p]? = some op → ∀ d, o.dst = some d → d ∉ op.looksAt ops ∧ op.dst ≠ some d := fun p op hpp hop => taken_look hw inv.clA hzj hnA hpp.1 ho hop
  have hclash : ∀ p op, Pend LA LR p → ops[p]? = some op → clash (rdOf cx op (evA s.f (getB s.B))) (wrM cx om j o) = false := fun p op hpp hop => by
    rcases calm p op j o hpp hop ho ((getD_flip hjA).2 hnA) with h | h | h
    · rw [hnp] at h; cases h
    · have := bef_listed inv.clR h ho hall
      rw [hpp.2] at this; cases this
    · exact h
  have px : ∀ {a : AV} (q : Nat), PX ops (LA.setIfInBounds j true) (LR.setIfInBounds j true) (putA s.f o.dst a) q ↔ PX ops LA LR s.f q := fun {a} q => by
    constructor
    · rintro ⟨p, op, h1, h2, h3, h4, h5⟩
      have h1' := (pend_both hnA hjR).1 h1
      rw [want_keep fun d hd => (hlook p op h1' h2 d hd).1] at h5
      exact ⟨p, op, h1', h2, h3, h4, h5⟩
    · rintro ⟨p, op, h1, h2, h3, h4, h5⟩
      exact ⟨p, op, (pend_both hnA hjR).2 h1, h2, h3, h4, by rw [want_keep fun d hd => (hlook p op h1 h2 d hd).1]; exact h5⟩
  have fin : ∀ {s' : St} {a : AV} {v : Value} {E' : Env} {W' : World}, s'.f = putA s.f o.dst a → ClosedSame s.B s'.B → (∀ q, PX ops LA LR s.f q → getB s'.B q = getB s.B q) → ((wrM cx om j o).b = false → s'.B = s.B) → ((wrM cx om j o).o = false → s'.O = s.O) → ((wrM cx om j o).h = false → s'.H = s.H) →
      RelM W0 w0 (PX ops LA LR s.f) E' s'.B s'.O s'.H W' → Pers E W E' W' → VRep E' W' a v → Inv cx ops Z W0 w0 (LA.setIfInBounds j true) (LR.setIfInBounds j true) s' (putL l o.dst v) W' ∧ Calm cx ops om (LA.setIfInBounds j true) (LR.setIfInBounds j true) s' := fun {s' a v E' W'} e1 e2 e3 e4 e5 e6 hm' hp' hv => by
    refine ⟨⟨by simpa using inv.szA, by simpa using inv.szR, fun q hq => ?_, closed_set inv.clA hjL, closed_set inv.clR hj, ⟨E', hm'.congrX fun q _ => by rw [e1, px], ?_⟩, fun p op hpp hop => ?_, fun p hpp => inv.nz p ((pend_both hnA hjR).1 hpp)⟩, calm_more calm hnA hjR fun p op hpp hop => rdOf_congr fun x hx => (ev_keep (fun d hd => (hlook p op hpp hop d hd).1) e1 e2 x hx).1⟩
    · by_cases hqj : j = q
      · subst hqj; simp [Array.getD, hjA]
      · rw [getD_set_ne false hqj] at hq
        exact getD_set_true (inv.sub q hq)
    · rw [e1]
      exact (hf.pers hp').put hv fun t ht => .inl fun ⟨q, oq, h1, h2, h3⟩ => ht ⟨q, oq, (pend_both hnA hjR).2 h1, h2, h3⟩
    · have hpp' := (pend_both hnA hjR).1 hpp
      have hc := hclash p op hpp' hop
      unfold clash at hc
      simp only [Bool.or_eq_false_iff, Bool.and_eq_false_iff] at hc
      refine prom_keep (inv.prom p op hpp' hop) (hlook p op hpp' hop) e1 e2 (fun d cs h1 h2 h3 hb => by rw [e3 d ⟨p, op, hpp', hop, h3, h2, h1⟩]; exact hb) fun _ => ⟨fun q hq => ?_, fun hro => ?_, fun hrh => ?_⟩
      · rcases hc.1.1 with h | h
        · rw [e4 h]; exact .inr rfl
        · simp only [Bool.not_eq_false', List.isEmpty_iff] at h
          rw [h] at hq; cases hq
      · rcases hc.1.2 with h | h
        · rw [e5 h]; exact FrzLe.refl _
        · rw [hro] at h; cases h
      · rcases hc.2 with h | h
        · exact e6 h
        · rw [hrh] at h; cases h
  rw [effG_def] at h
  rcases guard_cases h with ⟨hwt, h⟩ | ⟨hwt, h⟩
  · have h' : aEff cx o (evA s.f (getB s.B)) s.B s.O s.H fun a B' O' H' => K' ⟨putA s.f o.dst a, B', O', H'⟩ ∧ ((wrM cx om j o).b = false → B' = s.B) ∧ ((wrM cx om j o).h = false → H' = s.H) := by
      unfold wrM
      cases hom : tbit om j with
      | false =>
        cases hbm : tbit om (j + 64) with
        | false => exact aEff_wr h
        | true => exact aEff_bx (hbx hbm) h
      | true => exact aEff_ob (hob hom) h
    refine .inr ⟨hwant true hwt, (aEff_sound (cx := cx) hm h' fun x hx => (hev x hx).1).mono fun v W' ⟨av, B', O', H', E', ⟨hk, r1, r2⟩, h2, h3, h4, h5, h6, h7⟩ => ⟨_, hk, ?_⟩⟩
    exact fin (a := av) (E' := E') rfl h7 h6 r1 (fun hwo => by rw [wrM_o] at hwo; cases hwo) r2 h3 h4 h2
  · exact .inl ⟨hwant false hwt, _, h, fin (s' := ⟨putA s.f o.dst (.v .und), s.B, s.O, s.H⟩) (a := .v .und) (v := undef) (E' := E) (W' := W) rfl (ClosedSame.refl _) (fun _ _ => rfl) (fun _ => rfl) (fun _ => rfl) (fun _ => rfl) hm (Pers.refl _ _) rfl⟩
def left (ops : Array Oper) (LR : Array Bool) : Nat := (List.range ops.size).countP fun j => !LR.getD j false
theorem left_set {j : Nat} (hj : j < ops.size) (hsz : LR.size = ops.size) (hu : LR.getD j false = false) : left ops (LR.setIfInBounds j true) + 1 = left ops LR := by
  unfold left
  have : ∀ (l : List Nat), l.Nodup → (j ∈ l → (l.countP fun q => !(LR.setIfInBounds j true).getD q false) + 1 = l.countP fun q => !LR.getD q false) ∧ (j ∉ l → (l.countP fun q => !(LR.setIfInBounds j true).getD q false) = l.countP fun q => !LR.getD q false) := by
    intro l
    induction l with
    | nil => intro _; simp
    | cons a l ih =>
      intro hnd
      rw [List.nodup_cons] at hnd
      obtain ⟨i1, i2⟩ := ih hnd.2
      refine ⟨fun h => ?_, fun h => ?_⟩
      · simp only [List.countP_cons]
        by_cases ha : j = a
        · subst ha
          have h1 : (LR.setIfInBounds j true).getD j false = true := by simp [Array.getD, hsz, hj]
          rw [i2 hnd.1, h1, hu]
          simp
        · have h2 : j ∈ l := by
            rcases List.mem_cons.1 h with h | h
            · exact absurd h ha
            · exact h
          rw [getD_set_ne false ha, ← i1 h2]
          omega
      · simp only [List.mem_cons, not_or] at h
        simp only [List.countP_cons]
        rw [getD_set_ne false h.1, i2 h.2]
  exact (this _ List.nodup_range).1 (by simpa using hj)
theorem left_zero (hsz : LR.size = ops.size) (h : left ops LR = 0) : ∀ j, j < ops.size → LR.getD j false = true := fun j hj => by
  unfold left at h
  rw [List.countP_eq_zero] at h
  simpa using h j (by simpa using hj)
theorem ready_nil (hsz : LR.size = ops.size) (h : ∀ j, j < ops.size → LR.getD j false = true) : Region.ready .any ops LR = [] := by
  cases hr : Region.ready .any ops LR with
  | nil => rfl
  | cons j js =>
    have hj : j ∈ Region.ready .any ops LR := by rw [hr]; simp
    obtain ⟨h1, o, ho, _⟩ := mem_ready.1 hj
    have hlt := size_of_get ho
    have := h j hlt
    rw [(getD_flip (by rw [hsz]; exact hlt)).1 h1] at this
    cases this
theorem exec_wp (hw : WfR ops Z) (inv : Inv cx ops Z W0 w0 LA LR s l W) {j : Nat} {o : Oper} {Q : Exit → Act → World → Prop} {K : Act → World → Prop} (hj : j ∈ Region.ready .any ops LR) (hp : Pend LA LR j) (ho : ops[j]? = some o) (hk : ∀ l' W', Inv cx ops Z W0 w0 LA (LR.setIfInBounds j true) s l' W' → K (actOf l') W') : wpOp cx.P ops Q j K (actOf l) W := by
  unfold wpOp
  rw [ho]
  simp only
  rcases exec_pend hw inv hj hp ho with ⟨h1, h2⟩ | ⟨h1, h2⟩
  · rw [if_neg (by rw [h1]; exact Bool.false_ne_true), put_act]
    exact hk _ _ h2
  · rw [if_pos h1]
    exact .inl (h2 K Q fun v W' h => by rw [put_act]; exact hk _ _ h)
theorem draw_sound (hw : WfR ops (fun _ => false)) (hpo : preOk ops = true) {K : St → Prop} {Q : Exit → Act → World → Prop} (hk : ∀ s l W, SRel W0 w0 s l W → K s → Q .normal (actOf l) W) :
    ∀ (m n : Nat) (LA LR : Array Bool) (s : St) (l : Fr) (W : World), Inv cx ops (fun _ => false) W0 w0 LA LR s l W → Calm cx ops 0 LA LR s → left ops LR ≤ m → aDraw cx ops K n LA s → wpAny cx.P .any ops Q m LR (actOf l) W := by
  intro m
  induction m with
  | zero =>
    intro n LA LR s l W inv calm hl h
    have hall := left_zero inv.szR (Nat.le_zero.1 hl)
    have hrA := ready_nil inv.szA fun j hj => inv.sub j (hall j hj)
    have none : ∀ p, ¬ Pend LA LR p := fun p hp => by
      have := hall p (by have := pend_lt hp.1; have := inv.szA; omega)
      rw [hp.2] at this; cases this
    refine ⟨ready_nil inv.szR hall, ?_⟩
    have hK : K s := by cases n <;> (unfold aDraw at h; rw [hrA] at h; exact h)
    obtain ⟨E, hm, hf⟩ := inv.rel
    exact hk s l W ⟨E, hm.congrX fun i _ => ⟨fun ⟨p, op, h, _⟩ => none p h, fun h => h.elim⟩, hf.1, fun t _ => hf.2 t fun ⟨q, oq, h, _⟩ => none q h⟩ hK
  | succ m ihm =>
    intro n
    induction n with
    | zero =>
      intro LA LR s l W inv calm hl h
      have h' := h
      unfold aDraw at h
      split at h <;> first | exact h.elim | skip
      rename_i hrA
      have hallA := all_listed hw inv.szA hrA
      refine ⟨fun hrR => ?_, fun j hj => ?_⟩
      · have hall := all_listed hw inv.szR hrR
        have none : ∀ p, ¬ Pend LA LR p := fun p hp => by
          have := hall p (by have := pend_lt hp.1; have := inv.szA; omega)
          rw [hp.2] at this; cases this
        obtain ⟨E, hm, hf⟩ := inv.rel
        exact hk s l W ⟨E, hm.congrX fun i _ => ⟨fun ⟨p, op, h, _⟩ => none p h, fun h => h.elim⟩, hf.1, fun t _ => hf.2 t fun ⟨q, oq, h, _⟩ => none q h⟩ h
      · obtain ⟨hu, o, ho, _⟩ := mem_ready.1 hj
        have hlt := size_of_get ho
        have hu' : LR.getD j false = false := (getD_flip (by rw [inv.szR]; exact hlt)).1 hu
        have hp : Pend LA LR j := ⟨hallA j hlt, hu'⟩
        exact exec_wp hw inv hj hp ho fun l' W' inv' => ihm 0 LA _ s l' W' inv' (fun p op q oq h1 h2 h3 h4 => calm p op q oq (pend_done h1).1 h2 h3 h4) (by have := left_set hlt inv.szR hu'; omega) h'
    | succ n ihn =>
      intro LA LR s l W inv calm hl h
      have h' := h
      have pend : ∀ j ∈ Region.ready .any ops LR, LA.getD j false = true → wpOp cx.P ops Q j (wpAny cx.P .any ops Q m (LR.setIfInBounds j true)) (actOf l) W := fun j hj hA => by
        obtain ⟨hu, o, ho, _⟩ := mem_ready.1 hj
        have hlt := size_of_get ho
        have hu' : LR.getD j false = false := (getD_flip (by rw [inv.szR]; exact hlt)).1 hu
        exact exec_wp hw inv hj ⟨hA, hu'⟩ ho fun l' W' inv' => ihm (n + 1) LA _ s l' W' inv' (fun p op q oq h1 h2 h3 h4 => calm p op q oq (pend_done h1).1 h2 h3 h4) (by have := left_set hlt inv.szR hu'; omega) h'
      unfold aDraw at h
      split at h
      · rename_i hrA
        have hallA := all_listed hw inv.szA hrA
        refine ⟨fun hrR => ?_, fun j hj => pend j hj (hallA j (by obtain ⟨_, o, ho, _⟩ := mem_ready.1 hj; exact size_of_get ho))⟩
        have hall := all_listed hw inv.szR hrR
        have none : ∀ p, ¬ Pend LA LR p := fun p hp => by
          have := hall p (by have := pend_lt hp.1; have := inv.szA; omega)
          rw [hp.2] at this; cases this
        obtain ⟨E, hm, hf⟩ := inv.rel
        exact hk s l W ⟨E, hm.congrX fun i _ => ⟨fun ⟨p, op, h, _⟩ => none p h, fun h => h.elim⟩, hf.1, fun t _ => hf.2 t fun ⟨q, oq, h, _⟩ => none q h⟩ h
      · rename_i r rs hr
        split at h
        · rename_i i hi
          split at h <;> first | exact h.elim | skip
          rename_i o ho
          have hmem : i ∈ Region.ready .any ops LA := by rw [hr]; exact List.mem_of_find?_eq_some hi
          have htk : takeOk cx ops LA i s = true := List.find?_some (p := fun i => takeOk cx ops LA i s) hi
          unfold takeOk at htk
          rw [ho] at htk
          simp only [Bool.and_eq_true] at htk
          obtain ⟨s', hs', inv', hrd⟩ := take_step hw inv rfl hmem ho htk.1 h
          refine ihn _ LR s' l W inv' (fun p op q oq hp hop hq hu => ?_) hl hs'
          have huq : LA.getD q true = false ∧ q ≠ i := by
            refine ⟨?_, fun e => ?_⟩
            · cases hq' : LA.getD q true with
              | false => rfl
              | true =>
                by_cases hqi : i = q
                · subst hqi
                  rw [(mem_ready.1 hmem).1] at hq'; cases hq'
                · rw [getD_set_ne true hqi, hq'] at hu; cases hu
            · subst e
              have hlt : q < LA.size := by rw [inv.szA]; exact size_of_get ho
              simp [Array.getD, hlt] at hu
          by_cases hpi : p = i
          · subst hpi
            rw [hrd p op hop (.inl rfl)]
            rw [ho] at hop
            injection hop with hop
            subst hop
            have := List.all_eq_true.1 htk.2 q (by simpa using size_of_get hq)
            rw [hq] at this
            simp only [Bool.or_eq_true, beq_iff_eq, huq.2, huq.1, false_or, Bool.false_eq_true, Bool.not_eq_true'] at this
            rcases this with (h | h) | h
            · exact .inl h
            · exact .inr (.inl (pre_bef hpo (q + 1) q (Nat.lt_succ_self q) (size_of_get hq) (size_of_get ho) h))
            · exact .inr (.inr (by rw [wrM_0]; exact h))
          · have hp' := pend_take hp hpi
            rw [hrd p op hop (.inr hp')]
            exact calm p op q oq hp' hop hq huq.1
        · refine ⟨fun hrR => ?_, fun j hj => ?_⟩
          · have hall := all_listed hw inv.szR hrR
            have := ready_nil inv.szA fun j hj => inv.sub j (hall j hj)
            rw [hr] at this; cases this
          · cases hA : LA.getD j false with
            | true => exact pend j hj hA
            | false =>
              obtain ⟨hu, o, ho, hall⟩ := mem_ready.1 hj
              have hlt := size_of_get ho
              have hu' : LR.getD j false = false := (getD_flip (by rw [inv.szR]; exact hlt)).1 hu
              have hjL : j ∈ Region.ready .any ops LA := mem_ready.2 ⟨(getD_flip (by rw [inv.szA]; exact hlt)).2 hA, o, ho, fun e he hb => inv.sub _ (hall e he hb)⟩
              have hjL' := hjL
              rw [hr] at hjL'
              have h := eachOf_mem h j hjL'
              rw [ho] at h
              simp only at h
              have hleft : left ops (LR.setIfInBounds j true) ≤ m := by have := left_set hlt inv.szR hu'; omega
              unfold anyG at h
              split at h
              · rename_i hp
                obtain ⟨s', hs', inv', hrd⟩ := take_step hw inv rfl hjL ho hp h
                refine exec_wp hw inv' hj ⟨by simp [Array.getD, show j < LA.size by rw [inv.szA]; exact hlt], hu'⟩ ho fun l' W' inv'' => ihm n _ _ s' l' W' inv'' (calm_more calm hA (by rw [inv.szR]; exact hlt) fun p op hp hop => hrd p op hop (.inr hp)) hleft hs'
              · rename_i hp
                unfold wpOp
                rw [ho]
                simp only
                rcases eff_step hw inv calm rfl hj hA ho hp (fun ht => by rw [tb0] at ht; cases ht) (fun ht => by rw [tb0] at ht; cases ht) h with ⟨h1, s', h2, h3, h4⟩ | ⟨h1, h2⟩
                · rw [if_neg (by rw [h1]; exact Bool.false_ne_true), put_act]
                  exact ihm n _ _ s' _ W h3 h4 hleft h2
                · rw [if_pos h1]
                  exact .inl (h2 _ Q fun v W' ⟨s', g2, g3, g4⟩ => by rw [put_act]; exact ihm n _ _ s' _ W' g3 g4 hleft g2)
end
end Go.Ga
set_option linter.unusedSimpArgs false
set_option linter.unusedVariables false
namespace Go.Ga
open Go Go.Gp
theorem tbit_eq (m i : Nat) : tbit m i = m.testBit i := by
  unfold tbit Nat.testBit
  show Nat.beq ((m >>> i) &&& 1) 1 = _
  rw [Nat.and_comm]
  rcases Nat.mod_two_eq_zero_or_one (m >>> i) with h | h
  · rw [Nat.one_and_eq_mod_two, h]; rfl
  · rw [Nat.one_and_eq_mod_two, h]; rfl
theorem tbit_lor (a b i : Nat) : tbit (Nat.lor a b) i = (tbit a i || tbit b i) := by
  rw [tbit_eq, tbit_eq, tbit_eq]; exact Nat.testBit_or a b i
theorem tbit_land (a b i : Nat) : tbit (Nat.land a b) i = (tbit a i && tbit b i) := by
  rw [tbit_eq, tbit_eq, tbit_eq]; exact Nat.testBit_and a b i
theorem tbit_pow (n i : Nat) : tbit (Nat.pow 2 n) i = decide (n = i) := by
  rw [tbit_eq]
  show (2 ^ n).testBit i = _
  rw [Nat.testBit_two_pow]
theorem tbit_zero (i : Nat) : tbit 0 i = false := by rw [tbit_eq]; exact Nat.zero_testBit i
theorem beq_true {a b : Nat} (h : Nat.beq a b = true) : a = b := Nat.eq_of_beq_eq_true h
theorem land_none {a b : Nat} (h : Nat.beq (Nat.land a b) 0 = true) {i : Nat} (h1 : tbit a i = true) (h2 : tbit b i = true) : False := by
  have := tbit_land a b i
  rw [beq_true h, tbit_zero, h1, h2] at this
  cases this
theorem land_sub {a b : Nat} (h : Nat.beq (Nat.land a b) a = true) {i : Nat} (h1 : tbit a i = true) : tbit b i = true := by
  have := tbit_land a b i
  rw [beq_true h, h1] at this
  simpa using this.symm
theorem land_sub' {a b : Nat} (h : Nat.beq (Nat.land a b) b = true) {i : Nat} (h1 : tbit b i = true) : tbit a i = true := by
  have := tbit_land a b i
  rw [beq_true h, h1] at this
  simpa using this.symm
theorem emask_bit : ∀ (l : List Edge) (m i : Nat), tbit (emaskL l m) i = true ↔ tbit m i = true ∨ ∃ e ∈ l, Region.binds .any e = true ∧ e.on = i
  | [], m, i => by simp [emaskL]
  | e :: r, m, i => by
    unfold emaskL
    split
    · rename_i hb
      rw [emask_bit r, tbit_lor, tbit_pow]
      simp only [Bool.or_eq_true, decide_eq_true_eq, List.mem_cons, exists_eq_or_imp, hb, true_and, or_assoc]
    · rename_i hb
      rw [emask_bit r]
      simp only [List.mem_cons, exists_eq_or_imp, hb, Bool.false_eq_true, false_and, false_or]
theorem lmask_bit : ∀ (l : List Tmp) (m i : Nat), tbit (lmaskL l m) i = true ↔ tbit m i = true ∨ i ∈ l
  | [], m, i => by simp [lmaskL]
  | t :: r, m, i => by
    unfold lmaskL
    rw [lmask_bit r, tbit_lor, tbit_pow]
    simp only [Bool.or_eq_true, decide_eq_true_eq, List.mem_cons, or_assoc, eq_comm (a := t)]
theorem dmask_bit (o : Oper) (i : Nat) : tbit (dmask o) i = true ↔ o.dst = some i := by
  unfold dmask
  split
  · rename_i d hd
    rw [tbit_pow]; simp [hd]
  · rename_i hd
    rw [tbit_zero]; simp [hd]
structure EntP (cx : Cx) (ops : Array Oper) (o : Oper) (t : Ent) : Prop where
  em : ∀ i, tbit t.em i = true ↔ ∃ e ∈ o.after, Region.binds .any e = true ∧ e.on = i
  ef : isP cx o = !t.ef
  lk : ∀ i, tbit t.lk i = true ↔ i ∈ o.looksAt ops
  ds : ∀ i, tbit t.ds i = true ↔ o.dst = some i
theorem ent_of {cx : Cx} {ops : Array Oper} {o : Oper} {t : Ent} (h : entOk cx ops o t = true) : EntP cx ops o t := by
  unfold entOk at h
  simp only [Bool.and_eq_true] at h
  obtain ⟨⟨⟨h1, h2⟩, h3⟩, h4⟩ := h
  refine ⟨fun i => ?_, ?_, fun i => ?_, fun i => ?_⟩
  · rw [← beq_true h1, emask_bit, tbit_zero]; simp
  · split at h2 <;> simp_all
  · rw [← beq_true h3, lmask_bit, tbit_zero]; simp
  · rw [← beq_true h4, dmask_bit]
theorem nthE_get : ∀ (l : List Ent) (i : Nat), nthE l i = l[i]?
  | [], _ => rfl
  | _ :: _, 0 => rfl
  | _ :: r, n + 1 => by simp only [nthE, nthE_get r n, List.getElem?_cons_succ]
theorem tab_of {cx : Cx} {ops : Array Oper} : ∀ {os : List Oper} {tb : List Ent}, tabOk cx ops os tb = true → os.length = tb.length ∧ ∀ (i : Nat) o t, os[i]? = some o → tb[i]? = some t → EntP cx ops o t
  | [], [], _ => ⟨rfl, fun i o t h => by simp at h⟩
  | [], _ :: _, h => by cases h
  | _ :: _, [], h => by cases h
  | o :: r, t :: ts, h => by
    have h : (entOk cx ops o t && tabOk cx ops r ts) = true := h
    rw [Bool.and_eq_true] at h
    obtain ⟨h1, h2⟩ := tab_of h.2
    refine ⟨by simp [h1], fun i o' t' ho ht => ?_⟩
    cases i with
    | zero => simp at ho ht; subst ho ht; exact ent_of h.1
    | succ i => exact h2 i o' t' (by simpa using ho) (by simpa using ht)
section
variable {cx : Cx} {ops : Array Oper} {tb : List Ent}
structure TabP (cx : Cx) (ops : Array Oper) (tb : List Ent) : Prop where
  len : ops.size = tb.length
  ent : ∀ (i : Nat) o t, ops[i]? = some o → tb[i]? = some t → EntP cx ops o t
theorem tabP_of (h : tabOk cx ops ops.toList tb = true) : TabP cx ops tb := by
  obtain ⟨h1, h2⟩ := tab_of h
  exact ⟨by simpa using h1, fun i o t ho ht => h2 i o t (by simpa using ho) ht⟩
theorem TabP.get (h : TabP cx ops tb) {i : Nat} {o : Oper} (ho : ops[i]? = some o) : ∃ t, tb[i]? = some t ∧ EntP cx ops o t := by
  have hlt := size_of_get ho
  have ht : tb[i]? = some (tb[i]'(by rw [← h.len]; exact hlt)) := List.getElem?_eq_getElem _
  exact ⟨_, ht, h.ent i o _ ho ht⟩
theorem TabP.op (h : TabP cx ops tb) {i : Nat} {t : Ent} (ht : tb[i]? = some t) : ∃ o, ops[i]? = some o ∧ EntP cx ops o t := by
  have hlt := (List.getElem?_eq_some_iff.1 ht).1
  have ho : ops[i]? = some (ops[i]'(by rw [h.len]; exact hlt)) := Array.getElem?_eq_getElem _
  exact ⟨_, ho, h.ent i _ t ho ht⟩
theorem look_of {zm : Nat} {t : Ent} {i : Nat} : ∀ {l : List Ent} {j0 : Nat}, lookL zm t i l j0 = true → ∀ (k : Nat) u, l[k]? = some u → i ≠ j0 + k → tbit zm (j0 + k) = false → tbit t.em (j0 + k) = true ∨ ∀ d, tbit u.ds d = true → tbit t.lk d = false ∧ tbit t.ds d = false
  | [], _, _, k, u, hu, _, _ => by simp at hu
  | v :: r, j0, h, k, u, hu, hne, hz => by
    unfold lookL at h
    rw [Bool.and_eq_true] at h
    cases k with
    | zero =>
      simp at hu
      subst hu
      simp only [Bool.or_eq_true] at h
      rcases h.1 with ((h1 | h1) | h1) | h1
      · exact absurd (beq_true h1) hne
      · rw [Nat.add_zero] at hz; rw [h1] at hz; cases hz
      · exact .inl h1
      · refine .inr fun d hd => ?_
        constructor
        · cases hl : tbit t.lk d with
          | false => rfl
          | true => exact (land_none h1 (i := d) (by rw [tbit_lor, hl]; rfl) hd).elim
        · cases hl : tbit t.ds d with
          | false => rfl
          | true => exact (land_none h1 (i := d) (by rw [tbit_lor, hl]; simp) hd).elim
    | succ k =>
      have := look_of h.2 k u (by simpa using hu) (by omega) (by rw [show j0 + 1 + k = j0 + (k + 1) from by omega]; exact hz)
      rwa [show j0 + 1 + k = j0 + (k + 1) from by omega] at this
theorem wfT_of {zm : Nat} {all : List Ent} : ∀ {l : List Ent} {i0 : Nat}, wfT zm all l i0 = true → ∀ (k : Nat) t, l[k]? = some t → t.em < 2 ^ (i0 + k) ∧ (∀ d, tbit t.lk d = true → tbit t.ds d = true → False) ∧ lookL zm t (i0 + k) all 0 = true
  | [], _, _, k, t, ht => by simp at ht
  | u :: r, i0, h, k, t, ht => by
    unfold wfT at h
    simp only [Bool.and_eq_true] at h
    obtain ⟨⟨⟨h1, h2⟩, h3⟩, h4⟩ := h
    cases k with
    | zero =>
      simp at ht
      subst ht
      refine ⟨?_, fun d a b => land_none h2 a b, h3⟩
      have : u.em < Nat.pow 2 i0 := blt_iff.1 h1
      exact this
    | succ k =>
      have := wfT_of h4 k t (by simpa using ht)
      rwa [show i0 + 1 + k = i0 + (k + 1) from by omega] at this
theorem lt_of_bit {m n i : Nat} (h : m < 2 ^ n) (hb : tbit m i = true) : i < n := by
  rw [tbit_eq] at hb
  rcases Nat.lt_or_ge i n with h1 | h1
  · exact h1
  · have := Nat.testBit_lt_two_pow (Nat.lt_of_lt_of_le h (Nat.pow_le_pow_right (by omega) h1))
    rw [hb] at this; cases this
theorem wfr_tab {zm : Nat} (ht : TabP cx ops tb) (h : wfT zm tb tb 0 = true) : WfR ops (tbit zm) := by
  refine ⟨fun i oi hi e he hb => ?_, fun i oi hi d hd hl => ?_, fun i j oi oj hi hj hne hz => ?_⟩
  · obtain ⟨t, h1, h2⟩ := ht.get hi
    obtain ⟨h3, _, _⟩ := wfT_of h i t h1
    rw [Nat.zero_add] at h3
    exact lt_of_bit h3 ((h2.em e.on).2 ⟨e, he, hb, rfl⟩)
  · obtain ⟨t, h1, h2⟩ := ht.get hi
    obtain ⟨_, h3, _⟩ := wfT_of h i t h1
    exact h3 d ((h2.lk d).2 hl) ((h2.ds d).2 hd)
  · obtain ⟨t, h1, h2⟩ := ht.get hi
    obtain ⟨u, h3, h4⟩ := ht.get hj
    obtain ⟨_, _, h5⟩ := wfT_of h i t h1
    rw [Nat.zero_add] at h5
    have := look_of h5 j u h3 (by omega) (by rw [Nat.zero_add]; exact hz)
    rw [Nat.zero_add] at this
    rcases this with h6 | h6
    · exact .inl ((h2.em j).1 h6)
    · refine .inr fun d hd => ?_
      obtain ⟨h7, h8⟩ := h6 d ((h4.ds d).2 hd)
      refine ⟨fun hm => ?_, fun hm => ?_⟩
      · rw [(h2.lk d).2 hm] at h7; cases h7
      · rw [(h2.ds d).2 hm] at h8; cases h8
theorem anc_bit {em : Nat} : ∀ {l : List Ent} {i0 m k : Nat}, tbit (ancL em l i0 m) k = true → tbit m k = true ∨ ∃ (j : Nat) (t : Ent), l[j]? = some t ∧ tbit em (i0 + j) = true ∧ (k = i0 + j ∨ tbit t.an k = true)
  | [], _, m, k, h => .inl h
  | t :: r, i0, m, k, h => by
    have sh : (∃ (j : Nat) (t : Ent), r[j]? = some t ∧ tbit em (i0 + 1 + j) = true ∧ (k = i0 + 1 + j ∨ tbit t.an k = true)) → ∃ (j : Nat) (t' : Ent), (t :: r)[j]? = some t' ∧ tbit em (i0 + j) = true ∧ (k = i0 + j ∨ tbit t'.an k = true) := fun ⟨j, u, h1, h2, h3⟩ =>
      ⟨j + 1, u, by simpa using h1, by rw [show i0 + (j + 1) = i0 + 1 + j from by omega]; exact h2, by rw [show i0 + (j + 1) = i0 + 1 + j from by omega]; exact h3⟩
    unfold ancL at h
    split at h
    · rename_i hb
      rcases anc_bit h with h1 | h1
      · rw [tbit_lor, tbit_lor, tbit_pow] at h1
        simp only [Bool.or_eq_true, decide_eq_true_eq] at h1
        rcases h1 with h1 | h1 | h1
        · exact .inl h1
        · exact .inr ⟨0, t, rfl, hb, .inl h1.symm⟩
        · exact .inr ⟨0, t, rfl, hb, .inr h1⟩
      · exact .inr (sh h1)
    · rcases anc_bit h with h1 | h1
      · exact .inl h1
      · exact .inr (sh h1)
theorem ancOk_of {all : List Ent} : ∀ {l : List Ent}, ancOk all l = true → ∀ t ∈ l, ∀ k, tbit t.an k = true → tbit (ancL t.em all 0 0) k = true
  | [], _, t, ht => by simp at ht
  | u :: r, h, t, ht => by
    unfold ancOk at h
    rw [Bool.and_eq_true] at h
    rcases List.mem_cons.1 ht with rfl | ht
    · intro k hk
      have h1 := h.1
      split at h1
      · rename_i h0; rw [h0, tbit_zero] at hk; cases hk
      · rename_i n hn; exact land_sub' h1 hk
    · exact ancOk_of h.2 t ht
theorem bef_tab {zm : Nat} (ht : TabP cx ops tb) (hw : wfT zm tb tb 0 = true) (ha : ancOk tb tb = true) : ∀ (n j : Nat) {t : Ent} {k : Nat}, j < n → tb[j]? = some t → tbit t.an k = true → Bef ops j k
  | 0, _, _, _, h, _, _ => absurd h (Nat.not_lt_zero _)
  | n + 1, j, t, k, hj, h, hk => by
    have h1 := ancOk_of ha t (List.mem_of_getElem? h) k hk
    rcases anc_bit h1 with h2 | ⟨q, u, h2, h3, h4⟩
    · rw [tbit_zero] at h2; cases h2
    · rw [Nat.zero_add] at h3 h4
      obtain ⟨o, ho, he⟩ := ht.op h
      obtain ⟨e, hme, hb, heq⟩ := (he.em q).1 h3
      rcases h4 with rfl | h4
      · rw [← heq]; exact .one ho hme hb
      · refine .more ho hme hb ?_
        rw [heq]
        have hlt := (wfT_of hw j t h).1
        rw [Nat.zero_add] at hlt
        have := lt_of_bit hlt h3
        exact bef_tab ht hw ha n q (by omega) h2 h4
theorem others_of {i : Nat} {es : List Nat} {done : Nat} : ∀ {l : List Ent} {j0 : Nat}, othersOk i es done l j0 = true → ∀ (k : Nat) t, l[k]? = some t → t.ef = false ∨ tbit done (j0 + k) = true ∨ tbit t.an i = true ∨ inLN (j0 + k) es = true
  | [], _, _, k, t, ht => by simp at ht
  | u :: r, j0, h, k, t, ht => by
    unfold othersOk at h
    rw [Bool.and_eq_true] at h
    cases k with
    | zero =>
      simp at ht
      subst ht
      have h1 := h.1
      split at h1
      · rename_i h2; exact .inl h2
      · simp only [Bool.or_eq_true] at h1
        rcases h1 with (h1 | h1) | h1
        · exact .inr (.inl h1)
        · exact .inr (.inr (.inl h1))
        · exact .inr (.inr (.inr h1))
    | succ k =>
      have := others_of h.2 k t (by simpa using ht)
      rwa [show j0 + 1 + k = j0 + (k + 1) from by omega] at this
theorem alone_of {i done : Nat} : ∀ {l : List Ent} {j0 : Nat}, aloneOk i done l j0 = true → ∀ (k : Nat) t, l[k]? = some t → i = j0 + k ∨ tbit done (j0 + k) = true ∨ ∃ q, tbit t.em q = true ∧ tbit done q = false
  | [], _, _, k, t, ht => by simp at ht
  | u :: r, j0, h, k, t, ht => by
    unfold aloneOk at h
    rw [Bool.and_eq_true] at h
    cases k with
    | zero =>
      simp at ht
      subst ht
      simp only [Bool.or_eq_true] at h
      rcases h.1 with (h1 | h1) | h1
      · exact .inl (beq_true h1)
      · exact .inr (.inl h1)
      · refine .inr (.inr ?_)
        by_cases hc : ∃ q, tbit u.em q = true ∧ tbit done q = false
        · exact hc
        · exfalso
          have : Nat.land u.em done = u.em := by
            refine Nat.eq_of_testBit_eq fun q => ?_
            rw [← tbit_eq, ← tbit_eq, tbit_land]
            cases h2 : tbit u.em q with
            | false => rfl
            | true =>
              cases h3 : tbit done q with
              | true => rfl
              | false => exact absurd ⟨q, h2, h3⟩ hc
          rw [this] at h1
          simp at h1
    | succ k =>
      have := alone_of h.2 k t (by simpa using ht)
      rwa [show j0 + 1 + k = j0 + (k + 1) from by omega] at this
theorem apart_of {t : Ent} {done : Nat} : ∀ {l : List Ent} {j0 : Nat}, apartOk t done l j0 = true → ∀ (k : Nat) u, l[k]? = some u → tbit done (j0 + k) = false ∨ tbit t.em (j0 + k) = true ∨ ∀ d, tbit t.ds d = true → tbit u.lk d = false ∧ tbit u.ds d = false
  | [], _, _, k, u, hu => by simp at hu
  | v :: r, j0, h, k, u, hu => by
    unfold apartOk at h
    rw [Bool.and_eq_true] at h
    cases k with
    | zero =>
      simp at hu
      subst hu
      simp only [Bool.or_eq_true, Bool.not_eq_true'] at h
      rcases h.1 with (h1 | h1) | h1
      · exact .inl h1
      · exact .inr (.inl h1)
      · refine .inr (.inr fun d hd => ⟨?_, ?_⟩)
        · cases hl : tbit v.lk d with
          | false => rfl
          | true => exact (land_none h1 (i := d) (by rw [tbit_lor, hl]; rfl) hd).elim
        · cases hl : tbit v.ds d with
          | false => rfl
          | true => exact (land_none h1 (i := d) (by rw [tbit_lor, hl]; simp) hd).elim
    | succ k =>
      have := apart_of h.2 k u (by simpa using hu)
      rwa [show j0 + 1 + k = j0 + (k + 1) from by omega] at this
theorem inLN_mem {n : Nat} : ∀ {l : List Nat}, inLN n l = true → n ∈ l
  | [], h => by cases h
  | m :: r, h => by
    unfold inLN at h
    rw [Bool.or_eq_true] at h
    rcases h with h | h
    · rw [beq_true h]; simp
    · exact List.mem_cons_of_mem _ (inLN_mem h)
def OrdP (cx : Cx) (ops : Array Oper) (Z : Nat → Bool) : List Stp → Array Bool → Prop
  | [], LA => ∀ j, j < ops.size → LA.getD j false = true
  | p :: r, LA => (∃ o, ops[p.i]? = some o ∧ (p.k = 0 → isP cx o = true) ∧ (p.k = 1 → isP cx o = false) ∧ (1 < p.k → ∀ q oq, ops[q]? = some oq → LA.getD q false = true → (∃ e ∈ o.after, Region.binds .any e = true ∧ e.on = q) ∨ ∀ d, o.dst = some d → d ∉ oq.looksAt ops ∧ oq.dst ≠ some d)) ∧ p.i ∈ Region.ready .any ops LA ∧ (p.k < 2 → Z p.i = false) ∧
      (p.k = 0 → ∀ j oj, ops[j]? = some oj → LA.getD j true = false → j ≠ p.i → isP cx oj = true ∨ Bef ops j p.i ∨ j ∈ p.es) ∧
      (0 < p.k → ∀ j ∈ Region.ready .any ops LA, j = p.i) ∧ OrdP cx ops Z r (LA.setIfInBounds p.i true)
theorem pow_full {n d : Nat} (h : d + 1 = 2 ^ n) {j : Nat} (hj : j < n) : tbit d j = true := by
  rw [tbit_eq, show d = 2 ^ n - 1 from by omega, Nat.testBit_two_pow_sub_one]
  simpa using hj
theorem ordP_of {zm : Nat} (ht : TabP cx ops tb) (hw : wfT zm tb tb 0 = true) (ha : ancOk tb tb = true) : ∀ (l : List Stp) (done : Nat) (LA : Array Bool), LA.size = ops.size → (∀ j, j < ops.size → (tbit done j = true ↔ LA.getD j false = true)) → ordOk zm tb l done = true → OrdP cx ops (tbit zm) l LA
  | [], done, LA, hs, hd, h => fun j hj => by
    unfold ordOk at h
    exact (hd j hj).1 (pow_full (beq_true h) (by rw [← ht.len]; exact hj))
  | ⟨pi, pk, pes⟩ :: r, done, LA, hs, hd, h => by
    unfold ordOk at h
    split at h <;> first | (cases h; done) | skip
    rename_i t hn
    rw [nthE_get] at hn
    simp only [Bool.and_eq_true, Bool.not_eq_true'] at h
    obtain ⟨⟨⟨h1, h2⟩, h3⟩, h4⟩ := h
    obtain ⟨o, ho, he⟩ := ht.op hn
    have hlt := size_of_get ho
    have hf : LA.getD pi false = false := by
      cases hc : LA.getD pi false with
      | false => rfl
      | true => rw [(hd _ hlt).2 hc] at h1; cases h1
    have hready : pi ∈ Region.ready .any ops LA := mem_ready.2 ⟨(getD_flip (by rw [hs]; exact hlt)).2 hf, o, ho, fun e hme hb => by
      have h5 := (he.em e.on).2 ⟨e, hme, hb, rfl⟩
      have h6 := (wfT_of hw _ t hn).1
      rw [Nat.zero_add] at h6
      have h7 := lt_of_bit h6 h5
      exact (hd _ (by omega)).1 (land_sub h2 h5)⟩
    have alone : aloneOk pi done tb 0 = true → ∀ j ∈ Region.ready .any ops LA, j = pi := fun h3 j hj => by
      obtain ⟨hu, oj, hoj, hall⟩ := mem_ready.1 hj
      obtain ⟨u, hu1, hu2⟩ := ht.get hoj
      have := alone_of h3 j u hu1
      rw [Nat.zero_add] at this
      have hjs := size_of_get hoj
      rcases this with h5 | h5 | ⟨q, h5, h6⟩
      · exact h5.symm
      · have := (hd j hjs).1 h5
        rw [(getD_flip (by rw [hs]; exact hjs)).1 hu] at this; cases this
      · obtain ⟨e, hme, hb, heq⟩ := (hu2.em q).1 h5
        have h7 := hall e hme hb
        have h8 := (wfT_of hw _ u hu1).1
        rw [Nat.zero_add] at h8
        have h9 := lt_of_bit h8 h5
        rw [heq] at h7
        rw [(hd q (by omega)).2 h7] at h6; cases h6
    have rest := ordP_of ht hw ha r (Nat.lor done (Nat.pow 2 pi)) (LA.setIfInBounds pi true) (by simpa using hs) (fun j hj => by
      rw [tbit_lor, tbit_pow]
      by_cases hji : pi = j
      · subst hji
        simp [Array.getD, hs, hlt]
      · rw [getD_set_ne false hji, ← hd j hj]; simp [hji]) h4
    split at h3 <;> first | (cases h3; done) | skip
    · rename_i e1
      simp only [Bool.and_eq_true, Bool.not_eq_true'] at h3
      refine ⟨⟨o, ho, fun _ => (by rw [he.ef, e1]; rfl), fun h => (by cases h), fun h => (by simp at h)⟩, hready, fun _ => h3.1, fun _ j oj hj hu hne => ?_, fun h => (by simp at h), rest⟩
      obtain ⟨u, hu1, hu2⟩ := ht.get hj
      have := others_of h3.2 j u hu1
      rw [Nat.zero_add] at this
      rcases this with h5 | h5 | h5 | h5
      · exact .inl (by rw [hu2.ef, h5]; rfl)
      · have hjs := size_of_get hj
        have := (hd j hjs).1 h5
        rw [(getD_flip (by rw [hs]; exact hjs)).1 hu] at this; cases this
      · exact .inr (.inl (bef_tab ht hw ha (j + 1) j (Nat.lt_succ_self j) hu1 h5))
      · exact .inr (.inr (inLN_mem h5))
    · rename_i e1
      simp only [Bool.and_eq_true, Bool.not_eq_true'] at h3
      exact ⟨⟨o, ho, fun h => (by cases h), fun _ => (by rw [he.ef, e1]; rfl), fun h => (by simp at h)⟩, hready, fun _ => h3.1, fun h => (by cases h), fun _ => alone h3.2, rest⟩
    · simp only [Bool.and_eq_true] at h3
      refine ⟨⟨o, ho, fun h => (by cases h), fun h => (by cases h), fun _ q oq hq hl => ?_⟩, hready, fun h => (by simp at h), fun h => (by cases h), fun _ => alone h3.1, rest⟩
      have h5 := (hd q (size_of_get hq)).2 hl
      obtain ⟨u, hu1, hu2⟩ := ht.get hq
      have := apart_of h3.2 q u hu1
      rw [Nat.zero_add] at this
      rcases this with h6 | h6 | h6
      · rw [h5] at h6; cases h6
      · exact .inl ((he.em q).1 h6)
      · refine .inr fun d hdd => ?_
        obtain ⟨h7, h8⟩ := h6 d ((he.ds d).2 hdd)
        exact ⟨fun hm => (by rw [(hu2.lk d).2 hm] at h7; cases h7), fun hm => (by rw [(hu2.ds d).2 hm] at h8; cases h8)⟩
theorem clash_of {om : Nat} {rd : Rd} : ∀ {l : List Nat}, clashAny cx ops om rd l = false → ∀ j ∈ l, ∀ oj, ops[j]? = some oj → clash rd (wrM cx om j oj) = false
  | [], _, j, hj => by simp at hj
  | k :: r, h, j, hj => by
    unfold clashAny at h
    rw [Bool.or_eq_false_iff] at h
    rcases List.mem_cons.1 hj with rfl | hj
    · intro oj hoj
      have := h.1
      rw [hoj] at this
      exact this
    · exact clash_of h.2 j hj
end
section
variable {cx : Cx} {ops : Array Oper} {W0 : World} {w0 : Mk}
theorem mv_run {P : Program} {ρ : Operand → Value} {op : Op} (h : isMv op = true) (dst : Option Tmp) (type : TypeId) (pos : String) (after : Array Edge) (guard : Option (Nat × Bool)) : ∃ x, x ∈ op.operands ∧ (∀ (cx : Cx) (o : Oper) (r r0 : Operand → AV) (B : BL) (O : OL) (H : HP) (K : AV → BL → OL → Prop), o.op = op → aTake cx o r r0 B O H K → K (r x) B O) ∧ ∀ W, (execOp ρ ⟨dst, op, type, pos, after, guard⟩).run P W = .ok (.value (ρ x)) W := by
  cases op <;> simp only [isMv] at h <;> first | (cases h; done) | skip
  all_goals
    rename_i x
    refine ⟨x, by simp [Op.operands], fun cx o r r0 B O H K ho hk => ?_, fun W => rfl⟩
    unfold aTake at hk
    rw [ho] at hk
    simp only [isAl] at hk
    unfold aRead frzOf at hk
    rw [ho] at hk
    exact hk
theorem sync_step {om : Nat} {Z : Nat → Bool} {LA LR : Array Bool} {s : St} {l : Fr} {W : World} (hw : WfR ops Z) (inv : Inv cx ops Z W0 w0 LA LR s l W) (calm : Calm cx ops om LA LR s) {j : Nat} {o : Oper} {K' : St → Prop} (hj : j ∈ Region.ready .any ops LR) (hnA : LA.getD j false = false) (ho : ops[j]? = some o) (hmv : isMv o.op = true)
    (hlook : ∀ p op, Pend LA LR p → ops[p]? = some op → ∀ d, o.dst = some d → d ∉ op.looksAt ops ∧ op.dst ≠ some d) (h : takeG cx ops o s K') :
    (Region.wanted o (yielded ops (actOf l).tmps) = false ∧ ∃ s', K' s' ∧ Inv cx ops Z W0 w0 (LA.setIfInBounds j true) (LR.setIfInBounds j true) s' (putL l o.dst undef) W ∧ Calm cx ops om (LA.setIfInBounds j true) (LR.setIfInBounds j true) s') ∨
    (Region.wanted o (yielded ops (actOf l).tmps) = true ∧ Gets cx.P o (actOf l) W fun v W' => ∃ s', K' s' ∧ Inv cx ops Z W0 w0 (LA.setIfInBounds j true) (LR.setIfInBounds j true) s' (putL l o.dst v) W' ∧ Calm cx ops om (LA.setIfInBounds j true) (LR.setIfInBounds j true) s') := by
  obtain ⟨E, hm, hf⟩ := inv.rel
  obtain ⟨hev, hwant⟩ := ready_ev hw inv.nz hm hf hj ho
  have hjR : j < LR.size := by rw [inv.szR]; exact size_of_get ho
  have hjA : j < LA.size := by rw [inv.szA]; exact size_of_get ho
  have hall : ∀ e ∈ o.after, Region.binds .any e = true → LR.getD e.on false = true := by
    obtain ⟨_, o', ho', hall⟩ := mem_ready.1 hj
    rw [ho] at ho'
    injection ho' with ho'
    subst ho'
    exact hall
  have hjL : j ∈ Region.ready .any ops LA := mem_ready.2 ⟨(getD_flip hjA).2 hnA, o, ho, fun e he hb => inv.sub _ (hall e he hb)⟩
  have px : ∀ {a : AV} (q : Nat), PX ops (LA.setIfInBounds j true) (LR.setIfInBounds j true) (putA s.f o.dst a) q ↔ PX ops LA LR s.f q := fun {a} q => by
    constructor
    · rintro ⟨p, op, h1, h2, h3, h4, h5⟩
      have h1' := (pend_both hnA hjR).1 h1
      rw [want_keep fun d hd => (hlook p op h1' h2 d hd).1] at h5
      exact ⟨p, op, h1', h2, h3, h4, h5⟩
    · rintro ⟨p, op, h1, h2, h3, h4, h5⟩
      exact ⟨p, op, (pend_both hnA hjR).2 h1, h2, h3, h4, by rw [want_keep fun d hd => (hlook p op h1 h2 d hd).1]; exact h5⟩
  have fin : ∀ {a : AV} {v : Value}, VRep E W a v → Inv cx ops Z W0 w0 (LA.setIfInBounds j true) (LR.setIfInBounds j true) ⟨putA s.f o.dst a, s.B, s.O, s.H⟩ (putL l o.dst v) W ∧ Calm cx ops om (LA.setIfInBounds j true) (LR.setIfInBounds j true) ⟨putA s.f o.dst a, s.B, s.O, s.H⟩ := fun {a v} hv => by
    refine ⟨⟨by simpa using inv.szA, by simpa using inv.szR, fun q hq => ?_, closed_set inv.clA hjL, closed_set inv.clR hj, ⟨E, hm.congrX fun q _ => by rw [px], ?_⟩, fun p op hpp hop => ?_, fun p hpp => inv.nz p ((pend_both hnA hjR).1 hpp)⟩, calm_more calm hnA hjR fun p op hpp hop => rdOf_congr fun x hx => (ev_keep (s' := ⟨putA s.f o.dst a, s.B, s.O, s.H⟩) (fun d hd => (hlook p op hpp hop d hd).1) rfl (ClosedSame.refl _) x hx).1⟩
    · by_cases hqj : j = q
      · subst hqj; simp [Array.getD, hjA]
      · rw [getD_set_ne false hqj] at hq
        exact getD_set_true (inv.sub q hq)
    · exact hf.put hv fun t ht => .inl fun ⟨q, oq, h1, h2, h3⟩ => ht ⟨q, oq, (pend_both hnA hjR).2 h1, h2, h3⟩
    · have hpp' := (pend_both hnA hjR).1 hpp
      exact prom_keep (s' := ⟨putA s.f o.dst a, s.B, s.O, s.H⟩) (inv.prom p op hpp' hop) (hlook p op hpp' hop) rfl (ClosedSame.refl _) (fun d cs h1 h2 h3 hb => hb) fun _ => ⟨fun q hq => .inr rfl, fun hro => FrzLe.refl _, fun hrh => rfl⟩
  rw [takeG_def] at h
  obtain ⟨dst, op, type, pos, after, guard⟩ := o
  obtain ⟨x, hx, htk, hrun⟩ := mv_run (P := cx.P) (ρ := (actOf l).eval) hmv dst type pos after guard
  rcases guard_cases h with ⟨hwt, h⟩ | ⟨hwt, h⟩
  · refine .inr ⟨hwant true hwt, gets_run (hrun W) ⟨_, htk _ _ _ _ _ _ _ _ rfl h, fin (hev x hx).1⟩⟩
  · exact .inl ⟨hwant false hwt, _, h, fin (a := .v .und) (v := undef) rfl⟩
theorem ord_sound {om : Nat} {Z : Nat → Bool} (hw : WfR ops Z) {K : St → Prop} {Q : Exit → Act → World → Prop} (hk : ∀ s l W, SRel W0 w0 s l W → K s → Q .normal (actOf l) W) :
    ∀ (m : Nat) (ls : List Stp) (LA LR : Array Bool) (s : St) (l : Fr) (W : World), Inv cx ops Z W0 w0 LA LR s l W → Calm cx ops om LA LR s → OrdP cx ops Z ls LA → left ops LR ≤ m → aOrd cx ops om K ls s → wpAny cx.P .any ops Q m LR (actOf l) W := by
  intro m
  induction m with
  | zero =>
    intro ls LA LR s l W inv calm hop hl h
    have hall := left_zero inv.szR (Nat.le_zero.1 hl)
    have hallA : ∀ j, j < ops.size → LA.getD j false = true := fun j hj => inv.sub j (hall j hj)
    have none : ∀ p, ¬ Pend LA LR p := fun p hp => by
      have := hall p (by have := pend_lt hp.1; have := inv.szA; omega)
      rw [hp.2] at this; cases this
    refine ⟨ready_nil inv.szR hall, ?_⟩
    have hK : K s := by
      cases ls with
      | nil => exact h
      | cons p r =>
        obtain ⟨⟨o, ho, _⟩, hr, _⟩ := hop
        rw [ready_nil inv.szA hallA] at hr
        cases hr
    obtain ⟨E, hm, hf⟩ := inv.rel
    exact hk s l W ⟨E, hm.congrX fun i _ => ⟨fun ⟨p, _, h, _⟩ => none p h, fun h => h.elim⟩, hf.1, fun t _ => hf.2 t fun ⟨q, oq, h, _⟩ => none q h⟩ hK
  | succ m ihm =>
    intro ls
    induction ls with
    | nil =>
      intro LA LR s l W inv calm hop hl h
      have hallA : ∀ j, j < ops.size → LA.getD j false = true := hop
      refine ⟨fun hrR => ?_, fun j hj => ?_⟩
      · have hall := all_listed hw inv.szR hrR
        have none : ∀ p, ¬ Pend LA LR p := fun p hp => by
          have := hall p (by have := pend_lt hp.1; have := inv.szA; omega)
          rw [hp.2] at this; cases this
        obtain ⟨E, hm, hf⟩ := inv.rel
        exact hk s l W ⟨E, hm.congrX fun i _ => ⟨fun ⟨p, _, h, _⟩ => none p h, fun h => h.elim⟩, hf.1, fun t _ => hf.2 t fun ⟨q, oq, h, _⟩ => none q h⟩ h
      · obtain ⟨hu, o, ho, _⟩ := mem_ready.1 hj
        have hlt := size_of_get ho
        have hu' : LR.getD j false = false := (getD_flip (by rw [inv.szR]; exact hlt)).1 hu
        have hp : Pend LA LR j := ⟨hallA j hlt, hu'⟩
        exact exec_wp hw inv hj hp ho fun l' W' inv' => ihm [] LA _ s l' W' inv' (fun p op q oq h1 h2 h3 h4 => calm p op q oq (pend_done h1).1 h2 h3 h4) hop (by have := left_set hlt inv.szR hu'; omega) h
    | cons p r ihl =>
      intro LA LR s l W inv calm hop hl h
      have hop' := hop
      obtain ⟨⟨o, ho, hk0, hk1, hk2⟩, hready, hz, h1, h2, h3⟩ := hop
      have hlt := size_of_get ho
      have h' := h
      have hnA : LA.getD p.i false = false := (getD_flip (by rw [inv.szA]; exact hlt)).1 (mem_ready.1 hready).1
      have ready : 0 < p.k → (∀ hj : p.i ∈ Region.ready .any ops LR, LR.getD p.i false = false → left ops (LR.setIfInBounds p.i true) ≤ m → wpOp cx.P ops Q p.i (wpAny cx.P .any ops Q m (LR.setIfInBounds p.i true)) (actOf l) W) → wpAny cx.P .any ops Q (m + 1) LR (actOf l) W := fun hpk hdo => by
        refine ⟨fun hrR => ?_, fun j hj => ?_⟩
        · have := inv.sub _ (all_listed hw inv.szR hrR p.i hlt)
          rw [hnA] at this; cases this
        · obtain ⟨hu, oj, hoj, hall⟩ := mem_ready.1 hj
          have hjlt := size_of_get hoj
          have hu' : LR.getD j false = false := (getD_flip (by rw [inv.szR]; exact hjlt)).1 hu
          have hleft : left ops (LR.setIfInBounds j true) ≤ m := by have := left_set hjlt inv.szR hu'; omega
          cases hA : LA.getD j false with
          | true => exact exec_wp hw inv hj ⟨hA, hu'⟩ hoj fun l' W' inv' => ihm (p :: r) LA _ s l' W' inv' (fun p op q oq h1 h2 h3 h4 => calm p op q oq (pend_done h1).1 h2 h3 h4) hop' hleft h'
          | false =>
            have hjL : j ∈ Region.ready .any ops LA := mem_ready.2 ⟨(getD_flip (by rw [inv.szA]; exact hjlt)).2 hA, oj, hoj, fun e he hb => inv.sub _ (hall e he hb)⟩
            have := h2 hpk j hjL
            subst this
            exact hdo hj hu' hleft
      unfold aOrd at h
      rw [ho] at h
      simp only at h
      split at h
      · rename_i hef
        split at h <;> first | exact h.elim | skip
        rename_i hcl
        obtain ⟨s', hs', inv', hrd⟩ := take_step hw inv (hz (by omega)) hready ho (hk0 hef) h
        refine ihl _ LR s' l W inv' (fun q oq j oj hq hoq hj hu => ?_) h3 hl hs'
        have huj : LA.getD j true = false ∧ j ≠ p.i := by
          refine ⟨?_, fun e => ?_⟩
          · cases hj' : LA.getD j true with
            | false => rfl
            | true =>
              by_cases hji : p.i = j
              · rw [← hji, (mem_ready.1 hready).1] at hj'; cases hj'
              · rw [getD_set_ne true hji, hj'] at hu; cases hu
          · subst e
            have : p.i < LA.size := by rw [inv.szA]; exact hlt
            simp [Array.getD, this] at hu
        by_cases hqi : q = p.i
        · subst hqi
          rw [hrd _ oq hoq (.inl rfl)]
          rw [ho] at hoq
          injection hoq with hoq
          subst hoq
          rcases h1 hef j oj hj huj.1 huj.2 with h4 | h4 | h4
          · exact .inl h4
          · exact .inr (.inl h4)
          · exact .inr (.inr (clash_of hcl j h4 oj hj))
        · have hq' := pend_take hq hqi
          rw [hrd q oq hoq (.inr hq')]
          exact calm q oq j oj hq' hoq hj huj.1
      · rename_i hef
        split at h <;> first | exact h.elim | skip
        rename_i hobc
        refine ready (by omega) fun hj hu' hleft => ?_
        unfold wpOp
        rw [ho]
        simp only
        rcases eff_step hw inv calm (hz (by omega)) hj hnA ho (hk1 hef) (fun ht => by rw [ht, Bool.true_and] at hobc; rw [Bool.or_eq_false_iff, Bool.not_eq_false'] at hobc; exact hobc.1) (fun ht => by rw [ht, Bool.true_and] at hobc; rw [Bool.or_eq_false_iff, Bool.not_eq_false'] at hobc; exact hobc.2) h with ⟨h4, s', h5, h6, h7⟩ | ⟨h4, h5⟩
        · rw [if_neg (by rw [h4]; exact Bool.false_ne_true), put_act]
          exact ihm r _ _ s' _ W h6 h7 h3 hleft h5
        · rw [if_pos h4]
          exact .inl (h5 _ Q fun v W' ⟨s', g2, g3, g4⟩ => by rw [put_act]; exact ihm r _ _ s' _ W' g3 g4 h3 hleft g2)
      · rename_i n hef
        refine ready (by omega) fun hj hu' hleft => ?_
        split at h <;> first | exact h.elim | skip
        rename_i hmv
        unfold wpOp
        rw [ho]
        simp only
        rcases sync_step hw inv calm hj hnA ho hmv (fun q oq hq hoq => by
          rcases hk2 (by omega) q oq hoq hq.1 with ⟨e, he, hb, heq⟩ | h
          · obtain ⟨_, o', ho', hall⟩ := mem_ready.1 hj
            rw [ho] at ho'
            injection ho' with ho'
            subst ho'
            have := hall e he hb
            rw [heq, hq.2] at this; cases this
          · exact h) h with ⟨h4, s', h5, h6, h7⟩ | ⟨h4, h5⟩
        · rw [if_neg (by rw [h4]; exact Bool.false_ne_true), put_act]
          exact ihm r _ _ s' _ W h6 h7 h3 hleft h5
        · rw [if_pos h4]
          exact .inl (h5 _ Q fun v W' ⟨s', g2, g3, g4⟩ => by rw [put_act]; exact ihm r _ _ s' _ W' g3 g4 h3 hleft g2)
end
end Go.Ga
