/-
  TrapAll holds, and its card: of every list of ways Each gives as many errors, each as its way says, and the number counts the calm ones; for every input, where errors.errorType starts as the program's text lays it, tied to the text.
-/
import Derived.Test.YtabeehbgoljddaaDoorKrq
import Derived.Test.YtabeehbgoljddaaDoorTie
import Derived.Test.YtabeehbgoljddaaDoorCards
import Derived.SevenTiedAt
set_option linter.unusedSimpArgs false
set_option linter.unusedVariables false
namespace Go.Proofs.YtabeehbgoljddaaDoor
open Go Go.RowKit Go.Gp Go.ChangeShapes Go.WideShapes Go.ChangeAt Go.Proofs.YtabeehbgoljddaaDoor
theorem t_own : ownKnob Tryd.prog.godebug = none := by kernel_rfl
theorem laidOut : laidOutB Tryd.prog = true := by kernel_rfl

/-! ### TrapAll -/
set_option maxRecDepth 100000 in
theorem trapAll_lifted (os : Os) (started : os.Started) (H : Type) (enc : TypeId × Value → H) :
    ReturnsInHanded {} Tryd.checked os 3 .any (fun w args => (Rows.trapAllSpec.pre enc Tryd.prog Tryd.f3 [] false w args ∧ laidMetH Tryd.prog Rows.trapAllRow.laid w) ∧ sizedMet enc Tryd.prog Tryd.f3 (OpenSpec.ofChange Rows.trapAllSpec) false w args)
      (Rows.trapAllSpec.post enc Tryd.prog Tryd.f3 false true false false) := by
  refine returnsInHanded_of_calls (C := Tryd.checked) t_own started (by kernel_rfl)
    (ChangeSpec.witness_at (enc := enc) (C := Tryd.checked) (os := os) (X := fun w _ => laidMetH Tryd.prog Rows.trapAllRow.laid w) false (laidWorld os) #[.slice none 0 0] 8 rfl (by kernel_rfl) (by kernel_rfl) (by kernel_rfl) (by kernel_rfl) (by kernel_rfl) (laidWorld_met os _)) ?_
  intro w tape i _ hsh _ hok hpre hholds
  obtain ⟨_, _, _, fn', hfn', _, _, _, _, hval0⟩ := hok
  have e : fn' = Tryd.f3 := Option.some.inj (hfn'.symm.trans Tryd.func3)
  subst e
  obtain ⟨⟨⟨ds, gs, before, hw, hc⟩, hx⟩, hz⟩ := hpre
  have hW := DataW.Whole.of_heap (w' := w.forCall tape i) (by rfl) hw
  have hx' : laidMetH Tryd.prog Rows.trapAllRow.laid (w.forCall tape i) := hx.of_heap (by rfl)
  have key : Calls Tryd.prog 3 i.args (w.forCall tape i) fun e W' => ∃ v, e = .returned v ∧ Rows.trapAllSpec.post enc Tryd.prog Tryd.f3 false true false false (w.forCall tape i) i.args v W' := by
    generalize w.forCall tape i = W at *
    generalize hargs' : i.args = args at *
    have hval : ∀ (j : Nat) t v, Tryd.f3.params[j]? = some t → args[j]? = some v → Value.okWide Tryd.prog W .any w.heap.size t v := hval0
    have hW' := hW
    obtain ⟨p, q, hA0, hV, rfl, hfz, hnd⟩ := hW
    have hA : DataW.TrodAll enc Tryd.prog W 0 (fun _ => true) true Tryd.f3.params.toList args.toList ds p := hA0
    rw [Tryd.params3] at hA hval
    obtain ⟨v0, vs0, d0, ds0, p0, q0, hargs, rfl, rfl, h0, r0⟩ := trodAll_cons hA
    obtain ⟨rfl, rfl, rfl⟩ := trodAll_nil r0
    obtain rfl : args = #[v0] := by cases args; simp_all
    obtain ⟨rfl, rfl⟩ := trodVars_none hV
    obtain ⟨a0, len0, cap0, rfl⟩ := okWide_slice Tryd.underlying22 (hval 0 22 v0 rfl rfl)
    have k0 := h0
    have lt0 : ∀ x ∈ p0, x.block < W.heap.size := by obtain ⟨m, hm⟩ := k0; exact DataW.trod_lt m _ _ _ hm
    obtain ⟨n0, rd0⟩ : ∃ n, RdT Tryd.prog W n 22 [.slice a0 len0 cap0] := by obtain ⟨m, hm⟩ := h0; exact ⟨m, rdT_of m _ _ _ hm⟩
    have hg : GW W := ⟨handle_of hx', tab_of hsh⟩
    obtain ⟨ws, hws⟩ := rd_ways (s := ⟨a0, len0, cap0⟩) rd0
    have hww := c_all ⟨a0, len0, cap0⟩ ws W (fun x W' => x = (true, ()) ∧ Keeps [] W W') hg hws fun W' k => ⟨rfl, k⟩
    refine Calls.mono hww fun e W' he => ?_
    obtain ⟨x, rfl, rfl, hk⟩ := he
    have bel : Below W.heap.size W W' := hk.below (Nat.le_refl _) (by simp)
    exact ⟨_, rfl, _, _, _, [], _, [], hW', trodAll_mk1 (shut_bool Tryd.underlying4 _), (trodAll_cons_mk (Below.trod laidOut (by kernel_rfl) (of_decide_eq_true (by kernel_rfl)) k0 bel lt0) trodAll_mk0), rfl, bel.frame _, fun h => by cases h⟩
  refine key.mono fun e W' ⟨v, he, hp⟩ => ?_
  subst he
  exact ChangeSpec.post_blind hp
theorem trapAll_row : Rows.TrapAllSaid :=
  OpenClaim.holds_of_wide 3 Tryd.f3 rfl rfl rfl rfl rfl rfl rfl ⟨rfl, rfl, rfl, rfl, rfl⟩ rfl rfl rfl rfl rfl (by kernel_rfl) Tryd.func3 (by kernel_rfl)
    (of_decide_eq_true (by kernel_rfl)) (by unfold Func.isWrapper; first | (rw [if_pos (by decide +kernel)]; kernel_rfl) | (rw [if_neg (by decide +kernel)]; exact ⟨rfl, rfl⟩))
    (fun os started H enc _ => trapAll_lifted os started H enc)
theorem trapAll_holds : Rows.TrapAllCardSaid :=
  Claim7.holds_tied_plain_at .later [] [.handle] true (true, "4256dbd8fd2eb8ef39c71f2f1a686801695983b7d1636e3af9122fb8251a1a36") true
    trapAll_row (fun _ h => by cases h) (by kernel_rfl) (fun _ h => by cases h) trapAll_row_tie rfl ⟨rfl, rfl⟩ (by kernel_rfl) rfl
    (fun f fn hf hfn => by
      obtain rfl : f = 3 := Option.some.inj ((show Tryd.prog.funcNamed "garnet/garnetlaw04.TrapAll" = some 3 by kernel_rfl).symm.trans hf) |>.symm
      obtain rfl : fn = Tryd.f3 := (Option.some.inj (Tryd.func3.symm.trans hfn)).symm
      exact ⟨by kernel_rfl, fun j t ht => by
        rw [Tryd.params3] at ht
        have h3 : t = 22 := by
          rcases j with _ | j
          · simpa using ht.symm
          · simp at ht
        subst h3
        exact (show Tryd.prog.wantsStandIn 22 = false by kernel_rfl)⟩)
    (by kernel_rfl)
#print axioms trapAll_holds
end Go.Proofs.YtabeehbgoljddaaDoor
