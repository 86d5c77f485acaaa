/-
  Weights, over data.
-/
import Derived.Test.YtjbpgebjcehfkaaDweigh
import Derived.Test.YtjbpgebjcehfkaaDlibb
import Derived.Test.YtjbpgebjcehfkaaKk
import Derived.Test.YtjbpgebjcehfkaaKd
import Derived.Test.YtjbpgebjcehfkaaTf1
set_option linter.unusedSimpArgs false
set_option linter.unusedVariables false
namespace Go.Proofs.Ytjbpgebjcehfkaa
open Go Go.Gp Go.Ga Go.Th
theorem pure_1 {P : Program} {f : FuncId} {k0 k : K1} {a : k0.T} {r : k.T} (hr : (k.enc r).oneCell' = true) (h : ∀ (W : World), callG P f [k0.enc a] [.one k] W fun z W' => z = (r, ()) ∧ W' = W) :
    PureA P f [(false, .one k0)] (a, ()) [(false, .one k)] (r, ()) := fun H K hk w W vs hp ha => by
  obtain ⟨us, rfl, h1, ha⟩ := arg_one ha
  have ha : us = [] := ha
  subst ha
  refine (h W).mono fun e W' ⟨z, he, hz, hW⟩ => ?_
  subst hz hW
  exact ⟨[k.enc r], (r, ()), H, w, he, hk, ⟨hp.wf, hp.ob, Since.refl _ _⟩, res_one hr rfl⟩
theorem ext_bits (W : World) (a : Nat) {K : Int × Unit → World → Prop} (hk : K ((a : Int), ()) W) : extG Try.prog 23 [.float .f64 a] [.one (.int .u64)] W K := by
  refine ⟨((a : Int), ()), W, ?_, hk⟩
  have hf : Try.prog.funcs[23]? = some Try.f23 := Try.func23
  have h1 : (Try.f23.name == "runtime.NumGoroutine") = false := by decide +kernel
  have h2 : Try.f23.body.isNone = true := by kernel_rfl
  have h3 : Extern.findNext Try.f23 = none := by kernel_rfl
  have h4 : Extern.find Try.f23 = some Extern.MathFloatBits.float64bits := by kernel_rfl
  simp only [callFunc, Sem.run_bind, run_program, Result.andThen_ok, hf, h1, h2, h3, h4, Bool.false_eq_true, if_false, if_true, run_mark]
  rfl
theorem c_signbit (a : Nat) (h : a < 2 ^ 64) : PureA Try.prog 16 [(false, .one (.flt .f64))] (a, ()) [(false, .one .bool)] (decide (2 ^ 63 ≤ a), ()) := pure_1 rfl fun W => by
  apply call16
  unfold G16
  refine ext_bits W a ?_
  refine ⟨?_, rfl⟩
  have e : decide (IntKind.i64.wrap (a : Int) < 0) = decide (2 ^ 63 ≤ a) := by
    rw [IntKind.wrap_i64, decide_eq_decide]
    have h' : a < 18446744073709551616 := h
    show _ ↔ 9223372036854775808 ≤ a
    omega
  show (decide (IntKind.i64.wrap (a : Int) < 0), ()) = _
  rw [e]
def sgnF (a : Nat) : Int := if 2 ^ 63 ≤ a then 0 else 1
def cmpI (a b : Int) : Int := if a < b then -1 else if a > b then 1 else 0
def ordF (a b : Nat) : Int := if nanB a = true then (if nanB b = true then 0 else -1) else if nanB b = true then 1 else if fLt .f64 a b = true then -1 else if fGt .f64 a b = true then 1 else 0
def cmpF (a b : Nat) : Int := if fEq .f64 a 0 = true ∧ fEq .f64 b 0 = true then cmpI (sgnF a) (sgnF b) else ordF a b
theorem c_isnan (a : Nat) : S17 a (nanB a, ()) := pure17 a fun H K hk => by
  unfold A17
  rw [fEq_self, Bool.not_not]; exact hk
theorem c_isnan' (a : Nat) : S24 a (nanB a, ()) := pure24 a fun H K hk => by
  unfold A24
  rw [fEq_self, Bool.not_not]; exact hk
theorem c_isnanI (a : Int) : S25 a (false, ()) := pure25 a fun H K hk => by
  unfold A25
  rw [show ((a : Int) != a) = false from by simp]; exact hk
theorem c_cmpI (a b : Int) : S19 a b (cmpI a b, ()) := pure19 a b fun H K hk => by
  unfold A19
  unfold cmpI at hk
  refine retA_i _ (c_isnanI a) (retA_i _ (c_isnanI b) (ifF rfl (ifF rfl (ifD (fun h => ?_) fun h => ifD (fun h' => ?_) fun h' => ?_))))
  · rw [if_pos h] at hk; exact hk
  · rw [if_neg h, if_pos h'] at hk; exact hk
  · rw [if_neg h, if_neg h'] at hk; exact hk
theorem c_cmpF (a b : Nat) : S18 a b (ordF a b, ()) := pure18 a b fun H K hk => by
  unfold A18
  unfold ordF at hk
  refine retA_i _ (c_isnan' a) (retA_i _ (c_isnan' b) (ifB_i (fun h => ifB_i (fun h' => ?_) fun h' => ?_) fun h => ifB_i (fun h' => ?_) fun h' => ifB_i (fun h2 => ?_) fun h2 => ifB_i (fun h3 => ?_) fun h3 => ?_))
  all_goals simp only at h h'
  · simp only [h, h', if_true] at hk; exact hk
  · simp only [h, h', if_true, Bool.false_eq_true, if_false] at hk; exact hk
  · simp only [h, h', if_true, Bool.false_eq_true, if_false] at hk; exact hk
  · simp only [h, h', h2, if_true, Bool.false_eq_true, if_false] at hk; exact hk
  · simp only [h, h', h2, h3, if_true, Bool.false_eq_true, if_false] at hk; exact hk
  · simp only [h, h', h2, h3, if_true, Bool.false_eq_true, if_false] at hk; exact hk
theorem c_sign (a : Nat) (hl : a < 2 ^ 64) (H : HP) (K : HT [(false, .one (.int .i64))] → HP → Prop) (hk : K (sgnF a, ()) H) : C15 a H K := callA15 a H K (by
  unfold A15
  unfold sgnF at hk
  refine retA_i _ (c_signbit a hl) (ifD (fun h => ?_) fun h => ?_)
  · rw [if_pos h] at hk; exact hk
  · rw [if_neg h] at hk; exact hk)
theorem c_compare (a b : Nat) (ha : a < 2 ^ 64) (hb : b < 2 ^ 64) : S7 a b (cmpF a b, ()) := pure7 a b fun H K hk => by
  unfold A7
  have no : ¬ (fEq .f64 a 0 = true ∧ fEq .f64 b 0 = true) → K (ordF a b, ()) H := fun h => by
    unfold cmpF at hk
    rw [if_neg h] at hk; exact hk
  refine retA_i _ (c_isnan a) (ifB_i (fun h => retA_i _ (c_cmpF a b) (no ?_)) fun h => retA_i _ (c_isnan b) (ifB_i (fun h' => retA_i _ (c_cmpF a b) (no ?_)) fun h' => ifNot (fun h2 => retA_i _ (c_cmpF a b) (no ?_)) fun h2 => ifNot (fun h3 => retA_i _ (c_cmpF a b) (no ?_)) fun h3 => c_sign a ha _ _ (c_sign b hb _ _ (retA_i _ (c_cmpI _ _) ?_))))
  · rw [(f_nan (.inl h)).1]; simp
  · rw [(f_nan (a := b) (.inl h')).1]; simp
  · rw [h2]; simp
  · rw [h3]; simp
  · unfold cmpF at hk
    rw [if_pos ⟨h2, h3⟩] at hk; exact hk
theorem c_none (H : HP) (K : HT [(false, .one (.flt .f64))] → HP → Prop) (hk : ∀ r, nanB r = true → r < 2 ^ 64 → K (r, ()) H) : C9 H K := callA9 H K (by
  unfold A9
  intro r hr
  have : fBits .quo .f64 0 0 = none := by kernel_rfl
  rw [this] at hr
  obtain ⟨t, rfl⟩ := hr
  exact hk _ (cut_nan _ _ _) (cut_lt _ _ _))
theorem c_minus : S14 (9223372036854775808, ()) := pure14 fun H K hk => by
  unfold A14
  have : fNeg .f64 0 = 9223372036854775808 := by kernel_rfl
  rw [this]; exact hk
theorem c_heavy0 : S12 [] (-1, ()) := pure12 [] fun H K hk => by
  unfold A12
  refine lenA_i fun _ => loop_n 0 (fun i => (([], -1, [], 0, 0, ()), ())) (fun _ => True) rfl trivial fun i C hi _ hC => ?_
  exact ifF rfl hk
theorem c_heavy2 : S12 [4607182418800017408, 4611686018427387904] (1, ()) := pure12 [4607182418800017408, 4611686018427387904] fun H K hk => by
  unfold A12
  refine lenA_i fun _ => loop_n 2 (fun i => (([4607182418800017408, 4611686018427387904], (if i = 0 then -1 else (i : Int) - 1), [4607182418800017408, 4611686018427387904], 2, (i : Int), ()), ())) (fun _ => True) rfl trivial fun i C hi _ hC => ?_
  have e : cmpF 4611686018427387904 4607182418800017408 = 1 := by kernel_rfl
  rcases (by omega : i = 0 ∨ i = 1 ∨ i = 2) with rfl | rfl | rfl
  · have hC := hC (by decide) trivial
    exact ifT rfl (atA_g (i := 0) rfl rfl (JoinA_i (ifT rfl (ifT rfl hC))))
  · have hC := hC (by decide) trivial
    refine ifT rfl (atA_g (i := 1) rfl rfl (JoinA_i (ifF rfl (atA_g (i := 0) rfl rfl (retA_i _ (c_compare _ _ (by decide) (by decide)) ?_)))))
    rw [e]
    exact ifT rfl hC
  · exact ifF rfl hk
theorem c_up03 : S6 (true, ()) := pure6 fun H K hk => by
  unfold A6
  refine retA_i _ c_minus (retA_i _ (c_compare _ _ (by decide) (by decide)) (ifT (by kernel_rfl) (c_none H _ fun r hr hl => retA_i _ (c_compare _ _ hl (by decide)) (ifT ?_ (retA_i _ c_heavy0 (ifT rfl (retA_i _ c_heavy2 hk)))))))
  have : cmpF r 13830554455654793216 = -1 := by
    unfold cmpF ordF
    rw [(f_nan (b := 0) (.inl hr)).1, if_neg (by simp), if_pos hr, if_neg (by rw [show nanB 13830554455654793216 = false from by kernel_rfl]; simp)]
  show (cmpF r 13830554455654793216 == -1) = true
  rw [this]; rfl
theorem arg_flt {W : World} {j : Nat} {r : List (Bool × AK)} {n : Nat} {vs : List Value} {y : HT r} (h : ArgRep (fun _ => none) W (j + 1) r vs y) : ArgRep (fun _ => none) W j ((false, .one (.flt .f64)) :: r) (.float .f64 n :: vs) (n, y) := arg_cons rfl rfl (cs := [.float .f64 n]) ⟨rfl, rfl⟩ rfl h
theorem flt_lt {a : Nat} (h : (Lit.float .f64 a).wf = true) : a < 2 ^ 64 := by simpa [Lit.wf] using h
end Go.Proofs.Ytjbpgebjcehfkaa
