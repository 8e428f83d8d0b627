/- The law FnExactStepsDo: whatever the input, it returns true, and the input reads behind the call as it read before. No condition. -/
import Derived.Test.YtlijeincckbdaaaRows
import Derived.Test.YtlijeincckbdaaaWLStepsDo
import Derived.Test.YtlijeincckbdaaaWJStepsDo
import Derived.Test.YtlijeincckbdaaaQo
import Derived.WalkKit
import Derived.ProofKit
import Derived.OpenShut
import Derived.ShutString
import Derived.ChangeOld
import Derived.Below
import Derived.SizedLaws
namespace Go.Proofs.Ytlijeincckbdaaa.fnExactStepsDo
open Go.ChangeShapes Go.WideShapes Go.ChangeAt Go.RowKit
open Go.ChangeMaps (open_string shut_string)
set_option linter.unusedVariables false
theorem own : ownKnob Try.prog.godebug = none := by kernel_rfl
theorem laidOut : laidOutB Try.prog = true := by kernel_rfl
set_option maxRecDepth 100000 in
set_option maxHeartbeats 4000000 in
theorem lifted (os : Os) (started : os.Started) (H : Type) (enc : TypeId × Value → H) :
    ReturnsInHanded {} Try.checked os 14 .any (Rows.fnExactStepsDoSpec.pre6 enc Try.prog Try.f14 Rows.fnExactStepsDoRow.domain false) (Rows.fnExactStepsDoSpec.post enc Try.prog Try.f14 false true false false) := by
  refine returnsInHanded_of_change_sized (C := Try.checked) own started (by kernel_rfl) Try.func14
    (ChangeSpec.witness6 (enc := enc) (C := Try.checked) false ⟨#[], #[.agg #[.int .i64 0, .int .i64 0, .slice none 0 0], .slice none 0 0, .int .i64 0], []⟩ 8 (by kernel_rfl) (by kernel_rfl) (by kernel_rfl) (by kernel_rfl)) ?_
  intro W base args ds gs before hval0 hW hcnd hsz0 _
  have hval : ∀ (j : Nat) t v, Try.f14.params[j]? = some t → args[j]? = some v → Value.okWide Try.prog W .any base t v := hval0
  have hW' := hW
  obtain ⟨p, q, hA0, hV, rfl, hfz, hnd⟩ := hW
  have hA : DataW.TrodAll enc Try.prog W 0 (fun _ => true) true Try.f14.params.toList args.toList ds p := hA0
  rw [Try.params14] at hA hval
  obtain ⟨v0, vs0, d0, ds0, p0, q0, hargs, rfl, rfl, h0, r0⟩ := trodAll_cons hA
  obtain ⟨v1, vs1, d1, ds1, p1, q1, rfl, rfl, rfl, h1, r1⟩ := trodAll_cons r0
  obtain ⟨v2, vs2, d2, ds2, p2, q2, rfl, rfl, rfl, h2, r2⟩ := trodAll_cons r1
  obtain ⟨rfl, rfl, rfl⟩ := trodAll_nil r2
  obtain rfl : args = #[v0, v1, v2] := by cases args; simp_all
  obtain ⟨rfl, rfl⟩ := trodVars_none hV
  obtain ⟨cs0, rfl, hc0⟩ := okWide_struct Try.underlying36 (hval 0 36 v0 rfl rfl)
  have k0 := h0
  have lt0 : ∀ x ∈ p0, x.block < W.heap.size := by obtain ⟨m, hm⟩ := k0; exact DataW.trod_lt m _ _ _ hm
  obtain ⟨x0, C0, ok0⟩ : ∃ y : DArray, RL (cAll W) W (DArray.enc y) cs0.toList ∧ y.it := by
    obtain ⟨fuel, hf⟩ := h0
    exact opArray _ _ _ _ _ _ _ _ hf
  obtain ⟨a1, len1, cap1, rfl⟩ := okWide_slice Try.underlying120 (hval 1 120 v1 rfl rfl)
  have k1 := h1
  have lt1 : ∀ x ∈ p1, x.block < W.heap.size := by obtain ⟨m, hm⟩ := k1; exact DataW.trod_lt m _ _ _ hm
  obtain ⟨x1, C1, ok1⟩ : ∃ y : List DStep, RL (cAll W) W ((fun xs : List DStep => [.row true 5 (xs.map DStep.enc)]) y) [.slice a1 len1 cap1] ∧ y.length ≤ 9223372036854775807 ∧ ∀ z ∈ y, z.it := by
    obtain ⟨fuel, hf⟩ := h1
    exact opStepS _ _ _ _ _ _ _ _ hf
  obtain ⟨w2, rfl⟩ := okWide_int Try.underlying2 (hval 2 2 v2 rfl rfl)
  have k2 := h2
  have lt2 : ∀ x ∈ p2, x.block < W.heap.size := by obtain ⟨m, hm⟩ := k2; exact DataW.trod_lt m _ _ _ hm
  obtain ⟨x2, C2, ok2⟩ : ∃ y : Int, RL (cAll W) W ((fun n : Int => [.lit (.int .i64 n)]) y) [.int .i64 w2] ∧ inI y := by
    obtain ⟨fuel, hf⟩ := h2
    exact opInt64 _ _ _ _ _ _ _ _ hf
  clear hA0 hval0 hsz0
  refine ((fnExactStepsDo_c x0 ok0 x1 ok1 x2 ok2).2.2 W (fun k => k < W.heap.size) #[.agg cs0, .slice a1 len1 cap1, .int .i64 w2] (fun _ h => h) ⟨C0, C1.1, C2.1, trivial⟩).mono fun e W' ⟨v, F, he, hr, _, bel⟩ => ?_
  obtain ⟨hr, _⟩ := hr
  obtain rfl : v = .bool true := by
    cases hr with
    | plain _ h _ => cases h; rfl
  subst he
  exact ⟨_, rfl, _, _, _, [], _, [], hW', trodAll_mk1 (shut_bool Try.underlying4 _), (trodAll_cons_mk (Below.trod laidOut (by kernel_rfl) (of_decide_eq_true (by kernel_rfl)) k0 bel lt0) (trodAll_cons_mk (Below.trod laidOut (by kernel_rfl) (of_decide_eq_true (by kernel_rfl)) k1 bel lt1) (trodAll_cons_mk (Below.trod laidOut (by kernel_rfl) (of_decide_eq_true (by kernel_rfl)) k2 bel lt2) trodAll_mk0))), rfl, bel.frame _, fun h => by cases h⟩
theorem over : Rows.fnExactStepsDoRow.holds Try.pinned (OpenSpec.ofChange Rows.fnExactStepsDoSpec) :=
  OpenClaim.holds_of_wide 14 Try.f14 rfl rfl rfl rfl rfl rfl rfl ⟨rfl, rfl, rfl, rfl, rfl⟩ rfl rfl rfl rfl rfl (by kernel_rfl) Try.func14 closed
    (of_decide_eq_true (by kernel_rfl)) (by unfold Func.isWrapper; first | (rw [if_pos (by decide +kernel)]; kernel_rfl) | (rw [if_neg (by decide +kernel)]; exact ⟨rfl, rfl⟩))
    (fun os started H enc _ => lifted os started H enc)
theorem proved : Rows.FnExactStepsDoSaid := over
#print axioms proved
end Go.Proofs.Ytlijeincckbdaaa.fnExactStepsDo
namespace Go.Proofs.Ytlijeincckbdaaa
/-- The row, under a short name, for the claim. -/
theorem fnExactStepsDo_holds : Rows.FnExactStepsDoSaid := fnExactStepsDo.proved
end Go.Proofs.Ytlijeincckbdaaa
