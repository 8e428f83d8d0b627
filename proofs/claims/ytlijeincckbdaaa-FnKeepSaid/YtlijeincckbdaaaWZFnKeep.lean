/- The law FnKeep: whatever the input, it returns true, and the input reads behind the call as it read before. No condition. -/
import Derived.Test.YtlijeincckbdaaaRows
import Derived.Test.YtlijeincckbdaaaQx
import Derived.Test.YtlijeincckbdaaaWJFnKeep
import Derived.Test.YtlijeincckbdaaaQo
import Derived.WalkKit
import Derived.ProofKit
import Derived.OpenShut
import Derived.ShutString
import Derived.ChangeOld
import Derived.Below
import Derived.SizedLaws
namespace Go.Proofs.Ytlijeincckbdaaa.fnKeep
open Go.ChangeShapes Go.WideShapes Go.ChangeAt Go.RowKit
open Go.ChangeMaps (open_string shut_string)
set_option linter.unusedVariables false
theorem cellsByte : Try.prog.cellsOf 5 = 1 := by kernel_rfl
theorem opByteS : OpensA Try.prog 51 (fun xs : List UInt8 => [.row true 1 (xs.map byteE)]) (fun x : List UInt8 => x.length ≤ 9223372036854775807 ∧ ∀ y ∈ x, True) :=
  opensA_slice Try.underlying51 cellsByte (by decide) (fun _ => rfl) (fun _ => rfl) (opensA_byte Try.underlying5)
theorem own : ownKnob Try.prog.godebug = none := by kernel_rfl
theorem laidOut : laidOutB Try.prog = true := by kernel_rfl
set_option maxRecDepth 100000 in
set_option maxHeartbeats 4000000 in
theorem lifted (os : Os) (started : os.Started) (H : Type) (enc : TypeId × Value → H) :
    ReturnsInHanded {} Try.checked os 13 .any (Rows.fnKeepSpec.pre6 enc Try.prog Try.f13 Rows.fnKeepRow.domain false) (Rows.fnKeepSpec.post enc Try.prog Try.f13 false true false false) := by
  refine returnsInHanded_of_change_sized (C := Try.checked) own started (by kernel_rfl) Try.func13
    (ChangeSpec.witness6 (enc := enc) (C := Try.checked) false ⟨#[], #[.slice none 0 0, .slice none 0 0], []⟩ 8 (by kernel_rfl) (by kernel_rfl) (by kernel_rfl) (by kernel_rfl)) ?_
  intro W base args ds gs before hval0 hW hcnd hsz0 _
  have hval : ∀ (j : Nat) t v, Try.f13.params[j]? = some t → args[j]? = some v → Value.okWide Try.prog W .any base t v := hval0
  have hW' := hW
  obtain ⟨p, q, hA0, hV, rfl, hfz, hnd⟩ := hW
  have hA : DataW.TrodAll enc Try.prog W 0 (fun _ => true) true Try.f13.params.toList args.toList ds p := hA0
  rw [Try.params13] at hA hval
  obtain ⟨v0, vs0, d0, ds0, p0, q0, hargs, rfl, rfl, h0, r0⟩ := trodAll_cons hA
  obtain ⟨v1, vs1, d1, ds1, p1, q1, rfl, rfl, rfl, h1, r1⟩ := trodAll_cons r0
  obtain ⟨rfl, rfl, rfl⟩ := trodAll_nil r1
  obtain rfl : args = #[v0, v1] := by cases args; simp_all
  obtain ⟨rfl, rfl⟩ := trodVars_none hV
  obtain ⟨a0, len0, cap0, rfl⟩ := okWide_slice Try.underlying51 (hval 0 51 v0 rfl rfl)
  have k0 := h0
  have lt0 : ∀ x ∈ p0, x.block < W.heap.size := by obtain ⟨m, hm⟩ := k0; exact DataW.trod_lt m _ _ _ hm
  obtain ⟨x0, C0, ok0⟩ : ∃ y : List UInt8, RL (cAll W) W ((fun xs : List UInt8 => [.row true 1 (xs.map byteE)]) y) [.slice a0 len0 cap0] ∧ y.length ≤ 9223372036854775807 ∧ ∀ z ∈ y, True := by
    obtain ⟨fuel, hf⟩ := h0
    exact opByteS _ _ _ _ _ _ _ _ hf
  obtain ⟨a1, len1, cap1, rfl⟩ := okWide_slice Try.underlying51 (hval 1 51 v1 rfl rfl)
  have k1 := h1
  have lt1 : ∀ x ∈ p1, x.block < W.heap.size := by obtain ⟨m, hm⟩ := k1; exact DataW.trod_lt m _ _ _ hm
  obtain ⟨x1, C1, ok1⟩ : ∃ y : List UInt8, RL (cAll W) W ((fun xs : List UInt8 => [.row true 1 (xs.map byteE)]) y) [.slice a1 len1 cap1] ∧ y.length ≤ 9223372036854775807 ∧ ∀ z ∈ y, True := by
    obtain ⟨fuel, hf⟩ := h1
    exact opByteS _ _ _ _ _ _ _ _ hf
  clear hA0 hval0 hsz0
  refine ((fnKeep_c x0 x1 ok0.1 ok1.1).2.2 W (fun k => k < W.heap.size) #[.slice a0 len0 cap0, .slice a1 len1 cap1] (fun _ h => h) ⟨C0.1, C1.1, trivial⟩).mono fun e W' ⟨v, F, he, hr, _, bel0⟩ => ?_
  have bel := bel0.below
  obtain ⟨hr, _⟩ := hr
  obtain rfl : v = .bool true := by
    cases hr with
    | plain _ h _ => cases h; rfl
  subst he
  exact ⟨_, rfl, _, _, _, [], _, [], hW', trodAll_mk1 (shut_bool Try.underlying4 _), (trodAll_cons_mk (Below.trod laidOut (by kernel_rfl) (of_decide_eq_true (by kernel_rfl)) k0 bel lt0) (trodAll_cons_mk (Below.trod laidOut (by kernel_rfl) (of_decide_eq_true (by kernel_rfl)) k1 bel lt1) trodAll_mk0)), rfl, bel.frame _, fun h => by cases h⟩
theorem over : Rows.fnKeepRow.holds Try.pinned (OpenSpec.ofChange Rows.fnKeepSpec) :=
  OpenClaim.holds_of_wide 13 Try.f13 rfl rfl rfl rfl rfl rfl rfl ⟨rfl, rfl, rfl, rfl, rfl⟩ rfl rfl rfl rfl rfl (by kernel_rfl) Try.func13 closed
    (of_decide_eq_true (by kernel_rfl)) (by unfold Func.isWrapper; first | (rw [if_pos (by decide +kernel)]; kernel_rfl) | (rw [if_neg (by decide +kernel)]; exact ⟨rfl, rfl⟩))
    (fun os started H enc _ => lifted os started H enc)
theorem proved : Rows.FnKeepSaid := over
#print axioms proved
end Go.Proofs.Ytlijeincckbdaaa.fnKeep
namespace Go.Proofs.Ytlijeincckbdaaa
/-- The row, under a short name, for the claim. -/
theorem fnKeep_holds : Rows.FnKeepSaid := fnKeep.proved
end Go.Proofs.Ytlijeincckbdaaa
