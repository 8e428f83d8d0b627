/- The law FnExactDriveCrash: whatever the input, it returns true, and the input reads behind the call as it read before. No condition. -/
import Derived.Test.YtdgnpkffdiopaaaRows
import Derived.Test.YtdgnpkffdiopaaaY1
import Derived.Test.YtdgnpkffdiopaaaR1
import Derived.WalkKit
import Derived.ProofKit
import Derived.OpenShut
import Derived.ShutString
import Derived.ChangeOld
import Derived.Below
import Derived.SizedLaws
namespace Go.Proofs.Ytdgnpkffdiopaaa.fnExactDriveCrash
open Go.ChangeShapes Go.WideShapes Go.ChangeAt Go.RowKit
open Go.ChangeMaps (open_string shut_string)
set_option linter.unusedVariables false
theorem own : ownKnob Try.prog.godebug = none := by kernel_rfl
theorem laidOut : laidOutB Try.prog = true := by kernel_rfl
set_option maxRecDepth 100000 in
set_option maxHeartbeats 4000000 in
theorem lifted (os : Os) (started : os.Started) (H : Type) (enc : TypeId × Value → H) :
    ReturnsInHanded {} Try.checked os 4 .any (Rows.fnExactDriveCrashSpec.pre6 enc Try.prog Try.f4 Rows.fnExactDriveCrashRow.domain false) (Rows.fnExactDriveCrashSpec.post enc Try.prog Try.f4 false true false false) := by
  refine returnsInHanded_of_change_sized (C := Try.checked) own started (by kernel_rfl) Try.func4
    (ChangeSpec.witness6 (enc := enc) (C := Try.checked) false ⟨#[], #[.agg #[.slice none 0 0, .int .i64 0], .slice none 0 0], []⟩ 8 (by kernel_rfl) (by kernel_rfl) (by kernel_rfl) (by kernel_rfl)) ?_
  intro W base args ds gs before hval0 hW hcnd hsz0 _
  have hval : ∀ (j : Nat) t v, Try.f4.params[j]? = some t → args[j]? = some v → Value.okWide Try.prog W .any base t v := hval0
  have hW' := hW
  obtain ⟨p, q, hA0, hV, rfl, hfz, hnd⟩ := hW
  have hA : DataW.TrodAll enc Try.prog W 0 (fun _ => true) true Try.f4.params.toList args.toList ds p := hA0
  rw [Try.params4] at hA hval
  obtain ⟨v0, vs0, d0, ds0, p0, q0, hargs, rfl, rfl, h0, r0⟩ := trodAll_cons hA
  obtain ⟨v1, vs1, d1, ds1, p1, q1, rfl, rfl, rfl, h1, r1⟩ := trodAll_cons r0
  obtain ⟨rfl, rfl, rfl⟩ := trodAll_nil r1
  obtain rfl : args = #[v0, v1] := by cases args; simp_all
  obtain ⟨rfl, rfl⟩ := trodVars_none hV
  obtain ⟨cs0, rfl, hc0⟩ := okWide_struct Try.underlying24 (hval 0 24 v0 rfl rfl)
  have k0 := h0
  have lt0 : ∀ x ∈ p0, x.block < W.heap.size := by obtain ⟨m, hm⟩ := k0; exact DataW.trod_lt m _ _ _ hm
  obtain ⟨x0, C0, ok0⟩ : ∃ x, kDrive.C W x cs0.toList ∧ okDrive x := by
    obtain ⟨fuel, hf⟩ := h0
    exact opDrive _ _ _ _ _ _ _ _ hf
  obtain ⟨A0, c0, e0, R0⟩ := kDrive_C C0
  obtain rfl : cs0 = #[.slice A0 x0.files.length c0, .int .i64 x0.room] := by cases cs0; simp_all
  obtain ⟨a1, len1, cap1, rfl⟩ := okWide_slice Try.underlying34 (hval 1 34 v1 rfl rfl)
  have k1 := h1
  have lt1 : ∀ x ∈ p1, x.block < W.heap.size := by obtain ⟨m, hm⟩ := k1; exact DataW.trod_lt m _ _ _ hm
  obtain ⟨x1, ⟨A1, c1, e1, R1⟩, ok1⟩ : ∃ x, (kSl kInt 2).C W x [.slice a1 len1 cap1] ∧ ∀ y ∈ x, -9223372036854775808 ≤ y ∧ y ≤ 9223372036854775807 := by
    obtain ⟨fuel, hf⟩ := h1
    exact opInt64S _ _ _ _ _ _ _ _ hf
  cases e1
  clear hA0 hval0 hsz0
  refine (lawDriveCrash_c x0 x1 A0 c0 a1 cap1 W R0 R1 ok0).mono fun e W' ⟨he, bel⟩ => ?_
  subst he
  exact ⟨_, rfl, _, _, _, [], _, [], hW', trodAll_mk1 (shut_bool Try.underlying4 _), (trodAll_cons_mk (Below.trod laidOut (by kernel_rfl) (of_decide_eq_true (by kernel_rfl)) k0 bel lt0) (trodAll_cons_mk (Below.trod laidOut (by kernel_rfl) (of_decide_eq_true (by kernel_rfl)) k1 bel lt1) trodAll_mk0)), rfl, bel.frame _, fun h => by cases h⟩
theorem over : Rows.fnExactDriveCrashRow.holds Try.pinned (OpenSpec.ofChange Rows.fnExactDriveCrashSpec) :=
  OpenClaim.holds_of_wide 4 Try.f4 rfl rfl rfl rfl rfl rfl rfl ⟨rfl, rfl, rfl, rfl, rfl⟩ rfl rfl rfl rfl rfl (by kernel_rfl) Try.func4 (by kernel_rfl)
    (of_decide_eq_true (by kernel_rfl)) (by unfold Func.isWrapper; first | (rw [if_pos (by decide +kernel)]; kernel_rfl) | (rw [if_neg (by decide +kernel)]; exact ⟨rfl, rfl⟩))
    (fun os started H enc _ => lifted os started H enc)
theorem proved : Rows.FnExactDriveCrashSaid := over
#print axioms proved
end Go.Proofs.Ytdgnpkffdiopaaa.fnExactDriveCrash
namespace Go.Proofs.Ytdgnpkffdiopaaa
/-- The row, under a short name, for the claim. -/
theorem fnExactDriveCrash_holds : Rows.FnExactDriveCrashSaid := fnExactDriveCrash.proved
end Go.Proofs.Ytdgnpkffdiopaaa
