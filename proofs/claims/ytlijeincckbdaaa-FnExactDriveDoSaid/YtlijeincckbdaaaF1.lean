/- What comparing two strings does. -/
import Derived.Test.YtlijeincckbdaaaS2
import Derived.Lib.Strings
import Derived.Lib.Slices
import Derived.Lib.Walk
import Derived.Lib.Bytealg
namespace Go.Proofs.Ytlijeincckbdaaa
open Go.RowKit
set_option linter.unusedSimpArgs false
set_option linter.unusedVariables false
/-- A function that only reckons on two values. -/
theorem fun1_of_calls2 {P : Program} {f : FuncId} {a b v : Value} (hc : Callable P f) (hv : v.oneCell' = true) (h : ∀ w, Calls P f #[a, b] w fun e w' => e = .returned v ∧ w = w') : Fun1 P f [.one (.lit a), .one (.lit b)] (.one (.lit v)) := by
  refine ⟨hc, by simp [T.nb, AV.nb], fun w I vs hI hargs => ?_⟩
  obtain ⟨vs⟩ := vs
  match vs, hargs with
  | [x, y], hargs =>
    have hx := hargs.1.1
    have hy := hargs.2.1.1
    cases hx; cases hy
    refine (h w).mono ?_
    rintro e w' ⟨rfl, rfl⟩
    exact ⟨v, fun _ => False, rfl, ⟨.plain rfl (.lit v) (fun _ h => h), hv⟩, fun _ h => h.elim, Below.refl _ _⟩
set_option maxHeartbeats 1000000 in
set_option maxRecDepth 100000 in
theorem bytealgCompare_c (a b : ByteArray) (w : World) :
    Calls Try.prog 216 #[.string a, .string b] w fun e w' => e = .returned (.int .i64 (Lib.compareBytes a.data.toList b.data.toList)) ∧ w = w' := by
  go_enter Try.func216, Try.ntmps216
  go_wp2
  rw [run_callFunc_extern Try.func234 (by kernel_rfl) (by kernel_rfl) (by kernel_rfl) (e := Extern.BytealgCompare.compare) (by kernel_rfl), Lib.run_compareString]
  simp only [Result.andThen]
  rw [Oper.upon_value]
  go_wp2
  go_ret
  exact ⟨rfl, rfl⟩
theorem bytealgCmp_c (a b : ByteArray) : Fun1 Try.prog 216 [.one (.lit (.string a)), .one (.lit (.string b))] (.one (.lit (.int .i64 (cmpB a b)))) :=
  fun1_of_calls2 ⟨_, Try.func216, rfl, by kernel_rfl⟩ rfl (bytealgCompare_c a b)
set_option maxRecDepth 100000
theorem compare_c (a b : ByteArray) : Fun1 Try.prog 175 [.one (.lit (.string a)), .one (.lit (.string b))] (.one (.lit (.int .i64 (cmpB a b)))) := by
  refine fun1_of_vc tb_ok mix (fn := Try.f175) Try.func175 rfl (by kernel_rfl) (by kernel_rfl) (by simp [Try.f175]) (by rfl) ?_
  (conv => whnf)
  refine ⟨_, _, bytealgCmp_c a b, (by repeat' (first | exact lends_nil | exact lend_dead | apply lends_cons | apply lend_agg | apply lend_one | exact all2_nil | apply all2_cons | exact la_lit rfl | exact la_int (by first | rfl | omega) | exact la_row rfl rfl | exact la_loc rfl rfl rfl (by first | rfl | simp [mkL_length]) (by first | rfl | simp) | exact la_nil rfl | apply la_fn rfl | exact lend_same rfl rfl | exact lend_bor rfl rfl)), ?_⟩; (conv => whnf)
  exact (by repeat' (first | exact trivial | exact close_int rfl | exact close_str rfl | exact close_bool rfl | exact close_int (by omega) | exact close_row rfl rfl (by first | rfl | simp) (by first | rfl | simp) | exact close_nil (by first | rfl | simp) | exact rfl | apply And.intro | apply closeTs_cons rfl))
end Go.Proofs.Ytlijeincckbdaaa
