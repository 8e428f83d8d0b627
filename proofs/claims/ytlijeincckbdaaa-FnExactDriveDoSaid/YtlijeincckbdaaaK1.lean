import Derived.Test.YtlijeincckbdaaaDd
import Derived.Test.YtlijeincckbdaaaTb
namespace Go.Proofs.Ytlijeincckbdaaa
open Go.RowKit
set_option maxRecDepth 100000 in
theorem markText_c (k : Nat) (h1 : 1 ≤ k) (h2 : k ≤ 4611686018427387904) : Fun1 Try.prog 107 [.one (.lit (.int .i64 k))] (.one (.lit (.string (markStr k)))) := by
  refine fun1_of_vc tb_ok mix (fn := Try.f107) Try.func107 rfl (by kernel_rfl) (by kernel_rfl) (by simp [Try.f58]) (by simp [T.nb, AV.nb]) ?_
  (conv => whnf)
  (split <;> rename_i h <;> (try simp only [decide_eq_true_eq, decide_eq_false_iff_not, Bool.not_eq_true', Bool.not_eq_false', Bool.not_eq_true, Bool.not_eq_false, List.length_map] at h) <;> conv => whnf)
  · omega
  refine ⟨fun σ m => ∃ out : ByteArray, m ≤ k ∧ m < 2 ^ (63 - out.size) ∧ out.size ≤ 63 ∧ markLoop m out = markLoop k ⟨#[]⟩ ∧ σ = AS.of [(0, .one (.lit (.int .i64 (m : Nat)))), (3, .one (.lit (.string out)))] [], ⟨_, k, weak_of (by repeat (first | refine all_cons (by first | rfl | exact eq_int rfl (by first | rfl | omega | (simp; done) | (simp; omega)) | exact eq_loc rfl (by first | rfl | omega | (simp; done) | (simp; omega)) | exact eq_bool rfl (by simp_all)) ?_ | exact all_nil)) (by repeat (first | refine all_cons (by first | rfl | exact eq_int rfl (by first | rfl | omega | (simp; done) | (simp; omega)) | exact eq_loc rfl (by first | rfl | omega | (simp; done) | (simp; omega)) | exact eq_bool rfl (by simp_all)) ?_ | exact all_nil)) rfl rfl, _, Nat.le_refl _, ?_, ?_, rfl, rfl⟩, ?_⟩
  · simp [ByteArray.size]; omega
  · simp [ByteArray.size]
  rintro σ m ⟨out, hmk, hm, ho, hout, rfl⟩
  refine ⟨_, Weak.refl _, ?_⟩
  (conv => whnf)
  (split <;> rename_i h <;> (try simp only [decide_eq_true_eq, decide_eq_false_iff_not, Bool.not_eq_true', Bool.not_eq_false', Bool.not_eq_true, Bool.not_eq_false, List.length_map] at h) <;> conv => whnf)
  · have hs : ∃ q, 63 - out.size = q + 1 := ⟨62 - out.size, by
      rcases Nat.eq_or_lt_of_le ho with e | e
      · rw [e] at hm; simp at hm; omega
      · omega⟩
    obtain ⟨q, hq⟩ := hs
    rw [hq, Nat.pow_succ] at hm
    refine ⟨by decide, ((m % 10 : Nat) : Int), by rw [Int.ofNat_tmod]; rfl, ?_⟩
    (conv => whnf)
    refine ⟨((48 + m % 10 : Nat) : Int), by rw [← wrap64_id] <;> omega, ?_⟩
    (conv => whnf)
    refine ⟨((UInt8.ofNat (48 + m % 10)).toNat : Int), by simp [IntKind.wrap, IntKind.signed, IntKind.bits], ?_⟩
    (conv => whnf)
    refine ⟨true, _, [UInt8.ofNat (48 + m % 10)], ⟨rfl, Nat.le_refl 1, rfl, rfl⟩, rfl, ?_⟩
    (conv => whnf)
    refine ⟨?_, ?_⟩
    · show 1 + out.size ≤ _
      omega
    (conv => whnf)
    refine ⟨by decide, ((m / 10 : Nat) : Int), by rw [show ((m : Int).tdiv 10) = ((m / 10 : Nat) : Int) from (Int.ofNat_tdiv m 10).symm, ← wrap64_id] <;> omega, ?_⟩
    (conv => whnf)
    refine ⟨_, m / 10, weak_of (by repeat (first | refine all_cons (by first | rfl | exact eq_int rfl (by first | rfl | omega | (simp; done) | (simp; omega)) | exact eq_loc rfl (by first | rfl | omega | (simp; done) | (simp; omega)) | exact eq_bool rfl (by simp_all)) ?_ | exact all_nil)) (by repeat (first | refine all_cons (by first | rfl | exact eq_int rfl (by first | rfl | omega | (simp; done) | (simp; omega)) | exact eq_loc rfl (by first | rfl | omega | (simp; done) | (simp; omega)) | exact eq_bool rfl (by simp_all)) ?_ | exact all_nil)) rfl rfl, ?_, ⟨#[UInt8.ofNat (48 + m % 10)]⟩ ++ out, ?_, ?_, ?_, ?_, rfl⟩
    · omega
    · omega
    · rw [ByteArray.size_append]
      show m / 10 < 2 ^ (63 - (1 + out.size))
      rw [show 63 - (1 + out.size) = q by omega]; omega
    · rw [ByteArray.size_append]
      show 1 + out.size ≤ 63
      omega
    · rw [← hout]; conv => rhs; rw [markLoop, dif_neg (by omega)]
  · have : m = 0 := by omega
    subst this
    rw [markLoop, dif_pos rfl] at hout
    refine ⟨?_, close_str (by rw [hout]; rfl), trivial⟩
    show 1 + out.size ≤ _
    omega
end Go.Proofs.Ytlijeincckbdaaa
