/- Contracts of the law's own functions: marks. -/
import Derived.Test.YtlijeincckbdaaaQe
import Derived.Test.YtlijeincckbdaaaQT
import Derived.Test.YtlijeincckbdaaaQf
namespace Go.Proofs.Ytlijeincckbdaaa
open Go.RowKit
set_option maxRecDepth 100000 in
theorem markText_c (k : Nat) (h1 : 1 ≤ k) (h2 : k ≤ 4611686018427387904) : Fun1 Try.prog 107 [.one (.lit (.int .i64 k))] (.one (.lit (.string (markStr k)))) := by
  refine fun1_of_vc tb_ok mix (fn := Try.f107) Try.func107 rfl (by kernel_rfl) (by kernel_rfl) (by simp [Try.f58]) (by simp [T.nb, AV.nb]) ?_
  (conv => whnf)
  (split <;> rename_i h <;> (try simp only [decide_eq_true_eq, decide_eq_false_iff_not, Bool.not_eq_true', Bool.not_eq_false', Bool.not_eq_true, Bool.not_eq_false, List.length_map] at h) <;> conv => whnf)
  · omega
  refine ⟨fun σ m => ∃ out : ByteArray, m ≤ k ∧ m < 2 ^ (63 - out.size) ∧ out.size ≤ 63 ∧ markLoop m out = markLoop k ⟨#[]⟩ ∧ σ = AS.of [(0, .one (.lit (.int .i64 (m : Nat)))), (3, .one (.lit (.string out)))] [], ⟨_, k, weak_of (by repeat (first | refine all_cons (by first | rfl | exact eq_int rfl (by first | rfl | omega | (simp; done) | (simp; omega)) | exact eq_loc rfl (by first | rfl | omega | (simp; done) | (simp; omega)) | exact eq_bool rfl (by simp_all)) ?_ | exact all_nil)) (by repeat (first | refine all_cons (by first | rfl | exact eq_int rfl (by first | rfl | omega | (simp; done) | (simp; omega)) | exact eq_loc rfl (by first | rfl | omega | (simp; done) | (simp; omega)) | exact eq_bool rfl (by simp_all)) ?_ | exact all_nil)) rfl rfl, _, Nat.le_refl _, ?_, ?_, rfl, rfl⟩, ?_⟩
  · simp [ByteArray.size]; omega
  · simp [ByteArray.size]
  rintro σ m ⟨out, hmk, hm, ho, hout, rfl⟩
  refine ⟨_, Weak.refl _, ?_⟩
  (conv => whnf)
  (split <;> rename_i h <;> (try simp only [decide_eq_true_eq, decide_eq_false_iff_not, Bool.not_eq_true', Bool.not_eq_false', Bool.not_eq_true, Bool.not_eq_false, List.length_map] at h) <;> conv => whnf)
  · have hs : ∃ q, 63 - out.size = q + 1 := ⟨62 - out.size, by
      rcases Nat.eq_or_lt_of_le ho with e | e
      · rw [e] at hm; simp at hm; omega
      · omega⟩
    obtain ⟨q, hq⟩ := hs
    rw [hq, Nat.pow_succ] at hm
    refine ⟨by decide, ((m % 10 : Nat) : Int), by rw [Int.ofNat_tmod]; rfl, ?_⟩
    (conv => whnf)
    refine ⟨((48 + m % 10 : Nat) : Int), by rw [← wrap64_id] <;> omega, ?_⟩
    (conv => whnf)
    refine ⟨((UInt8.ofNat (48 + m % 10)).toNat : Int), by simp [IntKind.wrap, IntKind.signed, IntKind.bits], ?_⟩
    (conv => whnf)
    refine ⟨true, _, [UInt8.ofNat (48 + m % 10)], ⟨rfl, Nat.le_refl 1, rfl, rfl⟩, rfl, ?_⟩
    (conv => whnf)
    refine ⟨?_, ?_⟩
    · show 1 + out.size ≤ _
      omega
    (conv => whnf)
    refine ⟨by decide, ((m / 10 : Nat) : Int), by rw [show ((m : Int).tdiv 10) = ((m / 10 : Nat) : Int) from (Int.ofNat_tdiv m 10).symm, ← wrap64_id] <;> omega, ?_⟩
    (conv => whnf)
    refine ⟨_, m / 10, weak_of (by repeat (first | refine all_cons (by first | rfl | exact eq_int rfl (by first | rfl | omega | (simp; done) | (simp; omega)) | exact eq_loc rfl (by first | rfl | omega | (simp; done) | (simp; omega)) | exact eq_bool rfl (by simp_all)) ?_ | exact all_nil)) (by repeat (first | refine all_cons (by first | rfl | exact eq_int rfl (by first | rfl | omega | (simp; done) | (simp; omega)) | exact eq_loc rfl (by first | rfl | omega | (simp; done) | (simp; omega)) | exact eq_bool rfl (by simp_all)) ?_ | exact all_nil)) rfl rfl, ?_, ⟨#[UInt8.ofNat (48 + m % 10)]⟩ ++ out, ?_, ?_, ?_, ?_, rfl⟩
    · omega
    · omega
    · rw [ByteArray.size_append]
      show m / 10 < 2 ^ (63 - (1 + out.size))
      rw [show 63 - (1 + out.size) = q by omega]; omega
    · rw [ByteArray.size_append]
      show 1 + out.size ≤ 63
      omega
    · rw [← hout]; conv => rhs; rw [markLoop, dif_neg (by omega)]
  · have : m = 0 := by omega
    subst this
    rw [markLoop, dif_pos rfl] at hout
    refine ⟨?_, close_str (by rw [hout]; rfl), trivial⟩
    show 1 + out.size ≤ _
    omega
end Go.Proofs.Ytlijeincckbdaaa
namespace Go.Proofs.Ytlijeincckbdaaa
open Go.RowKit
set_option linter.unusedSimpArgs false
set_option linter.unusedVariables false
set_option maxRecDepth 100000
theorem markStoredS_c (l : List DStored) (k : Nat) (h1 : 1 ≤ k) (h2 : k + cnL DStored.cnE l ≤ 4611686018427387904) (hl : l.length ≤ 4611686018427387904) :
    MutF Try.prog 96 [.one (.loc 0 0 l.length), .one (.lit (.int .i64 k))] [(3, l.map DStored.enc)] [(3, (mkL DStored.mkE DStored.cnE l k).map DStored.enc)] (.int .i64 ((k + cnL DStored.cnE l : Nat) : Int)) := by
  refine mutf_of_vc tb_ok mix (fn := Try.f96) Try.func96 rfl (by kernel_rfl) (by kernel_rfl) (by simp [Try.f96]) (by simp) (by exact nbRows_cons (nbRow_map (fun y => DStored.enc_nb y) _) nbRows_nil) (by exact nbRows_cons (nbRow_map (fun y => DStored.enc_nb y) _) nbRows_nil) rfl fun at_ => ?_
  (conv => whnf)
  refine ⟨LG (fun i : Nat => i ≤ l.length) (fun i => l.length - i) (fun i => AS.of [(0, .one (.loc 0 0 l.length)), (1, .one (.lit (.int .i64 ((k + cnL DStored.cnE (l.take i) : Nat) : Int)))), (5, .one (.lit (.int .i64 (i : Nat))))] [(0, .row true 3 ((mkL DStored.mkE DStored.cnE (l.take i) k).map DStored.enc ++ (l.drop i).map DStored.enc)), (8, .pin 0 (at_ 0))]), lg_init 0 (by omega) (weak_of (by repeat (first | refine all_cons (by first | rfl | exact eq_int rfl (by first | rfl | omega | (simp; done) | (simp; omega)) | exact eq_loc rfl (by first | rfl | omega | (simp; done) | (simp; omega)) | exact eq_bool rfl (by simp_all)) ?_ | exact all_nil)) (by repeat (first | refine all_cons (by first | rfl | exact eq_int rfl (by first | rfl | omega | (simp; done) | (simp; omega)) | exact eq_loc rfl (by first | rfl | omega | (simp; done) | (simp; omega)) | exact eq_bool rfl (by simp_all)) ?_ | exact all_nil)) rfl rfl), ?_⟩
  rintro σ m ⟨i, hi, rfl, rfl⟩
  by_cases hlt : i < l.length
  · have hd : l.drop i = l[i] :: l.drop (i + 1) := List.drop_eq_getElem_cons hlt
    have hml : ((mkL DStored.mkE DStored.cnE (l.take i) k).map DStored.enc).length = 0 + i := by simp [mkL_length]; omega
    have hcs := cnL_take_succ (cn := DStored.cnE) hlt
    have hcl := cnL_take_le (cn := DStored.cnE) (l := l) (i := i + 1)
    have hts : (mkL DStored.mkE DStored.cnE (l.take (i + 1)) k).map DStored.enc = (mkL DStored.mkE DStored.cnE (l.take i) k).map DStored.enc ++ [DStored.enc (DStored.mkE l[i] (k + cnL DStored.cnE (l.take i)))] := by rw [mkL_take_succ hlt, List.map_append]; rfl
    generalize hq : k + cnL DStored.cnE (l.take i) = q at hts
    have hcn : DStored.cnE l[i] = 1 + 1 + 1 := rfl
    refine ⟨_, weak_of (tl := [(0, .one (.loc 0 0 l.length)), (1, .one (.lit (.int .i64 (q : Nat)))), (5, .one (.lit (.int .i64 (i : Nat))))]) (ml := [(0, .row true 3 ((mkL DStored.mkE DStored.cnE (l.take i) k).map DStored.enc ++ [.lit (.string l[i].name), .lit (.string l[i].text), .lit (.int .i64 l[i].synced)] :: (l.drop (i + 1)).map DStored.enc)), (8, .pin 0 (at_ 0))]) (by exact all_cons rfl (all_cons (eq_int rfl (by omega)) (all_cons rfl all_nil))) (by exact all_cons (eq_row rfl (by rw [hd]; rfl)) (all_cons rfl all_nil)) rfl rfl, ?_⟩
    (conv => whnf)
    split <;> rename_i hb
    case h_2 => simp at hb; omega
    clear hb; (conv => whnf)
    refine ⟨_, _, markText_c (q) (by omega) (by omega), (by repeat' (first | exact lends_nil | exact lend_dead | apply lends_cons | apply lend_agg | apply lend_one | exact all2_nil | apply all2_cons | exact la_lit rfl | exact la_int (by first | rfl | omega) | exact la_row rfl rfl | exact la_loc rfl rfl rfl (by first | rfl | simp [mkL_length]) (by first | rfl | simp) | exact la_nil rfl | apply la_fn rfl | exact lend_same rfl rfl | exact lend_bor rfl rfl)), ?_⟩; (conv => whnf)
    refine ⟨i, rfl, hlt, ?_⟩; (conv => whnf)
    refine ⟨_, at_mid hml, ?_⟩; (conv => whnf)
    refine ⟨_, set_mid hml, ?_⟩; (conv => whnf)
    refine ⟨((q + 1 : Nat) : Int), by rw [← wrap64_id] <;> omega, ?_⟩; (conv => whnf)
    refine ⟨_, _, markText_c (q + 1) (by omega) (by omega), (by repeat' (first | exact lends_nil | exact lend_dead | apply lends_cons | apply lend_agg | apply lend_one | exact all2_nil | apply all2_cons | exact la_lit rfl | exact la_int (by first | rfl | omega) | exact la_row rfl rfl | exact la_loc rfl rfl rfl (by first | rfl | simp [mkL_length]) (by first | rfl | simp) | exact la_nil rfl | apply la_fn rfl | exact lend_same rfl rfl | exact lend_bor rfl rfl)), ?_⟩; (conv => whnf)
    refine ⟨i, rfl, hlt, ?_⟩; (conv => whnf)
    refine ⟨_, at_mid hml, ?_⟩; (conv => whnf)
    refine ⟨_, set_mid hml, ?_⟩; (conv => whnf)
    refine ⟨((q + 1 + 1 : Nat) : Int), by rw [← wrap64_id] <;> omega, ?_⟩; (conv => whnf)
    refine ⟨i, rfl, hlt, ?_⟩; (conv => whnf)
    refine ⟨_, at_mid hml, ?_⟩; (conv => whnf)
    refine ⟨_, set_mid hml, ?_⟩; (conv => whnf)
    refine ⟨((q + 1 + 1 + 1 : Nat) : Int), by rw [← wrap64_id] <;> omega, ?_⟩; (conv => whnf)
    refine ⟨((i + 1 : Nat) : Int), by rw [← wrap64_id] <;> omega, ?_⟩; (conv => whnf)
    exact lg_back (i + 1) (by omega) (by (try dsimp only); omega) (weak_of (by exact all_cons rfl (all_cons (eq_int rfl (by omega)) (all_cons rfl all_nil))) (by exact all_cons (eq_row rfl (by rw [hts]; exact (List.append_assoc _ [_] _).symm)) (all_cons rfl all_nil)) rfl rfl)
  · have : i = l.length := by omega
    subst this
    refine ⟨_, Weak.refl _, ?_⟩
    (conv => whnf)
    split <;> rename_i hb
    case h_1 => simp at hb
    clear hb; (conv => whnf)
    refine ⟨by rw [List.take_length], ⟨rfl, ?_⟩, rfl, trivial⟩
    simp
theorem markDriveS_c (l : List DDrive) (k : Nat) (h1 : 1 ≤ k) (h2 : k + cnL DDrive.cnE l ≤ 4611686018427387904) (hl : l.length ≤ 4611686018427387904) (hx : ∀ y ∈ l, (y.files.length ≤ 4611686018427387904)) :
    MutF Try.prog 106 [.one (.loc 0 0 l.length), .one (.lit (.int .i64 k))] [(2, l.map DDrive.enc)] [(2, (mkL DDrive.mkE DDrive.cnE l k).map DDrive.enc)] (.int .i64 ((k + cnL DDrive.cnE l : Nat) : Int)) := by
  refine mutf_of_vc tb_ok mix (fn := Try.f106) Try.func106 rfl (by kernel_rfl) (by kernel_rfl) (by simp [Try.f106]) (by simp) (by exact nbRows_cons (nbRow_map (fun y => DDrive.enc_nb y) _) nbRows_nil) (by exact nbRows_cons (nbRow_map (fun y => DDrive.enc_nb y) _) nbRows_nil) rfl fun at_ => ?_
  (conv => whnf)
  refine ⟨LG (fun i : Nat => i ≤ l.length) (fun i => l.length - i) (fun i => AS.of [(0, .one (.loc 0 0 l.length)), (1, .one (.lit (.int .i64 ((k + cnL DDrive.cnE (l.take i) : Nat) : Int)))), (5, .one (.lit (.int .i64 (i : Nat))))] [(0, .row true 2 ((mkL DDrive.mkE DDrive.cnE (l.take i) k).map DDrive.enc ++ (l.drop i).map DDrive.enc)), (8, .pin 0 (at_ 0))]), lg_init 0 (by omega) (weak_of (by repeat (first | refine all_cons (by first | rfl | exact eq_int rfl (by first | rfl | omega | (simp; done) | (simp; omega)) | exact eq_loc rfl (by first | rfl | omega | (simp; done) | (simp; omega)) | exact eq_bool rfl (by simp_all)) ?_ | exact all_nil)) (by repeat (first | refine all_cons (by first | rfl | exact eq_int rfl (by first | rfl | omega | (simp; done) | (simp; omega)) | exact eq_loc rfl (by first | rfl | omega | (simp; done) | (simp; omega)) | exact eq_bool rfl (by simp_all)) ?_ | exact all_nil)) rfl rfl), ?_⟩
  rintro σ m ⟨i, hi, rfl, rfl⟩
  by_cases hlt : i < l.length
  · have hd : l.drop i = l[i] :: l.drop (i + 1) := List.drop_eq_getElem_cons hlt
    have hml : ((mkL DDrive.mkE DDrive.cnE (l.take i) k).map DDrive.enc).length = 0 + i := by simp [mkL_length]; omega
    have hcs := cnL_take_succ (cn := DDrive.cnE) hlt
    have hcl := cnL_take_le (cn := DDrive.cnE) (l := l) (i := i + 1)
    have hts : (mkL DDrive.mkE DDrive.cnE (l.take (i + 1)) k).map DDrive.enc = (mkL DDrive.mkE DDrive.cnE (l.take i) k).map DDrive.enc ++ [DDrive.enc (DDrive.mkE l[i] (k + cnL DDrive.cnE (l.take i)))] := by rw [mkL_take_succ hlt, List.map_append]; rfl
    generalize hq : k + cnL DDrive.cnE (l.take i) = q at hts
    have hcn : DDrive.cnE l[i] = (cnL DStored.cnE) l[i].files + 1 := rfl
    have hxi := hx l[i] (List.getElem_mem hlt)
    refine ⟨_, Weak.trans (weak_of (tl := [(0, .one (.loc 0 0 l.length)), (1, .one (.lit (.int .i64 (q : Nat)))), (5, .one (.lit (.int .i64 (i : Nat))))]) (ml := [(0, .row true 2 ((mkL DDrive.mkE DDrive.cnE (l.take i) k).map DDrive.enc ++ [.row true 3 (l[i].files.map DStored.enc), .lit (.int .i64 l[i].room)] :: (l.drop (i + 1)).map DDrive.enc)), (8, .pin 0 (at_ 0))]) (by exact all_cons rfl (all_cons (eq_int rfl (by omega)) (all_cons rfl all_nil))) (by exact all_cons (eq_row rfl (by rw [hd]; rfl)) (all_cons rfl all_nil)) rfl rfl) (weak_focus 0 40 ((mkL DDrive.mkE DDrive.cnE (l.take i) k).map DDrive.enc) ((l.drop (i + 1)).map DDrive.enc) [] [.lit (.int .i64 l[i].room)] (es2 := l[i].files.map DStored.enc) rfl (sfm_cons (sf_mid (nbRow_map (fun y => DDrive.enc_nb y) _) (nbRow_map (fun y => DDrive.enc_nb y) _) (allb_cons (sf_nb (nb_map (n := 4) (fun y => DStored.enc_nbn 4 y) _)) (allb_cons rfl allb_nil))) (sfm_cons rfl sfm_nil)) (nbRow_map (fun y => DStored.enc_nb y) _) rfl rfl (weak_of (tl := [(0, .one (.loc 0 0 l.length)), (1, .one (.lit (.int .i64 ((q : Nat))))), (5, .one (.lit (.int .i64 (i : Nat))))]) (ml := [(0, .row false 2 ((mkL DDrive.mkE DDrive.cnE (l.take i) k).map DDrive.enc ++ [.loc 40 0 (l[i].files.map DStored.enc).length, .lit (.int .i64 l[i].room)] :: (l.drop (i + 1)).map DDrive.enc)), (40, .row true 3 (l[i].files.map DStored.enc)), (8, .pin 0 (at_ 0))]) (by repeat (first | refine all_cons (by first | rfl | exact eq_int rfl (by first | rfl | omega | (simp; done) | (simp; omega)) | exact eq_loc rfl (by first | rfl | omega | (simp; done) | (simp; omega)) | exact eq_bool rfl (by simp_all)) ?_ | exact all_nil)) (by repeat (first | refine all_cons (by first | rfl | exact eq_int rfl (by first | rfl | omega | (simp; done) | (simp; omega)) | exact eq_loc rfl (by first | rfl | omega | (simp; done) | (simp; omega)) | exact eq_bool rfl (by simp_all)) ?_ | exact all_nil)) rfl (onm_cons (only_mid (cellRow_map (fun y => rfl) _) (cellRow_map (fun y => rfl) _) rfl) (onm_cons rfl (onm_cons rfl onm_nil))))), ?_⟩
    (conv => whnf)
    split <;> rename_i hb
    case h_2 => simp at hb; omega
    clear hb; (conv => whnf)
    refine ⟨i, rfl, hlt, ?_⟩; (conv => whnf)
    refine ⟨_, at_mid hml, ?_⟩; (conv => whnf)
    have hm0 := markStoredS_c l[i].files (q) (by omega) (by omega) (by first | exact hxi | exact hxi.1 | exact hxi.2.1 | exact hxi.2 | omega)
    refine ⟨[(0, .one (.loc 0 0 l.length)), (5, .one (.lit (.int .i64 (i : Nat)))), (16, .one (.loc 40 0 (l[i].files.map DStored.enc).length)), (17, .one (.lit (.int .i64 ((q : Nat) : Int))))], [(0, .row false 2 ((mkL DDrive.mkE DDrive.cnE (l.take i) k).map DDrive.enc ++ [.loc 40 0 (l[i].files.map DStored.enc).length, .lit (.int .i64 l[i].room)] :: (l.drop (i + 1)).map DDrive.enc)), (40, .row true 3 (l[i].files.map DStored.enc)), (8, .pin 0 (at_ 0))], weak_of (by repeat (first | refine all_cons (by first | rfl | exact eq_int rfl (by first | rfl | omega | (simp; done) | (simp; omega)) | exact eq_loc rfl (by first | rfl | omega | (simp; done) | (simp; omega)) | exact eq_bool rfl (by simp_all)) ?_ | exact all_nil)) (by repeat (first | refine all_cons (by first | rfl | exact eq_int rfl (by first | rfl | omega | (simp; done) | (simp; omega)) | exact eq_loc rfl (by first | rfl | omega | (simp; done) | (simp; omega)) | exact eq_bool rfl (by simp_all)) ?_ | exact all_nil)) rfl (onm_cons (only_mid (cellRow_map (fun y => rfl) _) (cellRow_map (fun y => rfl) _) rfl) (onm_cons rfl (onm_cons rfl onm_nil))), _, _, _, _, [40], hm0, rens_cons (ren_one (ren_loc rfl (by simp))) (rens_cons (ren_one (ren_int (by first | rfl | omega))) rens_nil), hasRows_cons rfl hasRows_nil, (by decide), rfl, (sfm_cons (sf_mid (nbRow_map (fun y => DDrive.enc_nb y) _) (nbRow_map (fun y => DDrive.enc_nb y) _) (allb_cons rfl (allb_cons rfl allb_nil))) (sfm_cons (sf_row (nbRow_map (fun y => DStored.enc_nb y) _)) (sfm_cons rfl sfm_nil))), rfl, ?_⟩; (conv => whnf)
    refine ⟨i, rfl, hlt, ?_⟩; (conv => whnf)
    refine ⟨_, at_mid hml, ?_⟩; (conv => whnf)
    refine ⟨_, set_mid hml, ?_⟩; (conv => whnf)
    refine ⟨((q + (cnL DStored.cnE) l[i].files + 1 : Nat) : Int), by rw [← wrap64_id] <;> omega, ?_⟩; (conv => whnf)
    refine ⟨((i + 1 : Nat) : Int), by rw [← wrap64_id] <;> omega, ?_⟩; (conv => whnf)
    exact lg_back (i + 1) (by omega) (by (try dsimp only); omega) (weak_absorb 0 40 ((mkL DDrive.mkE DDrive.cnE (l.take i) k).map DDrive.enc) ((l.drop (i + 1)).map DDrive.enc) [] [.lit (.int .i64 ((q + (cnL DStored.cnE) l[i].files : Nat) : Int))] (es2 := ((mkL DStored.mkE DStored.cnE) l[i].files (q)).map DStored.enc) (by decide) (by first | rfl | (simp only [mkL_length, List.length_map]; rfl)) rfl (cellRow_map (fun y => rfl) _) (cellRow_map (fun y => rfl) _) rfl rfl (weak_of (by exact all_cons rfl (all_cons (eq_int rfl (by omega)) (all_cons rfl all_nil))) (by exact all_cons (eq_row rfl (by rw [hts]; exact (List.append_assoc _ [_] _).symm)) (all_cons rfl all_nil)) rfl rfl))
  · have : i = l.length := by omega
    subst this
    refine ⟨_, Weak.refl _, ?_⟩
    (conv => whnf)
    split <;> rename_i hb
    case h_1 => simp at hb
    clear hb; (conv => whnf)
    refine ⟨by rw [List.take_length], ⟨rfl, ?_⟩, rfl, trivial⟩
    simp
theorem markStepS_c (l : List DStep) (k : Nat) (h1 : 1 ≤ k) (h2 : k + cnL DStep.cnE l ≤ 4611686018427387904) (hl : l.length ≤ 4611686018427387904) :
    MutF Try.prog 29 [.one (.loc 0 0 l.length), .one (.lit (.int .i64 k))] [(5, l.map DStep.enc)] [(5, (mkL DStep.mkE DStep.cnE l k).map DStep.enc)] (.int .i64 ((k + cnL DStep.cnE l : Nat) : Int)) := by
  refine mutf_of_vc tb_ok mix (fn := Try.f29) Try.func29 rfl (by kernel_rfl) (by kernel_rfl) (by simp [Try.f29]) (by simp) (by exact nbRows_cons (nbRow_map (fun y => DStep.enc_nb y) _) nbRows_nil) (by exact nbRows_cons (nbRow_map (fun y => DStep.enc_nb y) _) nbRows_nil) rfl fun at_ => ?_
  (conv => whnf)
  refine ⟨LG (fun i : Nat => i ≤ l.length) (fun i => l.length - i) (fun i => AS.of [(0, .one (.loc 0 0 l.length)), (1, .one (.lit (.int .i64 ((k + cnL DStep.cnE (l.take i) : Nat) : Int)))), (5, .one (.lit (.int .i64 (i : Nat))))] [(0, .row true 5 ((mkL DStep.mkE DStep.cnE (l.take i) k).map DStep.enc ++ (l.drop i).map DStep.enc)), (8, .pin 0 (at_ 0))]), lg_init 0 (by omega) (weak_of (by repeat (first | refine all_cons (by first | rfl | exact eq_int rfl (by first | rfl | omega | (simp; done) | (simp; omega)) | exact eq_loc rfl (by first | rfl | omega | (simp; done) | (simp; omega)) | exact eq_bool rfl (by simp_all)) ?_ | exact all_nil)) (by repeat (first | refine all_cons (by first | rfl | exact eq_int rfl (by first | rfl | omega | (simp; done) | (simp; omega)) | exact eq_loc rfl (by first | rfl | omega | (simp; done) | (simp; omega)) | exact eq_bool rfl (by simp_all)) ?_ | exact all_nil)) rfl rfl), ?_⟩
  rintro σ m ⟨i, hi, rfl, rfl⟩
  by_cases hlt : i < l.length
  · have hd : l.drop i = l[i] :: l.drop (i + 1) := List.drop_eq_getElem_cons hlt
    have hml : ((mkL DStep.mkE DStep.cnE (l.take i) k).map DStep.enc).length = 0 + i := by simp [mkL_length]; omega
    have hcs := cnL_take_succ (cn := DStep.cnE) hlt
    have hcl := cnL_take_le (cn := DStep.cnE) (l := l) (i := i + 1)
    have hts : (mkL DStep.mkE DStep.cnE (l.take (i + 1)) k).map DStep.enc = (mkL DStep.mkE DStep.cnE (l.take i) k).map DStep.enc ++ [DStep.enc (DStep.mkE l[i] (k + cnL DStep.cnE (l.take i)))] := by rw [mkL_take_succ hlt, List.map_append]; rfl
    generalize hq : k + cnL DStep.cnE (l.take i) = q at hts
    have hcn : DStep.cnE l[i] = 1 + 1 + 1 + 1 + 1 := rfl
    refine ⟨_, weak_of (tl := [(0, .one (.loc 0 0 l.length)), (1, .one (.lit (.int .i64 (q : Nat)))), (5, .one (.lit (.int .i64 (i : Nat))))]) (ml := [(0, .row true 5 ((mkL DStep.mkE DStep.cnE (l.take i) k).map DStep.enc ++ [.lit (.int .i64 l[i].drive), .lit (.int .i64 l[i].op.kind), .lit (.string l[i].op.name), .lit (.string l[i].op.to), .lit (.string l[i].op.text)] :: (l.drop (i + 1)).map DStep.enc)), (8, .pin 0 (at_ 0))]) (by exact all_cons rfl (all_cons (eq_int rfl (by omega)) (all_cons rfl all_nil))) (by exact all_cons (eq_row rfl (by rw [hd]; rfl)) (all_cons rfl all_nil)) rfl rfl, ?_⟩
    (conv => whnf)
    split <;> rename_i hb
    case h_2 => simp at hb; omega
    clear hb; (conv => whnf)
    refine ⟨i, rfl, hlt, ?_⟩; (conv => whnf)
    refine ⟨_, at_mid hml, ?_⟩; (conv => whnf)
    refine ⟨_, set_mid hml, ?_⟩; (conv => whnf)
    refine ⟨((q + 1 : Nat) : Int), by rw [← wrap64_id] <;> omega, ?_⟩; (conv => whnf)
    refine ⟨i, rfl, hlt, ?_⟩; (conv => whnf)
    refine ⟨_, at_mid hml, ?_⟩; (conv => whnf)
    refine ⟨_, set_mid hml, ?_⟩; (conv => whnf)
    refine ⟨((q + 1 + 1 : Nat) : Int), by rw [← wrap64_id] <;> omega, ?_⟩; (conv => whnf)
    refine ⟨_, _, markText_c (q + 1 + 1) (by omega) (by omega), (by repeat' (first | exact lends_nil | exact lend_dead | apply lends_cons | apply lend_agg | apply lend_one | exact all2_nil | apply all2_cons | exact la_lit rfl | exact la_int (by first | rfl | omega) | exact la_row rfl rfl | exact la_loc rfl rfl rfl (by first | rfl | simp [mkL_length]) (by first | rfl | simp) | exact la_nil rfl | apply la_fn rfl | exact lend_same rfl rfl | exact lend_bor rfl rfl)), ?_⟩; (conv => whnf)
    refine ⟨i, rfl, hlt, ?_⟩; (conv => whnf)
    refine ⟨_, at_mid hml, ?_⟩; (conv => whnf)
    refine ⟨_, set_mid hml, ?_⟩; (conv => whnf)
    refine ⟨((q + 1 + 1 + 1 : Nat) : Int), by rw [← wrap64_id] <;> omega, ?_⟩; (conv => whnf)
    refine ⟨_, _, markText_c (q + 1 + 1 + 1) (by omega) (by omega), (by repeat' (first | exact lends_nil | exact lend_dead | apply lends_cons | apply lend_agg | apply lend_one | exact all2_nil | apply all2_cons | exact la_lit rfl | exact la_int (by first | rfl | omega) | exact la_row rfl rfl | exact la_loc rfl rfl rfl (by first | rfl | simp [mkL_length]) (by first | rfl | simp) | exact la_nil rfl | apply la_fn rfl | exact lend_same rfl rfl | exact lend_bor rfl rfl)), ?_⟩; (conv => whnf)
    refine ⟨i, rfl, hlt, ?_⟩; (conv => whnf)
    refine ⟨_, at_mid hml, ?_⟩; (conv => whnf)
    refine ⟨_, set_mid hml, ?_⟩; (conv => whnf)
    refine ⟨((q + 1 + 1 + 1 + 1 : Nat) : Int), by rw [← wrap64_id] <;> omega, ?_⟩; (conv => whnf)
    refine ⟨_, _, markText_c (q + 1 + 1 + 1 + 1) (by omega) (by omega), (by repeat' (first | exact lends_nil | exact lend_dead | apply lends_cons | apply lend_agg | apply lend_one | exact all2_nil | apply all2_cons | exact la_lit rfl | exact la_int (by first | rfl | omega) | exact la_row rfl rfl | exact la_loc rfl rfl rfl (by first | rfl | simp [mkL_length]) (by first | rfl | simp) | exact la_nil rfl | apply la_fn rfl | exact lend_same rfl rfl | exact lend_bor rfl rfl)), ?_⟩; (conv => whnf)
    refine ⟨i, rfl, hlt, ?_⟩; (conv => whnf)
    refine ⟨_, at_mid hml, ?_⟩; (conv => whnf)
    refine ⟨_, set_mid hml, ?_⟩; (conv => whnf)
    refine ⟨((q + 1 + 1 + 1 + 1 + 1 : Nat) : Int), by rw [← wrap64_id] <;> omega, ?_⟩; (conv => whnf)
    refine ⟨((i + 1 : Nat) : Int), by rw [← wrap64_id] <;> omega, ?_⟩; (conv => whnf)
    exact lg_back (i + 1) (by omega) (by (try dsimp only); omega) (weak_of (by exact all_cons rfl (all_cons (eq_int rfl (by omega)) (all_cons rfl all_nil))) (by exact all_cons (eq_row rfl (by rw [hts]; exact (List.append_assoc _ [_] _).symm)) (all_cons rfl all_nil)) rfl rfl)
  · have : i = l.length := by omega
    subst this
    refine ⟨_, Weak.refl _, ?_⟩
    (conv => whnf)
    split <;> rename_i hb
    case h_1 => simp at hb
    clear hb; (conv => whnf)
    refine ⟨by rw [List.take_length], ⟨rfl, ?_⟩, rfl, trivial⟩
    simp
theorem markClientS_c (l : List DClient) (k : Nat) (h1 : 1 ≤ k) (h2 : k + cnL DClient.cnE l ≤ 4611686018427387904) (hl : l.length ≤ 4611686018427387904) (hx : ∀ y ∈ l, (y.steps.length ≤ 4611686018427387904)) :
    MutF Try.prog 150 [.one (.loc 0 0 l.length), .one (.lit (.int .i64 k))] [(5, l.map DClient.enc)] [(5, (mkL DClient.mkE DClient.cnE l k).map DClient.enc)] (.int .i64 ((k + cnL DClient.cnE l : Nat) : Int)) := by
  refine mutf_of_vc tb_ok mix (fn := Try.f150) Try.func150 rfl (by kernel_rfl) (by kernel_rfl) (by simp [Try.f150]) (by simp) (by exact nbRows_cons (nbRow_map (fun y => DClient.enc_nb y) _) nbRows_nil) (by exact nbRows_cons (nbRow_map (fun y => DClient.enc_nb y) _) nbRows_nil) rfl fun at_ => ?_
  (conv => whnf)
  refine ⟨LG (fun i : Nat => i ≤ l.length) (fun i => l.length - i) (fun i => AS.of [(0, .one (.loc 0 0 l.length)), (1, .one (.lit (.int .i64 ((k + cnL DClient.cnE (l.take i) : Nat) : Int)))), (5, .one (.lit (.int .i64 (i : Nat))))] [(0, .row true 5 ((mkL DClient.mkE DClient.cnE (l.take i) k).map DClient.enc ++ (l.drop i).map DClient.enc)), (8, .pin 0 (at_ 0))]), lg_init 0 (by omega) (weak_of (by repeat (first | refine all_cons (by first | rfl | exact eq_int rfl (by first | rfl | omega | (simp; done) | (simp; omega)) | exact eq_loc rfl (by first | rfl | omega | (simp; done) | (simp; omega)) | exact eq_bool rfl (by simp_all)) ?_ | exact all_nil)) (by repeat (first | refine all_cons (by first | rfl | exact eq_int rfl (by first | rfl | omega | (simp; done) | (simp; omega)) | exact eq_loc rfl (by first | rfl | omega | (simp; done) | (simp; omega)) | exact eq_bool rfl (by simp_all)) ?_ | exact all_nil)) rfl rfl), ?_⟩
  rintro σ m ⟨i, hi, rfl, rfl⟩
  by_cases hlt : i < l.length
  · have hd : l.drop i = l[i] :: l.drop (i + 1) := List.drop_eq_getElem_cons hlt
    have hml : ((mkL DClient.mkE DClient.cnE (l.take i) k).map DClient.enc).length = 0 + i := by simp [mkL_length]; omega
    have hcs := cnL_take_succ (cn := DClient.cnE) hlt
    have hcl := cnL_take_le (cn := DClient.cnE) (l := l) (i := i + 1)
    have hts : (mkL DClient.mkE DClient.cnE (l.take (i + 1)) k).map DClient.enc = (mkL DClient.mkE DClient.cnE (l.take i) k).map DClient.enc ++ [DClient.enc (DClient.mkE l[i] (k + cnL DClient.cnE (l.take i)))] := by rw [mkL_take_succ hlt, List.map_append]; rfl
    generalize hq : k + cnL DClient.cnE (l.take i) = q at hts
    have hcn : DClient.cnE l[i] = 1 + 1 + (cnL DStep.cnE) l[i].steps + 1 + 1 := rfl
    have hxi := hx l[i] (List.getElem_mem hlt)
    refine ⟨_, Weak.trans (weak_of (tl := [(0, .one (.loc 0 0 l.length)), (1, .one (.lit (.int .i64 (q : Nat)))), (5, .one (.lit (.int .i64 (i : Nat))))]) (ml := [(0, .row true 5 ((mkL DClient.mkE DClient.cnE (l.take i) k).map DClient.enc ++ [.lit (.int .i64 l[i].cmd), .lit (.string l[i].name), .row true 5 (l[i].steps.map DStep.enc), .lit (.int .i64 l[i].at_), .lit (.int .i64 l[i].until_)] :: (l.drop (i + 1)).map DClient.enc)), (8, .pin 0 (at_ 0))]) (by exact all_cons rfl (all_cons (eq_int rfl (by omega)) (all_cons rfl all_nil))) (by exact all_cons (eq_row rfl (by rw [hd]; rfl)) (all_cons rfl all_nil)) rfl rfl) (weak_focus 0 42 ((mkL DClient.mkE DClient.cnE (l.take i) k).map DClient.enc) ((l.drop (i + 1)).map DClient.enc) [.lit (.int .i64 l[i].cmd), .lit (.string l[i].name)] [.lit (.int .i64 l[i].at_), .lit (.int .i64 l[i].until_)] (es2 := l[i].steps.map DStep.enc) rfl (sfm_cons (sf_mid (nbRow_map (fun y => DClient.enc_nb y) _) (nbRow_map (fun y => DClient.enc_nb y) _) (allb_cons rfl (allb_cons rfl (allb_cons (sf_nb (nb_map (n := 4) (fun y => DStep.enc_nbn 4 y) _)) (allb_cons rfl (allb_cons rfl allb_nil)))))) (sfm_cons rfl sfm_nil)) (nbRow_map (fun y => DStep.enc_nb y) _) rfl rfl (weak_of (tl := [(0, .one (.loc 0 0 l.length)), (1, .one (.lit (.int .i64 ((q : Nat))))), (5, .one (.lit (.int .i64 (i : Nat))))]) (ml := [(0, .row false 5 ((mkL DClient.mkE DClient.cnE (l.take i) k).map DClient.enc ++ [.lit (.int .i64 l[i].cmd), .lit (.string l[i].name), .loc 42 0 (l[i].steps.map DStep.enc).length, .lit (.int .i64 l[i].at_), .lit (.int .i64 l[i].until_)] :: (l.drop (i + 1)).map DClient.enc)), (42, .row true 5 (l[i].steps.map DStep.enc)), (8, .pin 0 (at_ 0))]) (by repeat (first | refine all_cons (by first | rfl | exact eq_int rfl (by first | rfl | omega | (simp; done) | (simp; omega)) | exact eq_loc rfl (by first | rfl | omega | (simp; done) | (simp; omega)) | exact eq_bool rfl (by simp_all)) ?_ | exact all_nil)) (by repeat (first | refine all_cons (by first | rfl | exact eq_int rfl (by first | rfl | omega | (simp; done) | (simp; omega)) | exact eq_loc rfl (by first | rfl | omega | (simp; done) | (simp; omega)) | exact eq_bool rfl (by simp_all)) ?_ | exact all_nil)) rfl (onm_cons (only_mid (cellRow_map (fun y => rfl) _) (cellRow_map (fun y => rfl) _) rfl) (onm_cons rfl (onm_cons rfl onm_nil))))), ?_⟩
    (conv => whnf)
    split <;> rename_i hb
    case h_2 => simp at hb; omega
    clear hb; (conv => whnf)
    refine ⟨i, rfl, hlt, ?_⟩; (conv => whnf)
    refine ⟨_, at_mid hml, ?_⟩; (conv => whnf)
    refine ⟨_, set_mid hml, ?_⟩; (conv => whnf)
    refine ⟨((q + 1 : Nat) : Int), by rw [← wrap64_id] <;> omega, ?_⟩; (conv => whnf)
    refine ⟨_, _, markText_c (q + 1) (by omega) (by omega), (by repeat' (first | exact lends_nil | exact lend_dead | apply lends_cons | apply lend_agg | apply lend_one | exact all2_nil | apply all2_cons | exact la_lit rfl | exact la_int (by first | rfl | omega) | exact la_row rfl rfl | exact la_loc rfl rfl rfl (by first | rfl | simp [mkL_length]) (by first | rfl | simp) | exact la_nil rfl | apply la_fn rfl | exact lend_same rfl rfl | exact lend_bor rfl rfl)), ?_⟩; (conv => whnf)
    refine ⟨i, rfl, hlt, ?_⟩; (conv => whnf)
    refine ⟨_, at_mid hml, ?_⟩; (conv => whnf)
    refine ⟨_, set_mid hml, ?_⟩; (conv => whnf)
    refine ⟨((q + 1 + 1 : Nat) : Int), by rw [← wrap64_id] <;> omega, ?_⟩; (conv => whnf)
    refine ⟨i, rfl, hlt, ?_⟩; (conv => whnf)
    refine ⟨_, at_mid hml, ?_⟩; (conv => whnf)
    have hm2 := markStepS_c l[i].steps (q + 1 + 1) (by omega) (by omega) (by first | exact hxi | exact hxi.1 | exact hxi.2.1 | exact hxi.2 | omega)
    refine ⟨[(0, .one (.loc 0 0 l.length)), (5, .one (.lit (.int .i64 (i : Nat)))), (31, .one (.loc 42 0 (l[i].steps.map DStep.enc).length)), (32, .one (.lit (.int .i64 ((q + 1 + 1 : Nat) : Int))))], [(0, .row false 5 ((mkL DClient.mkE DClient.cnE (l.take i) k).map DClient.enc ++ [.lit (.int .i64 ((q : Nat) : Int)), .lit (.string (markStr (q + 1))), .loc 42 0 (l[i].steps.map DStep.enc).length, .lit (.int .i64 l[i].at_), .lit (.int .i64 l[i].until_)] :: (l.drop (i + 1)).map DClient.enc)), (42, .row true 5 (l[i].steps.map DStep.enc)), (8, .pin 0 (at_ 0))], weak_of (by repeat (first | refine all_cons (by first | rfl | exact eq_int rfl (by first | rfl | omega | (simp; done) | (simp; omega)) | exact eq_loc rfl (by first | rfl | omega | (simp; done) | (simp; omega)) | exact eq_bool rfl (by simp_all)) ?_ | exact all_nil)) (by repeat (first | refine all_cons (by first | rfl | exact eq_int rfl (by first | rfl | omega | (simp; done) | (simp; omega)) | exact eq_loc rfl (by first | rfl | omega | (simp; done) | (simp; omega)) | exact eq_bool rfl (by simp_all)) ?_ | exact all_nil)) rfl (onm_cons (only_mid (cellRow_map (fun y => rfl) _) (cellRow_map (fun y => rfl) _) rfl) (onm_cons rfl (onm_cons rfl onm_nil))), _, _, _, _, [42], hm2, rens_cons (ren_one (ren_loc rfl (by simp))) (rens_cons (ren_one (ren_int (by first | rfl | omega))) rens_nil), hasRows_cons rfl hasRows_nil, (by decide), rfl, (sfm_cons (sf_mid (nbRow_map (fun y => DClient.enc_nb y) _) (nbRow_map (fun y => DClient.enc_nb y) _) (allb_cons rfl (allb_cons rfl (allb_cons rfl (allb_cons rfl (allb_cons rfl allb_nil)))))) (sfm_cons (sf_row (nbRow_map (fun y => DStep.enc_nb y) _)) (sfm_cons rfl sfm_nil))), rfl, ?_⟩; (conv => whnf)
    refine ⟨i, rfl, hlt, ?_⟩; (conv => whnf)
    refine ⟨_, at_mid hml, ?_⟩; (conv => whnf)
    refine ⟨_, set_mid hml, ?_⟩; (conv => whnf)
    refine ⟨((q + 1 + 1 + (cnL DStep.cnE) l[i].steps + 1 : Nat) : Int), by rw [← wrap64_id] <;> omega, ?_⟩; (conv => whnf)
    refine ⟨i, rfl, hlt, ?_⟩; (conv => whnf)
    refine ⟨_, at_mid hml, ?_⟩; (conv => whnf)
    refine ⟨_, set_mid hml, ?_⟩; (conv => whnf)
    refine ⟨((q + 1 + 1 + (cnL DStep.cnE) l[i].steps + 1 + 1 : Nat) : Int), by rw [← wrap64_id] <;> omega, ?_⟩; (conv => whnf)
    refine ⟨((i + 1 : Nat) : Int), by rw [← wrap64_id] <;> omega, ?_⟩; (conv => whnf)
    exact lg_back (i + 1) (by omega) (by (try dsimp only); omega) (weak_absorb 0 42 ((mkL DClient.mkE DClient.cnE (l.take i) k).map DClient.enc) ((l.drop (i + 1)).map DClient.enc) [.lit (.int .i64 ((q : Nat) : Int)), .lit (.string (markStr (q + 1)))] [.lit (.int .i64 ((q + 1 + 1 + (cnL DStep.cnE) l[i].steps : Nat) : Int)), .lit (.int .i64 ((q + 1 + 1 + (cnL DStep.cnE) l[i].steps + 1 : Nat) : Int))] (es2 := ((mkL DStep.mkE DStep.cnE) l[i].steps (q + 1 + 1)).map DStep.enc) (by decide) (by first | rfl | (simp only [mkL_length, List.length_map]; rfl)) rfl (cellRow_map (fun y => rfl) _) (cellRow_map (fun y => rfl) _) rfl rfl (weak_of (by exact all_cons rfl (all_cons (eq_int rfl (by omega)) (all_cons rfl all_nil))) (by exact all_cons (eq_row rfl (by rw [hts]; exact (List.append_assoc _ [_] _).symm)) (all_cons rfl all_nil)) rfl rfl))
  · have : i = l.length := by omega
    subst this
    refine ⟨_, Weak.refl _, ?_⟩
    (conv => whnf)
    split <;> rename_i hb
    case h_1 => simp at hb
    clear hb; (conv => whnf)
    refine ⟨by rw [List.take_length], ⟨rfl, ?_⟩, rfl, trivial⟩
    simp
theorem markSnapS_c (l : List DSnap) (k : Nat) (h1 : 1 ≤ k) (h2 : k + cnL DSnap.cnE l ≤ 4611686018427387904) (hl : l.length ≤ 4611686018427387904) :
    MutF Try.prog 67 [.one (.loc 0 0 l.length), .one (.lit (.int .i64 k))] [(3, l.map DSnap.enc)] [(3, (mkL DSnap.mkE DSnap.cnE l k).map DSnap.enc)] (.int .i64 ((k + cnL DSnap.cnE l : Nat) : Int)) := by
  refine mutf_of_vc tb_ok mix (fn := Try.f67) Try.func67 rfl (by kernel_rfl) (by kernel_rfl) (by simp [Try.f67]) (by simp) (by exact nbRows_cons (nbRow_map (fun y => DSnap.enc_nb y) _) nbRows_nil) (by exact nbRows_cons (nbRow_map (fun y => DSnap.enc_nb y) _) nbRows_nil) rfl fun at_ => ?_
  (conv => whnf)
  refine ⟨LG (fun i : Nat => i ≤ l.length) (fun i => l.length - i) (fun i => AS.of [(0, .one (.loc 0 0 l.length)), (1, .one (.lit (.int .i64 ((k + cnL DSnap.cnE (l.take i) : Nat) : Int)))), (5, .one (.lit (.int .i64 (i : Nat))))] [(0, .row true 3 ((mkL DSnap.mkE DSnap.cnE (l.take i) k).map DSnap.enc ++ (l.drop i).map DSnap.enc)), (8, .pin 0 (at_ 0))]), lg_init 0 (by omega) (weak_of (by repeat (first | refine all_cons (by first | rfl | exact eq_int rfl (by first | rfl | omega | (simp; done) | (simp; omega)) | exact eq_loc rfl (by first | rfl | omega | (simp; done) | (simp; omega)) | exact eq_bool rfl (by simp_all)) ?_ | exact all_nil)) (by repeat (first | refine all_cons (by first | rfl | exact eq_int rfl (by first | rfl | omega | (simp; done) | (simp; omega)) | exact eq_loc rfl (by first | rfl | omega | (simp; done) | (simp; omega)) | exact eq_bool rfl (by simp_all)) ?_ | exact all_nil)) rfl rfl), ?_⟩
  rintro σ m ⟨i, hi, rfl, rfl⟩
  by_cases hlt : i < l.length
  · have hd : l.drop i = l[i] :: l.drop (i + 1) := List.drop_eq_getElem_cons hlt
    have hml : ((mkL DSnap.mkE DSnap.cnE (l.take i) k).map DSnap.enc).length = 0 + i := by simp [mkL_length]; omega
    have hcs := cnL_take_succ (cn := DSnap.cnE) hlt
    have hcl := cnL_take_le (cn := DSnap.cnE) (l := l) (i := i + 1)
    have hts : (mkL DSnap.mkE DSnap.cnE (l.take (i + 1)) k).map DSnap.enc = (mkL DSnap.mkE DSnap.cnE (l.take i) k).map DSnap.enc ++ [DSnap.enc (DSnap.mkE l[i] (k + cnL DSnap.cnE (l.take i)))] := by rw [mkL_take_succ hlt, List.map_append]; rfl
    generalize hq : k + cnL DSnap.cnE (l.take i) = q at hts
    have hcn : DSnap.cnE l[i] = 1 + 1 + 1 := rfl
    refine ⟨_, weak_of (tl := [(0, .one (.loc 0 0 l.length)), (1, .one (.lit (.int .i64 (q : Nat)))), (5, .one (.lit (.int .i64 (i : Nat))))]) (ml := [(0, .row true 3 ((mkL DSnap.mkE DSnap.cnE (l.take i) k).map DSnap.enc ++ [.lit (.string l[i].name), .lit (.int .i64 l[i].day), .lit (.string l[i].root)] :: (l.drop (i + 1)).map DSnap.enc)), (8, .pin 0 (at_ 0))]) (by exact all_cons rfl (all_cons (eq_int rfl (by omega)) (all_cons rfl all_nil))) (by exact all_cons (eq_row rfl (by rw [hd]; rfl)) (all_cons rfl all_nil)) rfl rfl, ?_⟩
    (conv => whnf)
    split <;> rename_i hb
    case h_2 => simp at hb; omega
    clear hb; (conv => whnf)
    refine ⟨_, _, markText_c (q) (by omega) (by omega), (by repeat' (first | exact lends_nil | exact lend_dead | apply lends_cons | apply lend_agg | apply lend_one | exact all2_nil | apply all2_cons | exact la_lit rfl | exact la_int (by first | rfl | omega) | exact la_row rfl rfl | exact la_loc rfl rfl rfl (by first | rfl | simp [mkL_length]) (by first | rfl | simp) | exact la_nil rfl | apply la_fn rfl | exact lend_same rfl rfl | exact lend_bor rfl rfl)), ?_⟩; (conv => whnf)
    refine ⟨i, rfl, hlt, ?_⟩; (conv => whnf)
    refine ⟨_, at_mid hml, ?_⟩; (conv => whnf)
    refine ⟨_, set_mid hml, ?_⟩; (conv => whnf)
    refine ⟨((q + 1 : Nat) : Int), by rw [← wrap64_id] <;> omega, ?_⟩; (conv => whnf)
    refine ⟨i, rfl, hlt, ?_⟩; (conv => whnf)
    refine ⟨_, at_mid hml, ?_⟩; (conv => whnf)
    refine ⟨_, set_mid hml, ?_⟩; (conv => whnf)
    refine ⟨((q + 1 + 1 : Nat) : Int), by rw [← wrap64_id] <;> omega, ?_⟩; (conv => whnf)
    refine ⟨_, _, markText_c (q + 1 + 1) (by omega) (by omega), (by repeat' (first | exact lends_nil | exact lend_dead | apply lends_cons | apply lend_agg | apply lend_one | exact all2_nil | apply all2_cons | exact la_lit rfl | exact la_int (by first | rfl | omega) | exact la_row rfl rfl | exact la_loc rfl rfl rfl (by first | rfl | simp [mkL_length]) (by first | rfl | simp) | exact la_nil rfl | apply la_fn rfl | exact lend_same rfl rfl | exact lend_bor rfl rfl)), ?_⟩; (conv => whnf)
    refine ⟨i, rfl, hlt, ?_⟩; (conv => whnf)
    refine ⟨_, at_mid hml, ?_⟩; (conv => whnf)
    refine ⟨_, set_mid hml, ?_⟩; (conv => whnf)
    refine ⟨((q + 1 + 1 + 1 : Nat) : Int), by rw [← wrap64_id] <;> omega, ?_⟩; (conv => whnf)
    refine ⟨((i + 1 : Nat) : Int), by rw [← wrap64_id] <;> omega, ?_⟩; (conv => whnf)
    exact lg_back (i + 1) (by omega) (by (try dsimp only); omega) (weak_of (by exact all_cons rfl (all_cons (eq_int rfl (by omega)) (all_cons rfl all_nil))) (by exact all_cons (eq_row rfl (by rw [hts]; exact (List.append_assoc _ [_] _).symm)) (all_cons rfl all_nil)) rfl rfl)
  · have : i = l.length := by omega
    subst this
    refine ⟨_, Weak.refl _, ?_⟩
    (conv => whnf)
    split <;> rename_i hb
    case h_1 => simp at hb
    clear hb; (conv => whnf)
    refine ⟨by rw [List.take_length], ⟨rfl, ?_⟩, rfl, trivial⟩
    simp
theorem markStringS_c (l : List ByteArray) (k : Nat) (h1 : 1 ≤ k) (h2 : k + cnL (fun _ => 1) l ≤ 4611686018427387904) (hl : l.length ≤ 4611686018427387904) :
    MutF Try.prog 68 [.one (.loc 0 0 l.length), .one (.lit (.int .i64 k))] [(1, l.map eStr)] [(1, (mkL mrkT (fun _ => 1) l k).map eStr)] (.int .i64 ((k + cnL (fun _ => 1) l : Nat) : Int)) := by
  refine mutf_of_vc tb_ok mix (fn := Try.f68) Try.func68 rfl (by kernel_rfl) (by kernel_rfl) (by simp [Try.f68]) (by simp) (by exact nbRows_cons (nbRow_map (fun y => eStr_nb y) _) nbRows_nil) (by exact nbRows_cons (nbRow_map (fun y => eStr_nb y) _) nbRows_nil) rfl fun at_ => ?_
  (conv => whnf)
  refine ⟨LG (fun i : Nat => i ≤ l.length) (fun i => l.length - i) (fun i => AS.of [(0, .one (.loc 0 0 l.length)), (1, .one (.lit (.int .i64 ((k + cnL (fun _ => 1) (l.take i) : Nat) : Int)))), (5, .one (.lit (.int .i64 (i : Nat))))] [(0, .row true 1 ((mkL mrkT (fun _ => 1) (l.take i) k).map eStr ++ (l.drop i).map eStr)), (8, .pin 0 (at_ 0))]), lg_init 0 (by omega) (weak_of (by repeat (first | refine all_cons (by first | rfl | exact eq_int rfl (by first | rfl | omega | (simp; done) | (simp; omega)) | exact eq_loc rfl (by first | rfl | omega | (simp; done) | (simp; omega)) | exact eq_bool rfl (by simp_all)) ?_ | exact all_nil)) (by repeat (first | refine all_cons (by first | rfl | exact eq_int rfl (by first | rfl | omega | (simp; done) | (simp; omega)) | exact eq_loc rfl (by first | rfl | omega | (simp; done) | (simp; omega)) | exact eq_bool rfl (by simp_all)) ?_ | exact all_nil)) rfl rfl), ?_⟩
  rintro σ m ⟨i, hi, rfl, rfl⟩
  by_cases hlt : i < l.length
  · have hd : l.drop i = l[i] :: l.drop (i + 1) := List.drop_eq_getElem_cons hlt
    have hml : ((mkL mrkT (fun _ => 1) (l.take i) k).map eStr).length = 0 + i := by simp [mkL_length]; omega
    have hcs := cnL_take_succ (cn := (fun _ => 1)) hlt
    have hcl := cnL_take_le (cn := (fun _ => 1)) (l := l) (i := i + 1)
    have hts : (mkL mrkT (fun _ => 1) (l.take (i + 1)) k).map eStr = (mkL mrkT (fun _ => 1) (l.take i) k).map eStr ++ [eStr (mrkT l[i] (k + cnL (fun _ => 1) (l.take i)))] := by rw [mkL_take_succ hlt, List.map_append]; rfl
    generalize hq : k + cnL (fun _ => 1) (l.take i) = q at hts
    have hcn : (fun _ => 1) l[i] = 1 := rfl
    refine ⟨_, weak_of (tl := [(0, .one (.loc 0 0 l.length)), (1, .one (.lit (.int .i64 (q : Nat)))), (5, .one (.lit (.int .i64 (i : Nat))))]) (ml := [(0, .row true 1 ((mkL mrkT (fun _ => 1) (l.take i) k).map eStr ++ [.lit (.string l[i])] :: (l.drop (i + 1)).map eStr)), (8, .pin 0 (at_ 0))]) (by exact all_cons rfl (all_cons (eq_int rfl (by omega)) (all_cons rfl all_nil))) (by exact all_cons (eq_row rfl (by rw [hd]; rfl)) (all_cons rfl all_nil)) rfl rfl, ?_⟩
    (conv => whnf)
    split <;> rename_i hb
    case h_2 => simp at hb; omega
    clear hb; (conv => whnf)
    refine ⟨_, _, markText_c (q) (by omega) (by omega), (by repeat' (first | exact lends_nil | exact lend_dead | apply lends_cons | apply lend_agg | apply lend_one | exact all2_nil | apply all2_cons | exact la_lit rfl | exact la_int (by first | rfl | omega) | exact la_row rfl rfl | exact la_loc rfl rfl rfl (by first | rfl | simp [mkL_length]) (by first | rfl | simp) | exact la_nil rfl | apply la_fn rfl | exact lend_same rfl rfl | exact lend_bor rfl rfl)), ?_⟩; (conv => whnf)
    refine ⟨i, rfl, hlt, ?_⟩; (conv => whnf)
    refine ⟨_, at_mid hml, ?_⟩; (conv => whnf)
    refine ⟨_, set_mid hml, ?_⟩; (conv => whnf)
    refine ⟨((q + 1 : Nat) : Int), by rw [← wrap64_id] <;> omega, ?_⟩; (conv => whnf)
    refine ⟨((i + 1 : Nat) : Int), by rw [← wrap64_id] <;> omega, ?_⟩; (conv => whnf)
    exact lg_back (i + 1) (by omega) (by (try dsimp only); omega) (weak_of (by exact all_cons rfl (all_cons (eq_int rfl (by omega)) (all_cons rfl all_nil))) (by exact all_cons (eq_row rfl (by rw [hts]; exact (List.append_assoc _ [_] _).symm)) (all_cons rfl all_nil)) rfl rfl)
  · have : i = l.length := by omega
    subst this
    refine ⟨_, Weak.refl _, ?_⟩
    (conv => whnf)
    split <;> rename_i hb
    case h_1 => simp at hb
    clear hb; (conv => whnf)
    refine ⟨by rw [List.take_length], ⟨rfl, ?_⟩, rfl, trivial⟩
    simp
theorem markDrive_c (x : DDrive) (k : Nat) (h1 : 1 ≤ k) (h2 : k + x.cnV ≤ 4611686018427387904) (hx : (x.files.length ≤ 4611686018427387904)) : MutF Try.prog 20 [.agg [.loc 0 0 (x.files.map DStored.enc).length, .lit (.int .i64 x.room)], .one (.lit (.int .i64 k))] [(3, x.files.map DStored.enc)] [(3, ((mkL DStored.mkE DStored.cnE) x.files (k)).map DStored.enc)] (.int .i64 ((k + x.cnV : Nat) : Int)) := by
  refine mutf_of_vc tb_ok mix (fn := Try.f20) Try.func20 rfl (by kernel_rfl) (by kernel_rfl) (by simp [Try.f20]) (by simp) (by exact (nbRows_cons (nbRow_map (fun y => DStored.enc_nb y) _) nbRows_nil)) (by exact (nbRows_cons (nbRow_map (fun y => DStored.enc_nb y) _) nbRows_nil)) rfl fun at_ => ?_
  have hcn : x.cnV = (cnL DStored.cnE) x.files := rfl
  (conv => whnf)
  refine ⟨[(2, .one (.ptr 32 0)), (6, .one (.loc 0 0 (x.files.map DStored.enc).length)), (7, .one (.lit (.int .i64 ((k : Nat) : Int))))], [(0, .row true 3 (x.files.map DStored.enc)), (8, .pin 0 (at_ 0)), (32, .var [.loc 0 0 (x.files.map DStored.enc).length, .lit (.int .i64 x.room)])], weak_of (by repeat (first | refine all_cons (by first | rfl | exact eq_int rfl (by first | rfl | omega | (simp; done) | (simp; omega)) | exact eq_loc rfl (by first | rfl | omega | (simp; done) | (simp; omega)) | exact eq_bool rfl (by simp_all)) ?_ | exact all_nil)) (by repeat (first | refine all_cons (by first | rfl | exact eq_int rfl (by first | rfl | omega | (simp; done) | (simp; omega)) | exact eq_loc rfl (by first | rfl | omega | (simp; done) | (simp; omega)) | exact eq_bool rfl (by simp_all)) ?_ | exact all_nil)) rfl rfl, _, _, _, _, [0], markStoredS_c x.files (k) (by omega) (by omega) hx, (rens_cons (ren_one (ren_loc rfl (by simp))) (rens_cons (ren_one (ren_int (by first | rfl | omega))) rens_nil)), (hasRows_cons rfl hasRows_nil), (by decide), rfl, (sfm_cons (sf_row (nbRow_map (fun y => DStored.enc_nb y) _)) (sfm_cons rfl (sfm_cons rfl sfm_nil))), rfl, ?_⟩; (conv => whnf)
  refine ⟨by first | rfl | (congr 2; omega) | (rw [hcn]; congr 2; omega), ⟨rfl, rfl⟩, rfl, trivial⟩
theorem markArray_c (x : DArray) (k : Nat) (h1 : 1 ≤ k) (h2 : k + x.cnV ≤ 4611686018427387904) (hx : (x.drives.length ≤ 4611686018427387904 ∧ ∀ y ∈ x.drives, (y.files.length ≤ 4611686018427387904))) : MutF Try.prog 28 [.agg [.lit (.int .i64 x.k), .lit (.int .i64 x.m), .loc 0 0 (x.drives.map DDrive.enc).length], .one (.lit (.int .i64 k))] [(2, x.drives.map DDrive.enc)] [(2, ((mkL DDrive.mkE DDrive.cnE) x.drives (k)).map DDrive.enc)] (.int .i64 ((k + x.cnV : Nat) : Int)) := by
  refine mutf_of_vc tb_ok mix (fn := Try.f28) Try.func28 rfl (by kernel_rfl) (by kernel_rfl) (by simp [Try.f28]) (by simp) (by exact (nbRows_cons (nbRow_map (fun y => DDrive.enc_nb y) _) nbRows_nil)) (by exact (nbRows_cons (nbRow_map (fun y => DDrive.enc_nb y) _) nbRows_nil)) rfl fun at_ => ?_
  have hcn : x.cnV = (cnL DDrive.cnE) x.drives := rfl
  (conv => whnf)
  refine ⟨[(2, .one (.ptr 32 0)), (6, .one (.loc 0 0 (x.drives.map DDrive.enc).length)), (7, .one (.lit (.int .i64 ((k : Nat) : Int))))], [(0, .row true 2 (x.drives.map DDrive.enc)), (8, .pin 0 (at_ 0)), (32, .var [.lit (.int .i64 x.k), .lit (.int .i64 x.m), .loc 0 0 (x.drives.map DDrive.enc).length])], weak_of (by repeat (first | refine all_cons (by first | rfl | exact eq_int rfl (by first | rfl | omega | (simp; done) | (simp; omega)) | exact eq_loc rfl (by first | rfl | omega | (simp; done) | (simp; omega)) | exact eq_bool rfl (by simp_all)) ?_ | exact all_nil)) (by repeat (first | refine all_cons (by first | rfl | exact eq_int rfl (by first | rfl | omega | (simp; done) | (simp; omega)) | exact eq_loc rfl (by first | rfl | omega | (simp; done) | (simp; omega)) | exact eq_bool rfl (by simp_all)) ?_ | exact all_nil)) rfl rfl, _, _, _, _, [0], markDriveS_c x.drives (k) (by omega) (by omega) hx.1 hx.2, (rens_cons (ren_one (ren_loc rfl (by simp))) (rens_cons (ren_one (ren_int (by first | rfl | omega))) rens_nil)), (hasRows_cons rfl hasRows_nil), (by decide), rfl, (sfm_cons (sf_row (nbRow_map (fun y => DDrive.enc_nb y) _)) (sfm_cons rfl (sfm_cons rfl sfm_nil))), rfl, ?_⟩; (conv => whnf)
  refine ⟨by first | rfl | (congr 2; omega) | (rw [hcn]; congr 2; omega), ⟨rfl, rfl⟩, rfl, trivial⟩
theorem markWorld_c (x : DWorld) (k : Nat) (h1 : 1 ≤ k) (h2 : k + x.cnV ≤ 4611686018427387904) (hx : ((x.array.drives.length ≤ 4611686018427387904 ∧ ∀ y ∈ x.array.drives, (y.files.length ≤ 4611686018427387904))) ∧ (x.clients.length ≤ 4611686018427387904 ∧ ∀ y ∈ x.clients, (y.steps.length ≤ 4611686018427387904))) : MutF Try.prog 58 [.agg [.lit (.int .i64 x.array.k), .lit (.int .i64 x.array.m), .loc 0 0 (x.array.drives.map DDrive.enc).length, .lit (.int .i64 x.cutting.min), .lit (.int .i64 x.cutting.bits), .lit (.int .i64 x.cutting.max), .lit (.int .i64 x.now), .loc 1 0 (x.clients.map DClient.enc).length], .one (.lit (.int .i64 k))] [(2, x.array.drives.map DDrive.enc), (5, x.clients.map DClient.enc)] [(2, ((mkL DDrive.mkE DDrive.cnE) x.array.drives (k)).map DDrive.enc), (5, ((mkL DClient.mkE DClient.cnE) x.clients (k + (cnL DDrive.cnE) x.array.drives)).map DClient.enc)] (.int .i64 ((k + x.cnV : Nat) : Int)) := by
  refine mutf_of_vc tb_ok mix (fn := Try.f58) Try.func58 rfl (by kernel_rfl) (by kernel_rfl) (by simp [Try.f58]) (by simp) (by exact (nbRows_cons (nbRow_map (fun y => DDrive.enc_nb y) _) (nbRows_cons (nbRow_map (fun y => DClient.enc_nb y) _) nbRows_nil))) (by exact (nbRows_cons (nbRow_map (fun y => DDrive.enc_nb y) _) (nbRows_cons (nbRow_map (fun y => DClient.enc_nb y) _) nbRows_nil))) rfl fun at_ => ?_
  have hcn : x.cnV = (cnL DDrive.cnE) x.array.drives + (cnL DClient.cnE) x.clients := rfl
  (conv => whnf)
  refine ⟨[(2, .one (.ptr 32 0)), (6, .agg [.lit (.int .i64 x.array.k), .lit (.int .i64 x.array.m), .loc 0 0 (x.array.drives.map DDrive.enc).length]), (7, .one (.lit (.int .i64 ((k : Nat) : Int))))], [(0, .row true 2 (x.array.drives.map DDrive.enc)), (1, .row true 5 (x.clients.map DClient.enc)), (8, .pin 0 (at_ 0)), (9, .pin 1 (at_ 1)), (32, .var [.lit (.int .i64 x.array.k), .lit (.int .i64 x.array.m), .loc 0 0 (x.array.drives.map DDrive.enc).length, .lit (.int .i64 x.cutting.min), .lit (.int .i64 x.cutting.bits), .lit (.int .i64 x.cutting.max), .lit (.int .i64 x.now), .loc 1 0 (x.clients.map DClient.enc).length])], weak_of (by repeat (first | refine all_cons (by first | rfl | exact eq_int rfl (by first | rfl | omega | (simp; done) | (simp; omega)) | exact eq_loc rfl (by first | rfl | omega | (simp; done) | (simp; omega)) | exact eq_bool rfl (by simp_all)) ?_ | exact all_nil)) (by repeat (first | refine all_cons (by first | rfl | exact eq_int rfl (by first | rfl | omega | (simp; done) | (simp; omega)) | exact eq_loc rfl (by first | rfl | omega | (simp; done) | (simp; omega)) | exact eq_bool rfl (by simp_all)) ?_ | exact all_nil)) rfl rfl, _, _, _, _, [0], markArray_c x.array (k) (by omega) (by have : x.array.cnV = (cnL DDrive.cnE) x.array.drives := rfl; omega) hx.1, (rens_cons (ren_agg (by repeat' (first | exact all2_nil | apply all2_cons | exact ren_lit rfl | exact ren_loc rfl rfl | exact ren_loc rfl (by simp)))) (rens_cons (ren_one (ren_int (by first | rfl | omega))) rens_nil)), (hasRows_cons rfl hasRows_nil), (by decide), rfl, (sfm_cons (sf_row (nbRow_map (fun y => DDrive.enc_nb y) _)) (sfm_cons (sf_row (nbRow_map (fun y => DClient.enc_nb y) _)) (sfm_cons rfl (sfm_cons rfl (sfm_cons rfl sfm_nil))))), rfl, ?_⟩; (conv => whnf)
  refine ⟨[(2, .one (.ptr 32 0)), (10, .one (.loc 1 0 (x.clients.map DClient.enc).length)), (11, .one (.lit (.int .i64 ((k + (cnL DDrive.cnE) x.array.drives : Nat) : Int))))], [(0, .row true 2 (((mkL DDrive.mkE DDrive.cnE) x.array.drives (k)).map DDrive.enc)), (1, .row true 5 (x.clients.map DClient.enc)), (8, .pin 0 (at_ 0)), (9, .pin 1 (at_ 1)), (32, .var [.lit (.int .i64 x.array.k), .lit (.int .i64 x.array.m), .loc 0 0 (x.array.drives.map DDrive.enc).length, .lit (.int .i64 x.cutting.min), .lit (.int .i64 x.cutting.bits), .lit (.int .i64 x.cutting.max), .lit (.int .i64 x.now), .loc 1 0 (x.clients.map DClient.enc).length])], weak_of (by repeat (first | refine all_cons (by first | rfl | exact eq_int rfl (by first | rfl | omega | (simp; done) | (simp; omega)) | exact eq_loc rfl (by first | rfl | omega | (simp; done) | (simp; omega)) | exact eq_bool rfl (by simp_all)) ?_ | exact all_nil)) (by repeat (first | refine all_cons (by first | rfl | exact eq_int rfl (by first | rfl | omega | (simp; done) | (simp; omega)) | exact eq_loc rfl (by first | rfl | omega | (simp; done) | (simp; omega)) | exact eq_bool rfl (by simp_all)) ?_ | exact all_nil)) rfl rfl, _, _, _, _, [1], markClientS_c x.clients (k + (cnL DDrive.cnE) x.array.drives) (by omega) (by omega) hx.2.1 hx.2.2, (rens_cons (ren_one (ren_loc rfl (by simp))) (rens_cons (ren_one (ren_int (by first | rfl | omega))) rens_nil)), (hasRows_cons rfl hasRows_nil), (by decide), rfl, (sfm_cons (sf_row (nbRow_map (fun y => DDrive.enc_nb y) _)) (sfm_cons (sf_row (nbRow_map (fun y => DClient.enc_nb y) _)) (sfm_cons rfl (sfm_cons rfl (sfm_cons rfl sfm_nil))))), rfl, ?_⟩; (conv => whnf)
  refine ⟨by first | rfl | (congr 2; omega) | (rw [hcn]; congr 2; omega), ⟨rfl, rfl⟩, rfl, ⟨rfl, rfl⟩, rfl, trivial⟩
theorem markDriveOut_c (x : DDriveOut) (k : Nat) (h1 : 1 ≤ k) (h2 : k + x.cnV ≤ 4611686018427387904) (hx : ((x.drive.files.length ≤ 4611686018427387904))) : MutF Try.prog 51 [.agg [.loc 0 0 (x.drive.files.map DStored.enc).length, .lit (.int .i64 x.drive.room), .lit (.int .i64 x.code)], .one (.lit (.int .i64 k))] [(3, x.drive.files.map DStored.enc)] [(3, ((mkL DStored.mkE DStored.cnE) x.drive.files (k)).map DStored.enc)] (.int .i64 ((k + x.cnV : Nat) : Int)) := by
  refine mutf_of_vc tb_ok mix (fn := Try.f51) Try.func51 rfl (by kernel_rfl) (by kernel_rfl) (by simp [Try.f51]) (by simp) (by exact (nbRows_cons (nbRow_map (fun y => DStored.enc_nb y) _) nbRows_nil)) (by exact (nbRows_cons (nbRow_map (fun y => DStored.enc_nb y) _) nbRows_nil)) rfl fun at_ => ?_
  have hcn : x.cnV = (cnL DStored.cnE) x.drive.files := rfl
  (conv => whnf)
  refine ⟨[(2, .one (.ptr 32 0)), (6, .agg [.loc 0 0 (x.drive.files.map DStored.enc).length, .lit (.int .i64 x.drive.room)]), (7, .one (.lit (.int .i64 ((k : Nat) : Int))))], [(0, .row true 3 (x.drive.files.map DStored.enc)), (8, .pin 0 (at_ 0)), (32, .var [.loc 0 0 (x.drive.files.map DStored.enc).length, .lit (.int .i64 x.drive.room), .lit (.int .i64 x.code)])], weak_of (by repeat (first | refine all_cons (by first | rfl | exact eq_int rfl (by first | rfl | omega | (simp; done) | (simp; omega)) | exact eq_loc rfl (by first | rfl | omega | (simp; done) | (simp; omega)) | exact eq_bool rfl (by simp_all)) ?_ | exact all_nil)) (by repeat (first | refine all_cons (by first | rfl | exact eq_int rfl (by first | rfl | omega | (simp; done) | (simp; omega)) | exact eq_loc rfl (by first | rfl | omega | (simp; done) | (simp; omega)) | exact eq_bool rfl (by simp_all)) ?_ | exact all_nil)) rfl rfl, _, _, _, _, [0], markDrive_c x.drive (k) (by omega) (by have : x.drive.cnV = (cnL DStored.cnE) x.drive.files := rfl; omega) hx, (rens_cons (ren_agg (by repeat' (first | exact all2_nil | apply all2_cons | exact ren_lit rfl | exact ren_loc rfl rfl | exact ren_loc rfl (by simp)))) (rens_cons (ren_one (ren_int (by first | rfl | omega))) rens_nil)), (hasRows_cons rfl hasRows_nil), (by decide), rfl, (sfm_cons (sf_row (nbRow_map (fun y => DStored.enc_nb y) _)) (sfm_cons rfl (sfm_cons rfl sfm_nil))), rfl, ?_⟩; (conv => whnf)
  refine ⟨by first | rfl | (congr 2; omega) | (rw [hcn]; congr 2; omega), ⟨rfl, rfl⟩, rfl, trivial⟩
theorem markArrayOut_c (x : DArrayOut) (k : Nat) (h1 : 1 ≤ k) (h2 : k + x.cnV ≤ 4611686018427387904) (hx : ((x.array.drives.length ≤ 4611686018427387904 ∧ ∀ y ∈ x.array.drives, (y.files.length ≤ 4611686018427387904)))) : MutF Try.prog 82 [.agg [.lit (.int .i64 x.array.k), .lit (.int .i64 x.array.m), .loc 0 0 (x.array.drives.map DDrive.enc).length, .lit (.int .i64 x.done), .lit (.int .i64 x.code)], .one (.lit (.int .i64 k))] [(2, x.array.drives.map DDrive.enc)] [(2, ((mkL DDrive.mkE DDrive.cnE) x.array.drives (k)).map DDrive.enc)] (.int .i64 ((k + x.cnV : Nat) : Int)) := by
  refine mutf_of_vc tb_ok mix (fn := Try.f82) Try.func82 rfl (by kernel_rfl) (by kernel_rfl) (by simp [Try.f82]) (by simp) (by exact (nbRows_cons (nbRow_map (fun y => DDrive.enc_nb y) _) nbRows_nil)) (by exact (nbRows_cons (nbRow_map (fun y => DDrive.enc_nb y) _) nbRows_nil)) rfl fun at_ => ?_
  have hcn : x.cnV = (cnL DDrive.cnE) x.array.drives := rfl
  (conv => whnf)
  refine ⟨[(2, .one (.ptr 32 0)), (6, .agg [.lit (.int .i64 x.array.k), .lit (.int .i64 x.array.m), .loc 0 0 (x.array.drives.map DDrive.enc).length]), (7, .one (.lit (.int .i64 ((k : Nat) : Int))))], [(0, .row true 2 (x.array.drives.map DDrive.enc)), (8, .pin 0 (at_ 0)), (32, .var [.lit (.int .i64 x.array.k), .lit (.int .i64 x.array.m), .loc 0 0 (x.array.drives.map DDrive.enc).length, .lit (.int .i64 x.done), .lit (.int .i64 x.code)])], weak_of (by repeat (first | refine all_cons (by first | rfl | exact eq_int rfl (by first | rfl | omega | (simp; done) | (simp; omega)) | exact eq_loc rfl (by first | rfl | omega | (simp; done) | (simp; omega)) | exact eq_bool rfl (by simp_all)) ?_ | exact all_nil)) (by repeat (first | refine all_cons (by first | rfl | exact eq_int rfl (by first | rfl | omega | (simp; done) | (simp; omega)) | exact eq_loc rfl (by first | rfl | omega | (simp; done) | (simp; omega)) | exact eq_bool rfl (by simp_all)) ?_ | exact all_nil)) rfl rfl, _, _, _, _, [0], markArray_c x.array (k) (by omega) (by have : x.array.cnV = (cnL DDrive.cnE) x.array.drives := rfl; omega) hx, (rens_cons (ren_agg (by repeat' (first | exact all2_nil | apply all2_cons | exact ren_lit rfl | exact ren_loc rfl rfl | exact ren_loc rfl (by simp)))) (rens_cons (ren_one (ren_int (by first | rfl | omega))) rens_nil)), (hasRows_cons rfl hasRows_nil), (by decide), rfl, (sfm_cons (sf_row (nbRow_map (fun y => DDrive.enc_nb y) _)) (sfm_cons rfl (sfm_cons rfl sfm_nil))), rfl, ?_⟩; (conv => whnf)
  refine ⟨by first | rfl | (congr 2; omega) | (rw [hcn]; congr 2; omega), ⟨rfl, rfl⟩, rfl, trivial⟩
theorem heldStoredS_c (l : List DStored) (k : Nat) (h1 : 1 ≤ k) (h2 : k + cnL DStored.cnE l ≤ 4611686018427387904) (hl : l.length ≤ 4611686018427387904) : Fun1 Try.prog 97 [.one (.row true 3 ((mkL DStored.mkE DStored.cnE l k).map DStored.enc)), .one (.lit (.int .i64 k))] (.one (.lit (.int .i64 ((k + cnL DStored.cnE l : Nat) : Int)))) := by
  refine fun1_of_vc tb_ok mix (fn := Try.f97) Try.func97 rfl (by kernel_rfl) (by kernel_rfl) (by simp [Try.f97]) (by rfl) ?_
  (conv => whnf)
  refine ⟨LG (fun i : Nat => i ≤ l.length) (fun i => l.length - i) (fun i => AS.of [(0, .one (.row true 3 ((mkL DStored.mkE DStored.cnE l k).map DStored.enc))), (1, .one (.lit (.int .i64 ((k + cnL DStored.cnE (l.take i) : Nat) : Int)))), (5, .one (.lit (.int .i64 (i : Nat))))] []), lg_init 0 (by omega) (weak_of (by repeat (first | refine all_cons (by first | rfl | exact eq_int rfl (by first | rfl | omega | (simp; done) | (simp; omega)) | exact eq_loc rfl (by first | rfl | omega | (simp; done) | (simp; omega)) | exact eq_bool rfl (by simp_all)) ?_ | exact all_nil)) (by repeat (first | refine all_cons (by first | rfl | exact eq_int rfl (by first | rfl | omega | (simp; done) | (simp; omega)) | exact eq_loc rfl (by first | rfl | omega | (simp; done) | (simp; omega)) | exact eq_bool rfl (by simp_all)) ?_ | exact all_nil)) rfl rfl), ?_⟩
  rintro σ m ⟨i, hi, rfl, rfl⟩
  refine ⟨_, Weak.refl _, ?_⟩
  (conv => whnf)
  (split <;> rename_i h <;> (try simp only [decide_eq_true_eq, decide_eq_false_iff_not, Bool.not_eq_true', Bool.not_eq_false', Bool.not_eq_true, Bool.not_eq_false, List.length_map] at h) <;> conv => whnf)
  · have hlt : i < l.length := by simpa [mkL_length] using h
    have hcs := cnL_take_succ (cn := DStored.cnE) hlt
    have hcl := cnL_take_le (cn := DStored.cnE) (l := l) (i := i + 1)
    generalize hq : k + cnL DStored.cnE (l.take i) = q at *
    have hcn : DStored.cnE l[i] = 1 + 1 + 1 := rfl
    have hel : ((mkL DStored.mkE DStored.cnE l k).map DStored.enc)[i]? = some [.lit (.string (markStr (q))), .lit (.string (markStr (q + 1))), .lit (.int .i64 ((q + 1 + 1 : Nat) : Int))] := by rw [List.getElem?_map, mkL_get hlt, hq]; rfl
    refine ⟨i, rfl, _, hel, ?_⟩; (conv => whnf)
    refine ⟨_, _, markText_c (q) (by omega) (by omega), (by repeat' (first | exact lends_nil | exact lend_dead | apply lends_cons | apply lend_agg | apply lend_one | exact all2_nil | apply all2_cons | exact la_lit rfl | exact la_int (by first | rfl | omega) | exact la_row rfl rfl | exact la_loc rfl rfl rfl (by first | rfl | simp [mkL_length]) (by first | rfl | simp) | exact la_nil rfl | apply la_fn rfl | exact lend_same rfl rfl | exact lend_bor rfl rfl)), ?_⟩; (conv => whnf)
    (first | (split <;> rename_i h4 <;> first | (exfalso; first | (simp at h4; done) | (simp at h4; omega) | (simp_all; done) | (simp_all; omega)) | (conv => whnf)) | skip)
    refine ⟨((q + 1 : Nat) : Int), by rw [← wrap64_id] <;> omega, ?_⟩; (conv => whnf)
    refine ⟨i, rfl, _, hel, ?_⟩; (conv => whnf)
    refine ⟨_, _, markText_c (q + 1) (by omega) (by omega), (by repeat' (first | exact lends_nil | exact lend_dead | apply lends_cons | apply lend_agg | apply lend_one | exact all2_nil | apply all2_cons | exact la_lit rfl | exact la_int (by first | rfl | omega) | exact la_row rfl rfl | exact la_loc rfl rfl rfl (by first | rfl | simp [mkL_length]) (by first | rfl | simp) | exact la_nil rfl | apply la_fn rfl | exact lend_same rfl rfl | exact lend_bor rfl rfl)), ?_⟩; (conv => whnf)
    (first | (split <;> rename_i h4 <;> first | (exfalso; first | (simp at h4; done) | (simp at h4; omega) | (simp_all; done) | (simp_all; omega)) | (conv => whnf)) | skip)
    refine ⟨((q + 1 + 1 : Nat) : Int), by rw [← wrap64_id] <;> omega, ?_⟩; (conv => whnf)
    refine ⟨i, rfl, _, hel, ?_⟩; (conv => whnf)
    (first | (split <;> rename_i h4 <;> first | (exfalso; first | (simp at h4; done) | (simp at h4; omega) | (simp_all; done) | (simp_all; omega)) | (conv => whnf)) | skip)
    refine ⟨((q + 1 + 1 + 1 : Nat) : Int), by rw [← wrap64_id] <;> omega, ?_⟩; (conv => whnf)
    refine ⟨((i + 1 : Nat) : Int), by rw [← wrap64_id] <;> omega, ?_⟩; (conv => whnf)
    exact lg_back (i + 1) (by omega) (by (try dsimp only); omega) (weak_of (by exact all_cons rfl (all_cons (eq_int rfl (by omega)) (all_cons rfl all_nil))) all_nil rfl rfl)
  · have : i = l.length := by simp [mkL_length] at h; omega
    subst this; rw [List.take_length]; exact ⟨close_int rfl, trivial⟩
theorem heldDrive_c (x : DDrive) (k : Nat) (h1 : 1 ≤ k) (h2 : k + x.cnV ≤ 4611686018427387904) (hx : (x.files.length ≤ 4611686018427387904)) : Fun1 Try.prog 21 [.agg (x.mkV k).enc, .one (.lit (.int .i64 k))] (.one (.lit (.int .i64 ((k + x.cnV : Nat) : Int)))) := by
  refine fun1_of_vc tb_ok mix (fn := Try.f21) Try.func21 rfl (by kernel_rfl) (by kernel_rfl) (by simp [Try.f21]) (by rfl) ?_
  have hcn : x.cnV = (cnL DStored.cnE) x.files := rfl
  (conv => whnf)
  refine ⟨_, _, heldStoredS_c x.files (k) (by omega) (by omega) hx, (by repeat' (first | exact lends_nil | exact lend_dead | apply lends_cons | apply lend_agg | apply lend_one | exact all2_nil | apply all2_cons | exact la_lit rfl | exact la_int (by first | rfl | omega) | exact la_row rfl rfl | exact la_loc rfl rfl rfl (by first | rfl | simp [mkL_length]) (by first | rfl | simp) | exact la_nil rfl | apply la_fn rfl | exact lend_same rfl rfl | exact lend_bor rfl rfl)), ?_⟩; (conv => whnf)
  (first | (split <;> rename_i h4 <;> first | (exfalso; first | (simp at h4; done) | (simp at h4; omega) | (simp_all; done) | (simp_all; omega)) | (conv => whnf)) | skip)
  exact ⟨close_int (by omega), trivial⟩
theorem heldDriveS_c (l : List DDrive) (k : Nat) (h1 : 1 ≤ k) (h2 : k + cnL DDrive.cnE l ≤ 4611686018427387904) (hl : l.length ≤ 4611686018427387904) (hx : ∀ y ∈ l, (y.files.length ≤ 4611686018427387904)) : Fun1 Try.prog 205 [.one (.row true 2 ((mkL DDrive.mkE DDrive.cnE l k).map DDrive.enc)), .one (.lit (.int .i64 k))] (.one (.lit (.int .i64 ((k + cnL DDrive.cnE l : Nat) : Int)))) := by
  refine fun1_of_vc tb_ok mix (fn := Try.f205) Try.func205 rfl (by kernel_rfl) (by kernel_rfl) (by simp [Try.f205]) (by rfl) ?_
  (conv => whnf)
  refine ⟨LG (fun i : Nat => i ≤ l.length) (fun i => l.length - i) (fun i => AS.of [(0, .one (.row true 2 ((mkL DDrive.mkE DDrive.cnE l k).map DDrive.enc))), (1, .one (.lit (.int .i64 ((k + cnL DDrive.cnE (l.take i) : Nat) : Int)))), (5, .one (.lit (.int .i64 (i : Nat))))] []), lg_init 0 (by omega) (weak_of (by repeat (first | refine all_cons (by first | rfl | exact eq_int rfl (by first | rfl | omega | (simp; done) | (simp; omega)) | exact eq_loc rfl (by first | rfl | omega | (simp; done) | (simp; omega)) | exact eq_bool rfl (by simp_all)) ?_ | exact all_nil)) (by repeat (first | refine all_cons (by first | rfl | exact eq_int rfl (by first | rfl | omega | (simp; done) | (simp; omega)) | exact eq_loc rfl (by first | rfl | omega | (simp; done) | (simp; omega)) | exact eq_bool rfl (by simp_all)) ?_ | exact all_nil)) rfl rfl), ?_⟩
  rintro σ m ⟨i, hi, rfl, rfl⟩
  refine ⟨_, Weak.refl _, ?_⟩
  (conv => whnf)
  (split <;> rename_i h <;> (try simp only [decide_eq_true_eq, decide_eq_false_iff_not, Bool.not_eq_true', Bool.not_eq_false', Bool.not_eq_true, Bool.not_eq_false, List.length_map] at h) <;> conv => whnf)
  · have hlt : i < l.length := by simpa [mkL_length] using h
    have hcs := cnL_take_succ (cn := DDrive.cnE) hlt
    have hcl := cnL_take_le (cn := DDrive.cnE) (l := l) (i := i + 1)
    generalize hq : k + cnL DDrive.cnE (l.take i) = q at *
    have hcn : DDrive.cnE l[i] = (cnL DStored.cnE) l[i].files + 1 := rfl
    have hel : ((mkL DDrive.mkE DDrive.cnE l k).map DDrive.enc)[i]? = some [.row true 3 (((mkL DStored.mkE DStored.cnE) l[i].files (q)).map DStored.enc), .lit (.int .i64 ((q + (cnL DStored.cnE) l[i].files : Nat) : Int))] := by rw [List.getElem?_map, mkL_get hlt, hq]; rfl
    have hxi := hx l[i] (List.getElem_mem hlt)
    refine ⟨i, rfl, _, hel, ?_⟩; (conv => whnf)
    refine ⟨_, _, heldStoredS_c l[i].files (q) (by omega) (by omega) (by first | exact hxi | exact hxi.1 | exact hxi.2.1 | exact hxi.2 | omega), (by repeat' (first | exact lends_nil | exact lend_dead | apply lends_cons | apply lend_agg | apply lend_one | exact all2_nil | apply all2_cons | exact la_lit rfl | exact la_int (by first | rfl | omega) | exact la_row rfl rfl | exact la_loc rfl rfl rfl (by first | rfl | simp [mkL_length]) (by first | rfl | simp) | exact la_nil rfl | apply la_fn rfl | exact lend_same rfl rfl | exact lend_bor rfl rfl)), ?_⟩; (conv => whnf)
    (first | (split <;> rename_i h4 <;> first | (exfalso; first | (simp at h4; done) | (simp at h4; omega) | (simp_all; done) | (simp_all; omega)) | (conv => whnf)) | skip)
    refine ⟨i, rfl, _, hel, ?_⟩; (conv => whnf)
    (first | (split <;> rename_i h4 <;> first | (exfalso; first | (simp at h4; done) | (simp at h4; omega) | (simp_all; done) | (simp_all; omega)) | (conv => whnf)) | skip)
    refine ⟨((q + (cnL DStored.cnE) l[i].files + 1 : Nat) : Int), by rw [← wrap64_id] <;> omega, ?_⟩; (conv => whnf)
    refine ⟨((i + 1 : Nat) : Int), by rw [← wrap64_id] <;> omega, ?_⟩; (conv => whnf)
    exact lg_back (i + 1) (by omega) (by (try dsimp only); omega) (weak_of (by exact all_cons rfl (all_cons (eq_int rfl (by omega)) (all_cons rfl all_nil))) all_nil rfl rfl)
  · have : i = l.length := by simp [mkL_length] at h; omega
    subst this; rw [List.take_length]; exact ⟨close_int rfl, trivial⟩
theorem heldArray_c (x : DArray) (k : Nat) (h1 : 1 ≤ k) (h2 : k + x.cnV ≤ 4611686018427387904) (hx : (x.drives.length ≤ 4611686018427387904 ∧ ∀ y ∈ x.drives, (y.files.length ≤ 4611686018427387904))) : Fun1 Try.prog 151 [.agg (x.mkV k).enc, .one (.lit (.int .i64 k))] (.one (.lit (.int .i64 ((k + x.cnV : Nat) : Int)))) := by
  refine fun1_of_vc tb_ok mix (fn := Try.f151) Try.func151 rfl (by kernel_rfl) (by kernel_rfl) (by simp [Try.f151]) (by rfl) ?_
  have hcn : x.cnV = (cnL DDrive.cnE) x.drives := rfl
  (conv => whnf)
  refine ⟨_, _, heldDriveS_c x.drives (k) (by omega) (by omega) hx.1 hx.2, (by repeat' (first | exact lends_nil | exact lend_dead | apply lends_cons | apply lend_agg | apply lend_one | exact all2_nil | apply all2_cons | exact la_lit rfl | exact la_int (by first | rfl | omega) | exact la_row rfl rfl | exact la_loc rfl rfl rfl (by first | rfl | simp [mkL_length]) (by first | rfl | simp) | exact la_nil rfl | apply la_fn rfl | exact lend_same rfl rfl | exact lend_bor rfl rfl)), ?_⟩; (conv => whnf)
  (first | (split <;> rename_i h4 <;> first | (exfalso; first | (simp at h4; done) | (simp at h4; omega) | (simp_all; done) | (simp_all; omega)) | (conv => whnf)) | skip)
  exact ⟨close_int (by omega), trivial⟩
theorem heldStepS_c (l : List DStep) (k : Nat) (h1 : 1 ≤ k) (h2 : k + cnL DStep.cnE l ≤ 4611686018427387904) (hl : l.length ≤ 4611686018427387904) : Fun1 Try.prog 30 [.one (.row true 5 ((mkL DStep.mkE DStep.cnE l k).map DStep.enc)), .one (.lit (.int .i64 k))] (.one (.lit (.int .i64 ((k + cnL DStep.cnE l : Nat) : Int)))) := by
  refine fun1_of_vc tb_ok mix (fn := Try.f30) Try.func30 rfl (by kernel_rfl) (by kernel_rfl) (by simp [Try.f30]) (by rfl) ?_
  (conv => whnf)
  refine ⟨LG (fun i : Nat => i ≤ l.length) (fun i => l.length - i) (fun i => AS.of [(0, .one (.row true 5 ((mkL DStep.mkE DStep.cnE l k).map DStep.enc))), (1, .one (.lit (.int .i64 ((k + cnL DStep.cnE (l.take i) : Nat) : Int)))), (5, .one (.lit (.int .i64 (i : Nat))))] []), lg_init 0 (by omega) (weak_of (by repeat (first | refine all_cons (by first | rfl | exact eq_int rfl (by first | rfl | omega | (simp; done) | (simp; omega)) | exact eq_loc rfl (by first | rfl | omega | (simp; done) | (simp; omega)) | exact eq_bool rfl (by simp_all)) ?_ | exact all_nil)) (by repeat (first | refine all_cons (by first | rfl | exact eq_int rfl (by first | rfl | omega | (simp; done) | (simp; omega)) | exact eq_loc rfl (by first | rfl | omega | (simp; done) | (simp; omega)) | exact eq_bool rfl (by simp_all)) ?_ | exact all_nil)) rfl rfl), ?_⟩
  rintro σ m ⟨i, hi, rfl, rfl⟩
  refine ⟨_, Weak.refl _, ?_⟩
  (conv => whnf)
  (split <;> rename_i h <;> (try simp only [decide_eq_true_eq, decide_eq_false_iff_not, Bool.not_eq_true', Bool.not_eq_false', Bool.not_eq_true, Bool.not_eq_false, List.length_map] at h) <;> conv => whnf)
  · have hlt : i < l.length := by simpa [mkL_length] using h
    have hcs := cnL_take_succ (cn := DStep.cnE) hlt
    have hcl := cnL_take_le (cn := DStep.cnE) (l := l) (i := i + 1)
    generalize hq : k + cnL DStep.cnE (l.take i) = q at *
    have hcn : DStep.cnE l[i] = 1 + 1 + 1 + 1 + 1 := rfl
    have hel : ((mkL DStep.mkE DStep.cnE l k).map DStep.enc)[i]? = some [.lit (.int .i64 ((q : Nat) : Int)), .lit (.int .i64 ((q + 1 : Nat) : Int)), .lit (.string (markStr (q + 1 + 1))), .lit (.string (markStr (q + 1 + 1 + 1))), .lit (.string (markStr (q + 1 + 1 + 1 + 1)))] := by rw [List.getElem?_map, mkL_get hlt, hq]; rfl
    refine ⟨i, rfl, _, hel, ?_⟩; (conv => whnf)
    (first | (split <;> rename_i h4 <;> first | (exfalso; first | (simp at h4; done) | (simp at h4; omega) | (simp_all; done) | (simp_all; omega)) | (conv => whnf)) | skip)
    refine ⟨((q + 1 : Nat) : Int), by rw [← wrap64_id] <;> omega, ?_⟩; (conv => whnf)
    refine ⟨i, rfl, _, hel, ?_⟩; (conv => whnf)
    (first | (split <;> rename_i h4 <;> first | (exfalso; first | (simp at h4; done) | (simp at h4; omega) | (simp_all; done) | (simp_all; omega)) | (conv => whnf)) | skip)
    refine ⟨((q + 1 + 1 : Nat) : Int), by rw [← wrap64_id] <;> omega, ?_⟩; (conv => whnf)
    refine ⟨i, rfl, _, hel, ?_⟩; (conv => whnf)
    refine ⟨_, _, markText_c (q + 1 + 1) (by omega) (by omega), (by repeat' (first | exact lends_nil | exact lend_dead | apply lends_cons | apply lend_agg | apply lend_one | exact all2_nil | apply all2_cons | exact la_lit rfl | exact la_int (by first | rfl | omega) | exact la_row rfl rfl | exact la_loc rfl rfl rfl (by first | rfl | simp [mkL_length]) (by first | rfl | simp) | exact la_nil rfl | apply la_fn rfl | exact lend_same rfl rfl | exact lend_bor rfl rfl)), ?_⟩; (conv => whnf)
    (first | (split <;> rename_i h4 <;> first | (exfalso; first | (simp at h4; done) | (simp at h4; omega) | (simp_all; done) | (simp_all; omega)) | (conv => whnf)) | skip)
    refine ⟨((q + 1 + 1 + 1 : Nat) : Int), by rw [← wrap64_id] <;> omega, ?_⟩; (conv => whnf)
    refine ⟨i, rfl, _, hel, ?_⟩; (conv => whnf)
    refine ⟨_, _, markText_c (q + 1 + 1 + 1) (by omega) (by omega), (by repeat' (first | exact lends_nil | exact lend_dead | apply lends_cons | apply lend_agg | apply lend_one | exact all2_nil | apply all2_cons | exact la_lit rfl | exact la_int (by first | rfl | omega) | exact la_row rfl rfl | exact la_loc rfl rfl rfl (by first | rfl | simp [mkL_length]) (by first | rfl | simp) | exact la_nil rfl | apply la_fn rfl | exact lend_same rfl rfl | exact lend_bor rfl rfl)), ?_⟩; (conv => whnf)
    (first | (split <;> rename_i h4 <;> first | (exfalso; first | (simp at h4; done) | (simp at h4; omega) | (simp_all; done) | (simp_all; omega)) | (conv => whnf)) | skip)
    refine ⟨((q + 1 + 1 + 1 + 1 : Nat) : Int), by rw [← wrap64_id] <;> omega, ?_⟩; (conv => whnf)
    refine ⟨i, rfl, _, hel, ?_⟩; (conv => whnf)
    refine ⟨_, _, markText_c (q + 1 + 1 + 1 + 1) (by omega) (by omega), (by repeat' (first | exact lends_nil | exact lend_dead | apply lends_cons | apply lend_agg | apply lend_one | exact all2_nil | apply all2_cons | exact la_lit rfl | exact la_int (by first | rfl | omega) | exact la_row rfl rfl | exact la_loc rfl rfl rfl (by first | rfl | simp [mkL_length]) (by first | rfl | simp) | exact la_nil rfl | apply la_fn rfl | exact lend_same rfl rfl | exact lend_bor rfl rfl)), ?_⟩; (conv => whnf)
    (first | (split <;> rename_i h4 <;> first | (exfalso; first | (simp at h4; done) | (simp at h4; omega) | (simp_all; done) | (simp_all; omega)) | (conv => whnf)) | skip)
    refine ⟨((q + 1 + 1 + 1 + 1 + 1 : Nat) : Int), by rw [← wrap64_id] <;> omega, ?_⟩; (conv => whnf)
    refine ⟨((i + 1 : Nat) : Int), by rw [← wrap64_id] <;> omega, ?_⟩; (conv => whnf)
    exact lg_back (i + 1) (by omega) (by (try dsimp only); omega) (weak_of (by exact all_cons rfl (all_cons (eq_int rfl (by omega)) (all_cons rfl all_nil))) all_nil rfl rfl)
  · have : i = l.length := by simp [mkL_length] at h; omega
    subst this; rw [List.take_length]; exact ⟨close_int rfl, trivial⟩
theorem heldClientS_c (l : List DClient) (k : Nat) (h1 : 1 ≤ k) (h2 : k + cnL DClient.cnE l ≤ 4611686018427387904) (hl : l.length ≤ 4611686018427387904) (hx : ∀ y ∈ l, (y.steps.length ≤ 4611686018427387904)) : Fun1 Try.prog 152 [.one (.row true 5 ((mkL DClient.mkE DClient.cnE l k).map DClient.enc)), .one (.lit (.int .i64 k))] (.one (.lit (.int .i64 ((k + cnL DClient.cnE l : Nat) : Int)))) := by
  refine fun1_of_vc tb_ok mix (fn := Try.f152) Try.func152 rfl (by kernel_rfl) (by kernel_rfl) (by simp [Try.f152]) (by rfl) ?_
  (conv => whnf)
  refine ⟨LG (fun i : Nat => i ≤ l.length) (fun i => l.length - i) (fun i => AS.of [(0, .one (.row true 5 ((mkL DClient.mkE DClient.cnE l k).map DClient.enc))), (1, .one (.lit (.int .i64 ((k + cnL DClient.cnE (l.take i) : Nat) : Int)))), (5, .one (.lit (.int .i64 (i : Nat))))] []), lg_init 0 (by omega) (weak_of (by repeat (first | refine all_cons (by first | rfl | exact eq_int rfl (by first | rfl | omega | (simp; done) | (simp; omega)) | exact eq_loc rfl (by first | rfl | omega | (simp; done) | (simp; omega)) | exact eq_bool rfl (by simp_all)) ?_ | exact all_nil)) (by repeat (first | refine all_cons (by first | rfl | exact eq_int rfl (by first | rfl | omega | (simp; done) | (simp; omega)) | exact eq_loc rfl (by first | rfl | omega | (simp; done) | (simp; omega)) | exact eq_bool rfl (by simp_all)) ?_ | exact all_nil)) rfl rfl), ?_⟩
  rintro σ m ⟨i, hi, rfl, rfl⟩
  refine ⟨_, Weak.refl _, ?_⟩
  (conv => whnf)
  (split <;> rename_i h <;> (try simp only [decide_eq_true_eq, decide_eq_false_iff_not, Bool.not_eq_true', Bool.not_eq_false', Bool.not_eq_true, Bool.not_eq_false, List.length_map] at h) <;> conv => whnf)
  · have hlt : i < l.length := by simpa [mkL_length] using h
    have hcs := cnL_take_succ (cn := DClient.cnE) hlt
    have hcl := cnL_take_le (cn := DClient.cnE) (l := l) (i := i + 1)
    generalize hq : k + cnL DClient.cnE (l.take i) = q at *
    have hcn : DClient.cnE l[i] = 1 + 1 + (cnL DStep.cnE) l[i].steps + 1 + 1 := rfl
    have hel : ((mkL DClient.mkE DClient.cnE l k).map DClient.enc)[i]? = some [.lit (.int .i64 ((q : Nat) : Int)), .lit (.string (markStr (q + 1))), .row true 5 (((mkL DStep.mkE DStep.cnE) l[i].steps (q + 1 + 1)).map DStep.enc), .lit (.int .i64 ((q + 1 + 1 + (cnL DStep.cnE) l[i].steps : Nat) : Int)), .lit (.int .i64 ((q + 1 + 1 + (cnL DStep.cnE) l[i].steps + 1 : Nat) : Int))] := by rw [List.getElem?_map, mkL_get hlt, hq]; rfl
    have hxi := hx l[i] (List.getElem_mem hlt)
    refine ⟨i, rfl, _, hel, ?_⟩; (conv => whnf)
    (first | (split <;> rename_i h4 <;> first | (exfalso; first | (simp at h4; done) | (simp at h4; omega) | (simp_all; done) | (simp_all; omega)) | (conv => whnf)) | skip)
    refine ⟨((q + 1 : Nat) : Int), by rw [← wrap64_id] <;> omega, ?_⟩; (conv => whnf)
    refine ⟨i, rfl, _, hel, ?_⟩; (conv => whnf)
    refine ⟨_, _, markText_c (q + 1) (by omega) (by omega), (by repeat' (first | exact lends_nil | exact lend_dead | apply lends_cons | apply lend_agg | apply lend_one | exact all2_nil | apply all2_cons | exact la_lit rfl | exact la_int (by first | rfl | omega) | exact la_row rfl rfl | exact la_loc rfl rfl rfl (by first | rfl | simp [mkL_length]) (by first | rfl | simp) | exact la_nil rfl | apply la_fn rfl | exact lend_same rfl rfl | exact lend_bor rfl rfl)), ?_⟩; (conv => whnf)
    (first | (split <;> rename_i h4 <;> first | (exfalso; first | (simp at h4; done) | (simp at h4; omega) | (simp_all; done) | (simp_all; omega)) | (conv => whnf)) | skip)
    refine ⟨((q + 1 + 1 : Nat) : Int), by rw [← wrap64_id] <;> omega, ?_⟩; (conv => whnf)
    refine ⟨i, rfl, _, hel, ?_⟩; (conv => whnf)
    refine ⟨_, _, heldStepS_c l[i].steps (q + 1 + 1) (by omega) (by omega) (by first | exact hxi | exact hxi.1 | exact hxi.2.1 | exact hxi.2 | omega), (by repeat' (first | exact lends_nil | exact lend_dead | apply lends_cons | apply lend_agg | apply lend_one | exact all2_nil | apply all2_cons | exact la_lit rfl | exact la_int (by first | rfl | omega) | exact la_row rfl rfl | exact la_loc rfl rfl rfl (by first | rfl | simp [mkL_length]) (by first | rfl | simp) | exact la_nil rfl | apply la_fn rfl | exact lend_same rfl rfl | exact lend_bor rfl rfl)), ?_⟩; (conv => whnf)
    (first | (split <;> rename_i h4 <;> first | (exfalso; first | (simp at h4; done) | (simp at h4; omega) | (simp_all; done) | (simp_all; omega)) | (conv => whnf)) | skip)
    refine ⟨i, rfl, _, hel, ?_⟩; (conv => whnf)
    (first | (split <;> rename_i h4 <;> first | (exfalso; first | (simp at h4; done) | (simp at h4; omega) | (simp_all; done) | (simp_all; omega)) | (conv => whnf)) | skip)
    refine ⟨((q + 1 + 1 + (cnL DStep.cnE) l[i].steps + 1 : Nat) : Int), by rw [← wrap64_id] <;> omega, ?_⟩; (conv => whnf)
    refine ⟨i, rfl, _, hel, ?_⟩; (conv => whnf)
    (first | (split <;> rename_i h4 <;> first | (exfalso; first | (simp at h4; done) | (simp at h4; omega) | (simp_all; done) | (simp_all; omega)) | (conv => whnf)) | skip)
    refine ⟨((q + 1 + 1 + (cnL DStep.cnE) l[i].steps + 1 + 1 : Nat) : Int), by rw [← wrap64_id] <;> omega, ?_⟩; (conv => whnf)
    refine ⟨((i + 1 : Nat) : Int), by rw [← wrap64_id] <;> omega, ?_⟩; (conv => whnf)
    exact lg_back (i + 1) (by omega) (by (try dsimp only); omega) (weak_of (by exact all_cons rfl (all_cons (eq_int rfl (by omega)) (all_cons rfl all_nil))) all_nil rfl rfl)
  · have : i = l.length := by simp [mkL_length] at h; omega
    subst this; rw [List.take_length]; exact ⟨close_int rfl, trivial⟩
theorem heldWorld_c (x : DWorld) (k : Nat) (h1 : 1 ≤ k) (h2 : k + x.cnV ≤ 4611686018427387904) (hx : ((x.array.drives.length ≤ 4611686018427387904 ∧ ∀ y ∈ x.array.drives, (y.files.length ≤ 4611686018427387904))) ∧ (x.clients.length ≤ 4611686018427387904 ∧ ∀ y ∈ x.clients, (y.steps.length ≤ 4611686018427387904))) : Fun1 Try.prog 59 [.agg (x.mkV k).enc, .one (.lit (.int .i64 k))] (.one (.lit (.int .i64 ((k + x.cnV : Nat) : Int)))) := by
  refine fun1_of_vc tb_ok mix (fn := Try.f59) Try.func59 rfl (by kernel_rfl) (by kernel_rfl) (by simp [Try.f59]) (by rfl) ?_
  have hcn : x.cnV = (cnL DDrive.cnE) x.array.drives + (cnL DClient.cnE) x.clients := rfl
  (conv => whnf)
  have hcn0 : x.array.cnV = (cnL DDrive.cnE) x.array.drives := rfl
  refine ⟨_, _, heldArray_c x.array (k) (by omega) (by omega) hx.1, (by repeat' (first | exact lends_nil | exact lend_dead | apply lends_cons | apply lend_agg | apply lend_one | exact all2_nil | apply all2_cons | exact la_lit rfl | exact la_int (by first | rfl | omega) | exact la_row rfl rfl | exact la_loc rfl rfl rfl (by first | rfl | simp [mkL_length]) (by first | rfl | simp) | exact la_nil rfl | apply la_fn rfl | exact lend_same rfl rfl | exact lend_bor rfl rfl)), ?_⟩; (conv => whnf)
  (first | (split <;> rename_i h4 <;> first | (exfalso; first | (simp at h4; done) | (simp at h4; omega) | (simp_all; done) | (simp_all; omega)) | (conv => whnf)) | skip)
  refine ⟨_, _, heldClientS_c x.clients (k + (cnL DDrive.cnE) x.array.drives) (by omega) (by omega) hx.2.1 hx.2.2, (by repeat' (first | exact lends_nil | exact lend_dead | apply lends_cons | apply lend_agg | apply lend_one | exact all2_nil | apply all2_cons | exact la_lit rfl | exact la_int (by first | rfl | omega) | exact la_row rfl rfl | exact la_loc rfl rfl rfl (by first | rfl | simp [mkL_length]) (by first | rfl | simp) | exact la_nil rfl | apply la_fn rfl | exact lend_same rfl rfl | exact lend_bor rfl rfl)), ?_⟩; (conv => whnf)
  (first | (split <;> rename_i h4 <;> first | (exfalso; first | (simp at h4; done) | (simp at h4; omega) | (simp_all; done) | (simp_all; omega)) | (conv => whnf)) | skip)
  exact ⟨close_int (by omega), trivial⟩
theorem heldDriveOut_c (x : DDriveOut) (k : Nat) (h1 : 1 ≤ k) (h2 : k + x.cnV ≤ 4611686018427387904) (hx : ((x.drive.files.length ≤ 4611686018427387904))) : Fun1 Try.prog 52 [.agg (x.mkV k).enc, .one (.lit (.int .i64 k))] (.one (.lit (.int .i64 ((k + x.cnV : Nat) : Int)))) := by
  refine fun1_of_vc tb_ok mix (fn := Try.f52) Try.func52 rfl (by kernel_rfl) (by kernel_rfl) (by simp [Try.f52]) (by rfl) ?_
  have hcn : x.cnV = (cnL DStored.cnE) x.drive.files := rfl
  (conv => whnf)
  have hcn0 : x.drive.cnV = (cnL DStored.cnE) x.drive.files := rfl
  refine ⟨_, _, heldDrive_c x.drive (k) (by omega) (by omega) hx, (by repeat' (first | exact lends_nil | exact lend_dead | apply lends_cons | apply lend_agg | apply lend_one | exact all2_nil | apply all2_cons | exact la_lit rfl | exact la_int (by first | rfl | omega) | exact la_row rfl rfl | exact la_loc rfl rfl rfl (by first | rfl | simp [mkL_length]) (by first | rfl | simp) | exact la_nil rfl | apply la_fn rfl | exact lend_same rfl rfl | exact lend_bor rfl rfl)), ?_⟩; (conv => whnf)
  (first | (split <;> rename_i h4 <;> first | (exfalso; first | (simp at h4; done) | (simp at h4; omega) | (simp_all; done) | (simp_all; omega)) | (conv => whnf)) | skip)
  exact ⟨close_int (by omega), trivial⟩
theorem heldStringS_c (l : List ByteArray) (k : Nat) (h1 : 1 ≤ k) (h2 : k + cnL (fun _ => 1) l ≤ 4611686018427387904) (hl : l.length ≤ 4611686018427387904) : Fun1 Try.prog 69 [.one (.row true 1 ((mkL mrkT (fun _ => 1) l k).map eStr)), .one (.lit (.int .i64 k))] (.one (.lit (.int .i64 ((k + cnL (fun _ => 1) l : Nat) : Int)))) := by
  refine fun1_of_vc tb_ok mix (fn := Try.f69) Try.func69 rfl (by kernel_rfl) (by kernel_rfl) (by simp [Try.f69]) (by rfl) ?_
  (conv => whnf)
  refine ⟨LG (fun i : Nat => i ≤ l.length) (fun i => l.length - i) (fun i => AS.of [(0, .one (.row true 1 ((mkL mrkT (fun _ => 1) l k).map eStr))), (1, .one (.lit (.int .i64 ((k + cnL (fun _ => 1) (l.take i) : Nat) : Int)))), (5, .one (.lit (.int .i64 (i : Nat))))] []), lg_init 0 (by omega) (weak_of (by repeat (first | refine all_cons (by first | rfl | exact eq_int rfl (by first | rfl | omega | (simp; done) | (simp; omega)) | exact eq_loc rfl (by first | rfl | omega | (simp; done) | (simp; omega)) | exact eq_bool rfl (by simp_all)) ?_ | exact all_nil)) (by repeat (first | refine all_cons (by first | rfl | exact eq_int rfl (by first | rfl | omega | (simp; done) | (simp; omega)) | exact eq_loc rfl (by first | rfl | omega | (simp; done) | (simp; omega)) | exact eq_bool rfl (by simp_all)) ?_ | exact all_nil)) rfl rfl), ?_⟩
  rintro σ m ⟨i, hi, rfl, rfl⟩
  refine ⟨_, Weak.refl _, ?_⟩
  (conv => whnf)
  (split <;> rename_i h <;> (try simp only [decide_eq_true_eq, decide_eq_false_iff_not, Bool.not_eq_true', Bool.not_eq_false', Bool.not_eq_true, Bool.not_eq_false, List.length_map] at h) <;> conv => whnf)
  · have hlt : i < l.length := by simpa [mkL_length] using h
    have hcs := cnL_take_succ (cn := (fun _ => 1)) hlt
    have hcl := cnL_take_le (cn := (fun _ => 1)) (l := l) (i := i + 1)
    generalize hq : k + cnL (fun _ => 1) (l.take i) = q at *
    have hcn : (fun _ => 1) l[i] = 1 := rfl
    have hel : ((mkL mrkT (fun _ => 1) l k).map eStr)[i]? = some [.lit (.string (markStr (q)))] := by rw [List.getElem?_map, mkL_get hlt, hq]; rfl
    refine ⟨i, rfl, _, hel, ?_⟩; (conv => whnf)
    refine ⟨_, _, markText_c (q) (by omega) (by omega), (by repeat' (first | exact lends_nil | exact lend_dead | apply lends_cons | apply lend_agg | apply lend_one | exact all2_nil | apply all2_cons | exact la_lit rfl | exact la_int (by first | rfl | omega) | exact la_row rfl rfl | exact la_loc rfl rfl rfl (by first | rfl | simp [mkL_length]) (by first | rfl | simp) | exact la_nil rfl | apply la_fn rfl | exact lend_same rfl rfl | exact lend_bor rfl rfl)), ?_⟩; (conv => whnf)
    (first | (split <;> rename_i h4 <;> first | (exfalso; first | (simp at h4; done) | (simp at h4; omega) | (simp_all; done) | (simp_all; omega)) | (conv => whnf)) | skip)
    refine ⟨((q + 1 : Nat) : Int), by rw [← wrap64_id] <;> omega, ?_⟩; (conv => whnf)
    refine ⟨((i + 1 : Nat) : Int), by rw [← wrap64_id] <;> omega, ?_⟩; (conv => whnf)
    exact lg_back (i + 1) (by omega) (by (try dsimp only); omega) (weak_of (by exact all_cons rfl (all_cons (eq_int rfl (by omega)) (all_cons rfl all_nil))) all_nil rfl rfl)
  · have : i = l.length := by simp [mkL_length] at h; omega
    subst this; rw [List.take_length]; exact ⟨close_int rfl, trivial⟩
theorem heldArrayOut_c (x : DArrayOut) (k : Nat) (h1 : 1 ≤ k) (h2 : k + x.cnV ≤ 4611686018427387904) (hx : ((x.array.drives.length ≤ 4611686018427387904 ∧ ∀ y ∈ x.array.drives, (y.files.length ≤ 4611686018427387904)))) : Fun1 Try.prog 83 [.agg (x.mkV k).enc, .one (.lit (.int .i64 k))] (.one (.lit (.int .i64 ((k + x.cnV : Nat) : Int)))) := by
  refine fun1_of_vc tb_ok mix (fn := Try.f83) Try.func83 rfl (by kernel_rfl) (by kernel_rfl) (by simp [Try.f83]) (by rfl) ?_
  have hcn : x.cnV = (cnL DDrive.cnE) x.array.drives := rfl
  (conv => whnf)
  have hcn0 : x.array.cnV = (cnL DDrive.cnE) x.array.drives := rfl
  refine ⟨_, _, heldArray_c x.array (k) (by omega) (by omega) hx, (by repeat' (first | exact lends_nil | exact lend_dead | apply lends_cons | apply lend_agg | apply lend_one | exact all2_nil | apply all2_cons | exact la_lit rfl | exact la_int (by first | rfl | omega) | exact la_row rfl rfl | exact la_loc rfl rfl rfl (by first | rfl | simp [mkL_length]) (by first | rfl | simp) | exact la_nil rfl | apply la_fn rfl | exact lend_same rfl rfl | exact lend_bor rfl rfl)), ?_⟩; (conv => whnf)
  (first | (split <;> rename_i h4 <;> first | (exfalso; first | (simp at h4; done) | (simp at h4; omega) | (simp_all; done) | (simp_all; omega)) | (conv => whnf)) | skip)
  exact ⟨close_int (by omega), trivial⟩
end Go.Proofs.Ytlijeincckbdaaa
