/- Contracts (implementation): steps are done to an array. -/
import Derived.Test.YtlijeincckbdaaaQl
import Derived.Test.YtlijeincckbdaaaQj
import Derived.Test.YtlijeincckbdaaaQd
namespace Go.Proofs.Ytlijeincckbdaaa
open Go.RowKit
set_option linter.unusedSimpArgs false
set_option linter.unusedVariables false
set_option maxRecDepth 100000
set_option maxHeartbeats 4000000
theorem set_split {α β : Type} {f : α → β} {l : List α} {i : Nat} (h : i < l.length) (e : β) : (l.map f).set (0 + i) e = (l.take i).map f ++ e :: (l.drop (i + 1)).map f := by
  rw [Nat.zero_add, List.set_eq_take_append_cons_drop, if_pos (by simpa using h), List.map_take, List.map_drop]
theorem doAll_c (x : DArray) (hx : x.ok) (hr : arrayOk x = true) (l : List DStep) (hl : ∀ s ∈ l, s.ok) (hlen : l.length ≤ 400) (hin : l.all (inR x.drives.length) = true) (n : Int) (hn : inI n) (res : DArrayOut) (hres : stepsF n l x 0 = res) :
    Fun1 Try.prog 169 [.agg x.enc, .one (.row true 5 (l.map DStep.enc)), .one (.lit (.int .i64 n))] (.agg res.enc) := by
  refine fun1_of_vc tb_ok mix (fn := Try.f169) Try.func169 rfl (by kernel_rfl) (by kernel_rfl) (by simp [Try.f169]) (by exact DArrayOut.enc_nb _) ?_
  (conv => whnf)
  refine ⟨_, _, arrayCopied_c x hx, (by repeat' (first | exact lends_nil | exact lend_dead | apply lends_cons | apply lend_agg | apply lend_one | exact all2_nil | apply all2_cons | exact la_lit rfl | exact la_int (by first | rfl | omega) | exact la_row rfl rfl | exact la_loc rfl rfl rfl (by first | rfl | simp [mkL_length]) (by first | rfl | simp) | exact la_nil rfl | apply la_fn rfl | exact lend_same rfl rfl | exact lend_bor rfl rfl)), ?_⟩; (conv => whnf)
  refine ⟨LG (fun p : Nat × DArray => p.1 ≤ l.length ∧ p.2.ok ∧ arrayOk p.2 = true ∧ p.2.drives.length = x.drives.length ∧ stepsF n (l.drop p.1) p.2 p.1 = res) (fun p => l.length - p.1)
      (fun p => AS.of [(2, .one (.lit (.int .i64 n))), (6, .one (.ptr 96 0)), (7, .one (.ptr 112 0)), (13, .one (.row true 5 (l.map DStep.enc))), (14, .one (.lit (.int .i64 (l.length : Nat)))), (15, .one (.lit (.int .i64 (p.1 : Nat))))]
        [(96, .var [.lit (.int .i64 0), .lit (.int .i64 0), .lit (.slice none 0 0), .lit (.int .i64 0), .lit (.int .i64 0)]), (112, .var [.lit (.int .i64 p.2.k), .lit (.int .i64 p.2.m), .loc 178 0 p.2.drives.length, .lit (.int .i64 (p.1 : Nat)), .lit (.int .i64 0)]), (178, .row true 2 (p.2.drives.map DDrive.enc))]),
    lg_init (0, x) ⟨Nat.zero_le _, hx, hr, rfl, hres⟩ (weak_of (by repeat (first | refine all_cons (by first | rfl | exact eq_int rfl (by first | rfl | omega | (simp; done) | (simp; omega)) | exact eq_loc rfl (by first | rfl | omega | (simp; done) | (simp; omega)) | exact eq_bool rfl (by simp_all)) ?_ | exact all_nil)) (all_cons rfl (all_cons (eq_var (xs := [.lit (.int .i64 x.k), .lit (.int .i64 x.m), .loc 178 0 (x.drives.map DDrive.enc).length, .lit (.int .i64 0), .lit (.int .i64 0)]) rfl (by simp)) (all_cons rfl all_nil))) rfl rfl), ?_⟩
  rintro σ k ⟨⟨i, y⟩, ⟨hi, hy, hyr, hyl, hF⟩, rfl, rfl⟩
  simp only at hi hy hyr hyl hF ⊢
  refine ⟨_, Weak.refl _, ?_⟩
  (conv => whnf)
  (split <;> rename_i h <;> (try simp only [decide_eq_true_eq, decide_eq_false_iff_not, Bool.not_eq_true', Bool.not_eq_false', Bool.not_eq_true, Bool.not_eq_false, List.length_map] at h) <;> conv => whnf)
  · have hlt : i < l.length := by omega
    refine ⟨i, rfl, _, at_map hlt, ?_⟩; (conv => whnf)
    (split <;> rename_i h2 <;> (try simp only [decide_eq_true_eq, decide_eq_false_iff_not, Bool.not_eq_true', Bool.not_eq_false', Bool.not_eq_true, Bool.not_eq_false, List.length_map] at h2) <;> conv => whnf)
    · have : res = ⟨y, i, 0⟩ := by rw [← hF, stepsF_at hlt, if_pos (by omega)]
      subst this
      exact ⟨close_int rfl, close_int rfl, close_row rfl rfl (by simp) (by simp), close_int rfl, close_int rfl, trivial⟩
    · have hso := hl _ (List.getElem_mem hlt)
      have hrg := List.all_eq_true.1 hin _ (List.getElem_mem hlt)
      simp only [inR, Bool.and_eq_true, decide_eq_true_eq, ← hyl] at hrg
      obtain ⟨q, hq⟩ : ∃ q : Nat, l[i].drive = (q : Int) := ⟨l[i].drive.toNat, by omega⟩
      have hql : q < y.drives.length := by omega
      have hqn : l[i].drive.toNat = q := by omega
      have hdm := List.getElem_mem hql
      have hdr : driveOk y.drives[q] = true := by
        unfold arrayOk at hyr
        simp only [Bool.and_eq_true, List.all_eq_true] at hyr
        exact hyr.2 _ hdm
      have hdo := hy.2.2.2 _ hdm
      have hat := stepsF_at (n := n) hlt (x := y) (k := (i : Int))
      rw [hF, if_neg (by omega), hqn, List.getElem?_eq_getElem hql] at hat
      simp only at hat
      by_cases ho : opOk l[i].op = true
      · have hdf : driveDoF y.drives[q] l[i].op = doF y.drives[q] l[i].op := by unfold driveDoF; rw [if_pos ⟨hdr, ho⟩]
        have hrr := doF_right hdr ho
        have hrok := (doF_ok _ hdo hdr l[i].op hso.2).1
        rw [hdf] at hat
        generalize hr0 : doF y.drives[q] l[i].op = r at *
        by_cases hc0 : r.code = 0
        · rw [if_pos hc0] at hat
          have hset : ((setD y q r.drive).drives.map DDrive.enc) = (y.drives.take q).map DDrive.enc ++ r.drive.enc :: (y.drives.drop (q + 1)).map DDrive.enc := by
            have := set_split (f := DDrive.enc) hql r.drive.enc
            rw [← this, Nat.zero_add]
            simp [setD, List.map_set]
          refine ⟨AS.of [(2, .one (.lit (.int .i64 n))), (6, .one (.ptr 96 0)), (7, .one (.ptr 112 0)), (13, .one (.row true 5 (l.map DStep.enc))), (14, .one (.lit (.int .i64 (l.length : Nat)))), (15, .one (.lit (.int .i64 (i : Nat))))]
            [(96, .var [.lit (.int .i64 0), .lit (.int .i64 0), .lit (.slice none 0 0), .lit (.int .i64 0), .lit (.int .i64 0)]), (112, .var [.lit (.int .i64 y.k), .lit (.int .i64 y.m), .loc 178 0 y.drives.length, .lit (.int .i64 (i : Nat)), .lit (.int .i64 0)]), (178, .row true 2 ((setD y q r.drive).drives.map DDrive.enc))], .one (.lit (.int .i64 0)), (inl_ok (E := tbO215) (tbF_ok _) mix (fn := Try.f215) Try.func215 rfl (by kernel_rfl) (by kernel_rfl) (by simp [Try.f215]) rfl (by decide) rfl ?_), ?_⟩
          · (conv => whnf)
            refine ⟨_, _, opImpl_c l[i].op hso.2, (by repeat' (first | exact lends_nil | exact lend_dead | apply lends_cons | apply lend_agg | apply lend_one | exact all2_nil | apply all2_cons | exact la_lit rfl | exact la_int (by first | rfl | omega) | exact la_row rfl rfl | exact la_loc rfl rfl rfl (by first | rfl | simp [mkL_length]) (by first | rfl | simp) | exact la_nil rfl | apply la_fn rfl | exact lend_same rfl rfl | exact lend_bor rfl rfl)), ?_⟩; (conv => whnf)
            (split <;> rename_i hb <;> (try simp only [decide_eq_true_eq, decide_eq_false_iff_not, Bool.not_eq_true', Bool.not_eq_false', Bool.not_eq_true, Bool.not_eq_false, List.length_map] at hb) <;> conv => whnf)
            · exact absurd ho (by simp [hb])
            · refine ⟨q, hq, hql, ?_⟩; (conv => whnf)
              refine ⟨_, at_map0 hql, ?_⟩; (conv => whnf)
              refine ⟨_, _, done_c y.drives[q] hdo hdr l[i].op hso.2 ho r hr0, (by repeat' (first | exact lends_nil | exact lend_dead | apply lends_cons | apply lend_agg | apply lend_one | exact all2_nil | apply all2_cons | exact la_lit rfl | exact la_int (by first | rfl | omega) | exact la_row rfl rfl | exact la_loc rfl rfl rfl (by first | rfl | simp [mkL_length]) (by first | rfl | simp) | exact la_nil rfl | apply la_fn rfl | exact lend_same rfl rfl | exact lend_bor rfl rfl)), ?_⟩; (conv => whnf)
              (split <;> rename_i hc <;> (try simp only [decide_eq_true_eq, decide_eq_false_iff_not, Bool.not_eq_true', Bool.not_eq_false', Bool.not_eq_true, Bool.not_eq_false, List.length_map] at hc) <;> conv => whnf)
              · refine ⟨q, hq, hql, ?_⟩; (conv => whnf)
                refine ⟨_, at_map0 hql, ?_⟩; (conv => whnf)
                refine ⟨_, (set_split hql _).symm, ?_⟩; (conv => whnf)
                exact ⟨eq_int rfl hc0, weak_absorb 178 352 ((y.drives.take q).map DDrive.enc) ((y.drives.drop (q + 1)).map DDrive.enc) [] [.lit (.int .i64 r.drive.room)] (es2 := r.drive.files.map DStored.enc) (by decide) rfl rfl (cellRow_map (fun _ => rfl) _) (cellRow_map (fun _ => rfl) _) rfl rfl
                  (weak_of (by repeat (first | refine all_cons (by first | rfl | exact eq_int rfl (by first | rfl | omega | (simp; done) | (simp; omega)) | exact eq_loc rfl (by first | rfl | omega | (simp; done) | (simp; omega)) | exact eq_bool rfl (by simp_all)) ?_ | exact all_nil)) (all_cons rfl (all_cons rfl (all_cons (eq_row rfl (by rw [hset]; rfl)) all_nil))) rfl rfl)⟩
              · exact absurd hc0 hc
          · (conv => whnf)
            (refine ⟨((i + 1 : Nat) : Int), by rw [← wrap64_id] <;> omega, ?_⟩; conv => whnf)
            (refine ⟨((i + 1 : Nat) : Int), by rw [← wrap64_id] <;> omega, ?_⟩; conv => whnf)
            exact lg_back ((i + 1, setD y q r.drive) : Nat × DArray) ⟨hlt, setD_ok hy hrok.1, setD_right hyr (hrr hc0), by rw [setD_len]; exact hyl, hat.symm⟩ (by (try dsimp only); omega) (weak_of (by repeat (first | refine all_cons (by first | rfl | exact eq_int rfl (by first | rfl | omega | (simp; done) | (simp; omega)) | exact eq_loc rfl (by first | rfl | omega | (simp; done) | (simp; omega)) | exact eq_bool rfl (by simp_all)) ?_ | exact all_nil)) (all_cons rfl (all_cons (eq_var rfl (by simp [setD])) (all_cons rfl all_nil))) rfl rfl)
        · rw [if_neg hc0] at hat
          subst hat
          refine ⟨AS.of [(2, .one (.lit (.int .i64 n))), (6, .one (.ptr 96 0)), (7, .one (.ptr 112 0)), (13, .one (.row true 5 (l.map DStep.enc))), (14, .one (.lit (.int .i64 (l.length : Nat)))), (15, .one (.lit (.int .i64 (i : Nat))))]
            [(96, .var [.lit (.int .i64 0), .lit (.int .i64 0), .lit (.slice none 0 0), .lit (.int .i64 0), .lit (.int .i64 0)]), (112, .var [.lit (.int .i64 y.k), .lit (.int .i64 y.m), .loc 178 0 y.drives.length, .lit (.int .i64 (i : Nat)), .lit (.int .i64 0)]), (178, .row true 2 (y.drives.map DDrive.enc))], .one (.lit (.int .i64 r.code)), (inl_ok (E := tbO215) (tbF_ok _) mix (fn := Try.f215) Try.func215 rfl (by kernel_rfl) (by kernel_rfl) (by simp [Try.f215]) rfl (by decide) rfl ?_), ?_⟩
          · (conv => whnf)
            refine ⟨_, _, opImpl_c l[i].op hso.2, (by repeat' (first | exact lends_nil | exact lend_dead | apply lends_cons | apply lend_agg | apply lend_one | exact all2_nil | apply all2_cons | exact la_lit rfl | exact la_int (by first | rfl | omega) | exact la_row rfl rfl | exact la_loc rfl rfl rfl (by first | rfl | simp [mkL_length]) (by first | rfl | simp) | exact la_nil rfl | apply la_fn rfl | exact lend_same rfl rfl | exact lend_bor rfl rfl)), ?_⟩; (conv => whnf)
            (split <;> rename_i hb <;> (try simp only [decide_eq_true_eq, decide_eq_false_iff_not, Bool.not_eq_true', Bool.not_eq_false', Bool.not_eq_true, Bool.not_eq_false, List.length_map] at hb) <;> conv => whnf)
            · exact absurd ho (by simp [hb])
            · refine ⟨q, hq, hql, ?_⟩; (conv => whnf)
              refine ⟨_, at_map0 hql, ?_⟩; (conv => whnf)
              refine ⟨_, _, done_c y.drives[q] hdo hdr l[i].op hso.2 ho r hr0, (by repeat' (first | exact lends_nil | exact lend_dead | apply lends_cons | apply lend_agg | apply lend_one | exact all2_nil | apply all2_cons | exact la_lit rfl | exact la_int (by first | rfl | omega) | exact la_row rfl rfl | exact la_loc rfl rfl rfl (by first | rfl | simp [mkL_length]) (by first | rfl | simp) | exact la_nil rfl | apply la_fn rfl | exact lend_same rfl rfl | exact lend_bor rfl rfl)), ?_⟩; (conv => whnf)
              (split <;> rename_i hc <;> (try simp only [decide_eq_true_eq, decide_eq_false_iff_not, Bool.not_eq_true', Bool.not_eq_false', Bool.not_eq_true, Bool.not_eq_false, List.length_map] at hc) <;> conv => whnf)
              · exact absurd hc hc0
              · exact ⟨rfl, weak_of (by repeat (first | refine all_cons (by first | rfl | exact eq_int rfl (by first | rfl | omega | (simp; done) | (simp; omega)) | exact eq_loc rfl (by first | rfl | omega | (simp; done) | (simp; omega)) | exact eq_bool rfl (by simp_all)) ?_ | exact all_nil)) (by repeat (first | refine all_cons (by first | rfl | exact eq_int rfl (by first | rfl | omega | (simp; done) | (simp; omega)) | exact eq_loc rfl (by first | rfl | omega | (simp; done) | (simp; omega)) | exact eq_bool rfl (by simp_all)) ?_ | exact all_nil)) rfl rfl⟩
          · (conv => whnf)
            (split <;> rename_i hc <;> (try simp only [decide_eq_true_eq, decide_eq_false_iff_not, Bool.not_eq_true', Bool.not_eq_false', Bool.not_eq_true, Bool.not_eq_false, List.length_map] at hc) <;> conv => whnf)
            · exact ⟨close_int rfl, close_int rfl, close_row rfl rfl (by simp) (by simp), close_int rfl, close_int rfl, trivial⟩
            · exact absurd hc hc0
      · have hc : driveDoF y.drives[q] l[i].op = ⟨noDrive, 1⟩ := by unfold driveDoF; rw [if_neg (by simp [ho])]
        rw [hc] at hat
        simp only [if_neg (show ¬ (1 : Int) = 0 by decide)] at hat
        subst hat
        refine ⟨AS.of [(2, .one (.lit (.int .i64 n))), (6, .one (.ptr 96 0)), (7, .one (.ptr 112 0)), (13, .one (.row true 5 (l.map DStep.enc))), (14, .one (.lit (.int .i64 (l.length : Nat)))), (15, .one (.lit (.int .i64 (i : Nat))))]
          [(96, .var [.lit (.int .i64 0), .lit (.int .i64 0), .lit (.slice none 0 0), .lit (.int .i64 0), .lit (.int .i64 0)]), (112, .var [.lit (.int .i64 y.k), .lit (.int .i64 y.m), .loc 178 0 y.drives.length, .lit (.int .i64 (i : Nat)), .lit (.int .i64 0)]), (178, .row true 2 (y.drives.map DDrive.enc))], .one (.lit (.int .i64 1)), (inl_ok (E := tbO215) (tbF_ok _) mix (fn := Try.f215) Try.func215 rfl (by kernel_rfl) (by kernel_rfl) (by simp [Try.f215]) rfl (by decide) rfl ?_), ?_⟩
        · (conv => whnf)
          refine ⟨_, _, opImpl_c l[i].op hso.2, (by repeat' (first | exact lends_nil | exact lend_dead | apply lends_cons | apply lend_agg | apply lend_one | exact all2_nil | apply all2_cons | exact la_lit rfl | exact la_int (by first | rfl | omega) | exact la_row rfl rfl | exact la_loc rfl rfl rfl (by first | rfl | simp [mkL_length]) (by first | rfl | simp) | exact la_nil rfl | apply la_fn rfl | exact lend_same rfl rfl | exact lend_bor rfl rfl)), ?_⟩; (conv => whnf)
          (split <;> rename_i hb <;> (try simp only [decide_eq_true_eq, decide_eq_false_iff_not, Bool.not_eq_true', Bool.not_eq_false', Bool.not_eq_true, Bool.not_eq_false, List.length_map] at hb) <;> conv => whnf)
          · exact ⟨rfl, weak_of (by repeat (first | refine all_cons (by first | rfl | exact eq_int rfl (by first | rfl | omega | (simp; done) | (simp; omega)) | exact eq_loc rfl (by first | rfl | omega | (simp; done) | (simp; omega)) | exact eq_bool rfl (by simp_all)) ?_ | exact all_nil)) (by repeat (first | refine all_cons (by first | rfl | exact eq_int rfl (by first | rfl | omega | (simp; done) | (simp; omega)) | exact eq_loc rfl (by first | rfl | omega | (simp; done) | (simp; omega)) | exact eq_bool rfl (by simp_all)) ?_ | exact all_nil)) rfl rfl⟩
          · exact absurd hb ho
        · (conv => whnf)
          exact ⟨close_int rfl, close_int rfl, close_row rfl rfl (by simp) (by simp), close_int rfl, close_int rfl, trivial⟩
  · have : i = l.length := by omega
    subst this
    have : res = ⟨y, (l.length : Nat), 0⟩ := by rw [← hF, List.drop_length]; rfl
    subst this
    exact ⟨close_int rfl, close_int rfl, close_row rfl rfl (by simp) (by simp), close_int rfl, close_int rfl, trivial⟩
end Go.Proofs.Ytlijeincckbdaaa
namespace Go.Proofs.Ytlijeincckbdaaa
open Go.RowKit
set_option linter.unusedSimpArgs false
set_option linter.unusedVariables false
set_option maxRecDepth 100000
set_option maxHeartbeats 4000000
theorem isManyStep_c (l : List DStep) : Fun1 Try.prog 166 [.one (.row true 5 (l.map DStep.enc))] (.one (.lit (.bool (decide (400 < l.length))))) := by
  refine fun1_of_vc tb_ok mix (fn := Try.f166) Try.func166 rfl (by kernel_rfl) (by kernel_rfl) (by simp [Try.f166]) (by rfl) ?_
  (conv => whnf)
  exact ⟨close_bool (by rw [List.length_map]; exact decide_eq_decide.2 (by omega)), trivial⟩
theorem wi_inR (m : Nat) (s : DStep) : wi s.drive 0 (m - 1) = inR m s := by
  unfold wi inR
  congr 1
  exact decide_eq_decide.2 (by omega)
theorem stepsDo1_c (x : DArray) (hx : x.drives.length ≤ 4294967296) (s : DStep) : Fun1 Try.prog 168 [.agg s.enc, .one (.bptr x.enc 0)] (.one (.lit (.bool (!inR x.drives.length s)))) := by
  refine fun1_of_vc tb_ok mix (fn := Try.f168) Try.func168 rfl (by kernel_rfl) (by kernel_rfl) (by simp [Try.f168]) (by rfl) ?_
  (conv => whnf)
  refine ⟨_, _, sizeDrive_c x.drives, (by repeat' (first | exact lends_nil | exact lend_dead | apply lends_cons | apply lend_agg | apply lend_one | exact all2_nil | apply all2_cons | exact la_lit rfl | exact la_int (by first | rfl | omega) | exact la_row rfl rfl | exact la_loc rfl rfl rfl (by first | rfl | simp [mkL_length]) (by first | rfl | simp) | exact la_nil rfl | apply la_fn rfl | exact lend_same rfl rfl | exact lend_bor rfl rfl)), ?_⟩; (conv => whnf)
  refine ⟨((x.drives.length : Nat) : Int) - 1, by rw [← wrap64_id] <;> omega, ?_⟩; (conv => whnf)
  refine ⟨_, _, within_w s.drive 0 ((x.drives.length : Nat) - 1), (by repeat' (first | exact lends_nil | exact lend_dead | apply lends_cons | apply lend_agg | apply lend_one | exact all2_nil | apply all2_cons | exact la_lit rfl | exact la_int (by first | rfl | omega) | exact la_row rfl rfl | exact la_loc rfl rfl rfl (by first | rfl | simp [mkL_length]) (by first | rfl | simp) | exact la_nil rfl | apply la_fn rfl | exact lend_same rfl rfl | exact lend_bor rfl rfl)), ?_⟩; (conv => whnf)
  exact ⟨close_bool (by rw [wi_inR]), trivial⟩
theorem nilDrives : (noArray.drives.map DDrive.enc) = [] := rfl
theorem stepsDoImpl_c (x : DArray) (hx : x.ok) (hu : ∀ d ∈ x.drives, usedN d.files ≤ 1000000000000) (l : List DStep) (hl : ∀ s ∈ l, s.ok) (hll : l.length ≤ 4294967296) (n : Int) (hn : inI n) (res : DArrayOut) (hres : stepsDoF x l n = res) :
    Fun1 Try.prog 80 [.agg x.enc, .one (.row true 5 (l.map DStep.enc)), .one (.lit (.int .i64 n))] (.agg res.enc) := by
  have hx' := hx
  obtain ⟨h1, h2, h3, h4⟩ := hx
  refine fun1_of_vc tb_ok mix (fn := Try.f80) Try.func80 rfl (by kernel_rfl) (by kernel_rfl) (by simp [Try.f80]) (by exact DArrayOut.enc_nb _) ?_
  (conv => whnf)
  refine ⟨_, _, isManyStep_c l, (by repeat' (first | exact lends_nil | exact lend_dead | apply lends_cons | apply lend_agg | apply lend_one | exact all2_nil | apply all2_cons | exact la_lit rfl | exact la_int (by first | rfl | omega) | exact la_row rfl rfl | exact la_loc rfl rfl rfl (by first | rfl | simp [mkL_length]) (by first | rfl | simp) | exact la_nil rfl | apply la_fn rfl | exact lend_same rfl rfl | exact lend_bor rfl rfl)), ?_⟩; (conv => whnf)
  (split <;> rename_i hm <;> (try simp only [decide_eq_true_eq, decide_eq_false_iff_not, Bool.not_eq_true', Bool.not_eq_false', Bool.not_eq_true, Bool.not_eq_false, List.length_map] at hm) <;> conv => whnf)
  · have : res = ⟨noArray, 0, 2⟩ := by rw [← hres, stepsDoF, if_pos hm]
    subst this
    exact ⟨close_int rfl, close_int rfl, close_nil rfl, close_int rfl, close_int rfl, trivial⟩
  refine ⟨_, _, arrayImpl_c x hx' hu, (by repeat' (first | exact lends_nil | exact lend_dead | apply lends_cons | apply lend_agg | apply lend_one | exact all2_nil | apply all2_cons | exact la_lit rfl | exact la_int (by first | rfl | omega) | exact la_row rfl rfl | exact la_loc rfl rfl rfl (by first | rfl | simp [mkL_length]) (by first | rfl | simp) | exact la_nil rfl | apply la_fn rfl | exact lend_same rfl rfl | exact lend_bor rfl rfl)), ?_⟩; (conv => whnf)
  (split <;> rename_i ha <;> (try simp only [decide_eq_true_eq, decide_eq_false_iff_not, Bool.not_eq_true', Bool.not_eq_false', Bool.not_eq_true, Bool.not_eq_false, List.length_map] at ha) <;> conv => whnf)
  · have : res = ⟨noArray, 0, 1⟩ := by rw [← hres, stepsDoF, if_neg hm, if_neg (by simp [ha])]
    subst this
    exact ⟨close_int rfl, close_int rfl, close_nil rfl, close_int rfl, close_int rfl, trivial⟩
  · refine ⟨_, _, containsStep_c l 168 x.enc rfl (fun s => !inR x.drives.length s) hll (fun s _ => stepsDo1_c x h3 s), lends_cons (lend_one (la_row rfl rfl)) (lends_cons (lend_one (la_fn rfl (all2_cons (la_ptr rfl rfl rfl (all2_cell (xs := x.enc) rfl)) all2_nil))) lends_nil), ?_⟩; (conv => whnf)
    have hany : (l.any fun s => !inR x.drives.length s) = !l.all (inR x.drives.length) := by rw [← any_nots, Bool.not_not]
    (split <;> rename_i hb <;> (try simp only [decide_eq_true_eq, decide_eq_false_iff_not, Bool.not_eq_true', Bool.not_eq_false', Bool.not_eq_true, Bool.not_eq_false, List.length_map] at hb) <;> conv => whnf)
    · have : res = ⟨noArray, 0, 1⟩ := by rw [← hres, stepsDoF, if_neg hm, if_neg (by rw [hany] at hb; simp at hb; simp [hb])]
      subst this
      exact ⟨close_int rfl, close_int rfl, close_nil rfl, close_int rfl, close_int rfl, trivial⟩
    · have hall : l.all (inR x.drives.length) = true := by rw [hany] at hb; simpa using hb
      have hF : stepsF n l x 0 = res := by rw [← hres, stepsDoF, if_neg hm, if_pos ⟨ha, hall⟩]
      refine ⟨_, _, doAll_c x hx' ha l hl (by omega) hall n hn res hF, (by repeat' (first | exact lends_nil | exact lend_dead | apply lends_cons | apply lend_agg | apply lend_one | exact all2_nil | apply all2_cons | exact la_lit rfl | exact la_int (by first | rfl | omega) | exact la_row rfl rfl | exact la_loc rfl rfl rfl (by first | rfl | simp [mkL_length]) (by first | rfl | simp) | exact la_nil rfl | apply la_fn rfl | exact lend_same rfl rfl | exact lend_bor rfl rfl)), ?_⟩; (conv => whnf)
      exact ⟨close_int rfl, close_int rfl, close_row rfl rfl (by simp) (by simp), close_int rfl, close_int rfl, trivial⟩
theorem stepsRight_c (x : DArray) (hx : x.drives.length ≤ 4294967296) (l : List DStep) (hll : l.length ≤ 4294967296) : Fun1 Try.prog 163 [.agg x.enc, .one (.row true 5 (l.map DStep.enc))] (.one (.lit (.bool (l.all (inR x.drives.length))))) := by
  refine fun1_of_vc tb_ok mix (fn := Try.f163) Try.func163 rfl (by kernel_rfl) (by kernel_rfl) (by simp [Try.f163]) (by rfl) ?_
  (conv => whnf)
  refine ⟨LG (fun i : Nat => i ≤ l.length ∧ ∀ j (h : j < l.length), j < i → inR x.drives.length l[j] = true) (fun i => l.length - i) (fun i => AS.of [(1, .one (.row true 5 (l.map DStep.enc))), (2, .one (.ptr 32 0)), (4, .one (.lit (.bool false))), (5, .one (.lit (.int .i64 (i : Nat))))] [(32, .var x.enc)]),
    lg_init 0 ⟨Nat.zero_le _, fun j h h' => by omega⟩ (weak_of (by repeat (first | refine all_cons (by first | rfl | exact eq_int rfl (by first | rfl | omega | (simp; done) | (simp; omega)) | exact eq_loc rfl (by first | rfl | omega | (simp; done) | (simp; omega)) | exact eq_bool rfl (by simp_all)) ?_ | exact all_nil)) (by repeat (first | refine all_cons (by first | rfl | exact eq_int rfl (by first | rfl | omega | (simp; done) | (simp; omega)) | exact eq_loc rfl (by first | rfl | omega | (simp; done) | (simp; omega)) | exact eq_bool rfl (by simp_all)) ?_ | exact all_nil)) rfl rfl), ?_⟩
  rintro σ k ⟨i, ⟨hi, hc⟩, rfl, rfl⟩
  refine ⟨_, Weak.refl _, ?_⟩
  (conv => whnf)
  (split <;> rename_i h <;> (try simp only [decide_eq_true_eq, decide_eq_false_iff_not, Bool.not_eq_true', Bool.not_eq_false', Bool.not_eq_true, Bool.not_eq_false, List.length_map] at h) <;> conv => whnf)
  · have hlt : i < l.length := by omega
    refine ⟨i, rfl, _, at_map hlt, ?_⟩; (conv => whnf)
    (split <;> rename_i h1 <;> (try simp only [decide_eq_true_eq, decide_eq_false_iff_not, Bool.not_eq_true', Bool.not_eq_false', Bool.not_eq_true, Bool.not_eq_false, List.length_map] at h1) <;> conv => whnf)
    · have : l.all (inR x.drives.length) = false := List.all_eq_false.2 ⟨l[i], List.getElem_mem hlt, by simp only [inR, Bool.and_eq_true, decide_eq_true_eq]; omega⟩
      rw [this]
      exact ⟨close_bool rfl, trivial⟩
    · refine ⟨i, rfl, _, at_map hlt, ?_⟩; (conv => whnf)
      have hxl : (x.drives.map DDrive.enc).length = x.drives.length := by simp
      (split <;> rename_i h2 <;> (try simp only [decide_eq_true_eq, decide_eq_false_iff_not, Bool.not_eq_true', Bool.not_eq_false', Bool.not_eq_true, Bool.not_eq_false, List.length_map] at h2) <;> conv => whnf)
      · have : l.all (inR x.drives.length) = false := List.all_eq_false.2 ⟨l[i], List.getElem_mem hlt, by simp only [inR, Bool.and_eq_true, decide_eq_true_eq]; omega⟩
        rw [this]
        exact ⟨close_bool rfl, trivial⟩
      · (refine ⟨((i + 1 : Nat) : Int), by rw [← wrap64_id] <;> omega, ?_⟩; conv => whnf)
        exact lg_back (i + 1) ⟨hlt, fun j hj hji => by
          by_cases e : j = i
          · subst e; simp only [inR, Bool.and_eq_true, decide_eq_true_eq]; omega
          · exact hc j hj (by omega)⟩ (by (try dsimp only); omega) (weak_of (by repeat (first | refine all_cons (by first | rfl | exact eq_int rfl (by first | rfl | omega | (simp; done) | (simp; omega)) | exact eq_loc rfl (by first | rfl | omega | (simp; done) | (simp; omega)) | exact eq_bool rfl (by simp_all)) ?_ | exact all_nil)) (by repeat (first | refine all_cons (by first | rfl | exact eq_int rfl (by first | rfl | omega | (simp; done) | (simp; omega)) | exact eq_loc rfl (by first | rfl | omega | (simp; done) | (simp; omega)) | exact eq_bool rfl (by simp_all)) ?_ | exact all_nil)) rfl rfl)
  · have : l.all (inR x.drives.length) = true := List.all_eq_true.2 fun s hs => by
      obtain ⟨j, hj, rfl⟩ := List.mem_iff_getElem.1 hs
      exact hc j hj (by omega)
    rw [this]
    exact ⟨close_bool rfl, trivial⟩
theorem l09Do_c (x : DArray) (hx : x.ok) (hr : arrayOk x = true) (l : List DStep) (hl : ∀ s ∈ l, s.ok) (hlen : l.length ≤ 400) (hin : l.all (inR x.drives.length) = true) (n : Int) (hn : inI n) (res : DArrayOut) (hres : stepsF n l x 0 = res) :
    Fun1 Try.prog 164 [.agg x.enc, .one (.row true 5 (l.map DStep.enc)), .one (.lit (.int .i64 n))] (.agg res.enc) := by
  refine fun1_of_vc tb_ok mix (fn := Try.f164) Try.func164 rfl (by kernel_rfl) (by kernel_rfl) (by simp [Try.f164]) (by exact DArrayOut.enc_nb _) ?_
  (conv => whnf)
  refine ⟨_, _, l09Copy_c x hx, (by repeat' (first | exact lends_nil | exact lend_dead | apply lends_cons | apply lend_agg | apply lend_one | exact all2_nil | apply all2_cons | exact la_lit rfl | exact la_int (by first | rfl | omega) | exact la_row rfl rfl | exact la_loc rfl rfl rfl (by first | rfl | simp [mkL_length]) (by first | rfl | simp) | exact la_nil rfl | apply la_fn rfl | exact lend_same rfl rfl | exact lend_bor rfl rfl)), ?_⟩; (conv => whnf)
  refine ⟨LG (fun p : Nat × DArray => p.1 ≤ l.length ∧ p.2.ok ∧ arrayOk p.2 = true ∧ p.2.drives.length = x.drives.length ∧ stepsF n (l.drop p.1) p.2 p.1 = res) (fun p => l.length - p.1)
      (fun p => AS.of [(1, .one (.row true 5 (l.map DStep.enc))), (2, .one (.lit (.int .i64 n))), (6, .one (.ptr 96 0)), (7, .one (.ptr 112 0)), (8, .one (.lit (.int .i64 (p.1 : Nat))))]
        [(96, .var [.lit (.int .i64 0), .lit (.int .i64 0), .lit (.slice none 0 0), .lit (.int .i64 0), .lit (.int .i64 0)]), (112, .var [.lit (.int .i64 p.2.k), .lit (.int .i64 p.2.m), .loc 178 0 p.2.drives.length, .lit (.int .i64 (p.1 : Nat)), .lit (.int .i64 0)]), (178, .row true 2 (p.2.drives.map DDrive.enc))]),
    lg_init (0, x) ⟨Nat.zero_le _, hx, hr, rfl, hres⟩ (weak_of (by repeat (first | refine all_cons (by first | rfl | exact eq_int rfl (by first | rfl | omega | (simp; done) | (simp; omega)) | exact eq_loc rfl (by first | rfl | omega | (simp; done) | (simp; omega)) | exact eq_bool rfl (by simp_all)) ?_ | exact all_nil)) (all_cons rfl (all_cons (eq_var (xs := [.lit (.int .i64 x.k), .lit (.int .i64 x.m), .loc 178 0 (x.drives.map DDrive.enc).length, .lit (.int .i64 0), .lit (.int .i64 0)]) rfl (by simp)) (all_cons rfl all_nil))) rfl rfl), ?_⟩
  rintro σ k ⟨⟨i, y⟩, ⟨hi, hy, hyr, hyl, hF⟩, rfl, rfl⟩
  simp only at hi hy hyr hyl hF ⊢
  refine ⟨_, Weak.refl _, ?_⟩
  (conv => whnf)
  (split <;> rename_i h <;> (try simp only [decide_eq_true_eq, decide_eq_false_iff_not, Bool.not_eq_true', Bool.not_eq_false', Bool.not_eq_true, Bool.not_eq_false, List.length_map] at h) <;> conv => whnf)
  · have hlt : i < l.length := by omega
    (split <;> rename_i h2 <;> (try simp only [decide_eq_true_eq, decide_eq_false_iff_not, Bool.not_eq_true', Bool.not_eq_false', Bool.not_eq_true, Bool.not_eq_false, List.length_map] at h2) <;> conv => whnf)
    · have hso := hl _ (List.getElem_mem hlt)
      have hrg := List.all_eq_true.1 hin _ (List.getElem_mem hlt)
      simp only [inR, Bool.and_eq_true, decide_eq_true_eq, ← hyl] at hrg
      obtain ⟨q, hq⟩ : ∃ q : Nat, l[i].drive = (q : Int) := ⟨l[i].drive.toNat, by omega⟩
      have hql : q < y.drives.length := by omega
      have hqn : l[i].drive.toNat = q := by omega
      have hdm := List.getElem_mem hql
      have hdr : driveOk y.drives[q] = true := by
        unfold arrayOk at hyr
        simp only [Bool.and_eq_true, List.all_eq_true] at hyr
        exact hyr.2 _ hdm
      have hdo := hy.2.2.2 _ hdm
      have hat := stepsF_at (n := n) hlt (x := y) (k := (i : Int))
      rw [hF, if_neg (by omega), hqn, List.getElem?_eq_getElem hql] at hat
      simp only at hat
      have hrok := driveDoF_ok y.drives[q] hdo l[i].op hso.2
      have hrr : (driveDoF y.drives[q] l[i].op).code = 0 → driveOk (driveDoF y.drives[q] l[i].op).drive = true := fun e => (driveDo_right hdr e).2.2
      have hus : usedN y.drives[q].files ≤ 1000000000000 := by
        have := ((driveOk_iff _).1 hdr).2.2
        omega
      have hspec := driveDoSpec_c y.drives[q] hdo hus l[i].op hso.2 _ rfl
      generalize driveDoF y.drives[q] l[i].op = r at *
      refine ⟨i, rfl, _, at_map hlt, ?_⟩; (conv => whnf)
      refine ⟨q, hq, hql, ?_⟩; (conv => whnf)
      refine ⟨_, at_map0 hql, ?_⟩; (conv => whnf)
      refine ⟨i, rfl, _, at_map hlt, ?_⟩; (conv => whnf)
      refine ⟨_, _, hspec, (by repeat' (first | exact lends_nil | exact lend_dead | apply lends_cons | apply lend_agg | apply lend_one | exact all2_nil | apply all2_cons | exact la_lit rfl | exact la_int (by first | rfl | omega) | exact la_row rfl rfl | exact la_loc rfl rfl rfl (by first | rfl | simp [mkL_length]) (by first | rfl | simp) | exact la_nil rfl | apply la_fn rfl | exact lend_same rfl rfl | exact lend_bor rfl rfl)), ?_⟩; (conv => whnf)
      (split <;> rename_i hc <;> (try simp only [decide_eq_true_eq, decide_eq_false_iff_not, Bool.not_eq_true', Bool.not_eq_false', Bool.not_eq_true, Bool.not_eq_false, List.length_map] at hc) <;> conv => whnf)
      · rw [if_neg hc] at hat
        subst hat
        exact ⟨close_int rfl, close_int rfl, close_row rfl rfl (by simp) (by simp), close_int rfl, close_int rfl, trivial⟩
      · rw [if_pos hc] at hat
        have hset : ((setD y q r.drive).drives.map DDrive.enc) = (y.drives.take q).map DDrive.enc ++ r.drive.enc :: (y.drives.drop (q + 1)).map DDrive.enc := by
          have := set_split (f := DDrive.enc) hql r.drive.enc
          rw [← this, Nat.zero_add]
          simp [setD, List.map_set]
        refine ⟨i, rfl, _, at_map hlt, ?_⟩; (conv => whnf)
        refine ⟨q, hq, hql, ?_⟩; (conv => whnf)
        refine ⟨_, at_map0 hql, ?_⟩; (conv => whnf)
        refine ⟨_, (set_split hql _).symm, ?_⟩; (conv => whnf)
        (refine ⟨((i + 1 : Nat) : Int), by rw [← wrap64_id] <;> omega, ?_⟩; conv => whnf)
        (refine ⟨((i + 1 : Nat) : Int), by rw [← wrap64_id] <;> omega, ?_⟩; conv => whnf)
        exact lg_back ((i + 1, setD y q r.drive) : Nat × DArray) ⟨hlt, setD_ok hy hrok.1.1, setD_right hyr (hrr hc), by rw [setD_len]; exact hyl, hat.symm⟩ (by (try dsimp only); omega)
          (weak_absorb 178 624 ((y.drives.take q).map DDrive.enc) ((y.drives.drop (q + 1)).map DDrive.enc) [] [.lit (.int .i64 r.drive.room)] (es2 := r.drive.files.map DStored.enc) (by decide) rfl rfl (cellRow_map (fun _ => rfl) _) (cellRow_map (fun _ => rfl) _) rfl rfl
            (weak_of (by repeat (first | refine all_cons (by first | rfl | exact eq_int rfl (by first | rfl | omega | (simp; done) | (simp; omega)) | exact eq_loc rfl (by first | rfl | omega | (simp; done) | (simp; omega)) | exact eq_bool rfl (by simp_all)) ?_ | exact all_nil)) (all_cons rfl (all_cons (eq_var rfl (by simp [setD, AV.kill])) (all_cons (eq_row rfl (by rw [hset]; rfl)) all_nil))) rfl rfl))
    · have : res = ⟨y, i, 0⟩ := by rw [← hF, stepsF_at hlt, if_pos (by omega)]
      subst this
      exact ⟨close_int rfl, close_int rfl, close_row rfl rfl (by simp) (by simp), close_int rfl, close_int rfl, trivial⟩
  · have : i = l.length := by omega
    subst this
    have : res = ⟨y, (l.length : Nat), 0⟩ := by rw [← hF, List.drop_length]; rfl
    subst this
    exact ⟨close_int rfl, close_int rfl, close_row rfl rfl (by simp) (by simp), close_int rfl, close_int rfl, trivial⟩
theorem stepsDoSpec_c (x : DArray) (hx : x.ok) (hu : ∀ d ∈ x.drives, usedN d.files ≤ 1000000000000) (l : List DStep) (hl : ∀ s ∈ l, s.ok) (hll : l.length ≤ 4294967296) (n : Int) (hn : inI n) (res : DArrayOut) (hres : stepsDoF x l n = res) :
    Fun1 Try.prog 78 [.agg x.enc, .one (.row true 5 (l.map DStep.enc)), .one (.lit (.int .i64 n))] (.agg res.enc) := by
  have hx' := hx
  obtain ⟨h1, h2, h3, h4⟩ := hx
  refine fun1_of_vc tb_ok mix (fn := Try.f78) Try.func78 rfl (by kernel_rfl) (by kernel_rfl) (by simp [Try.f78]) (by exact DArrayOut.enc_nb _) ?_
  (conv => whnf)
  (split <;> rename_i hm <;> (try simp only [decide_eq_true_eq, decide_eq_false_iff_not, Bool.not_eq_true', Bool.not_eq_false', Bool.not_eq_true, Bool.not_eq_false, List.length_map] at hm) <;> conv => whnf)
  · have : res = ⟨noArray, 0, 2⟩ := by rw [← hres, stepsDoF, if_pos (by omega)]
    subst this
    exact ⟨close_int rfl, close_int rfl, close_nil rfl, close_int rfl, close_int rfl, trivial⟩
  refine ⟨_, _, arraySpec_c x hx' hu, (by repeat' (first | exact lends_nil | exact lend_dead | apply lends_cons | apply lend_agg | apply lend_one | exact all2_nil | apply all2_cons | exact la_lit rfl | exact la_int (by first | rfl | omega) | exact la_row rfl rfl | exact la_loc rfl rfl rfl (by first | rfl | simp [mkL_length]) (by first | rfl | simp) | exact la_nil rfl | apply la_fn rfl | exact lend_same rfl rfl | exact lend_bor rfl rfl)), ?_⟩; (conv => whnf)
  (split <;> rename_i ha <;> (try simp only [decide_eq_true_eq, decide_eq_false_iff_not, Bool.not_eq_true', Bool.not_eq_false', Bool.not_eq_true, Bool.not_eq_false, List.length_map] at ha) <;> conv => whnf)
  · have : res = ⟨noArray, 0, 1⟩ := by rw [← hres, stepsDoF, if_neg (by omega), if_neg (by simp [ha])]
    subst this
    exact ⟨close_int rfl, close_int rfl, close_nil rfl, close_int rfl, close_int rfl, trivial⟩
  · refine ⟨_, _, stepsRight_c x h3 l hll, (by repeat' (first | exact lends_nil | exact lend_dead | apply lends_cons | apply lend_agg | apply lend_one | exact all2_nil | apply all2_cons | exact la_lit rfl | exact la_int (by first | rfl | omega) | exact la_row rfl rfl | exact la_loc rfl rfl rfl (by first | rfl | simp [mkL_length]) (by first | rfl | simp) | exact la_nil rfl | apply la_fn rfl | exact lend_same rfl rfl | exact lend_bor rfl rfl)), ?_⟩; (conv => whnf)
    (split <;> rename_i hb <;> (try simp only [decide_eq_true_eq, decide_eq_false_iff_not, Bool.not_eq_true', Bool.not_eq_false', Bool.not_eq_true, Bool.not_eq_false, List.length_map] at hb) <;> conv => whnf)
    · have : res = ⟨noArray, 0, 1⟩ := by rw [← hres, stepsDoF, if_neg (by omega), if_neg (by simp only [hb]; simp)]
      subst this
      exact ⟨close_int rfl, close_int rfl, close_nil rfl, close_int rfl, close_int rfl, trivial⟩
    · have hF : stepsF n l x 0 = res := by rw [← hres, stepsDoF, if_neg (by omega), if_pos ⟨ha, hb⟩]
      refine ⟨_, _, l09Do_c x hx' ha l hl (by omega) hb n hn res hF, (by repeat' (first | exact lends_nil | exact lend_dead | apply lends_cons | apply lend_agg | apply lend_one | exact all2_nil | apply all2_cons | exact la_lit rfl | exact la_int (by first | rfl | omega) | exact la_row rfl rfl | exact la_loc rfl rfl rfl (by first | rfl | simp [mkL_length]) (by first | rfl | simp) | exact la_nil rfl | apply la_fn rfl | exact lend_same rfl rfl | exact lend_bor rfl rfl)), ?_⟩; (conv => whnf)
      exact ⟨close_int rfl, close_int rfl, close_row rfl rfl (by simp) (by simp), close_int rfl, close_int rfl, trivial⟩
end Go.Proofs.Ytlijeincckbdaaa
