/- Contracts: copies of drives; a byte of a drive turned. -/
import Derived.Test.YtlijeincckbdaaaS3
import Derived.Laws.Closers25b
namespace Go.Proofs.Ytlijeincckbdaaa
open Go.RowKit
set_option linter.unusedSimpArgs false
set_option linter.unusedVariables false
set_option maxRecDepth 100000
set_option maxHeartbeats 4000000
theorem laid_map {α : Type} {f : α → List AV} {s : Nat} (h : ∀ x, (f x).map AV.bor = f x) (l : List α) : l.map f = laid true s (l.map f) := by
  simp only [laid, if_true, List.map_map]
  exact List.map_congr_left fun x _ => (h x).symm
theorem bor_map {α : Type} {f : α → List AV} (h : ∀ x, (f x).map AV.bor = f x) (l : List α) : l.map f = (l.map f).map (fun e => e.map AV.bor) := by
  simp only [List.map_map]
  exact List.map_congr_left fun x _ => (h x).symm
theorem byte_back (op : BinOp) (a b : Int) : ((UInt8.ofNat (bits op .u8 a b).toNat).toNat : Int) = bits op .u8 a b := by
  have h1 := bits_lo_u8 op a b
  have h2 := bits_hi_u8 op a b
  rw [UInt8.toNat_ofNat']
  omega
theorem set_byte {l : List UInt8} {i : Nat} {v : Int} (hv : ((UInt8.ofNat v.toNat).toNat : Int) = v) : (l.set i (UInt8.ofNat v.toNat)).map byteE = (l.map byteE).set i [.lit (.int .u8 v)] := by
  rw [List.map_set]; simp only [byteE, hv]
theorem l08Copy_c (x : DDrive) (hx : x.ok) : Fun1 Try.prog 85 [.agg x.enc] (.agg x.enc) := by
  obtain ⟨⟨hl, hf⟩, hr⟩ := hx
  refine fun1_of_vc tb_ok mix (fn := Try.f85) Try.func85 rfl (by kernel_rfl) (by kernel_rfl) (by simp [Try.f85]) (by exact DDrive.enc_nb _) ?_
  (conv => whnf)
  refine ⟨true, _, ⟨rfl, rfl, rfl⟩, ?_⟩; (conv => whnf)
  refine ⟨_, laid_map (f := DStored.enc) (fun _ => rfl) x.files, rfl, rfl, rfl, by simp [maxLen, chunk]; omega, by simp [chunk]; omega, ?_⟩; (conv => whnf)
  exact ⟨close_row rfl rfl (by simp [chunk]) (by simp [chunk]), close_int rfl, trivial⟩
theorem cloneStored_c (l : List DStored) (hl : l.length ≤ 4294967296) : Fun1 Try.prog 172 [.one (.row true 3 (l.map DStored.enc))] (.one (.row true 3 (l.map DStored.enc))) := by
  refine fun1_nil (fun h c => ?_) ?_
  · refine fun1_of_vc tb_ok mix (fn := Try.f172) Try.func172 rfl (by kernel_rfl) (by kernel_rfl) (by simp [Try.f172]) (by show AV.nb (4 + 1) _ = true; exact nb_map (n := 4) (fun y => DStored.enc_nbn 4 y) _) ?_
    (conv => whnf)
    exact ⟨close_nil h, trivial⟩
  · refine fun1_of_vc tb_ok mix (fn := Try.f172) Try.func172 rfl (by kernel_rfl) (by kernel_rfl) (by simp [Try.f172]) (by show AV.nb (4 + 1) _ = true; exact nb_map (n := 4) (fun y => DStored.enc_nbn 4 y) _) ?_
    (conv => whnf)
    refine ⟨true, _, ⟨rfl, rfl, rfl⟩, ?_⟩; (conv => whnf)
    refine ⟨_, laid_map (f := DStored.enc) (fun _ => rfl) l, rfl, rfl, rfl, by simp [maxLen, chunk]; omega, by simp [chunk]; omega, ?_⟩; (conv => whnf)
    exact ⟨close_row rfl rfl (by simp [chunk]) (by simp [chunk]), trivial⟩
theorem copied_c (x : DDrive) (hx : x.ok) : Fun1 Try.prog 90 [.agg x.enc] (.agg x.enc) := by
  obtain ⟨⟨hl, hf⟩, hr⟩ := hx
  refine fun1_of_vc tb_ok mix (fn := Try.f90) Try.func90 rfl (by kernel_rfl) (by kernel_rfl) (by simp [Try.f90]) (by exact DDrive.enc_nb _) ?_
  (conv => whnf)
  refine ⟨_, _, cloneStored_c x.files hl, (by repeat' (first | exact lends_nil | exact lend_dead | apply lends_cons | apply lend_agg | apply lend_one | exact all2_nil | apply all2_cons | exact la_lit rfl | exact la_int (by first | rfl | omega) | exact la_row rfl rfl | exact la_loc rfl rfl rfl (by first | rfl | simp [mkL_length]) (by first | rfl | simp) | exact la_nil rfl | apply la_fn rfl | exact lend_same rfl rfl | exact lend_bor rfl rfl)), ?_⟩; (conv => whnf)
  exact (by repeat' (first | exact trivial | exact close_int rfl | exact close_str rfl | exact close_bool rfl | exact close_int (by omega) | exact close_row rfl rfl (by first | rfl | simp) (by first | rfl | simp) | exact close_nil (by first | rfl | simp) | exact rfl | apply And.intro | apply closeTs_cons rfl))
def xorB (t : ByteArray) (i : Nat) (u : Int) : ByteArray := ⟨(t.data.toList.set i (UInt8.ofNat (bits BinOp.xor .u8 ((t.data.toList.getD i 0).toNat : Int) u).toNat)).toArray⟩
/-- A byte of a file turned. -/
def rotF (x : DDrive) (name : ByteArray) (at_ turn : Int) : DDrive :=
  if 20000 < (name.size : Int) then ⟨[], 0⟩ else
  if driveOk x = true ∧ 0 ≤ turn ∧ turn ≤ 255 ∧ hasN x.files name = true then
    (match x.files[findP x.files name]? with
    | some f => if 0 ≤ at_ ∧ at_ < f.text.size then ⟨x.files.set (findP x.files name) ⟨f.name, xorB f.text at_.toNat turn, f.synced⟩, x.room⟩ else x
    | none => x)
  else x
theorem at_map0 {α β : Type} {f : α → β} {l : List α} {i : Nat} (h : i < l.length) : (l.map f)[0 + i]? = some (f l[i]) := by rw [Nat.zero_add]; exact at_map h
theorem byte_at {s : ByteArray} {i : Nat} (h : i < s.size) : (s.data.toList.map byteE)[0 + i]? = some (byteE (s.data.toList.getD i 0)) := by
  have h' : i < s.data.toList.length := by simpa using h
  rw [Nat.zero_add, List.getElem?_map, List.getD_eq_getElem?_getD, List.getElem?_eq_getElem h']; rfl
theorem set_byte0 {l : List UInt8} {i : Nat} {v : Int} (hv : ((UInt8.ofNat v.toNat).toNat : Int) = v) : (l.set i (UInt8.ofNat v.toNat)).map byteE = (l.map byteE).set (0 + i) [.lit (.int .u8 v)] := by rw [Nat.zero_add]; exact set_byte hv
theorem set_enc0 {l : List DStored} {i : Nat} {y : DStored} {e : List AV} (h : y.enc = e) : (l.set i y).map DStored.enc = (l.map DStored.enc).set (0 + i) e := by rw [Nat.zero_add, List.map_set, h]
theorem set_enc {l : List DStored} {i : Nat} {y : DStored} {e : List AV} (h : y.enc = e) : (l.set i y).map DStored.enc = (l.map DStored.enc).set i e := by rw [List.map_set, h]
theorem rotImpl_c (x : DDrive) (hx : x.ok) (hu : usedN x.files ≤ 1000000000000) (name : ByteArray) (at_ turn : Int) (ha : inI at_) (res : DDrive) (hres : rotF x name at_ turn = res) :
    Fun1 Try.prog 18 [.agg x.enc, .one (.lit (.string name)), .one (.lit (.int .i64 at_)), .one (.lit (.int .i64 turn))] (.agg res.enc) := by
  have hx' := hx
  obtain ⟨⟨hl, hf⟩, hr⟩ := hx
  refine fun1_of_vc tb_ok mix (fn := Try.f18) Try.func18 rfl (by kernel_rfl) (by kernel_rfl) (by simp [Try.f18]) (by exact DDrive.enc_nb _) ?_
  (conv => whnf)
  refine ⟨_, _, isLong_c name, (by repeat' (first | exact lends_nil | exact lend_dead | apply lends_cons | apply lend_agg | apply lend_one | exact all2_nil | apply all2_cons | exact la_lit rfl | exact la_int (by first | rfl | omega) | exact la_row rfl rfl | exact la_loc rfl rfl rfl (by first | rfl | simp [mkL_length]) (by first | rfl | simp) | exact la_nil rfl | apply la_fn rfl | exact lend_same rfl rfl | exact lend_bor rfl rfl)), ?_⟩; (conv => whnf)
  (split <;> rename_i h1 <;> (try simp only [decide_eq_true_eq, decide_eq_false_iff_not, Bool.not_eq_true', Bool.not_eq_false', Bool.not_eq_true, Bool.not_eq_false, List.length_map] at h1) <;> conv => whnf)
  · have : res = ⟨[], 0⟩ := by rw [← hres]; simp [rotF, h1]
    subst this
    exact (by repeat' (first | exact trivial | exact close_int rfl | exact close_str rfl | exact close_bool rfl | exact close_int (by omega) | exact close_row rfl rfl (by first | rfl | simp) (by first | rfl | simp) | exact close_nil (by first | rfl | simp) | exact rfl | apply And.intro | apply closeTs_cons rfl))
  refine ⟨_, _, copied_c x hx', (by repeat' (first | exact lends_nil | exact lend_dead | apply lends_cons | apply lend_agg | apply lend_one | exact all2_nil | apply all2_cons | exact la_lit rfl | exact la_int (by first | rfl | omega) | exact la_row rfl rfl | exact la_loc rfl rfl rfl (by first | rfl | simp [mkL_length]) (by first | rfl | simp) | exact la_nil rfl | apply la_fn rfl | exact lend_same rfl rfl | exact lend_bor rfl rfl)), ?_⟩; (conv => whnf)
  refine ⟨_, _, driveImpl_c x hx' hu, (by repeat' (first | exact lends_nil | exact lend_dead | apply lends_cons | apply lend_agg | apply lend_one | exact all2_nil | apply all2_cons | exact la_lit rfl | exact la_int (by first | rfl | omega) | exact la_row rfl rfl | exact la_loc rfl rfl rfl (by first | rfl | simp [mkL_length]) (by first | rfl | simp) | exact la_nil rfl | apply la_fn rfl | exact lend_same rfl rfl | exact lend_bor rfl rfl)), ?_⟩; (conv => whnf)
  (split <;> rename_i h2 <;> (try simp only [decide_eq_true_eq, decide_eq_false_iff_not, Bool.not_eq_true', Bool.not_eq_false', Bool.not_eq_true, Bool.not_eq_false, List.length_map] at h2) <;> conv => whnf)
  · have : res = x := by rw [← hres]; simp [rotF, h1, h2]
    subst this
    exact (by repeat' (first | exact trivial | exact close_int rfl | exact close_str rfl | exact close_bool rfl | exact close_int (by omega) | exact close_row rfl rfl (by first | rfl | simp) (by first | rfl | simp) | exact close_nil (by first | rfl | simp) | exact rfl | apply And.intro | apply closeTs_cons rfl))
  refine ⟨_, _, isByte_c turn, (by repeat' (first | exact lends_nil | exact lend_dead | apply lends_cons | apply lend_agg | apply lend_one | exact all2_nil | apply all2_cons | exact la_lit rfl | exact la_int (by first | rfl | omega) | exact la_row rfl rfl | exact la_loc rfl rfl rfl (by first | rfl | simp [mkL_length]) (by first | rfl | simp) | exact la_nil rfl | apply la_fn rfl | exact lend_same rfl rfl | exact lend_bor rfl rfl)), ?_⟩; (conv => whnf)
  (split <;> rename_i h3 <;> (try simp only [decide_eq_true_eq, decide_eq_false_iff_not, Bool.not_eq_true', Bool.not_eq_false', Bool.not_eq_true, Bool.not_eq_false, List.length_map] at h3) <;> conv => whnf)
  · have : res = x := by
      rw [← hres, rotF, if_neg h1, if_neg]
      rintro ⟨_, q1, q2, _⟩
      simp at h3; omega
    subst this
    exact (by repeat' (first | exact trivial | exact close_int rfl | exact close_str rfl | exact close_bool rfl | exact close_int (by omega) | exact close_row rfl rfl (by first | rfl | simp) (by first | rfl | simp) | exact close_nil (by first | rfl | simp) | exact rfl | apply And.intro | apply closeTs_cons rfl))
  simp only [Bool.and_eq_true, decide_eq_true_eq] at h3
  refine ⟨_, _, find_c x h2 name hl, (by repeat' (first | exact lends_nil | exact lend_dead | apply lends_cons | apply lend_agg | apply lend_one | exact all2_nil | apply all2_cons | exact la_lit rfl | exact la_int (by first | rfl | omega) | exact la_row rfl rfl | exact la_loc rfl rfl rfl (by first | rfl | simp [mkL_length]) (by first | rfl | simp) | exact la_nil rfl | apply la_fn rfl | exact lend_same rfl rfl | exact lend_bor rfl rfl)), ?_⟩; (conv => whnf)
  (split <;> rename_i h4 <;> (try simp only [decide_eq_true_eq, decide_eq_false_iff_not, Bool.not_eq_true', Bool.not_eq_false', Bool.not_eq_true, Bool.not_eq_false, List.length_map] at h4) <;> conv => whnf)
  · obtain ⟨hp, _, hn⟩ := findI_eq h2 h4
    have hfi := hf _ (List.getElem_mem hp)
    unfold DStored.ok inI at hfi
    unfold inI at ha
    have hres' : (if 0 ≤ at_ ∧ at_ < (x.files[findP x.files name].text.size : Int) then (⟨x.files.set (findP x.files name) ⟨x.files[findP x.files name].name, xorB x.files[findP x.files name].text at_.toNat turn, x.files[findP x.files name].synced⟩, x.room⟩ : DDrive) else x) = res := by
      rw [← hres, rotF, if_neg h1, if_pos (show driveOk x = true ∧ 0 ≤ turn ∧ turn ≤ 255 ∧ hasN x.files name = true from ⟨h2, h3.1, h3.2, h4⟩), List.getElem?_eq_getElem hp]
    generalize hq : findP x.files name = p at *
    refine ⟨p, rfl, _, at_map hp, ?_⟩; (conv => whnf)
    refine ⟨_, _, long_c x.files[p].text, (by repeat' (first | exact lends_nil | exact lend_dead | apply lends_cons | apply lend_agg | apply lend_one | exact all2_nil | apply all2_cons | exact la_lit rfl | exact la_int (by first | rfl | omega) | exact la_row rfl rfl | exact la_loc rfl rfl rfl (by first | rfl | simp [mkL_length]) (by first | rfl | simp) | exact la_nil rfl | apply la_fn rfl | exact lend_same rfl rfl | exact lend_bor rfl rfl)), ?_⟩; (conv => whnf)
    refine ⟨(x.files[p].text.size : Int) - 1, by rw [← wrap64_id] <;> omega, ?_⟩; (conv => whnf)
    refine ⟨_, _, within_c at_ 0 ((x.files[p].text.size : Int) - 1), (by repeat' (first | exact lends_nil | exact lend_dead | apply lends_cons | apply lend_agg | apply lend_one | exact all2_nil | apply all2_cons | exact la_lit rfl | exact la_int (by first | rfl | omega) | exact la_row rfl rfl | exact la_loc rfl rfl rfl (by first | rfl | simp [mkL_length]) (by first | rfl | simp) | exact la_nil rfl | apply la_fn rfl | exact lend_same rfl rfl | exact lend_bor rfl rfl)), ?_⟩; (conv => whnf)
    (split <;> rename_i h5 <;> (try simp only [decide_eq_true_eq, decide_eq_false_iff_not, Bool.not_eq_true', Bool.not_eq_false', Bool.not_eq_true, Bool.not_eq_false, List.length_map] at h5) <;> conv => whnf)
    · simp only [Bool.and_eq_true, decide_eq_true_eq] at h5
      rw [if_pos (by omega)] at hres'
      obtain ⟨i, rfl⟩ : ∃ i : Nat, at_ = (i : Int) := ⟨at_.toNat, by omega⟩
      have hit : i < x.files[p].text.size := by omega
      refine ⟨p, rfl, _, at_map hp, ?_⟩; (conv => whnf)
      refine ⟨by simp [maxLen]; omega, ?_⟩; (conv => whnf)
      refine ⟨i, rfl, hit, ?_⟩; (conv => whnf)
      refine ⟨_, byte_at hit, ?_⟩; (conv => whnf)
      refine ⟨turn, wrap_id (by simp [IntKind.min, IntKind.signed]; omega) (by simp [IntKind.max, IntKind.signed, IntKind.bits]; omega), ?_⟩; (conv => whnf)
      refine ⟨i, rfl, hit, ?_⟩; (conv => whnf)
      refine ⟨_, byte_at hit, ?_⟩; (conv => whnf)
      refine ⟨(x.files[p].text.data.toList.set i (UInt8.ofNat (bits .xor .u8 ((x.files[p].text.data.toList.getD i 0).toNat : Int) turn).toNat)).map byteE, set_byte0 (byte_back _ _ _), ?_⟩; (conv => whnf)
      refine ⟨true, _, x.files[p].text.data.toList.set i (UInt8.ofNat (bits .xor .u8 ((x.files[p].text.data.toList.getD i 0).toNat : Int) turn).toNat), ⟨rfl, by simp, rfl, rfl⟩, List.take_of_length_le (by simp), ?_⟩; (conv => whnf)
      refine ⟨p, rfl, by simpa using hp, ?_⟩; (conv => whnf)
      refine ⟨_, at_map0 hp, ?_⟩; (conv => whnf)
      refine ⟨(x.files.set p ⟨x.files[p].name, xorB x.files[p].text (i : Int).toNat turn, x.files[p].synced⟩).map DStored.enc, set_enc0 rfl, ?_⟩; (conv => whnf)
      subst hres'
      exact ⟨close_row rfl rfl (by simp) rfl, close_int rfl, trivial⟩
    · simp only [Bool.and_eq_false_iff, decide_eq_false_iff_not] at h5
      rw [if_neg (by omega)] at hres'
      subst hres'
      exact (by repeat' (first | exact trivial | exact close_int rfl | exact close_str rfl | exact close_bool rfl | exact close_int (by omega) | exact close_row rfl rfl (by first | rfl | simp) (by first | rfl | simp) | exact close_nil (by first | rfl | simp) | exact rfl | apply And.intro | apply closeTs_cons rfl))
  · have : res = x := by rw [← hres]; simp [rotF, h1, h4]
    subst this
    exact (by repeat' (first | exact trivial | exact close_int rfl | exact close_str rfl | exact close_bool rfl | exact close_int (by omega) | exact close_row rfl rfl (by first | rfl | simp) (by first | rfl | simp) | exact close_nil (by first | rfl | simp) | exact rfl | apply And.intro | apply closeTs_cons rfl))
theorem rotSpec_c (x : DDrive) (hx : x.ok) (hu : usedN x.files ≤ 1000000000000) (name : ByteArray) (at_ turn : Int) (ha : inI at_) (res : DDrive) (hres : rotF x name at_ turn = res) :
    Fun1 Try.prog 16 [.agg x.enc, .one (.lit (.string name)), .one (.lit (.int .i64 at_)), .one (.lit (.int .i64 turn))] (.agg res.enc) := by
  have hx' := hx
  obtain ⟨⟨hl, hf⟩, hr⟩ := hx
  refine fun1_of_vc tb_ok mix (fn := Try.f16) Try.func16 rfl (by kernel_rfl) (by kernel_rfl) (by simp [Try.f16]) (by exact DDrive.enc_nb _) ?_
  (conv => whnf)
  (split <;> rename_i h1 <;> (try simp only [decide_eq_true_eq, decide_eq_false_iff_not, Bool.not_eq_true', Bool.not_eq_false', Bool.not_eq_true, Bool.not_eq_false, List.length_map] at h1) <;> conv => whnf)
  · have : res = ⟨[], 0⟩ := by rw [← hres]; simp [rotF, h1]
    subst this
    exact (by repeat' (first | exact trivial | exact close_int rfl | exact close_str rfl | exact close_bool rfl | exact close_int (by omega) | exact close_row rfl rfl (by first | rfl | simp) (by first | rfl | simp) | exact close_nil (by first | rfl | simp) | exact rfl | apply And.intro | apply closeTs_cons rfl))
  refine ⟨_, _, l08Copy_c x hx', (by repeat' (first | exact lends_nil | exact lend_dead | apply lends_cons | apply lend_agg | apply lend_one | exact all2_nil | apply all2_cons | exact la_lit rfl | exact la_int (by first | rfl | omega) | exact la_row rfl rfl | exact la_loc rfl rfl rfl (by first | rfl | simp [mkL_length]) (by first | rfl | simp) | exact la_nil rfl | apply la_fn rfl | exact lend_same rfl rfl | exact lend_bor rfl rfl)), ?_⟩; (conv => whnf)
  refine ⟨_, _, l08Find_c x name hl, (by repeat' (first | exact lends_nil | exact lend_dead | apply lends_cons | apply lend_agg | apply lend_one | exact all2_nil | apply all2_cons | exact la_lit rfl | exact la_int (by first | rfl | omega) | exact la_row rfl rfl | exact la_loc rfl rfl rfl (by first | rfl | simp [mkL_length]) (by first | rfl | simp) | exact la_nil rfl | apply la_fn rfl | exact lend_same rfl rfl | exact lend_bor rfl rfl)), ?_⟩; (conv => whnf)
  refine ⟨_, _, driveSpec_c x hx' hu, (by repeat' (first | exact lends_nil | exact lend_dead | apply lends_cons | apply lend_agg | apply lend_one | exact all2_nil | apply all2_cons | exact la_lit rfl | exact la_int (by first | rfl | omega) | exact la_row rfl rfl | exact la_loc rfl rfl rfl (by first | rfl | simp [mkL_length]) (by first | rfl | simp) | exact la_nil rfl | apply la_fn rfl | exact lend_same rfl rfl | exact lend_bor rfl rfl)), ?_⟩; (conv => whnf)
  (split <;> rename_i h2 <;> (try simp only [decide_eq_true_eq, decide_eq_false_iff_not, Bool.not_eq_true', Bool.not_eq_false', Bool.not_eq_true, Bool.not_eq_false, List.length_map] at h2) <;> conv => whnf)
  · have : res = x := by rw [← hres]; simp [rotF, h1, h2]
    subst this
    exact (by repeat' (first | exact trivial | exact close_int rfl | exact close_str rfl | exact close_bool rfl | exact close_int (by omega) | exact close_row rfl rfl (by first | rfl | simp) (by first | rfl | simp) | exact close_nil (by first | rfl | simp) | exact rfl | apply And.intro | apply closeTs_cons rfl))
  by_cases h4 : hasN x.files name = true
  case neg =>
    have : res = x := by rw [← hres]; simp [rotF, h1, h4]
    subst this
    have hn : findI res.files name = -1 := by simp [findI, h4]
    (split <;> rename_i h5 <;> (try simp only [decide_eq_true_eq, decide_eq_false_iff_not, Bool.not_eq_true', Bool.not_eq_false', Bool.not_eq_true, Bool.not_eq_false, List.length_map] at h5) <;> conv => whnf)
    · exact (by repeat' (first | exact trivial | exact close_int rfl | exact close_str rfl | exact close_bool rfl | exact close_int (by omega) | exact close_row rfl rfl (by first | rfl | simp) (by first | rfl | simp) | exact close_nil (by first | rfl | simp) | exact rfl | apply And.intro | apply closeTs_cons rfl))
    · omega
  obtain ⟨hp, he, hn⟩ := findI_eq h2 h4
  have hfi := hf _ (List.getElem_mem hp)
  unfold DStored.ok inI at hfi
  unfold inI at ha
  have hres' : (0 ≤ turn ∧ turn ≤ 255 ∧ 0 ≤ at_ ∧ at_ < (x.files[findP x.files name].text.size : Int) → (⟨x.files.set (findP x.files name) ⟨x.files[findP x.files name].name, xorB x.files[findP x.files name].text at_.toNat turn, x.files[findP x.files name].synced⟩, x.room⟩ : DDrive) = res) ∧ (¬ (0 ≤ turn ∧ turn ≤ 255 ∧ 0 ≤ at_ ∧ at_ < (x.files[findP x.files name].text.size : Int)) → res = x) := by
    rw [← hres, rotF, if_neg h1]
    refine ⟨fun ⟨q1, q2, q3, q4⟩ => ?_, fun q => ?_⟩
    · rw [if_pos (show driveOk x = true ∧ 0 ≤ turn ∧ turn ≤ 255 ∧ hasN x.files name = true from ⟨h2, q1, q2, h4⟩), List.getElem?_eq_getElem hp]
      simp only; rw [if_pos ⟨q3, q4⟩]
    · split
      · rename_i q2
        rw [List.getElem?_eq_getElem hp]
        simp only; rw [if_neg (by omega)]
      · rfl
  generalize hq : findP x.files name = p at *
  rw [he]
  (split <;> rename_i h5 <;> (try simp only [decide_eq_true_eq, decide_eq_false_iff_not, Bool.not_eq_true', Bool.not_eq_false', Bool.not_eq_true, Bool.not_eq_false, List.length_map] at h5) <;> conv => whnf)
  · omega
  (split <;> rename_i h6 <;> (try simp only [decide_eq_true_eq, decide_eq_false_iff_not, Bool.not_eq_true', Bool.not_eq_false', Bool.not_eq_true, Bool.not_eq_false, List.length_map] at h6) <;> conv => whnf)
  · have := hres'.2 (by omega)
    subst this
    exact (by repeat' (first | exact trivial | exact close_int rfl | exact close_str rfl | exact close_bool rfl | exact close_int (by omega) | exact close_row rfl rfl (by first | rfl | simp) (by first | rfl | simp) | exact close_nil (by first | rfl | simp) | exact rfl | apply And.intro | apply closeTs_cons rfl))
  refine ⟨p, rfl, _, at_map hp, ?_⟩; (conv => whnf)
  (split <;> rename_i h7 <;> (try simp only [decide_eq_true_eq, decide_eq_false_iff_not, Bool.not_eq_true', Bool.not_eq_false', Bool.not_eq_true, Bool.not_eq_false, List.length_map] at h7) <;> conv => whnf)
  · have := hres'.2 (by omega)
    subst this
    exact (by repeat' (first | exact trivial | exact close_int rfl | exact close_str rfl | exact close_bool rfl | exact close_int (by omega) | exact close_row rfl rfl (by first | rfl | simp) (by first | rfl | simp) | exact close_nil (by first | rfl | simp) | exact rfl | apply And.intro | apply closeTs_cons rfl))
  refine ⟨_, _, l02Byte_c turn, (by repeat' (first | exact lends_nil | exact lend_dead | apply lends_cons | apply lend_agg | apply lend_one | exact all2_nil | apply all2_cons | exact la_lit rfl | exact la_int (by first | rfl | omega) | exact la_row rfl rfl | exact la_loc rfl rfl rfl (by first | rfl | simp [mkL_length]) (by first | rfl | simp) | exact la_nil rfl | apply la_fn rfl | exact lend_same rfl rfl | exact lend_bor rfl rfl)), ?_⟩; (conv => whnf)
  (split <;> rename_i h3 <;> (try simp only [decide_eq_true_eq, decide_eq_false_iff_not, Bool.not_eq_true', Bool.not_eq_false', Bool.not_eq_true, Bool.not_eq_false, List.length_map] at h3) <;> conv => whnf)
  · have := hres'.2 (by simp at h3; omega)
    subst this
    exact (by repeat' (first | exact trivial | exact close_int rfl | exact close_str rfl | exact close_bool rfl | exact close_int (by omega) | exact close_row rfl rfl (by first | rfl | simp) (by first | rfl | simp) | exact close_nil (by first | rfl | simp) | exact rfl | apply And.intro | apply closeTs_cons rfl))
  simp only [Bool.and_eq_true, decide_eq_true_eq] at h3
  have hr2 := hres'.1 (by omega)
  obtain ⟨i, rfl⟩ : ∃ i : Nat, at_ = (i : Int) := ⟨at_.toNat, by omega⟩
  have hit : i < x.files[p].text.size := by omega
  refine ⟨p, rfl, _, at_map hp, ?_⟩; (conv => whnf)
  refine ⟨by simp [maxLen]; omega, ?_⟩; (conv => whnf)
  refine ⟨i, rfl, hit, ?_⟩; (conv => whnf)
  refine ⟨_, byte_at hit, ?_⟩; (conv => whnf)
  refine ⟨turn, wrap_id (by simp [IntKind.min, IntKind.signed]; omega) (by simp [IntKind.max, IntKind.signed, IntKind.bits]; omega), ?_⟩; (conv => whnf)
  refine ⟨i, rfl, hit, ?_⟩; (conv => whnf)
  refine ⟨_, byte_at hit, ?_⟩; (conv => whnf)
  refine ⟨(x.files[p].text.data.toList.set i (UInt8.ofNat (bits .xor .u8 ((x.files[p].text.data.toList.getD i 0).toNat : Int) turn).toNat)).map byteE, set_byte0 (byte_back _ _ _), ?_⟩; (conv => whnf)
  refine ⟨true, _, x.files[p].text.data.toList.set i (UInt8.ofNat (bits .xor .u8 ((x.files[p].text.data.toList.getD i 0).toNat : Int) turn).toNat), ⟨rfl, by simp, rfl, rfl⟩, List.take_of_length_le (by simp), ?_⟩; (conv => whnf)
  refine ⟨p, rfl, by simpa using hp, ?_⟩; (conv => whnf)
  refine ⟨_, at_map0 hp, ?_⟩; (conv => whnf)
  refine ⟨(x.files.set p ⟨x.files[p].name, xorB x.files[p].text (i : Int).toNat turn, x.files[p].synced⟩).map DStored.enc, set_enc0 rfl, ?_⟩; (conv => whnf)
  subst hr2
  exact ⟨close_row rfl rfl (by simp) rfl, close_int rfl, trivial⟩
end Go.Proofs.Ytlijeincckbdaaa
