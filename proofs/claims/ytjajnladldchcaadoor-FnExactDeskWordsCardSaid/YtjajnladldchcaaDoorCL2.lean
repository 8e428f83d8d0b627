/- The law FnExactDeskWords: it returns true. No condition. (The map of kinds, which the card lists, is tied to the program's text by the given Tie.) -/
import Derived.Test.YtjajnladldchcaaDoorCL1
import Derived.Maps.StringElems
import Derived.Sort.KeysCollected
import Derived.Sort.OwnSorted
import Derived.Maps.RangeWalk
import Derived.Maps.AppendAt
import Derived.Shelf.Sort.Plain
import Derived.WalkKit
import Derived.Test.YtjajnladldchcaaDoorRows
import Derived.ProofKit
import Derived.SizedLaws
import Derived.Test.YtjajnladldchcaaDoorCards
import Derived.Test.YtjajnladldchcaaDoorTie
import Derived.OpenShut
import Derived.ShutString
import Derived.ChangeOld
import Derived.Below
import Derived.LaidMore
import Derived.Deep.DeepHandedRow
import Derived.Deep.DeepWitnessRowRef
import Derived.OpenVars
namespace Go.Proofs.YtjajnladldchcaaDoor
open Go.RowKit
set_option maxRecDepth 100000 in
theorem markText_c (k : Nat) (h1 : 1 ≤ k) (h2 : k ≤ 4611686018427387904) : Fun1 Tryd.prog 10 [.one (.lit (.int .i64 k))] (.one (.lit (.string (markStr k)))) := by
  refine fun1_of_vc tb_ok mix (fn := Tryd.f10) Tryd.func10 rfl (by kernel_rfl) (by kernel_rfl) (by simp [Tryd.f10]) (by simp [T.nb, AV.nb]) ?_
  (conv => whnf)
  (split <;> rename_i h <;> (try simp only [decide_eq_true_eq, decide_eq_false_iff_not, Bool.not_eq_true', Bool.not_eq_false', Bool.not_eq_true, Bool.not_eq_false, List.length_map] at h) <;> conv => whnf)
  · omega
  refine ⟨fun σ m => ∃ out : ByteArray, m ≤ k ∧ m < 2 ^ (63 - out.size) ∧ out.size ≤ 63 ∧ markLoop m out = markLoop k ⟨#[]⟩ ∧ σ = AS.of [(0, .one (.lit (.int .i64 (m : Nat)))), (3, .one (.lit (.string out)))] [], ⟨_, k, weak_of allsA allsA rfl rfl, _, Nat.le_refl _, ?_, ?_, rfl, rfl⟩, ?_⟩
  · simp [ByteArray.size]; omega
  · simp [ByteArray.size]
  rintro σ m ⟨out, hmk, hm, ho, hout, rfl⟩
  refine ⟨_, Weak.refl _, ?_⟩
  (conv => whnf)
  (split <;> rename_i h <;> (try simp only [decide_eq_true_eq, decide_eq_false_iff_not, Bool.not_eq_true', Bool.not_eq_false', Bool.not_eq_true, Bool.not_eq_false, List.length_map] at h) <;> conv => whnf)
  · have hs : ∃ q, 63 - out.size = q + 1 := ⟨62 - out.size, by
      rcases Nat.eq_or_lt_of_le ho with e | e
      · rw [e] at hm; simp at hm; omega
      · omega⟩
    obtain ⟨q, hq⟩ := hs
    rw [hq, Nat.pow_succ] at hm
    refine ⟨by decide, ((m % 10 : Nat) : Int), by rw [Int.ofNat_tmod]; rfl, ?_⟩
    (conv => whnf)
    refine ⟨((48 + m % 10 : Nat) : Int), by rw [← wrap64_id] <;> omega, ?_⟩
    (conv => whnf)
    refine ⟨((UInt8.ofNat (48 + m % 10)).toNat : Int), by simp [IntKind.wrap, IntKind.signed, IntKind.bits], ?_⟩
    (conv => whnf)
    refine ⟨true, _, [UInt8.ofNat (48 + m % 10)], ⟨rfl, Nat.le_refl 1, rfl, rfl⟩, rfl, ?_⟩
    (conv => whnf)
    refine ⟨?_, ?_⟩
    · show 1 + out.size ≤ _
      omega
    (conv => whnf)
    refine ⟨by decide, ((m / 10 : Nat) : Int), by rw [show ((m : Int).tdiv 10) = ((m / 10 : Nat) : Int) from (Int.ofNat_tdiv m 10).symm, ← wrap64_id] <;> omega, ?_⟩
    (conv => whnf)
    refine ⟨_, m / 10, weak_of allsA allsA rfl rfl, ?_, ⟨#[UInt8.ofNat (48 + m % 10)]⟩ ++ out, ?_, ?_, ?_, ?_, rfl⟩
    · omega
    · omega
    · rw [ByteArray.size_append]
      show m / 10 < 2 ^ (63 - (1 + out.size))
      rw [show 63 - (1 + out.size) = q by omega]; omega
    · rw [ByteArray.size_append]
      show 1 + out.size ≤ 63
      omega
    · rw [← hout]; conv => rhs; rw [markLoop, dif_neg (by omega)]
  · have : m = 0 := by omega
    subst this
    rw [markLoop, dif_pos rfl] at hout
    refine ⟨?_, close_str (by rw [hout]; rfl), trivial⟩
    show 1 + out.size ≤ _
    omega
end Go.Proofs.YtjajnladldchcaaDoor
namespace Go.Proofs.YtjajnladldchcaaDoor
open Go.RowKit
set_option linter.unusedSimpArgs false
set_option linter.unusedVariables false
set_option maxRecDepth 100000
theorem lendA {m : Nat → Option Blk} {ts us : List T} (h : LendTs m ts us := by repeat' (first | exact lends_nil | exact lend_dead | apply lends_cons | apply lend_agg | apply lend_one | exact all2_nil | apply all2_cons | exact la_lit rfl | exact la_int (by first | rfl | omega) | exact la_row rfl rfl | exact la_loc rfl rfl rfl (by first | rfl | simp [mkL_length]) (by first | rfl | simp) | exact la_nil rfl | apply la_fn rfl | exact lend_same rfl rfl | exact lend_bor rfl rfl)) : LendTs m ts us := h
theorem markStringS_c (l : List ByteArray) (k : Nat) (h1 : 1 ≤ k) (h2 : k + cnL (fun _ => 1) l ≤ 4611686018427387904) (hl : l.length ≤ 4611686018427387904) :
    MutF Tryd.prog 7 [.one (.loc 0 0 l.length), .one (.lit (.int .i64 k))] [(1, l.map eStr)] [(1, (mkL mrkT (fun _ => 1) l k).map eStr)] (.int .i64 ((k + cnL (fun _ => 1) l : Nat) : Int)) := by
  refine mutf_of_vc tb_ok mix (fn := Tryd.f7) Tryd.func7 rfl (by kernel_rfl) (by kernel_rfl) (by simp [Tryd.f7]) (by simp) (by exact nbRows_cons (nbRow_map (fun y => eStr_nb y) _) nbRows_nil) (by exact nbRows_cons (nbRow_map (fun y => eStr_nb y) _) nbRows_nil) rfl fun at_ => ?_
  (conv => whnf)
  refine ⟨LG (fun i : Nat => i ≤ l.length) (fun i => l.length - i) (fun i => AS.of [(0, .one (.loc 0 0 l.length)), (1, .one (.lit (.int .i64 ((k + cnL (fun _ => 1) (l.take i) : Nat) : Int)))), (5, .one (.lit (.int .i64 (i : Nat))))] [(0, .row true 1 ((mkL mrkT (fun _ => 1) (l.take i) k).map eStr ++ (l.drop i).map eStr)), (8, .pin 0 (at_ 0))]), lg_init 0 (by omega) (weak_of allsA allsA rfl rfl), ?_⟩
  rintro σ m ⟨i, hi, rfl, rfl⟩
  by_cases hlt : i < l.length
  · have hd : l.drop i = l[i] :: l.drop (i + 1) := List.drop_eq_getElem_cons hlt
    have hml : ((mkL mrkT (fun _ => 1) (l.take i) k).map eStr).length = 0 + i := by simp [mkL_length]; omega
    have hcs := cnL_take_succ (cn := (fun _ => 1)) hlt
    have hcl := cnL_take_le (cn := (fun _ => 1)) (l := l) (i := i + 1)
    have hts : (mkL mrkT (fun _ => 1) (l.take (i + 1)) k).map eStr = (mkL mrkT (fun _ => 1) (l.take i) k).map eStr ++ [eStr (mrkT l[i] (k + cnL (fun _ => 1) (l.take i)))] := by rw [mkL_take_succ hlt, List.map_append]; rfl
    generalize hq : k + cnL (fun _ => 1) (l.take i) = q at hts
    have hcn : (fun _ => 1) l[i] = 1 := rfl
    refine ⟨_, weak_of (tl := [(0, .one (.loc 0 0 l.length)), (1, .one (.lit (.int .i64 (q : Nat)))), (5, .one (.lit (.int .i64 (i : Nat))))]) (ml := [(0, .row true 1 ((mkL mrkT (fun _ => 1) (l.take i) k).map eStr ++ [.lit (.string l[i])] :: (l.drop (i + 1)).map eStr)), (8, .pin 0 (at_ 0))]) (by exact all_cons rfl (all_cons (eq_int rfl (by omega)) (all_cons rfl all_nil))) (by exact all_cons (eq_row rfl (by rw [hd]; rfl)) (all_cons rfl all_nil)) rfl rfl, ?_⟩
    (conv => whnf)
    split <;> rename_i hb
    case h_2 => simp at hb; omega
    clear hb; (conv => whnf)
    refine ⟨_, _, markText_c (q) (by omega) (by omega), lendA, ?_⟩; (conv => whnf)
    refine ⟨i, rfl, hlt, ?_⟩; (conv => whnf)
    refine ⟨_, at_mid hml, ?_⟩; (conv => whnf)
    refine ⟨_, set_mid hml, ?_⟩; (conv => whnf)
    refine ⟨((q + 1 : Nat) : Int), by rw [← wrap64_id] <;> omega, ?_⟩; (conv => whnf)
    refine ⟨((i + 1 : Nat) : Int), by rw [← wrap64_id] <;> omega, ?_⟩; (conv => whnf)
    exact lg_back (i + 1) (by omega) (by (try dsimp only); omega) (weak_of (by exact all_cons rfl (all_cons (eq_int rfl (by omega)) (all_cons rfl all_nil))) (by exact all_cons (eq_row rfl (by rw [hts]; exact (List.append_assoc _ [_] _).symm)) (all_cons rfl all_nil)) rfl rfl)
  · have : i = l.length := by omega
    subst this
    refine ⟨_, Weak.refl _, ?_⟩
    (conv => whnf)
    split <;> rename_i hb
    case h_1 => simp at hb
    clear hb; (conv => whnf)
    refine ⟨by rw [List.take_length], ⟨rfl, ?_⟩, rfl, trivial⟩
    simp
theorem heldStringS_c (l : List ByteArray) (k : Nat) (h1 : 1 ≤ k) (h2 : k + cnL (fun _ => 1) l ≤ 4611686018427387904) (hl : l.length ≤ 4611686018427387904) : Fun1 Tryd.prog 8 [.one (.row true 1 ((mkL mrkT (fun _ => 1) l k).map eStr)), .one (.lit (.int .i64 k))] (.one (.lit (.int .i64 ((k + cnL (fun _ => 1) l : Nat) : Int)))) := by
  refine fun1_of_vc tb_ok mix (fn := Tryd.f8) Tryd.func8 rfl (by kernel_rfl) (by kernel_rfl) (by simp [Tryd.f8]) (by rfl) ?_
  (conv => whnf)
  refine ⟨LG (fun i : Nat => i ≤ l.length) (fun i => l.length - i) (fun i => AS.of [(0, .one (.row true 1 ((mkL mrkT (fun _ => 1) l k).map eStr))), (1, .one (.lit (.int .i64 ((k + cnL (fun _ => 1) (l.take i) : Nat) : Int)))), (5, .one (.lit (.int .i64 (i : Nat))))] []), lg_init 0 (by omega) (weak_of allsA allsA rfl rfl), ?_⟩
  rintro σ m ⟨i, hi, rfl, rfl⟩
  refine ⟨_, Weak.refl _, ?_⟩
  (conv => whnf)
  (split <;> rename_i h <;> (try simp only [decide_eq_true_eq, decide_eq_false_iff_not, Bool.not_eq_true', Bool.not_eq_false', Bool.not_eq_true, Bool.not_eq_false, List.length_map] at h) <;> conv => whnf)
  · have hlt : i < l.length := by simpa [mkL_length] using h
    have hcs := cnL_take_succ (cn := (fun _ => 1)) hlt
    have hcl := cnL_take_le (cn := (fun _ => 1)) (l := l) (i := i + 1)
    generalize hq : k + cnL (fun _ => 1) (l.take i) = q at *
    have hcn : (fun _ => 1) l[i] = 1 := rfl
    have hel : ((mkL mrkT (fun _ => 1) l k).map eStr)[i]? = some [.lit (.string (markStr (q)))] := by rw [List.getElem?_map, mkL_get hlt, hq]; rfl
    refine ⟨i, rfl, _, hel, ?_⟩; (conv => whnf)
    refine ⟨_, _, markText_c (q) (by omega) (by omega), lendA, ?_⟩; (conv => whnf)
    (first | (split <;> rename_i h4 <;> first | (exfalso; first | (simp at h4; done) | (simp at h4; omega) | (simp_all; done) | (simp_all; omega)) | (conv => whnf)) | skip)
    refine ⟨((q + 1 : Nat) : Int), by rw [← wrap64_id] <;> omega, ?_⟩; (conv => whnf)
    refine ⟨((i + 1 : Nat) : Int), by rw [← wrap64_id] <;> omega, ?_⟩; (conv => whnf)
    exact lg_back (i + 1) (by omega) (by (try dsimp only); omega) (weak_of (by exact all_cons rfl (all_cons (eq_int rfl (by omega)) (all_cons rfl all_nil))) all_nil rfl rfl)
  · have : i = l.length := by simp [mkL_length] at h; omega
    subst this; rw [List.take_length]; exact ⟨close_int rfl, trivial⟩
end Go.Proofs.YtjajnladldchcaaDoor
namespace Go.Proofs.YtjajnladldchcaaDoor
open Go.RowKit Go.Maps Go.Sort Go.ChangeMaps Go.WideShapes
set_option linter.unusedSimpArgs false
set_option linter.unusedVariables false
set_option maxRecDepth 100000
set_option maxHeartbeats 2000000
abbrev kindsD : DataW Unit := Rows.laid_loop_example_g00259_impl_kinds
def wordsL : List (List UInt8) := strKeys kindsD
def textOf (l : List UInt8) : ByteArray := ⟨l.toArray⟩
def words : List ByteArray := wordsL.map textOf
theorem law9 : Keyed Tryd.prog 9 := string_keyed Tryd.underlying9
theorem info9 : (Tryd.prog.info? 9).map (fun i => (i.zero, i.size, i.bytes)) = some (some (.string ⟨#[]⟩), 1, 16) := by kernel_rfl
theorem size14 : Maps.size kindsD = 14 := by decide
theorem sorted14 : wordsL.mergeSort leB = wordsL := by
  refine List.mergeSort_of_pairwise ?_
  decide
def sortLay_ren : Go.Shelf.Ren := ⟨fun | 190 => 9 | 125 => 12 | 258 => 11 | 128 => 22 | 129 => 23 | 302 => 13 | 303 => 14 | 304 => 15 | 305 => 16 | 306 => 17 | 307 => 18 | 308 => 19 | 309 => 20 | 310 => 21 | 333 => 24 | 329 => 25 | 330 => 26 | 334 => 27 | 335 => 28 | 336 => 29 | 344 => 30 | n => n, fun | 31 => 22 | 9 => 9 | 3 => 3 | 46 => 32 | 0 => 0 | 51 => 44 | 53 => 46 | 4 => 4 | 183 => 36 | 182 => 35 | 131 => 41 | 5 => 5 | 218 => 47 | 222 => 51 | 228 => 54 | 229 => 55 | n => n, fun | n => n⟩
theorem sortLay : Go.Proofs.Lays.n190 Tryd.prog sortLay_ren := {
  mixed := by kernel_rfl
  f125 := Tryd.func12.trans (congrArg some (by kernel_rfl))
  f128 := Tryd.func22.trans (congrArg some (by kernel_rfl))
  f129 := Tryd.func23.trans (congrArg some (by kernel_rfl))
  f190 := Tryd.func9.trans (congrArg some (by kernel_rfl))
  f258 := Tryd.func11.trans (congrArg some (by kernel_rfl))
  f302 := Tryd.func13.trans (congrArg some (by kernel_rfl))
  f303 := Tryd.func14.trans (congrArg some (by kernel_rfl))
  f304 := Tryd.func15.trans (congrArg some (by kernel_rfl))
  f305 := Tryd.func16.trans (congrArg some (by kernel_rfl))
  f306 := Tryd.func17.trans (congrArg some (by kernel_rfl))
  f307 := Tryd.func18.trans (congrArg some (by kernel_rfl))
  f308 := Tryd.func19.trans (congrArg some (by kernel_rfl))
  f309 := Tryd.func20.trans (congrArg some (by kernel_rfl))
  f310 := Tryd.func21.trans (congrArg some (by kernel_rfl))
  f329 := Tryd.func25.trans (congrArg some (by kernel_rfl))
  f330 := Tryd.func26.trans (congrArg some (by kernel_rfl))
  f333 := Tryd.func24.trans (congrArg some (by kernel_rfl))
  f334 := Tryd.func27.trans (congrArg some (by kernel_rfl))
  f335 := Tryd.func28.trans (congrArg some (by kernel_rfl))
  f336 := Tryd.func29.trans (congrArg some (by kernel_rfl))
  f344 := Tryd.func30.trans (congrArg some (by kernel_rfl))
  t0 := Tryd.underlying0
  a0 := Tryd.isAgg0
  z0 := Tryd.sizeOf0
  v0 := Tryd.zeroValue0
  t3 := Tryd.underlying3
  a3 := Tryd.isAgg3
  z3 := Tryd.sizeOf3
  v3 := Tryd.zeroValue3
  t4 := Tryd.underlying4
  a4 := Tryd.isAgg4
  z4 := Tryd.sizeOf4
  v4 := Tryd.zeroValue4
  t5 := Tryd.underlying5
  a5 := Tryd.isAgg5
  z5 := Tryd.sizeOf5
  v5 := Tryd.zeroValue5
  t9 := Tryd.underlying9
  a9 := Tryd.isAgg9
  z9 := Tryd.sizeOf9
  v9 := Tryd.zeroValue9
  t31 := Tryd.underlying22
  a31 := Tryd.isAgg22
  z31 := Tryd.sizeOf22
  v31 := Tryd.zeroValue22
  t46 := Tryd.underlying32
  a46 := Tryd.isAgg32
  z46 := Tryd.sizeOf32
  v46 := Tryd.zeroValue32
  t51 := Tryd.underlying44
  a51 := Tryd.isAgg44
  z51 := Tryd.sizeOf44
  v51 := Tryd.zeroValue44
  t53 := Tryd.underlying46
  a53 := Tryd.isAgg46
  z53 := Tryd.sizeOf46
  v53 := Tryd.zeroValue46
  t131 := Tryd.underlying41
  a131 := Tryd.isAgg41
  z131 := Tryd.sizeOf41
  v131 := Tryd.zeroValue41
  t182 := Tryd.underlying35
  a182 := Tryd.isAgg35
  z182 := Tryd.sizeOf35
  v182 := Tryd.zeroValue35
  t183 := Tryd.underlying36
  a183 := Tryd.isAgg36
  z183 := Tryd.sizeOf36
  v183 := Tryd.zeroValue36
  t218 := Tryd.underlying47
  a218 := Tryd.isAgg47
  z218 := Tryd.sizeOf47
  v218 := Tryd.zeroValue47
  t222 := Tryd.underlying51
  a222 := Tryd.isAgg51
  z222 := Tryd.sizeOf51
  v222 := Tryd.zeroValue51
  t228 := Tryd.underlying54
  a228 := Tryd.isAgg54
  z228 := Tryd.sizeOf54
  v228 := Tryd.zeroValue54
  t229 := Tryd.underlying55
  a229 := Tryd.isAgg55
  z229 := Tryd.sizeOf55
  v229 := Tryd.zeroValue55 }
theorem elt_tx {l : List ByteArray} {i j : Nat} {x : AV} (h : elt (l.map eStr) i j = some x) : ∃ hi : i < l.length, j = 0 ∧ x = .lit (.string l[i]) := by
  unfold elt at h
  rw [List.getElem?_map] at h
  cases hq : l[i]? with
  | none => simp [hq] at h
  | some t =>
    obtain ⟨hi, rfl⟩ := List.getElem?_eq_some_iff.1 hq
    simp only [hq, Option.map_some, Option.bind_some] at h
    cases j with
    | zero => cases h; exact ⟨hi, rfl, rfl⟩
    | succ j => simp [eStr] at h
theorem row_of_own {w : World} {I : Nat → Prop} {base : Nat} {g cap : Nat} {l : List (List UInt8)} {e : TypeId} (h : w.ownsRow base e 1 (.slice (some ⟨g, 0, none⟩) l.length cap) l.length (l.map encStr)) :
    base ≤ g ∧ g < w.heap.size ∧ RO (c0 I) w (fun k => k = g) (.row true 1 ((l.map textOf).map eStr)) (.slice (some ⟨g, 0, none⟩) l.length cap) := by
  rcases h.2 with ⟨h, _⟩ | ⟨g', cap', cur, hv, hb, hg, h1, h2, h3, h4⟩
  · cases h
  cases hv
  refine ⟨hb, (Array.getElem?_eq_some_iff.1 hg).1, ?_⟩
  have hget : ∀ (i : Nat) (hi : i < l.length), cur[i]? = some (encStr l[i]) := fun i hi => by
    have e1 : (cur.toList.take (l.length * 1))[i]? = some (encStr l[i]) := by rw [h4, List.getElem?_map, List.getElem?_eq_getElem hi]; rfl
    rw [List.getElem?_take_of_lt (by omega)] at e1
    simpa using e1
  have hlen : ((l.map textOf).map eStr).length = l.length := by simp
  have key := RO.own (c := c0 I) (w := w) (F := fun k => k = g) (sz := 1) (es := (l.map textOf).map eStr) (cap := cap) (A := some ⟨g, 0, none⟩) g cur e (0, 0) (fun _ _ _ => False) hg (fun i hi => by simp) (by rw [hlen]; exact h1) h2 h3
    (fun e he => by obtain ⟨y, _, rfl⟩ := List.mem_map.1 he; rfl) (fun i j y v hy hv => ?_) (fun i j y v hy hv => ?_) (fun _ _ h => h) (fun _ _ _ _ _ h => h.elim) (fun _ _ _ h => h.elim) (fun k => ⟨.inl, fun h => h.elim id fun ⟨_, _, h⟩ => h.elim⟩) (fun _ => rfl)
  · rw [hlen] at key; exact key
  · obtain ⟨hi, rfl, rfl⟩ := elt_tx hy
    rw [Nat.mul_one, Nat.add_zero, hget i (by simpa using hi)] at hv
    cases hv; rfl
  · obtain ⟨hi, rfl, rfl⟩ := elt_tx hy
    rw [Nat.mul_one, Nat.add_zero, hget i (by simpa using hi)] at hv
    cases hv
    refine .plain rfl ?_ (fun _ h => h)
    rw [List.getElem_map]
    exact .lit _
theorem deskWords_c : Fun1 Tryd.prog 5 [] (.one (.row true 1 (words.map eStr))) := by
  refine ⟨⟨_, Tryd.func5, rfl, by kernel_rfl⟩, by kernel_rfl, fun w I vs hI hgl hargs => ?_⟩
  obtain rfl : vs = #[] := by
    rcases hv : vs.toList with _ | ⟨x, l⟩
    · simpa using hv
    · rw [hv] at hargs; exact hargs.elim
  obtain ⟨_, bm, n, hi0, hs0, hib, hcell, hown0⟩ := hgl
  obtain ⟨D0, hD0⟩ : ∃ D0, D0 = kindsD := ⟨_, rfl⟩
  have hown : w.ownsMap Tryd.prog 9 (plainElem Tryd.prog 9) bm n D0 := hD0 ▸ hown0
  have size14 : Maps.size D0 = 14 := hD0 ▸ size14
  have hperm14 : ∀ ss : List (List UInt8), ss.Perm (strKeys D0) → ss.length = 14 ∧ ss.mergeSort leB = wordsL := fun ss h => by
    rw [hD0] at h
    exact ⟨by rw [h.length_eq]; decide, (mergeSort_of_perm h).trans sorted14⟩
  clear hD0 hown0
  obtain ⟨i0, hi, hz0, hz1, hz2⟩ := info_parts info9
  have hbl := hown.lt
  go_enter Tryd.func5, Tryd.ntmps5
  go_wp2_with (first
    | (at_range; refine wpList_range_own _ rfl _ 27 rfl 9 9 law9 Tryd.underlying27 _ bm n _ rfl hown ?_; intro w0 hrg0 hg0 hsz0)
    | go_in)
  try go_frame
  go_loopw [1] (fun v wr => ∃ (left : Lit → Bool) (cnt : Nat) (ss : List (List UInt8)), wr.ranges Tryd.prog 9 (plainElem Tryd.prog 9) bm w.heap.size n D0 left cnt ∧ ss.length + cnt ≤ Maps.size D0 ∧
      wr.ownsRow w.heap.size 9 1 v ss.length (ss.map encStr) ∧ Collected D0 left ss ∧ Below w.heap.size w wr)
    (fun _ wr => wr.rangeLeft bm w.heap.size)
  case atStart =>
    exact ⟨_, _, [], hrg0, by simp, World.ownsRow_nil _ _ _ _, Collected.start D0, (Below.refl _ _).grown hg0 (Nat.le_refl _) (fun j hj => by cases hj)⟩
  case round =>
    obtain ⟨left, cnt, ss, hrg, hcs, hrow, hC, hnx⟩ := hrel
    rw [size14] at hcs
    go_wp2_with (first
      | (at_next; refine wpList_next_ranges _ rfl _ rfl 9 law9 (plainElem Tryd.prog 9) encStr encStr (fun key kl hk => by obtain ⟨x, hx, _⟩ := Maps.keyOf_str Tryd.underlying9 hk; exact ⟨x, hx⟩) (fun v y hv => by obtain ⟨c, rfl, _⟩ := plainElem_string_inv Tryd.underlying9 hv; exact ⟨c.data.toList, rfl⟩) bm w.heap.size n _ _ _ rfl hrg ?_ ?_)
      | go_in)
    · intro hc0 hl0
      have hperm := hC.perm hrg.owns law9 Tryd.underlying9 hl0
      obtain ⟨hlen, hsrt⟩ := hperm14 ss hperm
      obtain ⟨srt, hs2⟩ : ∃ srt, srt = ss.mergeSort leB := ⟨_, rfl⟩
      rcases hrow.2 with ⟨_, hz⟩ | ⟨g, cap, cur, rfl, hbase, hb, h1, h2, h3, h4⟩
      · omega
      have hH : Go.Sort.Holds encStr wr g 0 ss.toArray := holds_of_block hb (by simpa using h4)
      have hgl : g < wr.heap.size := (Array.getElem?_eq_some_iff.1 hb).1
      have hc : Calls Tryd.prog 9 #[.slice (some ⟨g, 0, none⟩) ss.length cap] wr fun e w' => e = .returned (.tuple #[]) ∧ ∃ n os, w' = grow (putRow encStr (Go.Sort.ahead wr n) g 0 srt.toArray) os := by rw [hs2]; exact Go.Proofs.Any.slices_Sort_string sortLay g 0 cap ss wr hH hgl (by omega)
      rw [← hs2] at hsrt
      have hl2 : srt.length = ss.length := by rw [hs2, List.length_mergeSort]
      clear hs2 hlen hcs hperm14 hperm
      go_wp2_with (go_at_call 9; refine hc.mono ?_; rintro e w' ⟨rfl, nn, os, rfl⟩)
      go_ret
      subst hsrt
      have hown2 := ownsRow_sorted (n := nn) (os := os) hl2 hbase hb h1 h2 h3
      have hbel2 : Go.RowKit.Below w.heap.size w (grow (putRow encStr (Go.Sort.ahead wr nn) g 0 wordsL.toArray) os) := hnx.grown (grownBy_sorted _) hnx.size (fun j hj => by cases hj; exact hbase)
      rw [← hl2] at hown2
      obtain ⟨r1, r2, r3⟩ := row_of_own (I := I) hown2
      rw [hl2] at r3
      refine ⟨_, fun k => k = g, rfl, ⟨?_, rfl⟩, fun k hk => by subst hk; exact ⟨r1, r2⟩, ⟨hbel2.os, hbel2.tape, hbel2.output, hbel2.size, hbel2.block, fun h => by cases h⟩⟩
      exact r3
    · intro x c kl yd yp w2 cnt2 hkey hlk hv hat hrg2 hlt hg2 hs2 hen
      obtain ⟨x', ex, rfl, _⟩ := Maps.keyOf_str Tryd.underlying9 hkey
      obtain rfl : x = x' := encStr_inj ex
      have hrow2 := hrow.kept hg2 (Or.inr (row_ne_iter hrow hrg).symm)
      clear hs2
      go_wp2_with (first
        | (at_builtin; refine wpList_append_own _ rfl _ _ 22 rfl w.heap.size 9 i0 (.string ⟨#[]⟩) 1 16 Tryd.underlying22 hi hz0 hz1 hz2 rfl (by decide) _ _ _ rfl (hrow2.alloc _) ⟨w2.heap.size, 0, none⟩ 1 1 [encStr x] rfl rfl (cell_one_new _ _ _) (by simp [Value.oneCell', encStr]) (by unfold maxLen at *; omega) (by omega) (by have := hnx.size; have := hg2.size; simp; omega) ?_; intro v' w3 hown' hg3 hnil3; go_frame)
        | go_in)
      have hrg3 := (hrg2.alloc _).kept hg3 (row_ne_low hrow2 hbl) (row_ne_iter hrow2 hrg2)
      go_roundw
      case rel =>
        refine ⟨_, cnt2, ss ++ [x], hrg3, by rw [size14]; simp; omega, by simpa using hown', hC.step hlk hat, ?_⟩
        exact ((hnx.grown hg2 hnx.size (fun j hj => by cases hj; exact Nat.le_refl _)).alloc (by have := hnx.size; have := hg2.size; omega) _).grown hg3 (by have := hnx.size; have := hg2.size; simp; omega) (fun j hj => (hrow2.lt j hj).1)
      case measure => rw [hrg3.left_eq, hrg.left_eq]; exact hlt
end Go.Proofs.YtjajnladldchcaaDoor
namespace Go.Proofs.YtjajnladldchcaaDoor
open Go.RowKit
set_option linter.unusedSimpArgs false
set_option linter.unusedVariables false
set_option maxRecDepth 100000
theorem lawDeskWords_c 
    (H : ∃ r : List ByteArray, (r.length ≤ 4294967296 ∧ ∀ y ∈ r, y.size ≤ 4294967296) ∧ (cnL (fun _ => 1) r ≤ 2305843009213693952) ∧ (Fun1 Tryd.prog 4 [] (.one (.row true 1 (r.map eStr)))) ∧ (Fun1 Tryd.prog 5 [] (.one (.row true 1 (r.map eStr))))) :
    Fun1 Tryd.prog 3 [] (.one (.lit (.bool true))) := by
  refine law_of_vc tb_ok mix (fn := Tryd.f3) Tryd.func3 rfl (by kernel_rfl) (by kernel_rfl) (by simp [Tryd.f3]) rfl rfl fun u => ?_
  (conv => whnf)
  obtain ⟨r, hrok, hrcn, hspec, himpl⟩ := H
  have hypr := hypStringS_of r hrok
  refine ⟨_, _, hspec, (lends_nil), ?_⟩; (conv => whnf)
  refine ⟨_, _, himpl, (lends_nil), ?_⟩; (conv => whnf)
  refine ⟨_, _, eqStringS_c r hrok.1 hrok.2, (lends_cons (lend_one (la_loc rfl rfl rfl rfl rfl)) (lends_cons (lend_one (la_loc rfl rfl rfl rfl rfl)) (lends_nil))), ?_⟩; (conv => whnf)
  refine ⟨[(1, .one (.loc 96 0 (r.map eStr).length)), (2, .one (.loc 112 0 (r.map eStr).length)), (12, .one (.loc 112 0 (r.map eStr).length)), (13, .one (.lit (.int .i64 ((1 : Nat) : Int))))], [(96, .row true 1 (r.map eStr)), (112, .row true 1 (r.map eStr))], weak_of (all_cons rfl (all_cons rfl (all_cons rfl (all_cons rfl all_nil)))) (all_cons rfl (all_cons rfl all_nil)) rfl rfl, _, _, _, _, [112], markStringS_c r (1) (by omega) (by omega) hypr, (rens_cons (ren_one (ren_loc rfl (by simp))) (rens_cons (ren_one (ren_int (by first | rfl | omega))) rens_nil)), (hasRows_cons rfl hasRows_nil), (by decide), rfl, (Bool.or_eq_true_iff.2 (.inl (sfm_cons (sf_row (nbRow_map (fun y => eStr_nb y) _)) (sfm_cons (sf_row (nbRow_map (fun y => eStr_nb y) _)) sfm_nil)))), rfl, ?_⟩; (conv => whnf)
  refine ⟨_, _, heldStringS_c r (1) (by omega) (by omega) hypr, (lends_cons (lend_one (la_loc rfl rfl rfl (by simp [mkL_length]) rfl)) (lends_cons (lend_one (la_int (by first | rfl | omega))) (lends_nil))), ?_⟩; (conv => whnf)
  (first | (split <;> rename_i h <;> first | (exfalso; first | (simp at h; done) | (simp at h; omega) | (simp_all; done) | (simp_all; omega)) | (conv => whnf)) | skip)
  refine ⟨_, _, himpl, (lends_nil), ?_⟩; (conv => whnf)
  refine ⟨_, _, eqStringS_c r hrok.1 hrok.2, (lends_cons (lend_one (la_loc rfl rfl rfl rfl rfl)) (lends_cons (lend_one (la_loc rfl rfl rfl rfl rfl)) (lends_nil))), ?_⟩; (conv => whnf)
  refine ⟨_, _, heldStringS_c r (1) (by omega) (by omega) hypr, (lends_cons (lend_one (la_loc rfl rfl rfl (by simp [mkL_length]) rfl)) (lends_cons (lend_one (la_int (by first | rfl | omega))) (lends_nil))), ?_⟩; (conv => whnf)
  (first | (split <;> rename_i h <;> first | (exfalso; first | (simp at h; done) | (simp at h; omega) | (simp_all; done) | (simp_all; omega)) | (conv => whnf)) | skip)
  exact ⟨close_bool rfl, trivial⟩
end Go.Proofs.YtjajnladldchcaaDoor
namespace Go.Proofs.YtjajnladldchcaaDoor
open Go.RowKit
set_option maxRecDepth 100000
set_option maxHeartbeats 2000000
theorem deskWordsSpec_c : Fun1 Tryd.prog 4 [] (.one (.row true 1 (words.map eStr))) := by
  refine fun1_of_vc tb_ok mix (fn := Tryd.f4) Tryd.func4 rfl (by kernel_rfl) (by kernel_rfl) (by simp [Tryd.f4]) (by kernel_rfl) ?_
  (conv => whnf)
  exact (by repeat' (first | exact trivial | exact close_row rfl rfl (by first | rfl | kernel_rfl) (by first | rfl | kernel_rfl) | apply And.intro))
theorem fnExactDeskWords_c : Fun1 Tryd.prog 3 [] (.one (.lit (.bool true))) :=
  lawDeskWords_c ⟨words, by decide, by decide, deskWordsSpec_c, deskWords_c⟩
end Go.Proofs.YtjajnladldchcaaDoor
namespace Go.Proofs.YtjajnladldchcaaDoor.fnExactDeskWords
open Go.ChangeShapes Go.WideShapes Go.ChangeAt Go.RowKit
theorem closed : joinedFacts Tryd.prog 3 Tryd.f3 Rows.fnExactDeskWordsSpec Rows.fnExactDeskWordsRow = true := by kernel_rfl
end Go.Proofs.YtjajnladldchcaaDoor.fnExactDeskWords
namespace Go.Proofs.YtjajnladldchcaaDoor.fnExactDeskWords
open Go.ChangeShapes Go.WideShapes Go.ChangeAt Go.WideMaps Go.WideElems Go.RowKit
open Go.ChangeMaps (open_string shut_string)
set_option linter.unusedVariables false
theorem own : ownKnob Tryd.prog.godebug = none := by kernel_rfl
theorem laidOut : laidOutB Tryd.prog = true := by kernel_rfl
theorem g0 : Tryd.prog.globalNamed "loop.example/g00259/impl.kinds" = some 0 := by kernel_rfl
theorem g0t : (Tryd.prog.globals[0]?).map (·.type) = some 27 := by kernel_rfl
theorem glw {W : World} (h : laidMetH Tryd.prog Rows.fnExactDeskWordsRow.laid W) : GlW W (fun k => k < W.heap.size) := by
  refine ⟨fun g xs hg => (by cases hg), ?_⟩
  rw [MakeChecks.laidMetH_plain _ _ _ (by kernel_rfl)] at h
  obtain ⟨ps, ⟨g', t', cs, f', p', q', hg', ht', hv', hd', _, _⟩, _⟩ := h
  obtain rfl := Option.some.inj (g0.symm.trans hg')
  obtain rfl := Option.some.inj (g0t.symm.trans ht')
  have hlt : 0 < W.heap.size := by
    simp only [World.var?, hg', Option.bind_some] at hv'
    cases hh : W.heap[0]? with
    | none => rw [hh] at hv'; cases hv'
    | some o => exact (Array.getElem?_eq_some_iff.1 hh).1
  rcases open_map Tryd.underlying27 hd' with ⟨_, hx⟩ | ⟨bm, es, clock, m, rfl, hcs, hb, _, F, hx⟩
  · simp [Rows.laid_loop_example_g00259_impl_kinds] at hx
  simp only [Prod.mk.injEq] at hx
  have hcell : W.cell? ⟨0, 0, none⟩ = some (.map (some bm)) := by
    have := World.var?_cell hg' hv' 0
    rw [Array.eq_one_of_toList hcs] at this
    simpa using this
  have hown := World.ownsMap_of_fit (R := plainElem Tryd.prog 9) hb F (fun x _ z hz => elemAt_plainElem_string Tryd.underlying9 hz)
  rw [← hx.1] at hown
  exact ⟨bm, _, hlt, hlt, hown.lt, hcell, hown⟩
theorem vRowed : varsRowed Tryd.prog Rows.fnExactDeskWordsSpec.vars = true := by kernel_rfl
set_option maxRecDepth 100000 in
set_option maxHeartbeats 4000000 in
theorem contract (H : Type) (enc : TypeId × Value → H) (W : World) (base : Nat) (args : Array Value) (ds gs : List (DataW H)) (before : List MemPlace)
    (hW : DataW.Whole enc Tryd.prog Tryd.f3.params.toList Rows.fnExactDeskWordsSpec.vars false W args.toList ds gs before) (hL : laidMetH Tryd.prog Rows.fnExactDeskWordsRow.laid W) :
    Calls Tryd.prog 3 args W fun e W' => ∃ v, e = .returned v ∧ Rows.fnExactDeskWordsSpec.post enc Tryd.prog Tryd.f3 false true false false W args v W' := by
  have hW' := hW
  obtain ⟨p, q, hA0, hV, rfl, hfz, hnd⟩ := hW
  have hA : DataW.TrodAll enc Tryd.prog W 0 (fun _ => true) true Tryd.f3.params.toList args.toList ds p := hA0
  rw [Tryd.params3] at hA
  obtain ⟨hargs, rfl, rfl⟩ := trodAll_nil hA
  obtain rfl : args = #[] := by cases args; simp_all
  obtain ⟨g0', t0', cs0', f0', d0', p0', rfl, _, _, _, _, hq⟩ := trodVars_one hV
  clear hA0
  refine ((fnExactDeskWords_c).2.2 W (fun k => k < W.heap.size) #[] (fun _ h => h) (glw hL) trivial).mono fun e W' ⟨v, F, he, hr, _, bel⟩ => ?_
  replace bel := bel.below
  obtain ⟨hr, _⟩ := hr
  obtain rfl : v = .bool true := by
    cases hr with
    | plain _ h _ => cases h; rfl
  subst he
  exact ⟨_, rfl, _, _, _, [], _, q, hW', trodAll_mk1 (shut_bool Tryd.underlying4 _), trodAll_mk0, Below.trodVars laidOut bel vRowed hV, bel.frame _, fun h => by cases h⟩
theorem laid_met (os : Os) : laidMet Tryd.prog Rows.fnExactDeskWordsRow.laid ((World.doorLaid Tryd.prog 84 os).forCall (fun _ _ => 0) ⟨#[], #[], []⟩).memory :=
  laidMet_of_run' 8 (by kernel_rfl) (by kernel_rfl)
theorem reads (os : Os) {H : Type} (enc : TypeId × Value → H) : ∃ x, DataW.whole enc Tryd.prog ((World.doorLaid Tryd.prog 84 os).forCall (fun _ _ => 0) ⟨#[], #[], []⟩).memory Tryd.f3.params.toList Rows.fnExactDeskWordsSpec.vars false (#[] : Array Value).toList 8 = some x :=
  Option.isSome_iff_exists.1 (by kernel_rfl)
set_option maxRecDepth 100000 in
theorem lifted (os : Os) (started : os.Started) (H : Type) (enc : TypeId × Value → H) (F : Stop.Interp) :
    ReturnsInHanded {} Tryd.checked os 3 .any ((OpenSpec.ofChange Rows.fnExactDeskWordsSpec).preRow enc Tryd.prog Tryd.f3 Rows.fnExactDeskWordsRow.domain false Rows.fnExactDeskWordsRow.laid) (((OpenSpec.ofChange Rows.fnExactDeskWordsSpec).at F).post enc Tryd.prog Tryd.f3 false true false false) := by
  obtain ⟨x, hx⟩ := reads os enc
  refine returnsInHanded_of_row (C := Tryd.checked) (s := OpenSpec.ofChange Rows.fnExactDeskWordsSpec) own started (by kernel_rfl) Tryd.func3
    (witness_row_atRef (enc := enc) (C := Tryd.checked) false (World.doorLaid Tryd.prog 84 os) #[] rfl (by kernel_rfl) (by kernel_rfl) (by kernel_rfl)
      (OpenSpec.preRow_of_cond 8 hx rfl (fun k hk => by cases hk) (by kernel_rfl) (laid_met os))) ?_
  intro W base args ds gs before hval hW _ _ _ hL _ _
  exact contract H enc W base args ds gs before hW hL
set_option maxRecDepth 100000 in
theorem said : Rows.FnExactDeskWordsSaid :=
  OpenClaim.holds_of_cond 3 Tryd.f3 rfl rfl rfl rfl rfl rfl rfl ⟨rfl, rfl, rfl, rfl, rfl⟩ rfl rfl rfl rfl rfl (by kernel_rfl) Tryd.func3 closed
    (of_decide_eq_true (by kernel_rfl)) (by unfold Func.isWrapper; first | (rw [if_pos (by decide +kernel)]; kernel_rfl) | (rw [if_neg (by decide +kernel)]; exact ⟨rfl, rfl⟩))
    (fun os started H enc _ F => by rw [OpenClaim.pre_eq_preRow]; exact lifted os started H enc F)
set_option maxRecDepth 100000 in
theorem plain (f : FuncId) (fn : Func) (hf : Tryd.pinned.checked.prog.funcNamed "loop.example/g00259/laws.FnExactDeskWords" = some f) (hfn : Tryd.pinned.checked.prog.funcs[f]? = some fn) :
    false = Tryd.pinned.checked.prog.looks [] ∧ ∀ (j : Nat) t, fn.params[j]? = some t → Tryd.pinned.checked.prog.wantsStandIn t = false := by
  obtain rfl : f = 3 := Option.some.inj ((show Tryd.prog.funcNamed "loop.example/g00259/laws.FnExactDeskWords" = some 3 by kernel_rfl).symm.trans hf) |>.symm
  obtain rfl : fn = Tryd.f3 := (Option.some.inj (Tryd.func3.symm.trans hfn)).symm
  refine ⟨by kernel_rfl, fun j t ht => ?_⟩
  rw [Tryd.params3] at ht
  simp at ht
set_option maxRecDepth 100000 in
theorem card : Rows.FnExactDeskWordsCardSaid :=
  Claim7.holds_tied_plain_at .later [] _ _ _ _ said (fun _ h => by cases h) (by kernel_rfl) (fun _ h => by cases h) fnExactDeskWords_row_tie rfl ⟨rfl, rfl⟩ (by kernel_rfl) rfl plain (by kernel_rfl)
end Go.Proofs.YtjajnladldchcaaDoor.fnExactDeskWords
namespace Go.Proofs.YtjajnladldchcaaDoor
theorem fnExactDeskWords_holds : Rows.FnExactDeskWordsCardSaid := fnExactDeskWords.card
end Go.Proofs.YtjajnladldchcaaDoor
