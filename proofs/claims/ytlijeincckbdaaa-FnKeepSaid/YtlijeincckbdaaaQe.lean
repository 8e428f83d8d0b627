/- The program's data, as structures: how they lie in cells, what they weigh, how they are marked. -/
import Derived.Test.YtlijeincckbdaaaQd
namespace Go.Proofs.Ytlijeincckbdaaa
open Go.RowKit
set_option linter.unusedSimpArgs false
set_option linter.unusedVariables false
def inI (n : Int) : Prop := -9223372036854775808 ≤ n ∧ n ≤ 9223372036854775807
def eInt (n : Int) : List AV := [.lit (.int .i64 n)]
def eStr (s : ByteArray) : List AV := [.lit (.string s)]
def eBool (b : Bool) : List AV := [.lit (.bool b)]
def markLoop (k : Nat) (out : ByteArray) : ByteArray := if _h : k = 0 then out else markLoop (k / 10) (⟨#[UInt8.ofNat (48 + k % 10)]⟩ ++ out)
termination_by k
decreasing_by omega
def markStr (k : Nat) : ByteArray := ⟨#[109]⟩ ++ markLoop k ⟨#[]⟩
def mrkI (_ : Int) (k : Nat) : Int := (k : Int)
def mrkT (_ : ByteArray) (k : Nat) : ByteArray := markStr k
def mkL {α : Type} (mk : α → Nat → α) (cn : α → Nat) : List α → Nat → List α
  | [], _ => []
  | x :: l, k => mk x k :: mkL mk cn l (k + cn x)
def cnL {α : Type} (cn : α → Nat) (l : List α) : Nat := (l.map cn).sum
def wL {α : Type} (wt : α → Nat) (l : List α) : Nat := l.length + (l.map wt).sum
theorem mkL_length {α : Type} {mk : α → Nat → α} {cn : α → Nat} : ∀ {l : List α} {k : Nat}, (mkL mk cn l k).length = l.length
  | [], _ => rfl
  | _ :: l, k => by simp [mkL, mkL_length (l := l)]
theorem mkL_append {α : Type} {mk : α → Nat → α} {cn : α → Nat} : ∀ {l l' : List α} {k : Nat}, mkL mk cn (l ++ l') k = mkL mk cn l k ++ mkL mk cn l' (k + cnL cn l)
  | [], _, k => by simp [mkL, cnL]
  | x :: l, l', k => by simp [mkL, cnL, mkL_append (l := l), Nat.add_assoc]
theorem cnL_append {α : Type} {cn : α → Nat} {l l' : List α} : cnL cn (l ++ l') = cnL cn l + cnL cn l' := by simp [cnL]
theorem sum_take_le {α : Type} (f : α → Nat) (l : List α) (i : Nat) : ((l.take i).map f).sum ≤ (l.map f).sum := by
  conv => rhs; rw [← List.take_append_drop i l]
  rw [List.map_append, List.sum_append]; omega
theorem cnL_take_succ {α : Type} {cn : α → Nat} {l : List α} {i : Nat} (h : i < l.length) : cnL cn (l.take (i + 1)) = cnL cn (l.take i) + cn l[i] := by rw [List.take_succ_eq_append_getElem h, cnL_append]; simp [cnL]
theorem cnL_take_le {α : Type} {cn : α → Nat} {l : List α} {i : Nat} : cnL cn (l.take i) ≤ cnL cn l := sum_take_le cn l i
theorem mkL_take_succ {α : Type} {mk : α → Nat → α} {cn : α → Nat} {l : List α} {i k : Nat} (h : i < l.length) : mkL mk cn (l.take (i + 1)) k = mkL mk cn (l.take i) k ++ [mk l[i] (k + cnL cn (l.take i))] := by rw [List.take_succ_eq_append_getElem h, mkL_append]; rfl
theorem mkL_get {α : Type} {mk : α → Nat → α} {cn : α → Nat} {l : List α} {i k : Nat} (h : i < l.length) : (mkL mk cn l k)[i]? = some (mk l[i] (k + cnL cn (l.take i))) := by
  have h1 : l = l.take i ++ l[i] :: l.drop (i + 1) := by rw [← List.drop_eq_getElem_cons h, List.take_append_drop]
  conv => lhs; rw [h1]
  rw [mkL_append]
  rw [List.getElem?_append_right (by rw [mkL_length, List.length_take]; omega)]
  rw [mkL_length, List.length_take, show i - min i l.length = 0 by omega]
  rfl
def szF (w : Nat) (left : Int) : Int := if (w : Int) ≤ left then left - w else -1
theorem szF_or (w : Nat) (left : Int) : ((w : Int) ≤ left ∧ szF w left = left - w) ∨ (left < w ∧ szF w left = -1) := by unfold szF; split <;> omega
theorem wsum_take_succ {α : Type} {f : α → Nat} {l : List α} {i : Nat} (h : i < l.length) : ((l.take (i + 1)).map f).sum = ((l.take i).map f).sum + f l[i] := by rw [List.take_succ_eq_append_getElem h, List.map_append, List.sum_append]; rfl
structure DStored where
  name : ByteArray
  text : ByteArray
  synced : Int
def DStored.enc (x : DStored) : List AV := [.lit (.string x.name), .lit (.string x.text), .lit (.int .i64 x.synced)]
def DStored.ok (x : DStored) : Prop := (x.name.size ≤ 4294967296) ∧ (x.text.size ≤ 4294967296) ∧ (inI x.synced)
def DStored.it (x : DStored) : Prop := (x.name.size ≤ 9223372036854775807) ∧ (x.text.size ≤ 9223372036854775807) ∧ (inI x.synced)
def DStored.wt (x : DStored) : Nat := x.name.size + x.text.size
def DStored.mkE (x : DStored) (k : Nat) : DStored := ⟨mrkT x.name (k), mrkT x.text (k + 1), mrkI x.synced (k + 1 + 1)⟩
def DStored.cnE (x : DStored) : Nat := 1 + 1 + 1
theorem DStored.enc_cell (x : DStored) : x.enc.all AV.isCell = true := rfl
theorem DStored.enc_len (x : DStored) : x.enc.length = 3 := rfl
structure DDrive where
  files : List DStored
  room : Int
def DDrive.enc (x : DDrive) : List AV := [.row true 3 (x.files.map DStored.enc), .lit (.int .i64 x.room)]
def DDrive.ok (x : DDrive) : Prop := (x.files.length ≤ 4294967296 ∧ ∀ y ∈ x.files, y.ok) ∧ (inI x.room)
def DDrive.it (x : DDrive) : Prop := (x.files.length ≤ 9223372036854775807 ∧ ∀ y ∈ x.files, y.it) ∧ (inI x.room)
def DDrive.wt (x : DDrive) : Nat := wL DStored.wt x.files
def DDrive.mkE (x : DDrive) (k : Nat) : DDrive := ⟨(mkL DStored.mkE DStored.cnE) x.files (k), mrkI x.room (k + (cnL DStored.cnE) x.files)⟩
def DDrive.cnE (x : DDrive) : Nat := (cnL DStored.cnE) x.files + 1
def DDrive.mkV (x : DDrive) (k : Nat) : DDrive := ⟨(mkL DStored.mkE DStored.cnE) x.files (k), x.room⟩
def DDrive.cnV (x : DDrive) : Nat := (cnL DStored.cnE) x.files
theorem DDrive.enc_cell (x : DDrive) : x.enc.all AV.isCell = true := rfl
theorem DDrive.enc_len (x : DDrive) : x.enc.length = 2 := rfl
structure DArray where
  k : Int
  m : Int
  drives : List DDrive
def DArray.enc (x : DArray) : List AV := [.lit (.int .i64 x.k), .lit (.int .i64 x.m), .row true 2 (x.drives.map DDrive.enc)]
def DArray.ok (x : DArray) : Prop := (inI x.k) ∧ (inI x.m) ∧ (x.drives.length ≤ 4294967296 ∧ ∀ y ∈ x.drives, y.ok)
def DArray.it (x : DArray) : Prop := (inI x.k) ∧ (inI x.m) ∧ (x.drives.length ≤ 9223372036854775807 ∧ ∀ y ∈ x.drives, y.it)
def DArray.wt (x : DArray) : Nat := wL DDrive.wt x.drives
def DArray.mkE (x : DArray) (k : Nat) : DArray := ⟨mrkI x.k (k), mrkI x.m (k + 1), (mkL DDrive.mkE DDrive.cnE) x.drives (k + 1 + 1)⟩
def DArray.cnE (x : DArray) : Nat := 1 + 1 + (cnL DDrive.cnE) x.drives
def DArray.mkV (x : DArray) (k : Nat) : DArray := ⟨x.k, x.m, (mkL DDrive.mkE DDrive.cnE) x.drives (k)⟩
def DArray.cnV (x : DArray) : Nat := (cnL DDrive.cnE) x.drives
theorem DArray.enc_cell (x : DArray) : x.enc.all AV.isCell = true := rfl
theorem DArray.enc_len (x : DArray) : x.enc.length = 3 := rfl
structure DOp where
  kind : Int
  name : ByteArray
  to : ByteArray
  text : ByteArray
def DOp.enc (x : DOp) : List AV := [.lit (.int .i64 x.kind), .lit (.string x.name), .lit (.string x.to), .lit (.string x.text)]
def DOp.ok (x : DOp) : Prop := (inI x.kind) ∧ (x.name.size ≤ 4294967296) ∧ (x.to.size ≤ 4294967296) ∧ (x.text.size ≤ 4294967296)
def DOp.it (x : DOp) : Prop := (inI x.kind) ∧ (x.name.size ≤ 9223372036854775807) ∧ (x.to.size ≤ 9223372036854775807) ∧ (x.text.size ≤ 9223372036854775807)
def DOp.wt (x : DOp) : Nat := x.name.size + x.to.size + x.text.size
def DOp.mkE (x : DOp) (k : Nat) : DOp := ⟨mrkI x.kind (k), mrkT x.name (k + 1), mrkT x.to (k + 1 + 1), mrkT x.text (k + 1 + 1 + 1)⟩
def DOp.cnE (x : DOp) : Nat := 1 + 1 + 1 + 1
theorem DOp.enc_cell (x : DOp) : x.enc.all AV.isCell = true := rfl
theorem DOp.enc_len (x : DOp) : x.enc.length = 4 := rfl
structure DStep where
  drive : Int
  op : DOp
def DStep.enc (x : DStep) : List AV := [.lit (.int .i64 x.drive), .lit (.int .i64 x.op.kind), .lit (.string x.op.name), .lit (.string x.op.to), .lit (.string x.op.text)]
def DStep.ok (x : DStep) : Prop := (inI x.drive) ∧ (x.op.ok)
def DStep.it (x : DStep) : Prop := (inI x.drive) ∧ (x.op.it)
def DStep.wt (x : DStep) : Nat := x.op.wt
def DStep.mkE (x : DStep) (k : Nat) : DStep := ⟨mrkI x.drive (k), ⟨mrkI x.op.kind (k + 1), mrkT x.op.name (k + 1 + 1), mrkT x.op.to (k + 1 + 1 + 1), mrkT x.op.text (k + 1 + 1 + 1 + 1)⟩⟩
def DStep.cnE (x : DStep) : Nat := 1 + 1 + 1 + 1 + 1
theorem DStep.enc_cell (x : DStep) : x.enc.all AV.isCell = true := rfl
theorem DStep.enc_len (x : DStep) : x.enc.length = 5 := rfl
structure DCutting where
  min : Int
  bits : Int
  max : Int
def DCutting.enc (x : DCutting) : List AV := [.lit (.int .i64 x.min), .lit (.int .i64 x.bits), .lit (.int .i64 x.max)]
def DCutting.ok (x : DCutting) : Prop := (inI x.min) ∧ (inI x.bits) ∧ (inI x.max)
def DCutting.it (x : DCutting) : Prop := (inI x.min) ∧ (inI x.bits) ∧ (inI x.max)
def DCutting.wt (x : DCutting) : Nat := 0
def DCutting.mkE (x : DCutting) (k : Nat) : DCutting := ⟨mrkI x.min (k), mrkI x.bits (k + 1), mrkI x.max (k + 1 + 1)⟩
def DCutting.cnE (x : DCutting) : Nat := 1 + 1 + 1
theorem DCutting.enc_cell (x : DCutting) : x.enc.all AV.isCell = true := rfl
theorem DCutting.enc_len (x : DCutting) : x.enc.length = 3 := rfl
structure DClient where
  cmd : Int
  name : ByteArray
  steps : List DStep
  at_ : Int
  until_ : Int
def DClient.enc (x : DClient) : List AV := [.lit (.int .i64 x.cmd), .lit (.string x.name), .row true 5 (x.steps.map DStep.enc), .lit (.int .i64 x.at_), .lit (.int .i64 x.until_)]
def DClient.ok (x : DClient) : Prop := (inI x.cmd) ∧ (x.name.size ≤ 4294967296) ∧ (x.steps.length ≤ 4294967296 ∧ ∀ y ∈ x.steps, y.ok) ∧ (inI x.at_) ∧ (inI x.until_)
def DClient.it (x : DClient) : Prop := (inI x.cmd) ∧ (x.name.size ≤ 9223372036854775807) ∧ (x.steps.length ≤ 9223372036854775807 ∧ ∀ y ∈ x.steps, y.it) ∧ (inI x.at_) ∧ (inI x.until_)
def DClient.wt (x : DClient) : Nat := x.name.size + wL DStep.wt x.steps
def DClient.mkE (x : DClient) (k : Nat) : DClient := ⟨mrkI x.cmd (k), mrkT x.name (k + 1), (mkL DStep.mkE DStep.cnE) x.steps (k + 1 + 1), mrkI x.at_ (k + 1 + 1 + (cnL DStep.cnE) x.steps), mrkI x.until_ (k + 1 + 1 + (cnL DStep.cnE) x.steps + 1)⟩
def DClient.cnE (x : DClient) : Nat := 1 + 1 + (cnL DStep.cnE) x.steps + 1 + 1
def DClient.mkV (x : DClient) (k : Nat) : DClient := ⟨x.cmd, x.name, (mkL DStep.mkE DStep.cnE) x.steps (k), x.at_, x.until_⟩
def DClient.cnV (x : DClient) : Nat := (cnL DStep.cnE) x.steps
theorem DClient.enc_cell (x : DClient) : x.enc.all AV.isCell = true := rfl
theorem DClient.enc_len (x : DClient) : x.enc.length = 5 := rfl
structure DWorld where
  array : DArray
  cutting : DCutting
  now : Int
  clients : List DClient
def DWorld.enc (x : DWorld) : List AV := [.lit (.int .i64 x.array.k), .lit (.int .i64 x.array.m), .row true 2 (x.array.drives.map DDrive.enc), .lit (.int .i64 x.cutting.min), .lit (.int .i64 x.cutting.bits), .lit (.int .i64 x.cutting.max), .lit (.int .i64 x.now), .row true 5 (x.clients.map DClient.enc)]
def DWorld.ok (x : DWorld) : Prop := (x.array.ok) ∧ (x.cutting.ok) ∧ (inI x.now) ∧ (x.clients.length ≤ 4294967296 ∧ ∀ y ∈ x.clients, y.ok)
def DWorld.it (x : DWorld) : Prop := (x.array.it) ∧ (x.cutting.it) ∧ (inI x.now) ∧ (x.clients.length ≤ 9223372036854775807 ∧ ∀ y ∈ x.clients, y.it)
def DWorld.wt (x : DWorld) : Nat := x.array.wt + x.cutting.wt + wL DClient.wt x.clients
def DWorld.mkE (x : DWorld) (k : Nat) : DWorld := ⟨⟨mrkI x.array.k (k), mrkI x.array.m (k + 1), (mkL DDrive.mkE DDrive.cnE) x.array.drives (k + 1 + 1)⟩, ⟨mrkI x.cutting.min (k + 1 + 1 + (cnL DDrive.cnE) x.array.drives), mrkI x.cutting.bits (k + 1 + 1 + (cnL DDrive.cnE) x.array.drives + 1), mrkI x.cutting.max (k + 1 + 1 + (cnL DDrive.cnE) x.array.drives + 1 + 1)⟩, mrkI x.now (k + 1 + 1 + (cnL DDrive.cnE) x.array.drives + 1 + 1 + 1), (mkL DClient.mkE DClient.cnE) x.clients (k + 1 + 1 + (cnL DDrive.cnE) x.array.drives + 1 + 1 + 1 + 1)⟩
def DWorld.cnE (x : DWorld) : Nat := 1 + 1 + (cnL DDrive.cnE) x.array.drives + 1 + 1 + 1 + 1 + (cnL DClient.cnE) x.clients
def DWorld.mkV (x : DWorld) (k : Nat) : DWorld := ⟨⟨x.array.k, x.array.m, (mkL DDrive.mkE DDrive.cnE) x.array.drives (k)⟩, x.cutting, x.now, (mkL DClient.mkE DClient.cnE) x.clients (k + (cnL DDrive.cnE) x.array.drives)⟩
def DWorld.cnV (x : DWorld) : Nat := (cnL DDrive.cnE) x.array.drives + (cnL DClient.cnE) x.clients
theorem DWorld.enc_cell (x : DWorld) : x.enc.all AV.isCell = true := rfl
theorem DWorld.enc_len (x : DWorld) : x.enc.length = 8 := rfl
structure DDriveOut where
  drive : DDrive
  code : Int
def DDriveOut.enc (x : DDriveOut) : List AV := [.row true 3 (x.drive.files.map DStored.enc), .lit (.int .i64 x.drive.room), .lit (.int .i64 x.code)]
def DDriveOut.ok (x : DDriveOut) : Prop := (x.drive.ok) ∧ (inI x.code)
def DDriveOut.it (x : DDriveOut) : Prop := (x.drive.it) ∧ (inI x.code)
def DDriveOut.wt (x : DDriveOut) : Nat := x.drive.wt
def DDriveOut.mkE (x : DDriveOut) (k : Nat) : DDriveOut := ⟨⟨(mkL DStored.mkE DStored.cnE) x.drive.files (k), mrkI x.drive.room (k + (cnL DStored.cnE) x.drive.files)⟩, mrkI x.code (k + (cnL DStored.cnE) x.drive.files + 1)⟩
def DDriveOut.cnE (x : DDriveOut) : Nat := (cnL DStored.cnE) x.drive.files + 1 + 1
def DDriveOut.mkV (x : DDriveOut) (k : Nat) : DDriveOut := ⟨⟨(mkL DStored.mkE DStored.cnE) x.drive.files (k), x.drive.room⟩, x.code⟩
def DDriveOut.cnV (x : DDriveOut) : Nat := (cnL DStored.cnE) x.drive.files
theorem DDriveOut.enc_cell (x : DDriveOut) : x.enc.all AV.isCell = true := rfl
theorem DDriveOut.enc_len (x : DDriveOut) : x.enc.length = 3 := rfl
structure DSnap where
  name : ByteArray
  day : Int
  root : ByteArray
def DSnap.enc (x : DSnap) : List AV := [.lit (.string x.name), .lit (.int .i64 x.day), .lit (.string x.root)]
def DSnap.ok (x : DSnap) : Prop := (x.name.size ≤ 4294967296) ∧ (inI x.day) ∧ (x.root.size ≤ 4294967296)
def DSnap.it (x : DSnap) : Prop := (x.name.size ≤ 9223372036854775807) ∧ (inI x.day) ∧ (x.root.size ≤ 9223372036854775807)
def DSnap.wt (x : DSnap) : Nat := x.name.size + x.root.size
def DSnap.mkE (x : DSnap) (k : Nat) : DSnap := ⟨mrkT x.name (k), mrkI x.day (k + 1), mrkT x.root (k + 1 + 1)⟩
def DSnap.cnE (x : DSnap) : Nat := 1 + 1 + 1
theorem DSnap.enc_cell (x : DSnap) : x.enc.all AV.isCell = true := rfl
theorem DSnap.enc_len (x : DSnap) : x.enc.length = 3 := rfl
structure DPolicy where
  last : Int
  days : Int
  weeks : Int
  months : Int
def DPolicy.enc (x : DPolicy) : List AV := [.lit (.int .i64 x.last), .lit (.int .i64 x.days), .lit (.int .i64 x.weeks), .lit (.int .i64 x.months)]
def DPolicy.ok (x : DPolicy) : Prop := (inI x.last) ∧ (inI x.days) ∧ (inI x.weeks) ∧ (inI x.months)
def DPolicy.it (x : DPolicy) : Prop := (inI x.last) ∧ (inI x.days) ∧ (inI x.weeks) ∧ (inI x.months)
def DPolicy.wt (x : DPolicy) : Nat := 0
def DPolicy.mkE (x : DPolicy) (k : Nat) : DPolicy := ⟨mrkI x.last (k), mrkI x.days (k + 1), mrkI x.weeks (k + 1 + 1), mrkI x.months (k + 1 + 1 + 1)⟩
def DPolicy.cnE (x : DPolicy) : Nat := 1 + 1 + 1 + 1
theorem DPolicy.enc_cell (x : DPolicy) : x.enc.all AV.isCell = true := rfl
theorem DPolicy.enc_len (x : DPolicy) : x.enc.length = 4 := rfl
structure DArrayOut where
  array : DArray
  done : Int
  code : Int
def DArrayOut.enc (x : DArrayOut) : List AV := [.lit (.int .i64 x.array.k), .lit (.int .i64 x.array.m), .row true 2 (x.array.drives.map DDrive.enc), .lit (.int .i64 x.done), .lit (.int .i64 x.code)]
def DArrayOut.ok (x : DArrayOut) : Prop := (x.array.ok) ∧ (inI x.done) ∧ (inI x.code)
def DArrayOut.it (x : DArrayOut) : Prop := (x.array.it) ∧ (inI x.done) ∧ (inI x.code)
def DArrayOut.wt (x : DArrayOut) : Nat := x.array.wt
def DArrayOut.mkE (x : DArrayOut) (k : Nat) : DArrayOut := ⟨⟨mrkI x.array.k (k), mrkI x.array.m (k + 1), (mkL DDrive.mkE DDrive.cnE) x.array.drives (k + 1 + 1)⟩, mrkI x.done (k + 1 + 1 + (cnL DDrive.cnE) x.array.drives), mrkI x.code (k + 1 + 1 + (cnL DDrive.cnE) x.array.drives + 1)⟩
def DArrayOut.cnE (x : DArrayOut) : Nat := 1 + 1 + (cnL DDrive.cnE) x.array.drives + 1 + 1
def DArrayOut.mkV (x : DArrayOut) (k : Nat) : DArrayOut := ⟨⟨x.array.k, x.array.m, (mkL DDrive.mkE DDrive.cnE) x.array.drives (k)⟩, x.done, x.code⟩
def DArrayOut.cnV (x : DArrayOut) : Nat := (cnL DDrive.cnE) x.array.drives
theorem DArrayOut.enc_cell (x : DArrayOut) : x.enc.all AV.isCell = true := rfl
theorem DArrayOut.enc_len (x : DArrayOut) : x.enc.length = 5 := rfl
theorem eInt_nb (x : Int) : (eInt x).all (AV.nb 5) = true := rfl
theorem eStr_nb (x : ByteArray) : (eStr x).all (AV.nb 5) = true := rfl
theorem eBool_nb (x : Bool) : (eBool x).all (AV.nb 5) = true := rfl
theorem eInt_cell (x : Int) : (eInt x).all AV.isCell = true := rfl
theorem eStr_cell (x : ByteArray) : (eStr x).all AV.isCell = true := rfl
theorem eBool_cell (x : Bool) : (eBool x).all AV.isCell = true := rfl
theorem nb_rowc {n sz : Nat} {es : List (List AV)} : AV.nb (n + 1) (.row true sz es) = es.all fun e => e.all (AV.nb n) := rfl
theorem eInt_nbn (n : Nat) (x : Int) : (eInt x).all (AV.nb n) = true := by cases n <;> rfl
theorem eStr_nbn (n : Nat) (x : ByteArray) : (eStr x).all (AV.nb n) = true := by cases n <;> rfl
theorem eBool_nbn (n : Nat) (x : Bool) : (eBool x).all (AV.nb n) = true := by cases n <;> rfl
theorem nb_lit (n : Nat) (v : Value) : AV.nb n (.lit v) = true := by cases n <;> rfl
theorem nb_map {α : Type} {f : α → List AV} {n : Nat} {sz : Nat} (h : ∀ x, (f x).all (AV.nb n) = true) (l : List α) : AV.nb (n + 1) (.row true sz (l.map f)) = true := by
  rw [nb_rowc]; simp only [List.all_eq_true, List.mem_map, forall_exists_index, and_imp]
  rintro e x _ rfl
  exact List.all_eq_true.1 (h x)
theorem DStored.enc_nbn (n : Nat) (x : DStored) : x.enc.all (AV.nb (n + 0)) = true := by
  simp only [DStored.enc, List.all_cons, List.all_nil, Bool.and_true, Bool.and_eq_true]
  exact ⟨nb_lit _ _, nb_lit _ _, nb_lit _ _⟩
theorem DStored.enc_nb (x : DStored) : x.enc.all (AV.nb 5) = true := DStored.enc_nbn 5 x
theorem DDrive.enc_nbn (n : Nat) (x : DDrive) : x.enc.all (AV.nb (n + 1)) = true := by
  simp only [DDrive.enc, List.all_cons, List.all_nil, Bool.and_true, Bool.and_eq_true]
  exact ⟨nb_map (n := n + 0) (fun y => DStored.enc_nbn (n + 0) y) _, nb_lit _ _⟩
theorem DDrive.enc_nb (x : DDrive) : x.enc.all (AV.nb 5) = true := DDrive.enc_nbn 4 x
theorem DArray.enc_nbn (n : Nat) (x : DArray) : x.enc.all (AV.nb (n + 2)) = true := by
  simp only [DArray.enc, List.all_cons, List.all_nil, Bool.and_true, Bool.and_eq_true]
  exact ⟨nb_lit _ _, nb_lit _ _, nb_map (n := n + 1) (fun y => DDrive.enc_nbn (n + 0) y) _⟩
theorem DArray.enc_nb (x : DArray) : x.enc.all (AV.nb 5) = true := DArray.enc_nbn 3 x
theorem DOp.enc_nbn (n : Nat) (x : DOp) : x.enc.all (AV.nb (n + 0)) = true := by
  simp only [DOp.enc, List.all_cons, List.all_nil, Bool.and_true, Bool.and_eq_true]
  exact ⟨nb_lit _ _, nb_lit _ _, nb_lit _ _, nb_lit _ _⟩
theorem DOp.enc_nb (x : DOp) : x.enc.all (AV.nb 5) = true := DOp.enc_nbn 5 x
theorem DStep.enc_nbn (n : Nat) (x : DStep) : x.enc.all (AV.nb (n + 0)) = true := by
  simp only [DStep.enc, List.all_cons, List.all_nil, Bool.and_true, Bool.and_eq_true]
  exact ⟨nb_lit _ _, nb_lit _ _, nb_lit _ _, nb_lit _ _, nb_lit _ _⟩
theorem DStep.enc_nb (x : DStep) : x.enc.all (AV.nb 5) = true := DStep.enc_nbn 5 x
theorem DCutting.enc_nbn (n : Nat) (x : DCutting) : x.enc.all (AV.nb (n + 0)) = true := by
  simp only [DCutting.enc, List.all_cons, List.all_nil, Bool.and_true, Bool.and_eq_true]
  exact ⟨nb_lit _ _, nb_lit _ _, nb_lit _ _⟩
theorem DCutting.enc_nb (x : DCutting) : x.enc.all (AV.nb 5) = true := DCutting.enc_nbn 5 x
theorem DClient.enc_nbn (n : Nat) (x : DClient) : x.enc.all (AV.nb (n + 1)) = true := by
  simp only [DClient.enc, List.all_cons, List.all_nil, Bool.and_true, Bool.and_eq_true]
  exact ⟨nb_lit _ _, nb_lit _ _, nb_map (n := n + 0) (fun y => DStep.enc_nbn (n + 0) y) _, nb_lit _ _, nb_lit _ _⟩
theorem DClient.enc_nb (x : DClient) : x.enc.all (AV.nb 5) = true := DClient.enc_nbn 4 x
theorem DWorld.enc_nbn (n : Nat) (x : DWorld) : x.enc.all (AV.nb (n + 2)) = true := by
  simp only [DWorld.enc, List.all_cons, List.all_nil, Bool.and_true, Bool.and_eq_true]
  exact ⟨nb_lit _ _, nb_lit _ _, nb_map (n := n + 1) (fun y => DDrive.enc_nbn (n + 0) y) _, nb_lit _ _, nb_lit _ _, nb_lit _ _, nb_lit _ _, nb_map (n := n + 1) (fun y => DClient.enc_nbn (n + 0) y) _⟩
theorem DWorld.enc_nb (x : DWorld) : x.enc.all (AV.nb 5) = true := DWorld.enc_nbn 3 x
theorem DDriveOut.enc_nbn (n : Nat) (x : DDriveOut) : x.enc.all (AV.nb (n + 1)) = true := by
  simp only [DDriveOut.enc, List.all_cons, List.all_nil, Bool.and_true, Bool.and_eq_true]
  exact ⟨nb_map (n := n + 0) (fun y => DStored.enc_nbn (n + 0) y) _, nb_lit _ _, nb_lit _ _⟩
theorem DDriveOut.enc_nb (x : DDriveOut) : x.enc.all (AV.nb 5) = true := DDriveOut.enc_nbn 4 x
theorem DSnap.enc_nbn (n : Nat) (x : DSnap) : x.enc.all (AV.nb (n + 0)) = true := by
  simp only [DSnap.enc, List.all_cons, List.all_nil, Bool.and_true, Bool.and_eq_true]
  exact ⟨nb_lit _ _, nb_lit _ _, nb_lit _ _⟩
theorem DSnap.enc_nb (x : DSnap) : x.enc.all (AV.nb 5) = true := DSnap.enc_nbn 5 x
theorem DPolicy.enc_nbn (n : Nat) (x : DPolicy) : x.enc.all (AV.nb (n + 0)) = true := by
  simp only [DPolicy.enc, List.all_cons, List.all_nil, Bool.and_true, Bool.and_eq_true]
  exact ⟨nb_lit _ _, nb_lit _ _, nb_lit _ _, nb_lit _ _⟩
theorem DPolicy.enc_nb (x : DPolicy) : x.enc.all (AV.nb 5) = true := DPolicy.enc_nbn 5 x
theorem DArrayOut.enc_nbn (n : Nat) (x : DArrayOut) : x.enc.all (AV.nb (n + 2)) = true := by
  simp only [DArrayOut.enc, List.all_cons, List.all_nil, Bool.and_true, Bool.and_eq_true]
  exact ⟨nb_lit _ _, nb_lit _ _, nb_map (n := n + 1) (fun y => DDrive.enc_nbn (n + 0) y) _, nb_lit _ _, nb_lit _ _⟩
theorem DArrayOut.enc_nb (x : DArrayOut) : x.enc.all (AV.nb 5) = true := DArrayOut.enc_nbn 3 x
theorem wL_len {α : Type} {f : α → Nat} {l : List α} : l.length ≤ wL f l := by unfold wL; omega
theorem mem_le_sum {α : Type} (f : α → Nat) : ∀ {l : List α} {y : α}, y ∈ l → f y ≤ (l.map f).sum
  | x :: l, y, h => by
    rcases List.mem_cons.1 h with rfl | h
    · simp
    · have := mem_le_sum f h; simp; omega
theorem wL_mem {α : Type} {f : α → Nat} {l : List α} {y : α} (h : y ∈ l) : f y ≤ wL f l := by have := mem_le_sum f h; unfold wL; omega
theorem cnL_le {α : Type} {cn wt : α → Nat} {A B C : Nat} (h : ∀ x, cn x ≤ A * wt x + B) (hA : A ≤ C) (hB : B ≤ C) : ∀ l : List α, cnL cn l ≤ C * wL wt l
  | [] => by simp [cnL]
  | x :: l => by
    have h1 := h x
    have h2 := cnL_le h hA hB l
    have h3 : A * wt x ≤ C * wt x := Nat.mul_le_mul_right _ hA
    have e1 : cnL cn (x :: l) = cn x + cnL cn l := by simp [cnL]
    have e2 : wL wt (x :: l) = 1 + wt x + wL wt l := by simp [wL]; omega
    rw [e1, e2, Nat.mul_add, Nat.mul_add]; omega
theorem DStored.ok_of (x : DStored) (hi : x.it) (hw : x.wt ≤ 4294967296) : x.ok := by
  have he : x.wt = x.name.size + x.text.size := rfl
  unfold DStored.it at hi
  unfold DStored.ok
  exact ⟨by omega, by omega, hi.2.2⟩
theorem DStored.cnE_le (x : DStored) : x.cnE ≤ 0 * x.wt + 3 := by
  have he : x.wt = x.name.size + x.text.size := rfl
  have hc : x.cnE = 1 + 1 + 1 := rfl
  omega
theorem okStoredS_of (l : List DStored) (hi : l.length ≤ 9223372036854775807 ∧ ∀ y ∈ l, y.it) (hw : wL DStored.wt l ≤ 4294967296) : l.length ≤ 4294967296 ∧ ∀ y ∈ l, y.ok := by
  refine ⟨Nat.le_trans wL_len hw, fun y hy => ?_⟩
  have h1 := hi.2 y hy
  have h2 := Nat.le_trans (wL_mem (f := DStored.wt) hy) hw
  exact DStored.ok_of y h1 h2
theorem hypStoredS_of (l : List DStored) (h : l.length ≤ 4294967296 ∧ ∀ y ∈ l, y.ok) : l.length ≤ 4611686018427387904 := by
  have := h.1; omega
theorem cnStoredS_le (l : List DStored) : cnL DStored.cnE l ≤ 3 * wL DStored.wt l := cnL_le (A := 0) (B := 3) (fun x => DStored.cnE_le x) (by decide) (by decide) l
theorem DDrive.ok_of (x : DDrive) (hi : x.it) (hw : x.wt ≤ 4294967296) : x.ok := by
  have he : x.wt = wL DStored.wt x.files := rfl
  unfold DDrive.it at hi
  unfold DDrive.ok
  exact ⟨okStoredS_of _ hi.1 (by omega), hi.2⟩
theorem DDrive.hyp_of (x : DDrive) (h : x.ok) : (x.files.length ≤ 4611686018427387904) := by
  unfold DDrive.ok at h
  exact hypStoredS_of _ h.1
theorem DDrive.cnE_le (x : DDrive) : x.cnE ≤ 3 * x.wt + 1 := by
  have he : x.wt = wL DStored.wt x.files := rfl
  have hc : x.cnE = (cnL DStored.cnE) x.files + 1 := rfl
  have := cnStoredS_le x.files
  omega
theorem DDrive.cnV_le (x : DDrive) : x.cnV ≤ 3 * x.wt := by
  have he : x.wt = wL DStored.wt x.files := rfl
  have hc : x.cnV = (cnL DStored.cnE) x.files := rfl
  have := cnStoredS_le x.files
  omega
theorem okDriveS_of (l : List DDrive) (hi : l.length ≤ 9223372036854775807 ∧ ∀ y ∈ l, y.it) (hw : wL DDrive.wt l ≤ 4294967296) : l.length ≤ 4294967296 ∧ ∀ y ∈ l, y.ok := by
  refine ⟨Nat.le_trans wL_len hw, fun y hy => ?_⟩
  have h1 := hi.2 y hy
  have h2 := Nat.le_trans (wL_mem (f := DDrive.wt) hy) hw
  exact DDrive.ok_of y h1 h2
theorem hypDriveS_of (l : List DDrive) (h : l.length ≤ 4294967296 ∧ ∀ y ∈ l, y.ok) : l.length ≤ 4611686018427387904 ∧ ∀ y ∈ l, (y.files.length ≤ 4611686018427387904) := by
  refine ⟨by have := h.1; omega, fun y hy => ?_⟩
  exact DDrive.hyp_of y (h.2 y hy)
theorem cnDriveS_le (l : List DDrive) : cnL DDrive.cnE l ≤ 3 * wL DDrive.wt l := cnL_le (A := 3) (B := 1) (fun x => DDrive.cnE_le x) (by decide) (by decide) l
theorem DArray.ok_of (x : DArray) (hi : x.it) (hw : x.wt ≤ 4294967296) : x.ok := by
  have he : x.wt = wL DDrive.wt x.drives := rfl
  unfold DArray.it at hi
  unfold DArray.ok
  exact ⟨hi.1, hi.2.1, okDriveS_of _ hi.2.2 (by omega)⟩
theorem DArray.hyp_of (x : DArray) (h : x.ok) : (x.drives.length ≤ 4611686018427387904 ∧ ∀ y ∈ x.drives, (y.files.length ≤ 4611686018427387904)) := by
  unfold DArray.ok at h
  exact hypDriveS_of _ h.2.2
theorem DArray.cnE_le (x : DArray) : x.cnE ≤ 3 * x.wt + 2 := by
  have he : x.wt = wL DDrive.wt x.drives := rfl
  have hc : x.cnE = 1 + 1 + (cnL DDrive.cnE) x.drives := rfl
  have := cnDriveS_le x.drives
  omega
theorem DArray.cnV_le (x : DArray) : x.cnV ≤ 3 * x.wt := by
  have he : x.wt = wL DDrive.wt x.drives := rfl
  have hc : x.cnV = (cnL DDrive.cnE) x.drives := rfl
  have := cnDriveS_le x.drives
  omega
theorem DOp.ok_of (x : DOp) (hi : x.it) (hw : x.wt ≤ 4294967296) : x.ok := by
  have he : x.wt = x.name.size + x.to.size + x.text.size := rfl
  unfold DOp.it at hi
  unfold DOp.ok
  exact ⟨hi.1, by omega, by omega, by omega⟩
theorem DOp.cnE_le (x : DOp) : x.cnE ≤ 0 * x.wt + 4 := by
  have he : x.wt = x.name.size + x.to.size + x.text.size := rfl
  have hc : x.cnE = 1 + 1 + 1 + 1 := rfl
  omega
theorem DStep.ok_of (x : DStep) (hi : x.it) (hw : x.wt ≤ 4294967296) : x.ok := by
  have he : x.wt = x.op.wt := rfl
  unfold DStep.it at hi
  unfold DStep.ok
  exact ⟨hi.1, DOp.ok_of _ hi.2 (by omega)⟩
theorem DStep.cnE_le (x : DStep) : x.cnE ≤ 0 * x.wt + 5 := by
  have he : x.wt = x.op.wt := rfl
  have hc : x.cnE = 1 + 1 + 1 + 1 + 1 := rfl
  have : x.op.wt = x.op.name.size + x.op.to.size + x.op.text.size := rfl
  omega
theorem okStepS_of (l : List DStep) (hi : l.length ≤ 9223372036854775807 ∧ ∀ y ∈ l, y.it) (hw : wL DStep.wt l ≤ 4294967296) : l.length ≤ 4294967296 ∧ ∀ y ∈ l, y.ok := by
  refine ⟨Nat.le_trans wL_len hw, fun y hy => ?_⟩
  have h1 := hi.2 y hy
  have h2 := Nat.le_trans (wL_mem (f := DStep.wt) hy) hw
  exact DStep.ok_of y h1 h2
theorem hypStepS_of (l : List DStep) (h : l.length ≤ 4294967296 ∧ ∀ y ∈ l, y.ok) : l.length ≤ 4611686018427387904 := by
  have := h.1; omega
theorem cnStepS_le (l : List DStep) : cnL DStep.cnE l ≤ 5 * wL DStep.wt l := cnL_le (A := 0) (B := 5) (fun x => DStep.cnE_le x) (by decide) (by decide) l
theorem DCutting.ok_of (x : DCutting) (hi : x.it) (hw : x.wt ≤ 4294967296) : x.ok := by
  have he : x.wt = 0 := rfl
  unfold DCutting.it at hi
  unfold DCutting.ok
  exact ⟨hi.1, hi.2.1, hi.2.2⟩
theorem DCutting.cnE_le (x : DCutting) : x.cnE ≤ 0 * x.wt + 3 := by
  have he : x.wt = 0 := rfl
  have hc : x.cnE = 1 + 1 + 1 := rfl
  omega
theorem DClient.ok_of (x : DClient) (hi : x.it) (hw : x.wt ≤ 4294967296) : x.ok := by
  have he : x.wt = x.name.size + wL DStep.wt x.steps := rfl
  unfold DClient.it at hi
  unfold DClient.ok
  exact ⟨hi.1, by omega, okStepS_of _ hi.2.2.1 (by omega), hi.2.2.2.1, hi.2.2.2.2⟩
theorem DClient.hyp_of (x : DClient) (h : x.ok) : (x.steps.length ≤ 4611686018427387904) := by
  unfold DClient.ok at h
  exact hypStepS_of _ h.2.2.1
theorem DClient.cnE_le (x : DClient) : x.cnE ≤ 5 * x.wt + 4 := by
  have he : x.wt = x.name.size + wL DStep.wt x.steps := rfl
  have hc : x.cnE = 1 + 1 + (cnL DStep.cnE) x.steps + 1 + 1 := rfl
  have := cnStepS_le x.steps
  omega
theorem DClient.cnV_le (x : DClient) : x.cnV ≤ 5 * x.wt := by
  have he : x.wt = x.name.size + wL DStep.wt x.steps := rfl
  have hc : x.cnV = (cnL DStep.cnE) x.steps := rfl
  have := cnStepS_le x.steps
  omega
theorem okClientS_of (l : List DClient) (hi : l.length ≤ 9223372036854775807 ∧ ∀ y ∈ l, y.it) (hw : wL DClient.wt l ≤ 4294967296) : l.length ≤ 4294967296 ∧ ∀ y ∈ l, y.ok := by
  refine ⟨Nat.le_trans wL_len hw, fun y hy => ?_⟩
  have h1 := hi.2 y hy
  have h2 := Nat.le_trans (wL_mem (f := DClient.wt) hy) hw
  exact DClient.ok_of y h1 h2
theorem hypClientS_of (l : List DClient) (h : l.length ≤ 4294967296 ∧ ∀ y ∈ l, y.ok) : l.length ≤ 4611686018427387904 ∧ ∀ y ∈ l, (y.steps.length ≤ 4611686018427387904) := by
  refine ⟨by have := h.1; omega, fun y hy => ?_⟩
  exact DClient.hyp_of y (h.2 y hy)
theorem cnClientS_le (l : List DClient) : cnL DClient.cnE l ≤ 5 * wL DClient.wt l := cnL_le (A := 5) (B := 4) (fun x => DClient.cnE_le x) (by decide) (by decide) l
theorem DWorld.ok_of (x : DWorld) (hi : x.it) (hw : x.wt ≤ 4294967296) : x.ok := by
  have he : x.wt = x.array.wt + x.cutting.wt + wL DClient.wt x.clients := rfl
  unfold DWorld.it at hi
  unfold DWorld.ok
  exact ⟨DArray.ok_of _ hi.1 (by omega), DCutting.ok_of _ hi.2.1 (by omega), hi.2.2.1, okClientS_of _ hi.2.2.2 (by omega)⟩
theorem DWorld.hyp_of (x : DWorld) (h : x.ok) : ((x.array.drives.length ≤ 4611686018427387904 ∧ ∀ y ∈ x.array.drives, (y.files.length ≤ 4611686018427387904))) ∧ (x.clients.length ≤ 4611686018427387904 ∧ ∀ y ∈ x.clients, (y.steps.length ≤ 4611686018427387904)) := by
  unfold DWorld.ok at h
  exact ⟨DArray.hyp_of _ h.1, hypClientS_of _ h.2.2.2⟩
theorem DWorld.cnE_le (x : DWorld) : x.cnE ≤ 5 * x.wt + 6 := by
  have he : x.wt = x.array.wt + x.cutting.wt + wL DClient.wt x.clients := rfl
  have hc : x.cnE = 1 + 1 + (cnL DDrive.cnE) x.array.drives + 1 + 1 + 1 + 1 + (cnL DClient.cnE) x.clients := rfl
  have := cnDriveS_le x.array.drives
  have := cnClientS_le x.clients
  have : x.array.wt = wL DDrive.wt x.array.drives := rfl
  have : x.cutting.wt = 0 := rfl
  omega
theorem DWorld.cnV_le (x : DWorld) : x.cnV ≤ 5 * x.wt := by
  have he : x.wt = x.array.wt + x.cutting.wt + wL DClient.wt x.clients := rfl
  have hc : x.cnV = (cnL DDrive.cnE) x.array.drives + (cnL DClient.cnE) x.clients := rfl
  have := cnDriveS_le x.array.drives
  have := cnClientS_le x.clients
  have : x.array.wt = wL DDrive.wt x.array.drives := rfl
  have : x.cutting.wt = 0 := rfl
  omega
theorem DDriveOut.ok_of (x : DDriveOut) (hi : x.it) (hw : x.wt ≤ 4294967296) : x.ok := by
  have he : x.wt = x.drive.wt := rfl
  unfold DDriveOut.it at hi
  unfold DDriveOut.ok
  exact ⟨DDrive.ok_of _ hi.1 (by omega), hi.2⟩
theorem DDriveOut.hyp_of (x : DDriveOut) (h : x.ok) : ((x.drive.files.length ≤ 4611686018427387904)) := by
  unfold DDriveOut.ok at h
  exact DDrive.hyp_of _ h.1
theorem DDriveOut.cnE_le (x : DDriveOut) : x.cnE ≤ 3 * x.wt + 2 := by
  have he : x.wt = x.drive.wt := rfl
  have hc : x.cnE = (cnL DStored.cnE) x.drive.files + 1 + 1 := rfl
  have := cnStoredS_le x.drive.files
  have : x.drive.wt = wL DStored.wt x.drive.files := rfl
  omega
theorem DDriveOut.cnV_le (x : DDriveOut) : x.cnV ≤ 3 * x.wt := by
  have he : x.wt = x.drive.wt := rfl
  have hc : x.cnV = (cnL DStored.cnE) x.drive.files := rfl
  have := cnStoredS_le x.drive.files
  have : x.drive.wt = wL DStored.wt x.drive.files := rfl
  omega
theorem DSnap.ok_of (x : DSnap) (hi : x.it) (hw : x.wt ≤ 4294967296) : x.ok := by
  have he : x.wt = x.name.size + x.root.size := rfl
  unfold DSnap.it at hi
  unfold DSnap.ok
  exact ⟨by omega, hi.2.1, by omega⟩
theorem DSnap.cnE_le (x : DSnap) : x.cnE ≤ 0 * x.wt + 3 := by
  have he : x.wt = x.name.size + x.root.size := rfl
  have hc : x.cnE = 1 + 1 + 1 := rfl
  omega
theorem okSnapS_of (l : List DSnap) (hi : l.length ≤ 9223372036854775807 ∧ ∀ y ∈ l, y.it) (hw : wL DSnap.wt l ≤ 4294967296) : l.length ≤ 4294967296 ∧ ∀ y ∈ l, y.ok := by
  refine ⟨Nat.le_trans wL_len hw, fun y hy => ?_⟩
  have h1 := hi.2 y hy
  have h2 := Nat.le_trans (wL_mem (f := DSnap.wt) hy) hw
  exact DSnap.ok_of y h1 h2
theorem hypSnapS_of (l : List DSnap) (h : l.length ≤ 4294967296 ∧ ∀ y ∈ l, y.ok) : l.length ≤ 4611686018427387904 := by
  have := h.1; omega
theorem cnSnapS_le (l : List DSnap) : cnL DSnap.cnE l ≤ 3 * wL DSnap.wt l := cnL_le (A := 0) (B := 3) (fun x => DSnap.cnE_le x) (by decide) (by decide) l
theorem DPolicy.ok_of (x : DPolicy) (hi : x.it) (hw : x.wt ≤ 4294967296) : x.ok := by
  have he : x.wt = 0 := rfl
  unfold DPolicy.it at hi
  unfold DPolicy.ok
  exact ⟨hi.1, hi.2.1, hi.2.2.1, hi.2.2.2⟩
theorem DPolicy.cnE_le (x : DPolicy) : x.cnE ≤ 0 * x.wt + 4 := by
  have he : x.wt = 0 := rfl
  have hc : x.cnE = 1 + 1 + 1 + 1 := rfl
  omega
theorem okStringS_of (l : List ByteArray) (hi : l.length ≤ 9223372036854775807 ∧ ∀ y ∈ l, y.size ≤ 9223372036854775807) (hw : wL ByteArray.size l ≤ 4294967296) : l.length ≤ 4294967296 ∧ ∀ y ∈ l, y.size ≤ 4294967296 := by
  refine ⟨Nat.le_trans wL_len hw, fun y hy => ?_⟩
  have h1 := hi.2 y hy
  have h2 := Nat.le_trans (wL_mem (f := ByteArray.size) hy) hw
  exact h2
theorem hypStringS_of (l : List ByteArray) (h : l.length ≤ 4294967296 ∧ ∀ y ∈ l, y.size ≤ 4294967296) : l.length ≤ 4611686018427387904 := by
  have := h.1; omega
theorem cnStringS_le (l : List ByteArray) : cnL (fun _ => 1) l ≤ 1 * wL ByteArray.size l := cnL_le (A := 0) (B := 1) (fun x => by simp) (by decide) (by decide) l
theorem DArrayOut.ok_of (x : DArrayOut) (hi : x.it) (hw : x.wt ≤ 4294967296) : x.ok := by
  have he : x.wt = x.array.wt := rfl
  unfold DArrayOut.it at hi
  unfold DArrayOut.ok
  exact ⟨DArray.ok_of _ hi.1 (by omega), hi.2.1, hi.2.2⟩
theorem DArrayOut.hyp_of (x : DArrayOut) (h : x.ok) : ((x.array.drives.length ≤ 4611686018427387904 ∧ ∀ y ∈ x.array.drives, (y.files.length ≤ 4611686018427387904))) := by
  unfold DArrayOut.ok at h
  exact DArray.hyp_of _ h.1
theorem DArrayOut.cnE_le (x : DArrayOut) : x.cnE ≤ 3 * x.wt + 4 := by
  have he : x.wt = x.array.wt := rfl
  have hc : x.cnE = 1 + 1 + (cnL DDrive.cnE) x.array.drives + 1 + 1 := rfl
  have := cnDriveS_le x.array.drives
  have : x.array.wt = wL DDrive.wt x.array.drives := rfl
  omega
theorem DArrayOut.cnV_le (x : DArrayOut) : x.cnV ≤ 3 * x.wt := by
  have he : x.wt = x.array.wt := rfl
  have hc : x.cnV = (cnL DDrive.cnE) x.array.drives := rfl
  have := cnDriveS_le x.array.drives
  have : x.array.wt = wL DDrive.wt x.array.drives := rfl
  omega
end Go.Proofs.Ytlijeincckbdaaa
