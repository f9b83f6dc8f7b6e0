/- disk: what its functions do. -/
import Derived.Test.YtoehcgeckmoofaaGreatDoorBt
import Derived.Test.YtoehcgeckmoofaaGreatDoorVd
set_option linter.unusedVariables false
set_option linter.unusedSimpArgs false
namespace Go.Ab
open Go Go.RowKit Go.Proofs

abbrev Bytes := List UInt8

theorem Jn_of {α : Type} {f : α} {g : α → Prop} (P : α → Prop) (h1 : P f) (h2 : ∀ k, P k → g k) : Jn f g := h2 f h1
theorem Br_t {b : Bool} {X Y : Prop} (h : b = true) (k : X) : Br b X Y := by subst h; exact k
theorem Br_f {b : Bool} {X Y : Prop} (h : b = false) (k : Y) : Br b X Y := by subst h; exact k

structure DiskM where
  room : Nat
  lines : List Bytes
  lasts : Nat

def used (xs : List Bytes) : Nat := (xs.map (·.length + 1)).sum
theorem used_append (a b : List Bytes) : used (a ++ b) = used a + used b := by simp [used]
theorem used_take_succ (xs : List Bytes) (k : Nat) (h : k < xs.length) : used (xs.take (k + 1)) = used (xs.take k) + (xs[k].length + 1) := by
  rw [← List.take_append_getElem h, used_append]; simp [used]
theorem used_take_le (xs : List Bytes) (k : Nat) : used (xs.take k) ≤ used xs := by
  have := used_append (xs.take k) (xs.drop k)
  rw [List.take_append_drop] at this; omega
theorem used_take_mono (xs : List Bytes) {a b : Nat} (h : a ≤ b) : used (xs.take a) ≤ used (xs.take b) := by
  have := used_take_le (xs.take b) a
  rwa [List.take_take, Nat.min_eq_left h] at this
theorem used_le (xs : List Bytes) : xs.length ≤ used xs := by
  induction xs with
  | nil => simp [used]
  | cons x xs ih => simp [used] at ih ⊢; omega

structure DiskM.WF (D : DiskM) : Prop where
  lasts : D.lasts ≤ D.lines.length
  used : used D.lines ≤ D.room
  room : D.room ≤ 1048576
theorem DiskM.WF.llen {D : DiskM} (h : D.WF) : D.lines.length ≤ 1048576 := Nat.le_trans (used_le _) (Nat.le_trans h.used h.room)

def DiskV (d : Nat) (v : AV) (D : DiskM) : Prp := star (pt d (.cells false [.int .i64 D.room, v, .int .i64 D.lasts])) (SlP v 1 (D.lines.map .str))
def DiskP (d : Nat) (D : DiskM) : Prp := star (pur D.WF) (ex fun v => DiskV d v D)
def LinesP (c : Nat) (v : AV) (d : Nat) (D : DiskM) : Prp := star (sh c (.cells false [v])) (star (pur D.WF) (DiskV d v D))

def lineItems (xs : List Bytes) : List (List AV) := xs.mapIdx fun k x => [.int .i64 k, .str x]

section
variable {w0 : World} {st : St} {Q : Kont} {d : Nat} {v : AV} {D : DiskM} {F : List Prp}

theorem Sep.ofDisk (h : Sep st (DiskP d D :: F)) : D.WF ∧ ∃ v, Sep st (pt d (.cells false [.int .i64 D.room, v, .int .i64 D.lasts]) :: SlP v 1 (D.lines.map .str) :: F) := by
  obtain ⟨a, h⟩ := h.ofStar.ofPur
  obtain ⟨v, h⟩ := h.ofEx
  exact ⟨a, v, h.ofStar⟩
theorem Sep.toDisk (a : D.WF) (h : Sep st (pt d (.cells false [.int .i64 D.room, v, .int .i64 D.lasts]) :: SlP v 1 (D.lines.map .str) :: F)) : Sep st (DiskP d D :: F) :=
  Sep.toStar (Sep.toPur (.toEx v h.toStar) a)
theorem Sep.linesDisk {c : Nat} (h : Sep st (LinesP c v d D :: F)) : Sep st (DiskP d D :: F) := by
  obtain ⟨a, h⟩ := h.ofStar.tail.ofStar.ofPur
  exact h.ofStar.toDisk a

theorem sp_Len (h : Sep st (DiskP d D :: F)) (hq : Q (.int .i64 D.lines.length) st) : Cal w0 n_disk_Disk_Len [.ptr d 0] st Q := by
  refine ok_disk_Disk_Len ?_
  unfold vc_disk_Disk_Len
  obtain ⟨hw, v, h⟩ := h.ofDisk
  simp only [nilC_ptr, faddr_ptr, Nat.zero_add]
  refine h.ld 0 rfl rfl ?_
  exact h.tail.rd.len (by simp) (by omega) hq

theorem sp_Waits (h : Sep st (DiskP d D :: F)) (hq : Q (.int .i64 (D.lines.length - D.lasts : Nat)) st) : Cal w0 n_disk_Disk_Waits [.ptr d 0] st Q := by
  refine ok_disk_Disk_Waits ?_
  unfold vc_disk_Disk_Waits
  obtain ⟨hw, v, h⟩ := h.ofDisk
  simp only [nilC_ptr, faddr_ptr, Nat.zero_add]
  refine h.ld 0 rfl rfl ?_
  refine h.tail.rd.len (n := D.lines.length) (by simp) (by omega) ?_
  refine h.ld 0 rfl rfl ?_
  have h1 := hw.lasts
  have h2 := hw.llen
  simp only [bin, if_true, OptK_some]
  rw [wrap_id (by omega) (by omega)]
  have e : (D.lines.length : Int) - (D.lasts : Int) = ((D.lines.length - D.lasts : Nat) : Int) := by omega
  rw [e]; exact hq

theorem sp_Sync (h : Sep st (DiskP d D :: F)) (hq : ∀ st', Sep st' (DiskP d { D with lasts := D.lines.length } :: F) → Q (.tup []) st') : Cal w0 n_disk_Disk_Sync [.ptr d 0] st Q := by
  refine ok_disk_Disk_Sync ?_
  unfold vc_disk_Disk_Sync
  obtain ⟨hw, v, h⟩ := h.ofDisk
  simp only [nilC_ptr, faddr_ptr, Nat.zero_add]
  refine h.ld 0 rfl rfl ?_
  refine h.tail.rd.len (n := D.lines.length) (by simp) (by omega) ?_
  refine h.sto 0 rfl rfl (by simp) fun s h => hq s ?_
  exact h.toDisk (D := { D with lasts := D.lines.length }) ⟨Nat.le_refl _, hw.used, hw.room⟩

theorem sp_Sync0 {r x : AV} {xs : List Bytes} (h : Sep st (pt d (.cells false [r, v, x]) :: SlP v 1 (xs.map .str) :: F)) (hq : ∀ st', Sep st' (pt d (.cells false [r, v, .int .i64 xs.length]) :: SlP v 1 (xs.map .str) :: F) → Q (.tup []) st') : Cal w0 n_disk_Disk_Sync [.ptr d 0] st Q := by
  refine ok_disk_Disk_Sync ?_
  unfold vc_disk_Disk_Sync
  simp only [nilC_ptr, faddr_ptr, Nat.zero_add]
  refine h.ld 0 rfl rfl ?_
  refine h.tail.rd.len (n := xs.length) (by simp) (by omega) ?_
  exact h.sto 0 rfl rfl (by simp) fun s h => hq s h

theorem sp_Lines (h : Sep st (DiskP d D :: F)) (hq : ∀ st' c v, Sep st' (LinesP c v d D :: F) → Q (.func n_disk_Disk_Lines_1 [] [.ptr c 0]) st') : Cal w0 n_disk_Disk_Lines [.ptr d 0] st Q := by
  refine ok_disk_Disk_Lines ?_
  unfold vc_disk_Disk_Lines
  obtain ⟨hw, v, h⟩ := h.ofDisk
  simp only [nilC_ptr, faddr_ptr, Nat.zero_add]
  refine h.ld 0 rfl rfl ?_
  refine h.new fun c s h => ?_
  refine h.sto 0 rfl (h.tail.tail.slOne) (by simp) fun s h => ?_
  refine hq s c v ?_
  have h := ((h.freeze.ord [1, 1]).toStar.toPur hw).toStar
  exact h.swap.toStar

theorem strsAt {xs : List Bytes} {k : Nat} (h : k < xs.length) : (xs.map AV.str)[k]? = some (.str xs[k]) := by simp [h]

theorem it_Lines (w0 : World) (c d : Nat) (v : AV) (D : DiskM) : Iter w0 (.func n_disk_Disk_Lines_1 [] [.ptr c 0]) (LinesP c v d D) (lineItems D.lines) := by
  intro i st F C Stop Q h hy hq
  have hlen : (lineItems D.lines).length = D.lines.length := by simp [lineItems]
  rw [hlen] at hq
  refine ok_disk_Disk_Lines_1 ?_
  unfold vc_disk_Disk_Lines_1
  have hw : D.WF := h.swap.linesDisk.ofDisk.1
  have hll := hw.llen
  have rd : ∀ {st F}, Sep st (LinesP c v d D :: F) → Rd st v 1 (D.lines.map .str) := fun h => (h.ofStar.tail.ofStar.tail.ofStar.tail).rd
  refine h.swap.ofStar.ldS 0 rfl rfl ?_
  refine (rd h.swap).len (n := D.lines.length) (by simp) (by omega) ?_
  refine ⟨fun n x st => ∃ k : Nat, n = D.lines.length - k ∧ k ≤ D.lines.length ∧ x = [.yield i, v, .int .i64 D.lines.length, .int .i64 k] ∧ Sep st (C k :: LinesP c v d D :: F), D.lines.length, ⟨0, rfl, by omega, rfl, h⟩, ?_⟩
  rintro n x st1 ⟨k, rfl, hk, rfl, h⟩
  simp only [List.getD_cons_zero, List.getD_cons_succ, bin, OptK_some, if_true, AsBool_bool]
  refine Br_iff.2 ⟨fun e => ?_, fun e => ?_⟩
  · have hlt : k < D.lines.length := by simpa using e
    refine (rd h.swap).at1 (strsAt hlt) ?_
    have hy' := hy k st1 F (by omega) h
    simp only [lineItems, List.getElem_mapIdx] at hy'
    refine AYield.mono hy' ?_
    rintro r st2 (⟨rfl, h⟩ | ⟨rfl, h⟩)
    · simp only [un, OptK_some, AsBool_bool, Bool.not_true, Br_false]
      refine ⟨D.lines.length - (k + 1), by omega, k + 1, rfl, by omega, ?_, h⟩
      rw [wrap_id (by omega) (by omega)]; congr
    · simp only [un, OptK_some, AsBool_bool, Bool.not_false, Br_true]
      exact hq _ (.inr h)
  · have hlt : ¬ k < D.lines.length := by simpa using e
    have : k = D.lines.length := by omega
    subst this
    exact hq _ (.inl h)

theorem sp_Used (h : Sep st (DiskP d D :: F)) (hq : ∀ st', Sep st' (DiskP d D :: F) → Q (.int .i64 (used D.lines)) st') : Cal w0 n_disk_Disk_Used [.ptr d 0] st Q := by
  refine ok_disk_Disk_Used ?_
  unfold vc_disk_Disk_Used
  have hw := h.ofDisk.1
  have hll := hw.llen
  have hu := hw.used
  have hr := hw.room
  refine h.new fun n s h => ?_
  refine h.sto 0 rfl rfl (by simp) fun s h => ?_
  refine sp_Lines h.swap fun s c v h => ?_
  refine (it_Lines w0 c d v D).run (fun k => pt n (.cells false [.int .i64 (used (D.lines.take k))])) (fun _ => pur False) h rfl rfl ?_ ?_ (fun s h => h.ofPur.1.elim) (fun _ s h => h.ofPur.1.elim) (fun _ s h => h.ofPur.1.elim)
  · intro k s1 F' al hal ok hk h
    have hk : k < D.lines.length := by simpa [lineItems] using hk
    simp only [lineItems, List.getElem_mapIdx]
    refine okr_disk_Disk_Used_0 (h.getL.trans (congrArg some hal)) ?_
    unfold rnd_disk_Disk_Used_0
    refine h.rbeg ok 0 rfl fun s h => ?_
    refine h.ld 1 rfl rfl ?_
    simp only [LenOk, lenTk, Len, Chk_true, bin, if_true, OptK_some]
    have b1 := used_take_succ D.lines k hk
    have b2 := used_take_le D.lines (k + 1)
    rw [wrap_id (n := (D.lines[k].length : Int) + 1) (by omega) (by omega), wrap_id (by omega) (by omega)]
    refine h.sto 1 rfl rfl (by simp) fun s h => ?_
    refine h.rnorm ok 0 rfl fun s h => .inl ⟨rfl, ?_⟩
    have e : ((used (D.lines.take k) : Int) + ((D.lines[k].length : Int) + 1)) = ((used (D.lines.take (k + 1)) : Nat) : Int) := by rw [b1]; omega
    rw [e] at h
    exact h
  · intro s h
    refine h.ld 0 rfl rfl ?_
    have := hq s h.tail.linesDisk
    simpa [lineItems] using this

theorem sp_Write {line : Bytes} (h : Sep st (DiskP d D :: F)) (hno : Lib.indexByte line 10 < 0) (hl : line.length ≤ 1048576)
    (hfull : D.room < used D.lines + (line.length + 1) → ∀ st', Sep st' (DiskP d D :: F) → Q (.int .i64 6) st')
    (hok : used D.lines + (line.length + 1) ≤ D.room → ∀ st', Sep st' (DiskP d { D with lines := D.lines ++ [line] } :: F) → Q (.int .i64 0) st') :
    Cal w0 n_disk_Disk_Write [.ptr d 0, .str line] st Q := by
  refine ok_disk_Disk_Write ?_
  unfold vc_disk_Disk_Write
  simp only [nilC_ptr, faddr_ptr, Nat.zero_add]
  refine c_Contains ?_
  have : decide (0 ≤ Lib.indexByte line 10) = false := by simp; omega
  simp only [this, AsBool_bool, Br_false]
  obtain ⟨hw, v, h'⟩ := h.ofDisk
  refine h'.ld 0 rfl rfl ?_
  clear h'
  refine sp_Used h fun s1 h => ?_
  obtain ⟨_, v, h⟩ := h.ofDisk
  refine ⟨h.ld 0 rfl rfl rfl, trivial, ?_⟩
  have hu := hw.used
  have hr := hw.room
  have hll := hw.llen
  simp only [bin, if_true, OptK_some]
  rw [wrap_id (n := (line.length : Int) + 1) (by omega) (by omega), wrap_id (by omega) (by omega)]
  simp only [AsBool_bool]
  refine Br_iff.2 ⟨fun e => hfull (by simp at e; omega) _ (h.toDisk hw), fun e => ?_⟩
  have hfit : used D.lines + (line.length + 1) ≤ D.room := by simp at e; omega
  refine h.ld 0 rfl rfl ?_
  refine h.psh fun s2 h => ?_
  refine (h.ord [2, 0]).append (ys := [.str line]) (by omega) (by simp) (by omega) rfl (by simp; omega) (by omega) fun v' s3 hv' h => ?_
  refine h.sto 2 rfl hv' (by simp) fun s4 h => ?_
  refine hok hfit s4 ?_
  refine Sep.toDisk (D := { D with lines := D.lines ++ [line] }) (v := v') ⟨?_, ?_, hw.room⟩ ?_
  · have := hw.lasts; simp; omega
  · simp only [used_append]; simp [Go.Ab.used] at hfit ⊢; omega
  · rw [List.map_append]
    exact (h.ord [1]).tail.swap

theorem sp_New {room : Nat} (hs : Sep st F) (h1 : 1 ≤ room) (h2 : room ≤ 1048576) (hq : ∀ st' d, Sep st' (DiskP d ⟨room, [], 0⟩ :: F) → Q (.tup [.ptr d 0, .int .i64 0]) st') : Cal w0 n_disk_New [.int .i64 room] st Q := by
  refine ok_disk_New ?_
  unfold vc_disk_New
  have e1 : (decide ((room : Int) < 1) == false) = true := by simp; omega
  have e2 : decide ((1048576 : Int) < room) = false := by simp; omega
  refine Jn_of (fun k => k (.bool false) st) ?_ fun k hk => ?_
  · simp only [AsBool_bool, Br_false]
    refine hs.new fun d s h => hq s d ?_
    refine Sep.toDisk (v := .nils) ⟨Nat.le_refl _, by simp [Go.Ab.used], h2⟩ ?_
    exact (Sep.nilSl h).swap
  · rw [e1, e2]; exact hk

/-- Lines cut to their first n, where none waits. -/
theorem sp_Cut {n : Nat} (h : Sep st (DiskP d D :: F)) (hn : n ≤ D.lines.length) (hw : D.lasts = D.lines.length)
    (hq : ∀ st', Sep st' (DiskP d ⟨D.room, D.lines.take n, n⟩ :: F) → Q (.int .i64 0) st') : Cal w0 n_disk_Disk_Cut [.ptr d 0, .int .i64 n] st Q := by
  refine ok_disk_Disk_Cut ?_
  unfold vc_disk_Disk_Cut
  simp only [nilC_ptr, faddr_ptr, Nat.zero_add]
  have e1 : (decide ((n : Int) < 0) == false) = true := by simp
  refine Jn_of (fun k => ∀ st, Sep st (DiskP d D :: F) → k (.bool false) st) (fun st h => ?_) fun k hk => ?_
  · simp only [AsBool_bool, Br_false]
    refine sp_Waits h ?_
    have e3 : decide ((0 : Int) < ((D.lines.length - D.lasts : Nat) : Int)) = false := by simp; omega
    simp only [bin, if_true, OptK_some, e3, AsBool_bool, Br_false]
    obtain ⟨hwf, v, h⟩ := h.ofDisk
    refine h.ld 0 rfl rfl ?_
    obtain ⟨v', hv', hone, h⟩ := h.swap.cutSl (n := n) (m := D.lines.length) (by simp) (by omega) hn
    rw [hv', OptK_some]
    refine h.sto 1 rfl hone (by simp) fun s h => ?_
    rw [Nat.mul_one, ← List.map_take] at h
    have hlen : (D.lines.take n).length = n := by simp [Nat.min_eq_left hn]
    refine sp_Sync0 h.swap fun s h => hq s ?_
    rw [hlen] at h
    exact h.toDisk (D := ⟨D.room, D.lines.take n, n⟩) ⟨by simp [Nat.min_eq_left hn], Nat.le_trans (used_take_le _ _) hwf.used, hwf.room⟩
  · rw [e1, Br_true]
    obtain ⟨hwf, v, h'⟩ := h.ofDisk
    refine h'.ld 0 rfl rfl ?_
    refine h'.tail.rd.len (n := D.lines.length) (by simp) (by omega) ?_
    have e2 : decide ((D.lines.length : Int) < n) = false := by simpa using hn
    simp only [bin, if_true, OptK_some, e2, AV.pick, cond_false]
    exact hk st h

/-- Where a crash that lets so many bytes reach cuts. -/
structure CrashAt (D : DiskM) (keep : Int) (a : Nat) : Prop where
  lo : D.lasts ≤ a
  hi : a ≤ D.lines.length
  fit : (used (D.lines.take a) : Int) - used (D.lines.take D.lasts) ≤ max keep 0
  end_ : a = D.lines.length ∨ max keep 0 < (used (D.lines.take (a + 1)) : Int) - used (D.lines.take D.lasts)

theorem sp_Crash {keep : Int} (h : Sep st (DiskP d D :: F)) (hk1 : -9223372036854775808 ≤ keep) (hk2 : keep ≤ 9223372036854775807)
    (hq : ∀ a st', CrashAt D keep a → Sep st' (DiskP d ⟨D.room, D.lines.take a, a⟩ :: F) → Q (.tup []) st') : Cal w0 n_disk_Disk_Crash [.ptr d 0, .int .i64 keep] st Q := by
  refine ok_disk_Disk_Crash ?_
  unfold vc_disk_Disk_Crash
  have hw := h.ofDisk.1
  have hll := hw.llen
  have hu := hw.used
  have hr := hw.room
  have hlast := hw.lasts
  have hul := used_take_le D.lines
  have hpc : AV.cellsOk (.ptr d 0) = some [.ptr d 0] := rfl
  rw [hpc, OptK_some]
  refine h.new fun b1 s h => ?_
  refine h.new fun b2 s h => ?_
  refine h.ld 0 rfl rfl ?_
  have hmax : maxAV [.int .i64 keep, .int .i64 0] = some (.int .i64 (max keep 0)) := by
    simp only [maxAV, if_true]; congr 2; split <;> omega
  rw [hmax, OptK_some]
  refine h.sto 0 rfl rfl (by simp) fun s h => ?_
  refine h.new fun b3 s h => ?_
  refine h.sto 0 rfl rfl (by simp) fun s h => ?_
  refine h.ld 2 rfl rfl ?_
  refine sp_Lines (h.pull 3) fun s0 c v h => ?_
  refine Jn_of (fun k => ∀ a s, CrashAt D keep a → Sep s (DiskP d D :: pt b1 (.cells false [.ptr d 0]) :: pt b3 (.cells false [.int .i64 a]) :: F) → k s) (fun a s ha h => ?_) fun k hk => ?_
  · refine h.ld 1 rfl rfl ?_
    refine h.ld 1 rfl rfl ?_
    obtain ⟨_, v, h⟩ := h.ofDisk
    simp only [nilC_ptr, faddr_ptr, Nat.zero_add]
    refine h.ld 0 rfl rfl ?_
    refine h.ld 3 rfl rfl ?_
    refine h.ld 3 rfl rfl ?_
    obtain ⟨v', hv', hone, h⟩ := h.swap.cutSl (n := a) (m := D.lines.length) (by simp) (by omega) ha.hi
    simp only [SlSl, optInt, OptK_some, Option.getD_none, hv', nilC_ptr, faddr_ptr, Nat.zero_add]
    refine h.sto 1 rfl hone (by simp) fun s h => ?_
    refine h.ld 2 rfl rfl ?_
    rw [Nat.mul_one, ← List.map_take] at h
    have hlen : (D.lines.take a).length = a := by simp [Nat.min_eq_left ha.hi]
    refine sp_Sync0 h.swap fun s h => hq a s ha ?_
    rw [hlen] at h
    have h := h.toDisk (D := ⟨D.room, D.lines.take a, a⟩) ⟨by simp [Nat.min_eq_left ha.hi], Nat.le_trans (used_take_le _ _) hw.used, hw.room⟩
    exact (h.ord [1, 1]).tail.tail
  · refine (it_Lines w0 c d v D).run (fun k => stars [pt b1 (.cells false [.ptr d 0]), pt b3 (.cells false [.int .i64 k]), ex fun m : Int => star (pur (0 ≤ m ∧ m = max keep 0 - ((used (D.lines.take (max k D.lasts)) : Int) - used (D.lines.take D.lasts)))) (pt b2 (.cells false [.int .i64 m]))])
      (fun e => star (pur (e = .exit 0)) (ex fun a : Nat => star (pur (CrashAt D keep a)) (stars [DiskP d D, pt b1 (.cells false [.ptr d 0]), pt b3 (.cells false [.int .i64 a])]))) (F := F) ?_ rfl rfl ?_ ?_ ?_ ?_ ?_
    · have h := ((h.ord [2]).toPur (φ := 0 ≤ max keep 0 ∧ max keep 0 = max keep 0 - ((used (D.lines.take (max 0 D.lasts)) : Int) - used (D.lines.take D.lasts))) ⟨by omega, by simp⟩).toStar
      have h := Sep.toEx (f := fun m : Int => star (pur (0 ≤ m ∧ m = max keep 0 - ((used (D.lines.take (max 0 D.lasts)) : Int) - used (D.lines.take D.lasts)))) (pt b2 (.cells false [.int .i64 m]))) _ h
      exact (Sep.toStars (cs := [_, _, _]) (h.ord [3, 2, 0])).swap
    · intro k s F' al hal ok hk h
      have hk : k < D.lines.length := by simpa [lineItems] using hk
      simp only [lineItems, List.getElem_mapIdx]
      refine okr_disk_Disk_Crash_0 (h.getL.trans (congrArg some hal)) ?_
      unfold rnd_disk_Disk_Crash_0
      refine h.rbeg ok 0 rfl fun s h => ?_
      have h := h.swap.ofStars.ord [2]
      obtain ⟨m, h⟩ := h.ofEx
      obtain ⟨⟨a5, a6⟩, h⟩ := h.ofStar.ofPur
      have h : Sep s (lb s0.lp.length al :: pt b1 (.cells false [.ptr d 0]) :: pt b2 (.cells false [.int .i64 m]) :: pt b3 (.cells false [.int .i64 k]) :: LinesP c v d D :: F') := h.ord [3, 1]
      have back : ∀ s m, 0 ≤ m ∧ m = max keep 0 - ((used (D.lines.take (max (k + 1) D.lasts)) : Int) - used (D.lines.take D.lasts)) → Sep s (lq s0.lp.length al :: pt b1 (.cells false [.ptr d 0]) :: pt b2 (.cells false [.int .i64 m]) :: pt b3 (.cells false [.int .i64 ((k + 1 : Nat) : Int)]) :: LinesP c v d D :: F') →
          Sep s (lq s0.lp.length al :: stars [pt b1 (.cells false [.ptr d 0]), pt b3 (.cells false [.int .i64 ((k + 1 : Nat) : Int)]), ex fun m : Int => star (pur (0 ≤ m ∧ m = max keep 0 - ((used (D.lines.take (max (k + 1) D.lasts)) : Int) - used (D.lines.take D.lasts)))) (pt b2 (.cells false [.int .i64 m]))] :: LinesP c v d D :: F') := fun s m hm h => by
        have h := Sep.toEx (f := fun m : Int => star (pur (0 ≤ m ∧ m = max keep 0 - ((used (D.lines.take (max (k + 1) D.lasts)) : Int) - used (D.lines.take D.lasts)))) (pt b2 (.cells false [.int .i64 m]))) m ((h.ord [2]).toPur hm).toStar
        exact (Sep.toStars (cs := [_, _, _]) (h.ord [2, 2, 0])).swap
      refine h.ld 1 rfl rfl ?_
      simp only [nilC_ptr, faddr_ptr, Nat.zero_add]
      refine ((h.pull 4).ofStar.tail.ofStar.tail.ofStar).ld 0 rfl rfl ?_
      have u1 := used_take_succ D.lines k hk
      have u2 := hul (k + 1)
      have u3 := hul k
      have u4 := hul D.lasts
      simp only [bin, if_true, OptK_some, AsBool_bool]
      have hkb : IntKind.i64.wrap ((k : Int) + 1) = ((k + 1 : Nat) : Int) := by rw [wrap_id (by omega) (by omega)]; omega
      refine Br_iff.2 ⟨fun e => ?_, fun e => ?_⟩
      · have e : k < D.lasts := by simpa using e
        rw [hkb]
        refine h.sto 3 rfl rfl (by simp) fun s h => ?_
        refine h.rnorm ok 0 rfl fun s h => .inl ⟨rfl, back s m ⟨a5, ?_⟩ h⟩
        have e1 : max (k + 1) D.lasts = D.lasts := by omega
        have e2 : max k D.lasts = D.lasts := by omega
        rw [a6, e1, e2]
      · have e : D.lasts ≤ k := by simpa using e
        have emax : max k D.lasts = k := by omega
        have emax' : max (k + 1) D.lasts = k + 1 := by omega
        rw [emax] at a6
        have u5 := used_take_mono D.lines e
        refine h.ld 2 rfl rfl ?_
        simp only [LenOk, lenTk, Len, Chk_true, bin, if_true, OptK_some]
        rw [wrap_id (n := (D.lines[k].length : Int) + 1) (by omega) (by omega), wrap_id (n := m - ((D.lines[k].length : Int) + 1)) (by omega) (by omega)]
        refine h.sto 2 rfl rfl (by simp) fun s h => ?_
        refine h.ld 2 rfl rfl ?_
        simp only [AsBool_bool]
        refine Br_iff.2 ⟨fun e2 => ?_, fun e2 => ?_⟩
        · have e2 : m - ((D.lines[k].length : Int) + 1) < 0 := by simpa using e2
          refine h.rexit 0 rfl fun s h => .inr ⟨rfl, .exit 0, ?_⟩
          have h := (h.ord [4]).linesDisk
          have h : Sep s (stars [DiskP d D, pt b1 (.cells false [.ptr d 0]), pt b3 (.cells false [.int .i64 (k : Int)])] :: le s0.lp.length al (.exit 0) :: F') := Sep.toStars (cs := [_, _, _]) ((h.ord [3]).tail.ord [0, 1, 1])
          refine Sep.swap (Sep.toStar (Sep.toPur (Sep.toEx k (Sep.toStar (Sep.toPur h ?_))) rfl))
          exact ⟨e, by omega, by omega, .inr (by omega)⟩
        · have e2 : 0 ≤ m - ((D.lines[k].length : Int) + 1) := by simpa using e2
          rw [hkb]
          refine h.sto 3 rfl rfl (by simp) fun s h => ?_
          refine h.rnorm ok 0 rfl fun s h => .inl ⟨rfl, back s _ ⟨e2, ?_⟩ h⟩
          rw [emax']; omega
    · intro s h
      have h := h.ofStars.ord [2]
      obtain ⟨m, h⟩ := h.ofEx
      obtain ⟨⟨a5, a6⟩, h⟩ := h.ofStar.ofPur
      have e : (lineItems D.lines).length = D.lines.length := by simp [lineItems]
      rw [e] at h a6
      have emax : max D.lines.length D.lasts = D.lines.length := by omega
      rw [emax] at a6
      refine hk D.lines.length s ⟨hlast, Nat.le_refl _, by omega, .inl rfl⟩ ?_
      exact (h.tail.ord [2]).linesDisk
    · exact fun s h => by have := h.ofStar.ofPur.1; cases this
    · intro id s h
      obtain ⟨e, h1⟩ := h.ofStar.ofPur
      cases e
      obtain ⟨a, h2⟩ := h1.ofEx
      obtain ⟨ha, h3⟩ := h2.ofStar.ofPur
      exact Br_t rfl (hk a s ha h3.ofStars)
    · exact fun e s h => .inr ⟨0, h.ofStar.ofPur.1⟩
end
end Go.Ab
