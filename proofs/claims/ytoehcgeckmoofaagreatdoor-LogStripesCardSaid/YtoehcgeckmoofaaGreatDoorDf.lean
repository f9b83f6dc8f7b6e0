/- seg: take, Open. -/
import Derived.Test.YtoehcgeckmoofaaGreatDoorDe
set_option linter.unusedVariables false
set_option linter.unusedSimpArgs false
namespace Go.Ab
open Go Go.RowKit Go.Proofs

theorem bin_bneq {a b : Bool} : bin .bool .neq (.bool a) (.bool b) = some (.bool (!(a == b))) := rfl

def takeS (M : SegSt) (i : Nat) : Line → Option SegSt
  | .p pos r => if (M.find pos).isNone && decide (M.trim ≤ pos) then some (M.add ⟨pos, trimR r, i⟩) else none
  | .s n => if M.sealed < n then some (M.sealUp n) else none
  | .c n => some (M.cut n)
  | .t n => if M.trim < n then some (M.below n) else none

def Line.Ok : Line → Prop
  | .p pos r => pos ≤ 2147483647 ∧ OkR r
  | .s n => n ≤ 2147483647
  | .c n => n ≤ 2147483647
  | .t n => n ≤ 2147483647

theorem no32 (n : Nat) : (32 : UInt8) ∉ Lib.itoa n := fun h => by
  have := itoa_no n (by omega) 32 h
  simp [isDig] at this

section
variable {w0 : World} {st : St} {Q : Kont} {F : List Prp} {s d b i : Nat} {v : AV} {M M' : SegSt} {D : DiskM} {r : Rec}

theorem cut_kind (k : UInt8) (l : Bytes) (hk : k ≠ 32) : Lib.cut (k :: 32 :: l) [32] = ([k], l, true) := by
  have := cut_one (a := [k]) (b := l) (c := 32) (by simp [Ne.symm hk])
  simpa using this

theorem textR_len {r : Rec} (h : OkR r) : (textR r).length ≤ 260 := (textR10 h.chk fun _ => h.key).2

theorem sp_take_k {k : UInt8} {n : Nat} (g : Gnd w0) (hk : k ≠ 32) (hk2 : k ≠ 112) (hn : n ≤ 2147483647) (h : Sep st (SegP s M d :: F))
    (hs : k = 115 ∧ M.sealed < n ∧ M' = M.sealUp n ∨ k = 99 ∧ M' = M.cut n ∨ k = 116 ∧ M.trim < n ∧ M' = M.below n)
    (hq : ∀ st', Sep st' (SegP s M' d :: F) → Q (.bool true) st') : Cal w0 n_seg_Seg_take [.ptr s 0, .int .i64 i, .str (kindText k n)] st Q := by
  refine ok_seg_Seg_take ?_
  unfold vc_seg_Seg_take
  have hl := itoa_len10 n hn
  refine c_Cut g (by simp [kindText]; omega) ?_
  rw [kindText, cut_kind k _ hk]
  simp only [ext_tup, List.getElem?_cons_zero, List.getElem?_cons_succ, OptK_some]
  refine c_Cut g (by omega) ?_
  rw [cut_none (no32 n)]
  simp only [ext_tup, List.getElem?_cons_zero, List.getElem?_cons_succ, OptK_some]
  refine sp_Number (most := 2147483647) hn (by omega) ?_
  simp only [ext_tup, List.getElem?_cons_zero, List.getElem?_cons_succ, OptK_some]
  have e1 : decide (([k] : Bytes) = [112]) = false := by simp [hk2]
  refine Jn_of (fun k' => k' (.bool false) st) ?_ fun k' hk' => ?_
  · simp only [AsBool_bool, Br_false, bin_seql, OptK_some, e1]
    obtain ⟨b, h'⟩ := h.ofSeg
    rcases hs with ⟨rfl, hs, rfl⟩ | ⟨rfl, rfl⟩ | ⟨rfl, hs, rfl⟩
    · refine Br_t (by decide) ?_
      simp only [nilC_ptr, faddr_ptr, Nat.zero_add]
      refine h'.ld 0 rfl rfl ?_
      simp only [bin_leq, OptK_some, AsBool_bool]
      refine Br_f (by simp; omega) ?_
      refine h'.sto 0 rfl rfl (by simp) fun s2 h => hq s2 ?_
      exact Sep.toSeg (M := M.sealUp n) h
    · refine Br_f (by decide) ?_
      simp only [bin_seql, OptK_some, AsBool_bool]
      refine Br_t (by decide) ?_
      exact sp_cut h hq
    · refine Br_f (by decide) ?_
      simp only [bin_seql, OptK_some, AsBool_bool]
      refine Br_f (by decide) ?_
      refine Br_t (by decide) ?_
      simp only [nilC_ptr, faddr_ptr, Nat.zero_add]
      refine h'.ld 0 rfl rfl ?_
      simp only [bin_leq, OptK_some, AsBool_bool]
      refine Br_f (by simp; omega) ?_
      exact sp_cutBelow h hq
  · simp only [un_not, bin_neq, bin_seql, bin_bneq, OptK_some, AsBool_bool, pick_f, Bool.not_true, decide_true, beq_self_eq_true, Br_true, e1]
    exact hk'

theorem sp_take {L : Line} (g : Gnd w0) (h : Sep st (SegP s M d :: F)) (ok : L.Ok) (hs : takeS M i L = some M') (hq : ∀ st', Sep st' (SegP s M' d :: F) → Q (.bool true) st') :
    Cal w0 n_seg_Seg_take [.ptr s 0, .int .i64 i, .str L.text] st Q := by
  cases L with
  | s n =>
    simp only [takeS] at hs
    split at hs
    · cases hs; exact sp_take_k g (by decide) (by decide) ok h (.inl ⟨rfl, by assumption, rfl⟩) hq
    · cases hs
  | c n =>
    simp only [takeS] at hs
    cases hs; exact sp_take_k g (by decide) (by decide) ok h (.inr (.inl ⟨rfl, rfl⟩)) hq
  | t n =>
    simp only [takeS] at hs
    split at hs
    · cases hs; exact sp_take_k g (by decide) (by decide) ok h (.inr (.inr ⟨rfl, by assumption, rfl⟩)) hq
    · cases hs
  | p pos r =>
    obtain ⟨hp, okr⟩ := ok
    simp only [takeS] at hs
    split at hs
    · rename_i hc
      cases hs
      simp only [Bool.and_eq_true, Option.isNone_iff_eq_none, decide_eq_true_eq] at hc
      obtain ⟨hno, htr⟩ := hc
      refine ok_seg_Seg_take ?_
      unfold vc_seg_Seg_take
      have hl := itoa_len10 pos hp
      have hl2 := textR_len okr
      refine c_Cut g (by simp [Line.text]; omega) ?_
      rw [Line.text, cut_kind 112 _ (by decide)]
      simp only [ext_tup, List.getElem?_cons_zero, List.getElem?_cons_succ, OptK_some]
      refine c_Cut g (by simp; omega) ?_
      rw [cut_one (no32 pos)]
      simp only [ext_tup, List.getElem?_cons_zero, List.getElem?_cons_succ, OptK_some]
      refine sp_Number (most := 2147483647) hp (by omega) ?_
      simp only [ext_tup, List.getElem?_cons_zero, List.getElem?_cons_succ, OptK_some]
      refine Jn_of (fun k' => k' (.bool false) st) ?_ fun k' hk' => ?_
      · simp only [AsBool_bool, Br_false, bin_seql, OptK_some, decide_true, Br_true]
        refine sp_RParse g h okr fun v s1 h => ?_
        have hv := h.rdS.one
        simp only [ext_tup, List.getElem?_cons_zero, List.getElem?_cons_succ, OptK_some]
        refine h.new fun c s2 h => ?_
        refine h.stoA (ws := [.int .i64 r.site, .int .i64 r.seq, v, .str r.key, .str r.val]) 0 rfl (one5 hv) (by simp) fun s2 h => ?_
        -- c, sh, seg
        obtain ⟨b, h⟩ := (h.ord [2]).ofSeg
        simp only [nilC_ptr, faddr_ptr, Nat.zero_add]
        refine h.ld 0 rfl rfl ?_
        obtain ⟨T, cl, hT, ok, h⟩ := (h.ord [1]).ofSlots
        -- map, stars, s, c, sh
        have hno' : (T.map (·.1)).find? (fun s => decide (((pos : Nat) : Int) = (s.pos : Int))) = none := by rw [hT]; exact hno
        refine h.look (fun t ht hf => ?_) fun hf => ?_
        · rw [hno'] at hf; cases hf
        simp only [ext_tup, List.getElem?_cons_zero, List.getElem?_cons_succ, OptK_some]
        refine h.new fun c2 s3 h => ?_
        refine h.stoA (ws := [.int .i64 0, .int .i64 0, .nils, .str [], .str [], .int .i64 0]) 0 rfl rfl (by simp) fun s3 h => ?_
        -- c2, map, stars, s, c, sh
        refine Jn_of (fun k => k (.bool false) s3) ?_ fun k hk => ?_
        · simp only [AsBool_bool, Br_false]
          refine h.ld 3 rfl rfl ?_
          refine h.ldA 4 rfl (ws := [.int .i64 r.site, .int .i64 r.seq, v, .str r.key, .str r.val]) rfl rfl ?_
          rw [fill6, OptK_some]
          refine Sep.putNew (x := ⟨pos, trimR r, i⟩) (v := v) (h.ord [1]) hno' fun s4 h => ?_
          -- map, c2, stars, s, c, sh
          have hok := ok.snoc (x := ⟨pos, trimR r, i⟩) (v := v) hv hno'
          refine hq s4 ?_
          have h := Sep.snocStars (P := shT (⟨pos, trimR r, i⟩, v, cl)) (h.ord [2, 4])
          have es : T.map shT ++ [shT (⟨pos, trimR r, i⟩, v, cl)] = (T ++ [((⟨pos, trimR r, i⟩, v, cl) : Trip)]).map shT := by simp
          rw [es] at h
          have h := (h.ord [1]).toSlots hok
          -- slots, c2, s, c
          have e8 : (T ++ [((⟨pos, trimR r, i⟩ : Slot), v, cl)]).map (·.1) = (M.add ⟨pos, trimR r, i⟩).slots := by simp [SegSt.add, hT]
          rw [e8] at h
          have h := Sep.toSeg (M := M.add ⟨pos, trimR r, i⟩) (h.ord [2, 0])
          exact (h.ord [1, 1]).tail.tail
        · simp only [bin_neq, OptK_some, AsBool_bool]
          refine Br_t (by decide) ?_
          simp only [pick_f, AsBool_bool, beq_self_eq_true, Br_true]
          refine h.ld 3 rfl rfl ?_
          rw [bin_lss, OptK_some, pick_f]
          have : decide (((pos : Nat) : Int) < (M.trim : Int)) = false := by simp; omega
          rw [this]; exact hk
      · simp only [un_not, bin_neq, bin_seql, bin_bneq, OptK_some, AsBool_bool, pick_f, Bool.not_true, decide_true, beq_self_eq_true, Br_true]
        exact hk'
    · cases hs

def seg0 : SegSt := ⟨[], 0, 0⟩
/-- What a row of lines comes to. -/
def replay : SegSt → Nat → List Line → Option SegSt
  | M, _, [] => some M
  | M, i, L :: ls => (takeS M i L).bind fun M' => replay M' (i + 1) ls

theorem replay_append (M : SegSt) (i : Nat) (a b : List Line) : replay M i (a ++ b) = (replay M i a).bind fun M' => replay M' (i + a.length) b := by
  induction a generalizing M i with
  | nil => simp [replay]
  | cons L a ih =>
    simp only [List.cons_append, replay]
    cases takeS M i L with
    | none => rfl
    | some M' => simp only [Option.bind_some, ih]; congr; funext M2; congr 1; simp; omega

theorem replay_take {ls : List Line} {M M' : SegSt} {i : Nat} (h : replay M i ls = some M') (k : Nat) : ∃ M2, replay M i (ls.take k) = some M2 := by
  have := replay_append M i (ls.take k) (ls.drop k)
  rw [List.take_append_drop, h] at this
  cases h2 : replay M i (ls.take k) with
  | some M2 => exact ⟨M2, rfl⟩
  | none => rw [h2] at this; cases this

theorem sp_Open {ls : List Line} (g : Gnd w0) (h : Sep st (DiskP d D :: F)) (hl : D.lines = ls.map Line.text) (ok : ∀ L ∈ ls, L.Ok) (hr : replay seg0 0 ls = some M)
    (hq : ∀ s st', Sep st' (SegP s M d :: DiskP d D :: F) → Q (.tup [.ptr s 0, .int .i64 0]) st') : Cal w0 n_seg_Open [.ptr d 0] st Q := by
  refine ok_seg_Open ?_
  unfold vc_seg_Open
  have hc : AV.cellsOk (.ptr d 0) = some [.ptr d 0] := rfl
  rw [hc, OptK_some]
  refine h.new fun c s1 h => ?_
  refine h.ld 0 rfl rfl ?_
  refine h.psh fun s2 h => ?_
  generalize s1.hp.length = b at h ⊢
  have hfill : fillAV (fun i => [(0, 1), (1, 1), (2, 1), (3, 1)][i]?) [.nilp, .nilm, .int .i64 0, .int .i64 0] [(0, .ptr d 0), (1, .map b)] = some [.ptr d 0, .map b, .int .i64 0, .int .i64 0] := rfl
  have hc2 : AV.cellsOk (.agg [.ptr d 0, .map b, .int .i64 0, .int .i64 0]) = some [.ptr d 0, .map b, .int .i64 0, .int .i64 0] := rfl
  rw [hfill, OptK_some, hc2, OptK_some]
  refine h.new fun s s3 h => ?_
  refine h.new fun c2 s4 h => ?_
  refine h.sto 0 rfl rfl (by simp) fun s5 h => ?_
  refine h.ld 3 rfl rfl ?_
  -- c2, s, map, c, disk
  have h := Sep.toSlots (T := []) (cl := 0) ⟨by simp, by simp, by simp, by simp⟩ (Sep.swap (Sep.toEmp (h.ord [2])))
  -- slots, c2, s, c, disk
  have h := Sep.toSeg (M := seg0) (h.ord [2, 0])
  -- seg, c2, c, disk
  refine sp_Lines (h.ord [3]) fun s0 c3 v h => ?_
  -- lines, seg, c2, c
  refine (it_Lines w0 c3 d v D).run (fun k => ex fun M2 : SegSt => star (pur (replay seg0 0 (ls.take k) = some M2)) (star (SegP s M2 d) (pt c2 (.cells false [.ptr s 0])))) (fun _ => pur False) (F := F) ?_ rfl rfl ?_ ?_ (fun s h => h.ofPur.1.elim) (fun _ s h => h.ofPur.1.elim) (fun _ s h => h.ofPur.1.elim)
  · have h := (h.ord [3]).tail
    exact Sep.swap (Sep.toEx seg0 (Sep.toStar (Sep.toPur (Sep.toStar (h.ord [1, 1])) (by simp [replay]))))
  · intro k s6 F' al hal ok' hk h
    have hk : k < D.lines.length := by simpa [lineItems] using hk
    have hk2 : k < ls.length := by rw [hl] at hk; simpa using hk
    simp only [lineItems, List.getElem_mapIdx]
    obtain ⟨M2, h⟩ := h.swap.ofEx
    obtain ⟨hM2, h⟩ := h.ofStar.ofPur
    have h := h.ofStar
    -- seg, c2, lq, lines
    refine okr_seg_Open_0 ((h.ord [2]).getL.trans (congrArg some hal)) ?_
    unfold rnd_seg_Open_0
    refine h.rbeg ok' 2 rfl fun s7 h => ?_
    refine h.ld 1 rfl rfl ?_
    have et : D.lines[k] = (ls[k]).text := by simp [hl]
    rw [et]
    obtain ⟨M3, hM3⟩ := replay_take hr (k + 1)
    have hstep : takeS M2 k ls[k] = some M3 := by
      rw [← List.take_append_getElem hk2, replay_append, hM2] at hM3
      simp only [Option.bind_some, replay, Nat.zero_add, List.length_take, Nat.min_eq_left (Nat.le_of_lt hk2)] at hM3
      cases h3 : takeS M2 k ls[k] with
      | none => rw [h3] at hM3; cases hM3
      | some M4 => rw [h3] at hM3; simpa using hM3
    refine sp_take g h (ok _ (List.getElem_mem hk2)) hstep fun s8 h => ?_
    simp only [un_not, OptK_some, AsBool_bool, Bool.not_true, Br_false]
    -- seg, c2, lb, lines
    refine Sep.rnorm h ok' 2 rfl fun s9 h => .inl ⟨rfl, ?_⟩
    exact Sep.swap (Sep.toEx M3 (Sep.toStar (Sep.toPur (Sep.toStar h) hM3)))
  · intro s6 h
    obtain ⟨M2, h⟩ := h.ofEx
    obtain ⟨hM2, h⟩ := h.ofStar.ofPur
    have h := h.ofStar
    have e : (lineItems D.lines).length = ls.length := by simp [lineItems, hl]
    rw [e, List.take_length, hr] at hM2
    cases hM2
    refine h.ld 1 rfl rfl ?_
    refine hq s s6 ?_
    have h := (h.ord [2]).linesDisk
    exact ((h.ord [2]).tail).swap
end
end Go.Ab
