/- maint: New, Crash, take. -/
import Derived.Test.YtoehcgeckmoofaaGreatDoorDn
set_option linter.unusedVariables false
set_option linter.unusedSimpArgs false
namespace Go.Ab
open Go Go.RowKit Go.Proofs

def segNew (room : Nat) : SegM := (seg0, ⟨room, [], 0⟩)
def newL (stripes room : Nat) : LogM := ⟨⟨room, [], 0⟩, List.replicate 8 (segNew room), [(0, stripes)], 0, [], 0, false⟩

inductive OLine where
  | m (ms : List Span)
  | t (pos : Nat) (v : List Int)
def OLine.text : OLine → Bytes
  | .m ms => 109 :: 32 :: textM ms
  | .t pos v => 116 :: 32 :: (Lib.itoa pos ++ 32 :: textV v)
def OLine.Ok : OLine → Prop
  | .m ms => OkM ms
  | .t pos v => pos ≤ 2147483647 ∧ OkV v
def LogM.take (L : LogM) : OLine → LogM
  | .m ms => { L with m := ms }
  | .t pos v => { L with trim := pos, gone := trimV v }

def crashS (S : SegM) (a : Nat) : SegM := (S.1, ⟨S.2.room, S.2.lines.take a, a⟩)
def LogM.crash (L : LogM) (kk0 : List Nat) (ao : Nat) : LogM :=
  { L with segs := List.zipWith crashS L.segs kk0, own := ⟨L.own.room, L.own.lines.take ao, ao⟩, down := true }

section
variable {w0 : World} {st : St} {Q : Kont} {F : List Prp} {l o : Nat} {sv mv gv v : AV} {ps : List (Nat × Nat)} {L : LogM} {r : Rec} {xs : List Int}

theorem ptrs_append (a b : List (Nat × Nat)) : ptrs (a ++ b) = ptrs a ++ ptrs b := by simp [ptrs]

theorem segsL_snoc {ps : List (Nat × Nat)} {segs : List SegM} {p : Nat × Nat} {S : SegM} (h : ps.length = segs.length) : segsL (ps ++ [p]) (segs ++ [S]) = segsL ps segs ++ [segC p S] := by
  unfold segsL
  rw [List.zipWith_append h]; rfl

theorem sp_LNew {k room : Nat} (hs : Sep st F) (g : Gnd w0) (h1 : 1 ≤ k) (h2 : k ≤ 8) (h3 : 1 ≤ room) (h4 : room ≤ 1048576) (hq : ∀ l st', Sep st' (LogP l (newL k room) :: F) → Q (.tup [.ptr l 0, .int .i64 0]) st') : Cal w0 n_maint_New [.int .i64 k, .int .i64 room] st Q := by
  refine ok_maint_New ?_
  unfold vc_maint_New
  refine hs.psh fun s1 h => ?_
  generalize st.hp.length = mb at h ⊢
  have h := h.freeze.toSh (esz := 2) (cells := spans [(0, k)]) (o := 0) (n := 1) (c := 1) (e := true) (by simp [spans]) (by simp [spans]) (by omega)
  generalize hmv : AV.slice mb 0 1 1 true 2 = mv at h ⊢
  have hf : fillAV (fun i => [(0, 1), (1, 1), (2, 1), (3, 1), (4, 1), (5, 1), (6, 1)][i]?) [.nilp, .nils, .nils, .int .i64 0, .nils, .int .i64 0, .bool false] [(2, mv)] = some [.nilp, .nils, mv, .int .i64 0, .nils, .int .i64 0, .bool false] := by subst hmv; rfl
  have hc : AV.cellsOk (.agg [.nilp, .nils, mv, .int .i64 0, .nils, .int .i64 0, .bool false]) = some [.nilp, .nils, mv, .int .i64 0, .nils, .int .i64 0, .bool false] := rfl
  rw [hf, OptK_some, hc, OptK_some]
  refine h.new fun l s2 h => ?_
  refine Jn_of (fun k' => k' (.bool false) s2) ?_ fun k' hk' => ?_
  · simp only [AsBool_bool, Br_false]
    refine ⟨fun n x s => ∃ i : Nat, n = 9 - i ∧ i ≤ 9 ∧ x = [.int .i64 room, .ptr l 0, .int .i64 i] ∧
      ((i = 0 ∧ Sep s (pt l (.cells false [.nilp, .nils, mv, .int .i64 0, .nils, .int .i64 0, .bool false]) :: ShP mv 2 (spans [(0, k)]) :: F)) ∨
       (1 ≤ i ∧ ∃ (o : Nat) (sv : AV) (ps : List (Nat × Nat)), ps.length = i - 1 ∧ Sep s (pt l (.cells false [.ptr o 0, sv, mv, .int .i64 0, .nils, .int .i64 0, .bool false]) :: DiskP o ⟨room, [], 0⟩ :: SlP sv 1 (ptrs ps) :: stars (segsL ps (List.replicate (i - 1) (segNew room))) :: ShP mv 2 (spans [(0, k)]) :: F))), 9, ⟨0, rfl, by omega, rfl, .inl ⟨rfl, h⟩⟩, ?_⟩
    rintro n x s ⟨i, rfl, hi, rfl, hS⟩
    simp only [List.getD_cons_zero, List.getD_cons_succ, bin_lss, OptK_some, AsBool_bool]
    refine Br_iff.2 ⟨fun e => ?_, fun e => ?_⟩
    · have e : i < 9 := by have := of_decide_eq_true e; omega
      refine Jn_of (fun kk => ∀ s, (∃ (o : Nat) (sv : AV) (ps : List (Nat × Nat)), ps.length = i ∧ Sep s (pt l (.cells false [.ptr o 0, sv, mv, .int .i64 0, .nils, .int .i64 0, .bool false]) :: DiskP o ⟨room, [], 0⟩ :: SlP sv 1 (ptrs ps) :: stars (segsL ps (List.replicate i (segNew room))) :: ShP mv 2 (spans [(0, k)]) :: F)) → kk s) (fun s hS => ?_) fun kk hkk => ?_
      · rw [bin_inc (by omega), OptK_some]
        exact ⟨9 - (i + 1), by omega, i + 1, rfl, by omega, rfl, .inr ⟨by omega, hS⟩⟩
      · rcases hS with ⟨rfl, h⟩ | ⟨h1i, o, sv, ps, hps, h⟩
        · refine sp_New h h3 h4 fun s3 d h => ?_
          simp only [ext_tup, List.getElem?_cons_zero, List.getElem?_cons_succ, OptK_some, bin_neq, AsBool_bool]
          refine Br_f (by decide) ?_
          simp only [nilC_ptr, faddr_ptr, Nat.zero_add]
          refine h.ld 1 rfl rfl ?_
          have eb : bin .ptr .eql .nilp .nilp = some (.bool true) := rfl
          rw [eb, OptK_some, AsBool_bool, Br_true]
          refine h.sto 1 rfl rfl (by simp) fun s4 h => ?_
          refine hkk s4 ⟨d, .nils, [], rfl, ?_⟩
          have h := (h.ord [1, 0]).toEmp.nilSl (esz := 1)
          -- sl, emp, l, disk, m
          exact h.ord [2, 2, 0, 0]
        · refine sp_New h h3 h4 fun s3 d h => ?_
          simp only [ext_tup, List.getElem?_cons_zero, List.getElem?_cons_succ, OptK_some, bin_neq, AsBool_bool]
          refine Br_f (by decide) ?_
          simp only [nilC_ptr, faddr_ptr, Nat.zero_add]
          refine h.ld 1 rfl rfl ?_
          have eb : bin .ptr .eql (.ptr o 0) .nilp = some (.bool false) := rfl
          rw [eb, OptK_some, AsBool_bool, Br_false]
          refine sp_Open (ls := []) (M := seg0) g h rfl (by simp) rfl fun sg s4 h => ?_
          simp only [ext_tup, List.getElem?_cons_zero, List.getElem?_cons_succ, OptK_some]
          -- seg, disk, l, own, sl, segs, m
          refine h.ld 2 rfl rfl ?_
          have hf : fillAV (fun i => some (i * 1, 1)) [.nilp] [(0, .ptr sg 0)] = some [.ptr sg 0] := rfl
          rw [hf, OptK_some]
          refine h.psh fun s5 h => ?_
          -- lit, seg, disk, l, own, sl, segs, m
          refine Sep.append (ys := [.ptr sg 0]) (h.ord [5, 0]) (by omega) (by simp) (by omega) rfl (by simp [ptrs]; omega) (by omega) fun sv' s6 hv' h => ?_
          -- sl', lit, seg, disk, l, own, segs, m
          refine h.sto 4 rfl hv' (by simp) fun s7 h => ?_
          refine hkk s7 ⟨o, sv', ps ++ [(sg, d)], by simp; omega, ?_⟩
          have e1 : ptrs ps ++ [.ptr sg 0] = ptrs (ps ++ [(sg, d)]) := by simp [ptrs]
          rw [e1] at h
          have h := (h.ord [1]).tail
          -- sl', seg, disk, l, own, segs, m
          have h : Sep s7 (segC (sg, d) (segNew room) :: _) := Sep.toStar (h.ord [1, 1])
          -- segC, sl', l, own, segs, m
          have h := Sep.snocStars (h.ord [4, 0])
          rw [← segsL_snoc (by simp [hps])] at h
          have e2 : List.replicate (i - 1) (segNew room) ++ [segNew room] = List.replicate i (segNew room) := by
            rw [← List.replicate_succ', show i - 1 + 1 = i by omega]
          rw [e2] at h
          -- segs, sl', l, own, m
          exact h.ord [2, 2, 1, 0]
    · have e : i = 9 := by have := of_decide_eq_false e; omega
      subst e
      rcases hS with ⟨h0, _⟩ | ⟨_, o, sv, ps, hps, h⟩
      · cases h0
      · refine hq l s ?_
        refine Sep.toLog (L := newL k room) (o := o) (sv := sv) (mv := mv) (gv := .nils) (ps := ps) (by rw [hps]; rfl) ?_
        -- l, own, sl, segs, m
        exact (Sep.nilSh (esz := 1) h).ord [1, 1, 1, 1, 1, 0]
  · have e1 : (decide ((k : Int) < 1) == false) = true := by simp; omega
    have e2 : decide ((8 : Int) < k) = false := by simp; omega
    rw [e1, e2]; exact hk'

theorem sp_LCrash {kv : AV} {keep : List Int} (h : Sep st (LogP l L :: F)) (h8 : L.segs.length < 2 ^ 30) (hr : RdIn F kv keep) (hkl : keep.length < 2 ^ 30) (hkb : ∀ n ∈ keep, -9223372036854775808 ≤ n ∧ n ≤ 9223372036854775807)
    (hq : ∀ kk0 ao st', kk0.length = L.segs.length → (∀ k S a, L.segs[k]? = some S → kk0[k]? = some a → CrashAt S.2 (keep.getD k 0) a) → CrashAt L.own 0 ao → Sep st' (LogP l (L.crash kk0 ao) :: F) → Q (.tup []) st') :
    Cal w0 n_maint_Log_Crash [.ptr l 0, kv] st Q := by
  refine ok_maint_Log_Crash ?_
  unfold vc_maint_Log_Crash
  simp only [nilC_ptr, faddr_ptr, Nat.zero_add]
  obtain ⟨o, sv, ps, mv, gv, e, h⟩ := h.ofLog
  refine h.ld 0 rfl rfl ?_
  refine ((h.ord [2]).rd).len (n := ps.length) (by simp [ptrs]) (by omega) ?_
  let mid : List Nat → LogM := fun kk0 => { L with segs := List.zipWith crashS L.segs kk0 ++ L.segs.drop kk0.length }
  refine ⟨fun n x s => ∃ kk0 : List Nat, n = ps.length - kk0.length ∧ kk0.length ≤ ps.length ∧ x = [.ptr l 0, kv, sv, .int .i64 ps.length, .int .i64 kk0.length] ∧ (∀ k S a, L.segs[k]? = some S → kk0[k]? = some a → CrashAt S.2 (keep.getD k 0) a) ∧ Sep s (LogT l o sv ps mv gv (mid kk0) ++ F), _, ⟨[], rfl, by simp, rfl, by simp, by simpa [mid] using h⟩, ?_⟩
  rintro n x s ⟨kk0, rfl, hal, rfl, hcr, h⟩
  simp only [List.getD_cons_zero, List.getD_cons_succ, bin_lss, OptK_some, AsBool_bool]
  refine Br_iff.2 ⟨fun e1 => ?_, fun e1 => ?_⟩
  · have e1 : kk0.length < ps.length := by simpa using e1
    have hSl : kk0.length < L.segs.length := by omega
    have hml : (mid kk0).segs.length = L.segs.length := by simp [mid]; omega
    obtain ⟨q, hq'⟩ : ∃ q, ps[kk0.length]? = some q := ⟨ps[kk0.length]'(by omega), List.getElem?_eq_getElem (by omega)⟩
    obtain ⟨S, hS⟩ : ∃ S, L.segs[kk0.length]? = some S := ⟨L.segs[kk0.length]'(by omega), List.getElem?_eq_getElem (by omega)⟩
    have hzl : (List.zipWith crashS L.segs kk0).length = kk0.length := by simp; omega
    have hmS : (mid kk0).segs[kk0.length]? = some S := by
      simp only [mid]
      rw [List.getElem?_append_right (by omega), hzl, Nat.sub_self, List.getElem?_drop, Nat.add_zero]; exact hS
    have hset : ∀ a, (mid kk0).segs.set kk0.length (crashS S a) = (mid (kk0 ++ [a])).segs := by
      intro a
      apply List.ext_getElem?
      intro i
      simp only [mid, List.getElem?_set, List.getElem?_append, List.getElem?_zipWith, List.getElem?_drop, List.length_append, List.length_zipWith, List.length_cons, List.length_nil, List.length_drop]
      rw [Nat.min_eq_right (by omega), Nat.min_eq_right (by omega)]
      by_cases h1 : i < kk0.length
      · rw [if_neg (by omega), if_pos h1, if_pos (by omega)]
        simp [List.getElem?_append, h1]
      · by_cases h2 : i = kk0.length
        · subst h2
          rw [if_pos rfl, if_pos (by omega), if_pos (by omega), hS]
          simp
        · rw [if_neg (by omega), if_neg h1, if_neg (by omega)]
          congr 1; omega
    refine Jn_of (fun kk => ∀ a s, CrashAt S.2 (keep.getD kk0.length 0) a → Sep s (LogT l o sv ps mv gv (mid (kk0 ++ [a])) ++ F) → kk s) (fun a s ha h => ?_) fun kk hkk => ?_
    · rw [bin_inc (by omega), OptK_some]
      refine ⟨ps.length - (kk0.length + 1), by omega, kk0 ++ [a], by simp, by simp; omega, by simp, fun k S' a' hS' ha' => ?_, h⟩
      rcases Nat.lt_or_ge k kk0.length with h' | h'
      · exact hcr k S' a' hS' (by rwa [List.getElem?_append_left h'] at ha')
      · have : k = kk0.length := by
          have := (List.getElem?_eq_some_iff.1 ha').1; simp at this; omega
        subst this
        rw [hS] at hS'; cases hS'
        have : a' = a := by simpa using ha'.symm
        subst this; exact ha
    · refine ((h.ord [2]).rd).at1 (x := .ptr q.1 0) (by simp [ptrs, hq']) ?_
      have hrk : RdIn (LogT l o sv ps mv gv (mid kk0) ++ F) kv keep := fun s hs => hr s (hs.tail.tail.tail.tail.tail.tail)
      refine (hrk s h).len (n := keep.length) (by simp [ints]) (by omega) ?_
      rw [bin_lss, OptK_some]
      refine Jn_of (fun k5 => ∀ s, Sep s (LogT l o sv ps mv gv (mid kk0) ++ F) → k5 (.int .i64 (keep.getD kk0.length 0)) s) (fun s h => ?_) fun k5 hk5 => ?_
      · have h := ((h.ord [3]).focus (segsL_get hq' hmS)).ofStar
        refine sp_SDisk h ?_
        have hb : -9223372036854775808 ≤ keep.getD kk0.length 0 ∧ keep.getD kk0.length 0 ≤ 9223372036854775807 := by
          rw [List.getD_eq_getElem?_getD]
          cases hg : keep[kk0.length]? with
          | none => simp
          | some y => exact hkb y (List.mem_of_getElem? hg)
        refine sp_Crash h.swap hb.1 hb.2 fun a s2 ha h => ?_
        have h := Sep.refocus hq' hmS (h.ord [1, 0])
        refine hkk a s2 ha ?_
        have e3 : (mid kk0).segs.set kk0.length (S.1, ⟨S.2.room, S.2.lines.take a, a⟩) = (mid (kk0 ++ [a])).segs := hset a
        rw [e3] at h
        exact h.ord [1, 1, 1, 0]
      · simp only [AsBool_bool]
        refine Br_iff.2 ⟨fun e4 => ?_, fun e4 => ?_⟩
        · have e4 : kk0.length < keep.length := by simpa using e4
          have hx : (ints keep)[kk0.length]? = some (.int .i64 (keep.getD kk0.length 0)) := by simp [ints, e4]
          exact (hrk s h).at1 hx (hk5 s h)
        · have e4 : ¬ kk0.length < keep.length := by simpa using e4
          have := hk5 s h
          rw [List.getD_eq_getElem?_getD, List.getElem?_eq_none (by omega)] at this
          exact this
  · have e1 : kk0.length = ps.length := by
      have : ¬ kk0.length < ps.length := by simpa using e1
      omega
    simp only [nilC_ptr, faddr_ptr, Nat.zero_add]
    refine h.ld 0 rfl rfl ?_
    refine sp_Crash (h.ord [1]) (by omega) (by omega) fun ao s2 hao h => ?_
    refine h.sto 1 rfl rfl (by simp) fun s3 h => ?_
    refine hq kk0 ao s3 (by omega) hcr hao ?_
    have hm : (mid kk0).segs = List.zipWith crashS L.segs kk0 := by
      simp only [mid]; rw [List.drop_eq_nil_of_le (by omega), List.append_nil]
    refine Sep.toLog (L := L.crash kk0 ao) (o := o) (sv := sv) (mv := mv) (gv := gv) (ps := ps) (by simp [LogM.crash]; omega) ?_
    have h := h.swap
    have e4 : segsL ps (mid kk0).segs = segsL ps (L.crash kk0 ao).segs := by rw [hm]; rfl
    have h : Sep s3 (_ :: _ :: _ :: stars (segsL ps (mid kk0).segs) :: _) := h
    rw [e4] at h
    exact h

theorem textM_chars (ms : List Span) : True := trivial

theorem sp_LTake {L : LogM} {ol : OLine} (g : Gnd w0) (h : Sep st (LogP l L :: F)) (ok : ol.Ok) (hq : ∀ st', Sep st' (LogP l (L.take ol) :: F) → Q (.bool true) st') :
    Cal w0 n_maint_Log_take [.ptr l 0, .str ol.text] st Q := by
  refine ok_maint_Log_take ?_
  unfold vc_maint_Log_take
  simp only [nilC_ptr, faddr_ptr, Nat.zero_add]
  obtain ⟨o, sv, ps, mv, gv, e, h⟩ := h.ofLog
  cases ol with
  | m ms =>
    have ok : OkM ms := ok
    have hl := textM_len ok
    have hml := ok.len
    refine c_Cut g (by simp [OLine.text]; omega) ?_
    rw [OLine.text, cut_kind 109 _ (by decide)]
    simp only [ext_tup, List.getElem?_cons_zero, List.getElem?_cons_succ, OptK_some, bin_seql, AsBool_bool]
    refine Br_t (by decide) ?_
    refine sp_MParse g h ok fun v s hv h => ?_
    simp only [ext_tup, List.getElem?_cons_zero, List.getElem?_cons_succ, OptK_some, bin_eql, AsBool_bool]
    refine Br_t (by decide) ?_
    refine h.sto 1 rfl hv (by simp) fun s h => ?_
    refine hq s ?_
    have h := h.slSh
    -- sh', l, own, sl, segs, m, g
    have h := (h.ord [5]).tail
    exact Sep.toLog (L := { L with m := ms }) (mv := v) e (h.ord [1, 1, 1, 1, 0, 0])
  | t pos v =>
    obtain ⟨hp, okv⟩ := ok
    have hl := itoa_len10 pos hp
    have hl2 := textV_len okv.fitV
    have hvl := okv.len
    refine c_Cut g (by simp [OLine.text]; omega) ?_
    rw [OLine.text, cut_kind 116 _ (by decide)]
    simp only [ext_tup, List.getElem?_cons_zero, List.getElem?_cons_succ, OptK_some, bin_seql, AsBool_bool]
    refine Br_f (by decide) ?_
    refine c_Cut g (by simp; omega) ?_
    rw [cut_one (no32 pos)]
    simp only [ext_tup, List.getElem?_cons_zero, List.getElem?_cons_succ, OptK_some]
    refine sp_Number (most := 2147483647) hp (by omega) ?_
    simp only [ext_tup, List.getElem?_cons_zero, List.getElem?_cons_succ, OptK_some]
    refine sp_Parse g h okv fun w s hw h => ?_
    simp only [ext_tup, List.getElem?_cons_zero, List.getElem?_cons_succ, OptK_some]
    refine Jn_of (fun k => k (.bool false) s) ?_ fun k hk => ?_
    · simp only [AsBool_bool, Br_false]
      refine h.sto 1 rfl rfl (by simp) fun s h => ?_
      refine h.sto 1 rfl hw (by simp) fun s h => ?_
      refine hq s ?_
      have h := h.slSh
      have h := (h.ord [6]).tail
      exact Sep.toLog (L := { L with trim := pos, gone := trimV v }) (gv := w) e (h.ord [1, 1, 1, 1, 1, 0])
    · simp only [bin_sneq, bin_neq, OptK_some, AsBool_bool, pick_f]
      refine Br_t (by decide) ?_
      refine Br_t (by decide) ?_
      exact hk
end
end Go.Ab
