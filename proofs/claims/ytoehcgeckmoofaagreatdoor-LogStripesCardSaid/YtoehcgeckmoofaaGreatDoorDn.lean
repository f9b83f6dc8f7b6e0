/- maint: Get, Head, with, Vec, Trimmed, Sync, All. -/
import Derived.Test.YtoehcgeckmoofaaGreatDoorDm
set_option linter.unusedVariables false
set_option linter.unusedSimpArgs false
namespace Go.Ab
open Go Go.RowKit Go.Proofs

def LogM.segAt (L : LogM) (p : Nat) : Option SegM := L.segs[stripeOf L.m p]?
def LogM.at_ (L : LogM) (p : Nat) : Option Slot := match L.segAt p with | some S => if p < S.1.trim then none else S.1.find p | none => none
def LogM.getCode (L : LogM) (pos : Int) : Int :=
  if L.down then 11 else if pos < 0 then 1 else if pos < L.trim then 8 else if L.next ≤ pos then 9
  else match L.segAt pos.toNat with | some S => if pos < S.1.trim then 8 else if (S.1.find pos).isSome then 0 else 9 | none => 1
def LogM.lastsAt (L : LogM) (p : Nat) : Bool := match L.segAt p with | some S => (match S.1.find p with | some x => decide (x.line < S.2.lasts) | none => false) | none => false
def LogM.headFrom (L : LogM) : Nat → Nat → Nat
  | 0, p => p
  | n + 1, p => if L.lastsAt p then L.headFrom n (p + 1) else p
def LogM.head (L : LogM) : Nat := if L.down then 0 else L.headFrom (L.next - L.trim) L.trim
def LogM.siteSeq (L : LogM) (p : Nat) : Int × Int := match L.at_ p with | some x => (x.r.site, x.r.seq) | none => (0, 0)
def LogM.withFrom (L : LogM) : Nat → Nat → List Int → List Int
  | 0, _, v => v
  | n + 1, p, v => L.withFrom n (p + 1) (withV v (L.siteSeq p).1.toNat (L.siteSeq p).2)
def LogM.withL (L : LogM) (v : List Int) (a b : Nat) : List Int := L.withFrom (b - a) a v

theorem withV_len (xs : List Int) (i : Nat) (n : Int) : (withV xs i n).length = max xs.length (i + 1) := by
  simp [withV]; omega

section
variable {w0 : World} {st : St} {Q : Kont} {F : List Prp} {l o : Nat} {sv mv gv v : AV} {ps : List (Nat × Nat)} {L : LogM} {r : Rec} {xs : List Int}

/-- The segment of a position: its Get. -/
theorem sp_segGet {p : Nat} {q : Nat × Nat} {S : SegM} (h : Sep st (LogT l o sv ps mv gv L ++ F)) (hq : ps[stripeOf L.m p]? = some q) (hS : L.segs[stripeOf L.m p]? = some S)
    (h8 : p < S.1.trim → ∀ st', Sep st' (LogT l o sv ps mv gv L ++ F) → Q (.tup [zeroRec, .int .i64 8]) st')
    (h9 : ¬ p < S.1.trim → S.1.find p = none → ∀ st', Sep st' (LogT l o sv ps mv gv L ++ F) → Q (.tup [zeroRec, .int .i64 9]) st')
    (h0 : ¬ p < S.1.trim → ∀ x v, S.1.find p = some x → v.one = true → ∀ st', Sep st' (LogT l o sv ps mv gv L ++ ShP v 1 (ints x.r.dep) :: F) → Q (.tup [recAV v x.r, .int .i64 0]) st') :
    Cal w0 n_seg_Seg_Get [.ptr q.1 0, .int .i64 p] st Q := by
  have h := ((h.ord [3]).focus (segsL_get hq hS)).ofStar
  -- seg, disk, rest, l, own, sl, m, g
  refine sp_SGet h (fun e s h => ?_) (fun e e2 s h => ?_) (fun e x v hx hv s h => ?_)
  · have h := Sep.refocus0 hq hS h
    exact h8 (by omega) s (h.ord [1, 1, 1, 0])
  · have h := Sep.refocus0 hq hS h
    exact h9 (by omega) e2 s (h.ord [1, 1, 1, 0])
  · have h := Sep.refocus0 hq hS (h.ord [1, 1, 1])
    -- segs, sh, l, own, sl, m, g
    exact h0 (by omega) x v hx hv s (h.ord [2, 2, 2, 0, 1, 1, 0])

theorem sp_LGet {pos : Int} (h : Sep st (LogP l L :: F)) (wf : L.WF)
    (he : ∀ e, L.getCode pos = e → e ≠ 0 → ∀ st', Sep st' (LogP l L :: F) → Q (.tup [zeroRec, .int .i64 e]) st')
    (h0 : L.getCode pos = 0 → ∀ x v, L.at_ pos.toNat = some x → v.one = true → ∀ st', Sep st' (ShP v 1 (ints x.r.dep) :: LogP l L :: F) → Q (.tup [recAV v x.r, .int .i64 0]) st') :
    Cal w0 n_maint_Log_Get [.ptr l 0, .int .i64 pos] st Q := by
  refine ok_maint_Log_Get ?_
  unfold vc_maint_Log_Get
  simp only [nilC_ptr, faddr_ptr, Nat.zero_add]
  refine h.new fun c s1 h => ?_
  obtain ⟨o, sv, ps, mv, gv, e, h⟩ := h.swap.ofLog
  have hnx := wf.next
  have fail : ∀ (n : Int) s', n ≠ 0 → L.getCode pos = n → Sep s' (LogT l o sv ps mv gv L ++ pt c (.cells false [.int .i64 0, .int .i64 0, .nils, .str [], .str []]) :: F) →
      Sto s' (.ptr c 0) (.agg [.int .i64 0, .int .i64 0, .nils, .str [], .str []]) 5 fun v9 st8 => Ld st8 (.ptr c 0) true 5 fun v10 _ => Q (.tup [v10, .int .i64 n]) st8 := by
    intro n s' hn hc h
    refine h.stoA (ws := [.int .i64 0, .int .i64 0, .nils, .str [], .str []]) 6 rfl rfl (by simp) fun s2 h => ?_
    refine h.ldA 6 rfl (ws := [.int .i64 0, .int .i64 0, .nils, .str [], .str []]) rfl rfl ?_
    refine he n hc hn s2 ?_
    exact (Sep.toLog (F := pt c _ :: F) e h).swap.tail
  refine h.ld 0 rfl rfl ?_
  simp only [AsBool_bool]
  refine Br_iff.2 ⟨fun e1 => fail 11 s1 (by decide) (by rw [LogM.getCode, if_pos e1]) h, fun e1 => ?_⟩
  have e1' : ¬ L.down = true := by rw [e1]; simp
  refine Br_iff.2 ⟨fun e2 => fail 1 s1 (by decide) (by rw [LogM.getCode, if_neg e1', if_pos (of_decide_eq_true e2)]) h, fun e2 => ?_⟩
  have e2 := of_decide_eq_false e2
  refine h.ld 0 rfl rfl ?_
  simp only [bin_lss, OptK_some, AsBool_bool]
  refine Br_iff.2 ⟨fun e3 => fail 8 s1 (by decide) (by rw [LogM.getCode, if_neg e1', if_neg e2, if_pos (of_decide_eq_true e3)]) h, fun e3 => ?_⟩
  have e3 := of_decide_eq_false e3
  refine h.ld 0 rfl rfl ?_
  simp only [bin_geq, OptK_some, AsBool_bool]
  refine Br_iff.2 ⟨fun e4 => fail 9 s1 (by decide) (by rw [LogM.getCode, if_neg e1', if_neg e2, if_neg e3, if_pos (of_decide_eq_true e4)]) h, fun e4 => ?_⟩
  have e4 := of_decide_eq_false e4
  obtain ⟨p, rfl⟩ : ∃ p : Nat, pos = p := ⟨pos.toNat, by omega⟩
  refine sp_seg h wf e (by omega) fun q S hq hS s2 h => ?_
  simp only [ext_tup, List.getElem?_cons_zero, List.getElem?_cons_succ, OptK_some]
  have hc : L.getCode (p : Int) = if (p : Int) < S.1.trim then 8 else if (S.1.find (p : Int)).isSome then 0 else 9 := by
    rw [LogM.getCode, if_neg e1', if_neg e2, if_neg e3, if_neg e4]
    have : L.segAt ((p : Nat) : Int).toNat = some S := hS
    rw [this]
  refine sp_segGet h hq hS (fun e5 s3 h => ?_) (fun e5 e6 s3 h => ?_) (fun e5 x v hx hv s3 h => ?_)
  · simp only [ext_tup, List.getElem?_cons_zero, List.getElem?_cons_succ, OptK_some]
    exact fail 8 s3 (by decide) (by rw [hc, if_pos (by omega)]) h
  · simp only [ext_tup, List.getElem?_cons_zero, List.getElem?_cons_succ, OptK_some]
    exact fail 9 s3 (by decide) (by rw [hc, if_neg (by omega), e6]; rfl) h
  · simp only [ext_tup, List.getElem?_cons_zero, List.getElem?_cons_succ, OptK_some]
    -- l, own, sl, segs, m, g, sh, c
    refine h.stoA (ws := [.int .i64 x.r.site, .int .i64 x.r.seq, v, .str x.r.key, .str x.r.val]) 7 rfl (one5 hv) (by simp) fun s4 h => ?_
    refine h.ldA 7 rfl (ws := [.int .i64 x.r.site, .int .i64 x.r.seq, v, .str x.r.key, .str x.r.val]) rfl rfl ?_
    have hat : L.at_ ((p : Nat) : Int).toNat = some x := by
      have h1 : L.segAt p = some S := hS
      rw [show ((p : Nat) : Int).toNat = p by simp, LogM.at_, h1]; simp only; rw [if_neg e5]; exact hx
    refine h0 (by rw [hc, if_neg (by omega), hx]; rfl) x v hat hv s4 ?_
    exact (Sep.toLog (F := _ :: pt c _ :: F) e h).ord [1, 0, 0] |> fun h => (h.ord [2]).tail

theorem sp_segLasts {p : Nat} {q : Nat × Nat} {S : SegM} (h : Sep st (LogT l o sv ps mv gv L ++ F)) (hq : ps[stripeOf L.m p]? = some q) (hS : L.segs[stripeOf L.m p]? = some S)
    (hk : ∀ st', Sep st' (LogT l o sv ps mv gv L ++ F) → Q (.bool (L.lastsAt p)) st') : Cal w0 n_seg_Seg_Lasts [.ptr q.1 0, .int .i64 p] st Q := by
  have h := ((h.ord [3]).focus (segsL_get hq hS)).ofStar
  refine sp_SLasts h fun s h => ?_
  have h := Sep.refocus0 hq hS h
  have e : L.lastsAt p = (match S.1.find p with | some x => decide (x.line < S.2.lasts) | none => false) := by
    have h1 : L.segAt p = some S := hS
    rw [LogM.lastsAt, h1]
  have := hk s (h.ord [1, 1, 1, 0])
  rw [e] at this
  exact this

theorem sp_HeadT (h : Sep st (LogT l o sv ps mv gv L ++ F)) (wf : L.WF) (e : ps.length = L.segs.length) (hk : ∀ st', Sep st' (LogT l o sv ps mv gv L ++ F) → Q (.int .i64 L.head) st') : Cal w0 n_maint_Log_Head [.ptr l 0] st Q := by
  refine ok_maint_Log_Head ?_
  unfold vc_maint_Log_Head
  simp only [nilC_ptr, faddr_ptr, Nat.zero_add]
  have hnx := wf.next
  have htr := wf.trim
  refine h.ld 0 rfl rfl ?_
  simp only [AsBool_bool]
  refine Br_iff.2 ⟨fun e1 => ?_, fun e1 => ?_⟩
  · have := hk st h
    rw [LogM.head, if_pos e1] at this; exact this
  have e1' : ¬ L.down = true := by rw [e1]; simp
  refine h.ld 0 rfl rfl ?_
  refine ⟨fun n x s => ∃ p : Nat, n = L.next - p ∧ p ≤ L.next ∧ x = [.ptr l 0, .int .i64 p] ∧ L.headFrom (L.next - p) p = L.head ∧ Sep s (LogT l o sv ps mv gv L ++ F), _, ⟨L.trim, rfl, htr, rfl, by rw [LogM.head, if_neg e1'], h⟩, ?_⟩
  rintro n x s ⟨p, rfl, hp, rfl, hh, h⟩
  simp only [List.getD_cons_zero, List.getD_cons_succ, nilC_ptr, faddr_ptr, Nat.zero_add]
  refine h.ld 0 rfl rfl ?_
  simp only [bin_lss, OptK_some, AsBool_bool]
  refine Br_iff.2 ⟨fun e2 => ?_, fun e2 => ?_⟩
  · have e2 : p < L.next := by simpa using e2
    refine sp_seg h wf e (by omega) fun q S hq hS s2 h => ?_
    simp only [ext_tup, List.getElem?_cons_zero, List.getElem?_cons_succ, OptK_some]
    refine sp_segLasts h hq hS fun s3 h => ?_
    simp only [un_not, OptK_some, AsBool_bool]
    have hs : L.next - p = (L.next - (p + 1)) + 1 := by omega
    rw [hs, LogM.headFrom] at hh
    refine Br_iff.2 ⟨fun e3 => ?_, fun e3 => ?_⟩
    · have e3 : L.lastsAt p = false := by simpa using e3
      rw [e3] at hh
      have := hk s3 h
      rw [← hh] at this; exact this
    · have e3 : L.lastsAt p = true := by simpa using e3
      rw [e3] at hh
      rw [bin_inc (by omega), OptK_some]
      exact ⟨L.next - (p + 1), by omega, p + 1, rfl, by omega, rfl, hh, h⟩
  · have e2 : p = L.next := by have : ¬ p < L.next := by simpa using e2
                               omega
    subst e2
    refine h.ld 0 rfl rfl ?_
    rw [Nat.sub_self, LogM.headFrom] at hh
    have := hk s h
    rw [← hh] at this; exact this

theorem sp_LHead (h : Sep st (LogP l L :: F)) (wf : L.WF) (hk : ∀ st', Sep st' (LogP l L :: F) → Q (.int .i64 L.head) st') : Cal w0 n_maint_Log_Head [.ptr l 0] st Q := by
  obtain ⟨o, sv, ps, mv, gv, e, h⟩ := h.ofLog
  exact sp_HeadT h wf e fun s h => hk s (h.toLog e)

theorem head_le (L : LogM) (wf : L.WF) : L.head ≤ L.next := by
  unfold LogM.head
  split
  · omega
  · have key : ∀ n p, L.headFrom n p ≤ p + n := fun n => by
      induction n with
      | zero => intro p; exact Nat.le_refl _
      | succ n ih =>
        intro p; rw [LogM.headFrom]; split
        · have := ih (p + 1); omega
        · omega
    have := key (L.next - L.trim) L.trim
    have := wf.trim; omega

theorem siteSeq_ok (wf : L.WF) (p : Nat) : 0 ≤ (L.siteSeq p).1 ∧ (L.siteSeq p).1 < 8 := by
  unfold LogM.siteSeq LogM.at_
  cases hS : L.segAt p with
  | none => simp
  | some S =>
    simp only
    by_cases ht : p < S.1.trim
    · rw [if_pos ht]; simp
    · rw [if_neg ht]
      cases hx : S.1.find p with
      | none => simp
      | some x =>
        have := (wf.ok S (List.mem_of_getElem? hS)).slot x (List.mem_of_find?_eq_some hx)
        exact ⟨this.1, this.2.1⟩

theorem sp_with {a b : Nat} (h : Sep st (LogT l o sv ps mv gv L ++ ShP v 1 (ints xs) :: F)) (wf : L.WF) (e : ps.length = L.segs.length) (hx : xs.length ≤ 64) (hb : b ≤ 2147483648)
    (hk : ∀ w st', w.one = true → Sep st' (LogT l o sv ps mv gv L ++ ShP w 1 (ints (L.withL xs a b)) :: F) → Q w st') : Cal w0 n_maint_Log_with [.ptr l 0, v, .int .i64 a, .int .i64 b] st Q := by
  refine ok_maint_Log_with ?_
  unfold vc_maint_Log_with
  have hv := ((h.ord [6]).rdS).one
  refine ⟨fun n x s => ∃ (p : Nat) (w : AV) (ys : List Int), n = b - p ∧ x = [.ptr l 0, w, .int .i64 b, .int .i64 p] ∧ w.one = true ∧ ys.length ≤ 64 ∧ L.withFrom (b - p) p ys = L.withL xs a b ∧ Sep s (LogT l o sv ps mv gv L ++ ShP w 1 (ints ys) :: F), _, ⟨a, v, xs, rfl, rfl, hv, hx, rfl, h⟩, ?_⟩
  rintro n x s ⟨p, w, ys, rfl, rfl, hw, hys, hh, h⟩
  simp only [List.getD_cons_zero, List.getD_cons_succ, bin_lss, OptK_some, AsBool_bool]
  refine Br_iff.2 ⟨fun e2 => ?_, fun e2 => ?_⟩
  · have e2 : p < b := by simpa using e2
    have hs : b - p = (b - (p + 1)) + 1 := by omega
    rw [hs, LogM.withFrom] at hh
    have hso := siteSeq_ok wf p
    refine sp_seg h wf e (by omega) fun q S hq hS s2 h => ?_
    simp only [ext_tup, List.getElem?_cons_zero, List.getElem?_cons_succ, OptK_some]
    have go : ∀ (u : AV) (x y : Int) (k t : Bytes) (F' : List Prp) s3 (K : Kont), u.one = true → (L.siteSeq p) = (x, y) → Sep s3 (LogT l o sv ps mv gv L ++ ShP w 1 (ints ys) :: F) →
        (∀ w' s4, w'.one = true → Sep s4 (LogT l o sv ps mv gv L ++ ShP w' 1 (ints (withV ys (L.siteSeq p).1.toNat (L.siteSeq p).2)) :: F) → K w' s4) →
        New s3 [.int .i64 0, .int .i64 0, .nils, .str [], .str []] fun v17 st18 => Sto st18 v17 (.agg [.int .i64 x, .int .i64 y, u, .str k, .str t]) 5 fun v20 st19 => Faddr v17 0 fun v21 => Ld st19 v21 false 1 fun v22 st23 => Faddr v17 1 fun v24 => Ld st23 v24 false 1 fun v25 st26 => Cal w0 n_vec_With [w, v22, v25] st26 K := by
      intro u x y k t F' s3 K hu hxy h hK
      refine h.new fun c s4 h => ?_
      refine h.stoA (ws := [.int .i64 x, .int .i64 y, u, .str k, .str t]) 0 rfl (one5 hu) (by simp) fun s4 h => ?_
      simp only [faddr_ptr, Nat.zero_add]
      refine h.ld 0 rfl rfl ?_
      refine h.ld 0 rfl rfl ?_
      rw [hxy] at hso
      obtain ⟨i, hi⟩ : ∃ i : Nat, x = i := ⟨x.toNat, by omega⟩
      subst hi
      refine sp_With (xs := ys) h (fun s hs => (hs.ord [7]).rdS) (by omega) (by omega) fun w' s5 hw' h => ?_
      refine hK w' s5 hw' ?_
      rw [hxy]
      -- sl', c, l, own, sl, segs, m, g, sh
      have h := h.slSh
      exact (h.ord [2, 2, 2, 2, 2, 2, 0]) |> fun h => ((h.ord [7, 7]).tail.tail)
    have fin : ∀ w' s4, w'.one = true → Sep s4 (LogT l o sv ps mv gv L ++ ShP w' 1 (ints (withV ys (L.siteSeq p).1.toNat (L.siteSeq p).2)) :: F) →
        OptK (bin .int .add (.int .i64 p) (.int .i64 1)) fun v29 => ∃ m5, m5 < b - p ∧ ∃ (p_1 : Nat) (w_1 : AV) (ys_1 : List Int), m5 = b - p_1 ∧ [AV.ptr l 0, w', .int .i64 b, v29] = [AV.ptr l 0, w_1, .int .i64 b, .int .i64 p_1] ∧ w_1.one = true ∧ ys_1.length ≤ 64 ∧ L.withFrom (b - p_1) p_1 ys_1 = L.withL xs a b ∧ Sep s4 (LogT l o sv ps mv gv L ++ ShP w_1 1 (ints ys_1) :: F) := by
      intro w' s4 hw' h
      rw [bin_inc (by omega), OptK_some]
      exact ⟨b - (p + 1), by omega, p + 1, w', _, rfl, rfl, hw', by rw [withV_len]; omega, hh, h⟩
    have hat : ∀ z, (if p < S.1.trim then none else S.1.find (p : Int)) = z → L.at_ p = z := fun z hz => by
      have h1 : L.segAt p = some S := hS
      rw [LogM.at_, h1]; exact hz
    refine sp_segGet h hq hS (fun e5 s3 h => ?_) (fun e5 e6 s3 h => ?_) (fun e5 x u hx hu s3 h => ?_)
    · simp only [ext_tup, List.getElem?_cons_zero, List.getElem?_cons_succ, OptK_some]
      refine go .nils 0 0 [] [] F s3 _ rfl (by rw [LogM.siteSeq, hat none (by rw [if_pos e5])]) h fun w' s4 hw' h => fin w' s4 hw' h
    · simp only [ext_tup, List.getElem?_cons_zero, List.getElem?_cons_succ, OptK_some]
      refine go .nils 0 0 [] [] F s3 _ rfl (by rw [LogM.siteSeq, hat none (by rw [if_neg e5]; exact e6)]) h fun w' s4 hw' h => fin w' s4 hw' h
    · simp only [ext_tup, List.getElem?_cons_zero, List.getElem?_cons_succ, OptK_some]
      refine go u x.r.site x.r.seq x.r.key x.r.val F s3 _ hu (by rw [LogM.siteSeq, hat (some x) (by rw [if_neg e5]; exact hx)]) ((h.ord [6]).tail) fun w' s4 hw' h => fin w' s4 hw' h
  · have e2 : ¬ p < b := by simpa using e2
    rw [show b - p = 0 by omega, LogM.withFrom] at hh
    subst hh
    exact hk w s hw h

def LogM.vec (L : LogM) : List Int := if L.down then [] else L.withL L.gone L.trim L.head
theorem sp_LVec (h : Sep st (LogP l L :: F)) (wf : L.WF) (hk : ∀ w st', w.one = true → Sep st' (LogP l L :: ShP w 1 (ints L.vec) :: F) → Q w st') : Cal w0 n_maint_Log_Vec [.ptr l 0] st Q := by
  refine ok_maint_Log_Vec ?_
  unfold vc_maint_Log_Vec
  simp only [nilC_ptr, faddr_ptr, Nat.zero_add]
  obtain ⟨o, sv, ps, mv, gv, e, h⟩ := h.ofLog
  refine h.ld 0 rfl rfl ?_
  simp only [AsBool_bool]
  refine Br_iff.2 ⟨fun e1 => ?_, fun e1 => ?_⟩
  · refine hk .nils st rfl ?_
    rw [LogM.vec, if_pos e1]
    exact ((h.toLog e).nilSh).swap
  have e1' : ¬ L.down = true := by rw [e1]; simp
  refine h.ld 0 rfl rfl ?_
  refine h.ld 0 rfl rfl ?_
  refine sp_HeadT h wf e fun s h => ?_
  refine ⟨h.ld 0 rfl rfl rfl, h.ld 0 rfl rfl rfl, ?_⟩
  have h := ((h.ord [5]).dup (pers_ShP _ _ _)).ord [2, 2, 2, 2, 2, 0]
  have hle := head_le L wf
  have hnx := wf.next
  refine sp_with h wf e wf.gone (by omega) fun w s hw h => ?_
  refine hk w s hw ?_
  rw [LogM.vec, if_neg e1']
  exact h.toLog e

theorem sp_LTrimmed (h : Sep st (LogP l L :: F)) (wf : L.WF) (hk : ∀ w st', w.one = true → Sep st' (LogP l L :: SlP w 1 (ints (if L.down then [] else L.gone)) :: F) → Q (.tup [.int .i64 (if L.down then 0 else L.trim : Nat), w]) st') : Cal w0 n_maint_Log_Trimmed [.ptr l 0] st Q := by
  refine ok_maint_Log_Trimmed ?_
  unfold vc_maint_Log_Trimmed
  simp only [nilC_ptr, faddr_ptr, Nat.zero_add]
  obtain ⟨o, sv, ps, mv, gv, e, h⟩ := h.ofLog
  refine h.ld 0 rfl rfl ?_
  simp only [AsBool_bool]
  refine Br_iff.2 ⟨fun e1 => ?_, fun e1 => ?_⟩
  · rw [e1] at hk
    exact hk .nils st rfl ((h.toLog e).nilSl.swap)
  rw [e1] at hk
  refine h.ld 0 rfl rfl ?_
  refine h.ld 0 rfl rfl ?_
  have hg := wf.gone
  refine sp_CloneV h (fun s hs => (hs.ord [5]).rdS) (by omega) fun w s hw h => ?_
  refine ⟨h.ld 1 rfl rfl rfl, ?_⟩
  exact hk w s hw (((h.ord [1, 1, 1, 1, 1, 1, 0]) |> fun h => Sep.toLog (F := _ :: F) e h))

def LogM.sync (L : LogM) (k : Nat) : LogM := match L.segs[k]? with
  | some S => { L with segs := L.segs.set k (S.1, { S.2 with lasts := S.2.lines.length }) }
  | none => L
def LogM.waits (L : LogM) (k : Nat) : Bool := match L.segs[k]? with | some S => decide (S.2.lasts < S.2.lines.length) | none => false

theorem sp_LSync {k : Nat} (h : Sep st (LogP l L :: F)) (hd : L.down = false) (hk8 : k < L.segs.length) (h8 : L.segs.length < 2 ^ 30) (hk : ∀ st', Sep st' (LogP l (L.sync k) :: F) → Q (.bool (L.waits k)) st') : Cal w0 n_maint_Log_Sync [.ptr l 0, .int .i64 k] st Q := by
  refine ok_maint_Log_Sync ?_
  unfold vc_maint_Log_Sync
  simp only [nilC_ptr, faddr_ptr, Nat.zero_add]
  obtain ⟨o, sv, ps, mv, gv, e, h⟩ := h.ofLog
  obtain ⟨q, hq⟩ : ∃ q, ps[k]? = some q := ⟨ps[k]'(by omega), List.getElem?_eq_getElem (by omega)⟩
  obtain ⟨S, hS⟩ : ∃ S, L.segs[k]? = some S := ⟨L.segs[k]'(by omega), List.getElem?_eq_getElem (by omega)⟩
  refine Jn_of (fun k' => k' (.bool false) st) ?_ fun k' hk' => ?_
  · simp only [AsBool_bool, Br_false]
    refine h.ld 0 rfl rfl ?_
    refine ((h.ord [2]).rd).at1 (x := .ptr q.1 0) (by simp [ptrs, hq]) ?_
    have h := ((h.ord [3]).focus (segsL_get hq hS)).ofStar
    have hw := h.swap.ofDisk.1
    have hla := hw.lasts
    -- seg, disk, rest, l, own, sl, m, g
    refine sp_SDisk h ?_
    refine sp_Waits h.swap ?_
    simp only [bin_gtr, OptK_some]
    refine sp_Sync h.swap fun s h => ?_
    have h := Sep.refocus hq hS (h.ord [1, 0])
    have hw' : L.waits k = decide ((0 : Int) < ((S.2.lines.length - S.2.lasts : Nat) : Int)) := by
      rw [LogM.waits, hS]; simp only; rw [Bool.eq_iff_iff]; simp; omega
    rw [← hw']
    refine hk s ?_
    have hs : L.sync k = { L with segs := L.segs.set k (S.1, { S.2 with lasts := S.2.lines.length }) } := by rw [LogM.sync, hS]
    rw [hs]
    exact Sep.toLog (L := { L with segs := L.segs.set k (S.1, { S.2 with lasts := S.2.lines.length }) }) (by simp [e]) (h.ord [1, 1, 1, 0])
  · refine h.ld 0 rfl rfl ?_
    rw [hd]
    simp only [AsBool_bool]
    refine Br_t (by decide) ?_
    refine Br_t (by simp) ?_
    refine h.ld 0 rfl rfl ?_
    refine ((h.ord [2]).rd).len (n := ps.length) (by simp [ptrs]) (by omega) ?_
    rw [bin_geq, OptK_some, pick_f]
    have : decide ((ps.length : Int) ≤ (k : Int)) = false := by simp; omega
    rw [this]; exact hk'
/-- No segment has that number. -/
theorem sp_LSync_no {k : Nat} (h : Sep st (LogP l L :: F)) (hno : L.segs.length ≤ k) (h8 : L.segs.length < 2 ^ 30) (hk : Q (.bool false) st) : Cal w0 n_maint_Log_Sync [.ptr l 0, .int .i64 k] st Q := by
  refine ok_maint_Log_Sync ?_
  unfold vc_maint_Log_Sync
  simp only [nilC_ptr, faddr_ptr, Nat.zero_add]
  obtain ⟨o, sv, ps, mv, gv, e, h⟩ := h.ofLog
  refine Jn_of (fun k' => k' (.bool true) st) ?_ fun k' hk' => ?_
  · simp only [AsBool_bool, Br_true]; exact hk
  · refine h.ld 0 rfl rfl ?_
    simp only [AsBool_bool]
    refine Br_iff.2 ⟨fun e1 => ?_, fun e1 => hk'⟩
    refine Br_t (by simp) ?_
    refine h.ld 0 rfl rfl ?_
    refine ((h.ord [2]).rd).len (n := ps.length) (by simp [ptrs]) (by omega) ?_
    rw [bin_geq, OptK_some, pick_f]
    have : decide ((ps.length : Int) ≤ (k : Int)) = true := by simp; omega
    rw [this]; exact hk'
end
end Go.Ab
