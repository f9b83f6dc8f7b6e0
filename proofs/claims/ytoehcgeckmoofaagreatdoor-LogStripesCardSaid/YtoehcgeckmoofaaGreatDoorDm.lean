/- maint: the log: what lies where; small functions. -/
import Derived.Test.YtoehcgeckmoofaaGreatDoorDp
import Derived.Test.YtoehcgeckmoofaaGreatDoorVm
set_option linter.unusedVariables false
set_option linter.unusedSimpArgs false
namespace Go.Ab
open Go Go.RowKit Go.Proofs

abbrev SegM := SegSt × DiskM
structure LogM where
  own : DiskM
  segs : List SegM
  m : List Span
  trim : Nat
  gone : List Int
  next : Nat
  down : Bool

def segC (p : Nat × Nat) (S : SegM) : Prp := star (SegP p.1 S.1 p.2) (DiskP p.2 S.2)
def segsL (ps : List (Nat × Nat)) (segs : List SegM) : List Prp := List.zipWith segC ps segs
def ptrs (ps : List (Nat × Nat)) : List AV := ps.map fun p => .ptr p.1 0

structure SegOk (M : SegSt) : Prop where
  slot : ∀ x ∈ M.slots, 0 ≤ x.r.site ∧ x.r.site < 8 ∧ x.pos ≤ 2147483647
  trim : M.trim ≤ 2147483647
structure LogM.WF (L : LogM) : Prop where
  segs : L.segs.length = 8
  m : OkM L.m
  ok : ∀ S ∈ L.segs, SegOk S.1
  next : L.next ≤ 2147483648
  trim : L.trim ≤ L.next
  gone : L.gone.length ≤ 64

section
variable {st : St} {cs F : List Prp} {P Q : Prp}
theorem Sep.focus {k : Nat} (h : Sep st (stars cs :: F)) (hk : cs[k]? = some P) : Sep st (P :: stars (cs.eraseIdx k) :: F) := by
  have hlt := (List.getElem?_eq_some_iff.1 hk).1
  have h := h.ofStars.atI (i := k) (P := P) (by rw [List.getElem?_append_left hlt]; exact hk)
  rw [List.eraseIdx_append_of_lt_length hlt] at h
  exact Sep.swap (Sep.toStars (cs := cs.eraseIdx k) (F := P :: F) (by
    refine h.perm ?_
    exact (List.perm_middle (l₁ := cs.eraseIdx k) (l₂ := F) (a := P)).symm))
theorem Sep.unfocus {k : Nat} (hk : k < cs.length) (h : Sep st (P :: stars (cs.eraseIdx k) :: F)) : Sep st (stars (cs.set k P) :: F) := by
  have h := h.swap.ofStars
  have h : Sep st (P :: (cs.eraseIdx k ++ F)) := h.perm List.perm_middle
  rw [← List.eraseIdx_append_of_lt_length hk F] at h
  have h := Sep.backI (cs := cs ++ F) (i := k) (by simp; omega) h
  rw [List.set_append_left _ _ hk] at h
  exact h.toStars
end

theorem segsL_get {ps : List (Nat × Nat)} {segs : List SegM} {k : Nat} {p : Nat × Nat} {S : SegM} (h1 : ps[k]? = some p) (h2 : segs[k]? = some S) : (segsL ps segs)[k]? = some (segC p S) := by
  simp [segsL, List.getElem?_zipWith, h1, h2]
theorem segsL_set {ps : List (Nat × Nat)} {segs : List SegM} {k : Nat} {p : Nat × Nat} {S : SegM} (h1 : ps[k]? = some p) : (segsL ps segs).set k (segC p S) = segsL ps (segs.set k S) := by
  unfold segsL
  apply List.ext_getElem?
  intro i
  simp only [List.getElem?_set, List.getElem?_zipWith, List.length_zipWith]
  by_cases hik : k = i
  · subst hik
    obtain ⟨hlt, hp⟩ := List.getElem?_eq_some_iff.1 h1
    by_cases h2 : k < segs.length
    · simp [h1, h2, hlt, hp]; omega
    · simp [h1, h2, hlt]; omega
  · simp [hik]

theorem Sep.refocus {st : St} {F : List Prp} {ps : List (Nat × Nat)} {segs : List SegM} {k : Nat} {q : Nat × Nat} {S : SegM} {M' : SegSt} {D' : DiskM} (hq : ps[k]? = some q) (hS : segs[k]? = some S)
    (h : Sep st (SegP q.1 M' q.2 :: DiskP q.2 D' :: stars ((segsL ps segs).eraseIdx k) :: F)) : Sep st (stars (segsL ps (segs.set k (M', D'))) :: F) := by
  have hks := (List.getElem?_eq_some_iff.1 (segsL_get hq hS)).1
  have h : Sep st (segC q (M', D') :: stars ((segsL ps segs).eraseIdx k) :: F) := Sep.toStar h
  have h := Sep.unfocus hks h
  rwa [segsL_set hq] at h
theorem Sep.refocus0 {st : St} {F : List Prp} {ps : List (Nat × Nat)} {segs : List SegM} {k : Nat} {q : Nat × Nat} {S : SegM} (hq : ps[k]? = some q) (hS : segs[k]? = some S)
    (h : Sep st (SegP q.1 S.1 q.2 :: DiskP q.2 S.2 :: stars ((segsL ps segs).eraseIdx k) :: F)) : Sep st (stars (segsL ps segs) :: F) := by
  have h := h.refocus hq hS
  have hset : segs.set k (S.1, S.2) = segs := by
    obtain ⟨hlt, hh⟩ := List.getElem?_eq_some_iff.1 hS
    have : (S.1, S.2) = segs[k] := hh.symm
    rw [this]; exact List.set_getElem_self hlt
  rwa [hset] at h

def LogT (l o : Nat) (sv : AV) (ps : List (Nat × Nat)) (mv gv : AV) (L : LogM) : List Prp :=
  [pt l (.cells false [.ptr o 0, sv, mv, .int .i64 L.trim, gv, .int .i64 L.next, .bool L.down]), DiskP o L.own, SlP sv 1 (ptrs ps), stars (segsL ps L.segs), ShP mv 2 (spans L.m), ShP gv 1 (ints L.gone)]
def LogP (l : Nat) (L : LogM) : Prp := ex fun o : Nat => ex fun sv : AV => ex fun ps : List (Nat × Nat) => ex fun mv : AV => ex fun gv : AV => star (pur (ps.length = L.segs.length)) (stars (LogT l o sv ps mv gv L))

section
variable {w0 : World} {st : St} {Q : Kont} {F : List Prp} {l o : Nat} {sv mv gv v : AV} {ps : List (Nat × Nat)} {L : LogM} {r : Rec}

theorem Sep.ofLog (h : Sep st (LogP l L :: F)) : ∃ o sv ps mv gv, ps.length = L.segs.length ∧ Sep st (LogT l o sv ps mv gv L ++ F) := by
  obtain ⟨o, h⟩ := h.ofEx
  obtain ⟨sv, h⟩ := h.ofEx
  obtain ⟨ps, h⟩ := h.ofEx
  obtain ⟨mv, h⟩ := h.ofEx
  obtain ⟨gv, h⟩ := h.ofEx
  obtain ⟨e, h⟩ := h.ofStar.ofPur
  exact ⟨o, sv, ps, mv, gv, e, h.ofStars⟩
theorem Sep.toLog (e : ps.length = L.segs.length) (h : Sep st (LogT l o sv ps mv gv L ++ F)) : Sep st (LogP l L :: F) :=
  .toEx o (.toEx sv (.toEx ps (.toEx mv (.toEx gv (Sep.toStar (Sep.toPur h.toStars e))))))

theorem sp_LDown (h : Sep st (LogP l L :: F)) (hq : Q (.bool L.down) st) : Cal w0 n_maint_Log_Down [.ptr l 0] st Q := by
  refine ok_maint_Log_Down ?_
  unfold vc_maint_Log_Down
  simp only [nilC_ptr, faddr_ptr, Nat.zero_add]
  obtain ⟨o, sv, ps, mv, gv, e, h⟩ := h.ofLog
  exact h.ld 0 rfl rfl hq
theorem sp_LNext (h : Sep st (LogP l L :: F)) (hq : Q (.int .i64 (if L.down then 0 else L.next : Nat)) st) : Cal w0 n_maint_Log_Next [.ptr l 0] st Q := by
  refine ok_maint_Log_Next ?_
  unfold vc_maint_Log_Next
  simp only [nilC_ptr, faddr_ptr, Nat.zero_add]
  obtain ⟨o, sv, ps, mv, gv, e, h⟩ := h.ofLog
  refine h.ld 0 rfl rfl ?_
  simp only [AsBool_bool]
  refine Br_iff.2 ⟨fun e => ?_, fun e => ?_⟩
  · rw [e] at hq; exact hq
  · rw [e] at hq; exact h.ld 0 rfl rfl hq
theorem sp_LEpoch (h : Sep st (LogP l L :: F)) (hq : Q (.int .i64 L.m.length) st) : Cal w0 n_maint_Log_Epoch [.ptr l 0] st Q := by
  refine ok_maint_Log_Epoch ?_
  unfold vc_maint_Log_Epoch
  simp only [nilC_ptr, faddr_ptr, Nat.zero_add]
  obtain ⟨o, sv, ps, mv, gv, e, h⟩ := h.ofLog
  refine h.ld 0 rfl rfl ?_
  exact ((h.ord [4]).rdS).len (spans_len _) (by omega) hq
def lastN (m : List Span) : Nat := (m.getLast?.map (·.2)).getD 0
theorem sp_LStripes (h : Sep st (LogP l L :: F)) (ok : OkM L.m) (hq : Q (.int .i64 (lastN L.m)) st) : Cal w0 n_maint_Log_Stripes [.ptr l 0] st Q := by
  refine ok_maint_Log_Stripes ?_
  unfold vc_maint_Log_Stripes
  simp only [nilC_ptr, faddr_ptr, Nat.zero_add]
  obtain ⟨o, sv, ps, mv, gv, e, h⟩ := h.ofLog
  have hpos := ok.pos
  have hlen := ok.len
  refine h.ld 0 rfl rfl ?_
  refine h.ld 0 rfl rfl ?_
  refine ((h.ord [4]).rdS).len (spans_len _) (by omega) ?_
  have e5 : bin .int .sub (.int .i64 (L.m.length : Int)) (.int .i64 1) = some (.int .i64 ((L.m.length - 1 : Nat) : Int)) := bin_sub_nat (b := 1) (by omega) hpos
  rw [e5, OptK_some]
  refine ((h.ord [4]).rdS).spanN (k := L.m.length - 1) (by omega) ?_
  have : lastN L.m = L.m[L.m.length - 1].2 := by
    rw [lastN, List.getLast?_eq_getElem?, List.getElem?_eq_getElem (by omega)]; rfl
  rw [this] at hq; exact hq

/-- The segment of a position. -/
theorem sp_seg {p : Nat} (h : Sep st (LogT l o sv ps mv gv L ++ F)) (wf : L.WF) (e : ps.length = L.segs.length) (hp : p < 2 ^ 62)
    (hq : ∀ q S, ps[stripeOf L.m p]? = some q → L.segs[stripeOf L.m p]? = some S → ∀ st', Sep st' (LogT l o sv ps mv gv L ++ F) → Q (.tup [.ptr q.1 0, .int .i64 (epochOf L.m p)]) st') : Cal w0 n_maint_Log_seg [.ptr l 0, .int .i64 p] st Q := by
  refine ok_maint_Log_seg ?_
  unfold vc_maint_Log_seg
  simp only [nilC_ptr, faddr_ptr, Nat.zero_add]
  refine h.ld 0 rfl rfl ?_
  refine sp_Find h (fun s hs => (hs.ord [4]).rdS) wf.m hp fun s h => ?_
  simp only [ext_tup, List.getElem?_cons_zero, List.getElem?_cons_succ, OptK_some]
  refine h.ld 0 rfl rfl ?_
  have hk : stripeOf L.m p < 8 := by
    have hpos := wf.m.pos
    unfold stripeOf
    simp only
    generalize hx : L.m.getD (epochOf L.m p - 1) (0, 1) = x
    have hx2 : 1 ≤ x.2 ∧ x.2 ≤ 8 := by
      rw [List.getD_eq_getElem?_getD] at hx
      cases hg : L.m[epochOf L.m p - 1]? with
      | none => rw [hg] at hx; subst hx; simp
      | some y => rw [hg] at hx; subst hx; exact wf.m.n _ (List.mem_of_getElem? hg)
    have := Nat.mod_lt (p - x.1) (show 0 < x.2 by omega)
    omega
  have h8 := wf.segs
  have hps : ps[stripeOf L.m p]? = some (ps[stripeOf L.m p]'(by omega)) := List.getElem?_eq_getElem (by omega)
  have hss : L.segs[stripeOf L.m p]? = some (L.segs[stripeOf L.m p]'(by omega)) := List.getElem?_eq_getElem (by omega)
  refine ((h.ord [2]).rd).at1 (x := .ptr (ps[stripeOf L.m p]'(by omega)).1 0) (by simp [ptrs, hps]) ?_
  exact hq _ _ hps hss s h

def LogM.putCode (L : LogM) (pos : Int) (r : Rec) : Int :=
  if L.down then 11 else if pos ≠ L.next then 1
  else match L.segs[stripeOf L.m L.next]? with | some S => Go.Ab.putCode S.1 S.2 (epochOf L.m L.next) L.next r | none => 1
def LogM.put (L : LogM) (r : Rec) : LogM :=
  { L with next := L.next + 1, segs := match L.segs[stripeOf L.m L.next]? with
    | some S => L.segs.set (stripeOf L.m L.next) (S.1.add ⟨L.next, r, S.2.lines.length⟩, { S.2 with lines := S.2.lines ++ [(Line.p L.next r).text] })
    | none => L.segs }

theorem sp_LPut {pos : Int} (g : Gnd w0) (h : Sep st (LogP l L :: ShP v 1 (ints r.dep) :: F)) (wf : L.WF) (hv : v.one = true) (hd : r.dep.length < 2 ^ 30) (hvl : r.val.length < 2 ^ 40) (hko : KeyOk r)
    (he : ∀ e, L.putCode pos r = e → e ≠ 0 → ∀ st', Sep st' (LogP l L :: ShP v 1 (ints r.dep) :: F) → Q (.int .i64 e) st')
    (h0 : L.putCode pos r = 0 → ∀ st', Sep st' (LogP l (L.put r) :: ShP v 1 (ints r.dep) :: F) → Q (.int .i64 0) st') :
    Cal w0 n_maint_Log_Put [.ptr l 0, .int .i64 pos, recAV v r] st Q := by
  refine ok_maint_Log_Put ?_
  unfold vc_maint_Log_Put
  simp only [nilC_ptr, faddr_ptr, Nat.zero_add]
  refine h.new fun c s1 h => ?_
  obtain ⟨o, sv, ps, mv, gv, e, h⟩ := h.swap.ofLog
  have hnx := wf.next
  have back : ∀ s', Sep s' (LogT l o sv ps mv gv L ++ pt c (.cells false [.int .i64 r.site, .int .i64 r.seq, v, .str r.key, .str r.val]) :: ShP v 1 (ints r.dep) :: F) → Sep s' (LogP l L :: ShP v 1 (ints r.dep) :: F) := fun s' h => (h.toLog e).swap.tail
  refine h.ld 0 rfl rfl ?_
  simp only [AsBool_bool]
  refine Br_iff.2 ⟨fun e1 => ?_, fun e1 => ?_⟩
  · exact he 11 (by rw [LogM.putCode, if_pos e1]) (by decide) s1 (back s1 h)
  have e1' : ¬ L.down = true := by rw [e1]; simp
  refine h.ld 0 rfl rfl ?_
  simp only [bin_neq, OptK_some, AsBool_bool]
  refine Br_iff.2 ⟨fun e2 => ?_, fun e2 => ?_⟩
  · have e2 : pos ≠ L.next := by simpa using e2
    exact he 1 (by rw [LogM.putCode, if_neg e1', if_pos e2]) (by decide) s1 (back s1 h)
  have e2 : pos = L.next := by simpa using e2
  subst e2
  refine sp_seg h wf e (by omega) fun q S hq hS s2 h => ?_
  simp only [ext_tup, List.getElem?_cons_zero, List.getElem?_cons_succ, OptK_some]
  refine h.ldA 6 rfl (ws := [.int .i64 r.site, .int .i64 r.seq, v, .str r.key, .str r.val]) rfl rfl ?_
  -- l, own, sl, segs, m, g, c, sh
  have h := (h.ord [3]).focus (segsL_get hq hS)
  have h := h.ofStar
  -- seg, disk, rest, l, own, sl, m, g, c, sh
  have hcode : L.putCode (L.next : Int) r = Go.Ab.putCode S.1 S.2 (epochOf L.m L.next) L.next r := by
    rw [LogM.putCode, if_neg e1', if_neg (by simp), hS]
  have hput : L.put r = { L with next := L.next + 1, segs := L.segs.set (stripeOf L.m L.next) (S.1.add ⟨L.next, r, S.2.lines.length⟩, { S.2 with lines := S.2.lines ++ [(Line.p L.next r).text] }) } := by
    rw [LogM.put, hS]
  refine sp_SPut (r := r) g (h.ord [0, 0, 7]) hv hd hvl hko (fun ec hec hne s3 h => ?_) fun hec s3 h => ?_
  · simp only [bin_eql, OptK_some, AsBool_bool]
    refine Br_f (by simp [hne]) ?_
    refine he ec (by rw [hcode]; exact hec) hne s3 (back s3 ?_)
    -- seg, disk, sh, rest, l, own, sl, m, g, c
    have h := Sep.refocus0 hq hS (h.ord [0, 0, 1])
    -- segs, sh, l, own, sl, m, g, c
    exact h.ord [2, 2, 2, 0, 1, 1, 1, 0]
  · simp only [bin_eql, OptK_some, AsBool_bool]
    refine Br_t (by decide) ?_
    -- seg, disk, sh, rest, l, own, sl, m, g, c
    refine h.ld 4 rfl rfl ?_
    rw [bin_inc (by omega), OptK_some]
    refine h.sto 4 rfl rfl (by simp) fun s4 h => ?_
    refine h0 (by rw [hcode]; exact hec) s4 ?_
    rw [hput]
    rw [show ((L.next : Nat) : Int).toNat = L.next by simp] at h
    have h := Sep.refocus hq hS (h.ord [0, 0, 1])
    have h := h.ord [2, 2, 2, 0, 1, 1, 1, 0]
    exact (Sep.toLog (L := { L with next := L.next + 1, segs := L.segs.set (stripeOf L.m L.next) (S.1.add ⟨L.next, r, S.2.lines.length⟩, { S.2 with lines := S.2.lines ++ [(Line.p L.next r).text] }) }) (by simp [e]) h).swap.tail
end
end Go.Ab
