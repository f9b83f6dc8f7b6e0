/- maint: Recover. -/
import Derived.Test.YtoehcgeckmoofaaGreatDoorDq
set_option linter.unusedVariables false
set_option linter.unusedSimpArgs false
namespace Go.Ab
open Go Go.RowKit Go.Proofs

theorem segsL_set2 {ps : List (Nat × Nat)} {segs : List SegM} {k : Nat} {p : Nat × Nat} {S : SegM} : (segsL ps segs).set k (segC p S) = segsL (ps.set k p) (segs.set k S) := by
  unfold segsL
  apply List.ext_getElem?
  intro i
  simp only [List.getElem?_set, List.getElem?_zipWith, List.length_zipWith]
  by_cases hik : k = i
  · subst hik
    by_cases h1 : k < ps.length <;> by_cases h2 : k < segs.length <;> simp [h1, h2] <;> omega
  · simp [hik]

theorem replay_len : ∀ {ls : List Line} {M M' : SegSt} {i : Nat}, replay M i ls = some M' → M'.slots.length ≤ M.slots.length + ls.length
  | [], M, M', i, h => by simp [replay] at h; subst h; simp
  | L :: ls, M, M', i, h => by
    simp only [replay] at h
    cases h1 : takeS M i L with
    | none => rw [h1] at h; cases h
    | some M1 =>
      rw [h1] at h
      have ih := replay_len (ls := ls) (M := M1) h
      have h2 : M1.slots.length ≤ M.slots.length + 1 := by
        cases L with
        | p pos r => simp only [takeS] at h1; split at h1 <;> cases h1; simp [SegSt.add]
        | s n => simp only [takeS] at h1; split at h1 <;> cases h1; simp [SegSt.sealUp]
        | c n => simp only [takeS] at h1; cases h1; have := List.length_filter_le (fun x : Slot => !decide (n ≤ x.pos)) M.slots; simp [SegSt.cut] at this ⊢; omega
        | t n => simp only [takeS] at h1; split at h1 <;> cases h1; have := List.length_filter_le (fun x : Slot => !decide (x.pos < n)) M.slots; simp [SegSt.below] at this ⊢; omega
      simp; omega

def PosOk (M : SegSt) : Prop := ∀ x ∈ M.slots, x.pos ≤ 2147483647
theorem replay_pos : ∀ {ls : List Line} {M M' : SegSt} {i : Nat}, (∀ L ∈ ls, L.Ok) → PosOk M → replay M i ls = some M' → PosOk M'
  | [], M, M', i, _, hM, h => by simp [replay] at h; subst h; exact hM
  | L :: ls, M, M', i, ok, hM, h => by
    simp only [replay] at h
    cases h1 : takeS M i L with
    | none => rw [h1] at h; cases h
    | some M1 =>
      rw [h1] at h
      refine replay_pos (ls := ls) (fun L hL => ok L (by simp [hL])) ?_ h
      have okL := ok L (by simp)
      cases L with
      | p pos r =>
        simp only [takeS] at h1; split at h1 <;> cases h1
        intro x hx
        rcases List.mem_append.1 hx with hx | hx
        · exact hM x hx
        · simp at hx; subst hx; exact okL.1
      | s n => simp only [takeS] at h1; split at h1 <;> cases h1; exact hM
      | c n => simp only [takeS] at h1; cases h1; exact fun x hx => hM x (List.mem_filter.1 hx).1
      | t n => simp only [takeS] at h1; split at h1 <;> cases h1; exact fun x hx => hM x (List.mem_filter.1 hx).1

theorem filter_lt {α : Type} {p q : α → Bool} : ∀ {l : List α}, (∀ x ∈ l, p x = true → q x = true) → (∃ x ∈ l, q x = true ∧ p x = false) → (l.filter p).length < (l.filter q).length
  | [], _, ⟨x, hx, _⟩ => by simp at hx
  | a :: l, h, ⟨x, hx, h1, h2⟩ => by
    have mono : (l.filter p).length ≤ (l.filter q).length := by
      have : ∀ l : List α, (∀ x ∈ l, p x = true → q x = true) → (l.filter p).length ≤ (l.filter q).length := by
        intro l
        induction l with
        | nil => intro _; exact Nat.le_refl _
        | cons b l ih =>
          intro hl
          have := ih fun x hx => hl x (by simp [hx])
          simp only [List.filter_cons]
          cases hp : p b with
          | true => rw [hl b (by simp) hp]; simp; exact this
          | false => cases q b <;> simp <;> omega
      exact this l fun x hx => h x (by simp [hx])
    simp only [List.filter_cons]
    rcases List.mem_cons.1 hx with rfl | hx
    · rw [h1, h2]; simp; omega
    · have ih := filter_lt (l := l) (fun x hx => h x (by simp [hx])) ⟨x, hx, h1, h2⟩
      cases hp : p a with
      | true => rw [h a (by simp) hp]; simp; exact ih
      | false => cases q a <;> simp <;> omega
theorem zipWith_rep {α β : Type} (f : α → β) : ∀ (l : List α), List.zipWith (fun x (_ : Unit) => f x) l (List.replicate l.length ()) = l.map f
  | [] => rfl
  | a :: l => by simp [List.replicate_succ, zipWith_rep f l]

/-- A segment's lines come to this. -/
def Comes (S : SegM) (M : SegSt) : Prop := ∃ ls : List Line, S.2.lines = ls.map Line.text ∧ (∀ L ∈ ls, L.Ok) ∧ replay seg0 0 ls = some M
def reS (S : SegM) (M : SegSt) : SegM := (M, S.2)
def cutS (n : Nat) (S : SegM) : SegM := (S.1.cut n, noted S.2 99 n)

section
variable {w0 : World} {st : St} {Q : Kont} {F : List Prp} {l o b : Nat} {sv mv gv v : AV} {ps : List (Nat × Nat)} {L : LogM} {ks : List Int}

theorem mid_get {α β : Type} (f : α → β → α) (xs : List α) (ys : List β) (h : ys.length ≤ xs.length) {k : Nat} (hk : ys.length ≤ k) : (List.zipWith f xs ys ++ xs.drop ys.length)[k]? = xs[k]? := by
  rw [List.getElem?_append_right (by simp; omega), List.getElem?_drop]
  congr 1; simp; omega
theorem mid_set {α β : Type} (f : α → β → α) (xs : List α) (ys : List β) (y : β) {x : α} (hx : xs[ys.length]? = some x) :
    (List.zipWith f xs ys ++ xs.drop ys.length).set ys.length (f x y) = List.zipWith f xs (ys ++ [y]) ++ xs.drop (ys ++ [y]).length := by
  have hlt := (List.getElem?_eq_some_iff.1 hx).1
  apply List.ext_getElem?
  intro i
  simp only [List.getElem?_set, List.getElem?_append, List.getElem?_zipWith, List.getElem?_drop, List.length_append, List.length_zipWith, List.length_cons, List.length_nil, List.length_drop]
  rw [Nat.min_eq_right (by omega), Nat.min_eq_right (by omega)]
  by_cases h1 : i < ys.length
  · rw [if_neg (by omega), if_pos h1, if_pos (by omega)]
    simp [List.getElem?_append, h1]
  · by_cases h2 : i = ys.length
    · subst h2
      rw [if_pos rfl, if_pos (by omega), if_pos (by omega), hx]
      simp
    · rw [if_neg (by omega), if_neg h1, if_neg (by omega)]
      congr 1; omega

theorem sp_take0 {x0 x1 x5 x6 : AV} {tr : AV} {ol : OLine} (g : Gnd w0) (h : Sep st (pt l (.cells false [x0, x1, mv, tr, gv, x5, x6]) :: F)) (ok : ol.Ok)
    (hm : ∀ ms, ol = .m ms → ∀ v st', Sep st' (ShP v 2 (spans ms) :: pt l (.cells false [x0, x1, v, tr, gv, x5, x6]) :: F) → Q (.bool true) st')
    (ht : ∀ pos u, ol = .t pos u → ∀ w st', Sep st' (ShP w 1 (ints (trimV u)) :: pt l (.cells false [x0, x1, mv, .int .i64 pos, w, x5, x6]) :: F) → Q (.bool true) st') :
    Cal w0 n_maint_Log_take [.ptr l 0, .str ol.text] st Q := by
  refine ok_maint_Log_take ?_
  unfold vc_maint_Log_take
  simp only [nilC_ptr, faddr_ptr, Nat.zero_add]
  cases ol with
  | m ms =>
    have ok : OkM ms := ok
    have hl := textM_len ok
    have hml := ok.len
    refine c_Cut g (by simp [OLine.text]; omega) ?_
    rw [OLine.text, cut_kind 109 _ (by decide)]
    simp only [ext_tup, List.getElem?_cons_zero, List.getElem?_cons_succ, OptK_some, bin_seql, AsBool_bool]
    refine Br_t (by decide) ?_
    refine sp_MParse g h ok fun v s hv h => ?_
    simp only [ext_tup, List.getElem?_cons_zero, List.getElem?_cons_succ, OptK_some, bin_eql, AsBool_bool]
    refine Br_t (by decide) ?_
    refine h.sto 1 rfl hv (by simp) fun s h => ?_
    exact hm ms rfl v s h.slSh
  | t pos v =>
    obtain ⟨hp, okv⟩ := ok
    have hl := itoa_len10 pos hp
    have hl2 := textV_len okv.fitV
    have hvl := okv.len
    refine c_Cut g (by simp [OLine.text]; omega) ?_
    rw [OLine.text, cut_kind 116 _ (by decide)]
    simp only [ext_tup, List.getElem?_cons_zero, List.getElem?_cons_succ, OptK_some, bin_seql, AsBool_bool]
    refine Br_f (by decide) ?_
    refine c_Cut g (by simp; omega) ?_
    rw [cut_one (no32 pos)]
    simp only [ext_tup, List.getElem?_cons_zero, List.getElem?_cons_succ, OptK_some]
    refine sp_Number (most := 2147483647) hp (by omega) ?_
    simp only [ext_tup, List.getElem?_cons_zero, List.getElem?_cons_succ, OptK_some]
    refine sp_Parse g h okv fun w s hw h => ?_
    simp only [ext_tup, List.getElem?_cons_zero, List.getElem?_cons_succ, OptK_some]
    refine Jn_of (fun k => k (.bool false) s) ?_ fun k hk => ?_
    · simp only [AsBool_bool, Br_false]
      refine h.sto 1 rfl rfl (by simp) fun s h => ?_
      refine h.sto 1 rfl hw (by simp) fun s h => ?_
      exact ht pos v rfl w s h.slSh
    · simp only [bin_sneq, bin_neq, OptK_some, AsBool_bool, pick_f]
      refine Br_t (by decide) ?_
      refine Br_t (by decide) ?_
      exact hk

theorem takes_segs (ols : List OLine) (L : LogM) : (ols.foldl LogM.take L).segs = L.segs ∧ (ols.foldl LogM.take L).own = L.own ∧ (ols.foldl LogM.take L).next = L.next ∧ (ols.foldl LogM.take L).down = L.down := by
  induction ols generalizing L with
  | nil => exact ⟨rfl, rfl, rfl, rfl⟩
  | cons ol ols ih =>
    have := ih (L.take ol)
    simp only [List.foldl_cons]
    rw [this.1, this.2.1, this.2.2.1, this.2.2.2]
    cases ol <;> exact ⟨rfl, rfl, rfl, rfl⟩

theorem sp_LRecover {Ms : List SegSt} {ols : List OLine} (g : Gnd w0) (h : Sep st (LogP l L :: F)) (hd : L.down = true) (h8 : L.segs.length < 2 ^ 30)
    (hMl : Ms.length = L.segs.length) (hMs : ∀ (k : Nat) (S : SegM) (M : SegSt), L.segs[k]? = some S → Ms[k]? = some M → Comes S M)
    (hol : L.own.lines = ols.map OLine.text) (hok : ∀ x ∈ ols, x.Ok) (htr : (ols.foldl LogM.take L).trim ≤ 2147483647)
    (hfit : ∀ S ∈ L.segs, ∀ n, n ≤ 2147483647 → noteFull S.2 99 n = false)
    (hq : ∀ nx st', (ols.foldl LogM.take L).trim ≤ nx → (∀ p : Nat, (ols.foldl LogM.take L).trim ≤ p → p < nx → (p : Int) ∈ posL (List.zipWith reS L.segs Ms)) → (nx : Int) ∉ posL (List.zipWith reS L.segs Ms) →
      Sep st' (LogP l { (ols.foldl LogM.take L) with segs := if (posL (List.zipWith reS L.segs Ms)).any (fun p => decide ((nx : Int) ≤ p)) then (List.zipWith reS L.segs Ms).map (cutS nx) else List.zipWith reS L.segs Ms, next := nx, down := false } :: F) → Q (.int .i64 0) st') :
    Cal w0 n_maint_Log_Recover [.ptr l 0] st Q := by
  refine ok_maint_Log_Recover ?_
  unfold vc_maint_Log_Recover
  have hc : AV.cellsOk (.ptr l 0) = some [.ptr l 0] := rfl
  rw [hc, OptK_some]
  refine h.new fun c s1 h => ?_
  obtain ⟨o, sv, ps, mv, gv, e, h⟩ := h.swap.ofLog
  -- l, own, sl, segs, m, g, c
  have h : Sep s1 (pt c (.cells false [.ptr l 0]) :: LogT l o sv ps mv gv L ++ F) := h.ord [6]
  refine h.ld 0 rfl rfl ?_
  simp only [nilC_ptr, faddr_ptr, Nat.zero_add]
  refine h.ld 1 rfl rfl ?_
  rw [hd]
  simp only [un_not, OptK_some, AsBool_bool]
  refine Br_f (by decide) ?_
  refine h.ld 0 rfl rfl ?_
  simp only [nilC_ptr, faddr_ptr, Nat.zero_add]
  refine h.ld 1 rfl rfl ?_
  refine ((h.ord [3]).rd).len (n := ps.length) (by simp [ptrs]) (by omega) ?_
  let mid : Nat → LogM := fun k => { L with segs := List.zipWith reS L.segs (Ms.take k) ++ L.segs.drop (Ms.take k).length }
  refine ⟨fun n x s => ∃ (k : Nat) (ps' : List (Nat × Nat)), n = ps.length - k ∧ k ≤ ps.length ∧ x = [.ptr c 0, sv, .int .i64 ps.length, .int .i64 k] ∧ ps'.length = ps.length ∧ Sep s (pt c (.cells false [.ptr l 0]) :: LogT l o sv ps' mv gv (mid k) ++ F), _, ⟨0, ps, rfl, by omega, rfl, rfl, by simpa [mid] using h⟩, ?_⟩
  rintro n x s ⟨k, ps', rfl, hk, rfl, hpl, h⟩
  simp only [List.getD_cons_zero, List.getD_cons_succ, bin_lss, OptK_some, AsBool_bool]
  refine Br_iff.2 ⟨fun e1 => ?_, fun e1 => ?_⟩
  · have e1 : k < ps.length := by simpa using e1
    have htk : (Ms.take k).length = k := by simp; omega
    obtain ⟨q, hq'⟩ : ∃ q, ps'[k]? = some q := ⟨ps'[k]'(by omega), List.getElem?_eq_getElem (by omega)⟩
    obtain ⟨S, hS⟩ : ∃ S, L.segs[k]? = some S := ⟨L.segs[k]'(by omega), List.getElem?_eq_getElem (by omega)⟩
    obtain ⟨M, hM⟩ : ∃ M, Ms[k]? = some M := ⟨Ms[k]'(by omega), List.getElem?_eq_getElem (by omega)⟩
    have hmS : (mid k).segs[k]? = some S := by
      have := mid_get reS L.segs (Ms.take k) (by rw [htk]; omega) (k := k) (by omega)
      simp only [mid]; rw [this]; exact hS
    have hset : (mid k).segs.set k (reS S M) = (mid (k + 1)).segs := by
      have := mid_set reS L.segs (Ms.take k) M (x := S) (by rw [htk]; exact hS)
      rw [htk] at this
      obtain ⟨hlt, hh⟩ := List.getElem?_eq_some_iff.1 hM
      have e2 : Ms.take k ++ [M] = Ms.take (k + 1) := by rw [← hh]; exact List.take_append_getElem hlt
      rw [e2] at this
      simp only [mid, htk]; exact this
    obtain ⟨ls, hl1, hl2, hl3⟩ := hMs k S M hS hM
    refine ((h.ord [3]).rd).at1d (ptrs_at hq') fun a => ?_
    refine h.ld 0 rfl rfl ?_
    simp only [nilC_ptr, faddr_ptr, Nat.zero_add]
    refine h.ld 1 rfl rfl ?_
    have h := ((h.ord [4]).focus (segsL_get hq' hmS)).ofStar
    -- seg, disk, rest, c, l, own, sl, m, g
    refine sp_SDisk h ?_
    refine ⟨h.ld 4 rfl rfl rfl, h.ld 3 rfl rfl rfl, ?_⟩
    refine sp_Open g (h.ord [1]) hl1 hl2 hl3 fun sg s2 h => ?_
    -- seg', disk, seg, rest, c, l, own, sl, m, g
    refine ⟨h.ld 5 rfl rfl rfl, h.ld 4 rfl rfl rfl, ?_⟩
    simp only [ext_tup, List.getElem?_cons_zero, List.getElem?_cons_succ, OptK_some]
    have hkl : k < (ptrs ps').length := by simp [ptrs]; omega
    refine Sep.stoSl (h.ord [7]) hkl rfl fun s3 h => ?_
    -- sl', seg', disk, seg, rest, c, l, own, m, g
    rw [bin_inc (by omega), OptK_some]
    have hp2 : (ptrs ps').set k (.ptr sg 0) = ptrs (ps'.set k (sg, q.2)) := by simp [ptrs, List.map_set]
    rw [hp2] at h
    have h := (h.ord [3]).tail
    -- sl', seg', disk, rest, c, l, own, m, g
    have hks := (List.getElem?_eq_some_iff.1 (segsL_get hq' hmS)).1
    have h : Sep s3 (segC (sg, q.2) (reS S M) :: _) := Sep.toStar (h.ord [1, 1])
    -- segC, sl', rest, c, l, own, m, g
    have h := Sep.unfocus hks (h.ord [0, 1])
    rw [segsL_set2, hset] at h
    -- segs, sl', c, l, own, m, g
    exact ⟨ps.length - (k + 1), by omega, k + 1, ps'.set k (sg, q.2), rfl, by omega, rfl, by simp [hpl], h.ord [2, 2, 2, 1, 0]⟩
  · have e1 : k = ps.length := by
      have : ¬ k < ps.length := by simpa using e1
      omega
    subst e1
    have hseg : (mid ps.length).segs = List.zipWith reS L.segs Ms := by
      simp only [mid]
      rw [List.take_of_length_le (by omega), List.drop_eq_nil_of_le (by omega), List.append_nil]
    have hmid : mid ps.length = { L with segs := List.zipWith reS L.segs Ms } := by
      simp only [mid]
      rw [List.take_of_length_le (by omega), List.drop_eq_nil_of_le (by omega), List.append_nil]
    rw [hmid] at h
    clear hseg hmid
    generalize hL1 : ({ L with segs := List.zipWith reS L.segs Ms } : LogM) = L1 at h
    have hown : L1.own = L.own := by rw [← hL1]
    have hsegs : L1.segs = List.zipWith reS L.segs Ms := by rw [← hL1]
    have hL2 : ∀ xs : List OLine, (xs.foldl LogM.take L1).trim = (xs.foldl LogM.take L).trim ∧ (xs.foldl LogM.take L1).m = (xs.foldl LogM.take L).m ∧ (xs.foldl LogM.take L1).gone = (xs.foldl LogM.take L).gone := by
      have : ∀ (xs : List OLine) (A B : LogM), A.trim = B.trim → A.m = B.m → A.gone = B.gone → (xs.foldl LogM.take A).trim = (xs.foldl LogM.take B).trim ∧ (xs.foldl LogM.take A).m = (xs.foldl LogM.take B).m ∧ (xs.foldl LogM.take A).gone = (xs.foldl LogM.take B).gone := by
        intro xs
        induction xs with
        | nil => exact fun A B h1 h2 h3 => ⟨h1, h2, h3⟩
        | cons x xs ih =>
          intro A B h1 h2 h3
          simp only [List.foldl_cons]
          cases x with
          | m ms => exact ih _ _ h1 rfl h3
          | t pos v => exact ih _ _ rfl h2 rfl
      exact fun xs => this xs L1 L (by rw [← hL1]) (by rw [← hL1]) (by rw [← hL1])
    refine h.ld 0 rfl rfl ?_
    simp only [nilC_ptr, faddr_ptr, Nat.zero_add]
    refine h.ld 1 rfl rfl ?_
    refine sp_Lines (h.ord [2]) fun s0 c3 v h => ?_
    -- lines, c, l, sl, segs, m, g
    have hss := takes_segs ols L1
    refine Jn_of (fun kk => ∀ s mv' gv', Sep s (pt c (.cells false [.ptr l 0]) :: LogT l o sv ps' mv' gv' (ols.foldl LogM.take L1) ++ F) → kk s) (fun s mv' gv' h => ?_) fun kk hkk => ?_
    · generalize hL2' : ols.foldl LogM.take L1 = L2 at h hss
      obtain ⟨z1, z2, z3, z4⟩ := hss
      have htr2 : L2.trim = (ols.foldl LogM.take L).trim := by rw [← hL2']; exact (hL2 ols).1
      refine h.ld 0 rfl rfl ?_
      simp only [nilC_ptr, faddr_ptr, Nat.zero_add]
      refine h.ld 1 rfl rfl ?_
      refine h.ld 0 rfl rfl ?_
      have hzl : L2.segs.length = L.segs.length := by rw [z1, hsegs]; simp; omega
      have hcomes : ∀ S ∈ L2.segs, ∃ S0 ∈ L.segs, ∃ M, S = (M, S0.2) ∧ Comes S0 M ∧ S.1.slots.length < 2 ^ 30 ∧ PosOk S.1 := by
        intro S hS
        rw [z1, hsegs] at hS
        obtain ⟨i, hi, rfl⟩ := List.mem_iff_getElem.1 hS
        simp only [List.length_zipWith] at hi
        have hM := hMs i L.segs[i] Ms[i] (List.getElem?_eq_getElem (by omega)) (List.getElem?_eq_getElem (by omega))
        simp only [List.getElem_zipWith]
        refine ⟨L.segs[i], List.getElem_mem _, Ms[i], rfl, hM, ?_, ?_⟩
        · obtain ⟨ls, y1, y2, y3⟩ := hM
          have hlen := replay_len y3
          obtain ⟨q, hq'⟩ : ∃ q, ps'[i]? = some q := ⟨ps'[i]'(by omega), List.getElem?_eq_getElem (by omega)⟩
          have hgS : L2.segs[i]? = some (reS L.segs[i] Ms[i]) := by rw [z1, hsegs, List.getElem?_zipWith, List.getElem?_eq_getElem (show i < L.segs.length by omega), List.getElem?_eq_getElem (show i < Ms.length by omega)]
          have hw := (((h.ord [4]).focus (segsL_get hq' hgS)).ofStar.swap).ofDisk.1.llen
          simp only [reS] at hw
          have := congrArg List.length y1
          simp only [reS]
          simp [seg0] at hlen this ⊢; omega
        · obtain ⟨ls, y1, y2, y3⟩ := hM
          exact replay_pos y2 (by intro x hx; simp [seg0] at hx) y3
      refine sp_positions (F := pt c (.cells false [.ptr l 0]) :: F) (h.ord [1, 1, 1, 1, 1, 1, 0]) (by omega) (by omega) (fun S hS => by obtain ⟨_, _, _, _, _, hl, _⟩ := hcomes S hS; exact hl) fun b ks s2 hks h => ?_
      -- pos, l, own, sl, segs, m, g, c
      have hkpos : ∀ p ∈ ks, 0 ≤ p ∧ p ≤ 2147483647 := by
        intro p hp
        rw [hks p, posL, List.mem_flatMap] at hp
        obtain ⟨S, hS, hp⟩ := hp
        obtain ⟨x, hx, rfl⟩ := List.mem_map.1 hp
        obtain ⟨_, _, _, _, _, _, hpo⟩ := hcomes S hS
        have := hpo x hx; omega
      have h : Sep s2 (PosP b ks :: pt c (.cells false [.ptr l 0]) :: LogT l o sv ps' mv' gv' L2 ++ F) := h.ord [0, 6]
      refine ⟨fun n x s => ∃ nx : Nat, n = (ks.filter fun p => decide ((nx : Int) ≤ p)).length ∧ x = [.ptr c 0, .int .i64 nx, .bool false, .map b] ∧ L2.trim ≤ nx ∧ nx ≤ 2147483648 ∧ (∀ p : Nat, L2.trim ≤ p → p < nx → (p : Int) ∈ ks) ∧ Sep s (PosP b ks :: pt c (.cells false [.ptr l 0]) :: LogT l o sv ps' mv' gv' L2 ++ F), _, ⟨L2.trim, rfl, rfl, Nat.le_refl _, by omega, fun p h1 h2 => by omega, h⟩, ?_⟩
      rintro n x s3 ⟨nx, rfl, rfl, htn, hn31, hall, h⟩
      simp only [List.getD_cons_zero, List.getD_cons_succ]
      refine Sep.lookK h ?_
      simp only [AsBool_bool]
      refine Br_iff.2 ⟨fun e2 => ?_, fun e2 => ?_⟩
      · have e2 : (nx : Int) ∈ ks := of_decide_eq_true e2
        have hb := hkpos _ e2
        rw [bin_inc (by omega), OptK_some]
        refine ⟨_, filter_lt (fun p _ hp => ?_) ⟨_, e2, by simp, by simp; omega⟩, nx + 1, rfl, rfl, by omega, by omega, fun p h1 h2 => ?_, h⟩
        · simp at hp ⊢; omega
        · rcases Nat.lt_or_ge p nx with h' | h'
          · exact hall p h1 h'
          · have : p = nx := by omega
            subst this; exact e2
      · have e2 : (nx : Int) ∉ ks := of_decide_eq_false e2
        have hany : ks.any (fun p => decide ((nx : Int) ≤ p)) = (posL (List.zipWith reS L.segs Ms)).any (fun p => decide ((nx : Int) ≤ p)) := by
          rw [← hsegs, ← z1, Bool.eq_iff_iff, List.any_eq_true, List.any_eq_true]
          constructor <;> rintro ⟨p, hp, h'⟩
          · exact ⟨p, (hks p).1 hp, h'⟩
          · exact ⟨p, (hks p).2 hp, h'⟩
        have fin := hq nx
        rw [← hany] at fin
        obtain ⟨bs, h⟩ := h.ofEx
        obtain ⟨cl, h⟩ := h.ofEx
        obtain ⟨kok, h⟩ := h.ofStar.ofPur
        refine h.rng fun it s4 h => ?_
        refine ⟨fun n x s => ∃ (seen : List Nat) (mb : Bool), n = (bs.filter fun t => !seen.contains t).length ∧ x = [.ptr c 0, .int .i64 nx, .bool mb, .ptr it 0] ∧
          (mb = true ↔ ∃ (i : Nat) (k : Int) (t : Nat), ks[i]? = some k ∧ bs[i]? = some t ∧ t ∈ seen ∧ (nx : Int) ≤ k) ∧
          Sep s (pt it (.iter (some b) cl seen cl) :: pt b (.amap (ks.map keyE) bs cl) :: pt c (.cells false [.ptr l 0]) :: LogT l o sv ps' mv' gv' L2 ++ F), _, ⟨[], false, rfl, rfl, by simp, h⟩, ?_⟩
        rintro n x s5 ⟨seen, mb, rfl, rfl, hmb, h⟩
        simp only [List.getD_cons_zero, List.getD_cons_succ]
        refine h.nxt kok.lt (fun hend => ?_) fun i k x t hk ht hns s6 h => ?_
        · simp only [ext_tup, List.getElem?_cons_zero, OptK_some, AsBool_bool, Br_false]
          have hmb' : mb = ks.any (fun p => decide ((nx : Int) ≤ p)) := by
            rw [Bool.eq_iff_iff, hmb, List.any_eq_true]
            constructor
            · rintro ⟨i, k, t, h1, h2, h3, h4⟩; exact ⟨k, List.mem_of_getElem? h1, by simpa using h4⟩
            · rintro ⟨k, hk, h4⟩
              obtain ⟨i, hi, rfl⟩ := List.mem_iff_getElem.1 hk
              refine ⟨i, ks[i], bs[i]'(by rw [kok.len]; exact hi), List.getElem?_eq_getElem hi, List.getElem?_eq_getElem _, hend _ (List.getElem_mem _), by simpa using h4⟩
          have h := h.tail.tail
          -- c, l, own, sl, segs, m, g
          refine Jn_of (fun kk => ∀ s segs', segs' = (if mb = true then L2.segs.map (cutS nx) else L2.segs) → Sep s (pt c (.cells false [.ptr l 0]) :: LogT l o sv ps' mv' gv' { L2 with segs := segs' } ++ F) → kk (.ptr c 0) (.int .i64 nx) s) (fun s segs' hsg h => ?_) fun kk hkk => ?_
          · refine h.ld 0 rfl rfl ?_
            refine h.ld 0 rfl rfl ?_
            simp only [nilC_ptr, faddr_ptr, Nat.zero_add]
            refine h.sto 1 rfl rfl (by simp) fun s h => ?_
            refine ⟨h.ld 0 rfl rfl rfl, ?_⟩
            refine h.sto 1 rfl rfl (by simp) fun s h => ?_
            refine fin s (by omega) (fun p h1 h2 => ?_) (fun hh => e2 ((hks _).2 (by rw [z1, hsegs]; exact hh))) ?_
            · have := (hks _).1 (hall p (by omega) h2)
              rw [z1, hsegs] at this; exact this
            · rw [← hmb', ← hsegs, ← z1]
              have hsl' : segs'.length = L2.segs.length := by rw [hsg]; split <;> simp
              have := Sep.toLog (L := { L2 with segs := segs', next := nx, down := false }) (o := o) (sv := sv) (mv := mv') (gv := gv') (ps := ps') (by simp; omega) h.tail
              have e9 : ({ L2 with segs := segs', next := nx, down := false } : LogM) = { (ols.foldl LogM.take L) with segs := if mb = true then L2.segs.map (cutS nx) else L2.segs, next := nx, down := false } := by
                have a1 := hL2 ols
                have a2 := takes_segs ols L
                rw [hL2'] at a1
                cases hLL : ols.foldl LogM.take L
                rw [hLL] at a1 a2
                cases L2
                simp only at a1 a2 z2 hsg ⊢
                rw [a1.1, a1.2.1, a1.2.2, z2, hown, a2.2.1, hsg]
              rw [e9] at this; exact this
          · refine Br_iff.2 ⟨fun e3 => ?_, fun e3 => ?_⟩
            · refine h.ld 0 rfl rfl ?_
              simp only [nilC_ptr, faddr_ptr, Nat.zero_add]
              refine h.ld 1 rfl rfl ?_
              refine ((h.ord [3]).rd).len (n := ps'.length) (by simp [ptrs]) (by omega) ?_
              have hnx : nx ≤ 2147483647 := by
                obtain ⟨i, k, t, h1, h2, h3, h4⟩ := hmb.1 e3
                have := hkpos k (List.mem_of_getElem? h1); omega
              let mid2 : Nat → LogM := fun k => { L2 with segs := List.zipWith (fun S (_ : Unit) => cutS nx S) L2.segs (List.replicate k ()) ++ L2.segs.drop (List.replicate k ()).length }
              refine ⟨fun n x s => ∃ k : Nat, n = ps'.length - k ∧ k ≤ ps'.length ∧ x = [.ptr c 0, .int .i64 nx, sv, .int .i64 ps'.length, .int .i64 k] ∧ Sep s (pt c (.cells false [.ptr l 0]) :: LogT l o sv ps' mv' gv' (mid2 k) ++ F), _, ⟨0, rfl, by omega, rfl, by simpa [mid2] using h⟩, ?_⟩
              rintro n x s7 ⟨k, rfl, hk, rfl, h⟩
              simp only [List.getD_cons_zero, List.getD_cons_succ, bin_lss, OptK_some, AsBool_bool]
              refine Br_iff.2 ⟨fun e1 => ?_, fun e1 => ?_⟩
              · have e1 : k < ps'.length := by simpa using e1
                have hrl : (List.replicate k ()).length = k := by simp
                obtain ⟨q, hq'⟩ : ∃ q, ps'[k]? = some q := ⟨ps'[k]'(by omega), List.getElem?_eq_getElem (by omega)⟩
                obtain ⟨S, hS⟩ : ∃ S, L2.segs[k]? = some S := ⟨L2.segs[k]'(by omega), List.getElem?_eq_getElem (by omega)⟩
                have hmS : (mid2 k).segs[k]? = some S := by
                  have := mid_get (fun S (_ : Unit) => cutS nx S) L2.segs (List.replicate k ()) (by simp; omega) (k := k) (by simp)
                  simp only [mid2]; rw [this]; exact hS
                have hset : (mid2 k).segs.set k (cutS nx S) = (mid2 (k + 1)).segs := by
                  have := mid_set (fun S (_ : Unit) => cutS nx S) L2.segs (List.replicate k ()) () (x := S) (by rw [hrl]; exact hS)
                  rw [← List.replicate_succ'] at this
                  rw [hrl] at this
                  simp only [mid2, hrl]; exact this
                obtain ⟨S0, hS0, M0, hSe, _, _, _⟩ := hcomes S (List.mem_of_getElem? hS)
                have hff : noteFull S.2 99 nx = false := by rw [hSe]; exact hfit S0 hS0 nx hnx
                refine ((h.ord [3]).rd).at1 (ptrs_at hq') ?_
                have h := ((h.ord [4]).focus (segsL_get hq' hmS)).ofStar
                -- seg, disk, rest, c, l, own, sl, m, g
                refine sp_SCut g h hnx (fun hh _ _ => by rw [hff] at hh; cases hh) fun _ s8 h => ?_
                simp only [bin_neq, OptK_some, AsBool_bool]
                refine Br_f (by decide) ?_
                rw [bin_inc (by omega), OptK_some]
                have h := Sep.refocus hq' hmS h
                have e10 : (mid2 k).segs.set k (S.1.cut nx, noted S.2 99 nx) = (mid2 (k + 1)).segs := hset
                rw [e10] at h
                exact ⟨ps'.length - (k + 1), by omega, k + 1, rfl, by omega, rfl, h.ord [1, 1, 1, 1, 0]⟩
              · have e1 : k = L2.segs.length := by
                  have : ¬ k < ps'.length := by simpa using e1
                  omega
                have hsg : (mid2 k).segs = L2.segs.map (cutS nx) := by
                  simp only [mid2]
                  rw [e1, zipWith_rep, List.drop_eq_nil_of_le (by simp), List.append_nil]
                refine hkk s7 (mid2 k).segs (by rw [if_pos e3, hsg]) h
            · exact hkk s5 |> fun _ => hkk _ L2.segs (by rw [if_neg (by rw [e3]; simp)]) h
        · obtain ⟨k', hk', hke⟩ : ∃ k', ks[i]? = some k' ∧ keyE k' = (k, x) := by
            rw [List.getElem?_map, Option.map_eq_some_iff] at hk; exact hk
          obtain ⟨rfl, rfl⟩ : .int .i64 k' = k ∧ .bool true = x := by simpa [keyE] using hke
          simp only [ext_tup, List.getElem?_cons_zero, OptK_some, AsBool_bool, Br_true]
          refine h.ent ht kok.nd hk ?_
          simp only [ext_tup, List.getElem?_cons_zero, OptK_some]
          have hdec : (bs.filter fun u => !(seen ++ [t]).contains u).length < (bs.filter fun u => !seen.contains u).length :=
            filter_lt (fun u _ hu => by simp at hu ⊢; exact hu.1) ⟨t, List.mem_of_getElem? ht, by simp [hns], by simp⟩
          have hiff : ∀ mb', mb' = (mb || decide ((nx : Int) ≤ k')) → (mb' = true ↔ ∃ (i : Nat) (k : Int) (u : Nat), ks[i]? = some k ∧ bs[i]? = some u ∧ u ∈ seen ++ [t] ∧ (nx : Int) ≤ k) := by
            rintro mb' rfl
            rw [Bool.or_eq_true, hmb, decide_eq_true_eq]
            constructor
            · rintro (⟨i, k, u, h1, h2, h3, h4⟩ | h4)
              · exact ⟨i, k, u, h1, h2, by simp [h3], h4⟩
              · exact ⟨i, k', t, hk', ht, by simp, h4⟩
            · rintro ⟨i2, k2, u, h1, h2, h3, h4⟩
              rcases List.mem_append.1 h3 with h3 | h3
              · exact .inl ⟨i2, k2, u, h1, h2, h3, h4⟩
              · simp at h3; subst h3
                have hij : i2 = i := by
                  obtain ⟨l1, e1⟩ := List.getElem?_eq_some_iff.1 h2
                  obtain ⟨l2, e2⟩ := List.getElem?_eq_some_iff.1 ht
                  have hpw := List.pairwise_iff_getElem.1 kok.nd
                  rcases Nat.lt_trichotomy i2 i with h' | h' | h'
                  · exact absurd (e1.trans e2.symm) (hpw i2 i l1 l2 h')
                  · exact h'
                  · exact absurd (e2.trans e1.symm) (hpw i i2 l2 l1 h')
                subst hij
                rw [hk'] at h1; cases h1
                exact .inr h4
          refine Br_iff.2 ⟨fun e4 => ?_, fun e4 => ?_⟩
          · have e4 : mb = false := by simpa using e4
            rw [bin_geq, OptK_some, pick_f]
            exact ⟨_, hdec, seen ++ [t], _, rfl, rfl, hiff _ (by rw [e4]; simp), h⟩
          · have e4 : mb = true := by simpa using e4
            exact ⟨_, hdec, seen ++ [t], true, rfl, rfl, hiff _ (by rw [e4]; simp), h⟩
    · -- lines, c, l, sl, segs, m, g
      refine (it_Lines w0 c3 o v L.own).run (F := SlP sv 1 (ptrs ps') :: stars (segsL ps' L1.segs) :: F) (fun j => ex fun mv' : AV => ex fun gv' : AV => stars [pt c (.cells false [.ptr l 0]), pt l (.cells false [.ptr o 0, sv, mv', .int .i64 ((ols.take j).foldl LogM.take L1).trim, gv', .int .i64 L1.next, .bool L1.down]), ShP mv' 2 (spans ((ols.take j).foldl LogM.take L1).m), ShP gv' 1 (ints ((ols.take j).foldl LogM.take L1).gone)]) (fun _ => pur False) ?_ rfl rfl ?_ ?_ (fun s h => h.ofPur.1.elim) (fun _ s h => h.ofPur.1.elim) (fun _ s h => h.ofPur.1.elim)
      · rw [hown] at h
        have h := Sep.toStars (cs := [_, _, _, _]) (h.ord [1, 1, 3, 3])
        -- st4, lines, sl, segs
        have h := Sep.toEx (f := fun mv' : AV => ex fun gv' : AV => stars [pt c (.cells false [.ptr l 0]), pt l (.cells false [.ptr o 0, sv, mv', .int .i64 ((ols.take 0).foldl LogM.take L1).trim, gv', .int .i64 L1.next, .bool L1.down]), ShP mv' 2 (spans ((ols.take 0).foldl LogM.take L1).m), ShP gv' 1 (ints ((ols.take 0).foldl LogM.take L1).gone)]) mv (Sep.toEx (f := fun gv' : AV => stars [pt c (.cells false [.ptr l 0]), pt l (.cells false [.ptr o 0, sv, mv, .int .i64 ((ols.take 0).foldl LogM.take L1).trim, gv', .int .i64 L1.next, .bool L1.down]), ShP mv 2 (spans ((ols.take 0).foldl LogM.take L1).m), ShP gv' 1 (ints ((ols.take 0).foldl LogM.take L1).gone)]) gv h)
        exact h.swap
      · intro j s2 F' al hal okl hj h
        have hj : j < L.own.lines.length := by simpa [lineItems] using hj
        have hj2 : j < ols.length := by rw [hol] at hj; simpa using hj
        simp only [lineItems, List.getElem_mapIdx]
        obtain ⟨mv', h⟩ := h.swap.ofEx
        obtain ⟨gv', h⟩ := h.ofEx
        have h := h.ofStars
        -- c, l, m, g, lq, lines
        refine okr_maint_Log_Recover_0 ((h.ord [4]).getL.trans (congrArg some hal)) ?_
        unfold rnd_maint_Log_Recover_0
        refine h.rbeg okl 4 rfl fun s3 h => ?_
        refine h.ld 0 rfl rfl ?_
        have et : L.own.lines[j] = (ols[j]).text := by simp [hol]
        rw [et]
        have hfold : (ols.take (j + 1)).foldl LogM.take L1 = ((ols.take j).foldl LogM.take L1).take ols[j] := by
          rw [← List.take_append_getElem hj2, List.foldl_append]; rfl
        generalize hLj : (ols.take j).foldl LogM.take L1 = Lj at h hfold
        have fin : ∀ (mw gw : AV) (s4 : St), Sep s4 (pt c (.cells false [.ptr l 0]) :: pt l (.cells false [.ptr o 0, sv, mw, .int .i64 (Lj.take ols[j]).trim, gw, .int .i64 L1.next, .bool L1.down]) :: ShP mw 2 (spans (Lj.take ols[j]).m) :: ShP gw 1 (ints (Lj.take ols[j]).gone) :: lb s0.lp.length al :: LinesP c3 v o L.own :: F') →
            RNorm s0.lp.length (fun r s' => (r = .bool true ∧ Sep s' (lq s0.lp.length al :: (ex fun mv' : AV => ex fun gv' : AV => stars [pt c (.cells false [.ptr l 0]), pt l (.cells false [.ptr o 0, sv, mv', .int .i64 ((ols.take (j + 1)).foldl LogM.take L1).trim, gv', .int .i64 L1.next, .bool L1.down]), ShP mv' 2 (spans ((ols.take (j + 1)).foldl LogM.take L1).m), ShP gv' 1 (ints ((ols.take (j + 1)).foldl LogM.take L1).gone)]) :: LinesP c3 v o L.own :: F')) ∨ (r = .bool false ∧ ∃ e, Sep s' (le s0.lp.length al e :: pur False :: F'))) s4 := by
          intro mw gw s4 h
          refine Sep.rnorm h okl 4 rfl fun s5 h => .inl ⟨rfl, ?_⟩
          rw [hfold]
          have h := Sep.toStars (cs := [_, _, _, _]) h
          exact (Sep.toEx (f := fun mv' : AV => ex fun gv' : AV => stars [pt c (.cells false [.ptr l 0]), pt l (.cells false [.ptr o 0, sv, mv', .int .i64 (Lj.take ols[j]).trim, gv', .int .i64 L1.next, .bool L1.down]), ShP mv' 2 (spans (Lj.take ols[j]).m), ShP gv' 1 (ints (Lj.take ols[j]).gone)]) mw (Sep.toEx (f := fun gv' : AV => stars [pt c (.cells false [.ptr l 0]), pt l (.cells false [.ptr o 0, sv, mw, .int .i64 (Lj.take ols[j]).trim, gv', .int .i64 L1.next, .bool L1.down]), ShP mw 2 (spans (Lj.take ols[j]).m), ShP gv' 1 (ints (Lj.take ols[j]).gone)]) gw h)).swap
        refine sp_take0 g (h.ord [1]) (hok _ (List.getElem_mem hj2)) (fun ms hms u s4 h => ?_) fun pos w hw u s4 h => ?_
        · simp only [un_not, OptK_some, AsBool_bool, Bool.not_true, Br_false]
          -- sh, l, c, m, g, lb, lines
          have h := (h.ord [3]).tail
          have := fin u gv' s4
          rw [hms] at this
          exact this (h.ord [2, 1, 0])
        · simp only [un_not, OptK_some, AsBool_bool, Bool.not_true, Br_false]
          have h := (h.ord [4]).tail
          -- sh, l, c, m, lb, lines
          have := fin mv' u s4
          rw [hw] at this
          exact this (h.ord [2, 1, 1, 0])
      · intro s2 h
        obtain ⟨mv', h⟩ := h.ofEx
        obtain ⟨gv', h⟩ := h.ofEx
        have h := h.ofStars
        -- c, l, m, g, lines, sl, segs
        have el : (lineItems L.own.lines).length = ols.length := by simp [lineItems, hol]
        rw [el, List.take_length] at h
        have h := (h.ord [4]).linesDisk
        -- disk, c, l, m, g, sl, segs
        refine hkk s2 mv' gv' ?_
        obtain ⟨z1, z2, z3, z4⟩ := hss
        have h := h.ord [1, 1, 0, 2, 2]
        have e1 : LogT l o sv ps' mv' gv' (ols.foldl LogM.take L1) = [pt l (.cells false [.ptr o 0, sv, mv', .int .i64 (ols.foldl LogM.take L1).trim, gv', .int .i64 L1.next, .bool L1.down]), DiskP o L.own, SlP sv 1 (ptrs ps'), stars (segsL ps' L1.segs), ShP mv' 2 (spans (ols.foldl LogM.take L1).m), ShP gv' 1 (ints (ols.foldl LogM.take L1).gone)] := by
          rw [LogT, z1, z2, z3, z4, hown]
        rw [e1]
        exact h
end
end Go.Ab
