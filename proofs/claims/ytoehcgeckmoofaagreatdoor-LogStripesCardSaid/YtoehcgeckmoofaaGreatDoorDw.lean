/- maint: Trim, Resize. -/
import Derived.Test.YtoehcgeckmoofaaGreatDoorDu
set_option linter.unusedVariables false
set_option linter.unusedSimpArgs false
namespace Go.Ab
open Go Go.RowKit Go.Proofs

def DiskM.put (D : DiskM) (x : Bytes) : DiskM := ⟨D.room, D.lines ++ [x], D.lines.length + 1⟩
def DiskM.full (D : DiskM) (x : Bytes) : Bool := decide (D.room < used D.lines + (x.length + 1))

def LogM.trimCode (L : LogM) (pos : Int) (v : List Int) : Int :=
  if L.down then 11 else if pos < L.trim ∨ (L.head : Int) < pos ∨ sameV v (L.withL L.gone L.trim pos.toNat) = false then 1
  else if L.own.full (OLine.t pos.toNat v).text then 6 else 0
def trimS (n : Nat) (S : SegM) : SegM := if S.1.trim < n ∧ n ≤ 2147483647 ∧ noteFull S.2 116 n = false then (S.1.below n, noted S.2 116 n) else S
def LogM.trimmed (L : LogM) (n : Nat) (v : List Int) : LogM := { L with own := L.own.put (OLine.t n v).text, trim := n, gone := v, segs := L.segs.map (trimS n) }

theorem itoa10i (n : Int) : (10 : UInt8) ∉ Lib.itoa n := by
  rcases Int.lt_or_le n 0 with h | h
  · obtain ⟨u, rfl⟩ : ∃ u : Nat, n = -(u : Int) := ⟨n.natAbs, by omega⟩
    rw [Lib.itoa_neg u (by omega)]
    intro hh
    rcases List.mem_cons.1 hh with hh | hh
    · cases hh
    · have := dec_digs u 10 hh; simp [isDig] at this
  · intro hh; have := itoa_no n h 10 hh; simp [isDig] at this
theorem join10 : ∀ (xs : List Bytes), (∀ x ∈ xs, (10 : UInt8) ∉ x) → (10 : UInt8) ∉ Lib.join xs [32]
  | [], _ => by simp [Lib.join, List.intercalate]
  | [x], hx => by rw [join_one]; exact hx x (by simp)
  | x :: y :: ys, hx => by
    rw [join_cons]
    have h1 := join10 (y :: ys) fun z hz => hx z (List.mem_cons_of_mem _ hz)
    have h2 := hx x (by simp)
    simp [h1, h2]
theorem textV10 (xs : List Int) : (10 : UInt8) ∉ textV xs := by
  have := join10 ((trimV xs).map Lib.itoa) fun x hx => by
    obtain ⟨n, hn, rfl⟩ := List.mem_map.1 hx; exact itoa10i n
  simp [textV, this]
theorem textM10 (ms : List Span) : (10 : UInt8) ∉ textM ms := join10 _ fun x hx => by
  obtain ⟨s, _, rfl⟩ := List.mem_map.1 hx
  have h1 := itoa10 s.1
  have h2 := itoa10 s.2
  simp [spanText, h1, h2]

theorem withL_len (L : LogM) (wf : L.WF) (a b : Nat) (v : List Int) (hv : v.length ≤ 64) : (L.withL v a b).length ≤ 64 := by
  unfold LogM.withL
  generalize b - a = n
  induction n generalizing a v with
  | zero => exact hv
  | succ n ih =>
    rw [LogM.withFrom]
    refine ih _ _ ?_
    have := siteSeq_ok wf a
    rw [withV_len]; omega

section
variable {w0 : World} {st : St} {Q : Kont} {F : List Prp} {l o b : Nat} {sv mv gv v : AV} {ps : List (Nat × Nat)} {L : LogM} {xs : List Int}

theorem sp_LTrim {pos : Int} (g : Gnd w0) (h : Sep st (LogP l L :: F)) (wf : L.WF) (r : RdIn F v xs) (f : FitV xs) (hx64 : xs.length ≤ 64)
    (he : ∀ e, L.trimCode pos xs = e → e ≠ 0 → ∀ st', Sep st' (LogP l L :: F) → Q (.int .i64 e) st')
    (h0 : L.trimCode pos xs = 0 → ∀ st', Sep st' (LogP l (L.trimmed pos.toNat xs) :: F) → Q (.int .i64 0) st') :
    Cal w0 n_maint_Log_Trim [.ptr l 0, .int .i64 pos, v] st Q := by
  refine ok_maint_Log_Trim ?_
  unfold vc_maint_Log_Trim
  simp only [nilC_ptr, faddr_ptr, Nat.zero_add]
  obtain ⟨o, sv, ps, mv, gv, e, h⟩ := h.ofLog
  have hnx := wf.next
  have hhd := head_le L wf
  have hg := wf.gone
  have h8 := wf.segs
  have hrF : ∀ s, Sep s (LogT l o sv ps mv gv L ++ F) → Rd s v 1 (ints xs) := fun s hs => r s (hs.tail.tail.tail.tail.tail.tail)
  have hxl := f.len
  refine Jn_of (fun kk => L.down = false → ¬ (pos < L.trim ∨ (L.head : Int) < pos ∨ sameV xs (L.withL L.gone L.trim pos.toNat) = false) → ∀ s, Sep s (LogT l o sv ps mv gv L ++ F) → kk s) (fun hd hcond s h => ?_) fun kk hkk => ?_
  · have e1' : ¬ L.down = true := by rw [hd]; simp
    obtain ⟨p, rfl⟩ : ∃ p : Nat, pos = p := ⟨pos.toNat, by omega⟩
    have hp : p ≤ 2147483648 := by omega
    have hpn : ((p : Nat) : Int).toNat = p := by simp
    rw [hpn] at hcond
    refine h.ld 0 rfl rfl ?_
    have lp := Lib.itoa_length_le (p : Int) (by omega) (by omega)
    have lt := textV_len f
    refine c_Itoa g (by omega) (by omega) ?_
    refine ⟨h.ld 0 rfl rfl rfl, ?_⟩
    rw [bin_sadd (by simp; omega), OptK_some, bin_sadd (by simp; omega), OptK_some]
    refine sp_Text g h (fun s hs => hrF s hs) f fun s h => ?_
    refine ⟨h.ld 0 rfl rfl rfl, ?_⟩
    rw [bin_sadd (by simp; omega), OptK_some]
    have et : [116, 32] ++ Lib.itoa (p : Int) ++ [32] ++ textV xs = (OLine.t p xs).text := by simp [OLine.text]
    rw [et]
    have ht10 : (10 : UInt8) ∉ (OLine.t p xs).text := by
      have h1 := itoa10 p
      have h2 := textV10 xs
      simp [OLine.text, h1, h2]
    have hlen : (OLine.t p xs).text.length ≤ 1048576 := by simp [OLine.text]; omega
    have hcode : L.trimCode (p : Int) xs = if L.own.full (OLine.t p xs).text then 6 else 0 := by
      rw [LogM.trimCode, if_neg e1', hpn, if_neg hcond]
    refine sp_Write (h.ord [1]) (indexByte_no ht10) hlen (fun e6 s2 h => ?_) fun e6 s2 h => ?_
    · simp only [bin_neq, OptK_some, AsBool_bool]
      refine Br_t (by decide) ?_
      refine he 6 (by rw [hcode, if_pos (by simp [DiskM.full, e6])]) (by decide) s2 ?_
      exact (h.swap).toLog e
    · simp only [bin_neq, OptK_some, AsBool_bool]
      refine Br_f (by decide) ?_
      refine h.ld 1 rfl rfl ?_
      refine sp_Sync h fun s3 h => ?_
      simp only [List.length_append, List.length_cons, List.length_nil, Nat.zero_add] at h
      -- own, l, sl, segs, m, g
      refine sp_CloneV h (fun s hs => r s (hs.tail.tail.tail.tail.tail.tail)) (by omega) fun w s4 hw h => ?_
      -- w, own, l, sl, segs, m, g
      refine h.sto 2 rfl rfl (by simp) fun s5 h => ?_
      refine h.sto 2 rfl hw (by simp) fun s6 h => ?_
      refine h.ld 2 rfl rfl ?_
      refine ((h.ord [3]).rd).len (n := ps.length) (by simp [ptrs]) (by omega) ?_
      let mid : Nat → LogM := fun k => { (L.trimmed p xs) with segs := List.zipWith (fun S (_ : Unit) => trimS p S) L.segs (List.replicate k ()) ++ L.segs.drop (List.replicate k ()).length }
      have h := (h.slSh.ord [6]).tail
      -- w, own, l, sl, segs, m
      have h0' := h0 (by rw [hcode, if_neg (by simp [DiskM.full]; omega)])
      rw [hpn] at h0'
      refine ⟨fun n x s => ∃ k : Nat, n = ps.length - k ∧ k ≤ ps.length ∧ x = [.int .i64 p, sv, .int .i64 ps.length, .int .i64 k] ∧ Sep s (LogT l o sv ps mv w (mid k) ++ F), _, ⟨0, rfl, by omega, rfl, ?_⟩, ?_⟩
      · have e0 : LogT l o sv ps mv w (mid 0) = [pt l (.cells false [.ptr o 0, sv, mv, .int .i64 p, w, .int .i64 L.next, .bool L.down]), DiskP o ⟨L.own.room, L.own.lines ++ [(OLine.t p xs).text], L.own.lines.length + 1⟩, SlP sv 1 (ptrs ps), stars (segsL ps L.segs), ShP mv 2 (spans L.m), ShP w 1 (ints xs)] := by
          simp [mid, LogM.trimmed, DiskM.put, LogT]
        rw [e0]
        exact h.ord [2, 1, 1, 1, 1, 0]
      rintro n x s7 ⟨k, rfl, hk, rfl, h⟩
      simp only [List.getD_cons_zero, List.getD_cons_succ, bin_lss, OptK_some, AsBool_bool]
      refine Br_iff.2 ⟨fun e1 => ?_, fun e1 => ?_⟩
      · have e1 : k < ps.length := by simpa using e1
        have hrl : (List.replicate k ()).length = k := by simp
        obtain ⟨q, hq'⟩ : ∃ q, ps[k]? = some q := ⟨ps[k]'(by omega), List.getElem?_eq_getElem (by omega)⟩
        obtain ⟨S, hS⟩ : ∃ S, L.segs[k]? = some S := ⟨L.segs[k]'(by omega), List.getElem?_eq_getElem (by omega)⟩
        have hmS : (mid k).segs[k]? = some S := by
          have := mid_get (fun S (_ : Unit) => trimS p S) L.segs (List.replicate k ()) (by simp; omega) (k := k) (by simp)
          simp only [mid]; rw [this]; exact hS
        have hset : (mid k).segs.set k (trimS p S) = (mid (k + 1)).segs := by
          have := mid_set (fun S (_ : Unit) => trimS p S) L.segs (List.replicate k ()) () (x := S) (by rw [hrl]; exact hS)
          rw [← List.replicate_succ'] at this
          rw [hrl] at this
          simp only [mid, hrl]; exact this
        refine ((h.ord [2]).rd).at1 (ptrs_at hq') ?_
        have h := ((h.ord [3]).focus (segsL_get hq' hmS)).ofStar
        -- seg, disk, rest, l, own, sl, m, g
        refine sp_STrim g h (fun hno s8 h => ?_) fun y1 y2 y3 s8 h => ?_
        · rw [bin_inc (by omega), OptK_some]
          have h := Sep.refocus hq' hmS h
          have e10 : (S.1, S.2) = trimS p S := by rw [trimS, if_neg hno]
          rw [e10, hset] at h
          exact ⟨ps.length - (k + 1), by omega, k + 1, rfl, by omega, rfl, h.ord [1, 1, 1, 0]⟩
        · rw [bin_inc (by omega), OptK_some]
          have h := Sep.refocus hq' hmS h
          have e10 : (S.1.below p, noted S.2 116 p) = trimS p S := by rw [trimS, if_pos ⟨y1, y2, y3⟩]
          rw [e10, hset] at h
          exact ⟨ps.length - (k + 1), by omega, k + 1, rfl, by omega, rfl, h.ord [1, 1, 1, 0]⟩
      · have e1 : k = L.segs.length := by
          have : ¬ k < ps.length := by simpa using e1
          omega
        have hsg : mid k = L.trimmed p xs := by
          simp only [mid]
          rw [e1, zipWith_rep, List.drop_eq_nil_of_le (by simp), List.append_nil]
          rfl
        rw [hsg] at h
        exact h0' s7 (h.toLog (by simp [LogM.trimmed]; omega))
  · refine h.ld 0 rfl rfl ?_
    simp only [AsBool_bool]
    refine Br_iff.2 ⟨fun e1 => ?_, fun e1 => ?_⟩
    · exact he 11 (by rw [LogM.trimCode, if_pos e1]) (by decide) st (h.toLog e)
    have e1' : ¬ L.down = true := by rw [e1]; simp
    have bad : (pos < L.trim ∨ (L.head : Int) < pos ∨ sameV xs (L.withL L.gone L.trim pos.toNat) = false) → ∀ s, Sep s (LogT l o sv ps mv gv L ++ F) → Q (.int .i64 1) s := fun hc s h => he 1 (by rw [LogM.trimCode, if_neg e1', if_pos hc]) (by decide) s (h.toLog e)
    refine h.ld 0 rfl rfl ?_
    simp only [bin_lss, OptK_some, AsBool_bool]
    refine Br_iff.2 ⟨fun e2 => ?_, fun e2 => bad (.inl (by simpa using e2)) st h⟩
    have e2 : ¬ pos < L.trim := by simpa using e2
    refine sp_HeadT h wf e fun s h => ?_
    simp only [bin_gtr, OptK_some, pick_f, AsBool_bool]
    refine Br_iff.2 ⟨fun e3 => ?_, fun e3 => bad (.inr (.inl (by simpa using e3))) s h⟩
    have e3 : ¬ (L.head : Int) < pos := by simpa using e3
    obtain ⟨p, rfl⟩ : ∃ p : Nat, pos = p := ⟨pos.toNat, by omega⟩
    refine h.ld 0 rfl rfl ?_
    refine h.ld 0 rfl rfl ?_
    have h := ((h.ord [5]).dup (pers_ShP _ _ _)).ord [2, 2, 2, 2, 2, 0]
    refine sp_with h wf e hg (by omega) fun w s2 hw h => ?_
    have hwl := withL_len L wf L.trim p L.gone hg
    refine sp_Same (xs := xs) (ys := L.withL L.gone L.trim p) (hrF _ ((h.ord [6]).tail)) ((h.ord [6]).rdS) (by omega) (by omega) ?_
    have h := (h.ord [6]).tail
    simp only [un_not, OptK_some, pick_f, AsBool_bool]
    refine Br_iff.2 ⟨fun e4 => ?_, fun e4 => ?_⟩
    · exact bad (.inr (.inr (by simpa using e4))) s2 h
    · have e4 : sameV xs (L.withL L.gone L.trim p) = true := by simpa using e4
      refine hkk e1 ?_ s2 h
      rw [show ((p : Nat) : Int).toNat = p by simp, e4]; simp; omega

def sealS (n : Nat) (S : SegM) : SegM := if sealCode S.1 S.2 n = 0 then (S.1.sealUp n, noted S.2 115 n) else S
def LogM.resized (L : LogM) (n : Nat) : LogM := { L with own := L.own.put (OLine.m (L.m ++ [(L.next, n)])).text, m := L.m ++ [(L.next, n)], segs := L.segs.map (sealS L.m.length) }

/-- Where nothing is full. -/
theorem sp_LResize {n : Nat} (g : Gnd w0) (h : Sep st (LogP l L :: F)) (wf : L.WF) (h1 : 1 ≤ n) (h2 : n ≤ 8) (hd : L.down = false)
    (hpos : ∀ S ∈ L.segs, ∀ x ∈ S.1.slots, x.pos ≤ 2147483647)
    (he : L.head ≠ L.next → ∀ st', Sep st' (LogP l L :: F) → Q (.int .i64 12) st')
    (hfull : L.head = L.next → (∀ S ∈ L.segs, noteFull S.2 115 L.m.length = false) ∧ L.own.full (OLine.m (L.m ++ [(L.next, n)])).text = false ∧ OkM (L.m ++ [(L.next, n)]) ∧ ∀ S ∈ L.segs, S.1.trim ≤ 2147483647)
    (h0 : L.head = L.next → ∀ st', Sep st' (LogP l (L.resized n) :: F) → Q (.int .i64 0) st') :
    Cal w0 n_maint_Log_Resize [.ptr l 0, .int .i64 n] st Q := by
  refine ok_maint_Log_Resize ?_
  unfold vc_maint_Log_Resize
  simp only [nilC_ptr, faddr_ptr, Nat.zero_add]
  obtain ⟨o, sv, ps, mv, gv, e, h⟩ := h.ofLog
  have hnx := wf.next
  have h8 := wf.segs
  have hml := wf.m.len
  refine h.ld 0 rfl rfl ?_
  rw [hd]
  simp only [AsBool_bool]
  refine Br_f rfl ?_
  refine Jn_of (fun kk => kk (.bool false) st) ?_ fun kk hkk => ?_
  · simp only [AsBool_bool, Br_false]
    refine h.ld 0 rfl rfl ?_
    refine sp_HeadT h wf e fun s h => ?_
    refine ⟨h.ld 0 rfl rfl rfl, ?_⟩
    simp only [bin_neq, OptK_some, AsBool_bool]
    refine Br_iff.2 ⟨fun e1 => ?_, fun e1 => ?_⟩
    · exact he (fun hh => by rw [hh] at e1; simp at e1) s (h.toLog e)
    have e1 : L.head = L.next := by have : (L.head : Int) = L.next := by simpa using e1
                                    omega
    obtain ⟨hf1, hf2, hokm, htrims⟩ := hfull e1
    refine h.ld 0 rfl rfl ?_
    refine ((h.ord [2]).rd).len (n := ps.length) (by simp [ptrs]) (by omega) ?_
    let mid : Nat → LogM := fun k => { L with segs := List.zipWith (fun S (_ : Unit) => sealS L.m.length S) L.segs (List.replicate k ()) ++ L.segs.drop (List.replicate k ()).length }
    refine ⟨fun n' x s => ∃ k : Nat, n' = ps.length - k ∧ k ≤ ps.length ∧ x = [.ptr l 0, .int .i64 n, sv, .int .i64 ps.length, .int .i64 k] ∧ Sep s (LogT l o sv ps mv gv (mid k) ++ F), _, ⟨0, rfl, by omega, rfl, by simpa [mid] using h⟩, ?_⟩
    rintro n' x s7 ⟨k, rfl, hk, rfl, h⟩
    simp only [List.getD_cons_zero, List.getD_cons_succ, bin_lss, OptK_some, AsBool_bool, nilC_ptr, faddr_ptr, Nat.zero_add]
    refine Br_iff.2 ⟨fun e1 => ?_, fun e1 => ?_⟩
    · have e1 : k < ps.length := by simpa using e1
      have hrl : (List.replicate k ()).length = k := by simp
      obtain ⟨q, hq'⟩ : ∃ q, ps[k]? = some q := ⟨ps[k]'(by omega), List.getElem?_eq_getElem (by omega)⟩
      obtain ⟨S, hS⟩ : ∃ S, L.segs[k]? = some S := ⟨L.segs[k]'(by omega), List.getElem?_eq_getElem (by omega)⟩
      have hmS : (mid k).segs[k]? = some S := by
        have := mid_get (fun S (_ : Unit) => sealS L.m.length S) L.segs (List.replicate k ()) (by simp; omega) (k := k) (by simp)
        simp only [mid]; rw [this]; exact hS
      have hset : (mid k).segs.set k (sealS L.m.length S) = (mid (k + 1)).segs := by
        have := mid_set (fun S (_ : Unit) => sealS L.m.length S) L.segs (List.replicate k ()) () (x := S) (by rw [hrl]; exact hS)
        rw [← List.replicate_succ'] at this
        rw [hrl] at this
        simp only [mid, hrl]; exact this
      refine ((h.ord [2]).rd).at1 (ptrs_at hq') ?_
      refine ok_maint_Log_Epoch ?_
      unfold vc_maint_Log_Epoch
      simp only [nilC_ptr, faddr_ptr, Nat.zero_add]
      refine h.ld 0 rfl rfl ?_
      refine ((h.ord [4]).rdS).len (n := L.m.length) (spans_len _) (by omega) ?_
      have h := ((h.ord [3]).focus (segsL_get hq' hmS)).ofStar
      -- seg, disk, rest, l, own, sl, m, g
      have hSm := List.mem_of_getElem? hS
      refine sp_Seal g h (hpos S hSm) (htrims S hSm) (fun ec hec hne s8 h => ?_) fun hec y s8 h => ?_
      · simp only [ext_tup, List.getElem?_cons_zero, List.getElem?_cons_succ, OptK_some, bin_eql, AsBool_bool]
        have hne6 : ec ≠ 6 := by
          rintro rfl
          unfold sealCode at hec
          rw [hf1 S hSm] at hec
          split at hec
          · cases hec
          · split at hec
            · cases hec
            · cases hec
        refine Br_f (by simp [hne6]) ?_
        rw [bin_inc (by omega), OptK_some]
        have h := Sep.refocus hq' hmS h
        have e10 : (S.1, S.2) = sealS L.m.length S := by rw [sealS, if_neg (by rw [hec]; exact hne)]
        rw [e10, hset] at h
        exact ⟨ps.length - (k + 1), by omega, k + 1, rfl, by omega, rfl, h.ord [1, 1, 1, 0]⟩
      · simp only [ext_tup, List.getElem?_cons_zero, List.getElem?_cons_succ, OptK_some, bin_eql, AsBool_bool]
        refine Br_f (by decide) ?_
        rw [bin_inc (by omega), OptK_some]
        have h := Sep.refocus hq' hmS h
        have e10 : (S.1.sealUp L.m.length, noted S.2 115 L.m.length) = sealS L.m.length S := by rw [sealS, if_pos hec]
        rw [e10, hset] at h
        exact ⟨ps.length - (k + 1), by omega, k + 1, rfl, by omega, rfl, h.ord [1, 1, 1, 0]⟩
    · have e1 : k = L.segs.length := by
        have : ¬ k < ps.length := by simpa using e1
        omega
      have hsg : mid k = { L with segs := L.segs.map (sealS L.m.length) } := by
        simp only [mid]
        rw [e1, zipWith_rep, List.drop_eq_nil_of_le (by simp), List.append_nil]
      rw [hsg] at h
      refine h.ld 0 rfl rfl ?_
      refine h.ld 0 rfl rfl ?_
      refine sp_MAdd h (fun s hs => (hs.ord [4]).rdS) hokm fun mw s8 hmw h => ?_
      simp only [ext_tup, List.getElem?_cons_zero, List.getElem?_cons_succ, OptK_some, bin_eql, AsBool_bool]
      -- mw, l, own, sl, segs, m, g
      refine Jn_of (fun kk => ∀ s, Sep s (SlP mw 2 (spans (L.m ++ [(L.next, n)])) :: pt l (.cells false [.ptr o 0, sv, mv, .int .i64 L.trim, gv, .int .i64 L.next, .bool L.down]) :: DiskP o { L.own with lines := L.own.lines ++ [(OLine.m (L.m ++ [(L.next, n)])).text] } :: SlP sv 1 (ptrs ps) :: stars (segsL ps (L.segs.map (sealS L.m.length))) :: ShP mv 2 (spans L.m) :: ShP gv 1 (ints L.gone) :: F) → kk (.int .i64 0) s) (fun s h => ?_) fun kk hkk => ?_
      · simp only [bin_neq, OptK_some, AsBool_bool]
        refine Br_f (by decide) ?_
        refine h.ld 1 rfl rfl ?_
        refine sp_Sync (h.ord [2]) fun s h => ?_
        simp only [List.length_append, List.length_cons, List.length_nil, Nat.zero_add] at h
        -- own, mw, l, sl, segs, m, g
        refine h.sto 2 rfl hmw (by simp) fun s h => ?_
        refine h0 (by assumption) s ?_
        have h := ((h.ord [1]).slSh.ord [5]).tail
        -- mw, own, l, sl, segs, g
        exact Sep.toLog (L := L.resized n) (o := o) (sv := sv) (mv := mw) (gv := gv) (ps := ps) (by simp [LogM.resized]; omega) (h.ord [2, 1, 1, 1, 0, 0])
      · refine Br_t (by decide) ?_
        refine h.ld 1 rfl rfl ?_
        refine sp_MText g h (fun s hs => hs.rd) hokm fun s h => ?_
        refine ⟨h.ld 1 rfl rfl rfl, ?_⟩
        have htl := textM_len hokm
        have hokl := hokm.len
        rw [bin_sadd (by simp; omega), OptK_some]
        have et : [109, 32] ++ textM (L.m ++ [(L.next, n)]) = (OLine.m (L.m ++ [(L.next, n)])).text := by simp [OLine.text]
        rw [et]
        have ht10 : (10 : UInt8) ∉ (OLine.m (L.m ++ [(L.next, n)])).text := by
          have h1 := textM10 (L.m ++ [(L.next, n)])
          simp [OLine.text, h1]
        have hown := (h.ord [2]).ofDisk.1
        have hr : L.own.room ≤ 1048576 := hown.room
        have hlen : (OLine.m (L.m ++ [(L.next, n)])).text.length ≤ 1048576 := by
          simp only [DiskM.full, decide_eq_false_iff_not] at hf2
          omega
        refine sp_Write (h.ord [2]) (indexByte_no ht10) hlen (fun e6 s h => ?_) fun e6 s h => ?_
        · have e6 : L.own.room < used L.own.lines + ((OLine.m (L.m ++ [(L.next, n)])).text.length + 1) := e6
          simp only [DiskM.full, decide_eq_false_iff_not] at hf2; exact absurd e6 hf2
        · exact hkk s (h.ord [1, 1, 0])
  · have e1 : (decide ((n : Int) < 1) == false) = true := by simp; omega
    have e2 : decide ((8 : Int) < n) = false := by simp; omega
    rw [e1, e2]; exact hkk
end
end Go.Ab
