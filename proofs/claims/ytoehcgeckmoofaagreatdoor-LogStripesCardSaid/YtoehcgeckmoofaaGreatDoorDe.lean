/- seg: Put, Seal, Cut, Trim, take, Open. -/
import Derived.Test.YtoehcgeckmoofaaGreatDoorDs
set_option linter.unusedVariables false
set_option linter.unusedSimpArgs false
namespace Go.Ab
open Go Go.RowKit Go.Proofs

section
variable {w0 : World} {st : St} {Q : Kont} {F : List Prp} {s d b : Nat} {v : AV} {M : SegSt} {D : DiskM} {r : Rec}

def SegSt.add (M : SegSt) (x : Slot) : SegSt := { M with slots := M.slots ++ [x] }

theorem fill6 {v : AV} {x y l : Int} {k u : Bytes} : fillAV (fun i => [(0, 5), (5, 1)][i]?) [.int .i64 0, .int .i64 0, .nils, .str [], .str [], .int .i64 0] [(0, .agg [.int .i64 x, .int .i64 y, v, .str k, .str u]), (1, .int .i64 l)] = some [.int .i64 x, .int .i64 y, v, .str k, .str u, .int .i64 l] := rfl

theorem sp_SPut {epoch pos : Int} (g : Gnd w0) (h : Sep st (SegP s M d :: DiskP d D :: ShP v 1 (ints r.dep) :: F)) (hv : v.one = true) (hd : r.dep.length < 2 ^ 30) (hvl : r.val.length < 2 ^ 40) (hko : KeyOk r)
    (he : ∀ e, putCode M D epoch pos r = e → e ≠ 0 → ∀ st', Sep st' (SegP s M d :: DiskP d D :: ShP v 1 (ints r.dep) :: F) → Q (.int .i64 e) st')
    (h0 : putCode M D epoch pos r = 0 → ∀ st', Sep st' (SegP s (M.add ⟨pos.toNat, r, D.lines.length⟩) d :: DiskP d { D with lines := D.lines ++ [(Line.p pos.toNat r).text] } :: ShP v 1 (ints r.dep) :: F) → Q (.int .i64 0) st') :
    Cal w0 n_seg_Seg_Put [.ptr s 0, .int .i64 epoch, .int .i64 pos, recAV v r] st Q := by
  refine ok_seg_Seg_Put ?_
  unfold vc_seg_Seg_Put
  have hw := h.tail.ofDisk.1
  have hll := hw.llen
  refine h.new fun c s1 h => ?_
  simp only [nilC_ptr, faddr_ptr, Nat.zero_add]
  refine Jn_of (fun k => k (.bool (decide (pos < 0 ∨ epoch < 1 ∨ 2147483647 < max pos epoch))) s1) ?_ fun k hk => ?_
  · simp only [AsBool_bool]
    refine Br_iff.2 ⟨fun e1 => ?_, fun e1 => ?_⟩
    · have e1 := of_decide_eq_true e1
      exact he 1 (by rw [putCode, if_pos e1]) (by decide) s1 h.tail
    have e1 := of_decide_eq_false e1
    obtain ⟨b, h⟩ := (h.ord [1]).ofSeg
    refine h.ld 0 rfl rfl ?_
    simp only [bin_leq, OptK_some, AsBool_bool]
    refine Br_iff.2 ⟨fun e2 => ?_, fun e2 => ?_⟩
    · have e2 := of_decide_eq_true e2
      exact he 7 (by rw [putCode, if_neg e1, if_pos e2]) (by decide) s1 ((h.ord [2]).tail.toSeg)
    have e2 := of_decide_eq_false e2
    refine h.ld 0 rfl rfl ?_
    simp only [bin_lss, OptK_some, AsBool_bool]
    refine Br_iff.2 ⟨fun e3 => ?_, fun e3 => ?_⟩
    · have e3 := of_decide_eq_true e3
      exact he 8 (by rw [putCode, if_neg e1, if_neg e2, if_pos e3]) (by decide) s1 ((h.ord [2]).tail.toSeg)
    have e3 := of_decide_eq_false e3
    refine h.ld 0 rfl rfl ?_
    obtain ⟨p, rfl⟩ : ∃ p : Nat, pos = p := ⟨pos.toNat, by omega⟩
    obtain ⟨T, cl, hT, ok, h⟩ := (h.ord [1]).ofSlots
    have key : ∀ s2 F', Sep s2 (pt b (.amap (T.map entT) (T.map (·.2.2)) cl) :: stars (T.map shT) :: F') → Sep s2 (SlotsP b M.slots :: F') := fun s2 F' h => hT ▸ Sep.toSlots ok h
    refine h.look (fun t ht hf => ?_) fun hf => ?_
    · rw [hT] at hf
      have hone := ok.one t ht
      simp only [ext_tup, List.getElem?_cons_zero, List.getElem?_cons_succ, OptK_some]
      refine h.new fun b2 s2 h => ?_
      refine h.stoA (ws := [.int .i64 t.1.r.site, .int .i64 t.1.r.seq, t.2.1, .str t.1.r.key, .str t.1.r.val, .int .i64 t.1.line]) 0 rfl (one6 hone) (by simp) fun s2 h => ?_
      simp only [AsBool_bool, Br_true]
      have hf' : M.find (p : Int) = some t.1 := hf
      refine he 5 (by rw [putCode, if_neg e1, if_neg e2, if_neg e3, if_pos (by rw [hf']; rfl)]) (by decide) s2 ?_
      have h := key s2 _ (h.ord [1, 1])
      have h := (h.ord [2, 0]).toSeg
      exact (h.ord [1, 1]).tail.tail
    · simp only [ext_tup, List.getElem?_cons_zero, List.getElem?_cons_succ, OptK_some]
      refine h.new fun b2 s2 h => ?_
      refine h.stoA (ws := [.int .i64 0, .int .i64 0, .nils, .str [], .str [], .int .i64 0]) 0 rfl rfl (by simp) fun s2 h => ?_
      simp only [AsBool_bool, Br_false]
      have hf' : M.find (p : Int) = none := by rw [hT] at hf; exact hf
      have e4 : ¬ (M.find (p : Int)).isSome = true := by rw [hf']; simp
      -- b2, map, stars, s, c, disk, sh
      refine h.ldA 4 rfl (ws := [.int .i64 r.site, .int .i64 r.seq, v, .str r.key, .str r.val]) rfl rfl ?_
      have h := (h.ord [1, 1, 1, 1, 1, 1])
      refine sp_RCheck (F := ShP v 1 (ints r.dep) :: _) (v := v) g (h.ord [5]) (fun s hs => hs.rdS) hd hvl fun s3 h => ?_
      -- sh, map, stars, s, c, disk, b2, F
      simp only [bin_neq, OptK_some, AsBool_bool]
      have fin : ∀ s4 F', Sep s4 (ShP v 1 (ints r.dep) :: pt b (.amap (T.map entT) (T.map (·.2.2)) cl) :: stars (T.map shT) :: pt s (.cells false [.ptr d 0, .map b, .int .i64 M.sealed, .int .i64 M.trim]) :: F') → Sep s4 (SegP s M d :: ShP v 1 (ints r.dep) :: F') := fun s4 F' h => by
        have h := key s4 _ (h.ord [1, 1])
        exact (h.ord [2, 0]).toSeg
      refine Br_iff.2 ⟨fun e5 => ?_, fun e5 => ?_⟩
      · have e5 : checkR r 8 ≠ 0 := by simpa using e5
        refine he _ (by rw [putCode, if_neg e1, if_neg e2, if_neg e3, if_neg e4, if_pos e5]) e5 s3 ?_
        have h := fin s3 _ h
        -- seg, sh, c, disk, b2
        exact ((h.ord [2, 3]).tail.tail).ord [0, 1]
      have e5 : checkR r 8 = 0 := by simpa using e5
      have e5' : ¬ checkR r 8 ≠ 0 := by simpa using e5
      obtain ⟨o1, o2, o3, o4, o5, o6, o7, o8, o9⟩ := okV_of r e5
      have hkl : r.key.length ≤ 8 := by
        unfold keyBad at o7
        simp only [Bool.or_eq_false_iff, decide_eq_false_iff_not] at o7
        omega
      have hp : p ≤ 2147483647 := by omega
      have lp := itoa_len10 p hp
      have ht10 := textR10 e5 hko
      refine h.ld 3 rfl rfl ?_
      refine sp_Len (h.ord [5]) ?_
      refine h.ld 3 rfl rfl ?_
      refine h.ldA 4 rfl (ws := [.int .i64 r.site, .int .i64 r.seq, v, .str r.key, .str r.val]) rfl rfl ?_
      refine c_Itoa g (by omega) (by omega) ?_
      refine ⟨h.ldA 4 rfl (ws := [.int .i64 r.site, .int .i64 r.seq, v, .str r.key, .str r.val]) rfl rfl rfl, h.ld 3 rfl rfl rfl, ?_⟩
      rw [bin_sadd (by simp; omega), OptK_some, bin_sadd (by simp; omega), OptK_some]
      refine sp_RText (F := ShP v 1 (ints r.dep) :: _) (v := v) (r := r) g h (fun s hs => hs.rdS) o1.fitV (by omega) (by omega) (by omega) (by omega) fun s4 h => ?_
      refine ⟨h.ld 3 rfl rfl rfl, ?_⟩
      rw [bin_sadd (by simp; omega), OptK_some]
      have et : [112, 32] ++ Lib.itoa (p : Int) ++ [32] ++ textR r = (Line.p p r).text := by simp [Line.text]
      rw [et]
      have hp10 : (10 : UInt8) ∉ (Line.p p r).text := by
        have := itoa10 p
        simp [Line.text, ht10.1, this]
      have hlen : (Line.p p r).text.length ≤ 280 := by simp [Line.text]; omega
      have hpn : ((p : Nat) : Int).toNat = p := by simp
      refine sp_Write (h.ord [5]) (indexByte_no hp10) (by omega) (fun e6 s5 h => ?_) fun e6 s5 h => ?_
      · simp only [bin_neq, OptK_some, AsBool_bool]
        refine Br_t (by decide) ?_
        refine he 6 (by rw [putCode, if_neg e1, if_neg e2, if_neg e3, if_neg e4, if_neg e5', if_pos (by rw [hpn]; exact e6)]) (by decide) s5 ?_
        have h := fin s5 _ (h.ord [1, 1, 1, 1])
        exact ((h.ord [3, 3]).tail.tail).ord [0, 1]
      · simp only [bin_neq, OptK_some, AsBool_bool]
        refine Br_f (by decide) ?_
        refine h.ld 4 rfl rfl ?_
        refine h.ldA 5 rfl (ws := [.int .i64 r.site, .int .i64 r.seq, v, .str r.key, .str r.val]) rfl rfl ?_
        rw [fill6, OptK_some]
        refine Sep.putNew (x := ⟨p, r, D.lines.length⟩) (v := v) (h.ord [2]) hf fun s6 h => ?_
        have hok := ok.snoc (x := ⟨p, r, D.lines.length⟩) (v := v) hv hf
        have h0' := h0 (by rw [putCode, if_neg e1, if_neg e2, if_neg e3, if_neg e4, if_neg e5', if_neg (by rw [hpn]; omega)]) s6
        refine h0' ?_
        rw [hpn]
        -- map, disk, sh, stars, s, c, b2
        have h := (h.ord [2]).dup (pers_ShP _ _ _)
        -- sh, sh, map, disk, stars, s, c, b2
        have h := Sep.snocStars (P := shT (⟨p, r, D.lines.length⟩, v, cl)) (h.ord [4, 0])
        -- stars', sh, map, disk, s, c, b2
        have es : T.map shT ++ [shT (⟨p, r, D.lines.length⟩, v, cl)] = (T ++ [((⟨p, r, D.lines.length⟩, v, cl) : Trip)]).map shT := by simp
        rw [es] at h
        have h := (h.ord [2]).toSlots hok
        -- slots, sh, disk, s, c, b2
        have e8 : (T ++ [((⟨p, r, D.lines.length⟩ : Slot), v, cl)]).map (·.1) = (M.add ⟨p, r, D.lines.length⟩).slots := by simp [SegSt.add, hT]
        rw [e8] at h
        have h := Sep.toSeg (M := M.add ⟨p, r, D.lines.length⟩) (h.ord [3, 0])
        -- seg, sh, disk, c, b2
        exact ((h.ord [3, 3]).tail.tail).ord [0, 1]
  · have hd' : ∀ b : Bool, b = decide (pos < 0 ∨ epoch < 1 ∨ 2147483647 < max pos epoch) → k (.bool b) s1 := fun b e => e ▸ hk
    refine Br_iff.2 ⟨fun e1 => Br_iff.2 ⟨fun e2 => ?_, fun e2 => hd' _ (by simp at e2; simp [e2])⟩, fun e1 => hd' _ (by simp at e1; simp [e1])⟩
    have h1 : ¬ pos < 0 := by simpa using e1
    have h2 : ¬ epoch < 1 := by simpa using e2
    have hm : maxAV [.int .i64 pos, .int .i64 epoch] = some (.int .i64 (max pos epoch)) := by
      simp only [maxAV, if_true]; congr 2; split <;> omega
    rw [hm, OptK_some, bin_gtr, OptK_some, pick_f]
    refine hd' _ ?_
    simp [h1, h2]

def SegSt.sealUp (M : SegSt) (n : Nat) : SegSt := { M with sealed := n }

theorem noteFits (D : DiskM) (k : UInt8) (n : Nat) : (D.room < used D.lines + ((kindText k n).length + 1)) ∨ used D.lines + ((kindText k n).length + 1) ≤ D.room := by omega
def noted (D : DiskM) (k : UInt8) (n : Nat) : DiskM := ⟨D.room, D.lines ++ [kindText k n], D.lines.length + 1⟩
def noteFull (D : DiskM) (k : UInt8) (n : Nat) : Bool := decide (D.room < used D.lines + ((kindText k n).length + 1))

def sealCode (M : SegSt) (D : DiskM) (n : Nat) : Int :=
  if n < 1 ∨ 2147483647 < n then 1 else if n ≤ M.sealed then 7 else if noteFull D 115 n then 6 else 0

theorem sp_Seal {n : Nat} (g : Gnd w0) (h : Sep st (SegP s M d :: DiskP d D :: F)) (hpos : ∀ x ∈ M.slots, x.pos ≤ 2147483647) (htr : M.trim ≤ 2147483647)
    (he : ∀ e, sealCode M D n = e → e ≠ 0 → ∀ st', Sep st' (SegP s M d :: DiskP d D :: F) → Q (.tup [.int .i64 0, .int .i64 e]) st')
    (h0 : sealCode M D n = 0 → ∀ (x : Int) st', Sep st' (SegP s (M.sealUp n) d :: DiskP d (noted D 115 n) :: F) → Q (.tup [.int .i64 x, .int .i64 0]) st') :
    Cal w0 n_seg_Seg_Seal [.ptr s 0, .int .i64 n] st Q := by
  refine ok_seg_Seg_Seal ?_
  unfold vc_seg_Seg_Seal
  refine Jn_of (fun k => k (.bool (decide (n < 1 ∨ 2147483647 < n))) st) ?_ fun k hk => ?_
  · simp only [AsBool_bool]
    refine Br_iff.2 ⟨fun e1 => ?_, fun e1 => ?_⟩
    · have e1 := of_decide_eq_true e1
      exact he 1 (by rw [sealCode, if_pos e1]) (by decide) st h
    have e1 := of_decide_eq_false e1
    obtain ⟨b, h'⟩ := h.ofSeg
    simp only [nilC_ptr, faddr_ptr, Nat.zero_add]
    refine h'.ld 0 rfl rfl ?_
    clear h'
    simp only [bin_leq, OptK_some, AsBool_bool]
    refine Br_iff.2 ⟨fun e2 => ?_, fun e2 => ?_⟩
    · have e2 : n ≤ M.sealed := by have := of_decide_eq_true e2; omega
      exact he 7 (by rw [sealCode, if_neg e1, if_pos e2]) (by decide) st h
    have e2 : ¬ n ≤ M.sealed := by have := of_decide_eq_false e2; omega
    refine sp_note g h (by decide) (by omega) (fun e3 s2 h => ?_) fun e3 s2 h => ?_
    · simp only [bin_neq, OptK_some, AsBool_bool]
      refine Br_t (by decide) ?_
      exact he 6 (by rw [sealCode, if_neg e1, if_neg e2, if_pos (by simp [noteFull, e3])]) (by decide) s2 h
    · simp only [bin_neq, OptK_some, AsBool_bool]
      refine Br_f (by decide) ?_
      have hz := h0 (by rw [sealCode, if_neg e1, if_neg e2, if_neg (by simp [noteFull]; omega)])
      obtain ⟨b, h⟩ := h.ofSeg
      refine h.sto 0 rfl rfl (by simp) fun s3 h => ?_
      refine h.ld 0 rfl rfl ?_
      refine h.ld 0 rfl rfl ?_
      obtain ⟨T, cl, hT, ok, h⟩ := (h.ord [1]).ofSlots
      refine h.rng fun it s4 h => ?_
      refine ⟨fun m x st => ∃ (seen : List Nat) (y : Nat), m = unseen seen T ∧ y ≤ 2147483648 ∧ x = [.int .i64 y, .ptr it 0] ∧ Sep st (pt it (.iter (some b) cl seen cl) :: pt b (.amap (T.map entT) (T.map (·.2.2)) cl) :: stars (T.map shT) :: pt s (.cells false [.ptr d 0, .map b, .int .i64 n, .int .i64 M.trim]) :: DiskP d (noted D 115 n) :: F), _, ⟨[], M.trim, rfl, by omega, rfl, h⟩, ?_⟩
      rintro m x st ⟨seen, y, rfl, hy, rfl, h⟩
      simp only [List.getD_cons_zero, List.getD_cons_succ]
      refine h.nxt (fun s hs => ?_) (fun hend => ?_) (fun i k x sx hk hs hns s5 h => ?_)
      · obtain ⟨t, ht, rfl⟩ := List.mem_map.1 hs
        exact ok.lt t ht
      · simp only [ext_tup, List.getElem?_cons_zero, OptK_some, AsBool_bool, Br_false]
        refine hz y st ?_
        have h := Sep.toSlots ok h.tail
        rw [hT] at h
        exact Sep.toSeg (M := M.sealUp n) h.swap
      · obtain ⟨t, ht, he'⟩ : ∃ t, T[i]? = some t ∧ entT t = (k, x) := by
          rw [List.getElem?_map, Option.map_eq_some_iff] at hk; exact hk
        have hst : t.2.2 = sx := by rw [List.getElem?_map, ht] at hs; simpa using hs
        subst hst
        obtain ⟨rfl, rfl⟩ : .int .i64 t.1.pos = k ∧ slotAV t.2.1 t.1 = x := by simpa [entT] using he'
        have htm := List.mem_of_getElem? ht
        have hp := hpos t.1 (hT ▸ List.mem_map.2 ⟨t, htm, rfl⟩)
        simp only [ext_tup, List.getElem?_cons_zero, OptK_some, AsBool_bool, Br_true]
        refine h.ent hs ok.stamps hk ?_
        simp only [ext_tup, List.getElem?_cons_zero, List.getElem?_cons_succ, OptK_some]
        rw [bin_inc (by omega), OptK_some, maxAV_nat, OptK_some]
        exact ⟨_, unseen_lt htm hns, _, _, rfl, by omega, rfl, h⟩
  · have hd' : ∀ b : Bool, b = decide (n < 1 ∨ 2147483647 < n) → k (.bool b) st := fun b e => e ▸ hk
    refine Br_iff.2 ⟨fun e1 => hd' _ ?_, fun e1 => hd' _ ?_⟩
    · have e1 : ¬ n < 1 := by simp at e1; omega
      rw [Bool.eq_iff_iff]; simp; omega
    · have e1 : n < 1 := by simp at e1; omega
      simp [e1]

theorem sp_SCut {n : Nat} (g : Gnd w0) (h : Sep st (SegP s M d :: DiskP d D :: F)) (hn : n ≤ 2147483647)
    (h6 : noteFull D 99 n = true → ∀ st', Sep st' (SegP s M d :: DiskP d D :: F) → Q (.int .i64 6) st')
    (h0 : noteFull D 99 n = false → ∀ st', Sep st' (SegP s (M.cut n) d :: DiskP d (noted D 99 n) :: F) → Q (.int .i64 0) st') :
    Cal w0 n_seg_Seg_Cut [.ptr s 0, .int .i64 n] st Q := by
  refine ok_seg_Seg_Cut ?_
  unfold vc_seg_Seg_Cut
  refine Jn_of (fun k => k (.bool false) st) ?_ fun k hk => ?_
  · simp only [AsBool_bool, Br_false]
    refine sp_note g h (by decide) hn (fun e3 s2 h => ?_) fun e3 s2 h => ?_
    · simp only [bin_eql, OptK_some, AsBool_bool]
      refine Br_f (by decide) ?_
      exact h6 (by simp [noteFull, e3]) s2 h
    · simp only [bin_eql, OptK_some, AsBool_bool]
      refine Br_t (by decide) ?_
      exact sp_cut h fun s3 h => h0 (by simp [noteFull]; omega) s3 h
  · have e1 : (decide ((n : Int) < 0) == false) = true := by simp
    have e2 : decide ((2147483647 : Int) < n) = false := by simp; omega
    rw [e1, e2]; exact hk

theorem sp_STrim {n : Nat} (g : Gnd w0) (h : Sep st (SegP s M d :: DiskP d D :: F))
    (h1 : ¬ (M.trim < n ∧ n ≤ 2147483647 ∧ noteFull D 116 n = false) → ∀ st', Sep st' (SegP s M d :: DiskP d D :: F) → Q (.tup []) st')
    (h0 : M.trim < n → n ≤ 2147483647 → noteFull D 116 n = false → ∀ st', Sep st' (SegP s (M.below n) d :: DiskP d (noted D 116 n) :: F) → Q (.tup []) st') :
    Cal w0 n_seg_Seg_Trim [.ptr s 0, .int .i64 n] st Q := by
  refine ok_seg_Seg_Trim ?_
  unfold vc_seg_Seg_Trim
  refine Jn_of (fun k => (¬ (M.trim < n ∧ n ≤ 2147483647 ∧ noteFull D 116 n = false) → ∀ s2, Sep s2 (SegP s M d :: DiskP d D :: F) → k (.bool false) s2) ∧ (M.trim < n → n ≤ 2147483647 → noteFull D 116 n = false → ∀ s2, Sep s2 (SegP s M d :: DiskP d (noted D 116 n) :: F) → k (.bool true) s2)) ⟨fun e s2 h => ?_, fun e1 e2 e3 s2 h => ?_⟩ fun k hk => ?_
  · simp only [AsBool_bool, Br_false]; exact h1 e s2 h
  · simp only [AsBool_bool, Br_true]
    exact sp_cutBelow h fun s3 h => h0 e1 e2 e3 s3 h
  · obtain ⟨b, h'⟩ := h.ofSeg
    simp only [nilC_ptr, faddr_ptr, Nat.zero_add]
    refine h'.ld 0 rfl rfl ?_
    clear h'
    simp only [bin_gtr, OptK_some, AsBool_bool]
    refine Br_iff.2 ⟨fun e1 => ?_, fun e1 => ?_⟩
    · have e1 : M.trim < n := by simp at e1; omega
      refine Br_iff.2 ⟨fun e2 => ?_, fun e2 => ?_⟩
      · have e2 : n ≤ 2147483647 := by simp at e2; omega
        refine sp_note g h (by decide) e2 (fun e3 s2 h => ?_) fun e3 s2 h => ?_
        · simp only [bin_eql, OptK_some, pick_t]
          refine hk.1 (fun hh => ?_) s2 h
          have := hh.2.2; simp [noteFull] at this; omega
        · simp only [bin_eql, OptK_some, pick_t]
          exact hk.2 e1 e2 (by simp [noteFull]; omega) s2 h
      · have e2 : ¬ n ≤ 2147483647 := by simp at e2; omega
        exact hk.1 (fun hh => e2 hh.2.1) st h
    · have e1 : ¬ M.trim < n := by simp at e1; omega
      exact hk.1 (fun hh => e1 hh.1) st h
end
end Go.Ab
