/- seg: All: the keys of a map, sorted. -/
import Derived.Test.YtoehcgeckmoofaaGreatDoorDf
import Derived.Test.YtoehcgeckmoofaaGreatDoorPb
set_option linter.unusedVariables false
set_option linter.unusedSimpArgs false
namespace Go.Ab
open Go Go.RowKit Go.Proofs

theorem sortI_perm {a b : List Int} (h : a.Perm b) : sortI a = sortI b := by
  have h1 : (sortI a).Perm (sortI b) := ((List.mergeSort_perm a _).trans h).trans (List.mergeSort_perm b _).symm
  have s : ∀ l : List Int, (sortI l).Pairwise (fun x y => x ≤ y) := fun l => by
    have := List.pairwise_mergeSort (le := fun x y : Int => decide (x ≤ y)) (fun a b c => by simp; omega) (fun a b => by simp; omega) l
    exact this.imp fun h => by simpa using h
  exact h1.eq_of_pairwise (fun a b _ _ h1 h2 => by omega) (s a) (s b)

section
variable {w0 : World} {st : St} {Q : Kont} {F : List Prp} {s d b c i : Nat} {v : AV} {M : SegSt} {T : List Trip} {cl : Nat}

def posT (t : Trip) : Int := (t.1.pos : Int)

theorem keys_loop (ok : TripOk T cl) (C : List Trip → Prp) (h : Sep st (C [] :: sh c (.cells false [.map b]) :: pt b (.amap (T.map entT) (T.map (fun t : Trip => t.2.2)) cl) :: F))
    (hround : ∀ (done : List Trip) (t : Trip) (s : St) (F' : List Prp), t ∈ T → done.length < T.length → Sep s (C done :: sh c (.cells false [.map b]) :: pt b (.amap (T.map entT) (T.map (fun t : Trip => t.2.2)) cl) :: F') →
      AYield Tryz.prog w0 i [.int .i64 (posT t)] s fun r s' => r = .bool true ∧ Sep s' (C (done ++ [t]) :: sh c (.cells false [.map b]) :: pt b (.amap (T.map entT) (T.map (fun t : Trip => t.2.2)) cl) :: F'))
    (hq : ∀ (done : List Trip) s, done.Perm T → Sep s (C done :: sh c (.cells false [.map b]) :: pt b (.amap (T.map entT) (T.map (fun t : Trip => t.2.2)) cl) :: F) → Q (.tup []) s) :
    Cal w0 n_maps_Keys_map_int_seg_slot_int_seg_slot_1 [.yield i, .ptr c 0] st Q := by
  refine ok_maps_Keys_map_int_seg_slot_int_seg_slot_1 ?_
  unfold vc_maps_Keys_map_int_seg_slot_int_seg_slot_1
  have hTn : T.Nodup := List.Pairwise.of_map (fun t : Trip => t.2.2) (fun a b h e => h (by rw [e])) ok.stamps
  refine h.ldS 1 rfl rfl ?_
  refine (h.ord [2]).rng fun it s1 h => ?_
  -- iter, map, C, sh
  refine ⟨fun n x s => ∃ done : List Trip, n = unseen (done.map (fun t : Trip => t.2.2)) T ∧ x = [.yield i, .ptr it 0] ∧ done.Nodup ∧ (∀ t ∈ done, t ∈ T) ∧ done.length + unseen (done.map (fun t : Trip => t.2.2)) T ≤ T.length ∧ Sep s (pt it (.iter (some b) cl (done.map (fun t : Trip => t.2.2)) cl) :: pt b (.amap (T.map entT) (T.map (fun t : Trip => t.2.2)) cl) :: C done :: sh c (.cells false [.map b]) :: F), _, ⟨[], rfl, rfl, by simp, by simp, by simp [unseen]; exact List.length_filter_le _ _, h⟩, ?_⟩
  rintro n x s ⟨done, rfl, rfl, hnd, hin, hcnt, h⟩
  simp only [List.getD_cons_zero, List.getD_cons_succ]
  have hdone : ∀ t ∈ T, t.2.2 ∈ done.map (fun t : Trip => t.2.2) → t ∈ done := fun t ht hm => by
    obtain ⟨u, hu, he⟩ := List.mem_map.1 hm
    obtain ⟨i1, h1, e1⟩ := List.mem_iff_getElem.1 ht
    obtain ⟨i2, h2, e2⟩ := List.mem_iff_getElem.1 (hin u hu)
    have hpw := List.pairwise_iff_getElem.1 ok.stamps
    have hij : i1 = i2 := by
      rcases Nat.lt_trichotomy i1 i2 with h' | h' | h'
      · have := hpw i1 i2 (by simpa using h1) (by simpa using h2) h'
        simp only [List.getElem_map, e1, e2] at this; exact absurd he.symm this
      · exact h'
      · have := hpw i2 i1 (by simpa using h2) (by simpa using h1) h'
        simp only [List.getElem_map, e1, e2] at this; exact absurd he this
    subst hij; rw [← e1, e2]; exact hu
  refine h.nxt (fun s hs => ?_) (fun hend => ?_) (fun j k x sx hk hs hns s5 h => ?_)
  · obtain ⟨t, ht, rfl⟩ := List.mem_map.1 hs
    exact ok.lt t ht
  · simp only [ext_tup, List.getElem?_cons_zero, OptK_some, AsBool_bool, Br_false]
    refine hq done s ?_ (h.tail.ord [1, 1])
    rw [List.perm_ext_iff_of_nodup hnd hTn]
    exact fun t => ⟨hin t, fun ht => hdone t ht (hend t.2.2 (List.mem_map.2 ⟨t, ht, rfl⟩))⟩
  · obtain ⟨t, ht, he'⟩ : ∃ t, T[j]? = some t ∧ entT t = (k, x) := by
      rw [List.getElem?_map, Option.map_eq_some_iff] at hk; exact hk
    have hst : t.2.2 = sx := by rw [List.getElem?_map, ht] at hs; simpa using hs
    subst hst
    obtain ⟨rfl, rfl⟩ : .int .i64 t.1.pos = k ∧ slotAV t.2.1 t.1 = x := by simpa [entT] using he'
    have htm := List.mem_of_getElem? ht
    simp only [ext_tup, List.getElem?_cons_zero, OptK_some, AsBool_bool, Br_true]
    refine h.ent hs ok.stamps hk ?_
    simp only [ext_tup, List.getElem?_cons_zero, List.getElem?_cons_succ, OptK_some]
    have hnt : t ∉ done := fun hh => hns (List.mem_map.2 ⟨t, hh, rfl⟩)
    have hu := unseen_lt htm hns
    have hlen : done.length < T.length := by omega
    refine AYield.mono (hround done t s5 _ htm hlen (h.ord [2, 2, 1])) ?_
    rintro r s6 ⟨rfl, h⟩
    simp only [un_not, OptK_some, AsBool_bool, Bool.not_true, Br_false]
    have e : done.map (fun t : Trip => t.2.2) ++ [t.2.2] = (done ++ [t]).map (fun t : Trip => t.2.2) := by simp
    rw [e] at h hu
    refine ⟨_, hu, done ++ [t], rfl, trivial, ?_, fun u hu => ?_, ?_, h.ord [3, 2, 0]⟩
    · rw [List.nodup_append]
      exact ⟨hnd, by simp, fun a ha c hc => by simp at hc; subst hc; exact fun e => hnt (e ▸ ha)⟩
    · rcases List.mem_append.1 hu with hu | hu
      · exact hin u hu
      · simp at hu; subst hu; exact htm
    · rw [List.length_append]; simp only [List.length_cons, List.length_nil]; omega

theorem sp_Sorted (ok : TripOk T cl) (hl : T.length < 2 ^ 30) (h : Sep st (sh c (.cells false [.map b]) :: pt b (.amap (T.map entT) (T.map (·.2.2)) cl) :: F))
    (hq : ∀ v st', Sep st' (SlP v 1 (ints (sortI (T.map posT))) :: sh c (.cells false [.map b]) :: pt b (.amap (T.map entT) (T.map (·.2.2)) cl) :: F) → Q v st') :
    Cal w0 n_slices_Sorted_int [.func n_maps_Keys_map_int_seg_slot_int_seg_slot_1 [] [.ptr c 0]] st Q := by
  refine ok_slices_Sorted_int ?_
  unfold vc_slices_Sorted_int
  refine ok_slices_Collect_int ?_
  unfold vc_slices_Collect_int
  refine ok_slices_AppendSeq_int_int ?_
  unfold vc_slices_AppendSeq_int_int
  have hc : AV.cellsOk .nils = some [.nils] := rfl
  rw [hc, OptK_some]
  refine h.new fun o s1 h => ?_
  let al : ALoop := { st := .ready, pend := none, tmps := [.nils, .func n_maps_Keys_map_int_seg_slot_int_seg_slot_1 [] [.ptr c 0], .ptr o 0, .any, .nils, .any, .func n_maps_Keys_map_int_seg_slot_int_seg_slot_1 [] [.ptr c 0], .any, .any, .any, .any, .any, .any], params := #[7], assign := asg_slices_AppendSeq_int_int_0, body := bod_slices_AppendSeq_int_int_0 }
  refine keys_loop (b := b) (i := s1.lp.length) (st := pushLoop s1 al) ok (fun done => star (lq s1.lp.length al) (ex fun v : AV => star (pt o (.cells false [v])) (SlP v 1 (ints (done.map posT))))) ?_ ?_ ?_ (F := F)
  · have h := h.nilSl (esz := 1)
    have h := (Sep.toEx (f := fun v : AV => star (pt o (.cells false [v])) (SlP v 1 (ints (([] : List Trip).map posT)))) .nils (h.swap.toStar)).pushL al
    exact h.toStar
  · intro done t s2 F' ht hlen h
    have h := h.ofStar
    obtain ⟨v, h⟩ := h.swap.ofEx
    have h := h.ofStar
    -- cell, sl, lq, sh, map
    have okl : LoopOk al := ⟨rfl, rfl⟩
    refine okr_slices_AppendSeq_int_int_0 (h.ord [2]).getL ?_
    unfold rnd_slices_AppendSeq_int_int_0
    refine h.rbeg okl 2 rfl fun s3 h => ?_
    refine h.ld 0 rfl rfl ?_
    have hf : fillAV (fun i => some (i * 1, 1)) [.int .i64 0] [(0, .int .i64 (posT t))] = some [.int .i64 (posT t)] := rfl
    rw [hf, OptK_some]
    refine h.psh fun s4 h => ?_
    refine Sep.append (ys := [.int .i64 (posT t)]) (h.ord [2, 0]) (by omega) (by simp) (by omega) rfl (by simp [ints]; omega) (by omega) fun v' s5 hv' h => ?_
    -- sl', lit, cell, lb, sh, map
    refine h.sto 2 rfl hv' (by simp) fun s6 h => ?_
    refine Sep.rnorm h okl 3 rfl fun s7 h => ⟨rfl, ?_⟩
    have e : ints (done.map posT) ++ [.int .i64 (posT t)] = ints ((done ++ [t]).map posT) := by simp [ints]
    rw [e] at h
    have h := (h.ord [1]).tail
    -- sl', cell, lq, sh, map
    exact (Sep.toEx (f := fun v : AV => star (pt o (.cells false [v])) (SlP v 1 (ints ((done ++ [t]).map posT)))) v' (h.swap.toStar)).swap.toStar
  · intro done s2 hp h
    have h := h.ofStar
    obtain ⟨v, h⟩ := h.swap.ofEx
    have h := h.ofStar
    refine h.aftNone 2 rfl (by simp [al]) rfl fun s3 h => ?_
    refine h.ld 0 rfl rfl ?_
    have hlen : done.length = T.length := hp.length_eq
    refine c_SortInts h.tail (by simp; omega) fun s4 h => ?_
    refine hq v s4 ?_
    rw [sortI_perm (hp.map posT)] at h
    exact h

theorem sp_Keys (h : Sep st F) (hq : ∀ c st', Sep st' (sh c (.cells false [.map b]) :: F) → Q (.func n_maps_Keys_map_int_seg_slot_int_seg_slot_1 [] [.ptr c 0]) st') : Cal w0 n_maps_Keys_map_int_seg_slot_int_seg_slot [.map b] st Q := by
  refine ok_maps_Keys_map_int_seg_slot_int_seg_slot ?_
  unfold vc_maps_Keys_map_int_seg_slot_int_seg_slot
  have hc : AV.cellsOk (.map b) = some [.map b] := rfl
  rw [hc, OptK_some]
  exact h.new fun c s h => hq c s h.freeze

def recOf (T : List Trip) (p : Int) : AV := match T.find? (fun t => decide (p = posT t)) with | some t => recAV t.2.1 t.1.r | none => zeroRec
def allItems (T : List Trip) : List (List AV) := (sortI (T.map posT)).map fun p => [.int .i64 p, recOf T p]
def AllP (c s b : Nat) (T : List Trip) (cl d : Nat) (M : SegSt) : Prp :=
  star (sh c (.cells false [.ptr s 0])) (star (pt s (.cells false [.ptr d 0, .map b, .int .i64 M.sealed, .int .i64 M.trim])) (pt b (.amap (T.map entT) (T.map (·.2.2)) cl)))

theorem it_SAll (w0 : World) (ok : TripOk T cl) (hl : T.length < 2 ^ 30) : Iter w0 (.func n_seg_Seg_All_1 [] [.ptr c 0]) (AllP c s b T cl d M) (allItems T) := by
  intro i st F C Stop Q h hy hq
  refine ok_seg_Seg_All_1 ?_
  unfold vc_seg_Seg_All_1
  have h := h.swap.ofStar
  have h := h.swap.ofStar
  -- s, map, sh, C
  refine h.ldS 2 rfl rfl ?_
  simp only [nilC_ptr, faddr_ptr, Nat.zero_add]
  refine h.ld 0 rfl rfl ?_
  refine sp_Keys h fun c2 s1 h => ?_
  refine sp_Sorted ok hl (h.ord [0, 1]) fun v s2 h => ?_
  -- sl, shk, map, s, sh, C
  have hlen : (sortI (T.map posT)).length = T.length := by simp [sortI_len]
  refine h.rd.len (n := T.length) (by simp [ints, sortI_len]) (by omega) ?_
  have back : ∀ st F', Sep st (pt s (.cells false [.ptr d 0, .map b, .int .i64 M.sealed, .int .i64 M.trim]) :: pt b (.amap (T.map entT) (T.map (·.2.2)) cl) :: sh c (.cells false [.ptr s 0]) :: F') → Sep st (AllP c s b T cl d M :: F') := fun st F' h => Sep.toStar (Sep.swap (Sep.toStar h))
  refine ⟨fun n x st => ∃ k : Nat, n = T.length - k ∧ k ≤ T.length ∧ x = [.yield i, .ptr c 0, v, .int .i64 T.length, .int .i64 k] ∧ Sep st (C k :: AllP c s b T cl d M :: SlP v 1 (ints (sortI (T.map posT))) :: F), T.length, ⟨0, rfl, by omega, rfl, ?_⟩, ?_⟩
  · have h := back s2 _ (((h.ord [1]).tail).ord [2, 1, 1])
    exact h.ord [2, 0]
  rintro n x s3 ⟨k, rfl, hk, rfl, h⟩
  simp only [List.getD_cons_zero, List.getD_cons_succ, bin_lss, OptK_some, AsBool_bool]
  have hil : (allItems T).length = T.length := by simp [allItems, sortI_len]
  rw [hil] at hq
  refine Br_iff.2 ⟨fun e => ?_, fun e => ?_⟩
  · have hlt : k < T.length := by simpa using e
    have hlt' : k < (sortI (T.map posT)).length := by omega
    refine (h.ord [2]).rd.at1 (intsAt hlt') ?_
    generalize hp : (sortI (T.map posT))[k] = p
    have h1 := ((h.ord [1]).ofStar).swap.ofStar
    refine h1.ldS 2 rfl rfl ?_
    simp only [nilC_ptr, faddr_ptr, Nat.zero_add]
    refine h1.ld 0 rfl rfl ?_
    have hitem : (allItems T)[k]'(by omega) = [.int .i64 p, recOf T p] := by simp [allItems, hp]
    have hy' := hy k s3 _ (by omega) h
    rw [hitem] at hy'
    have fin : ∀ (w : AV) (Q' : Kont), w = recOf T p → (∀ s4, Sep s4 (Stop :: F) → Q' (.bool false) s4) → (∀ s4, Sep s4 (C (k + 1) :: AllP c s b T cl d M :: SlP v 1 (ints (sortI (T.map posT))) :: F) → Q' (.bool true) s4) → AYield Tryz.prog w0 i [.int .i64 p, w] s3 Q' := by
      rintro w Q' rfl q0 q1
      refine AYield.mono hy' ?_
      rintro r s4 (⟨rfl, h⟩ | ⟨rfl, h⟩)
      · exact q1 s4 h
      · exact q0 s4 ((h.ord [1]).tail)
    refine Sep.look1 (h1.ord [1]) (fun t hf => ?_) fun hf => ?_
    · refine fin (recAV t.2.1 t.1.r) _ (by have hf' : T.find? (fun t => decide (p = posT t)) = some t := hf; rw [recOf, hf']) (fun s4 h => ?_) fun s4 h => ?_
      · simp only [un_not, OptK_some, AsBool_bool, Bool.not_false, Br_true]
        exact hq _ (.inr h)
      · simp only [un_not, OptK_some, AsBool_bool, Bool.not_true, Br_false]
        rw [bin_inc (by omega), OptK_some]
        exact ⟨T.length - (k + 1), by omega, k + 1, rfl, by omega, rfl, h⟩
    · refine fin zeroRec _ (by have hf' : T.find? (fun t => decide (p = posT t)) = none := hf; rw [recOf, hf']) (fun s4 h => ?_) fun s4 h => ?_
      · simp only [un_not, OptK_some, AsBool_bool, Bool.not_false, Br_true]
        exact hq _ (.inr h)
      · simp only [un_not, OptK_some, AsBool_bool, Bool.not_true, Br_false]
        rw [bin_inc (by omega), OptK_some]
        exact ⟨T.length - (k + 1), by omega, k + 1, rfl, by omega, rfl, h⟩
  · have : ¬ k < T.length := by simpa using e
    have : k = T.length := by omega
    subst this
    exact hq _ (.inl ((h.ord [2]).tail))
end
end Go.Ab
