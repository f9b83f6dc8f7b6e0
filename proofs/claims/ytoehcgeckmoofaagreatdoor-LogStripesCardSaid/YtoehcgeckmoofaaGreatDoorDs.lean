/- seg: slots; what its functions do. -/
import Derived.Test.YtoehcgeckmoofaaGreatDoorDr
import Derived.Test.YtoehcgeckmoofaaGreatDoorVs
set_option linter.unusedVariables false
set_option linter.unusedSimpArgs false
namespace Go.Ab
open Go Go.RowKit Go.Proofs

structure Slot where
  pos : Nat
  r : Rec
  line : Nat
  deriving DecidableEq

structure SegSt where
  slots : List Slot
  sealed : Nat
  trim : Nat
  deriving DecidableEq

def SegSt.find (M : SegSt) (p : Int) : Option Slot := M.slots.find? fun s => decide (p = (s.pos : Int))

abbrev Trip := Slot × AV × Nat
def slotAV (v : AV) (s : Slot) : AV := .agg [.int .i64 s.r.site, .int .i64 s.r.seq, v, .str s.r.key, .str s.r.val, .int .i64 s.line]
def zeroSlot : AV := .agg [.int .i64 0, .int .i64 0, .nils, .str [], .str [], .int .i64 0]
def zeroRec : AV := .agg [.int .i64 0, .int .i64 0, .nils, .str [], .str []]
def entT (t : Trip) : AV × AV := (.int .i64 t.1.pos, slotAV t.2.1 t.1)
def shT (t : Trip) : Prp := ShP t.2.1 1 (ints t.1.r.dep)

structure TripOk (T : List Trip) (cl : Nat) : Prop where
  stamps : (T.map (·.2.2)).Nodup
  lt : ∀ t ∈ T, t.2.2 < cl
  keys : (T.map (·.1.pos)).Nodup
  one : ∀ t ∈ T, t.2.1.one = true

def MapT (b : Nat) (T : List Trip) (cl : Nat) : Prp := star (pt b (.amap (T.map entT) (T.map (·.2.2)) cl)) (stars (T.map shT))
def SlotsP (b : Nat) (slots : List Slot) : Prp := ex fun T : List Trip => ex fun cl : Nat => star (pur (T.map (·.1) = slots ∧ TripOk T cl)) (MapT b T cl)
def SegP (s : Nat) (M : SegSt) (d : Nat) : Prp := ex fun b => star (pt s (.cells false [.ptr d 0, .map b, .int .i64 M.sealed, .int .i64 M.trim])) (SlotsP b M.slots)

section
variable {w0 : World} {st : St} {Q : Kont} {F : List Prp} {s d b : Nat} {M : SegSt} {D : DiskM} {T : List Trip} {cl : Nat}

theorem Sep.ofSlots {slots : List Slot} (h : Sep st (SlotsP b slots :: F)) : ∃ T cl, T.map (·.1) = slots ∧ TripOk T cl ∧ Sep st (pt b (.amap (T.map entT) (T.map (·.2.2)) cl) :: stars (T.map shT) :: F) := by
  obtain ⟨T, h⟩ := h.ofEx
  obtain ⟨cl, h⟩ := h.ofEx
  obtain ⟨⟨h1, h2⟩, h⟩ := h.ofStar.ofPur
  exact ⟨T, cl, h1, h2, h.ofStar⟩
theorem Sep.toSlots (k : TripOk T cl) (h : Sep st (pt b (.amap (T.map entT) (T.map (·.2.2)) cl) :: stars (T.map shT) :: F)) : Sep st (SlotsP b (T.map (·.1)) :: F) :=
  .toEx T (.toEx cl (Sep.toStar (Sep.toPur (Sep.toStar h) ⟨rfl, k⟩)))

theorem Sep.ofSeg (h : Sep st (SegP s M d :: F)) : ∃ b, Sep st (pt s (.cells false [.ptr d 0, .map b, .int .i64 M.sealed, .int .i64 M.trim]) :: SlotsP b M.slots :: F) := by
  obtain ⟨b, h⟩ := h.ofEx
  exact ⟨b, h.ofStar⟩
theorem Sep.toSeg (h : Sep st (pt s (.cells false [.ptr d 0, .map b, .int .i64 M.sealed, .int .i64 M.trim]) :: SlotsP b M.slots :: F)) : Sep st (SegP s M d :: F) := .toEx b h.toStar

theorem mfind_ent (p : Int) (T : List Trip) : mfind (.int .i64 p) (T.map entT) = some ((T.find? fun t => decide (p = (t.1.pos : Int))).map fun t => slotAV t.2.1 t.1) := by
  induction T with
  | nil => rfl
  | cons t T ih =>
    simp only [List.map_cons, entT, mfind, AV.keyEq, if_true, List.find?_cons]
    cases h : decide (p = (t.1.pos : Int)) with
    | true => rfl
    | false => exact ih

theorem find_T (p : Int) (T : List Trip) : (T.map (·.1)).find? (fun s => decide (p = (s.pos : Int))) = (T.find? fun t => decide (p = (t.1.pos : Int))).map (·.1) := by
  induction T with
  | nil => rfl
  | cons t T ih =>
    simp only [List.map_cons, List.find?_cons]
    cases h : decide (p = (t.1.pos : Int)) with
    | true => rfl
    | false => exact ih

theorem pers_shT (t : Trip) : Pers (shT t) := pers_ShP _ _ _

/-- A key is looked up. -/
theorem Sep.look {p : Int} {zero : AV} {K : AV → Prop} {bs : List Nat} (h : Sep st (pt b (.amap (T.map entT) bs cl) :: F))
    (h1 : ∀ t, t ∈ T → (T.map (·.1)).find? (fun s => decide (p = (s.pos : Int))) = some t.1 → K (.tup [slotAV t.2.1 t.1, .bool true])) (h0 : (T.map (·.1)).find? (fun s => decide (p = (s.pos : Int))) = none → K (.tup [zero, .bool false])) :
    Mlook .int st (.map b) (.int .i64 p) zero true K := by
  have hm : st.mapAt b = some (T.map entT) := by simp [St.mapAt, h.get]
  simp only [Mlook, hm, OptK_some, mfind_ent]
  refine ⟨rfl, ?_⟩
  rw [find_T] at h1 h0
  cases hf : T.find? (fun t => decide (p = (t.1.pos : Int))) with
  | none => rw [hf] at h0; exact h0 rfl
  | some t => rw [hf] at h1; exact h1 t (List.mem_of_find?_eq_some hf) (by simp)
theorem Sep.look1 {p : Int} {zero : AV} {K : AV → Prop} {bs : List Nat} (h : Sep st (pt b (.amap (T.map entT) bs cl) :: F))
    (h1 : ∀ t, T.find? (fun t => decide (p = (t.1.pos : Int))) = some t → K (slotAV t.2.1 t.1)) (h0 : T.find? (fun t => decide (p = (t.1.pos : Int))) = none → K zero) :
    Mlook .int st (.map b) (.int .i64 p) zero false K := by
  have hm : st.mapAt b = some (T.map entT) := by simp [St.mapAt, h.get]
  simp only [Mlook, hm, OptK_some, mfind_ent]
  refine ⟨rfl, ?_⟩
  cases hf : T.find? (fun t => decide (p = (t.1.pos : Int))) with
  | none => exact h0 hf
  | some t => exact h1 t hf

/-- A new key is put in. -/
theorem Sep.putNew {K : Kont} {x : Slot} {v : AV} (h : Sep st (pt b (.amap (T.map entT) (T.map (·.2.2)) cl) :: F)) (hno : (T.map (·.1)).find? (fun s => decide ((x.pos : Int) = (s.pos : Int))) = none)
    (hK : ∀ st', Sep st' (pt b (.amap ((T ++ [(x, v, cl)]).map entT) ((T ++ [(x, v, cl)]).map (·.2.2)) (cl + 1)) :: F) → K (.tup []) st') : Mput .int st (.map b) (.int .i64 x.pos) (slotAV v x) K := by
  have hm : st.mapFull b = some (T.map entT, T.map (·.2.2), cl) := by simp [St.mapFull, h.get]
  rw [find_T] at hno
  have hf : T.find? (fun t => decide ((x.pos : Int) = (t.1.pos : Int))) = none := by simpa using hno
  simp only [Mput, hm, OptK_some, mfind_ent, hf, Option.map_none]
  refine ⟨rfl, hK _ ?_⟩
  have := h.set (.amap (T.map entT ++ [(.int .i64 x.pos, slotAV v x)]) (T.map (·.2.2) ++ [cl]) (cl + 1))
  simpa [entT] using this

theorem TripOk.snoc (k : TripOk T cl) {x : Slot} {v : AV} (hv : v.one = true) (hno : (T.map (·.1)).find? (fun s => decide ((x.pos : Int) = (s.pos : Int))) = none) : TripOk (T ++ [(x, v, cl)]) (cl + 1) := by
  have hk : ∀ t ∈ T, t.1.pos ≠ x.pos := fun t ht e => by
    have := List.find?_eq_none.1 hno t.1 (List.mem_map.2 ⟨t, ht, rfl⟩)
    simp at this; omega
  refine ⟨?_, fun t ht => ?_, ?_, fun t ht => ?_⟩
  · rw [List.map_append, List.nodup_append]
    refine ⟨k.stamps, by simp, fun a ha c hc => ?_⟩
    obtain ⟨t, ht, rfl⟩ := List.mem_map.1 ha
    have := k.lt t ht
    simp at hc; omega
  · rcases List.mem_append.1 ht with ht | ht
    · have := k.lt t ht; omega
    · simp at ht; subst ht; simp
  · rw [List.map_append, List.nodup_append]
    refine ⟨k.keys, by simp, fun a ha c hc => ?_⟩
    obtain ⟨t, ht, rfl⟩ := List.mem_map.1 ha
    simp at hc; subst hc; exact hk t ht
  · rcases List.mem_append.1 ht with ht | ht
    · exact k.one t ht
    · simp at ht; subst ht; exact hv

theorem one6 {v : AV} {x y l : Int} {k u : Bytes} (hv : v.one = true) : List.all [.int .i64 x, .int .i64 y, v, .str k, .str u, .int .i64 l] AV.one = true := by
  simp only [List.all_cons, List.all_nil, hv]; rfl

theorem sp_SGet {p : Int} (h : Sep st (SegP s M d :: F)) (h8 : p < M.trim → ∀ st', Sep st' (SegP s M d :: F) → Q (.tup [zeroRec, .int .i64 8]) st')
    (h9 : ¬ p < M.trim → M.find p = none → ∀ st', Sep st' (SegP s M d :: F) → Q (.tup [zeroRec, .int .i64 9]) st')
    (h0 : ¬ p < M.trim → ∀ x v, M.find p = some x → v.one = true → ∀ st', Sep st' (ShP v 1 (ints x.r.dep) :: SegP s M d :: F) → Q (.tup [recAV v x.r, .int .i64 0]) st') :
    Cal w0 n_seg_Seg_Get [.ptr s 0, .int .i64 p] st Q := by
  refine ok_seg_Seg_Get ?_
  unfold vc_seg_Seg_Get
  obtain ⟨b, h⟩ := h.ofSeg
  refine h.new fun b1 s1 h => ?_
  simp only [nilC_ptr, faddr_ptr, Nat.zero_add]
  refine h.ld 1 rfl rfl ?_
  simp only [bin_lss, OptK_some, AsBool_bool]
  refine Br_iff.2 ⟨fun e => ?_, fun e => ?_⟩
  · have e := of_decide_eq_true e
    refine h.stoA (ws := [.int .i64 0, .int .i64 0, .nils, .str [], .str []]) 0 rfl rfl (by simp) fun s1 h => ?_
    refine h.ldA 0 rfl (ws := [.int .i64 0, .int .i64 0, .nils, .str [], .str []]) rfl rfl ?_
    exact h8 e s1 h.tail.toSeg
  · have e := of_decide_eq_false e
    refine h.ld 1 rfl rfl ?_
    obtain ⟨T, cl, hT, ok, h⟩ := (h.ord [2]).ofSlots
    have key : ∀ s2 F', Sep s2 (pt b (.amap (T.map entT) (T.map (·.2.2)) cl) :: stars (T.map shT) :: F') → Sep s2 (SlotsP b M.slots :: F') := fun s2 F' h => hT ▸ Sep.toSlots ok h
    refine h.look (fun t ht hf => ?_) fun hf => ?_
    · rw [hT] at hf
      have hone := ok.one t ht
      simp only [ext_tup, List.getElem?_cons_zero, List.getElem?_cons_succ, OptK_some]
      refine h.new fun b2 s2 h => ?_
      refine h.stoA (ws := [.int .i64 t.1.r.site, .int .i64 t.1.r.seq, t.2.1, .str t.1.r.key, .str t.1.r.val, .int .i64 t.1.line]) 0 rfl (one6 hone) (by simp) fun s2 h => ?_
      simp only [un_not, OptK_some, AsBool_bool, Bool.not_true, Br_false, faddr_ptr, Nat.zero_add]
      refine h.ldA 0 rfl (ws := [.int .i64 t.1.r.site, .int .i64 t.1.r.seq, t.2.1, .str t.1.r.key, .str t.1.r.val]) rfl rfl ?_
      refine h.stoA (ws := [.int .i64 t.1.r.site, .int .i64 t.1.r.seq, t.2.1, .str t.1.r.key, .str t.1.r.val]) 3 rfl (one5 hone) (by simp) fun s2 h => ?_
      refine h.ldA 3 rfl (ws := [.int .i64 t.1.r.site, .int .i64 t.1.r.seq, t.2.1, .str t.1.r.key, .str t.1.r.val]) rfl rfl ?_
      have h := (h.ord [2]).stars_mem (P := shT t) (List.mem_map.2 ⟨t, ht, rfl⟩) (pers_shT t)
      refine h0 e t.1 t.2.1 hf hone s2 ?_
      have h := key s2 _ (h.ord [3, 1])
      have h := (h.ord [4, 0]).toSeg
      exact (h.ord [2, 2]).tail.tail.swap
    · rw [hT] at hf
      simp only [ext_tup, List.getElem?_cons_zero, List.getElem?_cons_succ, OptK_some]
      refine h.new fun b2 s2 h => ?_
      refine h.stoA (ws := [.int .i64 0, .int .i64 0, .nils, .str [], .str [], .int .i64 0]) 0 rfl rfl (by simp) fun s2 h => ?_
      simp only [un_not, OptK_some, AsBool_bool, Bool.not_false, Br_true]
      refine h.stoA (ws := [.int .i64 0, .int .i64 0, .nils, .str [], .str []]) 3 rfl rfl (by simp) fun s2 h => ?_
      refine h.ldA 3 rfl (ws := [.int .i64 0, .int .i64 0, .nils, .str [], .str []]) rfl rfl ?_
      refine h9 e hf s2 ?_
      have h := key s2 _ (h.ord [1, 1])
      have h := (h.ord [3, 0]).toSeg
      exact (h.ord [1, 1]).tail.tail

theorem sp_SLasts {p : Int} (h : Sep st (SegP s M d :: DiskP d D :: F)) (hq : ∀ st', Sep st' (SegP s M d :: DiskP d D :: F) → Q (.bool (match M.find p with | some x => decide (x.line < D.lasts) | none => false)) st') :
    Cal w0 n_seg_Seg_Lasts [.ptr s 0, .int .i64 p] st Q := by
  refine ok_seg_Seg_Lasts ?_
  unfold vc_seg_Seg_Lasts
  have hw := h.tail.ofDisk.1
  have hll := hw.llen
  have hla := hw.lasts
  obtain ⟨b, h⟩ := h.ofSeg
  simp only [nilC_ptr, faddr_ptr, Nat.zero_add]
  refine h.ld 0 rfl rfl ?_
  obtain ⟨T, cl, hT, ok, h⟩ := (h.ord [1]).ofSlots
  have key : ∀ s2 F', Sep s2 (pt b (.amap (T.map entT) (T.map (·.2.2)) cl) :: stars (T.map shT) :: F') → Sep s2 (SlotsP b M.slots :: F') := fun s2 F' h => hT ▸ Sep.toSlots ok h
  refine h.look (fun t ht hf => ?_) fun hf => ?_
  · rw [hT] at hf
    have hone := ok.one t ht
    simp only [ext_tup, List.getElem?_cons_zero, List.getElem?_cons_succ, OptK_some]
    refine h.new fun b2 s2 h => ?_
    refine h.stoA (ws := [.int .i64 t.1.r.site, .int .i64 t.1.r.seq, t.2.1, .str t.1.r.key, .str t.1.r.val, .int .i64 t.1.line]) 0 rfl (one6 hone) (by simp) fun s2 h => ?_
    simp only [AsBool_bool, beq_self_eq_true, Br_true, faddr_ptr, Nat.zero_add]
    refine h.ld 0 rfl rfl ?_
    refine h.ld 3 rfl rfl ?_
    refine h.ld 3 rfl rfl ?_
    refine sp_Len (h.ord [4]) ?_
    refine ⟨h.ld 3 rfl rfl rfl, h.ld 0 rfl rfl rfl, ?_⟩
    refine sp_Waits (h.ord [4]) ?_
    refine ⟨h.ld 0 rfl rfl rfl, ?_⟩
    rw [bin_sub_nat (by omega) (by omega), OptK_some, bin_lss, OptK_some, pick_t]
    have e : decide ((t.1.line : Int) < ((D.lines.length - (D.lines.length - D.lasts) : Nat) : Int)) = (match M.find p with | some x => decide (x.line < D.lasts) | none => false) := by
      have : M.find p = some t.1 := hf
      rw [this]; simp only; rw [Bool.eq_iff_iff]; simp; omega
    rw [e]
    refine hq s2 ?_
    have h := key s2 _ (h.ord [1, 1])
    have h := (h.ord [2, 0]).toSeg
    exact (h.ord [1]).tail
  · rw [hT] at hf
    simp only [ext_tup, List.getElem?_cons_zero, List.getElem?_cons_succ, OptK_some]
    refine h.new fun b2 s2 h => ?_
    refine h.stoA (ws := [.int .i64 0, .int .i64 0, .nils, .str [], .str [], .int .i64 0]) 0 rfl rfl (by simp) fun s2 h => ?_
    refine ⟨by trivial, by trivial, by trivial, ?_⟩
    have e : false = (match M.find p with | some x => decide (x.line < D.lasts) | none => false) := by
      have : M.find p = none := hf
      rw [this]
    rw [e]
    refine hq s2 ?_
    have h := key s2 _ (h.ord [1, 1])
    have h := (h.ord [2, 0]).toSeg
    exact (h.ord [1]).tail

theorem sp_SDisk (h : Sep st (SegP s M d :: F)) (hq : Q (.ptr d 0) st) : Cal w0 n_seg_Seg_Disk [.ptr s 0] st Q := by
  refine ok_seg_Seg_Disk ?_
  unfold vc_seg_Seg_Disk
  obtain ⟨b, h⟩ := h.ofSeg
  simp only [nilC_ptr, faddr_ptr, Nat.zero_add]
  exact h.ld 0 rfl rfl hq

theorem indexByte_no {l : Bytes} {c : UInt8} (h : c ∉ l) : Lib.indexByte l c < 0 := by
  induction l with
  | nil => simp [Lib.indexByte]
  | cons b l ih =>
    have h1 : ¬ (b == c) = true := fun e => h (by rw [← beq_iff_eq.1 e]; simp)
    have h2 := ih fun hh => h (by simp [hh])
    have h3 := Lib.indexByte_ge l c
    have : Lib.indexByte l c = -1 := by omega
    unfold Lib.indexByte
    rw [if_neg h1, this]; simp

/-- The lines of a segment. -/
inductive Line where
  | p (pos : Nat) (r : Rec)
  | s (n : Nat)
  | c (n : Nat)
  | t (n : Nat)
  deriving DecidableEq
def kindText (k : UInt8) (n : Nat) : Bytes := k :: 32 :: Lib.itoa n
def Line.text : Line → Bytes
  | .p pos r => 112 :: 32 :: (Lib.itoa pos ++ 32 :: textR r)
  | .s n => kindText 115 n
  | .c n => kindText 99 n
  | .t n => kindText 116 n

theorem itoa10 (n : Nat) : (10 : UInt8) ∉ Lib.itoa n := fun h => by
  have := itoa_no n (by omega) 10 h
  simp [isDig] at this
theorem kind10 (k : UInt8) (n : Nat) (hk : k ≠ 10) : (10 : UInt8) ∉ kindText k n := by
  have := itoa10 n
  simp [kindText, this, Ne.symm hk]
theorem itoa_len10 (n : Nat) (h : n ≤ 2147483647) : (Lib.itoa n).length ≤ 10 := by
  rw [itoa_nat]; exact dec_len 10 n (by omega) (by omega)

theorem sp_note {k : UInt8} {n : Nat} (g : Gnd w0) (h : Sep st (SegP s M d :: DiskP d D :: F)) (hk : k ≠ 10) (hn : n ≤ 2147483647)
    (h6 : D.room < used D.lines + ((kindText k n).length + 1) → ∀ st', Sep st' (SegP s M d :: DiskP d D :: F) → Q (.int .i64 6) st')
    (h0 : used D.lines + ((kindText k n).length + 1) ≤ D.room → ∀ st', Sep st' (SegP s M d :: DiskP d ⟨D.room, D.lines ++ [kindText k n], D.lines.length + 1⟩ :: F) → Q (.int .i64 0) st') :
    Cal w0 n_seg_Seg_note [.ptr s 0, .str [k], .int .i64 n] st Q := by
  refine ok_seg_Seg_note ?_
  unfold vc_seg_Seg_note
  obtain ⟨b, h⟩ := h.ofSeg
  simp only [nilC_ptr, faddr_ptr, Nat.zero_add]
  refine h.ld 0 rfl rfl ?_
  rw [bin_sadd (by simp), OptK_some]
  have hl := itoa_len10 n hn
  refine c_Itoa g (by omega) (by omega) ?_
  refine ⟨h.ld 0 rfl rfl rfl, ?_⟩
  rw [bin_sadd (by simp; omega), OptK_some]
  have e : [k] ++ [32] ++ Lib.itoa n = kindText k n := by simp [kindText]
  rw [e]
  have hlen : (kindText k n).length ≤ 12 := by simp [kindText]; omega
  refine sp_Write (h.ord [2]) (indexByte_no (kind10 k n hk)) (by omega) (fun e s2 h => ?_) fun e s2 h => ?_
  · simp only [bin_eql, OptK_some, AsBool_bool]
    refine Br_f (by decide) ?_
    exact h6 e s2 ((h.ord [1, 1]).toSeg)
  · simp only [bin_eql, OptK_some, AsBool_bool]
    refine Br_t (by decide) ?_
    refine h.ld 1 rfl rfl ?_
    refine sp_Sync h fun s3 h => ?_
    have := h0 e s3
    simp only [List.length_append, List.length_cons, List.length_nil, Nat.zero_add] at h
    exact this ((h.ord [1, 1]).toSeg)

def unseen (seen : List Nat) (T : List Trip) : Nat := (T.filter fun t => !seen.contains t.2.2).length

theorem mplace_ent (t : Trip) : ∀ {T : List Trip} {i : Nat}, (T.map (·.1.pos)).Nodup → T[i]? = some t → mplace (.int .i64 t.1.pos) (T.map entT) = some (some i)
  | [], i, _, h => by simp at h
  | u :: T, 0, _, h => by
    simp at h; subst h
    simp only [List.map_cons, entT, mplace, AV.keyEq, if_true, decide_true]
  | u :: T, i + 1, hn, h => by
    have hn' := List.nodup_cons.1 hn
    have ht : T[i]? = some t := by simpa using h
    have ih := mplace_ent t (T := T) (i := i) hn'.2 ht
    have hne : decide ((t.1.pos : Int) = (u.1.pos : Int)) = false := by
      simp only [decide_eq_false_iff_not]
      intro e
      have : u.1.pos = t.1.pos := by omega
      exact hn'.1 (by rw [List.mem_map]; exact ⟨t, List.mem_of_getElem? ht, this.symm⟩)
    simp only [List.map_cons, entT, mplace, AV.keyEq, if_true, hne]
    have ih' : mplace (.int .i64 t.1.pos) (T.map entT) = some (some i) := ih
    rw [ih']; rfl

theorem erase_stamp : ∀ {T : List Trip} {i : Nat} {t : Trip}, (T.map (·.2.2)).Nodup → T[i]? = some t → T.filter (fun u => !(u.2.2 == t.2.2)) = T.eraseIdx i
  | [], i, t, _, h => by simp at h
  | u :: T, 0, t, hn, h => by
    simp at h; subst h
    have hn' := List.nodup_cons.1 hn
    simp only [List.filter_cons, beq_self_eq_true, Bool.not_true, Bool.false_eq_true, if_false, List.eraseIdx_cons_zero]
    rw [List.filter_eq_self]
    intro x hx
    have : x.2.2 ≠ u.2.2 := fun e => hn'.1 (List.mem_map.2 ⟨x, hx, e⟩)
    simp [this]
  | u :: T, i + 1, t, hn, h => by
    have hn' := List.nodup_cons.1 hn
    have ht : T[i]? = some t := by simpa using h
    have : u.2.2 ≠ t.2.2 := fun e => hn'.1 (List.mem_map.2 ⟨t, List.mem_of_getElem? ht, e.symm⟩)
    simp only [List.filter_cons, beq_eq_false_iff_ne.2 this, Bool.not_false, if_true, List.eraseIdx_cons_succ]
    rw [erase_stamp hn'.2 ht]

theorem eraseIdx_map {α β : Type} (f : α → β) : ∀ (l : List α) (i : Nat), (l.map f).eraseIdx i = (l.eraseIdx i).map f
  | [], _ => by simp
  | a :: l, 0 => by simp
  | a :: l, i + 1 => by simp [eraseIdx_map f l i]

theorem unseen_lt {seen : List Nat} : ∀ {T : List Trip} {t : Trip}, t ∈ T → t.2.2 ∉ seen → unseen (seen ++ [t.2.2]) T < unseen seen T
  | [], _, h, _ => by simp at h
  | u :: T, t, h, hs => by
    have mono : ∀ T : List Trip, unseen (seen ++ [t.2.2]) T ≤ unseen seen T := fun T => by
      induction T with
      | nil => simp [unseen]
      | cons x T ih =>
        unfold unseen at ih ⊢
        simp only [List.filter_cons]
        by_cases h1 : seen.contains x.2.2 = true
        · have h2 : (seen ++ [t.2.2]).contains x.2.2 = true := by simp at h1 ⊢; exact .inl h1
          simp only [h1, h2, Bool.not_true, Bool.false_eq_true, if_false]; exact ih
        · have h1' : seen.contains x.2.2 = false := by simpa using h1
          simp only [h1', Bool.not_false, if_true, List.length_cons]
          split
          · simp only [List.length_cons]; omega
          · omega
    have hm := mono T
    unfold unseen at hm ⊢
    simp only [List.filter_cons]
    rcases List.mem_cons.1 h with rfl | h
    · have h1 : seen.contains t.2.2 = false := by simpa using hs
      have h2 : (seen ++ [t.2.2]).contains t.2.2 = true := by simp
      simp only [h1, h2, Bool.not_true, Bool.not_false, Bool.false_eq_true, if_false, if_true, List.length_cons]; omega
    · have ih := unseen_lt h hs
      unfold unseen at ih
      by_cases h1 : seen.contains u.2.2 = true
      · have h2 : (seen ++ [t.2.2]).contains u.2.2 = true := by simp at h1 ⊢; exact .inl h1
        simp only [h1, h2, Bool.not_true, Bool.false_eq_true, if_false]; exact ih
      · have h1' : seen.contains u.2.2 = false := by simpa using h1
        simp only [h1', Bool.not_false, if_true, List.length_cons]
        split
        · simp only [List.length_cons]; omega
        · omega

def delT (p : Slot → Bool) (seen : List Nat) (T : List Trip) : List Trip := T.filter fun t => !(seen.contains t.2.2 && p t.1)

theorem sp_Delete {R : Prp} {p : Slot → Bool} {f : FuncId} {cap : List AV} (ok : TripOk T cl) (h : Sep st (pt b (.amap (T.map entT) (T.map (·.2.2)) cl) :: R :: F))
    (hf : ∀ (t : Trip) (s : St) (F' : List Prp) (K : Kont), t ∈ T → Sep s (R :: F') → (∀ s', Sep s' (R :: F') → K (.bool (p t.1)) s') → Cal w0 f ([.int .i64 t.1.pos, slotAV t.2.1 t.1] ++ cap) s K)
    (hq : ∀ st', Sep st' (pt b (.amap ((T.filter fun t => !p t.1).map entT) ((T.filter fun t => !p t.1).map (·.2.2)) cl) :: R :: F) → Q (.tup []) st') :
    Cal w0 n_maps_DeleteFunc_map_int_seg_slot_int_seg_slot [.map b, .func f [] cap] st Q := by
  refine ok_maps_DeleteFunc_map_int_seg_slot_int_seg_slot ?_
  unfold vc_maps_DeleteFunc_map_int_seg_slot_int_seg_slot
  refine h.rng fun it s h => ?_
  refine ⟨fun n x s => ∃ seen, n = unseen seen (delT p seen T) ∧ x = [.map b, .func f [] cap, .ptr it 0] ∧ Sep s (pt it (.iter (some b) cl seen cl) :: pt b (.amap ((delT p seen T).map entT) ((delT p seen T).map (·.2.2)) cl) :: R :: F), _, ⟨[], rfl, rfl, ?_⟩, ?_⟩
  · have : delT p [] T = T := by unfold delT; rw [List.filter_eq_self]; intro a _; rfl
    rw [this]; exact h
  rintro n x s ⟨seen, rfl, rfl, h⟩
  simp only [List.getD_cons_zero, List.getD_cons_succ]
  have hsub : ∀ t ∈ delT p seen T, t ∈ T := fun t ht => (List.mem_filter.1 ht).1
  have hnd : ((delT p seen T).map (·.2.2)).Nodup := ok.stamps.sublist (List.filter_sublist.map _)
  have hkd : ((delT p seen T).map (·.1.pos)).Nodup := ok.keys.sublist (List.filter_sublist.map _)
  refine h.nxt (fun s hs => ?_) (fun hend => ?_) (fun i k x s hk hs hns s2 h => ?_)
  · obtain ⟨t, ht, rfl⟩ := List.mem_map.1 hs
    exact ok.lt t (hsub t ht)
  · simp only [ext_tup, List.getElem?_cons_zero, OptK_some, AsBool_bool, Br_false]
    refine hq s ?_
    have : delT p seen T = T.filter fun t => !p t.1 := by
      unfold delT
      apply List.filter_congr
      intro t ht
      by_cases hp : p t.1 = true
      · have hin : t.2.2 ∈ seen := by
          by_cases hc : t.2.2 ∈ seen
          · exact hc
          · refine hend t.2.2 (List.mem_map.2 ⟨t, List.mem_filter.2 ⟨ht, ?_⟩, rfl⟩)
            simp [hc]
        simp [hp, hin]
      · have hp : p t.1 = false := by simpa using hp
        simp [hp]
    rw [← this]; exact h.tail
  · obtain ⟨t, ht, he⟩ : ∃ t, (delT p seen T)[i]? = some t ∧ entT t = (k, x) := by
      rw [List.getElem?_map, Option.map_eq_some_iff] at hk; exact hk
    have hst : t.2.2 = s := by rw [List.getElem?_map, ht] at hs; simpa using hs
    subst hst
    obtain ⟨rfl, rfl⟩ : .int .i64 t.1.pos = k ∧ slotAV t.2.1 t.1 = x := by simpa [entT] using he
    have htm := List.mem_of_getElem? ht
    have hone := ok.one t (hsub t htm)
    simp only [ext_tup, List.getElem?_cons_zero, OptK_some, AsBool_bool, Br_true]
    refine h.ent hs hnd hk ?_
    simp only [ext_tup, List.getElem?_cons_zero, List.getElem?_cons_succ, OptK_some]
    refine h.new fun b2 s3 h => ?_
    refine h.stoA (ws := [.int .i64 t.1.r.site, .int .i64 t.1.r.seq, t.2.1, .str t.1.r.key, .str t.1.r.val, .int .i64 t.1.line]) 0 rfl (one6 hone) (by simp) fun s3 h => ?_
    refine h.ldA 0 rfl (ws := [.int .i64 t.1.r.site, .int .i64 t.1.r.seq, t.2.1, .str t.1.r.key, .str t.1.r.val, .int .i64 t.1.line]) rfl rfl ?_
    refine hf t s3 _ _ (hsub t htm) (h.ord [3]) fun s4 h => ?_
    simp only [AsBool_bool]
    have h : Sep s4 (pt it (.iter (some b) cl (seen ++ [t.2.2]) cl) :: pt b (.amap ((delT p seen T).map entT) ((delT p seen T).map (·.2.2)) cl) :: R :: F) := ((h.ord [1]).tail).ord [1, 1]
    have hlt := unseen_lt htm hns
    refine Br_iff.2 ⟨fun hp => ?_, fun hp => ?_⟩
    · have hm : s4.mapFull b = some ((delT p seen T).map entT, (delT p seen T).map (·.2.2), cl) := by simp [St.mapFull, h.tail.get]
      simp only [Mdel, hm, OptK_some, mplace_ent t hkd ht]
      refine ⟨rfl, ?_⟩
      have hT : (delT p seen T).eraseIdx i = delT p (seen ++ [t.2.2]) T := by
        rw [← erase_stamp hnd ht]
        unfold delT
        rw [List.filter_filter]
        apply List.filter_congr
        intro u hu
        by_cases hq : u.2.2 = t.2.2
        · have : u = t := by
            obtain ⟨i1, h1, e1⟩ := List.mem_iff_getElem.1 hu
            obtain ⟨i2, h2, e2⟩ := List.mem_iff_getElem.1 (hsub t htm)
            have hij : i1 = i2 := by
              have hpw := List.pairwise_iff_getElem.1 ok.stamps
              rcases Nat.lt_trichotomy i1 i2 with h' | h' | h'
              · have := hpw i1 i2 (by simpa using h1) (by simpa using h2) h'
                simp only [List.getElem_map, e1, e2] at this; exact absurd hq this
              · exact h'
              · have := hpw i2 i1 (by simpa using h2) (by simpa using h1) h'
                simp only [List.getElem_map, e1, e2] at this; exact absurd hq.symm this
            subst hij; rw [← e1, ← e2]
          subst this
          simp [hp]
        · have h1 : (u.2.2 == t.2.2) = false := by simpa using hq
          have h2 : (seen ++ [t.2.2]).contains u.2.2 = seen.contains u.2.2 := by
            rw [Bool.eq_iff_iff]; simp [hq]
          rw [h1, h2]; simp
      have h := h.swap.set (.amap (((delT p seen T).map entT).eraseIdx i) (((delT p seen T).map (·.2.2)).eraseIdx i) cl)
      rw [eraseIdx_map, eraseIdx_map, hT] at h ⊢
      refine ⟨_, ?_, seen ++ [t.2.2], rfl, trivial, h.swap⟩
      rw [← hT]
      refine Nat.lt_of_le_of_lt ?_ hlt
      unfold unseen
      exact ((List.eraseIdx_sublist _ _).filter _).length_le
    · have hT : delT p (seen ++ [t.2.2]) T = delT p seen T := by
        unfold delT
        apply List.filter_congr
        intro u hu
        by_cases hq : u.2.2 = t.2.2
        · have : u = t := by
            obtain ⟨i1, h1, e1⟩ := List.mem_iff_getElem.1 hu
            obtain ⟨i2, h2, e2⟩ := List.mem_iff_getElem.1 (hsub t htm)
            have hij : i1 = i2 := by
              have hpw := List.pairwise_iff_getElem.1 ok.stamps
              rcases Nat.lt_trichotomy i1 i2 with h' | h' | h'
              · have := hpw i1 i2 (by simpa using h1) (by simpa using h2) h'
                simp only [List.getElem_map, e1, e2] at this; exact absurd hq this
              · exact h'
              · have := hpw i2 i1 (by simpa using h2) (by simpa using h1) h'
                simp only [List.getElem_map, e1, e2] at this; exact absurd hq.symm this
            subst hij; rw [← e1, ← e2]
          subst this
          simp [hp]
        · have h2 : (seen ++ [t.2.2]).contains u.2.2 = seen.contains u.2.2 := by
            rw [Bool.eq_iff_iff]; simp [hq]
          rw [h2]
      refine ⟨_, ?_, seen ++ [t.2.2], rfl, trivial, by rw [hT]; exact h⟩
      rw [hT]; exact hlt

theorem TripOk.filter (ok : TripOk T cl) (q : Trip → Bool) : TripOk (T.filter q) cl :=
  ⟨ok.stamps.sublist (List.filter_sublist.map _), fun t ht => ok.lt t (List.mem_filter.1 ht).1, ok.keys.sublist (List.filter_sublist.map _), fun t ht => ok.one t (List.mem_filter.1 ht).1⟩
theorem map_filter_slot (p : Slot → Bool) : ∀ T : List Trip, (T.filter fun t => p t.1).map (·.1) = (T.map (·.1)).filter p
  | [] => rfl
  | t :: T => by
    simp only [List.filter_cons, List.map_cons]
    by_cases h : p t.1 = true
    · simp [h, map_filter_slot p T]
    · simp [h, map_filter_slot p T]

/-- What is behind a delete. -/
theorem Sep.delBack {p : Slot → Bool} {s' : St} (ok : TripOk T cl) (h : Sep s' (pt b (.amap ((T.filter fun t => !p t.1).map entT) ((T.filter fun t => !p t.1).map (·.2.2)) cl) :: stars (T.map shT) :: F)) : Sep s' (SlotsP b ((T.map (·.1)).filter fun x => !p x) :: F) := by
  rw [← map_filter_slot (fun x => !p x)]
  refine Sep.toSlots (ok.filter _) (Sep.swap (Sep.stars_sub h.swap (fun P hP => ?_) fun P hP => ?_))
  · obtain ⟨t, _, rfl⟩ := List.mem_map.1 hP; exact pers_shT t
  · obtain ⟨t, ht, rfl⟩ := List.mem_map.1 hP
    exact List.mem_map.2 ⟨t, (List.mem_filter.1 ht).1, rfl⟩

def SegSt.cut (M : SegSt) (n : Nat) : SegSt := { M with slots := M.slots.filter fun x => !decide (n ≤ x.pos) }
def SegSt.below (M : SegSt) (n : Nat) : SegSt := { M with slots := M.slots.filter (fun x => !decide (x.pos < n)), trim := n }

theorem sp_cut {n : Nat} (h : Sep st (SegP s M d :: F)) (hq : ∀ st', Sep st' (SegP s (M.cut n) d :: F) → Q (.tup []) st') : Cal w0 n_seg_Seg_cut [.ptr s 0, .int .i64 n] st Q := by
  refine ok_seg_Seg_cut ?_
  unfold vc_seg_Seg_cut
  obtain ⟨b, h⟩ := h.ofSeg
  refine h.new fun c s1 h => ?_
  simp only [nilC_ptr, faddr_ptr, Nat.zero_add]
  refine h.ld 1 rfl rfl ?_
  obtain ⟨T, cl, hT, ok, h⟩ := (h.ord [2]).ofSlots
  refine sp_Delete (p := fun x => decide (n ≤ x.pos)) (R := pt c (.cells false [.int .i64 n])) ok (h.ord [0, 1]) (fun t s2 F' K ht h hk => ?_) fun s2 h => ?_
  · refine ok_seg_Seg_cut_1 ?_
    unfold vc_seg_Seg_cut_1
    refine h.new fun c2 s3 h => ?_
    refine h.ld 1 rfl rfl ?_
    rw [bin_geq, OptK_some]
    have e : decide ((n : Int) ≤ (t.1.pos : Int)) = decide (n ≤ t.1.pos) := by rw [Bool.eq_iff_iff]; simp
    rw [e]
    exact hk s3 h.tail
  · refine hq s2 ?_
    have h := Sep.delBack (p := fun x => decide (n ≤ x.pos)) ok (h.ord [0, 1])
    rw [hT] at h
    exact Sep.toSeg (M := M.cut n) ((h.ord [1]).tail.swap)

theorem sp_cutBelow {n : Nat} (h : Sep st (SegP s M d :: F)) (hq : ∀ st', Sep st' (SegP s (M.below n) d :: F) → Q (.tup []) st') : Cal w0 n_seg_Seg_cutBelow [.ptr s 0, .int .i64 n] st Q := by
  refine ok_seg_Seg_cutBelow ?_
  unfold vc_seg_Seg_cutBelow
  obtain ⟨b, h⟩ := h.ofSeg
  have hc : AV.cellsOk (.ptr s 0) = some [.ptr s 0] := rfl
  rw [hc, OptK_some]
  refine h.new fun c s1 h => ?_
  refine h.ld 0 rfl rfl ?_
  simp only [nilC_ptr, faddr_ptr, Nat.zero_add]
  refine h.sto 1 rfl rfl (by simp) fun s1 h => ?_
  refine h.ld 0 rfl rfl ?_
  simp only [nilC_ptr, faddr_ptr, Nat.zero_add]
  refine h.ld 1 rfl rfl ?_
  obtain ⟨T, cl, hT, ok, h⟩ := (h.ord [2]).ofSlots
  have h : Sep s1 (pt b (.amap (T.map entT) (T.map (·.2.2)) cl) :: star (pt c (.cells false [.ptr s 0])) (pt s (.cells false [.ptr d 0, .map b, .int .i64 M.sealed, .int .i64 n])) :: stars (T.map shT) :: F) := (Sep.toStar (h.ord [2, 2])).swap
  refine sp_Delete (p := fun x => decide (x.pos < n)) ok h (fun t s2 F' K ht h hk => ?_) fun s2 h => ?_
  · refine ok_seg_Seg_cutBelow_1 ?_
    unfold vc_seg_Seg_cutBelow_1
    have h := h.ofStar
    refine h.new fun c2 s3 h => ?_
    refine h.ld 1 rfl rfl ?_
    simp only [nilC_ptr, faddr_ptr, Nat.zero_add]
    refine h.ld 2 rfl rfl ?_
    rw [bin_lss, OptK_some]
    have e : decide ((t.1.pos : Int) < (n : Int)) = decide (t.1.pos < n) := by rw [Bool.eq_iff_iff]; simp
    rw [e]
    exact hk s3 h.tail.toStar
  · refine hq s2 ?_
    have h := Sep.delBack (p := fun x => decide (x.pos < n)) ok (h.ord [0, 1])
    rw [hT] at h
    have h := h.swap.ofStar.tail
    exact Sep.toSeg (M := M.below n) h

/-- What Put tells. -/
def putCode (M : SegSt) (D : DiskM) (epoch pos : Int) (r : Rec) : Int :=
  if pos < 0 ∨ epoch < 1 ∨ 2147483647 < max pos epoch then 1
  else if epoch ≤ M.sealed then 7
  else if pos < M.trim then 8
  else if (M.find pos).isSome then 5
  else if checkR r 8 ≠ 0 then checkR r 8
  else if D.room < used D.lines + ((Line.p pos.toNat r).text.length + 1) then 6
  else 0

def KeyOk (r : Rec) : Prop := checkR r 8 = 0 → ∀ c ∈ r.key, nameB c.toNat = true

theorem textR10 {r : Rec} (h : checkR r 8 = 0) (hk : KeyOk r) : (10 : UInt8) ∉ textR r ∧ (textR r).length ≤ 260 := by
  obtain ⟨h1, h2, h3, h4, h5, h6, h7, h8, h9⟩ := okV_of r h
  have hkl : r.key.length ≤ 8 := by
    unfold keyBad at h7
    simp only [Bool.or_eq_false_iff, decide_eq_false_iff_not] at h7
    omega
  have hlen := textV_len h1.fitV
  have hl := h1.len
  have l1 := Lib.itoa_length_le r.site (by omega) (by omega)
  have l2 := Lib.itoa_length_le r.seq (by omega) (by omega)
  constructor
  · have k1 : (10 : UInt8) ∉ Lib.itoa r.site := fun hh => by have := itoa_no _ h2 10 hh; simp [isDig] at this
    have k2 : (10 : UInt8) ∉ Lib.itoa r.seq := fun hh => by have := itoa_no _ (by omega) 10 hh; simp [isDig] at this
    have k3 : (10 : UInt8) ∉ r.key := fun hh => by have := hk h 10 hh; simp [nameB] at this
    have k4 : (10 : UInt8) ∉ r.val := fun hh => by
      have := List.any_eq_false.1 h8 10 hh; simp [badC] at this
    have k5 : (10 : UInt8) ∉ textV r.dep := by
      have key : ∀ (xs : List Bytes), (∀ x ∈ xs, (10 : UInt8) ∉ x) → (10 : UInt8) ∉ Lib.join xs [32] := by
        intro xs
        induction xs with
        | nil => intro _; simp [Lib.join, List.intercalate]
        | cons x xs ih =>
          intro hx
          cases xs with
          | nil => simpa [Lib.join, List.intercalate] using hx x (by simp)
          | cons y ys =>
            have e : Lib.join (x :: y :: ys) [32] = x ++ 32 :: Lib.join (y :: ys) [32] := by simp [Lib.join, List.intercalate, List.intersperse]
            rw [e]
            have := ih fun z hz => hx z (List.mem_cons_of_mem _ hz)
            have := hx x (by simp)
            simp_all
      have := key ((trimV r.dep).map Lib.itoa) fun x hx hc => by
        obtain ⟨n, hn, rfl⟩ := List.mem_map.1 hx
        have := itoa_no n (h1.trim.fit n hn).1 10 hc
        simp [isDig] at this
      simp [textV, this]
    simp [textR, k1, k2, k3, k4, k5]
  · simp [textR]; omega
end
end Go.Ab
