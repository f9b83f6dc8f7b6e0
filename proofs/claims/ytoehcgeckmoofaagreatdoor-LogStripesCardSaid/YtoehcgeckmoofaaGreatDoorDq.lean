/- maint: positions, Recover. -/
import Derived.Test.YtoehcgeckmoofaaGreatDoorDo
set_option linter.unusedVariables false
set_option linter.unusedSimpArgs false
namespace Go.Ab
open Go Go.RowKit Go.Proofs

theorem ptrs_at {ps : List (Nat × Nat)} {k : Nat} {q : Nat × Nat} (h : ps[k]? = some q) : (ptrs ps)[k]? = some (.ptr q.1 0) := by simp only [ptrs, List.getElem?_map, h, Option.map_some]

def keyE (k : Int) : AV × AV := (.int .i64 k, .bool true)
structure KeysOk (ks : List Int) (bs : List Nat) (cl : Nat) : Prop where
  len : bs.length = ks.length
  nd : bs.Nodup
  lt : ∀ s ∈ bs, s < cl
  keys : ks.Nodup
def PosP (b : Nat) (ks : List Int) : Prp := ex fun bs : List Nat => ex fun cl : Nat => star (pur (KeysOk ks bs cl)) (pt b (.amap (ks.map keyE) bs cl))
def addK (ks : List Int) (k : Int) : List Int := if k ∈ ks then ks else ks ++ [k]

theorem mfind_keys (p : Int) (ks : List Int) : mfind (.int .i64 p) (ks.map keyE) = some (if p ∈ ks then some (.bool true) else none) := by
  induction ks with
  | nil => rfl
  | cons k ks ih =>
    simp only [List.map_cons, keyE, mfind, AV.keyEq, if_true]
    by_cases h : p = k
    · subst h; simp
    · have : decide (p = k) = false := by simp [h]
      rw [this]
      have ih' : mfind (.int .i64 p) (ks.map keyE) = _ := ih
      simp only [ih']
      simp [h]
theorem mput_keys (p : Int) : ∀ (ks : List Int), p ∈ ks → mput (.int .i64 p) (.bool true) (ks.map keyE) = ks.map keyE
  | [], h => by simp at h
  | k :: ks, h => by
    simp only [List.map_cons, keyE, mput, AV.keyEq, if_true]
    by_cases h' : p = k
    · subst h'; simp
    · have hd : decide (p = k) = false := by simp [h']
      rw [hd]
      have ih := mput_keys p ks (by simpa [h'] using h)
      simp only [ih]

section
variable {w0 : World} {st : St} {Q : Kont} {F : List Prp} {l o b : Nat} {sv mv gv v : AV} {ps : List (Nat × Nat)} {L : LogM} {ks : List Int}

theorem Sep.putK {K : Kont} {k : Int} (h : Sep st (PosP b ks :: F)) (hK : ∀ st', Sep st' (PosP b (addK ks k) :: F) → K (.tup []) st') : Mput .int st (.map b) (.int .i64 k) (.bool true) K := by
  obtain ⟨bs, h⟩ := h.ofEx
  obtain ⟨cl, h⟩ := h.ofEx
  obtain ⟨ok, h⟩ := h.ofStar.ofPur
  have hm : st.mapFull b = some (ks.map keyE, bs, cl) := by simp [St.mapFull, h.get]
  simp only [Mput, hm, OptK_some, mfind_keys]
  refine ⟨rfl, ?_⟩
  by_cases hk : k ∈ ks
  · simp only [if_pos hk]
    refine hK _ ?_
    rw [mput_keys k ks hk]
    have := h.set (.amap (ks.map keyE) bs cl)
    rw [addK, if_pos hk]
    exact .toEx bs (.toEx cl (Sep.toStar (Sep.toPur this ok)))
  · simp only [if_neg hk]
    refine hK _ ?_
    have := h.set (.amap (ks.map keyE ++ [(.int .i64 k, .bool true)]) (bs ++ [cl]) (cl + 1))
    have e : ks.map keyE ++ [(.int .i64 k, .bool true)] = (ks ++ [k]).map keyE := by simp [keyE]
    rw [e] at this ⊢
    rw [addK, if_neg hk]
    refine .toEx (bs ++ [cl]) (.toEx (cl + 1) (Sep.toStar (Sep.toPur this ⟨by simp [ok.len], ?_, fun s hs => ?_, ?_⟩)))
    · rw [List.nodup_append]
      exact ⟨ok.nd, by simp, fun a ha c hc => by simp at hc; have := ok.lt a ha; omega⟩
    · rcases List.mem_append.1 hs with hs | hs
      · have := ok.lt s hs; omega
      · simp at hs; omega
    · rw [List.nodup_append]
      exact ⟨ok.keys, by simp, fun a ha c hc => by simp at hc; subst hc; exact fun e => hk (e ▸ ha)⟩

theorem Sep.lookK {p : Int} {K : AV → Prop} (h : Sep st (PosP b ks :: F)) (hk : K (.bool (decide (p ∈ ks)))) : Mlook .int st (.map b) (.int .i64 p) (.bool false) false K := by
  obtain ⟨bs, h⟩ := h.ofEx
  obtain ⟨cl, h⟩ := h.ofEx
  obtain ⟨ok, h⟩ := h.ofStar.ofPur
  have hm : st.mapAt b = some (ks.map keyE) := by simp [St.mapAt, h.get]
  simp only [Mlook, hm, OptK_some, mfind_keys]
  refine ⟨rfl, ?_⟩
  by_cases hp : p ∈ ks
  · simp only [if_pos hp]; simpa [hp] using hk
  · simp only [if_neg hp]; simpa [hp] using hk

theorem sp_SAllCall {s : Nat} (h : Sep st F) (hq : ∀ c st', Sep st' (sh c (.cells false [.ptr s 0]) :: F) → Q (.func n_seg_Seg_All_1 [] [.ptr c 0]) st') : Cal w0 n_seg_Seg_All [.ptr s 0] st Q := by
  refine ok_seg_Seg_All ?_
  unfold vc_seg_Seg_All
  have hc : AV.cellsOk (.ptr s 0) = some [.ptr s 0] := rfl
  rw [hc, OptK_some]
  exact h.new fun c s1 h => hq c s1 h.freeze

/-- The keys so far: those there were, and these. -/
def HasK (ks : List Int) (base : List Int) (more : List Int) : Prop := ∀ p, p ∈ ks ↔ p ∈ base ∨ p ∈ more
theorem HasK.add {ks base more : List Int} {k : Int} (h : HasK ks base more) : HasK (addK ks k) base (more ++ [k]) := by
  intro p
  unfold addK
  split
  · rename_i hk
    rw [h p, List.mem_append, List.mem_singleton]
    constructor
    · rintro (h | h)
      · exact .inl h
      · exact .inr (.inl h)
    · rintro (h' | h' | rfl)
      · exact .inl h'
      · exact .inr h'
      · exact (h p).1 hk
  · rw [List.mem_append, h p, List.mem_append, List.mem_singleton]; exact or_assoc

def posL (segs : List SegM) : List Int := segs.flatMap fun S => S.1.slots.map fun x => (x.pos : Int)

theorem sp_positions (h : Sep st (LogT l o sv ps mv gv L ++ F)) (e : ps.length = L.segs.length) (h8 : L.segs.length < 2 ^ 30) (hsl : ∀ S ∈ L.segs, S.1.slots.length < 2 ^ 30)
    (hq : ∀ b ks st', (∀ p, p ∈ ks ↔ p ∈ posL L.segs) → Sep st' (PosP b ks :: LogT l o sv ps mv gv L ++ F) → Q (.map b) st') : Cal w0 n_maint_Log_positions [.ptr l 0] st Q := by
  refine ok_maint_Log_positions ?_
  unfold vc_maint_Log_positions
  simp only [nilC_ptr, faddr_ptr, Nat.zero_add]
  refine h.psh fun s1 h => ?_
  generalize st.hp.length = b at h ⊢
  refine h.new fun c s2 h => ?_
  refine h.sto 0 rfl rfl (by simp) fun s3 h => ?_
  -- c, b, l, own, sl, segs, m, g
  refine h.ld 2 rfl rfl ?_
  refine ((h.ord [4]).rd).len (n := ps.length) (by simp [ptrs]) (by omega) ?_
  have h : Sep s3 (PosP b [] :: pt c (.cells false [.map b]) :: LogT l o sv ps mv gv L ++ F) := .toEx [] (.toEx 0 (Sep.toStar (Sep.toPur (h.ord [1, 0]) ⟨rfl, by simp, by simp, by simp⟩)))
  refine ⟨fun n x s => ∃ (k : Nat) (ks : List Int), n = ps.length - k ∧ k ≤ ps.length ∧ x = [.ptr c 0, sv, .int .i64 ps.length, .int .i64 k] ∧ HasK ks [] (posL (L.segs.take k)) ∧ Sep s (PosP b ks :: pt c (.cells false [.map b]) :: LogT l o sv ps mv gv L ++ F), _, ⟨0, [], rfl, by omega, rfl, by simp [HasK, posL], h⟩, ?_⟩
  rintro n x s ⟨k, ks, rfl, hk, rfl, hks, h⟩
  simp only [List.getD_cons_zero, List.getD_cons_succ, bin_lss, OptK_some, AsBool_bool]
  refine Br_iff.2 ⟨fun e1 => ?_, fun e1 => ?_⟩
  · have e1 : k < ps.length := by simpa using e1
    obtain ⟨q, hq'⟩ : ∃ q, ps[k]? = some q := ⟨ps[k]'(by omega), List.getElem?_eq_getElem (by omega)⟩
    obtain ⟨S, hS⟩ : ∃ S, L.segs[k]? = some S := ⟨L.segs[k]'(by omega), List.getElem?_eq_getElem (by omega)⟩
    have hSl := hsl S (List.mem_of_getElem? hS)
    have htk : posL (L.segs.take (k + 1)) = posL (L.segs.take k) ++ S.1.slots.map fun x => (x.pos : Int) := by
      obtain ⟨hlt, hh⟩ := List.getElem?_eq_some_iff.1 hS
      rw [← List.take_append_getElem hlt, hh]; simp [posL]
    refine Jn_of (fun kk => ∀ ks' s, HasK ks' [] (posL (L.segs.take (k + 1))) → Sep s (PosP b ks' :: pt c (.cells false [.map b]) :: LogT l o sv ps mv gv L ++ F) → kk s) (fun ks' s hks' h => ?_) fun kk hkk => ?_
    · rw [bin_inc (by omega), OptK_some]
      exact ⟨ps.length - (k + 1), by omega, k + 1, ks', rfl, by omega, rfl, hks', h⟩
    · refine ((h.ord [4]).rd).at1d (ptrs_at hq') fun a46 => ?_
      refine sp_SAllCall h fun c2 s0 h => ?_
      -- sh, pos, c, l, own, sl, segs, m, g
      have h := ((h.ord [6]).focus (segsL_get hq' hS)).ofStar
      -- seg, disk, rest, sh, pos, c, l, own, sl, m, g
      obtain ⟨b2, h⟩ := h.ofSeg
      obtain ⟨T, cl, hT, ok, h⟩ := (h.ord [1]).ofSlots
      -- map, stars, s, disk, rest, sh, pos, c, ...
      have hTl : T.length < 2 ^ 30 := by have := congrArg List.length hT; simp at this; omega
      have h : Sep s0 (AllP c2 q.1 b2 T cl q.2 S.1 :: _) := Sep.toStar (Sep.swap (Sep.toStar (h.ord [2, 0, 3])))
      -- All, stars, disk, rest, pos, c, l, own, sl, m, g
      have hit := it_SAll (c := c2) (s := q.1) (b := b2) (d := q.2) (M := S.1) w0 ok hTl
      have h := (Sep.toEx (f := fun ks' : List Int => star (pur (HasK ks' [] (posL (L.segs.take k) ++ (sortI (T.map posT)).take 0))) (star (PosP b ks') (pt c (.cells false [.map b])))) ks (Sep.toStar (Sep.toPur (Sep.toStar (h.ord [4, 4])) (by simpa using hks)))).swap
      refine hit.run (fun j => ex fun ks' : List Int => star (pur (HasK ks' [] (posL (L.segs.take k) ++ (sortI (T.map posT)).take j))) (star (PosP b ks') (pt c (.cells false [.map b])))) (fun _ => pur False) h rfl rfl ?_ ?_ (fun s h => h.ofPur.1.elim) (fun _ s h => h.ofPur.1.elim) (fun _ s h => h.ofPur.1.elim)
      · intro j s1 F' al hal okl hj h
        have hj' : j < (sortI (T.map posT)).length := by simpa [allItems] using hj
        have e5 : (allItems T)[j] = [.int .i64 (sortI (T.map posT))[j], recOf T (sortI (T.map posT))[j]] := by simp [allItems]
        rw [e5]
        obtain ⟨ks', h⟩ := h.swap.ofEx
        obtain ⟨hks', h⟩ := h.ofStar.ofPur
        have h := h.ofStar
        -- pos, c, lq, P
        refine okr_maint_Log_positions_0 ((h.ord [2]).getL.trans (congrArg some hal)) ?_
        unfold rnd_maint_Log_positions_0
        refine h.rbeg okl 2 rfl fun s2 h => ?_
        refine h.ld 1 rfl rfl ?_
        refine Sep.putK h fun s3 h => ?_
        refine Sep.rnorm h okl 2 rfl fun s4 h => .inl ⟨rfl, ?_⟩
        refine Sep.swap (Sep.toEx (addK ks' (sortI (T.map posT))[j]) (Sep.toStar (Sep.toPur (Sep.toStar h) ?_)))
        have := hks'.add (k := (sortI (T.map posT))[j])
        rw [List.append_assoc, List.take_append_getElem hj'] at this
        exact this
      · intro s1 h
        obtain ⟨ks', h⟩ := h.ofEx
        obtain ⟨hks', h⟩ := h.ofStar.ofPur
        have h := h.ofStar
        -- pos, c, All, stars, disk, rest, l, own, sl, m, g
        have el : (allItems T).length = (sortI (T.map posT)).length := by simp [allItems]
        rw [el, List.take_length] at hks'
        refine hkk ks' s1 (fun p => ?_) ?_
        · rw [hks' p, htk]
          have hperm : p ∈ sortI (T.map posT) ↔ p ∈ S.1.slots.map fun x => (x.pos : Int) := by
            have h1 : p ∈ sortI (T.map posT) ↔ p ∈ T.map posT := (List.mergeSort_perm _ _).mem_iff
            rw [h1, ← hT, List.map_map]; rfl
          simp only [List.mem_append, hperm]
        · have h := (((h.ord [2]).ofStar).swap.ofStar)
          -- s, map, sh, pos, c, stars, disk, rest, ..
          have h := Sep.toSlots ok (h.ord [1, 4])
          rw [hT] at h
          have h := Sep.toSeg (h.ord [1, 0])
          -- seg, sh, pos, c, disk, rest, l, own, sl, m, g
          have h := Sep.refocus0 hq' hS (h.ord [0, 3, 3])
          -- segs, sh, pos, c, l, own, sl, m, g
          have h := h.ord [2, 2, 2, 2, 2, 0]
          -- pos, c, l, own, sl, segs, sh, m, g
          exact (h.ord [6]).tail
  · have e1 : k = ps.length := by
      have : ¬ k < ps.length := by simpa using e1
      omega
    refine h.ld 1 rfl rfl ?_
    refine hq b ks s (fun p => ?_) ((h.ord [1]).tail)
    rw [hks p, List.take_of_length_le (by omega)]; simp
end
end Go.Ab
