/- rec: what its functions do. -/
import Derived.Test.YtoehcgeckmoofaaGreatDoorDv
set_option linter.unusedVariables false
set_option linter.unusedSimpArgs false
namespace Go.Ab
open Go Go.RowKit Go.Proofs

structure Rec where
  site : Int
  seq : Int
  dep : List Int
  key : Bytes
  val : Bytes
  deriving DecidableEq

def nameB (c : Nat) : Bool := (decide (97 ≤ c) && decide (c ≤ 122)) || (decide (48 ≤ c) && decide (c ≤ 57))
def badC (c : UInt8) : Bool := decide (c.toNat < 33) || decide (126 < c.toNat)
def keyBad (k : Bytes) : Bool := decide (k.length < 1) || decide (8 < k.length) || decide ((Lib.trimF nameB ⟨k.toArray⟩).data.toList ≠ [])
def checkR (r : Rec) (sites : Int) : Int :=
  if sites < 1 ∨ 8 < sites ∨ r.site < 0 ∨ sites ≤ r.site ∨ r.seq < 1 ∨ 1048576 < r.seq then 1
  else if checkV r.dep sites ≠ 0 then checkV r.dep sites
  else if r.seq ≤ getV r.dep r.site then 13
  else if keyBad r.key then 3
  else if r.val.any badC then 2
  else if 16 < r.val.length then 4
  else 0

def recAV (v : AV) (r : Rec) : AV := .agg [.int .i64 r.site, .int .i64 r.seq, v, .str r.key, .str r.val]

section
variable {w0 : World} {st : St} {Q : Kont} {F : List Prp} {v u : AV} {r r' : Rec}

theorem sp_nameByte {x : Nat} {Q : Kont} (hq : Q (.bool (nameB x)) st) : Cal w0 n_rec_nameByte [.int .i32 x] st Q := by
  refine ok_rec_nameByte ?_
  unfold vc_rec_nameByte
  have key : ∀ b, nameB x = b → Q (.bool b) st := fun b e => e ▸ hq
  refine Br_iff.2 ⟨fun e1 => Br_iff.2 ⟨fun e2 => Br_iff.2 ⟨fun e3 => ?_, fun e3 => ?_⟩, fun e2 => ?_⟩, fun e1 => Br_iff.2 ⟨fun e3 => ?_, fun e3 => ?_⟩⟩ <;> refine key _ ?_ <;> rw [Bool.eq_iff_iff] <;> simp [nameB] at e1 ⊢ <;> (try simp at e2) <;> (try simp at e3) <;> omega

theorem c_nameTrim (g : Gnd w0) {s : Bytes} (hl : s.length < 4294967281) (hq : Q (.str (Lib.trimF nameB ⟨s.toArray⟩).data.toList) st) : Cal w0 n_strings_TrimFunc [.str s, .func n_rec_nameByte [] []] st Q :=
  c_TrimFunc g hl (by kernel_rfl) (fun W x _ => sp_nameByte rfl) hq

theorem sp_RCheck {sites : Int} (g : Gnd w0) (h : Sep st F) (rd : RdIn F v r.dep) (hd : r.dep.length < 2 ^ 30) (hv : r.val.length < 2 ^ 40) (hq : ∀ st', Sep st' F → Q (.int .i64 (checkR r sites)) st') : Cal w0 n_rec_Check [recAV v r, .int .i64 sites] st Q := by
  refine ok_rec_Check ?_
  unfold vc_rec_Check
  have key : ∀ e, checkR r sites = e → ∀ st', Sep st' F → Q (.int .i64 e) st' := fun e he => he ▸ hq
  refine h.new fun b s h => ?_
  refine Jn_of (fun k => k (.bool (decide (sites < 1 ∨ 8 < sites ∨ r.site < 0 ∨ sites ≤ r.site ∨ r.seq < 1 ∨ 1048576 < r.seq))) s) ?_ fun k hk => ?_
  · simp only [AsBool_bool]
    refine Br_iff.2 ⟨fun e1 => ?_, fun e1 => ?_⟩
    · have e1 := of_decide_eq_true e1
      exact key 1 (by rw [checkR, if_pos e1]) s h.tail
    · have e1 := of_decide_eq_false e1
      simp only [faddr_ptr, Nat.zero_add]
      refine h.ld 0 rfl rfl ?_
      refine sp_Check (F := _ :: _) h rd.cons hd fun s h => ?_
      simp only [bin_neq, OptK_some, AsBool_bool]
      refine Br_iff.2 ⟨fun e2 => ?_, fun e2 => ?_⟩
      · have e2 : checkV r.dep sites ≠ 0 := by simpa using e2
        exact key _ (by rw [checkR, if_neg e1, if_pos e2]) s h.tail
      · have e2 : checkV r.dep sites = 0 := by simpa using e2
        have e2' : ¬ checkV r.dep sites ≠ 0 := by simpa using e2
        refine Jn_of (fun k => getV r.dep r.site < r.seq → keyBad r.key = false → ∀ s, Sep s (pt b (.cells false [.int .i64 r.site, .int .i64 r.seq, v, .str r.key, .str r.val]) :: F) → k s) (fun e3 e4 s h => ?_) fun k hk => ?_
        · refine h.ld 0 rfl rfl ?_
          have hl : r.val.length ≤ 2 ^ 62 := by omega
          refine ⟨hl, ?_⟩
          have h := h.push (.cells true (r.val.map fun c => .int .u8 c.toNat))
          generalize hb' : s.hp.length = b' at h ⊢
          generalize s.push _ = s' at h ⊢
          have rdv : ∀ s F', Sep s (pt b' (.cells true (r.val.map fun c => .int .u8 c.toNat)) :: F') → Rd s (.slice b' 0 r.val.length r.val.length false 1) 1 (r.val.map fun c => .int .u8 c.toNat) := fun s F' h => .inr ⟨b', 0, _, _, false, _, rfl, cells_of h.get, by simp, by rw [List.drop_zero]; exact List.take_of_length_le (by simp), Nat.le_refl _⟩
          refine (rdv _ _ h).len (n := r.val.length) (by simp) (by omega) ?_
          have hk1 : checkR r sites = if r.val.any badC then 2 else if 16 < r.val.length then 4 else 0 := by
            rw [checkR, if_neg e1, if_neg e2', if_neg (by omega), e4]; simp
          refine ⟨fun n x s => ∃ k : Nat, n = r.val.length - k ∧ k ≤ r.val.length ∧ x = [.ptr b 0, .slice b' 0 r.val.length r.val.length false 1, .int .i64 r.val.length, .int .i64 k] ∧ (∀ i (hi : i < k) (h : i < r.val.length), badC r.val[i] = false) ∧ Sep s (pt b' (.cells true (r.val.map fun c => .int .u8 c.toNat)) :: pt b (.cells false [.int .i64 r.site, .int .i64 r.seq, v, .str r.key, .str r.val]) :: F), _, ⟨0, rfl, by omega, rfl, fun i hi => by omega, h⟩, ?_⟩
          rintro n x s ⟨k, rfl, hk, rfl, hall, h⟩
          simp only [List.getD_cons_zero, List.getD_cons_succ, bin_lss, OptK_some, AsBool_bool]
          refine Br_iff.2 ⟨fun e => ?_, fun e => ?_⟩
          · have hlt : k < r.val.length := by simpa using e
            refine Jn_of (fun k' => badC r.val[k] = false → k' s) (fun hb => ?_) fun k' hk' => ?_
            · rw [bin_inc (by omega), OptK_some]
              refine ⟨r.val.length - (k + 1), by omega, k + 1, rfl, by omega, rfl, fun i hi hl => ?_, h⟩
              rcases Nat.lt_or_ge i k with h' | h'
              · exact hall i h' hl
              · have : i = k := by omega
                subst this; exact hb
            · have hget : (r.val.map fun c => AV.int .u8 c.toNat)[k]? = some (.int .u8 r.val[k].toNat) := by simp [hlt]
              refine (rdv _ _ h).at1 hget ?_
              have hany : badC r.val[k] = true → checkR r sites = 2 := fun hb => by
                rw [hk1, if_pos]; exact List.any_eq_true.2 ⟨_, List.getElem_mem hlt, hb⟩
              simp only [bin_lss, OptK_some, AsBool_bool]
              refine Br_iff.2 ⟨fun e5 => ?_, fun e5 => ?_⟩
              · have e5 : ¬ r.val[k].toNat < 33 := by intro hh; simp at e5; omega
                simp only [bin_gtr, OptK_some, pick_f, AsBool_bool]
                refine Br_iff.2 ⟨fun e6 => ?_, fun e6 => ?_⟩
                · have e6 : 126 < r.val[k].toNat := by simp at e6; omega
                  exact key 2 (hany (by simp [badC, e6])) s h.tail.tail
                · have e6 : ¬ 126 < r.val[k].toNat := by simp at e6; omega
                  exact hk' (by simp [badC, e5, e6])
              · have e5 : r.val[k].toNat < 33 := by simp at e5; omega
                exact key 2 (hany (by simp [badC, e5])) s h.tail.tail
          · have : ¬ k < r.val.length := by simpa using e
            have : k = r.val.length := by omega
            subst this
            have hno : r.val.any badC = false := by
              rw [List.any_eq_false]; intro c hc
              obtain ⟨i, hi, rfl⟩ := List.mem_iff_getElem.1 hc
              simp [hall i hi hi]
            rw [hno] at hk1
            simp only [faddr_ptr, Nat.zero_add]
            refine h.ld 1 rfl rfl ?_
            simp only [LenOk, lenTk, Len, Chk_true, bin_gtr, OptK_some, AsBool_bool]
            refine Br_iff.2 ⟨fun e6 => ?_, fun e6 => ?_⟩
            · have e6 : 16 < r.val.length := by simp at e6; omega
              exact key 4 (by rw [hk1]; simp [e6]) s h.tail.tail
            · have e6 : ¬ 16 < r.val.length := by simp at e6; omega
              exact key 0 (by rw [hk1]; simp [e6]) s h.tail.tail
        · refine h.ld 0 rfl rfl ?_
          refine h.ld 0 rfl rfl ?_
          refine h.ld 0 rfl rfl ?_
          refine sp_Get (rd.cons s h) ?_
          refine ⟨h.ld 0 rfl rfl rfl, ?_⟩
          simp only [bin_geq, OptK_some, AsBool_bool]
          refine Br_iff.2 ⟨fun e3 => ?_, fun e3 => ?_⟩
          · have e3 : r.seq ≤ getV r.dep r.site := by simpa using e3
            exact key 13 (by rw [checkR, if_neg e1, if_neg e2', if_pos e3]) s h.tail
          · have e3 : ¬ r.seq ≤ getV r.dep r.site := by simpa using e3
            have hbad : keyBad r.key = true → checkR r sites = 3 := fun hb => by rw [checkR, if_neg e1, if_neg e2', if_neg e3, if_pos hb]
            refine h.ld 0 rfl rfl ?_
            simp only [LenOk, lenTk, Len, Chk_true, bin_lss, OptK_some, AsBool_bool]
            refine Br_iff.2 ⟨fun e4 => ?_, fun e4 => ?_⟩
            · have e4 : ¬ r.key.length < 1 := by intro hh; simp at e4; omega
              refine h.ld 0 rfl rfl ?_
              simp only [LenOk, lenTk, Len, Chk_true, bin_gtr, OptK_some, pick_f, AsBool_bool]
              refine Br_iff.2 ⟨fun e5 => ?_, fun e5 => ?_⟩
              · have e5 : ¬ 8 < r.key.length := by intro hh; simp at e5; omega
                refine h.ld 0 rfl rfl ?_
                refine c_nameTrim g (by omega) ?_
                simp only [bin_sneq, OptK_some, pick_f, AsBool_bool]
                refine Br_iff.2 ⟨fun e6 => ?_, fun e6 => ?_⟩
                · exact key 3 (hbad (by unfold keyBad; rw [show decide ((Lib.trimF nameB ⟨r.key.toArray⟩).data.toList ≠ []) = true by simpa using e6]; simp)) s h.tail
                · refine hk (by omega) ?_ s h
                  unfold keyBad
                  rw [show decide ((Lib.trimF nameB ⟨r.key.toArray⟩).data.toList ≠ []) = false by simpa using e6, decide_eq_false e4, decide_eq_false e5]
                  rfl
              · have e5 : 8 < r.key.length := by simp at e5; omega
                exact key 3 (hbad (by simp [keyBad, e5])) s h.tail
            · have e4 : r.key.length < 1 := by simp at e4; omega
              exact key 3 (hbad (by unfold keyBad; rw [decide_eq_true e4]; rfl)) s h.tail
  · have hd : ∀ b : Bool, b = decide (sites < 1 ∨ 8 < sites ∨ r.site < 0 ∨ sites ≤ r.site ∨ r.seq < 1 ∨ 1048576 < r.seq) → k (.bool b) s := fun b e => e ▸ hk
    refine Br_iff.2 ⟨fun e1 => Br_iff.2 ⟨fun e2 => ?_, fun e2 => hd _ (by simp at e2; simp [e2])⟩, fun e1 => hd _ (by simp at e1; simp [e1])⟩
    simp only [faddr_ptr, Nat.zero_add]
    refine h.ld 0 rfl rfl ?_
    simp only [bin_lss, OptK_some, pick_f, AsBool_bool]
    refine Br_iff.2 ⟨fun e3 => ?_, fun e3 => hd _ (by simp at e3; simp [e3])⟩
    refine h.ld 0 rfl rfl ?_
    simp only [bin_geq, OptK_some, pick_f, AsBool_bool]
    refine Br_iff.2 ⟨fun e4 => ?_, fun e4 => hd _ (by simp at e4; simp [e4])⟩
    refine h.ld 0 rfl rfl ?_
    simp only [bin_lss, OptK_some, pick_f, AsBool_bool]
    refine Br_iff.2 ⟨fun e5 => ?_, fun e5 => hd _ (by simp at e5; simp [e5])⟩
    refine h.ld 0 rfl rfl ?_
    simp only [bin_gtr, OptK_some, pick_f]
    refine hd _ ?_
    have h1 : ¬ sites < 1 := by simpa using e1
    have h2 : ¬ 8 < sites := by simpa using e2
    have h3 : ¬ r.site < 0 := by simpa using e3
    have h4 : ¬ sites ≤ r.site := by simpa using e4
    have h5 : ¬ r.seq < 1 := by simpa using e5
    simp [h1, h2, h3, h4, h5]

def sameR (a b : Rec) : Bool := decide (a.site = b.site) && (decide (a.seq = b.seq) && (sameV a.dep b.dep && (decide (a.key = b.key) && decide (a.val = b.val))))
def textR (r : Rec) : Bytes := Lib.itoa r.site ++ 58 :: (Lib.itoa r.seq ++ 32 :: (textV r.dep ++ 32 :: (r.key ++ 61 :: r.val)))

theorem sp_RText (g : Gnd w0) (h : Sep st F) (rd : RdIn F v r.dep) (f : FitV r.dep) (h1 : -9223372036854775808 ≤ r.site ∧ r.site ≤ 9223372036854775807) (h2 : -9223372036854775808 ≤ r.seq ∧ r.seq ≤ 9223372036854775807) (hk : r.key.length < 2 ^ 40) (hv : r.val.length < 2 ^ 40)
    (hq : ∀ st', Sep st' F → Q (.str (textR r)) st') : Cal w0 n_rec_Text [recAV v r] st Q := by
  refine ok_rec_Text ?_
  unfold vc_rec_Text
  refine h.new fun b s h => ?_
  simp only [faddr_ptr, Nat.zero_add]
  refine h.ld 0 rfl rfl ?_
  refine h.ld 0 rfl rfl ?_
  refine h.ld 0 rfl rfl ?_
  refine h.ld 0 rfl rfl ?_
  refine h.ld 0 rfl rfl ?_
  refine c_Itoa g h1.1 h1.2 ?_
  refine ⟨h.ld 0 rfl rfl rfl, h.ld 0 rfl rfl rfl, h.ld 0 rfl rfl rfl, h.ld 0 rfl rfl rfl, ?_⟩
  have l1 := Lib.itoa_length_le r.site h1.1 h1.2
  have l2 := Lib.itoa_length_le r.seq h2.1 h2.2
  have l3 := textV_len f
  have l4 := f.len
  rw [bin_sadd (by simp; omega), OptK_some]
  refine c_Itoa g h2.1 h2.2 ?_
  refine ⟨h.ld 0 rfl rfl rfl, h.ld 0 rfl rfl rfl, h.ld 0 rfl rfl rfl, ?_⟩
  rw [bin_sadd (by simp; omega), OptK_some, bin_sadd (by simp; omega), OptK_some]
  refine sp_Text (F := _ :: _) g h rd.cons f fun s h => ?_
  refine ⟨h.ld 0 rfl rfl rfl, h.ld 0 rfl rfl rfl, ?_⟩
  rw [bin_sadd (by simp; omega), OptK_some, bin_sadd (by simp; omega), OptK_some, bin_sadd (by simp; omega), OptK_some, bin_sadd (by simp; omega), OptK_some, bin_sadd (by simp; omega), OptK_some]
  have := hq s h.tail
  simpa [textR] using this

/-- What Check lets pass, with what a text's reader wants. -/
theorem okV_of (r : Rec) (h : checkR r 8 = 0) : OkV r.dep ∧ 0 ≤ r.site ∧ r.site < 8 ∧ 1 ≤ r.seq ∧ r.seq ≤ 1048576 ∧ getV r.dep r.site < r.seq ∧ keyBad r.key = false ∧ r.val.any badC = false ∧ r.val.length ≤ 16 := by
  unfold checkR at h
  split at h
  · cases h
  · split at h
    · rename_i h1 h2; exact absurd h h2
    · split at h
      · cases h
      · split at h
        · cases h
        · split at h
          · cases h
          · split at h
            · cases h
            · rename_i h1 h2 h3 h4 h5 h6
              have hv : checkV r.dep 8 = 0 := by simpa using h2
              refine ⟨?_, by omega, by omega, by omega, by omega, by omega, by simpa using h4, by simpa using h5, by omega⟩
              unfold checkV at hv
              split at hv
              · cases hv
              · split at hv
                · cases hv
                · rename_i h7 h8
                  refine ⟨by omega, fun n hn => ?_⟩
                  have hnone : r.dep.findSome? badV = none := by
                    cases hh : r.dep.findSome? badV with
                    | none => rfl
                    | some y =>
                      rw [hh] at hv
                      obtain ⟨x, _, hx⟩ := List.exists_of_findSome?_eq_some hh
                      unfold badV at hx
                      split at hx
                      · cases hx; cases hv
                      · split at hx
                        · cases hx; cases hv
                        · cases hx
                  have := List.findSome?_eq_none_iff.1 hnone n hn
                  unfold badV at this
                  split at this
                  · cases this
                  · split at this
                    · cases this
                    · omega

theorem lastP_above (xs : List Int) : ∀ (k : Nat), k ≤ xs.length → ∀ i, i < k → xs.getD i 0 ≠ 0 → i < lastP (pairs (xs.take k))
  | 0, _, i, hi, _ => by omega
  | k + 1, hk, i, hi, hx => by
    have ih := lastP_above xs k (by omega)
    have hp := pairs_take xs k (by omega)
    by_cases h0 : xs[k] = 0
    · rw [if_pos h0, List.append_nil] at hp
      rw [hp]
      refine ih i ?_ hx
      rcases Nat.lt_or_ge i k with h | h
      · exact h
      · have : i = k := by omega
        subst this
        rw [List.getD_eq_getElem?_getD, List.getElem?_eq_getElem (by omega)] at hx
        exact absurd h0 hx
    · rw [if_neg h0] at hp
      have : lastP (pairs (xs.take (k + 1))) = k + 1 := by rw [hp]; simp [lastP]
      omega
theorem trimV_getD (xs : List Int) (i : Nat) : (trimV xs).getD i 0 = xs.getD i 0 := by
  by_cases h : i < lastP (pairs xs)
  · simp only [trimV, List.getD_eq_getElem?_getD, List.getElem?_take, h, if_true]
  · have h1 : (trimV xs).getD i 0 = 0 := by
      simp only [trimV, List.getD_eq_getElem?_getD, List.getElem?_take, h, if_false]; rfl
    rw [h1]
    by_cases hx : xs.getD i 0 = 0
    · exact hx.symm
    · exfalso
      have hlt : i < xs.length := by
        rcases Nat.lt_or_ge i xs.length with h' | h'
        · exact h'
        · rw [List.getD_eq_getElem?_getD, List.getElem?_eq_none h'] at hx; exact absurd rfl hx
      have := lastP_above xs xs.length (Nat.le_refl _) i hlt hx
      rw [List.take_length] at this
      exact h this
theorem getV_trim (xs : List Int) (i : Int) : getV (trimV xs) i = getV xs i := by
  unfold getV; rw [trimV_getD]
theorem checkV_ok {xs : List Int} (h : OkV xs) : checkV xs 8 = 0 := by
  have hl := h.len
  have hn : xs.findSome? badV = none := by
    rw [List.findSome?_eq_none_iff]; intro n hn
    have := h.fit n hn
    unfold badV; rw [if_neg (by omega), if_neg (by omega)]
  unfold checkV
  rw [if_neg (by omega), if_neg (by omega), hn]; rfl

/-- A record whose text's reader gets it again. -/
structure OkR (r : Rec) : Prop where
  chk : checkR r 8 = 0
  key : ∀ c ∈ r.key, nameB c.toNat = true
def trimR (r : Rec) : Rec := { r with dep := trimV r.dep }
theorem OkR.trim (h : OkR r) : OkR (trimR r) := by
  refine ⟨?_, h.key⟩
  obtain ⟨h1, h2, h3, h4, h5, h6, h7, h8, h9⟩ := okV_of r h.chk
  have e := checkV_ok h1.trim
  unfold checkR trimR
  simp only [getV_trim, e, h7, h8]
  rw [if_neg (by omega), if_neg (by simp), if_neg (by omega)]
  rw [if_neg (by simp), if_neg (by simp), if_neg (by omega)]

theorem fill5 {v : AV} {x y : Int} {k u : Bytes} (hv : v.one = true) : fillAV (fun i => [(0, 1), (1, 1), (2, 1), (3, 1), (4, 1)][i]?) [.int .i64 0, .int .i64 0, .nils, .str [], .str []] [(0, .int .i64 x), (1, .int .i64 y), (2, v), (3, .str k), (4, .str u)] = some [.int .i64 x, .int .i64 y, v, .str k, .str u] := by
  cases v <;> first | rfl | cases hv

theorem one5 {v : AV} {x y : Int} {k u : Bytes} (hv : v.one = true) : List.all [.int .i64 x, .int .i64 y, v, .str k, .str u] AV.one = true := by
  simp only [List.all_cons, List.all_nil, hv]; rfl
theorem sp_RParse (g : Gnd w0) (h : Sep st F) (ok : OkR r) (hq : ∀ v st', Sep st' (ShP v 1 (ints (trimV r.dep)) :: F) → Q (.tup [recAV v (trimR r), .int .i64 0]) st') : Cal w0 n_rec_Parse [.str (textR r)] st Q := by
  refine ok_rec_Parse ?_
  unfold vc_rec_Parse
  obtain ⟨h1, h2, h3, h4, h5, h6, h7, h8, h9⟩ := okV_of r ok.chk
  have hkl : r.key.length ≤ 8 := by
    unfold keyBad at h7
    simp only [Bool.or_eq_false_iff, decide_eq_false_iff_not] at h7
    omega
  have hlen := textV_len h1.fitV
  have hl := h1.len
  generalize hj : Lib.join ((trimV r.dep).map Lib.itoa) [32] = j
  have et : textV r.dep = 91 :: (j ++ [93]) := by rw [← hj]; rfl
  have hjl : j.length ≤ 200 := by rw [et] at hlen; simp at hlen; omega
  have hdig : ∀ (n : Int) (c : UInt8), 0 ≤ n → isDig c = false → c ∉ Lib.itoa n := fun n c hn hc hm => by
    rw [itoa_no n hn c hm] at hc; cases hc
  have hj93 : (93 : UInt8) ∉ (91 :: j) := by
    intro hm
    rcases List.mem_cons.1 hm with h | h
    · cases h
    · rw [← hj] at h
      have key : ∀ (xs : List Bytes), (∀ x ∈ xs, (93 : UInt8) ∉ x) → (93 : UInt8) ∉ Lib.join xs [32] := by
        intro xs
        induction xs with
        | nil => intro _; simp [Lib.join, List.intercalate]
        | cons x xs ih =>
          intro hx
          cases xs with
          | nil => simpa [Lib.join, List.intercalate] using hx x (by simp)
          | cons y ys =>
            have e : Lib.join (x :: y :: ys) [32] = x ++ 32 :: Lib.join (y :: ys) [32] := by simp [Lib.join, List.intercalate, List.intersperse]
            rw [e]
            have := ih fun z hz => hx z (List.mem_cons_of_mem _ hz)
            have := hx x (by simp)
            simp_all
      refine key _ (fun x hx => ?_) h
      obtain ⟨n, hn, rfl⟩ := List.mem_map.1 hx
      exact hdig n 93 (h1.trim.fit n hn).1 (by decide)
  have hk61 : (61 : UInt8) ∉ r.key := fun hm => by
    have := ok.key 61 hm
    simp [nameB] at this
  have l1 := Lib.itoa_length_le r.site (by omega) (by omega)
  have l2 := Lib.itoa_length_le r.seq (by omega) (by omega)
  refine h.new fun b s h => ?_
  have e1 : textR r = Lib.itoa r.site ++ 58 :: (Lib.itoa r.seq ++ 32 :: ((91 :: j) ++ 93 :: 32 :: (r.key ++ 61 :: r.val))) := by
    unfold textR; rw [et]; simp
  rw [e1]
  refine c_Cut g (by simp; omega) ?_
  rw [cut_one (hdig _ 58 h2 (by decide))]
  simp only [ext_tup, List.getElem?_cons_zero, List.getElem?_cons_succ, OptK_some]
  refine c_Cut g (by simp; omega) ?_
  rw [cut_one (hdig _ 32 (by omega) (by decide))]
  simp only [ext_tup, List.getElem?_cons_zero, List.getElem?_cons_succ, OptK_some]
  refine c_Cut g (by simp; omega) ?_
  rw [cut_two hj93]
  simp only [ext_tup, List.getElem?_cons_zero, List.getElem?_cons_succ, OptK_some]
  refine c_Cut g (by simp; omega) ?_
  rw [cut_one hk61]
  simp only [ext_tup, List.getElem?_cons_zero, List.getElem?_cons_succ, OptK_some]
  obtain ⟨x, hx⟩ : ∃ x : Nat, r.site = x := ⟨r.site.toNat, by omega⟩
  obtain ⟨y, hy⟩ : ∃ y : Nat, r.seq = y := ⟨r.seq.toNat, by omega⟩
  rw [hx, hy]
  refine sp_Number (most := 2147483647) (by omega) (by omega) ?_
  simp only [ext_tup, List.getElem?_cons_zero, List.getElem?_cons_succ, OptK_some]
  refine sp_Number (most := 2147483647) (by omega) (by omega) ?_
  simp only [ext_tup, List.getElem?_cons_zero, List.getElem?_cons_succ, OptK_some]
  refine Jn_of (fun k => k (.bool false) s) ?_ fun k hk => ?_
  · simp only [AsBool_bool, Br_false]
    rw [bin_sadd (by simp; omega), OptK_some]
    have e2 : 91 :: j ++ [93] = textV r.dep := by rw [et]; simp
    rw [e2]
    refine sp_Parse g h h1 fun v s hv h => ?_
    simp only [ext_tup, List.getElem?_cons_zero, List.getElem?_cons_succ, OptK_some, bin_neq, AsBool_bool]
    refine Br_f (by decide) ?_
    have hcells : v.cellsOk = some [v] := by cases v <;> simp_all [AV.one, AV.cellsOk]
    have hfill : fillAV (fun i => [(0, 1), (1, 1), (2, 1), (3, 1), (4, 1)][i]?) [.int .i64 0, .int .i64 0, .nils, .str [], .str []] [(0, .int .i64 x), (1, .int .i64 y), (2, v), (3, .str r.key), (4, .str r.val)] = some [.int .i64 x, .int .i64 y, v, .str r.key, .str r.val] := by
      exact fill5 hv
    rw [hfill, OptK_some]
    have h := h.slSh
    refine h.new fun b2 s h => ?_
    refine h.stoA (ws := [.int .i64 x, .int .i64 y, v, .str r.key, .str r.val]) 0 rfl (one5 hv) (by simp) fun s h => ?_
    refine h.ldA 0 rfl (ws := [.int .i64 x, .int .i64 y, v, .str r.key, .str r.val]) rfl rfl ?_
    have hr : (.agg [.int .i64 x, .int .i64 y, v, .str r.key, .str r.val] : AV) = recAV v (trimR r) := by simp [recAV, trimR, hx, hy]
    rw [hr]
    refine sp_RCheck (F := _ :: _) (r := trimR r) (v := v) g h (fun s hs => hs.tail.rdS) (by have := h1.trim.len; simp only [trimR]; omega) (by simp only [trimR]; omega) fun s h => ?_
    rw [ok.trim.chk]
    simp only [bin_neq, OptK_some, AsBool_bool]
    refine Br_f (by decide) ?_
    refine h.ldA 0 rfl (ws := [.int .i64 x, .int .i64 y, v, .str r.key, .str r.val]) rfl rfl ?_
    refine h.stoA (ws := [.int .i64 x, .int .i64 y, v, .str r.key, .str r.val]) 2 rfl (one5 hv) (by simp) fun s h => ?_
    refine h.ldA 2 rfl (ws := [.int .i64 x, .int .i64 y, v, .str r.key, .str r.val]) rfl rfl ?_
    rw [hr]
    exact hq v s ((h.ord [1]).swap.tail.swap.tail)
  · simp only [un_not, bin_neq, OptK_some, AsBool_bool, Bool.not_true, beq_self_eq_true, Br_true, pick_f, decide_true, Bool.not_false]
    exact hk
end
end Go.Ab
