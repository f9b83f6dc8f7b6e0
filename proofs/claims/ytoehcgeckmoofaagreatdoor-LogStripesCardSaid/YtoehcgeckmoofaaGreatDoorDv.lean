/- vec: Text, Number, Parse. -/
import Derived.Test.YtoehcgeckmoofaaGreatDoorDb
import Derived.Test.YtoehcgeckmoofaaGreatDoorDt
set_option linter.unusedVariables false
set_option linter.unusedSimpArgs false
namespace Go.Ab
open Go Go.RowKit Go.Proofs

def strs (xs : List Bytes) : List AV := xs.map .str

def lastP (ps : List (Nat × Int)) : Nat := (ps.getLast?.map (·.1 + 1)).getD 0
/-- A vector's entries up to the last that is not 0. -/
def trimV (xs : List Int) : List Int := xs.take (lastP (pairs xs))
def textV (xs : List Int) : Bytes := 91 :: (Lib.join ((trimV xs).map Lib.itoa) [32] ++ [93])

theorem pairs_lt {xs : List Int} {p : Nat × Int} (h : p ∈ pairs xs) : p.1 < xs.length ∧ xs.getD p.1 0 = p.2 ∧ p.2 ≠ 0 := by
  unfold pairs at h
  obtain ⟨h1, h2⟩ := List.mem_filter.1 h
  obtain ⟨i, hi, rfl⟩ := List.mem_iff_getElem.1 h1
  simp only [List.length_mapIdx] at hi
  simp only [List.getElem_mapIdx] at h2 ⊢
  exact ⟨hi, by simp [hi], by simpa using h2⟩
theorem lastP_le (xs : List Int) : lastP (pairs xs) ≤ xs.length := by
  unfold lastP
  cases h : (pairs xs).getLast? with
  | none => simp
  | some p =>
    have := (pairs_lt (List.mem_of_getLast? h)).1
    simp; omega
theorem lastP_take (ps : List (Nat × Int)) (k : Nat) (h : k < ps.length) : lastP (ps.take (k + 1)) = ps[k].1 + 1 := by
  unfold lastP
  rw [← List.take_append_getElem h, List.getLast?_append]
  rfl

theorem join_len (xs : List Bytes) (m : Nat) (h : ∀ x ∈ xs, x.length ≤ m) : (Lib.join xs [32]).length ≤ xs.length * (m + 1) := by
  induction xs with
  | nil => simp [Lib.join, List.intercalate]
  | cons x xs ih =>
    have ih := ih fun y hy => h y (by simp [hy])
    have hx := h x (by simp)
    cases xs with
    | nil => simp [Lib.join, List.intercalate]; omega
    | cons y ys =>
      have hj : Lib.join (x :: y :: ys) [32] = x ++ 32 :: Lib.join (y :: ys) [32] := by simp [Lib.join, List.intercalate, List.intersperse]
      rw [hj]
      have e : (x :: y :: ys).length = (y :: ys).length + 1 := rfl
      rw [e, Nat.add_mul, List.length_append, List.length_cons]; omega

/-- Numbers that fit a machine's word; not too many. -/
structure FitV (xs : List Int) : Prop where
  len : xs.length < 2 ^ 30
  fit : ∀ n ∈ xs, -9223372036854775808 ≤ n ∧ n ≤ 9223372036854775807

section
variable {w0 : World} {st : St} {Q : Kont} {F : List Prp} {v u : AV} {xs ys : List Int}

theorem textV_len (f : FitV xs) : (textV xs).length ≤ xs.length * 22 + 2 := by
  unfold textV
  have := join_len ((trimV xs).map Lib.itoa) 21 fun x hx => by
    obtain ⟨n, hn, rfl⟩ := List.mem_map.1 hx
    have := f.fit n (List.mem_of_mem_take hn)
    exact Lib.itoa_length_le n this.1 this.2
  have h2 : (trimV xs).length ≤ xs.length := by simp [trimV]; omega
  rw [List.length_map] at this
  have h3 := Nat.mul_le_mul_right 22 h2
  simp; omega

theorem RdIn.cut (r : RdIn F v xs) {n : Nat} (h : Sep st F) (hn : n ≤ xs.length) : ∃ v', sliceSl v 1 0 (some (n : Int)) none = some v' ∧ RdIn F v' (xs.take n) := by
  obtain ⟨v', hv, _⟩ := (r st h).cut (n := n) (m := xs.length) (by simp [ints]) (by omega) hn
  refine ⟨v', hv, fun s hs => ?_⟩
  obtain ⟨v2, hv2, r2⟩ := (r s hs).cut (n := n) (m := xs.length) (by simp [ints]) (by omega) hn
  rw [hv] at hv2; cases hv2
  simpa [ints, List.map_take] using r2

theorem sp_Text (g : Gnd w0) (h : Sep st F) (r : RdIn F v xs) (f : FitV xs) (hq : ∀ st', Sep st' F → Q (.str (textV xs)) st') : Cal w0 n_vec_Text [v] st Q := by
  refine ok_vec_Text ?_
  unfold vc_vec_Text
  have hx := f.len
  have hv := (r st h).one
  refine h.new fun e s h => ?_
  refine h.sto 0 rfl rfl (by simp) fun s h => ?_
  refine sp_All (v := v) (xs := xs) (R := stars F) h.pack hv fun c s0 h => ?_
  have hr : ∀ F', RdIn (stars F :: F') v xs := fun F' st h => r st (Sep.unpack (P := emp) (Sep.swap (Sep.toEmp h.head))).tail
  refine Jn_of (fun k => ∀ s, Sep s (pt e (.cells false [.int .i64 (lastP (pairs xs))]) :: F) → k s) (fun s h => ?_) fun k hk => ?_
  · refine h.ld 0 rfl rfl ?_
    have hle := lastP_le xs
    obtain ⟨v', hv', r'⟩ := r.cut h.tail hle
    have htr : xs.take (lastP (pairs xs)) = trimV xs := rfl
    rw [htr] at r'
    simp only [SlSl, optInt, OptK_some, Option.getD_none, hv']
    have hlen : (trimV xs).length ≤ xs.length := by simp [trimV]; omega
    refine (r' s h.tail).len (n := (trimV xs).length) (by simp [ints]) (by omega) ?_
    refine ⟨fun n x s => ∃ (k : Nat) (o : AV), n = (trimV xs).length - k ∧ k ≤ (trimV xs).length ∧ x = [o, v', .int .i64 (trimV xs).length, .int .i64 k] ∧ Sep s (SlP o 1 (strs (((trimV xs).take k).map Lib.itoa)) :: F), (trimV xs).length, ⟨0, .nils, rfl, by omega, rfl, h.tail.nilSl⟩, ?_⟩
    rintro n x s ⟨k, o, rfl, hk, rfl, h⟩
    simp only [List.getD_cons_zero, List.getD_cons_succ, bin_lss, OptK_some, AsBool_bool]
    refine Br_iff.2 ⟨fun e => ?_, fun e => ?_⟩
    · have hlt : k < (trimV xs).length := by simpa using e
      refine (r' s h.tail).at1 (intsAt hlt) ?_
      have hfit := f.fit _ (List.mem_of_mem_take (List.getElem_mem hlt))
      refine c_Itoa g hfit.1 hfit.2 ?_
      have hfill : fillAV (fun i => some (i * 1, 1)) [.str []] [(0, .str (Lib.itoa (trimV xs)[k]))] = some [.str (Lib.itoa (trimV xs)[k])] := rfl
      rw [hfill, OptK_some]
      refine h.psh fun s h => ?_
      refine h.swap.append (ys := [.str _]) (by omega) (by simp) (by omega) rfl (by simp [strs]; omega) (by omega) fun o' s ho' h => ?_
      rw [bin_inc (by omega), OptK_some]
      refine ⟨(trimV xs).length - (k + 1), by omega, k + 1, o', rfl, by omega, rfl, ?_⟩
      · have : strs (((trimV xs).take k).map Lib.itoa) ++ [.str (Lib.itoa (trimV xs)[k])] = strs (((trimV xs).take (k + 1)).map Lib.itoa) := by
          rw [← List.take_append_getElem hlt]; simp only [strs, List.map_append, List.map_cons, List.map_nil]
        rw [← this]; exact h.swap.tail
    · have : ¬ k < (trimV xs).length := by simpa using e
      have : k = (trimV xs).length := by omega
      subst this
      rw [List.take_length] at h
      have hj := join_len ((trimV xs).map Lib.itoa) 21 fun x hx => by
        obtain ⟨n, hn, rfl⟩ := List.mem_map.1 hx
        have := f.fit n (List.mem_of_mem_take hn)
        exact Lib.itoa_length_le n this.1 this.2
      rw [List.length_map] at hj
      have hj2 := Nat.mul_le_mul_right 22 hlen
      refine c_Join (strs_of_rd h.rd) (by simp; omega) (by omega) ?_
      rw [bin_sadd (by simp; omega), OptK_some, bin_sadd (by simp; omega), OptK_some]
      have := hq s h.tail
      simpa [textV] using this
  · refine (it_All w0 c v xs (stars F) hr hx).run (F := []) (fun k => pt e (.cells false [.int .i64 (lastP ((pairs xs).take k))])) (fun _ => pur False) h rfl rfl ?_ ?_ (fun s h => h.ofPur.1.elim) (fun _ s h => h.ofPur.1.elim) (fun _ s h => h.ofPur.1.elim)
    · intro k s F' al hal ok hk h
      have hk' : k < (pairs xs).length := by simpa [pairItems] using hk
      have e5 : (pairItems xs)[k] = [.int .i64 (pairs xs)[k].1, .int .i64 (pairs xs)[k].2] := by simp [pairItems]
      rw [e5]
      refine okr_vec_Text_0 (h.getL.trans (congrArg some hal)) ?_
      unfold rnd_vec_Text_0
      refine h.rbeg ok 0 rfl fun s h => ?_
      simp only [bin, OptK_some, if_true]
      have hlt := (pairs_lt (List.getElem_mem hk')).1
      rw [wrap_id (by omega) (by omega)]
      refine h.sto 1 rfl rfl (by simp) fun s h => ?_
      refine h.rnorm ok 0 rfl fun s h => .inl ⟨rfl, ?_⟩
      rw [lastP_take _ _ hk']; exact h
    · intro s h
      have e : (pairItems xs).length = (pairs xs).length := by simp [pairItems]
      rw [e, List.take_length] at h
      refine hk s ?_
      exact Sep.unpack h.swap.ofStar.tail

theorem sp_Number {n most : Nat} (hn : n ≤ most) (hm : most ≤ 2147483647) (hq : Q (.tup [.int .i64 n, .int .i64 0]) st) : Cal w0 n_vec_Number [.str (Lib.itoa n), .int .i64 most] st Q := by
  refine ok_vec_Number ?_
  unfold vc_vec_Number
  rw [itoa_nat]
  have hlen : (Lib.decDigits n).length ≤ 10 := dec_len 10 n (by omega) (by omega)
  have hne := dec_ne n
  refine Jn_of (fun k => k (.bool false) st) ?_ fun k hk => ?_
  · simp only [AsBool_bool, Br_false]
    refine c_Atoi (n := n) (by omega) (atoi_dec n) ?_
    simp only [ext_tup, List.getElem?_cons_zero, List.getElem?_cons_succ, OptK_some]
    refine Jn_of (fun k => k (.bool false) st) ?_ fun k hk => ?_
    · simp only [AsBool_bool, Br_false]; exact hq
    · have e : decide ((most : Int) < n) = false := by simp; omega
      simp only [bin, OptK_some, AsBool_bool, if_true, e, AV.pick, cond_false]
      exact hk
  · have e0 : (decide (Lib.decDigits n = []) == false) = true := by simp [hne]
    rw [e0, Br_true]
    refine c_Trim (by omega) (by simp) (by decide) ?_
    rw [trimS_all fun c hc => dig_in (dec_digs n c hc)]
    simp only [bin, OptK_some, decide_true, Bool.not_true, AV.pick, cond_false, AsBool_bool, beq_self_eq_true, Br_true]
    rcases Nat.eq_zero_or_pos n with rfl | h0
    · have e : Lib.decDigits 0 = [48] := Lib.decDigits_one (by omega)
      rw [e]
      exact ⟨by omega, hk⟩
    · have hh := dec_head n h0
      obtain ⟨c, l, hcl⟩ : ∃ c l, Lib.decDigits n = c :: l := by
        cases h : Lib.decDigits n with
        | nil => exact absurd h hne
        | cons c l => exact ⟨c, l, rfl⟩
      have hc := hh c (by rw [hcl]; rfl)
      rw [hcl]
      refine ⟨by omega, ?_⟩
      have e1 : decide (((c.toNat : Nat) : Int) = 48) = false := by
        simp only [decide_eq_false_iff_not]
        intro e
        refine hc (UInt8.toNat_inj.1 ?_)
        have : (48 : UInt8).toNat = 48 := rfl
        omega
      simp only [Int.toNat_zero, List.getElem?_cons_zero, OptK_some, bin, if_true, e1]
      exact hk

/-- What Check lets pass. -/
structure OkV (xs : List Int) : Prop where
  len : xs.length ≤ 8
  fit : ∀ n ∈ xs, 0 ≤ n ∧ n ≤ 1048576
theorem OkV.fitV (h : OkV xs) : FitV xs := ⟨by have := h.len; omega, fun n hn => by have := h.fit n hn; omega⟩
theorem OkV.trim (h : OkV xs) : OkV (trimV xs) := ⟨by have := h.len; simp [trimV]; omega, fun n hn => h.fit n (List.mem_of_mem_take hn)⟩

theorem trimV_last (xs : List Int) (h : trimV xs ≠ []) : (trimV xs).getLast h ≠ 0 := by
  have hl : 0 < lastP (pairs xs) := by
    rcases Nat.eq_zero_or_pos (lastP (pairs xs)) with h0 | h0
    · exact absurd (by simp [trimV, h0]) h
    · exact h0
  have hle := lastP_le xs
  have e : lastP (pairs xs) = ((pairs xs).getLast?.map (·.1 + 1)).getD 0 := rfl
  cases hp : (pairs xs).getLast? with
  | none => rw [e, hp] at hl; simp at hl
  | some p =>
    have ep : lastP (pairs xs) = p.1 + 1 := by rw [e, hp]; rfl
    obtain ⟨h1, h2, h3⟩ := pairs_lt (List.mem_of_getLast? hp)
    rw [List.getLast_eq_getElem]
    have hlen : (trimV xs).length = p.1 + 1 := by simp [trimV, ep]; omega
    have : (trimV xs)[(trimV xs).length - 1]'(by omega) = xs[p.1] := by
      simp only [trimV, List.getElem_take]
      congr 1
      have : (List.take (lastP (pairs xs)) xs).length = p.1 + 1 := hlen
      omega
    rw [this]
    rw [List.getD_eq_getElem?_getD, List.getElem?_eq_getElem h1] at h2
    have : xs[p.1] = p.2 := h2
    rw [this]; exact h3

theorem itoa_no (n : Int) (h : 0 ≤ n) : ∀ c ∈ Lib.itoa n, isDig c = true := by
  obtain ⟨u, rfl⟩ : ∃ u : Nat, n = u := ⟨n.toNat, by omega⟩
  rw [itoa_nat]; exact dec_digs u
theorem itoa_eq0 (n : Int) (h : 0 ≤ n) (e : Lib.itoa n = [48]) : n = 0 := by
  obtain ⟨u, rfl⟩ : ∃ u : Nat, n = u := ⟨n.toNat, by omega⟩
  rw [itoa_nat] at e
  rcases Nat.eq_zero_or_pos u with rfl | h0
  · rfl
  · exact absurd rfl (dec_head u h0 48 (by rw [e]; rfl))
theorem itoa_ne (n : Int) (h : 0 ≤ n) : Lib.itoa n ≠ [] := by
  obtain ⟨u, rfl⟩ : ∃ u : Nat, n = u := ⟨n.toNat, by omega⟩
  rw [itoa_nat]; exact dec_ne u
theorem join_nil {xs : List Bytes} (h : ∀ x ∈ xs, x ≠ []) (e : Lib.join xs [32] = []) : xs = [] := by
  cases xs with
  | nil => rfl
  | cons x xs =>
    have hx := h x (by simp)
    cases xs with
    | nil => simp [Lib.join, List.intercalate] at e; exact absurd e hx
    | cons y ys => simp [Lib.join, List.intercalate, List.intersperse] at e

theorem sp_Parse (g : Gnd w0) (h : Sep st F) (ok : OkV xs) (hq : ∀ v st', v.one = true → Sep st' (SlP v 1 (ints (trimV xs)) :: F) → Q (.tup [v, .int .i64 0]) st') : Cal w0 n_vec_Parse [.str (textV xs)] st Q := by
  refine ok_vec_Parse ?_
  unfold vc_vec_Parse
  have hlen := textV_len ok.fitV
  have hok := ok.trim
  have hl := ok.len
  generalize hj : Lib.join ((trimV xs).map Lib.itoa) [32] = j
  have et : textV xs = 91 :: (j ++ [93]) := by rw [← hj]; rfl
  have hjl : j.length ≤ 200 := by rw [et] at hlen; simp at hlen; omega
  rw [et]
  refine c_CutPrefix ?_
  have e1 : Lib.trimPrefix (91 :: (j ++ [93])) [91] = j ++ [93] := by simp [Lib.trimPrefix, Lib.hasPrefix]
  have e2 : Lib.hasPrefix (91 :: (j ++ [93])) [91] = true := by simp [Lib.hasPrefix]
  rw [e1, e2]
  simp only [ext_tup, List.getElem?_cons_zero, List.getElem?_cons_succ, OptK_some]
  refine c_CutSuffix (by simp; omega) ?_
  have e4 : Lib.hasSuffix (j ++ [93]) [93] = true := by
    simp only [Lib.hasSuffix]; rw [List.isSuffixOf_iff_suffix]; exact List.suffix_append _ _
  have e3 : Lib.trimSuffix (j ++ [93]) [93] = j := by simp [Lib.trimSuffix, e4]
  rw [e3, e4]
  simp only [ext_tup, List.getElem?_cons_zero, List.getElem?_cons_succ, OptK_some]
  refine Jn_of (fun k => k (.bool false) st) ?_ fun k hk => ?_
  · simp only [AsBool_bool, Br_false, bin_seql, OptK_some]
    have hne : ∀ x ∈ (trimV xs).map Lib.itoa, x ≠ [] := fun x hx => by
      obtain ⟨n, hn, rfl⟩ := List.mem_map.1 hx
      exact itoa_ne n (hok.fit n hn).1
    refine Br_iff.2 ⟨fun e => ?_, fun e => ?_⟩
    · have e : j = [] := by simpa using e
      subst e
      have : (trimV xs).map Lib.itoa = [] := join_nil hne hj
      have : trimV xs = [] := by simpa using this
      refine hq _ _ rfl ?_
      rw [this]; exact h.nilSl
    · have e : j ≠ [] := by simpa using e
      have hnil : trimV xs ≠ [] := fun hh => e (by rw [← hj, hh]; simp [Lib.join, List.intercalate])
      refine c_Split g (by omega) (by simp) ?_
      have hsp : splitL j [32] = (trimV xs).map Lib.itoa := by
        rw [← hj]
        refine splitL_join 32 _ (by simpa using hnil) fun x hx hc => ?_
        obtain ⟨n, hn, rfl⟩ := List.mem_map.1 hx
        have := itoa_no n (hok.fit n hn).1 32 hc
        simp [isDig] at this
      rw [hsp]
      have h := h.push (.cells false (((trimV xs).map Lib.itoa).map .str))
      generalize hb : st.hp.length = b at h ⊢
      generalize st.push _ = s at h ⊢
      generalize hm : (trimV xs).length = m
      have hm8 : m ≤ 8 := hm ▸ hok.len
      have hml : ((trimV xs).map Lib.itoa).length = m := by simp [hm]
      rw [hml]
      have rd : ∀ s F', Sep s (pt b (.cells false (((trimV xs).map Lib.itoa).map .str)) :: F') → Rd s (.slice b 0 m m true 1) 1 (strs ((trimV xs).map Lib.itoa)) := fun s F' h => .inr ⟨b, 0, m, m, true, _, rfl, cells_of h.get, by simp [strs, hm], by rw [List.drop_zero]; exact List.take_of_length_le (by simp [hm]), Nat.le_refl _⟩
      refine (rd s _ h).len (n := m) (by simp [strs, hm]) (by omega) ?_
      refine ⟨fun n x s => ∃ (k : Nat) (o : AV), n = m - k ∧ k ≤ m ∧ x = [o, .int .i64 0, .slice b 0 m m true 1, .slice b 0 m m true 1, .int .i64 m, .int .i64 k] ∧ Sep s (SlP o 1 (ints ((trimV xs).take k)) :: pt b (.cells false (((trimV xs).map Lib.itoa).map .str)) :: F), m, ⟨0, .nils, rfl, by omega, rfl, h.nilSl⟩, ?_⟩
      rintro n x s ⟨k, o, rfl, hk, rfl, h⟩
      simp only [List.getD_cons_zero, List.getD_cons_succ, bin_lss, OptK_some, AsBool_bool]
      refine Br_iff.2 ⟨fun e => ?_, fun e => ?_⟩
      · have hlt : k < m := by simpa using e
        have hlt' : k < (trimV xs).length := by omega
        have hget : (strs ((trimV xs).map Lib.itoa))[k]? = some (.str (Lib.itoa (trimV xs)[k])) := by simp [strs, hlt']
        refine (rd s _ h.tail).at1 hget ?_
        have hfit := hok.fit _ (List.getElem_mem hlt')
        obtain ⟨u, hu⟩ : ∃ u : Nat, (trimV xs)[k] = u := ⟨(trimV xs)[k].toNat, by omega⟩
        rw [hu]
        refine sp_Number (n := u) (most := 1048576) (by omega) (by omega) ?_
        simp only [ext_tup, List.getElem?_cons_zero, List.getElem?_cons_succ, OptK_some, bin_eql, AsBool_bool]
        refine Br_f (by decide) ?_
        have hmx : maxAV [.int .i64 0, .int .i64 0] = some (.int .i64 0) := rfl
        have hfill : fillAV (fun i => some (i * 1, 1)) [.int .i64 0] [(0, .int .i64 (u : Int))] = some [.int .i64 (u : Int)] := rfl
        rw [hmx, OptK_some, hfill, OptK_some]
        refine h.psh fun s h => ?_
        refine h.swap.append (ys := [.int .i64 (u : Int)]) (by omega) (by simp) (by omega) rfl (by simp [ints]; omega) (by omega) fun o' s ho' h => ?_
        rw [bin_inc (by omega), OptK_some]
        refine ⟨m - (k + 1), by omega, k + 1, o', rfl, by omega, rfl, ?_⟩
        have : ints ((trimV xs).take k) ++ [.int .i64 (u : Int)] = ints ((trimV xs).take (k + 1)) := by
          rw [← List.take_append_getElem hlt', hu]; simp only [ints, List.map_append, List.map_cons, List.map_nil]
        rw [← this]; exact h.swap.tail
      · have : ¬ k < m := by simpa using e
        have : k = m := by omega
        subst this
        rw [List.take_of_length_le (by omega)] at h
        refine (rd s _ h.tail).len (n := k) (by simp [strs, hm]) (by omega) ?_
        have hk1 : 1 ≤ k := by
          rcases Nat.eq_zero_or_pos k with h0 | h0
          · exact absurd (List.length_eq_zero_iff.1 (hm.trans h0)) hnil
          · exact h0
        have e5 : bin .int .sub (.int .i64 (k : Int)) (.int .i64 1) = some (.int .i64 ((k - 1 : Nat) : Int)) := bin_sub_nat (b := 1) (by omega) hk1
        rw [e5, OptK_some]
        have hlt' : k - 1 < (trimV xs).length := by omega
        have hget : (strs ((trimV xs).map Lib.itoa))[k - 1]? = some (.str (Lib.itoa (trimV xs)[k - 1])) := by simp [strs, hlt']
        refine (rd s _ h.tail).at1 hget ?_
        simp only [bin_seql, OptK_some, AsBool_bool]
        have hlast : (trimV xs)[k - 1] ≠ 0 := by
          have := trimV_last xs hnil
          rw [List.getLast_eq_getElem] at this
          have e6 : (trimV xs).length - 1 = k - 1 := by omega
          simp only [e6] at this; exact this
        refine Br_f ?_ ?_
        · simp only [decide_eq_false_iff_not]
          exact fun hh => hlast (itoa_eq0 _ (hok.fit _ (List.getElem_mem hlt')).1 hh)
        · refine Jn_of (fun k => k (.bool false) s) ?_ fun k' hk' => ?_
          · simp only [AsBool_bool, Br_false]
            exact hq o s h.slOne h.swap.tail
          · simp only [bin_neq, OptK_some, AsBool_bool]
            refine Br_t (by decide) ?_
            refine h.rd.len (n := k) (by simp [ints, hm]) (by omega) ?_
            simp only [bin_gtr, OptK_some, pick_f]
            have : decide ((8 : Int) < k) = false := by simp; omega
            rw [this]; exact hk'
  · simp only [un_not, OptK_some, AsBool_bool, Bool.not_true, beq_self_eq_true, Br_true, pick_f]
    exact hk
end
end Go.Ab
