/- stripe: what its functions do. -/
import Derived.Test.YtoehcgeckmoofaaGreatDoorDg
set_option linter.unusedVariables false
set_option linter.unusedSimpArgs false
namespace Go.Ab
open Go Go.RowKit Go.Proofs

abbrev Span := Nat × Nat
def spans (m : List Span) : List AV := m.flatMap fun s => [.int .i64 s.1, .int .i64 s.2]
theorem spans_len (m : List Span) : (spans m).length = m.length * 2 := by
  induction m with
  | nil => rfl
  | cons x m ih => simp only [spans, List.flatMap_cons, List.length_append, List.length_cons, List.length_nil] at ih ⊢; omega
theorem spans_at : ∀ {m : List Span} {k : Nat} (h : k < m.length), ((spans m).drop (k * 2)).take 2 = [.int .i64 m[k].1, .int .i64 m[k].2]
  | [], k, h => by simp at h
  | x :: m, 0, h => by simp [spans]
  | x :: m, k + 1, h => by
    have ih := spans_at (m := m) (k := k) (by simpa using h)
    have e : spans (x :: m) = [.int .i64 x.1, .int .i64 x.2] ++ spans m := rfl
    rw [e, show (k + 1) * 2 = 2 + k * 2 by omega, ← List.drop_drop]
    simpa using ih
theorem spans_append (a b : List Span) : spans (a ++ b) = spans a ++ spans b := by simp [spans]

structure OkM (m : List Span) : Prop where
  len : m.length < 2 ^ 20
  first : m.head?.map (·.1) = some 0
  mono : m.Pairwise fun a b => a.1 ≤ b.1
  n : ∀ s ∈ m, 1 ≤ s.2 ∧ s.2 ≤ 8
  from_ : ∀ s ∈ m, s.1 ≤ 2147483647

theorem OkM.pos {m : List Span} (h : OkM m) : 0 < m.length := by
  cases m with
  | nil => have := h.first; simp at this
  | cons => simp

def epochOf (m : List Span) (p : Nat) : Nat := (m.takeWhile fun s => decide (s.1 ≤ p)).length
def stripeOf (m : List Span) (p : Nat) : Nat := let s := m.getD (epochOf m p - 1) (0, 1); (p - s.1) % s.2

theorem epoch_at {m : List Span} (h : OkM m) {p i : Nat} (hi : i < m.length) (h1 : m[i].1 ≤ p) (h2 : ∀ j (hj : j < m.length), i < j → p < m[j].1) : epochOf m p = i + 1 := by
  have hm := List.pairwise_iff_getElem.1 h.mono
  have e : m = m.take (i + 1) ++ m.drop (i + 1) := by simp
  unfold epochOf
  conv => lhs; rw [e]
  rw [List.takeWhile_append_of_pos (fun s hs => ?_)]
  · have : (m.drop (i + 1)).takeWhile (fun s => decide (s.1 ≤ p)) = [] := by
      cases hd : m.drop (i + 1) with
      | nil => rfl
      | cons x l =>
        have hlt : i + 1 < m.length := by
          rcases Nat.lt_or_ge (i + 1) m.length with h' | h'
          · exact h'
          · rw [List.drop_eq_nil_of_le h'] at hd; cases hd
        rw [List.drop_eq_getElem_cons hlt] at hd
        have hx : m[i + 1] = x := by simpa using (List.cons.inj hd).1
        have := h2 (i + 1) hlt (by omega)
        rw [List.takeWhile_cons, if_neg]
        rw [← hx]; simp; omega
    rw [this]; simp; omega
  · obtain ⟨j, hj, rfl⟩ := List.mem_iff_getElem.1 hs
    have hj' : j < i + 1 := by simp at hj; omega
    simp only [List.getElem_take, decide_eq_true_eq]
    rcases Nat.lt_or_ge j i with h' | h'
    · have := hm j i (by omega) hi h'; omega
    · have : j = i := by omega
      subst this; exact h1

section
variable {w0 : World} {st : St} {Q : Kont} {F : List Prp} {v : AV} {m : List Span}

def RdM (F : List Prp) (v : AV) (m : List Span) : Prop := ∀ st, Sep st F → Rd st v 2 (spans m)
theorem RdM.cons {P : Prp} (h : RdM F v m) : RdM (P :: F) v m := fun st k => h st k.tail

theorem Rd.span {k : Nat} {K : Kont} (r : Rd st v 2 (spans m)) (hk : k < m.length) (hK : K (.agg [.int .i64 m[k].1, .int .i64 m[k].2]) st) : Iaddr v (.int .i64 k) none 2 fun a => Ld st a true 2 K :=
  r.atA (spans_len m) (by omega) hk (spans_at hk) hK
theorem Rd.spanF {k : Nat} {K : AV → Prop} (r : Rd st v 2 (spans m)) (hk : k < m.length) (hK : K (.int .i64 m[k].1)) : Iaddr v (.int .i64 k) none 2 fun a => Faddr a 0 fun a' => Ld st a' false 1 fun w _ => K w := by
  refine r.addr (spans_len m) (by omega) hk fun b o ro cs _ hb hc => ?_
  rw [spans_at hk] at hc
  simp only [faddr_ptr, Nat.add_zero]
  refine ld_cell hb ?_ hK
  have := congrArg (·[0]?) hc
  simpa [List.getElem?_take] using this
theorem Rd.spanN {k : Nat} {K : AV → Prop} (r : Rd st v 2 (spans m)) (hk : k < m.length) (hK : K (.int .i64 m[k].2)) : Iaddr v (.int .i64 k) none 2 fun a => Faddr a 1 fun a' => Ld st a' false 1 fun w _ => K w := by
  refine r.addr (spans_len m) (by omega) hk fun b o ro cs _ hb hc => ?_
  rw [spans_at hk] at hc
  simp only [faddr_ptr]
  refine ld_cell hb ?_ hK
  have := congrArg (·[1]?) hc
  simpa [List.getElem?_take] using this

theorem sp_MCheck (h : Sep st F) (r : RdM F v m) (ok : OkM m) (hq : ∀ st', Sep st' F → Q (.int .i64 0) st') : Cal w0 n_stripe_Check [v] st Q := by
  refine ok_stripe_Check ?_
  unfold vc_stripe_Check
  have hpos := ok.pos
  have hlen := ok.len
  refine (r st h).len (spans_len m) (by omega) ?_
  simp only [bin_eql, OptK_some, AsBool_bool]
  refine Br_f (decide_eq_false (by omega)) ?_
  refine (r st h).len (spans_len m) (by omega) ?_
  refine ⟨fun n x s => ∃ (k last : Nat), n = m.length - k ∧ k ≤ m.length ∧ x = [.int .i64 last, v, .int .i64 m.length, .int .i64 k] ∧ (∀ hk : k < m.length, last ≤ m[k].1) ∧ Sep s F, _, ⟨0, 0, rfl, by omega, rfl, fun _ => by omega, h⟩, ?_⟩
  rintro n x s ⟨k, last, rfl, hk, rfl, hl, h⟩
  simp only [List.getD_cons_zero, List.getD_cons_succ, bin_lss, OptK_some, AsBool_bool]
  refine Br_iff.2 ⟨fun e => ?_, fun e => hq s h⟩
  have hlt : k < m.length := by simpa using e
  refine (r s h).span hlt ?_
  refine h.new fun c s2 h => ?_
  refine h.stoA (ws := [.int .i64 m[k].1, .int .i64 m[k].2]) 0 rfl rfl (by simp) fun s2 h => ?_
  have hn := ok.n _ (List.getElem_mem hlt)
  have hl := hl hlt
  have hmono := List.pairwise_iff_getElem.1 ok.mono
  refine Jn_of (fun k' => k' (.bool false) s2) ?_ fun k' hk' => ?_
  · simp only [AsBool_bool, Br_false, faddr_ptr, Nat.add_zero]
    refine h.ld 0 rfl rfl ?_
    rw [bin_inc (by omega), OptK_some]
    exact ⟨m.length - (k + 1), by omega, k + 1, m[k].1, rfl, by omega, rfl, fun hk2 => hmono k (k + 1) hlt hk2 (by omega), h.tail⟩
  · have tailp : ∀ Q' : Prop, Q' → (Faddr (.ptr c 0) 0 fun v57 => Ld s2 v57 false 1 fun v58 st59 => OptK (bin .int .lss v58 (.int .i64 last)) fun v60 =>
      AsBool (AV.pick false (.bool true) v60) fun b61 => Br (b61 == false) (Faddr (.ptr c 0) 1 fun v62 => Ld s2 v62 false 1 fun v63 st64 => OptK (bin .int .lss v63 (.int .i64 1)) fun v65 =>
      AsBool (AV.pick false (.bool true) v65) fun b66 => Br (b66 == false) (Faddr (.ptr c 0) 1 fun v67 => Ld s2 v67 false 1 fun v68 st69 => OptK (bin .int .gtr v68 (.int .i64 8)) fun v70 => k' (AV.pick false (.bool true) v70) s2) (k' (.bool true) s2)) (k' (.bool true) s2)) := by
      intro _ _
      simp only [faddr_ptr, Nat.add_zero]
      refine h.ld 0 rfl rfl ?_
      simp only [bin_lss, OptK_some, pick_f, AsBool_bool]
      refine Br_t (by simp; omega) ?_
      refine h.ld 0 rfl rfl ?_
      simp only [bin_lss, OptK_some, pick_f, AsBool_bool]
      refine Br_t (by simp; omega) ?_
      refine h.ld 0 rfl rfl ?_
      rw [bin_gtr, OptK_some, pick_f]
      have : decide ((8 : Int) < (m[k].2 : Int)) = false := by simp; omega
      rw [this]; exact hk'
    simp only [bin_eql, OptK_some, AsBool_bool]
    refine Br_iff.2 ⟨fun e2 => ?_, fun e2 => tailp True trivial⟩
    have e2 : k = 0 := by simp at e2; omega
    subst e2
    have h0 : m[0].1 = 0 := by
      have := ok.first
      cases m with
      | nil => simp at hlt
      | cons x l => simpa using this
    simp only [faddr_ptr, Nat.add_zero]
    refine h.ld 0 rfl rfl ?_
    simp only [bin_neq, OptK_some, pick_t, AsBool_bool]
    refine Br_t (by simp [h0]) ?_
    exact tailp True trivial

theorem tmod_nat (a b : Nat) : ((a : Int)).tmod (b : Int) = ((a % b : Nat) : Int) := by
  rw [Int.tmod_eq_emod_of_nonneg (by omega)]; rfl
theorem bin_rem_nat {a b : Nat} (h : b ≠ 0) : bin .int .rem (.int .i64 a) (.int .i64 b) = some (.int .i64 (a % b : Nat)) := by
  simp only [bin]; rw [if_pos ⟨trivial, by omega⟩, tmod_nat]

theorem sp_Find {p : Nat} (h : Sep st F) (r : RdM F v m) (ok : OkM m) (hp : p < 2 ^ 62) (hq : ∀ st', Sep st' F → Q (.tup [.int .i64 (epochOf m p), .int .i64 (stripeOf m p), .int .i64 0]) st') : Cal w0 n_stripe_Find [v, .int .i64 p] st Q := by
  refine ok_stripe_Find ?_
  unfold vc_stripe_Find
  have hpos := ok.pos
  have hlen := ok.len
  refine Jn_of (fun k => ∀ s, Sep s F → k (.bool false) s) (fun s h => ?_) fun k hk => ?_
  · simp only [AsBool_bool, Br_false]
    refine (r s h).len (spans_len m) (by omega) ?_
    have e5 : bin .int .sub (.int .i64 (m.length : Int)) (.int .i64 1) = some (.int .i64 ((m.length - 1 : Nat) : Int)) := bin_sub_nat (b := 1) (by omega) hpos
    rw [e5, OptK_some]
    refine ⟨fun n x s' => ∃ i : Nat, n = i ∧ ∃ hi : i < m.length, x = [v, .int .i64 p, .int .i64 i] ∧ (∀ j (hj : j < m.length), i < j → p < m[j].1) ∧ s' = s, _, ⟨m.length - 1, rfl, by omega, rfl, fun j hj h' => by omega, rfl⟩, ?_⟩
    rintro n x s' ⟨i, rfl, hi, rfl, hab, rfl⟩
    simp only [List.getD_cons_zero, List.getD_cons_succ]
    refine (r s' h).spanF hi ?_
    simp only [bin_gtr, OptK_some, AsBool_bool]
    refine Br_iff.2 ⟨fun e => ?_, fun e => ?_⟩
    · have e : p < m[n].1 := by have := of_decide_eq_true e; omega
      have hn0 : 1 ≤ n := by
        rcases Nat.eq_zero_or_pos n with h0 | h0
        · subst h0
          have := ok.first
          cases m with
          | nil => simp at hi
          | cons x l => simp at this e; omega
        · exact h0
      have e6 : bin .int .sub (.int .i64 (n : Int)) (.int .i64 1) = some (.int .i64 ((n - 1 : Nat) : Int)) := bin_sub_nat (b := 1) (by omega) hn0
      rw [e6, OptK_some]
      refine ⟨n - 1, by omega, n - 1, rfl, by omega, rfl, fun j hj h' => ?_, trivial⟩
      rcases Nat.lt_or_ge n j with h'' | h''
      · exact hab j hj h''
      · have : j = n := by omega
        subst this; exact e
    · have e : m[n].1 ≤ p := by have := of_decide_eq_false e; omega
      have hep := epoch_at ok hi e hab
      rw [bin_inc (by omega), OptK_some]
      refine (r s' h).spanF hi ?_
      rw [bin_sub_nat (by omega) e, OptK_some]
      refine (r s' h).spanN hi ?_
      have hn := ok.n _ (List.getElem_mem hi)
      rw [bin_rem_nat (by omega), OptK_some]
      have hst : stripeOf m p = (p - m[n].1) % m[n].2 := by
        unfold stripeOf
        rw [hep]; simp [List.getD, hi]
      have := hq s' h
      rw [hep, hst] at this; exact this
  · have e1 : (decide ((p : Int) < 0) == false) = true := by simp
    rw [e1, Br_true]
    refine sp_MCheck h r ok fun s h => ?_
    simp only [bin_neq, OptK_some, pick_f]
    exact hk s h

theorem sp_CloneM (h : Sep st F) (r : RdM F v m) (hx : m.length < 2 ^ 30) (hq : ∀ v' st', v'.one = true → Sep st' (SlP v' 2 (spans m) :: F) → Q v' st') : Cal w0 n_slices_Clone_stripe_Map_stripe_Span [v] st Q := by
  refine ok_slices_Clone_stripe_Map_stripe_Span ?_
  unfold vc_slices_Clone_stripe_Map_stripe_Span
  have r0 := r st h
  have hv : v = .nils ∨ ∃ b o len cap e, v = .slice b o len cap e 2 := by
    rcases r0 with ⟨rfl, _⟩ | ⟨b, o, len, cap, e, cs, rfl, _⟩
    · exact .inl rfl
    · exact .inr ⟨b, o, len, cap, e, rfl⟩
  rcases hv with rfl | ⟨b, o, len, cap, e, rfl⟩
  · simp only [bin, OptK_some, AsBool_bool, Br_true]
    refine hq _ _ rfl ?_
    rcases r0 with ⟨_, hx0⟩ | ⟨b, o, len, cap, e, cs, h', _⟩
    · rw [hx0]; exact h.nilSl
    · cases h'
  · simp only [bin, OptK_some, AsBool_bool, Br_false]
    refine h.psh fun s h => ?_
    have h : Sep s (SlP (.slice st.hp.length 0 0 0 true 2) 2 [] :: F) := h.toSl (by simp) (by simp)
    have hone : (spans m).all AV.one = true := by
      simp only [List.all_eq_true, spans, List.mem_flatMap]
      rintro x ⟨s, _, hs⟩; simp at hs; rcases hs with rfl | rfl <;> rfl
    refine h.appendR (r s h.tail) (by omega) hone (by simp [spans_len]; omega) (by omega) fun v' s' hv' h => hq v' s' hv' h

theorem sp_MAdd {from_ n : Nat} (h : Sep st F) (r : RdM F v m) (ok : OkM (m ++ [(from_, n)])) (hq : ∀ v' st', v'.one = true → Sep st' (SlP v' 2 (spans (m ++ [(from_, n)])) :: F) → Q (.tup [v', .int .i64 0]) st') : Cal w0 n_stripe_Add [v, .int .i64 from_, .int .i64 n] st Q := by
  refine ok_stripe_Add ?_
  unfold vc_stripe_Add
  have hl := ok.len
  rw [List.length_append] at hl
  simp only [List.length_cons, List.length_nil] at hl
  refine sp_CloneM h r (by omega) fun v1 s1 hv1 h => ?_
  refine h.psh fun s2 h => ?_
  refine h.swap.append (ys := [.int .i64 from_, .int .i64 n]) (by omega) (by simp) (by omega) rfl (by simp [spans_len]; omega) (by omega) fun v2 s3 hv2 h => ?_
  have e : spans m ++ [.int .i64 from_, .int .i64 n] = spans (m ++ [(from_, n)]) := by simp [spans]
  rw [e] at h
  refine sp_MCheck (h.swap.tail) (fun s hs => hs.rd) ok fun s4 h => ?_
  simp only [bin_neq, OptK_some, AsBool_bool]
  exact hq v2 s4 hv2 h

def spanText (s : Span) : Bytes := Lib.itoa s.1 ++ 47 :: Lib.itoa s.2
def textM (m : List Span) : Bytes := Lib.join (m.map spanText) [32]

theorem spanText_len {s : Span} (h1 : s.1 ≤ 2147483647) (h2 : s.2 ≤ 8) : (spanText s).length ≤ 21 := by
  have := itoa_len10 s.1 h1
  have := itoa_len10 s.2 (by omega)
  simp [spanText]; omega
theorem textM_len (ok : OkM m) : (textM m).length ≤ m.length * 22 := by
  have := join_len (m.map spanText) 21 fun x hx => by
    obtain ⟨s, hs, rfl⟩ := List.mem_map.1 hx
    exact spanText_len (ok.from_ s hs) (ok.n s hs).2
  simpa [textM] using this

theorem sp_MText (g : Gnd w0) (h : Sep st F) (r : RdM F v m) (ok : OkM m) (hq : ∀ st', Sep st' F → Q (.str (textM m)) st') : Cal w0 n_stripe_Text [v] st Q := by
  refine ok_stripe_Text ?_
  unfold vc_stripe_Text
  have hpos := ok.pos
  have hlen := ok.len
  refine (r st h).len (spans_len m) (by omega) ?_
  refine ⟨fun n x s => ∃ (k : Nat) (o : AV), n = m.length - k ∧ k ≤ m.length ∧ x = [o, v, .int .i64 m.length, .int .i64 k] ∧ Sep s (SlP o 1 (strs ((m.take k).map spanText)) :: F), _, ⟨0, .nils, rfl, by omega, rfl, h.nilSl⟩, ?_⟩
  rintro n x s ⟨k, o, rfl, hk, rfl, h⟩
  simp only [List.getD_cons_zero, List.getD_cons_succ, bin_lss, OptK_some, AsBool_bool]
  refine Br_iff.2 ⟨fun e => ?_, fun e => ?_⟩
  · have hlt : k < m.length := by simpa using e
    refine (r s h.tail).span hlt ?_
    have h1 := ok.from_ _ (List.getElem_mem hlt)
    have h2 := ok.n _ (List.getElem_mem hlt)
    have l1 := itoa_len10 _ h1
    have l2 := itoa_len10 m[k].2 (by omega)
    refine h.new fun c s2 h => ?_
    refine h.stoA (ws := [.int .i64 m[k].1, .int .i64 m[k].2]) 0 rfl rfl (by simp) fun s2 h => ?_
    simp only [faddr_ptr, Nat.add_zero]
    refine h.ld 0 rfl rfl ?_
    refine h.ld 0 rfl rfl ?_
    refine c_Itoa g (by omega) (by omega) ?_
    refine ⟨h.ld 0 rfl rfl rfl, ?_⟩
    rw [bin_sadd (by simp; omega), OptK_some]
    refine c_Itoa g (by omega) (by omega) ?_
    rw [bin_sadd (by simp; omega), OptK_some]
    have e1 : Lib.itoa (m[k].1 : Int) ++ [47] ++ Lib.itoa (m[k].2 : Int) = spanText m[k] := by simp [spanText]
    rw [e1]
    have hfill : fillAV (fun i => some (i * 1, 1)) [.str []] [(0, .str (spanText m[k]))] = some [.str (spanText m[k])] := rfl
    rw [hfill, OptK_some]
    refine h.psh fun s3 h => ?_
    refine Sep.append (ys := [.str _]) (h.ord [2, 0]) (by omega) (by simp) (by omega) rfl (by simp [strs]; omega) (by omega) fun o' s4 ho' h => ?_
    rw [bin_inc (by omega), OptK_some]
    refine ⟨m.length - (k + 1), by omega, k + 1, o', rfl, by omega, rfl, ?_⟩
    have : strs ((m.take k).map spanText) ++ [.str (spanText m[k])] = strs ((m.take (k + 1)).map spanText) := by
      rw [← List.take_append_getElem hlt]; simp only [strs, List.map_append, List.map_cons, List.map_nil]
    rw [← this]
    exact (h.ord [1, 1]).tail.tail
  · have : ¬ k < m.length := by simpa using e
    have : k = m.length := by omega
    subst this
    rw [List.take_length] at h
    have hj := textM_len ok
    refine c_Join (strs_of_rd h.rd) (by simp; omega) (by unfold textM at hj; omega) ?_
    exact hq s h.tail

theorem c_Index (g : Gnd w0) {s sep : Bytes} (hl : s.length < 4294967281) (hq : Q (.int .i64 (Lib.index s sep)) st) : Cal w0 n_strings_Index [.str s, .str sep] st Q := by
  refine lib_call (by kernel_rfl) (fun pins ρ w args' hs ha => ?_) hq
  obtain ⟨a, b, rfl, rfl, rfl⟩ := strs_inv ha
  obtain ⟨m, hm⟩ := g.cell hs (b := 0) (by kernel_rfl)
  exact ⟨_, .int _ _, (Tryz.strings_Index a b m w (by simpa using hl) hm).mono fun e w' h => ⟨h.1, by rw [h.2]; exact .refl _ _⟩⟩

def SplitR (c1 : Nat) (s : Bytes) : Prp := pt c1 (.cells false [.str s])
def SplitP (c0 c2 : Nat) (c : UInt8) : Prp := star (sh c0 (.cells false [.str [c]])) (sh c2 (.cells false [.int .i64 0]))
def strItems (xs : List Bytes) : List (List AV) := xs.map fun x => [.str x]

theorem join_cons (x y : Bytes) (l : List Bytes) (c : UInt8) : Lib.join (x :: y :: l) [c] = x ++ c :: Lib.join (y :: l) [c] := by simp [Lib.join, List.intercalate, List.intersperse]
theorem join_one (x : Bytes) (c : UInt8) : Lib.join [x] [c] = x := by simp [Lib.join, List.intercalate]

theorem index_join {c : UInt8} (x : Bytes) (b : Bytes) (h : c ∉ x) : Lib.index (x ++ c :: b) [c] = x.length := by
  have := index_at (a := x) (b := b) (sep := [c]) (by simp) fun i hi => by
    have hd : (x ++ ([c] ++ b)).drop i = x[i] :: (x ++ ([c] ++ b)).drop (i + 1) := by
      rw [List.drop_eq_getElem_cons (by simp; omega)]; congr 1; rw [List.getElem_append_left hi]
    rw [hd]
    have : c ≠ x[i] := fun e => h (e ▸ List.getElem_mem _)
    simp [List.isPrefixOf, this]
  simpa using this

theorem it_Split (g : Gnd w0) {c0 c1 c2 : Nat} {c : UInt8} {xs : List Bytes} (hne : xs ≠ []) (hx : ∀ x ∈ xs, c ∉ x) (hl : (Lib.join xs [c]).length < 2 ^ 31) :
    IterR w0 (.func n_strings_splitSeq_1 [] [.ptr c0 0, .ptr c1 0, .ptr c2 0]) (SplitR c1 (Lib.join xs [c])) (SplitP c0 c2 c) (strItems xs) := by
  intro i st F C Stop Q h hy hq
  have hil : (strItems xs).length = xs.length := by simp [strItems]
  rw [hil] at hq
  have hpos : 0 < xs.length := List.length_pos_iff.2 hne
  refine ok_strings_splitSeq_1 ?_
  unfold vc_strings_splitSeq_1
  refine ((h.ord [2]).ofStar).ldS 0 rfl rfl ?_
  simp only [LenOk, lenTk, Len, Chk_true, bin_eql, OptK_some, AsBool_bool]
  refine Br_f (decide_eq_false (by simp)) ?_
  have hjl : ∀ k, k ≤ xs.length → (Lib.join (xs.drop k) [c]).length ≤ (Lib.join xs [c]).length := by
    have key : ∀ (xs : List Bytes) (k : Nat), (Lib.join (xs.drop k) [c]).length ≤ (Lib.join xs [c]).length := by
      intro xs
      induction xs with
      | nil => intro k; simp
      | cons x l ih =>
        intro k
        cases k with
        | zero => simp
        | succ k =>
          have h1 := ih k
          rw [List.drop_succ_cons]
          cases l with
          | nil => simp [Lib.join, List.intercalate]
          | cons y l => rw [join_cons]; simp at h1 ⊢; omega
    exact fun k _ => key xs k
  refine ⟨fun n x st => ∃ k : Nat, n = xs.length - k ∧ k < xs.length ∧ x = [.yield i, .ptr c0 0, .ptr c1 0, .ptr c2 0] ∧ Sep st (C k :: SplitR c1 (Lib.join (xs.drop k) [c]) :: SplitP c0 c2 c :: F), xs.length, ⟨0, rfl, hpos, rfl, by simpa using h⟩, ?_⟩
  rintro n x s ⟨k, rfl, hk, rfl, h⟩
  simp only [List.getD_cons_zero, List.getD_cons_succ]
  have hjk := hjl k (by omega)
  have hitem : (strItems xs)[k]'(by omega) = [.str xs[k]] := by simp [strItems]
  have hc0 : c ∉ xs[k] := hx _ (List.getElem_mem hk)
  have h1 := (h.ord [2]).ofStar
  -- sh0, sh2, C, R
  have h1 : Sep s (pt c1 (.cells false [.str (Lib.join (xs.drop k) [c])]) :: sh c0 (.cells false [.str [c]]) :: sh c2 (.cells false [.int .i64 0]) :: C k :: F) := h1.ord [3]
  refine h1.ld 0 rfl rfl ?_
  refine h1.ldS 1 rfl rfl ?_
  refine c_Index g (by omega) ?_
  have hy' := hy k s (SplitR c1 (Lib.join (xs.drop k) [c]) :: F) (by omega) (h.ord [0, 1])
  rw [hitem] at hy'
  have hd : xs.drop k = xs[k] :: xs.drop (k + 1) := List.drop_eq_getElem_cons hk
  by_cases hlast : k + 1 = xs.length
  · have e1 : xs.drop (k + 1) = [] := List.drop_eq_nil_of_le (by omega)
    rw [hd, e1, join_one] at h1 ⊢
    rw [index_none hc0]
    simp only [bin_lss, OptK_some, AsBool_bool]
    refine Br_t (by decide) ?_
    refine h1.ld 0 rfl rfl ?_
    refine AYield.mono hy' ?_
    rintro r s2 (⟨rfl, h⟩ | ⟨rfl, h⟩)
    · refine hq s2 (.inl ?_)
      rw [hlast] at h
      exact (h.ord [2]).tail
    · exact hq s2 (.inr ((h.ord [1]).tail))
  · obtain ⟨y, l, hyl⟩ : ∃ y l, xs.drop (k + 1) = y :: l := by
      cases hh : xs.drop (k + 1) with
      | nil => have := List.length_drop (i := k + 1) (l := xs); rw [hh] at this; simp at this; omega
      | cons y l => exact ⟨y, l, rfl⟩
    have ej : Lib.join (xs.drop k) [c] = xs[k] ++ c :: Lib.join (xs.drop (k + 1)) [c] := by rw [hd, hyl, join_cons]
    have hlen := hjk
    rw [ej] at hlen h1 ⊢
    simp only [List.length_append, List.length_cons] at hlen
    rw [index_join _ _ hc0]
    simp only [bin_lss, OptK_some, AsBool_bool]
    refine Br_f (decide_eq_false (by omega)) ?_
    refine h1.ld 0 rfl rfl ?_
    refine h1.ldS 2 rfl rfl ?_
    have ea : bin .int .add (.int .i64 (xs[k].length : Int)) (.int .i64 0) = some (.int .i64 (xs[k].length : Int)) := bin_add_nat (b := 0) (by omega)
    rw [ea, OptK_some]
    have es : sliceStr (xs[k] ++ c :: Lib.join (xs.drop (k + 1)) [c]) 0 (xs[k].length : Int) = some (.str xs[k]) := by
      unfold sliceStr
      rw [if_pos ⟨by omega, by omega, by simp; omega⟩]
      simp
    simp only [SlStr, optInt, OptK_some, Option.getD_none, Option.getD_some, es]
    refine AYield.mono hy' ?_
    rintro r s2 (⟨rfl, h⟩ | ⟨rfl, h⟩)
    · simp only [un_not, OptK_some, AsBool_bool, Bool.not_true, Br_false]
      have h1 := (h.ord [1]).ofStar
      have h1 : Sep s2 (pt c1 (.cells false [.str (Lib.join (xs.drop k) [c])]) :: sh c0 (.cells false [.str [c]]) :: sh c2 (.cells false [.int .i64 0]) :: C (k + 1) :: F) := h1.ord [3]
      rw [ej] at h1
      refine h1.ld 0 rfl rfl ?_
      refine h1.ldS 1 rfl rfl ?_
      simp only [LenOk, lenTk, Len, Chk_true]
      have ea : bin .int .add (.int .i64 (xs[k].length : Int)) (.int .i64 (([c] : Bytes).length : Int)) = some (.int .i64 (xs[k].length + 1 : Nat)) := bin_add_nat (b := 1) (by omega)
      rw [ea, OptK_some]
      have es : sliceStr (xs[k] ++ c :: Lib.join (xs.drop (k + 1)) [c]) ((xs[k].length + 1 : Nat) : Int) ((xs[k] ++ c :: Lib.join (xs.drop (k + 1)) [c]).length : Int) = some (.str (Lib.join (xs.drop (k + 1)) [c])) := by
        unfold sliceStr
        rw [if_pos ⟨by omega, by simp; omega, by omega⟩]
        congr 2
        rw [Int.toNat_natCast, Int.toNat_natCast, List.take_length]
        rw [show xs[k] ++ c :: Lib.join (xs.drop (k + 1)) [c] = (xs[k] ++ [c]) ++ Lib.join (xs.drop (k + 1)) [c] by simp]
        exact List.drop_left' (by simp)
      simp only [SlStr, optInt, OptK_some, Option.getD_none, Option.getD_some, es]
      refine h1.sto 0 rfl rfl (by simp) fun s3 h => ?_
      refine ⟨xs.length - (k + 1), by omega, k + 1, rfl, by omega, trivial, ?_⟩
      have h : Sep s3 (SplitP c0 c2 c :: SplitR c1 (Lib.join (xs.drop (k + 1)) [c]) :: C (k + 1) :: F) := Sep.toStar (h.ord [1, 1])
      exact h.ord [2, 1]
    · simp only [un_not, OptK_some, AsBool_bool, Bool.not_false, Br_true]
      exact hq s2 (.inr ((h.ord [1]).tail))

theorem sp_SplitSeq {s : Bytes} {c : UInt8} (h : Sep st F) (hq : ∀ c0 c1 c2 st', Sep st' (SplitR c1 s :: SplitP c0 c2 c :: F) → Q (.func n_strings_splitSeq_1 [] [.ptr c0 0, .ptr c1 0, .ptr c2 0]) st') : Cal w0 n_strings_SplitSeq [.str s, .str [c]] st Q := by
  refine ok_strings_SplitSeq ?_
  unfold vc_strings_SplitSeq
  refine ok_strings_splitSeq ?_
  unfold vc_strings_splitSeq
  refine h.new fun c1 s1 h => ?_
  refine h.new fun c0 s2 h => ?_
  refine h.new fun c2 s3 h => ?_
  refine hq c0 c1 c2 s3 ?_
  have h := h.freeze
  have h := (h.ord [1]).freeze
  exact (Sep.toStar h).swap

theorem sp_MParse (g : Gnd w0) (h : Sep st F) (ok : OkM m) (hq : ∀ v st', v.one = true → Sep st' (SlP v 2 (spans m) :: F) → Q (.tup [v, .int .i64 0]) st') : Cal w0 n_stripe_Parse [.str (textM m)] st Q := by
  refine ok_stripe_Parse ?_
  unfold vc_stripe_Parse
  have hlen := ok.len
  have hpos := ok.pos
  have htl := textM_len ok
  have hdig : ∀ (n : Nat) (c : UInt8), isDig c = false → c ∉ Lib.itoa n := fun n c hc hm => by
    rw [itoa_no n (by omega) c hm] at hc; cases hc
  have hx : ∀ x ∈ m.map spanText, (32 : UInt8) ∉ x := fun x hx => by
    obtain ⟨s, hs, rfl⟩ := List.mem_map.1 hx
    have k1 := hdig s.1 32 (by decide)
    have k2 := hdig s.2 32 (by decide)
    simp [spanText, k1, k2]
  refine h.new fun c1 s1 h => ?_
  refine h.new fun c2 s2 h => ?_
  refine h.new fun c3 s3 h => ?_
  refine Jn_of (fun k => ∀ v s, v.one = true → Sep s (pt c3 (.cells false [v]) :: SlP v 2 (spans m) :: pt c2 (.cells false [.int .i64 0]) :: pt c1 (.cells false [.nils]) :: F) → k s) (fun v s hv h => ?_) fun k hk => ?_
  · refine h.ld 0 rfl rfl ?_
    refine sp_MCheck (m := m) (F := _ :: _) h (fun s hs => (hs.ord [1]).rd) ok fun s h => ?_
    simp only [bin_neq, OptK_some, AsBool_bool]
    refine Br_f (by decide) ?_
    refine h.ld 0 rfl rfl ?_
    refine h.sto 3 rfl hv (by simp) fun s h => ?_
    refine h.sto 2 rfl rfl (by simp) fun s h => ?_
    refine h.ld 3 rfl rfl ?_
    refine h.ld 2 rfl rfl ?_
    exact hq v s hv ((h.tail.ord [1, 1]).tail.tail)
  · have hne : textM m ≠ [] := by
      cases m with
      | nil => simp at hpos
      | cons x l =>
        have hnx : spanText x ≠ [] := by simp [spanText]
        unfold textM
        cases l with
        | nil => simpa [join_one] using hnx
        | cons y l => simp [join_cons, hnx]
    refine Br_t (by simp [hne]) ?_
    refine sp_SplitSeq h fun d0 d1 d2 s0 h => ?_
    -- R, P, c3, c2, c1
    refine (it_Split g (xs := m.map spanText) (by simpa using List.length_pos_iff.1 hpos) hx (by unfold textM at htl; omega)).run (F := F)
      (fun k => ex fun v : AV => star (pur (v.one = true)) (stars [pt c3 (.cells false [v]), SlP v 2 (spans (m.take k)), pt c2 (.cells false [.int .i64 0]), pt c1 (.cells false [.nils])])) (fun _ => pur False) ?_ rfl rfl ?_ ?_ (fun s h => h.ofPur.1.elim) (fun _ s h => h.ofPur.1.elim) (fun _ s h => h.ofPur.1.elim)
    · have h := (h.ord [2]).swap.nilSl (esz := 2) |> fun _ => (Sep.nilSl (esz := 2) h)
      -- sl, R, P, c3, c2, c1
      have h := Sep.toStars (cs := [_, _, _, _]) (h.ord [3, 0, 2, 2])
      have h := Sep.toEx (f := fun v : AV => star (pur (v.one = true)) (stars [pt c3 (.cells false [v]), SlP v 2 (spans (m.take 0)), pt c2 (.cells false [.int .i64 0]), pt c1 (.cells false [.nils])])) .nils (Sep.toStar (Sep.toPur h rfl))
      exact h.ord [1, 1]
    · intro k s1 F' al hal ok' hk h
      have hk : k < m.length := by simpa [strItems] using hk
      have e5 : (strItems (m.map spanText))[k]'(by simpa [strItems] using hk) = [.str (spanText m[k])] := by simp [strItems]
      rw [e5]
      obtain ⟨v, h⟩ := h.swap.ofEx
      obtain ⟨hv, h⟩ := h.ofStar.ofPur
      have h := h.ofStars
      -- c3, sl, c2, c1, lq, P
      refine okr_stripe_Parse_0 ((h.ord [4]).getL.trans (congrArg some hal)) ?_
      unfold rnd_stripe_Parse_0
      refine h.rbeg ok' 4 rfl fun s2 h => ?_
      have h1 := ok.from_ _ (List.getElem_mem hk)
      have h2 := ok.n _ (List.getElem_mem hk)
      have l1 := spanText_len h1 h2.2
      refine c_Cut g (by omega) ?_
      rw [spanText, cut_one (hdig _ 47 (by decide))]
      simp only [ext_tup, List.getElem?_cons_zero, List.getElem?_cons_succ, OptK_some]
      refine sp_Number (most := 2147483647) h1 (by omega) ?_
      simp only [ext_tup, List.getElem?_cons_zero, List.getElem?_cons_succ, OptK_some]
      refine sp_Number (most := 2147483647) (by omega) (by omega) ?_
      simp only [ext_tup, List.getElem?_cons_zero, List.getElem?_cons_succ, OptK_some]
      refine Jn_of (fun k' => k' (.bool false) s2) ?_ fun k' hk' => ?_
      · simp only [AsBool_bool, Br_false]
        refine h.ld 0 rfl rfl ?_
        have f1 : fillAV (fun i => [(0, 1), (1, 1)][i]?) [.int .i64 0, .int .i64 0] [(0, .int .i64 (m[k].1 : Int)), (1, .int .i64 (m[k].2 : Int))] = some [.int .i64 (m[k].1 : Int), .int .i64 (m[k].2 : Int)] := rfl
        have f2 : fillAV (fun i => some (i * 2, 2)) [.int .i64 0, .int .i64 0] [(0, .agg [.int .i64 (m[k].1 : Int), .int .i64 (m[k].2 : Int)])] = some [.int .i64 (m[k].1 : Int), .int .i64 (m[k].2 : Int)] := rfl
        rw [f1, OptK_some, f2, OptK_some]
        refine h.psh fun s3 h => ?_
        refine Sep.append (ys := [.int .i64 (m[k].1 : Int), .int .i64 (m[k].2 : Int)]) (h.ord [2, 0]) (by omega) (by simp) (by omega) rfl (by simp [spans_len]; omega) (by omega) fun v' s4 hv' h => ?_
        -- sl', lit, c3, c2, c1, lb, P
        refine h.sto 2 rfl hv' (by simp) fun s5 h => ?_
        refine Sep.rnorm h ok' 5 rfl fun s6 h => .inl ⟨rfl, ?_⟩
        have e : spans (m.take k) ++ [.int .i64 (m[k].1 : Int), .int .i64 (m[k].2 : Int)] = spans (m.take (k + 1)) := by
          rw [← List.take_append_getElem hk, spans_append]; rfl
        rw [e] at h
        have h := (h.ord [1]).tail
        have h := Sep.toStars (cs := [_, _, _, _]) (h.ord [1, 0, 0, 0])
        have h := Sep.toEx (f := fun v : AV => star (pur (v.one = true)) (stars [pt c3 (.cells false [v]), SlP v 2 (spans (m.take (k + 1))), pt c2 (.cells false [.int .i64 0]), pt c1 (.cells false [.nils])])) v' (Sep.toStar (Sep.toPur h hv'))
        exact h.swap
      · simp only [un_not, bin_neq, OptK_some, AsBool_bool, pick_f, Bool.not_true, decide_true, beq_self_eq_true, Br_true]
        exact hk'
    · intro s h
      obtain ⟨v, h⟩ := h.ofEx
      obtain ⟨hv, h⟩ := h.ofStar.ofPur
      have h := h.ofStars
      have e : (strItems (m.map spanText)).length = m.length := by simp [strItems]
      rw [e, List.take_length] at h
      exact hk v s hv ((h.ord [4]).tail)
end
end Go.Ab
