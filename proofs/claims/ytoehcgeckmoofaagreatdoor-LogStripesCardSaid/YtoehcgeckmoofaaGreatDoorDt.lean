/- Texts: numerals, cuts, joins: plain laws. -/
import Derived.Test.YtoehcgeckmoofaaGreatDoorDa
import Derived.Lib.ItoaLen
set_option linter.unusedVariables false
set_option linter.unusedSimpArgs false
namespace Go.Ab
open Go Go.RowKit Go.Proofs

def isDig (c : UInt8) : Bool := decide (48 ≤ c.toNat) && decide (c.toNat ≤ 57)

theorem digit_val {d : Nat} (h : d < 10) : (UInt8.ofNat (48 + d)).toNat = 48 + d := by
  rw [UInt8.toNat_ofNat']; omega
theorem digitVal_dig {d : Nat} (h : d < 10) : Lib.digitVal (UInt8.ofNat (48 + d)) = some d := by
  unfold Lib.digitVal; rw [digit_val h, if_pos (by omega)]; congr 1; omega

theorem dec_rec (u : Nat) (h : ¬ u < 10) : Lib.decDigits u = Lib.decDigits (u / 10) ++ [UInt8.ofNat (48 + u % 10)] := by
  rw [Lib.decDigits, dif_neg h]

theorem dec_digs (u : Nat) : ∀ c ∈ Lib.decDigits u, isDig c = true := by
  induction u using Nat.strongRecOn with
  | _ u ih =>
    by_cases h : u < 10
    · rw [Lib.decDigits_one h]; intro c hc
      have : c = UInt8.ofNat (48 + u) := by simpa using hc
      subst this; simp only [isDig, digit_val h]; simp; omega
    · rw [dec_rec u h]; intro c hc
      rcases List.mem_append.1 hc with hc | hc
      · exact ih (u / 10) (by omega) c hc
      · have : c = UInt8.ofNat (48 + u % 10) := by simpa using hc
        subst this; simp only [isDig, digit_val (show u % 10 < 10 by omega)]; simp; omega
theorem dec_ne (u : Nat) : Lib.decDigits u ≠ [] := by
  by_cases h : u < 10
  · rw [Lib.decDigits_one h]; simp
  · rw [dec_rec u h]; simp
theorem dec_head (u : Nat) (h0 : 0 < u) : ∀ c, (Lib.decDigits u).head? = some c → c ≠ 48 := by
  induction u using Nat.strongRecOn with
  | _ u ih =>
    by_cases h : u < 10
    · rw [Lib.decDigits_one h]; intro c hc e
      have : UInt8.ofNat (48 + u) = c := by simpa using hc
      rw [e] at this
      have := congrArg UInt8.toNat this
      rw [digit_val h] at this
      have e2 : (48 : UInt8).toNat = 48 := rfl
      omega
    · rw [dec_rec u h]; intro c hc
      rw [List.head?_append] at hc
      cases hh : (Lib.decDigits (u / 10)).head? with
      | none => exact absurd (List.head?_eq_none_iff.1 hh) (dec_ne _)
      | some d =>
        rw [hh] at hc
        have : d = c := by simpa using hc
        subst this
        exact ih (u / 10) (by omega) (by omega) d hh
theorem dec_len : ∀ (k u : Nat), 0 < k → u < 10 ^ k → (Lib.decDigits u).length ≤ k
  | 0, u, h, _ => by omega
  | k + 1, u, _, hu => by
    by_cases h : u < 10
    · rw [Lib.decDigits_one h]; simp
    · rw [dec_rec u h]
      have hk : 0 < k := by
        rcases Nat.eq_zero_or_pos k with h' | h'
        · subst h'; simp at hu; omega
        · exact h'
      have := dec_len k (u / 10) hk (by rw [Nat.pow_succ] at hu; omega)
      simp; omega

theorem decFrom_append : ∀ (l r : List UInt8) (acc : Nat), Lib.decFrom acc (l ++ r) = (Lib.decFrom acc l).bind fun n => Lib.decFrom n r
  | [], r, acc => rfl
  | b :: l, r, acc => by
    simp only [List.cons_append, Lib.decFrom]
    cases Lib.digitVal b with
    | none => rfl
    | some d => exact decFrom_append l r _
theorem decFrom_dec (u : Nat) : Lib.decFrom 0 (Lib.decDigits u) = some u := by
  induction u using Nat.strongRecOn with
  | _ u ih =>
    by_cases h : u < 10
    · rw [Lib.decDigits_one h]; simp only [Lib.decFrom, digitVal_dig h]; simp
    · rw [dec_rec u h, decFrom_append, ih (u / 10) (by omega)]
      simp only [Option.bind_some, Lib.decFrom, digitVal_dig (show u % 10 < 10 by omega)]
      congr 1; omega

theorem atoi_dec (u : Nat) : Lib.atoi (Lib.decDigits u) = some (u : Int) := by
  have hd := dec_digs u
  have hv := decFrom_dec u
  have hn := dec_ne u
  generalize Lib.decDigits u = l at *
  cases l with
  | nil => exact absurd rfl hn
  | cons b r =>
    have hb := hd b (by simp)
    simp only [isDig, Bool.and_eq_true, decide_eq_true_eq] at hb
    have h1 : (b == 45) = false := by
      rw [beq_eq_false_iff_ne]; intro e; subst e; have : (45 : UInt8).toNat = 45 := rfl; omega
    have h2 : (b == 43) = false := by
      rw [beq_eq_false_iff_ne]; intro e; subst e; have : (43 : UInt8).toNat = 43 := rfl; omega
    simp only [Lib.atoi, h1, h2, Bool.false_eq_true, if_false, Lib.decNat, List.isEmpty_cons, hv, Option.map_some]

/-- A number that is written so. -/
theorem itoa_nat (u : Nat) : Lib.itoa (u : Int) = Lib.decDigits u := Lib.itoa_nonneg u

theorem dropWhile_all {p : UInt8 → Bool} : ∀ {l : List UInt8}, (∀ c ∈ l, p c = true) → l.dropWhile p = []
  | [], _ => rfl
  | a :: l, h => by
    rw [List.dropWhile_cons, if_pos (h a (by simp))]; exact dropWhile_all fun c hc => h c (by simp [hc])
theorem trimS_all {l cs : List UInt8} (h : ∀ c ∈ l, cs.contains c = true) : Lib.trimS l cs = [] := by
  unfold Lib.trimS Lib.trimRightS
  rw [dropWhile_all (by intro c hc; exact h c (by simpa using hc))]
  rfl
theorem dig_in {c : UInt8} (h : isDig c = true) : ([48, 49, 50, 51, 52, 53, 54, 55, 56, 57] : List UInt8).contains c = true := by
  simp only [isDig, Bool.and_eq_true, decide_eq_true_eq] at h
  have e : c = UInt8.ofNat c.toNat := by simp
  rw [e]
  generalize c.toNat = n at *
  have : n = 48 ∨ n = 49 ∨ n = 50 ∨ n = 51 ∨ n = 52 ∨ n = 53 ∨ n = 54 ∨ n = 55 ∨ n = 56 ∨ n = 57 := by omega
  rcases this with rfl | rfl | rfl | rfl | rfl | rfl | rfl | rfl | rfl | rfl <;> rfl

/-! Cuts -/
theorem index_at {a b sep : List UInt8} (hn : sep ≠ []) (h : ∀ i, i < a.length → sep.isPrefixOf ((a ++ (sep ++ b)).drop i) = false) : Lib.index (a ++ (sep ++ b)) sep = a.length := by
  induction a with
  | nil =>
    cases sep with
    | nil => exact absurd rfl hn
    | cons c sep =>
      simp only [List.nil_append, List.cons_append]
      rw [Lib.index]
      have : List.isPrefixOf (c :: sep) (c :: (sep ++ b)) = true := by
        rw [List.isPrefixOf_iff_prefix]; exact ⟨b, by simp⟩
      simp [this]
  | cons x a ih =>
    have h0 := h 0 (by simp)
    have ih' := ih fun i hi => by
      have := h (i + 1) (by simp; omega)
      simpa using this
    simp only [List.cons_append]
    rw [Lib.index]
    simp only [List.cons_append, List.drop_zero] at h0
    rw [ih']
    have hm : (((a.length : Nat) : Int) == -1) = false := by rw [beq_eq_false_iff_ne]; omega
    simp [h0, hm]
theorem cut_at {a b sep : List UInt8} (hn : sep ≠ []) (h : ∀ i, i < a.length → sep.isPrefixOf ((a ++ (sep ++ b)).drop i) = false) : Lib.cut (a ++ (sep ++ b)) sep = (a, b, true) := by
  unfold Lib.cut
  rw [index_at hn h, if_pos (by omega)]
  simp
theorem cut_one {a b : List UInt8} {c : UInt8} (h : c ∉ a) : Lib.cut (a ++ c :: b) [c] = (a, b, true) := by
  have := cut_at (a := a) (b := b) (sep := [c]) (by simp) fun i hi => by
    have hd : (a ++ ([c] ++ b)).drop i = a[i] :: (a ++ ([c] ++ b)).drop (i + 1) := by
      rw [List.drop_eq_getElem_cons (by simp; omega)]; congr 1; rw [List.getElem_append_left hi]
    rw [hd]
    have : c ≠ a[i] := fun e => h (e ▸ List.getElem_mem _)
    simp [List.isPrefixOf, this]
  simpa using this
theorem cut_two {a b : List UInt8} {c d : UInt8} (h : c ∉ a) : Lib.cut (a ++ c :: d :: b) [c, d] = (a, b, true) := by
  have := cut_at (a := a) (b := b) (sep := [c, d]) (by simp) fun i hi => by
    have hd : (a ++ ([c, d] ++ b)).drop i = a[i] :: (a ++ ([c, d] ++ b)).drop (i + 1) := by
      rw [List.drop_eq_getElem_cons (by simp; omega)]; congr 1; rw [List.getElem_append_left hi]
    rw [hd]
    have : c ≠ a[i] := fun e => h (e ▸ List.getElem_mem _)
    simp [List.isPrefixOf, this]
  simpa using this
theorem index_none {s : List UInt8} {c : UInt8} (h : c ∉ s) : Lib.index s [c] = -1 := by
  induction s with
  | nil => simp [Lib.index]
  | cons a s ih =>
    have h1 : c ≠ a := fun e => h (e ▸ by simp)
    have h2 := ih fun hh => h (by simp [hh])
    rw [Lib.index]
    simp [List.isPrefixOf, h1, h2]
theorem cut_none {s : List UInt8} {c : UInt8} (h : c ∉ s) : Lib.cut s [c] = (s, [], false) := by
  unfold Lib.cut; rw [index_none h, if_neg (by omega)]

/-! Splits -/
theorem splitK_join (c : UInt8) : ∀ (xs : List (List UInt8)), xs ≠ [] → (∀ x ∈ xs, c ∉ x) → ∀ k, xs.length ≤ k + 1 → Lib.splitK [c] 0 k (Lib.join xs [c]) = xs
  | [], h, _, _, _ => absurd rfl h
  | [x], _, hx, k, _ => by
    have : Lib.join [x] [c] = x := by simp [Lib.join, List.intercalate]
    rw [this]
    cases k with
    | zero => rfl
    | succ k => unfold Lib.splitK; rw [index_none (hx x (by simp))]; rfl
  | x :: y :: xs, _, hx, k, hk => by
    have hj : Lib.join (x :: y :: xs) [c] = x ++ c :: Lib.join (y :: xs) [c] := by simp [Lib.join, List.intercalate, List.intersperse]
    have hix : Lib.index (x ++ c :: Lib.join (y :: xs) [c]) [c] = x.length := by
      have := index_at (a := x) (b := Lib.join (y :: xs) [c]) (sep := [c]) (by simp) fun i hi => by
        have hd : (x ++ ([c] ++ Lib.join (y :: xs) [c])).drop i = x[i] :: (x ++ ([c] ++ Lib.join (y :: xs) [c])).drop (i + 1) := by
          rw [List.drop_eq_getElem_cons (by simp; omega)]; congr 1; rw [List.getElem_append_left hi]
        rw [hd]
        have : c ≠ x[i] := fun e => hx x (by simp) (e ▸ List.getElem_mem _)
        simp [List.isPrefixOf, this]
      simpa using this
    rw [hj]
    cases k with
    | zero => simp at hk
    | succ k =>
      unfold Lib.splitK
      rw [hix]
      have hm : (((x.length : Nat) : Int) == -1) = false := by rw [beq_eq_false_iff_ne]; omega
      rw [hm]
      have ih := splitK_join c (y :: xs) (by simp) (fun z hz => hx z (List.mem_cons_of_mem _ hz)) k (by simp at hk ⊢; omega)
      simp [ih]

theorem count_join (c : UInt8) : ∀ (xs : List (List UInt8)), (∀ x ∈ xs, c ∉ x) → (Lib.join xs [c]).count c = xs.length - 1
  | [], _ => by simp [Lib.join, List.intercalate]
  | [x], hx => by simp [Lib.join, List.intercalate, List.count_eq_zero.2 (hx x (by simp))]
  | x :: y :: xs, hx => by
    have hj : Lib.join (x :: y :: xs) [c] = x ++ c :: Lib.join (y :: xs) [c] := by simp [Lib.join, List.intercalate, List.intersperse]
    have ih := count_join c (y :: xs) fun z hz => hx z (List.mem_cons_of_mem _ hz)
    rw [hj, List.count_append, List.count_eq_zero.2 (hx x (by simp)), List.count_cons_self, ih]
    simp
theorem splitL_join (c : UInt8) (xs : List (List UInt8)) (h : xs ≠ []) (hx : ∀ x ∈ xs, c ∉ x) : splitL (Lib.join xs [c]) [c] = xs := by
  unfold splitL
  rw [Lib.splitB_data]
  have e1 : (⟨(Lib.join xs [c]).toArray⟩ : ByteArray).data.toList = Lib.join xs [c] := by simp
  have e2 : (⟨([c] : List UInt8).toArray⟩ : ByteArray).data.toList = [c] := by simp
  rw [e1, e2]
  refine splitK_join c xs h hx _ ?_
  show xs.length ≤ Lib.count (⟨(Lib.join xs [c]).toArray⟩ : ByteArray).data.toList (⟨([c] : List UInt8).toArray⟩ : ByteArray).data.toList + 1
  rw [e1, e2, Lib.count_one, count_join c xs hx]
  omega
end Go.Ab
