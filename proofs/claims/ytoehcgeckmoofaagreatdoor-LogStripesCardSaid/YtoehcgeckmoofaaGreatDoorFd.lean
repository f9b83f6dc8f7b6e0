/- A log that was filled with records and synced here and there, in plain Lean. -/
import Derived.Test.YtoehcgeckmoofaaGreatDoorFc
set_option linter.unusedVariables false
set_option linter.unusedSimpArgs false
namespace Go.Ab
open Go Go.RowKit Go.Proofs

theorem textV_nil : textV [] = [91, 93] := by decide
theorem lineRR_len {p : Nat} {a b : Int} (hp : p ≤ 2147483647) (h1 : 0 ≤ a) (h2 : a < 8) (h3 : 1 ≤ b) (h4 : b ≤ 1048576) : (Line.p p (RR a b)).text.length + 1 ≤ 64 := by
  obtain ⟨a, rfl⟩ : ∃ u : Nat, a = u := ⟨a.toNat, by omega⟩
  obtain ⟨b, rfl⟩ : ∃ u : Nat, b = u := ⟨b.toNat, by omega⟩
  have e1 := itoa_len10 p hp
  have e2 := itoa_len10 a (by omega)
  have e3 := itoa_len10 b (by omega)
  simp only [Line.text, textR, RR, textV_nil, List.length_cons, List.length_append, List.length_nil]
  omega

theorem stripe1 {k p : Nat} (hk : 0 < k) : stripeOf [(0, k)] p = p % k ∧ epochOf [(0, k)] p = 1 := by
  have e : epochOf [(0, k)] p = 1 := by simp [epochOf]
  refine ⟨?_, e⟩
  unfold stripeOf
  rw [e]; simp

structure Fill (L : LogM) (rc : Nat → Rec) (k rm c : Nat) (sy : Nat → Bool) : Prop where
  good : Good L rc
  m : L.m = [(0, k)]
  trim : L.trim = 0
  next : L.next = c
  down : L.down = false
  gone : L.gone = []
  own : L.own.lines = []
  oroom : L.own.room = rm
  room : ∀ (j : Nat) (S : SegM), L.segs[j]? = some S → S.2.room = rm ∧ used S.2.lines ≤ 64 * c
  sld : ∀ (j : Nat) (S : SegM), L.segs[j]? = some S → S.1.sealed = 0 ∧ S.1.trim = 0
  lines : ∀ (j : Nat) (S : SegM), L.segs[j]? = some S → S.2.lasts = if sy j then S.2.lines.length else 0
  any1 : ∀ (j : Nat) (S : SegM), L.segs[j]? = some S → (0 < S.2.lines.length ↔ ∃ p, p < c ∧ p % k = j)
  lasts : ∀ p, p < c → L.lastsAt p = sy (p % k)
  recs : ∀ p, p < c → rc p = RR 0 (p + 1)

variable {L : LogM} {rc : Nat → Rec} {k rm c : Nat} {sy : Nat → Bool}

theorem fill_new (h1 : 1 ≤ k) (h2 : k ≤ 8) : Fill (newL k rm) (fun p => RR 0 (p + 1)) k rm 0 fun _ => false := by
  have hS : ∀ (j : Nat) (S : SegM), (newL k rm).segs[j]? = some S → S = segNew rm := fun j S h => by
    have := List.mem_of_getElem? h
    simp [newL] at this; exact this
  refine ⟨good_new h1 h2, rfl, rfl, rfl, rfl, rfl, rfl, rfl, fun j S h => ?_, fun j S h => ?_, fun j S h => ?_, fun j S h => ?_, fun p h => by omega, fun p h => by omega⟩
  · rw [hS j S h]; exact ⟨rfl, Nat.le_refl _⟩
  · rw [hS j S h]; exact ⟨rfl, rfl⟩
  · rw [hS j S h]; rfl
  · rw [hS j S h]; simp [segNew]

theorem Fill.code (f : Fill L rc k rm c fun _ => false) (h1 : 1 ≤ k) (hc : c < 1048576) (hr : 64 * c + 64 ≤ rm) : L.putCode c (RR 0 (c + 1)) = 0 := by
  obtain ⟨S, hS⟩ := f.good.lastSeg
  have hn := f.next
  obtain ⟨r1, r2⟩ := f.room _ S hS
  obtain ⟨s1, s2⟩ := f.sld _ S hS
  have he : epochOf L.m L.next = 1 := by rw [f.m]; exact (stripe1 h1).2
  have := f.good.putCode f.down (checkRR (a := 0) (b := c + 1) (by omega) (by omega) (by omega) (by omega)) (by omega) (by rw [f.m]; simp) hS (by omega) (by omega) (by omega)
    (by have := lineRR_len (p := L.next) (a := 0) (b := c + 1) (by omega) (by omega) (by omega) (by omega) (by omega); omega)
  rw [hn] at this; exact this

theorem Fill.put (f : Fill L rc k rm c fun _ => false) (h1 : 1 ≤ k) (hc : c < 1048576) (hr : 64 * c + 64 ≤ rm) : Fill (L.put (RR 0 (c + 1))) (fun p => if p = L.next then RR 0 (c + 1) else rc p) k rm (c + 1) fun _ => false := by
  have code := f.code h1 hc hr
  have hn := f.next
  rw [← hn] at code
  obtain ⟨S, hS⟩ := f.good.lastSeg
  have hsg := put_segs (r := RR 0 (c + 1)) hS
  have hst : stripeOf L.m L.next = c % k := by rw [f.m, hn]; exact (stripe1 h1).1
  have hget : ∀ (j : Nat) (S' : SegM), (L.put (RR 0 (c + 1))).segs[j]? = some S' → (j = c % k ∧ S' = putS S c (RR 0 (c + 1))) ∨ (j ≠ c % k ∧ L.segs[j]? = some S') := by
    intro j S' h
    rw [hsg, List.getElem?_set] at h
    split at h
    · rename_i he
      rw [hst] at he
      rw [hn] at h
      split at h
      · exact .inl ⟨he.symm, by simpa using h.symm⟩
      · cases h
    · rename_i he; rw [hst] at he; exact .inr ⟨fun hh => he hh.symm, h⟩
  rw [hst] at hS
  have hcode : L.putCode L.next (RR 0 (c + 1)) = 0 := by rw [hn] at code ⊢; exact code
  have hll := put_lasts f.good hcode (keyOkRR _ _) rfl
  have hlen := lineRR_len (p := c) (a := 0) (b := c + 1) (by omega) (by omega) (by omega) (by omega) (by omega)
  refine ⟨f.good.put hcode (keyOkRR _ _) rfl, f.m, f.trim, by show L.next + 1 = _; omega, f.down, f.gone, f.own, f.oroom, fun j S' h => ?_, fun j S' h => ?_, fun j S' h => ?_, fun j S' h => ?_, fun p h => ?_, fun p h => ?_⟩
  · rcases hget j S' h with ⟨rfl, rfl⟩ | ⟨_, h⟩
    · obtain ⟨r1, r2⟩ := f.room _ S hS
      refine ⟨r1, ?_⟩
      have e : used (putS S c (RR 0 (c + 1))).2.lines = used S.2.lines + ((Line.p c (RR 0 (c + 1))).text.length + 1) := by
        show used (S.2.lines ++ [_]) = _
        rw [used_append]; simp [used]
      omega
    · obtain ⟨r1, r2⟩ := f.room _ S' h
      exact ⟨r1, by omega⟩
  · rcases hget j S' h with ⟨rfl, rfl⟩ | ⟨_, h⟩
    · exact f.sld _ S hS
    · exact f.sld _ S' h
  · rcases hget j S' h with ⟨rfl, rfl⟩ | ⟨_, h⟩
    · exact f.lines _ S hS
    · exact f.lines _ S' h
  · rcases hget j S' h with ⟨rfl, rfl⟩ | ⟨hne, h⟩
    · simp only [putS, List.length_append, List.length_cons, List.length_nil]
      exact ⟨fun _ => ⟨c, by omega, rfl⟩, fun _ => by omega⟩
    · rw [f.any1 _ S' h]
      constructor
      · rintro ⟨p, h1, h2⟩; exact ⟨p, by omega, h2⟩
      · rintro ⟨p, h1, h2⟩
        refine ⟨p, ?_, h2⟩
        rcases Nat.lt_or_ge p c with h3 | h3
        · exact h3
        · exfalso; have : p = c := by omega
          subst this; exact hne h2.symm
  · rcases Nat.lt_or_ge p c with h3 | h3
    · rw [hll.1 p (by rw [f.trim]; omega) (by omega)]; exact f.lasts p h3
    · have : p = c := by omega
      subst this; rw [hn] at hll; exact hll.2
  · by_cases hp : p = L.next
    · rw [if_pos hp, hp, hn]
    · rw [if_neg hp]; exact f.recs p (by omega)

theorem Fill.waits (f : Fill L rc k rm c sy) (h1 : 1 ≤ k) {j : Nat} (hj : j < 8) : L.waits j = (!sy j && decide (j < k ∧ j < c)) := by
  have h8 := f.good.wf.segs
  obtain ⟨S, hS⟩ : ∃ S, L.segs[j]? = some S := ⟨L.segs[j]'(by omega), List.getElem?_eq_getElem (by omega)⟩
  have a := f.lines j S hS
  have b := f.any1 j S hS
  have hiff : (∃ p, p < c ∧ p % k = j) ↔ j < k ∧ j < c := by
    constructor
    · rintro ⟨p, h2, h3⟩
      have := Nat.mod_lt p (show 0 < k by omega)
      have := Nat.mod_le p k
      omega
    · rintro ⟨h2, h3⟩; exact ⟨j, h3, Nat.mod_eq_of_lt h2⟩
  unfold LogM.waits
  rw [hS]
  simp only
  rw [a]
  cases h : sy j
  · rw [hiff] at b
    simp only [Bool.false_eq_true, if_false, Bool.not_false, Bool.true_and]
    by_cases hh : 0 < S.2.lines.length
    · rw [decide_eq_true hh, decide_eq_true (b.1 hh)]
    · rw [decide_eq_false hh, decide_eq_false (fun x => hh (b.2 x))]
  · simp

theorem Fill.sync (f : Fill L rc k rm c sy) (h1 : 1 ≤ k) (j : Nat) : Fill (L.sync j) rc k rm c fun i => decide (i = j) || sy i := by
  obtain ⟨m1, m2, m3, m4, m5, m6⟩ := sync_m L j
  have hq : ∀ (i : Nat) (S' : SegM), (L.sync j).segs[i]? = some S' → ∃ S, L.segs[i]? = some S ∧ S'.1 = S.1 ∧ S'.2.lines = S.2.lines ∧ S'.2.room = S.2.room ∧ S'.2.lasts = if i = j then S.2.lines.length else S.2.lasts := fun i S' h => sync_get h
  refine ⟨f.good.sync j, m1.trans f.m, m2.trans f.trim, m3.trans f.next, m6.trans f.down, m4.trans f.gone, by rw [m5]; exact f.own, by rw [m5]; exact f.oroom, fun i S' h => ?_, fun i S' h => ?_, fun i S' h => ?_, fun i S' h => ?_, fun p h => ?_, f.recs⟩
  · obtain ⟨S, hS, a, b, c', d⟩ := hq i S' h
    rw [b, c']; exact f.room i S hS
  · obtain ⟨S, hS, a, b, c', d⟩ := hq i S' h
    rw [a]; exact f.sld i S hS
  · obtain ⟨S, hS, a, b, c', d⟩ := hq i S' h
    rw [d, b, f.lines i S hS]
    by_cases hij : i = j <;> simp [hij]
  · obtain ⟨S, hS, a, b, c', d⟩ := hq i S' h
    rw [b]; exact f.any1 i S hS
  · rw [sync_lasts f.good j (by rw [f.trim]; omega) (by rw [f.next]; exact h), f.lasts p h, f.m, (stripe1 h1).1]

theorem Fill.head (f : Fill L rc k rm c sy) {n : Nat} (h1 : n ≤ c) (h2 : ∀ p, p < n → sy (p % k) = true) (h3 : n < c → sy (n % k) = false) : L.head = n := by
  refine head_unique f.good.wf f.down (by rw [f.trim]; omega) (by rw [f.next]; exact h1) (fun q _ hq => ?_) fun hn => ?_
  · rw [f.lasts q (by omega)]; exact h2 q hq
  · rw [f.next] at hn; rw [f.lasts n hn]; exact h3 hn
end Go.Ab
