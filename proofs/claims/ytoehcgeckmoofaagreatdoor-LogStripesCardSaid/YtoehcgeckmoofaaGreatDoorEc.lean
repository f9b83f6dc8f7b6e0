/- A log in plain Lean: which position lies where; what its functions keep. -/
import Derived.Test.YtoehcgeckmoofaaGreatDoorEb
set_option linter.unusedVariables false
set_option linter.unusedSimpArgs false
namespace Go.Ab
open Go Go.RowKit Go.Proofs

/-- The own disk's lines say what is in memory. -/
structure OwnGood (L : LogM) (ols : List OLine) : Prop where
  lines : L.own.lines = ols.map OLine.text
  ok : ∀ x ∈ ols, x.Ok
  m : (ols.foldl LogM.take L).m = L.m
  trim : (ols.foldl LogM.take L).trim = L.trim
  gone : trimV (ols.foldl LogM.take L).gone = trimV L.gone
  lasts : L.own.lasts = L.own.lines.length
  glen : (ols.foldl LogM.take L).gone.length ≤ 64

structure Good (L : LogM) (rc : Nat → Rec) : Prop where
  wf : L.WF
  segs : ∀ (k : Nat) (S : SegM), L.segs[k]? = some S → ∃ ls, SegGood S ls
  own : ∃ ols, OwnGood L ols
  has : ∀ p, L.trim ≤ p → p < L.next → ∃ S x, L.segAt p = some S ∧ S.1.trim ≤ p ∧ x ∈ S.1.slots ∧ x.pos = p
  slot : ∀ (k : Nat) (S : SegM) (x : Slot), L.segs[k]? = some S → x ∈ S.1.slots → L.trim ≤ x.pos ∧ x.pos < L.next ∧ stripeOf L.m x.pos = k ∧ x.r = rc x.pos
  nd : ∀ (k : Nat) (S : SegM), L.segs[k]? = some S → (S.1.slots.map (·.pos)).Nodup
  norm : ∀ p, L.trim ≤ p → p < L.next → trimR (rc p) = rc p
  strim : ∀ (k : Nat) (S : SegM), L.segs[k]? = some S → S.1.trim ≤ L.trim

theorem find_mem {M : SegSt} (nd : (M.slots.map (·.pos)).Nodup) {x : Slot} (hx : x ∈ M.slots) : M.find x.pos = some x := by
  unfold SegSt.find
  have : ∀ l : List Slot, (l.map (·.pos)).Nodup → x ∈ l → l.find? (fun s => decide ((x.pos : Int) = (s.pos : Int))) = some x := by
    intro l
    induction l with
    | nil => intro _ h; simp at h
    | cons y l ih =>
      intro hn h
      have hn' := List.nodup_cons.1 hn
      rw [List.find?_cons]
      rcases List.mem_cons.1 h with rfl | h
      · simp
      · have hne : y.pos ≠ x.pos := fun e => hn'.1 (by rw [List.mem_map]; exact ⟨x, h, e.symm⟩)
        have : decide ((x.pos : Int) = (y.pos : Int)) = false := by simp; omega
        rw [this]; exact ih hn'.2 h
  exact this _ nd hx
theorem find_pos {M : SegSt} {p : Nat} {x : Slot} (h : M.find p = some x) : x ∈ M.slots ∧ x.pos = p := by
  unfold SegSt.find at h
  have h1 := List.mem_of_find?_eq_some h
  have h2 := List.find?_some h
  exact ⟨h1, by simp at h2; omega⟩
theorem find_no {M : SegSt} {p : Nat} (h : ∀ x ∈ M.slots, x.pos ≠ p) : M.find p = none := by
  unfold SegSt.find
  rw [List.find?_eq_none]; intro x hx; have := h x hx; simp; omega

variable {L : LogM} {rc : Nat → Rec}

theorem Good.find (g : Good L rc) {p : Nat} (h1 : L.trim ≤ p) (h2 : p < L.next) : ∃ S x, L.segAt p = some S ∧ S.1.trim ≤ p ∧ x ∈ S.1.slots ∧ x.pos = p ∧ S.1.find p = some x ∧ x.r = rc p := by
  obtain ⟨S, x, a, b, c, d⟩ := g.has p h1 h2
  have hs := g.slot _ S x a c
  have := find_mem (g.nd _ S a) c
  rw [d] at this
  exact ⟨S, x, a, b, c, d, this, by rw [hs.2.2.2, d]⟩
theorem Good.at_ (g : Good L rc) {p : Nat} (h1 : L.trim ≤ p) (h2 : p < L.next) : ∃ x, L.at_ p = some x ∧ x.r = rc p := by
  obtain ⟨S, x, a, b, c, d, e, f⟩ := g.find h1 h2
  refine ⟨x, ?_, f⟩
  rw [LogM.at_, a]; simp only; rw [if_neg (by omega)]; exact e
theorem Good.siteSeq (g : Good L rc) {p : Nat} (h1 : L.trim ≤ p) (h2 : p < L.next) : L.siteSeq p = ((rc p).site, (rc p).seq) := by
  obtain ⟨x, a, b⟩ := g.at_ h1 h2
  rw [LogM.siteSeq, a]; simp only; rw [b]
theorem Good.getCode (g : Good L rc) (hd : L.down = false) {p : Nat} (h1 : L.trim ≤ p) (h2 : p < L.next) : L.getCode p = 0 := by
  obtain ⟨S, x, a, b, c, d, e, f⟩ := g.find h1 h2
  rw [LogM.getCode, if_neg (by rw [hd]; simp), if_neg (by omega), if_neg (by omega), if_neg (by omega)]
  have : L.segAt ((p : Nat) : Int).toNat = some S := by simpa using a
  rw [this]; simp only; rw [if_neg (by omega), e]; rfl

theorem Good.stripe8 (g : Good L rc) (p : Nat) : stripeOf L.m p < 8 := by
  have hpos := g.wf.m.pos
  unfold stripeOf
  simp only
  generalize hx : L.m.getD (epochOf L.m p - 1) (0, 1) = x
  have hx2 : 1 ≤ x.2 ∧ x.2 ≤ 8 := by
    rw [List.getD_eq_getElem?_getD] at hx
    cases hg : L.m[epochOf L.m p - 1]? with
    | none => rw [hg] at hx; subst hx; simp
    | some y => rw [hg] at hx; subst hx; exact g.wf.m.n _ (List.mem_of_getElem? hg)
  have := Nat.mod_lt (p - x.1) (show 0 < x.2 by omega)
  omega

/-! ### The head -/
theorem headFrom_spec (L : LogM) : ∀ (n p : Nat), p ≤ L.headFrom n p ∧ L.headFrom n p ≤ p + n ∧ (∀ q, p ≤ q → q < L.headFrom n p → L.lastsAt q = true) ∧ (L.headFrom n p < p + n → L.lastsAt (L.headFrom n p) = false)
  | 0, p => ⟨Nat.le_refl _, Nat.le_refl _, fun q h1 h2 => by rw [LogM.headFrom] at h2; omega, fun h => by rw [LogM.headFrom] at h; omega⟩
  | n + 1, p => by
    rw [LogM.headFrom]
    split
    · rename_i hl
      obtain ⟨a, b, c, d⟩ := headFrom_spec L n (p + 1)
      refine ⟨by omega, by omega, fun q h1 h2 => ?_, fun h => d (by omega)⟩
      rcases Nat.lt_or_ge p q with h | h
      · exact c q h h2
      · have : q = p := by omega
        subst this; exact hl
    · rename_i hl
      exact ⟨Nat.le_refl _, by omega, fun q h1 h2 => by omega, fun _ => by simpa using hl⟩
theorem head_spec (wf : L.WF) (hd : L.down = false) : L.trim ≤ L.head ∧ L.head ≤ L.next ∧ (∀ q, L.trim ≤ q → q < L.head → L.lastsAt q = true) ∧ (L.head < L.next → L.lastsAt L.head = false) := by
  have htr := wf.trim
  obtain ⟨a, b, c, d⟩ := headFrom_spec L (L.next - L.trim) L.trim
  have e : L.head = L.headFrom (L.next - L.trim) L.trim := by rw [LogM.head, if_neg (by rw [hd]; simp)]
  rw [e]
  exact ⟨a, by omega, c, fun h => d (by omega)⟩
theorem head_unique (wf : L.WF) (hd : L.down = false) {n : Nat} (h1 : L.trim ≤ n) (h2 : n ≤ L.next) (h3 : ∀ q, L.trim ≤ q → q < n → L.lastsAt q = true) (h4 : n < L.next → L.lastsAt n = false) : L.head = n := by
  obtain ⟨a, b, c, d⟩ := head_spec wf hd
  rcases Nat.lt_trichotomy L.head n with h | h | h
  · have := h3 L.head a h
    have := d (by omega); simp_all
  · exact h
  · have := c n h1 h
    have := h4 (by omega); simp_all

/-! ### Put -/
def putS (S : SegM) (n : Nat) (r : Rec) : SegM := (S.1.add ⟨n, r, S.2.lines.length⟩, { S.2 with lines := S.2.lines ++ [(Line.p n r).text] })
theorem put_segs {r : Rec} {S : SegM} (hS : L.segs[stripeOf L.m L.next]? = some S) : (L.put r).segs = L.segs.set (stripeOf L.m L.next) (putS S L.next r) := by
  rw [LogM.put, hS]; rfl

theorem Good.lastSeg (g : Good L rc) : ∃ S, L.segs[stripeOf L.m L.next]? = some S := by
  have h8 := g.wf.segs
  have := g.stripe8 L.next
  exact ⟨L.segs[stripeOf L.m L.next]'(by omega), List.getElem?_eq_getElem (by omega)⟩

/-- Put at the next position goes well where there is room. -/
theorem Good.putCode (g : Good L rc) (hd : L.down = false) {r : Rec} (hr : checkR r 8 = 0) (hn : L.next ≤ 2147483647) (hlen : L.m.length ≤ 2147483647) {S : SegM} (hS : L.segs[stripeOf L.m L.next]? = some S)
    (hseal : S.1.sealed < epochOf L.m L.next) (hep : epochOf L.m L.next ≤ 2147483647) (htr : S.1.trim ≤ L.next) (hfit : used S.2.lines + ((Line.p L.next r).text.length + 1) ≤ S.2.room) : L.putCode L.next r = 0 := by
  rw [LogM.putCode, if_neg (by rw [hd]; simp), if_neg (by simp), hS]
  simp only
  have hno : S.1.find (L.next : Int) = none := find_no fun x hx => by have := (g.slot _ S x hS hx).2.1; omega
  rw [Go.Ab.putCode, if_neg (by omega), if_neg (by omega), if_neg (by omega), hno, if_neg (by simp), if_neg (by simp [hr]), if_neg (by simp only [Int.toNat_natCast]; omega)]

theorem put_code_inv {r : Rec} (hc : L.putCode L.next r = 0) {S : SegM} (hS : L.segs[stripeOf L.m L.next]? = some S) : L.down = false ∧ L.next ≤ 2147483647 ∧ S.1.trim ≤ L.next ∧ S.1.find (L.next : Int) = none ∧ checkR r 8 = 0 := by
  unfold LogM.putCode at hc
  split at hc
  · cases hc
  · rename_i hd
    split at hc
    · cases hc
    · rw [hS] at hc
      simp only at hc
      unfold Go.Ab.putCode at hc
      split at hc
      · cases hc
      · split at hc
        · cases hc
        · split at hc
          · cases hc
          · split at hc
            · cases hc
            · split at hc
              · rename_i h1 h2; exact absurd hc h2
              · rename_i z1 z2 z3 z4 z5
                exact ⟨by simpa using hd, by omega, by omega, by simpa using z4, by simpa using z5⟩

theorem Good.put (g : Good L rc) {r : Rec} (hc : L.putCode L.next r = 0) (hk : KeyOk r) (hn : trimR r = r) : Good (L.put r) fun p => if p = L.next then r else rc p := by
  obtain ⟨S, hS⟩ := g.lastSeg
  obtain ⟨hd, hnx, htr, hno, hr⟩ := put_code_inv hc hS
  have hsg := put_segs (r := r) hS
  have hwf := wf_put g.wf hc
  have hm : (L.put r).m = L.m := rfl
  have htrim : (L.put r).trim = L.trim := rfl
  have hnext : (L.put r).next = L.next + 1 := rfl
  have hlt := (List.getElem?_eq_some_iff.1 hS).1
  obtain ⟨ls, gS⟩ := g.segs _ S hS
  have hget : ∀ (k : Nat) (S' : SegM), (L.put r).segs[k]? = some S' → (k = stripeOf L.m L.next ∧ S' = putS S L.next r) ∨ (k ≠ stripeOf L.m L.next ∧ L.segs[k]? = some S') := by
    intro k S' h
    rw [hsg, List.getElem?_set] at h
    split at h
    · rename_i he; subst he; exact .inl ⟨rfl, by simpa using h.symm⟩
    · rename_i he; exact .inr ⟨fun hh => he hh.symm, h⟩
  refine ⟨hwf, fun k S' h => ?_, ?_, fun p h1 h2 => ?_, fun k S' x h hx => ?_, fun k S' h => ?_, fun p h1 h2 => ?_, fun k S' h => ?_⟩
  · rcases hget k S' h with ⟨rfl, rfl⟩ | ⟨_, h⟩
    · exact ⟨_, gS.put hnx ⟨hr, hk hr⟩ hn (by exact hno) htr⟩
    · exact g.segs k S' h
  · obtain ⟨ols, o⟩ := g.own
    have hf : ∀ (xs : List OLine) (A B : LogM), A.trim = B.trim → A.m = B.m → A.gone = B.gone → (xs.foldl LogM.take A).trim = (xs.foldl LogM.take B).trim ∧ (xs.foldl LogM.take A).m = (xs.foldl LogM.take B).m ∧ (xs.foldl LogM.take A).gone = (xs.foldl LogM.take B).gone := by
      intro xs
      induction xs with
      | nil => exact fun A B h1 h2 h3 => ⟨h1, h2, h3⟩
      | cons x xs ih =>
        intro A B h1 h2 h3
        simp only [List.foldl_cons]
        cases x with
        | m ms => exact ih _ _ h1 rfl h3
        | t pos v => exact ih _ _ rfl h2 rfl
    obtain ⟨f1, f2, f3⟩ := hf ols (L.put r) L rfl rfl rfl
    exact ⟨ols, o.lines, o.ok, by rw [f2]; exact o.m, by rw [f1]; exact o.trim, by rw [f3]; exact o.gone, o.lasts, by rw [f3]; exact o.glen⟩
  · rw [htrim] at h1; rw [hnext] at h2
    by_cases hp : p = L.next
    · subst hp
      refine ⟨putS S L.next r, ⟨L.next, r, S.2.lines.length⟩, ?_, htr, by simp [putS, SegSt.add], rfl⟩
      rw [LogM.segAt, hm, hsg, List.getElem?_set_self hlt]
    · obtain ⟨S', x, a, b, c, d⟩ := g.has p h1 (by omega)
      by_cases hks : stripeOf L.m L.next = stripeOf L.m p
      · have : S' = S := by rw [LogM.segAt, ← hks, hS] at a; simpa using a.symm
        subst this
        refine ⟨putS S' L.next r, x, ?_, ?_, ?_, d⟩
        · rw [LogM.segAt, hm, hsg, ← hks, List.getElem?_set_self hlt]
        · exact b
        · exact List.mem_append_left _ c
      · refine ⟨S', x, ?_, b, c, d⟩
        rw [LogM.segAt, hm, hsg, List.getElem?_set_ne hks]; exact a
  · rw [htrim, hnext, hm]
    rcases hget k S' h with ⟨rfl, rfl⟩ | ⟨hne, h⟩
    · rcases List.mem_append.1 hx with hx | hx
      · obtain ⟨a, b, c, d⟩ := g.slot _ S x hS hx
        exact ⟨a, by omega, c, by rw [d, if_neg (by omega)]⟩
      · simp at hx; subst hx
        exact ⟨g.wf.trim, by simp, rfl, by simp⟩
    · obtain ⟨a, b, c, d⟩ := g.slot _ S' x h hx
      exact ⟨a, by omega, c, by rw [d, if_neg (by omega)]⟩
  · rcases hget k S' h with ⟨rfl, rfl⟩ | ⟨_, h⟩
    · show ((S.1.slots ++ [(⟨L.next, r, S.2.lines.length⟩ : Slot)]).map fun x : Slot => x.pos).Nodup
      rw [List.map_append, List.nodup_append]
      refine ⟨g.nd _ S hS, by simp, fun a ha c hc => ?_⟩
      obtain ⟨x, hx, rfl⟩ := List.mem_map.1 ha
      simp at hc; subst hc
      have := (g.slot _ S x hS hx).2.1; omega
    · exact g.nd k S' h
  · rw [htrim] at h1; rw [hnext] at h2
    by_cases hp : p = L.next
    · simp [hp, hn]
    · rw [if_neg hp]; exact g.norm p h1 (by omega)
  · rcases hget k S' h with ⟨rfl, rfl⟩ | ⟨_, h⟩
    · exact g.strim _ S hS
    · exact g.strim k S' h
end Go.Ab
