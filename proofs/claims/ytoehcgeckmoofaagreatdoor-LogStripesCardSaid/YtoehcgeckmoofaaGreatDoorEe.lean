/- A log in plain Lean: New, Trim, Resize. -/
import Derived.Test.YtoehcgeckmoofaaGreatDoorEd
set_option linter.unusedVariables false
set_option linter.unusedSimpArgs false
namespace Go.Ab
open Go Go.RowKit Go.Proofs

theorem trimV_idem (xs : List Int) : trimV (trimV xs) = trimV xs := by
  by_cases h : trimV xs = []
  · rw [h]; rfl
  · have hl := trimV_last xs h
    have hlen : 0 < (trimV xs).length := List.length_pos_iff.2 h
    have h2 := lastP_above (trimV xs) (trimV xs).length (Nat.le_refl _) ((trimV xs).length - 1) (by omega) (by
      rw [List.getD_eq_getElem?_getD, List.getElem?_eq_getElem (by omega)]
      rw [List.getLast_eq_getElem] at hl
      exact hl)
    rw [List.take_length] at h2
    show (trimV xs).take (lastP (pairs (trimV xs))) = trimV xs
    exact List.take_of_length_le (by omega)

theorem fold_snoc (ols : List OLine) (x : OLine) (L : LogM) : (ols ++ [x]).foldl LogM.take L = (ols.foldl LogM.take L).take x := by
  rw [List.foldl_append]; rfl

variable {L : LogM} {rc : Nat → Rec}

theorem good_new {k room : Nat} (h1 : 1 ≤ k) (h2 : k ≤ 8) : Good (newL k room) rc := by
  have hS : ∀ (j : Nat) (S : SegM), (newL k room).segs[j]? = some S → S = segNew room := fun j S h => by
    have := List.mem_of_getElem? h
    simp [newL] at this; exact this
  refine ⟨wf_new h1 h2, fun j S h => ⟨[], by rw [hS j S h]; exact segNew_good room⟩, ⟨[], rfl, by simp, rfl, rfl, rfl, rfl, by simp [newL]⟩, fun p a b => by simp [newL] at b, fun j S x h hx => ?_, fun j S h => ?_, fun p a b => by simp [newL] at b, fun j S h => ?_⟩
  · rw [hS j S h] at hx; simp [segNew, seg0] at hx
  · rw [hS j S h]; simp [segNew, seg0]
  · rw [hS j S h]; simp [segNew, seg0, newL]

theorem map_get {f : SegM → SegM} {k : Nat} {S' : SegM} (h : (L.segs.map f)[k]? = some S') : ∃ S, L.segs[k]? = some S ∧ S' = f S := by
  rw [List.getElem?_map, Option.map_eq_some_iff] at h
  obtain ⟨S, a, b⟩ := h; exact ⟨S, a, b.symm⟩

theorem Good.trimmed (g : Good L rc) {n : Nat} {v : List Int} (h1 : L.trim ≤ n) (h2 : n ≤ L.next) (hv : OkV v) (hn : n ≤ 2147483647) (hfull : ∀ S ∈ L.segs, noteFull S.2 116 n = false) : Good (L.trimmed n v) rc := by
  have hS : ∀ (k : Nat) (S' : SegM), (L.trimmed n v).segs[k]? = some S' → ∃ S, L.segs[k]? = some S ∧ (S' = (S.1.below n, noted S.2 116 n) ∧ S.1.trim < n ∨ S' = S ∧ ¬ S.1.trim < n) := by
    intro k S' h
    obtain ⟨S, a, rfl⟩ := map_get h
    refine ⟨S, a, ?_⟩
    unfold trimS
    by_cases ht : S.1.trim < n
    · rw [if_pos ⟨ht, hn, hfull S (List.mem_of_getElem? a)⟩]; exact .inl ⟨rfl, ht⟩
    · rw [if_neg (fun hh => ht hh.1)]; exact .inr ⟨rfl, ht⟩
  have hslots : ∀ (k : Nat) (S' : SegM), (L.trimmed n v).segs[k]? = some S' → ∃ S, L.segs[k]? = some S ∧ (∀ x, x ∈ S'.1.slots ↔ x ∈ S.1.slots ∧ n ≤ x.pos) ∧ S'.1.slots.Sublist S.1.slots ∧ S'.1.trim ≤ n := by
    intro k S' h
    obtain ⟨S, a, b⟩ := hS k S' h
    refine ⟨S, a, ?_⟩
    have hst := g.strim k S a
    rcases b with ⟨rfl, ht⟩ | ⟨rfl, ht⟩
    · refine ⟨fun x => ?_, List.filter_sublist, Nat.le_refl _⟩
      simp [SegSt.below]
    · refine ⟨fun x => ⟨fun hx => ⟨hx, ?_⟩, fun hx => hx.1⟩, List.Sublist.refl _, by omega⟩
      have := (g.slot k S' x a hx).1; omega
  refine ⟨wf_trimmed g.wf h2 (by have := hv.len; omega), fun k S' h => ?_, ?_, fun p p1 p2 => ?_, fun k S' x h hx => ?_, fun k S' h => ?_, fun p p1 p2 => g.norm p (by have : n ≤ p := p1; omega) p2, fun k S' h => ?_⟩
  · obtain ⟨S, a, b⟩ := hS k S' h
    obtain ⟨ls, gS⟩ := g.segs k S a
    rcases b with ⟨rfl, ht⟩ | ⟨rfl, _⟩
    · exact ⟨_, gS.below hn ht⟩
    · exact ⟨ls, gS⟩
  · obtain ⟨ols, o⟩ := g.own
    obtain ⟨f1, f2, f3⟩ := fold_take ols { L with own := L.own } L rfl rfl rfl
    have hm : (ols.foldl LogM.take (L.trimmed n v)).m = L.m := by
      have key : ∀ (xs : List OLine) (A B : LogM), A.m = B.m → (xs.foldl LogM.take A).m = (xs.foldl LogM.take B).m := by
        intro xs
        induction xs with
        | nil => exact fun A B h => h
        | cons x xs ih => intro A B h; simp only [List.foldl_cons]; cases x with
          | m ms => exact ih _ _ rfl
          | t pos u => exact ih _ _ h
      rw [key ols (L.trimmed n v) L rfl]; exact o.m
    refine ⟨ols ++ [.t n v], by simp [LogM.trimmed, DiskM.put, o.lines], fun x hx => ?_, by rw [fold_snoc]; exact hm, by rw [fold_snoc]; rfl, by rw [fold_snoc]; exact trimV_idem v, by simp [LogM.trimmed, DiskM.put], by rw [fold_snoc]; have := hv.len; simp [LogM.take, trimV]; omega⟩
    rcases List.mem_append.1 hx with hx | hx
    · exact o.ok x hx
    · simp at hx; subst hx; exact ⟨hn, hv⟩
  · have p1 : n ≤ p := p1
    obtain ⟨S, x, a, b, c, d⟩ := g.has p (by omega) p2
    have ha : L.segs[stripeOf L.m p]? = some S := a
    have hlt := (List.getElem?_eq_some_iff.1 ha).1
    obtain ⟨S', hS'⟩ : ∃ S', (L.trimmed n v).segs[stripeOf L.m p]? = some S' := ⟨_, List.getElem?_eq_getElem (by simp [LogM.trimmed]; exact hlt)⟩
    obtain ⟨S0, a0, q1, q2, q3⟩ := hslots _ S' hS'
    rw [ha] at a0; cases a0
    exact ⟨S', x, hS', by omega, (q1 x).2 ⟨c, by omega⟩, d⟩
  · obtain ⟨S, a, q1, q2, q3⟩ := hslots k S' h
    obtain ⟨w1, w2⟩ := (q1 x).1 hx
    obtain ⟨v1, v2, v3, v4⟩ := g.slot k S x a w1
    exact ⟨w2, v2, v3, v4⟩
  · obtain ⟨S, a, q1, q2, q3⟩ := hslots k S' h
    exact (g.nd k S a).sublist (q2.map _)
  · obtain ⟨S, a, q1, q2, q3⟩ := hslots k S' h
    exact q3

theorem trimmed_lasts (g : Good L rc) {n : Nat} {v : List Int} (h1 : L.trim ≤ n) (h2 : n ≤ L.next) (hv : OkV v) (hn : n ≤ 2147483647) (hfull : ∀ S ∈ L.segs, noteFull S.2 116 n = false) {p : Nat} (p1 : n ≤ p) (p2 : p < L.next) (hl : L.lastsAt p = true) : (L.trimmed n v).lastsAt p = true := by
  have g' := g.trimmed h1 h2 hv hn hfull
  obtain ⟨S', x, a, b, c, d⟩ := g'.has p p1 p2
  obtain ⟨S, x0, a0, b0, c0, d0⟩ := g.has p (by omega) p2
  have ha : L.segs[stripeOf L.m p]? = some S := a0
  have ha' : (L.segs.map (trimS n))[stripeOf L.m p]? = some S' := a
  rw [List.getElem?_map, ha] at ha'
  have e : trimS n S = S' := by simpa using ha'
  rw [g'.lastsOf a c d]
  rw [g.lastsOf a0 c0 d0] at hl
  have hxe : x ∈ S.1.slots := by
    rw [← e] at c
    unfold trimS at c
    split at c
    · exact (List.mem_filter.1 c).1
    · exact c
  have hxx : x = x0 := by
    have f1 := find_mem (g.nd _ S ha) hxe
    have f2 := find_mem (g.nd _ S ha) c0
    rw [d] at f1; rw [d0, f1] at f2; simpa using f2
  subst hxx
  have hl : x.line < S.2.lasts := by simpa using hl
  obtain ⟨ls, gS⟩ := g.segs _ S ha
  have := gS.lasts
  have hle : S.2.lasts ≤ S'.2.lasts := by
    rw [← e]; unfold trimS; split
    · simp [noted]; omega
    · exact Nat.le_refl _
  simp; omega

theorem epoch_app {m : List Span} {x : Span} {p : Nat} (h : p < x.1) : epochOf (m ++ [x]) p = epochOf m p := by
  unfold epochOf
  rw [List.takeWhile_append]
  split
  · rename_i he
    rw [List.takeWhile_cons, if_neg (by simp; omega), List.append_nil]; omega
  · rfl
theorem epoch_pos {m : List Span} (ok : OkM m) (p : Nat) : 1 ≤ epochOf m p ∧ epochOf m p ≤ m.length := by
  unfold epochOf
  have := (List.takeWhile_sublist (fun s : Span => decide (s.1 ≤ p)) (l := m)).length_le
  refine ⟨?_, this⟩
  have h := ok.first
  cases m with
  | nil => simp at h
  | cons x l =>
    have hx : x.1 = 0 := by simpa using h
    rw [List.takeWhile_cons, if_pos (by simp; omega)]; simp
theorem stripe_app {m : List Span} (ok : OkM m) {x : Span} {p : Nat} (h : p < x.1) : stripeOf (m ++ [x]) p = stripeOf m p := by
  unfold stripeOf
  rw [epoch_app h]
  have := epoch_pos ok p
  have e : (m ++ [x]).getD (epochOf m p - 1) (0, 1) = m.getD (epochOf m p - 1) (0, 1) := by
    simp only [List.getD_eq_getElem?_getD]
    rw [List.getElem?_append_left (by omega)]
  rw [e]

theorem Good.resized (g : Good L rc) {n : Nat} (hm : OkM (L.m ++ [(L.next, n)])) (hl : L.m.length ≤ 2147483647) : Good (L.resized n) rc := by
  have hS : ∀ (k : Nat) (S' : SegM), (L.resized n).segs[k]? = some S' → ∃ S, L.segs[k]? = some S ∧ S' = sealS L.m.length S ∧ S'.1.slots = S.1.slots ∧ S'.1.trim = S.1.trim := by
    intro k S' h
    obtain ⟨S, a, rfl⟩ := map_get h
    refine ⟨S, a, rfl, ?_, ?_⟩ <;> (unfold sealS; split <;> rfl)
  refine ⟨wf_resized g.wf hm, fun k S' h => ?_, ?_, fun p p1 p2 => ?_, fun k S' x h hx => ?_, fun k S' h => ?_, g.norm, fun k S' h => ?_⟩
  · obtain ⟨S, a, e, _⟩ := hS k S' h
    obtain ⟨ls, gS⟩ := g.segs k S a
    subst e
    unfold sealS
    split
    · rename_i hc
      unfold sealCode at hc
      split at hc
      · cases hc
      · split at hc
        · cases hc
        · exact ⟨_, gS.sealUp hl (by omega)⟩
    · exact ⟨ls, gS⟩
  · obtain ⟨ols, o⟩ := g.own
    have key : ∀ (xs : List OLine) (A B : LogM), A.trim = B.trim → A.gone = B.gone → (xs.foldl LogM.take A).trim = (xs.foldl LogM.take B).trim ∧ (xs.foldl LogM.take A).gone = (xs.foldl LogM.take B).gone := by
      intro xs
      induction xs with
      | nil => exact fun A B h h' => ⟨h, h'⟩
      | cons x xs ih => intro A B h h'; simp only [List.foldl_cons]; cases x with
        | m ms => exact ih _ _ h h'
        | t pos u => exact ih _ _ rfl rfl
    obtain ⟨k1, k2⟩ := key ols (L.resized n) L rfl rfl
    refine ⟨ols ++ [.m (L.m ++ [(L.next, n)])], by simp [LogM.resized, DiskM.put, o.lines], fun x hx => ?_, by rw [fold_snoc]; rfl, by rw [fold_snoc]; show (ols.foldl LogM.take (L.resized n)).trim = _; rw [k1]; exact o.trim, by rw [fold_snoc]; show trimV (ols.foldl LogM.take (L.resized n)).gone = _; rw [k2]; exact o.gone, by simp [LogM.resized, DiskM.put], by rw [fold_snoc]; show (ols.foldl LogM.take (L.resized n)).gone.length ≤ _; rw [k2]; exact o.glen⟩
    rcases List.mem_append.1 hx with hx | hx
    · exact o.ok x hx
    · simp at hx; subst hx; exact hm
  · obtain ⟨S, x, a, b, c, d⟩ := g.has p p1 p2
    have ha : L.segs[stripeOf L.m p]? = some S := a
    have hlt := (List.getElem?_eq_some_iff.1 ha).1
    obtain ⟨S', hS'⟩ : ∃ S', (L.resized n).segs[stripeOf L.m p]? = some S' := ⟨_, List.getElem?_eq_getElem (by simp [LogM.resized]; exact hlt)⟩
    obtain ⟨S0, a0, _, q1, q2⟩ := hS _ S' hS'
    rw [ha] at a0; cases a0
    have hst : stripeOf (L.resized n).m p = stripeOf L.m p := stripe_app g.wf.m p2
    exact ⟨S', x, by rw [LogM.segAt, hst]; exact hS', by rw [q2]; exact b, by rw [q1]; exact c, d⟩
  · obtain ⟨S, a, _, q1, q2⟩ := hS k S' h
    rw [q1] at hx
    obtain ⟨v1, v2, v3, v4⟩ := g.slot k S x a hx
    exact ⟨v1, v2, by rw [show (L.resized n).m = L.m ++ [(L.next, n)] from rfl, stripe_app g.wf.m v2]; exact v3, v4⟩
  · obtain ⟨S, a, _, q1, q2⟩ := hS k S' h
    rw [q1]; exact g.nd k S a
  · obtain ⟨S, a, _, q1, q2⟩ := hS k S' h
    rw [q2]; exact g.strim k S a

theorem resized_lasts (g : Good L rc) {n : Nat} (hm : OkM (L.m ++ [(L.next, n)])) (hl : L.m.length ≤ 2147483647) {p : Nat} (p1 : L.trim ≤ p) (p2 : p < L.next) (hla : L.lastsAt p = true) : (L.resized n).lastsAt p = true := by
  have g' := g.resized hm hl
  obtain ⟨S, x, a, b, c, d⟩ := g.has p p1 p2
  have ha : L.segs[stripeOf L.m p]? = some S := a
  rw [g.lastsOf a c d] at hla
  have hl' : x.line < S.2.lasts := by simpa using hla
  have hst : stripeOf (L.resized n).m p = stripeOf L.m p := stripe_app g.wf.m p2
  have e : (L.resized n).segAt p = some (sealS L.m.length S) := by
    rw [LogM.segAt, hst]
    show (L.segs.map _)[_]? = _
    rw [List.getElem?_map, ha]; rfl
  have hc' : x ∈ (sealS L.m.length S).1.slots := by unfold sealS; split <;> exact c
  rw [g'.lastsOf e hc' d]
  obtain ⟨ls, gS⟩ := g.segs _ S ha
  have := gS.lasts
  have : S.2.lasts ≤ (sealS L.m.length S).2.lasts := by
    unfold sealS; split
    · simp [noted]; omega
    · exact Nat.le_refl _
  simp; omega
end Go.Ab
