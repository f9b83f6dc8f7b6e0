/- A log in plain Lean: sync, what lasts, falls. -/
import Derived.Test.YtoehcgeckmoofaaGreatDoorEc
set_option linter.unusedVariables false
set_option linter.unusedSimpArgs false
namespace Go.Ab
open Go Go.RowKit Go.Proofs

variable {L : LogM} {rc : Nat → Rec}

theorem Good.lastsOf (g : Good L rc) {p : Nat} {S : SegM} {x : Slot} (hS : L.segAt p = some S) (hx : x ∈ S.1.slots) (hp : x.pos = p) : L.lastsAt p = decide (x.line < S.2.lasts) := by
  have := find_mem (g.nd _ S hS) hx
  rw [hp] at this
  rw [LogM.lastsAt, hS]; simp only; rw [this]

theorem fold_take (xs : List OLine) : ∀ (A B : LogM), A.trim = B.trim → A.m = B.m → A.gone = B.gone → (xs.foldl LogM.take A).trim = (xs.foldl LogM.take B).trim ∧ (xs.foldl LogM.take A).m = (xs.foldl LogM.take B).m ∧ (xs.foldl LogM.take A).gone = (xs.foldl LogM.take B).gone := by
  induction xs with
  | nil => exact fun A B h1 h2 h3 => ⟨h1, h2, h3⟩
  | cons x xs ih =>
    intro A B h1 h2 h3
    simp only [List.foldl_cons]
    cases x with
    | m ms => exact ih _ _ h1 rfl h3
    | t pos v => exact ih _ _ rfl h2 rfl

theorem OwnGood.same {L L' : LogM} {ols : List OLine} (o : OwnGood L ols) (h1 : L'.own = L.own) (h2 : L'.trim = L.trim) (h3 : L'.m = L.m) (h4 : L'.gone = L.gone) : OwnGood L' ols := by
  obtain ⟨f1, f2, f3⟩ := fold_take ols L' L h2 h3 h4
  exact ⟨by rw [h1]; exact o.lines, o.ok, by rw [f2, h3]; exact o.m, by rw [f1, h2]; exact o.trim, by rw [f3, h4]; exact o.gone, by rw [h1]; exact o.lasts, by rw [f3]; exact o.glen⟩

theorem put_lasts (g : Good L rc) {r : Rec} (hc : L.putCode L.next r = 0) (hk : KeyOk r) (hn : trimR r = r) : (∀ p, L.trim ≤ p → p < L.next → (L.put r).lastsAt p = L.lastsAt p) ∧ (L.put r).lastsAt L.next = false := by
  obtain ⟨S, hS⟩ := g.lastSeg
  have g' := g.put hc hk hn
  have hsg := put_segs (r := r) hS
  have hlt := (List.getElem?_eq_some_iff.1 hS).1
  obtain ⟨ls, gS⟩ := g.segs _ S hS
  constructor
  · intro p h1 h2
    obtain ⟨S', x, a, b, c, d⟩ := g.has p h1 h2
    rw [g.lastsOf a c d]
    by_cases hks : stripeOf L.m L.next = stripeOf L.m p
    · have : S' = S := by rw [LogM.segAt, ← hks, hS] at a; simpa using a.symm
      subst this
      have e : (L.put r).segAt p = some (putS S' L.next r) := by
        show (L.put r).segs[stripeOf L.m p]? = _
        rw [hsg, ← hks, List.getElem?_set_self hlt]
      rw [g'.lastsOf e (List.mem_append_left _ c) d]; rfl
    · have e : (L.put r).segAt p = some S' := by
        show (L.put r).segs[stripeOf L.m p]? = _
        rw [hsg, List.getElem?_set_ne hks]; exact a
      rw [g'.lastsOf e c d]
  · have e : (L.put r).segAt L.next = some (putS S L.next r) := by
      show (L.put r).segs[stripeOf L.m L.next]? = _
      rw [hsg, List.getElem?_set_self hlt]
    rw [g'.lastsOf e (x := ⟨L.next, r, S.2.lines.length⟩) (by simp [putS, SegSt.add]) rfl]
    have := gS.lasts
    exact decide_eq_false (by show ¬ S.2.lines.length < S.2.lasts; omega)

theorem sync_get {k : Nat} {j : Nat} {S' : SegM} (h : (L.sync k).segs[j]? = some S') : ∃ S, L.segs[j]? = some S ∧ S'.1 = S.1 ∧ S'.2.lines = S.2.lines ∧ S'.2.room = S.2.room ∧ S'.2.lasts = if j = k then S.2.lines.length else S.2.lasts := by
  unfold LogM.sync at h
  cases hS : L.segs[k]? with
  | none =>
    rw [hS] at h
    refine ⟨S', h, rfl, rfl, rfl, ?_⟩
    rw [if_neg]; rintro rfl; rw [h] at hS; cases hS
  | some S =>
    rw [hS] at h
    simp only [List.getElem?_set] at h
    split at h
    · rename_i he
      subst he
      have hlt := (List.getElem?_eq_some_iff.1 hS).1
      simp only [hlt, if_true, Option.some.injEq] at h
      subst h
      exact ⟨S, hS, rfl, rfl, rfl, by simp⟩
    · rename_i he
      exact ⟨S', h, rfl, rfl, rfl, by rw [if_neg (fun hh => he hh.symm)]⟩
theorem sync_of {k : Nat} {j : Nat} {S : SegM} (h : L.segs[j]? = some S) : ∃ S', (L.sync k).segs[j]? = some S' ∧ S'.1 = S.1 ∧ S'.2.lines = S.2.lines ∧ S'.2.room = S.2.room ∧ S'.2.lasts = if j = k then S.2.lines.length else S.2.lasts := by
  have hl : (L.sync k).segs.length = L.segs.length := by unfold LogM.sync; split <;> simp
  have hlt := (List.getElem?_eq_some_iff.1 h).1
  obtain ⟨S0, h0, r⟩ := sync_get (L := L) (k := k) (j := j) (S' := (L.sync k).segs[j]'(by omega)) (List.getElem?_eq_getElem (by omega))
  rw [h] at h0; cases h0
  exact ⟨_, List.getElem?_eq_getElem (by omega), r⟩
theorem sync_m (L : LogM) (k : Nat) : (L.sync k).m = L.m ∧ (L.sync k).trim = L.trim ∧ (L.sync k).next = L.next ∧ (L.sync k).gone = L.gone ∧ (L.sync k).own = L.own ∧ (L.sync k).down = L.down := by
  unfold LogM.sync; split <;> exact ⟨rfl, rfl, rfl, rfl, rfl, rfl⟩

theorem Good.sync (g : Good L rc) (k : Nat) : Good (L.sync k) rc := by
  obtain ⟨e1, e2, e3, e4, e5, e6⟩ := sync_m L k
  refine ⟨wf_sync g.wf k, fun j S' h => ?_, ?_, fun p h1 h2 => ?_, fun j S' x h hx => ?_, fun j S' h => ?_, fun p h1 h2 => g.norm p (by omega) (by omega), fun j S' h => ?_⟩
  · obtain ⟨S, hS, a, b, c, d⟩ := sync_get h
    obtain ⟨ls, gS⟩ := g.segs j S hS
    by_cases hj : j = k
    · rw [if_pos hj] at d
      refine ⟨ls, ?_⟩
      have := gS.sync
      have e : S' = (S.1, { S.2 with lasts := S.2.lines.length }) := by
        obtain ⟨S1, ⟨r, l, z⟩⟩ := S'
        simp only at a b c d ⊢
        rw [a, b, c, d]
      rw [e]; exact this
    · rw [if_neg hj] at d
      refine ⟨ls, ?_⟩
      have e : S' = S := by
        obtain ⟨S1, ⟨r, l, z⟩⟩ := S'
        obtain ⟨T1, ⟨r', l', z'⟩⟩ := S
        simp only at a b c d ⊢
        rw [a, b, c, d]
      rw [e]; exact gS
  · obtain ⟨ols, o⟩ := g.own
    exact ⟨ols, o.same e5 e2 e1 e4⟩
  · rw [e2] at h1; rw [e3] at h2
    obtain ⟨S, x, a, b, c, d⟩ := g.has p h1 h2
    obtain ⟨S', hS', a', _⟩ := sync_of (k := k) a
    exact ⟨S', x, by rw [LogM.segAt, e1]; exact hS', by rw [a']; exact b, by rw [a']; exact c, d⟩
  · obtain ⟨S, hS, a, _⟩ := sync_get h
    rw [a] at hx
    rw [e1, e2, e3]; exact g.slot j S x hS hx
  · obtain ⟨S, hS, a, _⟩ := sync_get h
    rw [a]; exact g.nd j S hS
  · obtain ⟨S, hS, a, _⟩ := sync_get h
    rw [a, e2]; exact g.strim j S hS

theorem sync_lasts (g : Good L rc) (k : Nat) {p : Nat} (h1 : L.trim ≤ p) (h2 : p < L.next) : (L.sync k).lastsAt p = (decide (stripeOf L.m p = k) || L.lastsAt p) := by
  obtain ⟨S, x, a, b, c, d⟩ := g.has p h1 h2
  obtain ⟨S', hS', a', b', c', d'⟩ := sync_of (k := k) a
  have g' := g.sync k
  have e : (L.sync k).segAt p = some S' := by rw [LogM.segAt, (sync_m L k).1]; exact hS'
  rw [g'.lastsOf e (by rw [a']; exact c) d, g.lastsOf a c d, d']
  obtain ⟨ls, gS⟩ := g.segs _ S a
  by_cases hk : stripeOf L.m p = k
  · rw [if_pos hk]; have := gS.line x c; simp [hk, this]
  · rw [if_neg hk]; simp [hk]

/-! ### A fall, and behind it -/
def fellS (S : SegM) (a : Nat) : SegM := (S.1.upto a, ⟨S.2.room, S.2.lines.take a, a⟩)
def uptos (segs : List SegM) (ks : List Nat) : List SegSt := List.zipWith (fun S a => S.1.upto a) segs ks

theorem crash_re (segs : List SegM) : ∀ ks : List Nat, List.zipWith reS (List.zipWith crashS segs ks) (uptos segs ks) = List.zipWith fellS segs ks := by
  induction segs with
  | nil => intro ks; simp [uptos]
  | cons S segs ih =>
    intro ks
    cases ks with
    | nil => simp [uptos]
    | cons a ks =>
      have := ih ks
      simp only [uptos, List.zipWith_cons_cons] at this ⊢
      rw [this]; rfl

structure Falls (L : LogM) (ks : List Nat) (ao : Nat) : Prop where
  len : ks.length = L.segs.length
  seg : ∀ (k : Nat) (S : SegM) (a : Nat), L.segs[k]? = some S → ks[k]? = some a → S.2.lasts ≤ a ∧ a ≤ S.2.lines.length
  own : L.own.lasts ≤ ao ∧ ao ≤ L.own.lines.length

theorem falls_of {ks : List Nat} {ao : Nat} {keep : List Int} (h : ks.length = L.segs.length) (h1 : ∀ (k : Nat) (S : SegM) (a : Nat), L.segs[k]? = some S → ks[k]? = some a → CrashAt S.2 (keep.getD k 0) a) (h2 : CrashAt L.own 0 ao) : Falls L ks ao :=
  ⟨h, fun k S a hS ha => ⟨(h1 k S a hS ha).lo, (h1 k S a hS ha).hi⟩, h2.lo, h2.hi⟩

theorem fell_get {ks : List Nat} {k : Nat} {S' : SegM} (h : (List.zipWith fellS L.segs ks)[k]? = some S') : ∃ S a, L.segs[k]? = some S ∧ ks[k]? = some a ∧ S' = fellS S a := by
  rw [List.getElem?_zipWith] at h
  cases hS : L.segs[k]? with
  | none => rw [hS] at h; simp at h
  | some S =>
    cases ha : ks[k]? with
    | none => rw [hS, ha] at h; simp at h
    | some a => rw [hS, ha] at h; exact ⟨S, a, rfl, rfl, by simpa using h.symm⟩

theorem mem_posL {segs : List SegM} {p : Int} : p ∈ posL segs ↔ ∃ (k : Nat) (S : SegM) (x : Slot), segs[k]? = some S ∧ x ∈ S.1.slots ∧ (x.pos : Int) = p := by
  rw [posL, List.mem_flatMap]
  constructor
  · rintro ⟨S, hS, hp⟩
    obtain ⟨x, hx, e⟩ := List.mem_map.1 hp
    obtain ⟨k, hk, rfl⟩ := List.mem_iff_getElem.1 hS
    exact ⟨k, _, x, List.getElem?_eq_getElem hk, hx, e⟩
  · rintro ⟨k, S, x, hS, hx, e⟩
    exact ⟨S, List.mem_of_getElem? hS, List.mem_map.2 ⟨x, hx, e⟩⟩

/-- What a log that fell finds. -/
theorem Good.comes (g : Good L rc) {ks : List Nat} {ao : Nat} (hf : Falls L ks ao) : ∀ (k : Nat) (S : SegM) (M : SegSt), (L.crash ks ao).segs[k]? = some S → (uptos L.segs ks)[k]? = some M → Comes S M := by
  intro k S M hS hM
  simp only [LogM.crash, List.getElem?_zipWith] at hS
  simp only [uptos, List.getElem?_zipWith] at hM
  cases hS0 : L.segs[k]? with
  | none => rw [hS0] at hS; simp at hS
  | some S0 =>
    cases ha : ks[k]? with
    | none => rw [hS0, ha] at hS; simp at hS
    | some a =>
      rw [hS0, ha] at hS hM
      simp only [Option.some.injEq] at hS hM
      obtain ⟨ls, gS⟩ := g.segs k S0 hS0
      obtain ⟨b1, b2⟩ := hf.seg k S0 a hS0 ha
      refine ⟨ls.take a, ?_, fun L hL => gS.ok L (List.mem_of_mem_take hL), ?_⟩
      · rw [← hS]; simp [crashS, gS.lines, List.map_take]
      · rw [← hM]; exact gS.crash b1 b2

theorem noteFull_cut {D : DiskM} {n : Nat} (h : used D.lines + 13 ≤ D.room) (hn : n ≤ 2147483647) (k : UInt8) : noteFull D k n = false := by
  have := itoa_len10 n hn
  have h2 : (kindText k n).length = (Lib.itoa n).length + 2 := by simp [kindText]
  unfold noteFull
  exact decide_eq_false (by omega)

/-- The log that goes on. -/
def recL (L : LogM) (ols : List OLine) (ks : List Nat) (ao nx : Nat) : LogM :=
  { (ols.foldl LogM.take (L.crash ks ao)) with segs := if (posL (List.zipWith fellS L.segs ks)).any (fun p => decide ((nx : Int) ≤ p)) then (List.zipWith fellS L.segs ks).map (cutS nx) else List.zipWith fellS L.segs ks, next := nx, down := false }

theorem rec_get {ols : List OLine} {ks : List Nat} {ao nx k : Nat} {S' : SegM} (h : (recL L ols ks ao nx).segs[k]? = some S') : ∃ S a, L.segs[k]? = some S ∧ ks[k]? = some a ∧
    (S' = fellS S a ∧ (∀ x ∈ (fellS S a).1.slots, x.pos < nx) ∨ S' = cutS nx (fellS S a)) := by
  simp only [recL] at h
  split at h
  · rw [List.getElem?_map, Option.map_eq_some_iff] at h
    obtain ⟨S1, h1, rfl⟩ := h
    obtain ⟨S, a, hS, ha, rfl⟩ := fell_get h1
    exact ⟨S, a, hS, ha, .inr rfl⟩
  · rename_i hany
    obtain ⟨S, a, hS, ha, rfl⟩ := fell_get h
    refine ⟨S, a, hS, ha, .inl ⟨rfl, fun x hx => ?_⟩⟩
    rcases Nat.lt_or_ge x.pos nx with h' | h'
    · exact h'
    · exfalso; apply hany
      rw [List.any_eq_true]
      exact ⟨x.pos, mem_posL.2 ⟨k, _, x, h, hx, rfl⟩, by simp; omega⟩

/-- What is in a segment behind a fall. -/
theorem rec_slots {ols : List OLine} {ks : List Nat} {ao nx k : Nat} {S' : SegM} (hf : Falls L ks ao) (hnx : nx ≤ 2147483647) (h : (recL L ols ks ao nx).segs[k]? = some S') : ∃ S a, L.segs[k]? = some S ∧ ks[k]? = some a ∧ (∀ x, x ∈ S'.1.slots ↔ x ∈ S.1.slots ∧ x.line < a ∧ x.pos < nx) ∧ S'.1.slots.Sublist S.1.slots ∧
    S'.1.trim = S.1.trim ∧ S'.1.sealed = S.1.sealed ∧ S'.2.room = S.2.room ∧ used S'.2.lines ≤ used S.2.lines + 13 ∧ S'.2.lasts = S'.2.lines.length ∧ (∀ ls, SegGood S ls → ∃ ls', SegGood S' ls') := by
  obtain ⟨S, a, hS, ha, h⟩ := rec_get h
  obtain ⟨b1, b2⟩ := hf.seg k S a hS ha
  have hu := used_take_le S.2.lines a
  have hl := itoa_len10 nx hnx
  refine ⟨S, a, hS, ha, ?_⟩
  rcases h with ⟨rfl, hp⟩ | rfl
  · refine ⟨fun x => ?_, List.filter_sublist, rfl, rfl, rfl, by simp [fellS]; omega, by simp [fellS]; omega, fun ls g => ⟨_, g.fell b1 b2⟩⟩
    constructor
    · intro hx
      have := hp x hx
      simp only [fellS, SegSt.upto, List.mem_filter, decide_eq_true_eq] at hx
      exact ⟨hx.1, hx.2, this⟩
    · rintro ⟨h1, h2, _⟩
      simp only [fellS, SegSt.upto, List.mem_filter, decide_eq_true_eq]; exact ⟨h1, h2⟩
  · refine ⟨fun x => ?_, List.filter_sublist.trans List.filter_sublist, rfl, rfl, rfl, ?_, by simp [cutS, noted, fellS], fun ls g => ⟨_, (g.fell b1 b2).cut hnx⟩⟩
    · simp only [cutS, fellS, SegSt.cut, SegSt.upto, List.mem_filter, decide_eq_true_eq, Bool.not_eq_true', decide_eq_false_iff_not]
      constructor
      · rintro ⟨⟨h1, h2⟩, h3⟩; exact ⟨h1, h2, by omega⟩
      · rintro ⟨h1, h2, h3⟩; exact ⟨⟨h1, h2⟩, by omega⟩
    · show used (S.2.lines.take a ++ [kindText 99 nx]) ≤ _
      rw [used_append]
      simp [Go.Ab.used, kindText] at hu ⊢; omega

theorem rec_len {ols : List OLine} {ks : List Nat} {ao nx : Nat} (hf : Falls L ks ao) : (recL L ols ks ao nx).segs.length = L.segs.length := by
  simp only [recL]; split <;> simp [hf.len]

/-- **A FALL.** Up to where all is there it goes on, and all of it lasts. -/
theorem Good.recover (g : Good L rc) (hd : L.down = false) {ks : List Nat} {ao : Nat} (hf : Falls L ks ao) (hn31 : L.next ≤ 2147483647) {ols : List OLine} (ho : OwnGood L ols) {nx : Nat} (h1 : L.trim ≤ nx)
    (h2 : ∀ p : Nat, L.trim ≤ p → p < nx → (p : Int) ∈ posL (List.zipWith fellS L.segs ks)) (h3 : (nx : Int) ∉ posL (List.zipWith fellS L.segs ks)) :
    nx ≤ L.next ∧ L.head ≤ nx ∧ (∀ S x, L.segAt nx = some S → x ∈ S.1.slots → x.pos = nx → ∃ a, ks[stripeOf L.m nx]? = some a ∧ a ≤ x.line) ∧
    (recL L ols ks ao nx).m = L.m ∧ (recL L ols ks ao nx).trim = L.trim ∧ trimV (recL L ols ks ao nx).gone = trimV L.gone ∧ (recL L ols ks ao nx).next = nx ∧ (recL L ols ks ao nx).down = false ∧ (recL L ols ks ao nx).own = L.own ∧
    Good (recL L ols ks ao nx) rc ∧ (∀ p, L.trim ≤ p → p < nx → (recL L ols ks ao nx).lastsAt p = true) := by
  obtain ⟨c1, c2⟩ := hf.own
  have hao : ao = L.own.lines.length := by have := ho.lasts; omega
  have hcr : (L.crash ks ao).trim = L.trim ∧ (L.crash ks ao).m = L.m ∧ (L.crash ks ao).gone = L.gone := ⟨rfl, rfl, rfl⟩
  obtain ⟨f1, f2, f3⟩ := fold_take ols (L.crash ks ao) L rfl rfl rfl
  obtain ⟨z1, z2, z3, z4⟩ := takes_segs ols (L.crash ks ao)
  have em : (recL L ols ks ao nx).m = L.m := by show (ols.foldl LogM.take (L.crash ks ao)).m = _; rw [f2]; exact ho.m
  have et : (recL L ols ks ao nx).trim = L.trim := by show (ols.foldl LogM.take (L.crash ks ao)).trim = _; rw [f1]; exact ho.trim
  have eg : trimV (recL L ols ks ao nx).gone = trimV L.gone := by show trimV (ols.foldl LogM.take (L.crash ks ao)).gone = _; rw [f3]; exact ho.gone
  have egl : (recL L ols ks ao nx).gone.length ≤ 64 := by show (ols.foldl LogM.take (L.crash ks ao)).gone.length ≤ _; rw [f3]; exact ho.glen
  have eo : (recL L ols ks ao nx).own = L.own := by
    show (ols.foldl LogM.take (L.crash ks ao)).own = _
    rw [z2]
    show (⟨L.own.room, L.own.lines.take ao, ao⟩ : DiskM) = L.own
    rw [hao, List.take_length]
    have := ho.lasts
    cases hown : L.own; rw [hown] at this; simp only at this ⊢; rw [this]
  have hpos : ∀ p : Nat, (p : Int) ∈ posL (List.zipWith fellS L.segs ks) → L.trim ≤ p ∧ p < L.next ∧ ∃ S x a, L.segAt p = some S ∧ ks[stripeOf L.m p]? = some a ∧ x ∈ S.1.slots ∧ x.pos = p ∧ x.line < a := by
    intro p hp
    obtain ⟨k, S', x, hS', hx, e⟩ := mem_posL.1 hp
    obtain ⟨S, a, hS, ha, rfl⟩ := fell_get hS'
    simp only [fellS, SegSt.upto, List.mem_filter, decide_eq_true_eq] at hx
    obtain ⟨y1, y2, y3, _⟩ := g.slot k S x hS hx.1
    have e : x.pos = p := by omega
    rw [e] at y1 y2 y3
    exact ⟨y1, y2, S, x, a, by rw [LogM.segAt, y3]; exact hS, by rw [y3]; exact ha, hx.1, e, hx.2⟩
  have hnle : nx ≤ L.next := by
    rcases Nat.lt_or_ge L.next nx with h | h
    · have := (hpos L.next (h2 L.next g.wf.trim h)).2.1; omega
    · exact h
  have hnot : ∀ S x, L.segAt nx = some S → x ∈ S.1.slots → x.pos = nx → ∃ a, ks[stripeOf L.m nx]? = some a ∧ a ≤ x.line := by
    intro S x hS hx hp
    have h8 := g.stripe8 nx
    have hl := hf.len
    have h88 := g.wf.segs
    obtain ⟨a, ha⟩ : ∃ a, ks[stripeOf L.m nx]? = some a := ⟨ks[stripeOf L.m nx]'(by omega), List.getElem?_eq_getElem (by omega)⟩
    refine ⟨a, ha, ?_⟩
    rcases Nat.lt_or_ge x.line a with h | h
    · exfalso; apply h3
      refine mem_posL.2 ⟨stripeOf L.m nx, fellS S a, x, ?_, ?_, by rw [hp]⟩
      · have hS' : L.segs[stripeOf L.m nx]? = some S := hS
        rw [List.getElem?_zipWith, hS', ha]
      · simp only [fellS, SegSt.upto, List.mem_filter, decide_eq_true_eq]; exact ⟨hx, h⟩
    · exact h
  have hhead : L.head ≤ nx := by
    obtain ⟨s1, s2, s3, s4⟩ := head_spec g.wf hd
    rcases Nat.lt_or_ge nx L.head with h | h
    · have hl := s3 nx h1 h
      obtain ⟨S, x, a, b, c, d⟩ := g.has nx h1 (by omega)
      rw [g.lastsOf a c d] at hl
      have hl : x.line < S.2.lasts := by simpa using hl
      obtain ⟨a', ha', hle⟩ := hnot S x a c d
      have := (hf.seg _ S a' a ha').1
      omega
    · exact h
  have hnx31 : nx ≤ 2147483647 := by omega
  have good : Good (recL L ols ks ao nx) rc := by
    refine ⟨⟨by rw [rec_len hf]; exact g.wf.segs, by rw [em]; exact g.wf.m, fun S' hS' => ?_, by show nx ≤ _; omega, by rw [et]; exact h1, egl⟩, fun k S' h => ?_, ⟨ols, ?_⟩, fun p p1 p2 => ?_, fun k S' x h hx => ?_, fun k S' h => ?_, fun p p1 p2 => g.norm p (by omega) (by have : p < nx := p2; omega), fun k S' h => ?_⟩
    · obtain ⟨k, hk, e⟩ := List.mem_iff_getElem.1 hS'
      obtain ⟨S, a, hS, ha, q1, q2, q3, _⟩ := rec_slots (k := k) (S' := S') (ols := ols) hf hnx31 (by rw [← e]; exact List.getElem?_eq_getElem hk)
      have hok := g.wf.ok S (List.mem_of_getElem? hS)
      exact ⟨fun x hx => hok.slot x ((q1 x).1 hx).1, by rw [q3]; exact hok.trim⟩
    · obtain ⟨S, a, hS, ha, q1, q2, q3, q4, q5, q6, q7, q8⟩ := rec_slots hf hnx31 h
      obtain ⟨ls, gS⟩ := g.segs k S hS
      exact q8 ls gS
    · obtain ⟨g1, g2, g3⟩ := fold_take ols (recL L ols ks ao nx) (ols.foldl LogM.take (L.crash ks ao)) rfl rfl rfl
      have idem : ∀ (A : LogM), (ols.foldl LogM.take (ols.foldl LogM.take A)).trim = (ols.foldl LogM.take A).trim ∧ (ols.foldl LogM.take (ols.foldl LogM.take A)).m = (ols.foldl LogM.take A).m ∧ (ols.foldl LogM.take (ols.foldl LogM.take A)).gone = (ols.foldl LogM.take A).gone := by
        have key : ∀ (xs : List OLine) (A B : LogM), ((xs.foldl LogM.take A).trim = (xs.foldl LogM.take B).trim ∨ ((xs.foldl LogM.take A).trim = A.trim ∧ (xs.foldl LogM.take B).trim = B.trim ∧ (xs.foldl LogM.take A).gone = A.gone ∧ (xs.foldl LogM.take B).gone = B.gone)) ∧
            ((xs.foldl LogM.take A).gone = (xs.foldl LogM.take B).gone ∨ ((xs.foldl LogM.take A).gone = A.gone ∧ (xs.foldl LogM.take B).gone = B.gone)) ∧
            ((xs.foldl LogM.take A).m = (xs.foldl LogM.take B).m ∨ ((xs.foldl LogM.take A).m = A.m ∧ (xs.foldl LogM.take B).m = B.m)) := by
          intro xs
          induction xs with
          | nil => exact fun A B => ⟨.inr ⟨rfl, rfl, rfl, rfl⟩, .inr ⟨rfl, rfl⟩, .inr ⟨rfl, rfl⟩⟩
          | cons x xs ih =>
            intro A B
            simp only [List.foldl_cons]
            cases x with
            | m ms =>
              obtain ⟨i1, i2, i3⟩ := ih (A.take (.m ms)) (B.take (.m ms))
              refine ⟨i1, i2, ?_⟩
              rcases i3 with i3 | ⟨i3, i4⟩
              · exact .inl i3
              · exact .inl (i3.trans i4.symm)
            | t pos v =>
              obtain ⟨i1, i2, i3⟩ := ih (A.take (.t pos v)) (B.take (.t pos v))
              refine ⟨?_, ?_, i3⟩
              · rcases i1 with i1 | ⟨i1, i2, _, _⟩
                · exact .inl i1
                · exact .inl (i1.trans i2.symm)
              · rcases i2 with i2 | ⟨i2, i3⟩
                · exact .inl i2
                · exact .inl (i2.trans i3.symm)
        intro A
        obtain ⟨i1, i2, i3⟩ := key ols (ols.foldl LogM.take A) A
        refine ⟨?_, ?_, ?_⟩
        · rcases i1 with i1 | ⟨i1, _⟩ <;> exact i1
        · rcases i3 with i3 | ⟨i3, _⟩ <;> exact i3
        · rcases i2 with i2 | ⟨i2, _⟩ <;> exact i2
      obtain ⟨d1, d2, d3⟩ := idem (L.crash ks ao)
      exact ⟨by rw [eo]; exact ho.lines, ho.ok, by rw [g2, d2]; rfl, by rw [g1, d1]; rfl, by rw [g3, d3]; rfl, by rw [eo]; exact ho.lasts, by rw [g3, d3]; exact egl⟩
    · rw [et] at p1
      have p2 : p < nx := p2
      obtain ⟨y1, y2, S, x, a, hS, ha, hx, hp, hline⟩ := hpos p (h2 p p1 p2)
      have hS' : L.segs[stripeOf L.m p]? = some S := hS
      have hlt := (List.getElem?_eq_some_iff.1 hS').1
      obtain ⟨S', hS2⟩ : ∃ S', (recL L ols ks ao nx).segs[stripeOf L.m p]? = some S' := ⟨_, List.getElem?_eq_getElem (by rw [rec_len hf]; exact hlt)⟩
      obtain ⟨S0, a0, hS0, ha0, q1, q2, q3, _⟩ := rec_slots hf hnx31 hS2
      rw [hS'] at hS0; cases hS0
      rw [ha] at ha0; cases ha0
      obtain ⟨S1, x1, w1, w2, w3, w4⟩ := g.has p p1 y2
      rw [hS] at w1; cases w1
      exact ⟨S', x, by rw [LogM.segAt, em]; exact hS2, by rw [q3]; exact w2, (q1 x).2 ⟨hx, hline, by omega⟩, hp⟩
    · obtain ⟨S, a, hS, ha, q1, _⟩ := rec_slots hf hnx31 h
      obtain ⟨w1, w2, w3⟩ := (q1 x).1 hx
      obtain ⟨v1, v2, v3, v4⟩ := g.slot k S x hS w1
      exact ⟨by rw [et]; exact v1, w3, by rw [em]; exact v3, v4⟩
    · obtain ⟨S, a, hS, ha, q1, q2, _⟩ := rec_slots hf hnx31 h
      exact (g.nd k S hS).sublist (q2.map _)
    · obtain ⟨S, a, hS, ha, q1, q2, q3, _⟩ := rec_slots hf hnx31 h
      rw [q3, et]; exact g.strim k S hS
  refine ⟨hnle, hhead, hnot, em, et, eg, rfl, rfl, eo, good, fun p p1 p2 => ?_⟩
  obtain ⟨S', x, w1, w2, w3, w4⟩ := good.has p (by rw [et]; exact p1) p2
  rw [good.lastsOf w1 w3 w4]
  obtain ⟨S, a, hS, ha, q1, q2, q3, q4, q5, q6, q7, q8⟩ := rec_slots hf hnx31 w1
  obtain ⟨ls, gS⟩ := good.segs _ S' w1
  have := gS.line x w3
  rw [q7]; simp; omega
end Go.Ab
