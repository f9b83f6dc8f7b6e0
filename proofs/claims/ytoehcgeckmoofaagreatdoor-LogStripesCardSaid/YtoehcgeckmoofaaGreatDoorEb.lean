/- A segment in plain Lean: its lines replay to what is in memory. -/
import Derived.Test.YtoehcgeckmoofaaGreatDoorEa
set_option linter.unusedVariables false
set_option linter.unusedSimpArgs false
namespace Go.Ab
open Go Go.RowKit Go.Proofs

def SegSt.upto (M : SegSt) (a : Nat) : SegSt := { M with slots := M.slots.filter fun x => decide (x.line < a) }

structure SegGood (S : SegM) (ls : List Line) : Prop where
  lines : S.2.lines = ls.map Line.text
  ok : ∀ L ∈ ls, L.Ok
  rep : replay seg0 0 ls = some S.1
  tail : ∀ (i : Nat) L, S.2.lasts ≤ i → ls[i]? = some L → ∃ p r, L = .p p r
  lasts : S.2.lasts ≤ S.2.lines.length

theorem SegGood.len {S : SegM} {ls : List Line} (g : SegGood S ls) : S.2.lines.length = ls.length := by rw [g.lines]; simp

theorem take_line {L : Line} {M M' : SegSt} {i : Nat} (h : takeS M i L = some M') (hM : ∀ x ∈ M.slots, x.line < i) : ∀ x ∈ M'.slots, x.line < i + 1 := by
  cases L with
  | p pos r =>
    simp only [takeS] at h; split at h <;> cases h
    intro x hx
    rcases List.mem_append.1 hx with hx | hx
    · have := hM x hx; omega
    · simp at hx; subst hx; simp
  | s n => simp only [takeS] at h; split at h <;> cases h; exact fun x hx => by have := hM x hx; omega
  | c n => simp only [takeS] at h; cases h; exact fun x hx => by have := hM x (List.mem_filter.1 hx).1; omega
  | t n => simp only [takeS] at h; split at h <;> cases h; exact fun x hx => by have := hM x (List.mem_filter.1 hx).1; omega

theorem replay_line : ∀ {ls : List Line} {M M' : SegSt} {i : Nat}, replay M i ls = some M' → (∀ x ∈ M.slots, x.line < i) → ∀ x ∈ M'.slots, x.line < i + ls.length
  | [], M, M', i, h, hM => by simp [replay] at h; subst h; simpa using hM
  | L :: ls, M, M', i, h, hM => by
    simp only [replay] at h
    cases h1 : takeS M i L with
    | none => rw [h1] at h; cases h
    | some M1 =>
      rw [h1] at h
      have := replay_line (ls := ls) h (take_line h1 hM)
      intro x hx; have := this x hx; simp; omega

theorem replay_ps : ∀ {ls : List Line} {M M' : SegSt} {i : Nat}, replay M i ls = some M' → (∀ L ∈ ls, ∃ p r, L = Line.p p r) → ∃ adds, M'.slots = M.slots ++ adds ∧ (∀ x ∈ adds, i ≤ x.line) ∧ M'.sealed = M.sealed ∧ M'.trim = M.trim
  | [], M, M', i, h, _ => by simp [replay] at h; subst h; exact ⟨[], by simp, by simp, rfl, rfl⟩
  | L :: ls, M, M', i, h, hp => by
    simp only [replay] at h
    cases h1 : takeS M i L with
    | none => rw [h1] at h; cases h
    | some M1 =>
      rw [h1] at h
      obtain ⟨adds, a1, a2, a3, a4⟩ := replay_ps (ls := ls) h fun L hL => hp L (by simp [hL])
      obtain ⟨p, r, rfl⟩ := hp L (by simp)
      simp only [takeS] at h1; split at h1 <;> cases h1
      refine ⟨⟨p, trimR r, i⟩ :: adds, by rw [a1]; simp [SegSt.add], fun x hx => ?_, a3, a4⟩
      rcases List.mem_cons.1 hx with rfl | hx
      · exact Nat.le_refl _
      · have := a2 x hx; omega

theorem SegGood.line {S : SegM} {ls : List Line} (g : SegGood S ls) : ∀ x ∈ S.1.slots, x.line < S.2.lines.length := by
  intro x hx
  have := replay_line g.rep (by intro x hx; simp [seg0] at hx) x hx
  rw [g.len]; omega

/-- What a fall that lets the first a lines stay lets stay. -/
theorem SegGood.crash {S : SegM} {ls : List Line} (g : SegGood S ls) {a : Nat} (h1 : S.2.lasts ≤ a) (h2 : a ≤ S.2.lines.length) : replay seg0 0 (ls.take a) = some (S.1.upto a) := by
  have hl := g.len
  obtain ⟨MA, hA⟩ := replay_take g.rep a
  have hB := replay_append seg0 0 (ls.take a) (ls.drop a)
  rw [List.take_append_drop, hA, g.rep] at hB
  simp only [Option.bind_some] at hB
  have hta : (ls.take a).length = a := by simp; omega
  rw [hta, Nat.zero_add] at hB
  obtain ⟨adds, a1, a2, a3, a4⟩ := replay_ps hB.symm fun L hL => by
    obtain ⟨i, hi, rfl⟩ := List.mem_iff_getElem.1 hL
    refine g.tail (a + i) _ (by omega) ?_
    rw [List.getElem_drop]
    exact List.getElem?_eq_getElem _
  have hline := replay_line hA (by intro x hx; simp [seg0] at hx)
  rw [hta, Nat.zero_add] at hline
  rw [hA]
  congr 1
  have e1 : S.1.slots.filter (fun x => decide (x.line < a)) = MA.slots := by
    rw [a1, List.filter_append]
    have f1 : MA.slots.filter (fun x => decide (x.line < a)) = MA.slots := by
      rw [List.filter_eq_self]; intro x hx; simpa using hline x hx
    have f2 : adds.filter (fun x => decide (x.line < a)) = [] := by
      rw [List.filter_eq_nil_iff]; intro x hx; have := a2 x hx; simp; omega
    rw [f1, f2, List.append_nil]
  cases MA
  unfold SegSt.upto
  rw [e1]
  simp only at a3 a4
  rw [a3, a4]

theorem replay_snoc {ls : List Line} {M M' : SegSt} {L : Line} (h : replay seg0 0 ls = some M) (h2 : takeS M ls.length L = some M') : replay seg0 0 (ls ++ [L]) = some M' := by
  rw [replay_append, h]
  simp only [Option.bind_some, replay, Nat.zero_add, h2]

theorem SegGood.put {S : SegM} {ls : List Line} (g : SegGood S ls) {p : Nat} {r : Rec} (hp : p ≤ 2147483647) (okr : OkR r) (hn : trimR r = r) (hno : S.1.find p = none) (ht : S.1.trim ≤ p) :
    SegGood (S.1.add ⟨p, r, S.2.lines.length⟩, { S.2 with lines := S.2.lines ++ [(Line.p p r).text] }) (ls ++ [.p p r]) := by
  refine ⟨by simp [g.lines], fun L hL => ?_, replay_snoc g.rep ?_, fun i L hi hL => ?_, by have := g.lasts; simp; omega⟩
  · rcases List.mem_append.1 hL with hL | hL
    · exact g.ok L hL
    · simp at hL; subst hL; exact ⟨hp, okr⟩
  · simp only [takeS, hno, hn]
    simp [ht, ← g.len]
  · rcases Nat.lt_or_ge i ls.length with h | h
    · exact g.tail i L hi (by rwa [List.getElem?_append_left h] at hL)
    · rw [List.getElem?_append_right h] at hL
      have := List.mem_of_getElem? hL
      simp at this; exact ⟨p, r, this⟩

theorem SegGood.note {S : SegM} {ls : List Line} (g : SegGood S ls) {M' : SegSt} {k : UInt8} {n : Nat} {L : Line} (hL : L.text = kindText k n) (ok : L.Ok) (h : takeS S.1 ls.length L = some M') : SegGood (M', noted S.2 k n) (ls ++ [L]) := by
  refine ⟨by simp [noted, g.lines, hL], fun L' hL' => ?_, replay_snoc g.rep h, fun i L' hi hL' => ?_, by simp [noted]⟩
  · rcases List.mem_append.1 hL' with hL' | hL'
    · exact g.ok L' hL'
    · simp at hL'; subst hL'; exact ok
  · have := (List.getElem?_eq_some_iff.1 hL').1
    have hl := g.len
    simp [noted] at hi this; omega
theorem SegGood.cut {S : SegM} {ls : List Line} (g : SegGood S ls) {n : Nat} (hn : n ≤ 2147483647) : SegGood (cutS n S) (ls ++ [.c n]) := g.note rfl hn rfl
theorem SegGood.sealUp {S : SegM} {ls : List Line} (g : SegGood S ls) {n : Nat} (hn : n ≤ 2147483647) (h : S.1.sealed < n) : SegGood (S.1.sealUp n, noted S.2 115 n) (ls ++ [.s n]) := g.note rfl hn (by simp [takeS, h])
theorem SegGood.below {S : SegM} {ls : List Line} (g : SegGood S ls) {n : Nat} (hn : n ≤ 2147483647) (h : S.1.trim < n) : SegGood (S.1.below n, noted S.2 116 n) (ls ++ [.t n]) := g.note rfl hn (by simp [takeS, h])
theorem SegGood.sync {S : SegM} {ls : List Line} (g : SegGood S ls) : SegGood (S.1, { S.2 with lasts := S.2.lines.length }) ls :=
  ⟨g.lines, g.ok, g.rep, fun i L hi hL => by have := (List.getElem?_eq_some_iff.1 hL).1; have := g.len; simp at hi; omega, Nat.le_refl _⟩
/-- Fallen, opened again. -/
theorem SegGood.fell {S : SegM} {ls : List Line} (g : SegGood S ls) {a : Nat} (h1 : S.2.lasts ≤ a) (h2 : a ≤ S.2.lines.length) : SegGood (S.1.upto a, ⟨S.2.room, S.2.lines.take a, a⟩) (ls.take a) := by
  refine ⟨by rw [g.lines, List.map_take], fun L hL => g.ok L (List.mem_of_mem_take hL), g.crash h1 h2, fun i L hi hL => ?_, by simp; omega⟩
  have := (List.getElem?_eq_some_iff.1 hL).1
  simp at hi this; omega

theorem segNew_good (room : Nat) : SegGood (segNew room) [] := ⟨rfl, by simp, rfl, fun i L _ h => by simp at h, by simp [segNew]⟩
end Go.Ab
