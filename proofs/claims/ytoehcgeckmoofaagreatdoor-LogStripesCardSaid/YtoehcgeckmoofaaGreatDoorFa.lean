/- The laws' own small functions. -/
import Derived.Test.YtoehcgeckmoofaaGreatDoorEe
import Derived.Test.YtoehcgeckmoofaaGreatDoorVl
set_option linter.unusedVariables false
set_option linter.unusedSimpArgs false
namespace Go.Ab
open Go Go.RowKit Go.Proofs

section
variable {w0 : World} {st : St} {Q : Kont} {F : List Prp} {v u : AV} {xs ys : List Int}

theorem sp_R {a b : Int} (h : Sep st F) (hq : ∀ st', Sep st' F → Q (recAV .nils (RR a b)) st') : Cal w0 n_landaulaw6_R [.int .i64 a, .int .i64 b] st Q := by
  refine ok_landaulaw6_R ?_
  unfold vc_landaulaw6_R
  refine h.new fun c s h => ?_
  refine h.stoA 0 rfl rfl (by simp) fun s2 h => ?_
  have hw : writeAt [.int .i64 0, .int .i64 0, .nils, .str [], .str []] 0 [.int .i64 a, .int .i64 b, .nils, .str [107], .str []] = [.int .i64 a, .int .i64 b, .nils, .str [107], .str []] := rfl
  rw [hw] at h
  refine h.ldA (ws := [.int .i64 a, .int .i64 b, .nils, .str [107], .str []]) 0 rfl rfl rfl ?_
  exact hq _ h.tail

theorem sp_GetR {i : Int} (r : Rd st v 1 (ints xs)) (hq : Q (.int .i64 (getV xs i)) st) : Cal w0 n_landauref5_Get [v, .int .i64 i] st Q := by
  refine ok_landauref5_Get ?_
  unfold vc_landauref5_Get
  refine Jn_of (fun k => k (.bool (decide (i < 0 ∨ (xs.length : Int) ≤ i))) st) ?_ fun k hk => ?_
  · simp only [AsBool_bool]
    refine Br_iff.2 ⟨fun e => ?_, fun e => ?_⟩
    · have e : i < 0 ∨ (xs.length : Int) ≤ i := by simpa using e
      have : getV xs i = 0 := by
        unfold getV; split
        · rfl
        · rw [List.getD_eq_getElem?_getD, List.getElem?_eq_none (by omega)]; rfl
      rw [← this]; exact hq
    · have e : ¬ (i < 0 ∨ (xs.length : Int) ≤ i) := by simpa using e
      obtain ⟨k, rfl⟩ : ∃ k : Nat, i = k := ⟨i.toNat, by omega⟩
      have hk : k < xs.length := by omega
      refine r.at1 (intsAt hk) ?_
      rw [getV_nat, List.getD_eq_getElem?_getD, List.getElem?_eq_getElem hk] at hq; exact hq
  · refine Br_iff.2 ⟨fun e => ?_, fun e => ?_⟩
    · refine r.len (n := xs.length) (by simp [ints]) (by omega) ?_
      have e : ¬ i < 0 := by simpa using e
      simp only [bin, if_true, OptK_some, AV.pick, cond_false]
      have : decide (i < 0 ∨ (xs.length : Int) ≤ i) = decide ((xs.length : Int) ≤ i) := by simp [e]
      rw [← this]; exact hk
    · have e : i < 0 := by simpa using e
      simpa [e] using hk

theorem sp_CoversR (r : Rd st v 1 (ints xs)) (r' : Rd st u 1 (ints ys)) (hx : xs.length < 2 ^ 62) (hy : ys.length < 2 ^ 62) (hq : Q (.bool (coversV xs ys)) st) : Cal w0 n_landauref5_Covers [v, u] st Q := by
  refine ok_landauref5_Covers ?_
  unfold vc_landauref5_Covers
  generalize hm : max xs.length ys.length = m
  have hm62 : m < 2 ^ 62 := by omega
  refine ⟨fun n x s => ∃ k : Nat, n = m - k ∧ k ≤ m ∧ x = [v, u, .int .i64 k] ∧ s = st ∧ (∀ i, i < k → ys.getD i 0 ≤ xs.getD i 0), m, ⟨0, rfl, by omega, rfl, rfl, fun i hi => by omega⟩, ?_⟩
  rintro n x s ⟨k, rfl, hk, rfl, rfl, hall⟩
  simp only [List.getD_cons_zero, List.getD_cons_succ]
  refine Jn_of (fun kk => kk (.bool (decide (k < m))) s) ?_ fun kk hkk => ?_
  · simp only [AsBool_bool]
    refine Br_iff.2 ⟨fun e => ?_, fun e => ?_⟩
    · have hlt : k < m := by simpa using e
      refine sp_GetR r ?_
      refine sp_GetR r' ?_
      simp only [bin, OptK_some, if_true, AsBool_bool, getV_nat]
      refine Br_iff.2 ⟨fun e => ?_, fun e => ?_⟩
      · have e : xs.getD k 0 < ys.getD k 0 := by simpa using e
        have : coversV xs ys = false := by
          unfold coversV; rw [hm]
          simp only [List.all_eq_false, List.mem_range]
          exact ⟨k, hlt, by simp; simpa using e⟩
        rw [← this]; exact hq
      · have e : ys.getD k 0 ≤ xs.getD k 0 := by simpa using e
        refine ⟨m - (k + 1), by omega, k + 1, rfl, by omega, ?_, by trivial, fun i hi => ?_⟩
        · rw [wrap_id (by omega) (by omega)]; congr
        · rcases Nat.lt_or_ge i k with h | h
          · exact hall i h
          · have : i = k := by omega
            rw [this]; exact e
    · have : ¬ k < m := by simpa using e
      have : k = m := by omega
      subst this
      have : coversV xs ys = true := by
        unfold coversV; rw [hm]
        simp only [List.all_eq_true, List.mem_range, decide_eq_true_eq]
        exact hall
      rw [← this]; exact hq
  · refine r.len (n := xs.length) (by simp [ints]) (by omega) ?_
    simp only [bin_lss, OptK_some, AsBool_bool]
    refine Br_iff.2 ⟨fun e => ?_, fun e => ?_⟩
    · have e : ¬ k < xs.length := by simpa using e
      refine r'.len (n := ys.length) (by simp [ints]) (by omega) ?_
      simp only [bin_lss, OptK_some, AV.pick, cond_false]
      have : decide ((k : Int) < (ys.length : Int)) = decide (k < m) := by
        by_cases h : k < ys.length <;> simp [h] <;> omega
      rw [this]; exact hkk
    · have e : k < xs.length := by simpa using e
      have : decide (k < m) = true := by simp; omega
      rw [this] at hkk; exact hkk

theorem sp_SameVec (r : Rd st v 1 (ints xs)) (r' : Rd st u 1 (ints ys)) (hx : xs.length < 2 ^ 62) (hy : ys.length < 2 ^ 62) (hq : Q (.bool (sameV xs ys)) st) : Cal w0 n_landauref5_SameVec [v, u] st Q := by
  refine ok_landauref5_SameVec ?_
  unfold vc_landauref5_SameVec
  refine sp_CoversR r r' hx hy ?_
  simp only [AsBool_bool]
  refine Br_iff.2 ⟨fun e => ?_, fun e => ?_⟩
  · refine sp_CoversR r' r hy hx ?_
    have e : coversV xs ys = true := by simpa using e
    simpa [AV.pick, sameV, e] using hq
  · have e : coversV xs ys = false := by simpa using e
    simpa [sameV, e] using hq
end
end Go.Ab
