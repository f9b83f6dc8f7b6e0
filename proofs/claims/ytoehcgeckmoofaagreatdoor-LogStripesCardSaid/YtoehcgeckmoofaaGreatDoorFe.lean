/- landaulaw6.LogStripes answers yes. -/
import Derived.Test.YtoehcgeckmoofaaGreatDoorFd
set_option linter.unusedVariables false
set_option linter.unusedSimpArgs false
namespace Go.Ab
open Go Go.RowKit Go.Proofs

theorem bin_rem8 {a b : Nat} (h : b ≠ 0) : bin .int .rem (.int .u8 a) (.int .u8 b) = some (.int .u8 (a % b : Nat)) := by
  simp only [bin]; rw [if_pos ⟨trivial, by omega⟩, tmod_nat]
theorem remU {a b : Nat} {K : Int → Prop} (h : b ≠ 0) (k : K (a % b : Nat)) : OptK (bin .int .rem (.int .u8 a) (.int .u8 b)) fun v => AsInt v K := by
  rw [bin_rem8 h]; exact k

theorem bin_beql {a b : Bool} : bin .bool .eql (.bool a) (.bool b) = some (.bool (a == b)) := rfl
theorem beqP {a b w : Bool} {X Y : Prop} (e : a = b) (h : X) : OptK (bin .bool .eql (.bool a) (.bool b)) (fun v => AsBool (AV.pick true v (.bool w)) fun c => Br (c == true) X Y) := by
  subst e
  rw [bin_beql, OptK_some, pick_t, AsBool_bool]
  refine Br_t (by simp) h

section
variable {w0 : World} {st : St} {Q : Kont} {F : List Prp}

theorem sp_LogStripes {a b w : Nat} (g : Gnd w0) (hs : Sep st F) (ha : a < 256) (hb : b < 256) (hw : w < 256) (hq : ∀ st', Q (.bool true) st') : Cal w0 n_landaulaw6_LogStripes [.int .u8 a, .int .u8 b, .int .u8 w] st Q := by
  refine ok_landaulaw6_LogStripes (a0 := a) (a1 := b) (a2 := w) ?_
  unfold vc_landaulaw6_LogStripes
  refine sp_known g hs fun s h => ?_
  rw [un_not, OptK_some, AsBool_bool]
  refine Br_f (by decide) ?_
  refine remU (b := 8) (by decide) ?_
  refine remU (b := 40) (by decide) ?_
  have e1 : IntKind.i64.wrap (((a % 8 : Nat) : Int)) = (a % 8 : Nat) := wrap_id (by omega) (by omega)
  have e2 : IntKind.i64.wrap (((b % 40 : Nat) : Int)) = (b % 40 : Nat) := wrap_id (by omega) (by omega)
  have e3 : IntKind.i64.wrap (w : Int) = w := wrap_id (by omega) (by omega)
  have e4 : IntKind.i64.wrap (1 + ((a % 8 : Nat) : Int)) = (1 + a % 8 : Nat) := by rw [wrap_id (by omega) (by omega)]; omega
  rw [e1, e2, e3, e4]
  have hk1 : 1 ≤ 1 + a % 8 := by omega
  have hk2 : 1 + a % 8 ≤ 8 := by omega
  have hc : b % 40 < 40 := by omega
  generalize 1 + a % 8 = k at hk1 hk2 ⊢
  generalize b % 40 = c at hc ⊢
  rw [bin_rem_nat (by omega), OptK_some]
  have hwk : w % k < k := Nat.mod_lt _ (by omega)
  generalize w % k = u at hwk ⊢
  refine sp_LNew (k := k) (room := 100000) h g (by omega) (by omega) (by omega) (by omega) fun l s h => ?_
  refine Ext_0 ?_
  refine Ext_1 ?_
  refine Jn_of (fun kk => kk (.bool false) s) ?_ fun kk hkk => newOk hkk
  simp only [AsBool_bool]
  refine Br_f (by decide) ?_
  refine ⟨fun n x s => ∃ (i : Nat) (L : LogM) (rc : Nat → Rec), n = c - i ∧ i ≤ c ∧ x = [.int .i64 k, .int .i64 c, .int .i64 u, .ptr l 0, .int .i64 i] ∧ Fill L rc k 100000 i (fun _ => false) ∧ Sep s (LogP l L :: F), c, ⟨0, _, _, rfl, by omega, rfl, fill_new hk1 hk2, h⟩, ?_⟩
  rintro n x s ⟨i, L, rc, rfl, hi, rfl, f, h⟩
  simp only [List.getD_cons_zero, List.getD_cons_succ]
  rw [bin_lss, OptK_some, AsBool_bool]
  refine Br_iff.2 ⟨fun e => ?_, fun e => ?_⟩
  · have hic : i < c := by simpa using e
    rw [bin_add (by omega) (by omega), OptK_some]
    refine sp_R h fun s h => ?_
    refine kPut g h f.good.wf (f.code hk1 (by omega) (by omega)) fun s h => ?_
    rw [bin_neq, OptK_some, AsBool_bool]
    refine Br_f (by decide) ?_
    rw [OptK_some]
    exact ⟨c - (i + 1), by omega, i + 1, _, _, rfl, by omega, rfl, f.put hk1 (by omega) (by omega), h⟩
  · have hic : i = c := by have : ¬ i < c := by simpa using e
                           omega
    subst hic
    refine ⟨fun n x s => ∃ (j : Nat) (L : LogM), n = 8 - j ∧ j ≤ 8 ∧ x = [.int .i64 k, .int .i64 i, .int .i64 u, .ptr l 0, .int .i64 j] ∧ Fill L rc k 100000 i (fun q => decide (q < j) && !decide (q = u)) ∧ Sep s (LogP l L :: F), 8, ⟨0, L, rfl, by omega, rfl, by simpa using f, h⟩, ?_⟩
    rintro n x s ⟨j, L, rfl, hj, rfl, f, h⟩
    simp only [List.getD_cons_zero, List.getD_cons_succ]
    rw [bin_lss, OptK_some, AsBool_bool]
    refine Br_iff.2 ⟨fun e => ?_, fun e => ?_⟩
    · have hj8 : j < 8 := by
        have : (j : Int) < 8 := by simpa using e
        omega
      refine Jn_of (fun kk => ∀ s' L', Fill L' rc k 100000 i (fun q => decide (q < j + 1) && !decide (q = u)) → Sep s' (LogP l L' :: F) → kk s') (fun s' L' f' h' => ?_) fun kk hkk => ?_
      · rw [bin_inc (by omega), OptK_some]
        exact ⟨8 - (j + 1), by omega, j + 1, L', rfl, by omega, rfl, f', h'⟩
      · rw [bin_neq, OptK_some, AsBool_bool]
        refine Br_iff.2 ⟨fun e => ?_, fun e => ?_⟩
        · have hju : j ≠ u := by
            intro hh; subst hh; simp at e
          have hwt := f.waits hk1 hj8
          have hwt : L.waits j = decide (j < k ∧ j < i) := by rw [hwt]; simp
          refine sp_LSync (k := j) h f.down (by rw [f.good.wf.segs]; omega) (by rw [f.good.wf.segs]; omega) fun s h => ?_
          rw [hwt, bin_lss, OptK_some]
          have f' : Fill (L.sync j) rc k 100000 i (fun q => decide (q < j + 1) && !decide (q = u)) := by
            have := f.sync hk1 j
            have ee : (fun q => decide (q = j) || (decide (q < j) && !decide (q = u))) = fun q => decide (q < j + 1) && !decide (q = u) := by
              funext q
              by_cases h1 : q = j
              · subst h1; simp [hju]
              · have : (q < j + 1) ↔ (q < j) := by omega
                simp [h1, this]
            rw [ee] at this; exact this
          have hk2 := hkk s _ f' h
          rw [Gs_bool_eq]
          refine Br_iff.2 ⟨fun e => ?_, fun e => ?_⟩
          · have e : j < k := by simpa using e
            rw [bin_lss, OptK_some, pick_t, bin_bneq, OptK_some, pick_t, AsBool_bool]
            refine Br_f ?_ hk2
            by_cases h3 : j < i <;> simp [e, h3]
          · have e : ¬ j < k := by simpa using e
            rw [bin_bneq, OptK_some, pick_t, AsBool_bool]
            refine Br_f ?_ hk2
            simp [e]
        · have hju : j = u := by
            have : ((j : Int) = u) := by simpa using e
            omega
          refine hkk s L ?_ h
          have ee : (fun q => decide (q < j) && !decide (q = u)) = fun q => decide (q < j + 1) && !decide (q = u) := by
            funext q
            by_cases h1 : q = u
            · simp [h1]
            · have : (q < j + 1) ↔ (q < j) := by omega
              simp [h1, this]
          rw [← ee]; exact f
    · have hj8 : j = 8 := by
        have : ¬ (j : Int) < 8 := by simpa using e
        omega
      subst hj8
      refine sp_LHead h f.good.wf fun s h => ?_
      have hh : L.head = min u i := f.head (by omega) (fun p hp => by
        have : p % k = p := Nat.mod_eq_of_lt (by omega)
        rw [this]; simp; omega) (fun hm => by
        have : min u i % k = u := by rw [Nat.min_eq_left (by omega)]; exact Nat.mod_eq_of_lt hwk
        rw [this]; simp)
      have hwt : L.waits u = decide (u < i) := by rw [f.waits hk1 (by omega)]; simp [hwk]
      refine sp_LSync (k := u) h f.down (by rw [f.good.wf.segs]; omega) (by rw [f.good.wf.segs]; omega) fun s h => ?_
      have f2 := f.sync hk1 u
      have hmin : minAV [.int .i64 u, .int .i64 i] = some (.int .i64 (min u i : Nat)) := by
        simp only [minAV, if_true]; congr 2; split <;> omega
      rw [hmin, OptK_some]
      refine eq1 (by rw [hh]) ?_
      rw [hwt, bin_lss, OptK_some]
      refine beqP (by simp) ?_
      have hh2 : (L.sync u).head = i := f2.head (Nat.le_refl _) (fun p hp => by
        have : p % k < k := Nat.mod_lt _ (by omega)
        by_cases h1 : p % k = u
        · simp [h1]
        · simp [h1]; omega) (fun hm => by omega)
      refine sp_LHead h f2.good.wf fun s h => ?_
      refine eqP (by rw [hh2]) ?_
      refine sp_LSync (k := u) h f2.down (by rw [f2.good.wf.segs]; omega) (by rw [f2.good.wf.segs]; omega) fun s h => ?_
      have hw2 : (L.sync u).waits u = false := by rw [f2.waits hk1 (by omega)]; simp
      rw [hw2, un_not, OptK_some]
      refine boP (by decide) ?_
      have f3 := f2.sync hk1 u
      refine sp_LNext h ?_
      rw [f3.down, f3.next]
      simp only [Bool.false_eq_true, if_false, bin_eql, OptK_some, pick_t, decide_true]
      exact hq _
end
end Go.Ab
