/- The log that all laws of it try first. -/
import Derived.Test.YtoehcgeckmoofaaGreatDoorFa
set_option linter.unusedVariables false
set_option linter.unusedSimpArgs false
set_option maxRecDepth 100000
namespace Go.Ab
open Go Go.RowKit Go.Proofs

def K0 : LogM := newL 2 1000
def K1 : LogM := K0.put (RR 0 1)
def K2 : LogM := K1.put (RR 0 2)
def K3 : LogM := K2.put (RR 1 1)
def K4 : LogM := K3.sync 0
def K5 : LogM := K4.crash [2, 0, 0, 0, 0, 0, 0, 0] 0
def K6 : LogM := recL K4 [] [2, 0, 0, 0, 0, 0, 0, 0] 0 1
def K7 : LogM := K6.put (RR 0 2)
def K8 : LogM := K7.sync 1
def K9 : LogM := K8.trimmed 1 [1]
def K10 : LogM := K9.resized 3

theorem k0 : K0.putCode 0 (RR 0 1) = 0 := by kernel_rfl
theorem k1 : K1.putCode 1 (RR 0 2) = 0 := by kernel_rfl
theorem k2 : K2.putCode 2 (RR 1 1) = 0 := by kernel_rfl
theorem k3 : K3.putCode 5 (RR 1 2) = 1 := by kernel_rfl
theorem k3h : K3.head = 0 := by kernel_rfl
theorem k4h : K4.head = 1 := by kernel_rfl
theorem k5 : K5.putCode 1 (RR 0 2) = 11 := by kernel_rfl
theorem k6n : K6.next = 1 := by kernel_rfl
theorem k6 : K6.putCode 1 (RR 0 2) = 0 := by kernel_rfl
theorem k8v : K8.vec = [2] := by kernel_rfl
theorem k8t : K8.trimCode 1 [1] = 0 := by kernel_rfl
theorem k9t : K9.trim = 1 := by kernel_rfl
theorem k9g : K9.gone = [1] := by kernel_rfl
theorem k9h : K9.head = K9.next := by kernel_rfl
theorem k9f : (K9.segs.all fun S => !noteFull S.2 115 K9.m.length) = true := by kernel_rfl
theorem k9o : K9.own.full (OLine.m (K9.m ++ [(K9.next, 3)])).text = false := by kernel_rfl
theorem k10g : K10.getCode 0 = 8 := by kernel_rfl
theorem k10s : lastN K10.m = 3 := by kernel_rfl
theorem k10e : K10.m.length = 2 := by kernel_rfl
theorem k10d : K10.down = false := by kernel_rfl

theorem kRR {a b : Int} (h1 : 0 ≤ a) (h2 : a < 8) (h3 : 1 ≤ b) (h4 : b ≤ 1048576) : trimR (RR a b) = RR a b := rfl
def rc0 : Nat → Rec := fun _ => RR 0 0
theorem k4good : ∃ rc, Good K4 rc := by
  have g0 : Good K0 rc0 := good_new (by omega) (by omega)
  have g1 := g0.put (r := RR 0 1) k0 (keyOkRR _ _) rfl
  have g2 := g1.put (r := RR 0 2) k1 (keyOkRR _ _) rfl
  have g3 := g2.put (r := RR 1 1) k2 (keyOkRR _ _) rfl
  exact ⟨_, g3.sync 0⟩

theorem crash0 {D : DiskM} {a : Nat} (h : CrashAt D 0 a) : a = D.lasts := by
  have h1 := h.lo
  have h2 := h.hi
  have h3 := h.fit
  rcases Nat.lt_or_ge D.lasts a with hl | hl
  · have key : ∀ (xs : List Bytes) (i j : Nat), i < j → j ≤ xs.length → used (xs.take i) < used (xs.take j) := by
      intro xs i j hij hj
      have hm := used_take_succ xs i (by omega)
      have : ∀ k, i + 1 + k ≤ xs.length → used (xs.take (i + 1)) ≤ used (xs.take (i + 1 + k)) := by
        intro k
        induction k with
        | zero => intro _; exact Nat.le_refl _
        | succ k ih => intro hk; have := used_take_succ xs (i + 1 + k) (by omega); have := ih (by omega); have e : i + 1 + (k + 1) = i + 1 + k + 1 := by omega
                       rw [e]; omega
      have h3 := this (j - (i + 1)) (by omega)
      rw [show i + 1 + (j - (i + 1)) = j by omega] at h3
      omega
    have := key D.lines _ _ hl h2
    omega
  · omega

theorem k5falls {kk0 : List Nat} {ao : Nat} (hl : kk0.length = K4.segs.length) (h : ∀ k S a, K4.segs[k]? = some S → kk0[k]? = some a → CrashAt S.2 (([] : List Int).getD k 0) a) (ho : CrashAt K4.own 0 ao) : kk0 = [2, 0, 0, 0, 0, 0, 0, 0] ∧ ao = 0 := by
  have h8 : K4.segs.length = 8 := by kernel_rfl
  have hlast : K4.segs.map (·.2.lasts) = [2, 0, 0, 0, 0, 0, 0, 0] := by kernel_rfl
  refine ⟨?_, (crash0 ho).trans rfl⟩
  rw [← hlast]
  apply List.ext_getElem
  · simp [hl]
  · intro i h1 h2
    have hi : i < K4.segs.length := by omega
    have := h i _ _ (List.getElem?_eq_getElem hi) (List.getElem?_eq_getElem h1)
    rw [List.getD_nil] at this
    rw [crash0 this]; simp

theorem k6nx {nx : Nat} (h2 : ∀ p : Nat, 0 ≤ p → p < nx → (p : Int) ∈ posL (List.zipWith fellS K4.segs [2, 0, 0, 0, 0, 0, 0, 0])) (h3 : (nx : Int) ∉ posL (List.zipWith fellS K4.segs [2, 0, 0, 0, 0, 0, 0, 0])) : nx = 1 := by
  have e : posL (List.zipWith fellS K4.segs [2, 0, 0, 0, 0, 0, 0, 0]) = [0, 2] := by kernel_rfl
  rw [e] at h2 h3
  have a : nx ≠ 0 := by intro hz; subst hz; simp at h3
  have b : ¬ 1 < nx := by intro hz; have := h2 1 (by omega) hz; simp at this
  omega

theorem k5fall : Falls K4 [2, 0, 0, 0, 0, 0, 0, 0] 0 := by
  have h8 : K4.segs.length = 8 := by kernel_rfl
  have hl : (K4.segs.map fun S => (S.2.lasts, S.2.lines.length)) = [(2, 2), (0, 1), (0, 0), (0, 0), (0, 0), (0, 0), (0, 0), (0, 0)] := by kernel_rfl
  refine ⟨by rw [h8]; rfl, fun k S a hS ha => ?_, by constructor <;> exact Nat.le_refl _⟩
  have h1 : (K4.segs.map fun S => (S.2.lasts, S.2.lines.length))[k]? = some (S.2.lasts, S.2.lines.length) := by rw [List.getElem?_map, hS]; rfl
  rw [hl] at h1
  have hk : k < 8 := by have := (List.getElem?_eq_some_iff.1 hS).1; omega
  match k, hk with
  | 0, _ => simp at h1 ha; omega
  | 1, _ => simp at h1 ha; omega
  | 2, _ => simp at h1 ha; omega
  | 3, _ => simp at h1 ha; omega
  | 4, _ => simp at h1 ha; omega
  | 5, _ => simp at h1 ha; omega
  | 6, _ => simp at h1 ha; omega
  | 7, _ => simp at h1 ha; omega

theorem k4own : OwnGood K4 [] := ⟨by kernel_rfl, by simp, rfl, rfl, rfl, by kernel_rfl, Nat.zero_le _⟩

theorem k6good : ∃ rc, Good K6 rc := by
  obtain ⟨rc, g⟩ := k4good
  have ht : K4.trim = 0 := by kernel_rfl
  have e : posL (List.zipWith fellS K4.segs [2, 0, 0, 0, 0, 0, 0, 0]) = [0, 2] := by kernel_rfl
  have hn : K4.next = 3 := by kernel_rfl
  have hp : ∀ p : Nat, K4.trim ≤ p → p < 1 → (p : Int) ∈ posL (List.zipWith fellS K4.segs [2, 0, 0, 0, 0, 0, 0, 0]) := by
    intro p _ hp
    rw [e, show p = 0 by omega]; simp
  have := g.recover (by kernel_rfl) k5fall (by omega) k4own (nx := 1) (by omega) hp (by rw [e]; simp)
  obtain ⟨_, _, _, _, _, _, _, _, _, gg, _⟩ := this
  exact ⟨rc, gg⟩
theorem k8wf : K7.WF ∧ K8.WF := by
  obtain ⟨rc, g⟩ := k6good
  have g7 := g.put (r := RR 0 2) k6 (keyOkRR _ _) rfl
  exact ⟨g7.wf, (g7.sync 1).wf⟩
theorem k9wf : K9.WF := wf_trimmed k8wf.2 (by have : K8.next = 2 := by kernel_rfl
                                              omega) (by simp)
theorem k9m : OkM (K9.m ++ [(K9.next, 3)]) := by
  have e : K9.m ++ [(K9.next, 3)] = [(0, 2), (2, 3)] := by kernel_rfl
  rw [e]
  refine ⟨by simp, rfl, by simp, by simp, by simp⟩
theorem k10wf : K10.WF := wf_resized k9wf k9m
end Go.Ab
