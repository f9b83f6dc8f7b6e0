/- The log, in plain Lean: what its functions keep. -/
import Derived.Test.YtoehcgeckmoofaaGreatDoorDw
set_option linter.unusedVariables false
set_option linter.unusedSimpArgs false
namespace Go.Ab
open Go Go.RowKit Go.Proofs

theorem keyBad_k : keyBad [107] = false := by kernel_rfl

def RR (a b : Int) : Rec := ⟨a, b, [], [107], []⟩
theorem checkRR {a b : Int} (h1 : 0 ≤ a) (h2 : a < 8) (h3 : 1 ≤ b) (h4 : b ≤ 1048576) : checkR (RR a b) 8 = 0 := by
  unfold checkR RR
  have hv : checkV [] 8 = 0 := by decide
  have hg : getV [] a = 0 := by unfold getV; split <;> simp
  simp only [hv, hg, keyBad_k]
  rw [if_neg (by omega), if_neg (by simp), if_neg (by omega)]
  simp
theorem keyOkRR (a b : Int) : KeyOk (RR a b) := fun _ c hc => by simp [RR] at hc; subst hc; decide
theorem okRR {a b : Int} (h1 : 0 ≤ a) (h2 : a < 8) (h3 : 1 ≤ b) (h4 : b ≤ 1048576) : OkR (RR a b) := ⟨checkRR h1 h2 h3 h4, keyOkRR a b (checkRR h1 h2 h3 h4)⟩

section
variable {L : LogM}

theorem wf_new {k room : Nat} (h1 : 1 ≤ k) (h2 : k ≤ 8) : (newL k room).WF := by
  refine ⟨rfl, ⟨by simp [newL], rfl, by simp [newL], by simp [newL]; omega, by simp [newL]⟩, fun S hS => ?_, by simp [newL], by simp [newL], by simp [newL]⟩
  have : S = segNew room := by simp [newL] at hS; exact hS
  subst this
  exact ⟨by simp [segNew, seg0], by simp [segNew, seg0]⟩

theorem wf_sync (wf : L.WF) (k : Nat) : (L.sync k).WF := by
  unfold LogM.sync
  cases hS : L.segs[k]? with
  | none => exact wf
  | some S =>
    refine ⟨by simp [wf.segs], wf.m, fun S' hS' => ?_, wf.next, wf.trim, wf.gone⟩
    rcases List.mem_or_eq_of_mem_set hS' with h | h
    · exact wf.ok S' h
    · subst h; exact ⟨(wf.ok S (List.mem_of_getElem? hS)).slot, (wf.ok S (List.mem_of_getElem? hS)).trim⟩

theorem wf_put {pos : Int} {r : Rec} (wf : L.WF) (h : L.putCode pos r = 0) : (L.put r).WF := by
  unfold LogM.putCode at h
  split at h
  · cases h
  · split at h
    · cases h
    · split at h
      · rename_i S hS
        have hS' : L.segs[stripeOf L.m L.next]? = some S := hS
        unfold Go.Ab.putCode at h
        split at h
        · cases h
        · split at h
          · cases h
          · split at h
            · cases h
            · split at h
              · cases h
              · split at h
                · rename_i h1 h2; exact absurd h h2
                · rename_i z1 z2 z3 z4 z5
                  have hc : checkR r 8 = 0 := by simpa using z5
                  obtain ⟨_, o2, o3, _⟩ := okV_of r hc
                  unfold LogM.put
                  rw [hS']
                  refine ⟨by simp [wf.segs], wf.m, fun S' hm => ?_, by simp only; omega, by simp only; have := wf.trim; omega, wf.gone⟩
                  rcases List.mem_or_eq_of_mem_set hm with hm | hm
                  · exact wf.ok S' hm
                  · subst hm
                    have hok := wf.ok S (List.mem_of_getElem? hS')
                    refine ⟨fun x hx => ?_, hok.trim⟩
                    rcases List.mem_append.1 hx with hx | hx
                    · exact hok.slot x hx
                    · simp at hx; subst hx; exact ⟨o2, o3, by simp only; omega⟩
      · cases h

theorem wf_crash (wf : L.WF) (ks : List Nat) (ao : Nat) (hk : ks.length = L.segs.length) : (L.crash ks ao).WF := by
  refine ⟨by simp [LogM.crash, wf.segs, hk], wf.m, fun S hS => ?_, wf.next, wf.trim, wf.gone⟩
  obtain ⟨i, hi, rfl⟩ := List.mem_iff_getElem.1 hS
  simp only [LogM.crash, List.length_zipWith] at hi
  simp only [LogM.crash, List.getElem_zipWith, crashS]
  exact wf.ok _ (List.getElem_mem _)

theorem wf_trimmed (wf : L.WF) {n : Nat} {v : List Int} (h1 : n ≤ L.next) (h2 : v.length ≤ 64) : (L.trimmed n v).WF := by
  refine ⟨by simp [LogM.trimmed, wf.segs], wf.m, fun S hS => ?_, wf.next, h1, h2⟩
  obtain ⟨S0, hS0, rfl⟩ := List.mem_map.1 hS
  have hok := wf.ok S0 hS0
  unfold trimS
  split
  · rename_i h
    exact ⟨fun x hx => hok.slot x (List.mem_filter.1 hx).1, h.2.1⟩
  · exact hok

theorem wf_resized (wf : L.WF) {n : Nat} (h : OkM (L.m ++ [(L.next, n)])) : (L.resized n).WF := by
  refine ⟨by simp [LogM.resized, wf.segs], h, fun S hS => ?_, wf.next, wf.trim, wf.gone⟩
  obtain ⟨S0, hS0, rfl⟩ := List.mem_map.1 hS
  have hok := wf.ok S0 hS0
  unfold sealS
  split
  · exact ⟨hok.slot, hok.trim⟩
  · exact hok

end
end Go.Ab
