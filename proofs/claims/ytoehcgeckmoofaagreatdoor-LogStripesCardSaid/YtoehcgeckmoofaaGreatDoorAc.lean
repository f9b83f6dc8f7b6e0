/- Cells read and written through the relation. -/
import Derived.Test.YtoehcgeckmoofaaGreatDoorAb
set_option linter.unusedVariables false
set_option linter.unusedSimpArgs false
namespace Go.Ab
open Go Go.RowKit

/-- The cells of a block. -/
def St.cells (st : St) (b : Nat) : Option (List AV) :=
  match st.hp[b]? with
  | some (.cells _ cs) => some cs
  | _ => none
def St.rwCells (st : St) (b : Nat) : Option (List AV) :=
  match st.hp[b]? with
  | some (.cells false cs) => some cs
  | _ => none
def St.setB (st : St) (b : Nat) (k : ABlk) : St := { st with hp := st.hp.set b k }
def St.push (st : St) (k : ABlk) : St := { st with hp := st.hp ++ [k] }

theorem St.cells_of {st : St} {b cs} (h : st.cells b = some cs) : ∃ ro, st.hp[b]? = some (.cells ro cs) := by
  unfold St.cells at h; split at h <;> simp_all
theorem St.rwCells_of {st : St} {b cs} (h : st.rwCells b = some cs) : st.hp[b]? = some (.cells false cs) := by
  unfold St.rwCells at h; split at h <;> simp_all

/-- cs with vs written over it from place o on. -/
def writeAt (cs : List AV) (o : Nat) (vs : List AV) : List AV := cs.take o ++ vs ++ cs.drop (o + vs.length)

theorem addr_add (rb ro o i : Nat) : (⟨rb, ro + o, none⟩ : Addr).add i = ⟨rb, ro + o + i, none⟩ := by
  unfold Addr.add; split <;> simp_all

section
variable {w0 : World} {pins : List (Nat × Obj)} {ρ : Ren} {st : St} {w : World} {P : Program}

/-- Where the cells of a live block lie. -/
theorem Sim.cells (h : Sim w0 pins ρ st w) {b cs} (hc : st.cells b = some cs) : ∃ rb ro rs c elem fz, ρ.blk b = some (rb, ro, rs) ∧ w.heap[rb]? = some (.cells c elem fz) ∧ cs.length ≤ rs ∧ ro + rs ≤ c.size ∧
    VRels ρ cs ((c.toList.drop ro).take cs.length) := by
  obtain ⟨r, hr⟩ := St.cells_of hc
  obtain ⟨⟨rb, ro, rs⟩, hx, c, elem, fz, h1, h2, h3, h4, _⟩ := h.blk b _ hr (by simp)
  exact ⟨rb, ro, rs, c, elem, fz, hx, h1, h2, h3, h4⟩

theorem Sim.rwCells (h : Sim w0 pins ρ st w) {b cs} (hc : st.rwCells b = some cs) : ∃ rb ro rs c elem, ρ.blk b = some (rb, ro, rs) ∧ w.heap[rb]? = some (.cells c elem (0, 0)) ∧ cs.length ≤ rs ∧ ro + rs ≤ c.size ∧
    VRels ρ cs ((c.toList.drop ro).take cs.length) ∧ w0.heap.size ≤ rb := by
  obtain ⟨⟨rb, ro, rs⟩, hx, c, elem, fz, h1, h2, h3, h4, h5⟩ := h.blk b _ (St.rwCells_of hc) (by simp)
  obtain ⟨h6, h7⟩ := h5 rfl
  rw [h7] at h1
  exact ⟨rb, ro, rs, c, elem, hx, h1, h2, h3, h4, h6⟩

theorem Sim.cell (h : Sim w0 pins ρ st w) {b cs o v} (hc : st.cells b = some cs) (ho : cs[o]? = some v) {rb ro rs} (hx : ρ.blk b = some (rb, ro, rs)) :
    ∃ u, w.cell? ⟨rb, ro + o, none⟩ = some u ∧ VRel ρ v u := by
  obtain ⟨rb', ro', rs', c, elem, fz, hx', h1, h2, h3, h4⟩ := h.cells hc
  rw [hx] at hx'; cases hx'
  have hol : o < cs.length := (List.getElem?_eq_some_iff.1 ho).1
  have hlt : ro + o < c.size := by omega
  refine ⟨c[ro + o], by simp [World.cell?, h1, hlt], ?_⟩
  have := h4.at_ o hol
  have e1 : cs.getD o .any = v := by simp [List.getD, ho]
  have e2 : ((c.toList.drop ro).take cs.length).getD o undef = c[ro + o] := by
    simp [List.getD, hol, List.getElem?_drop, hlt]
  rw [e1, e2] at this
  exact this

/-- A row of cells is read. -/
theorem Sim.loadCells (h : Sim w0 pins ρ st w) {b cs} (hc : st.cells b = some cs) {rb ro rs} (hx : ρ.blk b = some (rb, ro, rs)) (o n : Nat) (hn : o + n ≤ cs.length) :
    ∃ vs : List Value, (Go.loadCells ⟨rb, ro + o, none⟩ n).run P w = .ok vs.toArray w ∧ VRels ρ ((cs.drop o).take n) vs ∧ vs.length = n := by
  obtain ⟨rb', ro', rs', c, elem, fz, hx', h1, h2, h3, h4⟩ := h.cells hc
  rw [hx] at hx'; cases hx'
  have key : (((c.toList.drop ro).take cs.length).drop o).take n = (c.toList.drop (ro + o)).take n := by
    apply List.ext_getElem?; intro j
    simp only [List.getElem?_take, List.getElem?_drop]
    by_cases hj : j < n
    · have : o + j < cs.length := by omega
      simp [hj, this, Nat.add_assoc]
    · simp [hj]
  have hlen : ((c.toList.drop (ro + o)).take n).length = n := by simp; omega
  refine ⟨(c.toList.drop (ro + o)).take n, ?_, ?_, hlen⟩
  · have := run_loadCells_list (P := P) w ⟨rb, ro + o, none⟩ ((c.toList.drop (ro + o)).take n) (fun j v hj => by
      have hjn : j < n := by
        have := (List.getElem?_eq_some_iff.1 hj).1; rw [hlen] at this; exact this
      rw [addr_add]
      simp only [List.getElem?_take, hjn, if_true, List.getElem?_drop] at hj
      simp only [World.cell?, h1]
      simpa using hj)
    rw [hlen] at this
    exact this
  · rw [← key]; exact (h4.drop o).take n

theorem Only.setRow (w : World) (r : Nat) (c : Array Value) {c0 : Array Value} {e fz} (h : w.heap[r]? = some (.cells c0 e fz)) : Only r w (w.setRow r c) ∧ (w.setRow r c).heap[r]? = some (.cells c e fz) := by
  refine ⟨⟨rfl, rfl, rfl, by simp [World.setRow], fun k hk => ?_⟩, setRow_heap w r c0 c e fz h⟩
  simp only [World.setRow, Array.getElem?_modify]
  rw [if_neg (fun hh => hk hh.symm)]

/-- A row of cells is written. -/
theorem Sim.storeCells (h : Sim w0 pins ρ st w) {b cs} (hc : st.rwCells b = some cs) {rb ro rs} (hx : ρ.blk b = some (rb, ro, rs)) (o : Nat) {as : List AV} {vs : List Value} (hv : VRels ρ as vs)
    (h1 : ∀ v ∈ vs, v.oneCell' = true) (hn : o + as.length ≤ cs.length) :
    ∃ w', (Go.storeCells ⟨rb, ro + o, none⟩ vs).run P w = .ok () w' ∧ Sim w0 pins ρ (st.setB b (.cells false (writeAt cs o as))) w' := by
  obtain ⟨rb', ro', rs', c, elem, hx', g1, g2, g3, g4, g5⟩ := h.rwCells hc
  rw [hx] at hx'; cases hx'
  have hl : as.length = vs.length := hv.len
  have hrun := run_storeCells_at (P := P) rb (ro + o) elem vs 0 c w g1 (by omega) h1
  obtain ⟨hon, hat⟩ := Only.setRow w rb (c.toList.take (ro + o + 0) ++ vs ++ c.toList.drop (ro + o + 0 + vs.length)).toArray g1
  refine ⟨_, hrun, h.upd (St.rwCells_of hc) rfl hx hon (fun _ => ?_)⟩
  have hwl : (writeAt cs o as).length = cs.length := by simp [writeAt]; omega
  refine ⟨_, elem, (0, 0), hat, by rw [hwl]; exact g2, by simp; omega, ?_, fun _ => ⟨g5, rfl⟩⟩
  rw [hwl]
  have e : (((c.toList.take (ro + o + 0) ++ vs ++ c.toList.drop (ro + o + 0 + vs.length)).toArray.toList.drop ro).take cs.length) =
      ((c.toList.drop ro).take cs.length).take o ++ vs ++ ((c.toList.drop ro).take cs.length).drop (o + as.length) := by
    have hlo : (c.toList.take (ro + o)).length = ro + o := by simp; omega
    apply List.ext_getElem?; intro j
    simp only [Nat.add_zero, List.getElem?_take, List.getElem?_drop, List.getElem?_append, List.length_take, List.length_drop, List.length_append, Array.length_toList]
    by_cases hj : j < cs.length
    · by_cases h1' : j < o
      · have : ro + j < ro + o := by omega
        have a1 : ro + j < min (ro + o) c.size := by omega
        have a2 : j < min o (min cs.length (c.size - ro)) := by omega
        simp [hj, h1', a1, a2, Nat.lt_add_right]
      · by_cases h2' : j < o + vs.length
        · have b1 : ¬ ro + j < min (ro + o) c.size := by omega
          have b2 : ro + j < min (ro + o) c.size + vs.length := by omega
          have b3 : ¬ j < min o (min cs.length (c.size - ro)) := by omega
          have b4 : j < min o (min cs.length (c.size - ro)) + vs.length := by omega
          simp only [hj, if_true, b1, b2, b3, b4, if_false]
          congr 1; omega
        · have b2 : ¬ ro + j < min (ro + o) c.size + vs.length := by omega
          have b4 : ¬ j < min o (min cs.length (c.size - ro)) + vs.length := by omega
          simp only [hj, if_true, b2, b4, if_false]
          rw [if_pos (by omega)]
          congr 1; omega
    · have b4 : ¬ j < min o (min cs.length (c.size - ro)) + vs.length := by omega
      have b3 : ¬ (o + as.length + (j - (min o (min cs.length (c.size - ro)) + vs.length)) < cs.length) := by omega
      simp [hj, b4, b3]
  rw [e]
  simp only [writeAt]
  exact (((g4.take o)).append hv).append (g4.drop _)
end

end Go.Ab
