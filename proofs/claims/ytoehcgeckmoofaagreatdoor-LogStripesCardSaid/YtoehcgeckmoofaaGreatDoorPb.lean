/- slices.Sort over ints, by the kit's contract. -/
import Derived.Test.YtoehcgeckmoofaaGreatDoorDb
set_option linter.unusedVariables false
set_option linter.unusedSimpArgs false
namespace Go.Ab
open Go Go.RowKit Go.Proofs Go.Sort

def sortI (xs : List Int) : List Int := xs.mergeSort fun x y => decide (x ≤ y)
theorem sortI_len (xs : List Int) : (sortI xs).length = xs.length := by simp [sortI]

theorem below_ahead (w : World) (n : Nat) : Below w.heap.size w (Sort.ahead w n) := ⟨rfl, rfl, rfl, Nat.le_refl _, fun _ _ => rfl⟩

section
variable {w0 : World} {st : St} {Q : Kont} {F : List Prp} {v : AV} {xs : List Int}

theorem c_SortInts (h : Sep st (SlP v 1 (ints xs) :: F)) (hl : xs.length < 2 ^ 40) (hq : ∀ st', Sep st' (SlP v 1 (ints (sortI xs)) :: F) → Q (.tup []) st') : Cal w0 n_slices_Sort_int_int [v] st Q := by
  refine ⟨by kernel_rfl, fun pins ρ w args' hs ha => ?_⟩
  obtain ⟨v1, vs, e1, h1, h2⟩ := ha.cons_inv
  obtain rfl := h2.nil_inv
  obtain rfl : args' = #[v1] := by apply Array.ext'; simpa using e1
  have hnil : ∀ a c, v1 = .slice a 0 c → xs = [] → Calls Tryz.prog n_slices_Sort_int_int #[v1] w (CPost w0 pins ρ Q) := by
    rintro a c rfl rfl
    refine (Tryz.slices_Sort_int_none a c w).mono ?_
    rintro e w' ⟨rfl, rfl⟩
    exact ⟨_, ρ, .tup [], st, rfl, .refl _, hs, VRel.tup_iff.2 .nil, hq st (by simpa [sortI] using h)⟩
  rcases h.ofSl with ⟨rfl, hx, h'⟩ | ⟨b, n, e, cs, rfl, hn, hc, h'⟩
  · cases h1; exact hnil _ _ rfl (by simpa [ints] using hx)
  · have hn : xs.length = n := by simpa [ints] using hn
    subst hn
    rw [Nat.mul_one] at hc
    cases h1 with
    | slice hb hle hcap hex hadr hfit =>
    rename_i rb ro rs a cap'
    by_cases h0 : xs.length = 0
    · have : xs = [] := List.length_eq_zero_iff.1 h0
      exact hnil _ _ (by rw [h0]) this
    · obtain rfl := hadr (by omega)
      obtain ⟨rb', ro', rs', c, elem, hx, hblk, hcs, hsz, hrel, hbase⟩ := hs.rwCells (rwCells_of h'.get)
      rw [hb] at hx; cases hx
      have hlen : xs.length ≤ cs.length := by have := congrArg List.length hc; simp [ints] at this; omega
      have hcell : ∀ j (hj : j < xs.length), c[ro + j]? = some (.int .i64 xs[j]) := by
        intro j hj
        have hr := hrel.at_ j (by omega)
        have e1 : cs.getD j .any = .int .i64 xs[j] := by
          have := congrArg (·[j]?) hc
          simp only [List.getElem?_take, hj, if_true, ints, List.getElem?_map, List.getElem?_eq_getElem hj, Option.map_some] at this
          simp [List.getD, this]
        have e2 : ((c.toList.drop ro).take cs.length).getD j undef = c[ro + j]'(by omega) := by
          simp [List.getD, List.getElem?_take, show j < cs.length by omega, List.getElem?_drop, show ro + j < c.size by omega]
        rw [e1, e2] at hr
        rw [Array.getElem?_eq_getElem (by omega)]
        exact congrArg some hr.int_inv
      have hH : Holds (Value.int .i64) w rb (ro + 0) xs.toArray := by
        intro j hj
        have hj : j < xs.length := by simpa using hj
        have := hcell j hj
        refine ⟨?_, ?_⟩
        · simp only [World.cell?, hblk, Nat.add_zero]
          simp [this, hj]
        · simp [World.frozen?, hblk]
      refine (Tryz.slices_Sort_int rb (ro + 0) cap' xs w hH (hs.dom b _ hb).2 (by omega)).mono ?_
      rintro e w' ⟨rfl, k, os, rfl⟩
      have hs1 := hs.after (below_ahead w k)
      have hblk1 : (Sort.ahead w k).heap[rb]? = some (.cells c elem (0, 0)) := hblk
      have hsl : (sortI xs).length = xs.length := sortI_len xs
      let c' := putCells (Value.int .i64) (ro + 0) (sortI xs).toArray c
      have hat : (putRow (Value.int .i64) (Sort.ahead w k) rb (ro + 0) (sortI xs).toArray).heap[rb]? = some (.cells c' elem (0, 0)) := by
        simp only [putRow, mapBlock, Array.getElem?_modify, if_true, hblk1, Option.map_some, onCells]; rfl
      have honly : Only rb (Sort.ahead w k) (putRow (Value.int .i64) (Sort.ahead w k) rb (ro + 0) (sortI xs).toArray) :=
        ⟨rfl, rfl, rfl, by simp [putRow, mapBlock], fun j hj => by simp only [putRow, mapBlock, Array.getElem?_modify]; rw [if_neg (Ne.symm hj)]⟩
      have hcl : (ints (sortI xs) ++ cs.drop xs.length).length = cs.length := by simp [ints, hsl]; omega
      have hs2 := hs1.upd (k := .cells false cs) (k' := .cells false (ints (sortI xs) ++ cs.drop xs.length)) h'.get rfl hb honly fun _ => by
        refine ⟨c', elem, (0, 0), hat, by rw [hcl]; exact hcs, by simp [c', putCells]; omega, ⟨?_, fun i hi => ?_⟩, fun _ => ⟨hbase, rfl⟩⟩
        · rw [hcl]; simp [c', putCells]; omega
        · rw [hcl] at hi ⊢
          have hsz' : ro + i < c.size := by omega
          have e2 : ((c'.toList.drop ro).take cs.length).getD i undef = c'[ro + i]'(by simp [c', putCells]; omega) := by
            simp [List.getD, List.getElem?_take, hi, List.getElem?_drop, c', putCells, hsz']
          rw [e2]
          simp only [c', putCells, Array.getElem_mapIdx, Nat.add_zero]
          by_cases hin : i < xs.length
          · rw [if_pos ⟨by omega, by simp [hsl]; omega⟩]
            have e3 : (ints (sortI xs) ++ cs.drop xs.length).getD i .any = .int .i64 ((sortI xs)[i]'(by omega)) := by
              simp [List.getD, ints, List.getElem?_append, hsl, hin]
            rw [e3]
            have e4 : (sortI xs).toArray[ro + i - ro]! = (sortI xs)[i]'(by omega) := by
              rw [show ro + i - ro = i by omega]; simp [hsl, hin]
            rw [e4]; exact .int _ _
          · rw [if_neg (fun hh => by have := hh.2; simp [hsl] at this; omega)]
            have hr := hrel.at_ i hi
            have e3 : (ints (sortI xs) ++ cs.drop xs.length).getD i .any = cs.getD i .any := by
              simp only [List.getD, List.getElem?_append, ints_len, hsl, hin, if_false, List.getElem?_drop]
              congr 2; omega
            have e5 : ((c.toList.drop ro).take cs.length).getD i undef = c[ro + i] := by
              simp [List.getD, List.getElem?_take, hi, List.getElem?_drop, hsz']
            rw [e5] at hr
            rw [e3]; exact hr.mono (.refl _)
      refine ⟨_, ρ, .tup [], _, rfl, .refl _, hs2.after ((below_grow _ os).mono (Nat.le_refl _)), VRel.tup_iff.2 .nil, hq _ ?_⟩
      refine Sep.toSl (h'.set _) (by simp [ints, hsl]) ?_
      rw [Nat.mul_one, List.take_append_of_le_length (by simp [ints, hsl])]
      exact List.take_of_length_le (by simp [ints, hsl])
end
end Go.Ab
