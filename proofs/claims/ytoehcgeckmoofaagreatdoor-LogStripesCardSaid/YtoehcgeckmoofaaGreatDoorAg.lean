/- The operations that call nobody: aggregates, addresses, slices, maps; and all of them together. -/
import Derived.Test.YtoehcgeckmoofaaGreatDoorAf
set_option linter.unusedVariables false
set_option linter.unusedSimpArgs false
namespace Go.Ab
open Go Go.RowKit

section
variable {P : Program} {w0 : World} {pins : List (Nat × Obj)} {ρ : Ren} {st : St} {w : World} {K : Kont}

/-! ### Aggregates -/
theorem foldl_set_toList (vs : List Value) : ∀ (o : Nat) (cs : Array Value), o + vs.length ≤ cs.size →
    ((vs.zipIdx o).foldl (fun cs (x : Value × Nat) => cs.setIfInBounds x.2 x.1) cs).toList = cs.toList.take o ++ vs ++ cs.toList.drop (o + vs.length) := by
  induction vs with
  | nil => intro o cs h; simp
  | cons v vs ih =>
    intro o cs h
    simp only [List.length_cons] at h
    simp only [List.zipIdx_cons, List.foldl_cons]
    rw [ih (o + 1) _ (by simp; omega)]
    simp only [Array.toList_setIfInBounds, List.length_cons]
    have h1 : (cs.toList.set o v).take (o + 1) = cs.toList.take o ++ [v] := by
      apply List.ext_getElem?; intro j
      simp only [List.getElem?_take, List.getElem?_set, List.getElem?_append, List.length_take, Array.length_toList]
      by_cases hj : j < o
      · have : ¬ o = j := by omega
        have h3 : j < min o cs.size := by omega
        simp [hj, this, h3, Nat.lt_succ_of_lt hj]
      · by_cases hj2 : j = o
        · subst hj2
          have : ¬ j < min j cs.size := by omega
          have h4 : j < cs.size := by omega
          have h5 : min j cs.size = j := by omega
          simp [this, h4, h5]
        · have : ¬ j < o + 1 := by omega
          have h3 : ¬ j < min o cs.size := by omega
          have h5 : 0 < j - min o cs.size := by omega
          simp [this, h3]
          omega
    have h2 : (cs.toList.set o v).drop (o + 1 + vs.length) = cs.toList.drop (o + (vs.length + 1)) := by
      rw [List.drop_set_of_lt (by omega)]; congr 1; omega
    rw [h1, h2]; simp

theorem fill_rel {place : Nat → Option (Nat × Nat)} : ∀ {parts : List (Nat × AV)} {parts' : List (Nat × Value)} {cells : List AV} {cells' : Array Value} {out : List AV},
    parts.map (·.1) = parts'.map (·.1) → VRels ρ (parts.map (·.2)) (parts'.map (·.2)) → VRels ρ cells cells'.toList → fillAV place cells parts = some out →
    ∃ out', Instr.fill place cells' parts' = some out' ∧ VRels ρ out out'.toList ∧ out.length = cells.length
  | [], parts', cells, cells', out, h1, h2, h3, h4 => by
    cases parts' with
    | nil => simp [fillAV] at h4; subst h4; exact ⟨cells', rfl, h3, rfl⟩
    | cons _ _ => simp at h1
  | (i, v) :: rest, parts', cells, cells', out, h1, h2, h3, h4 => by
    cases parts' with
    | nil => simp at h1
    | cons p rest' =>
      obtain ⟨i', v'⟩ := p
      simp only [List.map_cons, List.cons.injEq] at h1
      obtain ⟨rfl, h1⟩ := h1
      simp only [List.map_cons] at h2
      obtain ⟨x, xs, e, hv, hrest⟩ := h2.cons_inv
      cases e
      simp only [fillAV] at h4
      cases hp : place i with
      | none => simp [hp] at h4
      | some os =>
        obtain ⟨off, size⟩ := os
        cases hc : v.cellsOk with
        | none => simp [hp, hc] at h4
        | some vs =>
          simp only [hp, hc] at h4
          split at h4
          · cases h4
          · rename_i hcond
            simp only [Bool.or_eq_true, decide_eq_true_eq, bne_iff_ne, ne_eq, not_or, Decidable.not_not, Nat.not_lt] at hcond
            obtain ⟨hsz, hle⟩ := hcond
            have hcr := cellsOk_rel hv hc
            have hl : vs.length = v'.cells.size := by simpa using hcr.len
            have hl2 : cells.length = cells'.size := by simpa using h3.len
            have hfold : (v'.cells.zipIdx.foldl (fun cs (x : Value × Nat) => cs.setIfInBounds (off + x.2) x.1) cells').toList = cells'.toList.take off ++ v'.cells.toList ++ cells'.toList.drop (off + v'.cells.toList.length) := by
              rw [← foldl_set_toList v'.cells.toList off cells' (by simp; omega)]
              congr 1
              rw [← Array.foldl_toList, Array.toList_zipIdx]
              have key : ∀ (l : List Value) (k : Nat) (acc : Array Value), (l.zipIdx k).foldl (fun cs (x : Value × Nat) => cs.setIfInBounds (off + x.2) x.1) acc = (l.zipIdx (off + k)).foldl (fun cs (x : Value × Nat) => cs.setIfInBounds x.2 x.1) acc := by
                intro l
                induction l with
                | nil => intro k acc; rfl
                | cons a l ih => intro k acc; simp only [List.zipIdx_cons, List.foldl_cons]; rw [ih (k + 1)]; rfl
              exact key _ 0 _
            have hrel : VRels ρ (writeAt cells off vs) (v'.cells.zipIdx.foldl (fun cs (x : Value × Nat) => cs.setIfInBounds (off + x.2) x.1) cells').toList := by
              rw [hfold]; simp only [writeAt]
              have e : vs.length = v'.cells.toList.length := hcr.len
              rw [e]
              exact ((h3.take off).append hcr).append (h3.drop _)
            obtain ⟨out', ho, hr, hlo⟩ := fill_rel h1 hrest hrel h4
            refine ⟨out', ?_, hr, ?_⟩
            · simp only [Instr.fill, hp]
              have hc1 : ¬ ((v'.cells.size ≠ size || off + v'.cells.size > cells'.size) = true) := by
                simp only [Bool.or_eq_true, decide_eq_true_eq, bne_iff_ne, ne_eq, not_or, Decidable.not_not, Nat.not_lt]
                exact ⟨by omega, by omega⟩
              rw [if_neg hc1]; exact ho
            · rw [hlo]; simp [writeAt]; omega

theorem run_places (fields : Array Field) (h : fields.all (fun f => tyHas P f.type) = true) :
    (fields.mapM fun f => (do pure (f.offset, ← sizeOf f.type) : Sem (Nat × Nat))).run P w = .ok ((places P fields).toArray) w := by
  rw [Array.mapM_eq_mapM_toList]
  have key : ∀ l : List Field, (∀ f ∈ l, tyHas P f.type = true) → (l.mapM fun f => (do pure (f.offset, ← sizeOf f.type) : Sem (Nat × Nat))).run P w = .ok (l.map fun f => (f.offset, tySize P f.type)) w := by
    intro l
    induction l with
    | nil => intro _; rfl
    | cons f l ih =>
      intro h
      simp only [List.mapM_cons, Sem.run_bind, run_size (h f (by simp)), Result.andThen, ih (fun g hg => h g (by simp [hg])), Sem.run_pure, List.map_cons]
  have := key fields.toList (by rw [← List.all_eq_true]; rw [← Array.all_toList] at h; exact h)
  rw [← Array.mapM_eq_mapM_toList]
  rw [Array.mapM_eq_mapM_toList]
  show Sem.run P (List.toArray <$> _) w = _
  rw [map_eq_pure_bind, Sem.run_bind, this]; rfl

theorem parts_rel {t : List AV} {a : Act} (ht : TRel ρ t a.tmps) (parts : List (Nat × Operand)) :
    (parts.map fun (i, x) => (i, aev t x)).map (·.1) = (parts.map fun (i, x) => (i, a.eval x)).map (·.1) ∧ VRels ρ ((parts.map fun (i, x) => (i, aev t x)).map (·.2)) ((parts.map fun (i, x) => (i, a.eval x)).map (·.2)) := by
  induction parts with
  | nil => exact ⟨rfl, .nil⟩
  | cons p parts ih => exact ⟨by simp [ih.1], .cons (aev_rel ht _) ih.2⟩

theorem zeroRow_rel {z : List AV} {z' : List Value} (h : VRels ρ z z') (n : Nat) (hz : 0 < z.length) : VRels ρ (zeroRow z n) ((List.range n).map fun i => z'[i % z'.length]!) := by
  refine ⟨by simp [zeroRow], fun i hi => ?_⟩
  simp only [zeroRow, List.length_map, List.length_range] at hi
  have hlt : i % z.length < z.length := Nat.mod_lt _ hz
  have := h.at_ (i % z.length) hlt
  have hlt' : i % z'.length < z'.length := by rw [← h.len]; exact hlt
  simp only [zeroRow, List.getD, List.getElem?_map, List.getElem?_range hi, Option.map_some, Option.getD_some]
  have e1 : z'[i % z'.length]! = z'.getD (i % z.length) undef := by
    rw [h.len, getElem!_pos z' _ hlt']; simp [List.getD, hlt']
  rw [e1]
  simpa [List.getD] using this

/-! ### Addresses -/
theorem nil_out {x : AV} {x' : Value} {g : Value → Sem Next} (h : Sim w0 pins ρ st w) (hx : VRel ρ x x') (hk : NilC x fun v => K v st)
    (hg : ∀ a, g (.pointer (some a)) = pure (.value (.pointer (some a)))) (hf : ∀ f a b, g (.func (.func f) a b) = pure (.value (.func (.func f) a b))) (hy : ∀ f a b, g (.func (.yield f) a b) = pure (.value (.func (.yield f) a b))) (hm : ∀ r, g (.map r) = pure (.value (.map r))) :
    Out P w0 pins ρ w (g x') K := by
  cases x <;> simp only [NilC] at hk <;> try exact hk.elim
  all_goals cases hx
  · exact ⟨_, w, ρ, _, st, .inl (by rw [hg]; rfl), .refl _, h, .ptr ‹_›, hk⟩
  · exact ⟨_, w, ρ, _, st, .inl (by rw [hm]; rfl), .refl _, h, .map ‹_›, hk⟩
  · exact ⟨_, w, ρ, _, st, .inl (by rw [hf]; rfl), .refl _, h, .func ‹_› ‹_› ‹_› ‹_›, hk⟩
  · exact ⟨_, w, ρ, _, st, .inl (by rw [hy]; rfl), .refl _, h, .yield ‹_›, hk⟩

theorem faddr_out {ty : TypeId} {x : AV} {x' : Value} {i : Nat} {fields : Array Field} {f : Field} (h : Sim w0 pins ρ st w) (hx : VRel ρ x x') (hu : P.underlying ty = some (.struct fields)) (hf : fields[i]? = some f)
    (hs : tyHas P f.type = true) (hz : tySize P f.type ≠ 0) (hk : Faddr x f.offset fun v => K v st) : Out P w0 pins ρ w (do pure (.value (← Instr.fieldAt ty x' i))) K := by
  cases x with
  | ptr b o =>
    obtain ⟨rb, ro, rs, e, rfl⟩ := hx.ptr_inv
    refine Out.val (v' := .pointer (some ⟨rb, ro + (o + f.offset), none⟩)) h ?_ (.ptr e) hk
    simp [Instr.fieldAt, Sem.run_bind, run_under hu, Result.andThen, hf, Instr.sureAddr, fieldPlace, run_size hs, hz, addr_add, Nat.add_assoc]
  | _ => exact hk.elim

end
end Go.Ab
