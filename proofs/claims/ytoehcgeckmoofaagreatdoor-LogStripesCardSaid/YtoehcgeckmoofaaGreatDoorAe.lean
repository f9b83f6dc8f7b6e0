/- The operations that call nobody: what 'gop' says is so. -/
import Derived.Test.YtoehcgeckmoofaaGreatDoorAd
set_option linter.unusedVariables false
set_option linter.unusedSimpArgs false
namespace Go.Ab
open Go Go.RowKit

/-- What comes out of an operation that runs to its end. -/
def Out (P : Program) (w0 : World) (pins : List (Nat × Obj)) (ρ : Ren) (w : World) (s : Sem Next) (K : Kont) : Prop :=
  ∃ v' w' ρ' v st', (s.run P w = .ok (.value v') w' ∨ (s.run P w = .ok .skip w' ∧ v' = undef)) ∧ ρ.le ρ' ∧ Sim w0 pins ρ' st' w' ∧ VRel ρ' v v' ∧ K v st'

section
variable {P : Program} {w0 : World} {pins : List (Nat × Obj)} {ρ : Ren} {st : St} {w : World} {K : Kont}

theorem Out.val {s : Sem Value} {v' : Value} {v : AV} (h : Sim w0 pins ρ st w) (hs : s.run P w = .ok v' w) (hv : VRel ρ v v') (hk : K v st) :
    Out P w0 pins ρ w (do pure (.value (← s))) K :=
  ⟨v', w, ρ, v, st, .inl (by simp [Sem.run_bind, hs, Result.andThen]), .refl _, h, hv, hk⟩

theorem Out.valW {s : Sem Value} {v' : Value} {v : AV} {w' ρ' st'} (hs : s.run P w = .ok v' w') (hle : ρ.le ρ') (h : Sim w0 pins ρ' st' w') (hv : VRel ρ' v v') (hk : K v st') :
    Out P w0 pins ρ w (do pure (.value (← s))) K :=
  ⟨v', w', ρ', v, st', .inl (by simp [Sem.run_bind, hs, Result.andThen]), hle, h, hv, hk⟩

theorem Out.unit {s : Sem Unit} {w' ρ' st'} (hs : s.run P w = .ok () w') (hle : ρ.le ρ') (h : Sim w0 pins ρ' st' w') (hk : K (.tup []) st') :
    Out P w0 pins ρ w (do s; pure .skip) K :=
  ⟨undef, w', ρ', .tup [], st', .inr ⟨by simp [Sem.run_bind, hs, Result.andThen], rfl⟩, hle, h, VRel.tup_iff.2 .nil, hk⟩

/-! ### Types -/
theorem run_under {t d} (h : P.underlying t = some d) : (underlying t).run P w = .ok d w := run_underlying h w
theorem run_size {t} (h : tyHas P t = true) : (sizeOf t).run P w = .ok (tySize P t) w := by
  unfold tyHas at h
  obtain ⟨i, hi⟩ := Option.isSome_iff_exists.1 h
  rw [run_sizeOf w hi]; rfl
theorem run_agg {t g} (h : tyAgg P t = some g) : (isAgg t).run P w = .ok g w := by
  unfold tyAgg at h
  cases hu : P.underlying t with
  | none => simp [hu] at h
  | some d =>
    simp only [isAgg, Sem.run_bind, run_under hu, Result.andThen]
    cases d <;> simp_all
theorem tyZero_run {t z} (h : tyZero P t = some z) : ∃ z', (zeroValue t).run P w = .ok z' w ∧ z = absVal z' := by
  unfold tyZero at h
  cases hi : P.info? t with
  | none => simp [hi] at h
  | some i =>
    cases hz : i.zero with
    | none => simp [hi, hz] at h
    | some z' =>
      simp [hi, hz] at h
      exact ⟨z', by simp [zeroValue, Sem.run_bind, run_typeInfo w hi, Result.andThen, hz], h.symm⟩

theorem absVal_cells (ρ : Ren) (v : Value) : VRels ρ (absVal v).cells v.cells.toList := by
  cases v with
  | agg cs => exact absFlats_rel ρ _
  | tuple cs =>
    have : (absVal (.tuple cs)).cells = [absVal (.tuple cs)] := rfl
    rw [this]; exact .cons (absVal_rel ρ _) .nil
  | _ =>
    first
    | exact .cons (absVal_rel ρ _) .nil
    | (have e : ∀ a : AV, (∀ cs, a ≠ .agg cs) → a.cells = [a] := fun a h => by cases a <;> first | rfl | exact absurd rfl (h _)
       rw [e _ (by intro cs; simp only [absVal, absFlat]; split <;> simp)]
       exact .cons (absVal_rel ρ _) .nil)

theorem cellsOk_rel {a cs} {v : Value} (h : VRel ρ a v) (hc : a.cellsOk = some cs) : VRels ρ cs v.cells.toList := by
  cases h with
  | any => simp [AV.cellsOk] at hc
  | agg h1 h2 => simp [AV.cellsOk] at hc; subst hc; exact ⟨h1, h2⟩
  | _ => simp [AV.cellsOk] at hc; subst hc; exact .cons (by constructor <;> assumption) .nil

/-! ### Memory -/
theorem LdN_spec {cs : List AV} : ∀ {n o : Nat} {K : List AV → Prop}, LdN cs o n K → o ≤ cs.length → o + n ≤ cs.length ∧ K ((cs.drop o).take n)
  | 0, o, K, h, ho => ⟨by omega, by simpa [LdN] using h⟩
  | n + 1, o, K, h, ho => by
    obtain ⟨v, hv, h⟩ := OptK_iff.1 h
    have hl : o < cs.length := (List.getElem?_eq_some_iff.1 hv).1
    obtain ⟨h1, h2⟩ := LdN_spec h hl
    refine ⟨by omega, ?_⟩
    have : (cs.drop o).take (n + 1) = v :: (cs.drop (o + 1)).take n := by
      rw [List.drop_eq_getElem_cons hl, List.take_succ_cons]
      have : cs[o] = v := by
        have := (List.getElem?_eq_some_iff.1 hv).2; exact this
      rw [this]
    rw [this]; exact h2

theorem LdN_len {cs : List AV} : ∀ {n o : Nat} {K : List AV → Prop}, LdN cs o n K → n = 0 ∨ o ≤ cs.length
  | 0, _, _, _ => .inl rfl
  | n + 1, o, K, h => by
    obtain ⟨v, hv, _⟩ := OptK_iff.1 h
    have hl : o < cs.length := (List.getElem?_eq_some_iff.1 hv).1
    exact .inr (by omega)

theorem LdN_spec' {cs : List AV} {n o : Nat} {K : List AV → Prop} (h : LdN cs o n K) : (n = 0 ∨ o + n ≤ cs.length) ∧ K ((cs.drop o).take n) := by
  rcases LdN_len h with rfl | hl
  · exact ⟨.inl rfl, by simpa [LdN] using h⟩
  · obtain ⟨a, b⟩ := LdN_spec h hl
    exact ⟨.inr a, b⟩

theorem VRel.ptr_inv {b o} {v : Value} (h : VRel ρ (.ptr b o) v) : ∃ rb ro rs, ρ.blk b = some (rb, ro, rs) ∧ v = .pointer (some ⟨rb, ro + o, none⟩) := by
  cases h with | ptr e => exact ⟨_, _, _, e, rfl⟩

theorem load_out {ty : TypeId} {g : Bool} {a : AV} {a' : Value} (h : Sim w0 pins ρ st w) (ha : VRel ρ a a') (hg : tyAgg P ty = some g) (hs : tyHas P ty = true)
    (hk : Ld st a g (tySize P ty) K) : Out P w0 pins ρ w (do pure (.value (← Instr.loadAt ty a'))) K := by
  cases a with
  | ptr b o =>
    obtain ⟨rb, ro, rs, e, rfl⟩ := ha.ptr_inv
    obtain ⟨cs, hc, hk⟩ := OptK_iff.1 hk
    cases g with
    | true =>
      obtain ⟨hn, hk⟩ := LdN_spec' hk
      rcases hn with hn | hn
      · refine Out.val (v' := .agg #[]) h ?_ ?_ hk
        · simp [Instr.loadAt, Instr.sureAddr, loadVar, Sem.run_bind, run_agg hg, Result.andThen, run_size hs, hn, Go.loadCells, loadCellsFrom]
        · rw [hn]; exact VRel.agg_iff.2 (by simpa using VRels.nil)
      · obtain ⟨vs, hr, hv, hl⟩ := h.loadCells (P := P) hc e o (tySize P ty) hn
        refine Out.val (v' := .agg vs.toArray) h ?_ (VRel.agg_iff.2 (by simpa using hv)) hk
        simp [Instr.loadAt, Instr.sureAddr, loadVar, Sem.run_bind, run_agg hg, Result.andThen, run_size hs, hr]
    | false =>
      obtain ⟨v, hv, hk⟩ := OptK_iff.1 hk
      obtain ⟨u, hu, hvu⟩ := h.cell hc hv e
      refine Out.val (v' := u) h ?_ hvu hk
      simp [Instr.loadAt, Instr.sureAddr, loadVar, Sem.run_bind, run_agg hg, Result.andThen, run_load, hu]
  | _ => exact hk.elim

theorem VRels.ones {as : List AV} {vs : List Value} (h : VRels ρ as vs) (ha : as.all AV.one = true) : ∀ v ∈ vs, v.oneCell' = true := by
  intro v hv
  obtain ⟨i, hi, rfl⟩ := List.getElem_of_mem hv
  have hi' : i < as.length := h.len ▸ hi
  have := h.at_ i hi'
  have e : vs.getD i undef = vs[i] := by simp [List.getD, hi]
  rw [e] at this
  have h1 : (as.getD i .any).one = true := by
    have := List.all_eq_true.1 ha as[i] (List.getElem_mem hi')
    simpa [List.getD, hi'] using this
  exact this.one h1

theorem store_out {ty : TypeId} {a x : AV} {a' x' : Value} (h : Sim w0 pins ρ st w) (ha : VRel ρ a a') (hx : VRel ρ x x') (hs : tyHas P ty = true)
    (hk : Sto st a x (tySize P ty) K) : Out P w0 pins ρ w (do Instr.storeAt ty a' x'; pure .skip) K := by
  cases a with
  | ptr b o =>
    obtain ⟨rb, ro, rs, e, rfl⟩ := ha.ptr_inv
    obtain ⟨cs, hc, hk⟩ := OptK_iff.1 hk
    obtain ⟨vs, hv, hl, h1, hn, hk⟩ := OptK_iff.1 hk
    have hr := cellsOk_rel hx hv
    obtain ⟨w', hrun, hsim⟩ := h.storeCells (P := P) hc e o hr (hr.ones h1) (by omega)
    refine Out.unit ?_ (.refl _) hsim hk
    have hsz : x'.cells.size = tySize P ty := by have := hr.len; simp at this; omega
    simp [Instr.storeAt, Instr.sureAddr, storeVar, Sem.run_bind, Result.andThen, run_size hs, hsz, hrun]
  | _ => exact hk.elim

theorem new_out {cs : List AV} {c : Array Value} {elem : TypeId} {s : Sem Value} (h : Sim w0 pins ρ st w) (hc : VRels ρ cs c.toList)
    (hs : s.run P w = .ok (.pointer (some ⟨w.heap.size, 0, none⟩)) (w.alloc (.cells c elem))) (hk : New st cs K) : Out P w0 pins ρ w (do pure (.value (← s))) K := by
  have hl : cs.length = c.size := by simpa using hc.len
  refine Out.valW hs (h.ext_le _) (h.allocCells (cs := cs) (c := c) elem ?_ (by omega)) ?_ hk
  · rw [show c.toList.take cs.length = c.toList from List.take_of_length_le (by simp [hl])]; exact hc
  · have := VRel.ptr (ρ := ρ.ext st.hp.length (w.heap.size, 0, c.size)) (o := 0) (Ren.ext_at ρ st.hp.length (w.heap.size, 0, c.size))
    simpa using this

theorem run_newVar (ty : TypeId) (v : Value) : (newVar ty v).run P w = .ok ⟨w.heap.size, 0, none⟩ (w.alloc (.cells v.cells ty)) := by
  simp [newVar, newRow, newObj, Sem.run, Sem.run_bind, Result.andThen, World.alloc_eq]

end
end Go.Ab
