/- The operations that call nobody: slices, maps; and all of them together: 'gop_out'. -/
import Derived.Test.YtoehcgeckmoofaaGreatDoorAg
set_option linter.unusedVariables false
set_option linter.unusedSimpArgs false
namespace Go.Ab
open Go Go.RowKit

section
variable {P : Program} {w0 : World} {pins : List (Nat × Obj)} {ρ : Ren} {st : St} {w : World} {K : Kont}

theorem field_out {ty : TypeId} {x : AV} {x' : Value} {i : Nat} {fields : Array Field} {f : Field} {g : Bool} (h : Sim w0 pins ρ st w) (hx : VRel ρ x x') (hu : P.underlying ty = some (.struct fields)) (hf : fields[i]? = some f)
    (hg : tyAgg P f.type = some g) (hs : tyHas P f.type = true) (hk : Fld x g f.offset (tySize P f.type) fun v => K v st) : Out P w0 pins ρ w (do pure (.value (← Instr.field ty x' i))) K := by
  cases x with
  | agg cs =>
    obtain ⟨vs, rfl, hr⟩ := hx.agg_inv
    have hl : cs.length = vs.size := by simpa using hr.len
    cases g with
    | true =>
      obtain ⟨hn, hk⟩ := LdN_spec' hk
      refine Out.val (v' := .agg (vs.extract f.offset (f.offset + tySize P f.type))) h ?_ (VRel.agg_iff.2 ?_) hk
      · simp [Instr.field, Sem.run_bind, run_under hu, Result.andThen, hf, asAgg, part, run_agg hg, run_size hs]
      · rw [Array.toList_extract, List.extract_eq_take_drop]; simpa using (hr.drop f.offset).take (tySize P f.type)
    | false =>
      obtain ⟨a, ha, hk⟩ := OptK_iff.1 hk
      obtain ⟨v, hv, hvr⟩ := hr.get ha
      have hv' : vs[f.offset]? = some v := by simpa using hv
      refine Out.val (v' := v) h ?_ hvr hk
      simp [Instr.field, Sem.run_bind, run_under hu, Result.andThen, hf, asAgg, part, run_agg hg, hv']
  | _ => exact hk.elim

theorem VRel.slice_inv {b o len cap ex esz} {v : Value} (h : VRel ρ (.slice b o len cap ex esz) v) : ∃ rb ro rs a cap', v = .slice (some a) len cap' ∧ ρ.blk b = some (rb, ro, rs) ∧ len ≤ cap ∧ cap ≤ cap' ∧ (ex = true → cap' = cap) ∧
    (cap' ≠ 0 → a = (⟨rb, ro + o, none⟩ : Addr)) ∧ (ex = false → o + cap' * esz ≤ rs) := by
  cases h with | slice e a b c d f => exact ⟨_, _, _, _, _, rfl, e, a, b, c, d, f⟩

theorem iaddr_sl_out {ty elem : TypeId} {x i : AV} {x' i' : Value} (h : Sim w0 pins ρ st w) (hx : VRel ρ x x') (hi : VRel ρ i i') (hu : P.underlying ty = some (.slice elem)) (hs : tyHas P elem = true)
    (hk : Iaddr x i none (tySize P elem) fun v => K v st) : Out P w0 pins ρ w (do pure (.value (← Instr.indexAt ty x' i'))) K := by
  unfold Iaddr at hk
  split at hk
  · obtain rfl := hi.int_inv
    obtain ⟨rb, ro, rs, a, cap', rfl, e, hl, hc, hex, ha, hfit⟩ := hx.slice_inv
    obtain ⟨h0, h1, rfl, hk⟩ := hk
    have hc0 : cap' ≠ 0 := by omega
    obtain rfl := ha hc0
    refine Out.val (v' := .pointer (some ⟨rb, ro + (_ + _), none⟩)) h ?_ (.ptr e) hk
    simp only [Instr.indexAt, Sem.run_bind, asIntOf, run_under hu, Result.andThen, Sem.run_pure, run_size hs, Bool.and_false, Bool.false_eq_true, if_false]
    rw [if_pos ⟨h0, h1⟩]
    simp only [Sem.run_bind, run_size hs, Result.andThen, Sem.run_pure, addr_add, Nat.add_assoc]
  · rename_i he; cases he
  · exact hk.elim

theorem iaddr_arr_out {ty elem : TypeId} {n : Nat} {x i : AV} {x' i' : Value} (h : Sim w0 pins ρ st w) (hx : VRel ρ x x') (hi : VRel ρ i i') (hu : P.underlying ty = some (.array n elem)) (hs : tyHas P elem = true)
    (hk : Iaddr x i (some n) (tySize P elem) fun v => K v st) : Out P w0 pins ρ w (do pure (.value (← Instr.indexAt ty x' i'))) K := by
  unfold Iaddr at hk
  split at hk
  · rename_i he; cases he
  · rename_i e0; cases e0
    obtain rfl := hi.int_inv
    obtain ⟨rb, ro, rs, e, rfl⟩ := hx.ptr_inv
    obtain ⟨h0, h1, hk⟩ := hk
    refine Out.val (v' := .pointer (some ⟨rb, ro + (_ + _), none⟩)) h ?_ (.ptr e) hk
    simp only [Instr.indexAt, Sem.run_bind, asIntOf, run_under hu, Result.andThen, Sem.run_pure, run_size hs, Instr.sureAddr, Bool.and_true]
    rw [if_pos ⟨h0, h1⟩]
    simp only [Sem.run_bind, run_size hs, Result.andThen, Sem.run_pure, addr_add, Nat.add_assoc]
  · exact hk.elim

theorem sidx_out {ty : TypeId} {x i : AV} {x' i' : Value} (h : Sim w0 pins ρ st w) (hx : VRel ρ x x') (hi : VRel ρ i i') (hu : P.underlying ty = some .string)
    (hk : Sidx x i fun v => K v st) : Out P w0 pins ρ w (do pure (.value (← Instr.index ty x' i'))) K := by
  unfold Sidx at hk
  split at hk
  · rename_i s0 kk j
    obtain rfl := hi.int_inv
    obtain ⟨s, rfl, rfl⟩ := hx.str_inv
    obtain ⟨h0, hk⟩ := hk
    obtain ⟨c, hc, hk⟩ := OptK_iff.1 hk
    have hj : j.toNat < s.size := by have := (List.getElem?_eq_some_iff.1 hc).1; simpa using this
    have hc' : s[j.toNat]? = some c := by
      have e1 : s[j.toNat]? = some (s[j.toNat]'hj) := getElem?_pos s j.toNat hj
      rw [e1]
      have := (List.getElem?_eq_some_iff.1 hc).2
      rw [← this]; rfl
    refine Out.val (v' := .int .u8 c.toNat) h ?_ (.int _ _) hk
    simp only [Instr.index, Sem.run_bind, asIntOf, run_under hu, Result.andThen, Sem.run_pure, h0, if_true, hc']
  · exact hk.elim

/-! ### Slicing -/
theorem run_bound {k : IntKind} {i : Int} {y : Nat} {c : BoundsCode} (h0 : 0 ≤ i) (h1 : i ≤ y) : (Instr.sliceBound (.int k i) y c).run P w = .ok i.toNat w := by
  simp [Instr.sliceBound, Sem.run_bind, asIntOf, Result.andThen, h0, h1]

theorem optInt_rel {t : List AV} {a : Act} (ht : TRel ρ t a.tmps) {o : Option Operand} {r : Option Int} (h : optInt (o.map (aev t)) = some r) : (r = none ∧ o.map a.eval = none) ∨ ∃ k n, r = some n ∧ o.map a.eval = some (.int k n) := by
  cases o with
  | none => simp [optInt] at h; exact .inl ⟨h.symm, rfl⟩
  | some o =>
    simp only [Option.map_some, optInt] at h
    split at h
    · rename_i e; cases e
    · rename_i k n e; simp only [Option.some.injEq] at e
      have := aev_rel ht o
      rw [e] at this
      cases h
      exact .inr ⟨k, n, rfl, by rw [Option.map_some, this.int_inv]⟩
    · cases h

theorem slice_str_out {ty : TypeId} {s : List UInt8} {x' : Value} {l h' : Option Int} {lo hi : Option Value} {v : AV} (h : Sim w0 pins ρ st w) (hx : VRel ρ (.str s) x') (hu : P.underlying ty = some .string)
    (hl : (l = none ∧ lo = none) ∨ ∃ k n, l = some n ∧ lo = some (.int k n)) (hh : (h' = none ∧ hi = none) ∨ ∃ k n, h' = some n ∧ hi = some (.int k n)) (hv : sliceStr s (l.getD 0) (h'.getD s.length) = some v) (hk : K v st) :
    Out P w0 pins ρ w (do pure (.value (← Instr.sliceAt ty x' lo hi none))) K := by
  obtain ⟨b, rfl, rfl⟩ := hx.str_inv
  unfold sliceStr at hv
  split at hv
  · rename_i hc
    cases hv
    obtain ⟨c1, c2, c3⟩ := hc
    have hlen : (b.data.toList.length : Int) = b.size := by simp
    rw [hlen] at c3
    refine Out.val (v' := .string (b.extract (l.getD 0).toNat (h'.getD b.data.toList.length).toNat)) h ?_ (VRel.str_mk (by simp [List.extract_eq_take_drop, List.drop_take])) hk
    have hsz : b.data.size = b.size := rfl
    rcases hl with ⟨rfl, rfl⟩ | ⟨k, n, rfl, rfl⟩ <;> rcases hh with ⟨rfl, rfl⟩ | ⟨k', m, rfl, rfl⟩ <;> simp only [Option.getD_some, Option.getD_none] at c1 c2 c3
    · simp [Instr.sliceAt, Instr.slice, Instr.sliceBounds, Sem.run_bind, run_under hu, Result.andThen]
    · simp [Instr.sliceAt, Instr.slice, Instr.sliceBounds, Sem.run_bind, run_under hu, Result.andThen, run_bound (k := k') (i := m) (by omega) c3]
    · rw [hlen] at c2
      simp [Instr.sliceAt, Instr.slice, Instr.sliceBounds, Sem.run_bind, run_under hu, Result.andThen, run_bound (k := k) (i := n) c1 c2]
    · have hm : ((m.toNat : Nat) : Int) = m := Int.toNat_of_nonneg (by omega)
      simp [Instr.sliceAt, Instr.slice, Instr.sliceBounds, Sem.run_bind, run_under hu, Result.andThen, run_bound (k := k') (i := m) (by omega) c3, run_bound (k := k) (i := n) (y := m.toNat) c1 (by omega)]
  · cases hv

theorem slice_sl_out {ty elem : TypeId} {x : AV} {x' : Value} {l h' m' : Option Int} {lo hi mx : Option Value} {v : AV} (h : Sim w0 pins ρ st w) (hx : VRel ρ x x') (hu : P.underlying ty = some (.slice elem)) (hs : tyHas P elem = true)
    (hmh : mx.isNone = true ∨ hi.isSome = true)
    (hl : (l = none ∧ lo = none) ∨ ∃ k n, l = some n ∧ lo = some (.int k n)) (hh : (h' = none ∧ hi = none) ∨ ∃ k n, h' = some n ∧ hi = some (.int k n)) (hm : (m' = none ∧ mx = none) ∨ ∃ k n, m' = some n ∧ mx = some (.int k n))
    (hv : sliceSl x (tySize P elem) (l.getD 0) h' m' = some v) (hk : K v st) :
    Out P w0 pins ρ w (do pure (.value (← Instr.sliceAt ty x' lo hi mx))) K := by
  unfold sliceSl at hv
  split at hv
  · -- nil
    cases hx
    split at hv
    · rename_i hc
      cases hv
      obtain ⟨c1, c2, c3⟩ := hc
      refine Out.val (v' := .slice none 0 0) h ?_ .nils hk
      rcases hl with ⟨rfl, rfl⟩ | ⟨k, n, rfl, rfl⟩ <;> rcases hh with ⟨rfl, rfl⟩ | ⟨k', m, rfl, rfl⟩ <;> rcases hm with ⟨rfl, rfl⟩ | ⟨k'', q, rfl, rfl⟩ <;> simp only [Option.getD_some, Option.getD_none] at c1 c2 c3 <;> (try subst c1) <;> (try subst c2) <;> (try subst c3) <;>
        first
        | (exfalso; simp at hmh; done)
        | simp [Instr.sliceAt, Instr.slice, Instr.sliceBounds, Sem.run_bind, run_under hu, Result.andThen, run_size hs, Instr.sliceBound, asIntOf]
    · cases hv
  · rename_i b o len cap ex e
    obtain ⟨rb, ro, rs, a, cap', rfl, hb, hle, hcap, hex, ha, hfit⟩ := hx.slice_inv
    simp only at hv
    split at hv
    · rename_i hc
      obtain ⟨rfl, c1, c2, c3⟩ := hc
      -- the bounds, as numbers
      obtain ⟨L, hL⟩ : ∃ L : Nat, l.getD 0 = L := ⟨(l.getD 0).toNat, (Int.toNat_of_nonneg c1).symm⟩
      obtain ⟨H, hH⟩ : ∃ H : Nat, h'.getD len = H := ⟨(h'.getD len).toNat, (Int.toNat_of_nonneg (by omega)).symm⟩
      rw [hL, hH] at c2
      rw [hH] at c3
      have key : ∀ (M : Nat), H ≤ M → M ≤ cap' → (m' = none → M = cap') → (∀ q, m' = some q → q = M) →
          (Instr.sliceAt ty (.slice (some a) len cap') lo hi mx).run P w = .ok (.slice (some (if M = L then a else a.add (L * tySize P elem))) (H - L) (M - L)) w := by
        intro M hHM hM hn hq
        rcases hm with ⟨rfl, rfl⟩ | ⟨k'', q, rfl, rfl⟩
        · obtain rfl := hn rfl
          rcases hh with ⟨rfl, rfl⟩ | ⟨k', m, rfl, rfl⟩ <;> rcases hl with ⟨rfl, rfl⟩ | ⟨k, n, rfl, rfl⟩ <;> simp only [Option.getD_some, Option.getD_none] at hL hH <;>
            (try (have hL' : L = 0 := by omega) <;> subst hL') <;> (try subst hL) <;> (try subst hH) <;> (try (have hH' : len = H := by omega) <;> subst hH')
          · simp [Instr.sliceAt, Instr.slice, Instr.sliceBounds, Sem.run_bind, run_under hu, Result.andThen, run_size hs]; try (split <;> rfl)
          · simp [Instr.sliceAt, Instr.slice, Instr.sliceBounds, Sem.run_bind, run_under hu, Result.andThen, run_size hs, run_bound (k := k) (i := L) (y := len) (by omega) (by omega)]; try (split <;> rfl)
          · simp [Instr.sliceAt, Instr.slice, Instr.sliceBounds, Sem.run_bind, run_under hu, Result.andThen, run_size hs, run_bound (k := k') (i := H) (y := M) (by omega) (by omega)]; try (split <;> rfl)
          · simp [Instr.sliceAt, Instr.slice, Instr.sliceBounds, Sem.run_bind, run_under hu, Result.andThen, run_size hs, run_bound (k := k') (i := H) (y := M) (by omega) (by omega), run_bound (k := k) (i := L) (y := H) (by omega) (by omega)]; try (split <;> rfl)
        · obtain rfl := hq q rfl
          rcases hh with ⟨rfl, rfl⟩ | ⟨k', m, rfl, rfl⟩
          · simp at hmh
          · rcases hl with ⟨rfl, rfl⟩ | ⟨k, n, rfl, rfl⟩ <;> simp only [Option.getD_some, Option.getD_none] at hL hH <;>
              (try (have hL' : L = 0 := by omega) <;> subst hL') <;> (try subst hL) <;> (try subst hH)
            · simp [Instr.sliceAt, Instr.slice, Instr.sliceBounds, Sem.run_bind, run_under hu, Result.andThen, run_size hs, run_bound (k := k'') (i := M) (y := cap') (by omega) (by omega), run_bound (k := k') (i := H) (y := M) (by omega) (by omega)]; try (split <;> rfl)
            · simp [Instr.sliceAt, Instr.slice, Instr.sliceBounds, Sem.run_bind, run_under hu, Result.andThen, run_size hs, run_bound (k := k'') (i := M) (y := cap') (by omega) (by omega), run_bound (k := k') (i := H) (y := M) (by omega) (by omega), run_bound (k := k) (i := L) (y := H) (by omega) (by omega)]; try (split <;> rfl)
      have hadd : ∀ M : Nat, M - L ≠ 0 → cap' ≠ 0 → (if M = L then a else a.add (L * tySize P elem)) = (⟨rb, ro + (o + L * tySize P elem), none⟩ : Addr) := by
        intro M h1 h2
        rw [if_neg (by omega), ha h2, addr_add, Nat.add_assoc]
      rw [hL, hH] at hv
      simp only [Int.toNat_natCast] at hv
      have hsub : ((H : Int) - (L : Int)).toNat = H - L := by omega
      rw [hsub] at hv
      split at hv
      · cases hv
        refine Out.val h (key cap' (by omega) (Nat.le_refl _) (fun _ => rfl) (fun q hq => by cases hq)) (.slice hb (by omega) (by omega) (fun hx => by rw [hex hx]) (fun hne => hadd cap' hne (by omega)) (fun hx => ?_)) hk
        have := hfit hx
        have e1 : (cap' - L) * tySize P elem + L * tySize P elem = cap' * tySize P elem := by rw [← Nat.add_mul]; congr 1; omega
        omega
      · rename_i m
        split at hv
        · rename_i hc2
          obtain ⟨M, hM⟩ : ∃ M : Nat, m = M := ⟨m.toNat, (Int.toNat_of_nonneg (by omega)).symm⟩
          subst hM
          cases hv
          have hsub2 : ((M : Int) - (L : Int)).toNat = M - L := by omega
          rw [hsub2] at hk
          exact Out.val h (key M (by omega) (by omega) (fun hh => by cases hh) (fun q hq => by cases hq; rfl)) (.slice hb (by omega) (Nat.le_refl _) (fun _ => rfl) (fun hne => hadd M hne (by omega)) (fun hx => by cases hx)) hk
        · cases hv
    · cases hv
  · cases hv

end
end Go.Ab
