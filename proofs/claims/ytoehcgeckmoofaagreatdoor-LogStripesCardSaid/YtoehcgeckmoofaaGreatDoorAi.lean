/- Maps; 'gop_out': each operation that calls nobody does what 'gop' says. -/
import Derived.Test.YtoehcgeckmoofaaGreatDoorAh
import Derived.MapKept
set_option linter.unusedVariables false
set_option linter.unusedSimpArgs false
namespace Go.Ab
open Go Go.RowKit

section
variable {P : Program} {w0 : World} {pins : List (Nat × Obj)} {ρ : Ren} {st : St} {w : World} {K : Kont}

theorem St.mapAt_of {st : St} {b es} (h : st.mapAt b = some es) : ∃ bs cl, st.hp[b]? = some (.amap es bs cl) := by
  unfold St.mapAt at h; split at h <;> simp_all
theorem St.mapFull_of {st : St} {b es bs cl} (h : st.mapFull b = some (es, bs, cl)) : st.hp[b]? = some (.amap es bs cl) := by
  unfold St.mapFull at h; split at h <;> simp_all

theorem Sim.mapAt (h : Sim w0 pins ρ st w) {b es} (hm : st.mapAt b = some es) : ∃ rb ro rs ents clock, ρ.blk b = some (rb, ro, rs) ∧ w.heap[rb]? = some (.map ents clock) ∧ w0.heap.size ≤ rb ∧
    VRels ρ (es.map (·.1)) (ents.toList.map (·.key)) ∧ VRels ρ (es.map (·.2)) (ents.toList.map (·.val)) := by
  obtain ⟨bs, cl, hb⟩ := St.mapAt_of hm
  obtain ⟨⟨rb, ro, rs⟩, hx, ents, h1, h2, h3, h4, h5⟩ := h.blk b _ hb (by simp)
  exact ⟨rb, ro, rs, ents, cl, hx, h1, h2, h3, h4⟩
theorem Sim.mapFull (h : Sim w0 pins ρ st w) {b es bs clock} (hm : st.mapFull b = some (es, bs, clock)) : ∃ rb ro rs ents, ρ.blk b = some (rb, ro, rs) ∧ w.heap[rb]? = some (.map ents clock) ∧ w0.heap.size ≤ rb ∧
    VRels ρ (es.map (·.1)) (ents.toList.map (·.key)) ∧ VRels ρ (es.map (·.2)) (ents.toList.map (·.val)) ∧ ents.toList.map (·.born) = bs := by
  obtain ⟨⟨rb, ro, rs⟩, hx, ents, h1⟩ := h.blk b _ (St.mapFull_of hm) (by simp)
  exact ⟨rb, ro, rs, ents, hx, h1⟩

def keyFits : TypeDesc → AV → Bool
  | .int _, .int _ _ => true
  | .string, .str _ => true
  | _, _ => false

theorem sameNow_of {d : TypeDesc} {a b : AV} {a' b' : Value} {r : Bool} (hf : keyFits d a = true)
    (ha : VRel ρ a a') (hb : VRel ρ b b') (h : AV.keyEq a b = some r) : Instr.sameNow d a' b' = some r := by
  unfold AV.keyEq at h
  split at h
  · obtain rfl := ha.int_inv; obtain rfl := hb.int_inv
    cases d <;> simp [keyFits] at hf
    simp only [Instr.sameNow]
    split at h
    · rename_i e; subst e; cases h; simp [Bool.beq_eq_decide_eq]
    · cases h
  · obtain ⟨s1, rfl, rfl⟩ := ha.str_inv; obtain ⟨s2, rfl, rfl⟩ := hb.str_inv
    cases d <;> simp [keyFits] at hf
    simp only [Instr.sameNow]; cases h
    congr 1
    rw [Bool.eq_iff_iff, MapKept.bytes_beq, decide_eq_true_iff, bytes_eq_iff]
  · cases h

theorem findNow_of {d : TypeDesc} {a : AV} {a' : Value} (hf : keyFits d a = true) (ha : VRel ρ a a') :
    ∀ {es : List (AV × AV)} {ents : List MapEntry} {r : Option AV} (i : Nat), VRels ρ (es.map (·.1)) (ents.map (·.key)) → VRels ρ (es.map (·.2)) (ents.map (·.val)) → mfind a es = some r →
    (r = none ∧ Instr.findNow d a' ents i = some none) ∨ ∃ v j v' e, r = some v ∧ Instr.findNow d a' ents i = some (some (i + j, v')) ∧ VRel ρ v v' ∧ ents[j]? = some e ∧ VRel ρ a e.key ∧ e.val = v' ∧ Instr.sameNow d a' e.key = some true ∧
      (∀ v2, mput a v2 es = es.set j (a, v2)) ∧ mdel a es = es.eraseIdx j ∧ j < es.length
  | [], ents, r, i, h1, h2, h3 => by
    have : ents = [] := by have := h1.len; cases ents <;> simp_all
    subst this; simp [mfind] at h3; exact .inl ⟨h3.symm, rfl⟩
  | (k, v) :: es, ents, r, i, h1, h2, h3 => by
    cases ents with
    | nil => have := h1.len; simp at this
    | cons e ents =>
      simp only [List.map_cons] at h1 h2
      obtain ⟨k', ks', e1, hk, h1⟩ := h1.cons_inv
      obtain ⟨v', vs', e2, hv, h2⟩ := h2.cons_inv
      cases e1; cases e2
      simp only [mfind] at h3
      split at h3
      · rename_i he
        cases h3
        have hs := sameNow_of hf ha hk he
        refine .inr ⟨v, 0, e.val, e, rfl, by simp [Instr.findNow, hs], hv, rfl, ?_, rfl, hs, fun v2 => by simp [mput, he], by simp [mdel, he], by simp⟩
        -- the keys are one
        unfold AV.keyEq at he
        split at he
        · split at he
          · rename_i e0; subst e0; simp at he; subst he; exact hk
          · cases he
        · simp at he; subst he; exact hk
        · cases he
      · rename_i he
        have hs := sameNow_of hf ha hk he
        rcases findNow_of hf ha (i + 1) h1 h2 h3 with ⟨hr, hn⟩ | ⟨v1, j, v1', e', hr, hn, hrel, hj, ha', hval, hsame, hput, hdel, hjl⟩
        · exact .inl ⟨hr, by simp [Instr.findNow, hs, hn]⟩
        · refine .inr ⟨v1, j + 1, v1', e', hr, by simp [Instr.findNow, hs, hn]; omega, hrel, by simpa using hj, ha', hval, hsame, fun v2 => by simp [mput, he, hput], by simp [mdel, he, hdel], by simp; omega⟩
      · cases h3

theorem keyTy_under {t : TypeId} (h : keyTy P t = true) : ∃ d, P.underlying t = some d ∧ ((∃ k, d = .int k) ∨ d = .string) ∧ ∀ k, keyOk (tyKind P t) k = true → keyFits d k = true := by
  unfold keyTy at h
  unfold tyKind at h ⊢
  cases hu : P.underlying t with
  | none => simp [hu] at h
  | some d =>
    simp only [hu] at h ⊢
    refine ⟨d, rfl, ?_, ?_⟩ <;> cases d <;> simp_all [keyOk, keyFits]
    all_goals (intro k hk; cases k <;> simp_all [keyOk, keyFits])

theorem run_checkKey {t : TypeId} {d : TypeDesc} {empty : Bool} {v : Value} (hu : P.underlying t = some d) (hd : (∃ k, d = .int k) ∨ d = .string) : (Instr.checkKey empty 10000 t v).run P w = .ok () w := by
  have key : ∀ n, (Instr.checkKey empty (n + 1) t v).run P w = .ok () w := by
    intro n
    rcases hd with ⟨k, rfl⟩ | rfl <;> simp only [Instr.checkKey, Sem.run_bind, run_under hu, Result.andThen] <;> cases v <;> rfl
  exact key 9999
theorem lk1 {ty key elem : TypeId} {k' z' : Value} {ok : Bool} {d : TypeDesc} (hu : P.underlying ty = some (.map key elem)) (hd : P.underlying key = some d)
    (hdk : (∃ k, d = .int k) ∨ d = .string) (hz' : (zeroValue elem).run P w = .ok z' w) : (Instr.lookup ty (.map none) k' ok).run P w = .ok (if ok then .tuple #[z', .bool false] else z') w := by
  unfold Instr.lookup
  rw [Sem.run_bind, run_under hu]
  simp only [Result.andThen, Sem.run_bind, Sem.run_pure]
  rw [run_checkKey hd hdk]
  simp only [Instr.findKey, Sem.run_bind, run_under hd, Result.andThen, Instr.findNow, Sem.run_pure, hz']
theorem lk2 {ty key elem : TypeId} {k' z' : Value} {ok : Bool} {d : TypeDesc} {rb : Nat} {ents : Array MapEntry} {clock : Nat} (hu : P.underlying ty = some (.map key elem)) (hd : P.underlying key = some d)
    (hdk : (∃ k, d = .int k) ∨ d = .string) (hz' : (zeroValue elem).run P w = .ok z' w) (hw : w.heap[rb]? = some (.map ents clock)) {r : Option (Nat × Value)} (hn : Instr.findNow d k' ents.toList 0 = some r) :
    (Instr.lookup ty (.map (some rb)) k' ok).run P w = .ok (match r with | some (_, v) => (if ok then .tuple #[v, .bool true] else v) | none => if ok then .tuple #[z', .bool false] else z') w := by
  have hget : (getObj rb).run P w = .ok (.map ents clock) w := by simp [getObj, Sem.run, hw]
  unfold Instr.lookup
  rw [Sem.run_bind, run_under hu]
  simp only [Result.andThen, Sem.run_bind, Sem.run_pure, hget]
  rw [run_checkKey hd hdk]
  simp only [Instr.findKey, Sem.run_bind, run_under hd, Result.andThen, hn, Sem.run_pure]
  cases r with
  | none => simp only [Sem.run_bind, hz', Result.andThen, Sem.run_pure]
  | some p => rfl

theorem mlook_out {ty key elem : TypeId} {m k z : AV} {m' k' : Value} {ok : Bool} {d : TypeDesc} (h : Sim w0 pins ρ st w) (hm : VRel ρ m m') (hk : VRel ρ k k') (hu : P.underlying ty = some (.map key elem)) (hd : P.underlying key = some d)
    (hdk : (∃ k, d = .int k) ∨ d = .string) {tk : TK} (hf : ∀ k, keyOk tk k = true → keyFits d k = true) (hz : tyZero P elem = some z) (hK : Mlook tk st m k z ok fun v => K v st) :
    Out P w0 pins ρ w (do pure (.value (← Instr.lookup ty m' k' ok))) K := by
  obtain ⟨z', hz', rfl⟩ := tyZero_run (P := P) (w := w) hz
  have hb : ∀ (a : AV) (a' : Value) (b : Bool), VRel ρ a a' → VRel ρ (bif ok then .tup [a, .bool b] else a) (if ok then .tuple #[a', .bool b] else a') := by
    intro a a' b ha
    cases ok
    · exact ha
    · exact VRel.tup_iff.2 (.cons ha (.cons (.bool _) .nil))
  cases m with
  | nilm =>
    cases hm
    obtain ⟨_, hK⟩ := hK
    exact Out.val h (lk1 hu hd hdk hz') (hb _ _ _ (absVal_rel ρ z')) hK
  | map b =>
    obtain ⟨es, he, hkk, hK⟩ := OptK_iff.1 hK
    obtain ⟨r, hr, hK⟩ := OptK_iff.1 hK
    obtain ⟨rb, ro, rs, ents, clock, hx, hw, _, h1, h2⟩ := h.mapAt he
    cases hm with
    | map e =>
      rw [hx] at e; cases e
      rcases findNow_of (hf _ hkk) hk 0 h1 h2 hr with ⟨rfl, hn⟩ | ⟨v, j, v', e, rfl, hn, hvr, _⟩
      · exact Out.val h (lk2 hu hd hdk hz' hw hn) (hb _ _ _ (absVal_rel ρ z')) hK
      · exact Out.val h (lk2 hu hd hdk hz' hw hn) (hb _ _ _ hvr) hK
  | _ => exact hK.elim

theorem mput_none {a v2 : AV} : ∀ {es : List (AV × AV)}, mfind a es = some none → mput a v2 es = es ++ [(a, v2)]
  | [], _ => rfl
  | (k, v) :: es, h => by
    simp only [mfind] at h
    split at h
    · cases h
    · rename_i he; simp [mput, he, mput_none h]
    · cases h

theorem Only.setObj {r : Nat} {o o' : Obj} (hw : w.heap[r]? = some o) : Only r w { w with heap := w.heap.setIfInBounds r o' } ∧ ({ w with heap := w.heap.setIfInBounds r o' } : World).heap[r]? = some o' := by
  have hlt : r < w.heap.size := (Array.getElem?_eq_some_iff.1 hw).1
  refine ⟨⟨rfl, rfl, rfl, by simp, fun k hk => ?_⟩, by simp [hlt]⟩
  simp [Ne.symm hk]

theorem mu_run {ty key elem : TypeId} {k' v' : Value} {d : TypeDesc} {rb : Nat} {ents : Array MapEntry} {clock : Nat} (hu : P.underlying ty = some (.map key elem)) (hd : P.underlying key = some d)
    (hdk : (∃ k, d = .int k) ∨ d = .string) (hw : w.heap[rb]? = some (.map ents clock)) {r : Option (Nat × Value)} (hn : Instr.findNow d k' ents.toList 0 = some r)
    (hs : ∀ i x, r = some (i, x) → Instr.sameBits 10000 (((ents[i]?).map (·.key)).getD k') k' = true) :
    (Instr.mapUpdate ty (.map (some rb)) k' v').run P w = .ok () { w with heap := w.heap.setIfInBounds rb (match r with
      | some (i, _) => .map (ents.modify i fun e => { e with key := k', val := v' }) clock
      | none => .map (ents.push { key := k', val := v', born := clock }) (clock + 1)) } := by
  have hget : (getObj rb).run P w = .ok (.map ents clock) w := by simp [getObj, Sem.run, hw]
  have hset : ∀ o, (setObj rb o).run P w = .ok () { w with heap := w.heap.setIfInBounds rb o } := fun o => by simp [setObj, Sem.run, hw]
  unfold Instr.mapUpdate
  rw [Sem.run_bind, run_under hu]
  simp only [Result.andThen, Sem.run_bind, Sem.run_pure, hget]
  rw [run_checkKey hd hdk]
  simp only [Instr.findKey, Sem.run_bind, run_under hd, Result.andThen, hn, Sem.run_pure]
  cases r with
  | none => simp only [hset]
  | some p =>
    obtain ⟨i, x⟩ := p
    simp only [Sem.run_bind, Instr.keyThatStays, hs i x rfl, if_true, Sem.run_pure, Result.andThen, hset]

theorem sameBits_key {d : TypeDesc} {a b : Value} (hd : (∃ k, d = .int k) ∨ d = .string) (h : Instr.sameNow d a b = some true) : Instr.sameBits 10000 b a = true := by
  unfold Instr.sameNow at h
  split at h
  · split at h
    · rename_i e; subst e; simp at h; subst h; unfold Instr.sameBits; simp
    · cases h
  · simp only [Option.some.injEq] at h
    rw [MapKept.bytes_beq] at h; subst h
    unfold Instr.sameBits; exact (MapKept.bytes_beq _ _).2 rfl
  · simp at h; subst h; unfold Instr.sameBits; simp
  · cases h

theorem mput_out {ty key elem : TypeId} {m k v : AV} {m' k' v' : Value} {d : TypeDesc} (h : Sim w0 pins ρ st w) (hm : VRel ρ m m') (hk : VRel ρ k k') (hv : VRel ρ v v') (hu : P.underlying ty = some (.map key elem)) (hd : P.underlying key = some d)
    (hdk : (∃ k, d = .int k) ∨ d = .string) {tk : TK} (hf : ∀ k, keyOk tk k = true → keyFits d k = true) (hK : Mput tk st m k v K) :
    Out P w0 pins ρ w (do Instr.mapUpdate ty m' k' v'; pure .skip) K := by
  cases m with
  | map b =>
    obtain ⟨⟨es, bs, clock⟩, he, hkk, hK⟩ := OptK_iff.1 hK
    obtain ⟨r, hr, hK⟩ := OptK_iff.1 hK
    obtain ⟨rb, ro, rs, ents, hx, hw, hbase, h1, h2, h3⟩ := h.mapFull he
    cases hm with
    | map e =>
      rw [hx] at e; cases e
      rcases findNow_of (hf _ hkk) hk 0 h1 h2 hr with ⟨rfl, hn⟩ | ⟨v0, j, v0', e, rfl, hn, hvr, hj, hke, _, hsame, hput, _, hjl⟩
      · obtain ⟨ho, hat⟩ := Only.setObj (o' := .map (ents.push { key := k', val := v', born := clock }) (clock + 1)) hw
        refine Out.unit (mu_run hu hd hdk hw hn (fun i x e => by cases e)) (.refl _) (h.upd (St.mapFull_of he) rfl hx ho (fun _ => ?_)) hK
        refine ⟨_, hat, hbase, ?_, ?_, ?_⟩
        · simpa using h1.append (VRels.cons hk .nil)
        · simpa using h2.append (VRels.cons hv .nil)
        · simp [h3]
      · have hjl' : j < ents.size := by have := (List.getElem?_eq_some_iff.1 hj).1; simpa using this
        obtain ⟨ho, hat⟩ := Only.setObj (o' := .map (ents.modify j fun e => { e with key := k', val := v' }) clock) hw
        have hjj : ents[j]? = some e := by simpa using hj
        have hje : ents[j] = e := (Array.getElem?_eq_some_iff.1 hjj).2
        have hn' : Instr.findNow d k' ents.toList 0 = some (some (j, v0')) := by rw [hn]; simp
        refine Out.unit (mu_run hu hd hdk hw hn' (fun i x e' => ?_)) (.refl _) (h.upd (St.mapFull_of he) rfl hx ho (fun _ => ?_)) hK
        · cases e'; simp only [hjj, Option.map_some, Option.getD_some]; exact sameBits_key hdk hsame
        have hmod : (ents.modify j fun e => { e with key := k', val := v' }).toList = ents.toList.set j { e with key := k', val := v' } := by
          apply List.ext_getElem?; intro i
          by_cases hi : j = i
          · subst hi; simp [Array.getElem?_modify, hjj, hjl', hje]
          · simp [Array.getElem?_modify, hi, List.getElem?_set]
        refine ⟨_, hat, hbase, ?_, ?_, ?_⟩
        · rw [hput, hmod, List.map_set, List.map_set]; exact h1.set j hk
        · rw [hput, hmod, List.map_set, List.map_set]; exact h2.set j hv
        · rw [hmod, List.map_set]
          have : (ents.toList.map (·.born)).set j e.born = ents.toList.map (·.born) := by
            apply List.ext_getElem?; intro i
            rw [List.getElem?_set]
            split
            · rename_i hi; subst hi; simp [hjj, hjl', hje]
            · rfl
          rw [this]; exact h3
  | _ => exact hK.elim

/-! ### All of them -/
theorem run_build_struct {ty : TypeId} {fields : Array Field} {parts : Array (Nat × Value)} {z : Value} {out : Array Value} (hu : P.underlying ty = some (.struct fields)) (hz : (zeroValue ty).run P w = .ok z w)
    (hf : fields.all (fun f => tyHas P f.type) = true) (ho : Instr.fill (fun i : Nat => (places P fields)[i]?) z.cells parts.toList = some out) : (Instr.build ty parts).run P w = .ok (.agg out) w := by
  unfold Instr.build
  have hp := run_places (P := P) (w := w) fields hf
  simp only [Sem.run_bind, hz, Result.andThen, run_under hu]
  rw [hp]
  have e : (fun i : Nat => ((places P fields).toArray)[i]?) = fun i : Nat => (places P fields)[i]? := by funext i; simp
  simp only [e, ho, Sem.run_pure]

theorem run_build_array {ty elem : TypeId} {n : Nat} {parts : Array (Nat × Value)} {z : Value} {out : Array Value} (hu : P.underlying ty = some (.array n elem)) (hz : (zeroValue ty).run P w = .ok z w)
    (hs : tyHas P elem = true) (ho : Instr.fill (fun i => some (i * tySize P elem, tySize P elem)) z.cells parts.toList = some out) : (Instr.build ty parts).run P w = .ok (.agg out) w := by
  unfold Instr.build
  simp only [Sem.run_bind, hz, Result.andThen, run_under hu, run_size hs, ho, Sem.run_pure]

theorem run_buildSlice {ty elem : TypeId} {n : Nat} {parts : Array (Nat × Value)} {z : Value} {out : Array Value} (hu : P.underlying ty = some (.slice elem)) (hz : (zeroValue elem).run P w = .ok z w)
    (hs : tyHas P elem = true) (hn : n * tySize P elem ≤ 2 ^ 24) (ho : Instr.fill (fun i => some (i * tySize P elem, tySize P elem)) (((List.range (n * tySize P elem)).map fun i => z.cells.toList[i % z.cells.toList.length]!).toArray) parts.toList = some out) :
    (Instr.buildSlice ty n parts).run P w = .ok (.slice (some ⟨w.heap.size, 0, none⟩) n n) (w.alloc (.cells out elem)) := by
  unfold Instr.buildSlice
  have hn' : ¬ n * tySize P elem > 2 ^ 24 := by omega
  simp only [Sem.run_bind, Result.andThen, run_under hu, run_size hs, Sem.run_pure, hn', if_false]
  have e1 : ((Array.range (n * tySize P elem)).map fun i => z.cells[i % z.cells.size]!) = ((List.range (n * tySize P elem)).map fun i => z.cells.toList[i % z.cells.toList.length]!).toArray := by
    apply Array.ext'
    simp [Array.toList_range]
    intro a _; rw [getElem!_def]; cases z.cells[a % z.cells.size]? <;> rfl
  by_cases h0 : n * tySize P elem = 0
  · have e0 : out = #[] ∨ True := .inr trivial
    simp only [h0, if_true, Sem.run_pure, Sem.run_bind, Result.andThen]
    simp only [h0, List.range_zero, List.map_nil] at ho
    simp only [show Array.range 0 = #[] from rfl, List.map_toArray, List.map_nil]
    rw [show (List.toArray [] : Array Value) = #[] from rfl] at ho
    simp only [ho, Sem.run_bind, newRow, newObj, Sem.run, Result.andThen, Sem.run_pure, World.alloc_eq]
  · simp only [h0, if_false, Sem.run_bind, hz, Result.andThen, Sem.run_pure, e1, ho, newRow, newObj, Sem.run, World.alloc_eq]

theorem isNone_map {α β} (o : Option α) (f : α → β) : (o.map f).isNone = o.isNone := by cases o <;> rfl


/-! ### Iterators -/
theorem run_getObj {r : Nat} {mr since seen last} (hw : w.heap[r]? = some (.mapIter mr since seen last)) : (getObj r).run P w = .ok (.mapIter mr since seen last) w := by simp [getObj, Sem.run, hw]
theorem run_getMap {r : Nat} {ents clock} (hw : w.heap[r]? = some (.map ents clock)) : (getObj r).run P w = .ok (.map ents clock) w := by simp [getObj, Sem.run, hw]

theorem rng_out {ty key elem : TypeId} {m : AV} {m' : Value} (h : Sim w0 pins ρ st w) (hm : VRel ρ m m') (hu : P.underlying ty = some (.map key elem)) (hK : Rng st m K) :
    Out P w0 pins ρ w (do pure (.value (← Instr.range ty m'))) K := by
  have fin : ∀ (mr : Option Nat) (ab : Option Nat) (clock : Nat), (ab = none → mr = none) → (∀ b, ab = some b → ∃ x, ρ.blk b = some x ∧ mr = some x.1) → K (.ptr st.hp.length 0) (st.push (.iter ab clock [] clock)) →
      (Instr.range ty m').run P w = .ok (.pointer (some ⟨w.heap.size, 0, none⟩)) (w.alloc (.mapIter mr clock #[] clock)) → Out P w0 pins ρ w (do pure (.value (← Instr.range ty m'))) K := by
    intro mr ab clock e1 e2 hk hr
    refine Out.valW hr (h.ext_le (w.heap.size, 0, 0)) (h.alloc (.iter ab clock [] clock) (.mapIter mr clock #[] clock) 0 ⟨mr, by rw [heap_alloc_at], h.below.size, rfl, e1, fun b hb => ?_⟩) ?_ hk
    · obtain ⟨x, hx, hm⟩ := e2 b hb
      exact ⟨x, (h.ext_le _).blk _ _ hx, hm⟩
    · exact .ptr (Ren.ext_at ..)
  cases m with
  | nilm =>
    cases hm
    refine fin none none 0 (fun _ => rfl) (fun b hb => by cases hb) hK ?_
    simp [Instr.range, Sem.run_bind, run_under hu, newObj, Sem.run, Result.andThen, Sem.run_pure, World.alloc_eq]
  | map b =>
    obtain ⟨⟨es, bs, clock⟩, he, hK⟩ := OptK_iff.1 hK
    obtain ⟨rb, ro, rs, ents, hx, hw, _⟩ := h.mapFull he
    cases hm with
    | map e =>
      rw [hx] at e; cases e
      refine fin (some rb) (some b) clock (fun hh => by cases hh) (fun b' hb => by cases hb; exact ⟨_, hx, rfl⟩) hK ?_
      simp [Instr.range, Sem.run_bind, run_under hu, getObj, newObj, Sem.run, Result.andThen, Sem.run_pure, World.alloc_eq, hw]
  | _ => exact hK.elim

theorem Sim.iterAt (h : Sim w0 pins ρ st w) {r m since seen last} (hr : st.iterAt r = some (m, since, seen, last)) : ∃ rb rs mr, ρ.blk r = some (rb, 0, rs) ∧ w.heap[rb]? = some (.mapIter mr since seen.toArray last) ∧ w0.heap.size ≤ rb ∧
    (m = none → mr = none) ∧ (∀ b, m = some b → ∃ x, ρ.blk b = some x ∧ mr = some x.1) ∧ st.hp[r]? = some (.iter m since seen last) := by
  have hb : st.hp[r]? = some (.iter m since seen last) := by
    unfold St.iterAt at hr; split at hr <;> simp_all
  obtain ⟨⟨rb, ro, rs⟩, hx, mr, h1, h2, rfl, h4, h5⟩ := h.blk r _ hb (by simp)
  exact ⟨rb, rs, mr, hx, h1, h2, h4, h5, hb⟩

theorem choose_next (n : Nat) (hn : 0 < n) : ∃ c w', c < n ∧ (choose (.mapNext n)).run P w = .ok c w' ∧ (w' = w ∨ w' = w.drew) := by
  rw [run_choose_drew]
  by_cases hf : (Question.mapNext n).forced = true
  · rw [if_pos hf]; exact ⟨0, w, hn, rfl, .inl rfl⟩
  · rw [if_neg hf]; exact ⟨_, w.drew, Nat.mod_lt _ hn, rfl, .inr rfl⟩

theorem nxt_out {ty : TypeId} {it : AV} {it' : Value} (h : Sim w0 pins ρ st w) (hi : VRel ρ it it') (hK : Nxt st it K) : Out P w0 pins ρ w (do pure (.value (← Instr.next it' false ty))) K := by
  cases it with
  | ptr r o =>
    cases o with
    | succ o => exact hK.elim
    | zero =>
    obtain ⟨⟨m, since, seen, last⟩, hr, hK⟩ := OptK_iff.1 hK
    obtain ⟨rb, rs, mr, hx, hw, hbase, hm1, hm2, hhp⟩ := h.iterAt hr
    cases hi with
    | ptr e =>
    rw [hx] at e; cases e
    cases m with
    | none =>
      obtain rfl := hm1 rfl
      refine Out.val h (v' := .tuple #[.bool false]) ?_ (VRel.tup_iff.2 (.cons (.bool _) .nil)) hK
      simp [Instr.next, Sem.run_bind, run_getObj hw, Result.andThen]
    | some b =>
      obtain ⟨⟨es, bs, clock⟩, he, hlt, hover, hgo⟩ := OptK_iff.1 hK
      obtain ⟨mb, mo, ms, ents, hxm, hwm, _, hk, hv, hbs⟩ := h.mapFull he
      obtain ⟨x, hxb, rfl⟩ := hm2 b rfl
      rw [hxm] at hxb; cases hxb
      simp only at hlt hover hgo
      have hold : ∀ e ∈ ents, e.born < since ∧ e.born < last := fun e hmem => hlt e.born (by rw [← hbs]; exact List.mem_map.2 ⟨e, by simpa using hmem, rfl⟩)
      have hnot : (!seen.toArray.isEmpty && !ents.isEmpty && ents.all (fun e => decide (e.born ≥ last))) = false := by
        rw [Bool.eq_false_iff]
        intro hh
        simp only [Bool.and_eq_true, Array.all_eq_true_iff_forall_mem, decide_eq_true_eq, Bool.not_eq_true', Array.isEmpty_eq_false_iff] at hh
        obtain ⟨⟨_, hne⟩, hall⟩ := hh
        obtain ⟨e, hmem⟩ := Array.exists_mem_of_ne_empty _ hne
        have := hold e hmem
        have := hall e hmem
        omega
      have hfo : (ents.filter fun e => !seen.toArray.contains e.born).filter (fun e => decide (e.born < since)) = ents.filter fun e => !seen.toArray.contains e.born := by
        apply Array.filter_eq_self.2
        intro e hmem
        simpa using (hold e (Array.mem_filter.1 hmem).1).1
      have hfn : (ents.filter fun e => !seen.toArray.contains e.born).filter (fun e => decide (e.born ≥ since)) = #[] := by
        apply Array.filter_eq_empty_iff.2
        intro e hmem
        have := (hold e (Array.mem_filter.1 hmem).1).1
        simp; omega
      generalize hL : ents.filter (fun e => !seen.toArray.contains e.born) = L at hfo hfn
      have hrun0 : ∀ (c : Nat) (w1 : World), (choose (.mapNext ((if L.isEmpty then #[none] else #[]) ++ L.map some).size)).run P w = .ok c w1 →
          (Instr.next (.pointer (some ⟨rb, 0 + 0, none⟩)) false ty).run P w = (match ((if L.isEmpty then #[none] else #[]) ++ L.map some)[c]? with
            | some (some e) => (do setObj rb (.mapIter (some mb) since (seen.toArray.push e.born) clock); pure (.tuple #[.bool true, e.key, e.val]) : Sem Value)
            | some none => pure (.tuple #[.bool false])
            | none => stuck "Next: no such candidate").run P w1 := by
        intro c w1 hc
        simp only [Instr.next, Sem.run_bind, run_getObj hw, Result.andThen, run_getMap hwm, hnot, Bool.false_eq_true, if_false, hL, hfo, hfn, Array.append_empty, hc]
        rfl
      by_cases hLe : L = #[]
      · subst hLe
        refine Out.val h (v' := .tuple #[.bool false]) ?_ (VRel.tup_iff.2 (.cons (.bool _) .nil)) (hover fun s hs => ?_)
        · rw [hrun0 0 w (by rw [run_choose_drew, if_pos (by simp [Question.forced])])]; simp
        · rw [← hbs] at hs
          obtain ⟨e, hmem, rfl⟩ := List.mem_map.1 hs
          have hnm : e ∉ ents.filter (fun e => !seen.toArray.contains e.born) := by rw [hL]; simp
          rw [Array.mem_filter] at hnm
          simp at hnm
          exact hnm (by simpa using hmem)
      · have hpos : 0 < L.size := Array.size_pos_iff.2 hLe
        have hcand : ((if L.isEmpty then #[none] else #[]) ++ L.map some : Array (Option MapEntry)) = L.map some := by
          have : L.isEmpty = false := by simpa using hLe
          simp [this]
        rw [hcand] at hrun0
        obtain ⟨c, w1, hc, hch, hw1⟩ := choose_next (P := P) (w := w) (L.map some).size (by simpa using hpos)
        have hcl : c < L.size := by simpa using hc
        have hmemL : L[c] ∈ ents.filter (fun e => !seen.toArray.contains e.born) := by rw [hL]; exact Array.getElem_mem hcl
        obtain ⟨hme, hms⟩ := Array.mem_filter.1 hmemL
        obtain ⟨i, hi, hie⟩ := Array.getElem_of_mem hme
        have hs1 : Sim w0 pins ρ st w1 := by rcases hw1 with rfl | rfl <;> first | exact h | exact h.drew
        have hw1' : w1.heap[rb]? = some (.mapIter (some mb) since seen.toArray last) := by rcases hw1 with rfl | rfl <;> exact hw
        obtain ⟨ho, hat⟩ := Only.setObj (o' := .mapIter (some mb) since (seen.toArray.push L[c].born) clock) hw1'
        have hki : es.length = ents.size := by have := hk.len; simpa using this
        have hie' : i < es.length := by omega
        have g1 := hk.at_ i (by simpa using hie')
        have g2 := hv.at_ i (by simpa using hie')
        have hsome : ents[i]? = some L[c] := by rw [Array.getElem?_eq_getElem hi, hie]
        refine ⟨.tuple #[.bool true, L[c].key, L[c].val], _, ρ, .tup [.bool true, es[i].1, es[i].2], _, .inl ?_, .refl _,
          hs1.upd (k' := .iter (some b) since (seen ++ [L[c].born]) clock) hhp rfl hx ho (fun _ => ⟨some mb, by rw [hat]; simp, hbase, rfl, (fun hh => by cases hh), fun b' hb' => by cases hb'; exact ⟨_, hxm, rfl⟩⟩), ?_, hgo i _ _ L[c].born (by simp [hie']) ?_ ?_⟩
        · have hset : ∀ o, (setObj rb o).run P w1 = .ok () { w1 with heap := w1.heap.setIfInBounds rb o } := fun o => by simp [setObj, Sem.run, hw1']
          rw [Sem.run_bind, hrun0 c w1 hch]
          simp [hcl, Sem.run_bind, hset, Result.andThen]
        · refine VRel.tup_iff.2 (.cons (.bool _) (.cons ?_ (.cons ?_ .nil)))
          · simpa [List.getD, hie', hsome] using g1
          · simpa [List.getD, hie', hsome] using g2
        · rw [← hbs]; simp [hsome]
        · simpa using hms
  | _ => exact hK.elim

theorem run_choose_cap (need cap : Nat) (e : TypeId) (hn : need < 2 ^ 63) : ∃ c, need ≤ c ∧ (choose (.appendCap need cap e)).run P w = .ok c w.drew := by
  refine ⟨(Question.appendCap need cap e).cut (w.tape w.drawn (.appendCap need cap e)), by simp [Question.cut], ?_⟩
  rfl

theorem ent_out {it : AV} {it' : Value} (h : Sim w0 pins ρ st w) (hi : VRel ρ it it') (hK : Ent st it fun v => K v st) : Out P w0 pins ρ w (do pure (.value (← Instr.entry it'))) K := by
  cases it with
  | ptr r o =>
    cases o with
    | succ o => exact hK.elim
    | zero =>
    obtain ⟨⟨m, since, seen, last⟩, hr, hK⟩ := OptK_iff.1 hK
    obtain ⟨rb, rs, mr, hx, hw, hbase, hm1, hm2, hhp⟩ := h.iterAt hr
    cases hi with
    | ptr e =>
    rw [hx] at e; cases e
    cases m with
    | none => exact hK.elim
    | some b =>
      obtain ⟨⟨es, bs, clock⟩, he, hcl, hK⟩ := OptK_iff.1 hK
      obtain ⟨s, hs, hK⟩ := OptK_iff.1 hK
      obtain ⟨i, hi, hK⟩ := OptK_iff.1 hK
      obtain ⟨e, hei, hKK⟩ := OptK_iff.1 hK
      obtain ⟨mb, mo, ms, ents, hxm, hwm, _, hk, hv, hbs⟩ := h.mapFull he
      obtain ⟨x, hxb, rfl⟩ := hm2 b rfl
      rw [hxm] at hxb; cases hxb
      simp only at hcl hs hi hei
      subst hcl
      have hil : i < es.length := (List.getElem?_eq_some_iff.1 hei).1
      have hki : es.length = ents.size := by have := hk.len; simpa using this
      have hie : i < ents.size := by omega
      rw [List.idxOf?_eq_some_iff] at hi
      obtain ⟨hib, hbi, hfirst⟩ := hi
      have hborn : ∀ j, (hj : j < ents.size) → bs[j]? = some ents[j].born := fun j hj => by rw [← hbs]; simp [hj]
      have hfind : ents.find? (fun x => x.born == s) = some ents[i] := by
        rw [Array.find?_eq_some_iff_getElem]
        refine ⟨?_, i, hie, rfl, fun j hj => ?_⟩
        · have h1 := hborn i hie
          rw [List.getElem?_eq_getElem hib, Option.some.injEq] at h1
          rw [← h1]; exact beq_iff_eq.2 hbi
        · have hjb : j < bs.length := by omega
          have h1 := hborn j (by omega)
          rw [List.getElem?_eq_getElem hjb, Option.some.injEq] at h1
          have h2 := hfirst j hj
          rw [← h1]
          simpa using h2
      have g1 := hk.at_ i (by simpa using hil)
      have g2 := hv.at_ i (by simpa using hil)
      have hee : es[i] = e := (List.getElem?_eq_some_iff.1 hei).2
      have hback : seen.toArray.back? = some s := by simpa using hs
      refine Out.val h (v' := .tuple #[ents[i].key, ents[i].val]) ?_ (VRel.tup_iff.2 (.cons ?_ (.cons ?_ .nil))) hKK
      · simp [Instr.entry, Sem.run_bind, run_getObj hw, Result.andThen, hback, run_getMap hwm, hfind]
      · rw [← hee]; simpa [List.getD, hil, hie] using g1
      · rw [← hee]; simpa [List.getD, hil, hie] using g2
  | _ => exact hK.elim

theorem freeze_alloc (w : World) (c : Array Value) (e : TypeId) (n : Nat) : (w.alloc (.cells c e (0, 0))).freeze { block := w.heap.size, off := n } 1 = w.alloc (.cells c e (n, n + 1)) := by
  rw [← World.alloc_eq, ← World.alloc_eq]
  unfold World.freeze
  simp only [Nat.one_ne_zero, if_false]
  congr 1
  apply Array.ext
  · simp
  · intro i h1 h2
    rw [Array.getElem_modify]
    simp only [Array.getElem_push]
    by_cases hi : i < w.heap.size
    · rw [if_neg (by omega)]; simp [hi]
    · have : i = w.heap.size := by simp at h2; omega
      subst this; simp

theorem VRels.maps {α : Type} {f : α → AV} {g : α → Value} (h : ∀ x, VRel ρ (f x) (g x)) : ∀ l : List α, VRels ρ (l.map f) (l.map g)
  | [] => .nil
  | x :: l => .cons (h x) (VRels.maps h l)

theorem tobytes_out {src dst elem : TypeId} {x : AV} {x' : Value} (h : Sim w0 pins ρ st w) (hx : VRel ρ x x') (hs : P.underlying src = some .string) (hd : P.underlying dst = some (.slice elem)) (he : isU8 P elem = true) (hK : ToBytes st x K) :
    Out P w0 pins ρ w (do pure (.value (← convert src dst x'))) K := by
  have hel : P.underlying elem = some (.int .u8) := by
    unfold isU8 at he; split at he
    · assumption
    · cases he
  cases x with
  | str s =>
    obtain ⟨b, rfl, rfl⟩ := hx.str_inv
    obtain ⟨hlen, hK⟩ := hK
    have hsz : b.data.toList.length = b.size := by simp
    obtain ⟨c, hc, hrun⟩ := run_choose_cap (P := P) (w := w) b.size 0 elem (by omega)
    have hcells : (b.data.map fun (b : UInt8) => Value.int .u8 b.toNat).size = b.size := by simp
    refine Out.valW (v' := .slice (some ⟨w.drew.heap.size, 0, none⟩) b.size c)
      (w' := w.drew.alloc (.cells ((b.data.map fun (b : UInt8) => Value.int .u8 b.toNat) ++ Array.replicate (c - b.size) (.int .u8 0)) elem (c, c + 1))) ?_ (h.drew.ext_le (w.drew.heap.size, 0, c))
      (h.drew.alloc (.cells true (b.data.toList.map fun c => .int .u8 c.toNat)) _ c ⟨_, elem, (c, c + 1), heap_alloc_at .., by simp; omega, by simp; omega, ?_, fun hh => by cases hh⟩) ?_ hK
    · have hsh : ∀ c', ((w.drew.alloc (.cells c' elem (0, 0)))).shape? w.drew.heap.size = some (elem, c'.size) := by
        intro c'
        have := heap_alloc_at w.drew (.cells c' elem (0, 0))
        simp only [World.shape?, this]
      have hnew : ∀ c', (newRow elem c').run P w.drew = .ok ⟨w.drew.heap.size, 0, none⟩ (w.drew.alloc (.cells c' elem (0, 0))) := fun c' => by
        rw [← World.alloc_eq]; rfl
      have hsz2 : ((b.data.map fun (b : UInt8) => Value.int .u8 b.toNat) ++ Array.replicate (c - b.size) (Value.int .u8 0)).size = c := by simp; omega
      simp only [convert, Sem.run_bind, run_under hs, run_under hd, Result.andThen, run_under hel, Conv.stringToBytes, hrun, hnew, markStringish, run_shape, hsh, hsz2, run_freeze, freeze_alloc, Sem.run_pure]
    · have e : ((((b.data.map fun (b : UInt8) => Value.int .u8 b.toNat) ++ Array.replicate (c - b.size) (Value.int .u8 0)).toList.drop 0).take (b.data.toList.map fun c => AV.int .u8 c.toNat).length) = b.data.toList.map fun (b : UInt8) => Value.int .u8 b.toNat := by
        simp
      rw [e]
      exact VRels.maps (fun x => .int _ _) _
    · have := VRel.slice (ρ := ρ.ext st.hp.length (w.drew.heap.size, 0, c)) (o := 0) (len := b.size) (cap := b.size) (ex := false) (esz := 1) (a := ⟨w.drew.heap.size, 0, none⟩) (cap' := c)
          (Ren.ext_at ρ st.hp.length (w.drew.heap.size, 0, c)) (Nat.le_refl _) hc (fun hh => by cases hh) (fun _ => rfl) (fun _ => by simp)
      rw [hsz]; exact this
  | _ => exact hK.elim

theorem gop_out {o : Oper} {t : List AV} {a : Act} (h : Sim w0 pins ρ st w) (ht : TRel ρ t a.tmps) (hk : gop P o.op t st K) : Out P w0 pins ρ w (execOp a.eval o) K := by
  obtain ⟨dst, op, type, pos, after, guard⟩ := o
  simp only at hk
  cases op <;> simp only [gop] at hk <;> try exact hk.elim
  case move x => exact ⟨a.eval x, w, ρ, _, st, .inl rfl, .refl _, h, aev_rel ht x, hk⟩
  case assign x => exact ⟨a.eval x, w, ρ, _, st, .inl rfl, .refl _, h, aev_rel ht x, hk⟩
  case pick c x y =>
    unfold AsBool at hk
    split at hk
    · rename_i d hd
      have hc := aev_rel ht c
      rw [hd] at hc
      have hc' := hc.bool_inv
      exact ⟨if d then a.eval x else a.eval y, w, ρ, _, st, .inl (by simp only [execOp, Sem.run_bind, hc', asBool, Sem.run_pure, Result.andThen]), .refl _, h, pick_rel (aev_rel ht x) (aev_rel ht y) d, hk⟩
    · exact hk.elim
  case alloc elem =>
    obtain ⟨z, hz, hk⟩ := OptK_iff.1 hk
    obtain ⟨z', hz', rfl⟩ := tyZero_run (P := P) (w := w) hz
    refine new_out (c := z'.cells) (elem := elem) h (absVal_cells ρ z') ?_ hk
    simp only [Instr.alloc, Sem.run_bind, hz', Result.andThen, run_newVar, Sem.run_pure]
  case box elem x =>
    obtain ⟨cs, hc, hk⟩ := OptK_iff.1 hk
    refine new_out (c := (a.eval x).cells) (elem := elem) h (cellsOk_rel (aev_rel ht x) hc) ?_ hk
    simp only [Instr.box, Sem.run_bind, Result.andThen, run_newVar, Sem.run_pure]
  case build ty parts =>
    obtain ⟨hp1, hp2⟩ := parts_rel ht parts.toList
    have hpe : (parts.map fun (i, x) => (i, a.eval x)).toList = parts.toList.map fun (i, x) => (i, a.eval x) := by simp
    split at hk
    · rename_i fields hu
      obtain ⟨z, hz, hk1⟩ := OptK_iff.1 hk
      clear hk
      obtain ⟨z', hz', rfl⟩ := tyZero_run (P := P) (w := w) hz
      obtain ⟨hch, hk2⟩ := Chk_iff.1 hk1
      obtain ⟨out, ho, hk⟩ := OptK_iff.1 hk2
      obtain ⟨out', ho', hr, _⟩ := fill_rel hp1 hp2 (absVal_cells ρ z') ho
      exact Out.val h (run_build_struct hu hz' hch (by rw [hpe]; exact ho')) (VRel.agg_iff.2 hr) hk
    · rename_i n elem hu
      obtain ⟨z, hz, hk1⟩ := OptK_iff.1 hk
      clear hk
      obtain ⟨z', hz', rfl⟩ := tyZero_run (P := P) (w := w) hz
      obtain ⟨hch, hk2⟩ := Chk_iff.1 hk1
      obtain ⟨out, ho, hk⟩ := OptK_iff.1 hk2
      obtain ⟨out', ho', hr, _⟩ := fill_rel hp1 hp2 (absVal_cells ρ z') ho
      exact Out.val h (run_build_array hu hz' hch (by rw [hpe]; exact ho')) (VRel.agg_iff.2 hr) hk
    · exact hk.elim
  case buildSlice ty n parts =>
    obtain ⟨hp1, hp2⟩ := parts_rel ht parts.toList
    have hpe : (parts.map fun (i, x) => (i, a.eval x)).toList = parts.toList.map fun (i, x) => (i, a.eval x) := by simp
    split at hk
    · rename_i elem hu
      obtain ⟨z, hz, hk1⟩ := OptK_iff.1 hk
      clear hk
      obtain ⟨z', hz', rfl⟩ := tyZero_run (P := P) (w := w) hz
      obtain ⟨hch, hk2⟩ := Chk_iff.1 hk1
      obtain ⟨out, ho, hk⟩ := OptK_iff.1 hk2
      simp only [Bool.and_eq_true, decide_eq_true_eq] at hch
      obtain ⟨⟨⟨hs, hn⟩, hzl⟩, hpos⟩ := hch
      have hz0 := zeroRow_rel (absVal_cells ρ z') (n * tySize P elem) (by omega)
      obtain ⟨out', ho', hr, hlo⟩ := fill_rel (cells' := ((List.range (n * tySize P elem)).map fun i => z'.cells.toList[i % z'.cells.toList.length]!).toArray) hp1 hp2 (by simpa using hz0) ho
      have hrun := run_buildSlice (P := P) (w := w) (n := n) (parts := parts.map fun (i, x) => (i, a.eval x)) hu hz' hs hn (by rw [hpe]; exact ho')
      have hlen : out.length = out'.size := by simpa using hr.len
      have hol : out.length = n * tySize P elem := by rw [hlo]; simp [zeroRow]
      refine Out.valW hrun (h.ext_le _) (h.allocCells (cs := out) (c := out') elem ?_ (by omega)) ?_ hk
      · rw [show out'.toList.take out.length = out'.toList from List.take_of_length_le (by simp [hlen])]; exact hr
      · have := VRel.slice (ρ := ρ.ext st.hp.length (w.heap.size, 0, out'.size)) (o := 0) (len := n) (cap := n) (ex := true) (esz := tySize P elem) (a := ⟨w.heap.size, 0, none⟩) (cap' := n)
          (Ren.ext_at ρ st.hp.length (w.heap.size, 0, out'.size)) (Nat.le_refl _) (Nat.le_refl _) (fun _ => rfl) (fun _ => rfl) (fun hh => by cases hh)
        exact this
    · exact hk.elim
  case load ty x =>
    obtain ⟨g, hg, hk⟩ := OptK_iff.1 hk
    obtain ⟨hs, hk⟩ := Chk_iff.1 hk
    exact load_out h (aev_rel ht x) hg hs hk
  case store ty x v =>
    obtain ⟨hs, hk⟩ := Chk_iff.1 hk
    exact store_out h (aev_rel ht x) (aev_rel ht v) hs hk
  case nilCheck x =>
    exact nil_out (g := fun v => execOp (fun _ => v) ⟨dst, .nilCheck x, type, pos, after, guard⟩) h (aev_rel ht x) hk (fun _ => rfl) (fun _ _ _ => rfl) (fun _ _ _ => rfl) (fun _ => rfl)
  case binOp op ty x y yty =>
    obtain ⟨hc, hk⟩ := Chk_iff.1 hk
    obtain ⟨v, hv, hk⟩ := OptK_iff.1 hk
    exact binOp_out x y h (aev_rel ht x) (aev_rel ht y) rfl hc hv hk
  case unOp op ty x =>
    obtain ⟨v, hv, hk⟩ := OptK_iff.1 hk
    exact un_out h (aev_rel ht x) hv hk
  case convert src dst' x =>
    have hx := aev_rel ht x
    split at hk
    · rename_i k0 k n0 n hu1 hu2 hv
      rw [hv] at hx
      refine Out.val (v' := .int k (k.wrap n)) h ?_ (.int _ _) hk
      simp only [convert, Sem.run_bind, run_under hu1, run_under hu2, Result.andThen, hx.int_inv, Conv.intToInt, Sem.run_pure]
    · rename_i s hu1 hu2 hv
      rw [hv] at hx
      obtain ⟨b, hb, rfl⟩ := hx.str_inv
      refine Out.val (v' := .string b) h ?_ (.str b) hk
      simp only [convert, Sem.run_bind, run_under hu1, run_under hu2, Result.andThen, hb, Sem.run_pure]
    · rename_i e hu1 hu2
      obtain ⟨he, hk⟩ := Chk_iff.1 hk
      exact tobytes_out h hx hu1 hu2 he hk
    · exact hk.elim
  case makeFunc fn first cap =>
    cases fn <;> simp only at hk <;> try exact hk.elim
    refine Out.val (v' := .func _ (first.map a.eval) (cap.map a.eval)) h rfl (VRel.func_iff.2 ⟨rfl, ?_, ?_⟩) hk
    · simpa using aevs_rel ht first.toList
    · simpa using aevs_rel ht cap.toList
  case makeMap ty r =>
    cases r <;> simp only at hk <;> try exact hk.elim
    refine Out.valW (v' := .map (some w.heap.size)) (w' := w.alloc (.map #[] 0)) ?_ (h.ext_le (w.heap.size, 0, 0)) (h.alloc (.amap [] [] 0) (.map #[] 0) 0 ⟨#[], heap_alloc_at .., h.below.size, by simpa using VRels.nil, by simpa using VRels.nil, by simp⟩) ?_ hk
    · simp [Instr.makeMap, Sem.run_bind, newObj, Sem.run, Result.andThen, Sem.run_pure, World.alloc_eq]
    · exact .map (Ren.ext_at ..)
  case slice ty x lo hi mx =>
    split at hk
    · rename_i hu
      obtain ⟨hm, hk⟩ := Chk_iff.1 hk
      split at hk
      · rename_i s hv
        obtain ⟨l, hl, hk⟩ := OptK_iff.1 hk
        obtain ⟨r, hr, hk⟩ := OptK_iff.1 hk
        obtain ⟨v, hvv, hk⟩ := OptK_iff.1 hk
        have hx := aev_rel ht x
        rw [hv] at hx
        have hmx : mx.map a.eval = none := by cases mx <;> simp_all
        show Out P w0 pins ρ w (do pure (.value (← Instr.sliceAt ty (a.eval x) (lo.map a.eval) (hi.map a.eval) (mx.map a.eval)))) K
        rw [hmx]
        exact slice_str_out h hx hu (optInt_rel ht hl) (optInt_rel ht hr) hvv hk
      · exact hk.elim
    · rename_i elem hu
      obtain ⟨hm, hk⟩ := Chk_iff.1 hk
      simp only [Bool.and_eq_true, Bool.or_eq_true] at hm
      obtain ⟨l, hl, hk⟩ := OptK_iff.1 hk
      obtain ⟨r, hr, hk⟩ := OptK_iff.1 hk
      obtain ⟨m, hmm, hk⟩ := OptK_iff.1 hk
      obtain ⟨v, hvv, hk⟩ := OptK_iff.1 hk
      exact slice_sl_out h (aev_rel ht x) hu hm.1 (by cases mx <;> cases hi <;> simp_all) (optInt_rel ht hl) (optInt_rel ht hr) (optInt_rel ht hmm) hvv hk
    · exact hk.elim
  case fieldAddr ty x i =>
    split at hk
    · rename_i fields hu
      obtain ⟨f, hf, hk⟩ := OptK_iff.1 hk
      obtain ⟨hc, hk⟩ := Chk_iff.1 hk
      simp only [Bool.and_eq_true, decide_eq_true_eq] at hc
      exact faddr_out h (aev_rel ht x) hu hf hc.1 hc.2 hk
    · exact hk.elim
  case field ty x i =>
    split at hk
    · rename_i fields hu
      obtain ⟨f, hf, hk⟩ := OptK_iff.1 hk
      obtain ⟨g, hg, hk⟩ := OptK_iff.1 hk
      obtain ⟨hc, hk⟩ := Chk_iff.1 hk
      exact field_out h (aev_rel ht x) hu hf hg hc hk
    · exact hk.elim
  case indexAddr ty x i =>
    split at hk
    · rename_i elem hu
      obtain ⟨hc, hk⟩ := Chk_iff.1 hk
      exact iaddr_sl_out h (aev_rel ht x) (aev_rel ht i) hu hc hk
    · rename_i n elem hu
      obtain ⟨hc, hk⟩ := Chk_iff.1 hk
      exact iaddr_arr_out h (aev_rel ht x) (aev_rel ht i) hu hc hk
    · exact hk.elim
  case index ty x i =>
    split at hk
    · rename_i hu; exact sidx_out h (aev_rel ht x) (aev_rel ht i) hu hk
    · exact hk.elim
  case lookup ty m k ok =>
    split at hk
    · rename_i key elem hu
      obtain ⟨hc, hk⟩ := Chk_iff.1 hk
      obtain ⟨z, hz, hk⟩ := OptK_iff.1 hk
      obtain ⟨d, hd, hdk, hf⟩ := keyTy_under hc
      exact mlook_out h (aev_rel ht m) (aev_rel ht k) hu hd hdk hf hz hk
    · exact hk.elim
  case mapUpdate ty m k v =>
    split at hk
    · rename_i key elem hu
      obtain ⟨hc, hk⟩ := Chk_iff.1 hk
      obtain ⟨d, hd, hdk, hf⟩ := keyTy_under hc
      exact mput_out h (aev_rel ht m) (aev_rel ht k) (aev_rel ht v) hu hd hdk hf hk
    · exact hk.elim
  case extract x i => exact ext_out h (aev_rel ht x) hk
  case range ty x =>
    split at hk
    · rename_i key elem hu
      exact rng_out h (aev_rel ht x) hu hk
    · exact hk.elim
  case next x isStr =>
    obtain ⟨hc, hk⟩ := Chk_iff.1 hk
    have hc' : isStr = false := by simpa using hc
    subst hc'
    exact nxt_out h (aev_rel ht x) hk
  case entry x => exact ent_out h (aev_rel ht x) hk
  case makeInterface ty x =>
    obtain ⟨hc, hk⟩ := Chk_iff.1 hk
    refine Out.val (v' := .iface ty (a.eval x)) h ?_ (.iface _ _) hk
    unfold notIface at hc
    cases hu : P.underlying ty with
    | none => rw [hu] at hc; cases hc
    | some d =>
      rw [hu] at hc
      cases d <;> first | (cases hc; done) | (simp [Instr.makeInterface, Sem.run_bind, run_under hu, Result.andThen])
end
end Go.Ab
