/- Calls, statements: 'gen' says what must hold for a code to run; 'gen_sound'. -/
import Derived.Test.YtoehcgeckmoofaaGreatDoorAj
import Derived.Scope
set_option linter.unusedVariables false
set_option linter.unusedSimpArgs false
namespace Go.Ab
open Go Go.RowKit

def Fc (rd : Option Nat) : Fence := { Fence.wide with round := rd }

def enterOk (P : Program) (f : FuncId) : Bool :=
  match P.funcs[f]? with
  | some fn => fn.body.isSome && fn.name != "runtime.NumGoroutine"
  | none => false

/-- What a call of a function comes to. -/
def CPost (w0 : World) (pins : List (Nat × Obj)) (ρ : Ren) (Q : Kont) (e : Ending) (w' : World) : Prop :=
  ∃ v' ρ' v st', e = .returned v' ∧ ρ.le ρ' ∧ Sim w0 pins ρ' st' w' ∧ VRel ρ' v v' ∧ Q v st'

def ACall (P : Program) (w0 : World) (f : FuncId) (args : List AV) (st : St) (Q : Kont) : Prop :=
  enterOk P f = true ∧ ∀ pins ρ w (args' : Array Value), Sim w0 pins ρ st w → VRels ρ args args'.toList → Calls P f args' w (CPost w0 pins ρ Q)

theorem CPost.mono {w0 pins ρ Q Q' e w'} (h : CPost w0 pins ρ Q e w') (hq : ∀ v st, Q v st → Q' v st) : CPost w0 pins ρ Q' e w' :=
  let ⟨v', ρ', v, st', a, b, c, d, q⟩ := h; ⟨v', ρ', v, st', a, b, c, d, hq _ _ q⟩

theorem ACall.mono {P w0 f args st} {Q Q' : Kont} (h : ACall P w0 f args st Q) (hq : ∀ v st, Q v st → Q' v st) : ACall P w0 f args st Q' :=
  ⟨h.1, fun pins ρ w args' hs ha => (h.2 pins ρ w args' hs ha).mono fun _ _ hh => hh.mono hq⟩

/-- What a call of a loop's yield comes to. -/
def AYield (P : Program) (w0 : World) (i : Nat) (args : List AV) (st : St) (Q : Kont) : Prop :=
  ∀ pins ρ w (args' : Array Value) l, Sim w0 pins ρ st w → VRels ρ args args'.toList → ρ.loop i = some l →
    ∃ f tmps assign body, (Instr.yield l args').run P w = .ok (.round l f tmps assign body) w ∧ RoundIn Fence.wide 0 P l f tmps assign body w (CPost w0 pins ρ Q)

theorem AYield.mono {P w0 i args st} {Q Q' : Kont} (h : AYield P w0 i args st Q) (hq : ∀ v st, Q v st → Q' v st) : AYield P w0 i args st Q' :=
  fun pins ρ w args' l hs ha hl => let ⟨f, t, a, b, h1, h2⟩ := h pins ρ w args' l hs ha hl; ⟨f, t, a, b, h1, h2.mono fun _ _ hh => hh.mono hq⟩

def CallV (P : Program) (w0 : World) (f : AV) (args : List AV) (st : St) (K : Kont) : Prop :=
  match f with
  | .func f first cap => ACall P w0 f (first ++ args ++ cap) st K
  | .yield i => AYield P w0 i args st K
  | _ => False

def gcall (P : Program) (w0 : World) (c : Call) (t : List AV) (st : St) (K : Kont) : Prop :=
  match c.callee with
  | .builtin b => gbuiltin P b c.argTypes (c.args.toList.map (aev t)) st K
  | .value f => CallV P w0 (aev t f) (c.args.toList.map (aev t)) st K
  | .invoke _ _ => False

def gop1 (P : Program) (w0 : World) (o : Oper) (t : List AV) (st : St) (K : Kont) : Prop :=
  match o.op with
  | .call c => gcall P w0 c t st K
  | op => gop P op t st K

/-- Is an operation guarded itself? -/
def nestedAt (ops : List Oper) (j : Nat) : Bool := match ops[j]? with | some o => o.guard.isSome | none => false

/-- The operations of a region, in the order of the text. 'ops': the whole region (for the guards). -/
def gops (P : Program) (w0 : World) (ops : List Oper) : List Oper → List AV → St → (List AV → St → Prop) → Prop
  | [], t, st, K => K t st
  | o :: rest, t, st, K =>
    match o.guard with
    | none => gop1 P w0 o t st fun v st' => gops P w0 ops rest (aput t o.dst v) st' K
    | some (j, want) =>
      match (ops[j]?).bind (·.dst) with
      | none => False
      | some d => Gs (nestedAt ops j) (t.getD d .any) (fun b => Br (b == want)
          (gop1 P w0 o (t.set d (.bool want)) st fun v st' => gops P w0 ops rest (aput (t.set d (.bool want)) o.dst v) st' K)
          (gops P w0 ops rest (aput (t.set d (.bool (!want))) o.dst (.tup [])) st K)) (gops P w0 ops rest (aput (t.set d (.tup [])) o.dst (.tup [])) st K)

section
variable {P : Program} {w0 : World} {pins : List (Nat × Obj)} {ρ : Ren} {st : St} {w : World}

theorem enter_run {f : FuncId} (h : enterOk P f = true) (args : Array Value) : (callFunc f args).run P w = .ok (.enter f args) w := by
  unfold enterOk at h
  split at h
  · rename_i fn hf
    simp only [Bool.and_eq_true, bne_iff_ne, ne_eq] at h
    obtain ⟨h1, h2⟩ := h
    have h3 : ¬ fn.body = none := by cases hb : fn.body <;> simp_all
    simp [callFunc, Sem.run_bind, program, Sem.run, Result.andThen, hf, h2, h3]
  · cases h

theorem callsIn_fc {f : FuncId} {args : Array Value} {R : Ending → World → Prop} (rd : Option Nat) (n : Nat) (h : Calls P f args w R) : CallsIn (Fc rd) n P f args w R := by
  have := (callsIn_wide (n := n)).2 h
  exact this

theorem roundIn_fc {l f tmps assign body} {R : Ending → World → Prop} (rd : Option Nat) (n : Nat) (h : RoundIn Fence.wide 0 P l f tmps assign body w R) : RoundIn (Fc rd) n P l f tmps assign body w R :=
  ⟨trivial, fun c cs _ => h.2 c cs (room_wide _)⟩

theorem Act.put_defers (a : Act) (d : Option Tmp) (v : Value) : (a.put d v).defers = a.defers := by cases d <;> rfl

theorem gop_notDefer {op : Op} {t : List AV} {K : Kont} (h : gop P op t st K) : (∀ c, op ≠ .defer c) ∧ (∀ c, op ≠ .call c) := by
  constructor <;> (intro c e; subst e; exact h)

theorem upon_out {o : Oper} {a : Act} {K : Kont} {next : Act → World → Prop} {Q : Exit → Act → World → Prop} {rd : Option Nat} {s : Sem Next} (h : Out P w0 pins ρ w s K)
    (hn : ∀ v' w' ρ' v st', ρ.le ρ' → Sim w0 pins ρ' st' w' → VRel ρ' v v' → K v st' → next (a.put o.dst v') w') : o.uponIn (Fc rd) 0 P a next Q (s.run P w) := by
  obtain ⟨v', w', ρ', v, st', hr, hle, hs, hv, hk⟩ := h
  rcases hr with hr | ⟨hr, rfl⟩
  · rw [hr]; exact hn _ _ _ _ _ hle hs hv hk
  · rw [hr]; exact hn _ _ _ _ _ hle hs hv hk

theorem op_wp {o : Oper} {a : Act} {t : List AV} {K : Kont} {next : Act → World → Prop} {Q : Exit → Act → World → Prop} {rd : Option Nat} (h : Sim w0 pins ρ st w) (ht : TRel ρ t a.tmps) (hk : gop1 P w0 o t st K)
    (hn : ∀ v' w' ρ' v st', ρ.le ρ' → Sim w0 pins ρ' st' w' → VRel ρ' v v' → K v st' → next (a.put o.dst v') w') : o.wpIn (Fc rd) 0 P a w next Q := by
  refine ⟨fun f _ => trivial, ?_⟩
  unfold gop1 at hk
  split at hk
  · rename_i c hc
    rw [Oper.semAt_eq _ _ _ (by rw [hc]; simp)]
    unfold gcall at hk
    have hargs : VRels ρ (c.args.toList.map (aev t)) (c.args.map a.eval).toList := by simpa using aevs_rel ht c.args.toList
    split at hk
    · rename_i b hb
      have hrun : (execOp a.eval o).run P w = (builtin b c.argTypes o.type (c.args.map fun | .const _ => true | _ => false) (c.args.map a.eval)).run P w := by
        simp only [execOp, hc, resolve, hb]; simp [Sem.run_bind, Result.andThen, invoke]; rfl
      rw [hrun]
      exact upon_out (gbuiltin_out h hargs hk) hn
    · rename_i f hf
      have hfv := aev_rel ht f
      unfold CallV at hk
      split at hk
      · rename_i g first cap hg
        rw [hg] at hfv
        obtain ⟨hen, hk⟩ := hk
        cases hfa : a.eval f with
        | func fn first' cap' =>
          rw [hfa] at hfv
          cases fn with
          | func g' =>
            obtain ⟨rfl, h1, h2⟩ := VRel.func_iff.1 hfv
            have hrun : (execOp a.eval o).run P w = .ok (.enter g (first' ++ c.args.map a.eval ++ cap')) w := by
              simp only [execOp, hc, resolve, hf, hfa, Deferred.ofValue]
              simp only [Sem.run_bind, Sem.run_pure, Result.andThen, invoke, enter_run hen]
            rw [hrun]
            refine ⟨(fun hh => by cases hh), (callsIn_fc rd _ (hk pins ρ w _ h ?_)).mono ?_⟩
            · simpa using (h1.append hargs).append h2
            · rintro e w' ⟨v', ρ', v, st', rfl, hle, hs, hv, hkk⟩
              exact hn _ _ _ _ _ hle hs hv hkk
          | _ => cases hfv
        | _ => rw [hfa] at hfv; cases hfv
      · rename_i i hg
        rw [hg] at hfv
        cases hfa : a.eval f with
        | func fn first' cap' =>
          rw [hfa] at hfv
          cases hfv with
          | @yield _ lr hl =>
            obtain ⟨f1, tm, as, bo, hy, hround⟩ := hk pins ρ w _ _ h hargs hl
            have hrun : (execOp a.eval o).run P w = .ok (.round lr f1 tm as bo) w := by
              simp only [execOp, hc, resolve, hf, hfa, Deferred.ofValue]
              simp only [Sem.run_bind, Sem.run_pure, Result.andThen, invoke, Array.empty_append]
              exact hy
            rw [hrun]
            refine ⟨(fun hh => by cases hh), (roundIn_fc rd _ hround).mono ?_⟩
            rintro e w' ⟨v', ρ', v, st', rfl, hle, hs, hv, hkk⟩
            exact hn _ _ _ _ _ hle hs hv hkk
        | _ => rw [hfa] at hfv; cases hfv
      · exact hk.elim
    · exact hk.elim
  · have hnd := (gop_notDefer hk).1
    rw [Oper.semAt_eq _ _ _ hnd]
    exact upon_out (gop_out h ht hk) hn

/-- The region's operations, from the k-th on. -/
theorem ops_wp {ops : Array Oper} {Q : Exit → Act → World → Prop} {rd : Option Nat} {K : List AV → St → Prop} {base : List (Nat × Obj)} {ds : List Deferred}
    (hQ : ∀ a' w' ρ' t' st', ρ.le ρ' → Sim w0 pins ρ' st' w' → TRel ρ' t' a'.tmps → a'.defers = ds → K t' st' → Q .normal a' w') :
    ∀ (rest : List Oper) (k : Nat) (a : Act) (w : World) (t : List AV) (st : St) (ρ1 : Ren), ops.toList.drop k = rest → ρ.le ρ1 → Sim w0 pins ρ1 st w → TRel ρ1 t a.tmps → a.defers = ds →
      gops P w0 ops.toList rest t st K → wpOpsIn (Fc rd) 0 P ops Q (List.range' k rest.length) a w := by
  intro rest
  induction rest with
  | nil => intro k a w t st ρ1 _ hle h ht hd hk; exact hQ _ _ _ _ _ hle h ht hd hk
  | cons o rest ih =>
    intro k a w t st ρ1 hdrop hle h ht hd hk
    have hok : ops[k]? = some o := by
      have : (ops.toList.drop k)[0]? = some o := by rw [hdrop]; rfl
      simpa using this
    have hdrop' : ops.toList.drop (k + 1) = rest := by
      have : (ops.toList.drop k).drop 1 = rest := by rw [hdrop]; rfl
      rw [List.drop_drop] at this; exact this
    simp only [List.length_cons, List.range'_succ, wpOpsIn, hok]
    simp only [gops] at hk
    split at hk
    · rename_i hg
      have hw : Region.wanted o (yielded ops a.tmps) = true := by simp [Region.wanted, hg]
      rw [hw, if_pos rfl]
      refine op_wp h ht hk fun v' w' ρ' v st' hle' hs hv hkk => ih (k + 1) _ _ _ _ _ hdrop' (hle.trans hle') hs ((ht.mono hle').put _ hv) (by rw [Act.put_defers]; exact hd) hkk
    · rename_i j want hg
      split at hk
      · exact hk.elim
      · rename_i d hdj
        rcases Gs_elim hk with ⟨b, hb, hk⟩ | ⟨hb, hk, _⟩
        · have hvb : VRel ρ1 (.bool b) (a.tmps.getD d undef) := by have := ht.at_ d; rw [hb] at this; exact this
          have hval := hvb.bool_inv
          have hlt : d < a.tmps.size := by
            rcases Nat.lt_or_ge d a.tmps.size with hh | hh
            · exact hh
            · rw [Array.getD, dif_neg (by omega)] at hval; cases hval
          have hy : yielded ops a.tmps j = some b := by
            have hdj' : (ops[j]?).bind (·.dst) = some d := by simpa using hdj
            have : a.tmps[d]? = some (.bool b) := by
              rw [Array.getElem?_eq_getElem hlt]; rw [Array.getD, dif_pos hlt] at hval; exact congrArg some hval
            simp [yielded, hdj', this]
          have hsame : a.tmps.setIfInBounds d (.bool b) = a.tmps := by
            apply Array.ext (by simp)
            intro i h1 h2
            rw [Array.getElem_setIfInBounds]
            split
            · rename_i e; subst e; rw [Array.getD, dif_pos hlt] at hval; exact hval.symm
            · rfl
          have hset : ∀ b', b' = b → TRel ρ1 (t.set d (.bool b')) a.tmps := by
            intro b' e; subst e
            have := ht.set d (VRel.bool (ρ := ρ1) b')
            rwa [hsame] at this
          obtain ⟨k1, k2⟩ := Br_iff.1 hk
          by_cases hbw : b = want
          · have hw : Region.wanted o (yielded ops a.tmps) = true := by simp [Region.wanted, hg, hy, hbw]
            rw [hw, if_pos rfl]
            refine op_wp h (hset want hbw.symm) (k1 (by simp [hbw])) fun v' w' ρ' v st' hle' hs hv hkk => ih (k + 1) _ _ _ _ _ hdrop' (hle.trans hle') hs (((hset want hbw.symm).mono hle').put _ hv) (by rw [Act.put_defers]; exact hd) hkk
          · have hw : Region.wanted o (yielded ops a.tmps) = false := by simp [Region.wanted, hg, hy, hbw]
            rw [hw, if_neg (by simp)]
            have hnb : (!want) = b := by cases b <;> cases want <;> simp_all
            refine ⟨fun f _ => trivial, ih (k + 1) _ _ _ _ _ hdrop' hle h ((hset (!want) hnb).put _ (VRel.tup_iff.2 .nil)) (by rw [Act.put_defers]; exact hd) (k2 (by simp [hbw]))⟩
        · rw [set_getD hb] at hk
          have hw : Region.wanted o (yielded ops a.tmps) = false := by
            have hvt := ht.at_ d
            rw [hb] at hvt
            have hy : yielded ops a.tmps j = none := by
              have hdj' : (ops[j]?).bind (·.dst) = some d := by simpa using hdj
              unfold yielded
              rw [hdj', Option.bind_some]
              split
              · rename_i b hbb
                have : a.tmps.getD d undef = .bool b := by simp [Array.getD_eq_getD_getElem?, hbb]
                rw [this] at hvt; cases hvt
              · rfl
            simp [Region.wanted, hg, hy]
          rw [hw, if_neg (by simp)]
          exact ⟨fun f _ => trivial, ih (k + 1) _ _ _ _ _ hdrop' hle h (ht.put _ (VRel.tup_iff.2 .nil)) (by rw [Act.put_defers]; exact hd) hk⟩
end
end Go.Ab
