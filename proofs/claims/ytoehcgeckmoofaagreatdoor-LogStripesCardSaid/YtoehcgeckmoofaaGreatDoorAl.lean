/- Statements: 'gen' says what must hold for a code to run to its end; 'gen_sound'. -/
import Derived.Test.YtoehcgeckmoofaaGreatDoorAo
set_option linter.unusedVariables false
set_option linter.unusedSimpArgs false
namespace Go.Ab
open Go Go.RowKit

/-- How a code is left. -/
inductive AX where
  | normal
  | exit (id : Nat)
  | goto (l : Nat)
  | ret

def AX.toExit : AX → Exit
  | .normal => .normal
  | .exit id => .exit id
  | .goto l => .goto l
  | .ret => .ret

abbrev APost := AX → List AV → St → Prop

def marks (own : List Nat) : List Deferred := own.map fun r => { target := .collected r, args := #[] }
def ownPins (own : List Nat) : List (Nat × Obj) := own.map fun r => (r, .deferred (some []))

def CurRel (ρ : Ren) : Option Nat → Option Nat → Prop
  | none, rd => rd = none
  | some i, rd => ∃ l, ρ.loop i = some l ∧ rd = some l

theorem CurRel.mono {ρ ρ' : Ren} (h : ρ.le ρ') {cur rd} (c : CurRel ρ cur rd) : CurRel ρ' cur rd := by
  cases cur with
  | none => exact c
  | some i => obtain ⟨l, h1, h2⟩ := c; exact ⟨l, h.loop _ _ h1, h2⟩

def WPost (w0 : World) (base : List (Nat × Obj)) (ρ : Ren) (Q : APost) (e : Exit) (a' : Act) (w' : World) : Prop :=
  ∃ own' ρ' t' st' x, e = AX.toExit x ∧ ρ.le ρ' ∧ Sim w0 (ownPins own' ++ base) ρ' st' w' ∧ TRel ρ' t' a'.tmps ∧ a'.defers = marks own' ∧ Q x t' st'

/-- The code runs, whatever real world the abstract state lies in. 'cur': the loop over a function in whose round it stands. -/
def AWP (P : Program) (w0 : World) (cur : Option Nat) (c : Code) (t : List AV) (st : St) (Q : APost) : Prop :=
  ∀ base own ρ w a rd, Sim w0 (ownPins own ++ base) ρ st w → TRel ρ t a.tmps → CurRel ρ cur rd → a.defers = marks own → c.wpIn (Fc rd) 0 P (WPost w0 base ρ Q) a w

/-- The number of the first region of a code: by it a loop is told apart. -/
def firstReg : Code → Option Nat
  | .region id _ _ => some id
  | .seq a b => (firstReg a).orElse fun _ => firstReg b
  | .cond _ a b => (firstReg a).orElse fun _ => firstReg b
  | .block _ c | .loop c | .scope c => firstReg c
  | .rangeFunc _ _ a b => (firstReg a).orElse fun _ => firstReg b
  | _ => none

def proj (S : List Nat) (t : List AV) : List AV := S.map fun i => t.getD i .any
def emb (S : List Nat) (len : Nat) (x : List AV) : List AV := (List.range len).map fun p => match S.idxOf? p with | some i => x.getD i .any | none => .any

def setLoop (st : St) (i : Nat) (l : ALoop) : St := { st with lp := st.lp.set i l }
def pushLoop (st : St) (l : ALoop) : St := { st with lp := st.lp ++ [l] }

def jumpPost (Q : APost) (t : List AV) (st : St) : Option Code → Prop
  | none => Q .normal t st
  | some .ret => Q .ret t st
  | some (.exit id) => Q (.exit id) t st
  | some (.goto l) => Q (.goto l) t st
  | _ => False

/-- Behind a range over a function. -/
def afterRange (Q : APost) (t : List AV) (i : Nat) (st : St) : Prop :=
  OptK st.lp[i]? fun al => al.st ≠ .busy ∧ jumpPost Q t (setLoop st i { al with st := .exhausted }) al.pend

def gen (P : Program) (w0 : World) (ann : Nat → List Nat) (cur : Option Nat) : Code → List AV → St → APost → Prop
  | .skip, t, st, Q => Q .normal t st
  | .label _, t, st, Q => Q .normal t st
  | .region id ops draw, t, st, Q => match draw with
    | false => gops P w0 ops.toList ops.toList t st fun t' st' => Q .normal t' st'
    | true => Chk (P.follows .mixedOrders && drawOk P ops.toList (ann (2 * id + 1))) (gR P w0 ops.toList (ann (2 * id + 1)) [] t st fun t' st' => Q .normal t' st')
  | .seq a b, t, st, Q => gen P w0 ann cur a t st fun x t' st' => match x with
    | .normal => gen P w0 ann cur b t' st' Q
    | x => Q x t' st'
  | .cond c a b, t, st, Q => AsBool (aev t c) fun v => Br v (gen P w0 ann cur a t st Q) (gen P w0 ann cur b t st Q)
  | .block id c, t, st, Q => gen P w0 ann cur c t st fun x t' st' => match x with
    | .exit i => Br (i == id) (Q .normal t' st') (Q (.exit i) t' st')
    | x => Q x t' st'
  | .scope c, t, st, Q => gen P w0 ann cur c t st fun x t' st' => match x with
    | .goto _ => False
    | x => Q x t' st'
  | .loop c, t, st, Q => ∃ (I : Nat → List AV → St → Prop) (n : Nat), I n (proj (ann (2 * (firstReg c).getD 0)) t) st ∧
      ∀ n x st, I n x st → gen P w0 ann cur c (emb (ann (2 * (firstReg c).getD 0)) t.length x) st fun y t' st' => match y with
        | .normal => Chk (t'.length == t.length) (∃ m, m < n ∧ I m (proj (ann (2 * (firstReg c).getD 0)) t') st')
        | y => Q y t' st'
  | .rangeFunc f ps assign body, t, st, Q =>
    match aev t f with
    | .func k first cap => ACall P w0 k (first ++ [.yield st.lp.length] ++ cap) (pushLoop st { st := .ready, pend := none, tmps := t, params := ps, assign := assign, body := body }) fun _ st2 => afterRange Q t st.lp.length st2
    | _ => False
  | .exit id, t, st, Q => Q (.exit id) t st
  | .goto l, t, st, Q => Q (.goto l) t st
  | .ret, t, st, Q => Q .ret t st
  | .refuse _, _, _, _ => False

section
variable {P : Program} {w0 : World}

theorem emb_len (S len x) : (emb S len x).length = len := by simp [emb]

theorem emb_rel {ρ : Ren} {t tmps} (h : TRel ρ t tmps) (S : List Nat) : TRel ρ (emb S t.length (proj S t)) tmps :=
  ⟨by rw [emb_len]; exact h.len, fun i => by
    by_cases hi : i < t.length
    · have e : (emb S t.length (proj S t)).getD i .any = match S.idxOf? i with | some j => (proj S t).getD j .any | none => .any := by
        simp [emb, List.getD, List.getElem?_range hi]
      rw [e]
      cases hj : S.idxOf? i with
      | none => exact .any _
      | some j =>
        have hj1 : j < S.length ∧ S[j]? = some i := by
          rw [List.idxOf?_eq_some_iff] at hj
          obtain ⟨h1, h2, _⟩ := hj
          exact ⟨h1, by rw [List.getElem?_eq_getElem h1]; exact congrArg some (by simpa using h2)⟩
        have : (proj S t).getD j .any = t.getD i .any := by
          simp [proj, List.getD, hj1.2]
        simp only [this]
        exact h.at_ i
    · have : (emb S t.length (proj S t)).getD i .any = .any := by
        simp [List.getD, List.getElem?_eq_none (show (emb S t.length (proj S t)).length ≤ i by rw [emb_len]; omega)]
      rw [this]; exact .any _⟩

theorem proj_emb (S : List Nat) (len : Nat) (x : List AV) : True := trivial

theorem wpIn_scope_straight {F : Fence} {n : Nat} {Q : Exit → Act → World → Prop} {a : Act} {w : World} {c : Code} (h : c.wpIn F n P (Exit.noGoto Q) a w) : (Code.scope c).wpIn F n P Q a w := by
  intro b k cs hro hb hr
  have s1 : step P (lone (b.atR a (.code (.scope c) :: k)) cs w) = .next (lone (b.atR a (.code c :: .inScope c :: k)) cs w) := step_lone_go (by simp [stepG, stepG.exec, Frame.atR])
  have s2 : ∀ a w, step P (lone (b.atR a (.inScope c :: k)) cs w) = .next (lone (b.atR a k) cs w) := fun a w => step_lone_go (by simp [stepG, stepG.exec, Frame.atR])
  have h0 : (lone (b.atR a (.code (.scope c) :: k)) cs w).fenced P F := fenced_calm hb hr rfl
  obtain ⟨e, a₁, w₁, hq, harr⟩ := h b (.inScope c :: k) cs hro hb hr
  cases e with
  | normal => exact ⟨.normal, a₁, w₁, hq, .head h0 s1 (StepsIn.trans harr (.one (fenced_calm hb hr rfl) (s2 _ _)))⟩
  | exit id => 
    have hx : exitTo id (.inScope c :: k) = exitTo id k := by simp [exitTo]
    exact ⟨.exit id, a₁, w₁, hq, fun k' hk => .head h0 s1 (harr.1 k' (by rw [hx]; exact hk)),
      fun hr' hk => let ⟨k₁, h1, h2⟩ := harr.2 hr' (by rw [hx]; exact hk); ⟨k₁, h1, .head h0 s1 h2⟩⟩
  | goto l => exact hq.elim
  | ret => exact ⟨_, a₁, w₁, hq, .of_steps (.one h0 s1) harr⟩
  | panic ch => exact ⟨_, a₁, w₁, hq, .of_steps (.one h0 s1) harr⟩
  | outgrown => exact ⟨_, a₁, w₁, hq, .of_steps (.one h0 s1) harr⟩

/-- A loop by a number that falls. -/
theorem wpIn_loop_idx {F : Fence} {n : Nat} {Q : Exit → Act → World → Prop} {a : Act} {w : World} {c : Code} (I : Nat → Act → World → Prop) (j : Nat) (h₀ : I j a w)
    (round : ∀ j a w, I j a w → c.wpIn F n P (Exit.then (fun a' w' => ∃ i, i < j ∧ I i a' w') Q) a w) : (Code.loop c).wpIn F n P Q a w := by
  intro b k cs hro hb hr
  have key : ∀ j a w, I j a w →
      ∃ e a' w', Q e a' w' ∧ ArrivesIn (Machine.fenced P F) P (lone (b.atR a (.code c :: .inLoop c :: k)) cs w) b k cs e a' w' := by
    intro j
    induction j using Nat.strongRecOn with
    | _ j ih =>
      intro a w hI
      obtain ⟨e, a₁, w₁, hq, harr⟩ := round j a w hI b (.inLoop c :: k) cs hro hb hr
      cases e with
      | normal =>
        obtain ⟨i, hlt, hI₁⟩ := hq
        obtain ⟨e₂, a₂, w₂, hq₂, harr₂⟩ := ih i hlt a₁ w₁ hI₁
        exact ⟨e₂, a₂, w₂, hq₂, .of_steps (StepsIn.trans harr (.one (fenced_calm hb hr rfl) stepR_inLoop)) harr₂⟩
      | exit id => exact ⟨_, a₁, w₁, hq, .pass (x := .inLoop c) rfl (fun _ _ => .inl (by simp)) harr⟩
      | goto l => exact ⟨_, a₁, w₁, hq, .pass (x := .inLoop c) rfl (fun _ _ => .inl (by simp)) harr⟩
      | ret => exact ⟨_, a₁, w₁, hq, .pass (x := .inLoop c) rfl (fun _ _ => .inl (by simp)) harr⟩
      | panic ch => exact ⟨_, a₁, w₁, hq, .pass (x := .inLoop c) rfl (fun _ _ => .inl (by simp)) harr⟩
      | outgrown => exact ⟨_, a₁, w₁, hq, .pass (x := .inLoop c) rfl (fun _ _ => .inl (by simp)) harr⟩
  obtain ⟨e, a', w', hq, harr⟩ := key j a w h₀
  exact ⟨e, a', w', hq, .of_steps (.one (fenced_calm hb hr rfl) stepR_loop) harr⟩

theorem WPost.le {base ρ ρ' Q e a' w'} (h : WPost w0 base ρ' Q e a' w') (hle : ρ.le ρ') : WPost w0 base ρ Q e a' w' :=
  let ⟨o, r, t, s, x, h1, h2, h3⟩ := h; ⟨o, r, t, s, x, h1, hle.trans h2, h3⟩
theorem WPost.mono {base ρ} {Q Q' : APost} {e a' w'} (h : WPost w0 base ρ Q e a' w') (hq : ∀ x t st, Q x t st → Q' x t st) : WPost w0 base ρ Q' e a' w' :=
  let ⟨o, r, t, s, x, h1, h2, h3, h4, h5, h6⟩ := h; ⟨o, r, t, s, x, h1, h2, h3, h4, h5, hq _ _ _ h6⟩

theorem Sim.pushLoop' {pins ρ st w} (h : Sim w0 pins ρ st w) (al : ALoop) (rec : Loop) (ht : TRel ρ al.tmps rec.tmps) (h1 : rec.state = al.st) (h2 : rec.pending = al.pend) (h3 : rec.params = al.params) (h4 : rec.assign = al.assign) (h5 : rec.body = al.body) :
    Sim w0 pins (ρ.extl st.lp.length w.heap.size) (pushLoop st al) (w.alloc (.loop rec)) := by
  have hj := h.junk (.loop rec)
  have hle := h.extl_le w.heap.size
  refine ⟨hj.below, hj.dom, fun b k e hk => ?_, hj.inj, fun i l e => ?_, fun i l e => ?_, fun i j r e1 e2 => ?_, hj.pin, hj.pout, fun i r e p hp => ?_, hj.pnd⟩
  · obtain ⟨x, hx, hB⟩ := hj.blk b k e hk
    exact ⟨x, hx, hB.mono hle rfl⟩
  · simp only [Ren.extl] at e
    split at e
    · rename_i hi; cases e; simp [pushLoop, hi]
    · have := h.ldom i l e; simp [pushLoop]; omega
  · by_cases hi : i = st.lp.length
    · subst hi
      have : l = al := by simpa [pushLoop] using e.symm
      subst this
      refine ⟨w.heap.size, by simp [Ren.extl], h.below.size, rec.fn, rec.tmps, rec.defers, ?_, ht.mono hle⟩
      rw [heap_alloc_at]; cases rec; simp_all
    · have hlt : i < st.lp.length := by have := (List.getElem?_eq_some_iff.1 e).1; simp [pushLoop] at this; omega
      have e' : st.lp[i]? = some l := by simpa [pushLoop, List.getElem?_append_left hlt] using e
      obtain ⟨r, hr, hb, hL⟩ := h.loop i l e'
      exact ⟨r, hle.loop _ _ hr, hb, hL.mono hle (heap_alloc_lt w _ (h.ldom _ _ hr).2)⟩
  · simp only [Ren.extl] at e1 e2
    split at e1 <;> split at e2
    · simp_all
    · cases e1; have := (h.ldom j _ e2).2; omega
    · cases e2; have := (h.ldom i _ e1).2; omega
    · exact h.linj i j r e1 e2
  · simp only [Ren.extl] at e
    split at e
    · cases e; have := h.pin_lt hp; omega
    · exact h.lout i r e p hp

theorem Only.setLoop {r : Nat} {w : World} {o : Obj} (o' : Obj) (hw : w.heap[r]? = some o) : Only r w { w with heap := w.heap.setIfInBounds r o' } ∧ ({ w with heap := w.heap.setIfInBounds r o' } : World).heap[r]? = some o' := Only.setObj hw

/-- A loop's record is turned. -/
theorem Sim.setLoop' {pins ρ st w} (h : Sim w0 pins ρ st w) {i : Nat} {al : ALoop} {l : Nat} (hi : st.lp[i]? = some al) (hl : ρ.loop i = some l) {w' : World} (ho : Only l w w') {al' : ALoop} (hL : LRel ρ w' al' l) : Sim w0 pins ρ (setLoop st i al') w' := by
  obtain ⟨r, hr, hb, fn, tmps, defers, hw, _⟩ := h.loop i al hi
  rw [hl] at hr; cases hr
  have hil : i < st.lp.length := (List.getElem?_eq_some_iff.1 hi).1
  refine ⟨h.below.trans (ho.below hb), fun b x e => ⟨(h.dom b x e).1, by rw [ho.size]; exact (h.dom b x e).2⟩, fun b k e hk => ?_, h.inj, fun j r e => ⟨by simp [setLoop]; exact (h.ldom j r e).1, by rw [ho.size]; exact (h.ldom j r e).2⟩, fun j l' e => ?_, h.linj, fun p hp => ?_, h.pout, h.lout, h.pnd⟩
  · obtain ⟨x, hx, hB⟩ := h.blk b k e hk
    refine ⟨x, hx, hB.mono (.refl _) (ho.block _ (fun hh => ?_))⟩
    obtain ⟨rb, o, rs⟩ := x
    cases k with
    | cells ro cs => obtain ⟨c, elem, fz, h1, _⟩ := hB; simp only at hh; rw [hh, hw] at h1; cases h1
    | amap es bs cl => obtain ⟨ents, h1, _⟩ := hB; simp only at hh; rw [hh, hw] at h1; cases h1
    | iter m since seen last => obtain ⟨mr, h1, _⟩ := hB; simp only at hh; rw [hh, hw] at h1; cases h1
    | dead => exact hk rfl
  · by_cases hj : j = i
    · subst hj
      have : l' = al' := by simpa [setLoop, hil] using e.symm
      subst this
      exact ⟨l, hl, hb, hL⟩
    · have e' : st.lp[j]? = some l' := by simpa [setLoop, List.getElem?_set, Ne.symm hj] using e
      obtain ⟨r, hr, hb', hL'⟩ := h.loop j l' e'
      exact ⟨r, hr, hb', hL'.mono (.refl _) (ho.block _ (fun hh => hj (h.linj j i l (hh ▸ hr) hl)))⟩
  · obtain ⟨h1, h2⟩ := h.pin p hp
    exact ⟨by rw [ho.block _ (fun hh => h.lout i l hl p hp hh.symm)]; exact h1, h2⟩

theorem CPost_elim {pins ρ Q e w'} (h : CPost w0 pins ρ Q e w') : ∃ v' ρ' v st', e = .returned v' ∧ ρ.le ρ' ∧ Sim w0 pins ρ' st' w' ∧ VRel ρ' v v' ∧ Q v st' := h

/-- One more pin, where nobody writes. -/
theorem Sim.pinMore {pins ρ st w} (h : Sim w0 pins ρ st w) (o : Obj) : Sim w0 ((w.heap.size, o) :: pins) ρ st (w.alloc o) := by
  have hj := h.junk o
  refine ⟨hj.below, hj.dom, hj.blk, hj.inj, hj.ldom, hj.loop, hj.linj, fun p hp => ?_, fun p hp b k x e hrw hx => ?_, fun i r hr p hp => ?_, ?_⟩
  · rcases List.mem_cons.1 hp with rfl | hp
    · exact ⟨heap_alloc_at .., h.below.size⟩
    · exact hj.pin p hp
  · rcases List.mem_cons.1 hp with rfl | hp
    · have := (h.dom b x hx).2; simp only; omega
    · exact hj.pout p hp b k x e hrw hx
  · rcases List.mem_cons.1 hp with rfl | hp
    · have := (h.ldom i r hr).2; simp only; omega
    · exact hj.lout i r hr p hp
  · simp only [List.map_cons, List.nodup_cons]
    refine ⟨fun hm => ?_, h.pnd⟩
    obtain ⟨p, hp, he⟩ := List.mem_map.1 hm
    have := h.pin_lt hp; omega

theorem jump_wp {base ρ0 ρ st w a t own rd} {Q : APost} (hle : ρ0.le ρ) (h : Sim w0 (ownPins own ++ base) ρ st w) (ht : TRel ρ t a.tmps) (hd : a.defers = marks own) {j : Option Code} (hk : jumpPost Q t st j) :
    (j = none → WPost w0 base ρ0 Q .normal a w) ∧ ∀ c, j = some c → c.wpIn (Fc rd) 0 P (WPost w0 base ρ0 Q) a w := by
  refine ⟨fun e => ?_, fun c e => ?_⟩ <;> subst e
  · exact ⟨own, ρ, t, st, .normal, rfl, hle, h, ht, hd, hk⟩
  · cases c <;> simp only [jumpPost] at hk <;> try exact hk.elim
    · exact wpIn_exit ⟨own, ρ, t, st, .exit _, rfl, hle, h, ht, hd, hk⟩
    · exact wpIn_goto ⟨own, ρ, t, st, .goto _, rfl, hle, h, ht, hd, hk⟩
    · exact wpIn_ret ⟨own, ρ, t, st, .ret, rfl, hle, h, ht, hd, hk⟩

theorem run_getLoop {l : Nat} {rec : Loop} {w : World} (hw : w.heap[l]? = some (.loop rec)) : (Instr.getLoop l).run P w = .ok rec w := by
  simp [Instr.getLoop, getObj, Sem.run_bind, Sem.run, Result.andThen, hw]
theorem run_setLoop {l : Nat} {rec : Loop} {o : Obj} {w : World} (hw : w.heap[l]? = some (.loop rec)) : (setObj l o).run P w = .ok () { w with heap := w.heap.setIfInBounds l o } := by
  simp [setObj, Sem.run, hw]
theorem run_endLoop {l : Nat} {rec : Loop} {w : World} (hw : w.heap[l]? = some (.loop rec)) (hnb : rec.state ≠ .busy) :
    (Instr.endLoop l).run P w = .ok rec.pending { w with heap := w.heap.setIfInBounds l (.loop { rec with state := .exhausted }) } := by
  have hnb' : (rec.state == LoopState.busy) = false := by cases hst : rec.state <;> first | rfl | exact absurd hst hnb
  unfold Instr.endLoop
  simp only [Sem.run_bind, run_getLoop hw, Result.andThen, hnb', Bool.false_eq_true, if_false, run_setLoop hw, Sem.run_pure]

theorem gen_sound {ann : Nat → List Nat} {cur : Option Nat} : ∀ {c : Code} {t : List AV} {st : St} {Q : APost}, gen P w0 ann cur c t st Q → AWP P w0 cur c t st Q := by
  intro c
  induction c with
  | skip => intro t st Q h base own ρ w a rd hs ht hc hd; exact wpIn_skip ⟨own, ρ, t, st, .normal, rfl, .refl _, hs, ht, hd, h⟩
  | label l => intro t st Q h base own ρ w a rd hs ht hc hd; exact wpIn_label ⟨own, ρ, t, st, .normal, rfl, .refl _, hs, ht, hd, h⟩
  | exit id => intro t st Q h base own ρ w a rd hs ht hc hd; exact wpIn_exit ⟨own, ρ, t, st, .exit id, rfl, .refl _, hs, ht, hd, h⟩
  | goto l => intro t st Q h base own ρ w a rd hs ht hc hd; exact wpIn_goto ⟨own, ρ, t, st, .goto l, rfl, .refl _, hs, ht, hd, h⟩
  | ret => intro t st Q h base own ρ w a rd hs ht hc hd; exact wpIn_ret ⟨own, ρ, t, st, .ret, rfl, .refl _, hs, ht, hd, h⟩
  | refuse why => intro t st Q h; exact h.elim
  | region id ops draw =>
    intro t st Q h base own ρ w a rd hs ht hc hd
    cases draw with
    | true =>
      simp only [gen] at h
      obtain ⟨hdr, h⟩ := Chk_iff.1 h
      simp only [Bool.and_eq_true] at hdr
      exact draw_wp (fun a' w' ρ' t' st' hle hs' ht' hd' hk => ⟨own, ρ', t', st', .normal, rfl, hle, hs', ht', hd'.trans hd, hk⟩) hdr.1 hdr.2 hs ht (gR_gV h)
    | false =>
    simp only [gen] at h
    refine wpIn_region ?_
    have := ops_wp (P := P) (w0 := w0) (ρ := ρ) (pins := ownPins own ++ base) (ops := ops) (Q := WPost w0 base ρ Q) (rd := rd) (ds := marks own) (K := fun t' st' => Q .normal t' st') (base := base)
      (fun a' w' ρ' t' st' hle hs' ht' hd' hk => ⟨own, ρ', t', st', .normal, rfl, hle, hs', ht', hd', hk⟩) ops.toList 0 a w t st ρ rfl (.refl _) hs ht hd h
    rwa [List.range_eq_range', ← Array.length_toList]
  | seq x y ihx ihy =>
    intro t st Q h base own ρ w a rd hs ht hc hd
    simp only [gen] at h
    refine wpIn_seq (wpIn_mono (ihx h base own ρ w a rd hs ht hc hd) ?_)
    rintro e a' w' ⟨own', ρ', t', st', x, rfl, hle, hs', ht', hd', hk⟩
    cases x with
    | normal => exact wpIn_mono (ihy hk base own' ρ' w' a' rd hs' ht' (hc.mono hle) hd') fun e a w hh => hh.le hle
    | exit id => exact ⟨own', ρ', t', st', .exit id, rfl, hle, hs', ht', hd', hk⟩
    | goto l => exact ⟨own', ρ', t', st', .goto l, rfl, hle, hs', ht', hd', hk⟩
    | ret => exact ⟨own', ρ', t', st', .ret, rfl, hle, hs', ht', hd', hk⟩
  | cond c x y ihx ihy =>
    intro t st Q h base own ρ w a rd hs ht hc hd
    simp only [gen, AsBool] at h
    split at h
    · rename_i b hb
      have hv := aev_rel ht c
      rw [hb] at hv
      obtain ⟨h1, h2⟩ := Br_iff.1 h
      refine wpIn_cond hv.bool_inv ?_
      cases b
      · exact ihy (h2 rfl) base own ρ w a rd hs ht hc hd
      · exact ihx (h1 rfl) base own ρ w a rd hs ht hc hd
    · exact h.elim
  | block id c ih =>
    intro t st Q h base own ρ w a rd hs ht hc hd
    simp only [gen] at h
    refine wpIn_block (wpIn_mono (ih h base own ρ w a rd hs ht hc hd) ?_)
    rintro e a' w' ⟨own', ρ', t', st', x, rfl, hle, hs', ht', hd', hk⟩
    cases x with
    | normal => exact ⟨own', ρ', t', st', .normal, rfl, hle, hs', ht', hd', hk⟩
    | exit i =>
      obtain ⟨k1, k2⟩ := Br_iff.1 hk
      by_cases hi : i = id
      · simp only [AX.toExit, Exit.inBlock, hi, if_true]
        exact ⟨own', ρ', t', st', .normal, rfl, hle, hs', ht', hd', k1 (by simp [hi])⟩
      · simp only [AX.toExit, Exit.inBlock, hi, if_false]
        exact ⟨own', ρ', t', st', .exit i, rfl, hle, hs', ht', hd', k2 (by simp [hi])⟩
    | goto l => exact ⟨own', ρ', t', st', .goto l, rfl, hle, hs', ht', hd', hk⟩
    | ret => exact ⟨own', ρ', t', st', .ret, rfl, hle, hs', ht', hd', hk⟩
  | scope c ih =>
    intro t st Q h base own ρ w a rd hs ht hc hd
    simp only [gen] at h
    refine wpIn_scope_straight (wpIn_mono (ih h base own ρ w a rd hs ht hc hd) ?_)
    rintro e a' w' ⟨own', ρ', t', st', x, rfl, hle, hs', ht', hd', hk⟩
    cases x with
    | normal => exact ⟨own', ρ', t', st', .normal, rfl, hle, hs', ht', hd', hk⟩
    | exit i => exact ⟨own', ρ', t', st', .exit i, rfl, hle, hs', ht', hd', hk⟩
    | goto l => exact hk.elim
    | ret => exact ⟨own', ρ', t', st', .ret, rfl, hle, hs', ht', hd', hk⟩
  | loop c ih =>
    intro t st Q h base own ρ w a rd hs ht hc hd
    simp only [gen] at h
    obtain ⟨I, n, h0, hround⟩ := h
    generalize ann (2 * (firstReg c).getD 0) = S at h0 hround
    refine wpIn_loop_idx (fun j a w => ∃ own' ρ' x st', ρ.le ρ' ∧ Sim w0 (ownPins own' ++ base) ρ' st' w ∧ TRel ρ' (emb S t.length x) a.tmps ∧ a.defers = marks own' ∧ I j x st') n ⟨own, ρ, _, st, .refl _, hs, emb_rel ht S, hd, h0⟩ ?_
    rintro j a1 w1 ⟨own1, ρ1, x1, st1, hle1, hs1, ht1, hd1, hI⟩
    refine wpIn_mono (ih (hround j x1 st1 hI) base own1 ρ1 w1 a1 rd hs1 ht1 (hc.mono hle1) hd1) ?_
    rintro e a' w' ⟨own', ρ', t', st', y, rfl, hle, hs', ht', hd', hk⟩
    cases y with
    | normal =>
      obtain ⟨hlen, m, hm, hI'⟩ := Chk_iff.1 hk
      have hlen : t'.length = t.length := by simpa using hlen
      exact ⟨m, hm, own', ρ', _, st', hle1.trans hle, hs', hlen ▸ emb_rel ht' S, hd', hI'⟩
    | exit id => exact ⟨own', ρ', t', st', .exit id, rfl, hle1.trans hle, hs', ht', hd', hk⟩
    | goto l => exact ⟨own', ρ', t', st', .goto l, rfl, hle1.trans hle, hs', ht', hd', hk⟩
    | ret => exact ⟨own', ρ', t', st', .ret, rfl, hle1.trans hle, hs', ht', hd', hk⟩
  | rangeFunc f ps assign body _ _ =>
    intro t st Q h base own ρ w a rd hs ht hc hd
    simp only [gen] at h
    split at h
    · rename_i k first cap hf
      obtain ⟨hen, h⟩ := h
      have hfv := aev_rel ht f
      rw [hf] at hfv
      obtain ⟨first', cap', hfa, hr1, hr2⟩ : ∃ first' cap', a.eval f = .func (.func k) first' cap' ∧ VRels ρ first first'.toList ∧ VRels ρ cap cap'.toList := by
        cases hfa : a.eval f with
        | func fn first' cap' =>
          rw [hfa] at hfv
          cases fn with
          | func g => obtain ⟨rfl, h1, h2⟩ := VRel.func_iff.1 hfv; exact ⟨_, _, rfl, h1, h2⟩
          | _ => cases hfv
        | _ => rw [hfa] at hfv; cases hfv
      refine wpIn_rangeFunc fun fn _ => ?_
      -- what enterLoop lays
      have henter : ∃ l mark w₁ own₁ rec, (Instr.enterLoop fn a.tmps ps assign body (Fc rd).round).run P w = .ok (l, mark) w₁ ∧ mark ++ a.defers = marks own₁ ∧
          ∃ w', Sim w0 (ownPins own₁ ++ base) ρ st w' ∧ l = w'.heap.size ∧ w₁ = w'.alloc (.loop rec) ∧ rec.state = .ready ∧ rec.pending = none ∧ rec.tmps = a.tmps ∧ rec.params = ps ∧ rec.assign = assign ∧ rec.body = body := by
        cases cur with
        | none =>
          have hrd : rd = none := hc
          subst hrd
          refine ⟨(w.alloc (.deferred (some []))).heap.size, [{ target := .collected w.heap.size, args := #[] }], (w.alloc (.deferred (some []))).alloc (.loop { state := .ready, pending := none, fn := fn, tmps := a.tmps, params := ps, assign := assign, body := body, defers := w.heap.size }), w.heap.size :: own, _, ?_, ?_, w.alloc (.deferred (some [])), ?_, rfl, rfl, rfl, rfl, rfl, rfl, rfl, rfl⟩
          · simp [Instr.enterLoop, Fc, Fence.wide, Sem.run_bind, newObj, Sem.run, Result.andThen, World.alloc_eq]
            rfl
          · rw [hd]; rfl
          · exact hs.pinMore _
        | some i =>
          obtain ⟨lr, hlr, hrd⟩ := hc
          subst hrd
          have hil := (hs.ldom i lr hlr).1
          obtain ⟨r, hr, _, fn2, tm2, df2, hw2, _⟩ := hs.loop i st.lp[i] (by simp [hil])
          rw [hlr] at hr; cases hr
          refine ⟨w.heap.size, [], w.alloc (.loop { state := .ready, pending := none, fn := fn, tmps := a.tmps, params := ps, assign := assign, body := body, defers := df2 }), own, _, ?_, ?_, w, hs, rfl, rfl, rfl, rfl, rfl, rfl, rfl, rfl⟩
          · simp [Instr.enterLoop, Fc, Instr.getLoop, getObj, Sem.run_bind, newObj, Sem.run, Result.andThen, hw2, World.alloc_eq]
          · rw [List.nil_append]; exact hd
      obtain ⟨l, mark, w₁, own₁, rec, hel, hmk, w', hs', rfl, rfl, e1, e2, e3, e4, e5, e6⟩ := henter
      have hsim := hs'.pushLoop' { st := .ready, pend := none, tmps := t, params := ps, assign := assign, body := body } rec (by rw [e3]; exact ht) e1 e2 e4 e5 e6
      have hle := hs'.extl_le w'.heap.size
      have hyl : VRel (ρ.extl st.lp.length w'.heap.size) (.yield st.lp.length) (.func (.yield w'.heap.size) #[] #[]) := .yield (by simp [Ren.extl])
      have hcall := h (ownPins own₁ ++ base) _ _ (first' ++ #[.func (.yield w'.heap.size) #[] #[]] ++ cap') hsim (by simpa using ((hr1.mono hle).append (.cons hyl .nil)).append (hr2.mono hle))
      refine ⟨_, mark, _, { target := .fn (.func k) cap', args := first' ++ #[.func (.yield w'.heap.size) #[] #[]] }, w'.alloc (.loop rec), k, _, _, hel, ?_, fun _ _ => trivial, ?_, (fun hh => by cases hh), (callsIn_fc rd _ hcall).mono ?_⟩
      · have hcc : (#[Operand.const (.func (.yield w'.heap.size) #[] #[])] : Array Operand).map a.eval = #[.func (.yield w'.heap.size) #[] #[]] := by simp [Act.eval]
        simp only [resolve, rangeCall, hcc, hfa, Deferred.ofValue, Sem.run_pure]
      · simp only [invoke]; exact enter_run hen _
      · rintro e w3 ⟨v', ρ3, v, st3, rfl, hle3, hs3, hv3, hk3⟩
        obtain ⟨al, hal, hnb, hj⟩ := OptK_iff.1 hk3
        have hl3 : ρ3.loop st.lp.length = some w'.heap.size := hle3.loop _ _ (by simp [Ren.extl])
        obtain ⟨r, hr, _, fn3, tm3, df3, hw3, htm3⟩ := hs3.loop _ al hal
        rw [hl3] at hr; cases hr
        obtain ⟨ho, hat⟩ := Only.setLoop (.loop { state := .exhausted, pending := al.pend, fn := fn3, tmps := tm3, params := al.params, assign := al.assign, body := al.body, defers := df3 }) hw3
        have hs4 := hs3.setLoop' (al' := { al with st := .exhausted }) hal hl3 ho ⟨fn3, tm3, df3, hat, htm3⟩
        refine ⟨al.pend, { w3 with heap := w3.heap.setIfInBounds w'.heap.size (.loop { state := .exhausted, pending := al.pend, fn := fn3, tmps := tm3, params := al.params, assign := al.assign, body := al.body, defers := df3 }) }, ?_, ?_⟩
        · exact run_endLoop hw3 hnb
        · obtain ⟨k1, k2⟩ := jump_wp (P := P) (rd := rd) (a := { a with defers := mark ++ a.defers }) (ρ0 := ρ) (hle.trans hle3) hs4 ((ht.mono hle).mono hle3) hmk hj
          split
          · rename_i e; exact k1 e
          · rename_i c e; exact k2 c e
    · exact h.elim
end
end Go.Ab
