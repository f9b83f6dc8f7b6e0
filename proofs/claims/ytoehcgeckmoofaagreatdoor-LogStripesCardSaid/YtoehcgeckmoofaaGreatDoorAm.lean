/- From 'gen' to what a call of a function, of a loop's yield comes to. -/
import Derived.Test.YtoehcgeckmoofaaGreatDoorAl
set_option linter.unusedVariables false
set_option linter.unusedSimpArgs false
namespace Go.Ab
open Go Go.RowKit

/-- The results of a function, out of its temporaries (and boxes). -/
def resV (P : Program) (t : List AV) (st : St) : ResultVar → (AV → Prop) → Prop
  | .tmp i, K => K (t.getD i .any)
  | .cell a ty, K => OptK (tyAgg P ty) fun g => Chk (tyHas P ty) (Ld st (t.getD a .any) g (tySize P ty) fun v _ => K v)

def resVs (P : Program) (t : List AV) (st : St) : List ResultVar → (List AV → Prop) → Prop
  | [], K => K []
  | r :: rs, K => resV P t st r fun v => resVs P t st rs fun vs => K (v :: vs)

def resPost (P : Program) (rs : List ResultVar) (Q : Kont) (t : List AV) (st : St) : Prop :=
  resVs P t st rs fun vs => match vs with
    | [v] => Q v st
    | vs => Q (.tup vs) st

def bodyQ (P : Program) (rs : List ResultVar) (Q : Kont) : APost
  | .normal, t, st => resPost P rs Q t st
  | .ret, t, st => resPost P rs Q t st
  | _, _, _ => False

def startT (n : Nat) (args : List AV) : List AV := args ++ List.replicate (n - args.length) .any

def readRes (tmps : Array Value) : ResultVar → Sem Value
  | .tmp t => pure (tmps.getD t undef)
  | .cell a t => do loadVar t (← asAddr (tmps.getD a undef))

section
variable {P : Program} {w0 : World} {pins : List (Nat × Obj)} {ρ : Ren} {st : St} {w : World}

theorem ld_run {ty : TypeId} {g : Bool} {a : AV} {a' : Value} {K : Kont} (h : Sim w0 pins ρ st w) (ha : VRel ρ a a') (hg : tyAgg P ty = some g) (hs : tyHas P ty = true) (hk : Ld st a g (tySize P ty) K) :
    ∃ v' v ad, a' = .pointer (some ad) ∧ (loadVar ty ad).run P w = .ok v' w ∧ VRel ρ v v' ∧ K v st := by
  cases a with
  | ptr b o =>
    obtain ⟨rb, ro, rs, e, rfl⟩ := ha.ptr_inv
    obtain ⟨cs, hc, hk⟩ := OptK_iff.1 hk
    cases g with
    | true =>
      obtain ⟨hn, hk⟩ := LdN_spec' hk
      rcases hn with hn | hn
      · refine ⟨.agg #[], _, _, rfl, ?_, ?_, hk⟩
        · simp [loadVar, Sem.run_bind, run_agg hg, Result.andThen, run_size hs, hn, Go.loadCells, loadCellsFrom]
        · rw [hn]; exact VRel.agg_iff.2 (by simpa using VRels.nil)
      · obtain ⟨vs, hr, hv, hl⟩ := h.loadCells (P := P) hc e o (tySize P ty) hn
        refine ⟨.agg vs.toArray, _, _, rfl, ?_, VRel.agg_iff.2 (by simpa using hv), hk⟩
        simp [loadVar, Sem.run_bind, run_agg hg, Result.andThen, run_size hs, hr]
    | false =>
      obtain ⟨v, hv, hk⟩ := OptK_iff.1 hk
      obtain ⟨u, hu, hvu⟩ := h.cell hc hv e
      refine ⟨u, _, _, rfl, ?_, hvu, hk⟩
      simp [loadVar, Sem.run_bind, run_agg hg, Result.andThen, run_load, hu]
  | _ => exact hk.elim

theorem resV_run {t : List AV} {tmps : Array Value} {r : ResultVar} {K : AV → Prop} (h : Sim w0 pins ρ st w) (ht : TRel ρ t tmps) (hk : resV P t st r K) :
    ∃ v' v, (readRes tmps r).run P w = .ok v' w ∧ VRel ρ v v' ∧ K v := by
  cases r with
  | tmp i => exact ⟨_, _, rfl, ht.at_ i, hk⟩
  | cell a ty =>
    obtain ⟨g, hg, hk⟩ := OptK_iff.1 hk
    obtain ⟨hs, hk⟩ := Chk_iff.1 hk
    obtain ⟨v', v, ad, e, hr, hv, hk⟩ := ld_run h (ht.at_ a) hg hs hk
    refine ⟨v', v, ?_, hv, hk⟩
    simp only [readRes, e, Sem.run_bind, asAddr, Sem.run_pure, Result.andThen, hr]

theorem resVs_run {t : List AV} {tmps : Array Value} (h : Sim w0 pins ρ st w) (ht : TRel ρ t tmps) : ∀ {rs : List ResultVar} {K : List AV → Prop}, resVs P t st rs K →
    ∃ vs' vs, (rs.mapM (readRes tmps)).run P w = .ok vs' w ∧ VRels ρ vs vs' ∧ K vs
  | [], K, hk => ⟨[], [], rfl, .nil, hk⟩
  | r :: rs, K, hk => by
    obtain ⟨v', v, hr, hv, hk⟩ := resV_run (P := P) h ht hk
    obtain ⟨vs', vs, hrs, hvs, hk⟩ := resVs_run h ht hk
    refine ⟨v' :: vs', v :: vs, ?_, .cons hv hvs, hk⟩
    rw [List.mapM_cons]
    simp only [Sem.run_bind, Sem.run_pure]
    rw [hr]
    simp only [Result.andThen, Sem.run_bind]
    rw [hrs]

theorem resPost_run {fn : Func} {t : List AV} {tmps : Array Value} {Q : Kont} (h : Sim w0 pins ρ st w) (ht : TRel ρ t tmps) (hk : resPost P fn.results.toList Q t st) :
    ∃ v' v, (results fn tmps).run P w = .ok v' w ∧ VRel ρ v v' ∧ Q v st := by
  obtain ⟨vs', vs, hr, hv, hk⟩ := resVs_run (P := P) h ht hk
  have hr2 : (fn.results.mapM (readRes tmps)).run P w = .ok vs'.toArray w := by
    rw [Array.mapM_eq_mapM_toList]
    show Sem.run P (List.toArray <$> _) w = _
    rw [map_eq_pure_bind, Sem.run_bind, hr]; rfl
  have hfin : (results fn tmps).run P w = .ok (if h : vs'.toArray.size = 1 then vs'.toArray[0] else .tuple vs'.toArray) w := by
    show Sem.run P (fn.results.mapM (readRes tmps) >>= fun vs => pure (if h : vs.size = 1 then vs[0] else .tuple vs)) w = _
    rw [Sem.run_bind, hr2]; rfl
  match vs, vs', hv, hk, hfin with
  | [], [], hv, hk, hfin => exact ⟨_, _, hfin, VRel.tup_iff.2 .nil, hk⟩
  | [v], [v'], hv, hk, hfin => exact ⟨_, _, hfin, by simpa using hv.at_ 0 (by simp), hk⟩
  | v1 :: v2 :: vs, v1' :: v2' :: vs', hv, hk, hfin => exact ⟨_, _, hfin, by
      rw [dif_neg (by simp)]; exact VRel.tup_iff.2 (by simpa using hv), hk⟩
  | [], _ :: _, hv, _, _ => have := hv.len; simp at this
  | _ :: _, [], hv, _, _ => have := hv.len; simp at this
  | [_], _ :: _ :: _, hv, _, _ => have := hv.len; simp at this
  | _ :: _ :: _, [_], hv, _, _ => have := hv.len; simp at this

theorem startT_rel {args : List AV} {args' : Array Value} {n : Nat} (h : VRels ρ args args'.toList) : TRel ρ (startT n args) (args' ++ Array.replicate (n - args'.size) undef) := by
  have hl : args.length = args'.size := by simpa using h.len
  refine ⟨by simp [startT, hl], fun i => ?_⟩
  by_cases hi : i < args.length
  · have := h.at_ i hi
    have hi' : i < args'.size := hl ▸ hi
    have e1 : (startT n args).getD i .any = args.getD i .any := by simp [startT, List.getD, List.getElem?_append_left hi]
    have e2 : (args' ++ Array.replicate (n - args'.size) undef).getD i undef = args'.toList.getD i undef := by
      simp [Array.getD, List.getD, hi', Array.getElem_append_left hi', Nat.lt_add_right]
    rw [e1, e2]; exact this
  · have e1 : (startT n args).getD i .any = .any := by
      simp only [startT, List.getD, List.getElem?_append_right (Nat.le_of_not_lt hi), List.getElem?_replicate]
      split <;> rfl
    rw [e1]; exact .any _

/-- A pin goes, and what lay there. -/
theorem Sim.unpin {r : Nat} {d : Option (List Deferred)} {o' : Obj} (h : Sim w0 ((r, .deferred d) :: pins) ρ st w) : Sim w0 pins ρ st { w with heap := w.heap.setIfInBounds r o' } := by
  have hw := (h.pin (r, .deferred d) (by simp)).1
  have hb := (h.pin (r, .deferred d) (by simp)).2
  obtain ⟨ho, _⟩ := Only.setObj (o' := o') hw
  simp only at hb
  refine ⟨h.below.trans (ho.below hb), fun b x e => ⟨(h.dom b x e).1, by rw [ho.size]; exact (h.dom b x e).2⟩, fun b k e hk => ?_, h.inj, fun j r' e => ⟨(h.ldom j r' e).1, by rw [ho.size]; exact (h.ldom j r' e).2⟩, fun j l e => ?_, h.linj, fun p hp => ?_,
    fun p hp => h.pout p (by simp [hp]), fun i r' e p hp => h.lout i r' e p (by simp [hp]), (List.nodup_cons.1 h.pnd).2⟩
  · obtain ⟨x, hx, hB⟩ := h.blk b k e hk
    refine ⟨x, hx, ?_⟩
    by_cases hxr : x.1 = r
    · exfalso
      cases hrw : k.rw with
      | true => exact h.pout (r, .deferred d) (by simp) b k x e hrw hx hxr
      | false =>
        cases k with
        | cells ro cs =>
          obtain ⟨rb, ob, rs⟩ := x
          obtain ⟨c, elem, fz, h1, _⟩ := hB
          simp only at hxr hw; rw [hxr, hw] at h1; cases h1
        | amap es => simp [ABlk.rw] at hrw
        | iter m since seen last => simp [ABlk.rw] at hrw
        | dead => exact hk rfl
    · exact hB.mono (.refl _) (ho.block _ hxr)
  · obtain ⟨r', hr', hb', hL⟩ := h.loop j l e
    exact ⟨r', hr', hb', hL.mono (.refl _) (ho.block _ (h.lout j r' hr' (r, .deferred d) (by simp)))⟩
  · obtain ⟨h1, h2⟩ := h.pin p (by simp [hp])
    refine ⟨?_, h2⟩
    rw [ho.block _ (fun hh => (List.nodup_cons.1 h.pnd).1 (List.mem_map.2 ⟨p, hp, hh⟩))]; exact h1

theorem leaves_marks {fn : Func} {tmps : Array Value} {R : Ending → World → Prop} {base : List (Nat × Obj)} (rd : Option Nat) : ∀ (own : List Nat) (w : World), Sim w0 (ownPins own ++ base) ρ st w →
    (∀ w', Sim w0 base ρ st w' → ∃ v, (results fn tmps).run P w' = .ok v w' ∧ R (.returned v) w') → LeavesInM (Fc rd) 0 P fn tmps R (marks own) .returning w
  | [], w, h, hr => by
    obtain ⟨v, h1, h2⟩ := hr w h
    exact ⟨v, h1, h2⟩
  | r :: own, w, h, hr => by
    refine ⟨by simp, .inl ⟨r, { w with heap := w.heap.setIfInBounds r (.deferred none) }, rfl, ?_, leaves_marks rd own _ ?_ hr⟩⟩
    · have := (h.pin (r, .deferred (some [])) (by simp [ownPins])).1
      simp [Instr.takeDeferred, getObj, setObj, Sem.run_bind, Sem.run, Result.andThen, this]
    · exact h.unpin

theorem Sim.pinSame {own own' : List Nat} {base} (h : Sim w0 (ownPins own ++ base) ρ st w) : True := trivial

/-- **A FUNCTION's CALL, OUT OF ITS CODE.** -/
theorem acall_of_gen {f : FuncId} {fn : Func} {c : Code} {args : List AV} {Q : Kont} (ann : Nat → List Nat) (hf : P.funcs[f]? = some fn) (hb : fn.body = some c) (hen : enterOk P f = true)
    (h : gen P w0 ann none c (startT fn.ntmps args) st (bodyQ P fn.results.toList Q)) : ACall P w0 f args st Q := by
  refine ⟨hen, fun pins ρ w args' hs ha => ?_⟩
  have hw := gen_sound h pins [] ρ w { tmps := args' ++ Array.replicate (fn.ntmps - args'.size) undef, defers := [] } none (by simpa [ownPins] using hs) (startT_rel ha) rfl rfl
  have hc : CallsIn Fence.wide 0 P f args' w (CPost w0 pins ρ Q) := by
    refine callsIn_of_wp_marks hf hb trivial (wpIn_mono hw ?_)
    rintro e a' w' ⟨own', ρ', t', st', x, rfl, hle, hs', ht', hd', hk⟩
    have fin : resPost P fn.results.toList Q t' st' → LeavesInM Fence.wide 0 P fn a'.tmps (CPost w0 pins ρ Q) a'.defers .returning w' := by
      intro hk
      rw [hd']
      refine leaves_marks none own' w' hs' fun w2 hs2 => ?_
      obtain ⟨v', v, hr, hv, hq⟩ := resPost_run (P := P) hs2 ht' hk
      exact ⟨v', hr, v', ρ', v, st', rfl, hle, hs2, hv, hq⟩
    cases x with
    | normal => exact fin hk
    | ret => exact fin hk
    | exit id => exact hk.elim
    | goto l => exact hk.elim
  exact callsIn_wide.1 hc

/-- The temporaries of a round. -/
def roundT (t : List AV) (ps : List Tmp) (args : List AV) : List AV := (ps.zip args).foldl (fun t x => t.set x.1 x.2) t

theorem roundT_rel : ∀ {ps : List Tmp} {args : List AV} {args' : List Value} {t tmps}, TRel ρ t tmps → VRels ρ args args' →
    TRel ρ (roundT t ps args) ((ps.zip args').foldl (fun tmps (x : Tmp × Value) => tmps.setIfInBounds x.1 x.2) tmps)
  | [], _, _, _, _, h, _ => h
  | p :: ps, [], args', t, tmps, h, ha => by
    obtain rfl := ha.nil_inv
    exact h
  | p :: ps, a :: args, args', t, tmps, h, ha => by
    obtain ⟨v, vs, rfl, h1, h2⟩ := ha.cons_inv
    exact roundT_rel (ps := ps) (args := args) (args' := vs) (t := t.set p a) (tmps := tmps.setIfInBounds p v) (h.set p h1) h2

theorem Sim.dropPins {more : List (Nat × Obj)} (h : Sim w0 (more ++ pins) ρ st w) : Sim w0 pins ρ st w :=
  ⟨h.below, h.dom, h.blk, h.inj, h.ldom, h.loop, h.linj, fun p hp => h.pin p (List.mem_append_right _ hp), fun p hp => h.pout p (List.mem_append_right _ hp), fun i r e p hp => h.lout i r e p (List.mem_append_right _ hp),
    by have := h.pnd; rw [List.map_append] at this; exact (List.nodup_append.1 this).2.1⟩

/-- What a round's end does to the loop's record. -/
def roundEnd (i : Nat) (Q : Kont) : APost := fun x _ st =>
  OptK st.lp[i]? fun al => match x with
    | .normal => Q (.bool true) (setLoop st i { al with st := .ready, pend := none })
    | .ret => Q (.bool false) (setLoop st i { al with st := .done, pend := some .ret })
    | .exit id => Q (.bool false) (setLoop st i { al with st := .done, pend := some (.exit id) })
    | .goto l => Q (.bool false) (setLoop st i { al with st := .done, pend := some (.goto l) })

theorem run_beginRound {l : Nat} {rec : Loop} {w : World} (hw : w.heap[l]? = some (.loop rec)) (hr : rec.state = .ready) :
    (Instr.beginRound l).run P w = .ok () { w with heap := w.heap.setIfInBounds l (.loop { rec with state := .busy }) } := by
  unfold Instr.beginRound
  simp only [Sem.run_bind, run_getLoop hw, Result.andThen, run_setLoop hw, hr, Sem.run_pure]
theorem run_endRound {l : Nat} {rec : Loop} {w : World} {j : Option Code} (hw : w.heap[l]? = some (.loop rec)) :
    (Instr.endRound l j).run P w = .ok (.bool j.isNone) { w with heap := w.heap.setIfInBounds l (.loop { rec with state := if j.isNone then .ready else .done, pending := j }) } := by
  unfold Instr.endRound
  simp only [Sem.run_bind, run_getLoop hw, Result.andThen, run_setLoop hw, Sem.run_pure]

theorem setLoop_rel {i l : Nat} {al al' : ALoop} (h : Sim w0 pins ρ st w) (hi : st.lp[i]? = some al) (hl : ρ.loop i = some l) (hsame : al'.tmps = al.tmps ∧ al'.params = al.params ∧ al'.assign = al.assign ∧ al'.body = al.body) :
    ∃ rec, w.heap[l]? = some (.loop rec) ∧ rec.state = al.st ∧ rec.pending = al.pend ∧ rec.params = al.params ∧ rec.assign = al.assign ∧ rec.body = al.body ∧ TRel ρ al.tmps rec.tmps ∧
      ∀ s j, al'.st = s → al'.pend = j → Sim w0 pins ρ (setLoop st i al') { w with heap := w.heap.setIfInBounds l (.loop { rec with state := s, pending := j }) } := by
  obtain ⟨r, hr, hb, fn, tm, df, hw, ht⟩ := h.loop i al hi
  rw [hl] at hr; cases hr
  refine ⟨_, hw, rfl, rfl, rfl, rfl, rfl, ht, fun s j h1 h2 => ?_⟩
  obtain ⟨ho, hat⟩ := Only.setLoop (.loop { state := s, pending := j, fn := fn, tmps := tm, params := al.params, assign := al.assign, body := al.body, defers := df }) hw
  refine h.setLoop' hi hl ho ⟨fn, tm, df, ?_, by rw [hsame.1]; exact ht⟩
  rw [hat, h1, h2, hsame.2.1, hsame.2.2.1, hsame.2.2.2]

/-- **A ROUND OF A LOOP OVER A FUNCTION, OUT OF THE LOOP's OWN CODE.** -/
theorem ayield_of_gen {i : Nat} {al : ALoop} {args : List AV} {Q : Kont} (ann : Nat → List Nat) (hi : st.lp[i]? = some al) (hp : al.params.size = args.length)
    (h : gen P w0 ann (some i) al.assign (roundT al.tmps al.params.toList args) st fun x t1 st1 => match x with
      | .normal => OptK st1.lp[i]? fun al1 => al1.st = .ready ∧ gen P w0 ann (some i) al.body t1 (setLoop st1 i { al1 with st := .busy }) (roundEnd i Q)
      | _ => False) : AYield P w0 i args st Q := by
  intro pins ρ w args' l hs ha hl
  obtain ⟨rec, hw, e1, e2, e3, e4, e5, htm, _⟩ := setLoop_rel (al' := al) hs hi hl ⟨rfl, rfl, rfl, rfl⟩
  have hsz : args'.size = rec.params.size := by have := ha.len; rw [e3, hp, this]; simp
  refine ⟨rec.fn, (rec.params.zip args').foldl (fun tmps (t, a) => tmps.setIfInBounds t a) rec.tmps, rec.assign, rec.body, ?_, ?_⟩
  · unfold Instr.yield
    simp only [Sem.run_bind, run_getLoop hw, Result.andThen]
    rw [if_neg (by omega)]; rfl
  · have hround : TRel ρ (roundT al.tmps al.params.toList args) ((rec.params.zip args').foldl (fun tmps (t, a) => tmps.setIfInBounds t a) rec.tmps) := by
      have := roundT_rel (ps := al.params.toList) htm ha
      rw [← Array.foldl_toList, Array.toList_zip, e3]
      exact this
    refine roundIn_of_wpIn (F := Fence.wide) trivial ?_
    rw [e4, e5]
    have hA := gen_sound h pins [] ρ w { tmps := (rec.params.zip args').foldl (fun tmps (t, a) => tmps.setIfInBounds t a) rec.tmps, defers := [] } (some l) (by simpa [ownPins] using hs) hround ⟨l, hl, rfl⟩ rfl
    refine wpIn_mono hA ?_
    rintro e a1 w1 ⟨own1, ρ1, t1, st1, x, rfl, hle1, hs1, ht1, hd1, hk1⟩
    cases x with
    | normal =>
      obtain ⟨al1, hal1, hready, hk1⟩ := OptK_iff.1 hk1
      have hl1 := hle1.loop _ _ hl
      obtain ⟨rec1, hw1, f1, f2, f3, f4, f5, _, hset⟩ := setLoop_rel (al' := { al1 with st := .busy }) hs1 hal1 hl1 ⟨rfl, rfl, rfl, rfl⟩
      have hs2 := hset .busy al1.pend rfl rfl
      have erec : ({ rec1 with state := .busy, pending := al1.pend } : Loop) = { rec1 with state := .busy } := by rw [← f2]
      rw [erec] at hs2
      refine ⟨_, run_beginRound hw1 (by rw [f1]; exact hready), ?_⟩
      have hB := gen_sound hk1 pins own1 ρ1 _ a1 (some l) hs2 ht1 ⟨l, hl1, rfl⟩ hd1
      refine wpIn_mono hB ?_
      rintro e a2 w2 ⟨own2, ρ2, t2, st2, x, rfl, hle2, hs3, ht2, hd2, hk2⟩
      obtain ⟨al2, hal2, hk2⟩ := OptK_iff.1 hk2
      have hl2 := hle2.loop _ _ hl1
      obtain ⟨rec2, hw2, _, _, g3, g4, g5, _, hset2⟩ := setLoop_rel (al' := al2) hs3 hal2 hl2 ⟨rfl, rfl, rfl, rfl⟩
      have fin : ∀ (j : Option Code) (s : LoopState), (if j.isNone = true then LoopState.ready else .done) = s → Q (.bool j.isNone) (setLoop st2 i { al2 with st := s, pend := j }) →
          ∃ v w', (Instr.endRound l j).run P w2 = .ok v w' ∧ CPost w0 pins ρ Q (.returned v) w' := by
        intro j s hsj hq
        obtain ⟨rec3, hw3, _, _, _, _, _, _, hset3⟩ := setLoop_rel (al' := { al2 with st := s, pend := j }) hs3 hal2 hl2 ⟨rfl, rfl, rfl, rfl⟩
        rw [hw2] at hw3; cases hw3
        refine ⟨_, _, run_endRound hw2, .bool j.isNone, ρ2, .bool j.isNone, _, rfl, (hle1.trans hle2), ?_, .bool _, hq⟩
        rw [hsj]
        exact (hset3 s j rfl rfl).dropPins
      cases x with
      | normal => exact fin none .ready rfl hk2
      | ret => exact fin (some .ret) .done rfl hk2
      | exit id => exact fin (some (.exit id)) .done rfl hk2
      | goto t => exact fin (some (.goto t)) .done rfl hk2
    | exit id => exact hk1.elim
    | goto l => exact hk1.elim
    | ret => exact hk1.elim
end
end Go.Ab
