/- Regions that draw their order, done: one walk in one order, with what must stay as it was. -/
import Derived.Test.YtoehcgeckmoofaaGreatDoorAn
set_option linter.unusedVariables false
set_option linter.unusedSimpArgs false
namespace Go.Ab
open Go Go.RowKit

/-- What an operation waits for, of itself. -/
def dpre (ops : List Oper) (i : Nat) : List Nat := match ops[i]? with | some o => (o.after.toList.filter (Region.binds .any)).map (·.on) | none => []
def ancGo (ops : List Oper) : Nat → List Nat → List Nat → List Nat
  | 0, _, acc => acc
  | _ + 1, [], acc => acc
  | f + 1, c :: todo, acc => match acc.elem c with | true => ancGo ops f todo acc | false => ancGo ops f (dpre ops c ++ todo) (c :: acc)
def ancs (ops : List Oper) (i : Nat) : List Nat := ancGo ops (ops.length * ops.length + ops.length + 1) (dpre ops i) []

def TG (ops : List Oper) : Nat → Nat → Prop := Relation.TransGen fun a b => a ∈ dpre ops b

theorem ancGo_sound {ops : List Oper} {i : Nat} : ∀ (f : Nat) (todo acc : List Nat), (∀ c ∈ todo, TG ops c i) → (∀ c ∈ acc, TG ops c i) → ∀ x ∈ ancGo ops f todo acc, TG ops x i
  | 0, _, acc, _, ha, x, hx => ha x hx
  | _ + 1, [], acc, _, ha, x, hx => ha x hx
  | f + 1, c :: todo, acc, ht, ha, x, hx => by
    simp only [ancGo] at hx
    split at hx
    · exact ancGo_sound f todo acc (fun d hd => ht d (by simp [hd])) ha x hx
    · refine ancGo_sound f _ _ (fun d hd => ?_) (fun d hd => ?_) x hx
      · rcases List.mem_append.1 hd with hd | hd
        · exact (Relation.TransGen.single hd).trans (ht c (by simp))
        · exact ht d (by simp [hd])
      · rcases List.mem_cons.1 hd with rfl | hd
        · exact ht _ (by simp)
        · exact ha d hd

theorem ancs_sound {ops : List Oper} {i x : Nat} (h : x ∈ ancs ops i) : TG ops x i :=
  ancGo_sound _ _ _ (fun c hc => .single hc) (fun c hc => by cases hc) x h

def isPure (P : Program) (ops : List Oper) (i : Nat) : Bool := match ops[i]? with | some o => pureOp P o.op | none => false
def isRead (ops : List Oper) (i : Nat) : Bool := match ops[i]? with | some o => readOp o.op | none => false
def dstOf (ops : List Oper) (i : Nat) : Option Tmp := (ops[i]?).bind (·.dst)
def looksOf (ops : List Oper) (i : Nat) : List Tmp := match ops[i]? with | some o => looks ops o | none => []

/-- a may stand before b in the walk. -/
def pairOk (P : Program) (ops : List Oper) (a b : Nat) : Bool :=
  !(dpre ops a).elem b &&
  (match dstOf ops b with | some d => !(looksOf ops a).elem d || ((dpre ops b).elem a && !isRead ops a) | none => true) &&
  (match dstOf ops a, dstOf ops b with | some d, some e => d != e | _, _ => true) &&
  (match dstOf ops a with | some d => !(looksOf ops b).elem d || (dpre ops b).elem a | none => true) &&
  (isPure P ops a || (ancs ops b).elem a)

def stab (P : Program) (w0 : World) (ops : List Oper) (t : List AV) (st : St) : List Nat → Prop → Prop
  | [], X => X
  | h :: hs, X => (match ops[h]? with
    | some o => run1 P w0 ops o t st fun v _ => (match o.dst with | some d => v = t.getD d .any | none => True)
    | none => True) ∧ stab P w0 ops t st hs X

/-- The walk. H: the reads done so far. -/
def gV (P : Program) (w0 : World) (ops : List Oper) : List Nat → List Nat → List AV → St → (List AV → St → Prop) → Prop
  | [], _, t, st, K => K t st
  | i :: rest, H, t, st, K => match ops[i]? with
    | none => False
    | some o => match pureOp P o.op with
      | true => run1 P w0 ops o t st fun v _ => gV P w0 ops rest (match readOp o.op with | true => i :: H | false => H) (aput t o.dst v) st K
      | false => run1 P w0 ops o t st fun v st' => stab P w0 ops (aput t o.dst v) st' (H.filter fun h => !(ancs ops i).elem h) (gV P w0 ops rest H (aput t o.dst v) st' K)

def pwOk (P : Program) (ops : List Oper) : List Nat → Bool
  | [] => true
  | a :: l => !l.elem a && !(dpre ops a).elem a && (dpre ops a).all (fun c => decide (c < ops.length)) && (match isRead ops a, dstOf ops a with | true, some d => !(looksOf ops a).elem d | _, _ => true) && l.all (pairOk P ops a) && pwOk P ops l
def drawOk (P : Program) (ops : List Oper) (ord : List Nat) : Bool :=
  (List.range ops.length).all (fun i => ord.elem i) && ord.all (fun i => decide (i < ops.length)) && (ord.length == ops.length) && pwOk P ops ord

section
variable {P : Program} {w0 : World} {ops : List Oper}

def stabOk (P : Program) (w0 : World) (ops : List Oper) (t : List AV) (st : St) (h : Nat) : Prop :=
  ∀ o, ops[h]? = some o → run1 P w0 ops o t st fun v _ => (match o.dst with | some d => v = t.getD d .any | none => True)

theorem stab_iff {t st} {X : Prop} : ∀ {l : List Nat}, stab P w0 ops t st l X ↔ (∀ h ∈ l, stabOk P w0 ops t st h) ∧ X
  | [] => by simp [stab]
  | h :: hs => by
    simp only [stab, stab_iff (l := hs), List.mem_cons, forall_eq_or_imp]
    have : (match ops[h]? with
      | some o => run1 P w0 ops o t st fun v _ => (match o.dst with | some d => v = t.getD d .any | none => True)
      | none => True) ↔ stabOk P w0 ops t st h := by
      unfold stabOk
      cases ops[h]? with
      | none => simp
      | some o => simp
    rw [this, and_assoc]

theorem gV_mono {K : List AV → St → Prop} : ∀ {C H H' : List Nat} {t st}, H' ⊆ H → gV P w0 ops C H t st K → gV P w0 ops C H' t st K
  | [], _, _, _, _, _, h => h
  | i :: rest, H, H', t, st, hs, h => by
    simp only [gV] at h ⊢
    split at h
    · exact h
    · rename_i o ho
      split at h
      · rename_i hp
        refine run1_mono (fun v st' hh => gV_mono ?_ hh) h
        split
        · exact List.cons_subset_cons _ hs
        · exact hs
      · rename_i hp
        refine run1_mono (fun v st' hh => ?_) h
        obtain ⟨h1, h2⟩ := stab_iff.1 hh
        refine stab_iff.2 ⟨fun x hx => h1 x ?_, gV_mono hs h2⟩
        obtain ⟨hx1, hx2⟩ := List.mem_filter.1 hx
        exact List.mem_filter.2 ⟨hs hx1, hx2⟩

theorem aput_comm (t : List AV) {d e : Option Tmp} (v u : AV) (h : ∀ x y, d = some x → e = some y → x ≠ y) : aput (aput t d v) e u = aput (aput t e u) d v := by
  cases d <;> cases e <;> simp only [aput]
  exact (List.set_comm _ _ (h _ _ rfl rfl))

theorem aput_getD (t : List AV) {d : Option Tmp} {x : Tmp} (v : AV) (h : d ≠ some x) : (aput t d v).getD x .any = t.getD x .any := by
  cases d with
  | none => rfl
  | some d => simp only [aput, List.getD]; rw [List.getElem?_set_ne (fun hh => h (by rw [hh]))]

/-- A pure operation that reads nothing says the same in every state. -/
theorem gop1_noread {o : Oper} {t : List AV} (hp : pureOp P o.op = true) (hr : readOp o.op = false) (st st' : St) (J : AV → Prop) : gop1 P w0 o t st (fun v _ => J v) = gop1 P w0 o t st' fun v _ => J v := by
  obtain ⟨dst, op, type, pos, after, guard⟩ := o
  simp only at hp hr ⊢
  cases op <;> simp only [pureOp, readOp, Bool.false_eq_true, Bool.true_eq_false] at hp hr
  case makeFunc fn first cap => cases fn <;> rfl
  case convert s d x =>
    simp only [gop1, gop]
    split
    · rfl
    · rfl
    · rename_i h1; rw [h1] at hp; cases hp
    · rfl
  all_goals first
    | rfl
    | (simp only [gop1, gop]; done)
    | (simp only [gop1, gop]; split <;> first | rfl | (split <;> rfl))

theorem run1_noread {o : Oper} {t : List AV} (hp : pureOp P o.op = true) (hr : readOp o.op = false) (st st' : St) (J : AV → Prop) : run1 P w0 ops o t st (fun v _ => J v) = run1 P w0 ops o t st' fun v _ => J v := by
  unfold run1
  split
  · exact gop1_noread hp hr st st' J
  · split
    · rfl
    · rw [gop1_noread hp hr st st' J]

theorem pairOk_iff {a b : Nat} : pairOk P ops a b = true ↔ b ∉ dpre ops a ∧ (∀ d, dstOf ops b = some d → d ∈ looksOf ops a → a ∈ dpre ops b ∧ isRead ops a = false) ∧
    (∀ d e, dstOf ops a = some d → dstOf ops b = some e → d ≠ e) ∧ (∀ d, dstOf ops a = some d → d ∈ looksOf ops b → a ∈ dpre ops b) ∧ (isPure P ops a = true ∨ a ∈ ancs ops b) := by
  unfold pairOk
  cases hb : dstOf ops b <;> cases ha : dstOf ops a <;> simp [Bool.and_eq_true, and_assoc] <;> grind

theorem set_getD_self (X : List AV) (d : Nat) (v : AV) : X.set d ((X.set d v).getD d .any) = X.set d v := by
  by_cases hlt : d < X.length
  · simp [List.getD, hlt]
  · rw [List.set_eq_of_length_le (by omega), List.set_eq_of_length_le (by omega)]

theorem swap_head {a i : Nat} {rest H : List Nat} {t : List AV} {st : St} {K : List AV → St → Prop} (hpa : isPure P ops a = true) (hai : pairOk P ops a i = true) (hself : isRead ops a = true → ∀ d, dstOf ops a = some d → d ∉ looksOf ops a) (hd : a ∉ dpre ops i) (hanc : a ∉ ancs ops i)
    (hH : ∀ h ∈ H, isRead ops h = true ∧ pairOk P ops h a = true) (h : gV P w0 ops (a :: i :: rest) H t st K) : gV P w0 ops (i :: a :: rest) H t st K := by
  obtain ⟨c1, c2, c3, c4, c5⟩ := pairOk_iff.1 hai
  unfold gV at h ⊢
  cases hoa : ops[a]? with
  | none => rw [hoa] at h; exact h.elim
  | some oa =>
  rw [hoa] at h
  have hpa' : pureOp P oa.op = true := by simpa [isPure, hoa] using hpa
  simp only [hpa'] at h
  unfold gV at h ⊢
  cases hoi : ops[i]? with
  | none =>
    rw [hoi] at h
    obtain ⟨v, hv, _⟩ := run1_wit hpa' st _ h
    exact hv.elim
  | some oi =>
  simp only [hoi, hoa, hpa'] at h ⊢
  have e1 : dstOf ops a = oa.dst := by simp [dstOf, hoa]
  have e2 : dstOf ops i = oi.dst := by simp [dstOf, hoi]
  have e3 : looksOf ops a = looks ops oa := by simp [looksOf, hoa]
  have e4 : looksOf ops i = looks ops oi := by simp [looksOf, hoi]
  have n1 : ∀ d ∈ looks ops oi, oa.dst ≠ some d := fun d hdl hh => hd (c4 d (e1.trans hh) (e4 ▸ hdl))
  have n2 : ∀ d ∈ looks ops oa, oi.dst ≠ some d := fun d hdl hh => hd (c2 d (e2.trans hh) (e3 ▸ hdl)).1
  have n3 : ∀ x y, oa.dst = some x → oi.dst = some y → x ≠ y := fun x y hx hy => c3 x y (e1.trans hx) (e2.trans hy)
  have q1 : ∀ v st (J : Kont), run1 P w0 ops oi (aput t oa.dst v) st J = run1 P w0 ops oi t st J := fun v st J => run1_congr fun d hdl => aput_getD t v (n1 d hdl)
  have q2 : ∀ v st (J : Kont), run1 P w0 ops oa (aput t oi.dst v) st J = run1 P w0 ops oa t st J := fun v st J => run1_congr fun d hdl => aput_getD t v (n2 d hdl)
  obtain ⟨v, hv, hJ⟩ := run1_wit hpa' st _ h
  cases hpi : pureOp P oi.op with
  | true =>
    simp only [hpi] at hv ⊢
    rw [q1] at hv
    obtain ⟨u, hu, hJ2⟩ := run1_wit hpi st _ hv
    refine hJ2 _ ?_
    rw [q2]
    refine hJ _ ?_
    rw [← aput_comm t v u n3]
    refine gV_mono ?_ hu
    split <;> split <;> intro x hx <;> simp_all
    rcases hx with h | h | h <;> simp [h]
  | false =>
    simp only [hpi] at hv ⊢
    rw [q1] at hv
    refine run1_mono (fun u st' hh => ?_) hv
    obtain ⟨hs, hg⟩ := stab_iff.1 hh
    refine stab_iff.2 ⟨fun x hx => ?_, ?_⟩
    · obtain ⟨hx1, hx2⟩ := List.mem_filter.1 hx
      obtain ⟨hxr, hxa⟩ := hH x hx1
      obtain ⟨_, d2, d3, _⟩ := pairOk_iff.1 hxa
      intro ox hox
      have := hs x (List.mem_filter.2 ⟨by split <;> simp [hx1], hx2⟩) ox hox
      have f1 : ∀ d ∈ looks ops ox, oa.dst ≠ some d := fun d hdl hh => by
        have := (d2 d (e1.trans hh) (by simpa [looksOf, hox] using hdl)).2
        rw [hxr] at this; cases this
      have f2 : ∀ d, ox.dst = some d → oa.dst ≠ some d := fun d hdd hh => d3 d d (by simp [dstOf, hox, hdd]) (e1.trans hh) rfl
      have f3 : ∀ d, oa.dst ≠ some d → (aput (aput t oa.dst v) oi.dst u).getD d .any = (aput t oi.dst u).getD d .any := fun d hdd => by
        rw [aput_comm t v u n3]; exact aput_getD _ v hdd
      rw [run1_congr (t' := aput t oi.dst u) fun d hdl => f3 d (f1 d hdl)] at this
      refine run1_mono (fun y _ hy => ?_) this
      split
      · rename_i d hdd
        simp only [hdd] at hy
        rw [hy]; exact f3 d (f2 d hdd)
      · trivial
    · cases hra : readOp oa.op with
      | true =>
        have hm : a ∈ List.filter (fun h => !(ancs ops i).elem h) (match readOp oa.op with | true => a :: H | false => H) := by
          rw [hra]; exact List.mem_filter.2 ⟨by simp, by simpa using hanc⟩
        have := hs a hm oa hoa
        have hself' : ∀ d ∈ looks ops oa, oa.dst ≠ some d := fun d hdl hh => hself (by simp [isRead, hoa, hra]) d (e1.trans hh) (e3 ▸ hdl)
        rw [run1_congr (t' := aput t oi.dst u) fun d hdl => by rw [aput_comm t v u n3]; exact aput_getD _ v (hself' d hdl)] at this
        refine (run1_st hpa' st' _).2 (run1_mono (fun y st2 hy => ?_) this)
        rw [hra] at hg
        have hy' : aput (aput t oi.dst u) oa.dst y = aput (aput t oa.dst v) oi.dst u := by
          rw [aput_comm t v u n3]
          cases hod : oa.dst with
          | none => rfl
          | some d =>
            simp only [hod] at hy
            rw [← hod, aput_comm t v u n3, hod] at hy
            subst hy
            exact set_getD_self _ d v
        rw [hy']; exact hg
      | false =>
        rw [hra] at hg
        refine (run1_st hpa' st' _).2 ?_
        rw [q2, run1_noread hpa' hra st' st]
        refine hJ _ ?_
        rw [← aput_comm t v u n3]; exact hg


def selfOk (ops : List Oper) (a : Nat) : Prop := isRead ops a = true → ∀ d, dstOf ops a = some d → d ∉ looksOf ops a

theorem front {i : Nat} {post : List Nat} {K : List AV → St → Prop} : ∀ {pre H : List Nat} {t : List AV} {st : St},
    (∀ a ∈ pre, isPure P ops a = true ∧ selfOk ops a ∧ pairOk P ops a i = true ∧ a ∉ dpre ops i ∧ a ∉ ancs ops i) →
    (∀ h ∈ H, isRead ops h = true ∧ ∀ a ∈ pre, pairOk P ops h a = true) → pre.Pairwise (fun a b => pairOk P ops a b = true) →
    gV P w0 ops (pre ++ i :: post) H t st K → gV P w0 ops (i :: (pre ++ post)) H t st K
  | [], H, t, st, _, _, _, h => h
  | a :: pre, H, t, st, hp, hH, hpw, h => by
    obtain ⟨h1, h2, h3, h4, h5⟩ := hp a (by simp)
    obtain ⟨hpa, hpw'⟩ := List.pairwise_cons.1 hpw
    refine swap_head h1 h3 h2 h4 h5 (fun x hx => ⟨(hH x hx).1, (hH x hx).2 a (by simp)⟩) ?_
    rw [List.cons_append] at h
    unfold gV at h ⊢
    split at h
    · exact h
    · rename_i oa hoa
      have hpa' : pureOp P oa.op = true := by simpa [isPure, hoa] using h1
      simp only [hpa'] at h ⊢
      refine run1_mono (fun v st' hh => front (fun b hb => hp b (by simp [hb])) (fun x hx => ?_) hpw' hh) h
      split at hx
      · rename_i hr
        rcases List.mem_cons.1 hx with rfl | hx
        · exact ⟨by simp [isRead, hoa, hr], hpa⟩
        · exact ⟨(hH x hx).1, fun b hb => (hH x hx).2 b (by simp [hb])⟩
      · exact ⟨(hH x hx).1, fun b hb => (hH x hx).2 b (by simp [hb])⟩

theorem pwOk_iff : ∀ {l : List Nat}, pwOk P ops l = true → l.Nodup ∧ l.Pairwise (fun a b => pairOk P ops a b = true) ∧ ∀ a ∈ l, selfOk ops a ∧ a ∉ dpre ops a ∧ ∀ c ∈ dpre ops a, c < ops.length
  | [], _ => by simp
  | a :: l, h => by
    simp only [pwOk, Bool.and_eq_true, List.all_eq_true] at h
    obtain ⟨⟨⟨⟨⟨h1, h5⟩, h6⟩, h2⟩, h3⟩, h4⟩ := h
    obtain ⟨k1, k2, k3⟩ := pwOk_iff h4
    refine ⟨List.nodup_cons.2 ⟨by simpa using h1, k1⟩, List.pairwise_cons.2 ⟨h3, k2⟩, fun b hb => ?_⟩
    rcases List.mem_cons.1 hb with rfl | hb
    · refine ⟨fun hr d hd => ?_, by simpa using h5, fun c hc => by simpa using h6 c hc⟩
      rw [hr, hd] at h2
      simpa using h2
    · exact k3 b hb
end

section
variable {P : Program} {w0 : World} {pins : List (Nat × Obj)} {ρ : Ren} {st : St} {w : World}

theorem run1_wp {ops : Array Oper} {i : Nat} {o : Oper} {a : Act} {t : List AV} {K : Kont} {next : Act → World → Prop} {Q : Exit → Act → World → Prop} {rd : Option Nat} (ho : ops[i]? = some o) (h : Sim w0 pins ρ st w) (ht : TRel ρ t a.tmps)
    (hk : run1 P w0 ops.toList o t st K) (hn : ∀ v' w' ρ' v st', ρ.le ρ' → Sim w0 pins ρ' st' w' → VRel ρ' v v' → K v st' → next (a.put o.dst v') w') : wpOpIn (Fc rd) 0 P ops Q i next a w := by
  unfold wpOpIn
  rw [ho]
  simp only
  unfold run1 at hk
  split at hk
  · rename_i hg
    have hw : Region.wanted o (yielded ops a.tmps) = true := by simp [Region.wanted, hg]
    rw [if_pos hw]
    exact op_wp h ht hk hn
  · rename_i j want hg
    split at hk
    · exact hk.elim
    · rename_i d hdj
      rcases Gd_elim hk with ⟨b, hb, hk⟩ | ⟨cs, hb, hk, _⟩
      · have hvb : VRel ρ (.bool b) (a.tmps.getD d undef) := by have := ht.at_ d; rw [hb] at this; exact this
        have hval := hvb.bool_inv
        have hlt : d < a.tmps.size := by
          rcases Nat.lt_or_ge d a.tmps.size with hh | hh
          · exact hh
          · rw [Array.getD, dif_neg (by omega)] at hval; cases hval
        have hy : yielded ops a.tmps j = some b := by
          have hdj' : (ops[j]?).bind (·.dst) = some d := by simpa using hdj
          have : a.tmps[d]? = some (.bool b) := by
            rw [Array.getElem?_eq_getElem hlt]; rw [Array.getD, dif_pos hlt] at hval; exact congrArg some hval
          simp [yielded, hdj', this]
        obtain ⟨k1, k2⟩ := Br_iff.1 hk
        by_cases hbw : b = want
        · have hw : Region.wanted o (yielded ops a.tmps) = true := by simp [Region.wanted, hg, hy, hbw]
          rw [if_pos hw]
          exact op_wp h ht (k1 (by simp [hbw])) hn
        · have hw : Region.wanted o (yielded ops a.tmps) = false := by simp [Region.wanted, hg, hy, hbw]
          rw [hw, if_neg (by simp)]
          exact ⟨fun f _ => trivial, hn _ _ _ _ _ (.refl _) h (VRel.tup_iff.2 .nil) (k2 (by simp [hbw]))⟩
      · have hw : Region.wanted o (yielded ops a.tmps) = false := by
          have hvt := ht.at_ d
          rw [hb] at hvt
          have hy : yielded ops a.tmps j = none := by
            have hdj' : (ops[j]?).bind (·.dst) = some d := by simpa using hdj
            unfold yielded
            rw [hdj', Option.bind_some]
            split
            · rename_i b hbb
              have : a.tmps.getD d undef = .bool b := by simp [Array.getD_eq_getD_getElem?, hbb]
              rw [this] at hvt; cases hvt
            · rfl
          simp [Region.wanted, hg, hy]
        rw [hw, if_neg (by simp)]
        exact ⟨fun f _ => trivial, hn _ _ _ _ _ (.refl _) h (VRel.tup_iff.2 .nil) hk⟩

/-- What stands in no row is done. -/
structure Todo (P : Program) (ops : Array Oper) (C : List Nat) (listed : Array Bool) : Prop where
  mem : ∀ j, j ∈ C ↔ j < ops.size ∧ listed.getD j true = false
  nd : C.Nodup
  pw : C.Pairwise fun a b => pairOk P ops.toList a b = true
  self : ∀ a ∈ C, selfOk ops.toList a ∧ a ∉ dpre ops.toList a ∧ ∀ c ∈ dpre ops.toList a, c < ops.toList.length
  up : ∀ a b, a ∈ C → a ∈ dpre ops.toList b → b < ops.size → b ∈ C
  size : listed.size = ops.size

theorem Todo.tg {ops : Array Oper} {C listed} (h : Todo P ops C listed) {i : Nat} (hi : i < ops.size) (hr : ∀ c ∈ dpre ops.toList i, c ∉ C) {a : Nat} (ha : a ∈ C) : ¬ TG ops.toList a i := by
  intro hg
  have key : ∀ x, TG ops.toList a x → x < ops.size → x ∈ C := by
    intro x hx
    induction hx with
    | single hh => exact fun hlt => h.up _ _ ha hh hlt
    | tail h1 h2 ih =>
      rename_i b c
      intro hlt
      by_cases hb : b < ops.size
      · exact h.up _ _ (ih hb) h2 hlt
      · have : b ∉ C := fun hh => hb ((h.mem b).1 hh).1
        exact absurd h1 (fun h1 => by
          cases h1 with
          | single hh => exact hb (by simp [dpre, Nat.le_of_not_lt hb] at hh)
          | tail _ hh => exact hb (by simp [dpre, Nat.le_of_not_lt hb] at hh))
  cases hg with
  | single hh => exact hr _ hh ha
  | tail h1 h2 =>
    rename_i b
    by_cases hb : b < ops.size
    · exact hr b h2 (key b h1 hb)
    · cases h1 with
      | single hh => exact hb (by simp [dpre, Nat.le_of_not_lt hb] at hh)
      | tail _ hh => exact hb (by simp [dpre, Nat.le_of_not_lt hb] at hh)

theorem gV_sound {ops : Array Oper} {Q : Exit → Act → World → Prop} {rd : Option Nat} {K : List AV → St → Prop} {ds : List Deferred}
    (hQ : ∀ a' w' ρ' t' st', ρ.le ρ' → Sim w0 pins ρ' st' w' → TRel ρ' t' a'.tmps → a'.defers = ds → K t' st' → Q .normal a' w') :
    ∀ (fuel : Nat) (C : List Nat) (listed : Array Bool) (a : Act) (w : World) (t : List AV) (st : St) (ρ1 : Ren), C.length ≤ fuel → Todo P ops C listed → ρ.le ρ1 → Sim w0 pins ρ1 st w → TRel ρ1 t a.tmps → a.defers = ds →
      gV P w0 ops.toList C [] t st K → wpAnyIn (Fc rd) 0 P .any ops Q fuel listed a w := by
  have hready : ∀ C listed j, Todo P ops C listed → (j ∈ Region.ready .any ops listed ↔ j ∈ C ∧ ∀ c ∈ dpre ops.toList j, c ∉ C) := by
    intro C listed j h
    rw [mem_ready]
    constructor
    · rintro ⟨h1, o, ho, h2⟩
      have hlt := (Array.getElem?_eq_some_iff.1 ho).1
      refine ⟨(h.mem j).2 ⟨hlt, h1⟩, fun c hc hcC => ?_⟩
      have : dpre ops.toList j = (o.after.toList.filter (Region.binds .any)).map (·.on) := by simp [dpre, ho]
      rw [this] at hc
      obtain ⟨e, he, rfl⟩ := List.mem_map.1 hc
      obtain ⟨he1, he2⟩ := List.mem_filter.1 he
      have h3 := h2 e (by simpa using he1) he2
      obtain ⟨h4, h5⟩ := (h.mem _).1 hcC
      have hls : e.on < listed.size := by rw [h.size]; exact h4
      simp [Array.getD, hls] at h3 h5
      rw [h3] at h5; cases h5
    · rintro ⟨h1, h2⟩
      obtain ⟨hlt, h3⟩ := (h.mem j).1 h1
      refine ⟨h3, ops[j], by simp [hlt], fun e he hb => ?_⟩
      have hm : e.on ∈ dpre ops.toList j := by
        simp only [dpre, Array.getElem?_toList, Array.getElem?_eq_getElem hlt]
        exact List.mem_map.2 ⟨e, List.mem_filter.2 ⟨by simpa using he, hb⟩, rfl⟩
      have hin : e.on < ops.size := by simpa using (h.self j h1).2.2 _ hm
      have hnot := h2 _ hm
      rw [h.mem] at hnot
      have hls : e.on < listed.size := by rw [h.size]; exact hin
      simp [Array.getD, hls]
      cases hv : listed[e.on] with
      | true => rfl
      | false => exact absurd ⟨hin, by simp [hls, hv]⟩ hnot
  intro fuel
  induction fuel with
  | zero =>
    intro C listed a w t st ρ1 hl hT hle hs ht hd hk
    have : C = [] := List.length_eq_zero_iff.1 (by omega)
    subst this
    refine ⟨?_, hQ _ _ _ _ _ hle hs ht hd hk⟩
    refine List.eq_nil_iff_forall_not_mem.2 fun j hj => ?_
    have := ((hready [] listed j hT).1 hj).1
    cases this
  | succ fuel ih =>
    intro C listed a w t st ρ1 hl hT hle hs ht hd hk
    refine ⟨fun hr => ?_, fun i hi => ?_⟩
    · cases C with
      | nil => exact hQ _ _ _ _ _ hle hs ht hd hk
      | cons c C =>
        have : c ∈ Region.ready .any ops listed := by
          refine (hready _ listed c hT).2 ⟨by simp, fun b hb hbC => ?_⟩
          rcases List.mem_cons.1 hbC with rfl | hbC
          · exact absurd hb (hT.self b (by simp)).2.1
          · exact (pairOk_iff.1 ((List.pairwise_cons.1 hT.pw).1 b hbC)).1 hb
        rw [hr] at this; cases this
    · obtain ⟨hiC, hdp⟩ := (hready C listed i hT).1 hi
      obtain ⟨pre, post, rfl⟩ := List.append_of_mem hiC
      have hlt := ((hT.mem i).1 hiC).1
      obtain ⟨hp1, hp2, hp3⟩ := List.pairwise_append.1 hT.pw
      have hf := front (P := P) (w0 := w0) (i := i) (pre := pre) (post := post) (H := []) (fun x hx => by
        have hxC : x ∈ pre ++ i :: post := by simp [hx]
        have hpx := hp3 x hx i (by simp)
        have h1 : x ∉ dpre ops.toList i := fun hh => hdp x hh hxC
        have h2 : x ∉ ancs ops.toList i := fun hh => hT.tg hlt hdp hxC (ancs_sound hh)
        exact ⟨(pairOk_iff.1 hpx).2.2.2.2.resolve_right h2, (hT.self x hxC).1, hpx, h1, h2⟩) (by simp) hp1 hk
      have hT' : Todo P ops (pre ++ post) (listed.setIfInBounds i true) := by
        have hnd := hT.nd
        have hni : i ∉ pre ++ post := by
          rw [List.nodup_append] at hnd
          obtain ⟨n1, n2, n3⟩ := hnd
          intro hh
          rcases List.mem_append.1 hh with hh | hh
          · exact n3 i hh i (by simp) rfl
          · exact (List.nodup_cons.1 n2).1 hh
        refine ⟨fun j => ?_, hT.nd.sublist (List.Sublist.append_left (List.sublist_cons_self _ _) _), hT.pw.sublist (List.Sublist.append_left (List.sublist_cons_self _ _) _), fun x hx => hT.self x (by simp at hx ⊢; grind), fun x b hx hxb hb => ?_, by simp [hT.size]⟩
        · by_cases hj : j = i
          · subst hj
            have : j < listed.size := by rw [hT.size]; exact hlt
            simp [this] at hni ⊢
            exact hni
          · rw [getD_set_ne true (Ne.symm hj), ← hT.mem j]
            simp [hj]
        · have hbC := hT.up x b (by simp at hx ⊢; grind) hxb hb
          have hbi : b ≠ i := fun hh => by
            subst hh
            exact hdp x hxb (by simp at hx ⊢; grind)
          simp at hbC ⊢
          grind
      have hlen : (pre ++ post).length ≤ fuel := by simp at hl ⊢; omega
      unfold gV at hf
      have hoi : ops.toList[i]? = some ops[i] := by simp [hlt]
      rw [hoi] at hf
      simp only at hf
      split at hf
      · rename_i hp
        have hf := (run1_st hp st (fun v st' => gV P w0 ops.toList (pre ++ post) (match readOp ops[i].op with | true => [i] | false => []) (aput t ops[i].dst v) st' K)).2 hf
        refine run1_wp (by simp [hlt]) hs ht hf fun v' w' ρ' v st' hle' hs' hv hkk => ?_
        exact ih _ _ _ _ _ _ _ hlen hT' (hle.trans hle') hs' ((ht.mono hle').put _ hv) (by rw [Act.put_defers]; exact hd) (gV_mono (by simp) hkk)
      · refine run1_wp (by simp [hlt]) hs ht hf fun v' w' ρ' v st' hle' hs' hv hkk => ?_
        exact ih _ _ _ _ _ _ _ hlen hT' (hle.trans hle') hs' ((ht.mono hle').put _ hv) (by rw [Act.put_defers]; exact hd) (stab_iff.1 hkk).2

theorem draw_wp {id : Nat} {ops : Array Oper} {ord : List Nat} {Q : Exit → Act → World → Prop} {rd : Option Nat} {K : List AV → St → Prop} {a : Act} {t : List AV}
    (hQ : ∀ a' w' ρ' t' st', ρ.le ρ' → Sim w0 pins ρ' st' w' → TRel ρ' t' a'.tmps → a'.defers = a.defers → K t' st' → Q .normal a' w')
    (hm : P.follows .mixedOrders = true) (ho : drawOk P ops.toList ord = true) (hs : Sim w0 pins ρ st w) (ht : TRel ρ t a.tmps) (hk : gV P w0 ops.toList ord [] t st K) : (Code.region id ops true).wpIn (Fc rd) 0 P Q a w := by
  refine wpIn_region_any hm ?_
  simp only [drawOk, Bool.and_eq_true, List.all_eq_true, beq_iff_eq, decide_eq_true_eq] at ho
  obtain ⟨⟨⟨o1, o2⟩, o3⟩, o4⟩ := ho
  obtain ⟨k1, k2, k3⟩ := pwOk_iff o4
  refine gV_sound (ρ := ρ) hQ ops.size ord _ a _ t st ρ (by rw [o3]; simp) ⟨fun j => ?_, k1, k2, k3, fun x b _ _ hb => ?_, by simp⟩ (.refl _) hs.drew ht rfl hk
  · constructor
    · intro hj; have := o2 j hj; simp at this; exact ⟨this, by simp [this]⟩
    · rintro ⟨hj, _⟩; simpa using o1 j (by simpa using hj)
  · simpa using o1 b (by simpa using hb)

/-- Behind an operation. -/
def gAft (P : Program) (w0 : World) (ops : List Oper) (pure : Bool) (i : Nat) (t : List AV) (st st' : St) (H : List Nat) (X : St → Prop) : Prop :=
  match pure with
  | true => X st
  | false => stab P w0 ops t st' (H.filter fun h => !(ancs ops i).elem h) (X st')

/-- 'gV', where a guard was looked at its answer is kept. -/
def gR (P : Program) (w0 : World) (ops : List Oper) : List Nat → List Nat → List AV → St → (List AV → St → Prop) → Prop
  | [], _, t, st, K => K t st
  | i :: rest, H, t, st, K => match ops[i]? with
    | none => False
    | some o => match o.guard with
      | none => gop1 P w0 o t st fun v st' => gAft P w0 ops (pureOp P o.op) i (aput t o.dst v) st st' H fun s => gR P w0 ops rest (match pureOp P o.op && readOp o.op with | true => i :: H | false => H) (aput t o.dst v) s K
      | some (j, want) => match (ops[j]?).bind (·.dst) with
        | none => False
        | some d => Gs (nestedAt ops j) (t.getD d .any) (fun b => Br (b == want)
          (gop1 P w0 o (t.set d (.bool want)) st fun v st' => gAft P w0 ops (pureOp P o.op) i (aput (t.set d (.bool want)) o.dst v) st st' H fun s => gR P w0 ops rest (match pureOp P o.op && readOp o.op with | true => i :: H | false => H) (aput (t.set d (.bool want)) o.dst v) s K)
          (gAft P w0 ops (pureOp P o.op) i (aput (t.set d (.bool (!want))) o.dst (.tup [])) st st H fun s => gR P w0 ops rest (match pureOp P o.op && readOp o.op with | true => i :: H | false => H) (aput (t.set d (.bool (!want))) o.dst (.tup [])) s K))
          (gAft P w0 ops (pureOp P o.op) i (aput (t.set d (.tup [])) o.dst (.tup [])) st st H fun s => gR P w0 ops rest (match pureOp P o.op && readOp o.op with | true => i :: H | false => H) (aput (t.set d (.tup [])) o.dst (.tup [])) s K)

theorem readOp_pure {op : Op} (h : pureOp P op = false) (hr : readOp op = true) : ∃ c, op = .call c := by
  cases op <;> simp_all [pureOp, readOp]

theorem gR_gV {ops : List Oper} {K : List AV → St → Prop} : ∀ {C H : List Nat} {t : List AV} {st : St}, gR P w0 ops C H t st K → gV P w0 ops C H t st K
  | [], H, t, st, h => h
  | i :: rest, H, t, st, h => by
    have hset : ∀ (d : Tmp) (b b' : Bool), t.getD d .any = .bool b → b' = b → t.set d (.bool b') = t := by
      intro d b b' hb e
      subst e
      by_cases hlt : d < t.length
      · have : t[d] = .bool b' := by simpa [List.getD, hlt] using hb
        rw [← this]; simp
      · exact List.set_eq_of_length_le (Nat.le_of_not_lt hlt)
    have haft : ∀ (o : Oper) (t : List AV) (st' : St), gAft P w0 ops (pureOp P o.op) i t st st' H (fun s => gR P w0 ops rest (match pureOp P o.op && readOp o.op with | true => i :: H | false => H) t s K) →
        (match pureOp P o.op with
        | true => gV P w0 ops rest (match readOp o.op with | true => i :: H | false => H) t st K
        | false => stab P w0 ops t st' (H.filter fun h => !(ancs ops i).elem h) (gV P w0 ops rest H t st' K)) := by
      intro o t st' hh
      unfold gAft at hh
      split at hh
      · rename_i hp; rw [hp, Bool.true_and] at hh; exact gR_gV hh
      · obtain ⟨h1, h2⟩ := stab_iff.1 hh
        refine stab_iff.2 ⟨h1, gV_mono ?_ (gR_gV h2)⟩
        split <;> simp
    have hrun : ∀ o : Oper, run1 P w0 ops o t st (fun v st' => gAft P w0 ops (pureOp P o.op) i (aput t o.dst v) st st' H (fun s => gR P w0 ops rest (match pureOp P o.op && readOp o.op with | true => i :: H | false => H) (aput t o.dst v) s K)) →
        (match pureOp P o.op with
        | true => run1 P w0 ops o t st fun v _ => gV P w0 ops rest (match readOp o.op with | true => i :: H | false => H) (aput t o.dst v) st K
        | false => run1 P w0 ops o t st fun v st' => stab P w0 ops (aput t o.dst v) st' (H.filter fun h => !(ancs ops i).elem h) (gV P w0 ops rest H (aput t o.dst v) st' K)) := by
      intro o hh
      cases hp : pureOp P o.op with
      | true =>
        simp only
        refine run1_mono (fun v st' hk => ?_) hh
        have := haft o _ _ hk
        rw [hp] at this
        exact this
      | false =>
        simp only
        refine run1_mono (fun v st' hk => ?_) hh
        have := haft o _ _ hk
        rw [hp] at this
        exact this
    unfold gR at h
    unfold gV
    split at h
    · exact h.elim
    · rename_i o ho
      split at h
      · rename_i hg
        have hr : run1 P w0 ops o t st (fun v st' => gAft P w0 ops (pureOp P o.op) i (aput t o.dst v) st st' H (fun s => gR P w0 ops rest (match pureOp P o.op && readOp o.op with | true => i :: H | false => H) (aput t o.dst v) s K)) := by
          unfold run1; rw [hg]; exact h
        exact hrun o hr
      · rename_i j want hg
        split at h
        · exact h.elim
        · rename_i d hd
          have hr : run1 P w0 ops o t st (fun v st' => gAft P w0 ops (pureOp P o.op) i (aput t o.dst v) st st' H (fun s => gR P w0 ops rest (match pureOp P o.op && readOp o.op with | true => i :: H | false => H) (aput t o.dst v) s K)) := by
            unfold run1; rw [hg]; simp only [hd]
            rcases Gs_elim h with ⟨b, hb, h⟩ | ⟨hb, h, hn⟩
            · rw [hb]
              obtain ⟨h1, h2⟩ := Br_iff.1 h
              refine Gd_bool <| Br_iff.2 ⟨fun e => ?_, fun e => ?_⟩
              · have := h1 e
                rw [hset d b want hb (by simpa using (beq_iff_eq.1 e).symm)] at this
                exact this
              · have := h2 e
                have e' : (!want) = b := by cases b <;> cases want <;> simp_all
                rw [hset d b (!want) hb e'] at this
                exact this
            · rw [set_getD hb] at h; rw [hb, hn]; exact Gd_tup h
          exact hrun o hr
end
end Go.Ab
