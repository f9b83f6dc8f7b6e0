/- Regions that draw their order: one walk in one order serves all. -/
import Derived.Test.YtoehcgeckmoofaaGreatDoorAk
set_option linter.unusedVariables false
set_option linter.unusedSimpArgs false
namespace Go.Ab
open Go Go.RowKit

/-! ### Operations that turn nothing -/
def pureOp (P : Program) : Op → Bool
  | .convert _ d _ => (match P.underlying d with | some (.slice _) => false | _ => true)
  | .move _ | .assign _ | .pick .. | .build .. | .load .. | .nilCheck _ | .binOp .. | .unOp .. | .makeFunc .. | .makeInterface .. | .slice .. | .fieldAddr .. | .field .. | .indexAddr .. | .index .. | .lookup .. | .extract .. => true
  | .call { callee := .builtin .len, .. } | .call { callee := .builtin .max, .. } | .call { callee := .builtin .min, .. } => true
  | _ => false
def readOp : Op → Bool
  | .load .. | .lookup .. | .call _ => true
  | _ => false

/-- A predicate that hands on one value. -/
def Wit (F : (AV → Prop) → Prop) : Prop := ∀ J, F J → ∃ v, J v ∧ ∀ J' : AV → Prop, J' v → F J'

theorem Wit.ret (v : AV) : Wit fun J => J v := fun J h => ⟨v, h, fun _ h => h⟩
theorem Wit.no {F : (AV → Prop) → Prop} (h : ∀ J, ¬ F J) : Wit F := fun J hj => (h J hj).elim
theorem Wit.optk {α : Type} {o : Option α} {F : α → (AV → Prop) → Prop} (h : ∀ a, Wit (F a)) : Wit fun J => OptK o fun a => F a J := fun J hj => by
  obtain ⟨a, ha, hj⟩ := OptK_iff.1 hj
  obtain ⟨v, h1, h2⟩ := h a J hj
  exact ⟨v, h1, fun J' hJ' => OptK_iff.2 ⟨a, ha, h2 J' hJ'⟩⟩
theorem Wit.chk {b : Bool} {F : (AV → Prop) → Prop} (h : Wit F) : Wit fun J => Chk b (F J) := fun J hj => by
  obtain ⟨a, hj⟩ := Chk_iff.1 hj
  obtain ⟨v, h1, h2⟩ := h J hj
  exact ⟨v, h1, fun J' hJ' => Chk_iff.2 ⟨a, h2 J' hJ'⟩⟩
theorem Wit.asBool {x : AV} {F : Bool → (AV → Prop) → Prop} (h : ∀ b, Wit (F b)) : Wit fun J => AsBool x fun b => F b J := by
  cases x <;> first | exact Wit.no (fun J hj => hj) | exact h _
theorem Wit.gd {n : Bool} {x : AV} {F : Bool → (AV → Prop) → Prop} {S : (AV → Prop) → Prop} (h : ∀ b, Wit (F b)) (hs : Wit S) : Wit fun J => Gd n x (fun b => F b J) (S J) := by
  cases n
  · exact Wit.asBool h
  · cases x <;> first | exact Wit.no (fun J hj => hj) | exact h _ | exact hs
theorem Wit.br {b : Bool} {F G : (AV → Prop) → Prop} (h : Wit F) (k : Wit G) : Wit fun J => Br b (F J) (G J) := by cases b <;> assumption
theorem Wit.and {p : Prop} {F : (AV → Prop) → Prop} (h : Wit F) : Wit fun J => p ∧ F J := fun J ⟨hp, hj⟩ => by
  obtain ⟨v, h1, h2⟩ := h J hj
  exact ⟨v, h1, fun J' hJ' => ⟨hp, h2 J' hJ'⟩⟩
theorem Wit.ldn {cs : List AV} : ∀ {n o : Nat} {f : List AV → AV}, Wit fun J => LdN cs o n fun vs => J (f vs)
  | 0, o, f => Wit.ret _
  | n + 1, o, f => Wit.optk fun a => Wit.ldn (f := fun vs => f (a :: vs))

theorem Wit.nilC (x : AV) : Wit (NilC x) := by cases x <;> first | exact Wit.ret _ | exact Wit.no (fun J hj => hj)
theorem Wit.faddr (x : AV) (n : Nat) : Wit (Faddr x n) := by cases x <;> first | exact Wit.ret _ | exact Wit.no (fun J hj => hj)
theorem Wit.fld (x : AV) (g : Bool) (o n : Nat) : Wit (Fld x g o n) := by
  cases x <;> first | exact Wit.no (fun J hj => hj) | skip
  cases g
  · exact Wit.optk fun a => Wit.ret a
  · exact Wit.ldn
theorem Wit.iaddr (x i : AV) (a : Option Nat) (e : Nat) : Wit (Iaddr x i a e) := by
  intro J hj
  unfold Iaddr at hj
  split at hj
  · obtain ⟨h1, h2, h3, h4⟩ := hj
    exact ⟨_, h4, fun J' h => ⟨h1, h2, h3, h⟩⟩
  · obtain ⟨h1, h2, h4⟩ := hj
    exact ⟨_, h4, fun J' h => ⟨h1, h2, h⟩⟩
  · exact hj.elim
theorem Wit.sidx (x i : AV) : Wit (Sidx x i) := by
  intro J hj
  unfold Sidx at hj
  split at hj
  · obtain ⟨h1, h2⟩ := hj
    obtain ⟨c, hc, h3⟩ := OptK_iff.1 h2
    exact ⟨_, h3, fun J' h => ⟨h1, OptK_iff.2 ⟨c, hc, h⟩⟩⟩
  · exact hj.elim
theorem Wit.ext (x : AV) (i : Nat) : Wit (Ext x i) := by cases x <;> first | exact Wit.no (fun J hj => hj) | exact Wit.optk fun a => Wit.ret a
theorem Wit.ld (st : St) (x : AV) (g : Bool) (n : Nat) : Wit fun J => Ld st x g n fun v _ => J v := by
  cases x <;> first | exact Wit.no (fun J hj => hj) | skip
  refine Wit.optk fun cs => ?_
  cases g
  · exact Wit.optk fun a => Wit.ret a
  · exact Wit.ldn
theorem Wit.mlook (tk : TK) (st : St) (m k z : AV) (ok : Bool) : Wit (Mlook tk st m k z ok) := by
  cases m <;> first | exact Wit.no (fun J hj => hj) | skip
  · exact Wit.and (Wit.ret _)
  · exact Wit.optk fun es => Wit.and (Wit.optk fun r => Wit.ret _)
theorem Wit.len (st : St) (x : AV) : Wit (Len st x) := by
  cases x <;> first | exact Wit.ret _ | exact Wit.no (fun J hj => hj) | exact Wit.optk fun es => Wit.ret _

theorem wit_of {P : Program} {w0 : World} {o : Oper} {t : List AV} (hp : pureOp P o.op = true) (st : St) : Wit fun J => gop1 P w0 o t st fun v _ => J v := by
  obtain ⟨dst, op, type, pos, after, guard⟩ := o
  simp only at hp ⊢
  cases op <;> simp only [pureOp, Bool.false_eq_true] at hp
  case move x => exact Wit.ret (aev t x)
  case assign x => exact Wit.ret (aev t x)
  case pick c a b => exact Wit.asBool fun d => Wit.ret (AV.pick d (aev t a) (aev t b))
  case build ty parts =>
    simp only [gop1, gop]
    split
    · exact Wit.optk fun z => Wit.chk (Wit.optk fun cs => Wit.ret (.agg cs))
    · exact Wit.optk fun z => Wit.chk (Wit.optk fun cs => Wit.ret (.agg cs))
    · exact Wit.no fun _ h => h
  case load ty a => exact Wit.optk fun g => Wit.chk (Wit.ld st (aev t a) g (tySize P ty))
  case nilCheck x => exact Wit.nilC (aev t x)
  case binOp bo ty x y yt => exact Wit.chk (Wit.optk fun a => Wit.ret a)
  case unOp uo ty x => exact Wit.optk fun a => Wit.ret a
  case convert s d x =>
    simp only [gop1, gop]
    split
    · exact Wit.ret _
    · exact Wit.ret _
    · rename_i h1; rw [h1] at hp; cases hp
    · exact Wit.no fun _ h => h
  case makeInterface ty x => exact Wit.chk (Wit.ret .iface)
  case makeFunc fn first cap =>
    cases fn
    · exact Wit.ret (.func _ (first.toList.map (aev t)) (cap.toList.map (aev t)))
    all_goals exact Wit.no fun _ h => h
  case slice ty x lo hi mx =>
    simp only [gop1, gop]
    split
    · refine Wit.chk ?_
      split
      · exact Wit.optk fun l => Wit.optk fun h => Wit.optk fun v => Wit.ret v
      · exact Wit.no fun _ h => h
    · exact Wit.chk (Wit.optk fun l => Wit.optk fun h => Wit.optk fun m => Wit.optk fun v => Wit.ret v)
    · exact Wit.no fun _ h => h
  case fieldAddr ty x i =>
    simp only [gop1, gop]
    split
    · exact Wit.optk fun f => Wit.chk (Wit.faddr (aev t x) f.offset)
    · exact Wit.no fun _ h => h
  case field ty x i =>
    simp only [gop1, gop]
    split
    · exact Wit.optk fun f => Wit.optk fun g => Wit.chk (Wit.fld (aev t x) g f.offset (tySize P f.type))
    · exact Wit.no fun _ h => h
  case indexAddr ty x i =>
    simp only [gop1, gop]
    split
    · exact Wit.chk (Wit.iaddr (aev t x) (aev t i) none _)
    · exact Wit.chk (Wit.iaddr (aev t x) (aev t i) (some _) _)
    · exact Wit.no fun _ h => h
  case index ty x i =>
    simp only [gop1, gop]
    split
    · exact Wit.sidx (aev t x) (aev t i)
    · exact Wit.no fun _ h => h
  case lookup ty m k ok =>
    simp only [gop1, gop]
    split
    · exact Wit.chk (Wit.optk fun z => Wit.mlook _ st (aev t m) (aev t k) z ok)
    · exact Wit.no fun _ h => h
  case extract x i => exact Wit.ext (aev t x) i
  case call c =>
    obtain ⟨callee, args, argTypes⟩ := c
    cases callee with
    | value f => cases hp
    | invoke r m => cases hp
    | builtin b =>
    cases b <;> (try (cases hp; done)) <;> simp only [gop1, gcall, gbuiltin]
    all_goals first
      | exact Wit.optk fun v => Wit.ret v
      | (split <;> first
          | exact Wit.no fun _ h => h
          | exact Wit.chk (Wit.len st _))

theorem gop1_st {P : Program} {w0 : World} {o : Oper} {t : List AV} (hp : pureOp P o.op = true) (st : St) (K : Kont) : gop1 P w0 o t st K ↔ gop1 P w0 o t st fun v _ => K v st := by
  obtain ⟨dst, op, type, pos, after, guard⟩ := o
  simp only at hp ⊢
  cases op <;> simp only [pureOp, Bool.false_eq_true] at hp
  case load ty a =>
    have e : ∀ (g : Bool) (n : Nat), Ld st (aev t a) g n K ↔ Ld st (aev t a) g n fun v _ => K v st := by
      intro g n
      cases aev t a <;> first | exact Iff.rfl | (cases g <;> exact Iff.rfl)
    simp only [gop1, gop]
    constructor
    · intro h
      obtain ⟨g, hg, h⟩ := OptK_iff.1 h
      exact OptK_iff.2 ⟨g, hg, Chk_iff.2 ⟨(Chk_iff.1 h).1, (e _ _).1 (Chk_iff.1 h).2⟩⟩
    · intro h
      obtain ⟨g, hg, h⟩ := OptK_iff.1 h
      exact OptK_iff.2 ⟨g, hg, Chk_iff.2 ⟨(Chk_iff.1 h).1, (e _ _).2 (Chk_iff.1 h).2⟩⟩
  case makeFunc fn first cap => cases fn <;> exact Iff.rfl
  case convert s d x =>
    simp only [gop1, gop]
    split
    · exact Iff.rfl
    · exact Iff.rfl
    · rename_i h1; rw [h1] at hp; cases hp
    · exact Iff.rfl
  case call c =>
    obtain ⟨callee, args, argTypes⟩ := c
    cases callee with
    | value f => cases hp
    | invoke r m => cases hp
    | builtin b =>
    cases b <;> (try (cases hp; done)) <;> simp only [gop1, gcall, gbuiltin]
    all_goals first
      | exact Iff.rfl
      | (split <;> exact Iff.rfl)
  all_goals first
    | exact Iff.rfl
    | (simp only [gop1, gop]; split <;> exact Iff.rfl)
    | (simp only [gop1, gop]; split <;> first | exact Iff.rfl | (split <;> exact Iff.rfl))

/-- What an operation says hangs on its operands alone. -/
theorem gop_congr {P : Program} {op : Op} {t t' : List AV} {st : St} {K : Kont} (h : ∀ x ∈ op.operands.toList, aev t x = aev t' x) : gop P op t st K = gop P op t' st K := by
  have hparts : ∀ ps : List (Nat × Operand), (∀ x ∈ ps.map (·.2), aev t x = aev t' x) → (ps.map fun (i, x) => (i, aev t x)) = ps.map fun (i, x) => (i, aev t' x) := by
    intro ps hp
    refine List.map_congr_left fun p hm => ?_
    obtain ⟨i, x⟩ := p
    simp only [hp x (List.mem_map.2 ⟨(i, x), hm, rfl⟩)]
  have hopt : ∀ o : Option Operand, (∀ x, o = some x → aev t x = aev t' x) → o.map (aev t) = o.map (aev t') := by
    intro o ho
    cases o with
    | none => rfl
    | some x => simp [ho x rfl]
  cases op <;> simp only [gop] <;> simp only [Op.operands, List.mem_toArray] at h
  case move x => rw [h x (by simp)]
  case assign x => rw [h x (by simp)]
  case pick c a b => rw [h c (by simp), h a (by simp), h b (by simp)]
  case box e x => rw [h x (by simp)]
  case build ty ps => rw [hparts ps.toList (fun x hx => h x (by simpa using hx))]
  case buildSlice ty n ps => rw [hparts ps.toList (fun x hx => h x (by simpa using hx))]
  case load ty a => rw [h a (by simp)]
  case store ty a v => rw [h a (by simp), h v (by simp)]
  case nilCheck x => rw [h x (by simp)]
  case binOp o ty x y yt => rw [h x (by simp), h y (by simp)]
  case unOp o ty x => rw [h x (by simp)]
  case convert s d x => rw [h x (by simp)]
  case makeFunc fn first cap =>
    have h1 : first.toList.map (aev t) = first.toList.map (aev t') := List.map_congr_left fun x hx => h x (by simp at hx ⊢; exact .inl hx)
    have h2 : cap.toList.map (aev t) = cap.toList.map (aev t') := List.map_congr_left fun x hx => h x (by simp at hx ⊢; exact .inr hx)
    cases fn <;> simp only [h1, h2]
  case slice ty x lo hi mx =>
    rw [h x (by simp), hopt lo (fun y hy => h y (by simp [hy])), hopt hi (fun y hy => h y (by simp [hy])), hopt mx (fun y hy => h y (by simp [hy]))]
  case fieldAddr ty x i => rw [h x (by simp)]
  case field ty x i => rw [h x (by simp)]
  case indexAddr ty x i => rw [h x (by simp), h i (by simp)]
  case index ty x i => rw [h x (by simp), h i (by simp)]
  case lookup ty m k ok => rw [h m (by simp), h k (by simp)]
  case mapUpdate ty m k v => rw [h m (by simp), h k (by simp), h v (by simp)]
  case extract x i => rw [h x (by simp)]
  case range ty x => rw [h x (by simp)]
  case next x s => rw [h x (by simp)]
  case entry x => rw [h x (by simp)]

theorem gop1_congr {P : Program} {w0 : World} {o : Oper} {t t' : List AV} {st : St} {K : Kont} (h : ∀ x ∈ o.op.operands.toList, aev t x = aev t' x) : gop1 P w0 o t st K = gop1 P w0 o t' st K := by
  unfold gop1
  split
  · rename_i c hc
    rw [hc] at h
    unfold gcall
    have ha : c.args.toList.map (aev t) = c.args.toList.map (aev t') := List.map_congr_left fun x hx => h x (by
      simp only [Op.operands, Call.operands, Array.toList_append, List.mem_append]; exact .inr hx)
    rw [ha]
    split
    · rfl
    · rename_i f hf
      rw [h f (by simp [Op.operands, Call.operands, hf])]
    · rfl
  · exact gop_congr h

/-- An operation, its guard looked at. -/
def run1 (P : Program) (w0 : World) (ops : List Oper) (o : Oper) (t : List AV) (st : St) (K : Kont) : Prop :=
  match o.guard with
  | none => gop1 P w0 o t st K
  | some (j, want) =>
    match (ops[j]?).bind (·.dst) with
    | none => False
    | some d => Gd (nestedAt ops j) (t.getD d .any) (fun b => Br (b == want) (gop1 P w0 o t st K) (K (.tup []) st)) (K (.tup []) st)

/-- The temporaries that an operation looks at. -/
def looks (ops : List Oper) (o : Oper) : List Tmp :=
  (o.op.operands.toList.filterMap fun | .tmp t => some t | _ => none) ++ (match o.guard with | some (j, _) => ((ops[j]?).bind (·.dst)).toList | none => [])

theorem run1_congr {P : Program} {w0 : World} {ops : List Oper} {o : Oper} {t t' : List AV} {st : St} {K : Kont} (h : ∀ d ∈ looks ops o, t.getD d .any = t'.getD d .any) : run1 P w0 ops o t st K = run1 P w0 ops o t' st K := by
  have hop : gop1 P w0 o t st K = gop1 P w0 o t' st K := gop1_congr fun x hx => by
    cases x with
    | tmp i => exact h i (by simp only [looks, List.mem_append, List.mem_filterMap]; exact .inl ⟨.tmp i, hx, rfl⟩)
    | _ => rfl
  unfold run1
  split
  · exact hop
  · rename_i j want hg
    split
    · rfl
    · rename_i d hd
      rw [h d (by simp [looks, hg, hd]), hop]

theorem run1_wit {P : Program} {w0 : World} {ops : List Oper} {o : Oper} {t : List AV} (hp : pureOp P o.op = true) (st : St) : Wit fun J => run1 P w0 ops o t st fun v _ => J v := by
  unfold run1
  split
  · exact wit_of hp st
  · split
    · exact Wit.no fun _ h => h
    · exact Wit.gd (fun b => Wit.br (wit_of hp st) (Wit.ret (.tup []))) (Wit.ret (.tup []))

theorem run1_st {P : Program} {w0 : World} {ops : List Oper} {o : Oper} {t : List AV} (hp : pureOp P o.op = true) (st : St) (K : Kont) : run1 P w0 ops o t st K ↔ run1 P w0 ops o t st fun v _ => K v st := by
  unfold run1
  split
  · exact gop1_st hp st K
  · split
    · exact Iff.rfl
    · rename_i j _ _ _ _ _
      cases nestedAt ops _ <;> cases t.getD _ .any <;> try exact Iff.rfl
      all_goals simp only [Gd, AsBool_bool, Br_iff, gop1_st hp st K]

theorem Append_mono {st : St} {a b : AV} {n m : Nat} {K K' : Kont} (hk : ∀ v st, K v st → K' v st) (h : Append st a b n m K) : Append st a b n m K' := by
  obtain ⟨⟨c, xs⟩, hs, h1, h⟩ := OptK_iff.1 h
  refine OptK_iff.2 ⟨⟨c, xs⟩, hs, h1, ?_⟩
  cases a with
  | nils =>
    obtain ⟨h2, h3⟩ := Br_iff.1 h
    exact Br_iff.2 ⟨fun e => hk _ _ (h2 e), fun e => ⟨(h3 e).1, hk _ _ (h3 e).2⟩⟩
  | slice b0 o len cap ex e =>
    obtain ⟨he, h⟩ := h
    refine ⟨he, ?_⟩
    obtain ⟨h2, h3⟩ := Br_iff.1 h
    refine Br_iff.2 ⟨fun e => hk _ _ (h2 e), fun e => ?_⟩
    obtain ⟨h4, h5⟩ := Br_iff.1 (h3 e)
    refine Br_iff.2 ⟨fun e => ?_, fun e => ?_⟩
    · obtain ⟨cs, hc, h6, h7⟩ := OptK_iff.1 (h4 e)
      exact OptK_iff.2 ⟨cs, hc, h6, hk _ _ h7⟩
    · obtain ⟨cs, hc, h6, h7, h8⟩ := OptK_iff.1 (h5 e)
      exact OptK_iff.2 ⟨cs, hc, h6, h7, hk _ _ h8⟩
  | _ => exact h.elim

theorem gop1_mono {P : Program} {w0 : World} {o : Oper} {t : List AV} {st : St} {K K' : Kont} (hk : ∀ v st, K v st → K' v st) (h : gop1 P w0 o t st K) : gop1 P w0 o t st K' := by
  cases hp : pureOp P o.op with
  | true =>
    rw [gop1_st hp] at h ⊢
    obtain ⟨v, h1, h2⟩ := wit_of hp st _ h
    exact h2 _ (hk _ _ h1)
  | false =>
    obtain ⟨dst, op, type, pos, after, guard⟩ := o
    simp only at hp ⊢
    cases op <;> simp only [pureOp, Bool.true_eq_false] at hp <;> try exact h.elim
    case alloc e =>
      obtain ⟨z, hz, h⟩ := OptK_iff.1 h
      exact OptK_iff.2 ⟨z, hz, hk _ _ h⟩
    case box e x =>
      obtain ⟨z, hz, h⟩ := OptK_iff.1 h
      exact OptK_iff.2 ⟨z, hz, hk _ _ h⟩
    case buildSlice ty n ps =>
      simp only [gop1, gop] at h ⊢
      split at h
      · obtain ⟨z, hz, h⟩ := OptK_iff.1 h
        obtain ⟨hc, h⟩ := Chk_iff.1 h
        obtain ⟨cs, hcs, h⟩ := OptK_iff.1 h
        exact OptK_iff.2 ⟨z, hz, Chk_iff.2 ⟨hc, OptK_iff.2 ⟨cs, hcs, hk _ _ h⟩⟩⟩
      · exact h.elim
    case store ty a v =>
      simp only [gop1, gop] at h ⊢
      obtain ⟨hc, h⟩ := Chk_iff.1 h
      refine Chk_iff.2 ⟨hc, ?_⟩
      revert h
      cases aev t a <;> first | exact fun h => h.elim | skip
      intro h
      obtain ⟨cs, hcs, h⟩ := OptK_iff.1 h
      obtain ⟨vs, hvs, h1, h2, h3, h⟩ := OptK_iff.1 h
      exact OptK_iff.2 ⟨cs, hcs, OptK_iff.2 ⟨vs, hvs, h1, h2, h3, hk _ _ h⟩⟩
    case makeMap ty r =>
      cases r with
      | none => exact hk _ _ h
      | some r => exact h.elim
    case mapUpdate ty m k v =>
      simp only [gop1, gop] at h ⊢
      split at h
      · obtain ⟨hc, h⟩ := Chk_iff.1 h
        refine Chk_iff.2 ⟨hc, ?_⟩
        revert h
        cases aev t m <;> first | exact fun h => h.elim | skip
        intro h
        obtain ⟨es, hes, h1, h⟩ := OptK_iff.1 h
        obtain ⟨r, hr, h⟩ := OptK_iff.1 h
        exact OptK_iff.2 ⟨es, hes, h1, OptK_iff.2 ⟨r, hr, hk _ _ h⟩⟩
      · exact h.elim
    case convert s d x =>
      simp only [gop1, gop] at h ⊢
      split at h
      · exact hk _ _ h
      · exact hk _ _ h
      · obtain ⟨hc, h⟩ := Chk_iff.1 h
        refine Chk_iff.2 ⟨hc, ?_⟩
        revert h
        cases aev t x <;> first | exact fun h => h.elim | exact fun h => ⟨h.1, hk _ _ h.2⟩
      · exact h.elim
    case range ty x =>
      simp only [gop1, gop] at h ⊢
      split at h
      · revert h
        cases aev t x <;> first | exact fun h => h.elim | exact fun h => hk _ _ h | skip
        intro h
        obtain ⟨m, hm, h⟩ := OptK_iff.1 h
        exact OptK_iff.2 ⟨m, hm, hk _ _ h⟩
      · exact h.elim
    case entry x =>
      simp only [gop1, gop] at h ⊢
      revert h
      cases hx : aev t x <;> first | exact fun h => h.elim | skip
      rename_i r o
      cases o <;> first | exact fun h => h.elim | skip
      intro h
      obtain ⟨⟨m, q⟩, hm, h⟩ := OptK_iff.1 h
      refine OptK_iff.2 ⟨⟨m, q⟩, hm, ?_⟩
      cases m with
      | none => exact h
      | some b =>
        obtain ⟨m2, hm2, h1, h⟩ := OptK_iff.1 h
        obtain ⟨s, hs, h⟩ := OptK_iff.1 h
        obtain ⟨i, hi, h⟩ := OptK_iff.1 h
        obtain ⟨e, he, h⟩ := OptK_iff.1 h
        exact OptK_iff.2 ⟨m2, hm2, h1, OptK_iff.2 ⟨s, hs, OptK_iff.2 ⟨i, hi, OptK_iff.2 ⟨e, he, hk _ _ h⟩⟩⟩⟩
    case next x s =>
      simp only [gop1, gop] at h ⊢
      obtain ⟨hc, h⟩ := Chk_iff.1 h
      refine Chk_iff.2 ⟨hc, ?_⟩
      revert h
      cases hx : aev t x <;> first | exact fun h => h.elim | skip
      rename_i r o
      cases o <;> first | exact fun h => h.elim | skip
      intro h
      obtain ⟨⟨m, q⟩, hm, h⟩ := OptK_iff.1 h
      refine OptK_iff.2 ⟨⟨m, q⟩, hm, ?_⟩
      cases m with
      | none => exact hk _ _ h
      | some b =>
        obtain ⟨m2, hm2, h1, h2, h3⟩ := OptK_iff.1 h
        exact OptK_iff.2 ⟨m2, hm2, h1, fun e => hk _ _ (h2 e), fun i k v s a b c => hk _ _ (h3 i k v s a b c)⟩
    case call c =>
      simp only [gop1, gcall] at h ⊢
      split at h
      · rename_i b hb
        unfold gbuiltin at h ⊢
        cases b <;> simp only at h ⊢ <;> try exact h.elim
        case append =>
          split at h
          · split at h
            · obtain ⟨hc, h⟩ := Chk_iff.1 h
              exact Chk_iff.2 ⟨hc, Append_mono hk h⟩
            · exact h.elim
          · exact h.elim
        case delete =>
          split at h
          · rename_i t0 ts m k _ _
            split at h
            · obtain ⟨hc, h⟩ := Chk_iff.1 h
              refine Chk_iff.2 ⟨hc, ?_⟩
              revert h
              cases m <;> first | exact fun h => h.elim | skip
              intro h
              obtain ⟨es, hes, h1, h⟩ := OptK_iff.1 h
              obtain ⟨r, hr, h⟩ := OptK_iff.1 h
              exact OptK_iff.2 ⟨es, hes, h1, OptK_iff.2 ⟨r, hr, hk _ _ h⟩⟩
            · exact h.elim
          · exact h.elim
        · obtain ⟨callee, args, ats⟩ := c; simp only at hb; subst hb; cases hp
        · obtain ⟨callee, args, ats⟩ := c; simp only at hb; subst hb; cases hp
        · obtain ⟨callee, args, ats⟩ := c; simp only at hb; subst hb; cases hp
      · rename_i f hf
        revert h
        cases aev t f <;> first | exact fun h => h.elim | skip
        · exact fun h => ACall.mono h hk
        · exact fun h => AYield.mono h hk
      · exact h.elim

theorem run1_mono {P : Program} {w0 : World} {ops : List Oper} {o : Oper} {t : List AV} {st : St} {K K' : Kont} (hk : ∀ v st, K v st → K' v st) (h : run1 P w0 ops o t st K) : run1 P w0 ops o t st K' := by
  unfold run1 at h ⊢
  split at h
  · exact gop1_mono hk h
  · split at h
    · exact h.elim
    · rcases Gd_elim h with ⟨b, hb, h⟩ | ⟨cs, hb, h, hn⟩
      · rw [hb]
        obtain ⟨h1, h2⟩ := Br_iff.1 h
        exact Gd_bool (Br_iff.2 ⟨fun e => gop1_mono hk (h1 e), fun e => hk _ _ (h2 e)⟩)
      · rw [hb, hn]; exact Gd_tup (hk _ _ h)
end Go.Ab
