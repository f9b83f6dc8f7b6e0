/- Separation: what lies where, chunk by chunk. -/
import Derived.Test.YtoehcgeckmoofaaGreatDoorBa
set_option linter.unusedVariables false
set_option linter.unusedSimpArgs false
namespace Go.Ab
open Go Go.RowKit Go.Proofs

inductive Loc where
  | b (n : Nat)
  | l (n : Nat)
  deriving DecidableEq
inductive Thg where
  | b (k : ABlk)
  | l (a : ALoop)

def St.thg (st : St) : Loc → Option Thg
  | .b n => st.hp[n]?.map .b
  | .l n => st.lp[n]?.map .l

abbrev Hp := Loc → Option Thg
def Hp.Le (h h' : Hp) : Prop := ∀ x t, h x = some t → h' x = some t
def Hp.on (h : Hp) (m : Loc → Bool) : Hp := fun x => match m x with | true => h x | false => none
def Hp.off (h : Hp) (m : Loc → Bool) : Hp := fun x => match m x with | true => none | false => h x

theorem Hp.Le.refl (h : Hp) : h.Le h := fun _ _ e => e
theorem Hp.Le.on {h h' : Hp} (k : h.Le h') (m) : (h.on m).Le (h'.on m) := fun x t e => by
  revert e; simp only [Hp.on]; cases m x
  · exact fun e => nomatch e
  · exact k x t
theorem Hp.Le.off {h h' : Hp} (k : h.Le h') (m) : (h.off m).Le (h'.off m) := fun x t e => by
  revert e; simp only [Hp.off]; cases m x
  · exact k x t
  · exact fun e => nomatch e

/-- What holds of a part of the heap that is owned, and of one that nobody turns any more. -/
structure Prp where
  p : Hp → Hp → Prop
  mono : ∀ {o o' s s' : Hp}, o.Le o' → s.Le s' → p o s → p o' s'

def Imp (P Q : Prp) : Prop := ∀ o s, P.p o s → Q.p o s

def emp : Prp := ⟨fun _ _ => True, fun _ _ h => h⟩
def star (P Q : Prp) : Prp := ⟨fun o s => ∃ m, P.p (o.on m) s ∧ Q.p (o.off m) s, fun h k ⟨m, a, b⟩ => ⟨m, P.mono (h.on m) k a, Q.mono (h.off m) k b⟩⟩
def pt (b : Nat) (k : ABlk) : Prp := ⟨fun o _ => o (.b b) = some (.b k), fun h _ e => h _ _ e⟩
def lq (i : Nat) (a : ALoop) : Prp := ⟨fun o _ => o (.l i) = some (.l a), fun h _ e => h _ _ e⟩
def sh (b : Nat) (k : ABlk) : Prp := ⟨fun _ s => s (.b b) = some (.b k), fun _ h e => h _ _ e⟩
def pur (φ : Prop) : Prp := ⟨fun _ _ => φ, fun _ _ h => h⟩
def ex {α : Type} (f : α → Prp) : Prp := ⟨fun o s => ∃ x, (f x).p o s, fun h k ⟨x, e⟩ => ⟨x, (f x).mono h k e⟩⟩
def por (P Q : Prp) : Prp := ⟨fun o s => P.p o s ∨ Q.p o s, fun h k e => e.elim (fun e => .inl (P.mono h k e)) (fun e => .inr (Q.mono h k e))⟩
def stars : List Prp → Prp
  | [] => emp
  | c :: cs => star c (stars cs)

def Sep (st : St) (cs : List Prp) : Prop := ∃ m, (stars cs).p (Hp.on st.thg m) (Hp.off st.thg m)

theorem star_mono {P P' Q Q' : Prp} (h : Imp P P') (k : Imp Q Q') : Imp (star P Q) (star P' Q') := fun o s ⟨m, a, b⟩ => ⟨m, h _ _ a, k _ _ b⟩
theorem star_swap (a b c : Prp) : Imp (star a (star b c)) (star b (star a c)) := by
  rintro o s ⟨m1, ha, m2, hb, hc⟩
  refine ⟨fun x => !m1 x && m2 x, ?_, m1, ?_, ?_⟩
  · have : o.on (fun x => !m1 x && m2 x) = (o.off m1).on m2 := by funext x; simp only [Hp.on, Hp.off]; cases m1 x <;> cases m2 x <;> rfl
    rw [this]; exact hb
  · have : (o.off (fun x => !m1 x && m2 x)).on m1 = o.on m1 := by funext x; simp only [Hp.on, Hp.off]; cases m1 x <;> cases m2 x <;> rfl
    rw [this]; exact ha
  · have : (o.off (fun x => !m1 x && m2 x)).off m1 = (o.off m1).off m2 := by funext x; simp only [Hp.on, Hp.off]; cases m1 x <;> cases m2 x <;> rfl
    rw [this]; exact hc
theorem star_assoc (a b c : Prp) : Imp (star (star a b) c) (star a (star b c)) := by
  rintro o s ⟨m1, ⟨m2, ha, hb⟩, hc⟩
  refine ⟨fun x => m1 x && m2 x, ?_, m1, ?_, ?_⟩
  · have : o.on (fun x => m1 x && m2 x) = (o.on m1).on m2 := by funext x; simp only [Hp.on, Hp.off]; cases m1 x <;> cases m2 x <;> rfl
    rw [this]; exact ha
  · have : (o.off (fun x => m1 x && m2 x)).on m1 = (o.on m1).off m2 := by funext x; simp only [Hp.on, Hp.off]; cases m1 x <;> cases m2 x <;> rfl
    rw [this]; exact hb
  · have : (o.off (fun x => m1 x && m2 x)).off m1 = o.off m1 := by funext x; simp only [Hp.on, Hp.off]; cases m1 x <;> cases m2 x <;> rfl
    rw [this]; exact hc
theorem star_assoc' (a b c : Prp) : Imp (star a (star b c)) (star (star a b) c) := by
  rintro o s ⟨m1, ha, m2, hb, hc⟩
  refine ⟨fun x => m1 x || m2 x, ⟨m1, ?_, ?_⟩, ?_⟩
  · have : (o.on (fun x => m1 x || m2 x)).on m1 = o.on m1 := by funext x; simp only [Hp.on, Hp.off]; cases m1 x <;> cases m2 x <;> rfl
    rw [this]; exact ha
  · have : (o.on (fun x => m1 x || m2 x)).off m1 = (o.off m1).on m2 := by funext x; simp only [Hp.on, Hp.off]; cases m1 x <;> cases m2 x <;> rfl
    rw [this]; exact hb
  · have : o.off (fun x => m1 x || m2 x) = (o.off m1).off m2 := by funext x; simp only [Hp.on, Hp.off]; cases m1 x <;> cases m2 x <;> rfl
    rw [this]; exact hc

theorem stars_perm {cs ds : List Prp} (h : cs.Perm ds) : Imp (stars cs) (stars ds) := by
  induction h with
  | nil => exact fun _ _ h => h
  | cons x _ ih => exact star_mono (fun _ _ h => h) ih
  | swap x y l => exact star_swap _ _ _
  | trans _ _ a b => exact fun o s h => b _ _ (a _ _ h)

theorem stars_append (cs ds : List Prp) : Imp (star (stars cs) (stars ds)) (stars (cs ++ ds)) := by
  induction cs with
  | nil => rintro o s ⟨m, _, h⟩; refine (stars ds).mono ?_ (Hp.Le.refl _) h; intro x t e; simp only [Hp.off] at e; split at e <;> simp_all
  | cons c cs ih => exact fun o s h => star_mono (fun _ _ h => h) ih _ _ (star_assoc _ _ _ _ _ h)
theorem stars_append' (cs ds : List Prp) : Imp (stars (cs ++ ds)) (star (stars cs) (stars ds)) := by
  induction cs with
  | nil => rintro o s h; exact ⟨fun _ => false, trivial, (stars ds).mono (fun x t e => by simpa [Hp.off] using e) (Hp.Le.refl _) h⟩
  | cons c cs ih => exact fun o s h => star_assoc' _ _ _ _ _ (star_mono (fun _ _ h => h) ih _ _ h)

section
variable {st st' : St} {cs ds F : List Prp} {b i : Nat} {k k' : ABlk} {P Q : Prp}

theorem Sep.imp (h : Sep st cs) (k : Imp (stars cs) (stars ds)) : Sep st ds := let ⟨m, e⟩ := h; ⟨m, k _ _ e⟩
theorem Sep.perm (h : Sep st cs) (k : cs.Perm ds) : Sep st ds := h.imp (stars_perm k)
theorem Sep.nil (st : St) : Sep st [] := ⟨fun _ => true, trivial⟩

def pull : Nat → List Prp → List Prp
  | 0, cs => cs
  | i + 1, c :: cs => match pull i cs with | d :: ds => d :: c :: ds | [] => [c]
  | _ + 1, [] => []

theorem pull_perm : ∀ (i : Nat) (cs : List Prp), cs.Perm (pull i cs)
  | 0, cs => .refl _
  | i + 1, [] => .refl _
  | i + 1, c :: cs => by
    have ih := pull_perm i cs
    unfold pull
    split
    · rename_i d ds e; rw [e] at ih; exact (ih.cons c).trans (.swap ..)
    · rename_i e; rw [e] at ih; exact ih.cons c

/-- The i-th comes first. -/
theorem Sep.pull (h : Sep st cs) (i : Nat) : Sep st (pull i cs) := h.perm (pull_perm i cs)
def ord : List Nat → List Prp → List Prp
  | [], cs => cs
  | i :: is, cs => match Go.Ab.pull i cs with | c :: cs' => c :: ord is cs' | [] => []
theorem ord_perm : ∀ (is : List Nat) (cs : List Prp), cs.Perm (ord is cs)
  | [], cs => .refl _
  | i :: is, cs => by
    have h := pull_perm i cs
    unfold ord
    split
    · rename_i c cs' e; rw [e] at h; exact h.trans ((ord_perm is cs').cons c)
    · rename_i e; rw [e] at h; exact h
/-- Those at these places first (each place counted in what is left). -/
theorem Sep.ord (h : Sep st cs) (is : List Nat) : Sep st (ord is cs) := h.perm (ord_perm is cs)
theorem Sep.swap (h : Sep st (P :: Q :: F)) : Sep st (Q :: P :: F) := h.imp (star_swap _ _ _)
theorem Sep.tail (h : Sep st (P :: F)) : Sep st F := h.imp fun o s ⟨m, _, b⟩ => (stars F).mono (fun x t e => by simp only [Hp.off] at e; split at e <;> simp_all) (Hp.Le.refl _) b
theorem Sep.head (h : Sep st (P :: F)) : Sep st [P] := h.imp fun o s ⟨m, a, b⟩ => ⟨m, a, trivial⟩
theorem Sep.map (h : Sep st (P :: F)) (k : Imp P Q) : Sep st (Q :: F) := h.imp (star_mono k fun _ _ h => h)
theorem Sep.ofStar (h : Sep st (star P Q :: F)) : Sep st (P :: Q :: F) := h.imp (star_assoc _ _ _)
theorem Sep.toStar (h : Sep st (P :: Q :: F)) : Sep st (star P Q :: F) := h.imp (star_assoc' _ _ _)
theorem Sep.ofStars (h : Sep st (stars cs :: F)) : Sep st (cs ++ F) := h.imp (stars_append cs F)
theorem Sep.toStars (h : Sep st (cs ++ F)) : Sep st (stars cs :: F) := h.imp (stars_append' cs F)
theorem Sep.ofPur {φ : Prop} (h : Sep st (pur φ :: F)) : φ ∧ Sep st F := ⟨let ⟨_, _, a, _⟩ := h; a, h.tail⟩
theorem Sep.add (h : Sep st F) (k : ∀ o s, P.p o s) : Sep st (P :: F) := h.imp fun o s e => ⟨fun _ => false, k _ _, (stars F).mono (fun x t e => by simpa [Hp.off] using e) (Hp.Le.refl _) e⟩
theorem Sep.toPur {φ : Prop} (h : Sep st F) (k : φ) : Sep st (pur φ :: F) := h.add fun _ _ => k
theorem Sep.toEmp (h : Sep st F) : Sep st (emp :: F) := h.add fun _ _ => trivial
theorem Sep.ofEx {α : Type} {f : α → Prp} (h : Sep st (ex f :: F)) : ∃ x, Sep st (f x :: F) := let ⟨m, n, ⟨x, a⟩, b⟩ := h; ⟨x, m, n, a, b⟩
theorem Sep.toEx {α : Type} {f : α → Prp} (x : α) (h : Sep st (f x :: F)) : Sep st (ex f :: F) := h.map fun _ _ e => ⟨x, e⟩
theorem Sep.ofOr (h : Sep st (por P Q :: F)) : Sep st (P :: F) ∨ Sep st (Q :: F) := by
  obtain ⟨m, n, a | a, b⟩ := h
  · exact .inl ⟨m, n, a, b⟩
  · exact .inr ⟨m, n, a, b⟩
theorem Sep.toOrL (h : Sep st (P :: F)) : Sep st (por P Q :: F) := h.map fun _ _ e => .inl e
theorem Sep.toOrR (h : Sep st (Q :: F)) : Sep st (por P Q :: F) := h.map fun _ _ e => .inr e

theorem Sep.pack (h : Sep st (P :: F)) : Sep st [stars F, P] := Sep.swap (h.imp (star_mono (fun _ _ h => h) fun o s e => ⟨fun _ => true, (stars F).mono (fun x t e => by simpa [Hp.on] using e) (Hp.Le.refl _) e, trivial⟩))
theorem Sep.unpack (h : Sep st [stars F, P]) : Sep st (P :: F) := h.swap.imp (star_mono (fun _ _ h => h) fun o s ⟨m, e, _⟩ => (stars F).mono (fun x t e => by simp only [Hp.on] at e; split at e <;> simp_all) (Hp.Le.refl _) e)
theorem thg_on {h : Hp} {m x t} (e : h.on m x = some t) : m x = true ∧ h x = some t := by
  simp only [Hp.on] at e; split at e
  · rename_i hm; exact ⟨hm, e⟩
  · cases e
theorem thg_off {h : Hp} {m x t} (e : h.off m x = some t) : m x = false ∧ h x = some t := by
  simp only [Hp.off] at e; split at e
  · cases e
  · rename_i hm; exact ⟨hm, e⟩
theorem hp_of_thg {b : Nat} {t} (h : st.thg (.b b) = some (.b t)) : st.hp[b]? = some t := by
  simp only [St.thg, Option.map_eq_some_iff] at h; obtain ⟨a, h1, h2⟩ := h; cases h2; exact h1
theorem lp_of_thg {i : Nat} {t} (h : st.thg (.l i) = some (.l t)) : st.lp[i]? = some t := by
  simp only [St.thg, Option.map_eq_some_iff] at h; obtain ⟨a, h1, h2⟩ := h; cases h2; exact h1

theorem Sep.get (h : Sep st (pt b k :: F)) : st.hp[b]? = some k := by
  obtain ⟨m, n, a, _⟩ := h
  exact hp_of_thg (thg_on (thg_on a).2).2
theorem Sep.getL {al : ALoop} (h : Sep st (lq i al :: F)) : st.lp[i]? = some al := by
  obtain ⟨m, n, a, _⟩ := h
  exact lp_of_thg (thg_on (thg_on a).2).2
theorem Sep.getS (h : Sep st (sh b k :: F)) : st.hp[b]? = some k := by
  obtain ⟨m, n, a, _⟩ := h
  exact hp_of_thg (thg_off a).2

theorem atI_perm : ∀ {cs : List Prp} {i : Nat} {P : Prp}, cs[i]? = some P → (P :: cs.eraseIdx i).Perm cs
  | [], _, _, h => by simp at h
  | c :: cs, 0, P, h => by simp at h; subst h; exact .refl _
  | c :: cs, i + 1, P, h => by
    have ih := atI_perm (cs := cs) (i := i) (P := P) (by simpa using h)
    simp only [List.eraseIdx_cons_succ]
    exact (List.Perm.swap ..).trans (ih.cons c)
theorem Sep.atI (h : Sep st cs) {i : Nat} (hi : cs[i]? = some P) : Sep st (P :: cs.eraseIdx i) := h.perm (atI_perm hi).symm
theorem Sep.backI {i : Nat} (hi : i < cs.length) (h : Sep st (P :: cs.eraseIdx i)) : Sep st (cs.set i P) := by
  have := atI_perm (cs := cs.set i P) (i := i) (P := P) (by simp [hi])
  rw [List.eraseIdx_set_eq] at this
  exact h.perm this

theorem Sep.set (h : Sep st (pt b k :: F)) (k' : ABlk) : Sep (st.setB b k') (pt b k' :: F) := by
  have hg := h.get
  obtain ⟨m, n, a, e⟩ := h
  obtain ⟨hn, a'⟩ := thg_on a
  obtain ⟨hm, _⟩ := thg_on a'
  have hlt : b < st.hp.length := lt_of_get hg
  have key : ∀ x, x ≠ .b b → (st.setB b k').thg x = st.thg x := by
    intro x hx
    cases x with
    | b c => simp only [St.thg, hp_setB]; rw [List.getElem?_set_ne (fun (hh : b = c) => hx (hh ▸ rfl))]
    | l c => rfl
  refine ⟨m, n, ?_, ?_⟩
  · show Hp.on (Hp.on (st.setB b k').thg m) n (.b b) = _
    simp only [Hp.on, hn, hm]
    simp [St.thg, hlt]
  · have h1 : Hp.off (Hp.on (st.setB b k').thg m) n = Hp.off (Hp.on st.thg m) n := by
      funext x
      by_cases hx : x = .b b
      · subst hx; simp only [Hp.off, hn]
      · simp only [Hp.off, Hp.on, key x hx]
    have h2 : Hp.off (st.setB b k').thg m = Hp.off st.thg m := by
      funext x
      by_cases hx : x = .b b
      · subst hx; simp only [Hp.off, hm]
      · simp only [Hp.off, key x hx]
    rw [h1, h2]; exact e

theorem Sep.setL {al : ALoop} (h : Sep st (lq i al :: F)) (al' : ALoop) : Sep (setLoop st i al') (lq i al' :: F) := by
  have hg := h.getL
  obtain ⟨m, n, a, e⟩ := h
  obtain ⟨hn, a'⟩ := thg_on a
  obtain ⟨hm, _⟩ := thg_on a'
  have hlt : i < st.lp.length := lt_of_lp hg
  have key : ∀ x, x ≠ .l i → (setLoop st i al').thg x = st.thg x := by
    intro x hx
    cases x with
    | b c => rfl
    | l c => simp only [St.thg, lp_setLoop]; rw [List.getElem?_set_ne (fun (hh : i = c) => hx (hh ▸ rfl))]
  refine ⟨m, n, ?_, ?_⟩
  · show Hp.on (Hp.on (setLoop st i al').thg m) n (.l i) = _
    simp only [Hp.on, hn, hm]
    simp [St.thg, hlt]
  · have h1 : Hp.off (Hp.on (setLoop st i al').thg m) n = Hp.off (Hp.on st.thg m) n := by
      funext x
      by_cases hx : x = .l i
      · subst hx; simp only [Hp.off, hn]
      · simp only [Hp.off, Hp.on, key x hx]
    have h2 : Hp.off (setLoop st i al').thg m = Hp.off st.thg m := by
      funext x
      by_cases hx : x = .l i
      · subst hx; simp only [Hp.off, hm]
      · simp only [Hp.off, key x hx]
    rw [h1, h2]; exact e

theorem Sep.setI {i : Nat} (h : Sep st cs) (hi : cs[i]? = some (pt b k)) (k' : ABlk) : Sep (st.setB b k') (cs.set i (pt b k')) :=
  .backI (List.getElem?_eq_some_iff.1 hi).1 ((h.atI hi).set k')

/-- The state has only grown. -/
theorem Sep.ext (h : Sep st cs) (f : Fr [] st st') : Sep st' cs := by
  obtain ⟨m, e⟩ := h
  have key : Hp.Le st.thg st'.thg := by
    intro x t hx
    cases x with
    | b c =>
      simp only [St.thg, Option.map_eq_some_iff] at hx ⊢
      obtain ⟨a, h1, h2⟩ := hx
      exact ⟨a, f.keep h1 (by simp), h2⟩
    | l c =>
      simp only [St.thg, Option.map_eq_some_iff] at hx ⊢
      obtain ⟨a, h1, h2⟩ := hx
      exact ⟨a, by rw [f.lget c (lt_of_lp h1)]; exact h1, h2⟩
  exact ⟨m, (stars cs).mono (key.on m) (key.off m) e⟩

theorem Sep.more (x : Loc) (P : Prp) (t : Thg) (hx : ∀ o s, o x = some t → P.p o s) (h : Sep st F) (h0 : st.thg x = none) (h1 : st'.thg x = some t) (h2 : ∀ y, y ≠ x → st'.thg y = st.thg y) : Sep st' (P :: F) := by
  obtain ⟨m, e⟩ := h
  refine ⟨fun y => m y || decide (y = x), fun y => decide (y = x), ?_, ?_⟩
  · refine hx _ _ ?_
    simp only [Hp.on, decide_true, Bool.or_true]; exact h1
  · refine (stars F).mono ?_ ?_ e
    · intro y t' ht
      obtain ⟨hm, ht⟩ := thg_on ht
      by_cases hy : y = x
      · subst hy; rw [h0] at ht; cases ht
      · simp [Hp.off, Hp.on, hy, hm, h2 y hy, ht]
    · intro y t' ht
      obtain ⟨hm, ht⟩ := thg_off ht
      by_cases hy : y = x
      · subst hy; rw [h0] at ht; cases ht
      · simp [Hp.off, Hp.on, hy, hm, h2 y hy, ht]

theorem Sep.push (h : Sep st F) (k : ABlk) : Sep (st.push k) (pt st.hp.length k :: F) := by
  refine Sep.more (.b st.hp.length) _ (.b k) (fun _ _ e => e) h (by simp [St.thg]) (by simp [St.thg]) fun y hy => ?_
  cases y with
  | b c =>
    have hc : c ≠ st.hp.length := fun hh => hy (hh ▸ rfl)
    simp only [St.thg, hp_push]
    rcases Nat.lt_or_ge c st.hp.length with h1 | h1
    · rw [List.getElem?_append_left h1]
    · rw [List.getElem?_eq_none (by simp; omega), List.getElem?_eq_none h1]
  | l c => rfl

theorem Sep.pushL (h : Sep st F) (al : ALoop) : Sep (pushLoop st al) (lq st.lp.length al :: F) := by
  refine Sep.more (.l st.lp.length) _ (.l al) (fun _ _ e => e) h (by simp [St.thg]) (by simp [St.thg]) fun y hy => ?_
  cases y with
  | b c => rfl
  | l c =>
    have hc : c ≠ st.lp.length := fun hh => hy (hh ▸ rfl)
    simp only [St.thg, lp_pushLoop]
    rcases Nat.lt_or_ge c st.lp.length with h1 | h1
    · rw [List.getElem?_append_left h1]
    · rw [List.getElem?_eq_none (by simp; omega), List.getElem?_eq_none h1]

/-- Nobody turns it any more. -/
theorem Sep.freeze (h : Sep st (pt b k :: F)) : Sep st (sh b k :: F) := by
  obtain ⟨m, n, a, e⟩ := h
  obtain ⟨hn, a'⟩ := thg_on a
  obtain ⟨hm, a''⟩ := thg_on a'
  refine ⟨fun y => m y && !decide (y = .b b), fun _ => false, ?_, ?_⟩
  · show Hp.off _ _ _ = _
    simp only [Hp.off, decide_true, Bool.not_true, Bool.and_false]; exact a''
  · refine (stars F).mono ?_ ?_ e
    · intro y t ht
      obtain ⟨h1, ht⟩ := thg_off ht
      obtain ⟨h2, ht⟩ := thg_on ht
      have hy : y ≠ .b b := fun hh => by rw [hh, hn] at h1; cases h1
      simp [Hp.off, Hp.on, hy, h2, ht]
    · intro y t ht
      obtain ⟨h1, ht⟩ := thg_off ht
      simp [Hp.off, h1, ht]

def Pers (P : Prp) : Prop := ∀ o o' s, P.p o s → P.p o' s
theorem Sep.dup (h : Sep st (P :: F)) (k : Pers P) : Sep st (P :: P :: F) := h.imp fun o s ⟨m, a, b⟩ => ⟨m, a, fun _ => false, k _ _ _ a, (stars F).mono (fun x t e => by simpa [Hp.off] using e) (Hp.Le.refl _) b⟩
theorem pers_sh (b k) : Pers (sh b k) := fun _ _ _ h => h
theorem pers_ex {α : Type} {f : α → Prp} (h : ∀ x, Pers (f x)) : Pers (ex f) := fun o o' s ⟨x, e⟩ => ⟨x, h x _ _ _ e⟩
theorem pers_star {P Q : Prp} (h : Pers P) (k : Pers Q) : Pers (star P Q) := fun o o' s ⟨m, a, b⟩ => ⟨m, h _ _ _ a, k _ _ _ b⟩
theorem pers_pur (φ) : Pers (pur φ) := fun _ _ _ h => h

theorem pers_emp : Pers emp := fun _ _ _ _ => trivial
theorem stars_has {P : Prp} (hp : Pers P) : ∀ {cs : List Prp} {o s : Hp}, P ∈ cs → (stars cs).p o s → ∀ o', P.p o' s
  | [], _, _, hm, _, _ => absurd hm (by simp)
  | c :: cs, o, s, hm, ⟨m, a, b⟩, o' => by
    rcases List.mem_cons.1 hm with rfl | hm
    · exact hp _ _ _ a
    · exact stars_has hp hm b o'
theorem pers_stars : ∀ {cs : List Prp}, (∀ P ∈ cs, Pers P) → Pers (stars cs)
  | [], _ => pers_emp
  | c :: cs, h => pers_star (h c (by simp)) (pers_stars fun P hP => h P (by simp [hP]))
/-- What nobody owns, once more. -/
theorem Sep.have (h : Sep st F) (hp : Pers P) (k : ∀ o s, (stars F).p o s → ∀ o', P.p o' s) : Sep st (P :: F) :=
  h.imp fun o s e => ⟨fun _ => false, k _ _ e _, (stars F).mono (fun x t e => by simpa [Hp.off] using e) (Hp.Le.refl _) e⟩
theorem Sep.stars_mem (h : Sep st (stars cs :: F)) (hm : P ∈ cs) (hp : Pers P) : Sep st (P :: stars cs :: F) :=
  h.have hp fun o s ⟨m, a, b⟩ o' => stars_has hp hm a o'
theorem stars_all : ∀ {cs : List Prp} {o s : Hp}, (∀ P ∈ cs, ∀ o', P.p o' s) → (stars cs).p o s
  | [], _, _, _ => trivial
  | c :: cs, o, s, h => ⟨fun _ => true, h c (by simp) _, stars_all fun P hP => h P (by simp [hP])⟩
/-- Of what nobody owns some may be left. -/
theorem Sep.stars_sub (h : Sep st (stars cs :: F)) (hp : ∀ P ∈ cs, Pers P) (hs : ∀ P ∈ ds, P ∈ cs) : Sep st (stars ds :: F) :=
  h.map fun o s e => stars_all fun P hP o' => stars_has (hp P (hs P hP)) (hs P hP) e o'

theorem Sep.snocStars (h : Sep st (stars cs :: P :: F)) : Sep st (stars (cs ++ [P]) :: F) :=
  (Sep.toStar (h.swap.map (Q := stars [P]) (fun o s e => ⟨fun _ => true, P.mono (fun x t e => by simpa [Hp.on] using e) (Hp.Le.refl _) e, trivial⟩)).swap).map (stars_append cs [P])

/-! ### Rules -/
variable {K : Kont} {v : AV} {vs ws : List AV} {o n : Nat} {ro : Bool}

theorem Sep.ld (h : Sep st cs) (i : Nat) (hi : cs[i]? = some (pt b (.cells ro vs))) (ho : vs[o]? = some v) (hk : K v st) : Ld st (.ptr b o) false n K := by
  simp [Ld, cells_of (h.atI hi).get, ho, hk]
theorem ldN_of {cs vs : List AV} {o : Nat} {K : List AV → Prop} (h1 : (cs.drop o).take vs.length = vs) (hk : K vs) : LdN cs o vs.length K := by
  induction vs generalizing o K with
  | nil => exact hk
  | cons v vs ih =>
    have h0 : cs[o]? = some v := by
      have := congrArg (·[0]?) h1
      simpa [List.getElem?_take] using this
    simp only [List.length_cons, LdN, h0, OptK_some]
    refine ih ?_ hk
    have := congrArg (List.drop 1) h1
    simpa [List.drop_take, List.drop_drop, Nat.add_comm] using this
theorem Sep.ldA (h : Sep st cs) (i : Nat) (hi : cs[i]? = some (pt b (.cells ro vs))) (ho : (vs.drop o).take n = ws) (hl : ws.length = n) (hk : K (.agg ws) st) : Ld st (.ptr b o) true n K := by
  subst hl
  simp only [Ld, cells_of (h.atI hi).get, OptK_some]
  exact ldN_of (K := fun vs => K (.agg vs) st) ho hk
theorem Sep.ldS (h : Sep st cs) (i : Nat) (hi : cs[i]? = some (sh b (.cells ro vs))) (ho : vs[o]? = some v) (hk : K v st) : Ld st (.ptr b o) false n K := by
  simp [Ld, cells_of (h.atI hi).getS, ho, hk]

theorem Sep.sto (h : Sep st cs) (i : Nat) (hi : cs[i]? = some (pt b (.cells false vs))) (hv : v.one = true) (ho : o < vs.length)
    (hk : ∀ st', Sep st' (cs.set i (pt b (.cells false (vs.set o v)))) → K (.tup []) st') : Sto st (.ptr b o) v 1 K :=
  sto_cell (h.atI hi).get hv ho (hk _ (h.setI hi _))
theorem Sep.stoA (h : Sep st cs) (i : Nat) (hi : cs[i]? = some (pt b (.cells false vs))) (hv : ws.all AV.one = true) (ho : o + ws.length ≤ vs.length)
    (hk : ∀ st', Sep st' (cs.set i (pt b (.cells false (writeAt vs o ws)))) → K (.tup []) st') : Sto st (.ptr b o) (.agg ws) ws.length K := by
  simp only [Sto, rwCells_of (h.atI hi).get, OptK_some, AV.cellsOk]
  exact ⟨trivial, hv, ho, hk _ (h.setI hi _)⟩
theorem Sep.new (h : Sep st F) (hk : ∀ b st', Sep st' (pt b (.cells false vs) :: F) → K (.ptr b 0) st') : New st vs K := hk _ _ (h.push _)
theorem Sep.psh {K : St → Prop} (h : Sep st F) (hk : ∀ st', Sep st' (pt st.hp.length k :: F) → K st') : Psh st k K := hk _ (h.push _)

/-! ### Loops over functions -/
/-- A function value calls its yield with these, one behind the other. 'P': what it needs, as long as it goes on. -/
def Iter (w0 : World) (fv : AV) (P : Prp) (items : List (List AV)) : Prop :=
  ∀ (i : Nat) (st : St) (F : List Prp) (C : Nat → Prp) (Stop : Prp) (Q : Kont), Sep st (C 0 :: P :: F) →
    (∀ (k : Nat) (st : St) (F' : List Prp) (h : k < items.length), Sep st (C k :: P :: F') → AYield Tryz.prog w0 i items[k] st fun r st' => (r = .bool true ∧ Sep st' (C (k + 1) :: P :: F')) ∨ (r = .bool false ∧ Sep st' (Stop :: F'))) →
    (∀ st', Sep st' (C items.length :: P :: F) ∨ Sep st' (Stop :: F) → Q (.tup []) st') → CalR w0 fv i st Q

/-- A loop's record in a round; behind a round that left it. -/
def lb (i : Nat) (al : ALoop) : Prp := lq i { al with st := .busy }
def le (i : Nat) (al : ALoop) (c : Code) : Prp := lq i { al with st := .done, pend := some c }
structure LoopOk (al : ALoop) : Prop where
  st : al.st = .ready
  pend : al.pend = none
theorem LoopOk.eq {al : ALoop} (h : LoopOk al) : ({ { al with st := .busy } with st := .ready, pend := none } : ALoop) = al := by
  obtain ⟨h1, h2⟩ := h; cases al; simp only at h1 h2; subst h1; subst h2; rfl
theorem Sep.rbeg {al : ALoop} {K : St → Prop} (h : Sep st cs) (ok : LoopOk al) (j : Nat) (hi : cs[j]? = some (lq i al)) (hk : ∀ st', Sep st' (cs.set j (lb i al)) → K st') : RBeg st i K :=
  rbeg_of (h.atI hi).getL ok.st (hk _ (.backI (List.getElem?_eq_some_iff.1 hi).1 ((h.atI hi).setL _)))
theorem Sep.rnorm {al : ALoop} {Q : Kont} (h : Sep st cs) (ok : LoopOk al) (j : Nat) (hi : cs[j]? = some (lb i al)) (hk : ∀ st', Sep st' (cs.set j (lq i al)) → Q (.bool true) st') : RNorm i Q st := by
  refine rnorm_of (h.atI hi).getL (hk _ ?_)
  have := (h.atI hi).setL { { al with st := .busy } with st := .ready, pend := none }
  rw [ok.eq] at this
  have e := ok.eq
  simp only at e ⊢
  rw [e]
  exact .backI (List.getElem?_eq_some_iff.1 hi).1 this
theorem Sep.rret {al : ALoop} {Q : Kont} (h : Sep st cs) (j : Nat) (hi : cs[j]? = some (lb i al)) (hk : ∀ st', Sep st' (cs.set j (le i al .ret)) → Q (.bool false) st') : RRet i Q st :=
  rret_of (h.atI hi).getL (hk _ (.backI (List.getElem?_eq_some_iff.1 hi).1 ((h.atI hi).setL _)))
theorem Sep.rexit {al : ALoop} {Q : Kont} {id : Nat} (h : Sep st cs) (j : Nat) (hi : cs[j]? = some (lb i al)) (hk : ∀ st', Sep st' (cs.set j (le i al (.exit id))) → Q (.bool false) st') : RExit i Q st id :=
  rexit_of (h.atI hi).getL (hk _ (.backI (List.getElem?_eq_some_iff.1 hi).1 ((h.atI hi).setL _)))
theorem Sep.aftNone {al : ALoop} {N R : St → Prop} {X G : Nat → St → Prop} (h : Sep st cs) (j : Nat) (hi : cs[j]? = some (lq i al)) (hb : al.st ≠ .busy) (hp : al.pend = none) (hk : ∀ st', Sep st' (cs.eraseIdx j) → N st') : AftR st i N R X G :=
  aftR_none (h.atI hi).getL hb hp (hk _ ((h.atI hi).setL _).tail)
theorem Sep.aftExit {al : ALoop} {N R : St → Prop} {X G : Nat → St → Prop} {id : Nat} (h : Sep st cs) (j : Nat) (hi : cs[j]? = some (lq i al)) (hb : al.st ≠ .busy) (hp : al.pend = some (.exit id)) (hk : ∀ st', Sep st' (cs.eraseIdx j) → X id st') : AftR st i N R X G :=
  aftR_exit (h.atI hi).getL hb hp (hk _ ((h.atI hi).setL _).tail)
theorem Sep.aftRet {al : ALoop} {N R : St → Prop} {X G : Nat → St → Prop} (h : Sep st cs) (j : Nat) (hi : cs[j]? = some (lq i al)) (hb : al.st ≠ .busy) (hp : al.pend = some .ret) (hk : ∀ st', Sep st' (cs.eraseIdx j) → R st') : AftR st i N R X G :=
  aftR_ret (h.atI hi).getL hb hp (hk _ ((h.atI hi).setL _).tail)

/-- **A RANGE OVER A FUNCTION.** 'C k': what holds ahead of the k-th round; 'Stop': behind a round that leaves it. -/
theorem Iter.run {w0 : World} {fv : AV} {P : Prp} {items : List (List AV)} (hit : Iter w0 fv P items) {al : ALoop} {st : St} {F : List Prp} {N R : St → Prop} {X G : Nat → St → Prop}
    (C : Nat → Prp) (Stop : Code → Prp) (h : Sep st (P :: C 0 :: F)) (h1 : al.st = .ready) (h2 : al.pend = none)
    (hround : ∀ (k : Nat) (s : St) (F' : List Prp) (al' : ALoop) (hal : al' = al) (ok : LoopOk al') (hk : k < items.length), Sep s (lq st.lp.length al' :: C k :: P :: F') → AYield Tryz.prog w0 st.lp.length items[k] s fun r s' =>
      (r = .bool true ∧ Sep s' (lq st.lp.length al' :: C (k + 1) :: P :: F')) ∨ (r = .bool false ∧ ∃ e, Sep s' (le st.lp.length al' e :: Stop e :: F')))
    (hN : ∀ s, Sep s (C items.length :: P :: F) → N s) (hR : ∀ s, Sep s (Stop .ret :: F) → R s) (hX : ∀ id s, Sep s (Stop (.exit id) :: F) → X id s) (hG : ∀ e s, Sep s (Stop e :: F) → e = .ret ∨ ∃ id, e = .exit id) :
    CalR w0 fv st.lp.length (pushLoop st al) fun _ st2 => AftR st2 st.lp.length N R X G := by
  refine hit st.lp.length _ F (fun k => star (lq st.lp.length al) (C k)) (ex fun e => star (lq st.lp.length { al with st := .done, pend := some e }) (Stop e)) _ ((h.pushL al).ord [0, 1]).toStar ?_ ?_
  · intro k s F' hk h
    refine AYield.mono (hround k s F' al rfl ⟨h1, h2⟩ hk h.ofStar) ?_
    rintro r s' (⟨rfl, h⟩ | ⟨rfl, e, h⟩)
    · exact .inl ⟨rfl, h.toStar⟩
    · exact .inr ⟨rfl, .toEx e h.toStar⟩
  · rintro s (h | h)
    · exact h.ofStar.aftNone 0 rfl (by rw [h1]; simp) h2 fun s h => hN s h
    · obtain ⟨e, h⟩ := h.ofEx
      have h := h.ofStar
      rcases hG e _ h.tail with rfl | ⟨id, rfl⟩
      · exact h.aftRet 0 rfl (by simp) rfl fun s h => hR s h
      · exact h.aftExit 0 rfl (by simp) rfl fun s h => hX id s h
/-- A function value that has something of its own as long as it runs. -/
def IterR (w0 : World) (fv : AV) (R0 P : Prp) (items : List (List AV)) : Prop :=
  ∀ (i : Nat) (st : St) (F : List Prp) (C : Nat → Prp) (Stop : Prp) (Q : Kont), Sep st (C 0 :: R0 :: P :: F) →
    (∀ (k : Nat) (st : St) (F' : List Prp) (h : k < items.length), Sep st (C k :: P :: F') → AYield Tryz.prog w0 i items[k] st fun r st' => (r = .bool true ∧ Sep st' (C (k + 1) :: P :: F')) ∨ (r = .bool false ∧ Sep st' (Stop :: F'))) →
    (∀ st', Sep st' (C items.length :: P :: F) ∨ Sep st' (Stop :: F) → Q (.tup []) st') → CalR w0 fv i st Q

/-- The same, where the function has something of its own. 'C k': what holds ahead of the k-th round; 'Stop': behind a round that leaves it. -/
theorem IterR.run {w0 : World} {fv : AV} {R0 P : Prp} {items : List (List AV)} (hit : IterR w0 fv R0 P items) {al : ALoop} {st : St} {F : List Prp} {N R : St → Prop} {X G : Nat → St → Prop}
    (C : Nat → Prp) (Stop : Code → Prp) (h : Sep st (R0 :: P :: C 0 :: F)) (h1 : al.st = .ready) (h2 : al.pend = none)
    (hround : ∀ (k : Nat) (s : St) (F' : List Prp) (al' : ALoop) (hal : al' = al) (ok : LoopOk al') (hk : k < items.length), Sep s (lq st.lp.length al' :: C k :: P :: F') → AYield Tryz.prog w0 st.lp.length items[k] s fun r s' =>
      (r = .bool true ∧ Sep s' (lq st.lp.length al' :: C (k + 1) :: P :: F')) ∨ (r = .bool false ∧ ∃ e, Sep s' (le st.lp.length al' e :: Stop e :: F')))
    (hN : ∀ s, Sep s (C items.length :: P :: F) → N s) (hR : ∀ s, Sep s (Stop .ret :: F) → R s) (hX : ∀ id s, Sep s (Stop (.exit id) :: F) → X id s) (hG : ∀ e s, Sep s (Stop e :: F) → e = .ret ∨ ∃ id, e = .exit id) :
    CalR w0 fv st.lp.length (pushLoop st al) fun _ st2 => AftR st2 st.lp.length N R X G := by
  refine hit st.lp.length _ F (fun k => star (lq st.lp.length al) (C k)) (ex fun e => star (lq st.lp.length { al with st := .done, pend := some e }) (Stop e)) _ ((h.pushL al).ord [0, 2]).toStar ?_ ?_
  · intro k s F' hk h
    refine AYield.mono (hround k s F' al rfl ⟨h1, h2⟩ hk h.ofStar) ?_
    rintro r s' (⟨rfl, h⟩ | ⟨rfl, e, h⟩)
    · exact .inl ⟨rfl, h.toStar⟩
    · exact .inr ⟨rfl, .toEx e h.toStar⟩
  · rintro s (h | h)
    · exact h.ofStar.aftNone 0 rfl (by rw [h1]; simp) h2 fun s h => hN s h
    · obtain ⟨e, h⟩ := h.ofEx
      have h := h.ofStar
      rcases hG e _ h.tail with rfl | ⟨id, rfl⟩
      · exact h.aftRet 0 rfl (by simp) rfl fun s h => hR s h
      · exact h.aftExit 0 rfl (by simp) rfl fun s h => hX id s h
end
end Go.Ab
