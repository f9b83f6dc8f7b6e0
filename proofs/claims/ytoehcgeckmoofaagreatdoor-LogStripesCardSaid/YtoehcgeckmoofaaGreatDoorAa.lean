/- Abstract values, abstract heaps, and how they stand to the model's worlds. -/
import Derived.RangeFuncIn
import Derived.RangeFuncLeaves
import Derived.RangeFuncCalls
import Derived.Below
import Derived.OrdersIn
import Derived.KernelRfl
import Derived.Laws.CopyRow
import Derived.Laws.Cells
import Derived.Laws.Entries
import Derived.ChangeKeysEq
set_option linter.unusedVariables false
set_option linter.unusedSimpArgs false
namespace Go.Ab
open Go Go.RowKit

/-- Abstract values. -/
inductive AV where
  | any
  | bool (b : Bool)
  | int (k : IntKind) (n : Int)
  | str (s : List UInt8)
  | nilp
  | ptr (b o : Nat)
  | nils
  | slice (b o len cap : Nat) (ex : Bool) (esz : Nat)
  | nilm
  | map (b : Nat)
  | nilf
  | func (f : FuncId) (first cap : List AV)
  | yield (i : Nat)
  | nilIface
  | iface
  | agg (cs : List AV)
  | tup (cs : List AV)
  deriving Inhabited

/-- How an abstract heap lies in a real one: of each block the real block, where it begins in it and how many cells there are from there on; of each loop over a function the real record. -/
structure Ren where
  blk : Nat → Option (Nat × Nat × Nat)
  loop : Nat → Option Nat

structure Ren.le (ρ ρ' : Ren) : Prop where
  blk : ∀ b x, ρ.blk b = some x → ρ'.blk b = some x
  loop : ∀ i l, ρ.loop i = some l → ρ'.loop i = some l

theorem Ren.le.refl (ρ : Ren) : ρ.le ρ := ⟨fun _ _ h => h, fun _ _ h => h⟩
theorem Ren.le.trans {a b c : Ren} (h : a.le b) (k : b.le c) : a.le c := ⟨fun x y e => k.blk x y (h.blk x y e), fun x y e => k.loop x y (h.loop x y e)⟩

/-- An abstract value stands for a real one. -/
inductive VRel (ρ : Ren) : AV → Value → Prop
  | any (v) : VRel ρ .any v
  | bool (b) : VRel ρ (.bool b) (.bool b)
  | int (k n) : VRel ρ (.int k n) (.int k n)
  | str (s : ByteArray) : VRel ρ (.str s.data.toList) (.string s)
  | nilp : VRel ρ .nilp (.pointer none)
  | ptr {b o rb ro rs} : ρ.blk b = some (rb, ro, rs) → VRel ρ (.ptr b o) (.pointer (some ⟨rb, ro + o, none⟩))
  | nils : VRel ρ .nils (.slice none 0 0)
  | slice {b o len cap ex esz rb ro rs a cap'} : ρ.blk b = some (rb, ro, rs) → len ≤ cap → cap ≤ cap' → (ex = true → cap' = cap) →
      (cap' ≠ 0 → a = (⟨rb, ro + o, none⟩ : Addr)) → (ex = false → o + cap' * esz ≤ rs) → VRel ρ (.slice b o len cap ex esz) (.slice (some a) len cap')
  | nilm : VRel ρ .nilm (.map none)
  | map {b rb ro rs} : ρ.blk b = some (rb, ro, rs) → VRel ρ (.map b) (.map (some rb))
  | nilf : VRel ρ .nilf .nilFunc
  | func {f first cap first' cap'} : first.length = first'.toList.length → (∀ i, i < first.length → VRel ρ (first.getD i .any) (first'.toList.getD i undef)) →
      cap.length = cap'.toList.length → (∀ i, i < cap.length → VRel ρ (cap.getD i .any) (cap'.toList.getD i undef)) → VRel ρ (.func f first cap) (.func (.func f) first' cap')
  | yield {i l} : ρ.loop i = some l → VRel ρ (.yield i) (.func (.yield l) #[] #[])
  | nilIface : VRel ρ .nilIface .nilIface
  | iface (t v) : VRel ρ .iface (.iface t v)
  | agg {cs : List AV} {vs : Array Value} : cs.length = vs.toList.length → (∀ i, i < cs.length → VRel ρ (cs.getD i .any) (vs.toList.getD i undef)) → VRel ρ (.agg cs) (.agg vs)
  | tup {cs : List AV} {vs : Array Value} : cs.length = vs.toList.length → (∀ i, i < cs.length → VRel ρ (cs.getD i .any) (vs.toList.getD i undef)) → VRel ρ (.tup cs) (.tuple vs)

theorem VRel.mono {ρ ρ' : Ren} (h : ρ.le ρ') {a : AV} {v : Value} (r : VRel ρ a v) : VRel ρ' a v := by
  induction r with
  | any v => exact .any v
  | bool b => exact .bool b
  | int k n => exact .int k n
  | str s => exact .str s
  | nilp => exact .nilp
  | ptr e => exact .ptr (h.blk _ _ e)
  | nils => exact .nils
  | slice e a b c d f => exact .slice (h.blk _ _ e) a b c d f
  | nilm => exact .nilm
  | map e => exact .map (h.blk _ _ e)
  | nilf => exact .nilf
  | func a _ b _ ih1 ih2 => exact .func a ih1 b ih2
  | yield e => exact .yield (h.loop _ _ e)
  | nilIface => exact .nilIface
  | iface t v => exact .iface t v
  | agg a _ ih => exact .agg a ih
  | tup a _ ih => exact .tup a ih

/-- Lists of values. -/
structure VRels (ρ : Ren) (as : List AV) (vs : List Value) : Prop where
  len : as.length = vs.length
  at_ : ∀ i, i < as.length → VRel ρ (as.getD i .any) (vs.getD i undef)

theorem VRels.mono {ρ ρ' : Ren} (h : ρ.le ρ') {as : List AV} {vs : List Value} (r : VRels ρ as vs) : VRels ρ' as vs := ⟨r.len, fun i hi => (r.at_ i hi).mono h⟩
theorem VRels.nil {ρ : Ren} : VRels ρ [] [] := ⟨rfl, fun i hi => by simp at hi⟩
theorem VRels.cons {ρ : Ren} {a as v vs} (h : VRel ρ a v) (t : VRels ρ as vs) : VRels ρ (a :: as) (v :: vs) :=
  ⟨by simp [t.len], fun i hi => by
    cases i with
    | zero => simpa using h
    | succ i => simpa using t.at_ i (by simpa using hi)⟩
theorem VRels.append {ρ : Ren} {as bs : List AV} {vs ws : List Value} (h : VRels ρ as vs) (k : VRels ρ bs ws) : VRels ρ (as ++ bs) (vs ++ ws) :=
  ⟨by simp [h.len, k.len], fun i hi => by
    by_cases hlt : i < as.length
    · have := h.at_ i hlt
      simpa [List.getD, List.getElem?_append_left hlt, List.getElem?_append_left (h.len ▸ hlt)] using this
    · have := k.at_ (i - as.length) (by simp at hi; omega)
      simp only [List.getD, List.getElem?_append_right (Nat.le_of_not_lt hlt), List.getElem?_append_right (h.len ▸ Nat.le_of_not_lt hlt), ← h.len]
      simpa [List.getD] using this⟩
theorem VRels.take {ρ : Ren} {as : List AV} {vs : List Value} (h : VRels ρ as vs) (n : Nat) : VRels ρ (as.take n) (vs.take n) :=
  ⟨by simp [h.len], fun i hi => by
    have hi' : i < n ∧ i < as.length := by simp at hi; omega
    have := h.at_ i hi'.2
    simpa [List.getD, List.getElem?_take, hi'.1] using this⟩
theorem VRels.drop {ρ : Ren} {as : List AV} {vs : List Value} (h : VRels ρ as vs) (n : Nat) : VRels ρ (as.drop n) (vs.drop n) :=
  ⟨by simp [h.len], fun i hi => by
    have := h.at_ (n + i) (by simp at hi; omega)
    simpa [List.getD, List.getElem?_drop] using this⟩
theorem VRels.set {ρ : Ren} {as : List AV} {vs : List Value} (h : VRels ρ as vs) (n : Nat) {a v} (k : VRel ρ a v) : VRels ρ (as.set n a) (vs.set n v) :=
  ⟨by simp [h.len], fun i hi => by
    have hi' : i < as.length := by simpa using hi
    have hv : i < vs.length := h.len ▸ hi'
    by_cases e : n = i
    · subst e; simpa [List.getD, hi', hv] using k
    · have := h.at_ i hi'
      simpa [List.getD, List.getElem?_set, e] using this⟩
theorem VRels.nil_inv {ρ : Ren} {vs : List Value} (h : VRels ρ [] vs) : vs = [] := by
  have := h.len; cases vs <;> simp_all
theorem VRels.cons_inv {ρ : Ren} {a as} {vs : List Value} (h : VRels ρ (a :: as) vs) : ∃ v vs', vs = v :: vs' ∧ VRel ρ a v ∧ VRels ρ as vs' := by
  cases vs with
  | nil => have := h.len; simp at this
  | cons v vs' =>
    refine ⟨v, vs', rfl, by simpa using h.at_ 0 (by simp), ⟨by simpa using h.len, fun i hi => ?_⟩⟩
    simpa using h.at_ (i + 1) (by simpa using hi)

theorem VRel.agg_iff {ρ : Ren} {cs : List AV} {vs : Array Value} : VRel ρ (.agg cs) (.agg vs) ↔ VRels ρ cs vs.toList :=
  ⟨fun h => by cases h with | agg a b => exact ⟨a, b⟩, fun h => .agg h.len h.at_⟩
theorem VRel.tup_iff {ρ : Ren} {cs : List AV} {vs : Array Value} : VRel ρ (.tup cs) (.tuple vs) ↔ VRels ρ cs vs.toList :=
  ⟨fun h => by cases h with | tup a b => exact ⟨a, b⟩, fun h => .tup h.len h.at_⟩
theorem VRel.func_iff {ρ : Ren} {f g : FuncId} {first cap : List AV} {first' cap' : Array Value} : VRel ρ (.func f first cap) (.func (.func g) first' cap') ↔ f = g ∧ VRels ρ first first'.toList ∧ VRels ρ cap cap'.toList :=
  ⟨fun h => by cases h with | func a b c d => exact ⟨rfl, ⟨a, b⟩, ⟨c, d⟩⟩, fun ⟨e, h, k⟩ => e ▸ .func h.len h.at_ k.len k.at_⟩

/-- An abstract value that surely stands for one cell. -/
def AV.one : AV → Bool
  | .any | .agg _ | .tup _ => false
  | _ => true

theorem VRel.one {ρ : Ren} {a : AV} {v : Value} (h : VRel ρ a v) (ha : a.one = true) : v.oneCell' = true := by
  cases h <;> simp_all [AV.one, Value.oneCell']

/-- The cells of a value. -/
def AV.cells : AV → List AV
  | .agg cs => cs
  | v => [v]

theorem VRel.cells {ρ : Ren} {a : AV} {v : Value} (h : VRel ρ a v) (ha : a.one = true ∨ ∃ cs, a = .agg cs) : VRels ρ a.cells v.cells.toList := by
  rcases ha with ha | ⟨cs, rfl⟩
  · have : a.cells = [a] := by cases a <;> simp_all [AV.one, AV.cells]
    have hv : v.cells = #[v] := by have := h.one ha; cases v <;> simp_all [Value.oneCell', Value.cells]
    rw [this, hv]; exact .cons h .nil
  · cases h with
    | agg a b => exact VRel.agg_iff.1 (.agg a b)

/-- What a constant of the text stands for. -/
def absFlat : Value → AV
  | .bool b => .bool b
  | .int k n => .int k n
  | .string s => .str s.data.toList
  | .pointer none => .nilp
  | .slice none 0 0 => .nils
  | .map none => .nilm
  | .nilFunc => .nilf
  | .nilIface => .nilIface
  | _ => .any
def absVal : Value → AV
  | .agg cs => .agg (cs.toList.map absFlat)
  | .tuple cs => .tup (cs.toList.map absFlat)
  | v => absFlat v

theorem absFlat_rel (ρ : Ren) (v : Value) : VRel ρ (absFlat v) v := by
  unfold absFlat; split <;> first | exact .any _ | constructor
theorem absFlats_rel (ρ : Ren) (vs : List Value) : VRels ρ (vs.map absFlat) vs := by
  induction vs with
  | nil => exact .nil
  | cons v vs ih => exact .cons (absFlat_rel ρ v) ih
theorem absVal_rel (ρ : Ren) (v : Value) : VRel ρ (absVal v) v := by
  unfold absVal; split
  · exact VRel.agg_iff.2 (absFlats_rel ρ _)
  · exact VRel.tup_iff.2 (absFlats_rel ρ _)
  · exact absFlat_rel ρ v

/-! ### Temporaries -/
structure TRel (ρ : Ren) (t : List AV) (tmps : Array Value) : Prop where
  len : t.length = tmps.size
  at_ : ∀ i, VRel ρ (t.getD i .any) (tmps.getD i undef)

theorem TRel.mono {ρ ρ' : Ren} (h : ρ.le ρ') {t tmps} (r : TRel ρ t tmps) : TRel ρ' t tmps := ⟨r.len, fun i => (r.at_ i).mono h⟩

def aput (t : List AV) (d : Option Tmp) (v : AV) : List AV :=
  match d with
  | some d => t.set d v
  | none => t

theorem TRel.set {ρ : Ren} {t tmps} (h : TRel ρ t tmps) (d : Nat) {a v} (k : VRel ρ a v) : TRel ρ (t.set d a) (tmps.setIfInBounds d v) :=
  ⟨by simp [h.len], fun i => by
    by_cases hi : i < t.length
    · have hi' : i < tmps.size := h.len ▸ hi
      by_cases e : d = i
      · subst e; simpa [List.getD, Array.getD, hi, hi'] using k
      · have := h.at_ i
        simpa [List.getD, Array.getD, hi', List.getElem?_set, e, Array.getElem_setIfInBounds] using this
    · have hi' : ¬ i < tmps.size := h.len ▸ hi
      have : (t.set d a).getD i .any = .any := by simp [List.getD, hi]
      rw [this]; exact .any _⟩

theorem TRel.put {ρ : Ren} {t} {a : Act} (h : TRel ρ t a.tmps) (d : Option Tmp) {x v} (k : VRel ρ x v) : TRel ρ (aput t d x) (a.put d v).tmps := by
  cases d with
  | none => exact h
  | some d => exact h.set d k

def aev (t : List AV) : Operand → AV
  | .tmp i => t.getD i .any
  | .const v => absVal v
  | .global _ => .any
  | .func f => .func f [] []

theorem aev_rel {ρ : Ren} {t} {a : Act} (h : TRel ρ t a.tmps) (o : Operand) : VRel ρ (aev t o) (a.eval o) := by
  cases o with
  | tmp i => exact h.at_ i
  | const v => exact absVal_rel ρ v
  | global g => exact .any _
  | func f => exact VRel.func_iff.2 ⟨rfl, .nil, .nil⟩

theorem aevs_rel {ρ : Ren} {t} {a : Act} (h : TRel ρ t a.tmps) (os : List Operand) : VRels ρ (os.map (aev t)) (os.map a.eval) := by
  induction os with
  | nil => exact .nil
  | cons o os ih => exact .cons (aev_rel h o) ih

/-! ### Heaps -/
inductive ABlk where
  | cells (ro : Bool) (cs : List AV)
  | amap (es : List (AV × AV)) (bs : List Nat) (clock : Nat)
  | iter (m : Option Nat) (since : Nat) (seen : List Nat) (last : Nat)
  | dead
  deriving Inhabited

structure ALoop where
  st : LoopState
  pend : Option Code
  tmps : List AV
  params : Array Tmp
  assign : Code
  body : Code

structure St where
  hp : List ABlk
  lp : List ALoop

/-- A block of the abstract heap, and what lies in the real one at its place. -/
def BRel (base : Nat) (ρ : Ren) (w : World) : ABlk → Nat × Nat × Nat → Prop
  | .cells ro cs, (rb, o, rs) => ∃ c elem fz, w.heap[rb]? = some (.cells c elem fz) ∧ cs.length ≤ rs ∧ o + rs ≤ c.size ∧
      VRels ρ cs ((c.toList.drop o).take cs.length) ∧ (ro = false → base ≤ rb ∧ fz = (0, 0))
  | .amap es bs clock, (rb, _, _) => ∃ (ents : Array MapEntry), w.heap[rb]? = some (.map ents clock) ∧ base ≤ rb ∧
      VRels ρ (es.map (·.1)) (ents.toList.map (·.key)) ∧ VRels ρ (es.map (·.2)) (ents.toList.map (·.val)) ∧ ents.toList.map (·.born) = bs
  | .iter m since seen last, (rb, ro, _) => ∃ (mr : Option Nat), w.heap[rb]? = some (.mapIter mr since seen.toArray last) ∧ base ≤ rb ∧ ro = 0 ∧
      (m = none → mr = none) ∧ ∀ b, m = some b → ∃ x, ρ.blk b = some x ∧ mr = some x.1
  | .dead, _ => True

def ABlk.rw : ABlk → Bool
  | .cells ro _ => !ro
  | .amap .. => true
  | .iter .. => true
  | .dead => false

def LRel (ρ : Ren) (w : World) (l : ALoop) (r : Nat) : Prop :=
  ∃ fn tmps defers, w.heap[r]? = some (.loop { state := l.st, pending := l.pend, fn := fn, tmps := tmps, params := l.params, assign := l.assign, body := l.body, defers := defers }) ∧ TRel ρ l.tmps tmps

/-- The abstract state lies in the real world, which below its base is as it was; what is pinned is there. -/
structure Sim (w0 : World) (pins : List (Nat × Obj)) (ρ : Ren) (st : St) (w : World) : Prop where
  below : Below w0.heap.size w0 w
  dom : ∀ b x, ρ.blk b = some x → b < st.hp.length ∧ x.1 < w.heap.size
  blk : ∀ b k, st.hp[b]? = some k → k ≠ .dead → ∃ x, ρ.blk b = some x ∧ BRel w0.heap.size ρ w k x
  inj : ∀ b b' k k' x x', st.hp[b]? = some k → st.hp[b']? = some k' → k.rw = true → k' ≠ .dead → b ≠ b' → ρ.blk b = some x → ρ.blk b' = some x' → x.1 ≠ x'.1
  ldom : ∀ i l, ρ.loop i = some l → i < st.lp.length ∧ l < w.heap.size
  loop : ∀ i l, st.lp[i]? = some l → ∃ r, ρ.loop i = some r ∧ w0.heap.size ≤ r ∧ LRel ρ w l r
  linj : ∀ i j r, ρ.loop i = some r → ρ.loop j = some r → i = j
  pin : ∀ p ∈ pins, w.heap[p.1]? = some p.2 ∧ w0.heap.size ≤ p.1
  pout : ∀ p ∈ pins, ∀ b k x, st.hp[b]? = some k → k.rw = true → ρ.blk b = some x → x.1 ≠ p.1
  lout : ∀ i r, ρ.loop i = some r → ∀ p ∈ pins, r ≠ p.1
  pnd : (pins.map (·.1)).Nodup

end Go.Ab
