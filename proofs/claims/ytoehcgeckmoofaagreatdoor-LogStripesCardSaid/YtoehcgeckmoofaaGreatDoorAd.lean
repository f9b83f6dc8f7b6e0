/- What each operation does to the abstract state: predicates in the style of 'what must hold behind it'. -/
import Derived.Test.YtoehcgeckmoofaaGreatDoorAc
set_option linter.unusedVariables false
set_option linter.unusedSimpArgs false
namespace Go.Ab
open Go Go.RowKit

abbrev Kont := AV → St → Prop

/-- A two-way fork on a Bool. -/
def Br (b : Bool) (X Y : Prop) : Prop := match b with | true => X | false => Y
theorem Br_iff {b X Y} : Br b X Y ↔ (b = true → X) ∧ (b = false → Y) := by cases b <;> simp [Br]
@[simp] theorem Br_true {X Y} : Br true X Y = X := rfl
@[simp] theorem Br_false {X Y} : Br false X Y = Y := rfl

/-- A static condition, reckoned by the kernel. -/
def Chk (b : Bool) (X : Prop) : Prop := match b with | true => X | false => False
theorem Chk_iff {b X} : Chk b X ↔ b = true ∧ X := by cases b <;> simp [Chk]
@[simp] theorem Chk_true {X} : Chk true X = X := rfl

def OptK {α : Type} (o : Option α) (K : α → Prop) : Prop := match o with | some v => K v | none => False
@[simp] theorem OptK_some {α} (v : α) (K : α → Prop) : OptK (some v) K = K v := rfl
theorem OptK_iff {α} {o : Option α} {K : α → Prop} : OptK o K ↔ ∃ v, o = some v ∧ K v := by cases o <;> simp [OptK]

def AsBool (v : AV) (K : Bool → Prop) : Prop := match v with | .bool b => K b | _ => False
@[simp] theorem AsBool_bool (b) (K : Bool → Prop) : AsBool (.bool b) K = K b := rfl

/-- A guard: of an operation that may itself have been skipped ('nested'), or not. -/
def Gd (nested : Bool) (v : AV) (F : Bool → Prop) (S : Prop) : Prop :=
  match nested with
  | false => AsBool v F
  | true => match v with
    | .bool b => F b
    | .tup _ => S
    | _ => False
theorem Gd_elim {n v F S} (h : Gd n v F S) : (∃ b, v = .bool b ∧ F b) ∨ (∃ cs, v = .tup cs ∧ S ∧ n = true) := by
  cases n with
  | false => cases v <;> first | exact h.elim | exact .inl ⟨_, rfl, h⟩
  | true => cases v <;> first | exact h.elim | exact .inl ⟨_, rfl, h⟩ | exact .inr ⟨_, rfl, h, rfl⟩
/-- A guard looked at: what was skipped lies as '.tup []'. -/
def Gs (nested : Bool) (v : AV) (F : Bool → Prop) (S : Prop) : Prop :=
  match nested with
  | false => AsBool v F
  | true => match v with
    | .bool b => F b
    | .tup [] => S
    | _ => False
theorem Gs_elim {n v F S} (h : Gs n v F S) : (∃ b, v = .bool b ∧ F b) ∨ (v = .tup [] ∧ S ∧ n = true) := by
  cases n with
  | false => cases v <;> first | exact h.elim | exact .inl ⟨_, rfl, h⟩
  | true =>
    cases v with
    | bool b => exact .inl ⟨_, rfl, h⟩
    | tup cs => cases cs with
      | nil => exact .inr ⟨rfl, h, rfl⟩
      | cons => exact h.elim
    | _ => exact h.elim
theorem set_getD {t : List AV} {d : Nat} {v : AV} (h : t.getD d .any = v) : t.set d v = t := by
  subst h
  by_cases hlt : d < t.length
  · simp [List.getD, hlt]
  · exact List.set_eq_of_length_le (Nat.le_of_not_lt hlt)
theorem Gs_bool {n b S} {F : Bool → Prop} (h : F b) : Gs n (.bool b) F S := by cases n <;> exact h
@[simp] theorem Gs_bool_eq {n b S} {F : Bool → Prop} : Gs n (.bool b) F S = F b := by cases n <;> rfl
theorem Gd_bool {n b S} {F : Bool → Prop} (h : F b) : Gd n (.bool b) F S := by cases n <;> exact h
theorem Gd_tup {cs S} {F : Bool → Prop} (h : S) : Gd true (.tup cs) F S := h

/-- The cells of a value that is known well enough. -/
def AV.cellsOk : AV → Option (List AV)
  | .any => none
  | .agg cs => some cs
  | v => some [v]

def AV.pick : Bool → AV → AV → AV
  | b, .bool p, .bool q => .bool (bif b then p else q)
  | true, x, _ => x
  | false, _, y => y

/-! ### Types -/
def tyAgg (P : Program) (t : TypeId) : Option Bool :=
  match P.underlying t with
  | some (.struct _) | some (.array _ _) => some true
  | some _ => some false
  | none => none
def tySize (P : Program) (t : TypeId) : Nat := ((P.info? t).map (·.size)).getD 0
def tyHas (P : Program) (t : TypeId) : Bool := (P.info? t).isSome
def tyZero (P : Program) (t : TypeId) : Option AV := ((P.info? t).bind (·.zero)).map absVal

/-! ### Memory -/
def LdN (cs : List AV) (o : Nat) : Nat → (List AV → Prop) → Prop
  | 0, K => K []
  | n + 1, K => OptK cs[o]? fun v => LdN cs (o + 1) n fun vs => K (v :: vs)

def Cells (st : St) (b : Nat) (K : List AV → Prop) : Prop := OptK (st.cells b) K

/-- A load: one cell, or an aggregate of n. -/
def Ld (st : St) (a : AV) (agg : Bool) (n : Nat) (K : Kont) : Prop :=
  match a with
  | .ptr b o => OptK (st.cells b) fun cs => match agg with | true => LdN cs o n fun vs => K (.agg vs) st | false => OptK cs[o]? fun v => K v st
  | _ => False

def Sto (st : St) (a v : AV) (n : Nat) (K : Kont) : Prop :=
  match a with
  | .ptr b o => OptK (st.rwCells b) fun cs => OptK v.cellsOk fun vs => vs.length = n ∧ vs.all AV.one = true ∧ o + n ≤ cs.length ∧ K (.tup []) (st.setB b (.cells false (writeAt cs o vs)))
  | _ => False

def New (st : St) (cs : List AV) (K : Kont) : Prop := K (.ptr st.hp.length 0) (st.push (.cells false cs))

def NilC (v : AV) (K : AV → Prop) : Prop :=
  match v with
  | .ptr _ _ | .func _ _ _ | .yield _ | .map _ => K v
  | _ => False

def Faddr (v : AV) (off : Nat) (K : AV → Prop) : Prop :=
  match v with
  | .ptr b o => K (.ptr b (o + off))
  | _ => False

def Fld (v : AV) (agg : Bool) (off n : Nat) (K : AV → Prop) : Prop :=
  match v with
  | .agg cs => match agg with | true => LdN cs off n fun vs => K (.agg vs) | false => OptK cs[off]? K
  | _ => False

def Iaddr (x i : AV) (arr : Option Nat) (esz : Nat) (K : AV → Prop) : Prop :=
  match arr, x, i with
  | none, .slice b o len _ _ e, .int _ j => 0 ≤ j ∧ j < (len : Int) ∧ e = esz ∧ K (.ptr b (o + j.toNat * esz))
  | some n, .ptr b o, .int _ j => 0 ≤ j ∧ j < (n : Int) ∧ K (.ptr b (o + j.toNat * esz))
  | _, _, _ => False

/-- A byte of a string. -/
def Sidx (x i : AV) (K : AV → Prop) : Prop :=
  match x, i with
  | .str s, .int _ j => 0 ≤ j ∧ OptK s[j.toNat]? fun c => K (.int .u8 c.toNat)
  | _, _ => False

def Ext (v : AV) (i : Nat) (K : AV → Prop) : Prop :=
  match v with
  | .tup cs => OptK cs[i]? K
  | _ => False

/-! ### Arithmetic -/
inductive TK where
  | int | str | bool | ptr | func | slice | iface | other
  deriving DecidableEq

def tyKind (P : Program) (t : TypeId) : TK :=
  match P.underlying t with
  | some (.int _) => .int
  | some .string => .str
  | some .bool => .bool
  | some (.pointer _) => .ptr
  | some (.func ..) => .func
  | some (.slice _) => .slice
  | some (.interface _) => .iface
  | _ => .other

def bin (tk : TK) (op : BinOp) (x y : AV) : Option AV :=
  match tk, op, x, y with
  | .int, .add, .int k a, .int k' b => if k = k' then some (.int k (k.wrap (a + b))) else none
  | .int, .sub, .int k a, .int k' b => if k = k' then some (.int k (k.wrap (a - b))) else none
  | .int, .mul, .int k a, .int k' b => if k = k' then some (.int k (k.wrap (a * b))) else none
  | .int, .quo, .int k a, .int k' b => if k = k' ∧ b ≠ 0 then some (.int k (k.wrap (a.tdiv b))) else none
  | .int, .rem, .int k a, .int k' b => if k = k' ∧ b ≠ 0 then some (.int k (a.tmod b)) else none
  | .int, .and, .int k a, .int k' b => if k = k' then some (.int k (k.wrap (BitVec.ofInt k.bits a &&& BitVec.ofInt k.bits b).toNat)) else none
  | .int, .shr, .int k a, .int _ b => if 0 ≤ b then some (.int k (a.fdiv (2 ^ (min b.toNat k.bits)))) else none
  | .int, .eql, .int k a, .int k' b => if k = k' then some (.bool (decide (a = b))) else none
  | .int, .neq, .int k a, .int k' b => if k = k' then some (.bool (!decide (a = b))) else none
  | .int, .lss, .int k a, .int k' b => if k = k' then some (.bool (decide (a < b))) else none
  | .int, .leq, .int k a, .int k' b => if k = k' then some (.bool (decide (a ≤ b))) else none
  | .int, .gtr, .int k a, .int k' b => if k = k' then some (.bool (decide (b < a))) else none
  | .int, .geq, .int k a, .int k' b => if k = k' then some (.bool (decide (b ≤ a))) else none
  | .str, .add, .str a, .str b => if a.length + b.length ≤ 2 ^ 62 then some (.str (a ++ b)) else none
  | .str, .eql, .str a, .str b => some (.bool (decide (a = b)))
  | .str, .neq, .str a, .str b => some (.bool (!decide (a = b)))
  | .str, .lss, .str a, .str b => some (.bool (Op.bytesLess a b))
  | .str, .leq, .str a, .str b => some (.bool (Op.bytesLess a b || decide (a = b)))
  | .bool, .eql, .bool a, .bool b => some (.bool (a == b))
  | .bool, .neq, .bool a, .bool b => some (.bool (!(a == b)))
  | .ptr, .eql, .nilp, .nilp => some (.bool true)
  | .ptr, .neq, .nilp, .nilp => some (.bool false)
  | .ptr, .eql, .ptr _ _, .nilp => some (.bool false)
  | .ptr, .neq, .ptr _ _, .nilp => some (.bool true)
  | .func, .eql, .func _ _ _, .nilf => some (.bool false)
  | .func, .eql, .nilf, .nilf => some (.bool true)
  | .slice, .eql, .slice _ _ _ _ _ _, .nils => some (.bool false)
  | .slice, .eql, .nils, .nils => some (.bool true)
  | .iface, .neq, .iface, .nilIface => some (.bool true)
  | .iface, .neq, .nilIface, .nilIface => some (.bool false)
  | _, _, _, _ => none

def binOk (tk : TK) (y : Operand) : Bool :=
  match tk, y with
  | .iface, .const _ => true
  | .iface, _ => false
  | _, _ => true

def un (op : UnOp) (x : AV) : Option AV :=
  match op, x with
  | .not, .bool b => some (.bool (!b))
  | .neg, .int k n => some (.int k (k.wrap (0 - n)))
  | _, _ => none

/-- Parts written into an aggregate. -/
def fillAV (place : Nat → Option (Nat × Nat)) (cells : List AV) : List (Nat × AV) → Option (List AV)
  | [] => some cells
  | (i, v) :: rest =>
    match place i, v.cellsOk with
    | some (off, size), some vs => if vs.length ≠ size || off + vs.length > cells.length then none else fillAV place (writeAt cells off vs) rest
    | _, _ => none

def places (P : Program) (fields : Array Field) : List (Nat × Nat) := fields.toList.map fun f => (f.offset, tySize P f.type)

def zeroRow (z : List AV) (n : Nat) : List AV := (List.range n).map fun i => z.getD (i % z.length) .any

/-! ### Slices -/
def AV.len? : AV → Option Nat
  | .nils => some 0
  | .slice _ _ len _ _ _ => some len
  | .str s => some s.length
  | _ => none

/-- 'x[lo:hi]' of a string. -/
def sliceStr (s : List UInt8) (lo hi : Int) : Option AV :=
  if 0 ≤ lo ∧ lo ≤ hi ∧ hi ≤ s.length then some (.str ((s.take hi.toNat).drop lo.toNat)) else none

/-- 'x[lo:hi]', 'x[lo:hi:max]' of a slice of elements of esz cells. -/
def sliceSl (x : AV) (esz : Nat) (lo : Int) (hi mx : Option Int) : Option AV :=
  match x with
  | .nils => if lo = 0 ∧ hi.getD 0 = 0 ∧ mx.getD 0 = 0 then some .nils else none
  | .slice b o len cap ex e =>
    let h := hi.getD len
    if e = esz ∧ 0 ≤ lo ∧ lo ≤ h ∧ h ≤ cap then
      match mx with
      | none => some (.slice b (o + lo.toNat * esz) (h - lo).toNat (cap - lo.toNat) ex esz)
      | some m => if h ≤ m ∧ m ≤ cap then some (.slice b (o + lo.toNat * esz) (h - lo).toNat (m - lo).toNat true esz) else none
    else none
  | _ => none

def optInt (v : Option AV) : Option (Option Int) :=
  match v with
  | none => some none
  | some (.int _ n) => some (some n)
  | _ => none

/-! ### Maps -/
def AV.keyEq : AV → AV → Option Bool
  | .int k a, .int k' b => if k = k' then some (decide (a = b)) else none
  | .str a, .str b => some (decide (a = b))
  | _, _ => none

/-- The first entry whose key is so. none: a key that cannot be compared. -/
def mfind (key : AV) : List (AV × AV) → Option (Option AV)
  | [] => some none
  | (k, v) :: es => match AV.keyEq key k with
    | some true => some (some v)
    | some false => mfind key es
    | none => none
def mput (key val : AV) : List (AV × AV) → List (AV × AV)
  | [] => [(key, val)]
  | (k, v) :: es => match AV.keyEq key k with
    | some true => (key, val) :: es
    | _ => (k, v) :: mput key val es
def mdel (key : AV) : List (AV × AV) → List (AV × AV)
  | [] => []
  | (k, v) :: es => match AV.keyEq key k with
    | some true => es
    | _ => (k, v) :: mdel key es

def St.mapAt (st : St) (b : Nat) : Option (List (AV × AV)) :=
  match st.hp[b]? with
  | some (.amap es _ _) => some es
  | _ => none

def St.mapFull (st : St) (b : Nat) : Option (List (AV × AV) × List Nat × Nat) :=
  match st.hp[b]? with
  | some (.amap es bs cl) => some (es, bs, cl)
  | _ => none

def keyOk (tk : TK) (k : AV) : Bool :=
  match tk, k with
  | .int, .int _ _ => true
  | .str, .str _ => true
  | _, _ => false

def Mlook (tk : TK) (st : St) (m key : AV) (zero : AV) (commaOk : Bool) (K : AV → Prop) : Prop :=
  match m with
  | .nilm => keyOk tk key = true ∧ K (bif commaOk then .tup [zero, .bool false] else zero)
  | .map b => OptK (st.mapAt b) fun es => keyOk tk key = true ∧ OptK (mfind key es) fun r => K (bif commaOk then .tup [r.getD zero, .bool r.isSome] else r.getD zero)
  | _ => False

def Mput (tk : TK) (st : St) (m key val : AV) (K : Kont) : Prop :=
  match m with
  | .map b => OptK (st.mapFull b) fun m => keyOk tk key = true ∧ OptK (mfind key m.1) fun r => K (.tup []) (st.setB b (match r with | some _ => .amap (mput key val m.1) m.2.1 m.2.2 | none => .amap (m.1 ++ [(key, val)]) (m.2.1 ++ [m.2.2]) (m.2.2 + 1)))
  | _ => False

/-- A range over a map begins. -/
def Rng (st : St) (m : AV) (K : Kont) : Prop :=
  match m with
  | .nilm => K (.ptr st.hp.length 0) (st.push (.iter none 0 [] 0))
  | .map b => OptK (st.mapFull b) fun m => K (.ptr st.hp.length 0) (st.push (.iter (some b) m.2.2 [] m.2.2))
  | _ => False

def St.iterAt (st : St) (r : Nat) : Option (Option Nat × Nat × List Nat × Nat) :=
  match st.hp[r]? with
  | some (.iter m since seen last) => some (m, since, seen, last)
  | _ => none

/-- Its next round: whichever entry is left, none of which was put in meanwhile. -/
def Nxt (st : St) (it : AV) (K : Kont) : Prop :=
  match it with
  | .ptr r 0 => OptK (st.iterAt r) fun x => match x.1 with
    | none => K (.tup [.bool false]) st
    | some b => OptK (st.mapFull b) fun m => (∀ s ∈ m.2.1, s < x.2.1 ∧ s < x.2.2.2) ∧ ((∀ s ∈ m.2.1, s ∈ x.2.2.1) → K (.tup [.bool false]) st) ∧
        ∀ (i : Nat) (k v : AV) (s : Nat), m.1[i]? = some (k, v) → m.2.1[i]? = some s → s ∉ x.2.2.1 → K (.tup [.bool true, k, v]) (st.setB r (.iter (some b) x.2.1 (x.2.2.1 ++ [s]) m.2.2))
  | _ => False

/-- The entry of the last round. -/
def Ent (st : St) (it : AV) (K : AV → Prop) : Prop :=
  match it with
  | .ptr r 0 => OptK (st.iterAt r) fun x => match x.1 with
    | none => False
    | some b => OptK (st.mapFull b) fun m => m.2.2 = x.2.2.2 ∧ OptK x.2.2.1.getLast? fun s => OptK (m.2.1.idxOf? s) fun i => OptK m.1[i]? fun e => K (.tup [e.1, e.2])
  | _ => False

/-- '[]byte(s)'. -/
def ToBytes (st : St) (x : AV) (K : Kont) : Prop :=
  match x with
  | .str s => s.length ≤ 2 ^ 62 ∧ K (.slice st.hp.length 0 s.length s.length false 1) (st.push (.cells true (s.map fun c => .int .u8 c.toNat)))
  | _ => False

/-- The place of a key. -/
def mplace (key : AV) : List (AV × AV) → Option (Option Nat)
  | [] => some none
  | (k, _) :: es => match AV.keyEq key k with
    | some true => some (some 0)
    | some false => (mplace key es).map (·.map (· + 1))
    | none => none

def Mdel (tk : TK) (st : St) (m key : AV) (K : Kont) : Prop :=
  match m with
  | .map b => OptK (st.mapFull b) fun m => keyOk tk key = true ∧ OptK (mplace key m.1) fun r => K (.tup []) (st.setB b (match r with | some i => .amap (m.1.eraseIdx i) (m.2.1.eraseIdx i) m.2.2 | none => .amap m.1 m.2.1 m.2.2))
  | _ => False

/-! ### One operation that calls nobody -/
def keyTy (P : Program) (t : TypeId) : Bool :=
  match tyKind P t with
  | .int | .str => true
  | _ => false

def isU8 (P : Program) (e : TypeId) : Bool := match P.underlying e with | some (.int .u8) => true | _ => false
def notIface (P : Program) (e : TypeId) : Bool := match P.underlying e with | some (.interface _) => false | some _ => true | none => false

def gop (P : Program) (op : Op) (t : List AV) (st : St) (K : Kont) : Prop :=
  match op with
  | .move x | .assign x => K (aev t x) st
  | .pick c a b => AsBool (aev t c) fun d => K (AV.pick d (aev t a) (aev t b)) st
  | .alloc elem => OptK (tyZero P elem) fun z => New st z.cells K
  | .box _ x => OptK (aev t x).cellsOk fun cs => New st cs K
  | .build ty parts =>
    match P.underlying ty with
    | some (.struct fields) => OptK (tyZero P ty) fun z => Chk (fields.all fun f => tyHas P f.type) (OptK (fillAV (fun i => (places P fields)[i]?) z.cells (parts.toList.map fun (i, x) => (i, aev t x))) fun cs => K (.agg cs) st)
    | some (.array _ elem) => OptK (tyZero P ty) fun z => Chk (tyHas P elem) (OptK (fillAV (fun i => some (i * tySize P elem, tySize P elem)) z.cells (parts.toList.map fun (i, x) => (i, aev t x))) fun cs => K (.agg cs) st)
    | _ => False
  | .buildSlice ty len parts =>
    match P.underlying ty with
    | some (.slice elem) => OptK (tyZero P elem) fun z => Chk (tyHas P elem && decide (len * tySize P elem ≤ 2 ^ 24) && decide (z.cells.length = tySize P elem) && decide (0 < tySize P elem))
        (OptK (fillAV (fun i => some (i * tySize P elem, tySize P elem)) (zeroRow z.cells (len * tySize P elem)) (parts.toList.map fun (i, x) => (i, aev t x))) fun cs =>
          K (.slice st.hp.length 0 len len true (tySize P elem)) (st.push (.cells false cs)))
    | _ => False
  | .load ty a => OptK (tyAgg P ty) fun g => Chk (tyHas P ty) (Ld st (aev t a) g (tySize P ty) K)
  | .store ty a v => Chk (tyHas P ty) (Sto st (aev t a) (aev t v) (tySize P ty) K)
  | .nilCheck x => NilC (aev t x) fun v => K v st
  | .binOp op ty x y _ => Chk (binOk (tyKind P ty) y) (OptK (bin (tyKind P ty) op (aev t x) (aev t y)) fun v => K v st)
  | .unOp op _ x => OptK (un op (aev t x)) fun v => K v st
  | .convert src dst x =>
    match P.underlying src, P.underlying dst, aev t x with
    | some (.int _), some (.int k), .int _ n => K (.int k (k.wrap n)) st
    | some .string, some .string, .str s => K (.str s) st
    | some .string, some (.slice e), x => Chk (isU8 P e) (ToBytes st x K)
    | _, _, _ => False
  | .makeFunc fn first cap => (match fn with
    | .func f => K (.func f (first.toList.map (aev t)) (cap.toList.map (aev t))) st
    | _ => False)
  | .makeMap _ r => (match r with
    | none => K (.map st.hp.length) (st.push (.amap [] [] 0))
    | some _ => False)
  | .slice ty x lo hi mx =>
    match P.underlying ty with
    | some .string => Chk (mx.isNone) (match aev t x with
      | .str s => OptK (optInt (lo.map (aev t))) fun l => OptK (optInt (hi.map (aev t))) fun h => OptK (sliceStr s (l.getD 0) (h.getD s.length)) fun v => K v st
      | _ => False)
    | some (.slice elem) => Chk (tyHas P elem && (mx.isNone || hi.isSome)) (OptK (optInt (lo.map (aev t))) fun l => OptK (optInt (hi.map (aev t))) fun h => OptK (optInt (mx.map (aev t))) fun m =>
        OptK (sliceSl (aev t x) (tySize P elem) (l.getD 0) h m) fun v => K v st)
    | _ => False
  | .fieldAddr ty x i =>
    match P.underlying ty with
    | some (.struct fields) => OptK fields[i]? fun f => Chk (tyHas P f.type && decide (tySize P f.type ≠ 0)) (Faddr (aev t x) f.offset fun v => K v st)
    | _ => False
  | .field ty x i =>
    match P.underlying ty with
    | some (.struct fields) => OptK fields[i]? fun f => OptK (tyAgg P f.type) fun g => Chk (tyHas P f.type) (Fld (aev t x) g f.offset (tySize P f.type) fun v => K v st)
    | _ => False
  | .indexAddr ty x i =>
    match P.underlying ty with
    | some (.slice elem) => Chk (tyHas P elem) (Iaddr (aev t x) (aev t i) none (tySize P elem) fun v => K v st)
    | some (.array n elem) => Chk (tyHas P elem) (Iaddr (aev t x) (aev t i) (some n) (tySize P elem) fun v => K v st)
    | _ => False
  | .index ty x i =>
    match P.underlying ty with
    | some .string => Sidx (aev t x) (aev t i) fun v => K v st
    | _ => False
  | .lookup ty m k ok =>
    match P.underlying ty with
    | some (.map key elem) => Chk (keyTy P key) (OptK (tyZero P elem) fun z => Mlook (tyKind P key) st (aev t m) (aev t k) z ok fun v => K v st)
    | _ => False
  | .mapUpdate ty m k v =>
    match P.underlying ty with
    | some (.map key _) => Chk (keyTy P key) (Mput (tyKind P key) st (aev t m) (aev t k) (aev t v) K)
    | _ => False
  | .extract x i => Ext (aev t x) i fun v => K v st
  | .range ty x =>
    match P.underlying ty with
    | some (.map _ _) => Rng st (aev t x) K
    | _ => False
  | .next x isStr => Chk (!isStr) (Nxt st (aev t x) K)
  | .entry x => Ent st (aev t x) fun v => K v st
  | .makeInterface ty _ => Chk (notIface P ty) (K .iface st)
  | _ => False

end Go.Ab
