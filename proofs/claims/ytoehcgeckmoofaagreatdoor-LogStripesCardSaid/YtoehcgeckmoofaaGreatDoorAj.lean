/- The builtins. -/
import Derived.Test.YtoehcgeckmoofaaGreatDoorAi
import Derived.Laws.AppendOwn
set_option linter.unusedVariables false
set_option linter.unusedSimpArgs false
namespace Go.Ab
open Go Go.RowKit

/-- The cells that a slice or a string holds, and how many elements they are. -/
def srcCells (st : St) (x : AV) (esz : Nat) : Option (Nat × List AV) :=
  match x with
  | .nils => some (0, [])
  | .slice b o len _ _ e => if e = esz then (if len = 0 then some (0, []) else match st.cells b with
    | some cs => if o + len * esz ≤ cs.length then some (len, (cs.drop o).take (len * esz)) else none
    | none => none) else none
  | .str s => if esz = 1 then some (s.length, s.map fun c => .int .u8 c.toNat) else none
  | _ => none

def roomOk (need bytes : Nat) : Bool := decide (need < 2 ^ 40) && decide (need * bytes ≤ 2 ^ 46)

/-- 'append(s, x...)' of elements of esz cells and so many bytes. -/
def Append (st : St) (s x : AV) (esz bytes : Nat) (K : Kont) : Prop :=
  OptK (srcCells st x esz) fun (n, xs) => xs.all AV.one = true ∧
  match s with
  | .nils => Br (n == 0) (K .nils st) (roomOk n bytes = true ∧ K (.slice st.hp.length 0 n n false esz) (st.push (.cells false xs)))
  | .slice b o len cap ex e => e = esz ∧
    Br (n == 0) (K s st) (
    Br (decide (len + n ≤ cap)) (OptK (st.rwCells b) fun cs => o + (len + n) * esz ≤ cs.length ∧ K (.slice b o (len + n) cap ex esz) (st.setB b (.cells false (writeAt cs (o + len * esz) xs)))) (
    OptK (st.rwCells b) fun cs => roomOk (len + n) bytes = true ∧ o + len * esz ≤ cs.length ∧
      K (.slice st.hp.length 0 (len + n) (len + n) false esz) ((bif ex then st else st.setB b .dead).push (.cells false ((cs.drop o).take (len * esz) ++ xs)))))
  | _ => False

def Len (st : St) (x : AV) (K : AV → Prop) : Prop :=
  match x with
  | .nils => K (.int .i64 0)
  | .slice _ _ len _ _ _ => K (.int .i64 len)
  | .str s => K (.int .i64 s.length)
  | .nilm => K (.int .i64 0)
  | .map b => OptK (st.mapAt b) fun es => K (.int .i64 es.length)
  | _ => False

def maxAV : List AV → Option AV
  | [] => none
  | [.int k a] => some (.int k a)
  | [.int k a, .int k' b] => if k = k' then some (.int k (if b > a then b else a)) else none
  | _ => none
def minAV : List AV → Option AV
  | [] => none
  | [.int k a] => some (.int k a)
  | [.int k a, .int k' b] => if k = k' then some (.int k (if b < a then b else a)) else none
  | _ => none

def isIntTy (P : Program) (t : TypeId) : Bool := match P.underlying t with | some (.int _) => true | some _ => false | none => true
def tyBytes (P : Program) (t : TypeId) : Nat := ((P.info? t).map (·.bytes)).getD 0

def lenTy (P : Program) (t : TypeId) (x : AV) : Bool :=
  match P.underlying t, x with
  | some .string, .str _ => true
  | some (.slice _), .nils | some (.slice _), .slice .. => true
  | some (.map ..), .nilm | some (.map ..), .map _ => true
  | _, _ => false

def gbuiltin (P : Program) (b : Builtin) (argTypes : Array TypeId) (args : List AV) (st : St) (K : Kont) : Prop :=
  match b with
  | .len => (match argTypes.toList, args with
    | t :: _, [x] => Chk (lenTy P t x) (Len st x fun v => K v st)
    | _, _ => False)
  | .append => (match argTypes.toList, args with
    | [s, x], [a, b] =>
      (match P.underlying s with
      | some (.slice elem) => Chk (tyHas P elem && !isIntTy P x && decide (0 < tySize P elem) && decide ((tyZero P elem).map (fun z => z.cells.length) = some (tySize P elem))) (Append st a b (tySize P elem) (tyBytes P elem) K)
      | _ => False)
    | _, _ => False)
  | .delete => (match argTypes.toList, args with
    | t :: _, [m, k] =>
      (match P.underlying t with
      | some (.map key _) => Chk (keyTy P key) (Mdel (tyKind P key) st m k K)
      | _ => False)
    | _, _ => False)
  | .max => OptK (maxAV args) fun v => K v st
  | .min => OptK (minAV args) fun v => K v st
  | _ => False

section
variable {P : Program} {w0 : World} {pins : List (Nat × Obj)} {ρ : Ren} {st : St} {w : World} {K : Kont}

theorem len_out {argTypes : Array TypeId} {t : TypeId} {ty : TypeId} {x : AV} {x' : Value} (h : Sim w0 pins ρ st w) (hx : VRel ρ x x') (ha : argTypes[0]? = some t) (ht : lenTy P t x = true) (hk : Len st x fun v => K v st) :
    Out P w0 pins ρ w (do pure (.value (← Builtin.len_ argTypes ty #[x']))) K := by
  unfold lenTy at ht
  unfold Len at hk
  split at ht
  case h_1 =>
    rename_i hu
    obtain ⟨b, rfl, rfl⟩ := hx.str_inv
    refine Out.val (v' := .int .i64 b.size) h ?_ ?_ hk
    · simp [Builtin.len_, ha, Sem.run_bind, run_under hu, Result.andThen, goInt]
    · simpa using VRel.int (ρ := ρ) .i64 (b.size : Int)
  case h_2 =>
    rename_i hu
    cases hx
    exact Out.val (v' := .int .i64 0) h (by simp [Builtin.len_, ha, Sem.run_bind, run_under hu, Result.andThen, goInt]) (.int _ _) hk
  case h_3 =>
    rename_i hu
    obtain ⟨rb, ro, rs, a, cap', rfl, _⟩ := hx.slice_inv
    exact Out.val h (by simp [Builtin.len_, ha, Sem.run_bind, run_under hu, Result.andThen, goInt]) (.int _ _) hk
  case h_4 =>
    rename_i hu
    cases hx
    exact Out.val (v' := .int .i64 0) h (by simp [Builtin.len_, ha, Sem.run_bind, run_under hu, Result.andThen, goInt]) (.int _ _) hk
  case h_5 =>
    rename_i hu
    obtain ⟨es, he, hk⟩ := OptK_iff.1 hk
    obtain ⟨rb, ro, rs, ents, clock, hb, hw, _, h1, _⟩ := h.mapAt he
    cases hx with
    | map e =>
      rw [hb] at e; cases e
      have hl : es.length = ents.size := by simpa using h1.len
      have hget : (getObj rb).run P w = .ok (.map ents clock) w := by simp [getObj, Sem.run, hw]
      refine Out.val (v' := .int .i64 es.length) h ?_ (.int _ _) hk
      simp [Builtin.len_, ha, Sem.run_bind, run_under hu, Result.andThen, goInt, hget, hl]
  case h_6 => cases ht

theorem max_out {argTypes : Array TypeId} {ty : TypeId} {xs : List AV} {xs' : Array Value} {v : AV} (h : Sim w0 pins ρ st w) (hx : VRels ρ xs xs'.toList) (hm : maxAV xs = some v) (hk : K v st) :
    Out P w0 pins ρ w (do pure (.value (← Builtin.max_ argTypes ty xs'))) K := by
  unfold maxAV at hm
  split at hm
  · cases hm
  · obtain ⟨v1, vs, e1, h1, h2⟩ := hx.cons_inv
    obtain rfl := h2.nil_inv
    cases hm; obtain rfl := h1.int_inv
    exact Out.val h (by simp [Builtin.max_, e1]) (.int _ _) hk
  · obtain ⟨v1, vs, e1, h1, h2⟩ := hx.cons_inv
    obtain ⟨v2, vs2, rfl, h3, h4⟩ := h2.cons_inv
    obtain rfl := h4.nil_inv
    obtain rfl := h1.int_inv; obtain rfl := h3.int_inv
    split at hm
    · cases hm
      exact Out.val h (by simp [Builtin.max_, e1, Builtin.max2]) (.int _ _) hk
    · cases hm
  · cases hm

theorem min_out {argTypes : Array TypeId} {ty : TypeId} {xs : List AV} {xs' : Array Value} {v : AV} (h : Sim w0 pins ρ st w) (hx : VRels ρ xs xs'.toList) (hm : minAV xs = some v) (hk : K v st) :
    Out P w0 pins ρ w (do pure (.value (← Builtin.min_ argTypes ty xs'))) K := by
  unfold minAV at hm
  split at hm
  · cases hm
  · obtain ⟨v1, vs, e1, h1, h2⟩ := hx.cons_inv
    obtain rfl := h2.nil_inv
    cases hm; obtain rfl := h1.int_inv
    exact Out.val h (by simp [Builtin.min_, e1]) (.int _ _) hk
  · obtain ⟨v1, vs, e1, h1, h2⟩ := hx.cons_inv
    obtain ⟨v2, vs2, rfl, h3, h4⟩ := h2.cons_inv
    obtain rfl := h4.nil_inv
    obtain rfl := h1.int_inv; obtain rfl := h3.int_inv
    split at hm
    · cases hm
      exact Out.val h (by simp [Builtin.min_, e1, Builtin.min2]) (.int _ _) hk
    · cases hm
  · cases hm

theorem src_run {x : AV} {x' : Value} {esz n : Nat} {xs : List AV} (h : Sim w0 pins ρ st w) (hx : VRel ρ x x') (hs : srcCells st x esz = some (n, xs)) :
    (Builtin.lenOf x').run P w = .ok n w ∧ ∃ vs : List Value, (Builtin.firstCells esz n x').run P w = .ok vs.toArray w ∧ VRels ρ xs vs ∧ xs.length = n * esz := by
  unfold srcCells at hs
  split at hs
  · cases hx; cases hs
    exact ⟨by simp [Builtin.lenOf], [], by simp [Builtin.firstCells], .nil, by simp⟩
  · obtain ⟨rb, ro, rs, a, cap', rfl, e, hl, hc, hex, ha, hfit⟩ := hx.slice_inv
    split at hs
    · rename_i he; subst he
      split at hs
      · rename_i h0; cases hs; subst h0
        refine ⟨by simp [Builtin.lenOf], [], ?_, .nil, by simp⟩
        simp [Builtin.firstCells, Go.loadCells, loadCellsFrom]
      · split at hs
        · rename_i cs hcs
          split at hs
          · rename_i hle; cases hs
            obtain rfl := ha (by omega)
            obtain ⟨vs, hr, hv, hvl⟩ := h.loadCells (P := P) hcs e _ _ hle
            refine ⟨by simp [Builtin.lenOf], vs, ?_, hv, by rw [hv.len, hvl]⟩
            simp [Builtin.firstCells, hr]
          · cases hs
        · cases hs
    · cases hs
  · obtain ⟨b, rfl, rfl⟩ := hx.str_inv
    split at hs
    · rename_i he; subst he; cases hs
      refine ⟨by simp [Builtin.lenOf], b.data.toList.map fun c => .int .u8 c.toNat, ?_, ?_, by simp⟩
      · have e : b.extract 0 b.size = b := by
          apply bytes_eq_iff.2; simp
        simp only [Builtin.firstCells, e, Sem.run_pure]; congr 1; apply Array.ext'; simp
      · refine ⟨by simp, fun i hi => ?_⟩
        simp only [List.length_map] at hi
        simp only [List.getD, List.getElem?_map, List.getElem?_eq_getElem hi, Option.map_some, Option.getD_some]
        exact .int _ _
    · cases hs
  · cases hs

theorem isInt_under {t : TypeId} (h : isIntTy P t = false) : ∃ d, P.underlying t = some d ∧ ∀ k, d ≠ .int k := by
  unfold isIntTy at h
  split at h
  · cases h
  · rename_i d hd hu; exact ⟨_, hu, fun k e => hd k e⟩
  · cases h

/-- The world behind a question on the capacity. -/
theorem run_askRoom (n : Nat) : (askRoom n).run P w = .ok () w := by
  unfold askRoom; split <;> rfl

theorem zeroCells_len (z : Array Value) (n : Nat) : (Builtin.zeroCells z n).size = n * z.size := by simp [Builtin.zeroCells]

/-- What append comes to, step by step. -/
theorem run_append_room {sT xT elem ty : TypeId} {d : TypeDesc} {base : Option Addr} {len cap n : Nat} {x' : Value} {vs : List Value} (hu : P.underlying sT = some (.slice elem)) (hs : tyHas P elem = true)
    (hd : P.underlying xT = some d) (hdn : ∀ k, d ≠ .int k) (hl : (Builtin.lenOf x').run P w = .ok n w) (hv : (Builtin.firstCells (tySize P elem) n x').run P w = .ok vs.toArray w) (hn : len + n ≤ cap) {w' : World}
    (hst : ∀ a, base = some a → (Go.storeCells (a.add (len * tySize P elem)) vs).run P w = .ok () w') (hb : base = none → w' = w) :
    (Builtin.append_ #[sT, xT] ty #[.slice base len cap, x']).run P w = .ok (.slice base (len + n) cap) w' := by
  have hm : (match d with | .int _ => true | _ => false) = false := by cases d <;> first | rfl | exact absurd rfl (hdn _)
  unfold Builtin.append_
  simp only [List.getElem?_toArray, List.getElem?_cons_zero, List.getElem?_cons_succ, Sem.run_bind, run_under hu, Result.andThen, run_size hs, run_under hd, Sem.run_pure, hm, Bool.false_eq_true, if_false, hl, hn, if_true, Bool.not_false, hv]
  cases base with
  | none => obtain rfl := hb rfl; rfl
  | some a => simp only [Sem.run_bind, hst a rfl, Result.andThen, Sem.run_pure]

theorem run_append_new {sT xT elem ty : TypeId} {d : TypeDesc} {base : Option Addr} {len cap n : Nat} {x' z : Value} {olds vs : List Value} (hu : P.underlying sT = some (.slice elem)) (hs : tyHas P elem = true)
    (hd : P.underlying xT = some d) (hdn : ∀ k, d ≠ .int k) (hl : (Builtin.lenOf x').run P w = .ok n w) (hv : (Builtin.firstCells (tySize P elem) n x').run P w.drew = .ok vs.toArray w.drew) (hn : cap < len + n)
    (ho : (Builtin.firstCells (tySize P elem) len (.slice base len cap)).run P w.drew = .ok olds.toArray w.drew) (hz : ∀ w, (zeroValue elem).run P w = .ok z w) (hroom : roomOk (len + n) (tyBytes P elem) = true) :
    ∃ newCap, len + n ≤ newCap ∧ (Builtin.append_ #[sT, xT] ty #[.slice base len cap, x']).run P w = .ok (.slice (some ⟨w.heap.size, 0, none⟩) (len + n) newCap) (w.drew.alloc (.cells ((olds ++ vs).toArray ++ Builtin.zeroCells z.cells (newCap - (len + n))) elem)) := by
  have hm : (match d with | .int _ => true | _ => false) = false := by cases d <;> first | rfl | exact absurd rfl (hdn _)
  simp only [roomOk, Bool.and_eq_true, decide_eq_true_eq] at hroom
  obtain ⟨hr1, hr2⟩ := hroom
  obtain ⟨newCap, hc, hch⟩ := run_choose_cap (P := P) (w := w) (len + n) cap elem (by omega)
  refine ⟨newCap, hc, ?_⟩
  have hinfo : ∀ w : World, (typeInfo elem).run P w = .ok ((P.info? elem).getD default) w ∧ ((P.info? elem).getD default).bytes = tyBytes P elem := by
    intro w
    obtain ⟨i, hi⟩ := Option.isSome_iff_exists.1 hs
    exact ⟨by rw [run_typeInfo w hi, hi]; rfl, by simp [tyBytes, hi]⟩
  have h63 : ¬ (((len + n : Nat) : Int) > IntKind.i64.max) := by
    have : IntKind.i64.max = 9223372036854775807 := by decide
    rw [this]; omega
  have h48 : ¬ Builtin.nextslicecap (len + n) cap * tyBytes P elem > 2 ^ 48 := by
    have := growslice_fits (need := len + n) (old := cap) (bytes := tyBytes P elem) hn (by omega)
    omega
  have hnn : ¬ len + n ≤ cap := by omega
  unfold Builtin.append_
  simp only [List.getElem?_toArray, List.getElem?_cons_zero, List.getElem?_cons_succ, Sem.run_bind, run_under hu, Result.andThen, run_size hs, run_under hd, Sem.run_pure, hm, Bool.false_eq_true, if_false, hl, hnn, (hinfo _).1, (hinfo w).2, h63, false_and, h48, hch, run_askRoom, ho, Bool.not_false, if_true, hv, hz, newRow, newObj, Sem.run, World.alloc_eq]
  rw [show (olds ++ vs).toArray = olds.toArray ++ vs.toArray from by simp]; rfl

theorem zero_all {elem : TypeId} (hz : (tyZero P elem).map (fun z => z.cells.length) = some (tySize P elem)) : ∃ z, (∀ w, (zeroValue elem).run P w = .ok z w) ∧ z.cells.size = tySize P elem := by
  obtain ⟨zz, hzz, hlen⟩ := Option.map_eq_some_iff.1 hz
  unfold tyZero at hzz
  cases hi' : P.info? elem with
  | none => simp [hi'] at hzz
  | some i =>
    cases hz' : i.zero with
    | none => simp [hi', hz'] at hzz
    | some z2 =>
      simp [hi', hz'] at hzz
      subst hzz
      refine ⟨z2, fun w3 => by simp [zeroValue, Sem.run_bind, run_typeInfo w3 hi', Result.andThen, hz'], ?_⟩
      have := (absVal_cells ⟨fun _ => none, fun _ => none⟩ z2).len
      rw [hlen] at this; simpa using this.symm

theorem append_out {sT xT elem ty : TypeId} {a b : AV} {a' b' : Value} (h : Sim w0 pins ρ st w) (ha : VRel ρ a a') (hb : VRel ρ b b') (hu : P.underlying sT = some (.slice elem)) (hs : tyHas P elem = true)
    (hi : isIntTy P xT = false) (hz : (tyZero P elem).map (fun z => z.cells.length) = some (tySize P elem)) (hk : Append st a b (tySize P elem) (tyBytes P elem) K) : Out P w0 pins ρ w (do pure (.value (← Builtin.append_ #[sT, xT] ty #[a', b']))) K := by
  obtain ⟨d, hd, hdn⟩ := isInt_under hi
  obtain ⟨z, hz0, hzs⟩ := zero_all hz
  obtain ⟨⟨n, xs⟩, hsrc, hone, hk⟩ := OptK_iff.1 hk
  obtain ⟨hl, vs, hv, hvr, hxl⟩ := src_run (P := P) h hb hsrc
  obtain ⟨_, vs2, hv2, hvr2, _⟩ := src_run (P := P) h.drew hb hsrc
  have hvl : vs.length = n * tySize P elem := by rw [← hvr.len, hxl]
  have hl2 : vs2.length = n * tySize P elem := by rw [← hvr2.len, hxl]
  have hones := hvr.ones hone
  -- a new row
  have fresh : ∀ (st1 : St) (ρ1 : Ren), Sim w0 pins ρ1 st1 w → ρ.le ρ1 → ρ1 = ρ → ∀ (base : Option Addr) (len cap : Nat) (olds : List Value) (as : List AV), VRels ρ as olds → olds.length = len * tySize P elem → cap < len + n →
      (Builtin.firstCells (tySize P elem) len (.slice base len cap)).run P w.drew = .ok olds.toArray w.drew → roomOk (len + n) (tyBytes P elem) = true →
      K (.slice st1.hp.length 0 (len + n) (len + n) false (tySize P elem)) (st1.push (.cells false (as ++ xs))) →
      Out P w0 pins ρ w (do pure (.value (← Builtin.append_ #[sT, xT] ty #[.slice base len cap, b']))) K := by
    intro st1 ρ1 h1 hle e base len cap olds as hol holl hcap hfc hroom hk
    subst e
    obtain ⟨newCap, hc, hrun⟩ := run_append_new (P := P) (w := w) (ty := ty) (base := base) (len := len) (cap := cap) (n := n) (olds := olds) (z := z) hu hs hd hdn hl hv2 hcap hfc hz0 hroom
    have hal : as.length = len * tySize P elem := by rw [hol.len, holl]
    have hadd : (len + n) * tySize P elem = len * tySize P elem + n * tySize P elem := Nat.add_mul _ _ _
    refine Out.valW hrun (h1.ext_le _) (h1.drew.allocCells (cs := as ++ xs) (c := (olds ++ vs2).toArray ++ Builtin.zeroCells z.cells (newCap - (len + n))) elem ?_ ?_) ?_ hk
    · have e : ((olds ++ vs2).toArray ++ Builtin.zeroCells z.cells (newCap - (len + n))).toList = (olds ++ vs2) ++ (Builtin.zeroCells z.cells (newCap - (len + n))).toList := by simp
      rw [e, List.take_append_of_le_length (by simp only [List.length_append]; omega), List.take_of_length_le (by simp only [List.length_append]; omega)]
      exact hol.append hvr2
    · simp only [List.length_append, Array.size_append, List.size_toArray, hal, hxl, holl, hl2]; omega
    · refine VRel.slice (Ren.ext_at ..) (Nat.le_refl _) hc (fun e => by cases e) (fun _ => by simp) (fun _ => ?_)
      simp only [Array.size_append, List.size_toArray, List.length_append, zeroCells_len, hl2, holl, Nat.zero_add, hzs]
      have : newCap * tySize P elem = (len + n) * tySize P elem + (newCap - (len + n)) * tySize P elem := by rw [← Nat.add_mul]; congr 1; omega
      omega
  cases a with
  | nils =>
    cases ha
    obtain ⟨k1, k2⟩ := Br_iff.1 hk
    by_cases hn : n = 0
    · subst hn
      have hk := k1 rfl
      refine Out.val (v' := .slice none 0 0) h ?_ .nils hk
      exact run_append_room (P := P) (base := none) (len := 0) (cap := 0) (n := 0) hu hs hd hdn hl hv (by omega) (fun a e => by cases e) (fun _ => rfl)
    · obtain ⟨hroom, hk⟩ := k2 (by simpa using hn)
      exact fresh st ρ h (.refl _) rfl none 0 0 [] [] .nil (by simp) (by omega) (by simp [Builtin.firstCells]) (by simpa using hroom) (by simpa using hk)
  | slice b0 o len cap ex e =>
    obtain ⟨rfl, hk⟩ := hk
    have ha0 := ha
    obtain ⟨rb, ro, rs, ad, cap', rfl, hbk, hle, hcap, hex, had, hfit⟩ := ha.slice_inv
    obtain ⟨k1, k2⟩ := Br_iff.1 hk
    by_cases hn : n = 0
    · subst hn
      have hk := k1 rfl
      have hvs : vs = [] := by cases vs <;> simp_all
      subst hvs
      refine Out.val (v' := .slice (some ad) len cap') h ?_ ha0 hk
      exact run_append_room (P := P) (base := some ad) (len := len) (cap := cap') (n := 0) hu hs hd hdn hl hv (by omega) (fun a e => by simp [Go.storeCells]) (fun e => by cases e)
    · have hk := k2 (by simpa using hn)
      obtain ⟨k3, k4⟩ := Br_iff.1 hk
      by_cases hin : len + n ≤ cap
      · obtain ⟨cs, hcs, hsz, hk⟩ := OptK_iff.1 (k3 (by simpa using hin))
        have hadd : (len + n) * tySize P elem = len * tySize P elem + n * tySize P elem := Nat.add_mul _ _ _
        obtain rfl := had (by omega)
        obtain ⟨w', hrun, hsim⟩ := h.storeCells (P := P) hcs hbk (o + len * tySize P elem) hvr hones (by rw [hxl]; omega)
        refine Out.valW (v' := .slice (some ⟨rb, ro + o, none⟩) (len + n) cap') ?_ (.refl _) hsim (.slice hbk hin hcap hex (fun _ => rfl) hfit) hk
        refine run_append_room (P := P) (base := some ⟨rb, ro + o, none⟩) (len := len) (cap := cap') (n := n) hu hs hd hdn hl hv (by omega) (fun a e => ?_) (fun e => by cases e)
        cases e; rw [addr_add, Nat.add_assoc]; exact hrun
      · obtain ⟨cs, hcs, hroom, hsz, hkz⟩ := OptK_iff.1 (k4 (by simpa using hin))
        -- the old cells
        obtain ⟨olds, holds, holr, holl⟩ : ∃ olds : List Value, (Builtin.firstCells (tySize P elem) len (.slice (some ad) len cap')).run P w.drew = .ok olds.toArray w.drew ∧ VRels ρ ((cs.drop o).take (len * tySize P elem)) olds ∧ olds.length = len * tySize P elem := by
          have hcs' : st.cells b0 = some cs := by simp [St.cells, St.rwCells_of hcs]
          by_cases hl0 : cap' = 0
          · have : len = 0 := by omega
            subst this
            exact ⟨[], by simp [Builtin.firstCells, Go.loadCells, loadCellsFrom], by simpa using VRels.nil, by simp⟩
          · obtain rfl := had hl0
            obtain ⟨us, hr, hur, hul⟩ := h.drew.loadCells (P := P) hcs' hbk o (len * tySize P elem) hsz
            exact ⟨us, by simpa [Builtin.firstCells] using hr, hur, hul⟩
        cases ex with
        | true =>
          obtain rfl := hex rfl
          exact fresh st ρ h (.refl _) rfl (some ad) len cap' olds _ holr holl (by omega) holds hroom hkz
        | false =>
          have hkill := h.kill (St.rwCells_of hcs) rfl hbk
          have hpl : (st.setB b0 .dead).hp.length = st.hp.length := by simp [St.setB]
          by_cases hreal : len + n ≤ cap'
          · -- there is room after all: written in place
            obtain rfl := had (by omega)
            have hfit' := hfit rfl
            have hadd : (len + n) * tySize P elem = len * tySize P elem + n * tySize P elem := Nat.add_mul _ _ _
            have hmulle : (len + n) * tySize P elem ≤ cap' * tySize P elem := Nat.mul_le_mul_right _ hreal
            obtain ⟨rb', ro', rs', c, el, hx', g1, g2, g3, g4, g5⟩ := h.rwCells hcs
            rw [hbk] at hx'; cases hx'
            have hrun := run_storeCells_at (P := P) rb (ro + (o + len * tySize P elem)) el vs 0 c w g1 (by omega) hones
            obtain ⟨hon, hat⟩ := Only.setRow w rb (c.toList.take (ro + (o + len * tySize P elem) + 0) ++ vs ++ c.toList.drop (ro + (o + len * tySize P elem) + 0 + vs.length)).toArray g1
            have hsim1 := h.upd (k' := .dead) (St.rwCells_of hcs) rfl hbk hon (fun e => absurd rfl e)
            have hsim2 := hsim1.push (.cells false ((cs.drop o).take (len * tySize P elem) ++ xs)) (rb, ro + o, rs - o) ?_ ?_ ?_ ?_
            · refine Out.valW (v' := .slice (some ⟨rb, ro + o, none⟩) (len + n) cap') ?_ (hsim1.ext_le _) hsim2 ?_ (by rw [← hpl] at hkz; exact hkz)
              · refine run_append_room (P := P) (base := some ⟨rb, ro + o, none⟩) (len := len) (cap := cap') (n := n) hu hs hd hdn hl hv hreal (fun a e => ?_) (fun e => by cases e)
                cases e; rw [addr_add, Nat.add_assoc]; exact hrun
              · refine VRel.slice (Ren.ext_at ..) (Nat.le_refl _) hreal (fun e => by cases e) (fun _ => by simp) (fun _ => ?_)
                omega
            · rw [hon.size]; exact (Array.getElem?_eq_some_iff.1 g1).1
            · refine ⟨_, el, (0, 0), hat, ?_, ?_, ?_, fun _ => ⟨g5, rfl⟩⟩
              · simp only [List.length_append, List.length_take, List.length_drop]; omega
              · simp only [List.size_toArray, List.length_append, List.length_take, List.length_drop, Array.length_toList]; omega
              · have hol2 : VRels ρ ((cs.drop o).take (len * tySize P elem)) ((c.toList.drop (ro + o)).take (len * tySize P elem)) := by
                  have := (g4.drop o).take (len * tySize P elem)
                  have e : (((c.toList.drop ro).take cs.length).drop o).take (len * tySize P elem) = (c.toList.drop (ro + o)).take (len * tySize P elem) := by
                    apply List.ext_getElem?; intro j
                    simp only [List.getElem?_take, List.getElem?_drop]
                    by_cases hj : j < len * tySize P elem
                    · have : o + j < cs.length := by omega
                      simp [hj, this, Nat.add_assoc]
                    · simp [hj]
                  rw [e] at this; exact this
                have hmono := (hol2.append hvr).mono (hsim1.ext_le (rb, ro + o, rs - o))
                have e2 : ((c.toList.take (ro + (o + len * tySize P elem) + 0) ++ vs ++ c.toList.drop (ro + (o + len * tySize P elem) + 0 + vs.length)).toArray.toList.drop (ro + o)).take ((cs.drop o).take (len * tySize P elem) ++ xs).length = (c.toList.drop (ro + o)).take (len * tySize P elem) ++ vs := by
                  have l1 : ((cs.drop o).take (len * tySize P elem) ++ xs).length = len * tySize P elem + vs.length := by
                    simp only [List.length_append, List.length_take, List.length_drop]; omega
                  rw [l1]
                  apply List.ext_getElem?; intro j
                  simp only [Nat.add_zero, List.getElem?_take, List.getElem?_drop, List.getElem?_append, List.length_take, List.length_drop, List.length_append, Array.length_toList]
                  by_cases hj : j < len * tySize P elem
                  · have a1 : ro + o + j < min (ro + (o + len * tySize P elem)) c.size := by omega
                    have a2 : j < min (len * tySize P elem) (c.size - (ro + o)) := by omega
                    have a3 : j < len * tySize P elem + vs.length := by omega
                    have a4 : ro + o + j < ro + (o + len * tySize P elem) := by omega
                    have a5 : ro + o + j < min (ro + (o + len * tySize P elem)) c.size + vs.length := by omega
                    simp only [hj, a1, a2, a3, a4, a5, if_true]
                  · by_cases hj2 : j < len * tySize P elem + vs.length
                    · have a1 : ¬ ro + o + j < min (ro + (o + len * tySize P elem)) c.size := by omega
                      have a2 : ¬ j < min (len * tySize P elem) (c.size - (ro + o)) := by omega
                      have a5 : ro + o + j < min (ro + (o + len * tySize P elem)) c.size + vs.length := by omega
                      simp only [a1, a2, hj2, a5, if_true, if_false]
                      congr 1; omega
                    · have a2 : ¬ j < min (len * tySize P elem) (c.size - (ro + o)) := by omega
                      have a6 : vs[j - min (len * tySize P elem) (c.size - (ro + o))]? = none := by rw [List.getElem?_eq_none_iff]; omega
                      simp only [hj2, a2, if_false, a6]
                rw [e2]; exact hmono
            · intro b2 k2 x2 e2 hd2 hx2
              have hne : b2 ≠ b0 := fun hh => by
                subst hh
                have hlt : b2 < st.hp.length := (List.getElem?_eq_some_iff.1 (St.rwCells_of hcs)).1
                simp [hlt] at e2; exact hd2 e2.symm
              have e2' : st.hp[b2]? = some k2 := by rwa [List.getElem?_set_ne (Ne.symm hne)] at e2
              exact fun hh => h.inj b0 b2 _ k2 _ x2 (St.rwCells_of hcs) e2' rfl hd2 (Ne.symm hne) hbk hx2 hh.symm
            · exact fun p hp => (h.pout p hp b0 _ (rb, ro, rs) (St.rwCells_of hcs) rfl hbk : rb ≠ p.1)
          · exact fresh (st.setB b0 .dead) ρ hkill (.refl _) rfl (some ad) len cap' olds _ holr holl (by omega) holds hroom (by rw [hpl]; exact hkz)
  | _ => exact hk.elim

theorem findNow_place {d : TypeDesc} {a : AV} {a' : Value} (hf : keyFits d a = true) (ha : VRel ρ a a') :
    ∀ {es : List (AV × AV)} {ents : List MapEntry} {r : Option Nat} (i : Nat), VRels ρ (es.map (·.1)) (ents.map (·.key)) → mplace a es = some r →
    (r = none ∧ Instr.findNow d a' ents i = some none) ∨ ∃ j v', r = some j ∧ Instr.findNow d a' ents i = some (some (i + j, v')) ∧ j < ents.length
  | [], ents, r, i, h1, h3 => by
    have : ents = [] := by have := h1.len; cases ents <;> simp_all
    subst this; simp [mplace] at h3; exact .inl ⟨h3.symm, rfl⟩
  | (k, v) :: es, ents, r, i, h1, h3 => by
    cases ents with
    | nil => have := h1.len; simp at this
    | cons e ents =>
      simp only [List.map_cons] at h1
      obtain ⟨k', ks', e1, hk, h1⟩ := h1.cons_inv
      cases e1
      simp only [mplace] at h3
      split at h3
      · rename_i he
        cases h3
        have hs := sameNow_of hf ha hk he
        exact .inr ⟨0, e.val, rfl, by simp [Instr.findNow, hs], by simp⟩
      · rename_i he
        have hs := sameNow_of hf ha hk he
        cases hm : mplace a es with
        | none => rw [hm] at h3; cases h3
        | some r0 =>
          rw [hm] at h3
          simp only [Option.map_some, Option.some.injEq] at h3
          subst h3
          rcases findNow_place hf ha (i + 1) h1 hm with ⟨rfl, hn⟩ | ⟨j, v', rfl, hn, hj⟩
          · exact .inl ⟨rfl, by simp [Instr.findNow, hs, hn]⟩
          · exact .inr ⟨j + 1, v', rfl, by simp [Instr.findNow, hs, hn]; omega, by simp; omega⟩
      · cases h3

theorem VRels.eraseIdx {as : List AV} {vs : List Value} (h : VRels ρ as vs) (n : Nat) : VRels ρ (as.eraseIdx n) (vs.eraseIdx n) := by
  rw [List.eraseIdx_eq_take_drop_succ, List.eraseIdx_eq_take_drop_succ]
  exact (h.take n).append (h.drop (n + 1))

theorem map_eraseIdx' {α β : Type} (f : α → β) (l : List α) (n : Nat) : (l.eraseIdx n).map f = (l.map f).eraseIdx n := by
  simp [List.eraseIdx_eq_take_drop_succ, List.map_take, List.map_drop]

theorem mdel_out {argTypes : Array TypeId} {ty t key elem : TypeId} {m k : AV} {m' k' : Value} {d : TypeDesc} (h : Sim w0 pins ρ st w) (hm : VRel ρ m m') (hk : VRel ρ k k') (ha : argTypes[0]? = some t) (hu : P.underlying t = some (.map key elem)) (hd : P.underlying key = some d)
    (hdk : (∃ k, d = .int k) ∨ d = .string) {tk : TK} (hf : ∀ k, keyOk tk k = true → keyFits d k = true) (hK : Mdel tk st m k K) :
    Out P w0 pins ρ w (do pure (.value (← Builtin.delete_ argTypes ty #[m', k']))) K := by
  cases m with
  | map b =>
    obtain ⟨⟨es, bs, clock⟩, he, hkk, hK⟩ := OptK_iff.1 hK
    obtain ⟨r, hr, hK⟩ := OptK_iff.1 hK
    obtain ⟨rb, ro, rs, ents, hx, hw, hbase, h1, h2, h3⟩ := h.mapFull he
    cases hm with
    | map e =>
      rw [hx] at e; cases e
      have hset : ∀ o, (setObj rb o).run P w = .ok () { w with heap := w.heap.setIfInBounds rb o } := fun o => by simp [setObj, Sem.run, hw]
      rcases findNow_place (hf _ hkk) hk 0 h1 hr with ⟨rfl, hn⟩ | ⟨j, v', rfl, hn, hj⟩
      · obtain ⟨ho, hat⟩ := Only.setObj (o' := .map ents clock) hw
        refine Out.valW (v' := .tuple #[]) ?_ (.refl _) (h.upd (k' := .amap es bs clock) (St.mapFull_of he) rfl hx ho (fun _ => ⟨_, hat, hbase, h1, h2, h3⟩)) (VRel.tup_iff.2 .nil) hK
        simp [Builtin.delete_, ha, Sem.run_bind, run_under hu, Result.andThen, run_getMap hw, run_checkKey hd hdk, Instr.findKey, run_under hd, hn, hset]
      · obtain ⟨ho, hat⟩ := Only.setObj (o' := .map (ents.eraseIdxIfInBounds j) clock) hw
        have hel : (ents.eraseIdxIfInBounds j).toList = ents.toList.eraseIdx j := by simp
        refine Out.valW (v' := .tuple #[]) ?_ (.refl _) (h.upd (k' := .amap (es.eraseIdx j) (bs.eraseIdx j) clock) (St.mapFull_of he) rfl hx ho (fun _ => ⟨_, hat, hbase, ?_, ?_, ?_⟩)) (VRel.tup_iff.2 .nil) hK
        · simp [Builtin.delete_, ha, Sem.run_bind, run_under hu, Result.andThen, run_getMap hw, run_checkKey hd hdk, Instr.findKey, run_under hd, hn, hset]
        · rw [hel, map_eraseIdx', map_eraseIdx']; exact h1.eraseIdx j
        · rw [hel, map_eraseIdx', map_eraseIdx']; exact h2.eraseIdx j
        · rw [hel, map_eraseIdx', h3]
  | _ => exact hK.elim

theorem gbuiltin_out {b : Builtin} {argTypes : Array TypeId} {ty : TypeId} {consts : Array Bool} {args : List AV} {args' : Array Value} (h : Sim w0 pins ρ st w) (ha : VRels ρ args args'.toList) (hk : gbuiltin P b argTypes args st K) :
    Out P w0 pins ρ w (builtin b argTypes ty consts args') K := by
  unfold gbuiltin at hk
  cases b <;> simp only at hk <;> try exact hk.elim
  case append =>
    split at hk
    · rename_i sT xT a c hts
      obtain ⟨v1, vs, e1, h1, h2⟩ := ha.cons_inv
      obtain ⟨v2, vs2, rfl, h3, h4⟩ := h2.cons_inv
      obtain rfl := h4.nil_inv
      have e : args' = #[v1, v2] := by apply Array.ext'; simpa using e1
      subst e
      have hts' : argTypes = #[sT, xT] := by apply Array.ext'; simpa using hts
      subst hts'
      split at hk
      · rename_i elem hu
        obtain ⟨hc, hk⟩ := Chk_iff.1 hk
        simp only [Bool.and_eq_true, decide_eq_true_eq, Bool.not_eq_true'] at hc
        exact append_out h h1 h3 hu hc.1.1.1 hc.1.1.2 hc.2 hk
      · exact hk.elim
    · exact hk.elim
  case delete =>
    split at hk
    · rename_i t ts m k hts
      obtain ⟨v1, vs, e1, h1, h2⟩ := ha.cons_inv
      obtain ⟨v2, vs2, rfl, h3, h4⟩ := h2.cons_inv
      obtain rfl := h4.nil_inv
      have e : args' = #[v1, v2] := by apply Array.ext'; simpa using e1
      subst e
      have h0 : argTypes[0]? = some t := by rw [← Array.getElem?_toList, hts]; rfl
      split at hk
      · rename_i key elem hu
        obtain ⟨hc, hk⟩ := Chk_iff.1 hk
        obtain ⟨d, hd, hdk, hf⟩ := keyTy_under hc
        exact mdel_out h h1 h3 h0 hu hd hdk hf hk
      · exact hk.elim
    · exact hk.elim
  case len =>
    split at hk
    · rename_i t ts x hts
      obtain ⟨v1, vs, e1, h1, h2⟩ := ha.cons_inv
      obtain rfl := h2.nil_inv
      have e : args' = #[v1] := by apply Array.ext'; simpa using e1
      subst e
      have h0 : argTypes[0]? = some t := by rw [← Array.getElem?_toList, hts]; rfl
      exact len_out h h1 h0 (Chk_iff.1 hk).1 (Chk_iff.1 hk).2
    · exact hk.elim
  case max =>
    obtain ⟨v, hv, hk⟩ := OptK_iff.1 hk
    exact max_out h ha hv hk
  case min =>
    obtain ⟨v, hv, hk⟩ := OptK_iff.1 hk
    exact min_out h ha hv hk
end
end Go.Ab
