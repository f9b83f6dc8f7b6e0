/- Slices: owned, shared, read. -/
import Derived.Test.YtoehcgeckmoofaaGreatDoorBs
set_option linter.unusedVariables false
set_option linter.unusedSimpArgs false
namespace Go.Ab
open Go Go.RowKit Go.Proofs

theorem bin_sadd {a b : List UInt8} (h : a.length + b.length ≤ 2 ^ 62) : bin .str .add (.str a) (.str b) = some (.str (a ++ b)) := by simp only [bin]; rw [if_pos h]
theorem bin_add {a b : Int} (h1 : -9223372036854775808 ≤ a + b) (h2 : a + b ≤ 9223372036854775807) : bin .int .add (.int .i64 a) (.int .i64 b) = some (.int .i64 (a + b)) := by simp only [bin, if_true]; rw [wrap_id h1 h2]
theorem bin_sub {a b : Int} (h1 : -9223372036854775808 ≤ a - b) (h2 : a - b ≤ 9223372036854775807) : bin .int .sub (.int .i64 a) (.int .i64 b) = some (.int .i64 (a - b)) := by simp only [bin, if_true]; rw [wrap_id h1 h2]
theorem bin_add_nat {a b : Nat} (h : a + b ≤ 9223372036854775807) : bin .int .add (.int .i64 a) (.int .i64 b) = some (.int .i64 (a + b : Nat)) := by rw [bin_add (by omega) (by omega)]; rfl
theorem bin_inc {a : Nat} (h : a < 9223372036854775807) : bin .int .add (.int .i64 a) (.int .i64 1) = some (.int .i64 (a + 1 : Nat)) := bin_add_nat (b := 1) (by omega)
theorem bin_sub_nat {a b : Nat} (h : a ≤ 9223372036854775807) (h2 : b ≤ a) : bin .int .sub (.int .i64 a) (.int .i64 b) = some (.int .i64 (a - b : Nat)) := by
  rw [bin_sub (by omega) (by omega)]; congr 2; omega
theorem bin_eql {k : IntKind} {a b : Int} : bin .int .eql (.int k a) (.int k b) = some (.bool (decide (a = b))) := by simp only [bin, if_true]
theorem bin_neq {k : IntKind} {a b : Int} : bin .int .neq (.int k a) (.int k b) = some (.bool (!decide (a = b))) := by simp only [bin, if_true]
theorem bin_lss {k : IntKind} {a b : Int} : bin .int .lss (.int k a) (.int k b) = some (.bool (decide (a < b))) := by simp only [bin, if_true]
theorem bin_leq {k : IntKind} {a b : Int} : bin .int .leq (.int k a) (.int k b) = some (.bool (decide (a ≤ b))) := by simp only [bin, if_true]
theorem bin_gtr {k : IntKind} {a b : Int} : bin .int .gtr (.int k a) (.int k b) = some (.bool (decide (b < a))) := by simp only [bin, if_true]
theorem bin_geq {k : IntKind} {a b : Int} : bin .int .geq (.int k a) (.int k b) = some (.bool (decide (b ≤ a))) := by simp only [bin, if_true]
theorem bin_seql {a b : List UInt8} : bin .str .eql (.str a) (.str b) = some (.bool (decide (a = b))) := rfl
theorem bin_sneq {a b : List UInt8} : bin .str .neq (.str a) (.str b) = some (.bool (!decide (a = b))) := rfl
theorem un_not {b : Bool} : un .not (.bool b) = some (.bool (!b)) := rfl
theorem pick_t {a b : Bool} : AV.pick true (.bool a) (.bool b) = .bool a := rfl
theorem pick_f {a b : Bool} : AV.pick false (.bool a) (.bool b) = .bool b := rfl

/-- A slice of elements of esz cells reads so. -/
def Rd (st : St) (v : AV) (esz : Nat) (cells : List AV) : Prop :=
  (v = .nils ∧ cells = []) ∨ ∃ b o len cap e cs, v = .slice b o len cap e esz ∧ st.cells b = some cs ∧ cells.length = len * esz ∧ (cs.drop o).take (len * esz) = cells ∧ len ≤ cap

/-- An own slice. -/
def SlP (v : AV) (esz : Nat) (cells : List AV) : Prp :=
  por (pur (v = .nils ∧ cells = [])) (ex fun b => ex fun n => ex fun e => ex fun cs => star (pt b (.cells false cs)) (pur (v = .slice b 0 n n e esz ∧ cells.length = n * esz ∧ cs.take (n * esz) = cells)))
/-- A slice that nobody turns any more. -/
def ShP (v : AV) (esz : Nat) (cells : List AV) : Prp :=
  por (pur (v = .nils ∧ cells = [])) (ex fun b => ex fun o => ex fun n => ex fun c => ex fun e => ex fun cs => ex fun ro => star (sh b (.cells ro cs)) (pur (v = .slice b o n c e esz ∧ cells.length = n * esz ∧ (cs.drop o).take (n * esz) = cells ∧ n ≤ c)))

theorem pers_por {P Q : Prp} (h : Pers P) (k : Pers Q) : Pers (por P Q) := fun o o' s e => e.elim (fun e => .inl (h _ _ _ e)) (fun e => .inr (k _ _ _ e))
theorem pers_ShP (v esz cells) : Pers (ShP v esz cells) := pers_por (pers_pur _) (pers_ex fun _ => pers_ex fun _ => pers_ex fun _ => pers_ex fun _ => pers_ex fun _ => pers_ex fun _ => pers_ex fun _ => pers_star (pers_sh _ _) (pers_pur _))

section
variable {st st' : St} {F : List Prp} {v : AV} {esz : Nat} {cells xs ys : List AV} {K : Kont} {b i : Nat}

theorem Sep.ofSl (h : Sep st (SlP v esz cells :: F)) : (v = .nils ∧ cells = [] ∧ Sep st F) ∨ ∃ b n e cs, v = .slice b 0 n n e esz ∧ cells.length = n * esz ∧ cs.take (n * esz) = cells ∧ Sep st (pt b (.cells false cs) :: F) := by
  rcases h.ofOr with h | h
  · exact .inl ⟨h.ofPur.1.1, h.ofPur.1.2, h.ofPur.2⟩
  · obtain ⟨b, h⟩ := h.ofEx
    obtain ⟨n, h⟩ := h.ofEx
    obtain ⟨e, h⟩ := h.ofEx
    obtain ⟨cs, h⟩ := h.ofEx
    obtain ⟨⟨h1, h2, h3⟩, h⟩ := h.ofStar.swap.ofPur
    exact .inr ⟨b, n, e, cs, h1, h2, h3, h⟩
theorem Sep.toSl {b n : Nat} {e : Bool} {cs : List AV} (h : Sep st (pt b (.cells false cs) :: F)) (h1 : cells.length = n * esz) (h2 : cs.take (n * esz) = cells) : Sep st (SlP (.slice b 0 n n e esz) esz cells :: F) :=
  .toOrR (.toEx b (.toEx n (.toEx e (.toEx cs (Sep.toStar (Sep.swap (Sep.toPur h ⟨rfl, h1, h2⟩)))))))
theorem Sep.nilSl (h : Sep st F) : Sep st (SlP .nils esz [] :: F) := .toOrL (h.toPur ⟨rfl, rfl⟩)

theorem Sep.ofSh (h : Sep st (ShP v esz cells :: F)) : (v = .nils ∧ cells = [] ∧ Sep st F) ∨ ∃ b o n c e cs ro, v = .slice b o n c e esz ∧ cells.length = n * esz ∧ (cs.drop o).take (n * esz) = cells ∧ n ≤ c ∧ Sep st (sh b (.cells ro cs) :: F) := by
  rcases h.ofOr with h | h
  · exact .inl ⟨h.ofPur.1.1, h.ofPur.1.2, h.ofPur.2⟩
  · obtain ⟨b, h⟩ := h.ofEx
    obtain ⟨o, h⟩ := h.ofEx
    obtain ⟨n, h⟩ := h.ofEx
    obtain ⟨c, h⟩ := h.ofEx
    obtain ⟨e, h⟩ := h.ofEx
    obtain ⟨cs, h⟩ := h.ofEx
    obtain ⟨ro, h⟩ := h.ofEx
    obtain ⟨⟨h1, h2, h3, h4⟩, h⟩ := h.ofStar.swap.ofPur
    exact .inr ⟨b, o, n, c, e, cs, ro, h1, h2, h3, h4, h⟩
theorem Sep.toSh {b o n c : Nat} {e ro : Bool} {cs : List AV} (h : Sep st (sh b (.cells ro cs) :: F)) (h1 : cells.length = n * esz) (h2 : (cs.drop o).take (n * esz) = cells) (h3 : n ≤ c) : Sep st (ShP (.slice b o n c e esz) esz cells :: F) :=
  .toOrR (.toEx b (.toEx o (.toEx n (.toEx c (.toEx e (.toEx cs (.toEx ro (Sep.toStar (Sep.swap (Sep.toPur h ⟨rfl, h1, h2, h3⟩))))))))))
theorem Sep.nilSh (h : Sep st F) : Sep st (ShP .nils esz [] :: F) := .toOrL (h.toPur ⟨rfl, rfl⟩)

theorem Sep.slSh (h : Sep st (SlP v esz cells :: F)) : Sep st (ShP v esz cells :: F) := by
  rcases h.ofSl with ⟨rfl, rfl, h'⟩ | ⟨b, n, e, cs, rfl, h1, h2, h'⟩
  · exact h'.nilSh
  · exact h'.freeze.toSh h1 (by simpa using h2) (Nat.le_refl _)

theorem Sep.rd (h : Sep st (SlP v esz cells :: F)) : Rd st v esz cells := by
  rcases h.ofSl with ⟨rfl, rfl, h⟩ | ⟨b, n, e, cs, rfl, h1, h2, h⟩
  · exact .inl ⟨rfl, rfl⟩
  · exact .inr ⟨b, 0, n, n, e, cs, rfl, cells_of h.get, h1, by simpa using h2, Nat.le_refl _⟩
theorem Sep.rdS (h : Sep st (ShP v esz cells :: F)) : Rd st v esz cells := by
  rcases h.ofSh with ⟨rfl, rfl, h⟩ | ⟨b, o, n, c, e, cs, ro, rfl, h1, h2, h3, h⟩
  · exact .inl ⟨rfl, rfl⟩
  · exact .inr ⟨b, o, n, c, e, cs, rfl, cells_of h.getS, h1, h2, h3⟩

theorem Rd.nil (st : St) (esz) : Rd st .nils esz [] := .inl ⟨rfl, rfl⟩
theorem Rd.ext (h : Rd st v esz cells) (f : Fr [] st st') : Rd st' v esz cells := by
  rcases h with h | ⟨b, o, len, cap, e, cs, rfl, h1, h2, h3, h4⟩
  · exact .inl h
  · obtain ⟨ro, hb⟩ := St.cells_of h1
    exact .inr ⟨b, o, len, cap, e, cs, rfl, cells_of (f.keep hb (by simp)), h2, h3, h4⟩
theorem Rd.len (h : Rd st v esz cells) {n : Nat} (hn : cells.length = n * esz) (he : 0 < esz) {K : AV → Prop} (hk : K (.int .i64 n)) : LenOk .slice st v K := by
  rcases h with ⟨rfl, rfl⟩ | ⟨b, o, len, cap, e, cs, rfl, h1, h2, h3, h4⟩
  · have : n = 0 := by
      rcases Nat.mul_eq_zero.1 hn.symm with h | h
      · exact h
      · omega
    subst this; exact hk
  · have : len = n := Nat.eq_of_mul_eq_mul_right he (h2.symm.trans hn)
    subst this; exact hk
theorem Rd.lenOf (h : Rd st v esz cells) {n : Nat} (hn : cells.length = n * esz) (he : 0 < esz) {K : AV → Prop} (hk : K (.int .i64 n)) : Len st v K := (Chk_iff.1 (h.len hn he (K := K) hk)).2
theorem Rd.addr (h : Rd st v esz cells) {k n : Nat} (hn : cells.length = n * esz) (he : 0 < esz) (hk : k < n) {K : AV → Prop}
    (hK : ∀ b o ro cs, v ≠ .nils → st.hp[b]? = some (.cells ro cs) → (cs.drop o).take esz = (cells.drop (k * esz)).take esz → K (.ptr b o)) : Iaddr v (.int .i64 k) none esz K := by
  rcases h with ⟨rfl, rfl⟩ | ⟨b, o, len, cap, e, cs, rfl, h1, h2, h3, h4⟩
  · have : n = 0 := by
      rcases Nat.mul_eq_zero.1 hn.symm with h | h
      · exact h
      · omega
    omega
  · have : len = n := Nat.eq_of_mul_eq_mul_right he (h2.symm.trans hn)
    subst this
    obtain ⟨ro, hb⟩ := St.cells_of h1
    refine ⟨by omega, by simpa using hk, rfl, ?_⟩
    refine hK b _ ro cs (by simp) hb ?_
    rw [← h3, List.drop_take, List.take_take, List.drop_drop]
    have : esz ≤ len * esz - k * esz := by
      rw [← Nat.sub_mul]; exact Nat.le_mul_of_pos_left _ (by omega)
    rw [Nat.min_eq_left this]; simp
/-- One cell of an element. -/
theorem Rd.at1 (h : Rd st v 1 cells) {k : Nat} {x : AV} (hx : cells[k]? = some x) (hK : K x st) : Iaddr v (.int .i64 k) none 1 fun a => Ld st a false 1 K := by
  have hk : k < cells.length := (List.getElem?_eq_some_iff.1 hx).1
  refine h.addr (n := cells.length) (by simp) (by omega) hk fun b o ro cs _ hb hc => ?_
  refine ld_cell hb ?_ hK
  have := congrArg (·[0]?) hc
  simpa [List.getElem?_take, hx] using this
theorem Rd.at1d (h : Rd st v 1 cells) {k : Nat} {x : AV} {K : AV → Kont} (hx : cells[k]? = some x) (hK : ∀ a, K a x st) : Iaddr v (.int .i64 k) none 1 fun a => Ld st a false 1 (K a) := by
  have hk : k < cells.length := (List.getElem?_eq_some_iff.1 hx).1
  refine h.addr (n := cells.length) (by simp) (by omega) hk fun b o ro cs _ hb hc => ?_
  refine ld_cell hb ?_ (hK _)
  have := congrArg (·[0]?) hc
  simpa [List.getElem?_take, hx] using this
/-- A whole element. -/
theorem Rd.atA (h : Rd st v esz cells) {k n : Nat} {ws : List AV} (hn : cells.length = n * esz) (he : 0 < esz) (hk : k < n) (hw : (cells.drop (k * esz)).take esz = ws) (hK : K (.agg ws) st) : Iaddr v (.int .i64 k) none esz fun a => Ld st a true esz K := by
  refine h.addr hn he hk fun b o ro cs _ hb hc => ?_
  have hl : ws.length = esz := by
    rw [← hw]; simp
    have := Nat.mul_le_mul_right esz (show k + 1 ≤ n from hk)
    rw [Nat.add_mul] at this; omega
  simp only [Ld, cells_of hb, OptK_some]
  have := ldN_of (cs := cs) (vs := ws) (o := o) (K := fun vs => K (.agg vs) st) (by rw [hl, hc, hw]) hK
  rw [hl] at this; exact this

theorem all_one_ints (xs : List Int) : (xs.map (AV.int .i64)).all AV.one = true := by simp [AV.one]
theorem all_one_strs (xs : List (List UInt8)) : (xs.map AV.str).all AV.one = true := by simp [AV.one]

theorem Rd.src (r : Rd st v esz cells) (he : 0 < esz) : ∃ n, cells.length = n * esz ∧ srcCells st v esz = some (n, cells) := by
  rcases r with ⟨rfl, rfl⟩ | ⟨b, o, len, cap, e, cs, rfl, h1, h2, h3, h4⟩
  · exact ⟨0, by simp, rfl⟩
  · refine ⟨len, h2, ?_⟩
    simp only [srcCells, if_true, h1]
    by_cases h0 : len = 0
    · subst h0; rw [if_pos rfl]; simp at h2; simp [h2]
    · rw [if_neg h0, h3]
      have : len * esz ≤ cs.length - o := by have := congrArg List.length h3; rw [h2, List.length_take, List.length_drop] at this; omega
      have : 0 < len * esz := Nat.mul_pos (by omega) he
      rw [if_pos (by omega)]

/-- What can be read is appended. -/
theorem Sep.appendR {u : AV} {bytes : Nat} (h : Sep st (SlP v esz cells :: F)) (r : Rd st u esz ys) (he : 0 < esz) (hone : ys.all AV.one = true) (hroom : (cells.length + ys.length) * bytes < 2 ^ 40) (hb : 0 < bytes)
    (hK : ∀ v' st', v'.one = true → Sep st' (SlP v' esz (cells ++ ys) :: F) → K v' st') : Append st v u esz bytes K := by
  obtain ⟨n, hy, hsrc⟩ := r.src he
  simp only [Append, hsrc, OptK_some]
  refine ⟨hone, ?_⟩
  have hle : n ≤ ys.length := by rw [hy]; exact Nat.le_mul_of_pos_right _ he
  have hb2 : ∀ m, m ≤ cells.length + ys.length → m < 2 ^ 40 ∧ m * bytes ≤ 2 ^ 46 := fun m hm => by
    have h1 := Nat.mul_le_mul_right bytes hm
    have h2 : m ≤ m * bytes := Nat.le_mul_of_pos_right _ hb
    omega
  by_cases hn : n = 0
  · subst hn
    have : ys = [] := by simpa using hy
    subst this
    rw [List.append_nil] at hK
    rcases h.ofSl with ⟨rfl, rfl, h'⟩ | ⟨b, len, e, cs, rfl, h1, h2, h'⟩
    · exact hK _ _ rfl h
    · exact ⟨by trivial, hK _ _ rfl h⟩
  have hn0 : (n == 0) = false := by simpa using hn
  rcases h.ofSl with ⟨rfl, rfl, h'⟩ | ⟨b, len, e, cs, rfl, h1, h2, h'⟩
  · simp only [hn0, Br_false]
    refine ⟨by have := hb2 n (by omega); simp [roomOk]; omega, ?_⟩
    refine hK _ _ rfl ?_
    exact (h'.push _).toSl (by simpa using hy) (by simp [← hy])
  · have hlen : len ≤ cells.length := by rw [h1]; exact Nat.le_mul_of_pos_right _ he
    have hlt : decide (len + n ≤ len) = false := by simp; omega
    simp only [hn0, Br_false, hlt, true_and, rwCells_of h'.get, OptK_some]
    have hcl : len * esz ≤ cs.length := by have := congrArg List.length h2; simp at this; omega
    refine ⟨by have := hb2 (len + n) (by omega); simp [roomOk]; omega, by omega, ?_⟩
    refine hK _ _ rfl ?_
    have e1 : (cs.drop 0).take (len * esz) ++ ys = cells ++ ys := by rw [List.drop_zero, h2]
    rw [e1]
    have fin : ∀ s, Sep s F → Sep (s.push (.cells false (cells ++ ys))) (SlP (.slice s.hp.length 0 (len + n) (len + n) false esz) esz (cells ++ ys) :: F) := fun s hs =>
      (hs.push _).toSl (by simp [h1, hy, Nat.add_mul]) (List.take_of_length_le (by simp [h1, hy, Nat.add_mul]))
    cases e with
    | true => exact fin st h'.tail
    | false =>
      have := fin (st.setB b .dead) (h'.set .dead).tail
      simpa using this

/-- What is appended out of a literal. -/
theorem Sep.append {t n bytes : Nat} {e' : Bool} (h : Sep st (SlP v esz cells :: pt t (.cells false ys) :: F)) (he : 0 < esz) (hy : ys.length = n * esz) (hn : 0 < n) (hone : ys.all AV.one = true) (hroom : (cells.length + ys.length) * bytes < 2 ^ 40) (hb : 0 < bytes)
    (hK : ∀ v' st', v'.one = true → Sep st' (SlP v' esz (cells ++ ys) :: pt t (.cells false ys) :: F) → K v' st') : Append st v (.slice t 0 n n e' esz) esz bytes K :=
  h.appendR (.inr ⟨t, 0, n, n, e', ys, rfl, cells_of h.tail.get, hy, by simp [← hy], Nat.le_refl _⟩) he hone hroom hb hK

/-- A slice's first n, and no room behind them. -/
theorem Sep.cutSl (h : Sep st (SlP v esz cells :: F)) {n m : Nat} (hm : cells.length = m * esz) (he : 0 < esz) (hn : n ≤ m) : ∃ v', sliceSl v esz 0 (some (n : Int)) (some (n : Int)) = some v' ∧ v'.one = true ∧ Sep st (SlP v' esz (cells.take (n * esz)) :: F) := by
  rcases h.ofSl with ⟨rfl, rfl, h'⟩ | ⟨b, len, e, cs, rfl, h1, h2, h'⟩
  · have : m = 0 := by
      rcases Nat.mul_eq_zero.1 hm.symm with h | h
      · exact h
      · omega
    have : n = 0 := by omega
    subst this
    exact ⟨.nils, by simp [sliceSl], rfl, by simpa using h'.nilSl⟩
  · have : len = m := Nat.eq_of_mul_eq_mul_right he (h1.symm.trans hm)
    subst this
    refine ⟨.slice b 0 n n true esz, ?_, rfl, h'.toSl ?_ ?_⟩
    · simp [sliceSl]; omega
    · rw [List.length_take, h1, Nat.min_eq_left (Nat.mul_le_mul_right _ hn)]
    · rw [← h2, List.take_take, Nat.min_eq_left (Nat.mul_le_mul_right _ hn)]

theorem Sep.slOne (h : Sep st (SlP v esz cells :: F)) : v.one = true := by
  rcases h.ofSl with ⟨rfl, rfl, h'⟩ | ⟨b, len, e, cs, rfl, h1, h2, h'⟩ <;> rfl
theorem Rd.one (h : Rd st v esz cells) : v.one = true := by
  rcases h with ⟨rfl, rfl⟩ | ⟨b, o, len, cap, e, cs, rfl, _⟩ <;> rfl


/-- One cell of an own slice is written. -/
theorem Sep.stoSl {x : AV} {k : Nat} (h : Sep st (SlP v 1 cells :: F)) (hk : k < cells.length) (hx : x.one = true) (hK : ∀ st', Sep st' (SlP v 1 (cells.set k x) :: F) → K (.tup []) st') : Iaddr v (.int .i64 k) none 1 fun a => Sto st a x 1 K := by
  rcases h.ofSl with ⟨rfl, rfl, h'⟩ | ⟨b, n, e, cs, rfl, h1, h2, h'⟩
  · simp at hk
  · have hn : n = cells.length := by omega
    subst hn
    rw [Nat.mul_one] at h2
    have hlen : cells.length ≤ cs.length := by have := congrArg List.length h2; rw [List.length_take] at this; omega
    refine ⟨by omega, by simpa using hk, rfl, ?_⟩
    simp only [Int.toNat_natCast, Nat.mul_one, Nat.zero_add]
    refine h'.sto 0 rfl hx (by omega) fun s h => hK s ?_
    refine Sep.toSl h (by simp) ?_
    rw [Nat.mul_one, List.take_set, h2]

theorem ints_one {x : Int} : (AV.int .i64 x).one = true := rfl

theorem strs_of_rd {xs : List (List UInt8)} (r : Rd st v 1 (xs.map .str)) : Strs st v xs := by
  rcases r with ⟨rfl, h⟩ | ⟨b, o, len, cap, e, cs, rfl, h1, h2, h3, h4⟩
  · exact .inl ⟨rfl, by simpa using h⟩
  · exact .inr ⟨b, o, len, cap, e, cs, rfl, h1, by simpa using h2, by simpa using h3⟩

/-- A slice's first n, and what is behind them as room. -/
theorem Rd.cut (r : Rd st v esz cells) {n m : Nat} (hm : cells.length = m * esz) (he : 0 < esz) (hn : n ≤ m) : ∃ v', sliceSl v esz 0 (some (n : Int)) none = some v' ∧ Rd st v' esz (cells.take (n * esz)) := by
  rcases r with ⟨rfl, rfl⟩ | ⟨b, o, len, cap, e, cs, rfl, h1, h2, h3, h4⟩
  · have : m = 0 := by
      rcases Nat.mul_eq_zero.1 hm.symm with h | h
      · exact h
      · omega
    have : n = 0 := by omega
    subst this
    exact ⟨.nils, by simp [sliceSl], by simpa using Rd.nil st esz⟩
  · have : len = m := Nat.eq_of_mul_eq_mul_right he (h2.symm.trans hm)
    subst this
    refine ⟨.slice b o n cap e esz, ?_, .inr ⟨b, o, n, cap, e, cs, rfl, h1, ?_, ?_, by omega⟩⟩
    · simp only [sliceSl, Option.getD_some]
      rw [if_pos ⟨by trivial, by omega, by omega, by omega⟩]; simp
    · rw [List.length_take, hm, Nat.min_eq_left (Nat.mul_le_mul_right _ hn)]
    · rw [← h3, List.take_take, Nat.min_eq_left (Nat.mul_le_mul_right _ hn)]

/-! Ranges over a map -/
variable {es : List (AV × AV)} {bs seen : List Nat} {cl it : Nat} {k x : AV}

theorem Sep.rng (h : Sep st (pt b (.amap es bs cl) :: F)) (hK : ∀ it st', Sep st' (pt it (.iter (some b) cl [] cl) :: pt b (.amap es bs cl) :: F) → K (.ptr it 0) st') : Rng st (.map b) K := by
  have hm : st.mapFull b = some (es, bs, cl) := by simp [St.mapFull, h.get]
  simp only [Rng, hm, OptK_some]
  exact hK _ _ (h.push _)
theorem Sep.nxt (h : Sep st (pt it (.iter (some b) cl seen cl) :: pt b (.amap es bs cl) :: F)) (hlt : ∀ s ∈ bs, s < cl) (hend : (∀ s ∈ bs, s ∈ seen) → K (.tup [.bool false]) st)
    (hstep : ∀ (i : Nat) (k x : AV) (s : Nat), es[i]? = some (k, x) → bs[i]? = some s → s ∉ seen → ∀ st', Sep st' (pt it (.iter (some b) cl (seen ++ [s]) cl) :: pt b (.amap es bs cl) :: F) → K (.tup [.bool true, k, x]) st') : Nxt st (.ptr it 0) K := by
  have hm : st.mapFull b = some (es, bs, cl) := by simp [St.mapFull, h.tail.get]
  have hi : st.iterAt it = some (some b, cl, seen, cl) := by simp [St.iterAt, h.get]
  simp only [Nxt, hi, OptK_some, hm]
  refine ⟨fun s hs => ⟨hlt s hs, hlt s hs⟩, hend, fun i k x s h1 h2 h3 => hstep i k x s h1 h2 h3 _ (h.set _)⟩
theorem Sep.ent {s i : Nat} (h : Sep st (pt it (.iter (some b) cl (seen ++ [s]) cl) :: pt b (.amap es bs cl) :: F)) (hi : bs[i]? = some s) (nd : bs.Nodup) (he : es[i]? = some (k, x)) {K : AV → Prop} (hk : K (.tup [k, x])) : Ent st (.ptr it 0) K := by
  have hm : st.mapFull b = some (es, bs, cl) := by simp [St.mapFull, h.tail.get]
  have hit : st.iterAt it = some (some b, cl, seen ++ [s], cl) := by simp [St.iterAt, h.get]
  obtain ⟨hlt, rfl⟩ := List.getElem?_eq_some_iff.1 hi
  have hix : bs.idxOf? bs[i] = some i := by
    rw [List.idxOf?_eq_some_iff]
    refine ⟨hlt, by simp, fun j hj => ?_⟩
    have := List.pairwise_iff_getElem.1 nd j i (by omega) hlt hj
    simpa using this
  simp only [Ent, hit, OptK_some, hm, List.getLast?_append, List.getLast?_singleton, Option.some_or, hix, he]
  exact ⟨by trivial, hk⟩
end
end Go.Ab
