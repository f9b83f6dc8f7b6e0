/- vec: what its functions do. -/
import Derived.Test.YtoehcgeckmoofaaGreatDoorDa
set_option linter.unusedVariables false
set_option linter.unusedSimpArgs false
namespace Go.Ab
open Go Go.RowKit Go.Proofs

def ints (xs : List Int) : List AV := xs.map (AV.int .i64)
theorem ints_len (xs : List Int) : (ints xs).length = xs.length := by simp [ints]
theorem intsAt {xs : List Int} {k : Nat} (h : k < xs.length) : (ints xs)[k]? = some (.int .i64 xs[k]) := by simp [ints, h]

def getV (xs : List Int) (i : Int) : Int := if i < 0 then 0 else xs.getD i.toNat 0
theorem getV_nat (xs : List Int) (k : Nat) : getV xs k = xs.getD k 0 := by simp [getV]; omega
def coversV (a b : List Int) : Bool := (List.range (max a.length b.length)).all fun i => decide (b.getD i 0 ≤ a.getD i 0)
def sameV (a b : List Int) : Bool := coversV a b && coversV b a

theorem maxAV_nat (a b : Nat) : maxAV [.int .i64 a, .int .i64 b] = some (.int .i64 (max a b : Nat)) := by
  simp only [maxAV, if_true]; congr 2; split <;> omega

section
variable {w0 : World} {st : St} {Q : Kont} {F : List Prp} {v u : AV} {xs ys : List Int}

theorem sp_Get {i : Int} (r : Rd st v 1 (ints xs)) (hq : Q (.int .i64 (getV xs i)) st) : Cal w0 n_vec_Get [v, .int .i64 i] st Q := by
  refine ok_vec_Get ?_
  unfold vc_vec_Get
  refine Jn_of (fun k => k (.bool (decide (i < 0 ∨ (xs.length : Int) ≤ i))) st) ?_ fun k hk => ?_
  · simp only [AsBool_bool]
    refine Br_iff.2 ⟨fun e => ?_, fun e => ?_⟩
    · have e : i < 0 ∨ (xs.length : Int) ≤ i := by simpa using e
      have : getV xs i = 0 := by
        unfold getV; split
        · rfl
        · rw [List.getD_eq_getElem?_getD, List.getElem?_eq_none (by omega)]; rfl
      rw [← this]; exact hq
    · have e : ¬ (i < 0 ∨ (xs.length : Int) ≤ i) := by simpa using e
      obtain ⟨k, rfl⟩ : ∃ k : Nat, i = k := ⟨i.toNat, by omega⟩
      have hk : k < xs.length := by omega
      refine r.at1 (intsAt hk) ?_
      rw [getV_nat, List.getD_eq_getElem?_getD, List.getElem?_eq_getElem hk] at hq; exact hq
  · refine Br_iff.2 ⟨fun e => ?_, fun e => ?_⟩
    · refine r.len (n := xs.length) (by simp [ints]) (by omega) ?_
      have e : ¬ i < 0 := by simpa using e
      simp only [bin, if_true, OptK_some, AV.pick, cond_false]
      have : decide (i < 0 ∨ (xs.length : Int) ≤ i) = decide ((xs.length : Int) ≤ i) := by simp [e]
      rw [← this]; exact hk
    · have e : i < 0 := by simpa using e
      simpa [e] using hk

theorem sp_Covers (r : Rd st v 1 (ints xs)) (r' : Rd st u 1 (ints ys)) (hx : xs.length < 2 ^ 62) (hy : ys.length < 2 ^ 62) (hq : Q (.bool (coversV xs ys)) st) : Cal w0 n_vec_Covers [v, u] st Q := by
  refine ok_vec_Covers ?_
  unfold vc_vec_Covers
  refine r.len (n := xs.length) (by simp [ints]) (by omega) ?_
  refine r'.len (n := ys.length) (by simp [ints]) (by omega) ?_
  rw [maxAV_nat, OptK_some]
  generalize hm : max xs.length ys.length = m
  have hm62 : m < 2 ^ 62 := by omega
  refine ⟨fun n x s => ∃ k : Nat, n = m - k ∧ k ≤ m ∧ x = [v, u, .int .i64 m, .int .i64 k] ∧ s = st ∧ (∀ i, i < k → ys.getD i 0 ≤ xs.getD i 0), m, ⟨0, rfl, by omega, rfl, rfl, fun i hi => by omega⟩, ?_⟩
  rintro n x s ⟨k, rfl, hk, rfl, rfl, hall⟩
  simp only [List.getD_cons_zero, List.getD_cons_succ, bin, OptK_some, if_true, AsBool_bool]
  refine Br_iff.2 ⟨fun e => ?_, fun e => ?_⟩
  · have hlt : k < m := by simpa using e
    refine sp_Get r ?_
    refine sp_Get r' ?_
    simp only [bin, OptK_some, if_true, AsBool_bool, getV_nat]
    refine Br_iff.2 ⟨fun e => ?_, fun e => ?_⟩
    · have e : xs.getD k 0 < ys.getD k 0 := by simpa using e
      have : coversV xs ys = false := by
        unfold coversV; rw [hm]
        simp only [List.all_eq_false, List.mem_range]
        exact ⟨k, hlt, by simp; simpa using e⟩
      rw [← this]; exact hq
    · have e : ys.getD k 0 ≤ xs.getD k 0 := by simpa using e
      refine ⟨m - (k + 1), by omega, k + 1, rfl, by omega, ?_, by trivial, fun i hi => ?_⟩
      · rw [wrap_id (by omega) (by omega)]; congr
      · rcases Nat.lt_or_ge i k with h | h
        · exact hall i h
        · have : i = k := by omega
          rw [this]; exact e
  · have : ¬ k < m := by simpa using e
    have : k = m := by omega
    subst this
    have : coversV xs ys = true := by
      unfold coversV; rw [hm]
      simp only [List.all_eq_true, List.mem_range, decide_eq_true_eq]
      exact hall
    rw [← this]; exact hq

theorem sp_Same (r : Rd st v 1 (ints xs)) (r' : Rd st u 1 (ints ys)) (hx : xs.length < 2 ^ 62) (hy : ys.length < 2 ^ 62) (hq : Q (.bool (sameV xs ys)) st) : Cal w0 n_vec_Same [v, u] st Q := by
  refine ok_vec_Same ?_
  unfold vc_vec_Same
  refine sp_Covers r r' hx hy ?_
  simp only [AsBool_bool]
  refine Br_iff.2 ⟨fun e => ?_, fun e => ?_⟩
  · refine sp_Covers r' r hy hx ?_
    have e : coversV xs ys = true := by simpa using e
    simpa [AV.pick, sameV, e] using hq
  · have e : coversV xs ys = false := by simpa using e
    simpa [sameV, e] using hq

/-- A vector that can be read wherever these chunks lie. -/
def RdIn (F : List Prp) (v : AV) (xs : List Int) : Prop := ∀ st, Sep st F → Rd st v 1 (ints xs)
theorem RdIn.nil (F) : RdIn F .nils [] := fun st _ => .nil st 1
theorem RdIn.cons {P : Prp} (h : RdIn F v xs) : RdIn (P :: F) v xs := fun st k => h st k.tail

theorem sp_CloneV (h : Sep st F) (r : RdIn F v xs) (hx : xs.length < 2 ^ 30) (hq : ∀ v' st', v'.one = true → Sep st' (SlP v' 1 (ints xs) :: F) → Q v' st') : Cal w0 n_slices_Clone_vec_Vec_int [v] st Q := by
  refine ok_slices_Clone_vec_Vec_int ?_
  unfold vc_slices_Clone_vec_Vec_int
  have r0 := r st h
  have hv : v = .nils ∨ ∃ b o len cap e, v = .slice b o len cap e 1 := by
    rcases r0 with ⟨rfl, _⟩ | ⟨b, o, len, cap, e, cs, rfl, _⟩
    · exact .inl rfl
    · exact .inr ⟨b, o, len, cap, e, rfl⟩
  rcases hv with rfl | ⟨b, o, len, cap, e, rfl⟩
  · simp only [bin, OptK_some, AsBool_bool, Br_true]
    refine hq _ _ rfl ?_
    rcases r0 with ⟨_, hx0⟩ | ⟨b, o, len, cap, e, cs, h', _⟩
    · rw [hx0]; exact h.nilSl
    · cases h'
  · simp only [bin, OptK_some, AsBool_bool, Br_false]
    refine h.psh fun s h => ?_
    have h : Sep s (SlP (.slice st.hp.length 0 0 0 true 1) 1 [] :: F) := h.toSl (by simp) (by simp)
    refine h.appendR (r s h.tail) (by omega) (all_one_ints xs) (by simp [ints]; omega) (by omega) fun v' s' hv' h => hq v' s' hv' h

def withV (xs : List Int) (i : Nat) (n : Int) : List Int := (xs ++ List.replicate (i + 1 - xs.length) 0).set i n

theorem sp_With {i : Nat} {n : Int} (h : Sep st F) (r : RdIn F v xs) (hx : xs.length < 2 ^ 30) (hi : i ≤ 63) (hq : ∀ v' st', v'.one = true → Sep st' (SlP v' 1 (ints (withV xs i n)) :: F) → Q v' st') : Cal w0 n_vec_With [v, .int .i64 i, .int .i64 n] st Q := by
  refine ok_vec_With ?_
  unfold vc_vec_With
  refine sp_CloneV h r hx fun v' s hv' h => ?_
  refine Jn_of (fun k => k (.bool false) s) ?_ fun k hk => ?_
  · simp only [AsBool_bool, Br_false]
    refine ⟨fun m x s => ∃ (j : Nat) (u : AV), m = i + 1 - xs.length - j ∧ j ≤ i + 1 - xs.length ∧ x = [.int .i64 i, .int .i64 n, u] ∧ Sep s (SlP u 1 (ints (xs ++ List.replicate j 0)) :: F), _, ⟨0, v', rfl, by omega, rfl, by simpa using h⟩, ?_⟩
    rintro m x s ⟨j, u, rfl, hj, rfl, h⟩
    simp only [List.getD_cons_zero, List.getD_cons_succ]
    refine h.rd.len (n := xs.length + j) (by simp [ints]) (by omega) ?_
    simp only [bin, OptK_some, if_true, AsBool_bool]
    refine Br_iff.2 ⟨fun e => ?_, fun e => ?_⟩
    · have e : xs.length + j ≤ i := by have : ((xs.length + j : Nat) : Int) ≤ i := of_decide_eq_true e; omega
      refine h.psh fun s h => ?_
      refine h.swap.append (ys := [.int .i64 0]) (by omega) (by simp) (by omega) rfl (by simp [ints]; omega) (by omega) fun v2 s hv2 h => ?_
      refine ⟨_, ?_, j + 1, v2, rfl, by omega, rfl, ?_⟩
      · omega
      · have : ints (xs ++ List.replicate j 0) ++ [.int .i64 0] = ints (xs ++ List.replicate (j + 1) 0) := by
          simp [ints, List.replicate_succ', List.map_append]
        rw [← this]; exact h.swap.tail
    · have e : ¬ xs.length + j ≤ i := by
        intro hh; have : ¬ ((xs.length + j : Nat) : Int) ≤ i := of_decide_eq_false e; omega
      have hj' : j = i + 1 - xs.length := by omega
      subst hj'
      refine h.stoSl (by simp [ints]; omega) rfl fun s' h => ?_
      refine hq u s' h.slOne ?_
      have : (ints (xs ++ List.replicate (i + 1 - xs.length) 0)).set i (.int .i64 n) = ints (withV xs i n) := by simp [ints, withV, List.map_set]
      rw [← this]; exact h
  · have e1 : (decide ((i : Int) < 0) == false) = true := by simp
    have e2 : decide ((63 : Int) < i) = false := by simp; omega
    rw [e1, e2]; exact hk

/-! All -/
def pairs (xs : List Int) : List (Nat × Int) := (xs.mapIdx fun i n => (i, n)).filter fun p => decide (p.2 ≠ 0)
def pairItems (xs : List Int) : List (List AV) := (pairs xs).map fun p => [.int .i64 p.1, .int .i64 p.2]

/-- A cell that holds a vector that can be read. -/
def CapP (c : Nat) (v : AV) (xs : List Int) (R : Prp) : Prp := star (sh c (.cells false [v])) R

theorem sp_All {R : Prp} (h : Sep st (R :: F)) (hv : v.one = true) (hq : ∀ c st', Sep st' (CapP c v xs R :: F) → Q (.func n_vec_All_1 [] [.ptr c 0]) st') : Cal w0 n_vec_All [v] st Q := by
  refine ok_vec_All ?_
  unfold vc_vec_All
  have hc : AV.cellsOk v = some [v] := by cases v <;> simp_all [AV.one, AV.cellsOk]
  rw [hc, OptK_some]
  exact h.new fun c s h => hq c s h.freeze.toStar

theorem pairs_take (xs : List Int) (k : Nat) (h : k < xs.length) : pairs (xs.take (k + 1)) = pairs (xs.take k) ++ (if xs[k] = 0 then [] else [(k, xs[k])]) := by
  have e : xs.take (k + 1) = xs.take k ++ [xs[k]] := (List.take_append_getElem h).symm
  unfold pairs
  rw [e, List.mapIdx_append, List.filter_append]
  congr 1
  have hl : (xs.take k).length = k := by simp; omega
  simp only [List.mapIdx_cons, List.mapIdx_nil, hl, Nat.zero_add]
  split
  · rename_i hz; simp [hz]
  · rename_i hz; simp [hz]

theorem it_All (w0 : World) (c : Nat) (v : AV) (xs : List Int) (R : Prp) (hr : ∀ F, RdIn (R :: F) v xs) (hx : xs.length < 2 ^ 30) : Iter w0 (.func n_vec_All_1 [] [.ptr c 0]) (CapP c v xs R) (pairItems xs) := by
  intro i st F C Stop Q h hy hq
  refine ok_vec_All_1 ?_
  unfold vc_vec_All_1
  have rd : ∀ {st F}, Sep st (CapP c v xs R :: F) → Rd st v 1 (ints xs) := fun h => hr _ _ h.ofStar.tail
  refine h.swap.ofStar.ldS 0 rfl rfl ?_
  refine (rd h.swap).len (n := xs.length) (by simp [ints]) (by omega) ?_
  refine ⟨fun n x st => ∃ k : Nat, n = xs.length - k ∧ k ≤ xs.length ∧ x = [.yield i, v, .int .i64 xs.length, .int .i64 k] ∧ Sep st (C (pairs (xs.take k)).length :: CapP c v xs R :: F), xs.length, ⟨0, rfl, by omega, rfl, by simpa [pairs] using h⟩, ?_⟩
  rintro n x st1 ⟨k, rfl, hk, rfl, h⟩
  simp only [List.getD_cons_zero, List.getD_cons_succ, bin, OptK_some, if_true, AsBool_bool]
  refine Br_iff.2 ⟨fun e => ?_, fun e => ?_⟩
  · have hlt : k < xs.length := by simpa using e
    have hp := pairs_take xs k hlt
    refine Jn_of (fun k' => ∀ s, Sep s (C (pairs (xs.take (k + 1))).length :: CapP c v xs R :: F) → k' s) (fun s h => ?_) fun k' hk' => ?_
    · refine ⟨xs.length - (k + 1), by omega, k + 1, rfl, by omega, ?_, h⟩
      rw [wrap_id (by omega) (by omega)]; congr
    · refine (rd h.swap).at1 (intsAt hlt) ?_
      simp only [OptK_some, if_true, AsBool_bool]
      refine Br_iff.2 ⟨fun e => ?_, fun e => ?_⟩
      · have e : xs[k] ≠ 0 := by simpa using e
        rw [if_neg e] at hp
        have hlen : (pairs (xs.take (k + 1))).length = (pairs (xs.take k)).length + 1 := by rw [hp]; simp
        have hpre : pairs (xs.take (k + 1)) <+: pairs xs := by
          have e2 : xs = xs.take (k + 1) ++ xs.drop (k + 1) := by simp
          conv => rhs; rw [e2]
          unfold pairs
          rw [List.mapIdx_append, List.filter_append]
          exact List.prefix_append _ _
        have hget : (pairItems xs)[(pairs (xs.take k)).length]? = some [.int .i64 k, .int .i64 xs[k]] := by
          unfold pairItems
          rw [List.getElem?_map]
          have : (pairs xs)[(pairs (xs.take k)).length]? = some (k, xs[k]) := by
            have h1 : (pairs (xs.take (k + 1)))[(pairs (xs.take k)).length]? = some (k, xs[k]) := by rw [hp]; simp
            obtain ⟨t, ht⟩ := hpre
            rw [← ht, List.getElem?_append_left (by rw [hlen]; omega)]; exact h1
          rw [this]; rfl
        obtain ⟨hlt2, hget2⟩ := List.getElem?_eq_some_iff.1 hget
        have hy' := hy _ st1 F hlt2 h
        rw [hget2] at hy'
        refine AYield.mono hy' ?_
        rintro r st2 (⟨rfl, h⟩ | ⟨rfl, h⟩)
        · simp only [un, OptK_some, AV.pick, AsBool_bool, Bool.not_true, Br_false, cond_true]
          refine hk' _ ?_
          rw [hlen]; exact h
        · simp only [un, OptK_some, AV.pick, AsBool_bool, Bool.not_false, Br_true, cond_true]
          exact hq _ (.inr h)
      · have e : xs[k] = 0 := by simpa using e
        rw [if_pos e, List.append_nil] at hp
        refine hk' _ ?_
        rw [hp]; exact h
  · have hlt : ¬ k < xs.length := by simpa using e
    have : k = xs.length := by omega
    subst this
    refine hq _ (.inl ?_)
    simpa [pairItems] using h

/-! Check -/
def badV (n : Int) : Option Int := if n < 0 then some 1 else if 1048576 < n then some 4 else none
def checkV (xs : List Int) (sites : Int) : Int := if sites < 1 ∨ 8 < sites then 1 else if sites < xs.length then 4 else (xs.findSome? badV).getD 0

theorem pairs_find (xs : List Int) : (pairs xs).findSome? (fun p => badV p.2) = xs.findSome? badV := by
  have h0 : badV 0 = none := by simp [badV]
  have key : ∀ (m : Nat) (xs : List Int), ((xs.mapIdx fun i n => (i + m, n)).filter fun p => decide (p.2 ≠ 0)).findSome? (fun p : Nat × Int => badV p.2) = xs.findSome? badV := by
    intro m xs
    induction xs generalizing m with
    | nil => rfl
    | cons x xs ih =>
      simp only [List.mapIdx_cons, List.filter_cons]
      have e : (List.mapIdx (fun i n => (i + 1 + m, n)) xs) = List.mapIdx (fun i n => (i + (1 + m), n)) xs := by congr; funext i n; congr 1; omega
      by_cases hx : x = 0
      · subst hx
        simp only [ne_eq, not_true, decide_false, Bool.false_eq_true, if_false, List.findSome?_cons, h0]
        rw [e]; exact ih (1 + m)
      · simp only [ne_eq, hx, not_false_eq_true, decide_true, if_true, List.findSome?_cons]
        rw [e, ih (1 + m)]
  have := key 0 xs
  simpa [pairs] using this

theorem sp_Check {sites : Int} (h : Sep st F) (r : RdIn F v xs) (hx : xs.length < 2 ^ 30) (hq : ∀ st', Sep st' F → Q (.int .i64 (checkV xs sites)) st') : Cal w0 n_vec_Check [v, .int .i64 sites] st Q := by
  refine ok_vec_Check ?_
  unfold vc_vec_Check
  refine h.new fun e s h => ?_
  refine Jn_of (fun k => ∀ a b c d e f, k (.bool (decide (sites < 1 ∨ 8 < sites))) a b c d e f s) (fun a b c d e' f => ?_) fun k hk => ?_
  · simp only [AsBool_bool]
    refine Br_iff.2 ⟨fun e1 => ?_, fun e1 => ?_⟩
    · have e1 : sites < 1 ∨ 8 < sites := by simpa using e1
      refine h.sto 0 rfl rfl (by simp) fun s h => ?_
      refine h.ld 0 rfl rfl ?_
      have : checkV xs sites = 1 := by simp [checkV, e1]
      rw [← this]; exact hq s h.tail
    · have e1 : ¬ (sites < 1 ∨ 8 < sites) := by simpa using e1
      refine (r s h.tail).len (n := xs.length) (by simp [ints]) (by omega) ?_
      simp only [bin, OptK_some, if_true, AsBool_bool]
      refine Br_iff.2 ⟨fun e2 => ?_, fun e2 => ?_⟩
      · have e2 : sites < xs.length := by simpa using e2
        refine h.sto 0 rfl rfl (by simp) fun s h => ?_
        refine h.ld 0 rfl rfl ?_
        have : checkV xs sites = 4 := by simp [checkV, e1, e2]
        rw [← this]; exact hq s h.tail
      · have e2 : ¬ sites < xs.length := by simpa using e2
        have hv := (r s h.tail).one
        refine sp_All (v := v) (xs := xs) (R := stars F) h.pack hv fun c s0 h => ?_
        have hr : ∀ F', RdIn (stars F :: F') v xs := fun F' st h => r st (Sep.unpack (P := emp) (Sep.swap (Sep.toEmp h.head))).tail
        have hch : checkV xs sites = ((pairs xs).findSome? (fun p => badV p.2)).getD 0 := by rw [pairs_find]; simp [checkV, e1, e2]
        refine (it_All w0 c v xs (stars F) hr hx).run (F := []) (fun k => ex fun x : AV => star (pur (((pairs xs).take k).findSome? (fun p => badV p.2) = none)) (pt e (.cells false [x])))
          (fun co => star (pur (co = .ret)) (star (pt e (.cells false [.int .i64 (checkV xs sites)])) (stars F))) ?_ rfl rfl ?_ ?_ ?_ ?_ ?_
        · exact Sep.swap (Sep.toEx _ (Sep.toStar (Sep.toPur h.swap (by simp))))
        · intro k s F' al hal ok hk h
          have hk' : k < (pairs xs).length := by simpa [pairItems] using hk
          obtain ⟨x, h⟩ := h.swap.ofEx
          obtain ⟨hno, h⟩ := h.ofStar.ofPur
          have e5 : (pairItems xs)[k] = [.int .i64 (pairs xs)[k].1, .int .i64 (pairs xs)[k].2] := by simp [pairItems]
          rw [e5]
          generalize hp : (pairs xs)[k] = p
          refine okr_vec_Check_0 (h.swap.getL.trans (congrArg some hal)) ?_
          unfold rnd_vec_Check_0
          have htake : (pairs xs).take (k + 1) = (pairs xs).take k ++ [p] := by rw [← hp]; exact (List.take_append_getElem hk').symm
          have hfind : ∀ y, badV p.2 = some y → checkV xs sites = y := by
            intro y hy
            have e6 := List.take_append_drop (k + 1) (pairs xs)
            rw [htake] at e6
            rw [hch, ← e6, List.findSome?_append, List.findSome?_append, hno]
            simp [hy]
          refine h.rbeg ok 1 rfl fun s h => ?_
          simp only [bin, OptK_some, if_true, AsBool_bool]
          have fin : ∀ s (y : Int), badV p.2 = some y → Sep s (pt e (.cells false [.int .i64 y]) :: le s0.lp.length al .ret :: CapP c v xs (stars F) :: F') → Sep s (le s0.lp.length al .ret :: (star (pur (Code.ret = .ret)) (star (pt e (.cells false [.int .i64 (checkV xs sites)])) (stars F))) :: F') := by
            intro s y hy h
            rw [← hfind y hy] at h
            have h := (h.pull 2).ofStar.tail
            exact Sep.swap (Sep.toStar (Sep.toPur (h.swap.toStar) rfl))
          refine Br_iff.2 ⟨fun e7 => ?_, fun e7 => ?_⟩
          · have e7 : p.2 < 0 := by simpa using e7
            refine h.sto 0 rfl rfl (by simp) fun s h => ?_
            refine h.rret 1 rfl fun s h => .inr ⟨rfl, .ret, fin s 1 (by simp [badV, e7]) h⟩
          · have e7 : ¬ p.2 < 0 := by simpa using e7
            refine Br_iff.2 ⟨fun e8 => ?_, fun e8 => ?_⟩
            · have e8 : 1048576 < p.2 := by simpa using e8
              refine h.sto 0 rfl rfl (by simp) fun s h => ?_
              refine h.rret 1 rfl fun s h => .inr ⟨rfl, .ret, fin s 4 (by simp [badV, e7, e8]) h⟩
            · have e8 : ¬ 1048576 < p.2 := by simpa using e8
              refine h.rnorm ok 1 rfl fun s h => .inl ⟨rfl, ?_⟩
              refine Sep.swap (Sep.toEx x (Sep.toStar (Sep.toPur h ?_)))
              rw [htake, List.findSome?_append, hno]; simp [badV, e7, e8]
        · intro s h
          obtain ⟨x, h⟩ := h.ofEx
          obtain ⟨hno, h⟩ := h.ofStar.ofPur
          have hno : (pairs xs).findSome? (fun p => badV p.2) = none := by simpa [pairItems] using hno
          refine h.sto 0 rfl rfl (by simp) fun s h => ?_
          refine h.ld 0 rfl rfl ?_
          have : checkV xs sites = 0 := by rw [hch, hno]; rfl
          rw [← this]
          exact hq s (Sep.unpack (P := pt e _) (h.swap.ofStar.tail)).tail
        · intro s h
          obtain ⟨_, h⟩ := h.ofStar.ofPur
          have h := h.ofStar
          refine h.ld 0 rfl rfl ?_
          exact hq s (Sep.unpack h.swap).tail
        · exact fun id s h => by have := h.ofStar.ofPur.1; cases this
        · exact fun co s h => .inl h.ofStar.ofPur.1
  · refine Br_iff.2 ⟨fun e1 => ?_, fun e1 => ?_⟩
    · have e1 : ¬ sites < 1 := by simpa using e1
      have : decide (sites < 1 ∨ 8 < sites) = decide (8 < sites) := by simp [e1]
      rw [← this]; exact hk _ _ _ _ _ _
    · have e1 : sites < 1 := by simpa using e1
      have : decide (sites < 1 ∨ 8 < sites) = true := by simp [e1]
      rw [this] at hk; exact hk _ _ _ _ _ _
end
end Go.Ab
