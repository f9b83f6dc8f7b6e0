/- The operations that call nobody, the rest: arithmetic, aggregates, slices. -/
import Derived.Test.YtoehcgeckmoofaaGreatDoorAe
import Derived.WideLaws
set_option linter.unusedVariables false
set_option linter.unusedSimpArgs false
namespace Go.Ab
open Go Go.RowKit

section
variable {P : Program} {w0 : World} {pins : List (Nat × Obj)} {ρ : Ren} {st : St} {w : World} {K : Kont}

theorem VRel.bool_inv {b} {v : Value} (h : VRel ρ (.bool b) v) : v = .bool b := by cases h; rfl
theorem VRel.int_inv {k n} {v : Value} (h : VRel ρ (.int k n) v) : v = .int k n := by cases h; rfl
theorem VRel.str_inv {s} {v : Value} (h : VRel ρ (.str s) v) : ∃ b : ByteArray, v = .string b ∧ b.data.toList = s := by cases h; exact ⟨_, rfl, rfl⟩
theorem VRel.tup_inv {cs} {v : Value} (h : VRel ρ (.tup cs) v) : ∃ vs, v = .tuple vs ∧ VRels ρ cs vs.toList := by cases h with | tup a b => exact ⟨_, rfl, ⟨a, b⟩⟩
theorem VRel.agg_inv {cs} {v : Value} (h : VRel ρ (.agg cs) v) : ∃ vs, v = .agg vs ∧ VRels ρ cs vs.toList := by cases h with | agg a b => exact ⟨_, rfl, ⟨a, b⟩⟩
theorem VRel.str_mk {s : List UInt8} {b : ByteArray} (h : b.data.toList = s) : VRel ρ (.str s) (.string b) := h ▸ .str b

theorem VRels.get {as : List AV} {vs : List Value} (h : VRels ρ as vs) {i : Nat} {a} (ha : as[i]? = some a) : ∃ v, vs[i]? = some v ∧ VRel ρ a v := by
  have hi : i < as.length := (List.getElem?_eq_some_iff.1 ha).1
  have hi' : i < vs.length := h.len ▸ hi
  refine ⟨vs[i], by simp [hi'], ?_⟩
  have := h.at_ i hi
  simpa [List.getD, ha, hi'] using this

theorem pick_rel {a b : AV} {x y : Value} (ha : VRel ρ a x) (hb : VRel ρ b y) (d : Bool) : VRel ρ (AV.pick d a b) (if d then x else y) := by
  unfold AV.pick
  split
  · rw [ha.bool_inv, hb.bool_inv]; cases d <;> exact .bool _
  · exact ha
  · exact hb

theorem ext_out {x : AV} {x' : Value} {i : Nat} (h : Sim w0 pins ρ st w) (hx : VRel ρ x x') (hk : Ext x i fun v => K v st) : Out P w0 pins ρ w (do pure (.value (← Instr.extract x' i))) K := by
  cases x with
  | tup cs =>
    obtain ⟨vs, rfl, hr⟩ := hx.tup_inv
    obtain ⟨a, ha, hk⟩ := OptK_iff.1 hk
    obtain ⟨v, hv, hvr⟩ := hr.get ha
    refine Out.val (v' := v) h ?_ hvr hk
    have : vs[i]? = some v := by simpa using hv
    simp [Instr.extract, this]
  | _ => exact hk.elim

/-! ### Arithmetic -/
theorem bytes_toList (s : ByteArray) : s.toList = s.data.toList := by
  have key : ∀ (n i : Nat) (r : List UInt8), s.size - i = n → ByteArray.toList.loop s i r = r.reverse ++ s.data.toList.drop i := by
    intro n
    induction n with
    | zero =>
      intro i r h
      unfold ByteArray.toList.loop
      have : ¬ i < s.size := by omega
      rw [if_neg this, List.drop_of_length_le (by simp only [Array.length_toList]; show s.size ≤ i; omega)]; simp
    | succ n ih =>
      intro i r h
      unfold ByteArray.toList.loop
      have hi : i < s.size := by omega
      rw [if_pos hi, ih (i + 1) _ (by omega)]
      have : s.data.toList.drop i = s.data.toList[i]'(by simpa using hi) :: s.data.toList.drop (i + 1) := List.drop_eq_getElem_cons (by simpa using hi)
      rw [this]
      simp [ByteArray.get!, hi, getElem!_pos]
  unfold ByteArray.toList
  rw [key _ 0 [] rfl]; simp

theorem bytes_eq_iff {a b : ByteArray} : a = b ↔ a.data.toList = b.data.toList :=
  ⟨fun h => h ▸ rfl, fun h => by cases a; cases b; simp_all [Array.toList_inj]⟩

theorem str_eqb {a b : ByteArray} : (a.toList == b.toList) = decide (a.data.toList = b.data.toList) := by
  rw [bytes_toList, bytes_toList]; simp [Bool.beq_eq_decide_eq]
theorem str_append {a b : ByteArray} : (a ++ b).data.toList = a.data.toList ++ b.data.toList := by simp

theorem equal_out {op : BinOp} {ty : TypeId} {x' y' : Value} {e r : Bool} (h : Sim w0 pins ρ st w)
    (he : (Op.equal ty x' y').run P w = .ok e w) (ho : (op = .eql ∧ r = e) ∨ (op = .neq ∧ r = !e)) (hnx : ∀ k n, x' ≠ .int k n) (hnf : ∀ k n, x' ≠ .float k n) (hnc : ∀ k n m, x' ≠ .complex k n m) (hns : ∀ s, x' ≠ .string s)
    {a b : Operand} (hg : (eqGuard op ty a b x' y').run P w = .ok () w) (hk : K (.bool r) st) :
    Out P w0 pins ρ w (do pure (.value (← (do eqGuard op ty a b x' y'; binOp op ty x' y' : Sem Value)))) K := by
  have hb : (binOp op ty x' y').run P w = .ok (.bool r) w := by
    rcases ho with ⟨rfl, rfl⟩ | ⟨rfl, rfl⟩ <;> cases x' <;> first
      | exact absurd rfl (hnx _ _) | exact absurd rfl (hnf _ _) | exact absurd rfl (hnc _ _ _) | exact absurd rfl (hns _)
      | simp [binOp, Sem.run_bind, he, Result.andThen]
  refine Out.val h ?_ (.bool _) hk
  simp [Sem.run_bind, hg, Result.andThen, hb]

theorem guard_plain {op : BinOp} {ty : TypeId} {x' y' : Value} (hn : ¬ (x' = .nilIface ∧ y' = .nilIface)) (ha : ∀ cs, x' ≠ .agg cs) (a b : Operand) : (eqGuard op ty a b x' y').run P w = .ok () w := by
  unfold eqGuard
  cases op <;> first
    | rfl
    | (cases x' <;> first
        | exact absurd rfl (ha _)
        | rfl
        | (cases y' <;> first | exact absurd ⟨rfl, rfl⟩ hn | rfl))

theorem guard_const {op : BinOp} {ty : TypeId} {x' y' : Value} (ha : ∀ cs, x' ≠ .agg cs) (a : Operand) (c : Value) : (eqGuard op ty a (.const c) x' y').run P w = .ok () w := by
  unfold eqGuard
  cases op <;> first
    | rfl
    | (cases x' <;> first
        | exact absurd rfl (ha _)
        | rfl
        | (cases y' <;> first | rfl | simp))

theorem kind_bool {t : TypeId} (h : tyKind P t = .bool) : P.underlying t = some .bool := by
  unfold tyKind at h; split at h <;> simp_all
theorem kind_ptr {t : TypeId} (h : tyKind P t = .ptr) : ∃ e, P.underlying t = some (.pointer e) := by
  unfold tyKind at h; split at h <;> simp_all
theorem kind_func {t : TypeId} (h : tyKind P t = .func) : ∃ a b c, P.underlying t = some (.func a b c) := by
  unfold tyKind at h; split at h <;> simp_all
theorem kind_slice {t : TypeId} (h : tyKind P t = .slice) : ∃ e, P.underlying t = some (.slice e) := by
  unfold tyKind at h; split at h <;> simp_all
theorem kind_iface {t : TypeId} (h : tyKind P t = .iface) : ∃ e, P.underlying t = some (.interface e) := by
  unfold tyKind at h; split at h <;> simp_all

theorem int_out {op : BinOp} {ty : TypeId} {k : IntKind} {p q : Int} {v : AV} {v' : Value} (a b : Operand) (h : Sim w0 pins ρ st w) (hr : (binOp op ty (.int k p) (.int k q)).run P w = .ok v' w) (hv : VRel ρ v v') (hk : K v st) :
    Out P w0 pins ρ w (do pure (.value (← (do eqGuard op ty a b (.int k p) (.int k q); binOp op ty (.int k p) (.int k q) : Sem Value)))) K := by
  refine Out.val h ?_ hv hk
  simp [Sem.run_bind, guard_plain, Result.andThen, hr]

theorem str_out {op : BinOp} {ty : TypeId} {p q : ByteArray} {v : AV} {v' : Value} (a b : Operand) (h : Sim w0 pins ρ st w) (hr : (binOp op ty (.string p) (.string q)).run P w = .ok v' w) (hv : VRel ρ v v') (hk : K v st) :
    Out P w0 pins ρ w (do pure (.value (← (do eqGuard op ty a b (.string p) (.string q); binOp op ty (.string p) (.string q) : Sem Value)))) K := by
  refine Out.val h ?_ hv hk
  simp [Sem.run_bind, guard_plain, Result.andThen, hr]

theorem eq_of {ty : TypeId} {x y : Value} {e : Bool} (h : ∀ d, (Op.equalIn (d + 1) ty x y).run P w = .ok e w) : (Op.equal ty x y).run P w = .ok e w := h 9999

theorem binOp_out {op : BinOp} {ty : TypeId} {tk : TK} {x y v : AV} {x' y' : Value} (a b : Operand) (h : Sim w0 pins ρ st w) (hx : VRel ρ x x') (hy : VRel ρ y y') (ht : tyKind P ty = tk) (hc : binOk tk b = true)
    (hb : bin tk op x y = some v) (hk : K v st) : Out P w0 pins ρ w (do pure (.value (← (do eqGuard op ty a b x' y'; binOp op ty x' y' : Sem Value)))) K := by
  unfold bin at hb
  split at hb
  case h_31 => cases hb
  all_goals try
    (obtain rfl := hx.int_inv; obtain rfl := hy.int_inv
     split at hb
     · rename_i hc0
       first | subst hc0 | (obtain ⟨hc0, hc2⟩ := hc0; subst hc0) | skip
       cases hb
       first
         | (refine int_out a b h (v' := _) ?_ (by constructor) hk
            simp [binOp, Op.intArith, Op.intDiv, Op.intBits, Op.intCmp, *]
            try first | done | (rw [Bool.beq_eq_decide_eq]; done) | (simp [bne, Bool.beq_eq_decide_eq]; done))
         | skip
     · cases hb)
  all_goals try
    (obtain ⟨s1, rfl, rfl⟩ := hx.str_inv; obtain ⟨s2, rfl, rfl⟩ := hy.str_inv)
  case h_7 =>
    obtain rfl := hx.int_inv; obtain rfl := hy.int_inv
    split at hb
    · rename_i hc0
      cases hb
      refine Out.val h (v' := .int _ _) ?_ (.int _ _) hk
      have : ¬ ((_ : Int) < 0) := Int.not_lt.2 hc0
      simp [Sem.run_bind, guard_plain, Result.andThen, binOp, Op.shift, this]
    · cases hb
  case h_14 =>
    split at hb
    · rename_i hc0
      cases hb
      refine str_out a b h (v' := .string (s1 ++ s2)) ?_ (VRel.str_mk str_append) hk
      simp only [Array.length_toList] at hc0
      have h1 : ¬ (((s1.size + s2.size : Nat) : Int) > IntKind.i64.max) := by
        have : IntKind.i64.max = 9223372036854775807 := by decide
        have a1 : s1.data.size = s1.size := rfl
        have a2 : s2.data.size = s2.size := rfl
        rw [this]; omega
      simp only [binOp, Op.stringOp]
      rw [if_neg h1]; rfl
    · cases hb
  case h_15 => cases hb; exact str_out a b h (by simp only [binOp, Op.stringOp, str_eqb]; rfl) (.bool _) hk
  case h_16 => cases hb; exact str_out a b h (by simp only [binOp, Op.stringOp, str_eqb]; rfl) (.bool _) hk
  case h_17 => cases hb; exact str_out a b h (by simp only [binOp, Op.stringOp, bytes_toList]; rfl) (.bool _) hk
  case h_18 => cases hb; exact str_out a b h (by simp only [binOp, Op.stringOp, str_eqb]; simp only [bytes_toList]; rfl) (.bool _) hk
  case h_19 =>
    cases hb; obtain rfl := hx.bool_inv; obtain rfl := hy.bool_inv
    exact equal_out h (eq_of fun d => by simp [Op.equalIn, Sem.run_bind, run_under (kind_bool ht), Result.andThen]) (.inl ⟨rfl, rfl⟩) (by simp) (by simp) (by simp) (by simp) (guard_plain (by simp) (by simp) _ _) hk
  case h_20 =>
    cases hb; obtain rfl := hx.bool_inv; obtain rfl := hy.bool_inv
    exact equal_out h (eq_of fun d => by simp [Op.equalIn, Sem.run_bind, run_under (kind_bool ht), Result.andThen]) (.inr ⟨rfl, rfl⟩) (by simp) (by simp) (by simp) (by simp) (guard_plain (by simp) (by simp) _ _) hk
  case h_21 =>
    cases hb; cases hx; cases hy; obtain ⟨e, hu⟩ := kind_ptr ht
    exact equal_out (e := true) h (eq_of fun d => by simp [Op.equalIn, Sem.run_bind, run_under hu, Result.andThen]) (.inl ⟨rfl, rfl⟩) (by simp) (by simp) (by simp) (by simp) (guard_plain (by simp) (by simp) _ _) hk
  case h_22 =>
    cases hb; cases hx; cases hy; obtain ⟨e, hu⟩ := kind_ptr ht
    exact equal_out (e := true) h (eq_of fun d => by simp [Op.equalIn, Sem.run_bind, run_under hu, Result.andThen]) (.inr ⟨rfl, rfl⟩) (by simp) (by simp) (by simp) (by simp) (guard_plain (by simp) (by simp) _ _) hk
  case h_23 =>
    cases hb; obtain ⟨_, _, _, _, rfl⟩ := hx.ptr_inv; cases hy; obtain ⟨e, hu⟩ := kind_ptr ht
    exact equal_out (e := false) h (eq_of fun d => by simp [Op.equalIn, Sem.run_bind, run_under hu, Result.andThen]) (.inl ⟨rfl, rfl⟩) (by simp) (by simp) (by simp) (by simp) (guard_plain (by simp) (by simp) _ _) hk
  case h_24 =>
    cases hb; obtain ⟨_, _, _, _, rfl⟩ := hx.ptr_inv; cases hy; obtain ⟨e, hu⟩ := kind_ptr ht
    exact equal_out (e := false) h (eq_of fun d => by simp [Op.equalIn, Sem.run_bind, run_under hu, Result.andThen]) (.inr ⟨rfl, rfl⟩) (by simp) (by simp) (by simp) (by simp) (guard_plain (by simp) (by simp) _ _) hk
  case h_25 =>
    cases hb; cases hx; cases hy; obtain ⟨_, _, _, hu⟩ := kind_func ht
    exact equal_out (e := false) h (eq_of fun d => by simp [Op.equalIn, Sem.run_bind, run_under hu, Result.andThen]) (.inl ⟨rfl, rfl⟩) (by simp) (by simp) (by simp) (by simp) (guard_plain (by simp) (by simp) _ _) hk
  case h_26 =>
    cases hb; cases hx; cases hy; obtain ⟨_, _, _, hu⟩ := kind_func ht
    exact equal_out (e := true) h (eq_of fun d => by simp [Op.equalIn, Sem.run_bind, run_under hu, Result.andThen]) (.inl ⟨rfl, rfl⟩) (by simp) (by simp) (by simp) (by simp) (guard_plain (by simp) (by simp) _ _) hk
  case h_27 =>
    cases hb; cases hx; cases hy; obtain ⟨_, hu⟩ := kind_slice ht
    exact equal_out (e := false) h (eq_of fun d => by simp [Op.equalIn, Sem.run_bind, run_under hu, Result.andThen]) (.inl ⟨rfl, rfl⟩) (by simp) (by simp) (by simp) (by simp) (guard_plain (by simp) (by simp) _ _) hk
  case h_28 =>
    cases hb; cases hx; cases hy; obtain ⟨_, hu⟩ := kind_slice ht
    exact equal_out (e := true) h (eq_of fun d => by simp [Op.equalIn, Sem.run_bind, run_under hu, Result.andThen]) (.inl ⟨rfl, rfl⟩) (by simp) (by simp) (by simp) (by simp) (guard_plain (by simp) (by simp) _ _) hk
  case h_29 =>
    cases hb; cases hx; cases hy; obtain ⟨_, hu⟩ := kind_iface ht
    exact equal_out (e := false) h (eq_of fun d => by simp [Op.equalIn, Sem.run_bind, run_under hu, Result.andThen]) (.inr ⟨rfl, rfl⟩) (by simp) (by simp) (by simp) (by simp) (guard_plain (by simp) (by simp) _ _) hk
  case h_30 =>
    cases hb; cases hx; cases hy; obtain ⟨_, hu⟩ := kind_iface ht
    cases b with
    | const c => exact equal_out (e := true) h (eq_of fun d => by simp [Op.equalIn, Sem.run_bind, run_under hu, Result.andThen]) (.inr ⟨rfl, rfl⟩) (by simp) (by simp) (by simp) (by simp) (guard_const (by simp) _ _) hk
    | _ => simp [binOk] at hc

theorem un_out {op : UnOp} {x v : AV} {x' : Value} (h : Sim w0 pins ρ st w) (hx : VRel ρ x x') (hb : un op x = some v) (hk : K v st) :
    Out P w0 pins ρ w (do pure (.value (← Op.unary op x'))) K := by
  unfold un at hb
  split at hb
  · cases hb; obtain rfl := hx.bool_inv
    exact Out.val h (by simp [Op.unary]) (.bool _) hk
  · cases hb; obtain rfl := hx.int_inv
    exact Out.val h (by simp [Op.unary, Op.intArith]) (.int _ _) hk
  · cases hb
end
end Go.Ab
