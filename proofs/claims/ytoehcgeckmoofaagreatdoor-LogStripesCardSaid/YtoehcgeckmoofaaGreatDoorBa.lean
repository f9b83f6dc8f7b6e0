/- Plain laws on abstract states: what lies where behind a push, a store. -/
import Derived.Test.YtoehcgeckmoofaaGreatDoorPa
set_option linter.unusedVariables false
set_option linter.unusedSimpArgs false
namespace Go.Ab
open Go Go.RowKit Go.Proofs

section
variable {st st' st'' : St} {b c : Nat} {k k' : ABlk} {K : Kont}

@[simp] theorem hp_push (st : St) (k : ABlk) : (st.push k).hp = st.hp ++ [k] := rfl
@[simp] theorem lp_push (st : St) (k : ABlk) : (st.push k).lp = st.lp := rfl
@[simp] theorem hp_setB (st : St) (b : Nat) (k : ABlk) : (st.setB b k).hp = st.hp.set b k := rfl
@[simp] theorem lp_setB (st : St) (b : Nat) (k : ABlk) : (st.setB b k).lp = st.lp := rfl
@[simp] theorem hp_pushLoop (st : St) (l : ALoop) : (pushLoop st l).hp = st.hp := rfl
@[simp] theorem lp_pushLoop (st : St) (l : ALoop) : (pushLoop st l).lp = st.lp ++ [l] := rfl
@[simp] theorem hp_setLoop (st : St) (i : Nat) (l : ALoop) : (setLoop st i l).hp = st.hp := rfl
@[simp] theorem lp_setLoop (st : St) (i : Nat) (l : ALoop) : (setLoop st i l).lp = st.lp.set i l := rfl

@[simp] theorem cells_of {ro cs} (h : st.hp[b]? = some (.cells ro cs)) : st.cells b = some cs := by simp [St.cells, h]
@[simp] theorem rwCells_of {cs} (h : st.hp[b]? = some (.cells false cs)) : st.rwCells b = some cs := by simp [St.rwCells, h]

theorem lt_of_get (h : st.hp[b]? = some k) : b < st.hp.length := (List.getElem?_eq_some_iff.1 h).1

theorem ld_cell {ro cs o n v} (h : st.hp[b]? = some (.cells ro cs)) (hv : cs[o]? = some v) (hk : K v st) : Ld st (.ptr b o) false n K := by
  simp [Ld, cells_of h, hv, hk]

/-- What lay there lies there, but for the blocks of a list; the loops are as they were. -/
structure Fr (fp : List Nat) (st st' : St) : Prop where
  len : st.hp.length ≤ st'.hp.length
  get : ∀ b, b < st.hp.length → b ∉ fp → st'.hp[b]? = st.hp[b]?
  llen : st.lp.length ≤ st'.lp.length
  lget : ∀ i, i < st.lp.length → st'.lp[i]? = st.lp[i]?

theorem Fr.refl (fp : List Nat) (st : St) : Fr fp st st := ⟨Nat.le_refl _, fun _ _ _ => rfl, Nat.le_refl _, fun _ _ => rfl⟩
theorem Fr.trans {fp fp' fp'' : List Nat} (h : Fr fp st st') (k : Fr fp' st' st'') (h1 : ∀ b ∈ fp, b ∈ fp'') (h2 : ∀ b ∈ fp', b < st.hp.length → b ∈ fp'') : Fr fp'' st st'' :=
  ⟨Nat.le_trans h.len k.len, fun b hb hn => by
    rw [k.get b (Nat.lt_of_lt_of_le hb h.len) (fun hh => hn (h2 b hh hb)), h.get b hb (fun hh => hn (h1 b hh))], Nat.le_trans h.llen k.llen, fun i hi => by
    rw [k.lget i (Nat.lt_of_lt_of_le hi h.llen), h.lget i hi]⟩
theorem Fr.keep {fp : List Nat} (h : Fr fp st st') {k} (hk : st.hp[b]? = some k) (hn : b ∉ fp) : st'.hp[b]? = some k := by rw [h.get b (lt_of_get hk) hn, hk]
theorem Fr.mono {fp fp' : List Nat} (h : Fr fp st st') (h1 : ∀ b ∈ fp, b < st.hp.length → b ∈ fp') : Fr fp' st st' := ⟨h.len, fun b hb hn => h.get b hb (fun hh => hn (h1 b hh hb)), h.llen, h.lget⟩
theorem Fr.push (st : St) (k : ABlk) : Fr [] st (st.push k) := ⟨by simp, fun b hb _ => by simp [List.getElem?_append_left hb], by simp, fun i hi => rfl⟩
theorem Fr.setB (st : St) (b : Nat) (k : ABlk) : Fr [b] st (st.setB b k) := ⟨by simp, fun c hc hn => by simp at hn; simp [List.getElem?_set, Ne.symm hn], by simp, fun i hi => rfl⟩

theorem get_push_new (st : St) (k : ABlk) : (st.push k).hp[st.hp.length]? = some k := by simp
theorem get_push_old (h : st.hp[b]? = some k) (k' : ABlk) : (st.push k').hp[b]? = some k := by
  have := lt_of_get h; simp [List.getElem?_append_left this, h]
theorem get_set_same (h : st.hp[b]? = some k) (k' : ABlk) : (st.setB b k').hp[b]? = some k' := by
  have := lt_of_get h; simp [this]
theorem get_set_ne (h : st.hp[b]? = some k) (hn : c ≠ b) (k' : ABlk) : (st.setB c k').hp[b]? = some k := by simp [List.getElem?_set, hn, h]

theorem sto_cell {cs o v} (h : st.hp[b]? = some (.cells false cs)) (hv : v.one = true) (ho : o < cs.length) (hk : K (.tup []) (st.setB b (.cells false (cs.set o v)))) : Sto st (.ptr b o) v 1 K := by
  have hc : v.cellsOk = some [v] := by cases v <;> simp_all [AV.one, AV.cellsOk]
  have hw : writeAt cs o [v] = cs.set o v := by
    simp only [writeAt, List.length_cons, List.length_nil, Nat.zero_add]
    rw [List.set_eq_take_append_cons_drop, if_pos ho]; simp
  simp only [Sto, rwCells_of h, hc, OptK_some]
  refine ⟨rfl, by simp [hv], by omega, ?_⟩
  rw [hw]; exact hk

theorem nilC_ptr (b o : Nat) (K : AV → Prop) : NilC (.ptr b o) K = K (.ptr b o) := rfl
theorem faddr_ptr (b o n : Nat) (K : AV → Prop) : Faddr (.ptr b o) n K = K (.ptr b (o + n)) := rfl
theorem new_eq (st : St) (cs : List AV) (K : Kont) : New st cs K = K (.ptr st.hp.length 0) (st.push (.cells false cs)) := rfl
theorem psh_eq (st : St) (k : ABlk) (K : St → Prop) : Psh st k K = K (st.push k) := rfl
theorem ext_tup (cs : List AV) (i : Nat) (K : AV → Prop) : Ext (.tup cs) i K = OptK cs[i]? K := rfl

theorem wrap_id {n : Int} (h1 : -9223372036854775808 ≤ n) (h2 : n ≤ 9223372036854775807) : IntKind.i64.wrap n = n := by
  have : IntKind.i64.wrap n = (n + 9223372036854775808) % 18446744073709551616 - 9223372036854775808 := by
    simp [IntKind.wrap, IntKind.bits, IntKind.signed]; split <;> omega
  rw [this]; omega

theorem Fr.setLoop {fp} (h : Fr fp st st') {i : Nat} (hi : st.lp.length ≤ i) (al : ALoop) : Fr fp st (setLoop st' i al) :=
  ⟨h.len, h.get, by simpa using h.llen, fun j hj => by simp only [lp_setLoop]; rw [List.getElem?_set_ne (by omega)]; exact h.lget j hj⟩
theorem Fr.pushLoop {fp} (h : Fr fp st st') (al : ALoop) : Fr fp st (pushLoop st' al) :=
  ⟨h.len, h.get, by simp; have := h.llen; omega, fun j hj => by simp only [lp_pushLoop]; rw [List.getElem?_append_left (by have := h.llen; omega)]; exact h.lget j hj⟩

theorem Fr.setB_new {fp} (h : Fr fp st st') (hb : st.hp.length ≤ b) (k : ABlk) : Fr fp st (st'.setB b k) :=
  ⟨by simpa using h.len, fun c hc hn => by simp only [hp_setB]; rw [List.getElem?_set_ne (by omega)]; exact h.get c hc hn, h.llen, h.lget⟩
theorem Fr.push_new {fp} (h : Fr fp st st') (k : ABlk) : Fr fp st (st'.push k) :=
  ⟨by simp; have := h.len; omega, fun c hc hn => by simp only [hp_push]; rw [List.getElem?_append_left (by have := h.len; omega)]; exact h.get c hc hn, h.llen, h.lget⟩
theorem Fr.setB_in {fp} (h : Fr fp st st') (hb : b ∈ fp) (k : ABlk) : Fr fp st (st'.setB b k) :=
  ⟨by simpa using h.len, fun c hc hn => by simp only [hp_setB]; rw [List.getElem?_set_ne (fun (e : b = c) => hn (e ▸ hb))]; exact h.get c hc hn, h.llen, h.lget⟩

theorem rbeg_of {i : Nat} {al : ALoop} {K : St → Prop} (h : st.lp[i]? = some al) (hr : al.st = .ready) (hk : K (setLoop st i { al with st := .busy })) : RBeg st i K := by
  simp only [RBeg, h, OptK_some]; exact ⟨hr, hk⟩
theorem lt_of_lp {i : Nat} {al : ALoop} (h : st.lp[i]? = some al) : i < st.lp.length := (List.getElem?_eq_some_iff.1 h).1
theorem lp_setLoop_same {i : Nat} {al : ALoop} (h : st.lp[i]? = some al) (al' : ALoop) : (setLoop st i al').lp[i]? = some al' := by
  have := lt_of_lp h; simp [this]
theorem setLoop_setLoop (st : St) (i : Nat) (a b : ALoop) : setLoop (setLoop st i a) i b = setLoop st i b := by simp [setLoop]
theorem rnorm_of {i : Nat} {al : ALoop} {Q : Kont} (h : st.lp[i]? = some al) (hk : Q (.bool true) (setLoop st i { al with st := .ready, pend := none })) : RNorm i Q st := by
  simp only [RNorm, h, OptK_some]; exact hk
theorem rexit_of {i id : Nat} {al : ALoop} {Q : Kont} (h : st.lp[i]? = some al) (hk : Q (.bool false) (setLoop st i { al with st := .done, pend := some (.exit id) })) : RExit i Q st id := by
  simp only [RExit, h, OptK_some]; exact hk
theorem rret_of {i : Nat} {al : ALoop} {Q : Kont} (h : st.lp[i]? = some al) (hk : Q (.bool false) (setLoop st i { al with st := .done, pend := some .ret })) : RRet i Q st := by
  simp only [RRet, h, OptK_some]; exact hk
theorem aftR_none {i : Nat} {al : ALoop} {N R : St → Prop} {X G : Nat → St → Prop} (h : st.lp[i]? = some al) (hb : al.st ≠ .busy) (hp : al.pend = none) (hk : N (setLoop st i { al with st := .exhausted })) : AftR st i N R X G := by
  cases al; simp only at hp hb hk; subst hp; simp only [AftR, h, OptK_some]; exact ⟨hb, hk⟩
theorem aftR_exit {i id : Nat} {al : ALoop} {N R : St → Prop} {X G : Nat → St → Prop} (h : st.lp[i]? = some al) (hb : al.st ≠ .busy) (hp : al.pend = some (.exit id)) (hk : X id (setLoop st i { al with st := .exhausted })) : AftR st i N R X G := by
  cases al; simp only at hp hb hk; subst hp; simp only [AftR, h, OptK_some]; exact ⟨hb, hk⟩
theorem aftR_ret {i : Nat} {al : ALoop} {N R : St → Prop} {X G : Nat → St → Prop} (h : st.lp[i]? = some al) (hb : al.st ≠ .busy) (hp : al.pend = some .ret) (hk : R (setLoop st i { al with st := .exhausted })) : AftR st i N R X G := by
  cases al; simp only at hp hb hk; subst hp; simp only [AftR, h, OptK_some]; exact ⟨hb, hk⟩
end
end Go.Ab
