/- What steps of the real heap do to the relation. -/
import Derived.Test.YtoehcgeckmoofaaGreatDoorAa
set_option linter.unusedVariables false
set_option linter.unusedSimpArgs false
namespace Go.Ab
open Go Go.RowKit

def Ren.ext (ρ : Ren) (b : Nat) (x : Nat × Nat × Nat) : Ren := { ρ with blk := fun c => if c = b then some x else ρ.blk c }
def Ren.extl (ρ : Ren) (i r : Nat) : Ren := { ρ with loop := fun c => if c = i then some r else ρ.loop c }

theorem Ren.ext_at (ρ : Ren) (b x) : (ρ.ext b x).blk b = some x := by simp [Ren.ext]
theorem Ren.ext_ne (ρ : Ren) {b c} (x) (h : c ≠ b) : (ρ.ext b x).blk c = ρ.blk c := by simp [Ren.ext, h]
theorem Ren.ext_loop (ρ : Ren) (b x) : (ρ.ext b x).loop = ρ.loop := rfl

theorem Sim.fresh {w0 pins ρ st w} (h : Sim w0 pins ρ st w) : ρ.blk st.hp.length = none := by
  cases e : ρ.blk st.hp.length with
  | none => rfl
  | some x => have := (h.dom _ _ e).1; omega

theorem Sim.lfresh {w0 pins ρ st w} (h : Sim w0 pins ρ st w) : ρ.loop st.lp.length = none := by
  cases e : ρ.loop st.lp.length with
  | none => rfl
  | some x => have := (h.ldom _ _ e).1; omega

theorem Sim.ext_le {w0 pins ρ st w} (h : Sim w0 pins ρ st w) (x) : ρ.le (ρ.ext st.hp.length x) :=
  ⟨fun b y e => by
    have hb := (h.dom b y e).1
    rw [Ren.ext_ne _ _ (by omega)]; exact e, fun _ _ e => e⟩

theorem Sim.extl_le {w0 pins ρ st w} (h : Sim w0 pins ρ st w) (x) : ρ.le (ρ.extl st.lp.length x) :=
  ⟨fun _ _ e => e, fun b y e => by
    have hb := (h.ldom b y e).1
    simp only [Ren.extl]; rw [if_neg (by omega)]; exact e⟩

theorem BRel.mono {base ρ ρ' w w' k x} (hr : ρ.le ρ') (hw : w'.heap[x.1]? = w.heap[x.1]?) (h : BRel base ρ w k x) : BRel base ρ' w' k x := by
  obtain ⟨rb, o, rs⟩ := x
  cases k with
  | cells ro cs =>
    obtain ⟨c, elem, fz, h1, h2, h3, h4, h5⟩ := h
    exact ⟨c, elem, fz, by rw [← h1]; exact hw, h2, h3, h4.mono hr, h5⟩
  | amap es bs clock =>
    obtain ⟨ents, h1, h2, h3, h4, h5⟩ := h
    exact ⟨ents, by rw [← h1]; exact hw, h2, h3.mono hr, h4.mono hr, h5⟩
  | iter m since seen last =>
    obtain ⟨mr, h1, h2, h3, h4, h5⟩ := h
    exact ⟨mr, by rw [← h1]; exact hw, h2, h3, h4, fun b hb => let ⟨x, e, hx⟩ := h5 b hb; ⟨x, hr.blk _ _ e, hx⟩⟩
  | dead => trivial

theorem LRel.mono {ρ ρ' w w' l r} (hr : ρ.le ρ') (hw : w'.heap[r]? = w.heap[r]?) (h : LRel ρ w l r) : LRel ρ' w' l r := by
  obtain ⟨fn, tmps, defers, h1, h2⟩ := h
  exact ⟨fn, tmps, defers, by rw [← h1]; exact hw, h2.mono hr⟩

/-- The world has at most been drawn from. -/
theorem Sim.drew {w0 pins ρ st w} (h : Sim w0 pins ρ st w) : Sim w0 pins ρ st w.drew :=
  ⟨h.below.drew, h.dom, h.blk, h.inj, h.ldom, h.loop, h.linj, h.pin, h.pout, h.lout, h.pnd⟩

theorem heap_alloc_lt (w : World) (o : Obj) {r : Nat} (h : r < w.heap.size) : (w.alloc o).heap[r]? = w.heap[r]? := Below.heap_alloc w o r h
theorem heap_alloc_at (w : World) (o : Obj) : (w.alloc o).heap[w.heap.size]? = some o := by
  show (w.heap.push o)[w.heap.size]? = _; simp

/-- A real block more, of which the abstract heap knows nothing. -/
theorem Sim.junk {w0 pins ρ st w} (h : Sim w0 pins ρ st w) (o : Obj) : Sim w0 pins ρ st (w.alloc o) := by
  have hs : (w.alloc o).heap.size = w.heap.size + 1 := by simp
  refine ⟨h.below.alloc h.below.size o, fun b x e => ⟨(h.dom b x e).1, by have := (h.dom b x e).2; omega⟩, fun b k e hk => ?_, h.inj,
    fun i l e => ⟨(h.ldom i l e).1, by have := (h.ldom i l e).2; omega⟩, fun i l e => ?_, h.linj, fun p hp => ?_, h.pout, h.lout, h.pnd⟩
  · obtain ⟨x, hx, hB⟩ := h.blk b k e hk
    exact ⟨x, hx, hB.mono (.refl _) (heap_alloc_lt w o (h.dom _ _ hx).2)⟩
  · obtain ⟨r, hr, hle, hL⟩ := h.loop i l e
    exact ⟨r, hr, hle, hL.mono (.refl _) (heap_alloc_lt w o (h.ldom _ _ hr).2)⟩
  · obtain ⟨h1, h2⟩ := h.pin p hp
    have : p.1 < w.heap.size := (Array.getElem?_eq_some_iff.1 h1).1
    exact ⟨by rw [heap_alloc_lt w o this]; exact h1, h2⟩

/-- A block more in the abstract heap, at a real one that nobody else has. -/
theorem Sim.push {w0 pins ρ st w} (h : Sim w0 pins ρ st w) (k : ABlk) (x : Nat × Nat × Nat) (hlt : x.1 < w.heap.size)
    (hB : BRel w0.heap.size (ρ.ext st.hp.length x) w k x)
    (hfree : ∀ b k' x', st.hp[b]? = some k' → k' ≠ .dead → ρ.blk b = some x' → x'.1 ≠ x.1)
    (hpin : ∀ p ∈ pins, x.1 ≠ p.1) : Sim w0 pins (ρ.ext st.hp.length x) { st with hp := st.hp ++ [k] } w := by
  have hle := h.ext_le x
  refine ⟨h.below, fun b y e => ?_, fun b k' e hk => ?_, fun b b' k1 k2 x1 x2 e1 e2 hrw hd hne f1 f2 => ?_, h.ldom, fun i l e => ?_, h.linj, h.pin, fun p hp b k' y e hrw f => ?_, h.lout, h.pnd⟩
  · by_cases hb : b = st.hp.length
    · subst hb; rw [Ren.ext_at] at e; cases e; exact ⟨by simp, hlt⟩
    · rw [Ren.ext_ne _ _ hb] at e; have := h.dom b y e; exact ⟨by simp; omega, this.2⟩
  · by_cases hb : b = st.hp.length
    · subst hb
      have : k' = k := by simpa using e.symm
      subst this
      exact ⟨x, Ren.ext_at .., hB⟩
    · have e' : st.hp[b]? = some k' := by
        have hlt' : b < st.hp.length := by
          have := (List.getElem?_eq_some_iff.1 e).1; simp at this; omega
        simpa [List.getElem?_append_left hlt'] using e
      obtain ⟨y, hy, hBy⟩ := h.blk b k' e' hk
      exact ⟨y, hle.blk _ _ hy, hBy.mono hle rfl⟩
  · have get : ∀ b k', (st.hp ++ [k])[b]? = some k' → b ≠ st.hp.length → st.hp[b]? = some k' := fun b k' e hb => by
      have hlt' : b < st.hp.length := by
        have := (List.getElem?_eq_some_iff.1 e).1; simp at this; omega
      simpa [List.getElem?_append_left hlt'] using e
    by_cases hb : b = st.hp.length
    · subst hb
      rw [Ren.ext_at] at f1; cases f1
      have hb' : b' ≠ st.hp.length := fun hh => hne hh.symm
      rw [Ren.ext_ne _ _ hb'] at f2
      exact fun hh => hfree b' k2 x2 (get _ _ e2 hb') hd f2 hh.symm
    · have g1 := get _ _ e1 hb
      rw [Ren.ext_ne _ _ hb] at f1
      have hd1 : k1 ≠ .dead := fun hh => by rw [hh] at hrw; simp [ABlk.rw] at hrw
      by_cases hb' : b' = st.hp.length
      · subst hb'
        rw [Ren.ext_at] at f2; cases f2
        exact hfree b k1 x1 g1 hd1 f1
      · rw [Ren.ext_ne _ _ hb'] at f2
        exact h.inj b b' k1 k2 x1 x2 g1 (get _ _ e2 hb') hrw hd hne f1 f2
  · obtain ⟨r, hr, hle', hL⟩ := h.loop i l e
    exact ⟨r, hr, hle', hL.mono hle rfl⟩
  · by_cases hb : b = st.hp.length
    · subst hb; rw [Ren.ext_at] at f; cases f; exact hpin p hp
    · have hlt' : b < st.hp.length := by
        have := (List.getElem?_eq_some_iff.1 e).1; simp at this; omega
      rw [Ren.ext_ne _ _ hb] at f
      exact h.pout p hp b k' y (by simpa [List.getElem?_append_left hlt'] using e) hrw f

theorem Sim.pin_lt {w0 pins ρ st w} (h : Sim w0 pins ρ st w) {p} (hp : p ∈ pins) : p.1 < w.heap.size := (Array.getElem?_eq_some_iff.1 (h.pin p hp).1).1

/-- A new block, in both heaps. -/
theorem Sim.alloc {w0 pins ρ st w} (h : Sim w0 pins ρ st w) (k : ABlk) (o : Obj) (rs : Nat)
    (hB : BRel w0.heap.size (ρ.ext st.hp.length (w.heap.size, 0, rs)) (w.alloc o) k (w.heap.size, 0, rs)) :
    Sim w0 pins (ρ.ext st.hp.length (w.heap.size, 0, rs)) { st with hp := st.hp ++ [k] } (w.alloc o) := by
  refine (h.junk o).push k (w.heap.size, 0, rs) (by simp) hB (fun b k' x' _ _ f => ?_) (fun p hp => ?_)
  · have := (h.dom b x' f).2; simp; omega
  · have := h.pin_lt hp; simp; omega

theorem Sim.allocCells {w0 pins ρ st w} (h : Sim w0 pins ρ st w) {cs : List AV} {c : Array Value} (elem : TypeId) (hc : VRels ρ cs (c.toList.take cs.length)) (hl : cs.length ≤ c.size) :
    Sim w0 pins (ρ.ext st.hp.length (w.heap.size, 0, c.size)) { st with hp := st.hp ++ [.cells false cs] } (w.alloc (.cells c elem)) :=
  h.alloc _ _ _ ⟨c, elem, (0, 0), heap_alloc_at .., hl, by simp, by simpa using hc.mono (h.ext_le _), fun _ => ⟨h.below.size, rfl⟩⟩

/-- Only one real block is turned. -/
structure Only (r : Nat) (w w' : World) : Prop where
  os : w'.os = w.os
  tape : w'.tape = w.tape
  output : w'.output = w.output
  size : w'.heap.size = w.heap.size
  block : ∀ k, k ≠ r → w'.heap[k]? = w.heap[k]?

theorem Only.below {r B w w'} (h : Only r w w') (hr : B ≤ r) : Below B w w' :=
  ⟨h.os, h.tape, h.output, by rw [h.size]; exact Nat.le_refl _, fun k hk => h.block k (by omega)⟩

theorem Sim.upd {w0 pins ρ st w} (h : Sim w0 pins ρ st w) {b k x} (hk : st.hp[b]? = some k) (hrw : k.rw = true) (hx : ρ.blk b = some x) {w'} (ho : Only x.1 w w')
    {k'} (hB : k' ≠ .dead → BRel w0.heap.size ρ w' k' x) : Sim w0 pins ρ { st with hp := st.hp.set b k' } w' := by
  have hd : k ≠ .dead := fun hh => by rw [hh] at hrw; simp [ABlk.rw] at hrw
  have hbase : w0.heap.size ≤ x.1 ∧ ∀ l, w.heap[x.1]? ≠ some (.loop l) := by
    obtain ⟨y, hy, hBy⟩ := h.blk b k hk hd
    rw [hx] at hy; cases hy
    obtain ⟨rb, o, rs⟩ := x
    cases k with
    | cells ro cs =>
      obtain ⟨c, elem, fz, h1, _, _, _, h5⟩ := hBy
      exact ⟨(h5 (by simpa [ABlk.rw] using hrw)).1, fun l hl => by simp only at hl h1; rw [h1] at hl; cases hl⟩
    | amap es bs clock =>
      obtain ⟨ents, h1, h2, _⟩ := hBy
      exact ⟨h2, fun l hl => by simp only at hl h1; rw [h1] at hl; cases hl⟩
    | iter m since seen last =>
      obtain ⟨mr, h1, h2, _⟩ := hBy
      exact ⟨h2, fun l hl => by simp only at hl h1; rw [h1] at hl; cases hl⟩
    | dead => exact absurd rfl hd
  have hlen : (st.hp.set b k').length = st.hp.length := by simp
  have hb : b < st.hp.length := (List.getElem?_eq_some_iff.1 hk).1
  have get : ∀ c kc, (st.hp.set b k')[c]? = some kc → c ≠ b → st.hp[c]? = some kc := fun c kc e hne => by
    rw [List.getElem?_set_ne (Ne.symm hne)] at e; exact e
  refine ⟨h.below.trans (ho.below hbase.1), fun c y e => ⟨by rw [hlen]; exact (h.dom c y e).1, by rw [ho.size]; exact (h.dom c y e).2⟩, fun c kc e hkc => ?_,
    fun c c' k1 k2 x1 x2 e1 e2 hrw1 hd2 hne f1 f2 => ?_, fun i l e => ⟨(h.ldom i l e).1, by rw [ho.size]; exact (h.ldom i l e).2⟩, fun i l e => ?_, h.linj, fun p hp => ?_, fun p hp c kc y e hrwc f => ?_, h.lout, h.pnd⟩
  · by_cases hcb : c = b
    · subst hcb
      have : kc = k' := by simpa [hb] using e.symm
      subst this
      exact ⟨x, hx, hB hkc⟩
    · have e' := get _ _ e hcb
      obtain ⟨y, hy, hBy⟩ := h.blk c kc e' hkc
      exact ⟨y, hy, hBy.mono (.refl _) (ho.block _ (fun hh => h.inj b c k kc x y hk e' hrw hkc (Ne.symm hcb) hx hy hh.symm))⟩
  · have hk1 : ∃ k1', st.hp[c]? = some k1' ∧ (c = b ∨ k1' = k1) := by
      by_cases hcb : c = b
      · exact ⟨k, hcb ▸ hk, .inl hcb⟩
      · exact ⟨k1, get _ _ e1 hcb, .inr rfl⟩
    have hk2 : ∃ k2', st.hp[c']? = some k2' ∧ k2' ≠ .dead := by
      by_cases hcb : c' = b
      · exact ⟨k, hcb ▸ hk, hd⟩
      · exact ⟨k2, get _ _ e2 hcb, hd2⟩
    obtain ⟨k1', g1, hc1⟩ := hk1
    obtain ⟨k2', g2, hd2'⟩ := hk2
    have hrw1' : k1'.rw = true := by
      rcases hc1 with hc1 | hc1
      · subst hc1; rw [hk] at g1; cases g1; exact hrw
      · subst hc1; exact hrw1
    exact h.inj c c' k1' k2' x1 x2 g1 g2 hrw1' hd2' hne f1 f2
  · obtain ⟨r, hr, hle', hL⟩ := h.loop i l e
    refine ⟨r, hr, hle', hL.mono (.refl _) (ho.block _ (fun hh => ?_))⟩
    obtain ⟨fn, tmps, defers, h1, _⟩ := hL
    exact hbase.2 _ (hh ▸ h1)
  · obtain ⟨h1, h2⟩ := h.pin p hp
    exact ⟨by rw [ho.block _ (fun hh => h.pout p hp b k x hk hrw hx hh.symm)]; exact h1, h2⟩
  · by_cases hcb : c = b
    · subst hcb; rw [hx] at f; cases f; exact h.pout p hp c k x hk hrw hx
    · exact h.pout p hp c kc y (get _ _ e hcb) hrwc f

theorem Only.refl (r w) : Only r w w := ⟨rfl, rfl, rfl, rfl, fun _ _ => rfl⟩

/-- What nobody asks for any more. -/
theorem Sim.kill {w0 pins ρ st w} (h : Sim w0 pins ρ st w) {b k x} (hk : st.hp[b]? = some k) (hrw : k.rw = true) (hx : ρ.blk b = some x) :
    Sim w0 pins ρ { st with hp := st.hp.set b .dead } w := h.upd hk hrw hx (Only.refl _ _) (fun hh => absurd rfl hh)

end Go.Ab
