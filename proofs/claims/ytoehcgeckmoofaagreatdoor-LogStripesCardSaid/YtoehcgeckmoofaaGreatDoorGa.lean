/- What the rows of this seat give a proof: the listed tables; a start that fits; what a call comes to. -/
import Derived.Test.YtoehcgeckmoofaaGreatDoorFe
import Derived.Test.YtoehcgeckmoofaaGreatDoorTie
import Derived.Test.YtoehcgeckmoofaaGreatDoorCards
import Derived.ProofKit
import Derived.OpenShut
import Derived.LaidMore
import Derived.Lay
import Derived.SevenTiedAt
import Derived.Stop.Joined
import Derived.Lib.LaidU8T
import Derived.Lib.LaidTab
import Derived.Shelf.Vars
set_option linter.unusedVariables false
set_option linter.unusedSimpArgs false
set_option maxRecDepth 100000
namespace Go.Proofs.YtoehcgeckmoofaaGreatDoor
open Go.Proofs Go.ChangeShapes Go.WideShapes Go.ChangeAt Go.RowKit Go.Shelf

theorem own : ownKnob Tryz.prog.godebug = none := by kernel_rfl
theorem first_eq : Go.Pinned.utf8First = Go.Lib.firstData := by kernel_rfl
theorem accept_eq : (Rows.laid_unicode_utf8_acceptRanges : DataW Unit) = Go.Lib.acceptData := by kernel_rfl
theorem pow_eq : (Rows.laid_internal_strconv_uint64pow10 : DataW Unit) = Go.Lib.tabData .u64 Go.Lib.pow10Tab := by kernel_rfl
def ren : Ren := ⟨fun x => x, fun x => if x = 5 then 5 else if x = 119 then 280 else if x = 138 then 282 else 283, fun x => if x = 3 then 6 else 7⟩
theorem u8t : U8Types Tryz.prog ren := ⟨by kernel_rfl, by kernel_rfl, by kernel_rfl, by kernel_rfl⟩
theorem u8x : U8Extra Tryz.prog ren := ⟨by kernel_rfl, by kernel_rfl, by kernel_rfl, by kernel_rfl, by kernel_rfl, by kernel_rfl, by kernel_rfl⟩

/-- What the rows of this seat list. -/
def laidAll : List (String × DataW Unit) := Rows.logStripesRow.laid

theorem gnd_of {W : World} (hL : laidMetH Tryz.prog laidAll W) (hsh : W.ShapedOpen Tryz.prog) : Go.Ab.Gnd W := by
  rw [MakeChecks.laidMetH_plain _ _ _ (by kernel_rfl)] at hL
  refine ⟨fun g hg => ?_, fun g3 g4 h3 h4 => ?_, ?_⟩
  · obtain rfl := Option.some.inj ((show Tryz.prog.globalNamed "internal/bytealg.MaxLen" = some 0 by kernel_rfl).symm.trans hg)
    exact cell_of_shapedOpen_int (P := Tryz.prog) (g := 0) (t := 3) (zero := #[.int .i64 0]) hsh (of_decide_eq_true (by kernel_rfl)) (by kernel_rfl) rfl (by kernel_rfl) (by kernel_rfl) Tryz.underlying3
  · obtain rfl := Option.some.inj ((show Tryz.prog.globalNamed "unicode/utf8.first" = some 6 by kernel_rfl).symm.trans h3)
    obtain rfl := Option.some.inj ((show Tryz.prog.globalNamed "unicode/utf8.acceptRanges" = some 7 by kernel_rfl).symm.trans h4)
    have r3 : Go.Lib.VarReads Tryz.prog W "unicode/utf8.first" Go.Pinned.utf8First := Go.Lib.laidMet.reads hL (by simp [laidAll, Rows.logStripesRow, Rows.laid_unicode_utf8_first])
    have r4 : Go.Lib.VarReads Tryz.prog W "unicode/utf8.acceptRanges" Rows.laid_unicode_utf8_acceptRanges := Go.Lib.laidMet.reads hL (by simp [laidAll, Rows.logStripesRow])
    rw [first_eq] at r3
    rw [accept_eq] at r4
    exact utf8Tabs_of_readsT u8t u8x r3 r4
  · have r1 : Go.Lib.VarReads Tryz.prog W "internal/strconv.uint64pow10" Rows.laid_internal_strconv_uint64pow10 := Go.Lib.laidMet.reads hL (by simp [laidAll, Rows.logStripesRow])
    rw [pow_eq] at r1
    obtain ⟨g, t, cs, fuel, p, hg, ht, hv, hd⟩ := r1
    obtain rfl := Option.some.inj ((show Tryz.prog.globalNamed "internal/strconv.uint64pow10" = some 1 by kernel_rfl).symm.trans hg)
    obtain rfl := Option.some.inj ((show (Tryz.prog.globals[1]?).map (·.type) = some 239 by kernel_rfl).symm.trans ht)
    unfold Go.Lib.TabIs
    rw [hv, ← Go.Lib.cells_of_tab (show Tryz.prog.underlying 239 = some (.array 20 219) by kernel_rfl) (show Tryz.prog.underlying 219 = some (.int .u64) by kernel_rfl) (by kernel_rfl) (by kernel_rfl) hd]

/-- A law's row: as 'returnsInHanded_of_change_and', the world's shape handed on beside. -/
theorem law_of {H : Type} {enc : TypeId × Value → H} {a : Assume} {C : Checked} {os : Os} {f : FuncId} {fn : Func} {s : ChangeSpec} {conds : List PathCond} {apart fresh handsOn again : Bool} {X : World → Array Value → Prop}
    (hX : ∀ (w w' : World) (args : Array Value), w.heap = w'.heap → X w args → X w' args)
    (own : ownKnob C.prog.godebug = none) (started : os.Started) (noInit : C.prog.inits.idxOf? f = none) (hfn : C.prog.funcs[f]? = some fn)
    (witness : ∃ (w : World) (tape : Tape) (i : Input), w.os = os ∧ (w.forCall tape i).Shaped C.prog ∧ i.vars = [] ∧ Input.okWide C.prog (w.forCall tape i) .any w.heap.size f i ∧
      ((s.pre enc C.prog fn conds apart (w.forCall tape i).memory i.args ∧ X (w.forCall tape i).memory i.args) ∧ sizedMet enc C.prog fn (OpenSpec.ofChange s) apart (w.forCall tape i).memory i.args) ∧ a.holds C.prog (lone (Frame.enter C.prog f i.args .normal) [] (w.forCall tape i)))
    (contract : ∀ (W : World) (base : Nat) (args : Array Value) (ds gs : List (DataW H)) (before : List MemPlace),
      (∀ (j : Nat) t v, fn.params[j]? = some t → args[j]? = some v → Value.okWide C.prog W .any base t v) →
      DataW.Whole enc C.prog fn.params.toList s.vars apart W args.toList ds gs before → X W args → W.ShapedOpen C.prog →
      Calls C.prog f args W fun e W' => ∃ v, e = .returned v ∧ s.post enc C.prog fn apart fresh handsOn again W args v W') :
    ReturnsInHanded a C os f .any (fun w args => (s.pre enc C.prog fn conds apart w args ∧ X w args) ∧ sizedMet enc C.prog fn (OpenSpec.ofChange s) apart w args) (s.post enc C.prog fn apart fresh handsOn again) := by
  refine returnsInHanded_of_calls own started noInit witness ?_
  intro w tape i _ hsh _ hok hpre hholds
  obtain ⟨_, _, _, fn', hfn', _, _, _, _, hval⟩ := hok
  have e : fn' = fn := Option.some.inj (hfn'.symm.trans hfn)
  subst e
  obtain ⟨⟨⟨ds, gs, before, hw, hc⟩, hx⟩, hz⟩ := hpre
  have hw' := DataW.Whole.of_heap (w' := w.forCall tape i) (by rfl) hw
  refine (contract (w.forCall tape i) w.heap.size i.args ds gs before hval hw' (hX _ _ _ (by rfl) hx) hsh).mono fun e W' ⟨v, he, hp⟩ => ?_
  subst he
  exact ChangeSpec.post_blind hp

/-- Nothing lies in the abstract heap. -/
def ren0 : Go.Ab.Ren := ⟨fun _ => none, fun _ => none⟩
def st0 : Go.Ab.St := ⟨[], []⟩
theorem sim0 (W : World) : Go.Ab.Sim W [] ren0 st0 W :=
  ⟨.refl _ W, fun _ _ h => (by cases h), fun b k h => (by simp [st0] at h), fun b b' k k' x x' h => (by simp [st0] at h), fun _ _ h => (by cases h), fun i l h => (by simp [st0] at h), fun _ _ _ h => (by cases h), fun p h => (by cases h), fun p h => (by cases h), fun _ _ h => (by cases h), (by simp)⟩

/-- What a law that answers yes comes to. -/
theorem yes_of {W : World} {f : Nat} {args : List Go.Ab.AV} {args' : Array Value} (h : Go.Ab.Cal W f args st0 fun v _ => v = .bool true) (ha : Go.Ab.VRels ren0 args args'.toList) :
    Calls Tryz.prog f args' W fun e W' => e = .returned (.bool true) ∧ Below W.heap.size W W' := by
  refine (h.2 [] ren0 W args' (sim0 W) ha).mono fun e W' hh => ?_
  obtain ⟨v', ρ', v, st', rfl, _, hs, hv, rfl⟩ := hh
  cases hv
  exact ⟨rfl, hs.below⟩
theorem u8_nat {x : Int} (w : (Lit.int .u8 x).wf = true) : ∃ n : Nat, n < 256 ∧ (n : Int) = x := by
  obtain ⟨h1, h2⟩ := bounds_u8 w
  exact ⟨x.toNat, by omega, by omega⟩
end Go.Proofs.YtoehcgeckmoofaaGreatDoor
