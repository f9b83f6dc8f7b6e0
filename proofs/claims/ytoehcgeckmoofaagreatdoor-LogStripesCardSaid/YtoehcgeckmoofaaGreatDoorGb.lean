/- The law LogStripes returns true for every three bytes; the three bytes read as they did: the row and the tied card. No condition. -/
import Derived.Test.YtoehcgeckmoofaaGreatDoorGa
set_option linter.unusedVariables false
set_option linter.unusedSimpArgs false
set_option maxRecDepth 100000
namespace Go.Proofs.YtoehcgeckmoofaaGreatDoor
open Go.ChangeShapes Go.WideShapes Go.ChangeAt Go.RowKit

theorem logStripes_lifted (os : Os) (started : os.Started) (H : Type) (enc : TypeId × Value → H) :
    ReturnsInHanded {} Tryz.checked os 5 .any (fun w args => (Rows.logStripesSpec.pre enc Tryz.prog Tryz.f5 Rows.logStripesRow.domain false w args ∧ laidMetH Tryz.prog Rows.logStripesRow.laid w) ∧ sizedMet enc Tryz.prog Tryz.f5 (OpenSpec.ofChange Rows.logStripesSpec) false w args)
      (Rows.logStripesSpec.post enc Tryz.prog Tryz.f5 false true false false) := by
  refine law_of (C := Tryz.checked) (X := fun w _ => laidMetH Tryz.prog Rows.logStripesRow.laid w) (fun _ _ _ hh h => h.of_heap hh) own started (by kernel_rfl) Tryz.func5
    (ChangeSpec.witness_shaped (enc := enc) (C := Tryz.checked) (os := os) (X := fun w _ => laidMetH Tryz.prog Rows.logStripesRow.laid w) false (World.laidAll Tryz.prog os Rows.logStripesRow.laid) #[.int .u8 0, .int .u8 0, .int .u8 0] 8 (World.laidAll_os _ _ _)
      (World.shaped_of_ZipB (by kernel_rfl) (by kernel_rfl)) (by kernel_rfl) (by kernel_rfl) (by kernel_rfl)
      (by rw [MakeChecks.laidMetH_plain _ _ _ (by kernel_rfl)]; exact laidMet_laidAll _ (by kernel_rfl) (by kernel_rfl))) ?_
  intro W base args ds gs before hval0 hW hL hsh
  have hval : ∀ (j : Nat) t v, Tryz.f5.params[j]? = some t → args[j]? = some v → Value.okWide Tryz.prog W .any base t v := hval0
  have hW' := hW
  obtain ⟨p, q, hA0, hV, rfl, _, _⟩ := hW
  have hA : DataW.TrodAll enc Tryz.prog W 0 (fun _ => true) true Tryz.f5.params.toList args.toList ds p := hA0
  rw [Tryz.params5] at hA hval
  obtain ⟨v0, v1, v2, d0, d1, d2, p0, p1, p2, rfl, rfl, rfl, h0, h1, h2⟩ := trodAll_three hA
  obtain ⟨rfl, rfl⟩ := trodVars_none hV
  obtain ⟨x, rfl, rfl, rfl, wx⟩ := open_int Tryz.underlying5 (hval 0 5 v0 rfl rfl) h0
  obtain ⟨y, rfl, rfl, rfl, wy⟩ := open_int Tryz.underlying5 (hval 1 5 v1 rfl rfl) h1
  obtain ⟨z, rfl, rfl, rfl, wz⟩ := open_int Tryz.underlying5 (hval 2 5 v2 rfl rfl) h2
  clear hA0 hval0
  simp only [List.append_nil] at hW'
  have bx := u8_nat wx
  have by1 := u8_nat wy
  have bz := u8_nat wz
  obtain ⟨a, ha, rfl⟩ := bx
  obtain ⟨b, hb, rfl⟩ := by1
  obtain ⟨c, hc, rfl⟩ := bz
  have hcal := Go.Ab.sp_LogStripes (w0 := W) (st := st0) (F := []) (Q := fun v _ => v = .bool true) (gnd_of hL hsh) (Go.Ab.Sep.nil _) ha hb hc (fun _ => rfl)
  refine (yes_of (args' := #[.int .u8 a, .int .u8 b, .int .u8 c]) hcal (.cons (.int _ _) (.cons (.int _ _) (.cons (.int _ _) .nil)))).mono fun e W' ⟨he, bel⟩ => ?_
  subst he
  refine ⟨_, rfl, _, _, _, [], [], [], hW', trodAll_mk1 (shut_bool Tryz.underlying4 _), trodAll_mk3 (shut_int Tryz.underlying5 wx) (shut_int Tryz.underlying5 wy) (shut_int Tryz.underlying5 wz), rfl, bel.frame _, fun h => by cases h⟩

theorem logStripes_holds : Rows.LogStripesSaid :=
  OpenClaim.holds_of_wide 5 Tryz.f5 rfl rfl rfl rfl rfl rfl rfl ⟨rfl, rfl, rfl, rfl, rfl⟩ rfl rfl rfl rfl rfl (by kernel_rfl) Tryz.func5 (by kernel_rfl)
    (of_decide_eq_true (by kernel_rfl)) (by unfold Func.isWrapper; first | (rw [if_pos (by decide +kernel)]; kernel_rfl) | (rw [if_neg (by decide +kernel)]; exact ⟨rfl, rfl⟩))
    (fun os started H enc _ => logStripes_lifted os started H enc)

theorem logStripes_card : Rows.LogStripesCardSaid :=
  Claim7.holds_tied_plain_at .later [] [.data, .data, .data, .data, .sentinel, .sentinel, .pinned] true (true, "759f4248d263eee9bd23d72bed2c2e5463f32fd53860abd04160e9e02410adb9") true
    logStripes_holds (fun _ h => by cases h) (by kernel_rfl) (fun _ h => by cases h) logStripes_row_tie rfl ⟨rfl, rfl⟩ (by kernel_rfl) rfl
    (fun f fn hf hfn => by
      obtain rfl : f = 5 := Option.some.inj ((show Tryz.prog.funcNamed "landau/landaulaw6.LogStripes" = some 5 by kernel_rfl).symm.trans hf) |>.symm
      obtain rfl : fn = Tryz.f5 := (Option.some.inj (Tryz.func5.symm.trans hfn)).symm
      exact ⟨by kernel_rfl, fun j t ht => by
        rw [Tryz.params5] at ht
        have hm : t ∈ [5, 5, 5] := by simpa using Array.mem_of_getElem? ht
        have hall : ([5, 5, 5].all fun u => !Tryz.prog.wantsStandIn u) = true := by kernel_rfl
        exact (show Tryz.prog.wantsStandIn t = false by simpa using List.all_eq_true.1 hall t hm)⟩)
    (by kernel_rfl)
#print axioms logStripes_card
end Go.Proofs.YtoehcgeckmoofaaGreatDoor
