/- landaulaw6.known answers yes. -/
import Derived.Test.YtoehcgeckmoofaaGreatDoorFb
set_option linter.unusedVariables false
set_option linter.unusedSimpArgs false
set_option maxRecDepth 100000
namespace Go.Ab
open Go Go.RowKit Go.Proofs

theorem Ext_0 {a : AV} {cs : List AV} {K : AV → Prop} (h : K a) : Ext (.tup (a :: cs)) 0 K := h
theorem Ext_1 {a b : AV} {cs : List AV} {K : AV → Prop} (h : K b) : Ext (.tup (a :: b :: cs)) 1 K := h
theorem eqP {a b : Int} {w : Bool} {X Y : Prop} (e : a = b) (h : X) : OptK (bin .int .eql (.int .i64 a) (.int .i64 b)) (fun v => AsBool (AV.pick true v (.bool w)) fun c => Br (c == true) X Y) := by
  subst e
  simp only [bin_eql, OptK_some, AV.pick, cond_true, decide_true, AsBool_bool]
  exact h
theorem eq1 {a b : Int} {X Y : Prop} (e : a = b) (h : X) : OptK (bin .int .eql (.int .i64 a) (.int .i64 b)) (fun v => AsBool v fun c => Br (c == true) X Y) := by
  subst e
  simp only [bin_eql, OptK_some, decide_true, AsBool_bool]
  exact h
theorem boP {b w : Bool} {X Y : Prop} (e : b = true) (h : X) : AsBool (AV.pick true (.bool b) (.bool w)) (fun c => Br (c == true) X Y) := by subst e; exact h
theorem addV {a b c : Int} {K : AV → Prop} (e : a + b = c) (h1 : -9223372036854775808 ≤ c) (h2 : c ≤ 9223372036854775807) (h : K (.int .i64 c)) : OptK (bin .int .add (.int .i64 a) (.int .i64 b)) K := by
  subst e; rw [bin_add h1 h2]; exact h
/-- Nothing wrong with what New answers. -/
theorem newOk {l : Nat} {s : St} {kk : AV → St → Prop} (h : kk (.bool false) s) : OptK (bin .int .neq (.int .i64 0) (.int .i64 0)) (fun v => AsBool v fun b => Br (b == false) (OptK (bin .ptr .eql (.ptr l 0) .nilp) fun w => kk (AV.pick false (.bool true) w) s) (kk (.bool true) s)) := by
  simp only [bin_neq, OptK_some, decide_true, AsBool_bool]
  exact h
theorem k5room : ∀ S ∈ K5.segs, used S.2.lines + 13 ≤ S.2.room := by
  have h : (K5.segs.all fun S => decide (used S.2.lines + 13 ≤ S.2.room)) = true := by kernel_rfl
  intro S hS
  simpa using List.all_eq_true.1 h S hS
theorem k9full : ∀ S ∈ K9.segs, noteFull S.2 115 K9.m.length = false := by
  intro S hS
  have := List.all_eq_true.1 k9f S hS
  simpa using this

section
variable {w0 : World} {st : St} {Q : Kont} {F : List Prp} {l : Nat}

theorem kPut {L : LogM} {pos a b : Int} (g : Gnd w0) (h : Sep st (LogP l L :: F)) (wf : L.WF) (hc : L.putCode pos (RR a b) = 0) (hq : ∀ st', Sep st' (LogP l (L.put (RR a b)) :: F) → Q (.int .i64 0) st') :
    Cal w0 n_maint_Log_Put [.ptr l 0, .int .i64 pos, recAV .nils (RR a b)] st Q := by
  refine sp_LPut (v := .nils) (r := RR a b) (F := F) g h.nilSh.swap wf rfl (by simp [RR]) (by simp [RR]) (keyOkRR a b) (fun e he h1 => absurd (he.symm.trans hc) h1) fun _ s h => hq s ?_
  exact h.swap.tail
theorem kPutE {L : LogM} {pos a b e : Int} (g : Gnd w0) (h : Sep st (LogP l L :: F)) (wf : L.WF) (hc : L.putCode pos (RR a b) = e) (h0 : e ≠ 0) (hq : ∀ st', Sep st' (LogP l L :: F) → Q (.int .i64 e) st') :
    Cal w0 n_maint_Log_Put [.ptr l 0, .int .i64 pos, recAV .nils (RR a b)] st Q := by
  refine sp_LPut (v := .nils) (r := RR a b) (F := F) g h.nilSh.swap wf rfl (by simp [RR]) (by simp [RR]) (keyOkRR a b) (fun e' he h1 s h => ?_) fun h1 => absurd (hc.symm.trans h1) h0
  have : e' = e := he.symm.trans hc
  subst this
  exact hq s h.swap.tail

theorem sp_known (g : Gnd w0) (hs : Sep st F) (hq : ∀ st', Sep st' F → Q (.bool true) st') : Cal w0 n_landaulaw6_known [] st Q := by
  refine ok_landaulaw6_known ?_
  unfold vc_landaulaw6_known
  refine sp_LNew (k := 2) (room := 1000) hs g (by omega) (by omega) (by omega) (by omega) fun l s h => ?_
  have h : Sep s (LogP l K0 :: F) := h
  have wf0 : K0.WF := wf_new (by omega) (by omega)
  have wf1 : K1.WF := wf_put wf0 k0
  have wf2 : K2.WF := wf_put wf1 k1
  have wf3 : K3.WF := wf_put wf2 k2
  have wf4 : K4.WF := wf_sync wf3 0
  have wf5 : K5.WF := wf_crash wf4 _ _ (by kernel_rfl)
  obtain ⟨rc6, g6⟩ := k6good
  obtain ⟨rc4, g4⟩ := k4good
  refine Ext_0 ?_
  refine Ext_1 ?_
  refine Jn_of (fun kk => kk (.bool false) s) ?_ fun kk hkk => ?_
  · simp only [AsBool_bool]
    refine Br_f (by decide) ?_
    refine sp_R h fun s h => ?_
    refine kPut g h wf0 k0 fun s h => ?_
    have h : Sep s (LogP l K1 :: F) := h
    refine sp_R h fun s h => ?_
    refine kPut g h wf1 k1 fun s h => ?_
    have h : Sep s (LogP l K2 :: F) := h
    refine sp_R h fun s h => ?_
    refine kPut g h wf2 k2 fun s h => ?_
    have h : Sep s (LogP l K3 :: F) := h
    refine sp_R h fun s h => ?_
    refine kPutE g h wf3 k3 (by omega) fun s h => ?_
    refine sp_LHead h wf3 fun s h => ?_
    refine sp_LSync (k := 0) h (by kernel_rfl) (by rw [wf3.segs]; omega) (by rw [wf3.segs]; omega) fun s h => ?_
    have h : Sep s (LogP l K4 :: F) := h
    refine sp_LHead h wf4 fun s h => ?_
    refine sp_LCrash (keep := []) h (by rw [wf4.segs]; omega) (.nil _) (by simp) (by simp) fun kk0 ao s c1 c2 c3 h => ?_
    obtain ⟨rfl, rfl⟩ := k5falls c1 c2 c3
    have h : Sep s (LogP l K5 :: F) := h
    refine sp_R h fun s h => ?_
    refine kPutE g h wf5 k5 (by omega) fun s h => ?_
    refine sp_LRecover (Ms := uptos K4.segs [2, 0, 0, 0, 0, 0, 0, 0]) (ols := []) g h (by kernel_rfl) (by rw [wf5.segs]; omega) (by kernel_rfl) (g4.comes k5fall) (by kernel_rfl) (by simp) (Nat.zero_le _)
      (fun S hS n hn => noteFull_cut (k5room S hS) hn 99) fun nx s n1 n2 n3 h => ?_
    rw [show K5.segs = List.zipWith crashS K4.segs [2, 0, 0, 0, 0, 0, 0, 0] from rfl, crash_re] at n2 n3 h
    have hnx : nx = 1 := k6nx (fun p _ hp => n2 p (Nat.zero_le _) hp) n3
    subst hnx
    have h : Sep s (LogP l K6 :: F) := h
    refine sp_LNext h ?_
    refine sp_R h fun s h => ?_
    refine kPut g h g6.wf k6 fun s h => ?_
    have h : Sep s (LogP l K7 :: F) := h
    refine sp_LSync (k := 1) h (by kernel_rfl) (by rw [k8wf.1.segs]; omega) (by rw [k8wf.1.segs]; omega) fun s h => ?_
    have h : Sep s (LogP l K8 :: F) := h
    refine sp_LVec h k8wf.2 fun wv s wv1 h => ?_
    refine h.psh fun s2 h => ?_
    generalize s.hp.length = b1 at h ⊢
    have h := h.freeze.toSh (esz := 1) (cells := ints [1]) (o := 0) (n := 1) (c := 1) (e := true) (by simp [ints]) (by simp [ints]) (by omega)
    generalize AV.slice b1 0 1 1 true 1 = tv at h ⊢
    have h := h.swap
    refine sp_LTrim (pos := 1) (xs := [1]) g h k8wf.2 (fun st k => k.rdS) ⟨by simp, by simp⟩ (by simp) (fun e he h1 => absurd (he.symm.trans k8t) h1) fun _ s h => ?_
    have h : Sep s (LogP l K9 :: ShP tv 1 (ints [1]) :: ShP wv 1 (ints K8.vec) :: F) := h
    refine sp_LTrimmed h k9wf fun gv s gv1 h => ?_
    refine Ext_0 ?_
    refine Ext_1 ?_
    refine sp_LResize (n := 3) g h k9wf (by omega) (by omega) (by kernel_rfl) (fun S hS x hx => (k9wf.ok S hS).slot x hx |>.2.2) (fun hh => absurd k9h hh) (fun _ => ⟨k9full, k9o, k9m, fun S hS => (k9wf.ok S hS).trim⟩) fun _ s h => ?_
    have h : Sep s (LogP l K10 :: SlP gv 1 (ints [1]) :: ShP tv 1 (ints [1]) :: ShP wv 1 (ints [2]) :: F) := h
    refine sp_LGet (pos := 0) h k10wf (fun e he h1 s h => ?_) fun hh => absurd (hh.symm.trans k10g) (by decide)
    have he : e = 8 := he.symm.trans k10g
    subst he
    refine Ext_0 ?_
    refine Ext_1 ?_
    refine h.new fun c s h => ?_
    refine h.stoA 0 rfl rfl (by simp) fun s h => ?_
    have h := h.tail
    refine addV (c := 0) (by omega) (by omega) (by omega) ?_
    refine addV (c := 0) (by omega) (by omega) (by omega) ?_
    refine addV (c := 0) (by omega) (by omega) (by omega) ?_
    refine addV (c := 0) (by omega) (by omega) (by omega) ?_
    refine addV (c := 0) (by omega) (by omega) (by omega) ?_
    refine addV (c := 0) (by omega) (by omega) (by omega) ?_
    refine eq1 rfl ?_
    refine eqP rfl ?_
    refine eqP (by rw [k3h]; rfl) ?_
    refine eqP (by rw [k4h]; rfl) ?_
    refine eqP rfl ?_
    refine eqP (by kernel_rfl) ?_
    refine h.psh fun s2 h => ?_
    have h := h.freeze.toSh (esz := 1) (cells := ints [2]) (o := 0) (n := 1) (c := 1) (e := true) (by simp [ints]) (by simp [ints]) (by omega)
    refine sp_SameVec (xs := [2]) (ys := [2]) ((h.ord [4]).rdS) h.rdS (by simp) (by simp) ?_
    refine boP (by decide) ?_
    refine eqP (by rw [k9t]; rfl) ?_
    refine h.psh fun s3 h => ?_
    have h := h.freeze.toSh (esz := 1) (cells := ints [1]) (o := 0) (n := 1) (c := 1) (e := true) (by simp [ints]) (by simp [ints]) (by omega)
    refine sp_SameVec (xs := [1]) (ys := [1]) ((h.ord [3]).rd) h.rdS (by simp) (by simp) ?_
    refine boP (by decide) ?_
    have h := h.ord [2]
    refine sp_LStripes h k10wf.m ?_
    refine eqP (by rw [k10s]; rfl) ?_
    refine sp_LEpoch h ?_
    refine eqP (by rw [k10e]; rfl) ?_
    refine eqP rfl ?_
    refine sp_LDown h ?_
    rw [k10d, un_not]
    exact hq _ (h.tail.tail.tail.tail.tail.tail)
  · exact newOk hkk
end
end Go.Ab
