/- What must hold for Go functions to run to their end: printed by vc.py. -/
import Derived.Test.YtoehcgeckmoofaaGreatDoorNames
set_option linter.unusedVariables false
set_option maxRecDepth 100000
namespace Go.Ab
open Go Go.RowKit Go.Proofs

/-! (*landau/seg.Seg).Trim -/
def ann_seg_Seg_Trim : Nat → List Nat
  | _ => []
def vc_seg_Seg_Trim (w0 : World) (a0 : AV) (a1 : Int) (st : St) (Q : Kont) : Prop :=
  Jn (fun (j16 : AV) (st17 : St) =>
    AsBool j16 fun b18 => Br b18 (
    Cal w0 n_seg_Seg_cutBelow [a0, (.int .i64 a1)] st17 fun v23 st24 =>
    Q (.tup []) st24) (
    Q (.tup []) st17)) fun (k25 : AV → St → Prop) => NilC a0 fun v26 =>
  Faddr v26 3 fun v27 =>
  Ld st v27 false 1 fun v28 st29 =>
  OptK (bin .int .gtr (.int .i64 a1) v28) fun v30 =>
  AsBool v30 fun b31 => Br (b31 == true) (
  Br ((decide (a1 ≤ 2147483647)) == true) (
  Cal w0 n_seg_Seg_note [a0, (.str [116]), (.int .i64 a1)] st29 fun v32 st33 =>
  OptK (bin .int .eql v32 (.int .i64 0)) fun v34 =>
  k25 (AV.pick true v34 (.bool false)) st33) (
  k25 (.bool false) st29)) (
  k25 (.bool false) st29)
theorem ok_seg_Seg_Trim {w0 : World} {a0 : AV} {a1 : Int} {st : St} {Q : Kont} (h : vc_seg_Seg_Trim w0 a0 a1 st Q) : Cal w0 n_seg_Seg_Trim [a0, (.int .i64 a1)] st Q :=
  acall_of_gen ann_seg_Seg_Trim Tryz.func55 rfl (by kernel_rfl) (cast (by kernel_rfl : vc_seg_Seg_Trim w0 a0 a1 st Q = _) h)

/-! (*landau/seg.Seg).Disk -/
def ann_seg_Seg_Disk : Nat → List Nat
  | _ => []
def vc_seg_Seg_Disk (w0 : World) (a0 : AV) (st : St) (Q : Kont) : Prop :=
  NilC a0 fun v1 =>
  Faddr v1 0 fun v2 =>
  Ld st v2 false 1 fun v3 st4 =>
  Q v3 st4
theorem ok_seg_Seg_Disk {w0 : World} {a0 : AV} {st : St} {Q : Kont} (h : vc_seg_Seg_Disk w0 a0 st Q) : Cal w0 n_seg_Seg_Disk [a0] st Q :=
  acall_of_gen ann_seg_Seg_Disk Tryz.func59 rfl (by kernel_rfl) (cast (by kernel_rfl : vc_seg_Seg_Disk w0 a0 st Q = _) h)

/-! landau/seg.Open -/
noncomputable def asg_seg_Open_0 : Code := (codeAt (Tryz.f61.body.getD .skip) [2, 1, 2, 2, 1, 2, 2]).1
noncomputable def bod_seg_Open_0 : Code := (codeAt (Tryz.f61.body.getD .skip) [2, 1, 2, 2, 1, 2, 2]).2
def ann_seg_Open : Nat → List Nat
  | _ => []
def vc_seg_Open (w0 : World) (a0 : AV) (st : St) (Q : Kont) : Prop :=
  OptK (AV.cellsOk a0) fun c3 =>
  New st c3 fun v1 st2 =>
  Ld st2 v1 false 1 fun v4 st5 =>
  Psh st5 (.amap [] [] 0) fun st6 =>
  OptK (fillAV (fun i => [(0, 1), (1, 1), (2, 1), (3, 1)][i]?) [.nilp, .nilm, (.int .i64 0), (.int .i64 0)] [(0, v4), (1, (.map st5.hp.length))]) fun c7 =>
  OptK (AV.cellsOk (.agg c7)) fun c10 =>
  New st6 c10 fun v8 st9 =>
  New st9 [.nilp] fun v11 st12 =>
  Sto st12 v11 v8 1 fun v14 st13 =>
  Ld st13 v1 false 1 fun v15 st16 =>
  Cal w0 n_disk_Disk_Lines [v15] st16 fun v17 st18 =>
  CalR w0 v17 st18.lp.length (pushLoop st18 { st := .ready, pend := none, tmps := [a0, v1, .nilp, (.int .i64 0), v11, .any, .any, v4, (.map st5.hp.length), (.agg c7), v8, v15, v17, .any, .any, .any, .any, .any, .any, .any, .any, .any, .any, .any, .any, .any], params := #[13, 14], assign := asg_seg_Open_0, body := bod_seg_Open_0 }) fun _ st22 =>
  AftR st22 st18.lp.length (fun st23 =>
    Ld st23 v11 false 1 fun v25 st26 =>
  Q (.tup [v25, (.int .i64 0)]) st26) (fun st23 =>
    Q (.tup [.nilp, (.int .i64 0)]) st23) (fun e24 st23 =>
    Br (e24 == 0) (
  Ld st23 v11 false 1 fun v27 st28 =>
  Q (.tup [v27, (.int .i64 0)]) st28) (
  False)) (fun e24 st23 => False)
def rnd_seg_Open_0 (w0 : World) (i : Nat) (m1 : AV) (m4 : AV) (p0 : AV) (p1 : AV) (st : St) (Q : Kont) : Prop :=
  RBeg st i fun st1 =>
  Ld st1 m4 false 1 fun v2 st3 =>
  Cal w0 n_seg_Seg_take [v2, p0, p1] st3 fun v4 st5 =>
  OptK (un .not v4) fun v6 =>
  AsBool v6 fun b7 => Br b7 (
    Ld st5 m1 false 1 fun v8 st9 =>
    Cal w0 n_disk_Disk_Sync [v8] st9 fun v10 st11 =>
    Ld st11 m1 false 1 fun v12 st13 =>
    Cal w0 n_disk_Disk_Cut [v12, p0] st13 fun v14 st15 =>
    RExit i Q st15 0) (
    RNorm i Q st5)
theorem okr_seg_Open_0 {w0 : World} {i : Nat} {m0 : AV} {m1 : AV} {m2 : AV} {m3 : AV} {m4 : AV} {m5 : AV} {m6 : AV} {m7 : AV} {m8 : AV} {m9 : AV} {m10 : AV} {m11 : AV} {m12 : AV} {m13 : AV} {m14 : AV} {m15 : AV} {m16 : AV} {m17 : AV} {m18 : AV} {m19 : AV} {m20 : AV} {m21 : AV} {m22 : AV} {m23 : AV} {m24 : AV} {m25 : AV} {p0 : AV} {p1 : AV} {st : St} {Q : Kont} {ls : LoopState} {pd : Option Code} (hi : st.lp[i]? = some { st := ls, pend := pd, tmps := [m0, m1, m2, m3, m4, m5, m6, m7, m8, m9, m10, m11, m12, m13, m14, m15, m16, m17, m18, m19, m20, m21, m22, m23, m24, m25], params := #[13, 14], assign := asg_seg_Open_0, body := bod_seg_Open_0 }) (h : rnd_seg_Open_0 w0 i m1 m4 p0 p1 st Q) : AYield Tryz.prog w0 i [p0, p1] st Q :=
  ayield_of_gen ann_seg_Open hi rfl (cast (by kernel_rfl : rnd_seg_Open_0 w0 i m1 m4 p0 p1 st Q = _) h)
theorem ok_seg_Open {w0 : World} {a0 : AV} {st : St} {Q : Kont} (h : vc_seg_Open w0 a0 st Q) : Cal w0 n_seg_Open [a0] st Q :=
  acall_of_gen ann_seg_Open Tryz.func61 rfl (by kernel_rfl) (cast (by kernel_rfl : vc_seg_Open w0 a0 st Q = _) h)

/-! (*landau/seg.Seg).Cut -/
def ann_seg_Seg_Cut : Nat → List Nat
  | _ => []
def vc_seg_Seg_Cut (w0 : World) (a0 : AV) (a1 : Int) (st : St) (Q : Kont) : Prop :=
  Jn (fun (j6 : AV) (st7 : St) =>
    AsBool j6 fun b8 => Br b8 (
    Q (.int .i64 1) st7) (
    Cal w0 n_seg_Seg_note [a0, (.str [99]), (.int .i64 a1)] st7 fun v9 st10 =>
  OptK (bin .int .eql v9 (.int .i64 0)) fun v11 =>
  AsBool v11 fun b12 => Br b12 (
    Cal w0 n_seg_Seg_cut [a0, (.int .i64 a1)] st10 fun v17 st18 =>
    Q v9 st18) (
    Q v9 st10))) fun (k19 : AV → St → Prop) => Br ((decide (a1 < 0)) == false) (
  k19 (.bool (decide (2147483647 < a1))) st) (
  k19 (.bool true) st)
theorem ok_seg_Seg_Cut {w0 : World} {a0 : AV} {a1 : Int} {st : St} {Q : Kont} (h : vc_seg_Seg_Cut w0 a0 a1 st Q) : Cal w0 n_seg_Seg_Cut [a0, (.int .i64 a1)] st Q :=
  acall_of_gen ann_seg_Seg_Cut Tryz.func66 rfl (by kernel_rfl) (cast (by kernel_rfl : vc_seg_Seg_Cut w0 a0 a1 st Q = _) h)

/-! (*landau/seg.Seg).Put -/
def ann_seg_Seg_Put : Nat → List Nat
  | 29 => [0, 1, 2, 3, 4, 8, 5, 6, 7, 9, 10, 11, 12]
  | 35 => [0, 1, 2, 3, 4, 5, 6, 7, 8]
  | _ => []
def vc_seg_Seg_Put (w0 : World) (a0 : AV) (a1 : Int) (a2 : Int) (a3_Site : Int) (a3_Seq : Int) (a3_Dep : AV) (a3_Key : List UInt8) (a3_Val : List UInt8) (st : St) (Q : Kont) : Prop :=
  New st [(.int .i64 a3_Site), (.int .i64 a3_Seq), a3_Dep, (.str a3_Key), (.str a3_Val)] fun v1 st2 =>
  Jn (fun (j3 : AV) (st16 : St) =>
    AsBool j3 fun b17 => Br b17 (
    Q (.int .i64 1) st16) (
    NilC a0 fun v18 =>
    Faddr v18 2 fun v19 =>
    Ld st16 v19 false 1 fun v20 st21 =>
    OptK (bin .int .leq (.int .i64 a1) v20) fun v22 =>
    AsBool v22 fun b23 => Br b23 (
      Q (.int .i64 7) st21) (
      NilC a0 fun v24 =>
      Faddr v24 3 fun v25 =>
      Ld st21 v25 false 1 fun v26 st27 =>
      OptK (bin .int .lss (.int .i64 a2) v26) fun v28 =>
      AsBool v28 fun b29 => Br b29 (
        Q (.int .i64 8) st27) (
        NilC a0 fun v30 =>
  Faddr v30 1 fun v31 =>
  Ld st27 v31 false 1 fun v32 st33 =>
  Mlook .int st33 v32 (.int .i64 a2) (.agg [(.int .i64 0), (.int .i64 0), .nils, (.str []), (.str []), (.int .i64 0)]) true fun v34 =>
  Ext v34 0 fun v35 =>
  Ext v34 1 fun v36 =>
  New st33 [(.int .i64 0), (.int .i64 0), .nils, (.str []), (.str []), (.int .i64 0)] fun v37 st38 =>
  Sto st38 v37 v35 6 fun v40 st39 =>
  AsBool v36 fun b41 => Br b41 (
    Q (.int .i64 5) st39) (
    Ld st39 v1 true 5 fun v42 st43 =>
  Cal w0 n_rec_Check [v42, (.int .i64 8)] st43 fun v44 st45 =>
  OptK (bin .int .neq v44 (.int .i64 0)) fun v46 =>
  AsBool v46 fun b47 => Br b47 (
    Q v44 st45) (
    NilC a0 fun v48 =>
  Faddr v48 0 fun v49 =>
  Ld st45 v49 false 1 fun v50 st51 =>
  Cal w0 n_disk_Disk_Len [v50] st51 fun v52 st53 =>
  NilC a0 fun v54 =>
  Faddr v54 0 fun v55 =>
  Ld st53 v55 false 1 fun v56 st57 =>
  Ld st53 v1 true 5 fun v58 st59 =>
  Cal w0 n_strconv_Itoa [(.int .i64 a2)] st53 fun v60 st61 =>
  (Ld st61 v1 true 5 fun v62 st63 =>
  (v62 : AV) = v58) ∧
  (Ld st61 v55 false 1 fun v64 st65 =>
  (v64 : AV) = v56) ∧
  OptK (bin .str .add (.str [112, 32]) v60) fun v66 =>
  OptK (bin .str .add v66 (.str [32])) fun v67 =>
  Cal w0 n_rec_Text [v58] st61 fun v68 st69 =>
  (Ld st69 v55 false 1 fun v70 st71 =>
  (v70 : AV) = v56) ∧
  OptK (bin .str .add v67 v68) fun v72 =>
  Cal w0 n_disk_Disk_Write [v56, v72] st69 fun v73 st74 =>
  OptK (bin .int .neq v73 (.int .i64 0)) fun v75 =>
  AsBool v75 fun b76 => Br b76 (
    Q v73 st74) (
    NilC a0 fun v77 =>
  Faddr v77 1 fun v78 =>
  Ld st74 v78 false 1 fun v79 st80 =>
  Ld st74 v1 true 5 fun v81 st82 =>
  OptK (fillAV (fun i => [(0, 5), (5, 1)][i]?) [(.int .i64 0), (.int .i64 0), .nils, (.str []), (.str []), (.int .i64 0)] [(0, v81), (1, v52)]) fun c83 =>
  Mput .int st74 v79 (.int .i64 a2) (.agg c83) fun v84 st85 =>
  Q (.int .i64 0) st85))))))) fun (k86 : AV → St → Prop) => Br ((decide (a2 < 0)) == false) (
  Br ((decide (a1 < 1)) == false) (
  OptK (maxAV [(.int .i64 a2), (.int .i64 a1)]) fun v87 =>
  OptK (bin .int .gtr v87 (.int .i64 2147483647)) fun v88 =>
  k86 (AV.pick false (.bool true) v88) st2) (
  k86 (.bool true) st2)) (
  k86 (.bool true) st2)
theorem ok_seg_Seg_Put {w0 : World} {a0 : AV} {a1 : Int} {a2 : Int} {a3_Site : Int} {a3_Seq : Int} {a3_Dep : AV} {a3_Key : List UInt8} {a3_Val : List UInt8} {st : St} {Q : Kont} (h : vc_seg_Seg_Put w0 a0 a1 a2 a3_Site a3_Seq a3_Dep a3_Key a3_Val st Q) : Cal w0 n_seg_Seg_Put [a0, (.int .i64 a1), (.int .i64 a2), (.agg [(.int .i64 a3_Site), (.int .i64 a3_Seq), a3_Dep, (.str a3_Key), (.str a3_Val)])] st Q :=
  acall_of_gen ann_seg_Seg_Put Tryz.func71 rfl (by kernel_rfl) (cast (by kernel_rfl : vc_seg_Seg_Put w0 a0 a1 a2 a3_Site a3_Seq a3_Dep a3_Key a3_Val st Q = _) h)

/-! (*landau/seg.Seg).Lasts -/
def ann_seg_Seg_Lasts : Nat → List Nat
  | 5 => [0, 1, 2, 3, 4, 5, 6, 7, 9, 10, 11, 12, 8, 13, 14, 15, 16, 17]
  | _ => []
def vc_seg_Seg_Lasts (w0 : World) (a0 : AV) (a1 : Int) (st : St) (Q : Kont) : Prop :=
  NilC a0 fun v1 =>
  Faddr v1 1 fun v2 =>
  Ld st v2 false 1 fun v3 st4 =>
  Mlook .int st4 v3 (.int .i64 a1) (.agg [(.int .i64 0), (.int .i64 0), .nils, (.str []), (.str []), (.int .i64 0)]) true fun v5 =>
  Ext v5 0 fun v6 =>
  Ext v5 1 fun v7 =>
  New st4 [(.int .i64 0), (.int .i64 0), .nils, (.str []), (.str []), (.int .i64 0)] fun v8 st9 =>
  Sto st9 v8 v6 6 fun v11 st10 =>
  AsBool v7 fun b31 => Br (b31 == true) (
  Faddr v8 5 fun v32 =>
  Ld st10 v32 false 1 fun v33 st34 =>
  NilC a0 fun v35 =>
  Faddr v35 0 fun v36 =>
  Ld st10 v36 false 1 fun v37 st38 =>
  NilC a0 fun v39 =>
  Faddr v39 0 fun v40 =>
  Ld st10 v40 false 1 fun v41 st42 =>
  Cal w0 n_disk_Disk_Len [v37] st10 fun v43 st44 =>
  (Ld st44 v40 false 1 fun v45 st46 =>
  (v45 : AV) = v41) ∧
  (Ld st44 v32 false 1 fun v47 st48 =>
  (v47 : AV) = v33) ∧
  Cal w0 n_disk_Disk_Waits [v41] st44 fun v49 st50 =>
  (Ld st50 v32 false 1 fun v51 st52 =>
  (v51 : AV) = v33) ∧
  OptK (bin .int .sub v43 v49) fun v53 =>
  OptK (bin .int .lss v33 v53) fun v54 =>
  Q (AV.pick true v54 (.bool false)) st50) (
  (((.tup []) : AV) = (.tup [])) ∧
  (((.tup []) : AV) = (.tup [])) ∧
  (((.tup []) : AV) = (.tup [])) ∧
  Q (.bool false) st10)
theorem ok_seg_Seg_Lasts {w0 : World} {a0 : AV} {a1 : Int} {st : St} {Q : Kont} (h : vc_seg_Seg_Lasts w0 a0 a1 st Q) : Cal w0 n_seg_Seg_Lasts [a0, (.int .i64 a1)] st Q :=
  acall_of_gen ann_seg_Seg_Lasts Tryz.func73 rfl (by kernel_rfl) (cast (by kernel_rfl : vc_seg_Seg_Lasts w0 a0 a1 st Q = _) h)

/-! (*landau/seg.Seg).Get -/
def ann_seg_Seg_Get : Nat → List Nat
  | _ => []
def vc_seg_Seg_Get (w0 : World) (a0 : AV) (a1 : Int) (st : St) (Q : Kont) : Prop :=
  New st [(.int .i64 0), (.int .i64 0), .nils, (.str []), (.str [])] fun v1 st2 =>
  NilC a0 fun v3 =>
  Faddr v3 3 fun v4 =>
  Ld st2 v4 false 1 fun v5 st6 =>
  OptK (bin .int .lss (.int .i64 a1) v5) fun v7 =>
  AsBool v7 fun b8 => Br b8 (
    Sto st6 v1 (.agg [(.int .i64 0), (.int .i64 0), .nils, (.str []), (.str [])]) 5 fun v10 st9 =>
    Ld st9 v1 true 5 fun v11 _ =>
  Q (.tup [v11, (.int .i64 8)]) st9) (
    NilC a0 fun v12 =>
  Faddr v12 1 fun v13 =>
  Ld st6 v13 false 1 fun v14 st15 =>
  Mlook .int st15 v14 (.int .i64 a1) (.agg [(.int .i64 0), (.int .i64 0), .nils, (.str []), (.str []), (.int .i64 0)]) true fun v16 =>
  Ext v16 0 fun v17 =>
  Ext v16 1 fun v18 =>
  New st15 [(.int .i64 0), (.int .i64 0), .nils, (.str []), (.str []), (.int .i64 0)] fun v19 st20 =>
  Sto st20 v19 v17 6 fun v22 st21 =>
  OptK (un .not v18) fun v23 =>
  AsBool v23 fun b24 => Br b24 (
    Sto st21 v1 (.agg [(.int .i64 0), (.int .i64 0), .nils, (.str []), (.str [])]) 5 fun v26 st25 =>
    Ld st25 v1 true 5 fun v27 _ =>
  Q (.tup [v27, (.int .i64 9)]) st25) (
    Faddr v19 0 fun v28 =>
  Ld st21 v28 true 5 fun v29 st30 =>
  Sto st30 v1 v29 5 fun v32 st31 =>
  Ld st31 v1 true 5 fun v33 _ =>
  Q (.tup [v33, (.int .i64 0)]) st31))
theorem ok_seg_Seg_Get {w0 : World} {a0 : AV} {a1 : Int} {st : St} {Q : Kont} (h : vc_seg_Seg_Get w0 a0 a1 st Q) : Cal w0 n_seg_Seg_Get [a0, (.int .i64 a1)] st Q :=
  acall_of_gen ann_seg_Seg_Get Tryz.func74 rfl (by kernel_rfl) (cast (by kernel_rfl : vc_seg_Seg_Get w0 a0 a1 st Q = _) h)

/-! (*landau/seg.Seg).Seal -/
def ann_seg_Seg_Seal : Nat → List Nat
  | 22 => [7, 41]
  | _ => []
def vc_seg_Seg_Seal (w0 : World) (a0 : AV) (a1 : Int) (st : St) (Q : Kont) : Prop :=
  Jn (fun (j1 : AV) (st8 : St) =>
    AsBool j1 fun b9 => Br b9 (
    Q (.tup [(.int .i64 0), (.int .i64 1)]) st8) (
    NilC a0 fun v10 =>
    Faddr v10 2 fun v11 =>
    Ld st8 v11 false 1 fun v12 st13 =>
    OptK (bin .int .leq (.int .i64 a1) v12) fun v14 =>
    AsBool v14 fun b15 => Br b15 (
      Q (.tup [(.int .i64 0), (.int .i64 7)]) st13) (
      Cal w0 n_seg_Seg_note [a0, (.str [115]), (.int .i64 a1)] st13 fun v16 st17 =>
  OptK (bin .int .neq v16 (.int .i64 0)) fun v18 =>
  AsBool v18 fun b19 => Br b19 (
    Q (.tup [(.int .i64 0), v16]) st17) (
    NilC a0 fun v20 =>
  Faddr v20 2 fun v21 =>
  Sto st17 v21 (.int .i64 a1) 1 fun v23 st22 =>
  NilC a0 fun v24 =>
  Faddr v24 3 fun v25 =>
  Ld st22 v25 false 1 fun v26 st27 =>
  NilC a0 fun v28 =>
  Faddr v28 1 fun v29 =>
  Ld st27 v29 false 1 fun v30 st31 =>
  Rng st31 v30 fun v32 st33 =>
  ∃ (I36 : Nat → List AV → St → Prop) (n39 : Nat), I36 n39 [v26, v32] st33 ∧
  ∀ (n37 : Nat) (x34 : List AV) (st35 : St), I36 n37 x34 st35 →
    Nxt st35 (x34.getD 1 .any) fun v40 st41 =>
    Ext v40 0 fun v42 =>
    AsBool v42 fun b43 => Br b43 (
      Ent st41 (x34.getD 1 .any) fun v44 =>
    Ext v44 0 fun v45 =>
    OptK (bin .int .add v45 (.int .i64 1)) fun v46 =>
    OptK (maxAV [(x34.getD 0 .any), v46]) fun v47 =>
    ∃ m38, m38 < n37 ∧ I36 m38 [v47, (x34.getD 1 .any)] st41) (
      Q (.tup [(x34.getD 0 .any), (.int .i64 0)]) st41))))) fun (k48 : AV → St → Prop) => Br ((decide (a1 < 1)) == false) (
  k48 (.bool (decide (2147483647 < a1))) st) (
  k48 (.bool true) st)
theorem ok_seg_Seg_Seal {w0 : World} {a0 : AV} {a1 : Int} {st : St} {Q : Kont} (h : vc_seg_Seg_Seal w0 a0 a1 st Q) : Cal w0 n_seg_Seg_Seal [a0, (.int .i64 a1)] st Q :=
  acall_of_gen ann_seg_Seg_Seal Tryz.func75 rfl (by kernel_rfl) (cast (by kernel_rfl : vc_seg_Seg_Seal w0 a0 a1 st Q = _) h)

/-! landau/stripe.Add -/
def ann_stripe_Add : Nat → List Nat
  | _ => []
def vc_stripe_Add (w0 : World) (a0 : AV) (a1 : Int) (a2 : Int) (st : St) (Q : Kont) : Prop :=
  Cal w0 n_slices_Clone_stripe_Map_stripe_Span [a0] st fun v1 st2 =>
  Psh st2 (.cells false [(.int .i64 a1), (.int .i64 a2)]) fun st3 =>
  Append st3 v1 (.slice st2.hp.length 0 1 1 true 2) 2 16 fun v4 st5 =>
  Cal w0 n_stripe_Check [v4] st5 fun v6 st7 =>
  OptK (bin .int .neq v6 (.int .i64 0)) fun v8 =>
  AsBool v8 fun b9 => Br b9 (
    Q (.tup [.nils, v6]) st7) (
    Q (.tup [v4, (.int .i64 0)]) st7)
theorem ok_stripe_Add {w0 : World} {a0 : AV} {a1 : Int} {a2 : Int} {st : St} {Q : Kont} (h : vc_stripe_Add w0 a0 a1 a2 st Q) : Cal w0 n_stripe_Add [a0, (.int .i64 a1), (.int .i64 a2)] st Q :=
  acall_of_gen ann_stripe_Add Tryz.func76 rfl (by kernel_rfl) (cast (by kernel_rfl : vc_stripe_Add w0 a0 a1 a2 st Q = _) h)

/-! landau/stripe.Text -/
def ann_stripe_Text : Nat → List Nat
  | 6 => [3, 6, 7, 8]
  | 11 => [0, 1, 2, 5, 6, 3, 4, 7, 8, 9, 10, 11]
  | _ => []
def vc_stripe_Text (w0 : World) (a0 : AV) (st : St) (Q : Kont) : Prop :=
  LenOk .slice st a0 fun v1 =>
  ∃ (I4 : Nat → List AV → St → Prop) (n7 : Nat), I4 n7 [.nils, a0, v1, (.int .i64 0)] st ∧
  ∀ (n5 : Nat) (x2 : List AV) (st3 : St), I4 n5 x2 st3 →
    OptK (bin .int .lss (x2.getD 3 .any) (x2.getD 2 .any)) fun v8 =>
    AsBool v8 fun b9 => Br b9 (
      Iaddr (x2.getD 1 .any) (x2.getD 3 .any) none 2 fun v10 =>
    Ld st3 v10 true 2 fun v11 st12 =>
    New st12 [(.int .i64 0), (.int .i64 0)] fun v13 st14 =>
    Sto st14 v13 v11 2 fun v16 st15 =>
    Faddr v13 0 fun v17 =>
    Ld st15 v17 false 1 fun v18 st19 =>
    Faddr v13 1 fun v20 =>
    Ld st15 v20 false 1 fun v21 st22 =>
    Cal w0 n_strconv_Itoa [v18] st15 fun v23 st24 =>
    (Ld st24 v20 false 1 fun v25 st26 =>
    (v25 : AV) = v21) ∧
    OptK (bin .str .add v23 (.str [47])) fun v27 =>
    Cal w0 n_strconv_Itoa [v21] st24 fun v28 st29 =>
    OptK (bin .str .add v27 v28) fun v30 =>
    OptK (fillAV (fun i => some (i * 1, 1)) [(.str [])] [(0, v30)]) fun c32 =>
    Psh st29 (.cells false c32) fun st31 =>
    Append st31 (x2.getD 0 .any) (.slice st29.hp.length 0 1 1 true 1) 1 16 fun v33 st34 =>
    OptK (bin .int .add (x2.getD 3 .any) (.int .i64 1)) fun v35 =>
    ∃ m6, m6 < n5 ∧ I4 m6 [v33, (x2.getD 1 .any), (x2.getD 2 .any), v35] st34) (
      Cal w0 n_strings_Join [(x2.getD 0 .any), (.str [32])] st3 fun v36 st37 =>
  Q v36 st37)
theorem ok_stripe_Text {w0 : World} {a0 : AV} {st : St} {Q : Kont} (h : vc_stripe_Text w0 a0 st Q) : Cal w0 n_stripe_Text [a0] st Q :=
  acall_of_gen ann_stripe_Text Tryz.func77 rfl (by kernel_rfl) (cast (by kernel_rfl : vc_stripe_Text w0 a0 st Q = _) h)

/-! (*landau/seg.Seg).note -/
def ann_seg_Seg_note : Nat → List Nat
  | 3 => [0, 1, 2, 3, 4, 5, 6, 7, 8, 9, 10]
  | _ => []
def vc_seg_Seg_note (w0 : World) (a0 : AV) (a1 : List UInt8) (a2 : Int) (st : St) (Q : Kont) : Prop :=
  NilC a0 fun v1 =>
  Faddr v1 0 fun v2 =>
  Ld st v2 false 1 fun v3 st4 =>
  OptK (bin .str .add (.str a1) (.str [32])) fun v5 =>
  Cal w0 n_strconv_Itoa [(.int .i64 a2)] st fun v6 st7 =>
  (Ld st7 v2 false 1 fun v8 st9 =>
  (v8 : AV) = v3) ∧
  OptK (bin .str .add v5 v6) fun v10 =>
  Cal w0 n_disk_Disk_Write [v3, v10] st7 fun v11 st12 =>
  OptK (bin .int .eql v11 (.int .i64 0)) fun v13 =>
  AsBool v13 fun b14 => Br b14 (
    NilC a0 fun v21 =>
    Faddr v21 0 fun v22 =>
    Ld st12 v22 false 1 fun v23 st24 =>
    Cal w0 n_disk_Disk_Sync [v23] st24 fun v25 st26 =>
    Q v11 st26) (
    Q v11 st12)
theorem ok_seg_Seg_note {w0 : World} {a0 : AV} {a1 : List UInt8} {a2 : Int} {st : St} {Q : Kont} (h : vc_seg_Seg_note w0 a0 a1 a2 st Q) : Cal w0 n_seg_Seg_note [a0, (.str a1), (.int .i64 a2)] st Q :=
  acall_of_gen ann_seg_Seg_note Tryz.func95 rfl (by kernel_rfl) (cast (by kernel_rfl : vc_seg_Seg_note w0 a0 a1 a2 st Q = _) h)

/-! (*landau/seg.Seg).cutBelow -/
def ann_seg_Seg_cutBelow : Nat → List Nat
  | _ => []
def vc_seg_Seg_cutBelow (w0 : World) (a0 : AV) (a1 : Int) (st : St) (Q : Kont) : Prop :=
  OptK (AV.cellsOk a0) fun c3 =>
  New st c3 fun v1 st2 =>
  Ld st2 v1 false 1 fun v4 st5 =>
  NilC v4 fun v6 =>
  Faddr v6 3 fun v7 =>
  Sto st5 v7 (.int .i64 a1) 1 fun v9 st8 =>
  Ld st8 v1 false 1 fun v10 st11 =>
  NilC v10 fun v12 =>
  Faddr v12 1 fun v13 =>
  Ld st11 v13 false 1 fun v14 st15 =>
  Cal w0 n_maps_DeleteFunc_map_int_seg_slot_int_seg_slot [v14, (.func n_seg_Seg_cutBelow_1 [] [v1])] st15 fun v16 st17 =>
  Q (.tup []) st17
theorem ok_seg_Seg_cutBelow {w0 : World} {a0 : AV} {a1 : Int} {st : St} {Q : Kont} (h : vc_seg_Seg_cutBelow w0 a0 a1 st Q) : Cal w0 n_seg_Seg_cutBelow [a0, (.int .i64 a1)] st Q :=
  acall_of_gen ann_seg_Seg_cutBelow Tryz.func96 rfl (by kernel_rfl) (cast (by kernel_rfl : vc_seg_Seg_cutBelow w0 a0 a1 st Q = _) h)

/-! (*landau/seg.Seg).take -/
def ann_seg_Seg_take : Nat → List Nat
  | 27 => [0, 1, 2, 3, 4, 5, 6, 7, 8]
  | _ => []
def vc_seg_Seg_take (w0 : World) (a0 : AV) (a1 : Int) (a2 : List UInt8) (st : St) (Q : Kont) : Prop :=
  Cal w0 n_strings_Cut [(.str a2), (.str [32])] st fun v1 st2 =>
  Ext v1 0 fun v3 =>
  Ext v1 1 fun v4 =>
  Ext v1 2 fun v5 =>
  Cal w0 n_strings_Cut [v4, (.str [32])] st2 fun v6 st7 =>
  Ext v6 0 fun v8 =>
  Ext v6 1 fun v9 =>
  Ext v6 2 fun v10 =>
  Cal w0 n_vec_Number [v8, (.int .i64 2147483647)] st7 fun v11 st12 =>
  Ext v11 0 fun v13 =>
  Ext v11 1 fun v14 =>
  Jn (fun (j26 : AV) (st27 : St) =>
    AsBool j26 fun b28 => Br b28 (
    Q (.bool false) st27) (
    OptK (bin .str .eql v3 (.str [112])) fun v99 =>
  AsBool v99 fun b100 => Br b100 (
    Cal w0 n_rec_Parse [v9] st27 fun v169 st170 =>
    Ext v169 0 fun v171 =>
    Ext v169 1 fun v172 =>
    New st170 [(.int .i64 0), (.int .i64 0), .nils, (.str []), (.str [])] fun v173 st174 =>
    Sto st174 v173 v171 5 fun v176 st175 =>
    NilC a0 fun v177 =>
    Faddr v177 1 fun v178 =>
    Ld st175 v178 false 1 fun v179 st180 =>
    Mlook .int st180 v179 v13 (.agg [(.int .i64 0), (.int .i64 0), .nils, (.str []), (.str []), (.int .i64 0)]) true fun v181 =>
    Ext v181 0 fun v182 =>
    Ext v181 1 fun v183 =>
    New st180 [(.int .i64 0), (.int .i64 0), .nils, (.str []), (.str []), (.int .i64 0)] fun v184 st185 =>
    Sto st185 v184 v182 6 fun v187 st186 =>
    Jn (fun (j200 : AV) (st201 : St) =>
      AsBool j200 fun b202 => Br b202 (
      Q (.bool false) st201) (
      NilC a0 fun v203 =>
    Faddr v203 1 fun v204 =>
    Ld st201 v204 false 1 fun v205 st206 =>
    Ld st201 v173 true 5 fun v207 st208 =>
    OptK (fillAV (fun i => [(0, 5), (5, 1)][i]?) [(.int .i64 0), (.int .i64 0), .nils, (.str []), (.str []), (.int .i64 0)] [(0, v207), (1, (.int .i64 a1))]) fun c209 =>
    Mput .int st201 v205 v13 (.agg c209) fun v210 st211 =>
    Q (.bool true) st211)) fun (k212 : AV → St → Prop) => OptK (bin .int .neq v172 (.int .i64 0)) fun v213 =>
    AsBool v213 fun b214 => Br (b214 == false) (
    AsBool (AV.pick false (.bool true) v183) fun b215 => Br (b215 == false) (
    NilC a0 fun v216 =>
    Faddr v216 3 fun v217 =>
    Ld st186 v217 false 1 fun v218 st219 =>
    OptK (bin .int .lss v13 v218) fun v220 =>
    k212 (AV.pick false (.bool true) v220) st219) (
    k212 (.bool true) st186)) (
    k212 (.bool true) st186)) (
    OptK (bin .str .eql v3 (.str [115])) fun v221 =>
    AsBool v221 fun b222 => Br b222 (
      NilC a0 fun v250 =>
      Faddr v250 2 fun v251 =>
      Ld st27 v251 false 1 fun v252 st253 =>
      OptK (bin .int .leq v13 v252) fun v254 =>
      AsBool v254 fun b255 => Br b255 (
        Q (.bool false) st253) (
        NilC a0 fun v256 =>
      Faddr v256 2 fun v257 =>
      Sto st253 v257 v13 1 fun v259 st258 =>
      Q (.bool true) st258)) (
      OptK (bin .str .eql v3 (.str [99])) fun v260 =>
      AsBool v260 fun b261 => Br b261 (
        Cal w0 n_seg_Seg_cut [a0, v13] st27 fun v277 st278 =>
        Q (.bool true) st278) (
        OptK (bin .str .eql v3 (.str [116])) fun v279 =>
        AsBool v279 fun b280 => Br b280 (
          NilC a0 fun v281 =>
          Faddr v281 3 fun v282 =>
          Ld st27 v282 false 1 fun v283 st284 =>
          OptK (bin .int .leq v13 v283) fun v285 =>
          AsBool v285 fun b286 => Br b286 (
            Q (.bool false) st284) (
            Cal w0 n_seg_Seg_cutBelow [a0, v13] st284 fun v287 st288 =>
          Q (.bool true) st288)) (
          Q (.bool false) st27)))))) fun (k289 : AV → St → Prop) => OptK (un .not v5) fun v290 =>
  AsBool v290 fun b291 => Br (b291 == false) (
  OptK (bin .int .neq v14 (.int .i64 0)) fun v292 =>
  AsBool (AV.pick false (.bool true) v292) fun b293 => Br (b293 == false) (
  OptK (bin .str .eql v3 (.str [112])) fun v294 =>
  OptK (bin .bool .neq v10 v294) fun v295 =>
  k289 (AV.pick false (.bool true) v295) st12) (
  k289 (.bool true) st12)) (
  k289 (.bool true) st12)
theorem ok_seg_Seg_take {w0 : World} {a0 : AV} {a1 : Int} {a2 : List UInt8} {st : St} {Q : Kont} (h : vc_seg_Seg_take w0 a0 a1 a2 st Q) : Cal w0 n_seg_Seg_take [a0, (.int .i64 a1), (.str a2)] st Q :=
  acall_of_gen ann_seg_Seg_take Tryz.func97 rfl (by kernel_rfl) (cast (by kernel_rfl : vc_seg_Seg_take w0 a0 a1 a2 st Q = _) h)

/-! landau/stripe.Parse -/
noncomputable def asg_stripe_Parse_0 : Code := (codeAt (Tryz.f100.body.getD .skip) [2, 2, 1, 2, 1, 2, 2]).1
noncomputable def bod_stripe_Parse_0 : Code := (codeAt (Tryz.f100.body.getD .skip) [2, 2, 1, 2, 1, 2, 2]).2
def ann_stripe_Parse : Nat → List Nat
  | _ => []
def vc_stripe_Parse (w0 : World) (a0 : List UInt8) (st : St) (Q : Kont) : Prop :=
  New st [.nils] fun v1 st2 =>
  New st2 [(.int .i64 0)] fun v3 st4 =>
  New st4 [.nils] fun v5 st6 =>
  Jn (fun  (st9 : St) =>
    Ld st9 v5 false 1 fun v10 st11 =>
  Cal w0 n_stripe_Check [v10] st11 fun v12 st13 =>
  OptK (bin .int .neq v12 (.int .i64 0)) fun v14 =>
  AsBool v14 fun b15 => Br b15 (
    Sto st13 v1 .nils 1 fun v17 st16 =>
    Sto st16 v3 v12 1 fun v19 st18 =>
    Ld st18 v1 false 1 fun v20 _ =>
  Ld st18 v3 false 1 fun v21 _ =>
  Q (.tup [v20, v21]) st18) (
    Ld st13 v5 false 1 fun v22 st23 =>
  Sto st23 v1 v22 1 fun v25 st24 =>
  Sto st24 v3 (.int .i64 0) 1 fun v27 st26 =>
  Ld st26 v1 false 1 fun v28 _ =>
  Ld st26 v3 false 1 fun v29 _ =>
  Q (.tup [v28, v29]) st26)) fun (k30 : St → Prop) => Br (!decide (a0 = [])) (
    Cal w0 n_strings_SplitSeq [(.str a0), (.str [32])] st6 fun v31 st32 =>
    CalR w0 v31 st32.lp.length (pushLoop st32 { st := .ready, pend := none, tmps := [(.str a0), .any, v1, v3, v5, .any, .any, .any, .any, .any, .any, .any, .any, .any, (.str a0), (.bool (!decide (a0 = []))), (.str a0), v31, .any, .any, .any, .any, .any, .any, .any, .any, .any, .any, .any, .any, .any, .any, .any, .any, .any, .any, .any, .any, .any, .any, .any, .any, .any, .any, .any, .any, .any, .any, .any, .any, .any, .any, .any, .any, .any, .any, .any], params := #[18], assign := asg_stripe_Parse_0, body := bod_stripe_Parse_0 }) fun _ st34 =>
    AftR st34 st32.lp.length (fun st35 =>
      k30  st35) (fun st35 =>
      Ld st35 v1 false 1 fun v37 _ =>
  Ld st35 v3 false 1 fun v38 _ =>
  Q (.tup [v37, v38]) st35) (fun e36 st35 =>
      Br (e36 == 0) (
    k30  st35) (
    False)) (fun e36 st35 => False)) (
    k30  st6)
def rnd_stripe_Parse_0 (w0 : World) (i : Nat) (m2 : AV) (m3 : AV) (m4 : AV) (p0 : AV) (st : St) (Q : Kont) : Prop :=
  RBeg st i fun st1 =>
  Cal w0 n_strings_Cut [p0, (.str [47])] st1 fun v2 st3 =>
  Ext v2 0 fun v4 =>
  Ext v2 1 fun v5 =>
  Ext v2 2 fun v6 =>
  Cal w0 n_vec_Number [v4, (.int .i64 2147483647)] st3 fun v7 st8 =>
  Ext v7 0 fun v9 =>
  Ext v7 1 fun v10 =>
  Cal w0 n_vec_Number [v5, (.int .i64 2147483647)] st8 fun v11 st12 =>
  Ext v11 0 fun v13 =>
  Ext v11 1 fun v14 =>
  Jn (fun (j24 : AV) (st25 : St) =>
    AsBool j24 fun b26 => Br b26 (
    Sto st25 m2 .nils 1 fun v28 st27 =>
    Sto st27 m3 (.int .i64 2) 1 fun v30 st29 =>
    RRet i Q st29) (
    Ld st25 m4 false 1 fun v31 st32 =>
  OptK (fillAV (fun i => [(0, 1), (1, 1)][i]?) [(.int .i64 0), (.int .i64 0)] [(0, v9), (1, v13)]) fun c33 =>
  OptK (fillAV (fun i => some (i * 2, 2)) [(.int .i64 0), (.int .i64 0)] [(0, (.agg c33))]) fun c35 =>
  Psh st32 (.cells false c35) fun st34 =>
  Append st34 v31 (.slice st32.hp.length 0 1 1 true 2) 2 16 fun v36 st37 =>
  Sto st37 m4 v36 1 fun v39 st38 =>
  RNorm i Q st38)) fun (k40 : AV → St → Prop) => OptK (un .not v6) fun v41 =>
  AsBool v41 fun b42 => Br (b42 == false) (
  OptK (bin .int .neq v10 (.int .i64 0)) fun v43 =>
  AsBool (AV.pick false (.bool true) v43) fun b44 => Br (b44 == false) (
  OptK (bin .int .neq v14 (.int .i64 0)) fun v45 =>
  k40 (AV.pick false (.bool true) v45) st12) (
  k40 (.bool true) st12)) (
  k40 (.bool true) st12)
theorem okr_stripe_Parse_0 {w0 : World} {i : Nat} {m0 : AV} {m1 : AV} {m2 : AV} {m3 : AV} {m4 : AV} {m5 : AV} {m6 : AV} {m7 : AV} {m8 : AV} {m9 : AV} {m10 : AV} {m11 : AV} {m12 : AV} {m13 : AV} {m14 : AV} {m15 : AV} {m16 : AV} {m17 : AV} {m18 : AV} {m19 : AV} {m20 : AV} {m21 : AV} {m22 : AV} {m23 : AV} {m24 : AV} {m25 : AV} {m26 : AV} {m27 : AV} {m28 : AV} {m29 : AV} {m30 : AV} {m31 : AV} {m32 : AV} {m33 : AV} {m34 : AV} {m35 : AV} {m36 : AV} {m37 : AV} {m38 : AV} {m39 : AV} {m40 : AV} {m41 : AV} {m42 : AV} {m43 : AV} {m44 : AV} {m45 : AV} {m46 : AV} {m47 : AV} {m48 : AV} {m49 : AV} {m50 : AV} {m51 : AV} {m52 : AV} {m53 : AV} {m54 : AV} {m55 : AV} {m56 : AV} {p0 : AV} {st : St} {Q : Kont} {ls : LoopState} {pd : Option Code} (hi : st.lp[i]? = some { st := ls, pend := pd, tmps := [m0, m1, m2, m3, m4, m5, m6, m7, m8, m9, m10, m11, m12, m13, m14, m15, m16, m17, m18, m19, m20, m21, m22, m23, m24, m25, m26, m27, m28, m29, m30, m31, m32, m33, m34, m35, m36, m37, m38, m39, m40, m41, m42, m43, m44, m45, m46, m47, m48, m49, m50, m51, m52, m53, m54, m55, m56], params := #[18], assign := asg_stripe_Parse_0, body := bod_stripe_Parse_0 }) (h : rnd_stripe_Parse_0 w0 i m2 m3 m4 p0 st Q) : AYield Tryz.prog w0 i [p0] st Q :=
  ayield_of_gen ann_stripe_Parse hi rfl (cast (by kernel_rfl : rnd_stripe_Parse_0 w0 i m2 m3 m4 p0 st Q = _) h)
theorem ok_stripe_Parse {w0 : World} {a0 : List UInt8} {st : St} {Q : Kont} (h : vc_stripe_Parse w0 a0 st Q) : Cal w0 n_stripe_Parse [(.str a0)] st Q :=
  acall_of_gen ann_stripe_Parse Tryz.func100 rfl (by kernel_rfl) (cast (by kernel_rfl : vc_stripe_Parse w0 a0 st Q = _) h)

/-! (*landau/seg.Seg).All -/
def ann_seg_Seg_All : Nat → List Nat
  | _ => []
def vc_seg_Seg_All (w0 : World) (a0 : AV) (st : St) (Q : Kont) : Prop :=
  OptK (AV.cellsOk a0) fun c3 =>
  New st c3 fun v1 st2 =>
  Q (.func n_seg_Seg_All_1 [] [v1]) st2
theorem ok_seg_Seg_All {w0 : World} {a0 : AV} {st : St} {Q : Kont} (h : vc_seg_Seg_All w0 a0 st Q) : Cal w0 n_seg_Seg_All [a0] st Q :=
  acall_of_gen ann_seg_Seg_All Tryz.func103 rfl (by kernel_rfl) (cast (by kernel_rfl : vc_seg_Seg_All w0 a0 st Q = _) h)

/-! (*landau/seg.Seg).cut -/
def ann_seg_Seg_cut : Nat → List Nat
  | _ => []
def vc_seg_Seg_cut (w0 : World) (a0 : AV) (a1 : Int) (st : St) (Q : Kont) : Prop :=
  New st [(.int .i64 a1)] fun v1 st2 =>
  NilC a0 fun v3 =>
  Faddr v3 1 fun v4 =>
  Ld st2 v4 false 1 fun v5 st6 =>
  Cal w0 n_maps_DeleteFunc_map_int_seg_slot_int_seg_slot [v5, (.func n_seg_Seg_cut_1 [] [v1])] st6 fun v7 st8 =>
  Q (.tup []) st8
theorem ok_seg_Seg_cut {w0 : World} {a0 : AV} {a1 : Int} {st : St} {Q : Kont} (h : vc_seg_Seg_cut w0 a0 a1 st Q) : Cal w0 n_seg_Seg_cut [a0, (.int .i64 a1)] st Q :=
  acall_of_gen ann_seg_Seg_cut Tryz.func104 rfl (by kernel_rfl) (cast (by kernel_rfl : vc_seg_Seg_cut w0 a0 a1 st Q = _) h)

/-! landau/stripe.Find -/
def ann_stripe_Find : Nat → List Nat
  | 8 => [0, 1, 7]
  | 13 => [0, 1, 2, 3, 4, 5, 6, 7, 8, 9, 10, 11, 12, 13, 14, 15, 16, 17]
  | _ => []
def vc_stripe_Find (w0 : World) (a0 : AV) (a1 : Int) (st : St) (Q : Kont) : Prop :=
  Jn (fun (j7 : AV) (st8 : St) =>
    AsBool j7 fun b9 => Br b9 (
    Q (.tup [(.int .i64 0), (.int .i64 0), (.int .i64 1)]) st8) (
    LenOk .slice st8 a0 fun v10 =>
  OptK (bin .int .sub v10 (.int .i64 1)) fun v11 =>
  ∃ (I14 : Nat → List AV → St → Prop) (n17 : Nat), I14 n17 [a0, (.int .i64 a1), v11] st8 ∧
  ∀ (n15 : Nat) (x12 : List AV) (st13 : St), I14 n15 x12 st13 →
    Iaddr (x12.getD 0 .any) (x12.getD 2 .any) none 2 fun v18 =>
    Faddr v18 0 fun v19 =>
    Ld st13 v19 false 1 fun v20 st21 =>
    OptK (bin .int .gtr v20 (x12.getD 1 .any)) fun v22 =>
    AsBool v22 fun b23 => Br b23 (
      OptK (bin .int .sub (x12.getD 2 .any) (.int .i64 1)) fun v24 =>
    ∃ m16, m16 < n15 ∧ I14 m16 [(x12.getD 0 .any), (x12.getD 1 .any), v24] st21) (
      OptK (bin .int .add (x12.getD 2 .any) (.int .i64 1)) fun v25 =>
  Iaddr (x12.getD 0 .any) (x12.getD 2 .any) none 2 fun v26 =>
  Faddr v26 0 fun v27 =>
  Ld st21 v27 false 1 fun v28 st29 =>
  OptK (bin .int .sub (x12.getD 1 .any) v28) fun v30 =>
  Iaddr (x12.getD 0 .any) (x12.getD 2 .any) none 2 fun v31 =>
  Faddr v31 1 fun v32 =>
  Ld st21 v32 false 1 fun v33 st34 =>
  OptK (bin .int .rem v30 v33) fun v35 =>
  Q (.tup [v25, v35, (.int .i64 0)]) st21))) fun (k36 : AV → St → Prop) => Br ((decide (a1 < 0)) == false) (
  Cal w0 n_stripe_Check [a0] st fun v37 st38 =>
  OptK (bin .int .neq v37 (.int .i64 0)) fun v39 =>
  k36 (AV.pick false (.bool true) v39) st38) (
  k36 (.bool true) st)
theorem ok_stripe_Find {w0 : World} {a0 : AV} {a1 : Int} {st : St} {Q : Kont} (h : vc_stripe_Find w0 a0 a1 st Q) : Cal w0 n_stripe_Find [a0, (.int .i64 a1)] st Q :=
  acall_of_gen ann_stripe_Find Tryz.func106 rfl (by kernel_rfl) (cast (by kernel_rfl : vc_stripe_Find w0 a0 a1 st Q = _) h)

/-! landau/stripe.Check -/
def ann_stripe_Check : Nat → List Nat
  | 10 => [3, 9, 10, 11]
  | _ => []
def vc_stripe_Check (w0 : World) (a0 : AV) (st : St) (Q : Kont) : Prop :=
  LenOk .slice st a0 fun v1 =>
  OptK (bin .int .eql v1 (.int .i64 0)) fun v2 =>
  AsBool v2 fun b3 => Br b3 (
    Q (.int .i64 1) st) (
    LenOk .slice st a0 fun v4 =>
  ∃ (I7 : Nat → List AV → St → Prop) (n10 : Nat), I7 n10 [(.int .i64 0), a0, v4, (.int .i64 0)] st ∧
  ∀ (n8 : Nat) (x5 : List AV) (st6 : St), I7 n8 x5 st6 →
    OptK (bin .int .lss (x5.getD 3 .any) (x5.getD 2 .any)) fun v11 =>
    AsBool v11 fun b12 => Br b12 (
      Iaddr (x5.getD 1 .any) (x5.getD 3 .any) none 2 fun v13 =>
    Ld st6 v13 true 2 fun v14 st15 =>
    New st15 [(.int .i64 0), (.int .i64 0)] fun v16 st17 =>
    Sto st17 v16 v14 2 fun v19 st18 =>
    Jn (fun (j42 : AV) (st43 : St) =>
      AsBool j42 fun b44 => Br b44 (
      Q (.int .i64 1) st43) (
      Faddr v16 0 fun v45 =>
    Ld st43 v45 false 1 fun v46 st47 =>
    OptK (bin .int .add (x5.getD 3 .any) (.int .i64 1)) fun v48 =>
    ∃ m9, m9 < n8 ∧ I7 m9 [v46, (x5.getD 1 .any), (x5.getD 2 .any), v48] st47)) fun (k49 : AV → St → Prop) => OptK (bin .int .eql (x5.getD 3 .any) (.int .i64 0)) fun v50 =>
    AsBool v50 fun b51 => Br (b51 == true) (
    Faddr v16 0 fun v52 =>
    Ld st18 v52 false 1 fun v53 st54 =>
    OptK (bin .int .neq v53 (.int .i64 0)) fun v55 =>
    AsBool (AV.pick true v55 (.bool false)) fun b56 => Br (b56 == false) (
    Faddr v16 0 fun v57 =>
    Ld st54 v57 false 1 fun v58 st59 =>
    OptK (bin .int .lss v58 (x5.getD 0 .any)) fun v60 =>
    AsBool (AV.pick false (.bool true) v60) fun b61 => Br (b61 == false) (
    Faddr v16 1 fun v62 =>
    Ld st59 v62 false 1 fun v63 st64 =>
    OptK (bin .int .lss v63 (.int .i64 1)) fun v65 =>
    AsBool (AV.pick false (.bool true) v65) fun b66 => Br (b66 == false) (
    Faddr v16 1 fun v67 =>
    Ld st64 v67 false 1 fun v68 st69 =>
    OptK (bin .int .gtr v68 (.int .i64 8)) fun v70 =>
    k49 (AV.pick false (.bool true) v70) st69) (
    k49 (.bool true) st64)) (
    k49 (.bool true) st59)) (
    k49 (.bool true) st54)) (
    Faddr v16 0 fun v71 =>
    Ld st18 v71 false 1 fun v72 st73 =>
    OptK (bin .int .lss v72 (x5.getD 0 .any)) fun v74 =>
    AsBool (AV.pick false (.bool true) v74) fun b75 => Br (b75 == false) (
    Faddr v16 1 fun v76 =>
    Ld st73 v76 false 1 fun v77 st78 =>
    OptK (bin .int .lss v77 (.int .i64 1)) fun v79 =>
    AsBool (AV.pick false (.bool true) v79) fun b80 => Br (b80 == false) (
    Faddr v16 1 fun v81 =>
    Ld st78 v81 false 1 fun v82 st83 =>
    OptK (bin .int .gtr v82 (.int .i64 8)) fun v84 =>
    k49 (AV.pick false (.bool true) v84) st83) (
    k49 (.bool true) st78)) (
    k49 (.bool true) st73))) (
      Q (.int .i64 0) st6))
theorem ok_stripe_Check {w0 : World} {a0 : AV} {st : St} {Q : Kont} (h : vc_stripe_Check w0 a0 st Q) : Cal w0 n_stripe_Check [a0] st Q :=
  acall_of_gen ann_stripe_Check Tryz.func111 rfl (by kernel_rfl) (cast (by kernel_rfl : vc_stripe_Check w0 a0 st Q = _) h)

/-! maps.DeleteFunc[map[int]landau/seg.slot,int,landau/seg.slot] -/
def ann_maps_DeleteFunc_map_int_seg_slot_int_seg_slot : Nat → List Nat
  | 2 => [0, 1, 7]
  | _ => []
def vc_maps_DeleteFunc_map_int_seg_slot_int_seg_slot (w0 : World) (a0 : AV) (a1 : AV) (st : St) (Q : Kont) : Prop :=
  Rng st a0 fun v1 st2 =>
  ∃ (I5 : Nat → List AV → St → Prop) (n8 : Nat), I5 n8 [a0, a1, v1] st2 ∧
  ∀ (n6 : Nat) (x3 : List AV) (st4 : St), I5 n6 x3 st4 →
    Nxt st4 (x3.getD 2 .any) fun v9 st10 =>
    Ext v9 0 fun v11 =>
    AsBool v11 fun b12 => Br b12 (
      Ent st10 (x3.getD 2 .any) fun v25 =>
    Ext v25 0 fun v26 =>
    Ext v25 1 fun v27 =>
    New st10 [(.int .i64 0), (.int .i64 0), .nils, (.str []), (.str []), (.int .i64 0)] fun v28 st29 =>
    Sto st29 v28 v27 6 fun v31 st30 =>
    Ld st30 v28 true 6 fun v32 st33 =>
    CallV Tryz.prog w0 (x3.getD 1 .any) [v26, v32] st33 fun v34 st35 =>
    AsBool v34 fun b36 => Br b36 (
      Mdel .int st35 (x3.getD 0 .any) v26 fun v40 st41 =>
      ∃ m7, m7 < n6 ∧ I5 m7 [(x3.getD 0 .any), (x3.getD 1 .any), (x3.getD 2 .any)] st41) (
      ∃ m7, m7 < n6 ∧ I5 m7 [(x3.getD 0 .any), (x3.getD 1 .any), (x3.getD 2 .any)] st35)) (
      Q (.tup []) st10)
theorem ok_maps_DeleteFunc_map_int_seg_slot_int_seg_slot {w0 : World} {a0 : AV} {a1 : AV} {st : St} {Q : Kont} (h : vc_maps_DeleteFunc_map_int_seg_slot_int_seg_slot w0 a0 a1 st Q) : Cal w0 n_maps_DeleteFunc_map_int_seg_slot_int_seg_slot [a0, a1] st Q :=
  acall_of_gen ann_maps_DeleteFunc_map_int_seg_slot_int_seg_slot Tryz.func125 rfl (by kernel_rfl) (cast (by kernel_rfl : vc_maps_DeleteFunc_map_int_seg_slot_int_seg_slot w0 a0 a1 st Q = _) h)

/-! (*landau/seg.Seg).cutBelow$1 -/
def ann_seg_Seg_cutBelow_1 : Nat → List Nat
  | _ => []
def vc_seg_Seg_cutBelow_1 (w0 : World) (a0 : Int) (a1_r_Site : Int) (a1_r_Seq : Int) (a1_r_Dep : AV) (a1_r_Key : List UInt8) (a1_r_Val : List UInt8) (a1_line : Int) (c0 : AV) (st : St) (Q : Kont) : Prop :=
  New st [(.int .i64 a1_r_Site), (.int .i64 a1_r_Seq), a1_r_Dep, (.str a1_r_Key), (.str a1_r_Val), (.int .i64 a1_line)] fun v1 st2 =>
  Ld st2 c0 false 1 fun v3 st4 =>
  NilC v3 fun v5 =>
  Faddr v5 3 fun v6 =>
  Ld st4 v6 false 1 fun v7 st8 =>
  OptK (bin .int .lss (.int .i64 a0) v7) fun v9 =>
  Q v9 st8
theorem ok_seg_Seg_cutBelow_1 {w0 : World} {a0 : Int} {a1_r_Site : Int} {a1_r_Seq : Int} {a1_r_Dep : AV} {a1_r_Key : List UInt8} {a1_r_Val : List UInt8} {a1_line : Int} {c0 : AV} {st : St} {Q : Kont} (h : vc_seg_Seg_cutBelow_1 w0 a0 a1_r_Site a1_r_Seq a1_r_Dep a1_r_Key a1_r_Val a1_line c0 st Q) : Cal w0 n_seg_Seg_cutBelow_1 [(.int .i64 a0), (.agg [(.int .i64 a1_r_Site), (.int .i64 a1_r_Seq), a1_r_Dep, (.str a1_r_Key), (.str a1_r_Val), (.int .i64 a1_line)]), c0] st Q :=
  acall_of_gen ann_seg_Seg_cutBelow_1 Tryz.func126 rfl (by kernel_rfl) (cast (by kernel_rfl : vc_seg_Seg_cutBelow_1 w0 a0 a1_r_Site a1_r_Seq a1_r_Dep a1_r_Key a1_r_Val a1_line c0 st Q = _) h)

/-! strings.SplitSeq -/
def ann_strings_SplitSeq : Nat → List Nat
  | _ => []
def vc_strings_SplitSeq (w0 : World) (a0 : List UInt8) (a1 : List UInt8) (st : St) (Q : Kont) : Prop :=
  Cal w0 n_strings_splitSeq [(.str a0), (.str a1), (.int .i64 0)] st fun v1 st2 =>
  Q v1 st2
theorem ok_strings_SplitSeq {w0 : World} {a0 : List UInt8} {a1 : List UInt8} {st : St} {Q : Kont} (h : vc_strings_SplitSeq w0 a0 a1 st Q) : Cal w0 n_strings_SplitSeq [(.str a0), (.str a1)] st Q :=
  acall_of_gen ann_strings_SplitSeq Tryz.func129 rfl (by kernel_rfl) (cast (by kernel_rfl : vc_strings_SplitSeq w0 a0 a1 st Q = _) h)

/-! (*landau/seg.Seg).All$1 -/
def ann_seg_Seg_All_1 : Nat → List Nat
  | 2 => [0, 1, 10, 11, 12]
  | _ => []
def vc_seg_Seg_All_1 (w0 : World) (a0 : AV) (c0 : AV) (st : St) (Q : Kont) : Prop :=
  Ld st c0 false 1 fun v1 st2 =>
  NilC v1 fun v3 =>
  Faddr v3 1 fun v4 =>
  Ld st2 v4 false 1 fun v5 st6 =>
  Cal w0 n_maps_Keys_map_int_seg_slot_int_seg_slot [v5] st6 fun v7 st8 =>
  Cal w0 n_slices_Sorted_int [v7] st8 fun v9 st10 =>
  LenOk .slice st10 v9 fun v11 =>
  ∃ (I14 : Nat → List AV → St → Prop) (n17 : Nat), I14 n17 [a0, c0, v9, v11, (.int .i64 0)] st10 ∧
  ∀ (n15 : Nat) (x12 : List AV) (st13 : St), I14 n15 x12 st13 →
    OptK (bin .int .lss (x12.getD 4 .any) (x12.getD 3 .any)) fun v18 =>
    AsBool v18 fun b19 => Br b19 (
      Iaddr (x12.getD 2 .any) (x12.getD 4 .any) none 1 fun v20 =>
    Ld st13 v20 false 1 fun v21 st22 =>
    Ld st22 (x12.getD 1 .any) false 1 fun v23 st24 =>
    NilC v23 fun v25 =>
    Faddr v25 1 fun v26 =>
    Ld st24 v26 false 1 fun v27 st28 =>
    Mlook .int st28 v27 v21 (.agg [(.int .i64 0), (.int .i64 0), .nils, (.str []), (.str []), (.int .i64 0)]) false fun v29 =>
    Fld v29 true 0 5 fun v30 =>
    CallV Tryz.prog w0 (x12.getD 0 .any) [v21, v30] st28 fun v31 st32 =>
    OptK (un .not v31) fun v33 =>
    AsBool v33 fun b34 => Br b34 (
      Q (.tup []) st32) (
      OptK (bin .int .add (x12.getD 4 .any) (.int .i64 1)) fun v35 =>
    ∃ m16, m16 < n15 ∧ I14 m16 [(x12.getD 0 .any), (x12.getD 1 .any), (x12.getD 2 .any), (x12.getD 3 .any), v35] st32)) (
      Q (.tup []) st13)
theorem ok_seg_Seg_All_1 {w0 : World} {a0 : AV} {c0 : AV} {st : St} {Q : Kont} (h : vc_seg_Seg_All_1 w0 a0 c0 st Q) : Cal w0 n_seg_Seg_All_1 [a0, c0] st Q :=
  acall_of_gen ann_seg_Seg_All_1 Tryz.func135 rfl (by kernel_rfl) (cast (by kernel_rfl : vc_seg_Seg_All_1 w0 a0 c0 st Q = _) h)

/-! slices.Sorted[int] -/
def ann_slices_Sorted_int : Nat → List Nat
  | _ => []
def vc_slices_Sorted_int (w0 : World) (a0 : AV) (st : St) (Q : Kont) : Prop :=
  Cal w0 n_slices_Collect_int [a0] st fun v1 st2 =>
  Cal w0 n_slices_Sort_int_int [v1] st2 fun v3 st4 =>
  Q v1 st4
theorem ok_slices_Sorted_int {w0 : World} {a0 : AV} {st : St} {Q : Kont} (h : vc_slices_Sorted_int w0 a0 st Q) : Cal w0 n_slices_Sorted_int [a0] st Q :=
  acall_of_gen ann_slices_Sorted_int Tryz.func136 rfl (by kernel_rfl) (cast (by kernel_rfl : vc_slices_Sorted_int w0 a0 st Q = _) h)

/-! maps.Keys[map[int]landau/seg.slot,int,landau/seg.slot] -/
def ann_maps_Keys_map_int_seg_slot_int_seg_slot : Nat → List Nat
  | _ => []
def vc_maps_Keys_map_int_seg_slot_int_seg_slot (w0 : World) (a0 : AV) (st : St) (Q : Kont) : Prop :=
  OptK (AV.cellsOk a0) fun c3 =>
  New st c3 fun v1 st2 =>
  Q (.func n_maps_Keys_map_int_seg_slot_int_seg_slot_1 [] [v1]) st2
theorem ok_maps_Keys_map_int_seg_slot_int_seg_slot {w0 : World} {a0 : AV} {st : St} {Q : Kont} (h : vc_maps_Keys_map_int_seg_slot_int_seg_slot w0 a0 st Q) : Cal w0 n_maps_Keys_map_int_seg_slot_int_seg_slot [a0] st Q :=
  acall_of_gen ann_maps_Keys_map_int_seg_slot_int_seg_slot Tryz.func137 rfl (by kernel_rfl) (cast (by kernel_rfl : vc_maps_Keys_map_int_seg_slot_int_seg_slot w0 a0 st Q = _) h)

/-! (*landau/seg.Seg).cut$1 -/
def ann_seg_Seg_cut_1 : Nat → List Nat
  | _ => []
def vc_seg_Seg_cut_1 (w0 : World) (a0 : Int) (a1_r_Site : Int) (a1_r_Seq : Int) (a1_r_Dep : AV) (a1_r_Key : List UInt8) (a1_r_Val : List UInt8) (a1_line : Int) (c0 : AV) (st : St) (Q : Kont) : Prop :=
  New st [(.int .i64 a1_r_Site), (.int .i64 a1_r_Seq), a1_r_Dep, (.str a1_r_Key), (.str a1_r_Val), (.int .i64 a1_line)] fun v1 st2 =>
  Ld st2 c0 false 1 fun v3 st4 =>
  OptK (bin .int .geq (.int .i64 a0) v3) fun v5 =>
  Q v5 st4
theorem ok_seg_Seg_cut_1 {w0 : World} {a0 : Int} {a1_r_Site : Int} {a1_r_Seq : Int} {a1_r_Dep : AV} {a1_r_Key : List UInt8} {a1_r_Val : List UInt8} {a1_line : Int} {c0 : AV} {st : St} {Q : Kont} (h : vc_seg_Seg_cut_1 w0 a0 a1_r_Site a1_r_Seq a1_r_Dep a1_r_Key a1_r_Val a1_line c0 st Q) : Cal w0 n_seg_Seg_cut_1 [(.int .i64 a0), (.agg [(.int .i64 a1_r_Site), (.int .i64 a1_r_Seq), a1_r_Dep, (.str a1_r_Key), (.str a1_r_Val), (.int .i64 a1_line)]), c0] st Q :=
  acall_of_gen ann_seg_Seg_cut_1 Tryz.func138 rfl (by kernel_rfl) (cast (by kernel_rfl : vc_seg_Seg_cut_1 w0 a0 a1_r_Site a1_r_Seq a1_r_Dep a1_r_Key a1_r_Val a1_line c0 st Q = _) h)

/-! strings.splitSeq -/
def ann_strings_splitSeq : Nat → List Nat
  | _ => []
def vc_strings_splitSeq (w0 : World) (a0 : List UInt8) (a1 : List UInt8) (a2 : Int) (st : St) (Q : Kont) : Prop :=
  New st [(.str a0)] fun v1 st2 =>
  New st2 [(.str a1)] fun v3 st4 =>
  New st4 [(.int .i64 a2)] fun v5 st6 =>
  Q (.func n_strings_splitSeq_1 [] [v3, v1, v5]) st6
theorem ok_strings_splitSeq {w0 : World} {a0 : List UInt8} {a1 : List UInt8} {a2 : Int} {st : St} {Q : Kont} (h : vc_strings_splitSeq w0 a0 a1 a2 st Q) : Cal w0 n_strings_splitSeq [(.str a0), (.str a1), (.int .i64 a2)] st Q :=
  acall_of_gen ann_strings_splitSeq Tryz.func158 rfl (by kernel_rfl) (cast (by kernel_rfl : vc_strings_splitSeq w0 a0 a1 a2 st Q = _) h)

/-! slices.Collect[int] -/
def ann_slices_Collect_int : Nat → List Nat
  | _ => []
def vc_slices_Collect_int (w0 : World) (a0 : AV) (st : St) (Q : Kont) : Prop :=
  Cal w0 n_slices_AppendSeq_int_int [.nils, a0] st fun v1 st2 =>
  Q v1 st2
theorem ok_slices_Collect_int {w0 : World} {a0 : AV} {st : St} {Q : Kont} (h : vc_slices_Collect_int w0 a0 st Q) : Cal w0 n_slices_Collect_int [a0] st Q :=
  acall_of_gen ann_slices_Collect_int Tryz.func171 rfl (by kernel_rfl) (cast (by kernel_rfl : vc_slices_Collect_int w0 a0 st Q = _) h)

/-! maps.Keys[map[int]landau/seg.slot,int,landau/seg.slot]$1 -/
def ann_maps_Keys_map_int_seg_slot_int_seg_slot_1 : Nat → List Nat
  | 2 => [0, 5]
  | _ => []
def vc_maps_Keys_map_int_seg_slot_int_seg_slot_1 (w0 : World) (a0 : AV) (c0 : AV) (st : St) (Q : Kont) : Prop :=
  Ld st c0 false 1 fun v1 st2 =>
  Rng st2 v1 fun v3 st4 =>
  ∃ (I7 : Nat → List AV → St → Prop) (n10 : Nat), I7 n10 [a0, v3] st4 ∧
  ∀ (n8 : Nat) (x5 : List AV) (st6 : St), I7 n8 x5 st6 →
    Nxt st6 (x5.getD 1 .any) fun v11 st12 =>
    Ext v11 0 fun v13 =>
    AsBool v13 fun b14 => Br b14 (
      Ent st12 (x5.getD 1 .any) fun v15 =>
    Ext v15 0 fun v16 =>
    CallV Tryz.prog w0 (x5.getD 0 .any) [v16] st12 fun v17 st18 =>
    OptK (un .not v17) fun v19 =>
    AsBool v19 fun b20 => Br b20 (
      Q (.tup []) st18) (
      ∃ m9, m9 < n8 ∧ I7 m9 [(x5.getD 0 .any), (x5.getD 1 .any)] st18)) (
      Q (.tup []) st12)
theorem ok_maps_Keys_map_int_seg_slot_int_seg_slot_1 {w0 : World} {a0 : AV} {c0 : AV} {st : St} {Q : Kont} (h : vc_maps_Keys_map_int_seg_slot_int_seg_slot_1 w0 a0 c0 st Q) : Cal w0 n_maps_Keys_map_int_seg_slot_int_seg_slot_1 [a0, c0] st Q :=
  acall_of_gen ann_maps_Keys_map_int_seg_slot_int_seg_slot_1 Tryz.func173 rfl (by kernel_rfl) (cast (by kernel_rfl : vc_maps_Keys_map_int_seg_slot_int_seg_slot_1 w0 a0 c0 st Q = _) h)

/-! strings.splitSeq$1 -/
def ann_strings_splitSeq_1 : Nat → List Nat
  | 2 => [0, 2]
  | 10 => [0, 1, 2, 3]
  | _ => []
def vc_strings_splitSeq_1 (w0 : World) (a0 : AV) (c0 : AV) (c1 : AV) (c2 : AV) (st : St) (Q : Kont) : Prop :=
  Ld st c0 false 1 fun v1 st2 =>
  LenOk .str st2 v1 fun v3 =>
  OptK (bin .int .eql v3 (.int .i64 0)) fun v4 =>
  AsBool v4 fun b5 => Br b5 (
    ∃ (I8 : Nat → List AV → St → Prop) (n11 : Nat), I8 n11 [a0, c1] st2 ∧
    ∀ (n9 : Nat) (x6 : List AV) (st7 : St), I8 n9 x6 st7 →
      Ld st7 (x6.getD 1 .any) false 1 fun v12 st13 =>
      LenOk .str st13 v12 fun v14 =>
      OptK (bin .int .gtr v14 (.int .i64 0)) fun v15 =>
      AsBool v15 fun b16 => Br b16 (
        Ld st13 (x6.getD 1 .any) false 1 fun v17 st18 =>
      Cal w0 n_unicode_utf8_DecodeRuneInString [v17] st18 fun v19 st20 =>
      Ext v19 0 fun v21 =>
      Ext v19 1 fun v22 =>
      Ld st20 (x6.getD 1 .any) false 1 fun v23 st24 =>
      SlStr v23 none (some v22) fun v25 =>
      CallV Tryz.prog w0 (x6.getD 0 .any) [v25] st24 fun v26 st27 =>
      OptK (un .not v26) fun v28 =>
      AsBool v28 fun b29 => Br b29 (
        Q (.tup []) st27) (
        Ld st27 (x6.getD 1 .any) false 1 fun v30 st31 =>
      SlStr v30 (some v22) none fun v32 =>
      Sto st31 (x6.getD 1 .any) v32 1 fun v34 st33 =>
      ∃ m10, m10 < n9 ∧ I8 m10 [(x6.getD 0 .any), (x6.getD 1 .any)] st33)) (
        Q (.tup []) st13)) (
    ∃ (I37 : Nat → List AV → St → Prop) (n40 : Nat), I37 n40 [a0, c0, c1, c2] st2 ∧
  ∀ (n38 : Nat) (x35 : List AV) (st36 : St), I37 n38 x35 st36 →
    Ld st36 (x35.getD 2 .any) false 1 fun v41 st42 =>
    Ld st42 (x35.getD 1 .any) false 1 fun v43 st44 =>
    Cal w0 n_strings_Index [v41, v43] st44 fun v45 st46 =>
    OptK (bin .int .lss v45 (.int .i64 0)) fun v47 =>
    AsBool v47 fun b48 => Br b48 (
      Ld st46 (x35.getD 2 .any) false 1 fun v49 st50 =>
  CallV Tryz.prog w0 (x35.getD 0 .any) [v49] st50 fun v51 st52 =>
  Q (.tup []) st52) (
      Ld st46 (x35.getD 2 .any) false 1 fun v53 st54 =>
    Ld st54 (x35.getD 3 .any) false 1 fun v55 st56 =>
    OptK (bin .int .add v45 v55) fun v57 =>
    SlStr v53 none (some v57) fun v58 =>
    CallV Tryz.prog w0 (x35.getD 0 .any) [v58] st56 fun v59 st60 =>
    OptK (un .not v59) fun v61 =>
    AsBool v61 fun b62 => Br b62 (
      Q (.tup []) st60) (
      Ld st60 (x35.getD 2 .any) false 1 fun v63 st64 =>
    Ld st64 (x35.getD 1 .any) false 1 fun v65 st66 =>
    LenOk .str st66 v65 fun v67 =>
    OptK (bin .int .add v45 v67) fun v68 =>
    SlStr v63 (some v68) none fun v69 =>
    Sto st66 (x35.getD 2 .any) v69 1 fun v71 st70 =>
    ∃ m39, m39 < n38 ∧ I37 m39 [(x35.getD 0 .any), (x35.getD 1 .any), (x35.getD 2 .any), (x35.getD 3 .any)] st70)))
theorem ok_strings_splitSeq_1 {w0 : World} {a0 : AV} {c0 : AV} {c1 : AV} {c2 : AV} {st : St} {Q : Kont} (h : vc_strings_splitSeq_1 w0 a0 c0 c1 c2 st Q) : Cal w0 n_strings_splitSeq_1 [a0, c0, c1, c2] st Q :=
  acall_of_gen ann_strings_splitSeq_1 Tryz.func188 rfl (by kernel_rfl) (cast (by kernel_rfl : vc_strings_splitSeq_1 w0 a0 c0 c1 c2 st Q = _) h)

/-! slices.AppendSeq[[]int,int] -/
noncomputable def asg_slices_AppendSeq_int_int_0 : Code := (codeAt (Tryz.f202.body.getD .skip) [2, 1, 2, 2]).1
noncomputable def bod_slices_AppendSeq_int_int_0 : Code := (codeAt (Tryz.f202.body.getD .skip) [2, 1, 2, 2]).2
def ann_slices_AppendSeq_int_int : Nat → List Nat
  | _ => []
def vc_slices_AppendSeq_int_int (w0 : World) (a0 : AV) (a1 : AV) (st : St) (Q : Kont) : Prop :=
  OptK (AV.cellsOk a0) fun c3 =>
  New st c3 fun v1 st2 =>
  CalR w0 a1 st2.lp.length (pushLoop st2 { st := .ready, pend := none, tmps := [a0, a1, v1, .any, .nils, .any, a1, .any, .any, .any, .any, .any, .any], params := #[7], assign := asg_slices_AppendSeq_int_int_0, body := bod_slices_AppendSeq_int_int_0 }) fun _ st7 =>
  AftR st7 st2.lp.length (fun st8 =>
    Ld st8 v1 false 1 fun v10 st11 =>
  Q v10 st11) (fun st8 =>
    Q .nils st8) (fun e9 st8 =>
    Br (e9 == 0) (
  Ld st8 v1 false 1 fun v12 st13 =>
  Q v12 st13) (
  False)) (fun e9 st8 => False)
def rnd_slices_AppendSeq_int_int_0 (w0 : World) (i : Nat) (m2 : AV) (p0 : AV) (st : St) (Q : Kont) : Prop :=
  RBeg st i fun st1 =>
  Ld st1 m2 false 1 fun v2 st3 =>
  OptK (fillAV (fun i => some (i * 1, 1)) [(.int .i64 0)] [(0, p0)]) fun c5 =>
  Psh st3 (.cells false c5) fun st4 =>
  Append st4 v2 (.slice st3.hp.length 0 1 1 true 1) 1 8 fun v6 st7 =>
  Sto st7 m2 v6 1 fun v9 st8 =>
  RNorm i Q st8
theorem okr_slices_AppendSeq_int_int_0 {w0 : World} {i : Nat} {m0 : AV} {m1 : AV} {m2 : AV} {m3 : AV} {m4 : AV} {m5 : AV} {m6 : AV} {m7 : AV} {m8 : AV} {m9 : AV} {m10 : AV} {m11 : AV} {m12 : AV} {p0 : AV} {st : St} {Q : Kont} {ls : LoopState} {pd : Option Code} (hi : st.lp[i]? = some { st := ls, pend := pd, tmps := [m0, m1, m2, m3, m4, m5, m6, m7, m8, m9, m10, m11, m12], params := #[7], assign := asg_slices_AppendSeq_int_int_0, body := bod_slices_AppendSeq_int_int_0 }) (h : rnd_slices_AppendSeq_int_int_0 w0 i m2 p0 st Q) : AYield Tryz.prog w0 i [p0] st Q :=
  ayield_of_gen ann_slices_AppendSeq_int_int hi rfl (cast (by kernel_rfl : rnd_slices_AppendSeq_int_int_0 w0 i m2 p0 st Q = _) h)
theorem ok_slices_AppendSeq_int_int {w0 : World} {a0 : AV} {a1 : AV} {st : St} {Q : Kont} (h : vc_slices_AppendSeq_int_int w0 a0 a1 st Q) : Cal w0 n_slices_AppendSeq_int_int [a0, a1] st Q :=
  acall_of_gen ann_slices_AppendSeq_int_int Tryz.func202 rfl (by kernel_rfl) (cast (by kernel_rfl : vc_slices_AppendSeq_int_int w0 a0 a1 st Q = _) h)

end Go.Ab
