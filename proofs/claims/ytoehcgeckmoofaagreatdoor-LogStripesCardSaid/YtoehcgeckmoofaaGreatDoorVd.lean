/- What must hold for Go functions to run to their end: printed by vc.py. -/
import Derived.Test.YtoehcgeckmoofaaGreatDoorNames
set_option linter.unusedVariables false
set_option maxRecDepth 100000
namespace Go.Ab
open Go Go.RowKit Go.Proofs

/-! landau/vec.Same -/
def ann_vec_Same : Nat → List Nat
  | _ => []
def vc_vec_Same (w0 : World) (a0 : AV) (a1 : AV) (st : St) (Q : Kont) : Prop :=
  Cal w0 n_vec_Covers [a0, a1] st fun v11 st12 =>
  AsBool v11 fun b13 => Br (b13 == true) (
  Cal w0 n_vec_Covers [a1, a0] st12 fun v14 st15 =>
  Q (AV.pick true v14 (.bool false)) st15) (
  Q (.bool false) st12)
theorem ok_vec_Same {w0 : World} {a0 : AV} {a1 : AV} {st : St} {Q : Kont} (h : vc_vec_Same w0 a0 a1 st Q) : Cal w0 n_vec_Same [a0, a1] st Q :=
  acall_of_gen ann_vec_Same Tryz.func48 rfl (by kernel_rfl) (cast (by kernel_rfl : vc_vec_Same w0 a0 a1 st Q = _) h)

/-! (*landau/disk.Disk).Write -/
def ann_disk_Disk_Write : Nat → List Nat
  | 7 => [0, 1, 2, 3, 4, 5, 6, 7, 8, 9, 10, 11]
  | _ => []
def vc_disk_Disk_Write (w0 : World) (a0 : AV) (a1 : List UInt8) (st : St) (Q : Kont) : Prop :=
  Cal w0 n_strings_Contains [(.str a1), (.str [10])] st fun v1 st2 =>
  AsBool v1 fun b3 => Br b3 (
    Q (.int .i64 2) st2) (
    NilC a0 fun v4 =>
    Faddr v4 0 fun v5 =>
    Ld st2 v5 false 1 fun v6 st7 =>
    Cal w0 n_disk_Disk_Used [a0] st2 fun v8 st9 =>
    (Ld st9 v5 false 1 fun v10 st11 =>
    (v10 : AV) = v6) ∧
    (((.int .i64 (a1.length : Int)) : AV) = (.int .i64 (a1.length : Int))) ∧
    OptK (bin .int .sub v6 v8) fun v12 =>
    OptK (bin .int .gtr (.int .i64 (IntKind.i64.wrap ((a1.length : Int) + 1))) v12) fun v13 =>
    AsBool v13 fun b14 => Br b14 (
      Q (.int .i64 6) st9) (
      NilC a0 fun v15 =>
  Faddr v15 1 fun v16 =>
  Ld st9 v16 false 1 fun v17 st18 =>
  Psh st18 (.cells false [(.str a1)]) fun st19 =>
  Append st19 v17 (.slice st18.hp.length 0 1 1 true 1) 1 16 fun v20 st21 =>
  NilC a0 fun v22 =>
  Faddr v22 1 fun v23 =>
  Sto st21 v23 v20 1 fun v25 st24 =>
  Q (.int .i64 0) st24))
theorem ok_disk_Disk_Write {w0 : World} {a0 : AV} {a1 : List UInt8} {st : St} {Q : Kont} (h : vc_disk_Disk_Write w0 a0 a1 st Q) : Cal w0 n_disk_Disk_Write [a0, (.str a1)] st Q :=
  acall_of_gen ann_disk_Disk_Write Tryz.func50 rfl (by kernel_rfl) (cast (by kernel_rfl : vc_disk_Disk_Write w0 a0 a1 st Q = _) h)

/-! landau/vec.Text -/
noncomputable def asg_vec_Text_0 : Code := (codeAt (Tryz.f52.body.getD .skip) [2, 2, 1, 2, 2]).1
noncomputable def bod_vec_Text_0 : Code := (codeAt (Tryz.f52.body.getD .skip) [2, 2, 1, 2, 2]).2
def ann_vec_Text : Nat → List Nat
  | 14 => [5, 16, 17, 18]
  | _ => []
def vc_vec_Text (w0 : World) (a0 : AV) (st : St) (Q : Kont) : Prop :=
  New st [(.int .i64 0)] fun v1 st2 =>
  Sto st2 v1 (.int .i64 0) 1 fun v4 st3 =>
  Cal w0 n_vec_All [a0] st3 fun v5 st6 =>
  Jn (fun  (st7 : St) =>
    Ld st7 v1 false 1 fun v8 st9 =>
  SlSl a0 1 none (some v8) none fun v10 =>
  LenOk .slice st9 v10 fun v11 =>
  ∃ (I14 : Nat → List AV → St → Prop) (n17 : Nat), I14 n17 [.nils, v10, v11, (.int .i64 0)] st9 ∧
  ∀ (n15 : Nat) (x12 : List AV) (st13 : St), I14 n15 x12 st13 →
    OptK (bin .int .lss (x12.getD 3 .any) (x12.getD 2 .any)) fun v18 =>
    AsBool v18 fun b19 => Br b19 (
      Iaddr (x12.getD 1 .any) (x12.getD 3 .any) none 1 fun v20 =>
    Ld st13 v20 false 1 fun v21 st22 =>
    Cal w0 n_strconv_Itoa [v21] st22 fun v23 st24 =>
    OptK (fillAV (fun i => some (i * 1, 1)) [(.str [])] [(0, v23)]) fun c26 =>
    Psh st24 (.cells false c26) fun st25 =>
    Append st25 (x12.getD 0 .any) (.slice st24.hp.length 0 1 1 true 1) 1 16 fun v27 st28 =>
    OptK (bin .int .add (x12.getD 3 .any) (.int .i64 1)) fun v29 =>
    ∃ m16, m16 < n15 ∧ I14 m16 [v27, (x12.getD 1 .any), (x12.getD 2 .any), v29] st28) (
      Cal w0 n_strings_Join [(x12.getD 0 .any), (.str [32])] st13 fun v30 st31 =>
  OptK (bin .str .add (.str [91]) v30) fun v32 =>
  OptK (bin .str .add v32 (.str [93])) fun v33 =>
  Q v33 st31)) fun (k34 : St → Prop) => CalR w0 v5 st6.lp.length (pushLoop st6 { st := .ready, pend := none, tmps := [a0, .any, (.str []), v1, .any, .any, .any, .any, a0, v5, .any, .any, .any, .any, .any, .any, .any, .any, .any, .any, .any, .any, .any, .any, .any, .any, .any, .any, .any, .any, .any, .any], params := #[10, 11], assign := asg_vec_Text_0, body := bod_vec_Text_0 }) fun _ st35 =>
  AftR st35 st6.lp.length (fun st36 =>
    k34  st36) (fun st36 =>
    Q (.str []) st36) (fun e37 st36 =>
    Br (e37 == 0) (
  k34  st36) (
  False)) (fun e37 st36 => False)
def rnd_vec_Text_0 (w0 : World) (i : Nat) (m3 : AV) (p0 : AV) (p1 : AV) (st : St) (Q : Kont) : Prop :=
  RBeg st i fun st1 =>
  OptK (bin .int .add p0 (.int .i64 1)) fun v2 =>
  Sto st1 m3 v2 1 fun v4 st3 =>
  RNorm i Q st3
theorem okr_vec_Text_0 {w0 : World} {i : Nat} {m0 : AV} {m1 : AV} {m2 : AV} {m3 : AV} {m4 : AV} {m5 : AV} {m6 : AV} {m7 : AV} {m8 : AV} {m9 : AV} {m10 : AV} {m11 : AV} {m12 : AV} {m13 : AV} {m14 : AV} {m15 : AV} {m16 : AV} {m17 : AV} {m18 : AV} {m19 : AV} {m20 : AV} {m21 : AV} {m22 : AV} {m23 : AV} {m24 : AV} {m25 : AV} {m26 : AV} {m27 : AV} {m28 : AV} {m29 : AV} {m30 : AV} {m31 : AV} {p0 : AV} {p1 : AV} {st : St} {Q : Kont} {ls : LoopState} {pd : Option Code} (hi : st.lp[i]? = some { st := ls, pend := pd, tmps := [m0, m1, m2, m3, m4, m5, m6, m7, m8, m9, m10, m11, m12, m13, m14, m15, m16, m17, m18, m19, m20, m21, m22, m23, m24, m25, m26, m27, m28, m29, m30, m31], params := #[10, 11], assign := asg_vec_Text_0, body := bod_vec_Text_0 }) (h : rnd_vec_Text_0 w0 i m3 p0 p1 st Q) : AYield Tryz.prog w0 i [p0, p1] st Q :=
  ayield_of_gen ann_vec_Text hi rfl (cast (by kernel_rfl : rnd_vec_Text_0 w0 i m3 p0 p1 st Q = _) h)
theorem ok_vec_Text {w0 : World} {a0 : AV} {st : St} {Q : Kont} (h : vc_vec_Text w0 a0 st Q) : Cal w0 n_vec_Text [a0] st Q :=
  acall_of_gen ann_vec_Text Tryz.func52 rfl (by kernel_rfl) (cast (by kernel_rfl : vc_vec_Text w0 a0 st Q = _) h)

/-! (*landau/disk.Disk).Sync -/
def ann_disk_Disk_Sync : Nat → List Nat
  | _ => []
def vc_disk_Disk_Sync (w0 : World) (a0 : AV) (st : St) (Q : Kont) : Prop :=
  NilC a0 fun v1 =>
  Faddr v1 1 fun v2 =>
  Ld st v2 false 1 fun v3 st4 =>
  LenOk .slice st4 v3 fun v5 =>
  NilC a0 fun v6 =>
  Faddr v6 2 fun v7 =>
  Sto st4 v7 v5 1 fun v9 st8 =>
  Q (.tup []) st8
theorem ok_disk_Disk_Sync {w0 : World} {a0 : AV} {st : St} {Q : Kont} (h : vc_disk_Disk_Sync w0 a0 st Q) : Cal w0 n_disk_Disk_Sync [a0] st Q :=
  acall_of_gen ann_disk_Disk_Sync Tryz.func53 rfl (by kernel_rfl) (cast (by kernel_rfl : vc_disk_Disk_Sync w0 a0 st Q = _) h)

/-! slices.Clone[landau/vec.Vec,int] -/
def ann_slices_Clone_vec_Vec_int : Nat → List Nat
  | _ => []
def vc_slices_Clone_vec_Vec_int (w0 : World) (a0 : AV) (st : St) (Q : Kont) : Prop :=
  OptK (bin .slice .eql a0 .nils) fun v1 =>
  AsBool v1 fun b2 => Br b2 (
    Q .nils st) (
    Psh st (.cells false []) fun st3 =>
  Append st3 (.slice st.hp.length 0 0 0 true 1) a0 1 8 fun v4 st5 =>
  Q v4 st5)
theorem ok_slices_Clone_vec_Vec_int {w0 : World} {a0 : AV} {st : St} {Q : Kont} (h : vc_slices_Clone_vec_Vec_int w0 a0 st Q) : Cal w0 n_slices_Clone_vec_Vec_int [a0] st Q :=
  acall_of_gen ann_slices_Clone_vec_Vec_int Tryz.func54 rfl (by kernel_rfl) (cast (by kernel_rfl : vc_slices_Clone_vec_Vec_int w0 a0 st Q = _) h)

/-! landau/rec.Same -/
def ann_rec_Same : Nat → List Nat
  | _ => []
def vc_rec_Same (w0 : World) (a0_Site : Int) (a0_Seq : Int) (a0_Dep : AV) (a0_Key : List UInt8) (a0_Val : List UInt8) (a1_Site : Int) (a1_Seq : Int) (a1_Dep : AV) (a1_Key : List UInt8) (a1_Val : List UInt8) (st : St) (Q : Kont) : Prop :=
  New st [(.int .i64 a0_Site), (.int .i64 a0_Seq), a0_Dep, (.str a0_Key), (.str a0_Val)] fun v1 st2 =>
  New st2 [(.int .i64 a1_Site), (.int .i64 a1_Seq), a1_Dep, (.str a1_Key), (.str a1_Val)] fun v3 st4 =>
  Faddr v1 0 fun v40 =>
  Ld st4 v40 false 1 fun v41 st42 =>
  Faddr v3 0 fun v43 =>
  Ld st42 v43 false 1 fun v44 st45 =>
  OptK (bin .int .eql v41 v44) fun v46 =>
  AsBool v46 fun b47 => Br (b47 == true) (
  Faddr v1 1 fun v48 =>
  Ld st45 v48 false 1 fun v49 st50 =>
  Faddr v3 1 fun v51 =>
  Ld st50 v51 false 1 fun v52 st53 =>
  OptK (bin .int .eql v49 v52) fun v54 =>
  AsBool (AV.pick true v54 (.bool false)) fun b55 => Br (b55 == true) (
  Faddr v1 2 fun v56 =>
  Ld st53 v56 false 1 fun v57 st58 =>
  Faddr v3 2 fun v59 =>
  Ld st58 v59 false 1 fun v60 st61 =>
  Cal w0 n_vec_Same [v57, v60] st61 fun v62 st63 =>
  AsBool (AV.pick true v62 (.bool false)) fun b64 => Br (b64 == true) (
  Faddr v1 3 fun v65 =>
  Ld st63 v65 false 1 fun v66 st67 =>
  Faddr v3 3 fun v68 =>
  Ld st67 v68 false 1 fun v69 st70 =>
  OptK (bin .str .eql v66 v69) fun v71 =>
  AsBool (AV.pick true v71 (.bool false)) fun b72 => Br (b72 == true) (
  Faddr v1 4 fun v73 =>
  Ld st70 v73 false 1 fun v74 st75 =>
  Faddr v3 4 fun v76 =>
  Ld st75 v76 false 1 fun v77 st78 =>
  OptK (bin .str .eql v74 v77) fun v79 =>
  Q (AV.pick true v79 (.bool false)) st78) (
  Q (.bool false) st70)) (
  Q (.bool false) st63)) (
  Q (.bool false) st53)) (
  Q (.bool false) st45)
theorem ok_rec_Same {w0 : World} {a0_Site : Int} {a0_Seq : Int} {a0_Dep : AV} {a0_Key : List UInt8} {a0_Val : List UInt8} {a1_Site : Int} {a1_Seq : Int} {a1_Dep : AV} {a1_Key : List UInt8} {a1_Val : List UInt8} {st : St} {Q : Kont} (h : vc_rec_Same w0 a0_Site a0_Seq a0_Dep a0_Key a0_Val a1_Site a1_Seq a1_Dep a1_Key a1_Val st Q) : Cal w0 n_rec_Same [(.agg [(.int .i64 a0_Site), (.int .i64 a0_Seq), a0_Dep, (.str a0_Key), (.str a0_Val)]), (.agg [(.int .i64 a1_Site), (.int .i64 a1_Seq), a1_Dep, (.str a1_Key), (.str a1_Val)])] st Q :=
  acall_of_gen ann_rec_Same Tryz.func58 rfl (by kernel_rfl) (cast (by kernel_rfl : vc_rec_Same w0 a0_Site a0_Seq a0_Dep a0_Key a0_Val a1_Site a1_Seq a1_Dep a1_Key a1_Val st Q = _) h)

/-! (*landau/disk.Disk).Crash -/
noncomputable def asg_disk_Disk_Crash_0 : Code := (codeAt (Tryz.f60.body.getD .skip) [2, 1, 2, 2, 2, 1, 2, 2]).1
noncomputable def bod_disk_Disk_Crash_0 : Code := (codeAt (Tryz.f60.body.getD .skip) [2, 1, 2, 2, 2, 1, 2, 2]).2
def ann_disk_Disk_Crash : Nat → List Nat
  | 23 => [0, 1, 2, 3, 4, 5, 6, 7, 8, 9, 10]
  | _ => []
def vc_disk_Disk_Crash (w0 : World) (a0 : AV) (a1 : Int) (st : St) (Q : Kont) : Prop :=
  OptK (AV.cellsOk a0) fun c3 =>
  New st c3 fun v1 st2 =>
  New st2 [(.int .i64 a1)] fun v4 st5 =>
  Ld st5 v4 false 1 fun v6 st7 =>
  OptK (maxAV [v6, (.int .i64 0)]) fun v8 =>
  Sto st7 v4 v8 1 fun v10 st9 =>
  New st9 [(.int .i64 0)] fun v11 st12 =>
  Sto st12 v11 (.int .i64 0) 1 fun v14 st13 =>
  Ld st13 v1 false 1 fun v15 st16 =>
  Cal w0 n_disk_Disk_Lines [v15] st16 fun v17 st18 =>
  Jn (fun  (st19 : St) =>
    Ld st19 v1 false 1 fun v20 st21 =>
  Ld st19 v1 false 1 fun v22 st23 =>
  NilC v22 fun v24 =>
  Faddr v24 1 fun v25 =>
  Ld st19 v25 false 1 fun v26 st27 =>
  Ld st19 v11 false 1 fun v28 st29 =>
  Ld st19 v11 false 1 fun v30 st31 =>
  SlSl v26 1 none (some v28) (some v30) fun v32 =>
  NilC v20 fun v33 =>
  Faddr v33 1 fun v34 =>
  Sto st19 v34 v32 1 fun v36 st35 =>
  Ld st35 v1 false 1 fun v37 st38 =>
  Cal w0 n_disk_Disk_Sync [v37] st38 fun v39 st40 =>
  Q (.tup []) st40) fun (k41 : St → Prop) => CalR w0 v17 st18.lp.length (pushLoop st18 { st := .ready, pend := none, tmps := [a0, (.int .i64 a1), v1, v4, v11, .any, .any, v6, v8, v15, v17, .any, .any, .any, .any, .any, .any, .any, .any, .any, .any, .any, .any, .any, .any, .any, .any, .any, .any, .any, .any, .any, .any, .any, .any, .any, .any, .any, .any, .any, .any, .any], params := #[11, 12], assign := asg_disk_Disk_Crash_0, body := bod_disk_Disk_Crash_0 }) fun _ st42 =>
  AftR st42 st18.lp.length (fun st43 =>
    k41  st43) (fun st43 =>
    Q (.tup []) st43) (fun e44 st43 =>
    Br (e44 == 0) (
  k41  st43) (
  False)) (fun e44 st43 => False)
def rnd_disk_Disk_Crash_0 (w0 : World) (i : Nat) (m2 : AV) (m3 : AV) (m4 : AV) (p0 : AV) (p1 : AV) (st : St) (Q : Kont) : Prop :=
  RBeg st i fun st1 =>
  Ld st1 m2 false 1 fun v20 st21 =>
  NilC v20 fun v22 =>
  Faddr v22 2 fun v23 =>
  Ld st21 v23 false 1 fun v24 st25 =>
  OptK (bin .int .lss p0 v24) fun v26 =>
  AsBool v26 fun b27 => Br b27 (
    OptK (bin .int .add p0 (.int .i64 1)) fun v28 =>
    Sto st25 m4 v28 1 fun v30 st29 =>
    RNorm i Q st29) (
    Ld st25 m3 false 1 fun v31 st32 =>
  LenOk .str st32 p1 fun v33 =>
  OptK (bin .int .add v33 (.int .i64 1)) fun v34 =>
  OptK (bin .int .sub v31 v34) fun v35 =>
  Sto st32 m3 v35 1 fun v37 st36 =>
  Ld st36 m3 false 1 fun v38 st39 =>
  OptK (bin .int .lss v38 (.int .i64 0)) fun v40 =>
  AsBool v40 fun b41 => Br b41 (
    RExit i Q st39 0) (
    OptK (bin .int .add p0 (.int .i64 1)) fun v42 =>
  Sto st39 m4 v42 1 fun v44 st43 =>
  RNorm i Q st43))
theorem okr_disk_Disk_Crash_0 {w0 : World} {i : Nat} {m0 : AV} {m1 : AV} {m2 : AV} {m3 : AV} {m4 : AV} {m5 : AV} {m6 : AV} {m7 : AV} {m8 : AV} {m9 : AV} {m10 : AV} {m11 : AV} {m12 : AV} {m13 : AV} {m14 : AV} {m15 : AV} {m16 : AV} {m17 : AV} {m18 : AV} {m19 : AV} {m20 : AV} {m21 : AV} {m22 : AV} {m23 : AV} {m24 : AV} {m25 : AV} {m26 : AV} {m27 : AV} {m28 : AV} {m29 : AV} {m30 : AV} {m31 : AV} {m32 : AV} {m33 : AV} {m34 : AV} {m35 : AV} {m36 : AV} {m37 : AV} {m38 : AV} {m39 : AV} {m40 : AV} {m41 : AV} {p0 : AV} {p1 : AV} {st : St} {Q : Kont} {ls : LoopState} {pd : Option Code} (hi : st.lp[i]? = some { st := ls, pend := pd, tmps := [m0, m1, m2, m3, m4, m5, m6, m7, m8, m9, m10, m11, m12, m13, m14, m15, m16, m17, m18, m19, m20, m21, m22, m23, m24, m25, m26, m27, m28, m29, m30, m31, m32, m33, m34, m35, m36, m37, m38, m39, m40, m41], params := #[11, 12], assign := asg_disk_Disk_Crash_0, body := bod_disk_Disk_Crash_0 }) (h : rnd_disk_Disk_Crash_0 w0 i m2 m3 m4 p0 p1 st Q) : AYield Tryz.prog w0 i [p0, p1] st Q :=
  ayield_of_gen ann_disk_Disk_Crash hi rfl (cast (by kernel_rfl : rnd_disk_Disk_Crash_0 w0 i m2 m3 m4 p0 p1 st Q = _) h)
theorem ok_disk_Disk_Crash {w0 : World} {a0 : AV} {a1 : Int} {st : St} {Q : Kont} (h : vc_disk_Disk_Crash w0 a0 a1 st Q) : Cal w0 n_disk_Disk_Crash [a0, (.int .i64 a1)] st Q :=
  acall_of_gen ann_disk_Disk_Crash Tryz.func60 rfl (by kernel_rfl) (cast (by kernel_rfl : vc_disk_Disk_Crash w0 a0 a1 st Q = _) h)

/-! (*landau/disk.Disk).Lines -/
def ann_disk_Disk_Lines : Nat → List Nat
  | _ => []
def vc_disk_Disk_Lines (w0 : World) (a0 : AV) (st : St) (Q : Kont) : Prop :=
  NilC a0 fun v1 =>
  Faddr v1 1 fun v2 =>
  Ld st v2 false 1 fun v3 st4 =>
  New st4 [.nils] fun v5 st6 =>
  Sto st6 v5 v3 1 fun v8 st7 =>
  Q (.func n_disk_Disk_Lines_1 [] [v5]) st7
theorem ok_disk_Disk_Lines {w0 : World} {a0 : AV} {st : St} {Q : Kont} (h : vc_disk_Disk_Lines w0 a0 st Q) : Cal w0 n_disk_Disk_Lines [a0] st Q :=
  acall_of_gen ann_disk_Disk_Lines Tryz.func62 rfl (by kernel_rfl) (cast (by kernel_rfl : vc_disk_Disk_Lines w0 a0 st Q = _) h)

/-! (*landau/disk.Disk).Cut -/
def ann_disk_Disk_Cut : Nat → List Nat
  | _ => []
def vc_disk_Disk_Cut (w0 : World) (a0 : AV) (a1 : Int) (st : St) (Q : Kont) : Prop :=
  Jn (fun (j1 : AV) (st13 : St) =>
    AsBool j1 fun b14 => Br b14 (
    Q (.int .i64 1) st13) (
    Cal w0 n_disk_Disk_Waits [a0] st13 fun v15 st16 =>
    OptK (bin .int .gtr v15 (.int .i64 0)) fun v17 =>
    AsBool v17 fun b18 => Br b18 (
      Q (.int .i64 12) st16) (
      NilC a0 fun v19 =>
  Faddr v19 1 fun v20 =>
  Ld st16 v20 false 1 fun v21 st22 =>
  OptK (sliceSl v21 1 0 (some a1) (some a1)) fun v23 =>
  NilC a0 fun v24 =>
  Faddr v24 1 fun v25 =>
  Sto st22 v25 v23 1 fun v27 st26 =>
  Cal w0 n_disk_Disk_Sync [a0] st26 fun v28 st29 =>
  Q (.int .i64 0) st29))) fun (k30 : AV → St → Prop) => Br ((decide (a1 < 0)) == false) (
  NilC a0 fun v31 =>
  Faddr v31 1 fun v32 =>
  Ld st v32 false 1 fun v33 st34 =>
  LenOk .slice st34 v33 fun v35 =>
  OptK (bin .int .gtr (.int .i64 a1) v35) fun v36 =>
  k30 (AV.pick false (.bool true) v36) st34) (
  k30 (.bool true) st)
theorem ok_disk_Disk_Cut {w0 : World} {a0 : AV} {a1 : Int} {st : St} {Q : Kont} (h : vc_disk_Disk_Cut w0 a0 a1 st Q) : Cal w0 n_disk_Disk_Cut [a0, (.int .i64 a1)] st Q :=
  acall_of_gen ann_disk_Disk_Cut Tryz.func64 rfl (by kernel_rfl) (cast (by kernel_rfl : vc_disk_Disk_Cut w0 a0 a1 st Q = _) h)

/-! landau/disk.New -/
def ann_disk_New : Nat → List Nat
  | _ => []
def vc_disk_New (w0 : World) (a0 : Int) (st : St) (Q : Kont) : Prop :=
  Jn (fun (j6 : AV) (st7 : St) =>
    AsBool j6 fun b8 => Br b8 (
    Q (.tup [.nilp, (.int .i64 1)]) st7) (
    New st7 [(.int .i64 a0), .nils, (.int .i64 0)] fun v9 st10 =>
  Q (.tup [v9, (.int .i64 0)]) st10)) fun (k11 : AV → St → Prop) => Br ((decide (a0 < 1)) == false) (
  k11 (.bool (decide (1048576 < a0))) st) (
  k11 (.bool true) st)
theorem ok_disk_New {w0 : World} {a0 : Int} {st : St} {Q : Kont} (h : vc_disk_New w0 a0 st Q) : Cal w0 n_disk_New [(.int .i64 a0)] st Q :=
  acall_of_gen ann_disk_New Tryz.func69 rfl (by kernel_rfl) (cast (by kernel_rfl : vc_disk_New w0 a0 st Q = _) h)

/-! (*landau/disk.Disk).Waits -/
def ann_disk_Disk_Waits : Nat → List Nat
  | 3 => [0, 1, 2, 3, 4, 5, 6, 7, 8, 9, 10]
  | _ => []
def vc_disk_Disk_Waits (w0 : World) (a0 : AV) (st : St) (Q : Kont) : Prop :=
  NilC a0 fun v1 =>
  Faddr v1 1 fun v2 =>
  Ld st v2 false 1 fun v3 st4 =>
  LenOk .slice st v3 fun v5 =>
  NilC a0 fun v6 =>
  Faddr v6 2 fun v7 =>
  Ld st v7 false 1 fun v8 st9 =>
  OptK (bin .int .sub v5 v8) fun v10 =>
  Q v10 st
theorem ok_disk_Disk_Waits {w0 : World} {a0 : AV} {st : St} {Q : Kont} (h : vc_disk_Disk_Waits w0 a0 st Q) : Cal w0 n_disk_Disk_Waits [a0] st Q :=
  acall_of_gen ann_disk_Disk_Waits Tryz.func72 rfl (by kernel_rfl) (cast (by kernel_rfl : vc_disk_Disk_Waits w0 a0 st Q = _) h)

/-! landau/vec.With -/
def ann_vec_With : Nat → List Nat
  | 8 => [1, 2, 7]
  | _ => []
def vc_vec_With (w0 : World) (a0 : AV) (a1 : Int) (a2 : Int) (st : St) (Q : Kont) : Prop :=
  Cal w0 n_slices_Clone_vec_Vec_int [a0] st fun v1 st2 =>
  Jn (fun (j8 : AV) (st9 : St) =>
    AsBool j8 fun b10 => Br b10 (
    Q v1 st9) (
    ∃ (I13 : Nat → List AV → St → Prop) (n16 : Nat), I13 n16 [(.int .i64 a1), (.int .i64 a2), v1] st9 ∧
  ∀ (n14 : Nat) (x11 : List AV) (st12 : St), I13 n14 x11 st12 →
    LenOk .slice st12 (x11.getD 2 .any) fun v17 =>
    OptK (bin .int .leq v17 (x11.getD 0 .any)) fun v18 =>
    AsBool v18 fun b19 => Br b19 (
      Psh st12 (.cells false [(.int .i64 0)]) fun st20 =>
    Append st20 (x11.getD 2 .any) (.slice st12.hp.length 0 1 1 true 1) 1 8 fun v21 st22 =>
    ∃ m15, m15 < n14 ∧ I13 m15 [(x11.getD 0 .any), (x11.getD 1 .any), v21] st22) (
      Iaddr (x11.getD 2 .any) (x11.getD 0 .any) none 1 fun v23 =>
  Sto st12 v23 (x11.getD 1 .any) 1 fun v25 st24 =>
  Q (x11.getD 2 .any) st24))) fun (k26 : AV → St → Prop) => Br ((decide (a1 < 0)) == false) (
  k26 (.bool (decide (63 < a1))) st2) (
  k26 (.bool true) st2)
theorem ok_vec_With {w0 : World} {a0 : AV} {a1 : Int} {a2 : Int} {st : St} {Q : Kont} (h : vc_vec_With w0 a0 a1 a2 st Q) : Cal w0 n_vec_With [a0, (.int .i64 a1), (.int .i64 a2)] st Q :=
  acall_of_gen ann_vec_With Tryz.func80 rfl (by kernel_rfl) (cast (by kernel_rfl : vc_vec_With w0 a0 a1 a2 st Q = _) h)

/-! landau/vec.Get -/
def ann_vec_Get : Nat → List Nat
  | _ => []
def vc_vec_Get (w0 : World) (a0 : AV) (a1 : Int) (st : St) (Q : Kont) : Prop :=
  Jn (fun (j8 : AV) (st9 : St) =>
    AsBool j8 fun b10 => Br b10 (
    Q (.int .i64 0) st9) (
    Iaddr a0 (.int .i64 a1) none 1 fun v11 =>
  Ld st9 v11 false 1 fun v12 st13 =>
  Q v12 st13)) fun (k14 : AV → St → Prop) => Br ((decide (a1 < 0)) == false) (
  LenOk .slice st a0 fun v15 =>
  OptK (bin .int .geq (.int .i64 a1) v15) fun v16 =>
  k14 (AV.pick false (.bool true) v16) st) (
  k14 (.bool true) st)
theorem ok_vec_Get {w0 : World} {a0 : AV} {a1 : Int} {st : St} {Q : Kont} (h : vc_vec_Get w0 a0 a1 st Q) : Cal w0 n_vec_Get [a0, (.int .i64 a1)] st Q :=
  acall_of_gen ann_vec_Get Tryz.func81 rfl (by kernel_rfl) (cast (by kernel_rfl : vc_vec_Get w0 a0 a1 st Q = _) h)

/-! landau/vec.Covers -/
def ann_vec_Covers : Nat → List Nat
  | 4 => [0, 1, 10, 11]
  | _ => []
def vc_vec_Covers (w0 : World) (a0 : AV) (a1 : AV) (st : St) (Q : Kont) : Prop :=
  LenOk .slice st a0 fun v1 =>
  LenOk .slice st a1 fun v2 =>
  OptK (maxAV [v1, v2]) fun v3 =>
  ∃ (I6 : Nat → List AV → St → Prop) (n9 : Nat), I6 n9 [a0, a1, v3, (.int .i64 0)] st ∧
  ∀ (n7 : Nat) (x4 : List AV) (st5 : St), I6 n7 x4 st5 →
    OptK (bin .int .lss (x4.getD 3 .any) (x4.getD 2 .any)) fun v10 =>
    AsBool v10 fun b11 => Br b11 (
      Cal w0 n_vec_Get [(x4.getD 0 .any), (x4.getD 3 .any)] st5 fun v12 st13 =>
    Cal w0 n_vec_Get [(x4.getD 1 .any), (x4.getD 3 .any)] st13 fun v14 st15 =>
    OptK (bin .int .lss v12 v14) fun v16 =>
    AsBool v16 fun b17 => Br b17 (
      Q (.bool false) st15) (
      OptK (bin .int .add (x4.getD 3 .any) (.int .i64 1)) fun v18 =>
    ∃ m8, m8 < n7 ∧ I6 m8 [(x4.getD 0 .any), (x4.getD 1 .any), (x4.getD 2 .any), v18] st15)) (
      Q (.bool true) st5)
theorem ok_vec_Covers {w0 : World} {a0 : AV} {a1 : AV} {st : St} {Q : Kont} (h : vc_vec_Covers w0 a0 a1 st Q) : Cal w0 n_vec_Covers [a0, a1] st Q :=
  acall_of_gen ann_vec_Covers Tryz.func89 rfl (by kernel_rfl) (cast (by kernel_rfl : vc_vec_Covers w0 a0 a1 st Q = _) h)

/-! (*landau/disk.Disk).Used -/
noncomputable def asg_disk_Disk_Used_0 : Code := (codeAt (Tryz.f91.body.getD .skip) [2, 2, 1, 2, 2]).1
noncomputable def bod_disk_Disk_Used_0 : Code := (codeAt (Tryz.f91.body.getD .skip) [2, 2, 1, 2, 2]).2
def ann_disk_Disk_Used : Nat → List Nat
  | _ => []
def vc_disk_Disk_Used (w0 : World) (a0 : AV) (st : St) (Q : Kont) : Prop :=
  New st [(.int .i64 0)] fun v1 st2 =>
  Sto st2 v1 (.int .i64 0) 1 fun v4 st3 =>
  Cal w0 n_disk_Disk_Lines [a0] st3 fun v5 st6 =>
  CalR w0 v5 st6.lp.length (pushLoop st6 { st := .ready, pend := none, tmps := [a0, .any, (.int .i64 0), v1, .any, .any, a0, v5, .any, .any, .any, .any, .any, .any, .any, .any], params := #[8, 9], assign := asg_disk_Disk_Used_0, body := bod_disk_Disk_Used_0 }) fun _ st10 =>
  AftR st10 st6.lp.length (fun st11 =>
    Ld st11 v1 false 1 fun v13 st14 =>
  Q v13 st14) (fun st11 =>
    Q (.int .i64 0) st11) (fun e12 st11 =>
    Br (e12 == 0) (
  Ld st11 v1 false 1 fun v15 st16 =>
  Q v15 st16) (
  False)) (fun e12 st11 => False)
def rnd_disk_Disk_Used_0 (w0 : World) (i : Nat) (m3 : AV) (p0 : AV) (p1 : AV) (st : St) (Q : Kont) : Prop :=
  RBeg st i fun st1 =>
  Ld st1 m3 false 1 fun v2 st3 =>
  LenOk .str st3 p1 fun v4 =>
  OptK (bin .int .add v4 (.int .i64 1)) fun v5 =>
  OptK (bin .int .add v2 v5) fun v6 =>
  Sto st3 m3 v6 1 fun v8 st7 =>
  RNorm i Q st7
theorem okr_disk_Disk_Used_0 {w0 : World} {i : Nat} {m0 : AV} {m1 : AV} {m2 : AV} {m3 : AV} {m4 : AV} {m5 : AV} {m6 : AV} {m7 : AV} {m8 : AV} {m9 : AV} {m10 : AV} {m11 : AV} {m12 : AV} {m13 : AV} {m14 : AV} {m15 : AV} {p0 : AV} {p1 : AV} {st : St} {Q : Kont} {ls : LoopState} {pd : Option Code} (hi : st.lp[i]? = some { st := ls, pend := pd, tmps := [m0, m1, m2, m3, m4, m5, m6, m7, m8, m9, m10, m11, m12, m13, m14, m15], params := #[8, 9], assign := asg_disk_Disk_Used_0, body := bod_disk_Disk_Used_0 }) (h : rnd_disk_Disk_Used_0 w0 i m3 p0 p1 st Q) : AYield Tryz.prog w0 i [p0, p1] st Q :=
  ayield_of_gen ann_disk_Disk_Used hi rfl (cast (by kernel_rfl : rnd_disk_Disk_Used_0 w0 i m3 p0 p1 st Q = _) h)
theorem ok_disk_Disk_Used {w0 : World} {a0 : AV} {st : St} {Q : Kont} (h : vc_disk_Disk_Used w0 a0 st Q) : Cal w0 n_disk_Disk_Used [a0] st Q :=
  acall_of_gen ann_disk_Disk_Used Tryz.func91 rfl (by kernel_rfl) (cast (by kernel_rfl : vc_disk_Disk_Used w0 a0 st Q = _) h)

/-! landau/vec.All -/
def ann_vec_All : Nat → List Nat
  | _ => []
def vc_vec_All (w0 : World) (a0 : AV) (st : St) (Q : Kont) : Prop :=
  OptK (AV.cellsOk a0) fun c3 =>
  New st c3 fun v1 st2 =>
  Q (.func n_vec_All_1 [] [v1]) st2
theorem ok_vec_All {w0 : World} {a0 : AV} {st : St} {Q : Kont} (h : vc_vec_All w0 a0 st Q) : Cal w0 n_vec_All [a0] st Q :=
  acall_of_gen ann_vec_All Tryz.func93 rfl (by kernel_rfl) (cast (by kernel_rfl : vc_vec_All w0 a0 st Q = _) h)

/-! (*landau/disk.Disk).Lines$1 -/
def ann_disk_Disk_Lines_1 : Nat → List Nat
  | 2 => [0, 5, 6, 7]
  | _ => []
def vc_disk_Disk_Lines_1 (w0 : World) (a0 : AV) (c0 : AV) (st : St) (Q : Kont) : Prop :=
  Ld st c0 false 1 fun v1 st2 =>
  LenOk .slice st2 v1 fun v3 =>
  ∃ (I6 : Nat → List AV → St → Prop) (n9 : Nat), I6 n9 [a0, v1, v3, (.int .i64 0)] st2 ∧
  ∀ (n7 : Nat) (x4 : List AV) (st5 : St), I6 n7 x4 st5 →
    OptK (bin .int .lss (x4.getD 3 .any) (x4.getD 2 .any)) fun v10 =>
    AsBool v10 fun b11 => Br b11 (
      Iaddr (x4.getD 1 .any) (x4.getD 3 .any) none 1 fun v12 =>
    Ld st5 v12 false 1 fun v13 st14 =>
    CallV Tryz.prog w0 (x4.getD 0 .any) [(x4.getD 3 .any), v13] st14 fun v15 st16 =>
    OptK (un .not v15) fun v17 =>
    AsBool v17 fun b18 => Br b18 (
      Q (.tup []) st16) (
      OptK (bin .int .add (x4.getD 3 .any) (.int .i64 1)) fun v19 =>
    ∃ m8, m8 < n7 ∧ I6 m8 [(x4.getD 0 .any), (x4.getD 1 .any), (x4.getD 2 .any), v19] st16)) (
      Q (.tup []) st5)
theorem ok_disk_Disk_Lines_1 {w0 : World} {a0 : AV} {c0 : AV} {st : St} {Q : Kont} (h : vc_disk_Disk_Lines_1 w0 a0 c0 st Q) : Cal w0 n_disk_Disk_Lines_1 [a0, c0] st Q :=
  acall_of_gen ann_disk_Disk_Lines_1 Tryz.func98 rfl (by kernel_rfl) (cast (by kernel_rfl : vc_disk_Disk_Lines_1 w0 a0 c0 st Q = _) h)

/-! landau/vec.Number -/
def ann_vec_Number : Nat → List Nat
  | _ => []
def vc_vec_Number (w0 : World) (a0 : List UInt8) (a1 : Int) (st : St) (Q : Kont) : Prop :=
  Jn (fun (j16 : AV) (st17 : St) =>
    AsBool j16 fun b18 => Br b18 (
    Q (.tup [(.int .i64 0), (.int .i64 2)]) st17) (
    Cal w0 n_strconv_Atoi [(.str a0)] st17 fun v19 st20 =>
  Ext v19 0 fun v21 =>
  Ext v19 1 fun v22 =>
  Jn (fun (j29 : AV) (st30 : St) =>
    AsBool j29 fun b31 => Br b31 (
    Q (.tup [(.int .i64 0), (.int .i64 4)]) st30) (
    Q (.tup [v21, (.int .i64 0)]) st30)) fun (k32 : AV → St → Prop) => OptK (bin .iface .neq v22 .nilIface) fun v33 =>
  AsBool v33 fun b34 => Br (b34 == false) (
  OptK (bin .int .gtr v21 (.int .i64 a1)) fun v35 =>
  k32 (AV.pick false (.bool true) v35) st20) (
  k32 (.bool true) st20))) fun (k36 : AV → St → Prop) => Br ((decide (a0 = [])) == false) (
  Cal w0 n_strings_Trim [(.str a0), (.str [48, 49, 50, 51, 52, 53, 54, 55, 56, 57])] st fun v37 st38 =>
  OptK (bin .str .neq v37 (.str [])) fun v39 =>
  AsBool (AV.pick false (.bool true) v39) fun b40 => Br (b40 == false) (
  Sidx (.str a0) (.int .i64 0) fun v41 =>
  OptK (bin .int .eql v41 (.int .u8 48)) fun v42 =>
  Gs true v42 (fun b43 => Br (b43 == true) (
  k36 (.bool (!decide (a0 = [48]))) st38) (
  k36 (.bool false) st38)) (
  AsBool (.tup []) fun b44 =>
  k36 (AV.pick false (.bool true) (AV.pick b44 (.tup []) (.bool false))) st38)) (
  k36 (.bool true) st38)) (
  k36 (.bool true) st)
theorem ok_vec_Number {w0 : World} {a0 : List UInt8} {a1 : Int} {st : St} {Q : Kont} (h : vc_vec_Number w0 a0 a1 st Q) : Cal w0 n_vec_Number [(.str a0), (.int .i64 a1)] st Q :=
  acall_of_gen ann_vec_Number Tryz.func101 rfl (by kernel_rfl) (cast (by kernel_rfl : vc_vec_Number w0 a0 a1 st Q = _) h)

/-! landau/vec.Parse -/
def ann_vec_Parse : Nat → List Nat
  | 22 => [7, 8, 9, 34, 35, 36]
  | _ => []
def vc_vec_Parse (w0 : World) (a0 : List UInt8) (st : St) (Q : Kont) : Prop :=
  Cal w0 n_strings_CutPrefix [(.str a0), (.str [91])] st fun v1 st2 =>
  Ext v1 0 fun v3 =>
  Ext v1 1 fun v4 =>
  Cal w0 n_strings_CutSuffix [v3, (.str [93])] st2 fun v5 st6 =>
  Ext v5 0 fun v7 =>
  Ext v5 1 fun v8 =>
  Jn (fun (j14 : AV) (st15 : St) =>
    AsBool j14 fun b16 => Br b16 (
    Q (.tup [.nils, (.int .i64 2)]) st15) (
    OptK (bin .str .eql v7 (.str [])) fun v17 =>
  AsBool v17 fun b18 => Br b18 (
    Q (.tup [.nils, (.int .i64 0)]) st15) (
    Cal w0 n_strings_Split [v7, (.str [32])] st15 fun v19 st20 =>
  LenOk .slice st20 v19 fun v21 =>
  ∃ (I24 : Nat → List AV → St → Prop) (n27 : Nat), I24 n27 [.nils, (.int .i64 0), v19, v19, v21, (.int .i64 0)] st20 ∧
  ∀ (n25 : Nat) (x22 : List AV) (st23 : St), I24 n25 x22 st23 →
    OptK (bin .int .lss (x22.getD 5 .any) (x22.getD 4 .any)) fun v28 =>
    AsBool v28 fun b29 => Br b29 (
      Iaddr (x22.getD 3 .any) (x22.getD 5 .any) none 1 fun v30 =>
    Ld st23 v30 false 1 fun v31 st32 =>
    Cal w0 n_vec_Number [v31, (.int .i64 1048576)] st32 fun v33 st34 =>
    Ext v33 0 fun v35 =>
    Ext v33 1 fun v36 =>
    OptK (bin .int .eql v36 (.int .i64 2)) fun v37 =>
    AsBool v37 fun b38 => Br b38 (
      Q (.tup [.nils, v36]) st34) (
      OptK (maxAV [(x22.getD 1 .any), v36]) fun v39 =>
    OptK (fillAV (fun i => some (i * 1, 1)) [(.int .i64 0)] [(0, v35)]) fun c41 =>
    Psh st34 (.cells false c41) fun st40 =>
    Append st40 (x22.getD 0 .any) (.slice st34.hp.length 0 1 1 true 1) 1 8 fun v42 st43 =>
    OptK (bin .int .add (x22.getD 5 .any) (.int .i64 1)) fun v44 =>
    ∃ m26, m26 < n25 ∧ I24 m26 [v42, v39, (x22.getD 2 .any), (x22.getD 3 .any), (x22.getD 4 .any), v44] st43)) (
      LenOk .slice st23 (x22.getD 2 .any) fun v62 =>
  OptK (bin .int .sub v62 (.int .i64 1)) fun v63 =>
  Iaddr (x22.getD 2 .any) v63 none 1 fun v64 =>
  Ld st23 v64 false 1 fun v65 st66 =>
  OptK (bin .str .eql v65 (.str [48])) fun v67 =>
  AsBool v67 fun b68 => Br b68 (
    Q (.tup [.nils, (.int .i64 2)]) st66) (
    Jn (fun (j78 : AV) (st86 : St) =>
      AsBool j78 fun b87 => Br b87 (
      Q (.tup [.nils, (.int .i64 4)]) st86) (
      Q (.tup [(x22.getD 0 .any), (.int .i64 0)]) st86)) fun (k88 : AV → St → Prop) => OptK (bin .int .neq (x22.getD 1 .any) (.int .i64 0)) fun v89 =>
    AsBool v89 fun b90 => Br (b90 == false) (
    LenOk .slice st66 (x22.getD 0 .any) fun v91 =>
    OptK (bin .int .gtr v91 (.int .i64 8)) fun v92 =>
    k88 (AV.pick false (.bool true) v92) st66) (
    k88 (.bool true) st66)))))) fun (k93 : AV → St → Prop) => OptK (un .not v4) fun v94 =>
  AsBool v94 fun b95 => Br (b95 == false) (
  OptK (un .not v8) fun v96 =>
  k93 (AV.pick false (.bool true) v96) st6) (
  k93 (.bool true) st6)
theorem ok_vec_Parse {w0 : World} {a0 : List UInt8} {st : St} {Q : Kont} (h : vc_vec_Parse w0 a0 st Q) : Cal w0 n_vec_Parse [(.str a0)] st Q :=
  acall_of_gen ann_vec_Parse Tryz.func102 rfl (by kernel_rfl) (cast (by kernel_rfl : vc_vec_Parse w0 a0 st Q = _) h)

/-! landau/rec.Check -/
def ann_rec_Check : Nat → List Nat
  | 13 => [0, 1, 2, 3, 5, 6, 4, 7, 8]
  | 22 => [2, 70, 71, 72]
  | _ => []
def vc_rec_Check (w0 : World) (a0_Site : Int) (a0_Seq : Int) (a0_Dep : AV) (a0_Key : List UInt8) (a0_Val : List UInt8) (a1 : Int) (st : St) (Q : Kont) : Prop :=
  New st [(.int .i64 a0_Site), (.int .i64 a0_Seq), a0_Dep, (.str a0_Key), (.str a0_Val)] fun v1 st2 =>
  Jn (fun (j29 : AV) (st30 : St) =>
    AsBool j29 fun b31 => Br b31 (
    Q (.int .i64 1) st30) (
    Faddr v1 2 fun v32 =>
  Ld st30 v32 false 1 fun v33 st34 =>
  Cal w0 n_vec_Check [v33, (.int .i64 a1)] st34 fun v35 st36 =>
  OptK (bin .int .neq v35 (.int .i64 0)) fun v37 =>
  AsBool v37 fun b38 => Br b38 (
    Q v35 st36) (
    Jn (fun  (st65 : St) =>
    Faddr v1 4 fun v66 =>
  Ld st65 v66 false 1 fun v67 st68 =>
  ToBytes st68 v67 fun v69 st70 =>
  LenOk .slice st70 v69 fun v71 =>
  ∃ (I74 : Nat → List AV → St → Prop) (n77 : Nat), I74 n77 [v1, v69, v71, (.int .i64 0)] st70 ∧
  ∀ (n75 : Nat) (x72 : List AV) (st73 : St), I74 n75 x72 st73 →
    OptK (bin .int .lss (x72.getD 3 .any) (x72.getD 2 .any)) fun v78 =>
    AsBool v78 fun b79 => Br b79 (
      Jn (fun  (st89 : St) =>
      OptK (bin .int .add (x72.getD 3 .any) (.int .i64 1)) fun v90 =>
    ∃ m76, m76 < n75 ∧ I74 m76 [(x72.getD 0 .any), (x72.getD 1 .any), (x72.getD 2 .any), v90] st89) fun (k91 : St → Prop) => Iaddr (x72.getD 1 .any) (x72.getD 3 .any) none 1 fun v92 =>
    Ld st73 v92 false 1 fun v93 st94 =>
    OptK (bin .int .lss v93 (.int .u8 33)) fun v103 =>
    AsBool v103 fun b104 => Br (b104 == false) (
    OptK (bin .int .gtr v93 (.int .u8 126)) fun v105 =>
    AsBool (AV.pick false (.bool true) v105) fun b106 => Br b106 (
      Q (.int .i64 2) st94) (
      k91  st94)) (
    Q (.int .i64 2) st94)) (
      Faddr (x72.getD 0 .any) 4 fun v107 =>
  Ld st73 v107 false 1 fun v108 st109 =>
  LenOk .str st109 v108 fun v110 =>
  OptK (bin .int .gtr v110 (.int .i64 16)) fun v111 =>
  AsBool v111 fun b112 => Br b112 (
    Q (.int .i64 4) st109) (
    Q (.int .i64 0) st109))) fun (k113 : St → Prop) => Faddr v1 2 fun v114 =>
  Ld st36 v114 false 1 fun v115 st116 =>
  Faddr v1 0 fun v117 =>
  Ld st36 v117 false 1 fun v118 st119 =>
  Faddr v1 1 fun v120 =>
  Ld st36 v120 false 1 fun v121 st122 =>
  Cal w0 n_vec_Get [v115, v118] st36 fun v123 st124 =>
  (Ld st124 v120 false 1 fun v125 st126 =>
  (v125 : AV) = v121) ∧
  OptK (bin .int .geq v123 v121) fun v127 =>
  AsBool v127 fun b128 => Br b128 (
    Q (.int .i64 13) st124) (
    Faddr v1 3 fun v166 =>
    Ld st124 v166 false 1 fun v167 st168 =>
    LenOk .str st168 v167 fun v169 =>
    OptK (bin .int .lss v169 (.int .i64 1)) fun v170 =>
    AsBool v170 fun b171 => Br (b171 == false) (
    Faddr v1 3 fun v172 =>
    Ld st168 v172 false 1 fun v173 st174 =>
    LenOk .str st174 v173 fun v175 =>
    OptK (bin .int .gtr v175 (.int .i64 8)) fun v176 =>
    AsBool (AV.pick false (.bool true) v176) fun b177 => Br (b177 == false) (
    Faddr v1 3 fun v178 =>
    Ld st174 v178 false 1 fun v179 st180 =>
    Cal w0 n_strings_TrimFunc [v179, (.func n_rec_nameByte [] [])] st180 fun v181 st182 =>
    OptK (bin .str .neq v181 (.str [])) fun v183 =>
    AsBool (AV.pick false (.bool true) v183) fun b184 => Br b184 (
      Q (.int .i64 3) st182) (
      k113  st182)) (
    Q (.int .i64 3) st174)) (
    Q (.int .i64 3) st168))))) fun (k185 : AV → St → Prop) => Br ((decide (a1 < 1)) == false) (
  Br ((decide (8 < a1)) == false) (
  Faddr v1 0 fun v186 =>
  Ld st2 v186 false 1 fun v187 st188 =>
  OptK (bin .int .lss v187 (.int .i64 0)) fun v189 =>
  AsBool (AV.pick false (.bool true) v189) fun b190 => Br (b190 == false) (
  Faddr v1 0 fun v191 =>
  Ld st188 v191 false 1 fun v192 st193 =>
  OptK (bin .int .geq v192 (.int .i64 a1)) fun v194 =>
  AsBool (AV.pick false (.bool true) v194) fun b195 => Br (b195 == false) (
  Faddr v1 1 fun v196 =>
  Ld st193 v196 false 1 fun v197 st198 =>
  OptK (bin .int .lss v197 (.int .i64 1)) fun v199 =>
  AsBool (AV.pick false (.bool true) v199) fun b200 => Br (b200 == false) (
  Faddr v1 1 fun v201 =>
  Ld st198 v201 false 1 fun v202 st203 =>
  OptK (bin .int .gtr v202 (.int .i64 1048576)) fun v204 =>
  k185 (AV.pick false (.bool true) v204) st203) (
  k185 (.bool true) st198)) (
  k185 (.bool true) st193)) (
  k185 (.bool true) st188)) (
  k185 (.bool true) st2)) (
  k185 (.bool true) st2)
theorem ok_rec_Check {w0 : World} {a0_Site : Int} {a0_Seq : Int} {a0_Dep : AV} {a0_Key : List UInt8} {a0_Val : List UInt8} {a1 : Int} {st : St} {Q : Kont} (h : vc_rec_Check w0 a0_Site a0_Seq a0_Dep a0_Key a0_Val a1 st Q) : Cal w0 n_rec_Check [(.agg [(.int .i64 a0_Site), (.int .i64 a0_Seq), a0_Dep, (.str a0_Key), (.str a0_Val)]), (.int .i64 a1)] st Q :=
  acall_of_gen ann_rec_Check Tryz.func107 rfl (by kernel_rfl) (cast (by kernel_rfl : vc_rec_Check w0 a0_Site a0_Seq a0_Dep a0_Key a0_Val a1 st Q = _) h)

/-! (*landau/disk.Disk).Len -/
def ann_disk_Disk_Len : Nat → List Nat
  | _ => []
def vc_disk_Disk_Len (w0 : World) (a0 : AV) (st : St) (Q : Kont) : Prop :=
  NilC a0 fun v1 =>
  Faddr v1 1 fun v2 =>
  Ld st v2 false 1 fun v3 st4 =>
  LenOk .slice st4 v3 fun v5 =>
  Q v5 st4
theorem ok_disk_Disk_Len {w0 : World} {a0 : AV} {st : St} {Q : Kont} (h : vc_disk_Disk_Len w0 a0 st Q) : Cal w0 n_disk_Disk_Len [a0] st Q :=
  acall_of_gen ann_disk_Disk_Len Tryz.func108 rfl (by kernel_rfl) (cast (by kernel_rfl : vc_disk_Disk_Len w0 a0 st Q = _) h)

/-! landau/rec.Text -/
def ann_rec_Text : Nat → List Nat
  | 3 => [0, 1, 4, 5, 9, 10, 14, 15, 18, 19, 2, 3, 6, 7, 8, 11, 12, 13, 16, 17, 20, 21]
  | _ => []
def vc_rec_Text (w0 : World) (a0_Site : Int) (a0_Seq : Int) (a0_Dep : AV) (a0_Key : List UInt8) (a0_Val : List UInt8) (st : St) (Q : Kont) : Prop :=
  New st [(.int .i64 a0_Site), (.int .i64 a0_Seq), a0_Dep, (.str a0_Key), (.str a0_Val)] fun v1 st2 =>
  Faddr v1 0 fun v3 =>
  Ld st2 v3 false 1 fun v4 st5 =>
  Faddr v1 1 fun v6 =>
  Ld st2 v6 false 1 fun v7 st8 =>
  Faddr v1 2 fun v9 =>
  Ld st2 v9 false 1 fun v10 st11 =>
  Faddr v1 3 fun v12 =>
  Ld st2 v12 false 1 fun v13 st14 =>
  Faddr v1 4 fun v15 =>
  Ld st2 v15 false 1 fun v16 st17 =>
  Cal w0 n_strconv_Itoa [v4] st2 fun v18 st19 =>
  (Ld st19 v15 false 1 fun v20 st21 =>
  (v20 : AV) = v16) ∧
  (Ld st19 v12 false 1 fun v22 st23 =>
  (v22 : AV) = v13) ∧
  (Ld st19 v9 false 1 fun v24 st25 =>
  (v24 : AV) = v10) ∧
  (Ld st19 v6 false 1 fun v26 st27 =>
  (v26 : AV) = v7) ∧
  OptK (bin .str .add v18 (.str [58])) fun v28 =>
  Cal w0 n_strconv_Itoa [v7] st19 fun v29 st30 =>
  (Ld st30 v15 false 1 fun v31 st32 =>
  (v31 : AV) = v16) ∧
  (Ld st30 v12 false 1 fun v33 st34 =>
  (v33 : AV) = v13) ∧
  (Ld st30 v9 false 1 fun v35 st36 =>
  (v35 : AV) = v10) ∧
  OptK (bin .str .add v28 v29) fun v37 =>
  OptK (bin .str .add v37 (.str [32])) fun v38 =>
  Cal w0 n_vec_Text [v10] st30 fun v39 st40 =>
  (Ld st40 v15 false 1 fun v41 st42 =>
  (v41 : AV) = v16) ∧
  (Ld st40 v12 false 1 fun v43 st44 =>
  (v43 : AV) = v13) ∧
  OptK (bin .str .add v38 v39) fun v45 =>
  OptK (bin .str .add v45 (.str [32])) fun v46 =>
  OptK (bin .str .add v46 v13) fun v47 =>
  OptK (bin .str .add v47 (.str [61])) fun v48 =>
  OptK (bin .str .add v48 v16) fun v49 =>
  Q v49 st40
theorem ok_rec_Text {w0 : World} {a0_Site : Int} {a0_Seq : Int} {a0_Dep : AV} {a0_Key : List UInt8} {a0_Val : List UInt8} {st : St} {Q : Kont} (h : vc_rec_Text w0 a0_Site a0_Seq a0_Dep a0_Key a0_Val st Q) : Cal w0 n_rec_Text [(.agg [(.int .i64 a0_Site), (.int .i64 a0_Seq), a0_Dep, (.str a0_Key), (.str a0_Val)])] st Q :=
  acall_of_gen ann_rec_Text Tryz.func109 rfl (by kernel_rfl) (cast (by kernel_rfl : vc_rec_Text w0 a0_Site a0_Seq a0_Dep a0_Key a0_Val st Q = _) h)

/-! slices.Clone[landau/stripe.Map,landau/stripe.Span] -/
def ann_slices_Clone_stripe_Map_stripe_Span : Nat → List Nat
  | _ => []
def vc_slices_Clone_stripe_Map_stripe_Span (w0 : World) (a0 : AV) (st : St) (Q : Kont) : Prop :=
  OptK (bin .slice .eql a0 .nils) fun v1 =>
  AsBool v1 fun b2 => Br b2 (
    Q .nils st) (
    Psh st (.cells false []) fun st3 =>
  Append st3 (.slice st.hp.length 0 0 0 true 2) a0 2 16 fun v4 st5 =>
  Q v4 st5)
theorem ok_slices_Clone_stripe_Map_stripe_Span {w0 : World} {a0 : AV} {st : St} {Q : Kont} (h : vc_slices_Clone_stripe_Map_stripe_Span w0 a0 st Q) : Cal w0 n_slices_Clone_stripe_Map_stripe_Span [a0] st Q :=
  acall_of_gen ann_slices_Clone_stripe_Map_stripe_Span Tryz.func110 rfl (by kernel_rfl) (cast (by kernel_rfl : vc_slices_Clone_stripe_Map_stripe_Span w0 a0 st Q = _) h)

/-! landau/vec.All$1 -/
def ann_vec_All_1 : Nat → List Nat
  | 2 => [0, 5, 6, 7]
  | _ => []
def vc_vec_All_1 (w0 : World) (a0 : AV) (c0 : AV) (st : St) (Q : Kont) : Prop :=
  Ld st c0 false 1 fun v1 st2 =>
  LenOk .slice st2 v1 fun v3 =>
  ∃ (I6 : Nat → List AV → St → Prop) (n9 : Nat), I6 n9 [a0, v1, v3, (.int .i64 0)] st2 ∧
  ∀ (n7 : Nat) (x4 : List AV) (st5 : St), I6 n7 x4 st5 →
    OptK (bin .int .lss (x4.getD 3 .any) (x4.getD 2 .any)) fun v10 =>
    AsBool v10 fun b11 => Br b11 (
      Jn (fun  (st26 : St) =>
      OptK (bin .int .add (x4.getD 3 .any) (.int .i64 1)) fun v27 =>
    ∃ m8, m8 < n7 ∧ I6 m8 [(x4.getD 0 .any), (x4.getD 1 .any), (x4.getD 2 .any), v27] st26) fun (k28 : St → Prop) => Iaddr (x4.getD 1 .any) (x4.getD 3 .any) none 1 fun v29 =>
    Ld st5 v29 false 1 fun v30 st31 =>
    OptK (bin .int .neq v30 (.int .i64 0)) fun v43 =>
    AsBool v43 fun b44 => Br (b44 == true) (
    CallV Tryz.prog w0 (x4.getD 0 .any) [(x4.getD 3 .any), v30] st31 fun v45 st46 =>
    OptK (un .not v45) fun v47 =>
    AsBool (AV.pick true v47 (.bool false)) fun b48 => Br b48 (
      Q (.tup []) st46) (
      k28  st46)) (
    k28  st31)) (
      Q (.tup []) st5)
theorem ok_vec_All_1 {w0 : World} {a0 : AV} {c0 : AV} {st : St} {Q : Kont} (h : vc_vec_All_1 w0 a0 c0 st Q) : Cal w0 n_vec_All_1 [a0, c0] st Q :=
  acall_of_gen ann_vec_All_1 Tryz.func121 rfl (by kernel_rfl) (cast (by kernel_rfl : vc_vec_All_1 w0 a0 c0 st Q = _) h)

/-! landau/rec.Parse -/
def ann_rec_Parse : Nat → List Nat
  | _ => []
def vc_rec_Parse (w0 : World) (a0 : List UInt8) (st : St) (Q : Kont) : Prop :=
  New st [(.int .i64 0), (.int .i64 0), .nils, (.str []), (.str [])] fun v1 st2 =>
  Cal w0 n_strings_Cut [(.str a0), (.str [58])] st2 fun v3 st4 =>
  Ext v3 0 fun v5 =>
  Ext v3 1 fun v6 =>
  Ext v3 2 fun v7 =>
  Cal w0 n_strings_Cut [v6, (.str [32])] st4 fun v8 st9 =>
  Ext v8 0 fun v10 =>
  Ext v8 1 fun v11 =>
  Ext v8 2 fun v12 =>
  Cal w0 n_strings_Cut [v11, (.str [93, 32])] st9 fun v13 st14 =>
  Ext v13 0 fun v15 =>
  Ext v13 1 fun v16 =>
  Ext v13 2 fun v17 =>
  Cal w0 n_strings_Cut [v16, (.str [61])] st14 fun v18 st19 =>
  Ext v18 0 fun v20 =>
  Ext v18 1 fun v21 =>
  Ext v18 2 fun v22 =>
  Cal w0 n_vec_Number [v5, (.int .i64 2147483647)] st19 fun v23 st24 =>
  Ext v23 0 fun v25 =>
  Ext v23 1 fun v26 =>
  Cal w0 n_vec_Number [v10, (.int .i64 2147483647)] st24 fun v27 st28 =>
  Ext v27 0 fun v29 =>
  Ext v27 1 fun v30 =>
  Jn (fun (j52 : AV) (st53 : St) =>
    AsBool j52 fun b54 => Br b54 (
    Sto st53 v1 (.agg [(.int .i64 0), (.int .i64 0), .nils, (.str []), (.str [])]) 5 fun v56 st55 =>
    Ld st55 v1 true 5 fun v57 _ =>
  Q (.tup [v57, (.int .i64 2)]) st55) (
    OptK (bin .str .add v15 (.str [93])) fun v58 =>
  Cal w0 n_vec_Parse [v58] st53 fun v59 st60 =>
  Ext v59 0 fun v61 =>
  Ext v59 1 fun v62 =>
  OptK (bin .int .neq v62 (.int .i64 0)) fun v63 =>
  AsBool v63 fun b64 => Br b64 (
    Sto st60 v1 (.agg [(.int .i64 0), (.int .i64 0), .nils, (.str []), (.str [])]) 5 fun v66 st65 =>
    Ld st65 v1 true 5 fun v67 _ =>
  Q (.tup [v67, v62]) st65) (
    OptK (fillAV (fun i => [(0, 1), (1, 1), (2, 1), (3, 1), (4, 1)][i]?) [(.int .i64 0), (.int .i64 0), .nils, (.str []), (.str [])] [(0, v25), (1, v29), (2, v61), (3, v20), (4, v21)]) fun c68 =>
  New st60 [(.int .i64 0), (.int .i64 0), .nils, (.str []), (.str [])] fun v69 st70 =>
  Sto st70 v69 (.agg c68) 5 fun v72 st71 =>
  Ld st71 v69 true 5 fun v73 st74 =>
  Cal w0 n_rec_Check [v73, (.int .i64 8)] st74 fun v75 st76 =>
  OptK (bin .int .neq v75 (.int .i64 0)) fun v77 =>
  AsBool v77 fun b78 => Br b78 (
    Sto st76 v1 (.agg [(.int .i64 0), (.int .i64 0), .nils, (.str []), (.str [])]) 5 fun v80 st79 =>
    Ld st79 v1 true 5 fun v81 _ =>
  Q (.tup [v81, v75]) st79) (
    Ld st76 v69 true 5 fun v82 st83 =>
  Sto st83 v1 v82 5 fun v85 st84 =>
  Ld st84 v1 true 5 fun v86 _ =>
  Q (.tup [v86, (.int .i64 0)]) st84)))) fun (k87 : AV → St → Prop) => OptK (un .not v7) fun v88 =>
  AsBool v88 fun b89 => Br (b89 == false) (
  OptK (un .not v12) fun v90 =>
  AsBool (AV.pick false (.bool true) v90) fun b91 => Br (b91 == false) (
  OptK (un .not v17) fun v92 =>
  AsBool (AV.pick false (.bool true) v92) fun b93 => Br (b93 == false) (
  OptK (un .not v22) fun v94 =>
  AsBool (AV.pick false (.bool true) v94) fun b95 => Br (b95 == false) (
  OptK (bin .int .neq v26 (.int .i64 0)) fun v96 =>
  AsBool (AV.pick false (.bool true) v96) fun b97 => Br (b97 == false) (
  OptK (bin .int .neq v30 (.int .i64 0)) fun v98 =>
  k87 (AV.pick false (.bool true) v98) st28) (
  k87 (.bool true) st28)) (
  k87 (.bool true) st28)) (
  k87 (.bool true) st28)) (
  k87 (.bool true) st28)) (
  k87 (.bool true) st28)
theorem ok_rec_Parse {w0 : World} {a0 : List UInt8} {st : St} {Q : Kont} (h : vc_rec_Parse w0 a0 st Q) : Cal w0 n_rec_Parse [(.str a0)] st Q :=
  acall_of_gen ann_rec_Parse Tryz.func127 rfl (by kernel_rfl) (cast (by kernel_rfl : vc_rec_Parse w0 a0 st Q = _) h)

/-! landau/vec.Check -/
noncomputable def asg_vec_Check_0 : Code := (codeAt (Tryz.f139.body.getD .skip) [2, 2, 1, 2, 2]).1
noncomputable def bod_vec_Check_0 : Code := (codeAt (Tryz.f139.body.getD .skip) [2, 2, 1, 2, 2]).2
def ann_vec_Check : Nat → List Nat
  | _ => []
def vc_vec_Check (w0 : World) (a0 : AV) (a1 : Int) (st : St) (Q : Kont) : Prop :=
  New st [(.int .i64 0)] fun v1 st2 =>
  Jn (fun (j3 : AV) (j4 : AV) (j5 : AV) (j6 : AV) (j7 : AV) (j8 : AV) (j9 : AV) (st10 : St) =>
    AsBool j3 fun b11 => Br b11 (
    Sto st10 v1 (.int .i64 1) 1 fun v13 st12 =>
    Ld st12 v1 false 1 fun v14 _ =>
  Q v14 st12) (
    LenOk .slice st10 a0 fun v15 =>
    OptK (bin .int .gtr v15 (.int .i64 a1)) fun v16 =>
    AsBool v16 fun b17 => Br b17 (
      Sto st10 v1 (.int .i64 4) 1 fun v19 st18 =>
      Ld st18 v1 false 1 fun v20 _ =>
  Q v20 st18) (
      Cal w0 n_vec_All [a0] st10 fun v21 st22 =>
  CalR w0 v21 st22.lp.length (pushLoop st22 { st := .ready, pend := none, tmps := [a0, (.int .i64 a1), .any, .any, v1, .any, .any, j3, j4, j5, j6, j7, j8, j9, v16, a0, v15, (.int .i64 a1), v16, a0, v21, .any, .any, .any, .any, .any, .any, .any, .any], params := #[21, 22], assign := asg_vec_Check_0, body := bod_vec_Check_0 }) fun _ st27 =>
  AftR st27 st22.lp.length (fun st28 =>
    Sto st28 v1 (.int .i64 0) 1 fun v31 st30 =>
  Ld st30 v1 false 1 fun v32 _ =>
  Q v32 st30) (fun st28 =>
    Ld st28 v1 false 1 fun v33 _ =>
  Q v33 st28) (fun e29 st28 =>
    Br (e29 == 1) (
  Sto st28 v1 (.int .i64 0) 1 fun v35 st34 =>
  Ld st34 v1 false 1 fun v36 _ =>
  Q v36 st34) (
  False)) (fun e29 st28 => False)))) fun (k37 : AV → AV → AV → AV → AV → AV → AV → St → Prop) => Br ((decide (a1 < 1)) == false) (
  k37 (.bool (decide (8 < a1))) (.int .i64 a1) (.bool (decide (a1 < 1))) (.bool false) (.int .i64 a1) (.bool (decide (8 < a1))) (.bool (decide (8 < a1))) st2) (
  k37 (.bool true) (.int .i64 a1) (.bool (decide (a1 < 1))) (.bool true) (.tup []) (.tup []) (.bool true) st2)
def rnd_vec_Check_0 (w0 : World) (i : Nat) (m4 : AV) (p0 : AV) (p1 : AV) (st : St) (Q : Kont) : Prop :=
  RBeg st i fun st1 =>
  OptK (bin .int .lss p1 (.int .i64 0)) fun v2 =>
  AsBool v2 fun b3 => Br b3 (
    Sto st1 m4 (.int .i64 1) 1 fun v5 st4 =>
    RRet i Q st4) (
    OptK (bin .int .gtr p1 (.int .i64 1048576)) fun v6 =>
    AsBool v6 fun b7 => Br b7 (
      Sto st1 m4 (.int .i64 4) 1 fun v9 st8 =>
      RRet i Q st8) (
      RNorm i Q st1))
theorem okr_vec_Check_0 {w0 : World} {i : Nat} {m0 : AV} {m1 : AV} {m2 : AV} {m3 : AV} {m4 : AV} {m5 : AV} {m6 : AV} {m7 : AV} {m8 : AV} {m9 : AV} {m10 : AV} {m11 : AV} {m12 : AV} {m13 : AV} {m14 : AV} {m15 : AV} {m16 : AV} {m17 : AV} {m18 : AV} {m19 : AV} {m20 : AV} {m21 : AV} {m22 : AV} {m23 : AV} {m24 : AV} {m25 : AV} {m26 : AV} {m27 : AV} {m28 : AV} {p0 : AV} {p1 : AV} {st : St} {Q : Kont} {ls : LoopState} {pd : Option Code} (hi : st.lp[i]? = some { st := ls, pend := pd, tmps := [m0, m1, m2, m3, m4, m5, m6, m7, m8, m9, m10, m11, m12, m13, m14, m15, m16, m17, m18, m19, m20, m21, m22, m23, m24, m25, m26, m27, m28], params := #[21, 22], assign := asg_vec_Check_0, body := bod_vec_Check_0 }) (h : rnd_vec_Check_0 w0 i m4 p0 p1 st Q) : AYield Tryz.prog w0 i [p0, p1] st Q :=
  ayield_of_gen ann_vec_Check hi rfl (cast (by kernel_rfl : rnd_vec_Check_0 w0 i m4 p0 p1 st Q = _) h)
theorem ok_vec_Check {w0 : World} {a0 : AV} {a1 : Int} {st : St} {Q : Kont} (h : vc_vec_Check w0 a0 a1 st Q) : Cal w0 n_vec_Check [a0, (.int .i64 a1)] st Q :=
  acall_of_gen ann_vec_Check Tryz.func139 rfl (by kernel_rfl) (cast (by kernel_rfl : vc_vec_Check w0 a0 a1 st Q = _) h)

/-! landau/rec.nameByte -/
def ann_rec_nameByte : Nat → List Nat
  | _ => []
def vc_rec_nameByte (w0 : World) (a0 : Int) (st : St) (Q : Kont) : Prop :=
  Br ((decide (97 ≤ a0)) == true) (
  Br ((decide (a0 ≤ 122)) == false) (
  Br ((decide (48 ≤ a0)) == true) (
  Q (.bool (decide (a0 ≤ 57))) st) (
  Q (.bool false) st)) (
  Q (.bool true) st)) (
  Br ((decide (48 ≤ a0)) == true) (
  Q (.bool (decide (a0 ≤ 57))) st) (
  Q (.bool false) st))
theorem ok_rec_nameByte {w0 : World} {a0 : Int} {st : St} {Q : Kont} (h : vc_rec_nameByte w0 a0 st Q) : Cal w0 n_rec_nameByte [(.int .i32 a0)] st Q :=
  acall_of_gen ann_rec_nameByte Tryz.func141 rfl (by kernel_rfl) (cast (by kernel_rfl : vc_rec_nameByte w0 a0 st Q = _) h)

end Go.Ab
