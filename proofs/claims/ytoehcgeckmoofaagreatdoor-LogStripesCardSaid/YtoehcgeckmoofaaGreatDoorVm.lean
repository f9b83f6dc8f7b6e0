/- What must hold for Go functions to run to their end: printed by vc.py. -/
import Derived.Test.YtoehcgeckmoofaaGreatDoorNames
set_option linter.unusedVariables false
set_option maxRecDepth 100000
namespace Go.Ab
open Go Go.RowKit Go.Proofs

/-! (*landau/maint.Log).Trim -/
def ann_maint_Log_Trim : Nat → List Nat
  | 7 => [0, 1, 2, 3, 4, 5, 6, 7, 8, 9, 10, 11, 12, 13, 14, 15, 16, 17, 18, 19, 20, 21, 22, 23, 24, 25, 26, 27, 28]
  | 11 => [0, 1, 2, 3, 4, 8, 5, 6, 7, 9, 10, 11, 12]
  | 22 => [1, 76, 77, 78]
  | _ => []
def vc_maint_Log_Trim (w0 : World) (a0 : AV) (a1 : Int) (a2 : AV) (st : St) (Q : Kont) : Prop :=
  Jn (fun  (st35 : St) =>
    NilC a0 fun v36 =>
  Faddr v36 0 fun v37 =>
  Ld st35 v37 false 1 fun v38 st39 =>
  Cal w0 n_strconv_Itoa [(.int .i64 a1)] st35 fun v40 st41 =>
  (Ld st41 v37 false 1 fun v42 st43 =>
  (v42 : AV) = v38) ∧
  OptK (bin .str .add (.str [116, 32]) v40) fun v44 =>
  OptK (bin .str .add v44 (.str [32])) fun v45 =>
  Cal w0 n_vec_Text [a2] st41 fun v46 st47 =>
  (Ld st47 v37 false 1 fun v48 st49 =>
  (v48 : AV) = v38) ∧
  OptK (bin .str .add v45 v46) fun v50 =>
  Cal w0 n_disk_Disk_Write [v38, v50] st47 fun v51 st52 =>
  OptK (bin .int .neq v51 (.int .i64 0)) fun v53 =>
  AsBool v53 fun b54 => Br b54 (
    Q v51 st52) (
    NilC a0 fun v55 =>
  Faddr v55 0 fun v56 =>
  Ld st52 v56 false 1 fun v57 st58 =>
  Cal w0 n_disk_Disk_Sync [v57] st58 fun v59 st60 =>
  Cal w0 n_slices_Clone_vec_Vec_int [a2] st60 fun v61 st62 =>
  NilC a0 fun v63 =>
  Faddr v63 3 fun v64 =>
  Sto st62 v64 (.int .i64 a1) 1 fun v66 st65 =>
  NilC a0 fun v67 =>
  Faddr v67 4 fun v68 =>
  Sto st65 v68 v61 1 fun v70 st69 =>
  NilC a0 fun v71 =>
  Faddr v71 1 fun v72 =>
  Ld st69 v72 false 1 fun v73 st74 =>
  LenOk .slice st74 v73 fun v75 =>
  ∃ (I78 : Nat → List AV → St → Prop) (n81 : Nat), I78 n81 [(.int .i64 a1), v73, v75, (.int .i64 0)] st74 ∧
  ∀ (n79 : Nat) (x76 : List AV) (st77 : St), I78 n79 x76 st77 →
    OptK (bin .int .lss (x76.getD 3 .any) (x76.getD 2 .any)) fun v82 =>
    AsBool v82 fun b83 => Br b83 (
      Iaddr (x76.getD 1 .any) (x76.getD 3 .any) none 1 fun v84 =>
    Ld st77 v84 false 1 fun v85 st86 =>
    Cal w0 n_seg_Seg_Trim [v85, (x76.getD 0 .any)] st86 fun v87 st88 =>
    OptK (bin .int .add (x76.getD 3 .any) (.int .i64 1)) fun v89 =>
    ∃ m80, m80 < n79 ∧ I78 m80 [(x76.getD 0 .any), (x76.getD 1 .any), (x76.getD 2 .any), v89] st88) (
      Q (.int .i64 0) st77))) fun (k90 : St → Prop) => NilC a0 fun v91 =>
  Faddr v91 6 fun v92 =>
  Ld st v92 false 1 fun v93 st94 =>
  AsBool v93 fun b95 => Br b95 (
    Q (.int .i64 11) st94) (
    NilC a0 fun v157 =>
    Faddr v157 3 fun v158 =>
    Ld st94 v158 false 1 fun v159 st160 =>
    OptK (bin .int .lss (.int .i64 a1) v159) fun v161 =>
    AsBool v161 fun b162 => Br (b162 == false) (
    Cal w0 n_maint_Log_Head [a0] st94 fun v163 st164 =>
    OptK (bin .int .gtr (.int .i64 a1) v163) fun v165 =>
    AsBool (AV.pick false (.bool true) v165) fun b166 => Br (b166 == false) (
    NilC a0 fun v167 =>
    Faddr v167 4 fun v168 =>
    Ld st164 v168 false 1 fun v169 st170 =>
    NilC a0 fun v171 =>
    Faddr v171 3 fun v172 =>
    Ld st164 v172 false 1 fun v173 st174 =>
    Cal w0 n_maint_Log_with [a0, v169, v173, (.int .i64 a1)] st164 fun v175 st176 =>
    Cal w0 n_vec_Same [a2, v175] st176 fun v177 st178 =>
    OptK (un .not v177) fun v179 =>
    AsBool (AV.pick false (.bool true) v179) fun b180 => Br b180 (
      Q (.int .i64 1) st178) (
      k90  st178)) (
    Q (.int .i64 1) st164)) (
    Q (.int .i64 1) st94))
theorem ok_maint_Log_Trim {w0 : World} {a0 : AV} {a1 : Int} {a2 : AV} {st : St} {Q : Kont} (h : vc_maint_Log_Trim w0 a0 a1 a2 st Q) : Cal w0 n_maint_Log_Trim [a0, (.int .i64 a1), a2] st Q :=
  acall_of_gen ann_maint_Log_Trim Tryz.func13 rfl (by kernel_rfl) (cast (by kernel_rfl : vc_maint_Log_Trim w0 a0 a1 a2 st Q = _) h)

/-! (*landau/maint.Log).Crash -/
def ann_maint_Log_Crash : Nat → List Nat
  | 2 => [0, 1, 10, 11, 12]
  | _ => []
def vc_maint_Log_Crash (w0 : World) (a0 : AV) (a1 : AV) (st : St) (Q : Kont) : Prop :=
  NilC a0 fun v1 =>
  Faddr v1 1 fun v2 =>
  Ld st v2 false 1 fun v3 st4 =>
  LenOk .slice st4 v3 fun v5 =>
  ∃ (I8 : Nat → List AV → St → Prop) (n11 : Nat), I8 n11 [a0, a1, v3, v5, (.int .i64 0)] st4 ∧
  ∀ (n9 : Nat) (x6 : List AV) (st7 : St), I8 n9 x6 st7 →
    OptK (bin .int .lss (x6.getD 4 .any) (x6.getD 3 .any)) fun v12 =>
    AsBool v12 fun b13 => Br b13 (
      Jn (fun  (st32 : St) =>
      OptK (bin .int .add (x6.getD 4 .any) (.int .i64 1)) fun v33 =>
    ∃ m10, m10 < n9 ∧ I8 m10 [(x6.getD 0 .any), (x6.getD 1 .any), (x6.getD 2 .any), (x6.getD 3 .any), v33] st32) fun (k34 : St → Prop) => Iaddr (x6.getD 2 .any) (x6.getD 4 .any) none 1 fun v35 =>
    Ld st7 v35 false 1 fun v36 st37 =>
    LenOk .slice st37 (x6.getD 1 .any) fun v38 =>
    OptK (bin .int .lss (x6.getD 4 .any) v38) fun v39 =>
    Jn (fun (j41 : AV) (st46 : St) =>
      Cal w0 n_seg_Seg_Disk [v36] st46 fun v47 st48 =>
    Cal w0 n_disk_Disk_Crash [v47, j41] st48 fun v49 st50 =>
    k34  st50) fun (k51 : AV → St → Prop) => AsBool v39 fun b40 => Br b40 (
      Iaddr (x6.getD 1 .any) (x6.getD 4 .any) none 1 fun v52 =>
      Ld st37 v52 false 1 fun v53 st54 =>
      k51 v53 st54) (
      k51 (.int .i64 0) st37)) (
      NilC (x6.getD 0 .any) fun v55 =>
  Faddr v55 0 fun v56 =>
  Ld st7 v56 false 1 fun v57 st58 =>
  Cal w0 n_disk_Disk_Crash [v57, (.int .i64 0)] st58 fun v59 st60 =>
  NilC (x6.getD 0 .any) fun v61 =>
  Faddr v61 6 fun v62 =>
  Sto st60 v62 (.bool true) 1 fun v64 st63 =>
  Q (.tup []) st63)
theorem ok_maint_Log_Crash {w0 : World} {a0 : AV} {a1 : AV} {st : St} {Q : Kont} (h : vc_maint_Log_Crash w0 a0 a1 st Q) : Cal w0 n_maint_Log_Crash [a0, a1] st Q :=
  acall_of_gen ann_maint_Log_Crash Tryz.func16 rfl (by kernel_rfl) (cast (by kernel_rfl : vc_maint_Log_Crash w0 a0 a1 st Q = _) h)

/-! (*landau/maint.Log).Recover -/
noncomputable def asg_maint_Log_Recover_0 : Code := (codeAt (Tryz.f17.body.getD .skip) [2, 1, 2, 2, 2, 1, 2, 2]).1
noncomputable def bod_maint_Log_Recover_0 : Code := (codeAt (Tryz.f17.body.getD .skip) [2, 1, 2, 2, 2, 1, 2, 2]).2
def ann_maint_Log_Recover : Nat → List Nat
  | 8 => [1, 22, 23, 24]
  | 13 => [0, 1, 2, 3, 4, 5, 6, 7, 8, 9, 10, 11, 12]
  | 32 => [1, 7, 8, 9]
  | 38 => [1, 7, 8, 76]
  | 48 => [1, 7, 91, 92, 93]
  | 61 => [0, 1, 2, 3, 4, 5, 6, 7, 8]
  | _ => []
def vc_maint_Log_Recover (w0 : World) (a0 : AV) (st : St) (Q : Kont) : Prop :=
  OptK (AV.cellsOk a0) fun c3 =>
  New st c3 fun v1 st2 =>
  Ld st2 v1 false 1 fun v4 st5 =>
  NilC v4 fun v6 =>
  Faddr v6 6 fun v7 =>
  Ld st5 v7 false 1 fun v8 st9 =>
  OptK (un .not v8) fun v10 =>
  AsBool v10 fun b11 => Br b11 (
    Q (.int .i64 12) st9) (
    Ld st9 v1 false 1 fun v12 st13 =>
  NilC v12 fun v14 =>
  Faddr v14 1 fun v15 =>
  Ld st13 v15 false 1 fun v16 st17 =>
  LenOk .slice st17 v16 fun v18 =>
  ∃ (I21 : Nat → List AV → St → Prop) (n24 : Nat), I21 n24 [v1, v16, v18, (.int .i64 0)] st17 ∧
  ∀ (n22 : Nat) (x19 : List AV) (st20 : St), I21 n22 x19 st20 →
    OptK (bin .int .lss (x19.getD 3 .any) (x19.getD 2 .any)) fun v25 =>
    AsBool v25 fun b26 => Br b26 (
      Iaddr (x19.getD 1 .any) (x19.getD 3 .any) none 1 fun v27 =>
    Ld st20 v27 false 1 fun v28 st29 =>
    Ld st29 (x19.getD 0 .any) false 1 fun v30 st31 =>
    NilC v30 fun v32 =>
    Faddr v32 1 fun v33 =>
    Ld st29 v33 false 1 fun v34 st35 =>
    Cal w0 n_seg_Seg_Disk [v28] st29 fun v36 st37 =>
    (Ld st37 v33 false 1 fun v38 st39 =>
    (v38 : AV) = v34) ∧
    (Ld st37 (x19.getD 0 .any) false 1 fun v40 st41 =>
    (v40 : AV) = v30) ∧
    Cal w0 n_seg_Open [v36] st37 fun v42 st43 =>
    (Ld st43 v33 false 1 fun v44 st45 =>
    (v44 : AV) = v34) ∧
    (Ld st43 (x19.getD 0 .any) false 1 fun v46 st47 =>
    (v46 : AV) = v30) ∧
    Ext v42 0 fun v48 =>
    Ext v42 1 fun v49 =>
    Iaddr v34 (x19.getD 3 .any) none 1 fun v50 =>
    Sto st43 v50 v48 1 fun v52 st51 =>
    OptK (bin .int .add (x19.getD 3 .any) (.int .i64 1)) fun v53 =>
    ∃ m23, m23 < n22 ∧ I21 m23 [(x19.getD 0 .any), (x19.getD 1 .any), (x19.getD 2 .any), v53] st51) (
      Ld st20 (x19.getD 0 .any) false 1 fun v54 st55 =>
  NilC v54 fun v56 =>
  Faddr v56 0 fun v57 =>
  Ld st55 v57 false 1 fun v58 st59 =>
  Cal w0 n_disk_Disk_Lines [v58] st59 fun v60 st61 =>
  Jn (fun  (st62 : St) =>
    Ld st62 (x19.getD 0 .any) false 1 fun v63 st64 =>
  NilC v63 fun v65 =>
  Faddr v65 3 fun v66 =>
  Ld st64 v66 false 1 fun v67 st68 =>
  Ld st68 (x19.getD 0 .any) false 1 fun v69 st70 =>
  Cal w0 n_maint_Log_positions [v69] st70 fun v71 st72 =>
  ∃ (I75 : Nat → List AV → St → Prop) (n78 : Nat), I75 n78 [(x19.getD 0 .any), v67, (.bool false), v71] st72 ∧
  ∀ (n76 : Nat) (x73 : List AV) (st74 : St), I75 n76 x73 st74 →
    Mlook .int st74 (x73.getD 3 .any) (x73.getD 1 .any) (.bool false) false fun v79 =>
    AsBool v79 fun b80 => Br b80 (
      OptK (bin .int .add (x73.getD 1 .any) (.int .i64 1)) fun v81 =>
    ∃ m77, m77 < n76 ∧ I75 m77 [(x73.getD 0 .any), v81, (x73.getD 2 .any), (x73.getD 3 .any)] st74) (
      Rng st74 (x73.getD 3 .any) fun v82 st83 =>
  ∃ (I86 : Nat → List AV → St → Prop) (n89 : Nat), I86 n89 [(x73.getD 0 .any), (x73.getD 1 .any), (x73.getD 2 .any), v82] st83 ∧
  ∀ (n87 : Nat) (x84 : List AV) (st85 : St), I86 n87 x84 st85 →
    Nxt st85 (x84.getD 3 .any) fun v90 st91 =>
    Ext v90 0 fun v92 =>
    AsBool v92 fun b93 => Br b93 (
      Ent st91 (x84.getD 3 .any) fun v105 =>
    Ext v105 0 fun v106 =>
    AsBool (x84.getD 2 .any) fun b115 => Br (b115 == false) (
    OptK (bin .int .geq v106 (x84.getD 1 .any)) fun v116 =>
    ∃ m88, m88 < n87 ∧ I86 m88 [(x84.getD 0 .any), (x84.getD 1 .any), (AV.pick false (.bool true) v116), (x84.getD 3 .any)] st91) (
    ∃ m88, m88 < n87 ∧ I86 m88 [(x84.getD 0 .any), (x84.getD 1 .any), (.bool true), (x84.getD 3 .any)] st91)) (
      Jn (fun (j118 : AV) (j119 : AV) (st129 : St) =>
    Ld st129 j118 false 1 fun v130 st131 =>
  Ld st129 j118 false 1 fun v132 st133 =>
  NilC v130 fun v134 =>
  Faddr v134 5 fun v135 =>
  Sto st129 v135 j119 1 fun v137 st136 =>
  (Ld st136 j118 false 1 fun v138 st139 =>
  (v138 : AV) = v132) ∧
  NilC v132 fun v140 =>
  Faddr v140 6 fun v141 =>
  Sto st136 v141 (.bool false) 1 fun v143 st142 =>
  Q (.int .i64 0) st142) fun (k144 : AV → AV → St → Prop) => AsBool (x84.getD 2 .any) fun b117 => Br b117 (
    Ld st91 (x84.getD 0 .any) false 1 fun v145 st146 =>
    NilC v145 fun v147 =>
    Faddr v147 1 fun v148 =>
    Ld st146 v148 false 1 fun v149 st150 =>
    LenOk .slice st150 v149 fun v151 =>
    ∃ (I154 : Nat → List AV → St → Prop) (n157 : Nat), I154 n157 [(x84.getD 0 .any), (x84.getD 1 .any), v149, v151, (.int .i64 0)] st150 ∧
    ∀ (n155 : Nat) (x152 : List AV) (st153 : St), I154 n155 x152 st153 →
      OptK (bin .int .lss (x152.getD 4 .any) (x152.getD 3 .any)) fun v158 =>
      AsBool v158 fun b159 => Br b159 (
        Iaddr (x152.getD 2 .any) (x152.getD 4 .any) none 1 fun v160 =>
      Ld st153 v160 false 1 fun v161 st162 =>
      Cal w0 n_seg_Seg_Cut [v161, (x152.getD 1 .any)] st162 fun v163 st164 =>
      OptK (bin .int .neq v163 (.int .i64 0)) fun v165 =>
      AsBool v165 fun b166 => Br b166 (
        Q v163 st164) (
        OptK (bin .int .add (x152.getD 4 .any) (.int .i64 1)) fun v167 =>
      ∃ m156, m156 < n155 ∧ I154 m156 [(x152.getD 0 .any), (x152.getD 1 .any), (x152.getD 2 .any), (x152.getD 3 .any), v167] st164)) (
        k144 (x152.getD 0 .any) (x152.getD 1 .any) st153)) (
    k144 (x84.getD 0 .any) (x84.getD 1 .any) st91)))) fun (k168 : St → Prop) => CalR w0 v60 st61.lp.length (pushLoop st61 { st := .ready, pend := none, tmps := [.any, (x19.getD 0 .any), .any, .any, .any, .any, .any, .any, .any, .any, .any, .any, .any, .any, .any, .any, .any, .any, .any, .any, .any, .any, (x19.getD 1 .any), (x19.getD 2 .any), (x19.getD 3 .any), v25, .any, .any, .any, .any, .any, .any, .any, .any, .any, .any, .any, .any, .any, .any, .any, .any, v54, v56, v57, v58, v60, .any, .any, .any, .any, .any, .any, .any, .any, .any, .any, .any, .any, .any, .any, .any, .any, .any, .any, .any, .any, .any, .any, .any, .any, .any, .any, .any, .any, .any, .any, .any, .any, .any, .any, .any, .any, .any, .any, .any, .any, .any, .any, .any, .any, .any, .any, .any, .any, .any, .any, .any, .any, .any, .any, .any, .any, .any, .any, .any, .any, .any, .any, .any, .any], params := #[47, 48], assign := asg_maint_Log_Recover_0, body := bod_maint_Log_Recover_0 }) fun _ st169 =>
  AftR st169 st61.lp.length (fun st170 =>
    k168  st170) (fun st170 =>
    Q .any st170) (fun e171 st170 =>
    Br (e171 == 2) (
  k168  st170) (
  False)) (fun e171 st170 => False)))
def rnd_maint_Log_Recover_0 (w0 : World) (i : Nat) (m1 : AV) (p0 : AV) (p1 : AV) (st : St) (Q : Kont) : Prop :=
  RBeg st i fun st1 =>
  Ld st1 m1 false 1 fun v2 st3 =>
  Cal w0 n_maint_Log_take [v2, p1] st3 fun v4 st5 =>
  OptK (un .not v4) fun v6 =>
  AsBool v6 fun b7 => Br b7 (
    Ld st5 m1 false 1 fun v8 st9 =>
    NilC v8 fun v10 =>
    Faddr v10 0 fun v11 =>
    Ld st9 v11 false 1 fun v12 st13 =>
    Cal w0 n_disk_Disk_Sync [v12] st13 fun v14 st15 =>
    Ld st15 m1 false 1 fun v16 st17 =>
    NilC v16 fun v18 =>
    Faddr v18 0 fun v19 =>
    Ld st17 v19 false 1 fun v20 st21 =>
    Cal w0 n_disk_Disk_Cut [v20, p0] st21 fun v22 st23 =>
    RExit i Q st23 2) (
    RNorm i Q st5)
theorem okr_maint_Log_Recover_0 {w0 : World} {i : Nat} {m0 : AV} {m1 : AV} {m2 : AV} {m3 : AV} {m4 : AV} {m5 : AV} {m6 : AV} {m7 : AV} {m8 : AV} {m9 : AV} {m10 : AV} {m11 : AV} {m12 : AV} {m13 : AV} {m14 : AV} {m15 : AV} {m16 : AV} {m17 : AV} {m18 : AV} {m19 : AV} {m20 : AV} {m21 : AV} {m22 : AV} {m23 : AV} {m24 : AV} {m25 : AV} {m26 : AV} {m27 : AV} {m28 : AV} {m29 : AV} {m30 : AV} {m31 : AV} {m32 : AV} {m33 : AV} {m34 : AV} {m35 : AV} {m36 : AV} {m37 : AV} {m38 : AV} {m39 : AV} {m40 : AV} {m41 : AV} {m42 : AV} {m43 : AV} {m44 : AV} {m45 : AV} {m46 : AV} {m47 : AV} {m48 : AV} {m49 : AV} {m50 : AV} {m51 : AV} {m52 : AV} {m53 : AV} {m54 : AV} {m55 : AV} {m56 : AV} {m57 : AV} {m58 : AV} {m59 : AV} {m60 : AV} {m61 : AV} {m62 : AV} {m63 : AV} {m64 : AV} {m65 : AV} {m66 : AV} {m67 : AV} {m68 : AV} {m69 : AV} {m70 : AV} {m71 : AV} {m72 : AV} {m73 : AV} {m74 : AV} {m75 : AV} {m76 : AV} {m77 : AV} {m78 : AV} {m79 : AV} {m80 : AV} {m81 : AV} {m82 : AV} {m83 : AV} {m84 : AV} {m85 : AV} {m86 : AV} {m87 : AV} {m88 : AV} {m89 : AV} {m90 : AV} {m91 : AV} {m92 : AV} {m93 : AV} {m94 : AV} {m95 : AV} {m96 : AV} {m97 : AV} {m98 : AV} {m99 : AV} {m100 : AV} {m101 : AV} {m102 : AV} {m103 : AV} {m104 : AV} {m105 : AV} {m106 : AV} {m107 : AV} {m108 : AV} {m109 : AV} {m110 : AV} {p0 : AV} {p1 : AV} {st : St} {Q : Kont} {ls : LoopState} {pd : Option Code} (hi : st.lp[i]? = some { st := ls, pend := pd, tmps := [m0, m1, m2, m3, m4, m5, m6, m7, m8, m9, m10, m11, m12, m13, m14, m15, m16, m17, m18, m19, m20, m21, m22, m23, m24, m25, m26, m27, m28, m29, m30, m31, m32, m33, m34, m35, m36, m37, m38, m39, m40, m41, m42, m43, m44, m45, m46, m47, m48, m49, m50, m51, m52, m53, m54, m55, m56, m57, m58, m59, m60, m61, m62, m63, m64, m65, m66, m67, m68, m69, m70, m71, m72, m73, m74, m75, m76, m77, m78, m79, m80, m81, m82, m83, m84, m85, m86, m87, m88, m89, m90, m91, m92, m93, m94, m95, m96, m97, m98, m99, m100, m101, m102, m103, m104, m105, m106, m107, m108, m109, m110], params := #[47, 48], assign := asg_maint_Log_Recover_0, body := bod_maint_Log_Recover_0 }) (h : rnd_maint_Log_Recover_0 w0 i m1 p0 p1 st Q) : AYield Tryz.prog w0 i [p0, p1] st Q :=
  ayield_of_gen ann_maint_Log_Recover hi rfl (cast (by kernel_rfl : rnd_maint_Log_Recover_0 w0 i m1 p0 p1 st Q = _) h)
theorem ok_maint_Log_Recover {w0 : World} {a0 : AV} {st : St} {Q : Kont} (h : vc_maint_Log_Recover w0 a0 st Q) : Cal w0 n_maint_Log_Recover [a0] st Q :=
  acall_of_gen ann_maint_Log_Recover Tryz.func17 rfl (by kernel_rfl) (cast (by kernel_rfl : vc_maint_Log_Recover w0 a0 st Q = _) h)

/-! (*landau/maint.Log).Vec -/
def ann_maint_Log_Vec : Nat → List Nat
  | 7 => [0, 1, 2, 3, 4, 5, 6, 7, 8, 9, 10, 11, 12]
  | _ => []
def vc_maint_Log_Vec (w0 : World) (a0 : AV) (st : St) (Q : Kont) : Prop :=
  NilC a0 fun v1 =>
  Faddr v1 6 fun v2 =>
  Ld st v2 false 1 fun v3 st4 =>
  AsBool v3 fun b5 => Br b5 (
    Q .nils st4) (
    NilC a0 fun v6 =>
  Faddr v6 4 fun v7 =>
  Ld st4 v7 false 1 fun v8 st9 =>
  NilC a0 fun v10 =>
  Faddr v10 3 fun v11 =>
  Ld st4 v11 false 1 fun v12 st13 =>
  Cal w0 n_maint_Log_Head [a0] st4 fun v14 st15 =>
  (Ld st15 v11 false 1 fun v16 st17 =>
  (v16 : AV) = v12) ∧
  (Ld st15 v7 false 1 fun v18 st19 =>
  (v18 : AV) = v8) ∧
  Cal w0 n_maint_Log_with [a0, v8, v12, v14] st15 fun v20 st21 =>
  Q v20 st21)
theorem ok_maint_Log_Vec {w0 : World} {a0 : AV} {st : St} {Q : Kont} (h : vc_maint_Log_Vec w0 a0 st Q) : Cal w0 n_maint_Log_Vec [a0] st Q :=
  acall_of_gen ann_maint_Log_Vec Tryz.func19 rfl (by kernel_rfl) (cast (by kernel_rfl : vc_maint_Log_Vec w0 a0 st Q = _) h)

/-! landau/maint.New -/
def ann_maint_New : Nat → List Nat
  | 10 => [1, 6, 22]
  | _ => []
def vc_maint_New (w0 : World) (a0 : Int) (a1 : Int) (st : St) (Q : Kont) : Prop :=
  Psh st (.cells false [(.int .i64 0), (.int .i64 a0)]) fun st1 =>
  OptK (fillAV (fun i => [(0, 1), (1, 1), (2, 1), (3, 1), (4, 1), (5, 1), (6, 1)][i]?) [.nilp, .nils, .nils, (.int .i64 0), .nils, (.int .i64 0), (.bool false)] [(2, (.slice st.hp.length 0 1 1 true 2))]) fun c2 =>
  OptK (AV.cellsOk (.agg c2)) fun c5 =>
  New st1 c5 fun v3 st4 =>
  Jn (fun (j11 : AV) (st12 : St) =>
    AsBool j11 fun b13 => Br b13 (
    Q (.tup [.nilp, (.int .i64 1)]) st12) (
    ∃ (I16 : Nat → List AV → St → Prop) (n19 : Nat), I16 n19 [(.int .i64 a1), v3, (.int .i64 0)] st12 ∧
  ∀ (n17 : Nat) (x14 : List AV) (st15 : St), I16 n17 x14 st15 →
    OptK (bin .int .lss (x14.getD 2 .any) (.int .i64 9)) fun v20 =>
    AsBool v20 fun b21 => Br b21 (
      Jn (fun  (st57 : St) =>
      OptK (bin .int .add (x14.getD 2 .any) (.int .i64 1)) fun v58 =>
    ∃ m18, m18 < n17 ∧ I16 m18 [(x14.getD 0 .any), (x14.getD 1 .any), v58] st57) fun (k59 : St → Prop) => Cal w0 n_disk_New [(x14.getD 0 .any)] st15 fun v60 st61 =>
    Ext v60 0 fun v62 =>
    Ext v60 1 fun v63 =>
    OptK (bin .int .neq v63 (.int .i64 0)) fun v64 =>
    AsBool v64 fun b65 => Br b65 (
      Q (.tup [.nilp, v63]) st61) (
      NilC (x14.getD 1 .any) fun v66 =>
    Faddr v66 0 fun v67 =>
    Ld st61 v67 false 1 fun v68 st69 =>
    OptK (bin .ptr .eql v68 .nilp) fun v70 =>
    AsBool v70 fun b71 => Br b71 (
      NilC (x14.getD 1 .any) fun v72 =>
      Faddr v72 0 fun v73 =>
      Sto st69 v73 v62 1 fun v75 st74 =>
      k59  st74) (
      Cal w0 n_seg_Open [v62] st69 fun v76 st77 =>
    Ext v76 0 fun v78 =>
    Ext v76 1 fun v79 =>
    NilC (x14.getD 1 .any) fun v80 =>
    Faddr v80 1 fun v81 =>
    Ld st77 v81 false 1 fun v82 st83 =>
    OptK (fillAV (fun i => some (i * 1, 1)) [.nilp] [(0, v78)]) fun c85 =>
    Psh st83 (.cells false c85) fun st84 =>
    Append st84 v82 (.slice st83.hp.length 0 1 1 true 1) 1 8 fun v86 st87 =>
    NilC (x14.getD 1 .any) fun v88 =>
    Faddr v88 1 fun v89 =>
    Sto st87 v89 v86 1 fun v91 st90 =>
    k59  st90))) (
      Q (.tup [(x14.getD 1 .any), (.int .i64 0)]) st15))) fun (k92 : AV → St → Prop) => Br ((decide (a0 < 1)) == false) (
  k92 (.bool (decide (8 < a0))) st4) (
  k92 (.bool true) st4)
theorem ok_maint_New {w0 : World} {a0 : Int} {a1 : Int} {st : St} {Q : Kont} (h : vc_maint_New w0 a0 a1 st Q) : Cal w0 n_maint_New [(.int .i64 a0), (.int .i64 a1)] st Q :=
  acall_of_gen ann_maint_New Tryz.func22 rfl (by kernel_rfl) (cast (by kernel_rfl : vc_maint_New w0 a0 a1 st Q = _) h)

/-! (*landau/maint.Log).Put -/
def ann_maint_Log_Put : Nat → List Nat
  | _ => []
def vc_maint_Log_Put (w0 : World) (a0 : AV) (a1 : Int) (a2_Site : Int) (a2_Seq : Int) (a2_Dep : AV) (a2_Key : List UInt8) (a2_Val : List UInt8) (st : St) (Q : Kont) : Prop :=
  New st [(.int .i64 a2_Site), (.int .i64 a2_Seq), a2_Dep, (.str a2_Key), (.str a2_Val)] fun v1 st2 =>
  NilC a0 fun v3 =>
  Faddr v3 6 fun v4 =>
  Ld st2 v4 false 1 fun v5 st6 =>
  AsBool v5 fun b7 => Br b7 (
    Q (.int .i64 11) st6) (
    NilC a0 fun v8 =>
    Faddr v8 5 fun v9 =>
    Ld st6 v9 false 1 fun v10 st11 =>
    OptK (bin .int .neq (.int .i64 a1) v10) fun v12 =>
    AsBool v12 fun b13 => Br b13 (
      Q (.int .i64 1) st11) (
      Cal w0 n_maint_Log_seg [a0, (.int .i64 a1)] st11 fun v14 st15 =>
  Ext v14 0 fun v16 =>
  Ext v14 1 fun v17 =>
  Ld st15 v1 true 5 fun v18 st19 =>
  Cal w0 n_seg_Seg_Put [v16, v17, (.int .i64 a1), v18] st19 fun v20 st21 =>
  OptK (bin .int .eql v20 (.int .i64 0)) fun v22 =>
  AsBool v22 fun b23 => Br b23 (
    NilC a0 fun v32 =>
    Faddr v32 5 fun v33 =>
    Ld st21 v33 false 1 fun v34 st35 =>
    OptK (bin .int .add v34 (.int .i64 1)) fun v36 =>
    NilC a0 fun v37 =>
    Faddr v37 5 fun v38 =>
    Sto st35 v38 v36 1 fun v40 st39 =>
    Q v20 st39) (
    Q v20 st21)))
theorem ok_maint_Log_Put {w0 : World} {a0 : AV} {a1 : Int} {a2_Site : Int} {a2_Seq : Int} {a2_Dep : AV} {a2_Key : List UInt8} {a2_Val : List UInt8} {st : St} {Q : Kont} (h : vc_maint_Log_Put w0 a0 a1 a2_Site a2_Seq a2_Dep a2_Key a2_Val st Q) : Cal w0 n_maint_Log_Put [a0, (.int .i64 a1), (.agg [(.int .i64 a2_Site), (.int .i64 a2_Seq), a2_Dep, (.str a2_Key), (.str a2_Val)])] st Q :=
  acall_of_gen ann_maint_Log_Put Tryz.func23 rfl (by kernel_rfl) (cast (by kernel_rfl : vc_maint_Log_Put w0 a0 a1 a2_Site a2_Seq a2_Dep a2_Key a2_Val st Q = _) h)

/-! (*landau/maint.Log).Sync -/
def ann_maint_Log_Sync : Nat → List Nat
  | _ => []
def vc_maint_Log_Sync (w0 : World) (a0 : AV) (a1 : Int) (st : St) (Q : Kont) : Prop :=
  Jn (fun (j17 : AV) (st18 : St) =>
    AsBool j17 fun b19 => Br b19 (
    Q (.bool false) st18) (
    NilC a0 fun v20 =>
  Faddr v20 1 fun v21 =>
  Ld st18 v21 false 1 fun v22 st23 =>
  Iaddr v22 (.int .i64 a1) none 1 fun v24 =>
  Ld st23 v24 false 1 fun v25 st26 =>
  Cal w0 n_seg_Seg_Disk [v25] st26 fun v27 st28 =>
  Cal w0 n_disk_Disk_Waits [v27] st28 fun v29 st30 =>
  OptK (bin .int .gtr v29 (.int .i64 0)) fun v31 =>
  Cal w0 n_disk_Disk_Sync [v27] st30 fun v32 st33 =>
  Q v31 st33)) fun (k34 : AV → St → Prop) => NilC a0 fun v35 =>
  Faddr v35 6 fun v36 =>
  Ld st v36 false 1 fun v37 st38 =>
  AsBool v37 fun b39 => Br (b39 == false) (
  Br ((decide (a1 < 0)) == false) (
  NilC a0 fun v40 =>
  Faddr v40 1 fun v41 =>
  Ld st38 v41 false 1 fun v42 st43 =>
  LenOk .slice st43 v42 fun v44 =>
  OptK (bin .int .geq (.int .i64 a1) v44) fun v45 =>
  k34 (AV.pick false (.bool true) v45) st43) (
  k34 (.bool true) st38)) (
  k34 (.bool true) st38)
theorem ok_maint_Log_Sync {w0 : World} {a0 : AV} {a1 : Int} {st : St} {Q : Kont} (h : vc_maint_Log_Sync w0 a0 a1 st Q) : Cal w0 n_maint_Log_Sync [a0, (.int .i64 a1)] st Q :=
  acall_of_gen ann_maint_Log_Sync Tryz.func25 rfl (by kernel_rfl) (cast (by kernel_rfl : vc_maint_Log_Sync w0 a0 a1 st Q = _) h)

/-! (*landau/maint.Log).Head -/
def ann_maint_Log_Head : Nat → List Nat
  | 8 => [0, 3]
  | _ => []
def vc_maint_Log_Head (w0 : World) (a0 : AV) (st : St) (Q : Kont) : Prop :=
  NilC a0 fun v1 =>
  Faddr v1 6 fun v2 =>
  Ld st v2 false 1 fun v3 st4 =>
  AsBool v3 fun b5 => Br b5 (
    Q (.int .i64 0) st4) (
    NilC a0 fun v6 =>
  Faddr v6 3 fun v7 =>
  Ld st4 v7 false 1 fun v8 st9 =>
  ∃ (I12 : Nat → List AV → St → Prop) (n15 : Nat), I12 n15 [a0, v8] st9 ∧
  ∀ (n13 : Nat) (x10 : List AV) (st11 : St), I12 n13 x10 st11 →
    NilC (x10.getD 0 .any) fun v16 =>
    Faddr v16 5 fun v17 =>
    Ld st11 v17 false 1 fun v18 st19 =>
    OptK (bin .int .lss (x10.getD 1 .any) v18) fun v20 =>
    AsBool v20 fun b21 => Br b21 (
      Cal w0 n_maint_Log_seg [(x10.getD 0 .any), (x10.getD 1 .any)] st19 fun v22 st23 =>
    Ext v22 0 fun v24 =>
    Ext v22 1 fun v25 =>
    Cal w0 n_seg_Seg_Lasts [v24, (x10.getD 1 .any)] st23 fun v26 st27 =>
    OptK (un .not v26) fun v28 =>
    AsBool v28 fun b29 => Br b29 (
      Q (x10.getD 1 .any) st27) (
      OptK (bin .int .add (x10.getD 1 .any) (.int .i64 1)) fun v30 =>
    ∃ m14, m14 < n13 ∧ I12 m14 [(x10.getD 0 .any), v30] st27)) (
      NilC (x10.getD 0 .any) fun v31 =>
  Faddr v31 5 fun v32 =>
  Ld st19 v32 false 1 fun v33 st34 =>
  Q v33 st34))
theorem ok_maint_Log_Head {w0 : World} {a0 : AV} {st : St} {Q : Kont} (h : vc_maint_Log_Head w0 a0 st Q) : Cal w0 n_maint_Log_Head [a0] st Q :=
  acall_of_gen ann_maint_Log_Head Tryz.func26 rfl (by kernel_rfl) (cast (by kernel_rfl : vc_maint_Log_Head w0 a0 st Q = _) h)

/-! (*landau/maint.Log).Next -/
def ann_maint_Log_Next : Nat → List Nat
  | _ => []
def vc_maint_Log_Next (w0 : World) (a0 : AV) (st : St) (Q : Kont) : Prop :=
  NilC a0 fun v1 =>
  Faddr v1 6 fun v2 =>
  Ld st v2 false 1 fun v3 st4 =>
  AsBool v3 fun b5 => Br b5 (
    Q (.int .i64 0) st4) (
    NilC a0 fun v6 =>
  Faddr v6 5 fun v7 =>
  Ld st4 v7 false 1 fun v8 st9 =>
  Q v8 st9)
theorem ok_maint_Log_Next {w0 : World} {a0 : AV} {st : St} {Q : Kont} (h : vc_maint_Log_Next w0 a0 st Q) : Cal w0 n_maint_Log_Next [a0] st Q :=
  acall_of_gen ann_maint_Log_Next Tryz.func27 rfl (by kernel_rfl) (cast (by kernel_rfl : vc_maint_Log_Next w0 a0 st Q = _) h)

/-! (*landau/maint.Log).Get -/
def ann_maint_Log_Get : Nat → List Nat
  | _ => []
def vc_maint_Log_Get (w0 : World) (a0 : AV) (a1 : Int) (st : St) (Q : Kont) : Prop :=
  New st [(.int .i64 0), (.int .i64 0), .nils, (.str []), (.str [])] fun v1 st2 =>
  NilC a0 fun v3 =>
  Faddr v3 6 fun v4 =>
  Ld st2 v4 false 1 fun v5 st6 =>
  AsBool v5 fun b7 => Br b7 (
    Sto st6 v1 (.agg [(.int .i64 0), (.int .i64 0), .nils, (.str []), (.str [])]) 5 fun v9 st8 =>
    Ld st8 v1 true 5 fun v10 _ =>
  Q (.tup [v10, (.int .i64 11)]) st8) (
    Br (decide (a1 < 0)) (
      Sto st6 v1 (.agg [(.int .i64 0), (.int .i64 0), .nils, (.str []), (.str [])]) 5 fun v12 st11 =>
      Ld st11 v1 true 5 fun v13 _ =>
  Q (.tup [v13, (.int .i64 1)]) st11) (
      NilC a0 fun v14 =>
      Faddr v14 3 fun v15 =>
      Ld st6 v15 false 1 fun v16 st17 =>
      OptK (bin .int .lss (.int .i64 a1) v16) fun v18 =>
      AsBool v18 fun b19 => Br b19 (
        Sto st17 v1 (.agg [(.int .i64 0), (.int .i64 0), .nils, (.str []), (.str [])]) 5 fun v21 st20 =>
        Ld st20 v1 true 5 fun v22 _ =>
  Q (.tup [v22, (.int .i64 8)]) st20) (
        NilC a0 fun v23 =>
        Faddr v23 5 fun v24 =>
        Ld st17 v24 false 1 fun v25 st26 =>
        OptK (bin .int .geq (.int .i64 a1) v25) fun v27 =>
        AsBool v27 fun b28 => Br b28 (
          Sto st26 v1 (.agg [(.int .i64 0), (.int .i64 0), .nils, (.str []), (.str [])]) 5 fun v30 st29 =>
          Ld st29 v1 true 5 fun v31 _ =>
  Q (.tup [v31, (.int .i64 9)]) st29) (
          Cal w0 n_maint_Log_seg [a0, (.int .i64 a1)] st26 fun v32 st33 =>
  Ext v32 0 fun v34 =>
  Ext v32 1 fun v35 =>
  Cal w0 n_seg_Seg_Get [v34, (.int .i64 a1)] st33 fun v36 st37 =>
  Ext v36 0 fun v38 =>
  Ext v36 1 fun v39 =>
  Sto st37 v1 v38 5 fun v41 st40 =>
  Ld st40 v1 true 5 fun v42 _ =>
  Q (.tup [v42, v39]) st40))))
theorem ok_maint_Log_Get {w0 : World} {a0 : AV} {a1 : Int} {st : St} {Q : Kont} (h : vc_maint_Log_Get w0 a0 a1 st Q) : Cal w0 n_maint_Log_Get [a0, (.int .i64 a1)] st Q :=
  acall_of_gen ann_maint_Log_Get Tryz.func28 rfl (by kernel_rfl) (cast (by kernel_rfl : vc_maint_Log_Get w0 a0 a1 st Q = _) h)

/-! (*landau/maint.Log).Trimmed -/
def ann_maint_Log_Trimmed : Nat → List Nat
  | 7 => [0, 1, 2, 3, 4, 5, 6, 7, 8, 9, 10]
  | _ => []
def vc_maint_Log_Trimmed (w0 : World) (a0 : AV) (st : St) (Q : Kont) : Prop :=
  NilC a0 fun v1 =>
  Faddr v1 6 fun v2 =>
  Ld st v2 false 1 fun v3 st4 =>
  AsBool v3 fun b5 => Br b5 (
    Q (.tup [(.int .i64 0), .nils]) st4) (
    NilC a0 fun v6 =>
  Faddr v6 3 fun v7 =>
  Ld st4 v7 false 1 fun v8 st9 =>
  NilC a0 fun v10 =>
  Faddr v10 4 fun v11 =>
  Ld st4 v11 false 1 fun v12 st13 =>
  Cal w0 n_slices_Clone_vec_Vec_int [v12] st4 fun v14 st15 =>
  (Ld st15 v7 false 1 fun v16 st17 =>
  (v16 : AV) = v8) ∧
  Q (.tup [v8, v14]) st15)
theorem ok_maint_Log_Trimmed {w0 : World} {a0 : AV} {st : St} {Q : Kont} (h : vc_maint_Log_Trimmed w0 a0 st Q) : Cal w0 n_maint_Log_Trimmed [a0] st Q :=
  acall_of_gen ann_maint_Log_Trimmed Tryz.func32 rfl (by kernel_rfl) (cast (by kernel_rfl : vc_maint_Log_Trimmed w0 a0 st Q = _) h)

/-! (*landau/maint.Log).Resize -/
def ann_maint_Log_Resize : Nat → List Nat
  | 11 => [0, 2, 3, 4, 5, 1, 6, 7]
  | 16 => [0, 1, 34, 35, 36]
  | 31 => [0, 1, 2, 3, 4, 5, 6, 7, 8, 9, 10, 11, 12, 13, 14]
  | 35 => [0, 1, 2, 3, 4, 5, 6, 7, 8]
  | _ => []
def vc_maint_Log_Resize (w0 : World) (a0 : AV) (a1 : Int) (st : St) (Q : Kont) : Prop :=
  NilC a0 fun v1 =>
  Faddr v1 6 fun v2 =>
  Ld st v2 false 1 fun v3 st4 =>
  AsBool v3 fun b5 => Br b5 (
    Q (.int .i64 11) st4) (
    Jn (fun (j6 : AV) (st13 : St) =>
      AsBool j6 fun b14 => Br b14 (
      Q (.int .i64 1) st13) (
      NilC a0 fun v15 =>
      Faddr v15 5 fun v16 =>
      Ld st13 v16 false 1 fun v17 st18 =>
      Cal w0 n_maint_Log_Head [a0] st13 fun v19 st20 =>
      (Ld st20 v16 false 1 fun v21 st22 =>
      (v21 : AV) = v17) ∧
      OptK (bin .int .neq v19 v17) fun v23 =>
      AsBool v23 fun b24 => Br b24 (
        Q (.int .i64 12) st20) (
        NilC a0 fun v25 =>
  Faddr v25 1 fun v26 =>
  Ld st20 v26 false 1 fun v27 st28 =>
  LenOk .slice st28 v27 fun v29 =>
  ∃ (I32 : Nat → List AV → St → Prop) (n35 : Nat), I32 n35 [a0, (.int .i64 a1), v27, v29, (.int .i64 0)] st28 ∧
  ∀ (n33 : Nat) (x30 : List AV) (st31 : St), I32 n33 x30 st31 →
    OptK (bin .int .lss (x30.getD 4 .any) (x30.getD 3 .any)) fun v36 =>
    AsBool v36 fun b37 => Br b37 (
      Iaddr (x30.getD 2 .any) (x30.getD 4 .any) none 1 fun v38 =>
    Ld st31 v38 false 1 fun v39 st40 =>
    Cal w0 n_maint_Log_Epoch [(x30.getD 0 .any)] st40 fun v41 st42 =>
    Cal w0 n_seg_Seg_Seal [v39, v41] st42 fun v43 st44 =>
    Ext v43 0 fun v45 =>
    Ext v43 1 fun v46 =>
    OptK (bin .int .eql v46 (.int .i64 6)) fun v47 =>
    AsBool v47 fun b48 => Br b48 (
      Cal w0 n_maint_Log_Crash [(x30.getD 0 .any), .nils] st44 fun v49 st50 =>
      Q v46 st50) (
      OptK (bin .int .add (x30.getD 4 .any) (.int .i64 1)) fun v51 =>
    ∃ m34, m34 < n33 ∧ I32 m34 [(x30.getD 0 .any), (x30.getD 1 .any), (x30.getD 2 .any), (x30.getD 3 .any), v51] st44)) (
      NilC (x30.getD 0 .any) fun v52 =>
  Faddr v52 2 fun v53 =>
  Ld st31 v53 false 1 fun v54 st55 =>
  NilC (x30.getD 0 .any) fun v56 =>
  Faddr v56 5 fun v57 =>
  Ld st31 v57 false 1 fun v58 st59 =>
  Cal w0 n_stripe_Add [v54, v58, (x30.getD 1 .any)] st31 fun v60 st61 =>
  Ext v60 0 fun v62 =>
  Ext v60 1 fun v63 =>
  OptK (bin .int .eql v63 (.int .i64 0)) fun v64 =>
  Jn (fun (j66 : AV) (st75 : St) =>
    OptK (bin .int .neq j66 (.int .i64 0)) fun v76 =>
  AsBool v76 fun b77 => Br b77 (
    Cal w0 n_maint_Log_Crash [(x30.getD 0 .any), .nils] st75 fun v78 st79 =>
    Q j66 st79) (
    NilC (x30.getD 0 .any) fun v80 =>
  Faddr v80 0 fun v81 =>
  Ld st75 v81 false 1 fun v82 st83 =>
  Cal w0 n_disk_Disk_Sync [v82] st83 fun v84 st85 =>
  NilC (x30.getD 0 .any) fun v86 =>
  Faddr v86 2 fun v87 =>
  Sto st85 v87 v62 1 fun v89 st88 =>
  Q (.int .i64 0) st88)) fun (k90 : AV → St → Prop) => AsBool v64 fun b65 => Br b65 (
    NilC (x30.getD 0 .any) fun v91 =>
    Faddr v91 0 fun v92 =>
    Ld st61 v92 false 1 fun v93 st94 =>
    Cal w0 n_stripe_Text [v62] st61 fun v95 st96 =>
    (Ld st96 v92 false 1 fun v97 st98 =>
    (v97 : AV) = v93) ∧
    OptK (bin .str .add (.str [109, 32]) v95) fun v99 =>
    Cal w0 n_disk_Disk_Write [v93, v99] st96 fun v100 st101 =>
    k90 v100 st101) (
    k90 v63 st61))))) fun (k102 : AV → St → Prop) => Br ((decide (a1 < 1)) == false) (
    k102 (.bool (decide (8 < a1))) st4) (
    k102 (.bool true) st4))
theorem ok_maint_Log_Resize {w0 : World} {a0 : AV} {a1 : Int} {st : St} {Q : Kont} (h : vc_maint_Log_Resize w0 a0 a1 st Q) : Cal w0 n_maint_Log_Resize [a0, (.int .i64 a1)] st Q :=
  acall_of_gen ann_maint_Log_Resize Tryz.func33 rfl (by kernel_rfl) (cast (by kernel_rfl : vc_maint_Log_Resize w0 a0 a1 st Q = _) h)

/-! (*landau/maint.Log).Stripes -/
def ann_maint_Log_Stripes : Nat → List Nat
  | 3 => [0, 1, 2, 3, 4, 5, 6, 7, 8, 9, 10, 11, 12, 13]
  | _ => []
def vc_maint_Log_Stripes (w0 : World) (a0 : AV) (st : St) (Q : Kont) : Prop :=
  NilC a0 fun v1 =>
  Faddr v1 2 fun v2 =>
  Ld st v2 false 1 fun v3 st4 =>
  NilC a0 fun v5 =>
  Faddr v5 2 fun v6 =>
  Ld st v6 false 1 fun v7 st8 =>
  LenOk .slice st v7 fun v9 =>
  OptK (bin .int .sub v9 (.int .i64 1)) fun v10 =>
  Iaddr v3 v10 none 2 fun v11 =>
  Faddr v11 1 fun v12 =>
  Ld st v12 false 1 fun v13 st14 =>
  Q v13 st
theorem ok_maint_Log_Stripes {w0 : World} {a0 : AV} {st : St} {Q : Kont} (h : vc_maint_Log_Stripes w0 a0 st Q) : Cal w0 n_maint_Log_Stripes [a0] st Q :=
  acall_of_gen ann_maint_Log_Stripes Tryz.func34 rfl (by kernel_rfl) (cast (by kernel_rfl : vc_maint_Log_Stripes w0 a0 st Q = _) h)

/-! (*landau/maint.Log).Epoch -/
def ann_maint_Log_Epoch : Nat → List Nat
  | _ => []
def vc_maint_Log_Epoch (w0 : World) (a0 : AV) (st : St) (Q : Kont) : Prop :=
  NilC a0 fun v1 =>
  Faddr v1 2 fun v2 =>
  Ld st v2 false 1 fun v3 st4 =>
  LenOk .slice st4 v3 fun v5 =>
  Q v5 st4
theorem ok_maint_Log_Epoch {w0 : World} {a0 : AV} {st : St} {Q : Kont} (h : vc_maint_Log_Epoch w0 a0 st Q) : Cal w0 n_maint_Log_Epoch [a0] st Q :=
  acall_of_gen ann_maint_Log_Epoch Tryz.func35 rfl (by kernel_rfl) (cast (by kernel_rfl : vc_maint_Log_Epoch w0 a0 st Q = _) h)

/-! (*landau/maint.Log).All -/
def ann_maint_Log_All : Nat → List Nat
  | _ => []
def vc_maint_Log_All (w0 : World) (a0 : AV) (a1 : Int) (st : St) (Q : Kont) : Prop :=
  OptK (AV.cellsOk a0) fun c3 =>
  New st c3 fun v1 st2 =>
  New st2 [(.int .i64 a1)] fun v4 st5 =>
  Q (.func n_maint_Log_All_1 [] [v1, v4]) st5
theorem ok_maint_Log_All {w0 : World} {a0 : AV} {a1 : Int} {st : St} {Q : Kont} (h : vc_maint_Log_All w0 a0 a1 st Q) : Cal w0 n_maint_Log_All [a0, (.int .i64 a1)] st Q :=
  acall_of_gen ann_maint_Log_All Tryz.func37 rfl (by kernel_rfl) (cast (by kernel_rfl : vc_maint_Log_All w0 a0 a1 st Q = _) h)

/-! (*landau/maint.Log).with -/
def ann_maint_Log_with : Nat → List Nat
  | 4 => [0, 1, 3, 9]
  | _ => []
def vc_maint_Log_with (w0 : World) (a0 : AV) (a1 : AV) (a2 : Int) (a3 : Int) (st : St) (Q : Kont) : Prop :=
  ∃ (I3 : Nat → List AV → St → Prop) (n6 : Nat), I3 n6 [a0, a1, (.int .i64 a3), (.int .i64 a2)] st ∧
  ∀ (n4 : Nat) (x1 : List AV) (st2 : St), I3 n4 x1 st2 →
    OptK (bin .int .lss (x1.getD 3 .any) (x1.getD 2 .any)) fun v7 =>
    AsBool v7 fun b8 => Br b8 (
      Cal w0 n_maint_Log_seg [(x1.getD 0 .any), (x1.getD 3 .any)] st2 fun v9 st10 =>
    Ext v9 0 fun v11 =>
    Ext v9 1 fun v12 =>
    Cal w0 n_seg_Seg_Get [v11, (x1.getD 3 .any)] st10 fun v13 st14 =>
    Ext v13 0 fun v15 =>
    Ext v13 1 fun v16 =>
    New st14 [(.int .i64 0), (.int .i64 0), .nils, (.str []), (.str [])] fun v17 st18 =>
    Sto st18 v17 v15 5 fun v20 st19 =>
    Faddr v17 0 fun v21 =>
    Ld st19 v21 false 1 fun v22 st23 =>
    Faddr v17 1 fun v24 =>
    Ld st23 v24 false 1 fun v25 st26 =>
    Cal w0 n_vec_With [(x1.getD 1 .any), v22, v25] st26 fun v27 st28 =>
    OptK (bin .int .add (x1.getD 3 .any) (.int .i64 1)) fun v29 =>
    ∃ m5, m5 < n4 ∧ I3 m5 [(x1.getD 0 .any), v27, (x1.getD 2 .any), v29] st28) (
      Q (x1.getD 1 .any) st2)
theorem ok_maint_Log_with {w0 : World} {a0 : AV} {a1 : AV} {a2 : Int} {a3 : Int} {st : St} {Q : Kont} (h : vc_maint_Log_with w0 a0 a1 a2 a3 st Q) : Cal w0 n_maint_Log_with [a0, a1, (.int .i64 a2), (.int .i64 a3)] st Q :=
  acall_of_gen ann_maint_Log_with Tryz.func49 rfl (by kernel_rfl) (cast (by kernel_rfl : vc_maint_Log_with w0 a0 a1 a2 a3 st Q = _) h)

/-! (*landau/maint.Log).take -/
def ann_maint_Log_take : Nat → List Nat
  | _ => []
def vc_maint_Log_take (w0 : World) (a0 : AV) (a1 : List UInt8) (st : St) (Q : Kont) : Prop :=
  Cal w0 n_strings_Cut [(.str a1), (.str [32])] st fun v1 st2 =>
  Ext v1 0 fun v3 =>
  Ext v1 1 fun v4 =>
  Ext v1 2 fun v5 =>
  OptK (bin .str .eql v3 (.str [109])) fun v6 =>
  AsBool v6 fun b7 => Br b7 (
    Cal w0 n_stripe_Parse [v4] st2 fun v8 st9 =>
    Ext v8 0 fun v10 =>
    Ext v8 1 fun v11 =>
    OptK (bin .int .eql v11 (.int .i64 0)) fun v12 =>
    AsBool v12 fun b13 => Br b13 (
      NilC a0 fun v20 =>
      Faddr v20 2 fun v21 =>
      Sto st9 v21 v10 1 fun v23 st22 =>
      OptK (bin .int .eql v11 (.int .i64 0)) fun v24 =>
    Q v24 st22) (
      OptK (bin .int .eql v11 (.int .i64 0)) fun v25 =>
    Q v25 st9)) (
    Cal w0 n_strings_Cut [v4, (.str [32])] st2 fun v26 st27 =>
  Ext v26 0 fun v28 =>
  Ext v26 1 fun v29 =>
  Ext v26 2 fun v30 =>
  Cal w0 n_vec_Number [v28, (.int .i64 2147483647)] st27 fun v31 st32 =>
  Ext v31 0 fun v33 =>
  Ext v31 1 fun v34 =>
  Cal w0 n_vec_Parse [v29] st32 fun v35 st36 =>
  Ext v35 0 fun v37 =>
  Ext v35 1 fun v38 =>
  Jn (fun (j48 : AV) (st49 : St) =>
    AsBool j48 fun b50 => Br b50 (
    Q (.bool false) st49) (
    NilC a0 fun v51 =>
  Faddr v51 3 fun v52 =>
  Sto st49 v52 v33 1 fun v54 st53 =>
  NilC a0 fun v55 =>
  Faddr v55 4 fun v56 =>
  Sto st53 v56 v37 1 fun v58 st57 =>
  Q (.bool true) st57)) fun (k59 : AV → St → Prop) => OptK (bin .str .neq v3 (.str [116])) fun v60 =>
  AsBool v60 fun b61 => Br (b61 == false) (
  OptK (bin .int .neq v34 (.int .i64 0)) fun v62 =>
  AsBool (AV.pick false (.bool true) v62) fun b63 => Br (b63 == false) (
  OptK (bin .int .neq v38 (.int .i64 0)) fun v64 =>
  k59 (AV.pick false (.bool true) v64) st36) (
  k59 (.bool true) st36)) (
  k59 (.bool true) st36))
theorem ok_maint_Log_take {w0 : World} {a0 : AV} {a1 : List UInt8} {st : St} {Q : Kont} (h : vc_maint_Log_take w0 a0 a1 st Q) : Cal w0 n_maint_Log_take [a0, (.str a1)] st Q :=
  acall_of_gen ann_maint_Log_take Tryz.func63 rfl (by kernel_rfl) (cast (by kernel_rfl : vc_maint_Log_take w0 a0 a1 st Q = _) h)

/-! (*landau/maint.Log).positions -/
noncomputable def asg_maint_Log_positions_0 : Code := (codeAt (Tryz.f65.body.getD .skip) [2, 2, 1, 2, 2, 1, 2, 2, 1, 2, 2, 2, 2]).1
noncomputable def bod_maint_Log_positions_0 : Code := (codeAt (Tryz.f65.body.getD .skip) [2, 2, 1, 2, 2, 1, 2, 2, 1, 2, 2, 2, 2]).2
def ann_maint_Log_positions : Nat → List Nat
  | 6 => [3, 11, 12, 13]
  | _ => []
def vc_maint_Log_positions (w0 : World) (a0 : AV) (st : St) (Q : Kont) : Prop :=
  Psh st (.amap [] [] 0) fun st1 =>
  New st1 [.nilm] fun v2 st3 =>
  Sto st3 v2 (.map st.hp.length) 1 fun v5 st4 =>
  NilC a0 fun v6 =>
  Faddr v6 1 fun v7 =>
  Ld st4 v7 false 1 fun v8 st9 =>
  LenOk .slice st9 v8 fun v10 =>
  ∃ (I32 : Nat → List AV → St → Prop) (n35 : Nat), I32 n35 [v2, v8, v10, (.int .i64 0)] st9 ∧
  ∀ (n33 : Nat) (x30 : List AV) (st31 : St), I32 n33 x30 st31 →
    OptK (bin .int .lss (x30.getD 3 .any) (x30.getD 2 .any)) fun v36 =>
    AsBool v36 fun b37 => Br b37 (
      Jn (fun  (st43 : St) =>
      OptK (bin .int .add (x30.getD 3 .any) (.int .i64 1)) fun v44 =>
    ∃ m34, m34 < n33 ∧ I32 m34 [(x30.getD 0 .any), (x30.getD 1 .any), (x30.getD 2 .any), v44] st43) fun (k45 : St → Prop) => Iaddr (x30.getD 1 .any) (x30.getD 3 .any) none 1 fun v46 =>
    Ld st31 v46 false 1 fun v47 st48 =>
    Cal w0 n_seg_Seg_All [v47] st48 fun v49 st50 =>
    CalR w0 v49 st50.lp.length (pushLoop st50 { st := .ready, pend := none, tmps := [.any, .any, .any, (x30.getD 0 .any), .any, v47, .any, .any, .any, .any, .any, (x30.getD 1 .any), (x30.getD 2 .any), (x30.getD 3 .any), v36, v46, v47, v47, v49, .any, .any, .any, .any, .any, .any], params := #[19, 20], assign := asg_maint_Log_positions_0, body := bod_maint_Log_positions_0 }) fun _ st52 =>
    AftR st52 st50.lp.length (fun st53 =>
      k45  st53) (fun st53 =>
      Q .any st53) (fun e54 st53 =>
      Br (e54 == 2) (
    k45  st53) (
    Br (e54 == 1) (
    k45  st53) (
    Br (e54 == 0) (
  Ld st53 (x30.getD 0 .any) false 1 fun v55 st56 =>
  Q v55 st56) (
  False)))) (fun e54 st53 => False)) (
      Ld st31 (x30.getD 0 .any) false 1 fun v57 st58 =>
  Q v57 st58)
def rnd_maint_Log_positions_0 (w0 : World) (i : Nat) (m3 : AV) (p0 : AV) (p1 : AV) (st : St) (Q : Kont) : Prop :=
  RBeg st i fun st1 =>
  Ld st1 m3 false 1 fun v2 st3 =>
  Mput .int st3 v2 p0 (.bool true) fun v4 st5 =>
  RNorm i Q st5
theorem okr_maint_Log_positions_0 {w0 : World} {i : Nat} {m0 : AV} {m1 : AV} {m2 : AV} {m3 : AV} {m4 : AV} {m5 : AV} {m6 : AV} {m7 : AV} {m8 : AV} {m9 : AV} {m10 : AV} {m11 : AV} {m12 : AV} {m13 : AV} {m14 : AV} {m15 : AV} {m16 : AV} {m17 : AV} {m18 : AV} {m19 : AV} {m20 : AV} {m21 : AV} {m22 : AV} {m23 : AV} {m24 : AV} {p0 : AV} {p1 : AV} {st : St} {Q : Kont} {ls : LoopState} {pd : Option Code} (hi : st.lp[i]? = some { st := ls, pend := pd, tmps := [m0, m1, m2, m3, m4, m5, m6, m7, m8, m9, m10, m11, m12, m13, m14, m15, m16, m17, m18, m19, m20, m21, m22, m23, m24], params := #[19, 20], assign := asg_maint_Log_positions_0, body := bod_maint_Log_positions_0 }) (h : rnd_maint_Log_positions_0 w0 i m3 p0 p1 st Q) : AYield Tryz.prog w0 i [p0, p1] st Q :=
  ayield_of_gen ann_maint_Log_positions hi rfl (cast (by kernel_rfl : rnd_maint_Log_positions_0 w0 i m3 p0 p1 st Q = _) h)
theorem ok_maint_Log_positions {w0 : World} {a0 : AV} {st : St} {Q : Kont} (h : vc_maint_Log_positions w0 a0 st Q) : Cal w0 n_maint_Log_positions [a0] st Q :=
  acall_of_gen ann_maint_Log_positions Tryz.func65 rfl (by kernel_rfl) (cast (by kernel_rfl : vc_maint_Log_positions w0 a0 st Q = _) h)

/-! (*landau/maint.Log).Down -/
def ann_maint_Log_Down : Nat → List Nat
  | _ => []
def vc_maint_Log_Down (w0 : World) (a0 : AV) (st : St) (Q : Kont) : Prop :=
  NilC a0 fun v1 =>
  Faddr v1 6 fun v2 =>
  Ld st v2 false 1 fun v3 st4 =>
  Q v3 st4
theorem ok_maint_Log_Down {w0 : World} {a0 : AV} {st : St} {Q : Kont} (h : vc_maint_Log_Down w0 a0 st Q) : Cal w0 n_maint_Log_Down [a0] st Q :=
  acall_of_gen ann_maint_Log_Down Tryz.func68 rfl (by kernel_rfl) (cast (by kernel_rfl : vc_maint_Log_Down w0 a0 st Q = _) h)

/-! (*landau/maint.Log).seg -/
def ann_maint_Log_seg : Nat → List Nat
  | _ => []
def vc_maint_Log_seg (w0 : World) (a0 : AV) (a1 : Int) (st : St) (Q : Kont) : Prop :=
  NilC a0 fun v1 =>
  Faddr v1 2 fun v2 =>
  Ld st v2 false 1 fun v3 st4 =>
  Cal w0 n_stripe_Find [v3, (.int .i64 a1)] st4 fun v5 st6 =>
  Ext v5 0 fun v7 =>
  Ext v5 1 fun v8 =>
  Ext v5 2 fun v9 =>
  NilC a0 fun v10 =>
  Faddr v10 1 fun v11 =>
  Ld st6 v11 false 1 fun v12 st13 =>
  Iaddr v12 v8 none 1 fun v14 =>
  Ld st13 v14 false 1 fun v15 st16 =>
  Q (.tup [v15, v7]) st16
theorem ok_maint_Log_seg {w0 : World} {a0 : AV} {a1 : Int} {st : St} {Q : Kont} (h : vc_maint_Log_seg w0 a0 a1 st Q) : Cal w0 n_maint_Log_seg [a0, (.int .i64 a1)] st Q :=
  acall_of_gen ann_maint_Log_seg Tryz.func70 rfl (by kernel_rfl) (cast (by kernel_rfl : vc_maint_Log_seg w0 a0 a1 st Q = _) h)

/-! (*landau/maint.Log).All$1 -/
def ann_maint_Log_All_1 : Nat → List Nat
  | 3 => [0, 1, 2, 3, 4, 5, 6]
  | 4 => [0, 1, 4, 5]
  | _ => []
def vc_maint_Log_All_1 (w0 : World) (a0 : AV) (c0 : AV) (c1 : AV) (st : St) (Q : Kont) : Prop :=
  Ld st c0 false 1 fun v1 st2 =>
  Cal w0 n_maint_Log_Head [v1] st2 fun v3 st4 =>
  Ld st4 c1 false 1 fun v5 st6 =>
  Ld st4 c0 false 1 fun v7 st8 =>
  NilC v7 fun v9 =>
  Faddr v9 3 fun v10 =>
  Ld st4 v10 false 1 fun v11 st12 =>
  OptK (maxAV [v5, v11]) fun v13 =>
  ∃ (I16 : Nat → List AV → St → Prop) (n19 : Nat), I16 n19 [a0, c0, v3, v13] st4 ∧
  ∀ (n17 : Nat) (x14 : List AV) (st15 : St), I16 n17 x14 st15 →
    OptK (bin .int .lss (x14.getD 3 .any) (x14.getD 2 .any)) fun v20 =>
    AsBool v20 fun b21 => Br b21 (
      Ld st15 (x14.getD 1 .any) false 1 fun v22 st23 =>
    Cal w0 n_maint_Log_seg [v22, (x14.getD 3 .any)] st23 fun v24 st25 =>
    Ext v24 0 fun v26 =>
    Ext v24 1 fun v27 =>
    Cal w0 n_seg_Seg_Get [v26, (x14.getD 3 .any)] st25 fun v28 st29 =>
    Ext v28 0 fun v30 =>
    Ext v28 1 fun v31 =>
    New st29 [(.int .i64 0), (.int .i64 0), .nils, (.str []), (.str [])] fun v32 st33 =>
    Sto st33 v32 v30 5 fun v35 st34 =>
    Ld st34 v32 true 5 fun v36 st37 =>
    CallV Tryz.prog w0 (x14.getD 0 .any) [(x14.getD 3 .any), v36] st37 fun v38 st39 =>
    OptK (un .not v38) fun v40 =>
    AsBool v40 fun b41 => Br b41 (
      Q (.tup []) st39) (
      OptK (bin .int .add (x14.getD 3 .any) (.int .i64 1)) fun v42 =>
    ∃ m18, m18 < n17 ∧ I16 m18 [(x14.getD 0 .any), (x14.getD 1 .any), (x14.getD 2 .any), v42] st39)) (
      Q (.tup []) st15)
theorem ok_maint_Log_All_1 {w0 : World} {a0 : AV} {c0 : AV} {c1 : AV} {st : St} {Q : Kont} (h : vc_maint_Log_All_1 w0 a0 c0 c1 st Q) : Cal w0 n_maint_Log_All_1 [a0, c0, c1] st Q :=
  acall_of_gen ann_maint_Log_All_1 Tryz.func78 rfl (by kernel_rfl) (cast (by kernel_rfl : vc_maint_Log_All_1 w0 a0 c0 c1 st Q = _) h)

end Go.Ab
