/- What must hold for Go functions to run to their end: printed by vc.py. -/
import Derived.Test.YtoehcgeckmoofaaGreatDoorNames
set_option linter.unusedVariables false
set_option maxRecDepth 100000
namespace Go.Ab
open Go Go.RowKit Go.Proofs

/-! landau/landaulaw6.LogLasts -/
def ann_landaulaw6_LogLasts : Nat → List Nat
  | 22 => [2, 3, 4, 12, 14, 15]
  | 50 => [4, 12, 17, 18]
  | _ => []
def vc_landaulaw6_LogLasts (w0 : World) (a0 : Int) (a1 : Int) (a2 : AV) (a3 : AV) (a4 : AV) (st : St) (Q : Kont) : Prop :=
  Cal w0 n_landaulaw6_known [] st fun v1 st2 =>
  OptK (un .not v1) fun v3 =>
  AsBool v3 fun b4 => Br b4 (
    Q (.bool false) st2) (
    Jn (fun (j17 : AV) (st18 : St) =>
    AsBool j17 fun b19 => Br b19 (
    Q (.bool true) st18) (
    OptK (bin .int .rem (.int .u8 a0) (.int .u8 8)) fun v20 =>
  AsInt v20 fun n21 =>
  Cal w0 n_maint_New [(.int .i64 (IntKind.i64.wrap (1 + (IntKind.i64.wrap n21)))), (.int .i64 20000)] st18 fun v22 st23 =>
  Ext v22 0 fun v24 =>
  Ext v22 1 fun v25 =>
  Jn (fun (j31 : AV) (st32 : St) =>
    AsBool j31 fun b33 => Br b33 (
    Q (.bool false) st32) (
    OptK (bin .int .rem (.int .u8 a1) (.int .u8 40)) fun v34 =>
  AsInt v34 fun n35 =>
  ∃ (I38 : Nat → List AV → St → Prop) (n41 : Nat), I38 n41 [a2, a3, a4, v24, (.int .i64 (IntKind.i64.wrap n35)), (.int .i64 0)] st32 ∧
  ∀ (n39 : Nat) (x36 : List AV) (st37 : St), I38 n39 x36 st37 →
    OptK (bin .int .lss (x36.getD 5 .any) (x36.getD 4 .any)) fun v42 =>
    AsBool v42 fun b43 => Br b43 (
      Jn (fun  (st66 : St) =>
      OptK (bin .int .add (x36.getD 5 .any) (.int .i64 1)) fun v67 =>
    ∃ m40, m40 < n39 ∧ I38 m40 [(x36.getD 0 .any), (x36.getD 1 .any), (x36.getD 2 .any), (x36.getD 3 .any), (x36.getD 4 .any), v67] st66) fun (k68 : St → Prop) => OptK (bin .int .rem (x36.getD 5 .any) (.int .i64 3)) fun v69 =>
    OptK (bin .int .quo (x36.getD 5 .any) (.int .i64 3)) fun v70 =>
    OptK (bin .int .add (.int .i64 1) v70) fun v71 =>
    Cal w0 n_landaulaw6_R [v69, v71] st37 fun v72 st73 =>
    Cal w0 n_maint_Log_Put [(x36.getD 3 .any), (x36.getD 5 .any), v72] st73 fun v74 st75 =>
    OptK (bin .int .neq v74 (.int .i64 0)) fun v76 =>
    AsBool v76 fun b77 => Br b77 (
      Q (.bool false) st75) (
      LenOk .slice st75 (x36.getD 0 .any) fun v78 =>
    OptK (bin .int .lss (x36.getD 5 .any) v78) fun v79 =>
    AsBool v79 fun b80 => Br b80 (
      Iaddr (x36.getD 0 .any) (x36.getD 5 .any) none 1 fun v90 =>
      Ld st75 v90 false 1 fun v91 st92 =>
      AsInt v91 fun n93 =>
      OptK (bin .int .rem (.int .i64 (IntKind.i64.wrap n93)) (.int .i64 8)) fun v94 =>
      Cal w0 n_maint_Log_Sync [(x36.getD 3 .any), v94] st92 fun v95 st96 =>
      k68  st96) (
      k68  st75))) (
      Cal w0 n_maint_Log_Head [(x36.getD 3 .any)] st37 fun v97 st98 =>
  Cal w0 n_maint_Log_Crash [(x36.getD 3 .any), (x36.getD 1 .any)] st98 fun v99 st100 =>
  Cal w0 n_maint_Log_Recover [(x36.getD 3 .any)] st100 fun v101 st102 =>
  OptK (bin .int .neq v101 (.int .i64 0)) fun v103 =>
  AsBool v103 fun b104 => Br b104 (
    Q (.bool false) st102) (
    Cal w0 n_maint_Log_Head [(x36.getD 3 .any)] st102 fun v105 st106 =>
  Jn (fun (j120 : AV) (st121 : St) =>
    AsBool j120 fun b122 => Br b122 (
    Q (.bool false) st121) (
    ∃ (I125 : Nat → List AV → St → Prop) (n128 : Nat), I125 n128 [(x36.getD 2 .any), (x36.getD 3 .any), v105, (.int .i64 0)] st121 ∧
  ∀ (n126 : Nat) (x123 : List AV) (st124 : St), I125 n126 x123 st124 →
    OptK (bin .int .lss (x123.getD 3 .any) (x123.getD 2 .any)) fun v129 =>
    AsBool v129 fun b130 => Br b130 (
      Jn (fun  (st154 : St) =>
      OptK (bin .int .add (x123.getD 3 .any) (.int .i64 1)) fun v155 =>
    ∃ m127, m127 < n126 ∧ I125 m127 [(x123.getD 0 .any), (x123.getD 1 .any), (x123.getD 2 .any), v155] st154) fun (k156 : St → Prop) => Cal w0 n_maint_Log_Get [(x123.getD 1 .any), (x123.getD 3 .any)] st124 fun v157 st158 =>
    Ext v157 0 fun v159 =>
    Ext v157 1 fun v160 =>
    New st158 [(.int .i64 0), (.int .i64 0), .nils, (.str []), (.str [])] fun v161 st162 =>
    Sto st162 v161 v159 5 fun v164 st163 =>
    OptK (bin .int .neq v160 (.int .i64 0)) fun v182 =>
    AsBool v182 fun b183 => Br (b183 == false) (
    Ld st163 v161 true 5 fun v184 st185 =>
    Cal w0 n_landaulaw2_Of [v184] st185 fun v186 st187 =>
    OptK (bin .int .rem (x123.getD 3 .any) (.int .i64 3)) fun v188 =>
    OptK (bin .int .quo (x123.getD 3 .any) (.int .i64 3)) fun v189 =>
    OptK (bin .int .add (.int .i64 1) v189) fun v190 =>
    Cal w0 n_landaulaw6_R [v188, v190] st187 fun v191 st192 =>
    Cal w0 n_landaulaw2_Of [v191] st192 fun v193 st194 =>
    Cal w0 n_landauref5_SameRec [v186, v193] st194 fun v195 st196 =>
    OptK (un .not v195) fun v197 =>
    AsBool (AV.pick false (.bool true) v197) fun b198 => Br b198 (
      Q (.bool false) st196) (
      k156  st196)) (
    Q (.bool false) st163)) (
      Cal w0 n_maint_Log_Crash [(x123.getD 1 .any), (x123.getD 0 .any)] st124 fun v199 st200 =>
  Cal w0 n_maint_Log_Recover [(x123.getD 1 .any)] st200 fun v218 st219 =>
  OptK (bin .int .eql v218 (.int .i64 0)) fun v220 =>
  AsBool v220 fun b221 => Br (b221 == true) (
  Cal w0 n_maint_Log_Head [(x123.getD 1 .any)] st219 fun v222 st223 =>
  OptK (bin .int .eql v222 (x123.getD 2 .any)) fun v224 =>
  AsBool (AV.pick true v224 (.bool false)) fun b225 => Br (b225 == true) (
  Cal w0 n_maint_Log_Next [(x123.getD 1 .any)] st223 fun v226 st227 =>
  OptK (bin .int .eql v226 (x123.getD 2 .any)) fun v228 =>
  Q (AV.pick true v228 (.bool false)) st227) (
  Q (.bool false) st223)) (
  Q (.bool false) st219)))) fun (k229 : AV → St → Prop) => OptK (bin .int .lss v105 v97) fun v230 =>
  AsBool v230 fun b231 => Br (b231 == false) (
  OptK (bin .int .gtr v105 (x36.getD 4 .any)) fun v232 =>
  AsBool (AV.pick false (.bool true) v232) fun b233 => Br (b233 == false) (
  Cal w0 n_maint_Log_Next [(x36.getD 3 .any)] st106 fun v234 st235 =>
  OptK (bin .int .neq v234 v105) fun v236 =>
  k229 (AV.pick false (.bool true) v236) st235) (
  k229 (.bool true) st106)) (
  k229 (.bool true) st106))))) fun (k237 : AV → St → Prop) => OptK (bin .int .neq v25 (.int .i64 0)) fun v238 =>
  AsBool v238 fun b239 => Br (b239 == false) (
  OptK (bin .ptr .eql v24 .nilp) fun v240 =>
  k237 (AV.pick false (.bool true) v240) st23) (
  k237 (.bool true) st23))) fun (k241 : AV → St → Prop) => LenOk .slice st2 a2 fun v242 =>
  OptK (bin .int .gtr v242 (.int .i64 40)) fun v243 =>
  AsBool v243 fun b244 => Br (b244 == false) (
  LenOk .slice st2 a3 fun v245 =>
  OptK (bin .int .gtr v245 (.int .i64 20)) fun v246 =>
  AsBool (AV.pick false (.bool true) v246) fun b247 => Br (b247 == false) (
  LenOk .slice st2 a4 fun v248 =>
  OptK (bin .int .gtr v248 (.int .i64 20)) fun v249 =>
  k241 (AV.pick false (.bool true) v249) st2) (
  k241 (.bool true) st2)) (
  k241 (.bool true) st2))
theorem ok_landaulaw6_LogLasts {w0 : World} {a0 : Int} {a1 : Int} {a2 : AV} {a3 : AV} {a4 : AV} {st : St} {Q : Kont} (h : vc_landaulaw6_LogLasts w0 a0 a1 a2 a3 a4 st Q) : Cal w0 n_landaulaw6_LogLasts [(.int .u8 a0), (.int .u8 a1), a2, a3, a4] st Q :=
  acall_of_gen ann_landaulaw6_LogLasts Tryz.func4 rfl (by kernel_rfl) (cast (by kernel_rfl : vc_landaulaw6_LogLasts w0 a0 a1 a2 a3 a4 st Q = _) h)

/-! landau/landaulaw6.LogStripes -/
def ann_landaulaw6_LogStripes : Nat → List Nat
  | 20 => [7, 8, 9, 10, 12]
  | 30 => [7, 8, 9, 10, 13]
  | _ => []
def vc_landaulaw6_LogStripes (w0 : World) (a0 : Int) (a1 : Int) (a2 : Int) (st : St) (Q : Kont) : Prop :=
  Cal w0 n_landaulaw6_known [] st fun v1 st2 =>
  OptK (un .not v1) fun v3 =>
  AsBool v3 fun b4 => Br b4 (
    Q (.bool false) st2) (
    OptK (bin .int .rem (.int .u8 a0) (.int .u8 8)) fun v5 =>
  AsInt v5 fun n6 =>
  OptK (bin .int .rem (.int .u8 a1) (.int .u8 40)) fun v7 =>
  AsInt v7 fun n8 =>
  OptK (bin .int .rem (.int .i64 (IntKind.i64.wrap a2)) (.int .i64 (IntKind.i64.wrap (1 + (IntKind.i64.wrap n6))))) fun v9 =>
  Cal w0 n_maint_New [(.int .i64 (IntKind.i64.wrap (1 + (IntKind.i64.wrap n6)))), (.int .i64 100000)] st2 fun v10 st11 =>
  Ext v10 0 fun v12 =>
  Ext v10 1 fun v13 =>
  Jn (fun (j19 : AV) (st20 : St) =>
    AsBool j19 fun b21 => Br b21 (
    Q (.bool false) st20) (
    ∃ (I24 : Nat → List AV → St → Prop) (n27 : Nat), I24 n27 [(.int .i64 (IntKind.i64.wrap (1 + (IntKind.i64.wrap n6)))), (.int .i64 (IntKind.i64.wrap n8)), v9, v12, (.int .i64 0)] st20 ∧
  ∀ (n25 : Nat) (x22 : List AV) (st23 : St), I24 n25 x22 st23 →
    OptK (bin .int .lss (x22.getD 4 .any) (x22.getD 1 .any)) fun v28 =>
    AsBool v28 fun b29 => Br b29 (
      OptK (bin .int .add (x22.getD 4 .any) (.int .i64 1)) fun v30 =>
    Cal w0 n_landaulaw6_R [(.int .i64 0), v30] st23 fun v31 st32 =>
    Cal w0 n_maint_Log_Put [(x22.getD 3 .any), (x22.getD 4 .any), v31] st32 fun v33 st34 =>
    OptK (bin .int .neq v33 (.int .i64 0)) fun v35 =>
    AsBool v35 fun b36 => Br b36 (
      Q (.bool false) st34) (
      OptK (bin .int .add (x22.getD 4 .any) (.int .i64 1)) fun v37 =>
    ∃ m26, m26 < n25 ∧ I24 m26 [(x22.getD 0 .any), (x22.getD 1 .any), (x22.getD 2 .any), (x22.getD 3 .any), v37] st34)) (
      ∃ (I40 : Nat → List AV → St → Prop) (n43 : Nat), I40 n43 [(x22.getD 0 .any), (x22.getD 1 .any), (x22.getD 2 .any), (x22.getD 3 .any), (.int .i64 0)] st23 ∧
  ∀ (n41 : Nat) (x38 : List AV) (st39 : St), I40 n41 x38 st39 →
    OptK (bin .int .lss (x38.getD 4 .any) (.int .i64 8)) fun v44 =>
    AsBool v44 fun b45 => Br b45 (
      Jn (fun  (st63 : St) =>
      OptK (bin .int .add (x38.getD 4 .any) (.int .i64 1)) fun v64 =>
    ∃ m42, m42 < n41 ∧ I40 m42 [(x38.getD 0 .any), (x38.getD 1 .any), (x38.getD 2 .any), (x38.getD 3 .any), v64] st63) fun (k65 : St → Prop) => OptK (bin .int .neq (x38.getD 4 .any) (x38.getD 2 .any)) fun v85 =>
    AsBool v85 fun b86 => Br (b86 == true) (
    Cal w0 n_maint_Log_Sync [(x38.getD 3 .any), (x38.getD 4 .any)] st39 fun v87 st88 =>
    OptK (bin .int .lss (x38.getD 4 .any) (x38.getD 0 .any)) fun v89 =>
    Gs true v89 (fun b90 => Br (b90 == true) (
    OptK (bin .int .lss (x38.getD 4 .any) (x38.getD 1 .any)) fun v91 =>
    OptK (bin .bool .neq v87 (AV.pick true v91 (.bool false))) fun v92 =>
    AsBool (AV.pick true v92 (.bool false)) fun b93 => Br b93 (
      Q (.bool false) st88) (
      k65  st88)) (
    OptK (bin .bool .neq v87 (.bool false)) fun v94 =>
    AsBool (AV.pick true v94 (.bool false)) fun b95 => Br b95 (
      Q (.bool false) st88) (
      k65  st88))) (
    AsBool (.tup []) fun b96 =>
    OptK (bin .bool .neq v87 (AV.pick b96 (.tup []) (.bool false))) fun v97 =>
    AsBool (AV.pick true v97 (.bool false)) fun b98 => Br b98 (
      Q (.bool false) st88) (
      k65  st88))) (
    k65  st39)) (
      Cal w0 n_maint_Log_Head [(x38.getD 3 .any)] st39 fun v99 st100 =>
  Cal w0 n_maint_Log_Sync [(x38.getD 3 .any), (x38.getD 2 .any)] st100 fun v101 st102 =>
  OptK (minAV [(x38.getD 2 .any), (x38.getD 1 .any)]) fun v135 =>
  OptK (bin .int .eql v99 v135) fun v136 =>
  AsBool v136 fun b137 => Br (b137 == true) (
  OptK (bin .int .lss (x38.getD 2 .any) (x38.getD 1 .any)) fun v138 =>
  OptK (bin .bool .eql v101 v138) fun v139 =>
  AsBool (AV.pick true v139 (.bool false)) fun b140 => Br (b140 == true) (
  Cal w0 n_maint_Log_Head [(x38.getD 3 .any)] st102 fun v141 st142 =>
  OptK (bin .int .eql v141 (x38.getD 1 .any)) fun v143 =>
  AsBool (AV.pick true v143 (.bool false)) fun b144 => Br (b144 == true) (
  Cal w0 n_maint_Log_Sync [(x38.getD 3 .any), (x38.getD 2 .any)] st142 fun v145 st146 =>
  OptK (un .not v145) fun v147 =>
  AsBool (AV.pick true v147 (.bool false)) fun b148 => Br (b148 == true) (
  Cal w0 n_maint_Log_Next [(x38.getD 3 .any)] st146 fun v149 st150 =>
  OptK (bin .int .eql v149 (x38.getD 1 .any)) fun v151 =>
  Q (AV.pick true v151 (.bool false)) st150) (
  Q (.bool false) st146)) (
  Q (.bool false) st142)) (
  Q (.bool false) st102)) (
  Q (.bool false) st102))))) fun (k152 : AV → St → Prop) => OptK (bin .int .neq v13 (.int .i64 0)) fun v153 =>
  AsBool v153 fun b154 => Br (b154 == false) (
  OptK (bin .ptr .eql v12 .nilp) fun v155 =>
  k152 (AV.pick false (.bool true) v155) st11) (
  k152 (.bool true) st11))
theorem ok_landaulaw6_LogStripes {w0 : World} {a0 : Int} {a1 : Int} {a2 : Int} {st : St} {Q : Kont} (h : vc_landaulaw6_LogStripes w0 a0 a1 a2 st Q) : Cal w0 n_landaulaw6_LogStripes [(.int .u8 a0), (.int .u8 a1), (.int .u8 a2)] st Q :=
  acall_of_gen ann_landaulaw6_LogStripes Tryz.func5 rfl (by kernel_rfl) (cast (by kernel_rfl : vc_landaulaw6_LogStripes w0 a0 a1 a2 st Q = _) h)

/-! landau/landaulaw6.LogTrims -/
def ann_landaulaw6_LogTrims : Nat → List Nat
  | 38 => [7, 8, 10, 13, 14, 15]
  | _ => []
def vc_landaulaw6_LogTrims (w0 : World) (a0 : Int) (a1 : Int) (a2 : Int) (st : St) (Q : Kont) : Prop :=
  Cal w0 n_landaulaw6_known [] st fun v1 st2 =>
  OptK (un .not v1) fun v3 =>
  AsBool v3 fun b4 => Br b4 (
    Q (.bool false) st2) (
    OptK (bin .int .rem (.int .u8 a0) (.int .u8 30)) fun v5 =>
  AsInt v5 fun n6 =>
  Cal w0 n_landaulaw6_filled [(.int .i64 3), (.int .i64 (IntKind.i64.wrap n6))] st2 fun v7 st8 =>
  OptK (bin .ptr .eql v7 .nilp) fun v9 =>
  AsBool v9 fun b10 => Br b10 (
    Q (.bool false) st8) (
    OptK (bin .int .rem (.int .i64 (IntKind.i64.wrap a1)) (.int .i64 (IntKind.i64.wrap ((IntKind.i64.wrap n6) + 1)))) fun v11 =>
  Jn (fun (j36 : AV) (st37 : St) =>
    AsBool j36 fun b38 => Br b38 (
    Q (.bool false) st37) (
    OptK (bin .int .sub (.int .i64 (IntKind.i64.wrap n6)) v11) fun v39 =>
  OptK (bin .int .add v39 (.int .i64 1)) fun v40 =>
  OptK (bin .int .rem (.int .i64 (IntKind.i64.wrap a2)) v40) fun v41 =>
  OptK (bin .int .add v11 v41) fun v42 =>
  Jn (fun (j62 : AV) (st63 : St) =>
    AsBool j62 fun b64 => Br b64 (
    Q (.bool false) st63) (
    Cal w0 n_maint_Log_Crash [v7, .nils] st63 fun v65 st66 =>
  Cal w0 n_maint_Log_Get [v7, (.int .i64 0)] st66 fun v67 st68 =>
  Ext v67 0 fun v69 =>
  Ext v67 1 fun v70 =>
  New st68 [(.int .i64 0), (.int .i64 0), .nils, (.str []), (.str [])] fun v71 st72 =>
  Sto st72 v71 v69 5 fun v74 st73 =>
  Jn (fun (j81 : AV) (st82 : St) =>
    AsBool j81 fun b83 => Br b83 (
    Q (.bool false) st82) (
    Cal w0 n_maint_Log_Trimmed [v7] st82 fun v84 st85 =>
  Ext v84 0 fun v86 =>
  Ext v84 1 fun v87 =>
  ∃ (I90 : Nat → List AV → St → Prop) (n93 : Nat), I90 n93 [(.int .i64 (IntKind.i64.wrap n6)), v7, v42, v86, v87, (.int .i64 0)] st85 ∧
  ∀ (n91 : Nat) (x88 : List AV) (st89 : St), I90 n91 x88 st89 →
    OptK (bin .int .add (x88.getD 0 .any) (.int .i64 2)) fun v94 =>
    OptK (bin .int .lss (x88.getD 5 .any) v94) fun v95 =>
    AsBool v95 fun b96 => Br b96 (
      Jn (fun  (st135 : St) =>
      OptK (bin .int .add (x88.getD 5 .any) (.int .i64 1)) fun v136 =>
    ∃ m92, m92 < n91 ∧ I90 m92 [(x88.getD 0 .any), (x88.getD 1 .any), (x88.getD 2 .any), (x88.getD 3 .any), (x88.getD 4 .any), v136] st135) fun (k137 : St → Prop) => Cal w0 n_maint_Log_Get [(x88.getD 1 .any), (x88.getD 5 .any)] st89 fun v138 st139 =>
    Ext v138 0 fun v140 =>
    Ext v138 1 fun v141 =>
    New st139 [(.int .i64 0), (.int .i64 0), .nils, (.str []), (.str [])] fun v142 st143 =>
    Sto st143 v142 v140 5 fun v145 st144 =>
    OptK (bin .int .lss (x88.getD 5 .any) (x88.getD 2 .any)) fun v178 =>
    AsBool v178 fun b179 => Br (b179 == true) (
    OptK (bin .int .neq v141 (.int .i64 8)) fun v180 =>
    AsBool (AV.pick true v180 (.bool false)) fun b181 => Br (b181 == false) (
    OptK (bin .int .geq (x88.getD 5 .any) (x88.getD 2 .any)) fun v182 =>
    Gs true v182 (fun b183 => Br (b183 == true) (
    OptK (bin .int .lss (x88.getD 5 .any) (x88.getD 0 .any)) fun v184 =>
    Gs true (AV.pick true v184 (.bool false)) (fun b185 => Br (b185 == true) (
    OptK (bin .int .neq v141 (.int .i64 0)) fun v186 =>
    AsBool (AV.pick false (.bool true) (AV.pick true v186 (.bool false))) fun b187 => Br (b187 == false) (
    OptK (bin .int .geq (x88.getD 5 .any) (x88.getD 0 .any)) fun v188 =>
    Gs true v188 (fun b189 => Br (b189 == true) (
    OptK (bin .int .neq v141 (.int .i64 9)) fun v190 =>
    AsBool (AV.pick false (.bool true) (AV.pick true v190 (.bool false))) fun b191 => Br b191 (
      Q (.bool false) st144) (
      k137  st144)) (
    k137  st144)) (
    AsBool (.tup []) fun b192 =>
    AsBool (AV.pick false (.bool true) (AV.pick b192 (.tup []) (.bool false))) fun b193 => Br b193 (
      Q (.bool false) st144) (
      k137  st144))) (
    Q (.bool false) st144)) (
    OptK (bin .int .geq (x88.getD 5 .any) (x88.getD 0 .any)) fun v194 =>
    Gs true v194 (fun b195 => Br (b195 == true) (
    OptK (bin .int .neq v141 (.int .i64 9)) fun v196 =>
    AsBool (AV.pick false (.bool true) (AV.pick true v196 (.bool false))) fun b197 => Br b197 (
      Q (.bool false) st144) (
      k137  st144)) (
    k137  st144)) (
    AsBool (.tup []) fun b198 =>
    AsBool (AV.pick false (.bool true) (AV.pick b198 (.tup []) (.bool false))) fun b199 => Br b199 (
      Q (.bool false) st144) (
      k137  st144)))) (
    AsBool (.tup []) fun b200 =>
    AsBool (AV.pick false (.bool true) (AV.pick b200 (.tup []) (.bool false))) fun b201 => Br (b201 == false) (
    OptK (bin .int .geq (x88.getD 5 .any) (x88.getD 0 .any)) fun v202 =>
    Gs true v202 (fun b203 => Br (b203 == true) (
    OptK (bin .int .neq v141 (.int .i64 9)) fun v204 =>
    AsBool (AV.pick false (.bool true) (AV.pick true v204 (.bool false))) fun b205 => Br b205 (
      Q (.bool false) st144) (
      k137  st144)) (
    k137  st144)) (
    AsBool (.tup []) fun b206 =>
    AsBool (AV.pick false (.bool true) (AV.pick b206 (.tup []) (.bool false))) fun b207 => Br b207 (
      Q (.bool false) st144) (
      k137  st144))) (
    Q (.bool false) st144))) (
    OptK (bin .int .geq (x88.getD 5 .any) (x88.getD 0 .any)) fun v208 =>
    Gs true v208 (fun b209 => Br (b209 == true) (
    OptK (bin .int .neq v141 (.int .i64 9)) fun v210 =>
    AsBool (AV.pick false (.bool true) (AV.pick true v210 (.bool false))) fun b211 => Br b211 (
      Q (.bool false) st144) (
      k137  st144)) (
    k137  st144)) (
    AsBool (.tup []) fun b212 =>
    AsBool (AV.pick false (.bool true) (AV.pick b212 (.tup []) (.bool false))) fun b213 => Br b213 (
      Q (.bool false) st144) (
      k137  st144)))) (
    AsBool (.tup []) fun b214 =>
    Gs true (AV.pick b214 (.tup []) (.bool false)) (fun b215 => Br (b215 == true) (
    OptK (bin .int .neq v141 (.int .i64 0)) fun v216 =>
    AsBool (AV.pick false (.bool true) (AV.pick true v216 (.bool false))) fun b217 => Br (b217 == false) (
    OptK (bin .int .geq (x88.getD 5 .any) (x88.getD 0 .any)) fun v218 =>
    Gs true v218 (fun b219 => Br (b219 == true) (
    OptK (bin .int .neq v141 (.int .i64 9)) fun v220 =>
    AsBool (AV.pick false (.bool true) (AV.pick true v220 (.bool false))) fun b221 => Br b221 (
      Q (.bool false) st144) (
      k137  st144)) (
    k137  st144)) (
    AsBool (.tup []) fun b222 =>
    AsBool (AV.pick false (.bool true) (AV.pick b222 (.tup []) (.bool false))) fun b223 => Br b223 (
      Q (.bool false) st144) (
      k137  st144))) (
    Q (.bool false) st144)) (
    OptK (bin .int .geq (x88.getD 5 .any) (x88.getD 0 .any)) fun v224 =>
    Gs true v224 (fun b225 => Br (b225 == true) (
    OptK (bin .int .neq v141 (.int .i64 9)) fun v226 =>
    AsBool (AV.pick false (.bool true) (AV.pick true v226 (.bool false))) fun b227 => Br b227 (
      Q (.bool false) st144) (
      k137  st144)) (
    k137  st144)) (
    AsBool (.tup []) fun b228 =>
    AsBool (AV.pick false (.bool true) (AV.pick b228 (.tup []) (.bool false))) fun b229 => Br b229 (
      Q (.bool false) st144) (
      k137  st144)))) (
    AsBool (.tup []) fun b230 =>
    AsBool (AV.pick false (.bool true) (AV.pick b230 (.tup []) (.bool false))) fun b231 => Br (b231 == false) (
    OptK (bin .int .geq (x88.getD 5 .any) (x88.getD 0 .any)) fun v232 =>
    Gs true v232 (fun b233 => Br (b233 == true) (
    OptK (bin .int .neq v141 (.int .i64 9)) fun v234 =>
    AsBool (AV.pick false (.bool true) (AV.pick true v234 (.bool false))) fun b235 => Br b235 (
      Q (.bool false) st144) (
      k137  st144)) (
    k137  st144)) (
    AsBool (.tup []) fun b236 =>
    AsBool (AV.pick false (.bool true) (AV.pick b236 (.tup []) (.bool false))) fun b237 => Br b237 (
      Q (.bool false) st144) (
      k137  st144))) (
    Q (.bool false) st144)))) (
    Q (.bool false) st144)) (
    OptK (bin .int .geq (x88.getD 5 .any) (x88.getD 2 .any)) fun v238 =>
    Gs true v238 (fun b239 => Br (b239 == true) (
    OptK (bin .int .lss (x88.getD 5 .any) (x88.getD 0 .any)) fun v240 =>
    Gs true (AV.pick true v240 (.bool false)) (fun b241 => Br (b241 == true) (
    OptK (bin .int .neq v141 (.int .i64 0)) fun v242 =>
    AsBool (AV.pick false (.bool true) (AV.pick true v242 (.bool false))) fun b243 => Br (b243 == false) (
    OptK (bin .int .geq (x88.getD 5 .any) (x88.getD 0 .any)) fun v244 =>
    Gs true v244 (fun b245 => Br (b245 == true) (
    OptK (bin .int .neq v141 (.int .i64 9)) fun v246 =>
    AsBool (AV.pick false (.bool true) (AV.pick true v246 (.bool false))) fun b247 => Br b247 (
      Q (.bool false) st144) (
      k137  st144)) (
    k137  st144)) (
    AsBool (.tup []) fun b248 =>
    AsBool (AV.pick false (.bool true) (AV.pick b248 (.tup []) (.bool false))) fun b249 => Br b249 (
      Q (.bool false) st144) (
      k137  st144))) (
    Q (.bool false) st144)) (
    OptK (bin .int .geq (x88.getD 5 .any) (x88.getD 0 .any)) fun v250 =>
    Gs true v250 (fun b251 => Br (b251 == true) (
    OptK (bin .int .neq v141 (.int .i64 9)) fun v252 =>
    AsBool (AV.pick false (.bool true) (AV.pick true v252 (.bool false))) fun b253 => Br b253 (
      Q (.bool false) st144) (
      k137  st144)) (
    k137  st144)) (
    AsBool (.tup []) fun b254 =>
    AsBool (AV.pick false (.bool true) (AV.pick b254 (.tup []) (.bool false))) fun b255 => Br b255 (
      Q (.bool false) st144) (
      k137  st144)))) (
    AsBool (.tup []) fun b256 =>
    AsBool (AV.pick false (.bool true) (AV.pick b256 (.tup []) (.bool false))) fun b257 => Br (b257 == false) (
    OptK (bin .int .geq (x88.getD 5 .any) (x88.getD 0 .any)) fun v258 =>
    Gs true v258 (fun b259 => Br (b259 == true) (
    OptK (bin .int .neq v141 (.int .i64 9)) fun v260 =>
    AsBool (AV.pick false (.bool true) (AV.pick true v260 (.bool false))) fun b261 => Br b261 (
      Q (.bool false) st144) (
      k137  st144)) (
    k137  st144)) (
    AsBool (.tup []) fun b262 =>
    AsBool (AV.pick false (.bool true) (AV.pick b262 (.tup []) (.bool false))) fun b263 => Br b263 (
      Q (.bool false) st144) (
      k137  st144))) (
    Q (.bool false) st144))) (
    OptK (bin .int .geq (x88.getD 5 .any) (x88.getD 0 .any)) fun v264 =>
    Gs true v264 (fun b265 => Br (b265 == true) (
    OptK (bin .int .neq v141 (.int .i64 9)) fun v266 =>
    AsBool (AV.pick false (.bool true) (AV.pick true v266 (.bool false))) fun b267 => Br b267 (
      Q (.bool false) st144) (
      k137  st144)) (
    k137  st144)) (
    AsBool (.tup []) fun b268 =>
    AsBool (AV.pick false (.bool true) (AV.pick b268 (.tup []) (.bool false))) fun b269 => Br b269 (
      Q (.bool false) st144) (
      k137  st144)))) (
    AsBool (.tup []) fun b270 =>
    Gs true (AV.pick b270 (.tup []) (.bool false)) (fun b271 => Br (b271 == true) (
    OptK (bin .int .neq v141 (.int .i64 0)) fun v272 =>
    AsBool (AV.pick false (.bool true) (AV.pick true v272 (.bool false))) fun b273 => Br (b273 == false) (
    OptK (bin .int .geq (x88.getD 5 .any) (x88.getD 0 .any)) fun v274 =>
    Gs true v274 (fun b275 => Br (b275 == true) (
    OptK (bin .int .neq v141 (.int .i64 9)) fun v276 =>
    AsBool (AV.pick false (.bool true) (AV.pick true v276 (.bool false))) fun b277 => Br b277 (
      Q (.bool false) st144) (
      k137  st144)) (
    k137  st144)) (
    AsBool (.tup []) fun b278 =>
    AsBool (AV.pick false (.bool true) (AV.pick b278 (.tup []) (.bool false))) fun b279 => Br b279 (
      Q (.bool false) st144) (
      k137  st144))) (
    Q (.bool false) st144)) (
    OptK (bin .int .geq (x88.getD 5 .any) (x88.getD 0 .any)) fun v280 =>
    Gs true v280 (fun b281 => Br (b281 == true) (
    OptK (bin .int .neq v141 (.int .i64 9)) fun v282 =>
    AsBool (AV.pick false (.bool true) (AV.pick true v282 (.bool false))) fun b283 => Br b283 (
      Q (.bool false) st144) (
      k137  st144)) (
    k137  st144)) (
    AsBool (.tup []) fun b284 =>
    AsBool (AV.pick false (.bool true) (AV.pick b284 (.tup []) (.bool false))) fun b285 => Br b285 (
      Q (.bool false) st144) (
      k137  st144)))) (
    AsBool (.tup []) fun b286 =>
    AsBool (AV.pick false (.bool true) (AV.pick b286 (.tup []) (.bool false))) fun b287 => Br (b287 == false) (
    OptK (bin .int .geq (x88.getD 5 .any) (x88.getD 0 .any)) fun v288 =>
    Gs true v288 (fun b289 => Br (b289 == true) (
    OptK (bin .int .neq v141 (.int .i64 9)) fun v290 =>
    AsBool (AV.pick false (.bool true) (AV.pick true v290 (.bool false))) fun b291 => Br b291 (
      Q (.bool false) st144) (
      k137  st144)) (
    k137  st144)) (
    AsBool (.tup []) fun b292 =>
    AsBool (AV.pick false (.bool true) (AV.pick b292 (.tup []) (.bool false))) fun b293 => Br b293 (
      Q (.bool false) st144) (
      k137  st144))) (
    Q (.bool false) st144))))) (
      OptK (bin .int .eql (x88.getD 3 .any) (x88.getD 2 .any)) fun v318 =>
  AsBool v318 fun b319 => Br (b319 == true) (
  OptK (fillAV (fun i => some (i * 1, 1)) [(.int .i64 0)] [(0, (x88.getD 2 .any))]) fun c321 =>
  Psh st89 (.cells false c321) fun st320 =>
  Cal w0 n_landauref5_SameVec [(x88.getD 4 .any), (.slice st89.hp.length 0 1 1 true 1)] st320 fun v322 st323 =>
  AsBool (AV.pick true v322 (.bool false)) fun b324 => Br (b324 == true) (
  Cal w0 n_maint_Log_Vec [(x88.getD 1 .any)] st323 fun v325 st326 =>
  OptK (fillAV (fun i => some (i * 1, 1)) [(.int .i64 0)] [(0, (x88.getD 0 .any))]) fun c328 =>
  Psh st326 (.cells false c328) fun st327 =>
  Cal w0 n_landauref5_SameVec [v325, (.slice st326.hp.length 0 1 1 true 1)] st327 fun v329 st330 =>
  AsBool (AV.pick true v329 (.bool false)) fun b331 => Br (b331 == true) (
  Cal w0 n_maint_Log_Head [(x88.getD 1 .any)] st330 fun v332 st333 =>
  OptK (bin .int .eql v332 (x88.getD 0 .any)) fun v334 =>
  Q (AV.pick true v334 (.bool false)) st333) (
  Q (.bool false) st330)) (
  Q (.bool false) st323)) (
  Q (.bool false) st89)))) fun (k335 : AV → St → Prop) => Cal w0 n_maint_Log_Recover [v7] st73 fun v336 st337 =>
  OptK (bin .int .neq v336 (.int .i64 0)) fun v338 =>
  AsBool v338 fun b339 => Br (b339 == false) (
  OptK (bin .int .neq v70 (.int .i64 11)) fun v340 =>
  k335 (AV.pick false (.bool true) v340) st337) (
  k335 (.bool true) st337))) fun (k341 : AV → St → Prop) => OptK (fillAV (fun i => some (i * 1, 1)) [(.int .i64 0)] [(0, v42)]) fun c343 =>
  Psh st37 (.cells false c343) fun st342 =>
  Cal w0 n_maint_Log_Trim [v7, v42, (.slice st37.hp.length 0 1 1 true 1)] st342 fun v344 st345 =>
  OptK (bin .int .neq v344 (.int .i64 0)) fun v346 =>
  AsBool v346 fun b347 => Br (b347 == false) (
  OptK (bin .int .gtr v42 (.int .i64 0)) fun v348 =>
  Gs true v348 (fun b349 => Br (b349 == true) (
  OptK (bin .int .sub v42 (.int .i64 1)) fun v350 =>
  OptK (bin .int .sub v42 (.int .i64 1)) fun v351 =>
  OptK (fillAV (fun i => some (i * 1, 1)) [(.int .i64 0)] [(0, v351)]) fun c353 =>
  Psh st345 (.cells false c353) fun st352 =>
  Cal w0 n_maint_Log_Trim [v7, v350, (.slice st345.hp.length 0 1 1 true 1)] st352 fun v354 st355 =>
  OptK (bin .int .neq v354 (.int .i64 1)) fun v356 =>
  k341 (AV.pick false (.bool true) (AV.pick true v356 (.bool false))) st355) (
  k341 (.bool false) st345)) (
  AsBool (.tup []) fun b357 =>
  k341 (AV.pick false (.bool true) (AV.pick b357 (.tup []) (.bool false))) st345)) (
  k341 (.bool true) st345))) fun (k358 : AV → St → Prop) => Psh st8 (.cells false [(.int .i64 (IntKind.i64.wrap ((IntKind.i64.wrap n6) + 1)))]) fun st359 =>
  Cal w0 n_maint_Log_Trim [v7, (.int .i64 (IntKind.i64.wrap ((IntKind.i64.wrap n6) + 1))), (.slice st8.hp.length 0 1 1 true 1)] st359 fun v360 st361 =>
  OptK (bin .int .neq v360 (.int .i64 1)) fun v362 =>
  AsBool v362 fun b363 => Br (b363 == false) (
  OptK (bin .int .add v11 (.int .i64 1)) fun v364 =>
  OptK (fillAV (fun i => some (i * 1, 1)) [(.int .i64 0)] [(0, v364)]) fun c366 =>
  Psh st361 (.cells false c366) fun st365 =>
  Cal w0 n_maint_Log_Trim [v7, v11, (.slice st361.hp.length 0 1 1 true 1)] st365 fun v367 st368 =>
  OptK (bin .int .neq v367 (.int .i64 1)) fun v369 =>
  AsBool (AV.pick false (.bool true) v369) fun b370 => Br (b370 == false) (
  OptK (fillAV (fun i => some (i * 1, 1)) [(.int .i64 0)] [(0, v11)]) fun c372 =>
  Psh st368 (.cells false c372) fun st371 =>
  Cal w0 n_maint_Log_Trim [v7, v11, (.slice st368.hp.length 0 1 1 true 1)] st371 fun v373 st374 =>
  OptK (bin .int .neq v373 (.int .i64 0)) fun v375 =>
  k358 (AV.pick false (.bool true) v375) st374) (
  k358 (.bool true) st368)) (
  k358 (.bool true) st361)))
theorem ok_landaulaw6_LogTrims {w0 : World} {a0 : Int} {a1 : Int} {a2 : Int} {st : St} {Q : Kont} (h : vc_landaulaw6_LogTrims w0 a0 a1 a2 st Q) : Cal w0 n_landaulaw6_LogTrims [(.int .u8 a0), (.int .u8 a1), (.int .u8 a2)] st Q :=
  acall_of_gen ann_landaulaw6_LogTrims Tryz.func6 rfl (by kernel_rfl) (cast (by kernel_rfl : vc_landaulaw6_LogTrims w0 a0 a1 a2 st Q = _) h)

/-! landau/landaulaw6.LogResizes -/
def ann_landaulaw6_LogResizes : Nat → List Nat
  | 20 => [0, 3, 4, 5]
  | 26 => [0, 3, 4, 5, 6]
  | 42 => [0, 3, 4, 5, 7]
  | 49 => [0, 1, 2, 3, 4, 5, 6, 7, 8, 9, 10, 11, 13, 14, 15, 16, 17, 18, 19, 12, 20, 21, 22, 23, 25, 26, 24, 27, 28, 29, 30, 32, 31, 33, 34]
  | 62 => [4, 8, 9, 10, 11]
  | _ => []
def vc_landaulaw6_LogResizes (w0 : World) (a0 : AV) (st : St) (Q : Kont) : Prop :=
  Cal w0 n_landaulaw6_known [] st fun v1 st2 =>
  OptK (un .not v1) fun v3 =>
  AsBool v3 fun b4 => Br b4 (
    Q (.bool false) st2) (
    LenOk .slice st2 a0 fun v5 =>
  OptK (bin .int .gtr v5 (.int .i64 12)) fun v6 =>
  AsBool v6 fun b7 => Br b7 (
    Q (.bool true) st2) (
    Cal w0 n_landaulaw6_filled [(.int .i64 2), (.int .i64 0)] st2 fun v8 st9 =>
  OptK (bin .ptr .eql v8 .nilp) fun v10 =>
  AsBool v10 fun b11 => Br b11 (
    Q (.bool false) st9) (
    ∃ (I14 : Nat → List AV → St → Prop) (n17 : Nat), I14 n17 [a0, v8, (.int .i64 0), (.int .i64 0)] st9 ∧
  ∀ (n15 : Nat) (x12 : List AV) (st13 : St), I14 n15 x12 st13 →
    LenOk .slice st13 (x12.getD 0 .any) fun v18 =>
    OptK (bin .int .lss (x12.getD 3 .any) v18) fun v19 =>
    AsBool v19 fun b20 => Br b20 (
      ∃ (I71 : Nat → List AV → St → Prop) (n74 : Nat), I71 n74 [(x12.getD 0 .any), (x12.getD 1 .any), (x12.getD 2 .any), (x12.getD 3 .any), (.int .i64 0)] st13 ∧
    ∀ (n72 : Nat) (x69 : List AV) (st70 : St), I71 n72 x69 st70 →
      Iaddr (x69.getD 0 .any) (x69.getD 3 .any) none 1 fun v75 =>
      Ld st70 v75 false 1 fun v76 st77 =>
      OptK (bin .int .quo v76 (.int .u8 8)) fun v78 =>
      OptK (bin .int .rem v78 (.int .u8 5)) fun v79 =>
      AsInt v79 fun n80 =>
      OptK (bin .int .lss (x69.getD 4 .any) (.int .i64 (IntKind.i64.wrap n80))) fun v81 =>
      AsBool v81 fun b82 => Br b82 (
        OptK (bin .int .add (x69.getD 2 .any) (.int .i64 1)) fun v83 =>
      Cal w0 n_landaulaw6_R [(.int .i64 0), v83] st77 fun v84 st85 =>
      Cal w0 n_maint_Log_Put [(x69.getD 1 .any), (x69.getD 2 .any), v84] st85 fun v86 st87 =>
      OptK (bin .int .neq v86 (.int .i64 0)) fun v88 =>
      AsBool v88 fun b89 => Br b89 (
        Q (.bool false) st87) (
        OptK (bin .int .add (x69.getD 2 .any) (.int .i64 1)) fun v90 =>
      OptK (bin .int .add (x69.getD 4 .any) (.int .i64 1)) fun v91 =>
      ∃ m73, m73 < n72 ∧ I71 m73 [(x69.getD 0 .any), (x69.getD 1 .any), v90, (x69.getD 3 .any), v91] st87)) (
        Jn (fun (j110 : AV) (st111 : St) =>
      AsBool j110 fun b112 => Br b112 (
      Q (.bool false) st111) (
      ∃ (I115 : Nat → List AV → St → Prop) (n118 : Nat), I115 n118 [(x69.getD 0 .any), (x69.getD 1 .any), (x69.getD 2 .any), (x69.getD 3 .any), (.int .i64 0)] st111 ∧
    ∀ (n116 : Nat) (x113 : List AV) (st114 : St), I115 n116 x113 st114 →
      OptK (bin .int .lss (x113.getD 4 .any) (.int .i64 8)) fun v119 =>
      AsBool v119 fun b120 => Br b120 (
        Cal w0 n_maint_Log_Sync [(x113.getD 1 .any), (x113.getD 4 .any)] st114 fun v121 st122 =>
      OptK (bin .int .add (x113.getD 4 .any) (.int .i64 1)) fun v123 =>
      ∃ m117, m117 < n116 ∧ I115 m117 [(x113.getD 0 .any), (x113.getD 1 .any), (x113.getD 2 .any), (x113.getD 3 .any), v123] st122) (
        Jn (fun (j158 : AV) (st159 : St) =>
      AsBool j158 fun b160 => Br b160 (
      Q (.bool false) st159) (
      OptK (bin .int .add (x113.getD 3 .any) (.int .i64 1)) fun v161 =>
    ∃ m16, m16 < n15 ∧ I14 m16 [(x113.getD 0 .any), (x113.getD 1 .any), (x113.getD 2 .any), v161] st159)) fun (k162 : AV → St → Prop) => Iaddr (x113.getD 0 .any) (x113.getD 3 .any) none 1 fun v163 =>
    Ld st114 v163 false 1 fun v164 st165 =>
    OptK (bin .int .rem v164 (.int .u8 8)) fun v166 =>
    AsInt v166 fun n167 =>
    Cal w0 n_maint_Log_Resize [(x113.getD 1 .any), (.int .i64 (IntKind.i64.wrap (1 + (IntKind.i64.wrap n167))))] st114 fun v168 st169 =>
    OptK (bin .int .neq v168 (.int .i64 0)) fun v170 =>
    AsBool v170 fun b171 => Br (b171 == false) (
    Iaddr (x113.getD 0 .any) (x113.getD 3 .any) none 1 fun v172 =>
    Ld st169 v172 false 1 fun v173 st174 =>
    OptK (bin .int .rem v173 (.int .u8 8)) fun v175 =>
    AsInt v175 fun n176 =>
    Cal w0 n_maint_Log_Stripes [(x113.getD 1 .any)] st169 fun v177 st178 =>
    (Ld st178 v172 false 1 fun v179 st180 =>
    (v179 : AV) = v173) ∧
    OptK (bin .int .neq v177 (.int .i64 (IntKind.i64.wrap (1 + (IntKind.i64.wrap n176))))) fun v181 =>
    AsBool (AV.pick false (.bool true) v181) fun b182 => Br (b182 == false) (
    OptK (bin .int .add (x113.getD 3 .any) (.int .i64 2)) fun v183 =>
    Cal w0 n_maint_Log_Epoch [(x113.getD 1 .any)] st178 fun v184 st185 =>
    OptK (bin .int .neq v184 v183) fun v186 =>
    AsBool (AV.pick false (.bool true) v186) fun b187 => Br (b187 == false) (
    Cal w0 n_maint_Log_Head [(x113.getD 1 .any)] st185 fun v188 st189 =>
    OptK (bin .int .neq v188 (x113.getD 2 .any)) fun v190 =>
    k162 (AV.pick false (.bool true) v190) st189) (
    k162 (.bool true) st185)) (
    k162 (.bool true) st178)) (
    (((.tup []) : AV) = (.tup [])) ∧
    k162 (.bool true) st169)))) fun (k191 : AV → St → Prop) => Iaddr (x69.getD 0 .any) (x69.getD 3 .any) none 1 fun v192 =>
    Ld st77 v192 false 1 fun v193 st194 =>
    OptK (bin .int .quo v193 (.int .u8 8)) fun v195 =>
    OptK (bin .int .rem v195 (.int .u8 5)) fun v196 =>
    OptK (bin .int .gtr v196 (.int .u8 0)) fun v197 =>
    AsBool v197 fun b198 => Br (b198 == true) (
    Iaddr (x69.getD 0 .any) (x69.getD 3 .any) none 1 fun v199 =>
    Ld st194 v199 false 1 fun v200 st201 =>
    OptK (bin .int .rem v200 (.int .u8 8)) fun v202 =>
    AsInt v202 fun n203 =>
    Cal w0 n_maint_Log_Resize [(x69.getD 1 .any), (.int .i64 (IntKind.i64.wrap (1 + (IntKind.i64.wrap n203))))] st201 fun v204 st205 =>
    OptK (bin .int .neq v204 (.int .i64 12)) fun v206 =>
    k191 (AV.pick true v206 (.bool false)) st205) (
    k191 (.bool false) st194))) (
      Cal w0 n_maint_Log_Crash [(x12.getD 1 .any), .nils] st13 fun v207 st208 =>
  Jn (fun (j225 : AV) (st226 : St) =>
    AsBool j225 fun b227 => Br b227 (
    Q (.bool false) st226) (
    Cal w0 n_maint_Log_All [(x12.getD 1 .any), (.int .i64 0)] st226 fun v228 st229 =>
  Cal w0 n_landaulaw2_Rows [v228, (.int .i64 100)] st229 fun v230 st231 =>
  Ext v230 0 fun v232 =>
  Ext v230 1 fun v233 =>
  Ext v230 2 fun v234 =>
  ∃ (I237 : Nat → List AV → St → Prop) (n240 : Nat), I237 n240 [(x12.getD 2 .any), v232, v233, v234, (.int .i64 0)] st231 ∧
  ∀ (n238 : Nat) (x235 : List AV) (st236 : St), I237 n238 x235 st236 →
    LenOk .slice st236 (x235.getD 2 .any) fun v241 =>
    OptK (bin .int .lss (x235.getD 4 .any) v241) fun v242 =>
    AsBool v242 fun b243 => Br b243 (
      Jn (fun  (st260 : St) =>
      OptK (bin .int .add (x235.getD 4 .any) (.int .i64 1)) fun v261 =>
    ∃ m239, m239 < n238 ∧ I237 m239 [(x235.getD 0 .any), (x235.getD 1 .any), (x235.getD 2 .any), (x235.getD 3 .any), v261] st260) fun (k262 : St → Prop) => Iaddr (x235.getD 2 .any) (x235.getD 4 .any) none 5 fun v281 =>
    Faddr v281 1 fun v282 =>
    Ld st236 v282 false 1 fun v283 st284 =>
    OptK (bin .int .add (x235.getD 4 .any) (.int .i64 1)) fun v285 =>
    OptK (bin .int .neq v283 v285) fun v286 =>
    AsBool v286 fun b287 => Br (b287 == false) (
    Iaddr (x235.getD 1 .any) (x235.getD 4 .any) none 1 fun v288 =>
    Ld st284 v288 false 1 fun v289 st290 =>
    OptK (bin .int .neq v289 (x235.getD 4 .any)) fun v291 =>
    AsBool (AV.pick false (.bool true) v291) fun b292 => Br b292 (
      Q (.bool false) st290) (
      k262  st290)) (
    Q (.bool false) st284)) (
      AsBool (x235.getD 3 .any) fun b302 => Br (b302 == true) (
  LenOk .slice st236 (x235.getD 2 .any) fun v303 =>
  OptK (bin .int .eql v303 (x235.getD 0 .any)) fun v304 =>
  Q (AV.pick true v304 (.bool false)) st236) (
  Q (.bool false) st236)))) fun (k305 : AV → St → Prop) => Cal w0 n_maint_Log_Recover [(x12.getD 1 .any)] st208 fun v306 st307 =>
  OptK (bin .int .neq v306 (.int .i64 0)) fun v308 =>
  AsBool v308 fun b309 => Br (b309 == false) (
  Cal w0 n_maint_Log_Epoch [(x12.getD 1 .any)] st307 fun v310 st311 =>
  LenOk .slice st311 (x12.getD 0 .any) fun v312 =>
  OptK (bin .int .add v312 (.int .i64 1)) fun v313 =>
  OptK (bin .int .neq v310 v313) fun v314 =>
  AsBool (AV.pick false (.bool true) v314) fun b315 => Br (b315 == false) (
  Cal w0 n_maint_Log_Head [(x12.getD 1 .any)] st311 fun v316 st317 =>
  OptK (bin .int .neq v316 (x12.getD 2 .any)) fun v318 =>
  k305 (AV.pick false (.bool true) v318) st317) (
  k305 (.bool true) st311)) (
  k305 (.bool true) st307)))))
theorem ok_landaulaw6_LogResizes {w0 : World} {a0 : AV} {st : St} {Q : Kont} (h : vc_landaulaw6_LogResizes w0 a0 st Q) : Cal w0 n_landaulaw6_LogResizes [a0] st Q :=
  acall_of_gen ann_landaulaw6_LogResizes Tryz.func7 rfl (by kernel_rfl) (cast (by kernel_rfl : vc_landaulaw6_LogResizes w0 a0 st Q = _) h)

/-! landau/landaulaw6.LogHoles -/
def ann_landaulaw6_LogHoles : Nat → List Nat
  | 18 => [2, 7, 8, 9, 11]
  | 30 => [2, 8, 9, 12, 13]
  | 50 => [9, 12, 14]
  | 60 => [9, 12, 15]
  | 80 => [12, 16, 17, 19]
  | _ => []
def vc_landaulaw6_LogHoles (w0 : World) (a0 : Int) (a1 : Int) (a2 : Int) (st : St) (Q : Kont) : Prop :=
  Cal w0 n_landaulaw6_known [] st fun v1 st2 =>
  OptK (un .not v1) fun v3 =>
  AsBool v3 fun b4 => Br b4 (
    Q (.bool false) st2) (
    OptK (bin .int .rem (.int .u8 a0) (.int .u8 8)) fun v5 =>
  AsInt v5 fun n6 =>
  OptK (bin .int .rem (.int .u8 a1) (.int .u8 40)) fun v7 =>
  AsInt v7 fun n8 =>
  Cal w0 n_maint_New [(.int .i64 (IntKind.i64.wrap (1 + (IntKind.i64.wrap n6)))), (.int .i64 100000)] st2 fun v9 st10 =>
  Ext v9 0 fun v11 =>
  Ext v9 1 fun v12 =>
  Jn (fun (j18 : AV) (st19 : St) =>
    AsBool j18 fun b20 => Br b20 (
    Q (.bool false) st19) (
    ∃ (I23 : Nat → List AV → St → Prop) (n26 : Nat), I23 n26 [(.int .u8 a2), (.int .i64 (IntKind.i64.wrap (1 + (IntKind.i64.wrap n6)))), (.int .i64 (IntKind.i64.wrap n8)), v11, (.int .i64 0)] st19 ∧
  ∀ (n24 : Nat) (x21 : List AV) (st22 : St), I23 n24 x21 st22 →
    OptK (bin .int .lss (x21.getD 4 .any) (x21.getD 2 .any)) fun v27 =>
    AsBool v27 fun b28 => Br b28 (
      OptK (bin .int .add (x21.getD 4 .any) (.int .i64 1)) fun v29 =>
    Cal w0 n_landaulaw6_R [(.int .i64 0), v29] st22 fun v30 st31 =>
    Cal w0 n_maint_Log_Put [(x21.getD 3 .any), (x21.getD 4 .any), v30] st31 fun v32 st33 =>
    OptK (bin .int .neq v32 (.int .i64 0)) fun v34 =>
    AsBool v34 fun b35 => Br b35 (
      Q (.bool false) st33) (
      OptK (bin .int .add (x21.getD 4 .any) (.int .i64 1)) fun v36 =>
    ∃ m25, m25 < n24 ∧ I23 m25 [(x21.getD 0 .any), (x21.getD 1 .any), (x21.getD 2 .any), (x21.getD 3 .any), v36] st33)) (
      OptK (bin .int .sub (x21.getD 1 .any) (.int .i64 1)) fun v37 =>
  ∃ (I40 : Nat → List AV → St → Prop) (n43 : Nat), I40 n43 [(x21.getD 0 .any), (x21.getD 2 .any), (x21.getD 3 .any), (x21.getD 2 .any), v37] st22 ∧
  ∀ (n41 : Nat) (x38 : List AV) (st39 : St), I40 n41 x38 st39 →
    OptK (bin .int .geq (x38.getD 4 .any) (.int .i64 0)) fun v44 =>
    AsBool v44 fun b45 => Br b45 (
      Jn (fun (j46 : AV) (st60 : St) =>
      OptK (bin .int .sub (x38.getD 4 .any) (.int .i64 1)) fun v61 =>
    ∃ m42, m42 < n41 ∧ I40 m42 [(x38.getD 0 .any), (x38.getD 1 .any), (x38.getD 2 .any), j46, v61] st60) fun (k62 : AV → St → Prop) => AsInt (x38.getD 4 .any) fun n63 =>
    OptK (bin .int .shr (x38.getD 0 .any) (.int .u64 (IntKind.u64.wrap n63))) fun v64 =>
    OptK (bin .int .and v64 (.int .u8 1)) fun v65 =>
    OptK (bin .int .eql v65 (.int .u8 1)) fun v66 =>
    AsBool v66 fun b67 => Br b67 (
      Cal w0 n_maint_Log_Sync [(x38.getD 2 .any), (x38.getD 4 .any)] st39 fun v77 st78 =>
      k62 (x38.getD 3 .any) st78) (
      OptK (bin .int .lss (x38.getD 4 .any) (x38.getD 1 .any)) fun v79 =>
      AsBool v79 fun b80 => Br b80 (
        k62 (x38.getD 4 .any) st39) (
        k62 (x38.getD 3 .any) st39))) (
      Cal w0 n_maint_Log_Crash [(x38.getD 2 .any), .nils] st39 fun v84 st85 =>
  Jn (fun (j100 : AV) (st101 : St) =>
    AsBool j100 fun b102 => Br b102 (
    Q (.bool false) st101) (
    ∃ (I105 : Nat → List AV → St → Prop) (n108 : Nat), I105 n108 [(x38.getD 2 .any), (x38.getD 3 .any), (x38.getD 3 .any)] st101 ∧
  ∀ (n106 : Nat) (x103 : List AV) (st104 : St), I105 n106 x103 st104 →
    OptK (bin .int .add (x103.getD 1 .any) (.int .i64 3)) fun v109 =>
    OptK (bin .int .lss (x103.getD 2 .any) v109) fun v110 =>
    AsBool v110 fun b111 => Br b111 (
      OptK (bin .int .sub (x103.getD 2 .any) (x103.getD 1 .any)) fun v112 =>
    OptK (bin .int .add v112 (.int .i64 1)) fun v113 =>
    Cal w0 n_landaulaw6_R [(.int .i64 1), v113] st104 fun v114 st115 =>
    Cal w0 n_maint_Log_Put [(x103.getD 0 .any), (x103.getD 2 .any), v114] st115 fun v116 st117 =>
    OptK (bin .int .neq v116 (.int .i64 0)) fun v118 =>
    AsBool v118 fun b119 => Br b119 (
      Q (.bool false) st117) (
      OptK (bin .int .add (x103.getD 2 .any) (.int .i64 1)) fun v120 =>
    ∃ m107, m107 < n106 ∧ I105 m107 [(x103.getD 0 .any), (x103.getD 1 .any), v120] st117)) (
      ∃ (I123 : Nat → List AV → St → Prop) (n126 : Nat), I123 n126 [(x103.getD 0 .any), (x103.getD 1 .any), (.int .i64 0)] st104 ∧
  ∀ (n124 : Nat) (x121 : List AV) (st122 : St), I123 n124 x121 st122 →
    OptK (bin .int .lss (x121.getD 2 .any) (.int .i64 8)) fun v127 =>
    AsBool v127 fun b128 => Br b128 (
      Cal w0 n_maint_Log_Sync [(x121.getD 0 .any), (x121.getD 2 .any)] st122 fun v129 st130 =>
    OptK (bin .int .add (x121.getD 2 .any) (.int .i64 1)) fun v131 =>
    ∃ m125, m125 < n124 ∧ I123 m125 [(x121.getD 0 .any), (x121.getD 1 .any), v131] st130) (
      Cal w0 n_maint_Log_Crash [(x121.getD 0 .any), .nils] st122 fun v132 st133 =>
  Cal w0 n_maint_Log_Recover [(x121.getD 0 .any)] st133 fun v134 st135 =>
  OptK (bin .int .neq v134 (.int .i64 0)) fun v136 =>
  AsBool v136 fun b137 => Br b137 (
    Q (.bool false) st135) (
    Cal w0 n_maint_Log_All [(x121.getD 0 .any), (.int .i64 0)] st135 fun v138 st139 =>
  Cal w0 n_landaulaw2_Rows [v138, (.int .i64 100)] st139 fun v140 st141 =>
  Ext v140 0 fun v142 =>
  Ext v140 1 fun v143 =>
  Ext v140 2 fun v144 =>
  Jn (fun (j160 : AV) (st161 : St) =>
    AsBool j160 fun b162 => Br b162 (
    Q (.bool false) st161) (
    ∃ (I165 : Nat → List AV → St → Prop) (n168 : Nat), I165 n168 [(x121.getD 1 .any), v142, v143, (.int .i64 0)] st161 ∧
  ∀ (n166 : Nat) (x163 : List AV) (st164 : St), I165 n166 x163 st164 →
    OptK (bin .int .add (x163.getD 0 .any) (.int .i64 3)) fun v169 =>
    OptK (bin .int .lss (x163.getD 3 .any) v169) fun v170 =>
    AsBool v170 fun b171 => Br b171 (
      Jn (fun  (st226 : St) =>
      OptK (bin .int .add (x163.getD 3 .any) (.int .i64 1)) fun v227 =>
    ∃ m167, m167 < n166 ∧ I165 m167 [(x163.getD 0 .any), (x163.getD 1 .any), (x163.getD 2 .any), v227] st226) fun (k228 : St → Prop) => Iaddr (x163.getD 1 .any) (x163.getD 3 .any) none 1 fun v285 =>
    Ld st164 v285 false 1 fun v286 st287 =>
    OptK (bin .int .neq v286 (x163.getD 3 .any)) fun v288 =>
    AsBool v288 fun b289 => Br (b289 == false) (
    OptK (bin .int .lss (x163.getD 3 .any) (x163.getD 0 .any)) fun v290 =>
    Gs true v290 (fun b291 => Br (b291 == true) (
    Iaddr (x163.getD 2 .any) (x163.getD 3 .any) none 5 fun v292 =>
    Faddr v292 0 fun v293 =>
    Ld st287 v293 false 1 fun v294 st295 =>
    OptK (bin .int .neq v294 (.int .i64 0)) fun v296 =>
    Gs true v296 (fun b297 => Br (b297 == false) (
    Iaddr (x163.getD 2 .any) (x163.getD 3 .any) none 5 fun v298 =>
    Faddr v298 1 fun v299 =>
    Ld st295 v299 false 1 fun v300 st301 =>
    OptK (bin .int .add (x163.getD 3 .any) (.int .i64 1)) fun v302 =>
    OptK (bin .int .neq v300 v302) fun v303 =>
    AsBool (AV.pick false (.bool true) (AV.pick true (AV.pick false (.bool true) v303) (.bool false))) fun b304 => Br (b304 == false) (
    OptK (bin .int .geq (x163.getD 3 .any) (x163.getD 0 .any)) fun v305 =>
    Gs true v305 (fun b306 => Br (b306 == true) (
    Iaddr (x163.getD 2 .any) (x163.getD 3 .any) none 5 fun v307 =>
    Faddr v307 0 fun v308 =>
    Ld st301 v308 false 1 fun v309 st310 =>
    OptK (bin .int .neq v309 (.int .i64 1)) fun v311 =>
    Gs true v311 (fun b312 => Br (b312 == false) (
    Iaddr (x163.getD 2 .any) (x163.getD 3 .any) none 5 fun v313 =>
    Faddr v313 1 fun v314 =>
    Ld st310 v314 false 1 fun v315 st316 =>
    OptK (bin .int .sub (x163.getD 3 .any) (x163.getD 0 .any)) fun v317 =>
    OptK (bin .int .add v317 (.int .i64 1)) fun v318 =>
    OptK (bin .int .neq v315 v318) fun v319 =>
    AsBool (AV.pick false (.bool true) (AV.pick true (AV.pick false (.bool true) v319) (.bool false))) fun b320 => Br b320 (
      Q (.bool false) st316) (
      k228  st316)) (
    Q (.bool false) st310)) (
    AsBool (.tup []) fun b321 =>
    AsBool (AV.pick false (.bool true) (AV.pick true (AV.pick b321 (.bool true) (.tup [])) (.bool false))) fun b322 => Br b322 (
      Q (.bool false) st310) (
      k228  st310))) (
    k228  st301)) (
    AsBool (.tup []) fun b323 =>
    AsBool (AV.pick false (.bool true) (AV.pick b323 (.tup []) (.bool false))) fun b324 => Br b324 (
      Q (.bool false) st301) (
      k228  st301))) (
    Q (.bool false) st301)) (
    Q (.bool false) st295)) (
    AsBool (.tup []) fun b325 =>
    AsBool (AV.pick false (.bool true) (AV.pick true (AV.pick b325 (.bool true) (.tup [])) (.bool false))) fun b326 => Br (b326 == false) (
    OptK (bin .int .geq (x163.getD 3 .any) (x163.getD 0 .any)) fun v327 =>
    Gs true v327 (fun b328 => Br (b328 == true) (
    Iaddr (x163.getD 2 .any) (x163.getD 3 .any) none 5 fun v329 =>
    Faddr v329 0 fun v330 =>
    Ld st295 v330 false 1 fun v331 st332 =>
    OptK (bin .int .neq v331 (.int .i64 1)) fun v333 =>
    Gs true v333 (fun b334 => Br (b334 == false) (
    Iaddr (x163.getD 2 .any) (x163.getD 3 .any) none 5 fun v335 =>
    Faddr v335 1 fun v336 =>
    Ld st332 v336 false 1 fun v337 st338 =>
    OptK (bin .int .sub (x163.getD 3 .any) (x163.getD 0 .any)) fun v339 =>
    OptK (bin .int .add v339 (.int .i64 1)) fun v340 =>
    OptK (bin .int .neq v337 v340) fun v341 =>
    AsBool (AV.pick false (.bool true) (AV.pick true (AV.pick false (.bool true) v341) (.bool false))) fun b342 => Br b342 (
      Q (.bool false) st338) (
      k228  st338)) (
    Q (.bool false) st332)) (
    AsBool (.tup []) fun b343 =>
    AsBool (AV.pick false (.bool true) (AV.pick true (AV.pick b343 (.bool true) (.tup [])) (.bool false))) fun b344 => Br b344 (
      Q (.bool false) st332) (
      k228  st332))) (
    k228  st295)) (
    AsBool (.tup []) fun b345 =>
    AsBool (AV.pick false (.bool true) (AV.pick b345 (.tup []) (.bool false))) fun b346 => Br b346 (
      Q (.bool false) st295) (
      k228  st295))) (
    Q (.bool false) st295))) (
    OptK (bin .int .geq (x163.getD 3 .any) (x163.getD 0 .any)) fun v347 =>
    Gs true v347 (fun b348 => Br (b348 == true) (
    Iaddr (x163.getD 2 .any) (x163.getD 3 .any) none 5 fun v349 =>
    Faddr v349 0 fun v350 =>
    Ld st287 v350 false 1 fun v351 st352 =>
    OptK (bin .int .neq v351 (.int .i64 1)) fun v353 =>
    Gs true v353 (fun b354 => Br (b354 == false) (
    Iaddr (x163.getD 2 .any) (x163.getD 3 .any) none 5 fun v355 =>
    Faddr v355 1 fun v356 =>
    Ld st352 v356 false 1 fun v357 st358 =>
    OptK (bin .int .sub (x163.getD 3 .any) (x163.getD 0 .any)) fun v359 =>
    OptK (bin .int .add v359 (.int .i64 1)) fun v360 =>
    OptK (bin .int .neq v357 v360) fun v361 =>
    AsBool (AV.pick false (.bool true) (AV.pick true (AV.pick false (.bool true) v361) (.bool false))) fun b362 => Br b362 (
      Q (.bool false) st358) (
      k228  st358)) (
    Q (.bool false) st352)) (
    AsBool (.tup []) fun b363 =>
    AsBool (AV.pick false (.bool true) (AV.pick true (AV.pick b363 (.bool true) (.tup [])) (.bool false))) fun b364 => Br b364 (
      Q (.bool false) st352) (
      k228  st352))) (
    k228  st287)) (
    AsBool (.tup []) fun b365 =>
    AsBool (AV.pick false (.bool true) (AV.pick b365 (.tup []) (.bool false))) fun b366 => Br b366 (
      Q (.bool false) st287) (
      k228  st287)))) (
    AsBool (.tup []) fun b367 =>
    AsBool (AV.pick false (.bool true) (AV.pick b367 (.tup []) (.bool false))) fun b368 => Br (b368 == false) (
    OptK (bin .int .geq (x163.getD 3 .any) (x163.getD 0 .any)) fun v369 =>
    Gs true v369 (fun b370 => Br (b370 == true) (
    Iaddr (x163.getD 2 .any) (x163.getD 3 .any) none 5 fun v371 =>
    Faddr v371 0 fun v372 =>
    Ld st287 v372 false 1 fun v373 st374 =>
    OptK (bin .int .neq v373 (.int .i64 1)) fun v375 =>
    Gs true v375 (fun b376 => Br (b376 == false) (
    Iaddr (x163.getD 2 .any) (x163.getD 3 .any) none 5 fun v377 =>
    Faddr v377 1 fun v378 =>
    Ld st374 v378 false 1 fun v379 st380 =>
    OptK (bin .int .sub (x163.getD 3 .any) (x163.getD 0 .any)) fun v381 =>
    OptK (bin .int .add v381 (.int .i64 1)) fun v382 =>
    OptK (bin .int .neq v379 v382) fun v383 =>
    AsBool (AV.pick false (.bool true) (AV.pick true (AV.pick false (.bool true) v383) (.bool false))) fun b384 => Br b384 (
      Q (.bool false) st380) (
      k228  st380)) (
    Q (.bool false) st374)) (
    AsBool (.tup []) fun b385 =>
    AsBool (AV.pick false (.bool true) (AV.pick true (AV.pick b385 (.bool true) (.tup [])) (.bool false))) fun b386 => Br b386 (
      Q (.bool false) st374) (
      k228  st374))) (
    k228  st287)) (
    AsBool (.tup []) fun b387 =>
    AsBool (AV.pick false (.bool true) (AV.pick b387 (.tup []) (.bool false))) fun b388 => Br b388 (
      Q (.bool false) st287) (
      k228  st287))) (
    Q (.bool false) st287))) (
    Q (.bool false) st287)) (
      Q (.bool true) st164))) fun (k389 : AV → St → Prop) => OptK (un .not v144) fun v390 =>
  AsBool v390 fun b391 => Br (b391 == false) (
  LenOk .slice st141 v142 fun v392 =>
  OptK (bin .int .add (x121.getD 1 .any) (.int .i64 3)) fun v393 =>
  OptK (bin .int .neq v392 v393) fun v394 =>
  AsBool (AV.pick false (.bool true) v394) fun b395 => Br (b395 == false) (
  LenOk .slice st141 v143 fun v396 =>
  OptK (bin .int .add (x121.getD 1 .any) (.int .i64 3)) fun v397 =>
  OptK (bin .int .neq v396 v397) fun v398 =>
  k389 (AV.pick false (.bool true) v398) st141) (
  k389 (.bool true) st141)) (
  k389 (.bool true) st141)))))) fun (k399 : AV → St → Prop) => Cal w0 n_maint_Log_Recover [(x38.getD 2 .any)] st85 fun v400 st401 =>
  OptK (bin .int .neq v400 (.int .i64 0)) fun v402 =>
  AsBool v402 fun b403 => Br (b403 == false) (
  Cal w0 n_maint_Log_Next [(x38.getD 2 .any)] st401 fun v404 st405 =>
  OptK (bin .int .neq v404 (x38.getD 3 .any)) fun v406 =>
  AsBool (AV.pick false (.bool true) v406) fun b407 => Br (b407 == false) (
  Cal w0 n_maint_Log_Head [(x38.getD 2 .any)] st405 fun v408 st409 =>
  OptK (bin .int .neq v408 (x38.getD 3 .any)) fun v410 =>
  k399 (AV.pick false (.bool true) v410) st409) (
  k399 (.bool true) st405)) (
  k399 (.bool true) st401))))) fun (k411 : AV → St → Prop) => OptK (bin .int .neq v12 (.int .i64 0)) fun v412 =>
  AsBool v412 fun b413 => Br (b413 == false) (
  OptK (bin .ptr .eql v11 .nilp) fun v414 =>
  k411 (AV.pick false (.bool true) v414) st10) (
  k411 (.bool true) st10))
theorem ok_landaulaw6_LogHoles {w0 : World} {a0 : Int} {a1 : Int} {a2 : Int} {st : St} {Q : Kont} (h : vc_landaulaw6_LogHoles w0 a0 a1 a2 st Q) : Cal w0 n_landaulaw6_LogHoles [(.int .u8 a0), (.int .u8 a1), (.int .u8 a2)] st Q :=
  acall_of_gen ann_landaulaw6_LogHoles Tryz.func8 rfl (by kernel_rfl) (cast (by kernel_rfl : vc_landaulaw6_LogHoles w0 a0 a1 a2 st Q = _) h)

/-! landau/landauref5.SameVec -/
def ann_landauref5_SameVec : Nat → List Nat
  | _ => []
def vc_landauref5_SameVec (w0 : World) (a0 : AV) (a1 : AV) (st : St) (Q : Kont) : Prop :=
  Cal w0 n_landauref5_Covers [a0, a1] st fun v11 st12 =>
  AsBool v11 fun b13 => Br (b13 == true) (
  Cal w0 n_landauref5_Covers [a1, a0] st12 fun v14 st15 =>
  Q (AV.pick true v14 (.bool false)) st15) (
  Q (.bool false) st12)
theorem ok_landauref5_SameVec {w0 : World} {a0 : AV} {a1 : AV} {st : St} {Q : Kont} (h : vc_landauref5_SameVec w0 a0 a1 st Q) : Cal w0 n_landauref5_SameVec [a0, a1] st Q :=
  acall_of_gen ann_landauref5_SameVec Tryz.func18 rfl (by kernel_rfl) (cast (by kernel_rfl : vc_landauref5_SameVec w0 a0 a1 st Q = _) h)

/-! landau/landaulaw6.known -/
def ann_landaulaw6_known : Nat → List Nat
  | _ => []
def vc_landaulaw6_known (w0 : World)  (st : St) (Q : Kont) : Prop :=
  Cal w0 n_maint_New [(.int .i64 2), (.int .i64 1000)] st fun v1 st2 =>
  Ext v1 0 fun v3 =>
  Ext v1 1 fun v4 =>
  Jn (fun (j10 : AV) (st11 : St) =>
    AsBool j10 fun b12 => Br b12 (
    Q (.bool false) st11) (
    Cal w0 n_landaulaw6_R [(.int .i64 0), (.int .i64 1)] st11 fun v13 st14 =>
  Cal w0 n_maint_Log_Put [v3, (.int .i64 0), v13] st14 fun v15 st16 =>
  Cal w0 n_landaulaw6_R [(.int .i64 0), (.int .i64 2)] st16 fun v17 st18 =>
  Cal w0 n_maint_Log_Put [v3, (.int .i64 1), v17] st18 fun v19 st20 =>
  Cal w0 n_landaulaw6_R [(.int .i64 1), (.int .i64 1)] st20 fun v21 st22 =>
  Cal w0 n_maint_Log_Put [v3, (.int .i64 2), v21] st22 fun v23 st24 =>
  Cal w0 n_landaulaw6_R [(.int .i64 1), (.int .i64 2)] st24 fun v25 st26 =>
  Cal w0 n_maint_Log_Put [v3, (.int .i64 5), v25] st26 fun v27 st28 =>
  Cal w0 n_maint_Log_Head [v3] st28 fun v29 st30 =>
  Cal w0 n_maint_Log_Sync [v3, (.int .i64 0)] st30 fun v31 st32 =>
  Cal w0 n_maint_Log_Head [v3] st32 fun v33 st34 =>
  Cal w0 n_maint_Log_Crash [v3, .nils] st34 fun v35 st36 =>
  Cal w0 n_landaulaw6_R [(.int .i64 0), (.int .i64 2)] st36 fun v37 st38 =>
  Cal w0 n_maint_Log_Put [v3, (.int .i64 1), v37] st38 fun v39 st40 =>
  Cal w0 n_maint_Log_Recover [v3] st40 fun v41 st42 =>
  Cal w0 n_maint_Log_Next [v3] st42 fun v43 st44 =>
  Cal w0 n_landaulaw6_R [(.int .i64 0), (.int .i64 2)] st44 fun v45 st46 =>
  Cal w0 n_maint_Log_Put [v3, (.int .i64 1), v45] st46 fun v47 st48 =>
  Cal w0 n_maint_Log_Sync [v3, (.int .i64 1)] st48 fun v49 st50 =>
  Cal w0 n_maint_Log_Vec [v3] st50 fun v51 st52 =>
  Psh st52 (.cells false [(.int .i64 1)]) fun st53 =>
  Cal w0 n_maint_Log_Trim [v3, (.int .i64 1), (.slice st52.hp.length 0 1 1 true 1)] st53 fun v54 st55 =>
  Cal w0 n_maint_Log_Trimmed [v3] st55 fun v56 st57 =>
  Ext v56 0 fun v58 =>
  Ext v56 1 fun v59 =>
  Cal w0 n_maint_Log_Resize [v3, (.int .i64 3)] st57 fun v60 st61 =>
  Cal w0 n_maint_Log_Get [v3, (.int .i64 0)] st61 fun v62 st63 =>
  Ext v62 0 fun v64 =>
  Ext v62 1 fun v65 =>
  New st63 [(.int .i64 0), (.int .i64 0), .nils, (.str []), (.str [])] fun v66 st67 =>
  Sto st67 v66 v64 5 fun v69 st68 =>
  OptK (bin .int .add v15 v19) fun v139 =>
  OptK (bin .int .add v139 v23) fun v140 =>
  OptK (bin .int .add v140 v41) fun v141 =>
  OptK (bin .int .add v141 v47) fun v142 =>
  OptK (bin .int .add v142 v54) fun v143 =>
  OptK (bin .int .add v143 v60) fun v144 =>
  OptK (bin .int .eql v144 (.int .i64 0)) fun v145 =>
  AsBool v145 fun b146 => Br (b146 == true) (
  OptK (bin .int .eql v27 (.int .i64 1)) fun v147 =>
  AsBool (AV.pick true v147 (.bool false)) fun b148 => Br (b148 == true) (
  OptK (bin .int .eql v29 (.int .i64 0)) fun v149 =>
  AsBool (AV.pick true v149 (.bool false)) fun b150 => Br (b150 == true) (
  OptK (bin .int .eql v33 (.int .i64 1)) fun v151 =>
  AsBool (AV.pick true v151 (.bool false)) fun b152 => Br (b152 == true) (
  OptK (bin .int .eql v39 (.int .i64 11)) fun v153 =>
  AsBool (AV.pick true v153 (.bool false)) fun b154 => Br (b154 == true) (
  OptK (bin .int .eql v43 (.int .i64 1)) fun v155 =>
  AsBool (AV.pick true v155 (.bool false)) fun b156 => Br (b156 == true) (
  Psh st68 (.cells false [(.int .i64 2)]) fun st157 =>
  Cal w0 n_landauref5_SameVec [v51, (.slice st68.hp.length 0 1 1 true 1)] st157 fun v158 st159 =>
  AsBool (AV.pick true v158 (.bool false)) fun b160 => Br (b160 == true) (
  OptK (bin .int .eql v58 (.int .i64 1)) fun v161 =>
  AsBool (AV.pick true v161 (.bool false)) fun b162 => Br (b162 == true) (
  Psh st159 (.cells false [(.int .i64 1)]) fun st163 =>
  Cal w0 n_landauref5_SameVec [v59, (.slice st159.hp.length 0 1 1 true 1)] st163 fun v164 st165 =>
  AsBool (AV.pick true v164 (.bool false)) fun b166 => Br (b166 == true) (
  Cal w0 n_maint_Log_Stripes [v3] st165 fun v167 st168 =>
  OptK (bin .int .eql v167 (.int .i64 3)) fun v169 =>
  AsBool (AV.pick true v169 (.bool false)) fun b170 => Br (b170 == true) (
  Cal w0 n_maint_Log_Epoch [v3] st168 fun v171 st172 =>
  OptK (bin .int .eql v171 (.int .i64 2)) fun v173 =>
  AsBool (AV.pick true v173 (.bool false)) fun b174 => Br (b174 == true) (
  OptK (bin .int .eql v65 (.int .i64 8)) fun v175 =>
  AsBool (AV.pick true v175 (.bool false)) fun b176 => Br (b176 == true) (
  Cal w0 n_maint_Log_Down [v3] st172 fun v177 st178 =>
  OptK (un .not v177) fun v179 =>
  Q (AV.pick true v179 (.bool false)) st178) (
  Q (.bool false) st172)) (
  Q (.bool false) st172)) (
  Q (.bool false) st168)) (
  Q (.bool false) st165)) (
  Q (.bool false) st159)) (
  Q (.bool false) st159)) (
  Q (.bool false) st68)) (
  Q (.bool false) st68)) (
  Q (.bool false) st68)) (
  Q (.bool false) st68)) (
  Q (.bool false) st68)) (
  Q (.bool false) st68))) fun (k180 : AV → St → Prop) => OptK (bin .int .neq v4 (.int .i64 0)) fun v181 =>
  AsBool v181 fun b182 => Br (b182 == false) (
  OptK (bin .ptr .eql v3 .nilp) fun v183 =>
  k180 (AV.pick false (.bool true) v183) st2) (
  k180 (.bool true) st2)
theorem ok_landaulaw6_known {w0 : World}  {st : St} {Q : Kont} (h : vc_landaulaw6_known w0  st Q) : Cal w0 n_landaulaw6_known [] st Q :=
  acall_of_gen ann_landaulaw6_known Tryz.func21 rfl (by kernel_rfl) (cast (by kernel_rfl : vc_landaulaw6_known w0  st Q = _) h)

/-! landau/landaulaw6.R -/
def ann_landaulaw6_R : Nat → List Nat
  | _ => []
def vc_landaulaw6_R (w0 : World) (a0 : Int) (a1 : Int) (st : St) (Q : Kont) : Prop :=
  New st [(.int .i64 0), (.int .i64 0), .nils, (.str []), (.str [])] fun v1 st2 =>
  Sto st2 v1 (.agg [(.int .i64 a0), (.int .i64 a1), .nils, (.str [107]), (.str [])]) 5 fun v4 st3 =>
  Ld st3 v1 true 5 fun v5 _ =>
  Q v5 st3
theorem ok_landaulaw6_R {w0 : World} {a0 : Int} {a1 : Int} {st : St} {Q : Kont} (h : vc_landaulaw6_R w0 a0 a1 st Q) : Cal w0 n_landaulaw6_R [(.int .i64 a0), (.int .i64 a1)] st Q :=
  acall_of_gen ann_landaulaw6_R Tryz.func24 rfl (by kernel_rfl) (cast (by kernel_rfl : vc_landaulaw6_R w0 a0 a1 st Q = _) h)

/-! landau/landauref5.SameRec -/
def ann_landauref5_SameRec : Nat → List Nat
  | _ => []
def vc_landauref5_SameRec (w0 : World) (a0_Site : Int) (a0_Seq : Int) (a0_Dep : AV) (a0_Key : List UInt8) (a0_Val : List UInt8) (a1_Site : Int) (a1_Seq : Int) (a1_Dep : AV) (a1_Key : List UInt8) (a1_Val : List UInt8) (st : St) (Q : Kont) : Prop :=
  New st [(.int .i64 a0_Site), (.int .i64 a0_Seq), a0_Dep, (.str a0_Key), (.str a0_Val)] fun v1 st2 =>
  New st2 [(.int .i64 a1_Site), (.int .i64 a1_Seq), a1_Dep, (.str a1_Key), (.str a1_Val)] fun v3 st4 =>
  Faddr v1 0 fun v40 =>
  Ld st4 v40 false 1 fun v41 st42 =>
  Faddr v3 0 fun v43 =>
  Ld st42 v43 false 1 fun v44 st45 =>
  OptK (bin .int .eql v41 v44) fun v46 =>
  AsBool v46 fun b47 => Br (b47 == true) (
  Faddr v1 1 fun v48 =>
  Ld st45 v48 false 1 fun v49 st50 =>
  Faddr v3 1 fun v51 =>
  Ld st50 v51 false 1 fun v52 st53 =>
  OptK (bin .int .eql v49 v52) fun v54 =>
  AsBool (AV.pick true v54 (.bool false)) fun b55 => Br (b55 == true) (
  Faddr v1 2 fun v56 =>
  Ld st53 v56 false 1 fun v57 st58 =>
  Faddr v3 2 fun v59 =>
  Ld st58 v59 false 1 fun v60 st61 =>
  Cal w0 n_landauref5_SameVec [v57, v60] st61 fun v62 st63 =>
  AsBool (AV.pick true v62 (.bool false)) fun b64 => Br (b64 == true) (
  Faddr v1 3 fun v65 =>
  Ld st63 v65 false 1 fun v66 st67 =>
  Faddr v3 3 fun v68 =>
  Ld st67 v68 false 1 fun v69 st70 =>
  OptK (bin .str .eql v66 v69) fun v71 =>
  AsBool (AV.pick true v71 (.bool false)) fun b72 => Br (b72 == true) (
  Faddr v1 4 fun v73 =>
  Ld st70 v73 false 1 fun v74 st75 =>
  Faddr v3 4 fun v76 =>
  Ld st75 v76 false 1 fun v77 st78 =>
  OptK (bin .str .eql v74 v77) fun v79 =>
  Q (AV.pick true v79 (.bool false)) st78) (
  Q (.bool false) st70)) (
  Q (.bool false) st63)) (
  Q (.bool false) st53)) (
  Q (.bool false) st45)
theorem ok_landauref5_SameRec {w0 : World} {a0_Site : Int} {a0_Seq : Int} {a0_Dep : AV} {a0_Key : List UInt8} {a0_Val : List UInt8} {a1_Site : Int} {a1_Seq : Int} {a1_Dep : AV} {a1_Key : List UInt8} {a1_Val : List UInt8} {st : St} {Q : Kont} (h : vc_landauref5_SameRec w0 a0_Site a0_Seq a0_Dep a0_Key a0_Val a1_Site a1_Seq a1_Dep a1_Key a1_Val st Q) : Cal w0 n_landauref5_SameRec [(.agg [(.int .i64 a0_Site), (.int .i64 a0_Seq), a0_Dep, (.str a0_Key), (.str a0_Val)]), (.agg [(.int .i64 a1_Site), (.int .i64 a1_Seq), a1_Dep, (.str a1_Key), (.str a1_Val)])] st Q :=
  acall_of_gen ann_landauref5_SameRec Tryz.func29 rfl (by kernel_rfl) (cast (by kernel_rfl : vc_landauref5_SameRec w0 a0_Site a0_Seq a0_Dep a0_Key a0_Val a1_Site a1_Seq a1_Dep a1_Key a1_Val st Q = _) h)

/-! landau/landaulaw2.Of -/
def ann_landaulaw2_Of : Nat → List Nat
  | _ => []
def vc_landaulaw2_Of (w0 : World) (a0_Site : Int) (a0_Seq : Int) (a0_Dep : AV) (a0_Key : List UInt8) (a0_Val : List UInt8) (st : St) (Q : Kont) : Prop :=
  New st [(.int .i64 a0_Site), (.int .i64 a0_Seq), a0_Dep, (.str a0_Key), (.str a0_Val)] fun v1 st2 =>
  New st2 [(.int .i64 0), (.int .i64 0), .nils, (.str []), (.str [])] fun v3 st4 =>
  Faddr v1 0 fun v5 =>
  Ld st4 v5 false 1 fun v6 st7 =>
  Faddr v1 1 fun v8 =>
  Ld st7 v8 false 1 fun v9 st10 =>
  Faddr v1 2 fun v11 =>
  Ld st10 v11 false 1 fun v12 st13 =>
  Faddr v1 3 fun v14 =>
  Ld st13 v14 false 1 fun v15 st16 =>
  Faddr v1 4 fun v17 =>
  Ld st16 v17 false 1 fun v18 st19 =>
  OptK (fillAV (fun i => [(0, 1), (1, 1), (2, 1), (3, 1), (4, 1)][i]?) [(.int .i64 0), (.int .i64 0), .nils, (.str []), (.str [])] [(0, v6), (1, v9), (2, v12), (3, v15), (4, v18)]) fun c20 =>
  Sto st19 v3 (.agg c20) 5 fun v22 st21 =>
  Ld st21 v3 true 5 fun v23 _ =>
  Q v23 st21
theorem ok_landaulaw2_Of {w0 : World} {a0_Site : Int} {a0_Seq : Int} {a0_Dep : AV} {a0_Key : List UInt8} {a0_Val : List UInt8} {st : St} {Q : Kont} (h : vc_landaulaw2_Of w0 a0_Site a0_Seq a0_Dep a0_Key a0_Val st Q) : Cal w0 n_landaulaw2_Of [(.agg [(.int .i64 a0_Site), (.int .i64 a0_Seq), a0_Dep, (.str a0_Key), (.str a0_Val)])] st Q :=
  acall_of_gen ann_landaulaw2_Of Tryz.func30 rfl (by kernel_rfl) (cast (by kernel_rfl : vc_landaulaw2_Of w0 a0_Site a0_Seq a0_Dep a0_Key a0_Val st Q = _) h)

/-! landau/landaulaw6.filled -/
def ann_landaulaw6_filled : Nat → List Nat
  | 10 => [1, 5, 7]
  | 18 => [5, 8]
  | _ => []
def vc_landaulaw6_filled (w0 : World) (a0 : Int) (a1 : Int) (st : St) (Q : Kont) : Prop :=
  Cal w0 n_maint_New [(.int .i64 a0), (.int .i64 100000)] st fun v1 st2 =>
  Ext v1 0 fun v3 =>
  Ext v1 1 fun v4 =>
  Jn (fun (j10 : AV) (st11 : St) =>
    AsBool j10 fun b12 => Br b12 (
    Q .nilp st11) (
    ∃ (I15 : Nat → List AV → St → Prop) (n18 : Nat), I15 n18 [(.int .i64 a1), v3, (.int .i64 0)] st11 ∧
  ∀ (n16 : Nat) (x13 : List AV) (st14 : St), I15 n16 x13 st14 →
    OptK (bin .int .lss (x13.getD 2 .any) (x13.getD 0 .any)) fun v19 =>
    AsBool v19 fun b20 => Br b20 (
      OptK (bin .int .add (x13.getD 2 .any) (.int .i64 1)) fun v21 =>
    Cal w0 n_landaulaw6_R [(.int .i64 0), v21] st14 fun v22 st23 =>
    Cal w0 n_maint_Log_Put [(x13.getD 1 .any), (x13.getD 2 .any), v22] st23 fun v24 st25 =>
    OptK (bin .int .add (x13.getD 2 .any) (.int .i64 1)) fun v26 =>
    ∃ m17, m17 < n16 ∧ I15 m17 [(x13.getD 0 .any), (x13.getD 1 .any), v26] st25) (
      ∃ (I29 : Nat → List AV → St → Prop) (n32 : Nat), I29 n32 [(x13.getD 1 .any), (.int .i64 0)] st14 ∧
  ∀ (n30 : Nat) (x27 : List AV) (st28 : St), I29 n30 x27 st28 →
    OptK (bin .int .lss (x27.getD 1 .any) (.int .i64 8)) fun v33 =>
    AsBool v33 fun b34 => Br b34 (
      Cal w0 n_maint_Log_Sync [(x27.getD 0 .any), (x27.getD 1 .any)] st28 fun v35 st36 =>
    OptK (bin .int .add (x27.getD 1 .any) (.int .i64 1)) fun v37 =>
    ∃ m31, m31 < n30 ∧ I29 m31 [(x27.getD 0 .any), v37] st36) (
      Q (x27.getD 0 .any) st28)))) fun (k38 : AV → St → Prop) => OptK (bin .int .neq v4 (.int .i64 0)) fun v39 =>
  AsBool v39 fun b40 => Br (b40 == false) (
  OptK (bin .ptr .eql v3 .nilp) fun v41 =>
  k38 (AV.pick false (.bool true) v41) st2) (
  k38 (.bool true) st2)
theorem ok_landaulaw6_filled {w0 : World} {a0 : Int} {a1 : Int} {st : St} {Q : Kont} (h : vc_landaulaw6_filled w0 a0 a1 st Q) : Cal w0 n_landaulaw6_filled [(.int .i64 a0), (.int .i64 a1)] st Q :=
  acall_of_gen ann_landaulaw6_filled Tryz.func31 rfl (by kernel_rfl) (cast (by kernel_rfl : vc_landaulaw6_filled w0 a0 a1 st Q = _) h)

/-! landau/landaulaw2.Rows -/
noncomputable def asg_landaulaw2_Rows_0 : Code := (codeAt (Tryz.f36.body.getD .skip) [2, 2, 2, 2, 1, 2, 2]).1
noncomputable def bod_landaulaw2_Rows_0 : Code := (codeAt (Tryz.f36.body.getD .skip) [2, 2, 2, 2, 1, 2, 2]).2
def ann_landaulaw2_Rows : Nat → List Nat
  | 19 => [0, 1, 2, 3, 4]
  | 25 => [0, 1, 2, 3, 4]
  | _ => []
def vc_landaulaw2_Rows (w0 : World) (a0 : AV) (a1 : Int) (st : St) (Q : Kont) : Prop :=
  New st [(.int .i64 a1)] fun v1 st2 =>
  New st2 [.nils] fun v3 st4 =>
  New st4 [.nils] fun v5 st6 =>
  New st6 [(.bool false)] fun v7 st8 =>
  OptK (bin .func .eql a0 .nilf) fun v9 =>
  AsBool v9 fun b10 => Br b10 (
    Sto st8 v3 .nils 1 fun v12 st11 =>
    Sto st11 v5 .nils 1 fun v14 st13 =>
    Sto st13 v7 (.bool false) 1 fun v16 st15 =>
    Ld st15 v3 false 1 fun v17 _ =>
  Ld st15 v5 false 1 fun v18 _ =>
  Ld st15 v7 false 1 fun v19 _ =>
  Q (.tup [v17, v18, v19]) st15) (
    New st8 [.nils] fun v20 st21 =>
  New st21 [.nils] fun v22 st23 =>
  Jn (fun  (st24 : St) =>
    Ld st24 v20 false 1 fun v25 st26 =>
  Ld st24 v22 false 1 fun v27 st28 =>
  Sto st24 v3 v25 1 fun v30 st29 =>
  (Ld st29 v22 false 1 fun v31 st32 =>
  (v31 : AV) = v27) ∧
  Sto st29 v5 v27 1 fun v34 st33 =>
  Sto st33 v7 (.bool true) 1 fun v36 st35 =>
  Ld st35 v3 false 1 fun v37 _ =>
  Ld st35 v5 false 1 fun v38 _ =>
  Ld st35 v7 false 1 fun v39 _ =>
  Q (.tup [v37, v38, v39]) st35) fun (k40 : St → Prop) => CalR w0 a0 st23.lp.length (pushLoop st23 { st := .ready, pend := none, tmps := [a0, (.int .i64 a1), .any, v1, v3, v5, v7, v20, v22, .any, .any, a0, v9, a0, .any, .any, .any, .any, .any, .any, .any, .any, .any, .any, .any, .any, .any, .any, .any, .any, .any, .any], params := #[14, 15], assign := asg_landaulaw2_Rows_0, body := bod_landaulaw2_Rows_0 }) fun _ st41 =>
  AftR st41 st23.lp.length (fun st42 =>
    k40  st42) (fun st42 =>
    Ld st42 v3 false 1 fun v44 _ =>
  Ld st42 v5 false 1 fun v45 _ =>
  Ld st42 v7 false 1 fun v46 _ =>
  Q (.tup [v44, v45, v46]) st42) (fun e43 st42 =>
    Br (e43 == 0) (
  k40  st42) (
  False)) (fun e43 st42 => False))
def rnd_landaulaw2_Rows_0 (w0 : World) (i : Nat) (m3 : AV) (m4 : AV) (m5 : AV) (m6 : AV) (m7 : AV) (m8 : AV) (p0 : AV) (p1 : AV) (st : St) (Q : Kont) : Prop :=
  New st [(.int .i64 0), (.int .i64 0), .nils, (.str []), (.str [])] fun v1 st2 =>
  Sto st2 v1 p1 5 fun v4 st3 =>
  RBeg st3 i fun st5 =>
  Ld st5 m7 false 1 fun v6 st7 =>
  LenOk .slice st7 v6 fun v8 =>
  Ld st7 m3 false 1 fun v9 st10 =>
  OptK (bin .int .geq v8 v9) fun v11 =>
  AsBool v11 fun b12 => Br b12 (
    Ld st10 m7 false 1 fun v13 st14 =>
    Ld st10 m8 false 1 fun v15 st16 =>
    Sto st10 m4 v13 1 fun v18 st17 =>
    (Ld st17 m8 false 1 fun v19 st20 =>
    (v19 : AV) = v15) ∧
    Sto st17 m5 v15 1 fun v22 st21 =>
    Sto st21 m6 (.bool false) 1 fun v24 st23 =>
    RRet i Q st23) (
    Ld st10 m7 false 1 fun v25 st26 =>
  OptK (fillAV (fun i => some (i * 1, 1)) [(.int .i64 0)] [(0, p0)]) fun c28 =>
  Psh st26 (.cells false c28) fun st27 =>
  Append st27 v25 (.slice st26.hp.length 0 1 1 true 1) 1 8 fun v29 st30 =>
  Sto st30 m7 v29 1 fun v32 st31 =>
  Ld st31 m8 false 1 fun v33 st34 =>
  Ld st34 v1 true 5 fun v35 st36 =>
  OptK (fillAV (fun i => some (i * 5, 5)) [(.int .i64 0), (.int .i64 0), .nils, (.str []), (.str [])] [(0, v35)]) fun c38 =>
  Psh st36 (.cells false c38) fun st37 =>
  Append st37 v33 (.slice st36.hp.length 0 1 1 true 5) 5 72 fun v39 st40 =>
  Sto st40 m8 v39 1 fun v42 st41 =>
  RNorm i Q st41)
theorem okr_landaulaw2_Rows_0 {w0 : World} {i : Nat} {m0 : AV} {m1 : AV} {m2 : AV} {m3 : AV} {m4 : AV} {m5 : AV} {m6 : AV} {m7 : AV} {m8 : AV} {m9 : AV} {m10 : AV} {m11 : AV} {m12 : AV} {m13 : AV} {m14 : AV} {m15 : AV} {m16 : AV} {m17 : AV} {m18 : AV} {m19 : AV} {m20 : AV} {m21 : AV} {m22 : AV} {m23 : AV} {m24 : AV} {m25 : AV} {m26 : AV} {m27 : AV} {m28 : AV} {m29 : AV} {m30 : AV} {m31 : AV} {p0 : AV} {p1 : AV} {st : St} {Q : Kont} {ls : LoopState} {pd : Option Code} (hi : st.lp[i]? = some { st := ls, pend := pd, tmps := [m0, m1, m2, m3, m4, m5, m6, m7, m8, m9, m10, m11, m12, m13, m14, m15, m16, m17, m18, m19, m20, m21, m22, m23, m24, m25, m26, m27, m28, m29, m30, m31], params := #[14, 15], assign := asg_landaulaw2_Rows_0, body := bod_landaulaw2_Rows_0 }) (h : rnd_landaulaw2_Rows_0 w0 i m3 m4 m5 m6 m7 m8 p0 p1 st Q) : AYield Tryz.prog w0 i [p0, p1] st Q :=
  ayield_of_gen ann_landaulaw2_Rows hi rfl (cast (by kernel_rfl : rnd_landaulaw2_Rows_0 w0 i m3 m4 m5 m6 m7 m8 p0 p1 st Q = _) h)
theorem ok_landaulaw2_Rows {w0 : World} {a0 : AV} {a1 : Int} {st : St} {Q : Kont} (h : vc_landaulaw2_Rows w0 a0 a1 st Q) : Cal w0 n_landaulaw2_Rows [a0, (.int .i64 a1)] st Q :=
  acall_of_gen ann_landaulaw2_Rows Tryz.func36 rfl (by kernel_rfl) (cast (by kernel_rfl : vc_landaulaw2_Rows w0 a0 a1 st Q = _) h)

/-! landau/landaulaw2.To -/
def ann_landaulaw2_To : Nat → List Nat
  | _ => []
def vc_landaulaw2_To (w0 : World) (a0_Site : Int) (a0_Seq : Int) (a0_Dep : AV) (a0_Key : List UInt8) (a0_Val : List UInt8) (st : St) (Q : Kont) : Prop :=
  New st [(.int .i64 a0_Site), (.int .i64 a0_Seq), a0_Dep, (.str a0_Key), (.str a0_Val)] fun v1 st2 =>
  New st2 [(.int .i64 0), (.int .i64 0), .nils, (.str []), (.str [])] fun v3 st4 =>
  Faddr v1 0 fun v5 =>
  Ld st4 v5 false 1 fun v6 st7 =>
  Faddr v1 1 fun v8 =>
  Ld st7 v8 false 1 fun v9 st10 =>
  Faddr v1 2 fun v11 =>
  Ld st10 v11 false 1 fun v12 st13 =>
  Faddr v1 3 fun v14 =>
  Ld st13 v14 false 1 fun v15 st16 =>
  Faddr v1 4 fun v17 =>
  Ld st16 v17 false 1 fun v18 st19 =>
  OptK (fillAV (fun i => [(0, 1), (1, 1), (2, 1), (3, 1), (4, 1)][i]?) [(.int .i64 0), (.int .i64 0), .nils, (.str []), (.str [])] [(0, v6), (1, v9), (2, v12), (3, v15), (4, v18)]) fun c20 =>
  Sto st19 v3 (.agg c20) 5 fun v22 st21 =>
  Ld st21 v3 true 5 fun v23 _ =>
  Q v23 st21
theorem ok_landaulaw2_To {w0 : World} {a0_Site : Int} {a0_Seq : Int} {a0_Dep : AV} {a0_Key : List UInt8} {a0_Val : List UInt8} {st : St} {Q : Kont} (h : vc_landaulaw2_To w0 a0_Site a0_Seq a0_Dep a0_Key a0_Val st Q) : Cal w0 n_landaulaw2_To [(.agg [(.int .i64 a0_Site), (.int .i64 a0_Seq), a0_Dep, (.str a0_Key), (.str a0_Val)])] st Q :=
  acall_of_gen ann_landaulaw2_To Tryz.func43 rfl (by kernel_rfl) (cast (by kernel_rfl : vc_landaulaw2_To w0 a0_Site a0_Seq a0_Dep a0_Key a0_Val st Q = _) h)

/-! landau/landauref5.Covers -/
def ann_landauref5_Covers : Nat → List Nat
  | 4 => [0, 1, 5]
  | _ => []
def vc_landauref5_Covers (w0 : World) (a0 : AV) (a1 : AV) (st : St) (Q : Kont) : Prop :=
  ∃ (I3 : Nat → List AV → St → Prop) (n6 : Nat), I3 n6 [a0, a1, (.int .i64 0)] st ∧
  ∀ (n4 : Nat) (x1 : List AV) (st2 : St), I3 n4 x1 st2 →
    Jn (fun (j16 : AV) (st17 : St) =>
      AsBool j16 fun b18 => Br b18 (
      Cal w0 n_landauref5_Get [(x1.getD 0 .any), (x1.getD 2 .any)] st17 fun v19 st20 =>
    Cal w0 n_landauref5_Get [(x1.getD 1 .any), (x1.getD 2 .any)] st20 fun v21 st22 =>
    OptK (bin .int .lss v19 v21) fun v23 =>
    AsBool v23 fun b24 => Br b24 (
      Q (.bool false) st22) (
      OptK (bin .int .add (x1.getD 2 .any) (.int .i64 1)) fun v25 =>
    ∃ m5, m5 < n4 ∧ I3 m5 [(x1.getD 0 .any), (x1.getD 1 .any), v25] st22)) (
      Q (.bool true) st17)) fun (k26 : AV → St → Prop) => LenOk .slice st2 (x1.getD 0 .any) fun v27 =>
    OptK (bin .int .lss (x1.getD 2 .any) v27) fun v28 =>
    AsBool v28 fun b29 => Br (b29 == false) (
    LenOk .slice st2 (x1.getD 1 .any) fun v30 =>
    OptK (bin .int .lss (x1.getD 2 .any) v30) fun v31 =>
    k26 (AV.pick false (.bool true) v31) st2) (
    k26 (.bool true) st2)
theorem ok_landauref5_Covers {w0 : World} {a0 : AV} {a1 : AV} {st : St} {Q : Kont} (h : vc_landauref5_Covers w0 a0 a1 st Q) : Cal w0 n_landauref5_Covers [a0, a1] st Q :=
  acall_of_gen ann_landauref5_Covers Tryz.func67 rfl (by kernel_rfl) (cast (by kernel_rfl : vc_landauref5_Covers w0 a0 a1 st Q = _) h)

/-! landau/landauref5.Get -/
def ann_landauref5_Get : Nat → List Nat
  | _ => []
def vc_landauref5_Get (w0 : World) (a0 : AV) (a1 : Int) (st : St) (Q : Kont) : Prop :=
  Jn (fun (j8 : AV) (st9 : St) =>
    AsBool j8 fun b10 => Br b10 (
    Q (.int .i64 0) st9) (
    Iaddr a0 (.int .i64 a1) none 1 fun v11 =>
  Ld st9 v11 false 1 fun v12 st13 =>
  Q v12 st13)) fun (k14 : AV → St → Prop) => Br ((decide (a1 < 0)) == false) (
  LenOk .slice st a0 fun v15 =>
  OptK (bin .int .geq (.int .i64 a1) v15) fun v16 =>
  k14 (AV.pick false (.bool true) v16) st) (
  k14 (.bool true) st)
theorem ok_landauref5_Get {w0 : World} {a0 : AV} {a1 : Int} {st : St} {Q : Kont} (h : vc_landauref5_Get w0 a0 a1 st Q) : Cal w0 n_landauref5_Get [a0, (.int .i64 a1)] st Q :=
  acall_of_gen ann_landauref5_Get Tryz.func105 rfl (by kernel_rfl) (cast (by kernel_rfl : vc_landauref5_Get w0 a0 a1 st Q = _) h)

end Go.Ab
