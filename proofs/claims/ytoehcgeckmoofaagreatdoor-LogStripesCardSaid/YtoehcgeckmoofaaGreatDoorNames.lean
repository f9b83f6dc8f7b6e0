/- The functions by their names. -/
import Derived.Test.YtoehcgeckmoofaaGreatDoorProg
import Derived.Test.YtoehcgeckmoofaaGreatDoorAm
namespace Go.Ab
open Go Go.RowKit Go.Proofs

abbrev n_landaulaw24_ModelTrims : Nat := 3
abbrev n_landaulaw6_LogLasts : Nat := 4
abbrev n_landaulaw6_LogStripes : Nat := 5
abbrev n_landaulaw6_LogTrims : Nat := 6
abbrev n_landaulaw6_LogResizes : Nat := 7
abbrev n_landaulaw6_LogHoles : Nat := 8
abbrev n_landaulaw24_known : Nat := 9
abbrev n_landaulaw13_Logs : Nat := 10
abbrev n_landauref10_Log_Head : Nat := 11
abbrev n_model_Right : Nat := 12
abbrev n_maint_Log_Trim : Nat := 13
abbrev n_landauref10_Log_VecTo : Nat := 14
abbrev n_model_Agree : Nat := 15
abbrev n_maint_Log_Crash : Nat := 16
abbrev n_maint_Log_Recover : Nat := 17
abbrev n_landauref5_SameVec : Nat := 18
abbrev n_maint_Log_Vec : Nat := 19
abbrev n_landauref10_Log_Vec : Nat := 20
abbrev n_landaulaw6_known : Nat := 21
abbrev n_maint_New : Nat := 22
abbrev n_maint_Log_Put : Nat := 23
abbrev n_landaulaw6_R : Nat := 24
abbrev n_maint_Log_Sync : Nat := 25
abbrev n_maint_Log_Head : Nat := 26
abbrev n_maint_Log_Next : Nat := 27
abbrev n_maint_Log_Get : Nat := 28
abbrev n_landauref5_SameRec : Nat := 29
abbrev n_landaulaw2_Of : Nat := 30
abbrev n_landaulaw6_filled : Nat := 31
abbrev n_maint_Log_Trimmed : Nat := 32
abbrev n_maint_Log_Resize : Nat := 33
abbrev n_maint_Log_Stripes : Nat := 34
abbrev n_maint_Log_Epoch : Nat := 35
abbrev n_landaulaw2_Rows : Nat := 36
abbrev n_maint_Log_All : Nat := 37
abbrev n_model_Log : Nat := 38
abbrev n_landaulaw24_numbered : Nat := 39
abbrev n_landaulaw24_R : Nat := 40
abbrev n_landauref10_NewLog : Nat := 41
abbrev n_landauref5_Decimal : Nat := 42
abbrev n_landaulaw2_To : Nat := 43
abbrev n_landauref10_Log_Put : Nat := 44
abbrev n_landauref10_Log_Sync : Nat := 45
abbrev n_landauref10_Log_seg : Nat := 46
abbrev n_landauref5_Seg_LastsAt : Nat := 47
abbrev n_vec_Same : Nat := 48
abbrev n_maint_Log_with : Nat := 49
abbrev n_disk_Disk_Write : Nat := 50
abbrev n_strconv_Itoa : Nat := 51
abbrev n_vec_Text : Nat := 52
abbrev n_disk_Disk_Sync : Nat := 53
abbrev n_slices_Clone_vec_Vec_int : Nat := 54
abbrev n_seg_Seg_Trim : Nat := 55
abbrev n_landauref5_Seg_GetSlot : Nat := 56
abbrev n_landauref5_With : Nat := 57
abbrev n_rec_Same : Nat := 58
abbrev n_seg_Seg_Disk : Nat := 59
abbrev n_disk_Disk_Crash : Nat := 60
abbrev n_seg_Open : Nat := 61
abbrev n_disk_Disk_Lines : Nat := 62
abbrev n_maint_Log_take : Nat := 63
abbrev n_disk_Disk_Cut : Nat := 64
abbrev n_maint_Log_positions : Nat := 65
abbrev n_seg_Seg_Cut : Nat := 66
abbrev n_landauref5_Covers : Nat := 67
abbrev n_maint_Log_Down : Nat := 68
abbrev n_disk_New : Nat := 69
abbrev n_maint_Log_seg : Nat := 70
abbrev n_seg_Seg_Put : Nat := 71
abbrev n_disk_Disk_Waits : Nat := 72
abbrev n_seg_Seg_Lasts : Nat := 73
abbrev n_seg_Seg_Get : Nat := 74
abbrev n_seg_Seg_Seal : Nat := 75
abbrev n_stripe_Add : Nat := 76
abbrev n_stripe_Text : Nat := 77
abbrev n_maint_Log_All_1 : Nat := 78
abbrev n_model_kind : Nat := 79
abbrev n_vec_With : Nat := 80
abbrev n_vec_Get : Nat := 81
abbrev n_landaulaw24_numbered_1 : Nat := 82
abbrev n_landauref5_NewDisk : Nat := 83
abbrev n_landauref5_OpenSeg : Nat := 84
abbrev n_landauref5_Seg_Put : Nat := 85
abbrev n_landauref5_Disk_Sync : Nat := 86
abbrev n_landauref5_FindPos : Nat := 87
abbrev n_landauref5_Seg_at : Nat := 88
abbrev n_vec_Covers : Nat := 89
abbrev n_strings_Contains : Nat := 90
abbrev n_disk_Disk_Used : Nat := 91
abbrev n_internal_strconv_Itoa : Nat := 92
abbrev n_vec_All : Nat := 93
abbrev n_strings_Join : Nat := 94
abbrev n_seg_Seg_note : Nat := 95
abbrev n_seg_Seg_cutBelow : Nat := 96
abbrev n_seg_Seg_take : Nat := 97
abbrev n_disk_Disk_Lines_1 : Nat := 98
abbrev n_strings_Cut : Nat := 99
abbrev n_stripe_Parse : Nat := 100
abbrev n_vec_Number : Nat := 101
abbrev n_vec_Parse : Nat := 102
abbrev n_seg_Seg_All : Nat := 103
abbrev n_seg_Seg_cut : Nat := 104
abbrev n_landauref5_Get : Nat := 105
abbrev n_stripe_Find : Nat := 106
abbrev n_rec_Check : Nat := 107
abbrev n_disk_Disk_Len : Nat := 108
abbrev n_rec_Text : Nat := 109
abbrev n_slices_Clone_stripe_Map_stripe_Span : Nat := 110
abbrev n_stripe_Check : Nat := 111
abbrev n_landauref5_Seg_line : Nat := 112
abbrev n_landauref5_Disk_Cut : Nat := 113
abbrev n_landauref5_CheckRec : Nat := 114
abbrev n_landauref5_Disk_Write : Nat := 115
abbrev n_landauref5_RecText : Nat := 116
abbrev n_landauref5_Seg_put : Nat := 117
abbrev n_landauref5_CheckMap : Nat := 118
abbrev n_strings_Index : Nat := 119
abbrev n_internal_strconv_FormatInt : Nat := 120
abbrev n_vec_All_1 : Nat := 121
abbrev n_strings_Builder_Grow : Nat := 122
abbrev n_strings_Builder_WriteString : Nat := 123
abbrev n_strings_Builder_String : Nat := 124
abbrev n_maps_DeleteFunc_map_int_seg_slot_int_seg_slot : Nat := 125
abbrev n_seg_Seg_cutBelow_1 : Nat := 126
abbrev n_rec_Parse : Nat := 127
abbrev n_internal_stringslite_Cut : Nat := 128
abbrev n_strings_SplitSeq : Nat := 129
abbrev n_strings_Trim : Nat := 130
abbrev n_strconv_Atoi : Nat := 131
abbrev n_strings_CutPrefix : Nat := 132
abbrev n_strings_CutSuffix : Nat := 133
abbrev n_strings_Split : Nat := 134
abbrev n_seg_Seg_All_1 : Nat := 135
abbrev n_slices_Sorted_int : Nat := 136
abbrev n_maps_Keys_map_int_seg_slot_int_seg_slot : Nat := 137
abbrev n_seg_Seg_cut_1 : Nat := 138
abbrev n_vec_Check : Nat := 139
abbrev n_strings_TrimFunc : Nat := 140
abbrev n_rec_nameByte : Nat := 141
abbrev n_landauref5_find : Nat := 142
abbrev n_landauref5_Number : Nat := 143
abbrev n_landauref5_ParseRec : Nat := 144
abbrev n_landauref5_Seg_above : Nat := 145
abbrev n_landauref5_Seg_below : Nat := 146
abbrev n_landauref5_CheckVec : Nat := 147
abbrev n_landauref5_CheckCell : Nat := 148
abbrev n_landauref5_Disk_Used : Nat := 149
abbrev n_landauref5_VecText : Nat := 150
abbrev n_internal_stringslite_Index : Nat := 151
abbrev n_internal_strconv_small : Nat := 152
abbrev n_internal_strconv_numDigits : Nat := 153
abbrev n_internal_strconv_formatBase10 : Nat := 154
abbrev n_internal_strconv_formatBits : Nat := 155
abbrev n_strings_Builder_copyCheck : Nat := 156
abbrev n_strings_Builder_grow : Nat := 157
abbrev n_strings_splitSeq : Nat := 158
abbrev n_strings_trimLeftByte : Nat := 159
abbrev n_strings_trimRightByte : Nat := 160
abbrev n_strings_makeASCIISet : Nat := 161
abbrev n_strings_trimLeftASCII : Nat := 162
abbrev n_strings_trimRightASCII : Nat := 163
abbrev n_strings_trimLeftUnicode : Nat := 164
abbrev n_strings_trimRightUnicode : Nat := 165
abbrev n_internal_strconv_Atoi : Nat := 166
abbrev n_strconv_toError : Nat := 167
abbrev n_internal_stringslite_CutPrefix : Nat := 168
abbrev n_internal_stringslite_CutSuffix : Nat := 169
abbrev n_strings_genSplit : Nat := 170
abbrev n_slices_Collect_int : Nat := 171
abbrev n_slices_Sort_int_int : Nat := 172
abbrev n_maps_Keys_map_int_seg_slot_int_seg_slot_1 : Nat := 173
abbrev n_strings_TrimRightFunc : Nat := 174
abbrev n_strings_TrimLeftFunc : Nat := 175
abbrev n_landauref5_ParseVec : Nat := 176
abbrev n_internal_stringslite_IndexByte : Nat := 177
abbrev n_internal_bytealg_Cutover : Nat := 179
abbrev n_internal_bytealg_IndexRabinKarp_string : Nat := 180
abbrev n_internal_strconv_log10Pow2 : Nat := 181
abbrev n_math_bits_Len64 : Nat := 182
abbrev n_internal_strconv_bool2_int : Nat := 183
abbrev n_internal_strconv_isPowerOfTwo : Nat := 184
abbrev n_math_bits_TrailingZeros : Nat := 185
abbrev n_strings_splitSeq_1 : Nat := 188
abbrev n_unicode_utf8_DecodeRuneInString : Nat := 189
abbrev n_strings_asciiSet_contains : Nat := 190
abbrev n_strings_ContainsRune : Nat := 191
abbrev n_unicode_utf8_DecodeLastRuneInString : Nat := 192
abbrev n_internal_strconv_ParseInt : Nat := 193
abbrev n_strconv_syntaxError : Nat := 194
abbrev n_strconv_rangeError : Nat := 195
abbrev n_strconv_baseError : Nat := 196
abbrev n_strconv_bitSizeError : Nat := 197
abbrev n_internal_stringslite_HasPrefix : Nat := 198
abbrev n_internal_stringslite_HasSuffix : Nat := 199
abbrev n_strings_explode : Nat := 200
abbrev n_strings_Count : Nat := 201
abbrev n_slices_AppendSeq_int_int : Nat := 202
abbrev n_slices_pdqsortOrdered_int : Nat := 203
abbrev n_math_bits_Len : Nat := 204
abbrev n_strings_lastIndexFunc : Nat := 205
abbrev n_strings_indexFunc : Nat := 206
abbrev n_landauref5_Split : Nat := 207
abbrev n_landauref5_digits : Nat := 208
abbrev n_internal_bytealg_hashStr_string : Nat := 210
abbrev n_math_bits_TrailingZeros32 : Nat := 211
abbrev n_math_bits_TrailingZeros64 : Nat := 212
abbrev n_unicode_utf8_decodeRuneInStringSlow : Nat := 213
abbrev n_strings_IndexRune : Nat := 214
abbrev n_unicode_utf8_RuneStart : Nat := 215
abbrev n_internal_strconv_ParseUint : Nat := 216
abbrev n_internal_stringslite_Clone : Nat := 217
abbrev n_errors_New : Nat := 218
abbrev n_unicode_utf8_RuneCountInString : Nat := 219
abbrev n_slices_insertionSortOrdered_int : Nat := 221
abbrev n_slices_heapSortOrdered_int : Nat := 222
abbrev n_slices_breakPatternsOrdered_int : Nat := 223
abbrev n_slices_choosePivotOrdered_int : Nat := 224
abbrev n_slices_reverseRangeOrdered_int : Nat := 225
abbrev n_slices_partialInsertionSortOrdered_int : Nat := 226
abbrev n_cmp_Less_int : Nat := 227
abbrev n_slices_partitionEqualOrdered_int : Nat := 228
abbrev n_slices_partitionOrdered_int : Nat := 229
abbrev n_math_bits_Len32 : Nat := 230
abbrev n_strings_IndexByte : Nat := 231
abbrev n_unicode_utf8_ValidRune : Nat := 232
abbrev n_internal_strconv_lower : Nat := 233
abbrev n_internal_strconv_underscoreOK : Nat := 234
abbrev n_slices_siftDownOrdered_int : Nat := 235
abbrev n_slices_nextPowerOfTwo : Nat := 236
abbrev n_slices_xorshift_Next : Nat := 237
abbrev n_slices_medianAdjacentOrdered_int : Nat := 238
abbrev n_slices_medianOrdered_int : Nat := 239
abbrev n_cmp_isNaN_int : Nat := 240
abbrev n_slices_order2Ordered_int : Nat := 241

/-- A call, over this seat's program. -/
def Cal (w0 : World) (f : FuncId) (args : List AV) (st : St) (Q : Kont) : Prop := ACall Tryz.prog w0 f args st Q
theorem Cal.mono {w0 f args st} {Q Q' : Kont} (h : Cal w0 f args st Q) (hq : ∀ v st, Q v st → Q' v st) : Cal w0 f args st Q' := ACall.mono h hq
/-- A range over whatever function value. -/
def CalR (w0 : World) (f : AV) (i : Nat) (st : St) (Q : Kont) : Prop := match f with | .func k first cap => ACall Tryz.prog w0 k (first ++ [.yield i] ++ cap) st Q | _ => False

def Psh (st : St) (k : ABlk) (K : St → Prop) : Prop := K (st.push k)
def Jn {α : Type} (f : α) (g : α → Prop) : Prop := g f
def AsInt (v : AV) (K : Int → Prop) : Prop := match v with | .int _ n => K n | _ => False
def AsStr (v : AV) (K : List UInt8 → Prop) : Prop := match v with | .str s => K s | _ => False
def lenTk (tk : TK) (x : AV) : Bool := match tk, x with | .str, .str _ => true | .slice, .nils => true | .slice, .slice .. => true | .other, .nilm => true | .other, .map _ => true | _, _ => false
def LenOk (tk : TK) (st : St) (x : AV) (K : AV → Prop) : Prop := Chk (lenTk tk x) (Len st x K)
def SlStr (x : AV) (lo hi : Option AV) (K : AV → Prop) : Prop := match x with
  | .str s => OptK (optInt lo) fun l => OptK (optInt hi) fun h => OptK (sliceStr s (l.getD 0) (h.getD s.length)) K
  | _ => False
def SlSl (x : AV) (esz : Nat) (lo hi mx : Option AV) (K : AV → Prop) : Prop := OptK (optInt lo) fun l => OptK (optInt hi) fun h => OptK (optInt mx) fun m => OptK (sliceSl x esz (l.getD 0) h m) K
def AftR (st : St) (i : Nat) (N R : St → Prop) (X G : Nat → St → Prop) : Prop :=
  OptK st.lp[i]? fun al => al.st ≠ .busy ∧ match al.pend with
    | none => N (setLoop st i { al with st := .exhausted })
    | some .ret => R (setLoop st i { al with st := .exhausted })
    | some (.exit id) => X id (setLoop st i { al with st := .exhausted })
    | some (.goto l) => G l (setLoop st i { al with st := .exhausted })
    | _ => False
/-- A round begins. -/
def RBeg (st : St) (i : Nat) (K : St → Prop) : Prop := OptK st.lp[i]? fun al => al.st = .ready ∧ K (setLoop st i { al with st := .busy })
/-- A round ends: its body fell off its end, returned, left by a jump. -/
def RNorm (i : Nat) (Q : Kont) (st : St) : Prop := OptK st.lp[i]? fun al => Q (.bool true) (setLoop st i { al with st := .ready, pend := none })
def RRet (i : Nat) (Q : Kont) (st : St) : Prop := OptK st.lp[i]? fun al => Q (.bool false) (setLoop st i { al with st := .done, pend := some .ret })
def RExit (i : Nat) (Q : Kont) (st : St) (id : Nat) : Prop := OptK st.lp[i]? fun al => Q (.bool false) (setLoop st i { al with st := .done, pend := some (.exit id) })
def RGoto (i : Nat) (Q : Kont) (st : St) (l : Nat) : Prop := OptK st.lp[i]? fun al => Q (.bool false) (setLoop st i { al with st := .done, pend := some (.goto l) })
/-- The statement at a place of a code: of a range over a function its two codes. -/
def codeAt : Code → List Nat → Code × Code
  | .rangeFunc _ _ a b, [] => (a, b)
  | .seq a _, 1 :: p => codeAt a p
  | .seq _ b, _ :: p => codeAt b p
  | .cond _ a _, 1 :: p => codeAt a p
  | .cond _ _ b, _ :: p => codeAt b p
  | .block _ c, _ :: p => codeAt c p
  | .loop c, _ :: p => codeAt c p
  | .scope c, _ :: p => codeAt c p
  | .rangeFunc _ _ a _, 1 :: p => codeAt a p
  | .rangeFunc _ _ _ b, _ :: p => codeAt b p
  | c, _ => (c, c)
end Go.Ab
