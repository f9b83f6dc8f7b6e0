/- The library's functions, by the shelf's contracts: strings, numbers. -/
import Derived.Test.YtoehcgeckmoofaaGreatDoorNames
import Derived.Test.YtoehcgeckmoofaaGreatDoorShelf
import Derived.Lib.AtoiErrMem
import Derived.Lib.SplitLaws
import Derived.Shelf.Strings.SlTrimAscii
set_option linter.unusedVariables false
set_option linter.unusedSimpArgs false
namespace Go.Ab
open Go Go.RowKit Go.Proofs

/-- What the call finds in the program's own memory. -/
structure Gnd (w0 : World) : Prop where
  maxLen : ∀ g, Tryz.prog.globalNamed "internal/bytealg.MaxLen" = some g → ∃ m, w0.cell? ⟨g, 0, none⟩ = some (.int .i64 m)
  utf8 : ∀ g3 g4, Tryz.prog.globalNamed "unicode/utf8.first" = some g3 → Tryz.prog.globalNamed "unicode/utf8.acceptRanges" = some g4 → Lib.Utf8Tabs g3 g4 w0
  pow10 : Lib.TabIs Tryz.prog w0 "internal/strconv.uint64pow10" .u64 Lib.pow10Tab

section
variable {w0 : World} {pins : List (Nat × Obj)} {ρ : Ren} {st : St} {w w' : World} {Q : Kont}

/-- Nothing that lay there is turned. -/
theorem Sim.after (h : Sim w0 pins ρ st w) (hb : Below w.heap.size w w') : Sim w0 pins ρ st w' := by
  refine ⟨h.below.trans (hb.mono h.below.size), fun b x e => ⟨(h.dom b x e).1, Nat.lt_of_lt_of_le (h.dom b x e).2 hb.size⟩, fun b k e hk => ?_, h.inj, fun i l e => ⟨(h.ldom i l e).1, Nat.lt_of_lt_of_le (h.ldom i l e).2 hb.size⟩, fun i l e => ?_, h.linj, fun p hp => ?_, h.pout, h.lout, h.pnd⟩
  · obtain ⟨x, hx, hB⟩ := h.blk b k e hk
    exact ⟨x, hx, hB.mono (.refl _) (hb.block _ (h.dom b x hx).2)⟩
  · obtain ⟨r, hr, hb', hL⟩ := h.loop i l e
    exact ⟨r, hr, hb', hL.mono (.refl _) (hb.block _ (h.ldom i r hr).2)⟩
  · obtain ⟨h1, h2⟩ := h.pin p hp
    exact ⟨by rw [hb.block _ (h.pin_lt hp)]; exact h1, h2⟩

theorem below_drewN (w : World) (n : Nat) : Below w.heap.size w (w.drewN n) := ⟨rfl, rfl, rfl, Nat.le_refl _, fun _ _ => rfl⟩
theorem below_grow (w : World) (os : Array Obj) : Below w.heap.size w (Sort.grow w os) :=
  ⟨rfl, rfl, rfl, by simp [Sort.grow], fun k hk => by simp [Sort.grow, Array.getElem?_append_left hk]⟩
theorem below_alloc (w : World) (o : Obj) : Below w.heap.size w (w.alloc o) := (Below.refl _ w).alloc (Nat.le_refl _) o

theorem cell_below {B : Nat} {w w' : World} (hb : Below B w w') (hB : B = w.heap.size) {a : Addr} {v : Value} (hc : w.cell? a = some v) : w'.cell? a = some v := by
  have hlt : a.block < w.heap.size := by
    unfold World.cell? at hc
    cases hh : w.heap[a.block]? with
    | none => simp [hh] at hc
    | some o => exact (Array.getElem?_eq_some_iff.1 hh).1
  unfold World.cell? at hc ⊢
  rw [hb.block _ (hB ▸ hlt)]; exact hc

theorem Gnd.cell (g : Gnd w0) (h : Sim w0 pins ρ st w) {b : Nat} (hb : Tryz.prog.globalNamed "internal/bytealg.MaxLen" = some b) : ∃ m, w.cell? ⟨b, 0, none⟩ = some (.int .i64 m) := by
  obtain ⟨m, hm⟩ := g.maxLen b hb
  exact ⟨m, cell_below h.below rfl hm⟩

theorem Gnd.tabs (g : Gnd w0) (h : Sim w0 pins ρ st w) {g3 g4 : Nat} (h3 : Tryz.prog.globalNamed "unicode/utf8.first" = some g3) (h4 : Tryz.prog.globalNamed "unicode/utf8.acceptRanges" = some g4) : Lib.Utf8Tabs g3 g4 w := by
  obtain ⟨k1, k2⟩ := g.utf8 g3 g4 h3 h4
  exact ⟨fun c hc => cell_below h.below rfl (k1 c hc), fun i hi => ⟨cell_below h.below rfl (k2 i hi).1, cell_below h.below rfl (k2 i hi).2⟩⟩

theorem tab_below {P : Program} {n : String} {g : Nat} {k : IntKind} {zs : List Int} {w w' : World} (hg : P.globalNamed n = some g) (h : Lib.TabIs P w n k zs) (hb : Below w.heap.size w w') : Lib.TabIs P w' n k zs := by
  unfold Lib.TabIs World.var? at h ⊢
  rw [hg] at h ⊢
  simp only [Option.bind_some] at h ⊢
  have hlt : g < w.heap.size := by
    rcases Nat.lt_or_ge g w.heap.size with h' | h'
    · exact h'
    · rw [Array.getElem?_eq_none h'] at h; cases h
  rw [hb.block g hlt]
  exact h

/-- A function of the library that hands back a value and turns nothing. -/
theorem lib_call {f : FuncId} {args : List AV} {st : St} {v : AV} (hen : enterOk Tryz.prog f = true)
    (h : ∀ pins ρ w (args' : Array Value), Sim w0 pins ρ st w → VRels ρ args args'.toList → ∃ v', VRel ρ v v' ∧ Calls Tryz.prog f args' w fun e w' => e = .returned v' ∧ Below w.heap.size w w') (hq : Q v st) : Cal w0 f args st Q := by
  refine ⟨hen, fun pins ρ w args' hs ha => ?_⟩
  obtain ⟨v', hv, hc⟩ := h pins ρ w args' hs ha
  refine hc.mono ?_
  rintro e w' ⟨rfl, hb⟩
  exact ⟨v', ρ, v, st, rfl, .refl _, hs.after hb, hv, hq⟩

theorem strs_inv {ρ : Ren} {s t : List UInt8} {args' : Array Value} (h : VRels ρ [.str s, .str t] args'.toList) : ∃ a b : ByteArray, args' = #[.string a, .string b] ∧ s = a.data.toList ∧ t = b.data.toList := by
  obtain ⟨v1, vs, e1, h1, h2⟩ := h.cons_inv
  obtain ⟨v2, vs2, rfl, h3, h4⟩ := h2.cons_inv
  obtain rfl := h4.nil_inv
  obtain ⟨a, rfl, rfl⟩ := h1.str_inv
  obtain ⟨b, rfl, rfl⟩ := h3.str_inv
  exact ⟨a, b, by apply Array.ext'; simpa using e1, rfl, rfl⟩
theorem str1_inv {ρ : Ren} {s : List UInt8} {args' : Array Value} (h : VRels ρ [.str s] args'.toList) : ∃ a : ByteArray, args' = #[.string a] ∧ s = a.data.toList := by
  obtain ⟨v1, vs, e1, h1, h2⟩ := h.cons_inv
  obtain rfl := h2.nil_inv
  obtain ⟨a, rfl, rfl⟩ := h1.str_inv
  exact ⟨a, by apply Array.ext'; simpa using e1, rfl⟩
theorem int1_inv {ρ : Ren} {n : Int} {args' : Array Value} (h : VRels ρ [.int .i64 n] args'.toList) : args' = #[.int .i64 n] := by
  obtain ⟨v1, vs, e1, h1, h2⟩ := h.cons_inv
  obtain rfl := h2.nil_inv
  obtain rfl := h1.int_inv
  apply Array.ext'; simpa using e1

theorem str_of {ρ : Ren} (l : List UInt8) : VRel ρ (.str l) (.string ⟨l.toArray⟩) := by
  have := VRel.str (ρ := ρ) ⟨l.toArray⟩
  simpa using this

theorem size_toList (a : ByteArray) : a.data.toList.length = a.size := by simp

theorem c_Contains {s : List UInt8} {c : UInt8} (hq : Q (.bool (decide (0 ≤ Lib.indexByte s c))) st) : Cal w0 n_strings_Contains [.str s, .str [c]] st Q := by
  refine lib_call (by kernel_rfl) (fun pins ρ w args' hs ha => ?_) hq
  obtain ⟨a, b, rfl, rfl, hb⟩ := strs_inv ha
  have : b = ⟨#[c]⟩ := by
    cases b; simp at hb; congr 1; apply Array.ext'; simpa using hb.symm
  subst this
  exact ⟨_, .bool _, (Tryz.strings_Contains_one a c w).mono fun e w' h => ⟨h.1, by rw [h.2]; exact .refl _ _⟩⟩

theorem c_Cut (g : Gnd w0) {s sep : List UInt8} (hl : s.length < 4294967281) (hq : Q (.tup [.str (Lib.cut s sep).1, .str (Lib.cut s sep).2.1, .bool (Lib.cut s sep).2.2]) st) : Cal w0 n_strings_Cut [.str s, .str sep] st Q := by
  refine lib_call (by kernel_rfl) (fun pins ρ w args' hs ha => ?_) hq
  obtain ⟨a, b, rfl, rfl, rfl⟩ := strs_inv ha
  obtain ⟨m, hm⟩ := g.cell hs (b := 0) (by kernel_rfl)
  exact ⟨_, VRel.tup_iff.2 (.cons (str_of _) (.cons (str_of _) (.cons (.bool _) .nil))), (Tryz.strings_Cut a b m w (by simpa using hl) hm).mono fun e w' h => ⟨h.1, let ⟨n, hn⟩ := h.2; hn ▸ below_drewN w n⟩⟩

theorem c_CutPrefix {s p : List UInt8} (hq : Q (.tup [.str (Lib.trimPrefix s p), .bool (Lib.hasPrefix s p)]) st) : Cal w0 n_strings_CutPrefix [.str s, .str p] st Q := by
  refine lib_call (by kernel_rfl) (fun pins ρ w args' hs ha => ?_) hq
  obtain ⟨a, b, rfl, rfl, rfl⟩ := strs_inv ha
  exact ⟨_, VRel.tup_iff.2 (.cons (str_of _) (.cons (.bool _) .nil)), (Tryz.strings_CutPrefix a b w).mono fun e w' h => ⟨h.1, by rw [h.2]; exact .refl _ _⟩⟩
theorem c_CutSuffix {s p : List UInt8} (hl : s.length < 4294967281) (hq : Q (.tup [.str (Lib.trimSuffix s p), .bool (Lib.hasSuffix s p)]) st) : Cal w0 n_strings_CutSuffix [.str s, .str p] st Q := by
  refine lib_call (by kernel_rfl) (fun pins ρ w args' hs ha => ?_) hq
  obtain ⟨a, b, rfl, rfl, rfl⟩ := strs_inv ha
  exact ⟨_, VRel.tup_iff.2 (.cons (str_of _) (.cons (.bool _) .nil)), (Tryz.strings_CutSuffix a b w (by simp at hl; omega)).mono fun e w' h => ⟨h.1, by rw [h.2]; exact .refl _ _⟩⟩

theorem c_Itoa (g : Gnd w0) {n : Int} (h1 : -9223372036854775808 ≤ n) (h2 : n ≤ 9223372036854775807) (hq : Q (.str (Lib.itoa n)) st) : Cal w0 n_strconv_Itoa [.int .i64 n] st Q := by
  refine lib_call (by kernel_rfl) (fun pins ρ w args' hs ha => ?_) hq
  obtain rfl := int1_inv ha
  have ht : Lib.TabIs Tryz.prog w "internal/strconv.uint64pow10" .u64 Lib.pow10Tab := tab_below (g := (Tryz.prog.globalNamed "internal/strconv.uint64pow10").getD 0) (by kernel_rfl) g.pow10 hs.below
  refine ⟨_, str_of _, (Tryz.strconv_Itoa n h1 h2 w ht).mono fun e w' h => ⟨h.1, ?_⟩⟩
  obtain ⟨k, os, rfl⟩ := h.2
  exact (below_drewN w k).trans ((below_grow _ os).mono (Nat.le_refl _))

theorem c_Atoi {s : List UInt8} {n : Int} (hl : s.length ≤ 18) (ha : Lib.atoi s = some n) (hq : Q (.tup [.int .i64 n, .nilIface]) st) : Cal w0 n_strconv_Atoi [.str s] st Q := by
  refine lib_call (by kernel_rfl) (fun pins ρ w args' hs hr => ?_) hq
  obtain ⟨a, rfl, rfl⟩ := str1_inv hr
  refine ⟨_, VRel.tup_iff.2 (.cons (.int _ _) (.cons .nilIface .nil)), (Tryz.strconv_Atoi a n (by simpa using hl) ha w).mono fun e w' h => ⟨h.1, ?_⟩⟩
  obtain ⟨t, rfl⟩ := h.2
  exact Lib.bytesWorld_below w 5 t

/-- A slice of strings. -/
def Strs (st : St) (v : AV) (xs : List (List UInt8)) : Prop :=
  (v = .nils ∧ xs = []) ∨ ∃ b o len cap ex cs, v = .slice b o len cap ex 1 ∧ st.cells b = some cs ∧ xs.length = len ∧ (cs.drop o).take len = xs.map .str

theorem c_Join {v : AV} {xs : List (List UInt8)} {sep : List UInt8} (hv : Strs st v xs) (hl : xs.length < 2 ^ 40) (ht : (Lib.join xs sep).length < 2 ^ 40) (hq : Q (.str (Lib.join xs sep)) st) : Cal w0 n_strings_Join [v, .str sep] st Q := by
  refine lib_call (by kernel_rfl) (fun pins ρ w args' hs ha => ?_) hq
  obtain ⟨v1, vs, e1, h1, h2⟩ := ha.cons_inv
  obtain ⟨v2, vs2, rfl, h3, h4⟩ := h2.cons_inv
  obtain rfl := h4.nil_inv
  obtain ⟨sp, rfl, rfl⟩ := h3.str_inv
  have hargs : args' = #[v1, .string sp] := by apply Array.ext'; simpa using e1
  subst hargs
  have hnone : ∀ a c, v1 = .slice a 0 c → xs = [] → ∃ v', VRel ρ (.str (Lib.join xs sp.data.toList)) v' ∧ Calls Tryz.prog n_strings_Join #[v1, .string sp] w fun e w' => e = .returned v' ∧ Below w.heap.size w w' := by
    rintro a c rfl rfl
    exact ⟨.string ⟨#[]⟩, str_of [], (Tryz.strings_Join_none a c sp w).mono fun e w' h => ⟨h.1, by rw [h.2]; exact .refl _ _⟩⟩
  rcases hv with ⟨rfl, rfl⟩ | ⟨b, o, len, cap, ex, cs, rfl, hc, hlen, hcs⟩
  · cases h1; exact hnone _ _ rfl rfl
  · cases h1 with
    | slice hb hle hcap hex hadr hfit =>
    rename_i rb ro rs a cap'
    by_cases h0 : len = 0
    · subst h0
      exact hnone _ _ rfl (List.length_eq_zero_iff.1 hlen)
    · obtain rfl := hadr (by omega)
      have hcell : ∀ j (x : ByteArray), (xs.map fun x => (⟨x.toArray⟩ : ByteArray))[j]? = some x → w.cell? ⟨rb, ro + o + j, none⟩ = some (.string x) := by
        intro j x hx
        simp only [List.getElem?_map, Option.map_eq_some_iff] at hx
        obtain ⟨y, hy, rfl⟩ := hx
        have hjl : j < len := by have := (List.getElem?_eq_some_iff.1 hy).1; omega
        have hcj : cs[o + j]? = some (.str y) := by
          have := congrArg (·[j]?) hcs
          simp only [List.getElem?_take, hjl, if_true, List.getElem?_drop, List.getElem?_map, hy, Option.map_some] at this
          exact this
        obtain ⟨u, hu, hur⟩ := hs.cell hc hcj hb
        obtain ⟨z, rfl, hz⟩ := hur.str_inv
        rw [Nat.add_assoc, hu]
        congr 1
        cases z; simp at hz; subst hz; simp
      have hxs : (List.map (fun x => x.data.toList) (xs.map fun x => (⟨x.toArray⟩ : ByteArray))) = xs := by
        rw [List.map_map]; conv => rhs; rw [← List.map_id xs]
        exact List.map_congr_left fun x _ => by simp
      have hbl : rb < w.heap.size := (hs.dom b _ hb).2
      have hlen' : (xs.map fun x => (⟨x.toArray⟩ : ByteArray)).length = len := by simp [hlen]
      have := Tryz.strings_Join rb (ro + o) cap' (xs.map fun x => (⟨x.toArray⟩ : ByteArray)) sp w hcell hbl (by simp; omega) (by rw [hlen']; omega) (by rw [hxs]; omega)
      rw [hxs, hlen'] at this
      exact ⟨_, str_of _, this⟩

def splitL (s sep : List UInt8) : List (List UInt8) := (Lib.splitB ⟨sep.toArray⟩ 0 (Lib.countB ⟨s.toArray⟩ ⟨sep.toArray⟩) ⟨s.toArray⟩).map (·.data.toList)

theorem c_Split (g : Gnd w0) {s sep : List UInt8} (hl : s.length < 4294967281) (h1 : 1 ≤ sep.length)
    (hq : Q (.slice st.hp.length 0 (splitL s sep).length (splitL s sep).length true 1) (st.push (.cells false ((splitL s sep).map .str)))) : Cal w0 n_strings_Split [.str s, .str sep] st Q := by
  refine ⟨by kernel_rfl, fun pins ρ w args' hs ha => ?_⟩
  obtain ⟨a, b, rfl, rfl, rfl⟩ := strs_inv ha
  obtain ⟨m, hm⟩ := g.cell hs (b := 0) (by kernel_rfl)
  have ea : (⟨a.data.toList.toArray⟩ : ByteArray) = a := by cases a; simp
  have eb : (⟨b.data.toList.toArray⟩ : ByteArray) = b := by cases b; simp
  refine (Tryz.strings_Split a b m w (by simpa using hl) hm (by simpa using h1)).mono ?_
  rintro e w' ⟨rfl, rfl⟩
  generalize hL : Lib.splitB b 0 (Lib.countB a b) a = L at hq ⊢
  have hsl : splitL a.data.toList b.data.toList = L.map (·.data.toList) := by simp only [splitL, ea, eb, hL]
  have hn' : L.length = Lib.countB a b + 1 := by rw [← hL]; exact Lib.splitB_all b (by simpa using h1) 0 _ a rfl
  rw [hsl] at hq
  rw [← hn']
  have hrel : VRels ρ ((L.map (·.data.toList)).map AV.str) (L.map Value.string) := by
    rw [List.map_map]; exact VRels.maps (fun x => VRel.str x) L
  refine ⟨_, _, _, _, rfl, hs.ext_le (w.heap.size, 0, (L.map Value.string).toArray.size), hs.allocCells 9 (cs := (L.map (·.data.toList)).map .str) (c := (L.map Value.string).toArray) ?_ (by simp), ?_, hq⟩
  · have : ((L.map Value.string).toArray.toList.take ((L.map (·.data.toList)).map AV.str).length) = L.map Value.string := List.take_of_length_le (by simp)
    rw [this]; exact hrel
  · have := VRel.slice (ρ := ρ.ext st.hp.length (w.heap.size, 0, (L.map Value.string).toArray.size)) (o := 0) (len := L.length) (cap := L.length) (ex := true) (esz := 1) (a := ⟨w.heap.size, 0, none⟩) (cap' := L.length)
      (Ren.ext_at ..) (Nat.le_refl _) (Nat.le_refl _) (fun _ => rfl) (fun _ => rfl) (fun hh => by cases hh)
    simpa using this

theorem c_Trim {s set : List UInt8} (hl : s.length < 4294967281) (hc : set.length < 4294967281) (hset : set.all (fun b => decide (b.toNat < 128)) = true) (hq : Q (.str (Lib.trimS s set)) st) : Cal w0 n_strings_Trim [.str s, .str set] st Q := by
  refine lib_call (by kernel_rfl) (fun pins ρ w args' hs ha => ?_) hq
  obtain ⟨a, b, rfl, rfl, rfl⟩ := strs_inv ha
  have := Any.strings_Trim_laid Tryz.lays160 (by kernel_rfl) a b w (by simp at hl; omega) (by simpa using hc) (ascii_of_all hset)
  exact ⟨_, str_of _, this⟩

/-- A world, seen by nobody. -/
def ρ0 : Ren := ⟨fun _ => none, fun _ => none⟩
theorem sim0 (W : World) : Sim W [] ρ0 ⟨[], []⟩ W :=
  ⟨.refl _ _, fun b x e => (by cases e), fun b k e => (by simp at e), fun b b' k k' x x' e => (by simp at e), fun i l e => (by cases e), fun i l e => (by simp at e), fun i j r e => (by cases e), fun p hp => (by cases hp), fun p hp => (by cases hp), fun i r e => (by cases e), by simp⟩

theorem c_TrimFunc (g : Gnd w0) {s : List UInt8} {f : FuncId} {p : Nat → Bool} (hl : s.length < 4294967281) (hen : enterOk Tryz.prog f = true) (hp : ∀ (W : World) (x : Nat), x ≤ 1114111 → Cal W f [.int .i32 x] ⟨[], []⟩ fun v _ => v = .bool (p x))
    (hq : Q (.str (Lib.trimF p ⟨s.toArray⟩).data.toList) st) : Cal w0 n_strings_TrimFunc [.str s, .func f [] []] st Q := by
  refine lib_call (by kernel_rfl) (fun pins ρ w args' hs ha => ?_) hq
  obtain ⟨v1, vs, e1, h1, h2⟩ := ha.cons_inv
  obtain ⟨v2, vs2, rfl, h3, h4⟩ := h2.cons_inv
  obtain rfl := h4.nil_inv
  obtain ⟨a, rfl, rfl⟩ := h1.str_inv
  obtain ⟨first', cap', rfl, hf1, hf2⟩ : ∃ first' cap', v2 = .func (.func f) first' cap' ∧ first' = #[] ∧ cap' = #[] := by
    cases h3 with
    | func a1 _ a2 _ =>
      refine ⟨_, _, rfl, ?_, ?_⟩
      · simpa using a1.symm
      · simpa using a2.symm
  subst hf1; subst hf2
  have hargs : args' = #[.string a, .func (.func f) #[] #[]] := by apply Array.ext'; simpa using e1
  subst hargs
  have ea : (⟨a.data.toList.toArray⟩ : ByteArray) = a := by cases a; simp
  rw [ea]
  refine ⟨_, VRel.str _, Tryz.strings_TrimFunc_grows f #[] (fun args w => enter_run hen args) p a w (by simp at hl; omega) (g.tabs hs (by kernel_rfl) (by kernel_rfl)) ?_⟩
  intro W x hx hb
  refine ((hp W x hx).2 [] ρ0 W #[.int .i32 x] (sim0 W) (.cons (.int _ _) .nil)).mono ?_
  rintro e w' ⟨v', ρ', v, st', rfl, hle, hsim, hv, rfl⟩
  have : v' = .bool (p x) := by cases hv; rfl
  exact ⟨by rw [this], hsim.below⟩
end
end Go.Ab
