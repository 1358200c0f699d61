/-
  TreeText: A program's text has its declarations, and its threads' statements, line by line (P4.2): of one statement. The law's call returns true for every input whose arguments are together of bulk at most 1048576; it writes to nothing that was there.
-/
import Derived.Test.YtkjglhamlnnboaaDoorV
import Derived.Test.YtkjglhamlnnboaaDoorAmX
import Derived.Test.YtkjglhamlnnboaaDoorCards
import Derived.Test.YtkjglhamlnnboaaDoorTie
import Derived.WalkKit
import Derived.ProofKit
import Derived.OpenShut
import Derived.ShutString
import Derived.ChangeOld
import Derived.Below
import Derived.Lay
import Derived.Deep.DeepHandedRow
import Derived.Lib.LaidTab
namespace Go.Proofs.YtkjglhamlnnboaaDoor
open Go Go.ChangeShapes Go.WideShapes Go.ChangeAt Go.RowKit
open Go.ChangeMaps (open_string shut_string)
namespace TreeText

theorem own : ownKnob Tryd.prog.godebug = none := by kernel_rfl
theorem gTab : Tryd.prog.globalNamed "internal/strconv.uint64pow10" = some 0 := by kernel_rfl
theorem gTabType : (Tryd.prog.globals[0]?).map (·.type) = some 104 := by kernel_rfl
theorem cells104 : Tryd.prog.cellsOf 104 = 20 := by kernel_rfl
theorem cells28 : Tryd.prog.cellsOf 28 = 1 := by kernel_rfl

/-- What the row's list gives: the table of the powers of ten is laid. -/
theorem laid {W : World} (h : laidMetH Tryd.prog Rows.treeTextUptoRow.laid W) : Am.Laid W.heap.size W :=
  Am.laid_at (pre := [("math/bits.deBruijn32tab", Rows.laid_math_bits_deBruijn32tab), ("math/bits.deBruijn64tab", Rows.laid_math_bits_deBruijn64tab)]) (rest := []) gTab gTabType Tryd.underlying104 Tryd.underlying28 cells28 cells104 h

/-- What the bound gives. -/
theorem short {H : Type} {label size count kind : Int} {a b : ByteArray}
    (hk : Rows.uptoSmall H [.lit (.int .i64 label), .lit (.string a.data.toList), .lit (.string b.data.toList), .lit (.int .u8 size), .lit (.int .u8 count), .lit (.int .u8 kind)] = true) : a.size + b.size ≤ 1048576 := by
  have h : Rows.uptoBulkAll [DataW.lit (H := H) (.int .i64 label), .lit (.string a.data.toList), .lit (.string b.data.toList), .lit (.int .u8 size), .lit (.int .u8 count), .lit (.int .u8 kind)] ≤ 1048576 := of_decide_eq_true hk
  simp only [Rows.uptoBulkAll, Rows.uptoBulk] at h
  have e : a.data.toList.length = a.size := by rw [Array.length_toList]; rfl
  have e2 : b.data.toList.length = b.size := by rw [Array.length_toList]; rfl
  omega

/-- The law's walk. -/
theorem walk (label : Int) (a b : ByteArray) (size count kind : Int) (hs : 0 ≤ size ∧ size ≤ 255) (hc : 0 ≤ count ∧ count ≤ 255) (hk : 0 ≤ kind ∧ kind ≤ 255) (hb : a.size + b.size ≤ 1048576) (w : World) (hl : Am.Laid w.heap.size w) :
    Calls Tryd.prog 3 #[.int .i64 label, .string a, .string b, .int .u8 size, .int .u8 count, .int .u8 kind] w fun e w' => e = .returned (.bool true) ∧ Below w.heap.size w w' := by
  refine Am.calls_of_semCall (c := Tryd.f3.body.getD .skip) Tryd.func3 (by rfl) (by decide) ⟨fun _ => 0, fun _ => 0, fun _ => true⟩ hl (by simp) ?_ (Am.law_sem label a b size count kind hs hc hk (by omega))
  simp only [Am.AVRels, Am.AVRel]
  exact ⟨_, _, rfl, .v _, _, _, rfl, .v _, _, _, rfl, .v _, _, _, rfl, .v _, _, _, rfl, .v _, _, _, rfl, .v _, rfl⟩

set_option maxRecDepth 100000 in
theorem contract (H : Type) (enc : TypeId × Value → H) (W : World) (base : Nat) (args : Array Value) (ds gs : List (DataW H)) (before : List MemPlace)
    (hval : ∀ (j : Nat) t v, Tryd.f3.params[j]? = some t → args[j]? = some v → Value.okWide Tryd.prog W .any base t v)
    (hW : DataW.Whole enc Tryd.prog Tryd.f3.params.toList Rows.treeTextSpec.vars false W args.toList ds gs before) (hk : Rows.uptoSmall H (ds ++ gs) = true) (hL : laidMetH Tryd.prog Rows.treeTextUptoRow.laid W) :
    Calls Tryd.prog 3 args W fun e W' => ∃ v, e = .returned v ∧ Rows.treeTextSpec.post enc Tryd.prog Tryd.f3 false true false false W args v W' := by
  have hW' := hW
  obtain ⟨p, q, hA0, hV, rfl, hfz, hnd⟩ := hW
  have hA : DataW.TrodAll enc Tryd.prog W 0 (fun _ => true) true Tryd.f3.params.toList args.toList ds p := hA0
  rw [Tryd.params3] at hA hval
  obtain ⟨v0, vs0, d0, ds0, p0, q0, hargs, rfl, rfl, h0, r0⟩ := trodAll_cons hA
  obtain ⟨v1, vs1, d1, ds1, p1, q1, rfl, rfl, rfl, h1, r1⟩ := trodAll_cons r0
  obtain ⟨v2, vs2, d2, ds2, p2, q2, rfl, rfl, rfl, h2, r2⟩ := trodAll_cons r1
  obtain ⟨v3, vs3, d3, ds3, p3, q3, rfl, rfl, rfl, h3, r3⟩ := trodAll_cons r2
  obtain ⟨v4, vs4, d4, ds4, p4, q4, rfl, rfl, rfl, h4, r4⟩ := trodAll_cons r3
  obtain ⟨v5, vs5, d5, ds5, p5, q5, rfl, rfl, rfl, h5, r5⟩ := trodAll_cons r4
  obtain ⟨rfl, rfl, rfl⟩ := trodAll_nil r5
  obtain rfl : args = #[v0, v1, v2, v3, v4, v5] := by cases args; simp only at hargs; rw [hargs]
  obtain ⟨rfl, rfl⟩ := trodVars_none hV
  obtain ⟨label, rfl, rfl, rfl, w0⟩ := open_int Tryd.underlying3 (hval 0 3 v0 rfl rfl) h0
  obtain ⟨a, rfl, rfl, rfl, y1⟩ := open_string Tryd.underlying9 (hval 1 9 v1 rfl rfl) h1
  obtain ⟨b, rfl, rfl, rfl, y2⟩ := open_string Tryd.underlying9 (hval 2 9 v2 rfl rfl) h2
  obtain ⟨size, rfl, rfl, rfl, w3⟩ := open_int Tryd.underlying5 (hval 3 5 v3 rfl rfl) h3
  obtain ⟨count, rfl, rfl, rfl, w4⟩ := open_int Tryd.underlying5 (hval 4 5 v4 rfl rfl) h4
  obtain ⟨kind, rfl, rfl, rfl, w5⟩ := open_int Tryd.underlying5 (hval 5 5 v5 rfl rfl) h5
  clear hA0
  simp only [List.append_nil] at hW' hk
  have b3 : 0 ≤ size ∧ size ≤ 255 := by simpa [Lit.wf, IntKind.min, IntKind.max, IntKind.signed, IntKind.bits] using w3
  have b4 : 0 ≤ count ∧ count ≤ 255 := by simpa [Lit.wf, IntKind.min, IntKind.max, IntKind.signed, IntKind.bits] using w4
  have b5 : 0 ≤ kind ∧ kind ≤ 255 := by simpa [Lit.wf, IntKind.min, IntKind.max, IntKind.signed, IntKind.bits] using w5
  refine (walk label a b size count kind b3 b4 b5 (short hk) W (laid hL)).mono fun e W' ⟨he, hg⟩ => ?_
  subst he
  exact ⟨_, rfl, _, _, _, [], _, [], hW', trodAll_mk1 (shut_bool Tryd.underlying4 _), trodAll_cons_mk (shut_int Tryd.underlying3 w0) (trodAll_cons_mk (shut_string Tryd.underlying9 y1) (trodAll_cons_mk (shut_string Tryd.underlying9 y2) (trodAll_cons_mk (shut_int Tryd.underlying5 w3) (trodAll_cons_mk (shut_int Tryd.underlying5 w4) (trodAll_cons_mk (shut_int Tryd.underlying5 w5) trodAll_mk0))))),
    rfl, hg.frame _, fun h => by cases h⟩

/-- A world for the witness. -/
noncomputable def laidWorld (os : Os) : World := World.laidAll Tryd.prog os Rows.treeTextUptoRow.laid
abbrev wargs : Array Value := #[.int .i64 0, .string ByteArray.empty, .string ByteArray.empty, .int .u8 0, .int .u8 0, .int .u8 0]
theorem laid_met (os : Os) : laidMetH Tryd.prog Rows.treeTextUptoRow.laid ((laidWorld os).forCall (fun _ _ => 0) ⟨#[], wargs, []⟩).memory := laidMet_laidAll _ (by kernel_rfl) (by kernel_rfl)
theorem reads (os : Os) {H : Type} (enc : TypeId × Value → H) : ∃ places, DataW.whole enc Tryd.prog ((laidWorld os).forCall (fun _ _ => 0) ⟨#[], wargs, []⟩).memory Tryd.f3.params.toList Rows.treeTextSpec.vars false wargs.toList 8 =
    some ([.lit (.int .i64 0), .lit (.string []), .lit (.string []), .lit (.int .u8 0), .lit (.int .u8 0), .lit (.int .u8 0)], [], places) :=
  ⟨[], by kernel_rfl⟩

set_option maxRecDepth 100000 in
theorem liftedUpto (os : Os) (started : os.Started) (H : Type) (enc : TypeId × Value → H) (F : Stop.Interp) :
    ReturnsInHanded {} Tryd.checked os 3 .any ((Rows.OpenSpec.upto Rows.treeTextSpec).preRow enc Tryd.prog Tryd.f3 Rows.treeTextUptoRow.domain false Rows.treeTextUptoRow.laid) (((Rows.OpenSpec.upto Rows.treeTextSpec).at F).post enc Tryd.prog Tryd.f3 false true false false) := by
  obtain ⟨places, hx⟩ := reads os enc
  refine returnsInHanded_of_row (C := Tryd.checked) (s := Rows.OpenSpec.upto Rows.treeTextSpec) own started (by kernel_rfl) Tryd.func3
    (witness_row_at (enc := enc) (C := Tryd.checked) false (laidWorld os) wargs (World.laidAll_os _ _ _) (by kernel_rfl) (by kernel_rfl) (by kernel_rfl)
      (OpenSpec.preRow_of_cond 8 hx (by kernel_rfl) (fun k hk => by cases hk; kernel_rfl) (by kernel_rfl) (laid_met os))) ?_
  intro W base args ds gs before hval hW _ hcond _ hL _ _
  exact contract H enc W base args ds gs before hval hW (hcond _ rfl) hL

theorem saidUpto : Rows.TreeTextUptoSaid :=
  OpenClaim.holds_of_cond 3 Tryd.f3 rfl rfl rfl rfl rfl rfl rfl ⟨rfl, rfl, rfl, rfl, rfl⟩ rfl rfl rfl rfl rfl (by kernel_rfl) Tryd.func3 (by kernel_rfl)
    (of_decide_eq_true (by kernel_rfl)) (by unfold Func.isWrapper; first | (rw [if_pos (by decide +kernel)]; kernel_rfl) | (rw [if_neg (by decide +kernel)]; exact ⟨rfl, rfl⟩))
    (fun os started H enc _ F => by rw [OpenClaim.pre_eq_preRow]; exact liftedUpto os started H enc F)

/-- No parameter wants a stand-in; the program's own looks are off: what the card asks. -/
theorem plain (f : FuncId) (fn : Func) (hf : Tryd.pinned.checked.prog.funcNamed "tautochrone/tautochronelaw04.TreeText" = some f) (hfn : Tryd.pinned.checked.prog.funcs[f]? = some fn) :
    false = Tryd.pinned.checked.prog.looks [] ∧ ∀ (j : Nat) t, fn.params[j]? = some t → Tryd.pinned.checked.prog.wantsStandIn t = false := by
  obtain rfl : f = 3 := Option.some.inj ((show Tryd.prog.funcNamed "tautochrone/tautochronelaw04.TreeText" = some 3 by kernel_rfl).symm.trans hf) |>.symm
  obtain rfl : fn = Tryd.f3 := (Option.some.inj (Tryd.func3.symm.trans hfn)).symm
  refine ⟨by kernel_rfl, fun j t ht => ?_⟩
  rw [Tryd.params3] at ht
  have hm := Array.mem_of_getElem? ht
  have hc : t = 3 ∨ t = 9 ∨ t = 5 := by
    simp at hm
    omega
  rcases hc with rfl | rfl | rfl
  · exact (show Tryd.prog.wantsStandIn 3 = false by kernel_rfl)
  · exact (show Tryd.prog.wantsStandIn 9 = false by kernel_rfl)
  · exact (show Tryd.prog.wantsStandIn 5 = false by kernel_rfl)
end TreeText

/-- The second form's card. -/
theorem treeText_card_upto : Rows.TreeTextUptoCardSaid :=
  Claim7.holds_tied_plain_at .later [] _ _ _ _ TreeText.saidUpto (fun _ h => by cases h) (by kernel_rfl) (fun _ h => by cases h) treeTextUpto_row_tie rfl ⟨rfl, rfl⟩ (by kernel_rfl) rfl TreeText.plain (by kernel_rfl)
#print axioms treeText_card_upto
end Go.Proofs.YtkjglhamlnnboaaDoor
