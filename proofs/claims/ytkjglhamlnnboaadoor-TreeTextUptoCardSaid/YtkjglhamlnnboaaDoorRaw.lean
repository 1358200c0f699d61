/-
  Three functions of strings.Builder at a struct that holds one, walked in the model.
-/
import Derived.Test.YtkjglhamlnnboaaDoorAmTab
import Derived.Test.YtkjglhamlnnboaaDoorAmW
import Derived.WalkKit
import Derived.ProofKit
import Derived.Lib.Builder
import Derived.Lib.UnsafeStr
import Derived.Laws.Externs
import Derived.Lib.Walk
set_option linter.unusedVariables false
set_option linter.unusedSimpArgs false
namespace Go.Proofs.YtkjglhamlnnboaaDoor.Am
open Go Go.Proofs Go.RowKit

theorem i50 : (Tryd.prog.info? 50).map (·.size) = some 2 := by kernel_rfl
theorem lies50 : liesAt Tryd.prog Tryd.prog.depth 52 (2 / Tryd.prog.cellsOf 52) 0 50 1 = true := by kernel_rfl

set_option maxHeartbeats 1000000 in
set_option maxRecDepth 100000 in
theorem cc_used (b : Nat) (w : World) (h0 : w.cell? ⟨b, 0, none⟩ = some (.pointer (some ⟨b, 0, none⟩))) :
    Calls Tryd.prog 27 #[.pointer (some ⟨b, 0, none⟩)] w fun e w' => e = .returned (.tuple #[]) ∧ w' = w := by
  obtain ⟨j, hj, hjs⟩ := Option.map_eq_some_iff.1 i50
  go_enter Tryd.func27, Tryd.ntmps27
  go_wp2
  rw [Lib.run_neq_ptr_same w _ Tryd.underlying48 hj]
  go_wp2
  go_end0
  exact ⟨rfl, rfl⟩

set_option maxHeartbeats 1000000 in
set_option maxRecDepth 100000 in
theorem cc_fresh (b : Nat) (w : World) (h0 : w.cell? ⟨b, 0, none⟩ = some (.pointer none)) (hsh : w.shape? b = some (52, 2)) (hfz : w.frozen? ⟨b, 0, none⟩ = false) :
    Calls Tryd.prog 27 #[.pointer (some ⟨b, 0, none⟩)] w fun e w' => e = .returned (.tuple #[]) ∧ w' = w.setCell ⟨b, 0, none⟩ (.pointer (some ⟨b, 0, none⟩)) := by
  obtain ⟨j, hj, hjs⟩ := Option.map_eq_some_iff.1 i50
  go_enter Tryd.func27, Tryd.ntmps27
  go_wp2
  rw [Lib.run_to_unsafe w ⟨b, 0, none⟩ Tryd.underlying48 Tryd.underlying94 hj (by rw [hjs]; decide) hsh (Nat.zero_lt_succ 1)]
  simp only [Result.andThen]
  rw [Oper.upon_value]
  go_wp2
  rw [run_callFunc_extern Tryd.func43 (by kernel_rfl) (by kernel_rfl) (by kernel_rfl) (e := Extern.AbiNoEscape.same) (by kernel_rfl)]
  rw [Lib.run_noEscape]
  simp only [Result.andThen]
  rw [Oper.upon_value]
  go_wp2
  rw [Lib.run_from_unsafe w ⟨b, 0, none⟩ Tryd.underlying94 Tryd.underlying48 hj hsh lies50]
  simp only [Result.andThen]
  rw [Oper.upon_value]
  go_wp2
  go_end0
  exact ⟨rfl, rfl⟩

set_option maxHeartbeats 1000000 in
set_option maxRecDepth 100000 in
/-- (*strings.Builder).String, of a Builder that holds at least one byte: its bytes are not to be written any more. -/
theorem str_calls (b g cap : Nat) (p : Value) (cur : Array Value) (l : List UInt8) (w : World) (hb : w.heap[b]? = some (.cells #[p, .slice (some ⟨g, 0, none⟩) l.length cap] 52 (0, 0))) (h0 : l ≠ []) (hn : l.length ≤ cap) (hcm : cap ≤ maxLen) (hg : w.heap[g]? = some (.cells cur 5 (0, 0))) (hcs : cur.size = cap)
    (hcell : ∀ (j : Nat) (x : UInt8), l[j]? = some x → cur[j]? = some (.int .u8 x.toNat)) :
    Calls Tryd.prog 13 #[.pointer (some ⟨b, 0, none⟩)] w fun e w' => e = .returned (.string ⟨l.toArray⟩) ∧ w' = w.drew.freeze ⟨g, 0, none⟩ l.length := by
  have hl0 : l.length ≠ 0 := by simpa using h0
  have c1 : w.drew.cell? ⟨b, 1, none⟩ = some (.slice (some ⟨g, 0, none⟩) l.length cap) := by
    have : w.drew.heap[b]? = some (.cells #[p, .slice (some ⟨g, 0, none⟩) l.length cap] 52 (0, 0)) := hb
    simp [World.cell?, this]
  have hSD : (Builtin.unsafeSliceData_ #[44] 76 #[.slice (some ⟨g, 0, none⟩) l.length cap]).run Tryd.prog w.drew = .ok (.pointer (some ⟨g, 0, none⟩)) w.drew :=
    Lib.run_unsafeSliceData_row _ _ _ _ _ _ (by omega)
  have hUS : (Builtin.unsafeString_ #[76, 3] 9 #[.pointer (some ⟨g, 0, none⟩), .int .i64 l.length]).run Tryd.prog w.drew = .ok (.string ⟨l.toArray⟩) (w.drew.freeze ⟨g, 0, none⟩ l.length) := by
    refine Lib.run_unsafeString_row w.drew 76 3 9 5 Tryd.underlying76 (by kernel_rfl) g cur.size (by have hg' : w.drew.heap[g]? = some (.cells cur 5 (0, 0)) := hg; simp [World.shape?, hg']) l h0 (by omega) (by unfold maxLen at hcm; omega) ?_
    intro j x hx
    have hg' : w.drew.heap[g]? = some (.cells cur 5 (0, 0)) := hg
    have hc := hcell j x hx
    by_cases hj : j = 0
    · subst hj; simp [World.cell?, Addr.add, hg', hc]
    · simp [World.cell?, Addr.add, hj, hg', hc]
  go_enter Tryd.func13, Tryd.ntmps13
  go_wp2
  go_region
  all_goals (go_wp2; go_ret; exact ⟨rfl, rfl⟩)

abbrev bldT : Nat := 52

/-- What a Builder's first cell holds: nothing yet, or where it lies. -/
inductive Adr : AV → Prop
  | no : Adr (.p (.v (.pointer none)))
  | me : Adr (.ptr 0 0 0)

theorem cell_of {b j : Nat} {w : World} {cs : Array Value} {e : Nat} (h : w.heap[b]? = some (.cells cs e (0, 0))) : w.cell? ⟨b, j, none⟩ = cs[j]? := by
  simp [World.cell?, h]

section
attribute [local semireducible] kcell khdr
/-- (*strings.Builder).copyCheck. -/
theorem cc_sem {a : AV} (ha : Adr a) (l : List (List PV)) : SemCall Tryd.prog 27 [.ptr 0 0 0] [⟨bldT, [a, .own 5 1 l false]⟩] ⟨.tup [], [[some (.ptr 0 0 0), none]], []⟩ := by
  refine semCall_raw Tryd.func27 (by rfl) (by decide) ?_
  intro B w0 prot I G vals w R
  have hD : Den (initC [.ptr 0 0 0] [⟨bldT, [a, .own 5 1 l false]⟩]) (initSt [.ptr 0 0 0] [⟨bldT, [a, .own 5 1 l false]⟩]) := den_init _ _ (by simp) (by simp)
  have hh : (initSt [.ptr 0 0 0] [⟨bldT, [a, .own 5 1 l false]⟩]).val (khdr 0) = .hdr bldT 2 := hD.val _ _ (by rfl)
  have hc0 : (initSt [.ptr 0 0 0] [⟨bldT, [a, .own 5 1 l false]⟩]).val (kcell 0 0) = a := hD.val _ _ (by rfl)
  obtain ⟨_, cs, hw, hsz, hcs⟩ := R.objs 0 bldT 2 hh
  have h0 := hcs 0 (by decide)
  rw [hc0] at h0
  have hsz1 : vals.size = 1 := R.size
  have hv := R.tmps 0 (show 0 < 1 by decide)
  have ht0 : (initSt [.ptr 0 0 0] [⟨bldT, [a, .own 5 1 l false]⟩]).val 0 = .ptr 0 0 0 := hD.val _ _ (by rfl)
  rw [ht0] at hv
  simp only [CellRel, AVRel] at hv
  have hv0 := hv.2.2 (by first | rfl | trivial) (by rw [hh]; rfl)
  obtain rfl : vals = #[.pointer (some ⟨G.blk (khdr 0), 0, none⟩)] := by
    apply Array.ext
    · simp [hsz1]
    · intro i h1 h2
      have : i = 0 := by simp at h2; exact h2
      subst this
      rw [Array.getD_eq_getD_getElem?, Array.getElem?_eq_getElem h1] at hv0
      simpa using hv0
  have hlt : 0 < cs.size := by omega
  have hcell : w.cell? ⟨G.blk (khdr 0), 0, none⟩ = some (cs.getD 0 undef) := by
    rw [cell_of hw, Array.getD_eq_getD_getElem?, Array.getElem?_eq_getElem hlt]; rfl
  have hptr : AVRel I G (initSt [.ptr 0 0 0] [⟨bldT, [a, .own 5 1 l false]⟩]) (.ptr 0 0 0) (.pointer (some ⟨G.blk (khdr 0), 0, none⟩)) := by
    unfold AVRel
    exact ⟨Nat.zero_le _, ⟨_, rfl⟩, fun _ _ => rfl⟩
  have hfin : ∀ (w' : World) (cs' : Array Value), cs' = cs.setIfInBounds 0 (.pointer (some ⟨G.blk (khdr 0), 0, none⟩)) → w'.heap[G.blk (khdr 0)]? = some (.cells cs' bldT (0, 0)) → Same w w' (G.blk (khdr 0)) →
      ∃ v, Ending.returned (.tuple #[]) = Ending.returned v ∧ ∃ s' J G' x NL objs, Rel ⟨B, w0, prot, 1⟩ J G' s' #[.pointer (some ⟨G.blk (khdr 0), 0, none⟩)] w' ∧ Ext ⟨B, w0, prot, 1⟩ I J (initSt [.ptr 0 0 0] [⟨bldT, [a, .own 5 1 l false]⟩]) s' G G' ∧ AVRel J G' s' x v ∧ Leaving [⟨bldT, [a, .own 5 1 l false]⟩] s' x ⟨.tup [], [[some (.ptr 0 0 0), none]], []⟩ NL objs := by
    intro w' cs' hcs' hw' hs
    have R2 := R.put_plain (k := kcell 0 0) (v := .ptr 0 0 0) (y := .pointer (some ⟨G.blk (khdr 0), 0, none⟩)) (.cell 0 0 bldT 2 cs w' rfl (by decide) hh hw (by rw [hw', hcs']) hs) hptr
    obtain ⟨NL, objs, L⟩ := leaveP_ok (imps := [⟨bldT, [a, .own 5 1 l false]⟩]) (r := ⟨.tup [], [[some (.ptr 0 0 0), none]], []⟩) (x := .tup []) (hD.set (kcell 0 0) (.ptr 0 0 0)) (by cases ha <;> cbv)
    exact ⟨_, rfl, _, I, G, .tup [], NL, objs, R2, ⟨Imm.le_refl I, Keeps.set _ _ _ fun _ _ => ⟨rfl, rfl, rfl⟩, fun _ _ _ => rfl⟩, by simp [AVRel, AVRels], L⟩
  cases ha with
  | no =>
    simp only [CellRel, AVRel] at h0
    have h0' : cs.getD 0 undef = .pointer none := by generalize cs.getD 0 undef = q at h0; cases h0; rfl
    rw [h0'] at hcell
    refine (cc_fresh (G.blk (khdr 0)) w hcell (by simp [World.shape?, hw, hsz]) (by simp [World.frozen?, hw])).mono ?_
    rintro e w' ⟨rfl, rfl⟩
    refine hfin _ _ rfl ?_ ?_
    · simp [World.setCell, Array.getElem?_modify, hw]
    · refine ⟨rfl, rfl, rfl, by simp [World.setCell], fun k hk => ?_⟩
      simp only [World.setCell, Array.getElem?_modify]
      rw [if_neg (fun h => hk h.symm)]
  | me =>
    simp only [CellRel, AVRel] at h0
    have h0' := h0.2.2 (by first | rfl | trivial) (by rw [hh]; rfl)
    rw [h0'] at hcell
    refine (cc_used (G.blk (khdr 0)) w hcell).mono ?_
    rintro e w' ⟨rfl, rfl⟩
    refine hfin _ cs ?_ hw ⟨rfl, rfl, rfl, rfl, fun _ _ => rfl⟩
    apply Array.ext
    · simp
    · intro i h1 h2
      rw [Array.getElem_setIfInBounds]
      split
      · rename_i hi
        subst hi
        rw [Array.getD_eq_getD_getElem?, Array.getElem?_eq_getElem h1] at h0'
        simpa using h0'
      · rfl

/-- Bytes as rows. -/
def bRows (l : List UInt8) : List (List PV) := l.map fun b => [.v (.int .u8 b.toNat)]
theorem bRows_len (l : List UInt8) : (bRows l).length = l.length := by simp [bRows]
theorem bRows_get {l : List UInt8} {j : Nat} {x : UInt8} (h : l[j]? = some x) : (bRows l)[j]? = some [.v (.int .u8 x.toNat)] := by simp [bRows, h]
theorem byteRows_eq (s : ByteArray) : byteRows s = bRows s.data.toList := rfl
theorem bRows_append (a b : List UInt8) : bRows a ++ bRows b = bRows (a ++ b) := by simp [bRows]

/-- (*strings.Builder).String. -/
theorem str_sem {a : AV} (ha : Adr a) (l : List UInt8) (h0 : l ≠ []) : SemCall Tryd.prog 13 [.ptr 0 0 0] [⟨bldT, [a, .own 5 1 (bRows l) false]⟩] ⟨.p (.v (.string ⟨l.toArray⟩)), [[none, some .junk]], []⟩ := by
  refine semCall_raw Tryd.func13 (by rfl) (by decide) ?_
  intro B w0 prot I G vals w R
  have hD : Den (initC [.ptr 0 0 0] [⟨bldT, [a, .own 5 1 (bRows l) false]⟩]) (initSt [.ptr 0 0 0] [⟨bldT, [a, .own 5 1 (bRows l) false]⟩]) := den_init _ _ (by simp) (by simp)
  have hh : (initSt [.ptr 0 0 0] [⟨bldT, [a, .own 5 1 (bRows l) false]⟩]).val (khdr 0) = .hdr bldT 2 := hD.val _ _ (by rfl)
  have hc1 : (initSt [.ptr 0 0 0] [⟨bldT, [a, .own 5 1 (bRows l) false]⟩]).val (kcell 0 1) = .own 5 1 (bRows l) false := hD.val _ _ (by rfl)
  obtain ⟨_, cs, hw, hsz, hcs⟩ := R.objs 0 bldT 2 hh
  have h1 := hcs 1 (by decide)
  rw [hc1] at h1
  obtain ⟨o1, o2, o3, o4⟩ := R.owns _ _ _ _ _ hc1
  have hnil : G.nil (kcell 0 1) = false := by
    cases hq : G.nil (kcell 0 1) with
    | false => rfl
    | true => have := o2 hq; cases l with
      | nil => exact absurd rfl h0
      | cons x r => simp [bRows] at this
  obtain ⟨cur, hg, hle, hcm, hcsz, hrows⟩ := o3 hnil
  simp only [CellRel, addrOf, hnil, Bool.false_eq_true, if_false, bRows_len] at h1
  rw [bRows_len] at hle
  have hsz1 : vals.size = 1 := R.size
  have hv := R.tmps 0 (show 0 < 1 by decide)
  have ht0 : (initSt [.ptr 0 0 0] [⟨bldT, [a, .own 5 1 (bRows l) false]⟩]).val 0 = .ptr 0 0 0 := hD.val _ _ (by rfl)
  rw [ht0] at hv
  simp only [CellRel, AVRel] at hv
  have hv0 := hv.2.2 (by first | rfl | trivial) (by rw [hh]; rfl)
  obtain rfl : vals = #[.pointer (some ⟨G.blk (khdr 0), 0, none⟩)] := by
    apply Array.ext
    · simp [hsz1]
    · intro i h1 h2
      have : i = 0 := by simp at h2; exact h2
      subst this
      rw [Array.getD_eq_getD_getElem?, Array.getElem?_eq_getElem h1] at hv0
      simpa using hv0
  have hcs2 : cs = #[cs.getD 0 undef, .slice (some ⟨G.blk (kcell 0 1), 0, none⟩) l.length (G.cap (kcell 0 1))] := by
    apply Array.ext
    · simp [hsz]
    · intro i g1 g2
      have : i = 0 ∨ i = 1 := by omega
      rcases this with rfl | rfl
      · simp [Array.getD_eq_getD_getElem?, Array.getElem?_eq_getElem g1]
      · rw [Array.getD_eq_getD_getElem?, Array.getElem?_eq_getElem g1] at h1
        simpa using h1
  rw [hcs2] at hw
  have hlive : Live (initSt [.ptr 0 0 0] [⟨bldT, [a, .own 5 1 (bRows l) false]⟩]) G (kcell 0 1) := .inr ⟨by rw [hc1]; rfl, hnil⟩
  obtain ⟨m1, m2, m3⟩ := R.mine _ hlive
  refine (str_calls (G.blk (khdr 0)) (G.blk (kcell 0 1)) (G.cap (kcell 0 1)) (cs.getD 0 undef) cur l w hw h0 hle hcm hg (by omega) ?_).mono ?_
  · intro j x hx
    obtain ⟨y, y1, y2, _⟩ := hrows.2 j 0 _ _ (bRows_get hx) (by rfl)
    cases y2
    simpa using y1
  · rintro e w' ⟨rfl, rfl⟩
    have R1 := (R.set_junk (k := kcell 0 1) (by rw [hc1]; rfl)).grow (Grew.drew w)
    have hlv : ∀ x, Live ((initSt [.ptr 0 0 0] [⟨bldT, [a, .own 5 1 (bRows l) false]⟩]).set (kcell 0 1) .junk) G x → x ≠ kcell 0 1 ∧ Live (initSt [.ptr 0 0 0] [⟨bldT, [a, .own 5 1 (bRows l) false]⟩]) G x := by
      intro x hx
      by_cases e : x = kcell 0 1
      · subst e; rcases hx with hx | hx <;> simp [AV.isHdr, AV.isOwn] at hx
      · exact ⟨e, by simpa [Live, e] using hx⟩
    have F : Free ⟨B, w0, prot, 1⟩ G ((initSt [.ptr 0 0 0] [⟨bldT, [a, .own 5 1 (bRows l) false]⟩]).set (kcell 0 1) .junk) w.drew (G.blk (kcell 0 1)) :=
      ⟨m2, m1, m3, fun x hx he => (hlv x hx).1 (R.inj x _ (hlv x hx).2 hlive he)⟩
    have hgd : w.drew.heap[G.blk (kcell 0 1)]? = some (.cells cur 5 (0, 0)) := hg
    have hS : Same w.drew (w.drew.freeze ⟨G.blk (kcell 0 1), 0, none⟩ l.length) (G.blk (kcell 0 1)) := by
      unfold World.freeze
      split
      · exact ⟨rfl, rfl, rfl, rfl, fun _ _ => rfl⟩
      · refine ⟨rfl, rfl, rfl, by simp, fun k hk => ?_⟩
        simp only [Array.getElem?_modify]
        rw [if_neg (fun h => hk h.symm)]
    have R2 := R1.touch F hS (fun o v hv => by have := (o4 hnil o v hv).1; cases this)
    obtain ⟨NL, objs, L⟩ := leaveP_ok (imps := [⟨bldT, [a, .own 5 1 (bRows l) false]⟩]) (r := ⟨.p (.v (.string ⟨l.toArray⟩)), [[none, some .junk]], []⟩) (x := .p (.v (.string ⟨l.toArray⟩))) (hD.set (kcell 0 1) .junk) (by cases ha <;> cbv)
    exact ⟨_, rfl, _, I, G, _, NL, objs, R2, ⟨Imm.le_refl I, Keeps.set _ _ _ fun _ _ => ⟨rfl, rfl, rfl⟩, fun _ _ _ => rfl⟩, by simp only [AVRel]; exact .v _, L⟩
end
end Go.Proofs.YtkjglhamlnnboaaDoor.Am
