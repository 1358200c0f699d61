/-
  THE ABSTRACT MACHINE, part Q: functions whose contract was proved elsewhere: plain values in, a plain value out, memory grows.
-/
import Derived.Test.YtkjglhamlnnboaaDoorAmP
set_option linter.unusedVariables false
set_option linter.unusedSimpArgs false
namespace Go.Proofs.YtkjglhamlnnboaaDoor.Am
open Go Go.RowKit

section
variable {P : Program}

/-- A value that stands in no memory: handed back alone. -/
def one (x : PV) : CRes := ⟨.p x, [], []⟩

theorem leaving_one {s : St} {x : PV} : Leaving [] s (.p x) (one x) [] [] :=
  ⟨by simp, rfl, .inr ⟨rfl, by simp [renA, one]⟩, rfl, by simp, by simp [outAt, one], by simp⟩

/-- From a contract of the library's. -/
theorem semCall_of_calls {f : FuncId} {fn : Func} {c : Code} {args : List AV} {x : PV} (hf : P.funcs[f]? = some fn) (hb : fn.body = some c) (hown : ∀ a, a ∈ args → a.isOwn = false) (hn : (fn.name == "runtime.NumGoroutine") = false)
    (h : ∀ (I : Imm) (G : Ghost) (s : St) (vals : Array Value) (w w0 : World) (B : Nat), AVRels I G s args vals.toList → (∀ b o v, I b o = some v → w.cell? ⟨b, o, none⟩ = some v) → Laid B w0 → Below B w0 w →
      Calls P f vals w fun e w' => ∃ v, e = .returned v ∧ PVRel I x v ∧ Below w.heap.size w w') : SemCall P f args [] (one x) := by
  intro B w0 prot I G vals w R
  have hargs : AVRels I G (initSt args []) args vals.toList := by
    have hsz : vals.size = args.length := R.size
    have key : ∀ (l : List AV) (ys : List Value) (i : Nat), l.length = ys.length → (∀ j, j < l.length → AVRel I G (initSt args []) (l.getD j .junk) (ys.getD j undef)) → AVRels I G (initSt args []) l ys := by
      intro l
      induction l with
      | nil => intro ys i hl _; simp only [AVRels]; exact List.eq_nil_of_length_eq_zero (by simpa using hl.symm)
      | cons v l ih =>
        intro ys i hl hr
        cases ys with
        | nil => simp at hl
        | cons y ys =>
          simp only [AVRels]
          exact ⟨y, ys, rfl, by simpa using hr 0 (by simp), ih ys i (by simpa using hl) fun j hj => by simpa using hr (j + 1) (by simpa using hj)⟩
    refine key args vals.toList 0 (by simp [hsz]) fun j hj => ?_
    have h1 := R.tmps j hj
    have hlt : j < 4096 := Nat.lt_of_lt_of_le hj R.small
    rw [initSt_tmp _ _ hlt] at h1
    have h2 : vals.getD j undef = vals.toList.getD j undef := by
      simp [Array.getD_eq_getD_getElem?, List.getD_eq_getElem?_getD]
    rw [h2] at h1
    refine h1.to ?_
    rw [List.getD_eq_getElem?_getD, List.getElem?_eq_getElem hj]
    exact hown _ (List.getElem_mem hj)
  have hcf : (callFunc f vals).run P w = .ok (.enter f vals) w := by
    have hn' : fn.name ≠ "runtime.NumGoroutine" := by simpa using hn
    simp [callFunc, hf, hn', hb]
  unfold Inv
  rw [hcf]
  refine (h I G (initSt args []) vals w w0 B hargs R.imm R.laid R.below).mono ?_
  rintro e w' ⟨v, rfl, hv, hbl⟩
  have hg : Grew w w' := ⟨hbl.os, hbl.tape, hbl.output, hbl.size, hbl.block⟩
  have R2 := R.grow hg
  obtain ⟨G2, q1, q2, q3⟩ := R2.leave (x := .p x) (y := v) (r := one x) (NL := []) (objs := []) (args := args) (.inr (by simp only [AVRel]; exact hv)) leaving_one (Keeps.refl _ G)
  exact ⟨I, G2, q1, Imm.le_refl I, fun _ _ _ => rfl, q2, q3⟩

end
end Go.Proofs.YtkjglhamlnnboaaDoor.Am
