/-
  THE ABSTRACT MACHINE, part X: from a contract to the law's row: a call that begins in the row's own world; what the row lists gives what is laid.
-/
import Derived.Test.YtkjglhamlnnboaaDoorAmW
import Derived.Stop.LaidErr
import Derived.LaidMore
import Derived.Lib.SmallJoins
set_option linter.unusedVariables false
set_option linter.unusedSimpArgs false
namespace Go.Proofs.YtkjglhamlnnboaaDoor.Am
open Go Go.RowKit

/-- Each cell of the old blocks. -/
def oldCells (w : World) : Imm := fun b o => w.cell? ⟨b, o, none⟩

theorem AVRel.notHdr {I : Imm} {G : Ghost} {s : St} {v : AV} {y : Value} (h : AVRel I G s v y) : v.isHdr = false := by
  cases v <;> first | rfl | (simp only [AVRel] at h)
theorem AVRel.notOwn {I : Imm} {G : Ghost} {s : St} {v : AV} {y : Value} (h : AVRel I G s v y) : v.isOwn = false := by
  cases v <;> first | rfl | (simp only [AVRel] at h)

theorem AVRels.at {I : Imm} {G : Ghost} {s : St} : ∀ {l : List AV} {ys : List Value}, AVRels I G s l ys → l.length = ys.length ∧ ∀ j, j < l.length → AVRel I G s (l.getD j .junk) (ys.getD j undef)
  | [], ys, h => by simp only [AVRels] at h; subst h; exact ⟨rfl, fun j hj => by simp at hj⟩
  | v :: l, ys, h => by
    simp only [AVRels] at h
    obtain ⟨y, ys', rfl, h1, h2⟩ := h
    obtain ⟨e, hr⟩ := AVRels.at h2
    refine ⟨by simp [e], fun j hj => ?_⟩
    cases j with
    | zero => simpa using h1
    | succ j => simpa using hr j (by simpa using hj)

/-- The state in which a law begins is told by its world. -/
theorem rel_start {w : World} {args : List AV} {vals : Array Value} (G : Ghost) (hl : Laid w.heap.size w) (hn : args.length ≤ 4096) (h : AVRels (oldCells w) G (initSt args []) args vals.toList) :
    Rel ⟨w.heap.size, w, fun b => w.heap[b]?, args.length⟩ (oldCells w) G (initSt args []) vals w := by
  obtain ⟨hlen, hat⟩ := h.at
  have hv : ∀ k, 4096 ≤ k → (initSt args []).val k = .junk := fun k hk => by rw [initSt_key _ _ hk]; simp
  have ht : ∀ k, k < 4096 → (initSt args []).val k = args.getD k .junk := fun k hk => initSt_tmp _ _ hk
  have hh : ∀ k, ((initSt args []).val k).isHdr = false ∧ ((initSt args []).val k).isOwn = false := by
    intro k
    by_cases hk : k < 4096
    · rw [ht k hk]
      by_cases hj : k < args.length
      · exact ⟨(hat k hj).notHdr, (hat k hj).notOwn⟩
      · rw [List.getD_eq_getElem?_getD, List.getElem?_eq_none (by omega)]
        exact ⟨rfl, rfl⟩
    · rw [hv k (by omega)]
      exact ⟨rfl, rfl⟩
  have hlive : ∀ k, ¬ Live (initSt args []) G k := fun k hk => by
    rcases hk with hk | ⟨hk, _⟩
    · rw [(hh k).1] at hk; cases hk
    · rw [(hh k).2] at hk; cases hk
  exact {
    below := Below.refl _ _
    laid := hl
    base := Nat.le_refl _
    prot := fun b o hb => hb
    imm := fun b o v hb => hb
    size := by simpa using hlen.symm
    small := hn
    tmps := fun t hlt => by
      have hlt' : t < args.length := hlt
      have h1 := hat t hlt'
      have e : vals.getD t undef = vals.toList.getD t undef := by simp [Array.getD_eq_getD_getElem?, List.getD_eq_getElem?_getD]
      rw [ht t (by omega), e]
      unfold CellRel
      split
      · rename_i heq
        have := h1.notOwn
        rw [heq] at this
        cases this
      · exact h1
    high := fun t h1 h2 => by
      rw [ht t h2, List.getD_eq_getElem?_getD, List.getElem?_eq_none h1]
      rfl
    notHdr := fun t _ => (hh t).1
    hdrs := fun n => (hh _).2
    objs := fun n e z he => by
      have := (hh (khdr n)).1
      rw [he] at this
      cases this
    owns := fun k e z xs fz he => by
      have := (hh k).2
      rw [he] at this
      cases this
    inj := fun k k' hk => absurd hk (hlive k)
    mine := fun k hk => absurd hk (hlive k)
    immH := fun k hk => by
      rw [(hh k).1] at hk
      cases hk }

/-- A law's call, by its contract: what it returns, and that it writes to no old block. -/
theorem calls_of_semCall {P : Program} {f : FuncId} {fn : Func} {c : Code} {args : List AV} {vals : Array Value} {w : World} {x : Value} (hf : P.funcs[f]? = some fn) (hb : fn.body = some c) (hn : (fn.name == "runtime.NumGoroutine") = false)
    (G : Ghost) (hl : Laid w.heap.size w) (hk : args.length ≤ 4096) (h : AVRels (oldCells w) G (initSt args []) args vals.toList) (hs : SemCall P f args [] (one (.v x))) :
    Calls P f vals w fun e w' => e = .returned x ∧ Below w.heap.size w w' := by
  have q := hs w.heap.size w (fun b => w.heap[b]?) (oldCells w) G vals w (rel_start G hl hk h)
  have hcf : (callFunc f vals).run P w = .ok (.enter f vals) w := by
    have hn' : fn.name ≠ "runtime.NumGoroutine" := by simpa using hn
    simp [callFunc, hf, hn', hb]
  unfold Inv at q
  rw [hcf] at q
  refine Calls.mono q ?_
  intro e w' hq
  cases e with
  | returned v =>
    obtain ⟨J, G', R, _⟩ := hq
    have h0 := R.tmps 0 (by show (0 : Nat) < 1; omega)
    have e0 : (retSt [] (one (.v x))).val 0 = .p (.v x) := by simp [retSt, one]
    rw [e0] at h0
    simp only [CellRel, AVRel] at h0
    refine ⟨?_, R.below⟩
    have e1 : (#[v] : Array Value).getD 0 undef = v := rfl
    rw [e1] at h0
    cases h0
    rfl
  | _ => exact absurd hq (by simp)

/-- Nothing is laid where the program has no table. -/
theorem laid_none {B : Nat} {w : World} (h : (Proofs.Tryd.prog.globals.toList.any fun g => g.name == "internal/strconv.uint64pow10") = false) : Laid B w := by
  intro _ _ hg
  obtain ⟨g, h1, h2⟩ := hg
  have : (Proofs.Tryd.prog.globals.toList.any fun g => g.name == "internal/strconv.uint64pow10") = true := List.any_eq_true.2 ⟨g, h1, by simp [h2]⟩
  rw [h] at this
  cases this

/-- The table stands somewhere on the list. -/
theorem laid_at {w : World} {pre rest : List (String × DataW Unit)} {g : Nat} {t e : TypeId} (hg : Proofs.Tryd.prog.globalNamed "internal/strconv.uint64pow10" = some g) (hty : (Proofs.Tryd.prog.globals[g]?).map (·.type) = some t)
    (ht : Proofs.Tryd.prog.underlying t = some (.array 20 e)) (he : Proofs.Tryd.prog.underlying e = some (.int .u64)) (hce : Proofs.Tryd.prog.cellsOf e = 1) (hct : Proofs.Tryd.prog.cellsOf t = 20)
    (h : laidMet Proofs.Tryd.prog (pre ++ ("internal/strconv.uint64pow10", Lib.tabData .u64 Lib.pow10Tab) :: rest) w) : Laid w.heap.size w := by
  have h1 : Lib.TabIs Proofs.Tryd.prog w "internal/strconv.uint64pow10" .u64 Lib.pow10Tab := by
    induction pre with
    | nil => exact Lib.tabIs_of_head hg hty ht he hce hct h
    | cons p pre ih => exact ih h.tail
  intro w' hb _
  exact Joins.var_stays hg h1 hb (Nat.le_refl _)

end Go.Proofs.YtkjglhamlnnboaaDoor.Am
