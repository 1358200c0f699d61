/-
  THE ABSTRACT MACHINE, part P: what plain operations come to, for walking.
-/
import Derived.Test.YtkjglhamlnnboaaDoorAmO
set_option linter.unusedVariables false
set_option linter.unusedSimpArgs false
namespace Go.Proofs.YtkjglhamlnnboaaDoor.Am
open Go Go.RowKit

section
variable {P : Program} {T : Tab}

/-- Is it told without names? -/
def plainA : AV → Bool
  | .p _ => true
  | .agg cs => cs.all fun c => match c with | .p _ => true | _ => false
  | .tup cs => cs.all fun c => match c with | .p _ => true | _ => false
  | _ => false

theorem ren_plain {L : List Nat} {ver : Nat → Nat} {x : AV} (h : plainA x = true) : renA L ver x = some x ∧ x.isOwn = false := by
  have key : ∀ cs : List AV, (cs.all fun c => match c with | .p _ => true | _ => false) = true → renAs L ver cs = some cs := by
    intro cs
    induction cs with
    | nil => intro _; rfl
    | cons c cs ih =>
      intro h
      simp only [List.all_cons, Bool.and_eq_true] at h
      cases c <;> simp at h
      simp only [renAs, renA, ih (by simpa using h)]
  cases x with
  | p x => exact ⟨rfl, rfl⟩
  | agg cs => exact ⟨by simp only [renA, key cs h, Option.map_some], rfl⟩
  | tup cs => exact ⟨by simp only [renA, key cs h, Option.map_some], rfl⟩
  | _ => simp [plainA] at h

/-- A run with its places, forward: what it read and wrote is gathered. -/
def FK (P : Program) : AM Unit → St → List Nat → List Nat → (St → List Nat → List Nat → Prop) → Prop
  | .pure _, s, R, W, K => K s R W
  | .fail, _, _, _, _ => False
  | .get k f, s, R, W, K => FK P (f (s.val k) (s.ver k)) s (R ++ [k]) W K
  | .set k v c, s, R, W, K => FK P c (s.set k v) (R ++ [k]) (W ++ [k]) K
  | .mod k v c, s, R, W, K => FK P c (s.mod k v) (R ++ [k]) (W ++ [k]) K
  | .call f args d c, s, R, W, K => ∃ d0 L imps args' r, d = some d0 ∧ L.Nodup ∧ impsOf s L L = some imps ∧ renAs L s.ver args = some args' ∧ args.length ≤ 64 ∧ (∀ o, o ∈ imps → o.cells.length ≤ 62) ∧
      SemCall P f args' imps r ∧ namesOk L d0 r = true ∧ backOk (L ++ newNames d0 r.news.length) (verIn s (newNames d0 r.news.length)) r = true ∧
      FK P c (retInto s L d0 r) (R ++ (d0 :: (L ++ newNames d0 r.news.length).flatMap (fun n => (List.range 64).map fun j => 4096 + n * 64 + j)))
        (W ++ (d0 :: (((List.range L.length).flatMap fun i => ((List.range 63).filter fun j => (outAt r i j).isSome).map fun j => 4096 + L.getD i 0 * 64 + j) ++ ((newNames d0 r.news.length).flatMap fun n => (List.range 64).map fun j => 4096 + n * 64 + j)))) K

theorem FK_run : ∀ {m : AM Unit} {s : St} {R W : List Nat} {K : St → List Nat → List Nat → Prop}, FK P m s R W K → ∃ s' R' W', FRun P m s s' R' W' ∧ K s' (R ++ R') (W ++ W') := by
  intro m
  induction m with
  | pure a => intro s R W K h; exact ⟨s, [], [], ⟨rfl, rfl, rfl⟩, by simpa [FK] using h⟩
  | fail => intro s R W K h; exact h.elim
  | get k f ih => intro s R W K h; obtain ⟨s', R', W', h1, h2⟩ := ih _ _ h; exact ⟨s', k :: R', W', ⟨R', rfl, h1⟩, by simpa using h2⟩
  | set k v c ih => intro s R W K h; obtain ⟨s', R', W', h1, h2⟩ := ih h; exact ⟨s', k :: R', k :: W', ⟨R', W', rfl, rfl, h1⟩, by simpa using h2⟩
  | mod k v c ih => intro s R W K h; obtain ⟨s', R', W', h1, h2⟩ := ih h; exact ⟨s', k :: R', k :: W', ⟨R', W', rfl, rfl, h1⟩, by simpa using h2⟩
  | call f args d c ih =>
    intro s R W K h
    obtain ⟨d0, L, imps, args', r, c1, c2, c3, c4, c5, c6, c7, c8, c9, h⟩ := h
    obtain ⟨s', R', W', h1, h2⟩ := ih h
    refine ⟨s', _, _, ⟨d0, L, imps, args', r, R', W', c1, c2, c3, c4, c5, c6, c7, c8, c9, rfl, rfl, h1⟩, ?_⟩
    simpa only [List.append_assoc, List.cons_append] using h2

def CK (P : Program) (T : Tab) (ops : Array Oper) : List Oper → St → List (List Nat × List Nat) → (St → List (List Nat × List Nat) → Prop) → Prop
  | [], s, fs, K => K s fs
  | o :: r, s, fs, K => FK P (guarded P T ops o) s [] [] fun s' R W => CK P T ops r s' (fs ++ [(R, W)]) K

theorem CK_chain {ops : Array Oper} : ∀ {l : List Oper} {s : St} {fs : List (List Nat × List Nat)} {K : St → List (List Nat × List Nat) → Prop}, CK P T ops l s fs K → ∃ s' fs', Chain P T ops l s s' fs' ∧ K s' (fs ++ fs')
  | [], s, fs, K, h => ⟨s, [], ⟨rfl, rfl⟩, by simpa [CK] using h⟩
  | o :: r, s, fs, K, h => by
    obtain ⟨s1, R, W, h1, h2⟩ := FK_run h
    obtain ⟨s', fs', h3, h4⟩ := CK_chain h2
    exact ⟨s', (R, W) :: fs', ⟨s1, R, W, fs', rfl, h1, h3⟩, by simpa using h4⟩

theorem swp_drawn {s : St} (hT : TabOk P T) (hm : P.follows .mixedOrders = true) {N id : Nat} {ops : Array Oper} {ds : Dfs} {Q : Exit → St → Dfs → Prop} (hd : dstsOk N ops = true) (he : edgesOk ops = true)
    (h : CK P T ops ops.toList s [] fun s' fs => noClash (befs [] ops.toList) fs 0 = true ∧ Q .normal s' ds) : SWp P N (.region id ops true) s ds Q := by
  obtain ⟨s', fs, h1, h2, h3⟩ := CK_chain h
  exact swp_draw hT hm hd he h1 (by simpa using h2) h3

/-! Rules that do not look at what comes behind. -/
theorem swp_go {s s1 : St} (hT : TabOk P T) {N id : Nat} {ops : Array Oper} {ds : Dfs} {y : Code} {Q : Exit → St → Dfs → Prop} (hd : dstsOk N ops = true) (h : awp P (seqA P T ops ops.toList) s fun _ s' => s' = s1) (h2 : SWp P N y s1 ds Q) : SWp P N (.seq (.region id ops false) y) s ds Q :=
  swp_seq (swp_region hT hd (awp_mono P _ _ h fun _ s' he => by subst he; exact h2))
theorem swp_go1 {s s1 : St} (hT : TabOk P T) {N id : Nat} {ops : Array Oper} {ds : Dfs} {Q : Exit → St → Dfs → Prop} (hd : dstsOk N ops = true) (h : awp P (seqA P T ops ops.toList) s fun _ s' => s' = s1) (h2 : Q .normal s1 ds) : SWp P N (.region id ops false) s ds Q :=
  swp_region hT hd (awp_mono P _ _ h fun _ s' he => by subst he; exact h2)
theorem then_n {K : St → Dfs → Prop} {Q : Exit → St → Dfs → Prop} {s : St} {ds : Dfs} (h : K s ds) : thenS K Q .normal s ds := h
theorem then_ret {K : St → Dfs → Prop} {Q : Exit → St → Dfs → Prop} {s : St} {ds : Dfs} (h : Q .ret s ds) : thenS K Q .ret s ds := h
theorem then_exit {K : St → Dfs → Prop} {Q : Exit → St → Dfs → Prop} {s : St} {ds : Dfs} {id : Nat} (h : Q (.exit id) s ds) : thenS K Q (.exit id) s ds := h
theorem block_n {Q : Exit → St → Dfs → Prop} {s : St} {ds : Dfs} {id : Nat} (h : Q .normal s ds) : blockS id Q .normal s ds := h
theorem block_ret {Q : Exit → St → Dfs → Prop} {s : St} {ds : Dfs} {id : Nat} (h : Q .ret s ds) : blockS id Q .ret s ds := h
theorem block_here {Q : Exit → St → Dfs → Prop} {s : St} {ds : Dfs} {id : Nat} (h : Q .normal s ds) : blockS id Q (.exit id) s ds := by simpa [blockS] using h
theorem block_past {Q : Exit → St → Dfs → Prop} {s : St} {ds : Dfs} {id id' : Nat} (hne : id' ≠ id) (h : Q (.exit id') s ds) : blockS id Q (.exit id') s ds := by simpa [blockS, hne] using h
theorem swp_if {N : Nat} {c : Operand} {x y : Code} {s : St} {ds : Dfs} {Q : Exit → St → Dfs → Prop} {b : Bool} (hc : awp P (evalO c) s fun v _ => v = .p (.v (.bool b))) (h1 : b = true → SWp P N x s ds Q) (h2 : b = false → SWp P N y s ds Q) : SWp P N (.cond c x y) s ds Q := by
  cases b with
  | true => exact swp_cond hc (by simpa using h1 rfl)
  | false => exact swp_cond hc (by simpa using h2 rfl)

theorem pr_pure {α : Type} (a : α) : pureRun P (pure a) = some a := rfl
theorem pr_bind {α β : Type} (m : Sem α) (f : α → Sem β) : pureRun P (m >>= f) = (pureRun P m).bind fun a => pureRun P (f a) := by
  show pureRun P (Sem.bind m f) = _
  induction m with
  | pure a => rfl
  | program k ih => simp only [Sem.bind, pureRun, ih]
  | _ => rfl
theorem pr_und {t : Nat} {d : TypeDesc} (h : P.underlying t = some d) : pureRun P (underlying t) = some d := by
  simp only [underlying, pr_bind]
  simp [program, pureRun, h, pr_pure]

theorem pr_add (t : Nat) (x y : Operand) (k : IntKind) (a b : Int) : pureRun P (do eqGuard .add t x y (.int k a) (.int k b); binOp .add t (.int k a) (.int k b)) = some (.int k (k.wrap (a + b))) := by
  simp [eqGuard, binOp, Op.intArith, pr_pure]
theorem pr_sub (t : Nat) (x y : Operand) (k : IntKind) (a b : Int) : pureRun P (do eqGuard .sub t x y (.int k a) (.int k b); binOp .sub t (.int k a) (.int k b)) = some (.int k (k.wrap (a - b))) := by
  simp [eqGuard, binOp, Op.intArith, pr_pure]
theorem pr_mul (t : Nat) (x y : Operand) (k : IntKind) (a b : Int) : pureRun P (do eqGuard .mul t x y (.int k a) (.int k b); binOp .mul t (.int k a) (.int k b)) = some (.int k (k.wrap (a * b))) := by
  simp [eqGuard, binOp, Op.intArith, pr_pure]
theorem pr_quo (t : Nat) (x y : Operand) (k : IntKind) (a b : Int) (h : b ≠ 0) : pureRun P (do eqGuard .quo t x y (.int k a) (.int k b); binOp .quo t (.int k a) (.int k b)) = some (.int k (k.wrap (a.tdiv b))) := by
  simp [eqGuard, binOp, Op.intDiv, pr_pure, h]
theorem pr_rem (t : Nat) (x y : Operand) (k : IntKind) (a b : Int) (h : b ≠ 0) : pureRun P (do eqGuard .rem t x y (.int k a) (.int k b); binOp .rem t (.int k a) (.int k b)) = some (.int k (a.tmod b)) := by
  simp [eqGuard, binOp, Op.intDiv, pr_pure, h]
theorem pr_lss (t : Nat) (x y : Operand) (k : IntKind) (a b : Int) : pureRun P (do eqGuard .lss t x y (.int k a) (.int k b); binOp .lss t (.int k a) (.int k b)) = some (.bool (decide (a < b))) := by
  simp [eqGuard, binOp, Op.intCmp, pr_pure]
theorem pr_leq (t : Nat) (x y : Operand) (k : IntKind) (a b : Int) : pureRun P (do eqGuard .leq t x y (.int k a) (.int k b); binOp .leq t (.int k a) (.int k b)) = some (.bool (decide (a ≤ b))) := by
  simp [eqGuard, binOp, Op.intCmp, pr_pure]
theorem pr_gtr (t : Nat) (x y : Operand) (k : IntKind) (a b : Int) : pureRun P (do eqGuard .gtr t x y (.int k a) (.int k b); binOp .gtr t (.int k a) (.int k b)) = some (.bool (decide (b < a))) := by
  simp [eqGuard, binOp, Op.intCmp, pr_pure]
theorem pr_geq (t : Nat) (x y : Operand) (k : IntKind) (a b : Int) : pureRun P (do eqGuard .geq t x y (.int k a) (.int k b); binOp .geq t (.int k a) (.int k b)) = some (.bool (decide (b ≤ a))) := by
  simp [eqGuard, binOp, Op.intCmp, pr_pure]
theorem pr_eql (t : Nat) (x y : Operand) (k : IntKind) (a b : Int) : pureRun P (do eqGuard .eql t x y (.int k a) (.int k b); binOp .eql t (.int k a) (.int k b)) = some (.bool (decide (a = b))) := by
  simp only [eqGuard, binOp, Op.intCmp, pr_pure]
  by_cases h : a = b <;> simp [h, pr_pure, bne]
theorem pr_neq (t : Nat) (x y : Operand) (k : IntKind) (a b : Int) : pureRun P (do eqGuard .neq t x y (.int k a) (.int k b); binOp .neq t (.int k a) (.int k b)) = some (.bool (decide (a ≠ b))) := by
  simp only [eqGuard, binOp, Op.intCmp, pr_pure]
  by_cases h : a = b <;> simp [h, pr_pure, bne]
theorem pr_not (b : Bool) : pureRun P (Op.unary .not (.bool b)) = some (.bool (!b)) := by
  simp [Op.unary, pr_pure]
theorem pr_seql (t : Nat) (x y : Operand) (a b : ByteArray) : pureRun P (do eqGuard .eql t x y (.string a) (.string b); binOp .eql t (.string a) (.string b)) = some (.bool (a.toList == b.toList)) := by
  simp [eqGuard, binOp, Op.stringOp, pr_pure]
theorem pr_conv {s d : Nat} {k k' : IntKind} {n : Int} {ts : TypeDesc} (h1 : P.underlying s = some ts) (h2 : P.underlying d = some (.int k')) : pureRun P (convert s d (.int k n)) = some (.int k' (k'.wrap n)) := by
  simp only [convert, pr_bind, pr_und h1, pr_und h2, Option.bind_some]
  simp [Conv.intToInt, pr_pure]
theorem pr_min (t : Array TypeId) (d : TypeId) (k k' : IntKind) (a b : Int) : pureRun P (Builtin.min_ t d #[.int k a, .int k' b]) = some (.int k (if b < a then b else a)) := by
  simp [Builtin.min_, Builtin.min2, pr_pure]
theorem pr_max (t : Array TypeId) (d : TypeId) (k k' : IntKind) (a b : Int) : pureRun P (Builtin.max_ t d #[.int k a, .int k' b]) = some (.int k (if a < b then b else a)) := by
  simp [Builtin.max_, Builtin.max2, pr_pure]
end
end Go.Proofs.YtkjglhamlnnboaaDoor.Am
