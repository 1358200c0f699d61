/-
  THE ABSTRACT MACHINE, part L: one operation is sound.
-/
import Derived.Test.YtkjglhamlnnboaaDoorAmK
set_option linter.unusedVariables false
set_option linter.unusedSimpArgs false
namespace Go.Proofs.YtkjglhamlnnboaaDoor.Am
open Go Go.RowKit

section
variable {P : Program} {T : Tab} {C : Ctx} {I J : Imm} {G G' : Ghost} {s s' : St} {a : Act} {ts ts' : Array Value} {w w' : World}

theorem pureRun_ok {α : Type} : ∀ {m : Sem α} {x : α}, pureRun P m = some x → ∀ w, m.run P w = .ok x w
  | .pure a, x, h, w => by simp only [pureRun, Option.some.injEq] at h; subst h; rfl
  | .program k, x, h, w => by simp only [pureRun] at h; exact pureRun_ok h w
  | .load .., x, h, w => by simp [pureRun] at h
  | .store .., x, h, w => by simp [pureRun] at h
  | .new .., x, h, w => by simp [pureRun] at h
  | .shape .., x, h, w => by simp [pureRun] at h
  | .freeze .., x, h, w => by simp [pureRun] at h
  | .frozen .., x, h, w => by simp [pureRun] at h
  | .getObj .., x, h, w => by simp [pureRun] at h
  | .setObj .., x, h, w => by simp [pureRun] at h
  | .choose .., x, h, w => by simp [pureRun] at h
  | .sys .., x, h, w => by simp [pureRun] at h
  | .mark .., x, h, w => by simp [pureRun] at h
  | .halt .., x, h, w => by simp [pureRun] at h

theorem scal_ok {v : AV} {y x : Value} (h : scal v = some x) (r : AVRel I G s v y) : y = x := by
  unfold scal at h
  split at h
  · injection h with h; subst h; simp only [AVRel] at r; cases r; rfl
  · cases h

/-- The result is laid down. -/
theorem putD_ok {o : Oper} (hd : ∀ d, o.dst = some d → d < C.N) {v : AV} {y : Value} {Q : Unit → St → Prop} (h : awp P (putD o.dst v) s Q) (R : Rel C I G s a.tmps w) (r : AVRel I G s v y) :
    ∃ s', Q () s' ∧ Rel C I G s' (a.put o.dst y).tmps w ∧ Ext C I I s s' G G := by
  cases ho : o.dst with
  | none => rw [ho] at h; simp only [putD, awp] at h; exact ⟨s, h, R, Ext.refl _ _ _ _⟩
  | some d =>
    rw [ho] at h
    simp only [putD, awp] at h
    obtain ⟨a1, a2⟩ := put_plain_ok (k := d) R (.tmp (hd d ho)) r
    exact ⟨_, h, a1, a2⟩

theorem withD_ok {d : Option Nat} {f : Nat → AM Unit} {Q : Unit → St → Prop} (h : awp P (withD d f) s Q) : ∃ n, d = some n ∧ awp P (f n) s Q := by
  cases d with
  | none => simp [withD, awp] at h
  | some d => exact ⟨d, rfl, h⟩
theorem withT_ok {α : Type} {t : Nat} {f : TI → AM α} {Q : α → St → Prop} (h : awp P (withT T t f) s Q) : ∃ ti, T t = some ti ∧ awp P (f ti) s Q := by
  unfold withT at h
  split at h
  · exact ⟨_, by assumption, h⟩
  · simp [awp] at h

/-- Operands, one behind the other. -/
theorem evals_ok : ∀ {xs : List Operand} {Q : List AV → St → Prop}, awp P (mapA evalO xs) s Q → Rel C I G s a.tmps w → ∃ vs, AVRels I G s vs (xs.map a.eval) ∧ Q vs s
  | [], Q, h, R => ⟨[], by simp [AVRels], by simpa [mapA, awp] using h⟩
  | x :: xs, Q, h, R => by
    simp only [mapA, awp_bind] at h
    obtain ⟨v, r, h1⟩ := evalO_ok h R
    obtain ⟨vs, rs, h2⟩ := evals_ok h1 R
    simp only [awp] at h2
    exact ⟨v :: vs, by simp only [List.map_cons, AVRels]; exact ⟨_, _, rfl, r, rs⟩, h2⟩

theorem tagT_map {β γ : Type} (T : Tab) (f : β → γ) : ∀ (xs : List β) (ts : List Nat), (tagT T xs ts).map (fun x => f x.1) = xs.map f
  | [], ts => rfl
  | x :: xs, ts => by simp only [tagT, List.map_cons, tagT_map T f xs ts.tail]

theorem args_ok : ∀ {xs : List (Operand × List Nat)} {Q : List AV → St → Prop} {I : Imm} {s : St}, awp P (mapA (fun (x : Operand × List Nat) => (evalO x.1).bind (argOf x.2)) xs) s Q → Rel C I G s a.tmps w →
    ∃ vs s' J, AVRels J G s' vs (xs.map fun x => a.eval x.1) ∧ Q vs s' ∧ Rel C J G s' a.tmps w ∧ Ext C I J s s' G G
  | [], Q, I, s, h, R => ⟨[], s, I, by simp [AVRels], by simpa [mapA, awp] using h, R, Ext.refl _ _ _ _⟩
  | x :: xs, Q, I, s, h, R => by
    simp only [mapA, awp_bind] at h
    obtain ⟨v, r, h1⟩ := evalO_ok h R
    obtain ⟨v', s1, J1, h2, R1, E1, r1⟩ := argOf_ok h1 R r
    obtain ⟨vs, s2, J2, rs, h3, R2, E2⟩ := args_ok h2 R1
    simp only [awp] at h3
    exact ⟨v' :: vs, s2, J2, by simp only [List.map_cons, AVRels]; exact ⟨_, _, rfl, AVRel.keep E2.imm E2.keep r1, rs⟩, h3, R2, E1.trans E2⟩

theorem parts_ok : ∀ {xs : List (Nat × Operand)} {Q : List (Nat × AV) → St → Prop}, awp P (mapA (fun (x : Nat × Operand) => (evalO x.2).bind fun v => .pure (x.1, v)) xs) s Q → Rel C I G s a.tmps w → ∃ vs, PartsRel I G s vs (xs.map fun x => (x.1, a.eval x.2)) ∧ Q vs s
  | [], Q, h, R => ⟨[], rfl, by simpa [mapA, awp] using h⟩
  | x :: xs, Q, h, R => by
    simp only [mapA, awp_bind] at h
    obtain ⟨v, r, h1⟩ := evalO_ok h R
    obtain ⟨vs, rs, h2⟩ := parts_ok h1 R
    simp only [awp] at h2
    exact ⟨(x.1, v) :: vs, ⟨_, _, rfl, rfl, r, rs⟩, h2⟩

theorem scals_ok : ∀ {vs : List AV} {ys xs : List Value}, vs.mapM scal = some xs → AVRels I G s vs ys → ys = xs
  | [], ys, xs, h, r => by simp at h; simp only [AVRels] at r; rw [r, h]
  | v :: vs, ys, xs, h, r => by
    simp only [List.mapM_cons, Option.bind_eq_bind, Option.pure_def, Option.bind_eq_some_iff] at h
    obtain ⟨x, h1, xs', h2, h3⟩ := h
    injection h3 with h3
    subst h3
    simp only [AVRels] at r
    obtain ⟨y, ys', rfl, r1, r2⟩ := r
    rw [scal_ok h1 r1, scals_ok h2 r2]

/-- What is left to do behind an operation. -/
def Then (C : Ctx) (I : Imm) (G : Ghost) (s : St) (a : Act) (Qs : Unit → St → Prop) (K : Act → World → Prop) : Prop :=
  ∀ (s' : St) (J : Imm) (G' : Ghost) (a' : Act) (w' : World), Qs () s' → Rel C J G' s' a'.tmps w' → Ext C I J s s' G G' → a'.defers = a.defers → K a' w'

theorem wp_value {o : Oper} {K : Act → World → Prop} {Q : Exit → Act → World → Prop} {v : Value} (h : (execOp a.eval o).run P w = .ok (.value v) w') (hk : K (a.put o.dst v) w') : o.wp P a w K Q := by
  unfold Oper.wp; rw [h]; exact hk

theorem put_defers (a : Act) (d : Option Nat) (v : Value) : (a.put d v).defers = a.defers := by cases d <;> rfl

theorem finish {o : Oper} (hd : ∀ d, o.dst = some d → d < C.N) {K : Act → World → Prop} {Q : Exit → Act → World → Prop} {Qs : Unit → St → Prop} (hK : Then C I G s a Qs K) {s1 : St} {J : Imm} {v : AV} {y : Value} (hr : (execOp a.eval o).run P w = .ok (.value y) w)
    (h : awp P (putD o.dst v) s1 Qs) (R : Rel C J G s1 a.tmps w) (E : Ext C I J s s1 G G) (r : AVRel J G s1 v y) : o.wp P a w K Q := by
  obtain ⟨s', h1, R1, E1⟩ := putD_ok hd h R r
  exact wp_value hr (hK s' J G _ w h1 R1 (E.trans E1) (put_defers _ _ _))

theorem finishD {o : Oper} {d : Nat} (ho : o.dst = some d) {K : Act → World → Prop} {Q : Exit → Act → World → Prop} {Qs : Unit → St → Prop} (hK : Then C I G s a Qs K) {s1 : St} {J : Imm} {G' : Ghost} {y : Value} (hr : (execOp a.eval o).run P w = .ok (.value y) w')
    (h : Qs () s1) (R : Rel C J G' s1 (a.tmps.setIfInBounds d y) w') (E : Ext C I J s s1 G G') : o.wp P a w K Q := by
  refine wp_value hr (hK s1 J G' _ w' h ?_ E (put_defers _ _ _))
  rw [ho]; exact R

theorem pureV_ok {o : Oper} (hd : ∀ d, o.dst = some d → d < C.N) {K : Act → World → Prop} {Q : Exit → Act → World → Prop} {Qs : Unit → St → Prop} (hK : Then C I G s a Qs K) {m : Sem Value} (he : (execOp a.eval o).run P w = (m.run P w).andThen fun v w => .ok (.value v) w)
    (h : awp P (pureV P o.dst m) s Qs) (R : Rel C I G s a.tmps w) : o.wp P a w K Q := by
  unfold pureV at h
  split at h
  · rename_i v hv
    refine finish hd hK ?_ h R (Ext.refl _ _ _ _) (by simp only [AVRel]; exact .v v)
    rw [he, pureRun_ok hv w]; rfl
  · simp [awp] at h

/-- A call. -/
theorem call_ok {f : FuncId} {args : List AV} {vals : Array Value} {d : Option Nat} {Qs : Unit → St → Prop} (h : awp P (.call f args d (.pure ())) s Qs) (R : Rel C I G s ts w) (hd : ∀ d', d = some d' → d' < C.N) (r : AVRels I G s args vals.toList) :
    ∃ d0, d = some d0 ∧ Inv P f vals w fun v w' => ∃ s' J G', Qs () s' ∧ Rel C J G' s' (ts.setIfInBounds d0 v) w' ∧ Ext C I J s s' G G' := by
  simp only [awp] at h
  obtain ⟨d0, L, imps, args', rr, h1, hL, h2, h3, h4, h5, h6, h7, h8⟩ := h
  have Rin := R.callIn hL h2 h3 r h4
  refine ⟨d0, h1, (h5 C.B C.w0 _ I _ vals w Rin).mono ?_⟩
  intro v w' ⟨J, G', R', hIJ, hprot, hh, hc⟩
  obtain ⟨G'', R'', E''⟩ := R.callOut (hd d0 h1) h2 h6 h7 R' hIJ hprot hh hc
  exact ⟨_, J, G'', h8, R'', E''⟩

theorem wp_inv {o : Oper} {K : Act → World → Prop} {Q : Exit → Act → World → Prop} {f : FuncId} {vals : Array Value} (h : (execOp a.eval o).run P w = (callFunc f vals).run P w) (hi : Inv P f vals w fun v w' => K (a.put o.dst v) w') : o.wp P a w K Q := by
  unfold Oper.wp
  rw [h]
  unfold Inv at hi
  split at hi
  · rename_i v w' hr; rw [hr]; exact hi
  · rename_i g xs w' hr
    rw [hr]
    refine Calls.mono hi ?_
    intro e w''
    cases e with
    | returned v => exact id
    | panicked ch => intro h; exact h.elim
    | outgrown => intro h; exact h.elim
  · exact hi.elim

theorem lenA_ok {v : AV} {y : Value} {Q : Nat → St → Prop} (h : awp P (lenA v) s Q) (R : Rel C I G s ts w) (r : AVRel I G s v y) : ∃ n ad c, y = .slice ad n c ∧ Q n s := by
  cases v with
  | nilS => simp only [lenA, awp] at h; simp only [AVRel] at r; exact ⟨0, none, 0, r, h⟩
  | p x =>
    cases x with
    | sl z xs => simp only [lenA, awp] at h; simp only [AVRel] at r; obtain ⟨a, c, hy⟩ := r.slice_form; exact ⟨_, a, c, hy, h⟩
    | _ => simp [lenA, awp] at h
  | ref l n len =>
    simp only [lenA, awp_bind] at h
    obtain ⟨e, z, xs, fz, h1, h2, h3, h4⟩ := ownAt_ok h
    simp only [awp] at h4
    simp only [AVRel] at r
    obtain ⟨_, ⟨ad, c, hy⟩, _⟩ := r
    exact ⟨_, ad, c, hy, h4⟩
  | sref n ver len => simp only [lenA, awp] at h; simp only [AVRel] at r; obtain ⟨_, ⟨ad, c, hy⟩, _⟩ := r; exact ⟨_, _, c, hy, h⟩
  | _ => simp [lenA, awp] at h

theorem opCall_ok (hT : TabOk P T) {o : Oper} {c : Call} (ho : o.op = .call c) (hd : ∀ d, o.dst = some d → d < C.N) {Qs : Unit → St → Prop} (h : awp P (opCall P T o c) s Qs) (R : Rel C I G s a.tmps w) {K : Act → World → Prop} {Q : Exit → Act → World → Prop} (hK : Then C I G s a Qs K) : o.wp P a w K Q := by
  unfold opCall at h
  split at h
  · -- a function's value
    rename_i f hcal
    rw [awp_bind] at h
    obtain ⟨v, r, h1⟩ := evalO_ok h R
    rw [awp_bind] at h1
    obtain ⟨args, s1, J1, rs, h2, R1, E1⟩ := args_ok h1 R
    split at h2
    case h_2 => simp [awp] at h2
    rename_i g caps
    have r1 := AVRel.keep E1.imm E1.keep r
    simp only [AVRel] at r1
    obtain ⟨cs, hf, rc⟩ := r1
    have hall : AVRels J1 G s1 (args ++ caps) ((c.args.map a.eval) ++ cs.toArray).toList := by
      simp only [Array.toList_append, Array.toList_map]
      rw [tagT_map T a.eval c.args.toList c.argTypes.toList] at rs
      exact rs.append rc
    obtain ⟨d0, hd0, hi⟩ := call_ok h2 R1 hd hall
    refine wp_inv (f := g) (vals := (c.args.map a.eval) ++ cs.toArray) ?_ (hi.mono ?_)
    · unfold execOp
      simp only [ho, resolve, hcal, hf, Deferred.ofValue, Sem.run_bind, Sem.run_pure, Result.andThen_ok, invoke]
      simp
    · intro v w' ⟨s', J, G', q1, q2, q3⟩
      refine hK s' J G' _ w' q1 ?_ (E1.trans q3) (put_defers _ _ _)
      rw [hd0]; exact q2
  · -- len
    rename_i hcal
    split at h
    case h_2 => simp [awp] at h
    rename_i x t hx ht
    rw [awp_bind] at h
    obtain ⟨v, r, h1⟩ := evalO_ok h R
    have hargs : c.args = #[x] := by apply Array.ext'; simpa using hx
    have htys : c.argTypes = #[t] := by apply Array.ext'; simpa using ht
    have hexec : ∀ w, (execOp a.eval o).run P w = ((Builtin.len_ #[t] o.type #[a.eval x]).run P w).andThen fun v w => .ok (.value v) w := by
      intro w
      unfold execOp
      simp [ho, resolve, hcal, invoke, builtin, hargs, htys]
    split at h1
    · rename_i u hu
      refine pureV_ok hd hK ?_ h1 R
      rw [hexec, scal_ok hu r]
    · obtain ⟨tt, hTt, h1⟩ := withT_ok h1
      split at h1
      case h_2 => simp [awp] at h1
      rename_i e hsh
      obtain ⟨dd, hd1, hd2⟩ := (hT t tt hTt).und'
      rw [hsh] at hd2
      have := shape_slice hd2
      subst this
      rw [awp_bind] at h1
      obtain ⟨n, ad, c', hy, h2⟩ := lenA_ok h1 R r
      refine finish hd hK ?_ h2 R (Ext.refl _ _ _ _) (by simp only [AVRel]; exact .v _)
      rw [hexec, hy]
      simp [Builtin.len_, run_underlying hd1, goInt]
  · -- append
    rename_i hcal
    split at h
    case h_2 => simp [awp] at h
    rename_i x y t t' hx ht
    have hnone : ∀ (m : AM AV) (s : St), ¬ awp P (m.bind fun r => withD none fun d => putD (some d) r) s Qs := by
        intro m
        induction m with
        | pure x => intro s h; simp [AM.bind, withD, awp] at h
        | fail => intro s h; simp [AM.bind, awp] at h
        | get k f ih => intro s h; exact ih _ _ _ h
        | set k v c ih => intro s h; exact ih _ h
        | mod k v c ih => intro s h; exact ih _ h
        | call f args d c ih => intro s h; simp only [AM.bind, awp] at h; obtain ⟨_, _, _, _, _, _, _, _, _, _, _, _, _, h⟩ := h; exact ih _ h
    have hargs : c.args = #[x, y] := by apply Array.ext'; simpa using hx
    have htys : c.argTypes = #[t, t'] := by apply Array.ext'; simpa using ht
    split at h
    case isFalse =>
      obtain ⟨tt, hTt, h⟩ := withT_ok h
      obtain ⟨tx, hTx, h⟩ := withT_ok h
      split at h
      case h_2 => simp [awp] at h
      rename_i e hsh hshx
      obtain ⟨ti, hTe, h⟩ := withT_ok h
      rw [awp_bind] at h
      obtain ⟨va, ra, h1⟩ := evalO_ok h R
      rw [awp_bind] at h1
      obtain ⟨vb, rb, h2⟩ := evalO_ok h1 R
      split at h2
      case h_2 => simp [awp] at h2
      rename_i bs hbs
      have hyv := scal_ok hbs rb
      obtain ⟨dd, hd1, hd2⟩ := (hT t tt hTt).und'
      rw [hsh] at hd2
      have := shape_slice hd2
      subst this
      obtain ⟨dx, hd3, hd4⟩ := (hT t' tx hTx).und'
      rw [hshx] at hd4
      have := shape_string hd4
      subst this
      cases hdst : o.dst with
      | none => rw [hdst] at h2; exact absurd h2 (hnone _ _)
      | some d =>
        rw [hdst] at h2
        simp only [withD] at h2
        obtain ⟨xv, s', J, G', w', hrun, q1, q2, q3⟩ := appendRows_ok (t' := t') (ty := o.type) (yy := a.eval y) hd1 (hT e ti hTe) (hd d hdst) h2 (fun size hz hp => by rw [hyv]; exact srcS_ok hd3 bs size hz hp) R ra
        refine finishD hdst hK ?_ q1 q2 q3
        unfold execOp
        simp [ho, resolve, hcal, invoke, builtin, hargs, htys, hrun]
    rename_i htt
    subst htt
    obtain ⟨tt, hTt, h⟩ := withT_ok h
    split at h
    case h_2 => simp [awp] at h
    rename_i e hsh
    obtain ⟨ti, hTe, h⟩ := withT_ok h
    rw [awp_bind] at h
    obtain ⟨va, ra, h1⟩ := evalO_ok h R
    rw [awp_bind] at h1
    obtain ⟨vb, rb, h2⟩ := evalO_ok h1 R
    obtain ⟨dd, hd1, hd2⟩ := (hT t tt hTt).und'
    rw [hsh] at hd2
    have := shape_slice hd2
    subst this
    cases hdst : o.dst with
    | none =>
      rw [hdst] at h2
      exact absurd h2 (hnone _ _)
    | some d =>
      rw [hdst] at h2
      simp only [withD] at h2
      obtain ⟨xv, s', J, G', w', hrun, q1, q2, q3⟩ := append_ok (ty := o.type) hd1 (hT e ti hTe) (hd d hdst) h2 R ra rb
      refine finishD hdst hK ?_ q1 q2 q3
      unfold execOp
      simp [ho, resolve, hcal, invoke, builtin, hargs, htys, hrun]
  · -- copy
    rename_i hcal
    split at h
    case h_2 => simp [awp] at h
    rename_i x y t t' hx ht
    obtain ⟨tt, hTt, h⟩ := withT_ok h
    split at h
    case h_2 => simp [awp] at h
    rename_i e hsh
    obtain ⟨ti, hTe, h⟩ := withT_ok h
    rw [awp_bind] at h
    obtain ⟨va, ra, h1⟩ := evalO_ok h R
    rw [awp_bind] at h1
    obtain ⟨vb, rb, h2⟩ := evalO_ok h1 R
    obtain ⟨dd, hd1, hd2⟩ := (hT t tt hTt).und'
    rw [hsh] at hd2
    have := shape_slice hd2
    subst this
    have hargs : c.args = #[x, y] := by apply Array.ext'; simpa using hx
    have htys : c.argTypes = #[t, t'] := by apply Array.ext'; simpa using ht
    rw [awp_bind] at h2
    obtain ⟨xv, u, s', w', hrun, q1, q2, q3, q4⟩ := copy_ok (t' := t') (ty := o.type) hd1 (hT e ti hTe) h2 R ra rb
    obtain ⟨s2, k1, R1, E1⟩ := putD_ok hd q1 q2 q4
    refine wp_value (v := xv) (w' := w') ?_ (hK s2 I G _ w' k1 R1 (q3.trans E1) (put_defers _ _ _))
    unfold execOp
    simp [ho, resolve, hcal, invoke, builtin, hargs, htys, hrun]
  · -- other builtins, of numbers
    rename_i b hb1 hb2 hb3 hcal
    rw [awp_bind] at h
    obtain ⟨vs, rs, h1⟩ := evals_ok h R
    split at h1
    case h_2 => simp [awp] at h1
    rename_i xs hxs
    have hval := scals_ok hxs rs
    have hmap : c.args.map a.eval = xs.toArray := by apply Array.ext'; simpa using hval
    cases b <;> first
      | (simp only [pureV, pureRun, awp] at h1; done)
      | (refine pureV_ok hd hK ?_ h1 R
         unfold execOp
         simp only [ho, resolve, hcal, invoke, builtin, hmap, Sem.run_bind, Sem.run_pure, Result.andThen_ok])
  · simp [awp] at h

theorem list_one {α : Type} {l : Option α} : l.toList.head? = l := by cases l <;> rfl

/-- ONE OPERATION. -/
theorem op_ok (hT : TabOk P T) {o : Oper} (hd : ∀ d, o.dst = some d → d < C.N) {Qs : Unit → St → Prop} (h : awp P (opAM P T o) s Qs) (R : Rel C I G s a.tmps w) {K : Act → World → Prop} {Q : Exit → Act → World → Prop} (hK : Then C I G s a Qs K) : o.wp P a w K Q := by
  unfold opAM at h
  split at h
  · -- move
    rename_i x ho
    rw [awp_bind] at h
    obtain ⟨v, r, h1⟩ := evalO_ok h R
    exact finish hd hK (by unfold execOp; simp [ho]) h1 R (Ext.refl _ _ _ _) r
  · -- pick
    rename_i c x y ho
    rw [awp_bind] at h
    obtain ⟨v, r, h1⟩ := evalO_ok h R
    split at h1
    case h_2 => simp [awp] at h1
    rename_i q hq
    have hv := scal_ok hq r
    rw [awp_bind] at h1
    obtain ⟨u, r2, h2⟩ := evalO_ok h1 R
    refine finish hd hK ?_ h2 R (Ext.refl _ _ _ _) r2
    unfold execOp
    simp only [ho, Sem.run_bind, hv, asBool, Sem.run_pure, Result.andThen_ok]
    cases q <;> simp
  · -- assign
    rename_i x ho
    rw [awp_bind] at h
    obtain ⟨v, r, h1⟩ := evalO_ok h R
    obtain ⟨d, hdd, h1⟩ := withD_ok h1
    obtain ⟨ti, hti, h1⟩ := withT_ok h1
    have hr : (execOp a.eval o).run P w = .ok (.value (a.eval x)) w := by unfold execOp; simp [ho]
    have hdN := hd d hdd
    have hgen : awp P (putCell d (ti.cty.headD none) v) s Qs → o.wp P a w K Q := by
      intro h2
      have hty : ∀ e z, ti.cty.headD none = some (e, z) → 0 < z := by
        intro e z he
        cases hc : ti.cty with
        | nil => simp [hc] at he
        | cons c l => simp only [hc, List.headD_cons] at he; exact (hT _ ti hti).cpos (e := e) (by rw [hc, he]; simp)
      obtain ⟨s', J, G', q1, q2, q3, _⟩ := putCell_ok h2 R r hty (.tmp hdN)
      exact finishD hdd hK hr q1 q2 q3
    cases v with
    | agg cs =>
      simp only [assignA, awp_bind] at h1
      simp only [AVRel] at r
      obtain ⟨vs, hy, r⟩ := r
      obtain ⟨xs, s1, J, h2, R1, E1, r1⟩ := partsOf_ok h1 R r
      simp only [awp] at h2
      obtain ⟨a1, a2⟩ := put_plain_ok (k := d) (v := .agg xs) (y := .agg vs.toArray) R1 (.tmp hdN) (by simp only [AVRel]; exact ⟨vs, rfl, r1⟩)
      rw [hy] at hr
      exact finishD hdd hK hr h2 a1 (E1.trans a2)
    | p x' =>
      simp only [assignA, awp] at h1
      obtain ⟨a1, a2⟩ := put_plain_ok (k := d) R (.tmp hdN) r
      exact finishD hdd hK hr h1 a1 a2
    | _ => exact hgen h1
  · -- alloc
    rename_i e ho
    obtain ⟨d, hdd, h1⟩ := withD_ok h
    obtain ⟨ti, hti, h1⟩ := withT_ok h1
    have hok := hT e ti hti
    obtain ⟨i, zv, hi, hsz, hby, hzv, hzc⟩ := hok.ex
    rw [awp_bind] at h1
    have hz0 : AVRels I G s ti.zero (ti.zero.map AV.zeroV) := by
      have : ∀ l : List AV, (∀ v, v ∈ l → zeroLike v = true) → AVRels I G s l (l.map AV.zeroV) := by
        intro l
        induction l with
        | nil => intro _; simp [AVRels]
        | cons v l ih =>
          intro hl
          simp only [List.map_cons, AVRels]
          refine ⟨_, _, rfl, ?_, ih fun u hu => hl u (by simp [hu])⟩
          have := hl v (by simp)
          cases v with
          | p x => cases x with
            | v x => simp only [AVRel, AV.zeroV]; exact .v x
            | _ => simp [zeroLike] at this
          | nilS => simp [AVRel, AV.zeroV]
          | _ => simp [zeroLike] at this
      exact this ti.zero fun v hv => hok.zok hv
    obtain ⟨v, s1, J, G1, h2, R1, E1, r1⟩ := newObj_ok h1 R hz0 (fun e z hm => hok.cpos hm)
    simp only [awp] at h2
    obtain ⟨a1, a2⟩ := put_plain_ok (k := d) R1 (.tmp (hd d hdd)) r1
    refine finishD hdd hK ?_ h2 a1 (E1.trans a2)
    unfold execOp
    have hcells : zv.cells = (ti.zero.map AV.zeroV).toArray := by rw [← hzc]
    simp [ho, Instr.alloc, zeroValue, typeInfo, hi, hzv, newVar, newRow, hcells]
  · -- box
    rename_i e x ho
    obtain ⟨d, hdd, h1⟩ := withD_ok h
    obtain ⟨ti, hti, h1⟩ := withT_ok h1
    have hok := hT e ti hti
    rw [awp_bind] at h1
    obtain ⟨v, r, h1⟩ := evalO_ok h1 R
    split at h1
    case isFalse => simp [awp] at h1
    rename_i hlen
    rw [awp_bind] at h1
    have hgood : (∀ vs, v ≠ .tup vs) ∧ v ≠ .junk := by
      have hno : ∀ u, putCell (kcell (nameOf d) 0) (ti.cty.headD none) u = .fail → cellsA v = [u] → False := by
        intro u hu hc
        rw [hc] at h1
        unfold newObjA at h1
        split at h1
        · rename_i hcc
          cases hcty : ti.cty with
          | nil => rw [hcty] at hcc; simp at hcc
          | cons c l =>
            rw [hcty] at h1 hu
            rw [awp_bind] at h1
            simp only [List.headD_cons] at hu
            obtain ⟨s1, h2, _⟩ := clear_ok (n := nameOf d) (j := 0) h1 R
            simp only [awp, awp_bind, putCells, hu] at h2
        · simp [awp] at h1
      exact ⟨fun vs hv => hno (.tup vs) (by simp [putCell]) (by rw [hv]; rfl), fun hv => hno .junk (by simp [putCell]) (by rw [hv]; rfl)⟩
    obtain ⟨ys, hy, rs⟩ := cellsA_ok r hgood.1 hgood.2
    obtain ⟨u, s1, J, G1, h2, R1, E1, r1⟩ := newObj_ok h1 R rs (fun e z hm => hok.cpos hm)
    simp only [awp] at h2
    obtain ⟨a1, a2⟩ := put_plain_ok (k := d) R1 (.tmp (hd d hdd)) r1
    refine finishD hdd hK ?_ h2 a1 (E1.trans a2)
    unfold execOp
    simp [ho, Instr.box, newVar, newRow, hy]
  · -- build
    rename_i t parts ho
    obtain ⟨ti, hti, h1⟩ := withT_ok h
    rw [awp_bind] at h1
    obtain ⟨vs, rs, h2⟩ := parts_ok h1 R
    split at h2
    case h_2 => simp [awp] at h2
    rename_i fs hsh
    rw [awp_bind] at h2
    obtain ⟨cs, s1, J, zs, hrun, h3, R1, E1, r1⟩ := build_ok hT (hT t ti hti) hsh (ys := parts.map fun x => (x.1, a.eval x.2)) h2 R (by simpa using rs)
    refine finish hd hK (y := .agg zs) ?_ h3 R1 E1 (by simp only [AVRel]; exact ⟨zs.toList, by simp, r1⟩)
    unfold execOp
    simp only [ho, Sem.run_bind]
    rw [hrun]; rfl
  · -- buildSlice
    rename_i t len parts ho
    obtain ⟨d, hdst, h⟩ := withD_ok h
    obtain ⟨tt, hTt, h1⟩ := withT_ok h
    split at h1
    case h_2 => simp [awp] at h1
    rename_i e hsh
    obtain ⟨ti, hTe, h1⟩ := withT_ok h1
    rw [awp_bind] at h1
    obtain ⟨vs, rs, h2⟩ := parts_ok h1 R
    split at h2
    · -- pointers
      split at h2
      case isFalse => simp [awp] at h2
      rename_i hc
      obtain ⟨dd, hd1, hd2⟩ := (hT t tt hTt).und'
      rw [hsh] at hd2
      have := shape_slice hd2
      subst this
      obtain ⟨xv, s', J, G', w', hrun, q1, q2, q3⟩ := rowObj_ok hd1 (hT e ti hTe) (hd d hdst) hc.1 hc.2 (ys := parts.map fun x => (x.1, a.eval x.2)) h2 R (by simpa using rs)
      refine finishD hdst hK ?_ q1 q2 q3
      unfold execOp
      simp only [ho, Sem.run_bind]
      rw [hrun]; rfl
    split at h2
    case h_2 => simp [awp] at h2
    rename_i z hz
    split at h2
    case isFalse => simp [awp] at h2
    rename_i hc
    obtain ⟨dd, hd1, hd2⟩ := (hT t tt hTt).und'
    rw [hsh] at hd2
    have := shape_slice hd2
    subst this
    obtain ⟨xv, s', J, G', w', hrun, q1, q2, q3⟩ := buildSlice_ok hd1 (hT e ti hTe) (hd d hdst) hz hc.1 hc.2 (ys := parts.map fun x => (x.1, a.eval x.2)) h2 R (by simpa using rs)
    refine finishD hdst hK ?_ q1 q2 q3
    unfold execOp
    simp only [ho, Sem.run_bind]
    rw [hrun]; rfl
  · -- load
    rename_i t x ho
    obtain ⟨ti, hti, h1⟩ := withT_ok h
    rw [awp_bind] at h1
    obtain ⟨v, r, h1⟩ := evalO_ok h1 R
    rw [awp_bind] at h1
    obtain ⟨u, y, hrun, h2, r2⟩ := load_ok (hT t ti hti) h1 R r
    refine finish hd hK ?_ h2 R (Ext.refl _ _ _ _) r2
    unfold execOp
    simp only [ho, Sem.run_bind]
    rw [hrun]; rfl
  · -- store
    rename_i t p x ho
    split at h
    · simp [awp] at h
    rename_i hdn
    obtain ⟨ti, hti, h1⟩ := withT_ok h
    rw [awp_bind] at h1
    obtain ⟨vp, rp, h1⟩ := evalO_ok h1 R
    rw [awp_bind] at h1
    obtain ⟨v, r, h1⟩ := evalO_ok h1 R
    obtain ⟨s', J, G', w', hrun, q1, q2, q3⟩ := store_ok (hT t ti hti) h1 R rp r
    have hnone : o.dst = none := by cases hq : o.dst <;> simp_all
    unfold Oper.wp execOp
    simp only [ho, Sem.run_bind]
    rw [hrun]
    simp only [Result.andThen_ok, Sem.run_pure, Oper.upon]
    refine hK s' J G' _ w' q1 ?_ q3 (put_defers _ _ _)
    rw [hnone]; exact q2
  · -- nilCheck
    rename_i x ho
    rw [awp_bind] at h
    obtain ⟨v, r, h1⟩ := evalO_ok h R
    have hval : ∀ (y : Value), a.eval x = y → (match y with | .pointer none | .nilIface | .nilFunc => False | .func (.method _) _ _ => False | _ => True) → (execOp a.eval o).run P w = .ok (.value y) w := by
      intro y hy hm
      unfold execOp
      simp only [ho, hy]
      split <;> simp_all
    split at h1
    · simp only [AVRel] at r
      obtain ⟨ra, ⟨ad, hy⟩, rb⟩ := r
      exact finish hd hK (hval _ rfl (by rw [hy]; trivial)) h1 R (Ext.refl _ _ _ _) (by simp only [AVRel]; exact ⟨ra, ⟨ad, hy⟩, rb⟩)
    · simp only [AVRel] at r
      obtain ⟨ra, ⟨ad, hy⟩, rb⟩ := r
      exact finish hd hK (hval _ rfl (by rw [hy]; trivial)) h1 R (Ext.refl _ _ _ _) (by simp only [AVRel]; exact ⟨ra, ⟨ad, hy⟩, rb⟩)
    · simp only [AVRel] at r
      have hy : ∃ ad, a.eval x = .pointer (some ad) := by generalize a.eval x = y at r; cases r; exact ⟨_, rfl⟩
      obtain ⟨ad, hy⟩ := hy
      exact finish hd hK (hval _ rfl (by rw [hy]; trivial)) h1 R (Ext.refl _ _ _ _) (by simp only [AVRel]; exact r)
    · simp only [AVRel] at r
      obtain ⟨cs, hy, rc⟩ := r
      exact finish hd hK (hval _ rfl (by rw [hy]; trivial)) h1 R (Ext.refl _ _ _ _) (by simp only [AVRel]; exact ⟨cs, hy, rc⟩)
    · simp [awp] at h1
  · -- binOp
    rename_i op t x y yt ho
    rw [awp_bind] at h
    obtain ⟨va, ra, h1⟩ := evalO_ok h R
    rw [awp_bind] at h1
    obtain ⟨vb, rb, h2⟩ := evalO_ok h1 R
    split at h2
    case h_2 => simp [awp] at h2
    rename_i u v hu hv
    refine pureV_ok hd hK ?_ h2 R
    unfold execOp
    simp only [ho, scal_ok hu ra, scal_ok hv rb, Sem.run_bind, Sem.run_pure]
  · -- unOp
    rename_i op t x ho
    rw [awp_bind] at h
    obtain ⟨va, ra, h1⟩ := evalO_ok h R
    split at h1
    case h_2 => simp [awp] at h1
    rename_i u hu
    refine pureV_ok hd hK ?_ h1 R
    unfold execOp
    simp only [ho, scal_ok hu ra, Sem.run_bind, Sem.run_pure]
  · -- convert
    rename_i src dst x ho
    rw [awp_bind] at h
    obtain ⟨va, ra, h1⟩ := evalO_ok h R
    split at h1
    case h_2 => simp [awp] at h1
    rename_i u hu
    refine pureV_ok hd hK ?_ h1 R
    unfold execOp
    simp only [ho, scal_ok hu ra, Sem.run_bind, Sem.run_pure]
  · -- makeFunc
    rename_i f first caps ho
    split at h
    case isFalse => simp [awp] at h
    rename_i hfe
    rw [awp_bind] at h
    obtain ⟨vs, rs, h1⟩ := evals_ok h R
    split at h1
    case isFalse => simp [awp] at h1
    have hfirst : first = #[] := by simpa using hfe
    refine finish hd hK (y := .func (.func f) #[] (caps.map a.eval)) ?_ h1 R (Ext.refl _ _ _ _) (by simp only [AVRel]; exact ⟨caps.toList.map a.eval, by congr 1; apply Array.ext'; simp, rs⟩)
    unfold execOp
    simp [ho, Instr.makeFunc, hfirst]
  · -- makeSlice
    rename_i t l c ho
    obtain ⟨d, hdst, h⟩ := withD_ok h
    obtain ⟨tt, hTt, h1⟩ := withT_ok h
    split at h1
    case h_2 => simp [awp] at h1
    rename_i e hsh
    obtain ⟨ti, hTe, h1⟩ := withT_ok h1
    rw [awp_bind] at h1
    obtain ⟨va, ra, h1⟩ := evalO_ok h1 R
    rw [awp_bind] at h1
    obtain ⟨vb, rb, h2⟩ := evalO_ok h1 R
    split at h2
    case h_2 => simp [awp] at h2
    rename_i k1 n k2 m z hz
    split at h2
    case isFalse => simp [awp] at h2
    rename_i hc
    obtain ⟨rfl, c0, c63, cb, cp⟩ := hc
    obtain ⟨dd, hd1, hd2⟩ := (hT t tt hTt).und'
    rw [hsh] at hd2
    have := shape_slice hd2
    subst this
    simp only [AVRel] at ra rb
    have hya : a.eval l = .int k1 n := by generalize a.eval l = q at ra; cases ra; rfl
    have hyb : a.eval c = .int k2 n := by generalize a.eval c = q at rb; cases rb; rfl
    simp only [putD, awp] at h2
    obtain ⟨xv, w', G', hrun, q2, q3⟩ := makeSlice_ok hd1 (hT e ti hTe) (hd d hdst) R hz k1 k2 c0 c63 cb cp
    refine finishD hdst hK ?_ h2 q2 q3
    unfold execOp
    simp only [ho, hya, hyb, Sem.run_bind]
    rw [hrun]; rfl
  · -- slice
    rename_i t x lo hi ho
    rw [awp_bind] at h
    obtain ⟨v, r, h1⟩ := evalO_ok h R
    rw [awp_bind] at h1
    obtain ⟨ls, rl, h1⟩ := evals_ok h1 R
    rw [awp_bind] at h1
    obtain ⟨hs, rh, h1⟩ := evals_ok h1 R
    have hexec : ∀ w, (execOp a.eval o).run P w = ((Instr.sliceAt t (a.eval x) (lo.map a.eval) (hi.map a.eval) none).run P w).andThen fun v w => .ok (.value v) w := by
      intro w; unfold execOp; simp only [ho, Sem.run_bind, Option.map_none]; rfl
    split at h1
    · rename_i u hu
      split at h1
      case h_2 => simp [awp] at h1
      rename_i l' h' hl' hh'
      refine pureV_ok hd hK ?_ h1 R
      have e1 := scals_ok hl' rl
      have e2 := scals_ok hh' rh
      rw [hexec, scal_ok hu r]
      have e3 : lo.map a.eval = l'.head? := by rw [← e1]; cases lo <;> rfl
      have e4 : hi.map a.eval = h'.head? := by rw [← e2]; cases hi <;> rfl
      rw [e3, e4]
    · obtain ⟨tt, hTt, h1⟩ := withT_ok h1
      split at h1
      case h_2 => simp [awp] at h1
      rename_i e hsh
      obtain ⟨ti, hTe, h1⟩ := withT_ok h1
      split at h1
      case isFalse => simp [awp] at h1
      rw [awp_bind] at h1
      obtain ⟨dd, hd1, hd2⟩ := (hT t tt hTt).und'
      rw [hsh] at hd2
      have := shape_slice hd2
      subst this
      have opt : ∀ {q : Option Operand} {us : List AV}, AVRels I G s us (q.toList.map a.eval) → OptRel I G s us.head? (q.map a.eval) := by
        intro q us hr
        cases q with
        | none => simp only [Option.toList_none, List.map_nil] at hr; cases us <;> simp_all [AVRels, OptRel]
        | some q =>
          cases us with
          | nil => simp [AVRels] at hr
          | cons u us => simp only [Option.toList_some, List.map_cons, List.map_nil, AVRels] at hr; obtain ⟨y, ys, hy, h1, _⟩ := hr; injection hy with hy; subst hy; simpa [OptRel] using h1
      obtain ⟨u, xv, s1, J, hrun, h2, R1, E1, r1⟩ := sliceA_ok hd1 (hT e ti hTe) h1 R r (opt rl) (opt rh)
      refine finish hd hK ?_ h2 R1 E1 r1
      rw [hexec, hrun]; rfl
  · -- fieldAddr
    rename_i t x f ho
    obtain ⟨ti, hti, h1⟩ := withT_ok h
    split at h1
    case h_2 => simp [awp] at h1
    rename_i fs hsh
    split at h1
    case h_2 => simp [awp] at h1
    rename_i off ft hf
    rw [awp_bind] at h1
    obtain ⟨v, r, h1⟩ := evalO_ok h1 R
    rw [awp_bind] at h1
    obtain ⟨u, xv, ⟨_, h2⟩, hrun, r2, hp⟩ := fieldAddr_ok (hT t ti hti) hsh hf h1 R r
    refine finish hd hK ?_ h2 R (Ext.refl _ _ _ _) r2
    unfold execOp
    simp only [ho, Sem.run_bind]
    rw [hrun hp]; rfl
  · -- indexAddr
    rename_i t x i ho
    obtain ⟨tt, hTt, h1⟩ := withT_ok h
    split at h1
    case h_2 => simp [awp] at h1
    rename_i e hsh
    obtain ⟨ti, hTe, h1⟩ := withT_ok h1
    rw [awp_bind] at h1
    obtain ⟨v, r, h1⟩ := evalO_ok h1 R
    rw [awp_bind] at h1
    obtain ⟨vi, ri, h1⟩ := evalO_ok h1 R
    rw [awp_bind] at h1
    obtain ⟨dd, hd1, hd2⟩ := (hT t tt hTt).und'
    rw [hsh] at hd2
    have := shape_slice hd2
    subst this
    obtain ⟨u, xv, hrun, h2, r2⟩ := indexAddr_ok hd1 (hT e ti hTe) h1 R r ri
    refine finish hd hK ?_ h2 R (Ext.refl _ _ _ _) r2
    unfold execOp
    simp only [ho, Sem.run_bind]
    rw [hrun]; rfl
  · -- index
    rename_i t x i ho
    rw [awp_bind] at h
    obtain ⟨va, ra, h1⟩ := evalO_ok h R
    rw [awp_bind] at h1
    obtain ⟨vb, rb, h2⟩ := evalO_ok h1 R
    split at h2
    case h_2 => simp [awp] at h2
    rename_i u v hu hv
    refine pureV_ok hd hK ?_ h2 R
    unfold execOp
    simp only [ho, scal_ok hu ra, scal_ok hv rb, Sem.run_bind, Sem.run_pure]
  · -- extract
    rename_i x i ho
    rw [awp_bind] at h
    obtain ⟨v, r, h1⟩ := evalO_ok h R
    split at h1
    case h_2 => simp [awp] at h1
    rename_i vs
    split at h1
    case h_2 => simp [awp] at h1
    rename_i u hu
    simp only [AVRel] at r
    obtain ⟨ys, hy, rs⟩ := r
    have hlt : i < vs.length := (List.getElem?_eq_some_iff.1 hu).1
    have hlt2 : i < ys.length := by rw [rs.length]; exact hlt
    have ru := rs.get i hlt
    rw [List.getD_eq_getElem?_getD, hu, Option.getD_some] at ru
    refine finish hd hK (y := ys.getD i undef) ?_ h1 R (Ext.refl _ _ _ _) ru
    unfold execOp
    simp [ho, hy, Instr.extract, List.getElem?_eq_getElem hlt2]
  · -- call
    rename_i c ho
    exact opCall_ok hT ho hd h R hK
  · simp [awp] at h
end

end Go.Proofs.YtkjglhamlnnboaaDoor.Am
