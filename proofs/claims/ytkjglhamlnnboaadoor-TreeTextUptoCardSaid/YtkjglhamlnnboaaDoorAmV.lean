/-
  THE ABSTRACT MACHINE, part V: who is asked: a proof (propO), or nobody (runO).
-/
import Derived.Test.YtkjglhamlnnboaaDoorAmU
set_option linter.unusedVariables false
set_option linter.unusedSimpArgs false
namespace Go.Proofs.YtkjglhamlnnboaaDoor.Am
open Go Go.RowKit
attribute [local semireducible] kcell khdr

/-! ### Questions that a proof answers -/

def callP (P : Program) (f : FuncId) (args : List AV) (imps : List ObjD) (K : CRes → Prop) : Prop := ∃ r, SemCall P f args imps r ∧ K r
def optP {β : Type} (m : Unit → Option β) (K : β → Prop) : Prop := ∃ b, m () = some b ∧ K b
def iteP (b : Bool) (x y : Unit → Prop) : Prop := (b = true → x ()) ∧ (b = false → y ())

def zipE (bv : Nat → Nat) : List Nat → List AV → List (Nat × AV × Nat)
  | k :: ks, v :: vs => (k, v, bv k) :: zipE bv ks vs
  | _, _ => []
def valsC (c : CS) : List Nat → Option (List AV)
  | [] => some []
  | k :: ks => match findC k c.es with
    | some (v, _) => (match valsC c ks with
      | some vs => some (v :: vs)
      | none => none)
    | none => none

/-- A round's end. -/
def nextP (ks : List Nat) (Inv : Nat → (Nat → Nat) → List AV → Prop) (n : Nat) (c : CS) : Prop := match valsC c ks with
  | some vs => ∃ m, m < n ∧ Inv m (verC c) vs
  | none => False
def headP (ks : List Nat) (Inv : Nat → (Nat → Nat) → List AV → Prop) (c : CS) : Prop := match valsC c ks with
  | some vs => ∃ n, Inv n (verC c) vs
  | none => False

def loopK (ks : List Nat) (Inv : Nat → (Nat → Nat) → List AV → Prop) (n : Nat) (ds : Dfs) (K : Exit → CS → Dfs → Prop) (e : Exit) (c : CS) (ds' : Dfs) : Prop := match e with
  | .normal => ds' = ds ∧ nextP ks Inv n c
  | .exit id => K (.exit id) c ds'
  | .ret => K .ret c ds'
  | _ => False

/-- A loop: which places count, and what is told of them at each round's head, by how many rounds are left at most. -/
def loopP (a : Code) (body : CS → Dfs → (Exit → CS → Dfs → Prop) → Prop) (c : CS) (ds : Dfs) (K : Exit → CS → Dfs → Prop) : Prop :=
  ∃ (ks : List Nat) (Inv : Nat → (Nat → Nat) → List AV → Prop), headP ks Inv c ∧ ∀ n bv vs, Inv n bv vs → body ⟨zipE bv ks vs, bv⟩ ds (loopK ks Inv n ds K)

theorem findC_zip (bv : Nat → Nat) (k : Nat) : ∀ (ks : List Nat) (vs : List AV) {v : AV} {n : Nat}, findC k (zipE bv ks vs) = some (v, n) → n = bv k ∧ ∃ i : Nat, ks[i]? = some k ∧ vs[i]? = some v
  | [], vs, v, n, h => by simp [zipE, findC] at h
  | _ :: _, [], v, n, h => by simp [zipE, findC] at h
  | k' :: ks, v' :: vs, v, n, h => by
    simp only [zipE, findC] at h
    split at h
    · rename_i he
      subst he
      injection h with h
      injection h with h1 h2
      subst h1 h2
      exact ⟨rfl, 0, rfl, rfl⟩
    · obtain ⟨a, i, b, c⟩ := findC_zip bv k ks vs h
      exact ⟨a, i + 1, by simpa using b, by simpa using c⟩

theorem valsC_get {c : CS} : ∀ {ks : List Nat} {vs : List AV}, valsC c ks = some vs → ∀ (i k : Nat) (v : AV), ks[i]? = some k → vs[i]? = some v → valC c k = some v
  | [], vs, h, i, k, v, hk, hv => by simp at hk
  | k0 :: ks, vs, h, i, k, v, hk, hv => by
    simp only [valsC] at h
    split at h
    · rename_i v0 n hf
      split at h
      · rename_i vs' hvs
        injection h with h
        subst h
        cases i with
        | zero => simp at hk hv; subst hk hv; simp only [valC, hf]
        | succ i => exact valsC_get hvs i k v (by simpa using hk) (by simpa using hv)
      · cases h
    · cases h

theorem Den.zip {c : CS} {s : St} (D : Den c s) {ks : List Nat} {vs : List AV} (h : valsC c ks = some vs) : Den ⟨zipE (verC c) ks vs, verC c⟩ s := by
  refine ⟨fun k => ?_, fun k v hv => ?_⟩
  · rw [D.ver]
    show verC c k = verC ⟨zipE (verC c) ks vs, verC c⟩ k
    conv => rhs; unfold verC
    split
    · rename_i v n hf
      exact (findC_zip _ k ks vs hf).1.symm
    · rfl
  · unfold valC at hv
    split at hv
    · rename_i v' n hf
      injection hv with hv
      subst hv
      obtain ⟨_, i, h1, h2⟩ := findC_zip _ k ks vs hf
      exact D.val k _ (valsC_get h i k _ h1 h2)
    · cases hv

def propO (P : Program) : Ora Prop where
  bad := False
  call := callP P
  loop := loopP
  opt := optP
  ite := iteP

theorem propO_sound (P : Program) (N : Nat) : Sound P Prop (propO P) N fun p => p where
  bad := fun h => h
  call := fun f args imps K h => h
  opt := fun m K h => h
  ite := fun b x y h => by
    cases b
    · exact h.2 rfl
    · exact h.1 rfl
  loop := by
    intro a body hb c ds K s D h
    obtain ⟨ks, Inv, h1, h2⟩ := h
    unfold headP at h1
    split at h1
    case h_2 => exact h1.elim
    rename_i vs hvs
    obtain ⟨n, hn⟩ := h1
    refine swp_loop (P := P) (N := N) (fun n s' ds' => ds' = ds ∧ ∃ bv vs, Inv n bv vs ∧ Den ⟨zipE bv ks vs, bv⟩ s') ?_ (n := n) ⟨rfl, _, vs, hn, D.zip hvs⟩
    rintro n s ds' ⟨rfl, bv, vs, hI, D'⟩
    refine (hb _ _ _ _ D' (h2 n bv vs hI)).mono ?_
    rintro e s' ds'' ⟨c', D'', h'⟩
    cases e with
    | normal =>
      obtain ⟨rfl, h'⟩ := h'
      unfold nextP at h'
      split at h'
      · rename_i vs' hvs'
        obtain ⟨m, hm, hI'⟩ := h'
        exact ⟨m, hm, rfl, _, vs', hI', D''.zip hvs'⟩
      · exact h'.elim
    | exit id => exact ⟨c', D'', h'⟩
    | ret => exact ⟨c', D'', h'⟩
    | _ => exact h'.elim

/-- Whoever is asked, as a proof sees him: what he asks for suffices. -/
structure Asks (P : Program) (O : Ora Prop) : Prop where
  call : ∀ {f args imps K}, callP P f args imps K → O.call f args imps K
  opt : ∀ {β : Type} {m : Unit → Option β} {K}, optP m K → O.opt m K
  ite : ∀ {b x y}, iteP b x y → O.ite b x y
  loop : ∀ {a body c ds K}, loopP a body c ds K → O.loop a body c ds K

/-! ### A function's end -/

def outsFit : List (List (Option AV)) → List ObjD → Bool
  | [], _ => true
  | o :: os, i :: is => Nat.ble o.length i.cells.length && outsFit os is
  | _ :: _, [] => false
def cellsP (c : CS) (r : CRes) (i : Nat) : Nat → List AV → List AV → Prop
  | j, v :: vs, v' :: vs' => (match outAt r i j with
    | some u => v' = u
    | none => verC c (kcell i j) = 0 ∧ v' = v) ∧ cellsP c r i (j + 1) vs vs'
  | _, [], [] => True
  | _, _, _ => False
def headsP (c : CS) (r : CRes) : Nat → List ObjD → List ObjD → Prop
  | i, o :: imps, o' :: objs => verC c (khdr i) = 0 ∧ o'.e = o.e ∧ cellsP c r i 0 o.cells o'.cells ∧ headsP c r (i + 1) imps objs
  | _, [], _ => True
  | _, _, [] => False
def retP (c : CS) (LL : List Nat) (x y : AV) : Prop := match x with
  | .own e z xs fz => y = .own e z xs fz
  | x => match renA LL (verC c) x with
    | some z => y = z
    | none => False
def leave1 (imps : List ObjD) (r : CRes) (x : AV) (c : CS) (LL : List Nat) : Prop :=
  if nodupB LL && (LL.take imps.length == List.range imps.length) && outsFit r.outs imps then match impsC c LL LL with
    | none => False
    | some objs => retP c LL x r.ret ∧ r.news = objs.drop imps.length ∧ headsP c r 0 imps objs
  else False
/-- What is to be shown where a function ends. -/
def leaveP (imps : List ObjD) (r : CRes) (x : AV) (c : CS) : Prop := leave1 imps r x c (reachC c 64 [] (List.range imps.length ++ names x))

theorem cellsP_len {c : CS} {r : CRes} {i : Nat} : ∀ {vs vs' : List AV} {j : Nat}, cellsP c r i j vs vs' → vs'.length = vs.length
  | [], [], j, h => rfl
  | [], _ :: _, j, h => h.elim
  | _ :: _, [], j, h => h.elim
  | v :: vs, v' :: vs', j, h => by simp [cellsP_len h.2]
theorem cellsP_get {c : CS} {r : CRes} {i : Nat} : ∀ {vs vs' : List AV} {j0 : Nat}, cellsP c r i j0 vs vs' → ∀ j v, vs[j]? = some v → ∃ v', vs'[j]? = some v' ∧ match outAt r i (j0 + j) with
    | some u => v' = u
    | none => verC c (kcell i (j0 + j)) = 0 ∧ v' = v
  | [], [], j0, h, j, v, hv => by simp at hv
  | [], _ :: _, j0, h, j, v, hv => h.elim
  | _ :: _, [], j0, h, j, v, hv => h.elim
  | v0 :: vs, v' :: vs', j0, h, j, v, hv => by
    cases j with
    | zero => simp at hv; subst hv; exact ⟨v', rfl, h.1⟩
    | succ j =>
      obtain ⟨u, h1, h2⟩ := cellsP_get h.2 j v (by simpa using hv)
      exact ⟨u, by simpa using h1, by rw [show j0 + (j + 1) = j0 + 1 + j by omega]; exact h2⟩
theorem headsP_get {c : CS} {r : CRes} : ∀ {imps objs : List ObjD} {i0 : Nat}, headsP c r i0 imps objs → ∀ i o, imps[i]? = some o → ∃ o', objs[i]? = some o' ∧ verC c (khdr (i0 + i)) = 0 ∧ o'.e = o.e ∧ cellsP c r (i0 + i) 0 o.cells o'.cells
  | [], objs, i0, h, i, o, hi => by simp at hi
  | o0 :: imps, [], i0, h, i, o, hi => h.elim
  | o0 :: imps, o1 :: objs, i0, h, i, o, hi => by
    cases i with
    | zero => simp at hi; subst hi; exact ⟨o1, rfl, h.1, h.2.1, h.2.2.1⟩
    | succ i =>
      obtain ⟨o', h1, h2⟩ := headsP_get h.2.2.2 i o (by simpa using hi)
      exact ⟨o', by simpa using h1, by rw [show i0 + (i + 1) = i0 + 1 + i by omega]; exact h2⟩
theorem outsFit_get : ∀ {outs : List (List (Option AV))} {imps : List ObjD}, outsFit outs imps = true → ∀ (i j : Nat) (v : AV), ((outs[i]?).bind (·[j]?)).bind id = some v → ∃ o : ObjD, imps[i]? = some o ∧ j < o.cells.length
  | [], imps, h, i, j, v, hv => by simp at hv
  | o :: os, [], h, i, j, v, hv => by simp [outsFit] at h
  | o :: os, m :: imps, h, i, j, v, hv => by
    simp only [outsFit, Bool.and_eq_true, Nat.ble_eq] at h
    cases i with
    | zero =>
      simp only [List.getElem?_cons_zero, Option.bind_some] at hv
      cases hj : o[j]? with
      | none => simp [hj] at hv
      | some w => exact ⟨m, rfl, by have := (List.getElem?_eq_some_iff.1 hj).1; omega⟩
    | succ i => simpa using outsFit_get h.2 i j v (by simpa using hv)

theorem leave1_ok {imps : List ObjD} {r : CRes} {x : AV} {c : CS} {s : St} {LL : List Nat} (D : Den c s) (h : leave1 imps r x c LL) : ∃ NL objs, Leaving imps s x r NL objs := by
  unfold leave1 at h
  split at h
  case isFalse => exact h.elim
  rename_i hb
  simp only [Bool.and_eq_true, beq_iff_eq] at hb
  obtain ⟨⟨hnd, htk⟩, hfit⟩ := hb
  split at h
  case h_1 => exact h.elim
  rename_i objs hobjs
  obtain ⟨h1, h2, h3⟩ := h
  have hLL : List.range imps.length ++ LL.drop imps.length = LL := by rw [← htk]; exact List.take_append_drop _ _
  refine ⟨LL.drop imps.length, objs, ?_, ?_, ?_, h2, ?_, ?_, ?_⟩
  · rw [hLL]; exact nodupB_ok hnd
  · rw [hLL]; exact impsC_ok D hobjs
  · rw [hLL, D.verf]
    unfold retP at h1
    split at h1
    · exact .inl ⟨rfl, h1⟩
    · rename_i hno
      split at h1
      · rename_i z hz
        refine .inr ⟨?_, by rw [hz, h1]⟩
        cases x <;> first | rfl | exact absurd rfl (hno _ _ _ _)
      · exact h1.elim
  · intro i o hi
    obtain ⟨o', a, b, e, f⟩ := headsP_get h3 i o hi
    simp only [Nat.zero_add] at b
    exact ⟨by rw [D.ver]; exact b, o', a, e, cellsP_len f⟩
  · intro i j v hv
    obtain ⟨o, a, b⟩ := outsFit_get hfit i j v hv
    obtain ⟨o', a', _, _, f⟩ := headsP_get h3 i o a
    obtain ⟨v', f1, f2⟩ := cellsP_get f j _ (List.getElem?_eq_getElem b)
    simp only [Nat.zero_add] at f2
    rw [hv] at f2
    exact ⟨(List.getElem?_eq_some_iff.1 a).1, o', a', by rw [f1, show v' = v from f2]⟩
  · intro i j o hi hj ho
    obtain ⟨o', a', _, _, f⟩ := headsP_get h3 i o hi
    obtain ⟨v', f1, f2⟩ := cellsP_get f j _ (List.getElem?_eq_getElem hj)
    simp only [Nat.zero_add] at f2
    rw [ho] at f2
    exact ⟨by rw [D.ver]; exact f2.1, o', a', by rw [f1, f2.2, List.getElem?_eq_getElem hj]⟩

theorem leaveP_ok {imps : List ObjD} {r : CRes} {x : AV} {c : CS} {s : St} (D : Den c s) (h : leaveP imps r x c) : ∃ NL objs, Leaving imps s x r NL objs := leave1_ok D h

def funcOk (fn : Func) (code : Code) (nargs : Nat) (imps : List ObjD) : Bool := !(fn.name == "runtime.NumGoroutine") && Nat.ble nargs fn.ntmps && Nat.ble fn.ntmps 4096 && imps.all (fun o => Nat.ble o.cells.length 62) && codeOk fn.ntmps code && resOk fn.ntmps fn.results.toList

/-- A function's contract, by proof. -/
theorem semCall_of_prop {P : Program} {T : Tab} {f : FuncId} {fn : Func} {code : Code} {args : List AV} {imps : List ObjD} {r : CRes} (hT : TabOk P T) (hm : P.follows .mixedOrders = true)
    (hf : P.funcs[f]? = some fn) (hb : fn.body = some code) (hok : funcOk fn code args.length imps = true)
    (h : ∀ (Q : Program) (O : Ora Prop) (F : LO), Q = P → Asks Q O → F = F0 → evC (F := F) O Q T code (initC args imps) [] (finC (F := F) O T (tagT T fn.results.toList fn.resultTypes.toList) (leaveP imps r))) : SemCall P f args imps r := by
  simp only [funcOk, Bool.and_eq_true, Bool.not_eq_true', Nat.ble_eq, List.all_eq_true] at hok
  obtain ⟨⟨⟨⟨⟨a1, a2⟩, a3⟩, a4⟩, a5⟩, a6⟩ := hok
  exact semCall_of_ev (propO_sound P fn.ntmps) hT hm hf hb a1 a2 a3 a4 a5 a6 (fun x c s D h => leaveP_ok D h) (h P (propO P) F0 rfl ⟨fun h => h, fun h => h, fun h => h, fun h => h⟩ rfl)

/-! ### No questions left -/

def iterO {α : Type} (body : CS → Dfs → (Exit → CS → Dfs → Option α) → Option α) (K : Exit → CS → Dfs → Option α) : Nat → CS → Dfs → Option α
  | 0, _, _ => none
  | m + 1, c, ds => body c ds fun e c' ds' => match e with
    | .normal => iterO body K m c' ds'
    | .exit id => K (.exit id) c' ds'
    | .ret => K .ret c' ds'
    | _ => none

def optO {α : Type} (run : FuncId → List AV → List ObjD → Option CRes) (m : Nat) : Ora (Option α) where
  bad := none
  call := fun f args imps K => match run f args imps with
    | some r => K r
    | none => none
  loop := fun a body c ds K => iterO body K m c ds
  opt := fun q K => match q () with
    | some b => K b
    | none => none
  ite := fun b x y => match b with
    | true => x ()
    | false => y ()

theorem optO_sound {P : Program} {N : Nat} {α : Type} {run : FuncId → List AV → List ObjD → Option CRes} (hrun : ∀ f args imps r, run f args imps = some r → SemCall P f args imps r) (m : Nat) (r : α) : Sound P (Option α) (optO run m) N fun o => o = some r where
  bad := fun h => nomatch h
  call := fun f args imps K h => by
    simp only [optO] at h
    split at h
    · rename_i r' hr; exact ⟨r', hrun _ _ _ _ hr, h⟩
    · cases h
  opt := fun q K h => by
    simp only [optO] at h
    split at h
    · rename_i b hb; exact ⟨b, hb, h⟩
    · cases h
  ite := fun b x y h => by cases b <;> exact h
  loop := by
    intro a body hb c ds K s D h
    refine swp_loop (P := P) (N := N) (fun n s' ds' => ∃ c, Den c s' ∧ iterO body K n c ds' = some r) ?_ (n := m) ⟨c, D, h⟩
    rintro n s ds' ⟨c, D', h⟩
    cases n with
    | zero => cases h
    | succ n =>
      refine (hb _ _ _ _ D' h).mono ?_
      rintro e s' ds'' ⟨c', D'', h'⟩
      cases e with
      | normal => exact ⟨n, by omega, c', D'', h'⟩
      | exit id => exact ⟨c', D'', h'⟩
      | ret => exact ⟨c', D'', h'⟩
      | _ => cases h'

/-! Are they surely the same? -/
def valEq : Value → Value → Bool
  | .int k i, .int k' i' => decide (k = k') && decide (i = i')
  | .bool a, .bool b => a == b
  | .string a, .string b => a.data.toList == b.data.toList
  | .pointer none, .pointer none => true
  | .nilIface, .nilIface => true
  | .nilFunc, .nilFunc => true
  | _, _ => false
theorem valEq_ok {a b : Value} (h : valEq a b = true) : a = b := by
  unfold valEq at h
  split at h
  · simp only [Bool.and_eq_true, decide_eq_true_eq] at h; rw [h.1, h.2]
  · simp only [beq_iff_eq] at h; rw [h]
  · rename_i a b
    simp only [beq_iff_eq] at h
    obtain ⟨⟨a⟩⟩ := a
    obtain ⟨⟨b⟩⟩ := b
    simp only at h
    rw [h]
  · rfl
  · rfl
  · rfl
  · cases h
mutual
def pvEq : PV → PV → Bool
  | .v x, .v y => valEq x y
  | .agg xs, .agg ys => pvsEq xs ys
  | .sl z xs, .sl z' ys => z == z' && rowsEq xs ys
  | .ptr xs, .ptr ys => pvsEq xs ys
  | .iface t x, .iface t' y => t == t' && pvEq x y
  | _, _ => false
def pvsEq : List PV → List PV → Bool
  | [], [] => true
  | x :: xs, y :: ys => pvEq x y && pvsEq xs ys
  | _, _ => false
def rowsEq : List (List PV) → List (List PV) → Bool
  | [], [] => true
  | x :: xs, y :: ys => pvsEq x y && rowsEq xs ys
  | _, _ => false
end
mutual
theorem pvEq_ok : ∀ {x y : PV}, pvEq x y = true → x = y
  | .v x, y, h => by cases y <;> simp only [pvEq, reduceCtorEq, Bool.false_eq_true] at h; rw [valEq_ok h]
  | .agg xs, y, h => by cases y <;> simp only [pvEq, reduceCtorEq, Bool.false_eq_true] at h; rw [pvsEq_ok h]
  | .sl z xs, y, h => by
    cases y <;> simp only [pvEq, reduceCtorEq, Bool.false_eq_true, Bool.and_eq_true, beq_iff_eq] at h
    rw [h.1, rowsEq_ok h.2]
  | .ptr xs, y, h => by cases y <;> simp only [pvEq, reduceCtorEq, Bool.false_eq_true] at h; rw [pvsEq_ok h]
  | .iface t x, y, h => by
    cases y <;> simp only [pvEq, reduceCtorEq, Bool.false_eq_true, Bool.and_eq_true, beq_iff_eq] at h
    rw [h.1, pvEq_ok h.2]
theorem pvsEq_ok : ∀ {x y : List PV}, pvsEq x y = true → x = y
  | [], y, h => by cases y <;> simp [pvsEq] at h; rfl
  | x :: xs, y, h => by
    cases y <;> simp only [pvsEq, Bool.false_eq_true, Bool.and_eq_true] at h
    rw [pvEq_ok h.1, pvsEq_ok h.2]
theorem rowsEq_ok : ∀ {x y : List (List PV)}, rowsEq x y = true → x = y
  | [], y, h => by cases y <;> simp [rowsEq] at h; rfl
  | x :: xs, y, h => by
    cases y <;> simp only [rowsEq, Bool.false_eq_true, Bool.and_eq_true] at h
    rw [pvsEq_ok h.1, rowsEq_ok h.2]
end
def avEq : AV → AV → Bool
  | .p x, .p y => pvEq x y
  | .ptr n v o, .ptr n' v' o' => n == n' && v == v' && o == o'
  | .own e z xs fz, .own e' z' xs' fz' => e == e' && z == z' && fz == fz' && rowsEq xs xs'
  | _, _ => false
theorem avEq_ok {x y : AV} (h : avEq x y = true) : x = y := by
  unfold avEq at h
  split at h
  · rw [pvEq_ok h]
  · simp only [Bool.and_eq_true, beq_iff_eq] at h; rw [h.1.1, h.1.2, h.2]
  · simp only [Bool.and_eq_true, beq_iff_eq] at h; rw [h.1.1.1, h.1.1.2, h.1.2, rowsEq_ok h.2]
  · cases h

/-- What was written of an object's cells. -/
def outC (c : CS) (i : Nat) : Nat → List AV → List AV → List (Option AV)
  | j, v :: vs, v' :: vs' => (if verC c (kcell i j) == 0 && avEq v' v then none else some v') :: outC c i (j + 1) vs vs'
  | _, _, _ => []
def outsC (c : CS) : Nat → List ObjD → List ObjD → List (List (Option AV))
  | i, o :: imps, o' :: objs => outC c i 0 o.cells o'.cells :: outsC c (i + 1) imps objs
  | _, _, _ => []
theorem outC_get {c : CS} {i : Nat} : ∀ {vs vs' : List AV} {j0 : Nat} (j : Nat), (outC c i j0 vs vs')[j]? = (match vs[j]?, vs'[j]? with
    | some v, some v' => some (if verC c (kcell i (j0 + j)) == 0 && avEq v' v then none else some v')
    | _, _ => none)
  | [], vs', j0, j => by simp [outC]
  | v :: vs, [], j0, j => by simp [outC]
  | v :: vs, v' :: vs', j0, j => by
    cases j with
    | zero => simp [outC]
    | succ j =>
      simp only [outC, List.getElem?_cons_succ]
      rw [outC_get j, show j0 + 1 + j = j0 + (j + 1) by omega]
theorem outsC_get {c : CS} : ∀ {imps objs : List ObjD} {i0 : Nat} (i : Nat), (outsC c i0 imps objs)[i]? = (match imps[i]?, objs[i]? with
    | some o, some o' => some (outC c (i0 + i) 0 o.cells o'.cells)
    | _, _ => none)
  | [], objs, i0, i => by simp [outsC]
  | o :: imps, [], i0, i => by simp [outsC]
  | o :: imps, o' :: objs, i0, i => by
    cases i with
    | zero => simp [outsC]
    | succ i =>
      simp only [outsC, List.getElem?_cons_succ]
      rw [outsC_get i, show i0 + 1 + i = i0 + (i + 1) by omega]

def headsB (c : CS) : Nat → List ObjD → List ObjD → Bool
  | i, o :: imps, o' :: objs => verC c (khdr i) == 0 && o'.e == o.e && o'.cells.length == o.cells.length && headsB c (i + 1) imps objs
  | _, [], _ => true
  | _, _, [] => false
def retO (c : CS) (LL : List Nat) (x : AV) : Option AV := match x with
  | .own e z xs fz => some (.own e z xs fz)
  | x => renA LL (verC c) x
def leaveO (imps : List ObjD) (x : AV) (c : CS) : Option CRes :=
  let LL := reachC c 64 [] (List.range imps.length ++ names x)
  if nodupB LL && (LL.take imps.length == List.range imps.length) then match impsC c LL LL with
    | none => none
    | some objs => if headsB c 0 imps objs then (match retO c LL x with
      | some y => some ⟨y, outsC c 0 imps objs, objs.drop imps.length⟩
      | none => none) else none
  else none

theorem headsB_get {c : CS} : ∀ {imps objs : List ObjD} {i0 : Nat}, headsB c i0 imps objs = true → ∀ i o, imps[i]? = some o → ∃ o', objs[i]? = some o' ∧ verC c (khdr (i0 + i)) = 0 ∧ o'.e = o.e ∧ o'.cells.length = o.cells.length
  | [], objs, i0, h, i, o, hi => by simp at hi
  | o0 :: imps, [], i0, h, i, o, hi => by simp [headsB] at h
  | o0 :: imps, o1 :: objs, i0, h, i, o, hi => by
    simp only [headsB, Bool.and_eq_true, beq_iff_eq] at h
    cases i with
    | zero => simp at hi; subst hi; exact ⟨o1, rfl, h.1.1.1, h.1.1.2, h.1.2⟩
    | succ i =>
      obtain ⟨o', h1, h2⟩ := headsB_get h.2 i o (by simpa using hi)
      exact ⟨o', by simpa using h1, by rw [show i0 + (i + 1) = i0 + 1 + i by omega]; exact h2⟩

theorem leaveO_ok {imps : List ObjD} {r : CRes} {x : AV} {c : CS} {s : St} (D : Den c s) (h : leaveO imps x c = some r) : ∃ NL objs, Leaving imps s x r NL objs := by
  unfold leaveO at h
  dsimp only at h
  generalize reachC c 64 [] (List.range imps.length ++ names x) = LL at h
  split at h
  case isFalse => cases h
  rename_i hb
  simp only [Bool.and_eq_true, beq_iff_eq] at hb
  obtain ⟨hnd, htk⟩ := hb
  split at h
  case h_1 => cases h
  rename_i objs hobjs
  split at h
  case isFalse => cases h
  rename_i hh
  split at h
  case h_2 => cases h
  rename_i y hy
  injection h with h
  subst h
  have hLL : List.range imps.length ++ LL.drop imps.length = LL := by rw [← htk]; exact List.take_append_drop _ _
  have hout : ∀ i j, outAt ⟨y, outsC c 0 imps objs, objs.drop imps.length⟩ i j = match imps[i]?, objs[i]? with
      | some o, some o' => (match o.cells[j]?, o'.cells[j]? with
        | some v, some v' => if verC c (kcell i j) == 0 && avEq v' v then none else some v'
        | _, _ => none)
      | _, _ => none := by
    intro i j
    unfold outAt
    simp only [outsC_get, Nat.zero_add]
    cases imps[i]? with
    | none => rfl
    | some o =>
      cases objs[i]? with
      | none => rfl
      | some o' =>
        simp only [Option.bind_some, outC_get, Nat.zero_add]
        cases o.cells[j]? with
        | none => rfl
        | some v =>
          cases o'.cells[j]? with
          | none => rfl
          | some v' => rfl
  refine ⟨LL.drop imps.length, objs, ?_, ?_, ?_, rfl, ?_, ?_, ?_⟩
  · rw [hLL]; exact nodupB_ok hnd
  · rw [hLL]; exact impsC_ok D hobjs
  · rw [hLL, D.verf]
    unfold retO at hy
    split at hy
    · injection hy with hy; exact .inl ⟨rfl, hy.symm⟩
    · rename_i hno
      refine .inr ⟨?_, hy⟩
      cases x <;> first | rfl | exact absurd rfl (hno _ _ _ _)
  · intro i o hi
    obtain ⟨o', a, b, e, f⟩ := headsB_get hh i o hi
    simp only [Nat.zero_add] at b
    exact ⟨by rw [D.ver]; exact b, o', a, e, f⟩
  · intro i j v hv
    rw [hout] at hv
    split at hv
    · rename_i o o' ho ho'
      split at hv
      · rename_i u u' hu hu'
        split at hv
        · cases hv
        · injection hv with hv
          subst hv
          exact ⟨(List.getElem?_eq_some_iff.1 ho).1, o', ho', hu'⟩
      · cases hv
    · cases hv
  · intro i j o hi hj ho
    obtain ⟨o', a, _, _, f⟩ := headsB_get hh i o hi
    rw [hout, hi, a] at ho
    have hj' : j < o'.cells.length := by omega
    dsimp only at ho
    rw [List.getElem?_eq_getElem hj, List.getElem?_eq_getElem hj'] at ho
    simp only at ho
    split at ho
    · rename_i hq
      simp only [Bool.and_eq_true, beq_iff_eq] at hq
      refine ⟨by rw [D.ver]; exact hq.1, o', a, ?_⟩
      rw [List.getElem?_eq_getElem hj, List.getElem?_eq_getElem hj', avEq_ok hq.2]
    · cases ho

/-- A run: 'known' are contracts that stand elsewhere. -/
def runO (P : Program) (T : Tab) (known : FuncId → List AV → List ObjD → Option CRes) (m : Nat) : Nat → FuncId → List AV → List ObjD → Option CRes
  | 0, _, _, _ => none
  | n + 1, f, args, imps => match known f args imps with
    | some r => some r
    | none => match P.funcs[f]? with
      | none => none
      | some fn => match fn.body with
        | none => none
        | some code => if funcOk fn code args.length imps then evC (optO (runO P T known m n) m) P T code (initC args imps) [] (finC (optO (runO P T known m n) m) T (tagT T fn.results.toList fn.resultTypes.toList) (leaveO imps)) else none

theorem runO_ok {P : Program} {T : Tab} {known : FuncId → List AV → List ObjD → Option CRes} (hT : TabOk P T) (hm : P.follows .mixedOrders = true) (hk : ∀ f args imps r, known f args imps = some r → SemCall P f args imps r) {m : Nat} :
    ∀ (n : Nat) {f : FuncId} {args : List AV} {imps : List ObjD} {r : CRes}, runO P T known m n f args imps = some r → SemCall P f args imps r := by
  intro n
  induction n with
  | zero => intro f args imps r h; cases h
  | succ n ih =>
    intro f args imps r h
    simp only [runO] at h
    split at h
    · rename_i r' hr
      injection h with h
      subst h
      exact hk _ _ _ _ hr
    · split at h
      · cases h
      · rename_i fn hf
        split at h
        · cases h
        · rename_i code hb
          split at h
          · rename_i hok
            simp only [funcOk, Bool.and_eq_true, Bool.not_eq_true', Nat.ble_eq, List.all_eq_true] at hok
            obtain ⟨⟨⟨⟨⟨a1, a2⟩, a3⟩, a4⟩, a5⟩, a6⟩ := hok
            exact semCall_of_ev (optO_sound (P := P) (N := fn.ntmps) (fun f args imps r h => ih h) m r) hT hm hf hb a1 a2 a3 a4 a5 a6 (fun x c s D h => leaveO_ok D h) h
          · cases h

end Go.Proofs.YtkjglhamlnnboaaDoor.Am
