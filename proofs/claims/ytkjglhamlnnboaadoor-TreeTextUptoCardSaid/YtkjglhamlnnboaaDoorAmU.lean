/-
  THE ABSTRACT MACHINE, part U: the evaluator, and that it tells the truth.
-/
import Derived.Test.YtkjglhamlnnboaaDoorAmT
set_option linter.unusedVariables false
set_option linter.unusedSimpArgs false
namespace Go.Proofs.YtkjglhamlnnboaaDoor.Am
open Go Go.RowKit
attribute [local semireducible] kcell khdr

/-- Whoever is asked. -/
structure Ora (ρ : Type) where
  bad : ρ
  call : FuncId → List AV → List ObjD → (CRes → ρ) → ρ
  loop : Code → (CS → Dfs → (Exit → CS → Dfs → ρ) → ρ) → CS → Dfs → (Exit → CS → Dfs → ρ) → ρ
  opt : {β : Type} → (Unit → Option β) → (β → ρ) → ρ
  ite : Bool → (Unit → ρ) → (Unit → ρ) → ρ

section
variable {ρ : Type} (O : Ora ρ)

/-- A call. -/
def callC (f : FuncId) (args : List AV) (d : Nat) (c : CS) (K : List Nat → CRes → CS → ρ) : ρ :=
  let L := reachC c 64 [] (namesL args)
  match impsC c L L with
  | none => O.bad
  | some imps => match renAs L (verC c) args with
    | none => O.bad
    | some args' => if nodupB L && Nat.ble args.length 64 && imps.all (fun o => Nat.ble o.cells.length 62) then
        O.call f args' imps fun r =>
          if namesB L (newNames d r.news.length) r && outsKnown c r 0 L && backOk (L ++ newNames d r.news.length) (verInC c (newNames d r.news.length)) r then K L r (retC c L d r) else O.bad
      else O.bad

def ev {α : Type} : AE α → CS → (α → CS → ρ) → ρ
  | .pure a, c, K => K a c
  | .fail, _, _ => O.bad
  | .get k f, c, K => match findC k c.es with
    | some (v, n) => ev (f v n) c K
    | none => O.bad
  | .set k v m, c, K => ev m ⟨setE c.bs k v c.es, c.bs⟩ K
  | .mod k v m, c, K => ev m ⟨modE c.bs k v c.es, c.bs⟩ K
  | .call f args d m, c, K => match d with
    | none => O.bad
    | some d => callC O f args d c fun _ _ c' => ev m c' K
  | .opt m f, c, K => O.opt m fun b => ev (f b) c K
  | .br b x y, c, K => match b with
    | true => ev (x ()) c K
    | false => ev (y ()) c K

/-- With the places that are read and written. -/
def evF : AE Unit → CS → List Nat → List Nat → (CS → List Nat → List Nat → ρ) → ρ
  | .pure a, c, R, W, K => K c R W
  | .fail, _, _, _, _ => O.bad
  | .get k f, c, R, W, K => match findC k c.es with
    | some (v, n) => evF (f v n) c (R ++ [k]) W K
    | none => O.bad
  | .set k v m, c, R, W, K => evF m ⟨setE c.bs k v c.es, c.bs⟩ (R ++ [k]) (W ++ [k]) K
  | .mod k v m, c, R, W, K => evF m ⟨modE c.bs k v c.es, c.bs⟩ (R ++ [k]) (W ++ [k]) K
  | .call f args d m, c, R, W, K => match d with
    | none => O.bad
    | some d => callC O f args d c fun L r c' => evF m c' (R ++ (d :: (L ++ newNames d r.news.length).flatMap (fun n => (List.range 64).map fun j => 4096 + n * 64 + j)))
        (W ++ (d :: (((List.range L.length).flatMap fun i => ((List.range 63).filter fun j => (outAt r i j).isSome).map fun j => 4096 + L.getD i 0 * 64 + j) ++ ((newNames d r.news.length).flatMap fun n => (List.range 64).map fun j => 4096 + n * 64 + j)))) K
  | .opt m f, c, R, W, K => O.opt m fun b => evF (f b) c R W K
  | .br b x y, c, R, W, K => match b with
    | true => evF (x ()) c R W K
    | false => evF (y ()) c R W K

def cK [F : LO] (P : Program) (T : Tab) (ops : Array Oper) : List Oper → CS → List (List Nat × List Nat) → (CS → List (List Nat × List Nat) → ρ) → ρ
  | [], c, fs, K => K c fs
  | o :: r, c, fs, K => evF O (guardedX P T ops o (.pure ())) c [] [] fun c' R W => cK P T ops r c' (fs ++ [(R, W)]) K

/-- What comes behind code. -/
def seqK (nxt : CS → Dfs → (Exit → CS → Dfs → ρ) → ρ) (K : Exit → CS → Dfs → ρ) (e : Exit) (c : CS) (ds : Dfs) : ρ := match e with
  | .normal => nxt c ds K
  | .exit id => K (.exit id) c ds
  | .ret => K .ret c ds
  | _ => O.bad
def blockK (id : Nat) (K : Exit → CS → Dfs → ρ) (e : Exit) (c : CS) (ds : Dfs) : ρ := match e with
  | .normal => K .normal c ds
  | .exit id' => if id' = id then K .normal c ds else K (.exit id') c ds
  | .ret => K .ret c ds
  | _ => O.bad
def regK (ds : Dfs) (K : Exit → CS → Dfs → ρ) (x : Unit) (c : CS) : ρ := K .normal c ds
def drawK (ops : Array Oper) (ds : Dfs) (K : Exit → CS → Dfs → ρ) (c : CS) (fs : List (List Nat × List Nat)) : ρ := O.opt (fun _ => guardO (noClash (befs [] ops.toList) fs 0)) fun _ => K .normal c ds
def condK (x y : CS → ρ) (v : AV) (c : CS) : ρ := match v with
  | .p (.v (.bool q)) => (match q with
    | true => x c
    | false => y c)
  | _ => O.bad

def evC [F : LO] (P : Program) (T : Tab) : Code → CS → Dfs → (Exit → CS → Dfs → ρ) → ρ
  | .skip, c, ds, K => K .normal c ds
  | .ret, c, ds, K => K .ret c ds
  | .exit id, c, ds, K => K (.exit id) c ds
  | .seq a b, c, ds, K => evC P T a c ds (seqK O (fun c ds K => evC P T b c ds K) K)
  | .cond x a b, c, ds, K => ev O (evalX x .pure) c (condK O (fun c => evC P T a c ds K) (fun c => evC P T b c ds K))
  | .block id a, c, ds, K => evC P T a c ds (blockK O id K)
  | .region id ops draw, c, ds, K => match draw with
    | false => ev O (seqX P T ops ops.toList (.pure ())) c (regK ds K)
    | true => cK O P T ops ops.toList c [] (drawK O ops ds K)
  | .loop a, c, ds, K => O.loop a (fun c ds K => evC P T a c ds K) c ds K
  | _, _, _, _ => O.bad

end

def codeOk (N : Nat) : Code → Bool
  | .skip | .ret | .exit _ => true
  | .seq a b => codeOk N a && codeOk N b
  | .cond _ a b => codeOk N a && codeOk N b
  | .block _ a => codeOk N a
  | .loop a => codeOk N a
  | .region _ ops draw => dstsOk N ops && (!draw || edgesOk ops)
  | _ => false

/-- Those who are asked tell the truth: 'good' is what is to be believed. -/
structure Sound (P : Program) (ρ : Type) (O : Ora ρ) (N : Nat) (good : ρ → Prop) : Prop where
  bad : ¬ good O.bad
  call : ∀ f args imps K, good (O.call f args imps K) → ∃ r, SemCall P f args imps r ∧ good (K r)
  opt : ∀ {β : Type} (m : Unit → Option β) K, good (O.opt m K) → ∃ b, m () = some b ∧ good (K b)
  ite : ∀ b x y, good (O.ite b x y) → good (if b then x () else y ())
  loop : ∀ a body, (∀ c ds K s, Den c s → good (body c ds K) → SWp P N a s ds fun e s' ds' => ∃ c', Den c' s' ∧ good (K e c' ds')) →
    ∀ c ds K s, Den c s → good (O.loop a body c ds K) → SWp P N (.loop a) s ds fun e s' ds' => ∃ c', Den c' s' ∧ good (K e c' ds')

section
variable {P : Program} {T : Tab} {ρ : Type} {O : Ora ρ} {N : Nat} {good : ρ → Prop}

theorem callC_ok (hO : Sound P ρ O N good) {f : FuncId} {args : List AV} {d : Nat} {c : CS} {s : St} (D : Den c s) {K : List Nat → CRes → CS → ρ} (h : good (callC O f args d c K)) :
    ∃ L imps args' r, L.Nodup ∧ impsOf s L L = some imps ∧ renAs L s.ver args = some args' ∧ args.length ≤ 64 ∧ (∀ o, o ∈ imps → o.cells.length ≤ 62) ∧ SemCall P f args' imps r ∧ namesOk L d r = true ∧
      backOk (L ++ newNames d r.news.length) (verIn s (newNames d r.news.length)) r = true ∧ Den (retC c L d r) (retInto s L d r) ∧ good (K L r (retC c L d r)) := by
  unfold callC at h
  dsimp only at h
  split at h
  · exact absurd h hO.bad
  · rename_i imps himp
    split at h
    · exact absurd h hO.bad
    · rename_i args' hargs
      split at h
      · rename_i hb
        simp only [Bool.and_eq_true, List.all_eq_true, Nat.ble_eq] at hb
        obtain ⟨⟨h1, h2⟩, h3⟩ := hb
        obtain ⟨r, hr, h⟩ := hO.call _ _ _ _ h
        split at h
        · rename_i hq
          simp only [Bool.and_eq_true] at hq
          obtain ⟨⟨q1, q2⟩, q3⟩ := hq
          have hnd := nodupB_ok (by
            simp only [namesB, Bool.and_eq_true] at q1
            exact q1.1.1)
          exact ⟨_, imps, args', r, nodupB_ok h1, impsC_ok D himp, by rw [D.verf]; exact hargs, h2, h3, hr, namesB_ok q1, by rw [verInC_eq D]; exact q3, D.ret hnd q2, h⟩
        · exact absurd h hO.bad
      · exact absurd h hO.bad

theorem ev_ok (hO : Sound P ρ O N good) {α : Type} : ∀ (m : AE α) {c : CS} {s : St} {K : α → CS → ρ}, Den c s → good (ev O m c K) → awp P m.lower s fun a s' => ∃ c', Den c' s' ∧ good (K a c') := by
  intro m
  induction m with
  | pure a => intro c s K D h; exact ⟨c, D, h⟩
  | fail => intro c s K D h; exact absurd h hO.bad
  | get k f ih =>
    intro c s K D h
    simp only [ev] at h
    split at h
    · rename_i v n hv
      simp only [AE.lower, awp]
      have h1 : s.val k = v := D.val k v (by simp only [valC, hv])
      have h2 : s.ver k = n := by rw [D.ver]; simp only [verC, hv]
      rw [h1, h2]
      exact ih v n D h
    · exact absurd h hO.bad
  | set k v m ih => intro c s K D h; exact ih (D.set k v) h
  | mod k v m ih => intro c s K D h; exact ih (D.mod k v) h
  | call f args d m ih =>
    intro c s K D h
    simp only [ev] at h
    split at h
    · exact absurd h hO.bad
    · rename_i d
      obtain ⟨L, imps, args', r, h1, h2, h3, h4, h5, h6, h7, h8, h9, h10⟩ := callC_ok hO D h
      exact ⟨d, L, imps, args', r, rfl, h1, h2, h3, h4, h6, h7, h8, ih h9 h10⟩
  | opt m f ih =>
    intro c s K D h
    obtain ⟨b, h1, h2⟩ := hO.opt _ _ h
    simp only [AE.lower, h1]
    exact ih b D h2
  | br b x y ih1 ih2 =>
    intro c s K D h
    cases b
    · exact ih2 () D h
    · exact ih1 () D h

theorem evF_ok (hO : Sound P ρ O N good) : ∀ (m : AE Unit) {c : CS} {s : St} {R W : List Nat} {K : CS → List Nat → List Nat → ρ}, Den c s → good (evF O m c R W K) → FK P m.lower s R W fun s' R' W' => ∃ c', Den c' s' ∧ good (K c' R' W') := by
  intro m
  induction m with
  | pure a => intro c s R W K D h; exact ⟨c, D, h⟩
  | fail => intro c s R W K D h; exact absurd h hO.bad
  | get k f ih =>
    intro c s R W K D h
    simp only [evF] at h
    split at h
    · rename_i v n hv
      simp only [AE.lower, FK]
      have h1 : s.val k = v := D.val k v (by simp only [valC, hv])
      have h2 : s.ver k = n := by rw [D.ver]; simp only [verC, hv]
      rw [h1, h2]
      exact ih v n D h
    · exact absurd h hO.bad
  | set k v m ih => intro c s R W K D h; exact ih (D.set k v) h
  | mod k v m ih => intro c s R W K D h; exact ih (D.mod k v) h
  | call f args d m ih =>
    intro c s R W K D h
    simp only [evF] at h
    split at h
    · exact absurd h hO.bad
    · rename_i d
      obtain ⟨L, imps, args', r, h1, h2, h3, h4, h5, h6, h7, h8, h9, h10⟩ := callC_ok hO D h
      exact ⟨d, L, imps, args', r, rfl, h1, h2, h3, h4, h5, h6, h7, h8, ih h9 h10⟩
  | opt m f ih =>
    intro c s R W K D h
    obtain ⟨b, h1, h2⟩ := hO.opt _ _ h
    simp only [AE.lower, h1]
    exact ih b D h2
  | br b x y ih1 ih2 =>
    intro c s R W K D h
    cases b
    · exact ih2 () D h
    · exact ih1 () D h

theorem FK_mono : ∀ {m : AM Unit} {s : St} {R W : List Nat} {K K' : St → List Nat → List Nat → Prop}, FK P m s R W K → (∀ s R W, K s R W → K' s R W) → FK P m s R W K' := by
  intro m
  induction m with
  | pure a => intro s R W K K' h hk; exact hk _ _ _ h
  | fail => intro s R W K K' h hk; exact h
  | get k f ih => intro s R W K K' h hk; exact ih _ _ h hk
  | set k v m ih => intro s R W K K' h hk; exact ih h hk
  | mod k v m ih => intro s R W K K' h hk; exact ih h hk
  | call f args d m ih =>
    intro s R W K K' h hk
    obtain ⟨d0, L, imps, args', r, h1, h2, h3, h4, h5, h6, h7, h8, h9, h10⟩ := h
    exact ⟨d0, L, imps, args', r, h1, h2, h3, h4, h5, h6, h7, h8, h9, ih h10 hk⟩

theorem bind_pure {m : AM Unit} : (m.bind fun _ => .pure ()) = m := by
  induction m with
  | pure a => rfl
  | fail => rfl
  | get k h ih => simp only [AM.bind, ih]
  | set k v c ih => simp only [AM.bind, ih]
  | mod k v c ih => simp only [AM.bind, ih]
  | call h xs d c ih => simp only [AM.bind, ih]

theorem cK_ok (hO : Sound P ρ O N good) {ops : Array Oper} : ∀ (l : List Oper) {c : CS} {s : St} {fs : List (List Nat × List Nat)} {K : CS → List (List Nat × List Nat) → ρ}, Den c s → good (cK O P T ops l c fs K) → CK P T ops l s fs fun s' fs' => ∃ c', Den c' s' ∧ good (K c' fs')
  | [], c, s, fs, K, D, h => ⟨c, D, h⟩
  | o :: r, c, s, fs, K, D, h => by
    simp only [cK] at h
    have h1 := evF_ok hO _ D h
    rw [guardedX_low] at h1
    simp only [AE.lower, bind_pure] at h1
    simp only [CK]
    refine FK_mono h1 ?_
    rintro s' R W ⟨c', D', h'⟩
    exact cK_ok hO r D' h'

theorem evC_ok (hO : Sound P ρ O N good) (hT : TabOk P T) (hm : P.follows .mixedOrders = true) : ∀ (code : Code) {c : CS} {s : St} {ds : Dfs} {K : Exit → CS → Dfs → ρ}, codeOk N code = true → Den c s → good (evC O P T code c ds K) →
    SWp P N code s ds fun e s' ds' => ∃ c', Den c' s' ∧ good (K e c' ds') := by
  intro code
  induction code with
  | skip => intro c s ds K hc D h; exact swp_skip ⟨c, D, h⟩
  | ret => intro c s ds K hc D h; exact swp_ret ⟨c, D, h⟩
  | exit id => intro c s ds K hc D h; exact swp_exit ⟨c, D, h⟩
  | seq a b iha ihb =>
    intro c s ds K hc D h
    simp only [codeOk, Bool.and_eq_true] at hc
    refine swp_seq ((iha hc.1 D h).mono ?_)
    rintro e s' ds' ⟨c', D', h'⟩
    cases e with
    | normal => exact ihb hc.2 D' h'
    | exit id => exact ⟨c', D', h'⟩
    | ret => exact ⟨c', D', h'⟩
    | _ => exact absurd h' hO.bad
  | cond x a b iha ihb =>
    intro c s ds K hc D h
    simp only [codeOk, Bool.and_eq_true] at hc
    simp only [evC] at h
    have h1 := ev_ok hO _ D h
    rw [evalX_low] at h1
    simp only [AE.lower, awp_bind, awp] at h1
    intro C I G a' w hN R Dr
    obtain ⟨v, hv, c', D', h2⟩ := evalO_ok h1 R
    unfold condK at h2
    split at h2
    · rename_i q
      simp only [AVRel] at hv
      have hq : a'.eval x = .bool q := by generalize a'.eval x = y at hv; cases hv; rfl
      refine wp_cond hq ?_
      cases q
      · exact ihb hc.2 D' h2 C I G a' w hN R Dr
      · exact iha hc.1 D' h2 C I G a' w hN R Dr
    · exact absurd h2 hO.bad
  | block id a iha =>
    intro c s ds K hc D h
    simp only [codeOk] at hc
    refine swp_block ((iha hc D h).mono ?_)
    rintro e s' ds' ⟨c', D', h'⟩
    cases e with
    | normal => exact ⟨c', D', h'⟩
    | exit id' =>
      simp only [blockS]
      simp only [blockK] at h'
      split at h'
      · rename_i he; rw [if_pos he]; exact ⟨c', D', h'⟩
      · rename_i he; rw [if_neg he]; exact ⟨c', D', h'⟩
    | ret => exact ⟨c', D', h'⟩
    | _ => exact absurd h' hO.bad
  | region id ops draw =>
    intro c s ds K hc D h
    simp only [codeOk, Bool.and_eq_true] at hc
    cases draw with
    | false =>
      simp only [evC] at h
      have h1 := ev_ok hO _ D h
      rw [seqX_low] at h1
      simp only [AE.lower, bind_pure] at h1
      exact swp_region hT hc.1 (awp_mono P _ _ h1 fun _ _ hh => hh)
    | true =>
      simp only [evC] at h
      have h1 := cK_ok hO _ D h
      refine swp_drawn hT hm hc.1 (by simpa using hc.2) ?_
      have key : ∀ (l : List Oper) (s : St) (fs : List (List Nat × List Nat)) (K K' : St → List (List Nat × List Nat) → Prop), CK P T ops l s fs K → (∀ s fs, K s fs → K' s fs) → CK P T ops l s fs K' := by
        intro l
        induction l with
        | nil => intro s fs K K' h hk; exact hk _ _ h
        | cons o r ih => intro s fs K K' h hk; exact FK_mono h fun s' R W h' => ih _ _ _ _ h' hk
      refine key _ _ _ _ _ h1 ?_
      rintro s' fs ⟨c', D', h'⟩
      obtain ⟨b, h2, h3⟩ := hO.opt _ _ h'
      refine ⟨?_, c', D', h3⟩
      unfold guardO at h2
      split at h2
      · assumption
      · cases h2
  | loop a iha =>
    intro c s ds K hc D h
    simp only [codeOk] at hc
    exact hO.loop a _ (fun c ds K s D h => iha hc D h) c ds K s D h
  | _ => intro c s ds K hc D h; exact absurd h hO.bad

/-! ### Functions -/

def initE (k : Nat) : List AV → List (Nat × AV × Nat)
  | [] => []
  | v :: r => (k, v, 0) :: initE (k + 1) r
def initO (n : Nat) : List ObjD → List (Nat × AV × Nat)
  | [] => []
  | o :: r => (khdr n, .hdr o.e o.cells.length, 0) :: (initE (kcell n 0) o.cells ++ initO (n + 1) r)
def initC (args : List AV) (imps : List ObjD) : CS := ⟨initE 0 args ++ initO 0 imps, fun _ => 0⟩

theorem findC_initE (x : Nat) : ∀ (l : List AV) (k : Nat) {v : AV} {n : Nat}, findC x (initE k l) = some (v, n) → n = 0 ∧ k ≤ x ∧ x < k + l.length ∧ l[x - k]? = some v
  | [], k, v, n, h => by simp [initE, findC] at h
  | u :: r, k, v, n, h => by
    simp only [initE, findC] at h
    split at h
    · rename_i he
      subst he
      injection h with h
      injection h with h1 h2
      subst h1 h2
      exact ⟨rfl, Nat.le_refl _, by simp, by simp⟩
    · rename_i hne
      obtain ⟨a, b, c, d⟩ := findC_initE x r (k + 1) h
      refine ⟨a, by omega, by simp; omega, ?_⟩
      rw [show x - k = (x - (k + 1)) + 1 by omega]
      simpa using d

theorem findC_initO (x : Nat) : ∀ (l : List ObjD) (m : Nat) {v : AV} {n : Nat}, (∀ o, o ∈ l → o.cells.length ≤ 62) → findC x (initO m l) = some (v, n) → n = 0 ∧ ∃ i o, l[i]? = some o ∧ (x = khdr (m + i) ∧ v = .hdr o.e o.cells.length ∨ ∃ j, j < o.cells.length ∧ x = kcell (m + i) j ∧ o.cells[j]? = some v)
  | [], m, v, n, _, h => by simp [initO, findC] at h
  | o :: r, m, v, n, hl, h => by
    simp only [initO, findC] at h
    split at h
    · rename_i he
      injection h with h
      injection h with h1 h2
      exact ⟨h2.symm, 0, o, by simp, .inl ⟨by simpa using he, h1.symm⟩⟩
    · rw [findC_append] at h
      split at h
      · rename_i q hq
        injection h with h
        subst h
        obtain ⟨a, b, c, d⟩ := findC_initE x o.cells (kcell m 0) hq
        refine ⟨a, 0, o, by simp, .inr ⟨x - kcell m 0, by omega, ?_, d⟩⟩
        unfold kcell at b ⊢; simp; omega
      · obtain ⟨a, i, o', h1, h2⟩ := findC_initO x r (m + 1) (fun o ho => hl o (by simp [ho])) h
        refine ⟨a, i + 1, o', by simpa using h1, ?_⟩
        rw [show m + (i + 1) = m + 1 + i by omega]; exact h2

theorem den_init (args : List AV) (imps : List ObjD) (h1 : args.length ≤ 4096) (h2 : ∀ o, o ∈ imps → o.cells.length ≤ 62) : Den (initC args imps) (initSt args imps) := by
  have key : ∀ x v n, findC x (initE 0 args ++ initO 0 imps) = some (v, n) → n = 0 ∧ (initSt args imps).val x = v := by
    intro x v n h
    rw [findC_append] at h
    split at h
    · rename_i q hq
      injection h with h
      subst h
      obtain ⟨a, b, c, d⟩ := findC_initE x args 0 hq
      refine ⟨a, ?_⟩
      rw [initSt_tmp _ _ (by omega)]
      simp only [Nat.sub_zero] at d
      rw [List.getD_eq_getElem?_getD, d]; rfl
    · obtain ⟨a, i, o, h3, h4⟩ := findC_initO x imps 0 h2 h
      refine ⟨a, ?_⟩
      simp only [Nat.zero_add] at h4
      rcases h4 with ⟨rfl, rfl⟩ | ⟨j, hj, rfl, hv⟩
      · rw [initSt_hdr, h3]
      · have := h2 o (List.mem_of_getElem? h3)
        rw [initSt_cell _ _ _ (by omega), h3]
        simp only [List.getD_eq_getElem?_getD, hv, Option.getD_some]
  refine ⟨fun k => ?_, fun k v h => ?_⟩
  · show 0 = _
    unfold verC
    split
    · rename_i v n hf; exact (key _ _ _ hf).1.symm
    · rfl
  · unfold valC at h
    split at h
    · rename_i v' n hf
      injection h with h
      subst h
      exact (key _ _ _ hf).2
    · cases h

/-- A function's end. -/
def goC [F : LO] {ρ : Type} (O : Ora ρ) (T : Tab) (rs : List (ResultVar × List Nat)) (fin : AV → CS → ρ) (c : CS) : ρ := match rs with
    | [(.tmp t, zs)] => (match findC t c.es with
      | some (.own e z xs fz, _) => fin (.own e z xs fz) c
      | _ => ev O (resX1 T (.tmp t, zs) .pure) c fun x c' => fin x c')
    | rs => ev O (mapX (resX1 T) rs .pure) c fun xs c' => fin (tupA xs) c'
def finC [F : LO] {ρ : Type} (O : Ora ρ) (T : Tab) (rs : List (ResultVar × List Nat)) (fin : AV → CS → ρ) (e : Exit) (c : CS) (ds : Dfs) : ρ :=
  match ds with
  | [] => (match e with
    | .normal => goC O T rs fin c
    | .ret => goC O T rs fin c
    | _ => O.bad)
  | _ => O.bad

theorem goC_ok (hO : Sound P ρ O N good) {rs : List (ResultVar × List Nat)} {fin : AV → CS → ρ} {c : CS} {s : St} {Q : AV → St → Prop} (hfin : ∀ x c s, Den c s → good (fin x c) → Q x s) (hrs : ∀ t, rs.map (·.1) = [.tmp t] → t < N) (D : Den c s) (h : good (goC O T rs fin c)) : resWp P T N rs s Q := by
  have gen : ∀ rs : List (ResultVar × List Nat), good (ev O (mapX (resX1 T) rs .pure) c fun xs c' => fin (tupA xs) c') → resWp P T N rs s Q := by
    intro rs h
    have h1 := ev_ok hO _ D h
    rw [mapX_low (f := resX1 T) (g := resA1 T) (resX1_low T)] at h1
    refine .inr ?_
    simp only [AE.lower, awp_bind, awp] at h1
    refine awp_mono P _ _ h1 ?_
    rintro x s' ⟨c', D', h'⟩
    exact hfin _ _ _ D' h'
  cases rs with
  | nil => exact gen [] h
  | cons v rs =>
    obtain ⟨v, zs⟩ := v
    cases v with
    | cell a t => exact gen _ h
    | tmp t =>
      cases rs with
      | cons v' rs => exact gen _ h
      | nil =>
        simp only [goC] at h
        split at h
        · rename_i e' z xs fz n hf
          have hv : s.val t = .own e' z xs fz := D.val t _ (by simp only [valC, hf])
          exact .inl ⟨t, rfl, hrs t rfl, by rw [hv]; rfl, by rw [hv]; exact hfin _ _ _ D h⟩
        · have h1 := ev_ok hO _ D h
          rw [resX1_low] at h1
          refine .inr ?_
          simp only [mapA, awp_bind, awp] at h1 ⊢
          simp only [AE.lower, awp] at h1
          refine awp_mono P _ _ h1 ?_
          rintro x s' ⟨c', D', h'⟩
          exact hfin _ _ _ D' h'

theorem finC_ok (hO : Sound P ρ O N good) {rs : List (ResultVar × List Nat)} {fin : AV → CS → ρ} {e : Exit} {c : CS} {ds : Dfs} {s : St} {Q : AV → St → Prop} (hfin : ∀ x c s, Den c s → good (fin x c) → Q x s) (hrs : ∀ t, rs.map (·.1) = [.tmp t] → t < N) (D : Den c s) (h : good (finC O T rs fin e c ds)) :
    (e = .normal ∨ e = .ret) ∧ ds = [] ∧ resWp P T N rs s Q := by
  cases ds with
  | cons _ _ => exact absurd h hO.bad
  | nil =>
    cases e with
    | normal => exact ⟨.inl rfl, rfl, goC_ok hO hfin hrs D h⟩
    | ret => exact ⟨.inr rfl, rfl, goC_ok hO hfin hrs D h⟩
    | _ => exact absurd h hO.bad

def resOk (N : Nat) : List ResultVar → Bool
  | [.tmp t] => Nat.blt t N
  | _ => true

/-- A function's contract, from its evaluation. -/
theorem semCall_of_ev {f : FuncId} {fn : Func} {code : Code} {args : List AV} {imps : List ObjD} {r : CRes} (hO : Sound P ρ O fn.ntmps good) (hT : TabOk P T) (hm : P.follows .mixedOrders = true)
    (hf : P.funcs[f]? = some fn) (hb : fn.body = some code) (hn : (fn.name == "runtime.NumGoroutine") = false) (hN : args.length ≤ fn.ntmps) (h4 : fn.ntmps ≤ 4096) (hi : ∀ o, o ∈ imps → o.cells.length ≤ 62)
    (hc : codeOk fn.ntmps code = true) (hr : resOk fn.ntmps fn.results.toList = true) {fin : AV → CS → ρ} (hfin : ∀ x c s, Den c s → good (fin x c) → ∃ NL objs, Leaving imps s x r NL objs)
    (h : good (evC O P T code (initC args imps) [] (finC O T (tagT T fn.results.toList fn.resultTypes.toList) fin))) : SemCall P f args imps r := by
  refine semCall_of_swp hT hf hb hn hN h4 ?_
  refine (evC_ok hO hT hm code hc (den_init args imps (by omega) hi) h).mono ?_
  rintro e s' ds' ⟨c', D', h'⟩
  refine finC_ok hO hfin ?_ D' h'
  intro t ht
  rw [tagT_fst] at ht
  rw [ht] at hr
  simpa [resOk, Nat.blt_eq] using hr

end
end Go.Proofs.YtkjglhamlnnboaaDoor.Am
