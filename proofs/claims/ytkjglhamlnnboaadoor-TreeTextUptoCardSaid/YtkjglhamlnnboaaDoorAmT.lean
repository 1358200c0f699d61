/-
  THE ABSTRACT MACHINE, part T: the evaluator: states as lists, questions handed to whoever asks.
-/
import Derived.Test.YtkjglhamlnnboaaDoorAmS
set_option linter.unusedVariables false
set_option linter.unusedSimpArgs false
namespace Go.Proofs.YtkjglhamlnnboaaDoor.Am
open Go Go.RowKit
attribute [local semireducible] kcell khdr

/-- A state as it is known: places, what they hold, their version; of the others the version. -/
structure CS where
  es : List (Nat × AV × Nat)
  bs : Nat → Nat

def findC (k : Nat) : List (Nat × AV × Nat) → Option (AV × Nat)
  | [] => none
  | (k', v, n) :: r => if k = k' then some (v, n) else findC k r

def setE (bs : Nat → Nat) (k : Nat) (v : AV) : List (Nat × AV × Nat) → List (Nat × AV × Nat)
  | [] => [(k, v, bs k + 1)]
  | (k', v', n) :: r => if k = k' then (k', v, n + 1) :: r else (k', v', n) :: setE bs k v r

def modE (bs : Nat → Nat) (k : Nat) (v : AV) : List (Nat × AV × Nat) → List (Nat × AV × Nat)
  | [] => [(k, v, bs k)]
  | (k', v', n) :: r => if k = k' then (k', v, n) :: r else (k', v', n) :: modE bs k v r

def verC (c : CS) (k : Nat) : Nat := match findC k c.es with
  | some (_, n) => n
  | none => c.bs k
def valC (c : CS) (k : Nat) : Option AV := match findC k c.es with
  | some (v, _) => some v
  | none => none

structure Den (c : CS) (s : St) : Prop where
  ver : ∀ k, s.ver k = verC c k
  val : ∀ k v, valC c k = some v → s.val k = v

theorem findC_set (bs : Nat → Nat) (k : Nat) (v : AV) (x : Nat) : ∀ es, findC x (setE bs k v es) = if x = k then some (v, (match findC k es with | some (_, n) => n | none => bs k) + 1) else findC x es
  | [] => by simp only [setE, findC]
  | (k', v', n) :: r => by
    simp only [setE]
    by_cases h : k = k'
    · subst h
      simp only [if_true, findC]
      by_cases hx : x = k <;> simp [hx]
    · simp only [h, if_false, findC, findC_set bs k v x r]
      by_cases hx : x = k
      · subst hx; simp [h]
      · simp [hx]

theorem findC_mod (bs : Nat → Nat) (k : Nat) (v : AV) (x : Nat) : ∀ es, findC x (modE bs k v es) = if x = k then some (v, (match findC k es with | some (_, n) => n | none => bs k)) else findC x es
  | [] => by simp only [modE, findC]
  | (k', v', n) :: r => by
    simp only [modE]
    by_cases h : k = k'
    · subst h
      simp only [if_true, findC]
      by_cases hx : x = k <;> simp [hx]
    · simp only [h, if_false, findC, findC_mod bs k v x r]
      by_cases hx : x = k
      · subst hx; simp [h]
      · simp [hx]

theorem Den.set {c : CS} {s : St} (D : Den c s) (k : Nat) (v : AV) : Den ⟨setE c.bs k v c.es, c.bs⟩ (s.set k v) := by
  refine ⟨fun x => ?_, fun x u h => ?_⟩
  · simp only [St.set_ver, verC, findC_set]
    by_cases hx : x = k
    · subst hx; simp only [if_true, D.ver, verC]
    · simp only [hx, if_false]; exact D.ver x
  · simp only [St.set_val, valC, findC_set] at h ⊢
    by_cases hx : x = k
    · subst hx; simp only [if_true] at h ⊢; injection h
    · simp only [hx, if_false] at h ⊢; exact D.val x u h

theorem Den.mod {c : CS} {s : St} (D : Den c s) (k : Nat) (v : AV) : Den ⟨modE c.bs k v c.es, c.bs⟩ (s.mod k v) := by
  refine ⟨fun x => ?_, fun x u h => ?_⟩
  · simp only [St.mod_ver, verC, findC_mod]
    by_cases hx : x = k
    · subst hx; simp only [if_true, D.ver, verC]
    · simp only [hx, if_false]; exact D.ver x
  · simp only [St.mod_val, valC, findC_mod] at h ⊢
    by_cases hx : x = k
    · subst hx; simp only [if_true] at h ⊢; injection h
    · simp only [hx, if_false] at h ⊢; exact D.val x u h

/-! ### Calls -/

def nodupB : List Nat → Bool
  | [] => true
  | n :: r => !(r.contains n) && nodupB r
theorem nodupB_ok : ∀ {l : List Nat}, nodupB l = true → l.Nodup
  | [], _ => by simp
  | n :: r, h => by
    simp only [nodupB, Bool.and_eq_true, Bool.not_eq_true', List.contains_eq_mem, decide_eq_false_iff_not] at h
    exact List.nodup_cons.2 ⟨h.1, nodupB_ok h.2⟩

def cellsC (c : CS) (n : Nat) : Nat → Nat → Option (List AV)
  | _, 0 => some []
  | j, z + 1 => match findC (kcell n j) c.es with
    | some (v, _) => (match cellsC c n (j + 1) z with
      | some r => some (v :: r)
      | none => none)
    | none => none

theorem cellsC_ok {c : CS} {s : St} (D : Den c s) (n : Nat) : ∀ (z j : Nat) {r : List AV}, cellsC c n j z = some r → (List.range z).map (fun i => s.val (kcell n (j + i))) = r
  | 0, j, r, h => by simp only [cellsC] at h; injection h with h
  | z + 1, j, r, h => by
    simp only [cellsC] at h
    split at h
    · rename_i v m hv
      split at h
      · rename_i r' hr
        injection h with h
        subst h
        have h1 := cellsC_ok D n z (j + 1) hr
        rw [List.range_succ_eq_map, List.map_cons, List.map_map]
        congr 1
        · exact D.val _ _ (by simp only [valC, Nat.add_zero, hv])
        · rw [← h1]
          apply List.map_congr_left
          intro i _
          simp only [Function.comp, show j + (i + 1) = j + 1 + i by omega]
      · cases h
    · cases h

theorem cellsC_of {c : CS} {s : St} (D : Den c s) {n z : Nat} {r : List AV} (h : cellsC c n 0 z = some r) : cellsOf s n z = r := by
  have := cellsC_ok D n z 0 h
  simpa [cellsOf] using this

def impC (c : CS) (L : List Nat) (n : Nat) : Option ObjD := match findC (khdr n) c.es with
  | some (.hdr e z, _) => (match cellsC c n 0 z with
    | some cs => (match renAs L (verC c) cs with
      | some cs => some ⟨e, cs⟩
      | none => none)
    | none => none)
  | _ => none
def impsC (c : CS) (L : List Nat) : List Nat → Option (List ObjD)
  | [] => some []
  | n :: r => match impC c L n with
    | some x => (match impsC c L r with
      | some xs => some (x :: xs)
      | none => none)
    | none => none

theorem Den.verf {c : CS} {s : St} (D : Den c s) : s.ver = verC c := funext D.ver

theorem impC_ok {c : CS} {s : St} (D : Den c s) {L : List Nat} {n : Nat} {o : ObjD} (h : impC c L n = some o) : impOf s L n = some o := by
  unfold impC at h
  split at h
  · rename_i e z m hv
    split at h
    · rename_i cs hcs
      split at h
      · rename_i cs' hr
        injection h with h
        subst h
        have h1 : s.val (khdr n) = .hdr e z := D.val _ _ (by simp only [valC, hv])
        unfold impOf
        rw [h1]
        simp only [cellsC_of D hcs, D.verf, hr, Option.map_some]
      · cases h
    · cases h
  · cases h

theorem impsC_ok {c : CS} {s : St} (D : Den c s) {L : List Nat} : ∀ {ns : List Nat} {os : List ObjD}, impsC c L ns = some os → impsOf s L ns = some os
  | [], os, h => by simpa only [impsC, impsOf] using h
  | n :: r, os, h => by
    simp only [impsC] at h
    split at h
    · rename_i x hx
      split at h
      · rename_i xs hxs
        injection h with h
        subst h
        simp only [impsOf, impC_ok D hx, impsC_ok D hxs]
      · cases h
    · cases h

/-- All objects that are come to, each once. -/
def reachC (c : CS) : Nat → List Nat → List Nat → List Nat
  | 0, L, _ => L
  | _, L, [] => L
  | k + 1, L, n :: todo => if L.contains n then reachC c k L todo else match findC (khdr n) c.es with
    | some (.hdr _ z, _) => (match cellsC c n 0 z with
      | some cs => reachC c k (L ++ [n]) (todo ++ namesL cs)
      | none => L)
    | _ => L

def verInC (c : CS) (NL : List Nat) (k : Nat) : Nat := if NL.any (fun n => khdr n == k) then verC c k + 1 else verC c k
theorem verInC_eq {c : CS} {s : St} (D : Den c s) (NL : List Nat) : verIn s NL = verInC c NL := by
  funext k
  unfold verIn verInC
  rw [D.ver]
  have : (NL.any fun n => khdr n == k) = NL.any fun n => decide (khdr n = k) := by
    congr 1
  rw [this]

def namesB (L NL : List Nat) (r : CRes) : Bool := nodupB (L ++ NL) && Nat.ble r.outs.length L.length && r.news.all (fun o => Nat.ble o.cells.length 62)
theorem namesB_ok {L : List Nat} {d : Nat} {r : CRes} (h : namesB L (newNames d r.news.length) r = true) : namesOk L d r = true := by
  simp only [namesB, Bool.and_eq_true, Nat.ble_eq, List.all_eq_true] at h
  simp only [namesOk, Bool.and_eq_true, decide_eq_true_eq, List.all_eq_true]
  exact ⟨⟨nodupB_ok h.1.1, h.1.2⟩, h.2⟩

/-- One place behind a call. -/
def retE (c : CS) (LL NL : List Nat) (nimp d : Nat) (r : CRes) (k : Nat) (v : AV) (n : Nat) : Nat × AV × Nat := match retVal LL nimp d r k with
  | some u => (k, (backH LL (verInC c NL) u).getD .junk, n + 1)
  | none => (k, v, n)
def retMap (c : CS) (LL NL : List Nat) (nimp d : Nat) (r : CRes) : List (Nat × AV × Nat) → List (Nat × AV × Nat)
  | [] => []
  | (k, v, n) :: q => retE c LL NL nimp d r k v n :: retMap c LL NL nimp d r q
/-- Places that were not known ahead. -/
def retNew (c : CS) (LL NL : List Nat) (nimp d : Nat) (r : CRes) : List Nat → List (Nat × AV × Nat)
  | [] => []
  | k :: q => match findC k c.es with
    | some _ => retNew c LL NL nimp d r q
    | none => match retVal LL nimp d r k with
      | some u => (k, (backH LL (verInC c NL) u).getD .junk, c.bs k + 1) :: retNew c LL NL nimp d r q
      | none => retNew c LL NL nimp d r q
def keysOf (n : Nat) (o : ObjD) : List Nat := khdr n :: (List.range o.cells.length).map fun j => kcell n j
def keysNew : List Nat → List ObjD → List Nat
  | n :: ns, o :: os => keysOf n o ++ keysNew ns os
  | _, _ => []

def retBs (c : CS) (LL : List Nat) (nimp d : Nat) (r : CRes) (news : List ObjD) : Nat → Nat := match news with
    | [] => c.bs
    | _ :: _ => fun k => match retVal LL nimp d r k with
      | some _ => c.bs k + 1
      | none => c.bs k
def retC (c : CS) (L : List Nat) (d : Nat) (r : CRes) : CS :=
  let NL := newNames d r.news.length
  let LL := L ++ NL
  ⟨retMap c LL NL L.length d r c.es ++ retNew c LL NL L.length d r (d :: keysNew NL r.news), retBs c LL L.length d r r.news⟩

theorem findC_append (k : Nat) : ∀ (a b : List (Nat × AV × Nat)), findC k (a ++ b) = match findC k a with | some x => some x | none => findC k b
  | [], b => rfl
  | (k', v, n) :: a, b => by
    simp only [List.cons_append, findC]
    split
    · rfl
    · exact findC_append k a b

theorem findC_retMap {c : CS} {LL NL : List Nat} {nimp d : Nat} {r : CRes} (k : Nat) : ∀ es, findC k (retMap c LL NL nimp d r es) = match findC k es with
    | some (v, n) => some ((retE c LL NL nimp d r k v n).2)
    | none => none
  | [] => rfl
  | (k', v, n) :: q => by
    simp only [retMap, findC]
    have h1 : (retE c LL NL nimp d r k' v n) = (k', (retE c LL NL nimp d r k' v n).2) := by
      unfold retE; split <;> rfl
    rw [h1]
    by_cases h : k = k'
    · subst h; simp [findC]
    · simp only [findC, h, if_false, findC_retMap k q]

theorem findC_retNew {c : CS} {LL NL : List Nat} {nimp d : Nat} {r : CRes} (k : Nat) : ∀ ks {x : AV × Nat}, findC k (retNew c LL NL nimp d r ks) = some x → findC k c.es = none ∧ ∃ u, retVal LL nimp d r k = some u ∧ x = ((backH LL (verInC c NL) u).getD .junk, c.bs k + 1)
  | [], x, h => by simp [retNew, findC] at h
  | k' :: q, x, h => by
    simp only [retNew] at h
    split at h
    · exact findC_retNew k q h
    · rename_i hk
      split at h
      · rename_i u hu
        simp only [findC] at h
        split at h
        · rename_i he
          subst he
          injection h with h
          exact ⟨hk, u, hu, h.symm⟩
        · exact findC_retNew k q h
      · exact findC_retNew k q h

theorem retVal_nonews {LL : List Nat} {nimp d : Nat} {r : CRes} {k : Nat} (hn : r.news = []) (hl : LL.length = nimp) (hL : LL.Nodup) (h : retVal LL nimp d r k ≠ none) : k = d ∨ ∃ i n, LL[i]? = some n ∧ k = kcell n ((k - 4096) % 64) ∧ (outAt r i ((k - 4096) % 64)).isSome := by
  unfold retVal at h
  by_cases hd : k = d
  · exact .inl hd
  · right
    simp only [hd, if_false] at h
    by_cases h4 : k < 4096
    · simp [h4] at h
    · simp only [h4, if_false] at h
      split at h
      · exact absurd rfl h
      · rename_i i hi
        split at h
        · split at h
          · exact absurd rfl h
          · rename_i h63
            refine ⟨i, _, idx_some hi, ?_, ?_⟩
            · unfold kcell; omega
            · cases ho : outAt r i ((k - 4096) % 64) with
              | none => exact absurd ho h
              | some _ => rfl
        · rw [hn] at h; simp at h

/-- All that is written of the objects that were handed in is known. -/
def outsKnown (c : CS) (r : CRes) : Nat → List Nat → Bool
  | _, [] => true
  | i, n :: L => ((List.range 63).all fun j => match outAt r i j with
      | some _ => (findC (kcell n j) c.es).isSome
      | none => true) && outsKnown c r (i + 1) L

theorem outsKnown_get {c : CS} {r : CRes} : ∀ {L : List Nat} {i0 i n j : Nat}, outsKnown c r i0 L = true → L[i]? = some n → j < 63 → (outAt r (i0 + i) j).isSome = true → (findC (kcell n j) c.es).isSome = true
  | [], i0, i, n, j, h, hi, hj, ho => by simp at hi
  | m :: L, i0, i, n, j, h, hi, hj, ho => by
    simp only [outsKnown, Bool.and_eq_true, List.all_eq_true] at h
    cases i with
    | zero =>
      simp at hi
      subst hi
      have := h.1 j (by simpa using hj)
      simp only [Nat.add_zero] at ho
      cases hq : outAt r i0 j with
      | none => rw [hq] at ho; cases ho
      | some v => simpa [hq] using this
    | succ i => exact outsKnown_get h.2 (by simpa using hi) hj (by rw [show i0 + 1 + i = i0 + (i + 1) by omega]; exact ho)

theorem Den.ret {c : CS} {s : St} (D : Den c s) {L : List Nat} {d : Nat} {r : CRes} (hnd : (L ++ newNames d r.news.length).Nodup) (hk : outsKnown c r 0 L = true) : Den (retC c L d r) (retInto s L d r) := by
  have hver : verIn s (newNames d r.news.length) = verInC c (newNames d r.news.length) := verInC_eq D _
  have key : ∀ k, findC k (retC c L d r).es = match findC k c.es with
      | some (v, n) => some ((retE c (L ++ newNames d r.news.length) (newNames d r.news.length) L.length d r k v n).2)
      | none => findC k (retNew c (L ++ newNames d r.news.length) (newNames d r.news.length) L.length d r (d :: keysNew (newNames d r.news.length) r.news)) := by
    intro k
    simp only [retC, findC_append, findC_retMap]
    cases findC k c.es with
    | none => rfl
    | some x => rfl
  refine ⟨fun k => ?_, fun k v h => ?_⟩
  · have hR : (retInto s L d r).ver k = match retVal (L ++ newNames d r.news.length) L.length d r k with | some _ => s.ver k + 1 | none => s.ver k := rfl
    rw [hR, D.ver]
    simp only [verC, key]
    cases hf : findC k c.es with
    | some x =>
      obtain ⟨v, n⟩ := x
      simp only [retE]
      cases retVal (L ++ newNames d r.news.length) L.length d r k <;> rfl
    | none =>
      simp only
      cases hg : findC k (retNew c (L ++ newNames d r.news.length) (newNames d r.news.length) L.length d r (d :: keysNew (newNames d r.news.length) r.news)) with
      | some x =>
        obtain ⟨_, u, hu, rfl⟩ := findC_retNew k _ hg
        simp only [hu]
      | none =>
        simp only
        by_cases hne : r.news = []
        · have hb : (retC c L d r).bs = c.bs := by simp only [retC, hne, retBs]
          rw [hb]
          cases hv : retVal (L ++ newNames d r.news.length) L.length d r k with
          | none => rfl
          | some u =>
            exfalso
            have hNL : newNames d r.news.length = [] := by simp [newNames, hne]
            rw [hNL, List.append_nil] at hv hnd
            rcases retVal_nonews hne rfl hnd (by rw [hv]; simp) with rfl | ⟨i, n, hi, hkk, ho⟩
            · simp only [retNew, hf, hNL, List.append_nil, hv, findC, if_true] at hg
              cases hg
            · have := outsKnown_get hk hi (j := (k - 4096) % 64) (by
                have : (k - 4096) % 64 < 64 := Nat.mod_lt _ (by decide)
                rcases Nat.lt_or_ge ((k - 4096) % 64) 63 with h | h
                · exact h
                · exfalso
                  have h63 : (k - 4096) % 64 = 63 := by omega
                  unfold retVal at hv
                  have hge := kcell_ge n ((k - 4096) % 64)
                  have hi' : L.idxOf? ((k - 4096) / 64) = some i ∨ True := .inr trivial
                  by_cases hd : k = d
                  · subst hd
                    have hr0 : retVal L L.length k r k = some r.ret := by simp [retVal]
                    simp only [retNew, hf, hNL, List.append_nil, hr0, findC, if_true] at hg
                    cases hg
                  · simp only [hd, if_false, show ¬ k < 4096 by omega, h63, if_true] at hv
                    split at hv
                    · cases hv
                    · split at hv
                      · cases hv
                      · rw [hne] at hv; simp at hv) (by simpa using ho)
              rw [← hkk, hf] at this
              cases this
        · have hb : (retC c L d r).bs k = match retVal (L ++ newNames d r.news.length) L.length d r k with | some _ => c.bs k + 1 | none => c.bs k := by
            have hq : ∀ (LL : List Nat) (news : List ObjD), news ≠ [] → retBs c LL L.length d r news k = match retVal LL L.length d r k with | some _ => c.bs k + 1 | none => c.bs k := by
              intro LL news hn
              cases news with
              | nil => exact absurd rfl hn
              | cons o os => rfl
            exact hq _ _ hne
          rw [hb]
  · have hR : (retInto s L d r).val k = match retVal (L ++ newNames d r.news.length) L.length d r k with | some v => (backH (L ++ newNames d r.news.length) (verIn s (newNames d r.news.length)) v).getD .junk | none => s.val k := rfl
    rw [hR, hver]
    simp only [valC, key] at h
    cases hf : findC k c.es with
    | some x =>
      obtain ⟨u, n⟩ := x
      simp only [hf, retE] at h
      cases hv : retVal (L ++ newNames d r.news.length) L.length d r k with
      | some w => simp only [hv] at h ⊢; injection h
      | none =>
        simp only [hv] at h ⊢
        injection h with h
        subst h
        exact D.val k u (by simp only [valC, hf])
    | none =>
      simp only [hf] at h
      cases hg : findC k (retNew c (L ++ newNames d r.news.length) (newNames d r.news.length) L.length d r (d :: keysNew (newNames d r.news.length) r.news)) with
      | none => rw [hg] at h; cases h
      | some x =>
        obtain ⟨_, u, hu, rfl⟩ := findC_retNew k _ hg
        rw [hg] at h
        simp only [hu]
        injection h

end Go.Proofs.YtkjglhamlnnboaaDoor.Am
