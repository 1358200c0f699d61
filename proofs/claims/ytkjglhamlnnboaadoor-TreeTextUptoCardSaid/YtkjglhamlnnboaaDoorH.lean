/-
  Contracts: statements' texts, whole.
-/
import Derived.Test.YtkjglhamlnnboaaDoorG
set_option linter.unusedVariables false
set_option linter.unusedSimpArgs false
namespace Go.Proofs.YtkjglhamlnnboaaDoor.Am
open Go Go.Proofs Go.RowKit
attribute [local semireducible] kcell khdr

inductive Sm where
  | mk (k : Int) (nm : ByteArray) (es : List Ex) (cnt : Int) (bd el : List Sm) (a : Int) : Sm
mutual
def smC : Sm → List PV
  | .mk k nm es cnt bd el a => smC' k nm (exCs es) cnt (smCs bd) (smCs el) a
def smCs : List Sm → List (List PV)
  | [] => []
  | s :: r => smC s :: smCs r
end
def valT (es : List Ex) (i : Nat) : ByteArray := match es[i]? with
  | some e => exT e 0
  | none => sb [63]
mutual
def smT : Sm → Nat → List UInt8
  | .mk k nm es cnt bd el a, d => stT d k nm (itoaS cnt) (valT es 0) (valT es 1) (smTs bd (d + 1)) (smTs el (d + 1)) (!el.isEmpty)
def smTs : List Sm → Nat → List UInt8
  | [], d => []
  | s :: r, d => smT s d ++ smTs r d
end
mutual
def smD : Sm → Nat
  | .mk k nm es cnt bd el a => 1 + smDs bd + smDs el
def smDs : List Sm → Nat
  | [] => 0
  | s :: r => smD s + smDs r
end
/-- What an expression needs. -/
def ExOk (e : Ex) : Prop := (∀ v, v ∈ exL e → SemCall P04 17 [vu v, vi 10] [] (one (.v (.string (itoaS v))))) ∧ exN e ≤ 1152921504606846976
mutual
def SmOk : Sm → Prop
  | .mk k nm es cnt bd el a => (∀ e, e ∈ es → ExOk e) ∧ (-9223372036854775808 ≤ cnt ∧ cnt ≤ 9223372036854775807) ∧ SmsOk bd ∧ SmsOk el
def SmsOk : List Sm → Prop
  | [] => True
  | s :: r => SmOk s ∧ SmsOk r
end

theorem smCs_get : ∀ (l : List Sm) (j : Nat), (smCs l)[j]? = l[j]?.map smC
  | [], j => by simp [smCs]
  | e :: r, 0 => by simp [smCs]
  | e :: r, j + 1 => by simpa [smCs] using smCs_get r j
theorem smCs_len : ∀ (l : List Sm), (smCs l).length = l.length
  | [] => rfl
  | e :: r => by simp [smCs, smCs_len r]
theorem SmsOk_mem : ∀ {l : List Sm} {s : Sm}, SmsOk l → s ∈ l → SmOk s
  | x :: r, s, h, hs => by
    simp only [SmsOk] at h
    rcases List.mem_cons.1 hs with rfl | hs
    · exact h.1
    · exact SmsOk_mem h.2 hs
theorem smDs_mem : ∀ {l : List Sm} {s : Sm}, s ∈ l → smD s ≤ smDs l
  | x :: r, s, hs => by
    rcases List.mem_cons.1 hs with rfl | hs
    · simp [smDs]
    · have := smDs_mem hs
      simp only [smDs]; omega
theorem smTs_catF (d : Nat) : ∀ (l : List Sm), smTs l d = catF (fun j => match l[j]? with | some s => smT s d | none => []) l.length
  | [] => rfl
  | s :: r => by
    rw [smTs, smTs_catF d r]
    unfold catF
    rw [List.length_cons, List.range_succ_eq_map, List.flatMap_cons, List.flatMap_map]
    simp

theorem val_sem (k : Int) (nm : ByteArray) (es : List Ex) (cnt : Int) (bd el : List (List PV)) (a : Int) (i : Nat) (hes : ∀ e, e ∈ es → ExOk e) :
    SemCall P04 33 [.p (.agg (smC' k nm (exCs es) cnt bd el a)), vi (zn i)] [] (one (.v (.string (valT es i)))) := by
  unfold valT
  cases hx : es[i]? with
  | none =>
    have := List.getElem?_eq_none_iff.1 hx
    exact val_none _ _ _ _ _ _ _ _ (by rw [zn_eq, zn_eq, exCs_len]; omega)
  | some x =>
    obtain ⟨h1, h2⟩ := hes x (List.mem_of_getElem? hx)
    have hs := expr_sem _ x (Nat.le_refl _) h1 h2 0
    obtain ⟨k1, op1, nm1, v1, ks1, a1⟩ := x
    refine val_some k nm (exCs es) cnt bd el a (zn i) i rfl k1 op1 nm1 v1 (exCs ks1) a1 (by rw [exCs_get, hx]; simp [exC]) _ ?_
    simpa only [exC] using hs

theorem stmt_any (k : Int) (nm : ByteArray) (er : List (List PV)) (cnt : Int) (br lr : List (List PV)) (a : Int) (cs v0 v1 : ByteArray) (bt et : List UInt8) (he : Bool) (d : Nat) (l : List UInt8)
    (hd : d ≤ 1000) (hv0 : SemCall P04 33 [.p (.agg (smC' k nm er cnt br lr a)), vi 0] [] (one (.v (.string v0)))) (hv1 : SemCall P04 33 [.p (.agg (smC' k nm er cnt br lr a)), vi 1] [] (one (.v (.string v1))))
    (hc : SemCall P04 23 [vi cnt] [] (one (.v (.string cs))))
    (hb : ∀ n, n = zn d + 1 → ∀ l : List UInt8, (l ++ bt).length ≤ 140737488355328 → SemCall P04 12 [.ptr 0 0 0, .p (.sl 7 br), vi n] (bldO (bRows l)) (bldR (bRows (l ++ bt))))
    (hel : ∀ n, n = zn d + 1 → ∀ l : List UInt8, (l ++ et).length ≤ 140737488355328 → SemCall P04 12 [.ptr 0 0 0, .p (.sl 7 lr), vi n] (bldO (bRows l)) (bldR (bRows (l ++ et))))
    (hhe : he = decide (lr ≠ []))
    (hr : (l ++ stT d k nm cs v0 v1 bt et he).length ≤ 140737488355328) :
    SemCall P04 24 [.ptr 0 0 0, .p (.agg (smC' k nm er cnt br lr a)), vi (zn d)] (bldO (bRows l)) (bldR (bRows (l ++ stT d k nm cs v0 v1 bt et he))) := by
  by_cases c0 : k = 0
  · exact stmt0 k nm er cnt br lr a cs v0 v1 bt et he d l hd hv0 hv1 hc hb hel hhe hr c0
  by_cases c1 : k = 1
  · exact stmt1 k nm er cnt br lr a cs v0 v1 bt et he d l hd hv0 hv1 hc hb hel hhe hr c1
  by_cases c2 : k = 2
  · exact stmt2 k nm er cnt br lr a cs v0 v1 bt et he d l hd hv0 hv1 hc hb hel hhe hr c2
  by_cases c3 : k = 3
  · exact stmt3 k nm er cnt br lr a cs v0 v1 bt et he d l hd hv0 hv1 hc hb hel hhe hr c3
  by_cases c4 : k = 4
  · exact stmt4 k nm er cnt br lr a cs v0 v1 bt et he d l hd hv0 hv1 hc hb hel hhe hr c4
  by_cases c5 : k = 5
  · exact stmt5 k nm er cnt br lr a cs v0 v1 bt et he d l hd hv0 hv1 hc hb hel hhe hr c5
  by_cases c6 : k = 6
  · exact stmt6 k nm er cnt br lr a cs v0 v1 bt et he d l hd hv0 hv1 hc hb hel hhe hr c6
  by_cases c7 : k = 7
  · exact stmt7 k nm er cnt br lr a cs v0 v1 bt et he d l hd hv0 hv1 hc hb hel hhe hr c7
  by_cases c8 : k = 8
  · exact stmt8 k nm er cnt br lr a cs v0 v1 bt et he d l hd hv0 hv1 hc hb hel hhe hr c8
  exact stmt9 k nm er cnt br lr a cs v0 v1 bt et he d l hd hv0 hv1 hc hb hel hhe hr ⟨c0, c1, c2, c3, c4, c5, c6, c7, c8⟩

theorem smD_len : ∀ (l : List Sm), l.length ≤ smDs l
  | [] => Nat.le_refl _
  | .mk k nm es cnt bd el a :: r => by have := smD_len r; simp only [smDs, smD, List.length_cons]; omega

/-- Statements' texts. -/
theorem stmts_sem : ∀ (N : Nat), (∀ (s : Sm), SizeOf.sizeOf s ≤ N → SmOk s → ∀ (d : Nat) (l : List UInt8), d + smD s ≤ 1000 → (l ++ smT s d).length ≤ 140737488355328 →
      SemCall P04 24 [.ptr 0 0 0, .p (.agg (smC s)), vi (zn d)] (bldO (bRows l)) (bldR (bRows (l ++ smT s d)))) := by
  intro N
  induction N with
  | zero => intro s h; cases s; simp at h
  | succ N ih =>
    intro s h hok d l hd hr
    obtain ⟨k, nm, es, cnt, bd, el, a⟩ := s
    simp only [SmOk] at hok
    obtain ⟨o1, ⟨o2, o3⟩, o4, o5⟩ := hok
    simp only [smD] at hd
    simp only [Sm.mk.sizeOf_spec] at h
    have hblock : ∀ (ss : List Sm), SizeOf.sizeOf ss ≤ N → SmsOk ss → d + 1 + smDs ss ≤ 1000 → ∀ n, n = zn d + 1 → ∀ l : List UInt8, (l ++ smTs ss (d + 1)).length ≤ 140737488355328 →
        SemCall P04 12 [.ptr 0 0 0, .p (.sl 7 (smCs ss)), vi n] (bldO (bRows l)) (bldR (bRows (l ++ smTs ss (d + 1)))) := by
      intro ss hss hok hdd n hn l hl
      have hn' : n = zn (d + 1) := by rw [hn, zn_eq, zn_eq]; omega
      subst hn'
      rw [smTs_catF] at hl ⊢
      have hlen := smCs_len ss
      rw [← hlen] at hl ⊢
      refine block_node (zn (d + 1)) (smCs ss) _ l ?_ hl (by have := smD_len ss; omega)
      intro j hj
      have hj2 : j < ss.length := by omega
      have hx : ss[j]? = some ss[j] := List.getElem?_eq_getElem hj2
      have hm : ss[j] ∈ ss := List.getElem_mem hj2
      have hsz := List.sizeOf_lt_of_mem hm
      have hD := smDs_mem hm
      have hs := ih ss[j] (by omega) (SmsOk_mem hok hm) (d + 1)
      generalize ss[j] = x at *
      obtain ⟨k1, nm1, es1, cnt1, bd1, el1, a1⟩ := x
      refine ⟨k1, nm1, exCs es1, cnt1, smCs bd1, smCs el1, a1, by rw [smCs_get, hx]; simp [smC], fun l hl => ?_⟩
      simp only [hx] at hl ⊢
      have := hs l (by omega) hl
      simpa only [smC] using this
    have hv0 := val_sem k nm es cnt (smCs bd) (smCs el) a 0 o1
    have hv1 := val_sem k nm es cnt (smCs bd) (smCs el) a 1 o1
    have hc := itoa_sem cnt o2 o3
    simp only [smT] at hr ⊢
    simp only [smC]
    refine stmt_any k nm (exCs es) cnt (smCs bd) (smCs el) a (itoaS cnt) (valT es 0) (valT es 1) (smTs bd (d + 1)) (smTs el (d + 1)) (!el.isEmpty) d l (by omega) hv0 hv1 hc (hblock bd (by omega) o4 (by omega)) (hblock el (by omega) o5 (by omega)) ?_ hr
    cases el <;> simp [smCs]
end Go.Proofs.YtkjglhamlnnboaaDoor.Am
