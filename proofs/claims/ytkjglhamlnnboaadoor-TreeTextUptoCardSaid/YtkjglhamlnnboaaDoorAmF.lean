/-
  THE ABSTRACT MACHINE, part F: a call is sound.
-/
import Derived.Test.YtkjglhamlnnboaaDoorAmE
set_option linter.unusedVariables false
set_option linter.unusedSimpArgs false
namespace Go.Proofs.YtkjglhamlnnboaaDoor.Am
open Go Go.RowKit

section
variable {C : Ctx} {I J : Imm} {G G' : Ghost} {s s' : St} {ts : Array Value} {w w' : World}

/-! ### The state in which a call begins -/

theorem initSt_tmp (args : List AV) (imps : List ObjD) {k : Nat} (h : k < 4096) : (initSt args imps).val k = args.getD k .junk := by simp [initSt, h]
theorem initSt_hdr (args : List AV) (imps : List ObjD) (n : Nat) : (initSt args imps).val (khdr n) = match imps[n]? with | some o => .hdr o.e o.cells.length | none => .junk := by
  have h := khdr_ge n
  obtain ⟨h1, h2⟩ := div_hdr n
  simp only [initSt, show ¬ khdr n < 4096 by omega, if_false, h1, h2, if_true]
  cases imps[n]? <;> rfl
theorem initSt_key (args : List AV) (imps : List ObjD) {k : Nat} (h : 4096 ≤ k) : (initSt args imps).val k = match imps[(k - 4096) / 64]? with
    | some o => if (k - 4096) % 64 = 63 then .hdr o.e o.cells.length else o.cells.getD ((k - 4096) % 64) .junk
    | none => .junk := by
  simp only [initSt, show ¬ k < 4096 by omega, if_false]
  cases imps[(k - 4096) / 64]? <;> rfl
theorem initSt_cell (args : List AV) (imps : List ObjD) (n : Nat) {j : Nat} (hj : j < 63) : (initSt args imps).val (kcell n j) = match imps[n]? with | some o => o.cells.getD j .junk | none => .junk := by
  rw [initSt_key _ _ (kcell_ge n j)]
  obtain ⟨h1, h2⟩ := div_cell (n := n) (j := j) (by omega)
  rw [h1, h2]
  simp only [show ¬ j = 63 by omega, if_false]

/-- The callee's names for the caller's places. -/
def kmap (L : List Nat) (k : Nat) : Nat := 4096 + (L.getD ((k - 4096) / 64) 0) * 64 + (k - 4096) % 64
def Ghost.pull (G : Ghost) (f : Nat → Nat) : Ghost := ⟨fun k => G.blk (f k), fun k => G.cap (f k), fun k => G.nil (f k)⟩

theorem kmap_hdr (L : List Nat) {i n : Nat} (h : L[i]? = some n) : kmap L (khdr i) = khdr n := by
  obtain ⟨h1, h2⟩ := div_hdr i
  simp only [kmap, h1, h2, List.getD_eq_getElem?_getD, h, Option.getD_some]
  unfold khdr; rfl
theorem kmap_cell (L : List Nat) {i n j : Nat} (h : L[i]? = some n) (hj : j < 64) : kmap L (kcell i j) = kcell n j := by
  obtain ⟨h1, h2⟩ := div_cell (n := i) hj
  simp only [kmap, h1, h2, List.getD_eq_getElem?_getD, h, Option.getD_some]
  unfold kcell; rfl

theorem key_cases {k : Nat} (h : 4096 ≤ k) : (∃ n, k = khdr n) ∨ ∃ n j, j ≤ 62 ∧ k = kcell n j := by
  by_cases h63 : (k - 4096) % 64 = 63
  · exact .inl ⟨(k - 4096) / 64, by unfold khdr; omega⟩
  · exact .inr ⟨(k - 4096) / 64, (k - 4096) % 64, by omega, by unfold kcell; omega⟩

/-- A place of the caller that was handed in. -/
def Handed (s : St) (L : List Nat) (k : Nat) : Prop := ∃ n, n ∈ L ∧ (k = khdr n ∨ ∃ j e z, j < z ∧ s.val (khdr n) = .hdr e z ∧ k = kcell n j)

open Classical in
/-- What must stay during the call. -/
noncomputable def protIn (C : Ctx) (G : Ghost) (s : St) (L : List Nat) (w : World) (b : Nat) : Option Obj :=
  if (∃ k, Live s G k ∧ ¬ Handed s L k ∧ G.blk k = b) then w.heap[b]? else C.prot b

theorem protIn_old (R : Rel C I G s ts w) (L : List Nat) {b : Nat} (h : C.prot b ≠ none) : protIn C G s L w b = C.prot b := by
  unfold protIn
  rw [if_neg]
  rintro ⟨k, h1, _, rfl⟩
  exact h (R.mine k h1).2.2

theorem protIn_live (R : Rel C I G s ts w) (L : List Nat) {k : Nat} (h : Live s G k) (hn : ¬ Handed s L k) : protIn C G s L w (G.blk k) = w.heap[G.blk k]? := by
  unfold protIn
  rw [if_pos ⟨k, h, hn, rfl⟩]

theorem protIn_none (R : Rel C I G s ts w) (L : List Nat) {b : Nat} (h : protIn C G s L w b = none) : C.prot b = none ∧ ∀ k, Live s G k → G.blk k = b → Handed s L k := by
  unfold protIn at h
  split at h
  · rename_i hk
    obtain ⟨k, h1, _, rfl⟩ := hk
    have := (R.mine k h1).2.1
    simp [Array.getElem?_eq_getElem this] at h
  · rename_i hk
    refine ⟨h, fun k h1 h2 => Classical.byContradiction fun h3 => hk ⟨k, h1, h3, h2⟩⟩

/-- What is handed in, as the callee sees it. -/
theorem Rel.callIn (R : Rel C I G s ts w) {L : List Nat} (hL : L.Nodup) {imps : List ObjD} (himps : impsOf s L L = some imps) {args args' : List AV} {vals : Array Value} (hargs : renAs L s.ver args = some args') (hr : AVRels I G s args vals.toList) (h64 : args.length ≤ 64) :
    Rel ⟨C.B, C.w0, protIn C G s L w, args'.length⟩ I (G.pull (kmap L)) (initSt args' imps) vals w := by
  obtain ⟨hil, himp⟩ := impsOf_get himps
  have hlen : args'.length = args.length := renAs_length hargs
  have hvl : vals.size = args.length := by have := hr.length; simpa using this
  have himp' : ∀ (i : Nat) (o : ObjD), imps[i]? = some o → ∃ n, L[i]? = some n ∧ impOf s L n = some o := by
    intro i o ho
    have hi : i < imps.length := (List.getElem?_eq_some_iff.1 ho).1
    have hLi : L[i]? = some L[i] := List.getElem?_eq_getElem (by omega)
    obtain ⟨o', h1, h2⟩ := himp i _ hLi
    rw [ho] at h1
    injection h1 with h1
    subst h1
    exact ⟨_, hLi, h2⟩
  have hb : ∀ (i n : Nat), L[i]? = some n → (G.pull (kmap L)).blk (khdr i) = G.blk (khdr n) := fun i n h => by simp [Ghost.pull, kmap_hdr L h]
  have hh : ∀ (i n : Nat), L[i]? = some n → (s.val (khdr n)).isHdr = true := by
    intro i n h
    obtain ⟨o, h1, h2⟩ := himp i n h
    rw [(impOf_spec h2).1]; rfl
  have hv0 : ∀ k, (initSt args' imps).ver k = 0 := fun _ => rfl
  have hargs' : AVRels I (G.pull (kmap L)) (initSt args' imps) args' vals.toList := AVRels.ren hb hh hv0 hargs hr
  -- what lies at a place
  have hkey : ∀ k, Live (initSt args' imps) (G.pull (kmap L)) k → 4096 ≤ k ∧ Live s G (kmap L k) ∧ Handed s L (kmap L k) ∧ ((initSt args' imps).val k).isHdr = (s.val (kmap L k)).isHdr ∧
      (((initSt args' imps).val k).isOwn = true → (initSt args' imps).val k = s.val (kmap L k)) := by
    intro k hk
    have hk4 : 4096 ≤ k := by
      rcases Nat.lt_or_ge k 4096 with h | h
      · exfalso
        have hlv := live_val hk
        rw [initSt_tmp _ _ h] at hlv
        by_cases hkl : k < args'.length
        · have := AVRels.get hargs' k hkl
          cases hc : args'.getD k .junk <;> rw [hc] at hlv this <;> simp_all [AVRel, AV.isHdr, AV.isOwn]
        · simp [List.getD_eq_getElem?_getD, List.getElem?_eq_none (by omega : args'.length ≤ k), AV.isHdr, AV.isOwn] at hlv
      · exact h
    rcases key_cases hk4 with ⟨n, rfl⟩ | ⟨n, j, hj, rfl⟩
    · have hlv := live_val hk
      rw [initSt_hdr] at hlv ⊢
      cases ho : imps[n]? with
      | none => simp [ho, AV.isHdr, AV.isOwn] at hlv
      | some o =>
        obtain ⟨m, hm, hi⟩ := himp' n o ho
        have hs := (impOf_spec hi).1
        rw [kmap_hdr L hm, hs]
        exact ⟨khdr_ge _, .inl (by simp [hs, AV.isHdr]), ⟨m, List.mem_of_getElem? hm, .inl rfl⟩, rfl, by simp [AV.isOwn]⟩
    · have hlv := live_val hk
      rw [initSt_cell _ _ _ (by omega)] at hlv ⊢
      cases ho : imps[n]? with
      | none => simp [ho, AV.isHdr, AV.isOwn] at hlv
      | some o =>
        obtain ⟨m, hm, hi⟩ := himp' n o ho
        obtain ⟨hs, hc⟩ := impOf_spec hi
        rw [kmap_cell L hm (by omega)]
        by_cases hjl : j < o.cells.length
        · obtain ⟨c, hc1, hc2⟩ := hc j hjl
          simp only [ho, List.getD_eq_getElem?_getD, hc1, Option.getD_some] at hlv ⊢
          obtain ⟨a1, a2, a3, a4⟩ := renA_own hc2
          have hco : c.isOwn = true := by simpa [a2] using hlv
          have hcs : c = s.val (kcell m j) := a4 (a1 ▸ hco)
          have hn : G.nil (kcell m j) = false := by
            rcases hk with hk | hk
            · rw [initSt_cell _ _ _ (by omega), ho] at hk
              simp only [List.getD_eq_getElem?_getD, hc1, Option.getD_some, a2] at hk
              cases hk
            · simpa [Ghost.pull, kmap_cell L hm (show j < 64 by omega)] using hk.2
          exact ⟨kcell_ge _ _, .inr ⟨by rw [← hcs]; exact hco, hn⟩, ⟨m, List.mem_of_getElem? hm, .inr ⟨j, _, _, hjl, hs, rfl⟩⟩, by rw [a2, a3], fun _ => hcs⟩
        · simp [ho, List.getD_eq_getElem?_getD, List.getElem?_eq_none (by omega : o.cells.length ≤ j), AV.isHdr, AV.isOwn] at hlv
  have kinj : ∀ k k', Live (initSt args' imps) (G.pull (kmap L)) k → Live (initSt args' imps) (G.pull (kmap L)) k' → kmap L k = kmap L k' → k = k' := by
    intro k k' hk hk' he
    have a1 := (hkey k hk).1; have a2 := (hkey k' hk').1
    -- both names are in L
    have hin : ∀ k, Live (initSt args' imps) (G.pull (kmap L)) k → ∃ n, L[(k - 4096) / 64]? = some n := by
      intro k hk
      have := live_val hk
      rw [initSt_key _ _ (hkey k hk).1] at this
      cases ho : imps[(k - 4096) / 64]? with
      | none => simp [ho, AV.isHdr, AV.isOwn] at this
      | some o => obtain ⟨n, hn, _⟩ := himp' _ o ho; exact ⟨n, hn⟩
    obtain ⟨n, hn⟩ := hin k hk
    obtain ⟨n', hn'⟩ := hin k' hk'
    simp only [kmap, List.getD_eq_getElem?_getD, hn, hn', Option.getD_some] at he
    have e1 : n = n' := by omega
    subst e1
    have e2 := idx_nodup hL hn
    rw [idx_nodup hL hn'] at e2
    have e3 := Option.some.inj e2
    omega
  refine ⟨R.below, R.laid, R.base, ?_, R.imm, by simp [hvl, hlen], by simp only; omega, ?_, ?_, ?_, fun n => by rw [initSt_hdr]; cases imps[n]? <;> rfl, ?_, ?_, ?_, ?_, ?_⟩
  · intro b o hb
    have hb' : protIn C G s L w b = some o := hb
    unfold protIn at hb'
    split at hb'
    · exact hb'
    · exact R.prot b o hb'
  · intro t ht
    have ht' : t < args'.length := ht
    rw [initSt_tmp _ _ (by omega)]
    have := AVRels.get hargs' t ht'
    rw [show vals.getD t undef = vals.toList.getD t undef by simp [Array.getD_eq_getD_getElem?, List.getD_eq_getElem?_getD]]
    exact CellRel.of this
  · intro t h1 h2
    rw [initSt_tmp _ _ h2]
    have h1' : args'.length ≤ t := h1
    simp [List.getD_eq_getElem?_getD, List.getElem?_eq_none h1']
  · intro t ht
    cases hc : ((initSt args' imps).val t).isHdr with
    | false => rfl
    | true => have := (hkey t (.inl hc)).1; omega
  · intro n e z hz
    rw [initSt_hdr] at hz
    cases ho : imps[n]? with
    | none => simp [ho] at hz
    | some o =>
      simp only [ho] at hz
      injection hz with e1 e2
      subst e1 e2
      obtain ⟨m, hm, hi⟩ := himp' n o ho
      obtain ⟨hs, hc⟩ := impOf_spec hi
      obtain ⟨h1, cs, h2, h3, h4⟩ := R.objs m _ _ hs
      refine ⟨h1, cs, by rw [hb n m hm]; exact h2, h3, fun j hj => ?_⟩
      obtain ⟨c, hc1, hc2⟩ := hc j hj
      rw [initSt_cell _ _ _ (by omega), ho]
      simp only [List.getD_eq_getElem?_getD, hc1, Option.getD_some]
      have h5 := h4 j hj
      obtain ⟨a1, a2, a3, a4⟩ := renA_own hc2
      cases hown : (s.val (kcell m j)).isOwn with
      | true =>
        have hcs := a4 hown
        rw [hcs]
        cases hsv : s.val (kcell m j) with
        | own e z xs fz =>
          rw [hsv] at h5
          simp only [CellRel] at h5 ⊢
          rw [h5]
          simp only [addrOf, Ghost.pull, kmap_cell L hm (show j < 64 by omega)]
        | _ => simp [hsv, AV.isOwn] at hown
      | false => exact CellRel.of (AVRel.ren hb hh hv0 hc2 hown (h5.to hown))
  · intro k e z xs fz hk
    have ho : ((initSt args' imps).val k).isOwn = true := by rw [hk]; rfl
    have hk4 : 4096 ≤ k := by
      rcases Nat.lt_or_ge k 4096 with h | h
      · exfalso
        rw [initSt_tmp _ _ h] at hk
        by_cases hkl : k < args'.length
        · have := AVRels.get hargs' k hkl
          rw [hk] at this
          simp [AVRel] at this
        · simp [List.getD_eq_getElem?_getD, List.getElem?_eq_none (by omega : args'.length ≤ k)] at hk
      · exact h
    rcases key_cases hk4 with ⟨n, rfl⟩ | ⟨n, j, hj, rfl⟩
    · rw [initSt_hdr] at hk
      split at hk <;> cases hk
    · rw [initSt_cell _ _ _ (by omega)] at hk
      cases ho' : imps[n]? with
      | none => simp [ho'] at hk
      | some o =>
        obtain ⟨m, hm, hi⟩ := himp' n o ho'
        obtain ⟨hs, hc⟩ := impOf_spec hi
        by_cases hjl : j < o.cells.length
        · obtain ⟨c, hc1, hc2⟩ := hc j hjl
          simp only [ho', List.getD_eq_getElem?_getD, hc1, Option.getD_some] at hk
          obtain ⟨a1, a2, a3, a4⟩ := renA_own hc2
          have hcs : c = s.val (kcell m j) := a4 (by rw [← a1, hk]; rfl)
          have O := R.owns (kcell m j) e z xs fz (by rw [← hcs]; exact hk)
          have hkm := kmap_cell L hm (show j < 64 by omega)
          exact ⟨O.pos, by simpa [Ghost.pull, hkm] using O.nil, by simpa [Ghost.pull, hkm] using O.row, by simpa [Ghost.pull, hkm] using O.imm⟩
        · simp [ho', List.getD_eq_getElem?_getD, List.getElem?_eq_none (by omega : o.cells.length ≤ j)] at hk
  · intro k k' hk hk' he
    exact kinj k k' hk hk' (R.inj _ _ (hkey k hk).2.1 (hkey k' hk').2.1 he)
  · intro k hk
    obtain ⟨_, h2, h3, _⟩ := hkey k hk
    obtain ⟨m1, m2, m3⟩ := R.mine _ h2
    refine ⟨m1, m2, ?_⟩
    show protIn C G s L w (G.blk (kmap L k)) = none
    unfold protIn
    rw [if_neg]
    · exact m3
    · rintro ⟨k', h4, h5, h6⟩
      exact h5 (R.inj k' _ h4 h2 h6 ▸ h3)
  · intro k hk o
    obtain ⟨_, _, _, h4, _⟩ := hkey k (.inl hk)
    show I (G.blk (kmap L k)) o = none
    exact R.immH (kmap L k) (by rw [← h4]; exact hk) o

/-! ### The state in which it ends -/

/-- The callee's place for a place of the caller. -/
def ckey (LL : List Nat) (d k : Nat) : Nat := if k = d then 0 else 4096 + ((LL.idxOf? ((k - 4096) / 64)).getD 0) * 64 + (k - 4096) % 64

def Ghost.back (G G' : Ghost) (LL : List Nat) (nimp d : Nat) (r : CRes) : Ghost :=
  ⟨fun k => if (retVal LL nimp d r k).isSome then G'.blk (ckey LL d k) else G.blk k, fun k => if (retVal LL nimp d r k).isSome then G'.cap (ckey LL d k) else G.cap k, fun k => if (retVal LL nimp d r k).isSome then G'.nil (ckey LL d k) else G.nil k⟩

theorem retSt_key (imps : List ObjD) (r : CRes) {i j : Nat} (hj : j < 64) : (retSt imps r).val (4096 + i * 64 + j) = match (imps ++ r.news)[i]? with
    | some o => if j = 63 then .hdr o.e o.cells.length else (outAt r i j).getD (o.cells.getD j .junk)
    | none => .junk := by
  simp only [retSt, show ¬ (4096 + i * 64 + j = 0) by omega, show ¬ (4096 + i * 64 + j < 4096) by omega, if_false, show (4096 + i * 64 + j - 4096) / 64 = i by omega, show (4096 + i * 64 + j - 4096) % 64 = j by omega]
  cases (imps ++ r.news)[i]? <;> rfl

theorem outAt_none {r : CRes} {i j : Nat} (h : r.outs.length ≤ i) : outAt r i j = none := by simp [outAt, List.getElem?_eq_none h]

/-- Where a place that is told anew comes from. -/
theorem retVal_spec {imps : List ObjD} {LL : List Nat} {nimp d : Nat} {r : CRes} {k : Nat} {v : AV} (hn : imps.length = nimp) (ho : r.outs.length ≤ nimp) (h : retVal LL nimp d r k = some v) :
    (retSt imps r).val (ckey LL d k) = v ∧ (k = d ∨ k ≠ d ∧ 4096 ≤ k ∧ ∃ i, LL.idxOf? ((k - 4096) / 64) = some i ∧ ckey LL d k = 4096 + i * 64 + (k - 4096) % 64 ∧
      (i < nimp ∧ (k - 4096) % 64 ≠ 63 ∧ outAt r i ((k - 4096) % 64) = some v ∨ nimp ≤ i ∧ ∃ o, r.news[i - nimp]? = some o)) := by
  unfold retVal at h
  by_cases hd : k = d
  · subst hd
    simp only [if_true, Option.some.injEq] at h
    exact ⟨by simp [ckey, retSt, h], .inl rfl⟩
  · simp only [hd, if_false] at h
    by_cases h4 : k < 4096
    · simp [h4] at h
    · simp only [h4, if_false] at h
      cases hi : LL.idxOf? ((k - 4096) / 64) with
      | none => simp [hi] at h
      | some i =>
        simp only [hi] at h
        have hck : ckey LL d k = 4096 + i * 64 + (k - 4096) % 64 := by simp [ckey, hd, hi]
        have hj : (k - 4096) % 64 < 64 := Nat.mod_lt _ (by decide)
        rw [hck, retSt_key imps r hj]
        by_cases hin : i < nimp
        · simp only [hin, if_true] at h
          by_cases h63 : (k - 4096) % 64 = 63
          · simp [h63] at h
          · simp only [h63, if_false] at h
            refine ⟨?_, .inr ⟨hd, by omega, i, rfl, rfl, .inl ⟨hin, h63, h⟩⟩⟩
            have hi' : i < imps.length := by omega
            have : (imps ++ r.news)[i]? = some imps[i] := by rw [List.getElem?_append_left hi']; exact List.getElem?_eq_getElem hi'
            rw [this]
            simp only [h63, if_false, h, Option.getD_some]
        · simp only [hin, if_false] at h
          cases ho' : r.news[i - nimp]? with
          | none => simp [ho'] at h
          | some o =>
            simp only [ho'] at h
            refine ⟨?_, .inr ⟨hd, by omega, i, rfl, rfl, .inr ⟨by omega, o, ho'⟩⟩⟩
            have : (imps ++ r.news)[i]? = some o := by rw [List.getElem?_append_right (by omega), hn]; exact ho'
            simp only [this]
            by_cases h63 : (k - 4096) % 64 = 63
            · simp only [h63, if_true, Option.some.injEq] at h ⊢; exact h
            · simp only [h63, if_false, Option.some.injEq] at h ⊢
              rw [outAt_none (by omega)]; exact h

theorem retInto_some {L : List Nat} {d : Nat} {r : CRes} {k : Nat} {v : AV} (h : retVal (L ++ newNames d r.news.length) L.length d r k = some v) :
    (retInto s L d r).val k = (backH (L ++ newNames d r.news.length) (verIn s (newNames d r.news.length)) v).getD .junk ∧ (retInto s L d r).ver k = s.ver k + 1 := by
  simp [retInto, h]
theorem retInto_none {L : List Nat} {d : Nat} {r : CRes} {k : Nat} (h : retVal (L ++ newNames d r.news.length) L.length d r k = none) :
    (retInto s L d r).val k = s.val k ∧ (retInto s L d r).ver k = s.ver k := by
  simp [retInto, h]

theorem retVal_hdr {L NL : List Nat} {d : Nat} {r : CRes} {n : Nat} (hd : d < 4096) (hn : n ∈ L) (hL : (L ++ NL).Nodup) : retVal (L ++ NL) L.length d r (khdr n) = none := by
  have h := khdr_ge n
  obtain ⟨h1, h2⟩ := div_hdr n
  obtain ⟨i, hi, he⟩ := List.getElem_of_mem hn
  have hi' : (L ++ NL)[i]? = some n := by rw [List.getElem?_append_left hi, List.getElem?_eq_getElem hi, he]
  simp only [retVal, show ¬ khdr n = d by omega, show ¬ khdr n < 4096 by omega, if_false, h1, h2, idx_nodup hL hi', hi, if_true]

/-- The callee's values, in the caller's names. -/
theorem Rel.callOut (R : Rel C I G s ts w) {L : List Nat} {d : Nat} (hd : d < C.N) {imps : List ObjD} (himps : impsOf s L L = some imps) {r : CRes} (hok : namesOk L d r = true)
    (hback : backOk (L ++ newNames d r.news.length) (verIn s (newNames d r.news.length)) r = true) {v : Value} {w' : World}
    (R' : Rel ⟨C.B, C.w0, protIn C G s L w, 1⟩ J G' (retSt imps r) #[v] w') (hIJ : I.le J) (hprot : ∀ b, protIn C G s L w b ≠ none → ∀ o, J b o = I b o)
    (hh : ∀ n, n < imps.length → G'.blk (khdr n) = (G.pull (kmap L)).blk (khdr n))
    (hc : ∀ n j, n < imps.length → j ≤ 62 → outAt r n j = none → G'.blk (kcell n j) = (G.pull (kmap L)).blk (kcell n j) ∧ G'.cap (kcell n j) = (G.pull (kmap L)).cap (kcell n j) ∧ G'.nil (kcell n j) = (G.pull (kmap L)).nil (kcell n j)) :
    ∃ G'', Rel C J G'' (retInto s L d r) (ts.setIfInBounds d v) w' ∧ Ext C I J s (retInto s L d r) G G'' := by
  simp only [namesOk, Bool.and_eq_true, decide_eq_true_eq] at hok
  obtain ⟨⟨hnd, hol⟩, hnc⟩ := hok
  simp only [backOk, Bool.and_eq_true] at hback
  obtain ⟨⟨hbr, hbo⟩, hbn⟩ := hback
  obtain ⟨hil, himp⟩ := impsOf_get himps
  have hNL : (newNames d r.news.length).length = r.news.length := by simp [newNames]
  have hLL : ∀ (i n : Nat), L[i]? = some n → (L ++ newNames d r.news.length)[i]? = some n := fun i n h => by rw [List.getElem?_append_left (List.getElem?_eq_some_iff.1 h).1]; exact h
  have hd4 : d < 4096 := Nat.lt_of_lt_of_le hd R.small
  -- values that are told anew can be told
  have hbk : ∀ k u, retVal (L ++ newNames d r.news.length) L.length d r k = some u → ∃ u', backH (L ++ newNames d r.news.length) (verIn s (newNames d r.news.length)) u = some u' ∧ u'.isOwn = u.isOwn ∧ u'.isHdr = u.isHdr ∧ (u.isOwn = true → u' = u) ∧ (u.isHdr = true → u' = u) ∧
      (u.isHdr = false → backA (L ++ newNames d r.news.length) (verIn s (newNames d r.news.length)) u = some u') := by
    intro k u hu
    have key : (backA (L ++ newNames d r.news.length) (verIn s (newNames d r.news.length)) u).isSome = true ∨ u.isHdr = true := by
      obtain ⟨_, h⟩ := retVal_spec hil hol hu
      unfold retVal at hu
      rcases h with rfl | ⟨hkd, hk4, i, hi, hck, h⟩
      · simp only [if_true, Option.some.injEq] at hu
        subst hu; exact .inl hbr
      · simp only [hkd, if_false, show ¬ k < 4096 by omega, hi] at hu
        rcases h with ⟨h1, h2, h3⟩ | ⟨h1, o, h2⟩
        · left
          simp only [outAt] at h3
          cases ho : r.outs[i]? with
          | none => simp [ho] at h3
          | some q =>
            simp only [ho, Option.bind_some] at h3
            cases hq : q[(k - 4096) % 64]? with
            | none => simp [hq] at h3
            | some c =>
              simp only [hq, Option.bind_some, id] at h3
              have := List.all_eq_true.1 (List.all_eq_true.1 hbo q (List.mem_of_getElem? ho)) c (List.mem_of_getElem? hq)
              rw [h3] at this
              exact this
        · simp only [show ¬ i < L.length by omega, if_false, h2] at hu
          by_cases h63 : (k - 4096) % 64 = 63
          · simp only [h63, if_true, Option.some.injEq] at hu; subst hu; exact .inr rfl
          · simp only [h63, if_false, Option.some.injEq] at hu
            left
            subst hu
            rw [List.getD_eq_getElem?_getD]
            cases hq : o.cells[(k - 4096) % 64]? with
            | none => simp [backA]
            | some c => simpa using List.all_eq_true.1 (List.all_eq_true.1 hbn o (List.mem_of_getElem? h2)) c (List.mem_of_getElem? hq)
    cases hH : u.isHdr with
    | true =>
      cases u <;> simp [AV.isHdr] at hH
      exact ⟨_, rfl, rfl, rfl, fun _ => rfl, fun _ => rfl, fun h => by simp [AV.isHdr] at h⟩
    | false =>
      rcases key with h | h
      · obtain ⟨u', hu'⟩ := Option.isSome_iff_exists.1 h
        obtain ⟨a1, a2, a3, a4⟩ := backA_own hu'
        have hbh : backH (L ++ newNames d r.news.length) (verIn s (newNames d r.news.length)) u = some u' := by
          cases u <;> first | exact hu' | simp [AV.isHdr] at hH
        exact ⟨u', hbh, a1, by rw [a2], a4, fun h => by simp at h, fun _ => hu'⟩
      · simp [hH] at h
  -- the ghost
  refine ⟨G.back G' (L ++ newNames d r.news.length) L.length d r, ?_⟩
  have gsome : ∀ k u, retVal (L ++ newNames d r.news.length) L.length d r k = some u → (G.back G' (L ++ newNames d r.news.length) L.length d r).blk k = G'.blk (ckey (L ++ newNames d r.news.length) d k) ∧
      (G.back G' (L ++ newNames d r.news.length) L.length d r).cap k = G'.cap (ckey (L ++ newNames d r.news.length) d k) ∧ (G.back G' (L ++ newNames d r.news.length) L.length d r).nil k = G'.nil (ckey (L ++ newNames d r.news.length) d k) :=
    fun k u hu => by simp [Ghost.back, hu]
  have gnone : ∀ k, retVal (L ++ newNames d r.news.length) L.length d r k = none → (G.back G' (L ++ newNames d r.news.length) L.length d r).blk k = G.blk k ∧
      (G.back G' (L ++ newNames d r.news.length) L.length d r).cap k = G.cap k ∧ (G.back G' (L ++ newNames d r.news.length) L.length d r).nil k = G.nil k :=
    fun k hu => by simp [Ghost.back, hu]
  generalize hG2 : G.back G' (L ++ newNames d r.news.length) L.length d r = G2 at gsome gnone ⊢
  -- heads that were handed in
  have hLhdr : ∀ (i n : Nat), L[i]? = some n → (retSt imps r).val (khdr i) = s.val (khdr n) ∧ G'.blk (khdr i) = G.blk (khdr n) ∧ (s.val (khdr n)).isHdr = true := by
    intro i n hin
    obtain ⟨o, ho, hio⟩ := himp i n hin
    have hs := (impOf_spec hio).1
    have hi : i < imps.length := (List.getElem?_eq_some_iff.1 ho).1
    refine ⟨?_, ?_, by rw [hs]; rfl⟩
    · rw [show khdr i = 4096 + i * 64 + 63 by unfold khdr; rfl, retSt_key imps r (by omega), List.getElem?_append_left hi, ho]
      simp [hs]
    · rw [hh i hi]; simp [Ghost.pull, kmap_hdr L hin]
  have hLcell : ∀ (i n j e z : Nat), L[i]? = some n → s.val (khdr n) = .hdr e z → j < z → outAt r i j = none →
      (∃ c, (retSt imps r).val (kcell i j) = c ∧ renA L s.ver (s.val (kcell n j)) = some c) ∧ G'.blk (kcell i j) = G.blk (kcell n j) ∧ G'.cap (kcell i j) = G.cap (kcell n j) ∧ G'.nil (kcell i j) = G.nil (kcell n j) := by
    intro i n j e z hin hz hj ho
    obtain ⟨o, ho', hio⟩ := himp i n hin
    obtain ⟨hs, hcs⟩ := impOf_spec hio
    rw [hz] at hs
    injection hs with e1 e2
    have h62 := (R.objs n _ _ hz).1
    have hi : i < imps.length := (List.getElem?_eq_some_iff.1 ho').1
    obtain ⟨c, hc1, hc2⟩ := hcs j (by omega)
    have hg := hc i j hi (by omega) ho
    simp only [Ghost.pull, kmap_cell L hin (show j < 64 by omega)] at hg
    refine ⟨⟨c, ?_, hc2⟩, hg⟩
    rw [show kcell i j = 4096 + i * 64 + j by unfold kcell; rfl, retSt_key imps r (by omega), List.getElem?_append_left hi, ho']
    simp [show ¬ j = 63 by omega, ho, List.getD_eq_getElem?_getD, hc1]
  -- all heads of the callee
  have hb2 : ∀ (i n : Nat), (L ++ newNames d r.news.length)[i]? = some n → G2.blk (khdr n) = G'.blk (khdr i) ∧ ((retSt imps r).val (khdr i)).isHdr = true ∧ (retSt imps r).ver (khdr i) = 0 ∧ (retInto s L d r).ver (khdr n) = verIn s (newNames d r.news.length) (khdr n) ∧
      (retInto s L d r).val (khdr n) = (retSt imps r).val (khdr i) := by
    intro i n hin
    have hv0 : (retSt imps r).ver (khdr i) = 0 := by
      have := khdr_ge i
      simp only [retSt, show ¬ khdr i < 4096 by omega, if_false, (div_hdr i).2, if_true]
    by_cases hiL : i < L.length
    · have hin' : L[i]? = some n := by rw [List.getElem?_append_left hiL] at hin; exact hin
      obtain ⟨a1, a2, a3⟩ := hLhdr i n hin'
      have hnone := retVal_hdr (r := r) hd4 (List.mem_of_getElem? hin') hnd
      refine ⟨by rw [(gnone _ hnone).1, a2], by rw [a1]; exact a3, hv0, ?_, ?_⟩
      · rw [(retInto_none (s := s) hnone).2]
        have : ((newNames d r.news.length).any fun n' => decide (khdr n' = khdr n)) = false := by
          rw [List.any_eq_false]
          intro n' hn' he
          have he' := khdr_inj (of_decide_eq_true he)
          subst he'
          exact (List.nodup_append.1 hnd).2.2 _ (List.mem_of_getElem? hin') _ hn' rfl
        simp [verIn, this]
      · rw [(retInto_none (s := s) hnone).1, a1]
    · have hidx := idx_nodup hnd hin
      have hin' : (newNames d r.news.length)[i - L.length]? = some n := by rw [List.getElem?_append_right (by omega)] at hin; exact hin
      have hi2 : i - L.length < r.news.length := by have := (List.getElem?_eq_some_iff.1 hin').1; omega
      have h4 := khdr_ge n
      obtain ⟨d1, d2⟩ := div_hdr n
      have hsome : retVal (L ++ newNames d r.news.length) L.length d r (khdr n) = some (.hdr r.news[i - L.length].e r.news[i - L.length].cells.length) := by
        simp only [retVal, show ¬ khdr n = d by omega, show ¬ khdr n < 4096 by omega, if_false, d1, d2, hidx, hiL, List.getElem?_eq_getElem hi2, if_true]
      have hck : ckey (L ++ newNames d r.news.length) d (khdr n) = khdr i := by
        simp only [ckey, show ¬ khdr n = d by omega, if_false, d1, d2, hidx, Option.getD_some]; unfold khdr; rfl
      have hrs := (retVal_spec hil hol hsome).1
      rw [hck] at hrs
      refine ⟨by rw [(gsome _ _ hsome).1, hck], by rw [hrs]; rfl, hv0, ?_, ?_⟩
      · rw [(retInto_some (s := s) hsome).2]
        have : ((newNames d r.news.length).any fun n' => decide (khdr n' = khdr n)) = true := List.any_eq_true.2 ⟨n, List.mem_of_getElem? hin', by simp⟩
        simp [verIn, this]
      · rw [(retInto_some (s := s) hsome).1, hrs]; simp [backH]
  -- a value of the callee, in the caller's names
  have hval : ∀ {u u' : AV} {y : Value}, backA (L ++ newNames d r.news.length) (verIn s (newNames d r.news.length)) u = some u' → u.isOwn = false → AVRel J G' (retSt imps r) u y → AVRel J G2 (retInto s L d r) u' y :=
    fun h ho hr => AVRel.back (fun i n hin => (hb2 i n hin).1) (fun i n hin => (hb2 i n hin).2.1) (fun i n hin => (hb2 i n hin).2.2.1) (fun i n hin => (hb2 i n hin).2.2.2.1) h ho hr
  have hkeep : Keeps s (retInto s L d r) G G2 := by
    refine ⟨fun k => ?_, fun k hk ho => ?_, fun k hk ho => ?_⟩
    · cases h : retVal (L ++ newNames d r.news.length) L.length d r k with
      | none => rw [(retInto_none (s := s) h).2]; exact Nat.le_refl _
      | some u => rw [(retInto_some (s := s) h).2]; omega
    · cases h : retVal (L ++ newNames d r.news.length) L.length d r k with
      | none => rw [(retInto_none (s := s) h).1] at ho ⊢; obtain ⟨a, b, c⟩ := gnone k h; exact ⟨ho, rfl, a, b, c⟩
      | some u => rw [(retInto_some (s := s) h).2] at hk; omega
    · cases h : retVal (L ++ newNames d r.news.length) L.length d r k with
      | none => rw [(retInto_none (s := s) h).1] at ho; exact ⟨ho, (gnone k h).1⟩
      | some u => rw [(retInto_some (s := s) h).2] at hk; omega
  refine ⟨?_, hIJ, hkeep, fun b hb o => hprot b (by rw [protIn_old R L hb]; exact hb) o⟩
  -- what the callee tells at a place
  have hcell : ∀ k u y, retVal (L ++ newNames d r.news.length) L.length d r k = some u → CellRel J G' (retSt imps r) (ckey (L ++ newNames d r.news.length) d k) u y → CellRel J G2 (retInto s L d r) k ((retInto s L d r).val k) y := by
    intro k u y hu hr
    obtain ⟨u', h1, h2, h3, h4, h5, h6⟩ := hbk k u hu
    rw [(retInto_some (s := s) hu).1, h1, Option.getD_some]
    cases hown : u.isOwn with
    | true =>
      rw [h4 hown]
      obtain ⟨g1, g2, g3⟩ := gsome k u hu
      cases u with
      | own e z xs fz => simp only [CellRel] at hr ⊢; simp only [addrOf, g1, g2, g3] at hr ⊢; exact hr
      | _ => simp [AV.isOwn] at hown
    | false =>
      have hr' := hr.to hown
      have hnh : u.isHdr = false := by cases u <;> simp_all [AVRel, AV.isHdr]
      exact CellRel.of (hval (h6 hnh) hown hr')
  -- places that are live
  have cls : ∀ k, Live (retInto s L d r) G2 k → (Live (retSt imps r) G' (ckey (L ++ newNames d r.news.length) d k) ∧ G2.blk k = G'.blk (ckey (L ++ newNames d r.news.length) d k) ∧ ((retInto s L d r).val k).isHdr = ((retSt imps r).val (ckey (L ++ newNames d r.news.length) d k)).isHdr ∧ (k = d ∨ 4096 ≤ k ∧ k ≠ d ∧ ∃ i, (L ++ newNames d r.news.length).idxOf? ((k - 4096) / 64) = some i)) ∨
      (Live s G k ∧ ¬ Handed s L k ∧ G2.blk k = G.blk k ∧ (retInto s L d r).val k = s.val k) := by
    intro k hk
    cases hr : retVal (L ++ newNames d r.news.length) L.length d r k with
    | some u =>
      left
      obtain ⟨a1, a2⟩ := retVal_spec hil hol hr
      obtain ⟨u', h1, h2, h3, h4, h5, h6⟩ := hbk k u hr
      obtain ⟨g1, g2, g3⟩ := gsome k u hr
      have hv' : (retInto s L d r).val k = u' := by rw [(retInto_some (s := s) hr).1, h1]; rfl
      refine ⟨?_, g1, by rw [hv', a1, h3], ?_⟩
      · rcases hk with hk | ⟨hk, hn⟩
        · exact .inl (by rw [a1, ← h3, ← hv']; exact hk)
        · exact .inr ⟨by rw [a1, ← h2, ← hv']; exact hk, by rw [← g3]; exact hn⟩
      · rcases a2 with rfl | ⟨b1, b2, i, b3, _⟩
        · exact .inl rfl
        · exact .inr ⟨b2, b1, i, b3⟩
    | none =>
      obtain ⟨g1, g2, g3⟩ := gnone k hr
      have hv' := (retInto_none (s := s) hr).1
      have hlive : Live s G k := by
        rcases hk with hk | ⟨hk, hn⟩
        · exact .inl (by rw [← hv']; exact hk)
        · exact .inr ⟨by rw [← hv']; exact hk, by rw [← g3]; exact hn⟩
      by_cases hH : Handed s L k
      · left
        have hkd : k ≠ d := by
          rintro rfl
          obtain ⟨n, _, h | ⟨j, _, _, _, _, h⟩⟩ := hH
          · have := khdr_ge n; omega
          · have := kcell_ge n j; omega
        obtain ⟨n, hn, h | ⟨j, e, z, hj, hz, h⟩⟩ := hH
        · subst h
          obtain ⟨i, hi, he⟩ := List.getElem_of_mem hn
          have hin : L[i]? = some n := by rw [List.getElem?_eq_getElem hi, he]
          obtain ⟨a1, a2, a3⟩ := hLhdr i n hin
          have hidx := idx_nodup hnd (hLL i n hin)
          obtain ⟨d1, d2⟩ := div_hdr n
          have hck : ckey (L ++ newNames d r.news.length) d (khdr n) = khdr i := by
            simp only [ckey, hkd, if_false, d1, d2, hidx, Option.getD_some]; unfold khdr; rfl
          rw [hck, a1, hv']
          exact ⟨.inl (by rw [a1]; exact a3), by rw [g1, a2], rfl, .inr ⟨khdr_ge n, hkd, i, by rw [d1]; exact hidx⟩⟩
        · subst h
          obtain ⟨i, hi, he⟩ := List.getElem_of_mem hn
          have hin : L[i]? = some n := by rw [List.getElem?_eq_getElem hi, he]
          have h62 := (R.objs n _ _ hz).1
          have hidx := idx_nodup hnd (hLL i n hin)
          obtain ⟨d1, d2⟩ := div_cell (n := n) (j := j) (by omega)
          have hck : ckey (L ++ newNames d r.news.length) d (kcell n j) = kcell i j := by
            simp only [ckey, hkd, if_false, d1, d2, hidx, Option.getD_some]; unfold kcell; rfl
          have hout : outAt r i j = none := by
            have := kcell_ge n j
            simp only [retVal, hkd, if_false, show ¬ kcell n j < 4096 by omega, d1, d2, hidx, hi, if_true, show ¬ j = 63 by omega] at hr
            exact hr
          obtain ⟨⟨c, c1, c2⟩, b1, b2, b3⟩ := hLcell i n j e z hin hz hj hout
          obtain ⟨a1, a2, a3, a4⟩ := renA_own c2
          rw [hck, c1, hv']
          refine ⟨?_, by rw [g1, b1], by rw [a2, a3], .inr ⟨kcell_ge n j, hkd, i, by rw [d1]; exact hidx⟩⟩
          rcases hlive with hl | ⟨hl, hnil⟩
          · rw [a3] at hl; cases hl
          · exact .inr ⟨by rw [c1, a1]; exact hl, by rw [b3]; exact hnil⟩
      · exact .inr ⟨hlive, hH, g1, hv'⟩
  have ckinj : ∀ k k', (k = d ∨ 4096 ≤ k ∧ k ≠ d ∧ ∃ i, (L ++ newNames d r.news.length).idxOf? ((k - 4096) / 64) = some i) → (k' = d ∨ 4096 ≤ k' ∧ k' ≠ d ∧ ∃ i, (L ++ newNames d r.news.length).idxOf? ((k' - 4096) / 64) = some i) →
      ckey (L ++ newNames d r.news.length) d k = ckey (L ++ newNames d r.news.length) d k' → k = k' := by
    intro k k' hk hk' he
    rcases hk with rfl | ⟨a1, a2, i, a3⟩ <;> rcases hk' with rfl | ⟨b1, b2, i', b3⟩
    · rfl
    · simp only [ckey, if_true, b2, if_false] at he; omega
    · simp only [ckey, if_true, a2, if_false] at he; omega
    · simp only [ckey, a2, b2, if_false, a3, b3, Option.getD_some] at he
      have hii : i = i' := by omega
      subst hii
      have h1 := idx_some a3
      rw [idx_some b3] at h1
      have := Option.some.inj h1
      omega
  have blkOld : ∀ k, Live s G k → ¬ Handed s L k → w'.heap[G.blk k]? = w.heap[G.blk k]? := by
    intro k hk hn
    have h1 := protIn_live R L hk hn
    have h2 := (R.mine k hk).2.1
    rw [Array.getElem?_eq_getElem h2] at h1 ⊢
    exact R'.prot _ _ h1
  have mixed : ∀ k k', Live (retSt imps r) G' k → Live s G k' → ¬ Handed s L k' → G'.blk k ≠ G.blk k' := by
    intro k k' hk hk' hn he
    have h1 := (R'.mine k hk).2.2
    have h2 := (protIn_none R L (b := G'.blk k) h1).2 k' hk' he.symm
    exact hn h2
  refine ⟨R'.below, R'.laid, R'.base, ?_, R'.imm, by simpa using R.size, R.small, ?_, ?_, ?_, ?_, ?_, ?_, ?_, ?_, ?_⟩
  · intro b o hb
    exact R'.prot b o (by show protIn C G s L w b = some o; rw [protIn_old R L (by simp [hb])]; exact hb)
  · intro t ht
    by_cases e : t = d
    · subst e
      have hs : retVal (L ++ newNames t r.news.length) L.length t r t = some r.ret := by simp [retVal]
      have h0 := R'.tmps 0 (show 0 < 1 by omega)
      have hck : ckey (L ++ newNames t r.news.length) t t = 0 := by simp [ckey]
      have hv : (ts.setIfInBounds t v).getD t undef = v := by simp [Array.getD_eq_getD_getElem?, R.size, ht]
      rw [hv]
      refine hcell t r.ret v hs ?_
      rw [hck]
      simpa [retSt] using h0
    · have hn : retVal (L ++ newNames d r.news.length) L.length d r t = none := by
        have := R.small
        simp [retVal, e, show t < 4096 by omega]
      rw [(retInto_none (s := s) hn).1]
      have : (ts.setIfInBounds d v).getD t undef = ts.getD t undef := by simp [Array.getD_eq_getD_getElem?, Array.getElem?_setIfInBounds, Ne.symm e]
      rw [this]
      exact (R.tmps t ht).keep hIJ hkeep (fun _ => gnone t hn)
  · intro t h1 h2
    have hn : retVal (L ++ newNames d r.news.length) L.length d r t = none := by simp [retVal, show ¬ t = d by omega, h2]
    rw [(retInto_none (s := s) hn).1]; exact R.high t h1 h2
  · intro t ht
    by_cases e : t = d
    · subst e
      have hs : retVal (L ++ newNames t r.news.length) L.length t r t = some r.ret := by simp [retVal]
      obtain ⟨u', h1, h2, h3, _⟩ := hbk t r.ret hs
      rw [(retInto_some (s := s) hs).1, h1, Option.getD_some, h3]
      have := R'.notHdr 0 (by omega)
      simpa [retSt] using this
    · have hn : retVal (L ++ newNames d r.news.length) L.length d r t = none := by simp [retVal, e, ht]
      rw [(retInto_none (s := s) hn).1]; exact R.notHdr t ht
  · intro n
    by_cases hin : ∃ i : Nat, (L ++ newNames d r.news.length)[i]? = some n
    · obtain ⟨i, hin⟩ := hin
      rw [(hb2 i n hin).2.2.2.2]
      exact R'.hdrs i
    · have hnone : retVal (L ++ newNames d r.news.length) L.length d r (khdr n) = none := by
        have : (L ++ newNames d r.news.length).idxOf? ((khdr n - 4096) / 64) = none := by
          rw [(div_hdr n).1, List.idxOf?_eq_none_iff]; exact fun h => hin (List.getElem?_of_mem h)
        have := khdr_ge n
        simp only [retVal, show ¬ khdr n = d by omega, show ¬ khdr n < 4096 by omega, if_false, *]
      rw [(retInto_none (s := s) hnone).1]; exact R.hdrs n
  · intro n e z hz
    -- the object, as the callee or the caller has it
    by_cases hin : ∃ i : Nat, (L ++ newNames d r.news.length)[i]? = some n
    · obtain ⟨i, hin⟩ := hin
      obtain ⟨c1, c2, c3, c4, c5⟩ := hb2 i n hin
      rw [c5] at hz
      obtain ⟨h62, cs, h2, h3, h4⟩ := R'.objs i e z hz
      refine ⟨h62, cs, by rw [c1]; exact h2, h3, fun j hj => ?_⟩
      have hidx := idx_nodup hnd hin
      obtain ⟨d1, d2⟩ := div_cell (n := n) (j := j) (by omega)
      have hk4 := kcell_ge n j
      have hkd : kcell n j ≠ d := by omega
      have hck : ckey (L ++ newNames d r.news.length) d (kcell n j) = kcell i j := by
        simp only [ckey, hkd, if_false, d1, d2, hidx, Option.getD_some]; unfold kcell; rfl
      have hr := h4 j hj
      cases hrv : retVal (L ++ newNames d r.news.length) L.length d r (kcell n j) with
      | some u =>
        obtain ⟨a1, _⟩ := retVal_spec hil hol hrv
        rw [hck] at a1
        rw [a1] at hr
        exact hcell (kcell n j) u _ hrv (by rw [hck]; exact hr)
      | none =>
        -- a cell that was handed in, and not written
        have hiL : i < L.length := by
          rcases Nat.lt_or_ge i L.length with h | h
          · exact h
          · exfalso
            have hin' : (newNames d r.news.length)[i - L.length]? = some n := by rw [List.getElem?_append_right h] at hin; exact hin
            have hi2 : i - L.length < r.news.length := by have := (List.getElem?_eq_some_iff.1 hin').1; omega
            simp only [retVal, hkd, if_false, show ¬ kcell n j < 4096 by omega, d1, d2, hidx, show ¬ i < L.length by omega, List.getElem?_eq_getElem hi2, show ¬ j = 63 by omega] at hrv
            cases hrv
        have hin' : L[i]? = some n := by rw [List.getElem?_append_left hiL] at hin; exact hin
        have hout : outAt r i j = none := by
          simp only [retVal, hkd, if_false, show ¬ kcell n j < 4096 by omega, d1, d2, hidx, hiL, if_true, show ¬ j = 63 by omega] at hrv
          exact hrv
        have hsz : s.val (khdr n) = .hdr e z := by rw [← (hLhdr i n hin').1]; exact hz
        obtain ⟨⟨c, cc1, cc2⟩, b1, b2, b3⟩ := hLcell i n j e z hin' hsz hj hout
        obtain ⟨g1, g2, g3⟩ := gnone _ hrv
        rw [cc1] at hr
        rw [(retInto_none (s := s) hrv).1]
        obtain ⟨a1, a2, a3, a4⟩ := renA_own cc2
        cases hown : (s.val (kcell n j)).isOwn with
        | true =>
          have hcc := a4 hown
          rw [hcc] at hr
          cases hsv : s.val (kcell n j) with
          | own e' z' xs fz =>
            rw [hsv] at hr
            simp only [CellRel, addrOf, b1, b2, b3] at hr
            simp only [CellRel, addrOf, g1, g2, g3]
            exact hr
          | _ => simp [hsv, AV.isOwn] at hown
        | false =>
          have hvn : ∀ m, m ∈ L → verIn s (newNames d r.news.length) (khdr m) = s.ver (khdr m) := by
            intro m hm
            have : ((newNames d r.news.length).any fun n' => decide (khdr n' = khdr m)) = false := by
              rw [List.any_eq_false]
              intro n' hn' he
              have he' := khdr_inj (of_decide_eq_true he)
              subst he'
              exact (List.nodup_append.1 hnd).2.2 _ hm _ hn' rfl
            simp [verIn, this]
          have hbr2 := back_ren (LL := L ++ newNames d r.news.length) (ver' := verIn s (newNames d r.news.length)) hLL hvn cc2
          exact CellRel.of (hval hbr2 (by rw [a1]; exact hown) (hr.to (by rw [a1]; exact hown)))
    · have hnL : n ∉ L ++ newNames d r.news.length := fun h => hin (List.getElem?_of_mem h)
      have hnone : ∀ k, (k - 4096) / 64 = n → 4096 ≤ k → retVal (L ++ newNames d r.news.length) L.length d r k = none := by
        intro k hk h4
        have : (L ++ newNames d r.news.length).idxOf? ((k - 4096) / 64) = none := by
          rw [hk, List.idxOf?_eq_none_iff]; exact hnL
        simp only [retVal, show ¬ k = d by omega, show ¬ k < 4096 by omega, if_false, this]
      have hk := hnone (khdr n) (div_hdr n).1 (khdr_ge n)
      rw [(retInto_none (s := s) hk).1] at hz
      obtain ⟨h62, cs, h2, h3, h4⟩ := R.objs n e z hz
      have hnH : ¬ Handed s L (khdr n) := by
        rintro ⟨m, hm, h | ⟨j, _, _, hj, hz', h⟩⟩
        · have := khdr_inj h; subst this; exact hnL (List.mem_append.2 (.inl hm))
        · have := (R.objs m _ _ hz').1; exact kcell_ne_hdr (by omega) h.symm
      refine ⟨h62, cs, by rw [(gnone _ hk).1, blkOld _ (.inl (by rw [hz]; rfl)) hnH]; exact h2, h3, fun j hj => ?_⟩
      have hkc := hnone (kcell n j) (div_cell (by omega)).1 (kcell_ge n j)
      rw [(retInto_none (s := s) hkc).1]
      exact (h4 j hj).keep hIJ hkeep (fun _ => gnone _ hkc)
  · intro k e z xs fz hk
    have hko : ((retInto s L d r).val k).isOwn = true := by rw [hk]; rfl
    cases hrv : retVal (L ++ newNames d r.news.length) L.length d r k with
    | some u =>
      obtain ⟨a1, _⟩ := retVal_spec hil hol hrv
      obtain ⟨u', h1, h2, h3, h4, _⟩ := hbk k u hrv
      obtain ⟨g1, g2, g3⟩ := gsome k u hrv
      have hv' : (retInto s L d r).val k = u' := by rw [(retInto_some (s := s) hrv).1, h1]; rfl
      have huo : u.isOwn = true := by rw [← h2, ← hv']; exact hko
      have hu : u = .own e z xs fz := by rw [← h4 huo, ← hv']; exact hk
      obtain ⟨o1, o2, o3, o4⟩ := R'.owns (ckey (L ++ newNames d r.news.length) d k) e z xs fz (by rw [a1, hu])
      exact ⟨o1, by rw [g3]; exact o2, by rw [g1, g2, g3]; exact o3, by rw [g1, g3]; exact o4⟩
    | none =>
      obtain ⟨g1, g2, g3⟩ := gnone k hrv
      have hsk : s.val k = .own e z xs fz := by rw [← (retInto_none (s := s) hrv).1]; exact hk
      by_cases hH : Handed s L k
      · obtain ⟨n, hn, h | ⟨j, e', z', hj, hz', h⟩⟩ := hH
        · subst h
          obtain ⟨i, hi, he⟩ := List.getElem_of_mem hn
          have := (hLhdr i n (by rw [List.getElem?_eq_getElem hi, he])).2.2
          rw [hsk] at this; cases this
        · subst h
          obtain ⟨i, hi, he⟩ := List.getElem_of_mem hn
          have hin : L[i]? = some n := by rw [List.getElem?_eq_getElem hi, he]
          have h62 := (R.objs n _ _ hz').1
          have hidx := idx_nodup hnd (hLL i n hin)
          obtain ⟨d1, d2⟩ := div_cell (n := n) (j := j) (by omega)
          have hk4 := kcell_ge n j
          have hout : outAt r i j = none := by
            simp only [retVal, show ¬ kcell n j = d by omega, if_false, show ¬ kcell n j < 4096 by omega, d1, d2, hidx, hi, if_true, show ¬ j = 63 by omega] at hrv
            exact hrv
          obtain ⟨⟨c, cc1, cc2⟩, b1, b2, b3⟩ := hLcell i n j e' z' hin hz' hj hout
          obtain ⟨_, _, _, a4⟩ := renA_own cc2
          have hcc : c = .own e z xs fz := by rw [a4 (by rw [hsk]; rfl), hsk]
          obtain ⟨o1, o2, o3, o4⟩ := R'.owns (kcell i j) e z xs fz (by rw [cc1, hcc])
          exact ⟨o1, by rw [g3, ← b3]; exact o2, by rw [g1, g2, g3, ← b1, ← b2, ← b3]; exact o3, by rw [g1, g3, ← b1, ← b3]; exact o4⟩
      · obtain ⟨o1, o2, o3, o4⟩ := R.owns k e z xs fz hsk
        refine ⟨o1, by rw [g3]; exact o2, ?_, ?_⟩
        · rw [g1, g2, g3]
          intro hn
          obtain ⟨cur, q1, q2, q3, q4, q5⟩ := o3 hn
          exact ⟨cur, by rw [blkOld k (.inr ⟨by rw [hsk]; rfl, hn⟩) hH]; exact q1, q2, q3, q4, q5.mono hIJ⟩
        · rw [g1, g3]
          intro hn o u hu
          have hl : Live s G k := .inr ⟨by rw [hsk]; rfl, hn⟩
          rw [hprot (G.blk k) (by rw [protIn_live R L hl hH, Array.getElem?_eq_getElem (R.mine k hl).2.1]; simp)] at hu
          exact o4 hn o u hu
  · intro k k' hk hk' he
    rcases cls k hk with ⟨a1, a2, _, a3⟩ | ⟨a1, a2, a3, _⟩ <;> rcases cls k' hk' with ⟨b1, b2, _, b3⟩ | ⟨b1, b2, b3, _⟩
    · exact ckinj k k' a3 b3 (R'.inj _ _ a1 b1 (by rw [← a2, ← b2]; exact he))
    · exact absurd (by rw [← a2, ← b3]; exact he) (mixed _ _ a1 b1 b2)
    · exact absurd (by rw [← a3, ← b2]; exact he.symm) (mixed _ _ b1 a1 a2)
    · exact R.inj k k' a1 b1 (by rw [← a3, ← b3]; exact he)
  · intro k hk
    rcases cls k hk with ⟨a1, a2, _, a3⟩ | ⟨a1, a2, a3, _⟩
    · obtain ⟨m1, m2, m3⟩ := R'.mine _ a1
      rw [a2]
      exact ⟨m1, m2, (protIn_none R L m3).1⟩
    · obtain ⟨m1, m2, m3⟩ := R.mine k a1
      rw [a3]
      refine ⟨m1, ?_, m3⟩
      have := blkOld k a1 a2
      rw [Array.getElem?_eq_getElem m2] at this
      exact (Array.getElem?_eq_some_iff.1 this).1
  · intro k hk o
    rcases cls k (.inl hk) with ⟨a1, a2, a4, a3⟩ | ⟨a1, a2, a3, a4⟩
    · rw [a2]; exact R'.immH _ (by rw [← a4]; exact hk) o
    · rw [a3, hprot (G.blk k) (by rw [protIn_live R L a1 a2, Array.getElem?_eq_getElem (R.mine k a1).2.1]; simp)]
      exact R.immH k (by rw [← a4]; exact hk) o

theorem reach_nodup (s : St) : ∀ (k : Nat) (L todo : List Nat), L.Nodup → (reach s k L todo).Nodup
  | 0, L, _, h => by simpa [reach] using h
  | k + 1, L, [], h => by simpa [reach] using h
  | k + 1, L, n :: todo, h => by
    simp only [reach]
    split
    · exact reach_nodup s k L todo h
    · rename_i hc
      split
      · refine reach_nodup s k _ _ ?_
        rw [List.nodup_append]
        refine ⟨h, by simp, ?_⟩
        intro a ha b hb
        simp at hb
        subst hb
        rintro rfl
        simp at hc
        exact hc ha
      · exact h
end

end Go.Proofs.YtkjglhamlnnboaaDoor.Am
