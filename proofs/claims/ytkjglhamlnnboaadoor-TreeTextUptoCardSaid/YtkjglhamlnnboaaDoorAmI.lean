/-
  THE ABSTRACT MACHINE, part I: rows: their elements, parts of them, what is appended to them.
-/
import Derived.Test.YtkjglhamlnnboaaDoorAmH
import Derived.Deep.AppendSrc
set_option linter.unusedVariables false
set_option linter.unusedSimpArgs false
namespace Go.Proofs.YtkjglhamlnnboaaDoor.Am
open Go Go.RowKit

section
variable {P : Program} {C : Ctx} {I J : Imm} {G G' : Ghost} {s s' : St} {ts ts' : Array Value} {w w' : World}

/-- Cells with some of them written. -/
def laid (cs : Array Value) (o : Nat) (ys : List Value) : Array Value := (cs.toList.take o ++ ys ++ cs.toList.drop (o + ys.length)).toArray

theorem laid_get {cs : Array Value} {o : Nat} {ys : List Value} (h : o + ys.length ≤ cs.size) (k : Nat) : (laid cs o ys)[k]? = if o ≤ k ∧ k < o + ys.length then ys[k - o]? else cs[k]? := by
  have hl : (cs.toList.take o).length = o := by simp; omega
  simp only [laid, List.getElem?_toArray]
  by_cases h1 : k < o
  · rw [List.append_assoc, List.getElem?_append_left (by omega)]
    simp [List.getElem?_take, h1, show ¬ o ≤ k by omega]
  · rw [List.append_assoc, List.getElem?_append_right (by omega), hl]
    by_cases h2 : k < o + ys.length
    · rw [List.getElem?_append_left (by omega)]; simp [h2, show o ≤ k by omega]
    · rw [List.getElem?_append_right (by omega)]
      simp only [List.getElem?_drop, h2, and_false, if_false, show o + ys.length + (k - o - ys.length) = k by omega]
      simp

theorem laid_size {cs : Array Value} {o : Nat} {ys : List Value} (h : o + ys.length ≤ cs.size) : (laid cs o ys).size = cs.size := by
  simp [laid]; omega

theorem Same.trans {a b c : World} {k : Nat} (h : Same a b k) (h' : Same b c k) : Same a c k :=
  ⟨h'.os.trans h.os, h'.tape.trans h.tape, h'.output.trans h.output, h'.size.trans h.size, fun i hi => (h'.block i hi).trans (h.block i hi)⟩

theorem storeCells_known {b e : Nat} : ∀ (ys : List Value) {o i : Nat} {cs : Array Value} {w : World}, w.heap[b]? = some (.cells cs e (0, 0)) → o + i + ys.length ≤ cs.size → (∀ y, y ∈ ys → y.oneCell' = true) →
    ∃ w', (storeCells ⟨b, o, none⟩ ys i).run P w = .ok () w' ∧ w'.heap[b]? = some (.cells (laid cs (o + i) ys) e (0, 0)) ∧ Same w w' b
  | [], o, i, cs, w, hw, hs, h1 => ⟨w, rfl, by rw [hw]; simp [laid], ⟨rfl, rfl, rfl, rfl, fun _ _ => rfl⟩⟩
  | y :: ys, o, i, cs, w, hw, hs, h1 => by
    simp only [List.length_cons] at hs
    obtain ⟨hst, hs1, hs2⟩ := store_known (P := P) (o := o + i) (y := y) hw (by omega) (h1 y (by simp))
    obtain ⟨w2, r2, b2, s2⟩ := storeCells_known ys (o := o) (i := i + 1) hs1 (by simp; omega) (fun y hy => h1 y (by simp [hy]))
    refine ⟨w2, by simp [storeCells, addr_add, hst, r2], ?_, hs2.trans s2⟩
    rw [b2]
    congr 2
    apply Array.ext_getElem?
    intro k
    rw [laid_get (by simp; omega), laid_get (by simp; omega)]
    simp only [Array.getElem?_setIfInBounds, List.length_cons]
    by_cases h1 : k = o + i
    · subst h1
      simp [show ¬ (o + (i + 1) ≤ o + i) by omega, show o + i < cs.size by omega]
    · simp only [show ¬ o + i = k by omega, if_false]
      by_cases h2 : o + (i + 1) ≤ k ∧ k < o + (i + 1) + ys.length
      · rw [if_pos h2, if_pos (by omega), show k - (o + i) = (k - (o + (i + 1))) + 1 by omega]; simp
      · rw [if_neg h2, if_neg (by omega)]

theorem snaps_length : ∀ {zs : List Nat} {vs : List AV} {s : St} {Q : List PV → St → Prop}, awp P (snaps zs vs) s Q → awp P (snaps zs vs) s fun xs s' => Q xs s' ∧ xs.length = vs.length
  | zs, [], s, Q, h => by simpa [snaps, awp] using h
  | zs, c :: r, s, Q, h => by
    simp only [snaps, awp_bind] at h ⊢
    refine awp_mono P _ _ h fun x s1 h1 => ?_
    refine awp_mono P _ _ (snaps_length h1) fun xs s2 h2 => ?_
    obtain ⟨h2, h3⟩ := h2
    simp only [awp] at h2 ⊢
    exact ⟨h2, by simp [h3]⟩

theorem storeVar_run {t : Nat} {ti : TI} (hti : TiOk P t ti) {y : Value} {ys : List Value} (hy : y.cells = ys.toArray) (hl : ys.length = ti.size) (b o : Nat) :
    (Instr.storeAt t (.pointer (some ⟨b, o, none⟩)) y).run P w = (storeCells ⟨b, o, none⟩ ys 0).run P w := by
  simp [Instr.storeAt, Instr.sureAddr, storeVar, hti.run_size, hy, hl]

/-- A store. -/
theorem store_ok {t : Nat} {ti : TI} (hti : TiOk P t ti) {p v : AV} {yp yv : Value} {Q : Unit → St → Prop} (h : awp P (storeA ti p v) s Q) (R : Rel C I G s ts w) (rp : AVRel I G s p yp) (rv : AVRel I G s v yv) :
    ∃ s' J G' w', (Instr.storeAt t yp yv).run P w = .ok () w' ∧ Q () s' ∧ Rel C J G' s' ts w' ∧ Ext C I J s s' G G' := by
  unfold storeA at h
  simp only at h
  split at h
  case isFalse => simp [awp] at h
  rename_i hlen
  have hsolid : (∀ vs, v ≠ .tup vs) ∧ v ≠ .junk ∨ ti.size = 1 ∧ (cellsA v = [v]) := by
    cases v <;> simp_all [cellsA]
  cases p with
  | ptr n ver off =>
    simp only [awp_bind] at h
    obtain ⟨e, z, hh, hv, h⟩ := hdrAt_ok h
    simp only at h
    split at h
    case isFalse => simp [awp] at h
    rename_i hz
    have hgood : (∀ vs, v ≠ .tup vs) ∧ v ≠ .junk := by
      rcases hsolid with h1 | ⟨h1, h2⟩
      · exact h1
      · rw [h2] at h
        cases hc : ti.cty with
        | nil => simp [hc, putCells, awp] at h
        | cons c r =>
          rw [hc] at h
          simp only [putCells, awp_bind] at h
          refine ⟨fun vs hv => ?_, fun hv => ?_⟩ <;> (subst hv; simp [putCell, awp] at h)
    obtain ⟨ys, hy, r⟩ := cellsA_ok rv hgood.1 hgood.2
    simp only [AVRel] at rp
    have hp := rp.2.2 hv.symm (by rw [hh]; rfl)
    subst hp
    have hyl := r.length
    obtain ⟨s', J, G', w', hrun, h1, R1, E1⟩ := putCells_ok (P := P) (o := off) (i := 0) h R r (fun e z hm => hti.cpos hm) hh (by omega)
    exact ⟨s', J, G', w', by rw [storeVar_run hti hy (by omega)]; exact hrun, h1, R1, E1⟩
  | eptr l n i j =>
    have hgood : (∀ vs, v ≠ .tup vs) ∧ v ≠ .junk := by
      rcases hsolid with h1 | ⟨h1, h2⟩
      · exact h1
      · rw [h2] at h
        simp only [snaps, awp_bind] at h
        refine ⟨fun vs hv => ?_, fun hv => ?_⟩ <;> (subst hv; simp [snap, awp] at h)
    obtain ⟨ys, hy, r⟩ := cellsA_ok rv hgood.1 hgood.2
    rw [awp_bind] at h
    have hyl := r.length
    have rp0 := rp
    obtain ⟨xs, s1, J1, ⟨h1, hxl⟩, R1, E1, hl, hp⟩ := snaps_ok (snaps_length h) R r
    have rp := AVRel.keep E1.imm E1.keep rp
    simp only [awp] at h1
    split at h1
    case h_2 => simp [awp] at h1
    rename_i e z rows ho
    split at h1
    case isFalse => simp [awp] at h1
    rename_i hver
    split at h1
    case h_2 => simp [awp] at h1
    rename_i row hrow
    split at h1
    case isFalse => simp [awp] at h1
    rename_i hj
    obtain ⟨hj, hone⟩ := hj
    simp only [awp] at h1
    simp only [AVRel] at rp
    obtain ⟨hnil, hyp⟩ := rp.2.2 hver.symm (by rw [ho]; rfl)
    simp only [ho, AV.ownZ] at hyp
    subst hyp
    have O := R1.owns l e z rows false ho
    obtain ⟨cur, c1, c2, c3, c4, c5⟩ := O.row hnil
    have hrz : row.length = z := c5.1 row (List.mem_of_getElem? hrow)
    have hi : i < rows.length := (List.getElem?_eq_some_iff.1 hrow).1
    have hiz : i * z + z ≤ cur.size := by rw [c4]; calc i * z + z = (i + 1) * z := by rw [Nat.add_mul, Nat.one_mul]
        _ ≤ G.cap l * z := Nat.mul_le_mul_right _ (by omega)
    have h1c : ∀ y, y ∈ ys → y.oneCell' = true := by
      intro y hyy
      obtain ⟨k, hk, hke⟩ := List.getElem_of_mem hyy
      have hkx : k < xs.length := by omega
      have := hp k _ (List.getElem?_eq_getElem hkx)
      rw [List.getD_eq_getElem?_getD, List.getElem?_eq_getElem hk, Option.getD_some, hke] at this
      exact this.one' (List.all_eq_true.1 hone _ (List.getElem_mem hkx))
    obtain ⟨w2, r2, b2, S2⟩ := storeCells_known (P := P) ys (o := i * z + j) (i := 0) c1 (by omega) h1c
    simp only [Nat.add_zero] at b2
    have hlaid := laid_size (cs := cur) (o := i * z + j) (ys := ys) (by omega)
    have hpl : (patch row j xs).length = z := by simp [patch]; omega
    have hIb : ∀ o v, J1 (G.blk l) o = some v → False := fun o v hv => by have := (O.imm hnil o v hv).1; cases this
    have hrows : RowsRel J1 z (rows.set i (patch row j xs)) (laid cur (i * z + j) ys).toList := by
      refine ⟨fun r hr => ?_, fun i' j' row' x hi' hj' => ?_⟩
      · rcases List.mem_or_eq_of_mem_set hr with h | h
        · exact c5.1 r h
        · rw [h]; exact hpl
      · rw [List.getElem?_set] at hi'
        by_cases hii : i = i'
        · subst hii
          simp only [if_true, hi] at hi'
          injection hi' with hi'
          subst hi'
          have hjz : j' < z := by rw [← hpl]; exact (List.getElem?_eq_some_iff.1 hj').1
          simp only [Array.getElem?_toList]
          rw [laid_get (by omega)]
          have htk : (row.take j).length = j := by simp; omega
          by_cases h3 : i * z + j ≤ i * z + j' ∧ i * z + j' < i * z + j + ys.length
          · rw [if_pos h3, show i * z + j' - (i * z + j) = j' - j by omega]
            have hxj : xs[j' - j]? = some x := by
              simp only [patch] at hj'
              rw [List.append_assoc, List.getElem?_append_right (by omega), htk, List.getElem?_append_left (by omega)] at hj'
              exact hj'
            have hk : j' - j < ys.length := by omega
            have := hp _ x hxj
            rw [List.getD_eq_getElem?_getD, List.getElem?_eq_getElem hk, Option.getD_some] at this
            exact ⟨_, List.getElem?_eq_getElem hk, this, h1c _ (List.getElem_mem hk)⟩
          · rw [if_neg h3]
            have hrj : row[j']? = some x := by
              simp only [patch] at hj'
              by_cases h4 : j' < j
              · rw [List.append_assoc, List.getElem?_append_left (by omega)] at hj'
                rw [List.getElem?_take] at hj'
                simpa [h4] using hj'
              · rw [List.getElem?_append_right (by simp; omega)] at hj'
                simp only [List.length_append, htk, List.getElem?_drop] at hj'
                rw [show j + xs.length + (j' - (j + xs.length)) = j' by omega] at hj'
                exact hj'
            obtain ⟨y, y1, y2, y3⟩ := c5.2 i j' row x hrow hrj
            exact ⟨y, by simpa using y1, y2, y3⟩
        · simp only [hii, if_false] at hi'
          obtain ⟨y, y1, y2, y3⟩ := c5.2 i' j' row' x hi' hj'
          refine ⟨y, ?_, y2, y3⟩
          simp only [Array.getElem?_toList] at y1 ⊢
          rw [laid_get (by omega), if_neg]
          · exact y1
          · intro h3
            have hjz : j' < z := by rw [← c5.1 row' (List.mem_of_getElem? hi')]; exact (List.getElem?_eq_some_iff.1 hj').1
            rcases Nat.lt_or_gt_of_ne hii with h | h
            · have : (i + 1) * z ≤ i' * z := Nat.mul_le_mul_right _ h
              rw [Nat.add_mul, Nat.one_mul] at this; omega
            · have : (i' + 1) * z ≤ i * z := Nat.mul_le_mul_right _ h
              rw [Nat.add_mul, Nat.one_mul] at this; omega
    have R2 := R1.mod_own (xs' := rows.set i (patch row j xs)) (fz' := false) ho (by simp) (Imm.le_refl J1) (.inl hnil) S2 (fun o v hv => (hIb o v hv).elim) (fun _ _ _ => rfl)
      ⟨O.pos, fun h => by simp [hnil] at h, fun _ => ⟨_, b2, by simpa using c2, c3, by rw [hlaid]; exact c4, hrows⟩, fun _ o v hv => (hIb o v hv).elim⟩
    refine ⟨_, J1, G, w2, by rw [storeVar_run hti hy (by omega)]; exact r2, h1, R2, E1.trans ⟨Imm.le_refl _, Keeps.mod _ l _ (fun _ => by simp [ho, AV.isOwn, AV.ownZ]) (by simp [AV.isHdr]), fun _ _ _ => rfl⟩⟩
  | _ => simp [awp] at h

theorem intA_ok {v : AV} {y : Value} {i : Int} (h : intA v = some i) (r : AVRel I G s v y) : ∃ k, y = .int k i := by
  unfold intA at h
  split at h
  · injection h with h; subst h; simp only [AVRel] at r; cases r; exact ⟨_, rfl⟩
  · cases h

theorem indexAddr_ok {t e : Nat} {ti : TI} (ht : P.underlying t = some (.slice e)) (hti : TiOk P e ti) {v vi : AV} {y yi : Value} {Q : AV → St → Prop} (h : awp P (indexAddrA ti.size v vi) s Q) (R : Rel C I G s ts w) (r : AVRel I G s v y) (ri : AVRel I G s vi yi) :
    ∃ u x, (Instr.indexAt t y yi).run P w = .ok x w ∧ Q u s ∧ AVRel I G s u x := by
  unfold indexAddrA at h
  split at h
  · simp [awp] at h
  rename_i i hi
  obtain ⟨k, rfl⟩ := intA_ok hi ri
  have run : ∀ (a : Addr) (len cap : Nat), 0 ≤ i → i < len → (Instr.indexAt t (.slice (some a) len cap) (.int k i)).run P w = .ok (.pointer (some (a.add (i.toNat * ti.size)))) w := by
    intro a len cap h0 h1
    simp [Instr.indexAt, asIntOf, run_underlying ht, hti.run_size, h0, h1]
  cases v with
  | ref l n len =>
    simp only [awp_bind] at h
    obtain ⟨e', z, xs, fz, ho, hv, hlen, h⟩ := ownAt_ok h
    simp only at h
    split at h
    · rename_i hc
      obtain ⟨h0, h1, rfl⟩ := hc
      simp only [awp] at h
      simp only [AVRel] at r
      have hy := r.2.2 hv.symm (by rw [ho]; rfl)
      have hnil : G.nil l = false := by
        cases hn : G.nil l with
        | false => rfl
        | true => have := (R.owns l _ _ xs fz ho).nil hn; subst this; simp at hlen; omega
      simp only [addrOf, hnil, Bool.false_eq_true, if_false] at hy
      subst hy
      refine ⟨_, _, run _ _ _ h0 h1, h, ?_⟩
      simp only [AVRel, addr_add]
      exact ⟨by omega, ⟨_, rfl⟩, fun _ _ => ⟨hnil, by simp [ho, AV.ownZ]⟩⟩
    · simp [awp] at h
  | sref n ver len =>
    simp only at h
    split at h
    · rename_i hc
      obtain ⟨h0, h1, hz⟩ := hc
      simp only [awp] at h
      simp only [AVRel] at r
      obtain ⟨r1, ⟨ad, c, hy⟩, r3⟩ := r
      subst hy
      refine ⟨_, _, run _ _ _ h0 h1, h, ?_⟩
      simp only [AVRel]
      refine ⟨r1, ⟨_, rfl⟩, fun hv hh => ?_⟩
      obtain ⟨c', hc'⟩ := r3 hv hh
      injection hc' with q1 q2 q3
      injection q1 with q1
      rw [q1, addr_add, hz]
      simp
    · simp [awp] at h
  | p x =>
    cases x with
    | sl z xs =>
      simp only at h
      split at h
      · rename_i hc
        split at h
        · rename_i row hrow
          simp only [awp] at h
          simp only [AVRel] at r
          have hlt : i.toNat < xs.length := (List.getElem?_eq_some_iff.1 hrow).1
          cases r with
          | nil => simp at hlt
          | sl xs b o z cap val hz hn hl hcap hm hI h1 hr =>
            refine ⟨_, _, run _ _ _ hc.1 (by omega), h, ?_⟩
            rw [addr_add, ← hc.2]
            simp only [AVRel]
            have hrl := hl row (List.mem_of_getElem? hrow)
            have hb : ∀ k, k < row.length → i.toNat * z + k < xs.length * z := by
              intro k hk
              calc i.toNat * z + k < i.toNat * z + z := by omega
                _ = (i.toNat + 1) * z := by rw [Nat.add_mul, Nat.one_mul]
                _ ≤ xs.length * z := Nat.mul_le_mul_right _ hlt
            exact .ptr row b (o + i.toNat * z) (fun k => val (i.toNat * z + k)) (fun k hk => by rw [Nat.add_assoc]; exact hI _ (hb k hk)) (fun k hk => h1 _ (hb k hk)) (fun j x hj => hr _ j row x hrow hj)
        · simp [awp] at h
      · simp [awp] at h
    | _ => simp [awp] at h
  | _ => simp [awp] at h

theorem fieldAddr_ok {t f off ft : Nat} {ti : TI} {fs : List (Nat × Nat)} (hti : TiOk P t ti) (hs : ti.shape = .struct fs) (hf : fs[f]? = some (off, ft)) {v : AV} {y : Value} {Q : AV → St → Prop} (h : awp P (fieldAddrA off v) s Q) (R : Rel C I G s ts w) (r : AVRel I G s v y) :
    ∃ u x, (y = y ∧ Q u s) ∧ ((∃ a, y = .pointer (some a)) → (Instr.fieldAt t y f).run P w = .ok x w) ∧ AVRel I G s u x ∧ ∃ a, y = .pointer (some a) := by
  obtain ⟨d, hd, hsh⟩ := hti.und'
  rw [hs] at hsh
  obtain ⟨fields, rfl, hfs⟩ := shape_struct hsh
  have hfield : ∃ fl, fields[f]? = some fl ∧ fl.offset = off ∧ fl.type = ft := by
    have := hf
    rw [← hfs, List.getElem?_map] at this
    cases hq : fields.toList[f]? with
    | none => simp [hq] at this
    | some fl => simp only [hq, Option.map_some, Option.some.injEq, Prod.mk.injEq] at this; exact ⟨fl, by simpa using hq, this.1, this.2⟩
  obtain ⟨fl, hfl, ho, hft⟩ := hfield
  have hsz : P.cellsOf ft ≠ 0 := by
    have := hti.fld
    rw [hs] at this
    have := List.all_eq_true.1 this (off, ft) (List.mem_of_getElem? hf)
    simp only [Bool.and_eq_true, decide_eq_true_eq] at this
    exact this.1
  have run : ∀ a : Addr, (Instr.fieldAt t (.pointer (some a)) f).run P w = .ok (.pointer (some (a.add off))) w := by
    intro a
    have hsize : (sizeOf fl.type).run P w = .ok (P.cellsOf ft) w := by
      rw [hft]
      unfold Program.cellsOf at hsz ⊢
      cases hi : P.info? ft with
      | none => simp [hi] at hsz
      | some i => simp [sizeOf, typeInfo, hi]
    simp [Instr.fieldAt, run_underlying hd, hfl, Instr.sureAddr, fieldPlace, hsize, hsz, ho]
  have ad : ∀ (u : AV) (a : Addr), y = .pointer (some a) → Q u s → AVRel I G s u (.pointer (some (a.add off))) → _ := fun u a hy hq hu =>
    (⟨u, .pointer (some (a.add off)), ⟨rfl, hq⟩, fun _ => by rw [hy]; exact run a, hu, a, hy⟩ : ∃ u x, (y = y ∧ Q u s) ∧ ((∃ a, y = .pointer (some a)) → (Instr.fieldAt t y f).run P w = .ok x w) ∧ AVRel I G s u x ∧ ∃ a, y = .pointer (some a))
  cases v with
  | ptr n ver o =>
    simp only [fieldAddrA, awp] at h
    simp only [AVRel] at r
    obtain ⟨h1, ⟨a, hy⟩, h3⟩ := r
    refine ad _ a hy h ?_
    simp only [AVRel]
    refine ⟨h1, ⟨_, rfl⟩, fun hv hh => ?_⟩
    have := h3 hv hh
    rw [hy] at this
    injection this with this
    injection this with this
    rw [this, addr_add]
  | eptr l n i j =>
    simp only [fieldAddrA, awp] at h
    simp only [AVRel] at r
    obtain ⟨h1, ⟨a, hy⟩, h3⟩ := r
    refine ad _ a hy h ?_
    simp only [AVRel]
    refine ⟨h1, ⟨_, rfl⟩, fun hv hh => ?_⟩
    obtain ⟨hn, h4⟩ := h3 hv hh
    rw [hy] at h4
    injection h4 with h4
    injection h4 with h4
    exact ⟨hn, by rw [h4, addr_add, Nat.add_assoc]⟩
  | p x =>
    cases x with
    | ptr cs =>
      simp only [fieldAddrA, awp] at h
      simp only [AVRel] at r
      cases r with
      | ptr cs b o val hI h1 hr =>
        refine ad _ _ rfl h ?_
        rw [addr_add]
        simp only [AVRel]
        exact .ptr (cs.drop off) b (o + off) (fun k => val (off + k)) (fun k hk => by rw [Nat.add_assoc]; exact hI _ (by simp at hk; omega)) (fun k hk => h1 _ (by simp at hk; omega)) (fun j x hj => hr (off + j) x (by simpa using hj))
    | _ => simp [fieldAddrA, awp] at h
  | _ => simp [fieldAddrA, awp] at h
end

end Go.Proofs.YtkjglhamlnnboaaDoor.Am
