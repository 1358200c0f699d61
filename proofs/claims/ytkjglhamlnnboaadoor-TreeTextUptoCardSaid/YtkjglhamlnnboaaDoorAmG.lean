/-
  THE ABSTRACT MACHINE, part G: what the small programs come to.
-/
import Derived.Test.YtkjglhamlnnboaaDoorAmF
set_option linter.unusedVariables false
set_option linter.unusedSimpArgs false
namespace Go.Proofs.YtkjglhamlnnboaaDoor.Am
open Go Go.RowKit

/-- What the table says of a type is so. -/
def AV.zeroV : AV → Value
  | .p (.v x) => x
  | _ => .slice none 0 0
def zeroLike : AV → Bool
  | .p (.v x) => x.oneCell'
  | .nilS => true
  | _ => false
def shapeOf : TypeDesc → Shape
  | .struct fs => .struct (fs.toList.map fun f => (f.offset, f.type))
  | .array n e => .array n e
  | .slice e => .slice e
  | .string => .string
  | _ => .other

structure TiOk (P : Program) (t : Nat) (ti : TI) : Prop where
  info : (P.info? t).map (fun i => (i.size, i.bytes, i.zero.map (fun z => z.cells.toList))) = some (ti.size, ti.bytes, some (ti.zero.map AV.zeroV))
  und : (P.underlying t).map shapeOf = some ti.shape
  fld : (match ti.shape with | .struct fs => fs.all fun f => decide (P.cellsOf f.2 ≠ 0) && decide (f.1 + P.cellsOf f.2 ≤ ti.size) | _ => true) = true
  lens : (ti.zero.length == ti.size && ti.cty.length == ti.size && ti.zero.all zeroLike && ti.cty.all (fun c => match c with | some (_, z) => decide (0 < z) | none => true)) = true

def TabOk (P : Program) (T : Tab) : Prop := ∀ t ti, T t = some ti → TiOk P t ti

section tab
variable {P : Program} {T : Tab} {t : Nat} {ti : TI}

theorem TiOk.ex (h : TiOk P t ti) : ∃ i zv, P.info? t = some i ∧ i.size = ti.size ∧ i.bytes = ti.bytes ∧ i.zero = some zv ∧ zv.cells.toList = ti.zero.map AV.zeroV := by
  have := h.info
  cases hi : P.info? t with
  | none => simp [hi] at this
  | some i =>
    simp only [hi, Option.map_some, Option.some.injEq, Prod.mk.injEq] at this
    obtain ⟨h1, h2, h3⟩ := this
    cases hz : i.zero with
    | none => simp [hz] at h3
    | some zv => simp only [hz, Option.map_some, Option.some.injEq] at h3; exact ⟨i, zv, rfl, h1, h2, hz, h3⟩

theorem TiOk.und' (h : TiOk P t ti) : ∃ d, P.underlying t = some d ∧ shapeOf d = ti.shape := by
  have := h.und
  cases hd : P.underlying t with
  | none => simp [hd] at this
  | some d => simp only [hd, Option.map_some, Option.some.injEq] at this; exact ⟨d, rfl, this⟩

theorem TiOk.zlen (h : TiOk P t ti) : ti.zero.length = ti.size := by have := h.lens; simp only [Bool.and_eq_true, beq_iff_eq] at this; exact this.1.1.1
theorem TiOk.clen (h : TiOk P t ti) : ti.cty.length = ti.size := by have := h.lens; simp only [Bool.and_eq_true, beq_iff_eq] at this; exact this.1.1.2
theorem TiOk.cpos (h : TiOk P t ti) {e z : Nat} (hm : some (e, z) ∈ ti.cty) : 0 < z := by
  have := h.lens; simp only [Bool.and_eq_true] at this
  simpa using List.all_eq_true.1 this.2 _ hm
theorem TiOk.zok (h : TiOk P t ti) {v : AV} (hm : v ∈ ti.zero) : zeroLike v = true := by
  have := h.lens; simp only [Bool.and_eq_true] at this
  exact List.all_eq_true.1 this.1.2 _ hm

theorem shape_slice {d : TypeDesc} {e : Nat} (h : shapeOf d = .slice e) : d = .slice e := by cases d <;> simp [shapeOf] at h; subst h; rfl
theorem shape_string {d : TypeDesc} (h : shapeOf d = .string) : d = .string := by cases d <;> simp [shapeOf] at h; rfl
theorem shape_struct {d : TypeDesc} {fs : List (Nat × Nat)} (h : shapeOf d = .struct fs) : ∃ fields, d = .struct fields ∧ fields.toList.map (fun f => (f.offset, f.type)) = fs := by cases d <;> simp [shapeOf] at h; exact ⟨_, rfl, h⟩

theorem TiOk.run_size (h : TiOk P t ti) (w : World) : (sizeOf t).run P w = .ok ti.size w := by
  obtain ⟨i, zv, h1, h2, _⟩ := h.ex
  simp [sizeOf, typeInfo, h1, h2]
theorem TiOk.run_agg (h : TiOk P t ti) (w : World) : (isAgg t).run P w = .ok ti.shape.agg w := by
  obtain ⟨d, h1, h2⟩ := h.und'
  rw [← h2]
  cases d <;> simp [isAgg, run_underlying h1, shapeOf, Shape.agg]
end tab

section
variable {P : Program} {C : Ctx} {I J : Imm} {G G' : Ghost} {s s' : St} {a : Act} {ts ts' : Array Value} {w w' : World}

theorem Rel.addr_slice {l e z : Nat} {xs : List (List PV)} {fz : Bool} {y : Value} (R : Rel C I G s ts w) (ho : s.val l = .own e z xs fz) (hy : y = addrOf G l xs.length) : ∃ ad c, y = .slice ad xs.length c := by
  cases hn : G.nil l with
  | true => have := (R.owns l e z xs fz ho).nil hn; subst this; exact ⟨none, 0, by simp [hy, addrOf, hn]⟩
  | false => exact ⟨_, _, by rw [hy]; simp only [addrOf, hn, Bool.false_eq_true, if_false]; rfl⟩

theorem Rel.addr_any {l e z len : Nat} {xs : List (List PV)} {fz : Bool} (R : Rel C I G s ts w) (ho : s.val l = .own e z xs fz) (h : len ≤ xs.length) : ∃ ad c, addrOf G l len = .slice ad len c := by
  cases hn : G.nil l with
  | true =>
    have := (R.owns l e z xs fz ho).nil hn
    subst this
    have : len = 0 := by simpa using h
    subst this
    exact ⟨none, 0, by simp [addrOf, hn]⟩
  | false => exact ⟨_, _, by simp only [addrOf, hn, Bool.false_eq_true, if_false]; rfl⟩

/-- An operand. -/
theorem evalO_ok {x : Operand} {Q : AV → St → Prop} (h : awp P (evalO x) s Q) (R : Rel C I G s a.tmps w) : ∃ v, AVRel I G s v (a.eval x) ∧ Q v s := by
  cases x with
  | tmp t =>
    simp only [evalO] at h
    split at h
    · rename_i h4
      simp only [awp] at h
      have hread : CellRel I G s t (s.val t) (a.eval (.tmp t)) := by
        rcases Nat.lt_or_ge t C.N with h1 | h1
        · exact R.tmps t h1
        · rw [R.high t h1 h4]; simp [CellRel, AVRel]
      split at h
      · rename_i e z xs fz hv
        rw [hv] at hread
        simp only [CellRel] at hread
        refine ⟨.ref t (s.ver t) xs.length, ?_, h⟩
        simp only [AVRel]
        exact ⟨Nat.le_refl _, R.addr_slice hv hread, fun _ _ => hread⟩
      · simp [awp] at h
      · rename_i hno _
        refine ⟨s.val t, hread.to ?_, h⟩
        cases hv : s.val t with
        | own e z xs fz => exact absurd hv (hno e z xs fz)
        | _ => rfl
    · simp [awp] at h
  | const v =>
    simp only [evalO] at h
    split at h
    · exact ⟨.nilS, by simp only [AVRel]; rfl, h⟩
    · exact ⟨.p (.v v), by simp only [AVRel]; exact .v v, h⟩
  | global g => simp [evalO, awp] at h
  | func f => simp only [evalO, awp] at h; exact ⟨_, by simp only [AVRel]; exact ⟨[], rfl, by simp [AVRels]⟩, h⟩

/-- A row that may be read. -/
theorem ownAt_ok {l n len : Nat} {Q : _ → St → Prop} (h : awp P (ownAt l n len) s Q) : ∃ e z xs fz, s.val l = .own e z xs fz ∧ s.ver l = n ∧ len ≤ xs.length ∧ Q (e, z, xs, fz) s := by
  simp only [ownAt, awp] at h
  split at h
  · rename_i e z xs fz hv
    split at h
    · rename_i hc; exact ⟨e, z, xs, fz, hv, hc.1, hc.2, h⟩
    · simp [awp] at h
  · simp [awp] at h

/-- The cells of a row that is told for good. -/
def immAdd (I : Imm) (b n : Nat) (cur : Array Value) : Imm := fun b' o => if b' = b ∧ o < n then cur[o]? else I b' o

/-- A row is told for good. -/
theorem Rel.mark {l e z : Nat} {xs : List (List PV)} {fz : Bool} (R : Rel C I G s ts w) (ho : s.val l = .own e z xs fz) :
    ∃ J, Rel C J G (s.mod l (.own e z xs true)) ts w ∧ Ext C I J s (s.mod l (.own e z xs true)) G G ∧ ∀ len, len ≤ xs.length → PVRel J (.sl z (xs.take len)) (addrOf G l len) := by
  have O := R.owns l e z xs fz ho
  have hk : Keeps s (s.mod l (.own e z xs true)) G G := Keeps.mod s l _ (fun _ => by simp [ho, AV.isOwn, AV.ownZ]) (by simp [AV.isHdr])
  cases hn : G.nil l with
  | true =>
    have hx := O.nil hn
    subst hx
    refine ⟨I, R.mod_own ho rfl (Imm.le_refl I) (.inr ⟨rfl, rfl⟩) ⟨rfl, rfl, rfl, rfl, fun _ _ => rfl⟩ (fun o v hv => R.imm _ _ _ hv) (fun _ _ _ => rfl) ⟨O.pos, fun _ => rfl, fun h => by simp [hn] at h, fun h => by simp [hn] at h⟩, ⟨Imm.le_refl I, hk, fun _ _ _ => rfl⟩, ?_⟩
    intro len hlen
    have : len = 0 := by simpa using hlen
    subst this
    simp only [List.take_nil, addrOf, hn, if_true]
    exact .nil _ _ _ (by simp [maxLen])
  | false =>
    obtain ⟨cur, c1, c2, c3, c4, c5⟩ := O.row hn
    have hL : Live s G l := .inr ⟨by simp [ho, AV.isOwn], hn⟩
    have hIJ : I.le (immAdd I (G.blk l) (xs.length * z) cur) := by
      intro b o v hv
      unfold immAdd
      split
      · rename_i hb
        have := R.imm b o v hv
        simp only [World.cell?, hb.1, c1, Option.isSome_none, Bool.false_eq_true, if_false] at this
        exact this
      · exact hv
    have hle : xs.length * z ≤ cur.size := by rw [c4]; exact Nat.mul_le_mul_right _ c2
    have hJ : ∀ o v, immAdd I (G.blk l) (xs.length * z) cur (G.blk l) o = some v → w.cell? ⟨G.blk l, o, none⟩ = some v := by
      intro o v hv
      unfold immAdd at hv
      split at hv
      · simpa [World.cell?, c1] using hv
      · exact R.imm _ _ _ hv
    have hJo : ∀ b, b ≠ G.blk l → ∀ o, immAdd I (G.blk l) (xs.length * z) cur b o = I b o := by
      intro b hb o; simp [immAdd, hb]
    refine ⟨immAdd I (G.blk l) (xs.length * z) cur, R.mod_own ho rfl hIJ (.inl hn) ⟨rfl, rfl, rfl, rfl, fun _ _ => rfl⟩ hJ hJo
      ⟨O.pos, fun h => by simp [hn] at h, fun _ => ⟨cur, c1, c2, c3, c4, c5.mono hIJ⟩, ?_⟩, ⟨hIJ, hk, ?_⟩, ?_⟩
    · intro _ o v hv
      refine ⟨rfl, ?_⟩
      unfold immAdd at hv
      split at hv
      · rename_i h; exact h.2
      · exact (O.imm hn o v hv).2
    · intro b hb o
      refine hJo b ?_ o
      rintro rfl
      exact hb (R.mine l hL).2.2
    · intro len hlen
      simp only [addrOf, hn, Bool.false_eq_true, if_false]
      by_cases h0 : len = 0
      · subst h0
        exact .nil _ _ _ c3
      · have htl : (xs.take len).length = len := by simp; omega
        have hmul : len * z ≤ xs.length * z := Nat.mul_le_mul_right _ hlen
        have := PVRel.sl (I := immAdd I (G.blk l) (xs.length * z) cur) (xs.take len) (G.blk l) 0 z (G.cap l) (fun k => cur.getD k undef) O.pos (by intro h; rw [h] at htl; simp at htl; omega)
          (fun r hr => c5.1 r (List.mem_of_mem_take hr)) (by rw [htl]; omega) c3 ?_ ?_ ?_
        · rwa [htl] at this
        · intro k hk'
          rw [htl] at hk'
          have hkc : k < cur.size := by omega
          simp only [immAdd, Nat.zero_add, true_and, show k < xs.length * z by omega, if_true]
          simp [Array.getD_eq_getD_getElem?, Array.getElem?_eq_getElem hkc]
        · intro k hk'
          rw [htl] at hk'
          -- the row and the cell
          have hz := O.pos
          have hi : k / z < xs.length := Nat.div_lt_of_lt_mul (by rw [Nat.mul_comm]; omega)
          have hrow : xs[k / z]? = some xs[k / z] := List.getElem?_eq_getElem hi
          have hrl := c5.1 _ (List.mem_of_getElem? hrow)
          have hj : k % z < (xs[k / z]).length := by rw [hrl]; exact Nat.mod_lt _ hz
          obtain ⟨y, y1, y2, y3⟩ := c5.2 (k / z) (k % z) _ _ hrow (List.getElem?_eq_getElem hj)
          rw [show k / z * z + k % z = k by rw [Nat.mul_comm]; exact Nat.div_add_mod k z] at y1
          have : cur[k]? = some y := by simpa using y1
          simp [Array.getD_eq_getD_getElem?, this, y3]
        · intro i j row x hi hj
          have hi' : xs[i]? = some row := by
            rw [List.getElem?_take] at hi
            split at hi
            · exact hi
            · cases hi
          obtain ⟨y, y1, y2, y3⟩ := c5.2 i j row x hi' hj
          have : cur[i * z + j]? = some y := by simpa using y1
          simp only [Array.getD_eq_getD_getElem?, this, Option.getD_some]
          exact y2.mono hIJ

mutual
theorem snap_ok : ∀ {zs : List Nat} {v : AV} {y : Value} {I : Imm} {s : St} {Q : PV → St → Prop}, awp P (snap zs v) s Q → Rel C I G s ts w → AVRel I G s v y →
    ∃ x s' J, Q x s' ∧ Rel C J G s' ts w ∧ Ext C I J s s' G G ∧ PVRel J x y
  | zs, .p x, y, I, s, Q, h, R, r => ⟨x, s, I, by simpa only [snap, awp] using h, R, Ext.refl _ _ _ _, by simpa only [AVRel] using r⟩
  | zs, .nilS, y, I, s, Q, h, R, r => ⟨.sl (zs.headD 0) [], s, I, by simpa only [snap, awp] using h, R, Ext.refl _ _ _ _, by simp only [AVRel] at r; subst r; exact .nil _ _ _ (by simp [maxLen])⟩
  | zs, .ref l n len, y, I, s, Q, h, R, r => by
    simp only [snap, awp_bind] at h
    obtain ⟨e, z, xs, fz, h1, h2, h3, h4⟩ := ownAt_ok h
    simp only [awp] at h4
    obtain ⟨J, R', E, hp⟩ := R.mark h1
    simp only [AVRel] at r
    refine ⟨_, _, J, h4, R', E, ?_⟩
    rw [r.2.2 h2.symm (by rw [h1]; rfl)]
    exact hp len h3
  | zs, .agg cs, y, I, s, Q, h, R, r => by
    simp only [snap, awp_bind] at h
    simp only [AVRel] at r
    obtain ⟨vs, rfl, r⟩ := r
    obtain ⟨xs, s', J, h1, R', E, hl, hp⟩ := snaps_ok h R r
    simp only [awp] at h1
    exact ⟨_, s', J, h1, R', E, .agg xs vs hl hp⟩
  | zs, .clo f [], y, I, s, Q, h, R, r => by
    simp only [snap, awp] at h
    simp only [AVRel, AVRels] at r
    obtain ⟨cs, rfl, rfl⟩ := r
    exact ⟨_, s, I, h, R, Ext.refl _ _ _ _, .v _⟩
  | zs, .ifc t x, y, I, s, Q, h, R, r => by
    simp only [snap, awp_bind] at h
    simp only [AVRel] at r
    obtain ⟨y', rfl, r⟩ := r
    obtain ⟨x', s', J, h1, R', E, hp⟩ := snap_ok h R r
    simp only [awp] at h1
    exact ⟨_, s', J, h1, R', E, .iface t x' y' hp⟩
  | zs, .ptr .., y, I, s, Q, h, R, r => by simp [snap, awp] at h
  | zs, .eptr .., y, I, s, Q, h, R, r => by simp [snap, awp] at h
  | zs, .own .., y, I, s, Q, h, R, r => by simp [snap, awp] at h
  | zs, .clo f (c :: cs), y, I, s, Q, h, R, r => by simp [snap, awp] at h
  | zs, .tup .., y, I, s, Q, h, R, r => by simp [snap, awp] at h
  | zs, .hdr .., y, I, s, Q, h, R, r => by simp [snap, awp] at h
  | zs, .junk, y, I, s, Q, h, R, r => by simp [snap, awp] at h
theorem snaps_ok : ∀ {zs : List Nat} {vs : List AV} {ys : List Value} {I : Imm} {s : St} {Q : List PV → St → Prop}, awp P (snaps zs vs) s Q → Rel C I G s ts w → AVRels I G s vs ys →
    ∃ xs s' J, Q xs s' ∧ Rel C J G s' ts w ∧ Ext C I J s s' G G ∧ ys.length = xs.length ∧ ∀ j x, xs[j]? = some x → PVRel J x (ys.getD j undef)
  | zs, [], ys, I, s, Q, h, R, r => by
    simp only [snaps, awp] at h
    simp only [AVRels] at r
    subst r
    exact ⟨[], s, I, h, R, Ext.refl _ _ _ _, rfl, by simp⟩
  | zs, c :: cs, ys, I, s, Q, h, R, r => by
    simp only [snaps, awp_bind] at h
    simp only [AVRels] at r
    obtain ⟨y, ys', rfl, r1, r2⟩ := r
    obtain ⟨x, s1, J1, h1, R1, E1, p1⟩ := snap_ok h R r1
    obtain ⟨xs, s2, J2, h2, R2, E2, hl, p2⟩ := snaps_ok h1 R1 (AVRels.keep E1.imm E1.keep r2)
    simp only [awp] at h2
    refine ⟨_, s2, J2, h2, R2, E1.trans E2, by simp [hl], fun j x' hj => ?_⟩
    cases j with
    | zero => simp at hj; subst hj; simpa using p1.mono E2.imm
    | succ j => simpa using p2 j x' (by simpa using hj)
end

mutual
theorem argOf_ok : ∀ {zs : List Nat} {v : AV} {y : Value} {I : Imm} {s : St} {Q : AV → St → Prop}, awp P (argOf zs v) s Q → Rel C I G s ts w → AVRel I G s v y →
    ∃ v' s' J, Q v' s' ∧ Rel C J G s' ts w ∧ Ext C I J s s' G G ∧ AVRel J G s' v' y
  | zs, .p x, y, I, s, Q, h, R, r => ⟨_, s, I, by simpa only [argOf, awp] using h, R, Ext.refl _ _ _ _, r⟩
  | zs, .nilS, y, I, s, Q, h, R, r => ⟨_, s, I, by simpa only [argOf, awp] using h, R, Ext.refl _ _ _ _, by simp only [AVRel] at r ⊢; subst r; exact .nil _ _ _ (by simp [maxLen])⟩
  | zs, .ref l n len, y, I, s, Q, h, R, r => by
    simp only [argOf, awp_bind] at h
    obtain ⟨x, s', J, h1, R', E, hp⟩ := snap_ok h R r
    simp only [awp] at h1
    exact ⟨_, s', J, h1, R', E, by simp only [AVRel]; exact hp⟩
  | zs, .agg cs, y, I, s, Q, h, R, r => by
    simp only [argOf, awp_bind] at h
    simp only [AVRel] at r
    obtain ⟨vs, rfl, r⟩ := r
    obtain ⟨xs, s', J, h1, R', E, hp⟩ := argsOf_ok h R r
    simp only [awp] at h1
    exact ⟨_, s', J, h1, R', E, hp.aggA⟩
  | zs, .ifc t x, y, I, s, Q, h, R, r => by
    simp only [argOf, awp_bind] at h
    simp only [AVRel] at r
    obtain ⟨y', rfl, r⟩ := r
    obtain ⟨x', s', J, h1, R', E, hp⟩ := argOf_ok h R r
    simp only [awp] at h1
    exact ⟨_, s', J, h1, R', E, by simp only [AVRel]; exact ⟨y', rfl, hp⟩⟩
  | zs, .ptr .., y, I, s, Q, h, R, r => ⟨_, s, I, by simpa only [argOf, awp] using h, R, Ext.refl _ _ _ _, r⟩
  | zs, .clo .., y, I, s, Q, h, R, r => ⟨_, s, I, by simpa only [argOf, awp] using h, R, Ext.refl _ _ _ _, r⟩
  | zs, .eptr .., y, I, s, Q, h, R, r => by simp [argOf, awp] at h
  | zs, .own .., y, I, s, Q, h, R, r => by simp [argOf, awp] at h
  | zs, .tup .., y, I, s, Q, h, R, r => by simp [argOf, awp] at h
  | zs, .hdr .., y, I, s, Q, h, R, r => by simp [argOf, awp] at h
  | zs, .junk, y, I, s, Q, h, R, r => by simp [argOf, awp] at h
theorem argsOf_ok : ∀ {zs : List Nat} {vs : List AV} {ys : List Value} {I : Imm} {s : St} {Q : List AV → St → Prop}, awp P (argsOf zs vs) s Q → Rel C I G s ts w → AVRels I G s vs ys →
    ∃ vs' s' J, Q vs' s' ∧ Rel C J G s' ts w ∧ Ext C I J s s' G G ∧ AVRels J G s' vs' ys
  | zs, [], ys, I, s, Q, h, R, r => ⟨[], s, I, by simpa only [argsOf, awp] using h, R, Ext.refl _ _ _ _, r⟩
  | zs, c :: cs, ys, I, s, Q, h, R, r => by
    simp only [argsOf, awp_bind] at h
    simp only [AVRels] at r
    obtain ⟨y, ys', rfl, r1, r2⟩ := r
    obtain ⟨x, s1, J1, h1, R1, E1, p1⟩ := argOf_ok h R r1
    obtain ⟨xs, s2, J2, h2, R2, E2, p2⟩ := argsOf_ok h1 R1 (AVRels.keep E1.imm E1.keep r2)
    simp only [awp] at h2
    exact ⟨_, s2, J2, h2, R2, E1.trans E2, by simp only [AVRels]; exact ⟨y, ys', rfl, AVRel.keep E2.imm E2.keep p1, p2⟩⟩
end

mutual
theorem partOf_ok : ∀ {v : AV} {y : Value} {I : Imm} {s : St} {Q : AV → St → Prop}, awp P (partOf v) s Q → Rel C I G s ts w → AVRel I G s v y →
    ∃ v' s' J, Q v' s' ∧ Rel C J G s' ts w ∧ Ext C I J s s' G G ∧ AVRel J G s' v' y
  | .p x, y, I, s, Q, h, R, r => ⟨_, s, I, by simpa only [partOf, awp] using h, R, Ext.refl _ _ _ _, r⟩
  | .nilS, y, I, s, Q, h, R, r => ⟨_, s, I, by simpa only [partOf, awp] using h, R, Ext.refl _ _ _ _, r⟩
  | .ref l n len, y, I, s, Q, h, R, r => by
    simp only [partOf, awp_bind] at h
    obtain ⟨x, s', J, h1, R', E, hp⟩ := snap_ok h R r
    simp only [awp] at h1
    exact ⟨_, s', J, h1, R', E, by simp only [AVRel]; exact hp⟩
  | .agg cs, y, I, s, Q, h, R, r => by
    simp only [partOf, awp_bind] at h
    simp only [AVRel] at r
    obtain ⟨vs, rfl, r⟩ := r
    obtain ⟨xs, s', J, h1, R', E, hp⟩ := partsOf_ok h R r
    simp only [awp] at h1
    exact ⟨_, s', J, h1, R', E, by simp only [AVRel]; exact ⟨vs, rfl, hp⟩⟩
  | .ifc t x, y, I, s, Q, h, R, r => by
    simp only [partOf, awp_bind] at h
    simp only [AVRel] at r
    obtain ⟨y', rfl, r⟩ := r
    obtain ⟨x', s', J, h1, R', E, hp⟩ := partOf_ok h R r
    simp only [awp] at h1
    exact ⟨_, s', J, h1, R', E, by simp only [AVRel]; exact ⟨y', rfl, hp⟩⟩
  | .ptr .., y, I, s, Q, h, R, r => ⟨_, s, I, by simpa only [partOf, awp] using h, R, Ext.refl _ _ _ _, r⟩
  | .clo .., y, I, s, Q, h, R, r => ⟨_, s, I, by simpa only [partOf, awp] using h, R, Ext.refl _ _ _ _, r⟩
  | .eptr .., y, I, s, Q, h, R, r => by simp [partOf, awp] at h
  | .own .., y, I, s, Q, h, R, r => by simp [partOf, awp] at h
  | .tup .., y, I, s, Q, h, R, r => by simp [partOf, awp] at h
  | .hdr .., y, I, s, Q, h, R, r => by simp [partOf, awp] at h
  | .junk, y, I, s, Q, h, R, r => by simp [partOf, awp] at h
theorem partsOf_ok : ∀ {vs : List AV} {ys : List Value} {I : Imm} {s : St} {Q : List AV → St → Prop}, awp P (partsOf vs) s Q → Rel C I G s ts w → AVRels I G s vs ys →
    ∃ vs' s' J, Q vs' s' ∧ Rel C J G s' ts w ∧ Ext C I J s s' G G ∧ AVRels J G s' vs' ys
  | [], ys, I, s, Q, h, R, r => ⟨[], s, I, by simpa only [partsOf, awp] using h, R, Ext.refl _ _ _ _, r⟩
  | c :: cs, ys, I, s, Q, h, R, r => by
    simp only [partsOf, awp_bind] at h
    simp only [AVRels] at r
    obtain ⟨y, ys', rfl, r1, r2⟩ := r
    obtain ⟨x, s1, J1, h1, R1, E1, p1⟩ := partOf_ok h R r1
    obtain ⟨xs, s2, J2, h2, R2, E2, p2⟩ := partsOf_ok h1 R1 (AVRels.keep E1.imm E1.keep r2)
    simp only [awp] at h2
    exact ⟨_, s2, J2, h2, R2, E1.trans E2, by simp only [AVRels]; exact ⟨y, ys', rfl, AVRel.keep E2.imm E2.keep p1, p2⟩⟩
end
end

end Go.Proofs.YtkjglhamlnnboaaDoor.Am
