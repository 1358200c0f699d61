/-
  THE ABSTRACT MACHINE, part K: what is built, and one operation.
-/
import Derived.Test.YtkjglhamlnnboaaDoorAmJ
import Derived.Laws.Tables
import Derived.Laws.OwnMore
import Derived.Great.BuildSlice
set_option linter.unusedVariables false
set_option linter.unusedSimpArgs false
namespace Go.Proofs.YtkjglhamlnnboaaDoor.Am
open Go Go.RowKit

section
variable {P : Program} {T : Tab} {C : Ctx} {I J : Imm} {G G' : Ghost} {s s' : St} {ts ts' : Array Value} {w w' : World}

theorem foldl_set (off : Nat) : ∀ (l : List Value) (k : Nat) (cs : Array Value), off + k + l.length ≤ cs.size →
    (l.zipIdx k).foldl (fun cs x => cs.setIfInBounds (off + x.2) x.1) cs = laid cs (off + k) l
  | [], k, cs, h => by simp [laid]
  | v :: l, k, cs, h => by
    simp only [List.length_cons] at h
    simp only [List.zipIdx_cons, List.foldl_cons]
    rw [foldl_set off l (k + 1) _ (by simp; omega)]
    apply Array.ext_getElem?
    intro i
    rw [laid_get (by simp; omega), laid_get (by simp; omega)]
    simp only [Array.getElem?_setIfInBounds, List.length_cons]
    by_cases h1 : i = off + k
    · subst h1
      simp [show ¬ (off + (k + 1) ≤ off + k) by omega, show off + k < cs.size by omega]
    · simp only [show ¬ off + k = i by omega, if_false]
      by_cases h2 : off + (k + 1) ≤ i ∧ i < off + (k + 1) + l.length
      · rw [if_pos h2, if_pos (by omega), show i - (off + k) = (i - (off + (k + 1))) + 1 by omega]; simp
      · rw [if_neg h2, if_neg (by omega)]

theorem fill_step (place : Nat → Option (Nat × Nat)) (cs : Array Value) (i : Nat) (v : Value) (rest : List (Nat × Value)) {off size : Nat} (hp : place i = some (off, size)) (hv : v.cells.size = size) (hs : off + size ≤ cs.size) :
    Instr.fill place cs ((i, v) :: rest) = Instr.fill place (laid cs off v.cells.toList) rest := by
  have hf : (v.cells.zipIdx.foldl (fun cs x => cs.setIfInBounds (off + x.2) x.1) cs) = laid cs off v.cells.toList := by
    have := foldl_set off v.cells.toList 0 cs (by simp; omega)
    rw [Nat.add_zero] at this
    rw [← this, ← Array.foldl_toList]
    simp
  simp only [Instr.fill, hp]
  rw [if_neg (by simp [hv]; omega)]
  exact congrArg (fun x => Instr.fill place x rest) hf

theorem layAt_spec {α : Type} {cs cs' : List α} {off : Nat} {xs : List α} (h : layAt cs off xs = some cs') : off + xs.length ≤ cs.length ∧ cs' = cs.take off ++ xs ++ cs.drop (off + xs.length) := by
  unfold layAt at h
  split at h
  · injection h with h; exact ⟨by assumption, h.symm⟩
  · cases h

theorem AVRels.append : ∀ {a b : List AV} {x y : List Value}, AVRels I G s a x → AVRels I G s b y → AVRels I G s (a ++ b) (x ++ y)
  | [], b, x, y, h, k => by simp only [AVRels] at h; subst h; simpa using k
  | c :: a, b, x, y, h, k => by
    simp only [AVRels] at h
    obtain ⟨v, vs, rfl, h1, h2⟩ := h
    simp only [List.cons_append, AVRels]
    exact ⟨v, vs ++ y, rfl, h1, AVRels.append h2 k⟩
theorem AVRels.take : ∀ {a : List AV} {x : List Value} (n : Nat), AVRels I G s a x → AVRels I G s (a.take n) (x.take n)
  | [], x, n, h => by simp only [AVRels] at h; subst h; simp [AVRels]
  | c :: a, x, 0, h => by simp [AVRels]
  | c :: a, x, n + 1, h => by
    simp only [AVRels] at h
    obtain ⟨v, vs, rfl, h1, h2⟩ := h
    simp only [List.take_succ_cons, AVRels]
    exact ⟨v, vs.take n, rfl, h1, AVRels.take n h2⟩
theorem AVRels.drop : ∀ {a : List AV} {x : List Value} (n : Nat), AVRels I G s a x → AVRels I G s (a.drop n) (x.drop n)
  | [], x, n, h => by simp only [AVRels] at h; subst h; simp [AVRels]
  | c :: a, x, 0, h => by simpa using h
  | c :: a, x, n + 1, h => by
    simp only [AVRels] at h
    obtain ⟨v, vs, rfl, h1, h2⟩ := h
    simpa using AVRels.drop n h2

/-- Parts, and what they read. -/
def PartsRel (I : Imm) (G : Ghost) (s : St) : List (Nat × AV) → List (Nat × Value) → Prop
  | [], ys => ys = []
  | x :: xs, ys => ∃ y ys', ys = y :: ys' ∧ x.1 = y.1 ∧ AVRel I G s x.2 y.2 ∧ PartsRel I G s xs ys'

theorem PartsRel.keep {s s' : St} (hI : I.le J) (hk : Keeps s s' G G') : ∀ {xs : List (Nat × AV)} {ys : List (Nat × Value)}, PartsRel I G s xs ys → PartsRel J G' s' xs ys
  | [], ys, h => h
  | x :: xs, ys, h => by
    obtain ⟨y, ys', rfl, h1, h2, h3⟩ := h
    exact ⟨y, ys', rfl, h1, AVRel.keep hI hk h2, PartsRel.keep hI hk h3⟩

theorem partOf_solid {v : AV} {s : St} {Q : AV → St → Prop} (h : awp P (partOf v) s Q) : awp P (partOf v) s fun v' s' => Q v' s' ∧ (∀ vs, v' ≠ .tup vs) ∧ v' ≠ .junk := by
  cases v with
  | ref l n len =>
    simp only [partOf, awp_bind] at h ⊢
    exact awp_mono P _ _ h fun x s' h' => by simp only [awp] at h' ⊢; exact ⟨h', by simp, by simp⟩
  | agg cs =>
    simp only [partOf, awp_bind] at h ⊢
    exact awp_mono P _ _ h fun x s' h' => by simp only [awp] at h' ⊢; exact ⟨h', by simp, by simp⟩
  | ifc t x =>
    simp only [partOf, awp_bind] at h ⊢
    exact awp_mono P _ _ h fun x s' h' => by simp only [awp] at h' ⊢; exact ⟨h', by simp, by simp⟩
  | nilS => simp only [partOf, awp] at h ⊢; exact ⟨h, by simp, by simp⟩
  | p x => simp only [partOf, awp] at h ⊢; exact ⟨h, by simp, by simp⟩
  | ptr => simp only [partOf, awp] at h ⊢; exact ⟨h, by simp, by simp⟩
  | clo => simp only [partOf, awp] at h ⊢; exact ⟨h, by simp, by simp⟩
  | _ => simp [partOf, awp] at h

theorem buildA_ok (hT : TabOk P T) (fs : List (Nat × Nat)) (place : Nat → Option (Nat × Nat)) (hplace : ∀ i off t, fs[i]? = some (off, t) → place i = some (off, P.cellsOf t)) :
    ∀ {parts : List (Nat × AV)} {ys : List (Nat × Value)} {cs : List AV} {zs : List Value} {I : Imm} {s : St} {Q : List AV → St → Prop}, awp P (buildA T fs cs parts) s Q → Rel C I G s ts w → PartsRel I G s parts ys → AVRels I G s cs zs →
      ∃ cs' s' J zs', Instr.fill place zs.toArray ys = some zs' ∧ Q cs' s' ∧ Rel C J G s' ts w ∧ Ext C I J s s' G G ∧ AVRels J G s' cs' zs'.toList
  | [], ys, cs, zs, I, s, Q, h, R, hp, hc => by
    simp only [buildA, awp] at h
    have : ys = [] := hp
    subst this
    exact ⟨cs, s, I, zs.toArray, rfl, h, R, Ext.refl _ _ _ _, by simpa using hc⟩
  | (i, v) :: parts, ys, cs, zs, I, s, Q, h, R, hp, hc => by
    obtain ⟨y, ys', rfl, h1, h2, h3⟩ := hp
    simp only [buildA] at h
    split at h
    case h_2 => simp [awp] at h
    rename_i off t hf
    split at h
    case h_2 => simp [awp] at h
    rename_i ti hti
    rw [awp_bind] at h
    obtain ⟨v', s1, J1, ⟨h4, hs1, hs2⟩, R1, E1, r1⟩ := partOf_ok (partOf_solid h) R h2
    split at h4
    case isFalse => simp [awp] at h4
    rename_i hlen
    split at h4
    case h_2 => simp [awp] at h4
    rename_i cs1 hlay
    obtain ⟨hl1, hl2⟩ := layAt_spec hlay
    obtain ⟨zs1, hz1, hr1⟩ := cellsA_ok r1 hs1 hs2
    have hzl := hr1.length
    have hc1 := AVRels.keep E1.imm E1.keep hc
    have hcl := hc1.length
    have hsz : P.cellsOf t = ti.size := by
      obtain ⟨i, zv, q1, q2, _⟩ := (hT t ti hti).ex
      simp [Program.cellsOf, q1, q2]
    have hnew : AVRels J1 G s1 cs1 (laid zs.toArray off zs1).toList := by
      rw [hl2]
      simp only [laid]
      rw [← hzl]
      exact ((hc1.take off).append hr1).append (hc1.drop _)
    obtain ⟨cs2, s2, J2, zs2, hf2, h5, R2, E2, r2⟩ := buildA_ok hT fs place hplace h4 R1 (PartsRel.keep E1.imm E1.keep h3) hnew
    refine ⟨cs2, s2, J2, zs2, ?_, h5, R2, E1.trans E2, r2⟩
    obtain ⟨yi, yv⟩ := y
    simp only at h1 hz1
    subst h1
    rw [fill_step place zs.toArray i yv ys' (hplace i off t hf) (by rw [hz1, hsz]; simp; omega) (by rw [hsz]; simp; omega)]
    rw [hz1]
    simpa using hf2

theorem build_ok (hT : TabOk P T) {t : Nat} {ti : TI} (hti : TiOk P t ti) {fs : List (Nat × Nat)} (hs : ti.shape = .struct fs) {parts : List (Nat × AV)} {ys : Array (Nat × Value)} {Q : List AV → St → Prop} (h : awp P (buildA T fs ti.zero parts) s Q)
    (R : Rel C I G s ts w) (hp : PartsRel I G s parts ys.toList) : ∃ cs s' J zs, (Instr.build t ys).run P w = .ok (.agg zs) w ∧ Q cs s' ∧ Rel C J G s' ts w ∧ Ext C I J s s' G G ∧ AVRels J G s' cs zs.toList := by
  obtain ⟨d, hd, hsh⟩ := hti.und'
  rw [hs] at hsh
  obtain ⟨fields, rfl, hfs⟩ := shape_struct hsh
  obtain ⟨i, zv, hi, hsz, hby, hzv, hzc⟩ := hti.ex
  have hall : ∀ f, f ∈ fields.toList → (P.info? f.type).map (fun i => (f.offset, i.size)) = some (f.offset, P.cellsOf f.type) := by
    intro f hf
    have := hti.fld
    rw [hs] at this
    have h1 := List.all_eq_true.1 this (f.offset, f.type) (by rw [← hfs]; exact List.mem_map.2 ⟨f, hf, rfl⟩)
    simp only [Bool.and_eq_true, decide_eq_true_eq] at h1
    unfold Program.cellsOf at h1 ⊢
    cases hq : P.info? f.type with
    | none => simp [hq] at h1
    | some q => simp
  have hmap : ∀ l : List Field, (∀ f, f ∈ l → (P.info? f.type).map (fun i => (f.offset, i.size)) = some (f.offset, P.cellsOf f.type)) → l.mapM (fun f => (P.info? f.type).map fun i => (f.offset, i.size)) = some (l.map fun f => (f.offset, P.cellsOf f.type)) := by
    intro l
    induction l with
    | nil => intro _; rfl
    | cons f l ih => intro hl; simp [List.mapM_cons, hl f (by simp), ih (fun g hg => hl g (by simp [hg]))]
  have hz0 : AVRels I G s ti.zero (ti.zero.map AV.zeroV) := by
    have : ∀ l : List AV, (∀ v, v ∈ l → zeroLike v = true) → AVRels I G s l (l.map AV.zeroV) := by
      intro l
      induction l with
      | nil => intro _; simp [AVRels]
      | cons v l ih =>
        intro hl
        simp only [List.map_cons, AVRels]
        refine ⟨_, _, rfl, ?_, ih fun u hu => hl u (by simp [hu])⟩
        have := hl v (by simp)
        cases v with
        | p x => cases x with
          | v x => simp only [AVRel, AV.zeroV]; exact .v x
          | _ => simp [zeroLike] at this
        | nilS => simp [AVRel, AV.zeroV]
        | _ => simp [zeroLike] at this
    exact this ti.zero fun v hv => hti.zok hv
  have hplace : ∀ k off t, fs[k]? = some (off, t) → ((fields.toList.map fun f => (f.offset, P.cellsOf f.type)).toArray[·]? : Nat → Option (Nat × Nat)) k = some (off, P.cellsOf t) := by
    intro k off t hk
    rw [← hfs, List.getElem?_map] at hk
    cases hq : fields.toList[k]? with
    | none => simp [hq] at hk
    | some f =>
      simp only [hq, Option.map_some, Option.some.injEq, Prod.mk.injEq] at hk
      simp only [List.getElem?_toArray, List.getElem?_map, hq, Option.map_some, hk.1, hk.2]
  obtain ⟨cs', s', J, zs', hf, h1, R1, E1, r1⟩ := buildA_ok hT fs _ hplace h R hp hz0
  refine ⟨cs', s', J, zs', run_build w t ys zs' ?_, h1, R1, E1, r1⟩
  unfold Program.built
  simp only [hi, hd, hzv, hmap _ hall]
  rw [show zv.cells = (ti.zero.map AV.zeroV).toArray by rw [← hzc]]
  exact hf

theorem zeros_ok {ti : TI} {t : Nat} (hti : TiOk P t ti) {z : List PV} (hz : toPVs ti.zs ti.zero = some z) : z.length = ti.size ∧ ∀ (j : Nat) (x : PV), z[j]? = some x → ∃ y, (ti.zero.map AV.zeroV)[j]? = some y ∧ PVRel I x y ∧ y.oneCell' = true := by
  have key : ∀ (l : List AV) (zs : List Nat) (z : List PV), toPVs zs l = some z → (∀ v, v ∈ l → zeroLike v = true) → z.length = l.length ∧ ∀ (j : Nat) (x : PV), z[j]? = some x → ∃ y, (l.map AV.zeroV)[j]? = some y ∧ PVRel I x y ∧ y.oneCell' = true := by
    intro l
    induction l with
    | nil => intro zs z h _; simp only [toPVs, Option.some.injEq] at h; subst h; simp
    | cons v l ih =>
      intro zs z h hl
      have hv := hl v (by simp)
      cases v with
      | p q =>
        cases q with
        | v q =>
          simp only [toPVs, Option.map_eq_some_iff] at h
          obtain ⟨z', h1, rfl⟩ := h
          obtain ⟨h2, h3⟩ := ih _ z' h1 fun u hu => hl u (by simp [hu])
          refine ⟨by simp [h2], fun j x hj => ?_⟩
          cases j with
          | zero => simp at hj; subst hj; exact ⟨q, by simp [AV.zeroV], .v q, by simpa [zeroLike] using hv⟩
          | succ j => simpa using h3 j x (by simpa using hj)
        | _ => simp [zeroLike] at hv
      | nilS =>
        simp only [toPVs, Option.map_eq_some_iff] at h
        obtain ⟨z', h1, rfl⟩ := h
        obtain ⟨h2, h3⟩ := ih _ z' h1 fun u hu => hl u (by simp [hu])
        refine ⟨by simp [h2], fun j x hj => ?_⟩
        cases j with
        | zero => simp at hj; subst hj; exact ⟨.slice none 0 0, by simp [AV.zeroV], .nil _ none 0 (by simp [maxLen]), rfl⟩
        | succ j => simpa using h3 j x (by simpa using hj)
      | _ => simp [zeroLike] at hv
  obtain ⟨h1, h2⟩ := key ti.zero ti.zs z hz fun v hv => hti.zok hv
  exact ⟨by rw [h1, hti.zlen], h2⟩

theorem made_rows {ti : TI} {t : Nat} (hti : TiOk P t ti) {z : List PV} (hz : toPVs ti.zs ti.zero = some z) (hpos : 0 < ti.size) {zc : Array Value} (hzc : zc.toList = ti.zero.map AV.zeroV) (n : Nat) : RowsRel I ti.size (List.replicate n z) (madeCells zc (n * ti.size)).toList := by
  obtain ⟨h1, h2⟩ := zeros_ok (I := I) hti hz
  have hzs : zc.size = ti.size := by have : zc.toList.length = ti.size := by rw [hzc, List.length_map, hti.zlen]
                                     simpa using this
  refine ⟨fun r hr => by rw [(List.mem_replicate.1 hr).2, h1], fun i j row x hi hj => ?_⟩
  obtain ⟨hin, rfl⟩ : i < n ∧ row = z := by
    rw [List.getElem?_replicate] at hi
    split at hi
    · injection hi with hi; exact ⟨by assumption, hi.symm⟩
    · cases hi
  have hjz : j < ti.size := by rw [← h1]; exact (List.getElem?_eq_some_iff.1 hj).1
  obtain ⟨y, y1, y2, y3⟩ := h2 j x hj
  refine ⟨y, ?_, y2, y3⟩
  have hlt : i * ti.size + j < n * ti.size := by
    calc i * ti.size + j < i * ti.size + ti.size := by omega
      _ = (i + 1) * ti.size := by rw [Nat.add_mul, Nat.one_mul]
      _ ≤ n * ti.size := Nat.mul_le_mul_right _ hin
  have hm : (i * ti.size + j) % zc.size = j := by rw [hzs, Nat.mul_comm, Nat.mul_add_mod, Nat.mod_eq_of_lt hjz]
  rw [← hzc] at y1
  have hjc : j < zc.size := by omega
  have y1' : zc[j]? = some y := by simpa using y1
  have : zc[j]! = y := by simp [getElem!_def, y1']
  simp only [madeCells, Array.getElem?_toList, Array.getElem?_map, Array.getElem?_range, hlt, if_true, Option.map_some, hm, this]

theorem makeSlice_ok {t e d : Nat} {ti : TI} (ht : P.underlying t = some (.slice e)) (hti : TiOk P e ti) (hd : d < C.N) (R : Rel C I G s ts w) {n : Int} {z : List PV} (hz : toPVs ti.zs ti.zero = some z) (k1 k2 : IntKind) (h0 : 0 ≤ n) (h63 : n ≤ 9223372036854775807) (hb : n.toNat * ti.bytes ≤ roomA) (hpos : 0 < ti.size) :
    ∃ x w' G', (Instr.makeSlice t (.int k1 n) (.int k2 n)).run P w = .ok x w' ∧ Rel C I G' (s.set d (.own e ti.size (List.replicate n.toNat z) false)) (ts.setIfInBounds d x) w' ∧ Ext C I I s (s.set d (.own e ti.size (List.replicate n.toNat z) false)) G G' := by
  obtain ⟨i, zv, hi, hsz, hby, hzv, hzc⟩ := hti.ex
  obtain ⟨m, rfl⟩ := Int.eq_ofNat_of_zero_le h0
  simp only [Int.toNat_natCast] at hb ⊢
  have hrun := run_make (P := P) w t e i zv ht hi hzv k1 k2 (m : Int) (m : Int) (by omega) (by omega) (by
    rw [hby]
    have : ti.bytes * m ≤ 140737488355328 := by rw [Nat.mul_comm]; exact hb
    rw [← Int.natCast_mul]
    generalize ti.bytes * m = q at this
    omega) h63
  simp only [Int.toNat_natCast] at hrun
  have G1 : Grew w (w.alloc (.cells (madeCells zv.cells (m * i.size)) e)) := Grew.alloc w _
  obtain ⟨G', R2, E2⟩ := own_new (d := d) (e := e) (z := ti.size) (b := w.heap.size) (cap := m) (xs := List.replicate m z) (fz := false) (R.grow G1) hd (R.free_new G1 (by simp)) (fun o v hv => by rw [R.imm_lt (Nat.le_refl _) o] at hv; cases hv)
    (heap_alloc_new w _) hpos (by simp) (by simp only [maxLen]; omega) (by rw [size_madeCells, hsz]) (by rw [hsz]; exact made_rows hti hz hpos hzc m)
  rw [List.length_replicate] at R2
  exact ⟨_, _, G', hrun, R2, E2⟩

theorem buildRows_ok (z : Nat) (ws : List Nat) (hz : 0 < z) (n : Nat) : ∀ {parts : List (Nat × AV)} {ys : List (Nat × Value)} {rows : List (List PV)} {cs : Array Value} {I : Imm} {s : St} {Q : List (List PV) → St → Prop}, awp P (buildRows z ws rows parts) s Q → Rel C I G s ts w → PartsRel I G s parts ys → RowsRel I z rows cs.toList → rows.length = n → cs.size = n * z →
    ∃ rows' s' J cs', Instr.fill (fun i => some (i * z, z)) cs ys = some cs' ∧ Q rows' s' ∧ Rel C J G s' ts w ∧ Ext C I J s s' G G ∧ RowsRel J z rows' cs'.toList ∧ rows'.length = n ∧ cs'.size = n * z
  | [], ys, rows, cs, I, s, Q, h, R, hp, hc, hn, hs => by
    simp only [buildRows, awp] at h
    have : ys = [] := hp
    subst this
    exact ⟨rows, s, I, cs, rfl, h, R, Ext.refl _ _ _ _, hc, hn, hs⟩
  | (i, v) :: parts, ys, rows, cs, I, s, Q, h, R, hp, hc, hn, hs => by
    obtain ⟨⟨yi, yv⟩, ys', rfl, h1, h2, h3⟩ := hp
    simp only at h1 h2
    subst h1
    simp only [buildRows, awp_bind] at h
    have hgood : (∀ vs, v ≠ .tup vs) ∧ v ≠ .junk := by
      refine ⟨fun vs hv => ?_, fun hv => ?_⟩ <;> (subst hv; simp [cellsA, snaps, snap, awp, awp_bind, AM.bind] at h)
    obtain ⟨zs, hzs, r⟩ := cellsA_ok h2 hgood.1 hgood.2
    obtain ⟨xs, s1, J1, h4, R1, E1, hl, hpv⟩ := snaps_ok h R r
    split at h4
    case isFalse => simp [awp] at h4
    rename_i hc4
    obtain ⟨hxl, hir, hone⟩ := hc4
    have hiz : i * z + z ≤ cs.size := by
      rw [hs]
      calc i * z + z = (i + 1) * z := by rw [Nat.add_mul, Nat.one_mul]
        _ ≤ n * z := Nat.mul_le_mul_right _ (by omega)
    have hc' := hc.mono E1.imm
    have hrows : RowsRel J1 z (rows.set i xs) (laid cs (i * z) zs).toList := by
      refine ⟨fun r hr => ?_, fun i' j' row' x hi' hj' => ?_⟩
      · rcases List.mem_or_eq_of_mem_set hr with h | h
        · exact hc.1 r h
        · rw [h]; exact hxl
      · rw [List.getElem?_set] at hi'
        simp only [Array.getElem?_toList]
        rw [laid_get (by omega)]
        by_cases hii : i = i'
        · subst hii
          simp only [if_true, hir] at hi'
          injection hi' with hi'
          subst hi'
          have hjz : j' < zs.length := by rw [hl]; exact (List.getElem?_eq_some_iff.1 hj').1
          rw [if_pos (by omega), show i * z + j' - i * z = j' by omega]
          have := hpv j' x hj'
          rw [List.getD_eq_getElem?_getD, List.getElem?_eq_getElem hjz, Option.getD_some] at this
          exact ⟨_, List.getElem?_eq_getElem hjz, this, this.one' (List.all_eq_true.1 hone x (List.mem_of_getElem? hj'))⟩
        · simp only [hii, if_false] at hi'
          obtain ⟨y, y1, y2, y3⟩ := hc'.2 i' j' row' x hi' hj'
          refine ⟨y, ?_, y2, y3⟩
          rw [if_neg]
          · simpa using y1
          · intro h3
            have hjz : j' < z := by rw [← hc.1 row' (List.mem_of_getElem? hi')]; exact (List.getElem?_eq_some_iff.1 hj').1
            rcases Nat.lt_or_gt_of_ne hii with h | h
            · have : (i + 1) * z ≤ i' * z := Nat.mul_le_mul_right _ h
              rw [Nat.add_mul, Nat.one_mul] at this; omega
            · have : (i' + 1) * z ≤ i * z := Nat.mul_le_mul_right _ h
              rw [Nat.add_mul, Nat.one_mul] at this; omega
    obtain ⟨rows2, s2, J2, cs2, hf2, h5, R2, E2, r2, l2, z2⟩ := buildRows_ok z ws hz n h4 R1 (PartsRel.keep E1.imm E1.keep h3) hrows (by simpa using hn) (by rw [laid_size (by omega)]; exact hs)
    refine ⟨rows2, s2, J2, cs2, ?_, h5, R2, E1.trans E2, r2, l2, z2⟩
    rw [fill_step (fun i => some (i * z, z)) cs i yv ys' rfl (by rw [hzs]; simp; omega) (by omega), hzs]
    simpa using hf2

theorem buildSlice_ok {t e d len : Nat} {ti : TI} (ht : P.underlying t = some (.slice e)) (hti : TiOk P e ti) (hd : d < C.N) {z : List PV} (hz : toPVs ti.zs ti.zero = some z) (hpos : 0 < ti.size) (h24 : len * ti.size ≤ 16777216) {parts : List (Nat × AV)} {ys : Array (Nat × Value)} {Q : Unit → St → Prop}
    (h : awp P ((buildRows ti.size ti.zs (List.replicate len z) parts).bind fun rows => putD (some d) (.own e ti.size rows false)) s Q) (R : Rel C I G s ts w) (hp : PartsRel I G s parts ys.toList) :
    ∃ x s' J G' w', (Instr.buildSlice t len ys).run P w = .ok x w' ∧ Q () s' ∧ Rel C J G' s' (ts.setIfInBounds d x) w' ∧ Ext C I J s s' G G' := by
  obtain ⟨i, zv, hi, hsz, hby, hzv, hzc⟩ := hti.ex
  rw [awp_bind] at h
  have hm := made_rows (I := I) hti hz hpos hzc len
  obtain ⟨rows, s1, J1, cs, hf, h1, R1, E1, r1, l1, z1⟩ := buildRows_ok ti.size ti.zs hpos len h R hp hm (by simp) (size_madeCells _ _)
  simp only [putD, awp] at h1
  by_cases h0 : len = 0
  · -- no element: no part can be laid
    subst h0
    have hys : ys = #[] := by
      cases parts with
      | nil => have : ys.toList = [] := hp; simpa using this
      | cons x parts =>
        obtain ⟨i, v⟩ := x
        simp only [buildRows, awp_bind, List.replicate_zero] at h
        obtain ⟨y, ys', hy1, _, h2, _⟩ := hp
        exfalso
        have hgood : (∀ vs, v ≠ .tup vs) ∧ v ≠ .junk := by
          refine ⟨fun vs hv => ?_, fun hv => ?_⟩ <;> (subst hv; simp [cellsA, snaps, snap, awp, awp_bind, AM.bind] at h)
        obtain ⟨zs, hzs, r⟩ := cellsA_ok h2 hgood.1 hgood.2
        obtain ⟨xs, s1, J1, h4, _⟩ := snaps_ok h R r
        simp [awp] at h4
    subst hys
    have hrows : rows = [] := List.eq_nil_of_length_eq_zero l1
    subst hrows
    have hrun : (Instr.buildSlice t 0 #[]).run P w = .ok (.slice (some ⟨w.heap.size, 0, none⟩) 0 0) (w.alloc (.cells #[] e)) := by
      simp [Instr.buildSlice, run_underlying ht, sizeOf, typeInfo, hi, Instr.fill, newRow]
      have h00 : ∀ f : Nat → Value, Array.map f (Array.range 0) = #[] := by intro f; apply Array.ext'; simp
      rw [h00]
    have G1 : Grew w (w.alloc (.cells #[] e)) := Grew.alloc w _
    obtain ⟨G', R2, E2⟩ := own_new (d := d) (e := e) (z := ti.size) (b := w.heap.size) (cap := 0) (xs := []) (fz := false) (R1.grow G1) hd (R1.free_new G1 (by simp)) (fun o v hv => by rw [R1.imm_lt (Nat.le_refl _) o] at hv; cases hv)
      (heap_alloc_new w _) hpos (by simp) (by simp [maxLen]) (by simp) (by simp [RowsRel])
    exact ⟨_, _, J1, G', _, hrun, h1, R2, E1.trans E2⟩
  · have hlz : ¬ len * ti.size = 0 := by intro h; rcases Nat.mul_eq_zero.1 h with h | h <;> omega
    have hrun := run_buildSlice (P := P) w t e len ys cs i zv ht hi hzv (by rw [hsz]; omega) (by rw [hsz]; exact hlz) (by rw [hsz]; exact hf)
    have G1 : Grew w (w.alloc (.cells cs e)) := Grew.alloc w _
    obtain ⟨G', R2, E2⟩ := own_new (d := d) (e := e) (z := ti.size) (b := w.heap.size) (cap := len) (xs := rows) (fz := false) (R1.grow G1) hd (R1.free_new G1 (by simp)) (fun o v hv => by rw [R1.imm_lt (Nat.le_refl _) o] at hv; cases hv)
      (heap_alloc_new w _) hpos (by omega) (by simp only [maxLen]; have : len ≤ len * ti.size := Nat.le_mul_of_pos_right _ hpos; omega) z1 r1
    rw [l1] at R2
    exact ⟨_, _, J1, G', _, hrun, h1, R2, E1.trans E2⟩

theorem one_cells {y : Value} (h : y.oneCell' = true) : y.cells = #[y] := by
  cases y <;> first | rfl | (simp [Value.oneCell'] at h)

theorem fill_seq : ∀ (ys : List (Nat × Value)) (k : Nat) (cs : Array Value), ys.map (·.1) = List.range' k ys.length → (∀ y, y ∈ ys → y.2.oneCell' = true) → k + ys.length ≤ cs.size →
    Instr.fill (fun i => some (i * 1, 1)) cs ys = some (laid cs k (ys.map (·.2)))
  | [], k, cs, _, _, _ => by
    simp only [Instr.fill, List.map_nil, Option.some.injEq]
    apply Array.ext_getElem?
    intro i
    have := laid_get (cs := cs) (o := k) (ys := []) (by simpa using ‹k + 0 ≤ cs.size›) i
    rw [this, if_neg (by simp)]
  | (i, y) :: ys, k, cs, h, h1, hl => by
    simp only [List.length_cons, List.range'_succ, List.map_cons, List.cons.injEq] at h hl
    obtain ⟨rfl, h⟩ := h
    have hy := one_cells (h1 (i, y) (by simp))
    have hk : y.cells.toList = [y] := by rw [hy]
    rw [fill_step (fun i => some (i * 1, 1)) cs i y ys rfl (by rw [hy]; rfl) (by omega), hk]
    have hs := laid_size (cs := cs) (o := i * 1) (ys := [y]) (by simp; omega)
    rw [fill_seq ys (i + 1) _ h (fun z hz => h1 z (by simp [hz])) (by rw [hs]; omega)]
    simp only [Option.some.injEq, List.map_cons]
    apply Array.ext_getElem?
    intro j
    rw [laid_get (by rw [hs]; simp; omega), laid_get (by simp; omega), laid_get (by simp; omega)]
    simp only [List.length_map, List.length_cons, List.length_nil, Nat.mul_one]
    by_cases h2 : i + 1 ≤ j ∧ j < i + 1 + ys.length
    · rw [if_pos h2, if_pos (by omega), show j - i = (j - (i + 1)) + 1 by omega]; simp
    · rw [if_neg h2]
      by_cases h3 : j = i
      · subst h3; rw [if_pos (by omega), if_pos (by omega)]; simp
      · rw [if_neg (by omega), if_neg (by omega)]

theorem PartsRel.rels : ∀ {xs : List (Nat × AV)} {ys : List (Nat × Value)}, PartsRel I G s xs ys → AVRels I G s (xs.map (·.2)) (ys.map (·.2)) ∧ ys.map (·.1) = xs.map (·.1) ∧ ((xs.all fun x => slotOk x.2) = true → ∀ y, y ∈ ys → y.2.oneCell' = true)
  | [], ys, h => by
    have : ys = [] := h
    subst this
    simp [AVRels]
  | x :: xs, ys, h => by
    obtain ⟨y, ys', rfl, h1, h2, h3⟩ := h
    obtain ⟨k1, k2, k3⟩ := PartsRel.rels h3
    simp only [List.map_cons, AVRels, List.all_cons, Bool.and_eq_true]
    refine ⟨⟨_, _, rfl, h2, k1⟩, by rw [k2, h1], fun hs z hz => ?_⟩
    rcases List.mem_cons.1 hz with rfl | hz
    · have hs1 := hs.1
      obtain ⟨xi, xv⟩ := x
      cases xv with
      | ptr => simp only [AVRel] at h2; obtain ⟨_, ⟨ad, hq⟩, _⟩ := h2; rw [hq]; rfl
      | clo => simp only [AVRel] at h2; obtain ⟨_, hq, _⟩ := h2; rw [hq]; rfl
      | p x => simp only [AVRel] at h2; exact h2.one' hs1
      | _ => simp [slotOk] at hs1
    · exact k3 hs.2 z hz

theorem rowObj_ok {t e d len : Nat} {ti : TI} (ht : P.underlying t = some (.slice e)) (hti : TiOk P e ti) (hd : d < C.N) (h1s : ti.size = 1) (h62 : len ≤ 62) {parts : List (Nat × AV)} {ys : Array (Nat × Value)} {Q : Unit → St → Prop}
    (h : awp P (rowObj d e len parts) s Q) (R : Rel C I G s ts w) (hp : PartsRel I G s parts ys.toList) :
    ∃ x s' J G' w', (Instr.buildSlice t len ys).run P w = .ok x w' ∧ Q () s' ∧ Rel C J G' s' (ts.setIfInBounds d x) w' ∧ Ext C I J s s' G G' := by
  obtain ⟨i, zv, hi, hsz, hby, hzv, hzc⟩ := hti.ex
  unfold rowObj at h
  split at h
  case isFalse => simp [awp] at h
  rename_i hc
  obtain ⟨hc1, hc2, hc3⟩ := hc
  rw [awp_bind] at h
  obtain ⟨r1, r2, r3⟩ := hp.rels
  have hlen : ys.toList.length = len := by
    have := congrArg List.length (r2.trans hc1)
    simpa using this
  obtain ⟨v, s1, J, G1, h1, R1, E1, rv⟩ := newObj_ok h R r1 (by
    intro e' z' hm
    have := List.eq_of_mem_replicate hm
    cases this)
  split at h1
  case h_2 => simp [awp] at h1
  rename_i n m
  simp only [awp] at h1
  have rv' : AVRel J G1 s1 (.sref n m len) (.slice (some ⟨w.heap.size, 0, none⟩) len len) := by
    simp only [AVRel] at rv ⊢
    refine ⟨rv.1, ⟨_, _, rfl⟩, fun hv hh => ⟨len, ?_⟩⟩
    have := rv.2.2 hv hh
    injection this with this
    injection this with this
    rw [this]
  obtain ⟨a1, a2⟩ := put_plain_ok (k := d) R1 (.tmp hd) rv'
  refine ⟨_, _, J, G1, _, ?_, h1, a1, E1.trans a2⟩
  have hcs : zv.cells.size = 1 := by
    have : zv.cells.toList.length = ti.size := by rw [hzc, List.length_map]; exact hti.zlen
    rw [h1s] at this; simpa using this
  have hr1 : ys.toList.map (·.1) = List.range' 0 ys.toList.length := by rw [r2, hc1, hlen, List.range_eq_range']
  have hf := fill_seq ys.toList 0 ((Array.range (len * i.size)).map (zv.cells[· % zv.cells.size]!)) hr1 (r3 hc2) (by simp [hsz, h1s, hlen])
  have hl : laid ((Array.range (len * i.size)).map (zv.cells[· % zv.cells.size]!)) 0 (ys.toList.map (·.2)) = (ys.toList.map (·.2)).toArray := by
    apply Array.ext_getElem?
    intro j
    rw [laid_get (by simp [hsz, h1s]; rw [← Array.length_toList, hlen]; exact Nat.le_refl _)]
    by_cases hj : j < len
    · rw [if_pos (by simp; rw [← Array.length_toList, hlen]; exact hj)]; simp
    · rw [if_neg (by simp; rw [← Array.length_toList, hlen]; omega)]
      rw [Array.getElem?_eq_none (by simp [hsz, h1s]; omega), Array.getElem?_eq_none (by simp; rw [← Array.length_toList, hlen]; omega)]
  rw [hl] at hf
  have := run_buildSlice (P := P) w t e len ys _ i zv ht hi hzv (by rw [hsz, h1s]; omega) (by rw [hsz, h1s]; omega) (by rw [show i.size = 1 by rw [hsz, h1s]] at hf ⊢; exact hf)
  exact this
end

end Go.Proofs.YtkjglhamlnnboaaDoor.Am
