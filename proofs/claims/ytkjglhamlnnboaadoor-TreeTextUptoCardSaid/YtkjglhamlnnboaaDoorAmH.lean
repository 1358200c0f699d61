/-
  THE ABSTRACT MACHINE, part H: what is written.
-/
import Derived.Test.YtkjglhamlnnboaaDoorAmG
set_option linter.unusedVariables false
set_option linter.unusedSimpArgs false
namespace Go.Proofs.YtkjglhamlnnboaaDoor.Am
open Go Go.RowKit

section
variable {P : Program} {C : Ctx} {I J : Imm} {G G' : Ghost} {s s' : St} {ts ts' : Array Value} {w w' : World}

theorem St.ext' {s t : St} (h1 : ∀ x, s.val x = t.val x) (h2 : ∀ x, s.ver x = t.ver x) : s = t := by
  cases s; cases t; simp only [St.mk.injEq]; exact ⟨funext h1, funext h2⟩

theorem Wrote.hdr {k : Nat} {y : Value} (W : Wrote C G s k y ts w ts' w') (h : ∀ n, s'.val (khdr n) = s.val (khdr n)) : Wrote C G s' k y ts w ts' w' := by
  cases W with
  | tmp hk => exact .tmp hk
  | cell n j e z cs w' hk hj hh hw hw' hs => exact .cell n j e z cs w' hk hj (by rw [h]; exact hh) hw hw' hs

theorem Wrote.notHdr {k : Nat} {y : Value} (W : Wrote C G s k y ts w ts' w') (R : Rel C I G s ts w) (n : Nat) : k ≠ khdr n := by
  cases W with
  | tmp hk => have := khdr_ge n; have := R.small; omega
  | cell n' j e z cs w' hk hj hh hw hw' hs => have := (R.objs _ _ _ hh).1; rw [hk]; exact kcell_ne_hdr (by omega)

theorem put_plain_ok {k : Nat} {v : AV} {y : Value} (R : Rel C I G s ts w) (W : Wrote C G s k y ts w ts' w') (h : AVRel I G s v y) :
    Rel C I G (s.set k v) ts' w' ∧ Ext C I I s (s.set k v) G G :=
  ⟨R.put_plain W h, Imm.le_refl I, Keeps.set s k v fun _ _ => ⟨rfl, rfl, rfl⟩, fun _ _ _ => rfl⟩

theorem putCell_ok {k : Nat} {ty : Option (Nat × Nat)} {v : AV} {y : Value} {Q : Unit → St → Prop} (h : awp P (putCell k ty v) s Q) (R : Rel C I G s ts w) (r : AVRel I G s v y) (hty : ∀ e z, ty = some (e, z) → 0 < z) (W : Wrote C G s k y ts w ts' w') :
    ∃ s' J G', Q () s' ∧ Rel C J G' s' ts' w' ∧ Ext C I J s s' G G' ∧ (∀ n, s'.val (khdr n) = s.val (khdr n) ∧ G'.blk (khdr n) = G.blk (khdr n)) := by
  have hsame : ∀ (v : AV) n, (s.set k v).val (khdr n) = s.val (khdr n) := by intro v n; simp [Ne.symm (W.notHdr R n)]
  cases v with
  | nilS =>
    simp only [putCell] at h
    split at h
    · rename_i e z
      simp only [awp] at h
      simp only [AVRel] at r
      subst r
      refine ⟨_, I, _, h, R.put_nil e z (hty e z rfl) W, ⟨Imm.le_refl I, Keeps.set s k _ fun x hx => by simp [Ghost.upd, hx], fun _ _ _ => rfl⟩, fun n => ⟨hsame _ n, by simp [Ghost.upd, Ne.symm (W.notHdr R n)]⟩⟩
    · simp [awp] at h
  | ref l n len =>
    simp only [putCell, awp_bind] at h
    obtain ⟨e, z, xs, fz, ho, hv, hlen, h⟩ := ownAt_ok h
    simp only [AVRel] at r
    have hy : y = addrOf G l len := r.2.2 hv.symm (by rw [ho]; rfl)
    have O := R.owns l e z xs fz ho
    simp only at h
    split at h
    · rename_i hc
      obtain ⟨rfl, rfl⟩ := hc
      simp only [awp] at h
      subst hy
      have hb : G.nil l = false → w'.heap[G.blk l]? = w.heap[G.blk l]? := by
        intro hn
        cases W with
        | tmp => rfl
        | cell n' j e' z' cs w' hk hj hh hw hw' hs =>
          refine hs.block _ fun hq => ?_
          have := R.inj l (khdr n') (.inr ⟨by simp [ho, AV.isOwn], hn⟩) (.inl (by simp [hh, AV.isHdr])) hq
          rw [this, hh] at ho
          cases ho
      refine ⟨_, I, G, h, R.put W (fun _ _ => ⟨rfl, rfl, rfl⟩) rfl ?_ ?_, ⟨Imm.le_refl I, Keeps.set s l _ fun _ _ => ⟨rfl, rfl, rfl⟩, fun _ _ _ => rfl⟩, fun n => ⟨hsame _ n, rfl⟩⟩
      · simp only [CellRel]
        rw [List.length_take, Nat.min_eq_left hlen]
      · intro e' z' xs' fz' hv'
        injection hv' with a1 a2 a3 a4
        subst a1 a2 a3 a4
        refine ⟨⟨O.pos, fun hn => by rw [O.nil hn]; simp, fun hn => ?_, fun hn o v hv => ?_⟩, fun hn => ⟨fun x hx hl he => hx (R.inj x l hl (.inr ⟨by simp [ho, AV.isOwn], hn⟩) he), ?_⟩⟩
        · obtain ⟨cur, c1, c2, c3, c4, c5⟩ := O.row hn
          refine ⟨cur, by rw [hb hn]; exact c1, by rw [List.length_take]; omega, c3, c4, fun r hr => c5.1 r (List.mem_of_mem_take hr), fun i j row x hi hj => ?_⟩
          refine c5.2 i j row x ?_ hj
          rw [List.getElem?_take] at hi
          split at hi
          · exact hi
          · cases hi
        · have := (O.imm hn o v hv).1; cases this
        · exact R.mine l (.inr ⟨by simp [ho, AV.isOwn], hn⟩)
    · split at h
      · rename_i _ hc
        obtain ⟨hlk, hl4, rfl⟩ := hc
        simp only [awp] at h
        subst hy
        obtain ⟨G', R1, g1, g2, g3, g4⟩ := R.put_from (Ne.symm hlk) hl4 ho W
        have hst : (s.set k (.own e z xs fz)).mod l (.ref k ((s.set k (.own e z xs fz)).ver k) xs.length) = ((s.mod l .junk).set k (.own e z xs fz)).mod l (.ref k ((s.set k (.own e z xs fz)).ver k) xs.length) := by
          apply St.ext'
          · intro x; simp only [St.mod_val, St.set_val]; split <;> rfl
          · intro x; simp only [St.mod_ver, St.set_ver]
        rw [hst] at h
        have R2 := R1.mod_plain (k := l) (v := .ref k ((s.set k (.own e z xs fz)).ver k) xs.length) rfl rfl ?_ ?_
        · refine ⟨_, I, G', h, R2, ⟨Imm.le_refl I, ?_, fun _ _ _ => rfl⟩, fun n => ⟨?_, (g4 _ (Ne.symm (W.notHdr R n))).1⟩⟩
          · refine (Keeps.mod s l .junk (by simp [AV.isOwn]) (by simp [AV.isHdr])).trans ((Keeps.set _ k _ g4).trans (Keeps.mod _ l _ (by simp [AV.isOwn]) (by simp [AV.isHdr])))
          · have h1 : khdr n ≠ l := by have := khdr_ge n; omega
            simp [h1, Ne.symm (W.notHdr R n)]
        · intro hlN
          have hold := R.tmps l hlN
          rw [ho] at hold
          simp only [CellRel] at hold
          have hts : ts'.getD l undef = ts.getD l undef := by
            cases W with
            | tmp hk => simp [Array.getD_eq_getD_getElem?, Array.getElem?_setIfInBounds, Ne.symm hlk]
            | cell => rfl
          rw [hts, hold]
          simp only [AVRel, St.set_ver, St.mod_ver, if_true]
          refine ⟨Nat.le_refl _, R.addr_slice ho rfl, fun _ _ => ?_⟩
          simp [addrOf, g1, g2, g3]
        · intro hlN
          have := R.high l (by omega) hl4
          rw [ho] at this; cases this
      · simp only [awp] at h
        obtain ⟨J, R1, E1, hp⟩ := R.mark ho
        have hh1 : ∀ n, (s.mod l (.own e z xs true)).val (khdr n) = s.val (khdr n) := by
          intro n
          have hq : khdr n ≠ l := by rintro rfl; have := R.hdrs n; rw [ho] at this; simp [AV.isOwn] at this
          simp [hq]
        subst hy
        have W1 := W.hdr hh1
        have hr : AVRel J G (s.mod l (.own e z xs true)) (.p (.sl z (xs.take len))) (addrOf G l len) := by simp only [AVRel]; exact hp len hlen
        obtain ⟨a1, a2⟩ := put_plain_ok R1 W1 hr
        exact ⟨_, J, G, h, a1, E1.trans a2, fun n => ⟨by rw [← hh1 n]; simp [Ne.symm (W.notHdr R n)], rfl⟩⟩
  | p x =>
    simp only [putCell] at h
    split at h
    · simp only [awp] at h
      obtain ⟨a1, a2⟩ := put_plain_ok R W r
      exact ⟨_, I, G, h, a1, a2, fun n => ⟨hsame _ n, rfl⟩⟩
    · simp [awp] at h
  | ptr => simp only [putCell, awp] at h; obtain ⟨a1, a2⟩ := put_plain_ok R W r; exact ⟨_, I, G, h, a1, a2, fun n => ⟨hsame _ n, rfl⟩⟩
  | eptr => simp only [putCell, awp] at h; obtain ⟨a1, a2⟩ := put_plain_ok R W r; exact ⟨_, I, G, h, a1, a2, fun n => ⟨hsame _ n, rfl⟩⟩
  | sref => simp only [putCell, awp] at h; obtain ⟨a1, a2⟩ := put_plain_ok R W r; exact ⟨_, I, G, h, a1, a2, fun n => ⟨hsame _ n, rfl⟩⟩
  | clo => simp only [putCell, awp] at h; obtain ⟨a1, a2⟩ := put_plain_ok R W r; exact ⟨_, I, G, h, a1, a2, fun n => ⟨hsame _ n, rfl⟩⟩
  | ifc =>
    simp only [putCell] at h
    split at h
    · simp only [awp] at h
      obtain ⟨a1, a2⟩ := put_plain_ok R W r
      exact ⟨_, I, G, h, a1, a2, fun n => ⟨hsame _ n, rfl⟩⟩
    · simp [awp] at h
  | own => simp [putCell, awp] at h
  | agg => simp [putCell, awp] at h
  | tup => simp [putCell, awp] at h
  | hdr => simp [putCell, awp] at h
  | junk => simp [putCell, awp] at h

theorem PVRel.one' {x : PV} {y : Value} (h : PVRel I x y) (ho : x.one = true) : y.oneCell' = true := by
  cases h with
  | v x => exact ho
  | agg => cases ho
  | _ => rfl

theorem putCell_one {k : Nat} {ty : Option (Nat × Nat)} {v : AV} {y : Value} {Q : Unit → St → Prop} (h : awp P (putCell k ty v) s Q) (r : AVRel I G s v y) : y.oneCell' = true := by
  cases v with
  | nilS => simp only [AVRel] at r; subst r; rfl
  | ref => simp only [AVRel] at r; obtain ⟨_, ⟨ad, c, rfl⟩, _⟩ := r; rfl
  | ptr => simp only [AVRel] at r; obtain ⟨_, ⟨ad, rfl⟩, _⟩ := r; rfl
  | eptr => simp only [AVRel] at r; obtain ⟨_, ⟨ad, rfl⟩, _⟩ := r; rfl
  | sref => simp only [AVRel] at r; obtain ⟨_, ⟨ad, c, rfl⟩, _⟩ := r; rfl
  | clo => simp only [AVRel] at r; obtain ⟨_, rfl, _⟩ := r; rfl
  | ifc => simp only [AVRel] at r; obtain ⟨_, rfl, _⟩ := r; rfl
  | p x =>
    simp only [putCell] at h
    split at h
    · rename_i ho; simp only [AVRel] at r; exact r.one' ho
    · simp [awp] at h
  | own => simp [putCell, awp] at h
  | agg => simp [putCell, awp] at h
  | tup => simp [putCell, awp] at h
  | hdr => simp [putCell, awp] at h
  | junk => simp [putCell, awp] at h

theorem addr_add (b o n : Nat) : (⟨b, o, none⟩ : Addr).add n = ⟨b, o + n, none⟩ := by unfold Addr.add; split <;> simp_all

/-- A store into a block that is known. -/
theorem store_known {b o e : Nat} {cs : Array Value} {y : Value} (hw : w.heap[b]? = some (.cells cs e (0, 0))) (ho : o < cs.size) (hy : y.oneCell' = true) :
    (store ⟨b, o, none⟩ y).run P w = .ok () (w.setCell ⟨b, o, none⟩ y) ∧ (w.setCell ⟨b, o, none⟩ y).heap[b]? = some (.cells (cs.setIfInBounds o y) e (0, 0)) ∧ Same w (w.setCell ⟨b, o, none⟩ y) b := by
  have hc : w.cell? ⟨b, o, none⟩ = some cs[o] := by simp [World.cell?, hw, ho]
  have hf : w.frozen? ⟨b, o, none⟩ = false := by simp [World.frozen?, hw]
  refine ⟨by rw [run_store P w _ y _ hy, hc]; simp [hf], ?_, ⟨rfl, rfl, rfl, by simp [World.setCell], fun k hk => ?_⟩⟩
  · have hb : b < w.heap.size := (Array.getElem?_eq_some_iff.1 hw).1
    simp [World.setCell, Array.getElem?_modify, hw]
  · simp only [World.setCell, Array.getElem?_modify]
    rw [if_neg (by exact fun h => hk h.symm)]

/-- Cells of an object are written, one behind the other. -/
theorem putCells_ok {n e z : Nat} : ∀ {tys : List (Option (Nat × Nat))} {vs : List AV} {ys : List Value} {o i : Nat} {I : Imm} {G : Ghost} {s : St} {w : World} {Q : Unit → St → Prop}, awp P (putCells (kcell n (o + i)) tys vs) s Q → Rel C I G s ts w → AVRels I G s vs ys →
    (∀ e z, some (e, z) ∈ tys → 0 < z) → s.val (khdr n) = .hdr e z → o + i + vs.length ≤ z →
    ∃ s' J G' w', (storeCells ⟨G.blk (khdr n), o, none⟩ ys i).run P w = .ok () w' ∧ Q () s' ∧ Rel C J G' s' ts w' ∧ Ext C I J s s' G G'
  | [], [], ys, o, i, I, G, s, w, Q, h, R, r, hty, hh, hz => by
    simp only [putCells, awp] at h
    simp only [AVRels] at r
    subst r
    exact ⟨s, I, G, w, by simp [storeCells], h, R, Ext.refl _ _ _ _⟩
  | t :: tys, v :: vs, ys, o, i, I, G, s, w, Q, h, R, r, hty, hh, hz => by
    simp only [putCells, awp_bind] at h
    simp only [AVRels] at r
    obtain ⟨y, ys', rfl, r1, r2⟩ := r
    simp only [List.length_cons] at hz
    obtain ⟨h62, cs, c1, c2, c3⟩ := R.objs n e z hh
    have hy := putCell_one h r1
    obtain ⟨hst, hs1, hs2⟩ := store_known (P := P) (o := o + i) (y := y) c1 (by omega) hy
    have W : Wrote C G s (kcell n (o + i)) y ts w ts (w.setCell ⟨G.blk (khdr n), o + i, none⟩ y) := .cell n (o + i) e z cs _ rfl (by omega) hh c1 hs1 hs2
    obtain ⟨s1, J1, G1, h1, R1, E1, H1⟩ := putCell_ok h R r1 (fun e z he => hty e z (by simp [he])) W
    rw [kcell_succ] at h1
    obtain ⟨s2, J2, G2, w2, hrun, h2, R2, E2⟩ := putCells_ok (o := o) (i := i + 1) h1 R1 (AVRels.keep E1.imm E1.keep r2) (fun e z he => hty e z (by simp [he])) (by rw [(H1 n).1]; exact hh) (by omega)
    refine ⟨s2, J2, G2, w2, ?_, h2, R2, E1.trans E2⟩
    rw [(H1 n).2] at hrun
    simp [storeCells, addr_add, hst, hrun]
  | [], _ :: _, ys, o, i, I, G, s, w, Q, h, R, r, hty, hh, hz => by simp [putCells, awp] at h
  | _ :: _, [], ys, o, i, I, G, s, w, Q, h, R, r, hty, hh, hz => by simp [putCells, awp] at h

theorem clear_ok {n : Nat} : ∀ {z j : Nat} {s : St} {Q : Unit → St → Prop}, awp P (clearA (kcell n j) z) s Q → Rel C I G s ts w →
    ∃ s', Q () s' ∧ Rel C I G s' ts w ∧ Ext C I I s s' G G ∧ (∀ i, j ≤ i → i < j + z → s'.val (kcell n i) = .junk) ∧ (∀ x, s'.val x = s.val x ∨ s'.val x = .junk) ∧ (∀ i, i < j → j + z ≤ 63 → s'.val (kcell n i) = s.val (kcell n i))
  | 0, j, s, Q, h, R => ⟨s, by simpa [clearA, awp] using h, R, Ext.refl _ _ _ _, fun i h1 h2 => by omega, fun x => .inl rfl, fun _ _ _ => rfl⟩
  | z + 1, j, s, Q, h, R => by
    simp only [clearA, awp, kcell_succ] at h
    have hge := kcell_ge n j
    have R1 : Rel C I G (s.mod (kcell n j) .junk) ts w := R.mod_plain rfl rfl (fun _ => by simp [AVRel]) (fun _ => rfl)
    have E1 : Ext C I I s (s.mod (kcell n j) .junk) G G := ⟨Imm.le_refl I, Keeps.mod s _ _ (by simp [AV.isOwn]) (by simp [AV.isHdr]), fun _ _ _ => rfl⟩
    obtain ⟨s', h1, R2, E2, h3, h4, h5⟩ := clear_ok h R1
    refine ⟨s', h1, R2, E1.trans E2, fun i hi1 hi2 => ?_, fun x => ?_, fun i hi hz => ?_⟩
    · by_cases hij : i = j
      · subst hij
        rcases h4 (kcell n i) with h6 | h6
        · rw [h6]; simp
        · exact h6
      · exact h3 i (by omega) (by omega)
    · rcases h4 x with h6 | h6
      · by_cases hx : x = kcell n j
        · right; rw [h6, hx]; simp
        · left; rw [h6]; simp [hx]
      · exact .inr h6
    · rw [h5 i (by omega) (by omega)]
      have : kcell n i ≠ kcell n j := by unfold kcell; omega
      simp [this]

/-- Cells that lie there already are told. -/
theorem tellCells_ok {n e z : Nat} : ∀ {tys : List (Option (Nat × Nat))} {vs : List AV} {ys : List Value} {i : Nat} {I : Imm} {G : Ghost} {s : St} {Q : Unit → St → Prop}, awp P (putCells (kcell n i) tys vs) s Q → Rel C I G s ts w → AVRels I G s vs ys →
    (∀ e z, some (e, z) ∈ tys → 0 < z) → s.val (khdr n) = .hdr e z → i + vs.length ≤ z → (∀ cs, w.heap[G.blk (khdr n)]? = some (.cells cs e (0, 0)) → ∀ j, j < ys.length → cs[i + j]? = ys[j]?) →
    ∃ s' J G', Q () s' ∧ Rel C J G' s' ts w ∧ Ext C I J s s' G G' ∧ s'.val (khdr n) = .hdr e z ∧ G'.blk (khdr n) = G.blk (khdr n)
  | [], [], ys, i, I, G, s, Q, h, R, r, hty, hh, hz, hc => by
    simp only [putCells, awp] at h
    exact ⟨s, I, G, h, R, Ext.refl _ _ _ _, hh, rfl⟩
  | t :: tys, v :: vs, ys, i, I, G, s, Q, h, R, r, hty, hh, hz, hc => by
    simp only [putCells, awp_bind] at h
    simp only [AVRels] at r
    obtain ⟨y, ys', rfl, r1, r2⟩ := r
    simp only [List.length_cons] at hz
    obtain ⟨h62, cs, c1, c2, c3⟩ := R.objs n e z hh
    have hcy : cs[i]? = some y := by simpa using hc cs c1 0 (by simp)
    have hset : cs.setIfInBounds i y = cs := by
      apply Array.ext_getElem?
      intro j
      rw [Array.getElem?_setIfInBounds]
      split
      · rename_i he; subst he; split
        · exact hcy.symm
        · rename_i hlt; exact absurd (Array.getElem?_eq_some_iff.1 hcy).1 hlt
      · rfl
    have W : Wrote C G s (kcell n i) y ts w ts w := .cell n i e z cs w rfl (by omega) hh c1 (by rw [hset]; exact c1) ⟨rfl, rfl, rfl, rfl, fun _ _ => rfl⟩
    obtain ⟨s1, J1, G1, h1, R1, E1, H1⟩ := putCell_ok h R r1 (fun e z he => hty e z (by simp [he])) W
    rw [kcell_succ] at h1
    obtain ⟨s2, J2, G2, h2, R2, E2, e1, e2⟩ := tellCells_ok (i := i + 1) h1 R1 (AVRels.keep E1.imm E1.keep r2) (fun e z he => hty e z (by simp [he])) (by rw [(H1 n).1]; exact hh) (by omega) (by
      intro cs' hcs' j hj
      rw [(H1 n).2] at hcs'
      have := hc cs' hcs' (j + 1) (by simpa using hj)
      rw [show i + 1 + j = i + (j + 1) by omega]
      simpa using this)
    exact ⟨s2, J2, G2, h2, R2, E1.trans E2, e1, by rw [e2, (H1 n).2]⟩
  | [], _ :: _, ys, i, I, G, s, Q, h, R, r, hty, hh, hz, hc => by simp [putCells, awp] at h
  | _ :: _, [], ys, i, I, G, s, Q, h, R, r, hty, hh, hz, hc => by simp [putCells, awp] at h

theorem newVar_run (e : Nat) (y : Value) : (newVar e y).run P w = .ok ⟨w.heap.size, 0, none⟩ (w.alloc (.cells y.cells e)) := by
  rfl

/-- A new object. -/
theorem newObj_ok {n e : Nat} {ty : List (Option (Nat × Nat))} {vs : List AV} {ys : List Value} {Q : AV → St → Prop} (h : awp P (newObjA n e ty vs) s Q) (R : Rel C I G s ts w) (r : AVRels I G s vs ys) (hty : ∀ e z, some (e, z) ∈ ty → 0 < z) :
    ∃ v s' J G', Q v s' ∧ Rel C J G' s' ts (w.alloc (.cells ys.toArray e)) ∧ Ext C I J s s' G G' ∧ AVRel J G' s' v (.pointer (some ⟨w.heap.size, 0, none⟩)) := by
  unfold newObjA at h
  split at h
  · rename_i hc
    obtain ⟨hc1, hc2⟩ := hc
    rw [awp_bind] at h
    have hyl := r.length
    have R0 : Rel C I G s ts (w.alloc (.cells ys.toArray e)) := R.grow (Grew.alloc w _)
    obtain ⟨s1, h1, R1, E1, j1, j2, j3⟩ := clear_ok (n := n) (j := 0) h R0
    simp only [awp] at h1
    have F1 : Free C G s1 (w.alloc (.cells ys.toArray e)) w.heap.size := by
      have F := R.free_new (w1 := w.alloc (.cells ys.toArray e)) (Grew.alloc w _) (by simp)
      refine ⟨F.lt, F.ge, F.prot, fun x hx => ?_⟩
      rcases j2 x with h2 | h2
      · exact F.live x (by unfold Live at hx ⊢; rwa [h2] at hx)
      · rcases live_val hx with h3 | h3 <;> simp [h2, AV.isHdr, AV.isOwn] at h3
    have hw1 : (w.alloc (.cells ys.toArray e)).heap[w.heap.size]? = some (.cells ys.toArray e (0, 0)) := heap_alloc_new w _
    have R2 := R1.put_hdr (n := n) (e := e) (z := vs.length) F1 (fun o => R.imm_lt (Nat.le_refl _) o) hw1 (by simp [hyl]) hc1 (fun j hj => j1 j (Nat.zero_le _) (by omega))
    have E2 : Ext C I I s1 (s1.set (khdr n) (.hdr e vs.length)) G (G.upd (khdr n) w.heap.size 0 false) := ⟨Imm.le_refl I, Keeps.set _ _ _ fun x hx => by simp [Ghost.upd, hx], fun _ _ _ => rfl⟩
    rw [awp_bind] at h1
    have r2 := AVRels.keep (E1.trans E2).imm (E1.trans E2).keep r
    have hb : (G.upd (khdr n) w.heap.size 0 false).blk (khdr n) = w.heap.size := by simp [Ghost.upd]
    obtain ⟨s3, J3, G3, h3, R3, E3, e1, e2⟩ := tellCells_ok (n := n) (e := e) (z := vs.length) (i := 0) h1 R2 r2 hty (by simp) (by omega) (by
      intro cs hcs j hj
      rw [hb, hw1] at hcs
      injection hcs with hcs
      injection hcs with hcs
      subst hcs
      simp)
    simp only [awp] at h3
    refine ⟨_, s3, J3, G3, h3, R3, (E1.trans E2).trans E3, ?_⟩
    simp only [AVRel]
    exact ⟨Nat.le_refl _, ⟨_, rfl⟩, fun _ _ => by rw [e2, hb]⟩
  · simp [awp] at h

/-! ### What is read -/

theorem hdrAt_ok {n ver : Nat} {Q : _ → St → Prop} (h : awp P (hdrAt n ver) s Q) : ∃ e z, s.val (khdr n) = .hdr e z ∧ s.ver (khdr n) = ver ∧ Q (e, z) s := by
  simp only [hdrAt, awp] at h
  split at h
  · rename_i e z hv
    split at h
    · rename_i hc; exact ⟨e, z, hv, hc, h⟩
    · simp [awp] at h
  · simp [awp] at h

theorem rdCells_ok {n e z : Nat} (R : Rel C I G s ts w) (hh : s.val (khdr n) = .hdr e z) : ∀ {m o : Nat} {Q : List AV → St → Prop}, awp P (rdCells (kcell n o) m) s Q → o + m ≤ z →
    ∃ vs ys, Q vs s ∧ vs.length = m ∧ AVRels I G s vs ys ∧ ∀ j, j < m → w.cell? ⟨G.blk (khdr n), o + j, none⟩ = ys[j]?
  | 0, o, Q, h, hz => ⟨[], [], by simpa [rdCells, awp] using h, rfl, by simp [AVRels], fun j hj => by omega⟩
  | m + 1, o, Q, h, hz => by
    simp only [rdCells, awp, kcell_succ, awp_bind] at h
    obtain ⟨vs, ys, h1, hl, r, hc⟩ := rdCells_ok R hh h (by omega)
    obtain ⟨h62, cs, c1, c2, c3⟩ := R.objs n e z hh
    have hcell := c3 o (by omega)
    have hcs : cs[o]? = some (cs.getD o undef) := by simp [Array.getD_eq_getD_getElem?, Array.getElem?_eq_getElem (show o < cs.size by omega)]
    have hrd : w.cell? ⟨G.blk (khdr n), o, none⟩ = some (cs.getD o undef) := by simpa [World.cell?, c1] using hcs
    have htail : ∀ j, j < m + 1 → w.cell? ⟨G.blk (khdr n), o + j, none⟩ = (cs.getD o undef :: ys)[j]? := by
      intro j hj
      cases j with
      | zero => simpa using hrd
      | succ j => have := hc j (by omega); rw [show o + (j + 1) = o + 1 + j by omega]; simpa using this
    split at h1
    · rename_i e' z' xs fz hv
      simp only [awp] at h1
      rw [hv] at hcell
      simp only [CellRel] at hcell
      refine ⟨_, _, h1, by simp [hl], ?_, htail⟩
      simp only [AVRels]
      refine ⟨_, _, rfl, ?_, r⟩
      simp only [AVRel]
      exact ⟨Nat.le_refl _, R.addr_slice hv hcell, fun _ _ => hcell⟩
    · simp [awp] at h1
    · rename_i hno _
      simp only [awp] at h1
      refine ⟨_, _, h1, by simp [hl], ?_, htail⟩
      simp only [AVRels]
      refine ⟨_, _, rfl, hcell.to ?_, r⟩
      cases hv : s.val (kcell n o) with
      | own e z xs fz => exact absurd hv (hno e z xs fz)
      | _ => rfl

/-- A variable is read. -/
theorem loadVar_run {t : Nat} {ti : TI} (hti : TiOk P t ti) {b o : Nat} {ys : List Value} (hl : ys.length = ti.size) (hc : ∀ j, j < ti.size → w.cell? ⟨b, o + j, none⟩ = ys[j]?) :
    (loadVar t ⟨b, o, none⟩).run P w = if ti.shape.agg then .ok (.agg ys.toArray) w else match ys[0]? with | some y => .ok y w | none => (load ⟨b, o, none⟩).run P w := by
  have h1 := run_loadCells_list (P := P) w ⟨b, o, none⟩ ys (fun j v hv => by rw [addr_add, hc j (by rw [← hl]; exact (List.getElem?_eq_some_iff.1 hv).1)]; exact hv)
  rw [hl] at h1
  simp only [loadVar, Sem.run_bind, hti.run_agg, Result.andThen_ok]
  split
  · simp [hti.run_size, h1]
  · cases hy : ys[0]? with
    | none => rfl
    | some y =>
      have h0 : 0 < ti.size := by rw [← hl]; exact (List.getElem?_eq_some_iff.1 hy).1
      have := hc 0 h0
      simp only [Nat.add_zero, hy] at this
      simp [load, Sem.run, this]

theorem packA_ok {b : Bool} {vs : List AV} {ys : List Value} {Q : AV → St → Prop} (h : awp P (packA b vs) s Q) (r : AVRels I G s vs ys) : ∃ v y, Q v s ∧ AVRel I G s v y ∧ (if b then y = .agg ys.toArray else ys[0]? = some y) := by
  unfold packA at h
  split at h
  · rename_i hb
    simp only [awp] at h
    exact ⟨_, _, h, by simp only [AVRel]; exact ⟨ys, rfl, r⟩, by simp [hb]⟩
  · rename_i hb
    split at h
    · simp only [awp] at h
      simp only [AVRels] at r
      obtain ⟨y, ys', rfl, r1, _⟩ := r
      exact ⟨_, y, h, r1, by simp [hb]⟩
    · simp [awp] at h

theorem AVRels.of_p {cs : List PV} : ∀ {ys : List Value}, ys.length = cs.length → (∀ j x, cs[j]? = some x → PVRel I x (ys.getD j undef)) → AVRels I G s (cs.map .p) ys := by
  induction cs with
  | nil => intro ys hl _; simp at hl; subst hl; simp [AVRels]
  | cons c cs ih =>
    intro ys hl h
    cases ys with
    | nil => simp at hl
    | cons y ys =>
      simp only [List.map_cons, AVRels]
      refine ⟨y, ys, rfl, ?_, ih (by simpa using hl) (fun j x hj => by simpa using h (j + 1) x (by simpa using hj))⟩
      simp only [AVRel]
      simpa using h 0 c (by simp)

/-- Cells of a row, or behind a pointer, by their places. -/
theorem row_list {b o n : Nat} {f : Nat → Value} {cs : List PV} (hlen : n ≤ cs.length) (hc : ∀ k, k < n → w.cell? ⟨b, o + k, none⟩ = some (f k)) (hr : ∀ j x, cs[j]? = some x → j < n → PVRel I x (f j)) :
    ∃ ys : List Value, ys.length = n ∧ AVRels I G s ((cs.take n).map .p) ys ∧ ∀ j, j < n → w.cell? ⟨b, o + j, none⟩ = ys[j]? := by
  refine ⟨(List.range n).map f, by simp, AVRels.of_p (by simp; omega) (fun j x hj => ?_), fun j hj => by rw [hc j hj]; simp [hj]⟩
  rw [List.getElem?_take] at hj
  split at hj
  · rename_i hjn
    rw [List.getD_eq_getElem?_getD]
    simp only [List.getElem?_map, List.getElem?_range hjn, Option.map_some, Option.getD_some]
    exact hr j x hj hjn
  · cases hj

theorem load_ok {t : Nat} {ti : TI} (hti : TiOk P t ti) {v : AV} {y : Value} {Q : AV → St → Prop} (h : awp P (loadA ti v) s Q) (R : Rel C I G s ts w) (r : AVRel I G s v y) :
    ∃ u x, (Instr.loadAt t y).run P w = .ok x w ∧ Q u s ∧ AVRel I G s u x := by
  -- an address and the cells there
  have key : ∀ (b o : Nat) (vs : List AV) (ys : List Value), y = .pointer (some ⟨b, o, none⟩) → ys.length = ti.size → AVRels I G s vs ys → (∀ j, j < ti.size → w.cell? ⟨b, o + j, none⟩ = ys[j]?) → awp P (packA ti.shape.agg vs) s Q →
      ∃ u x, (Instr.loadAt t y).run P w = .ok x w ∧ Q u s ∧ AVRel I G s u x := by
    intro b o vs ys hy hl hr hc hp
    subst hy
    obtain ⟨u, x, h1, h2, h3⟩ := packA_ok hp hr
    refine ⟨u, x, ?_, h1, h2⟩
    simp only [Instr.loadAt, Instr.sureAddr, Sem.run_bind, Sem.run_pure, Result.andThen_ok]
    rw [loadVar_run hti hl hc]
    split
    · rename_i hb; simp only [hb, if_true] at h3; rw [h3]
    · rename_i hb; simp only [hb, if_false, Bool.false_eq_true] at h3; simp [h3]
  cases v with
  | ptr n ver off =>
    simp only [loadA, awp_bind] at h
    obtain ⟨e, z, hh, hv, h⟩ := hdrAt_ok h
    simp only at h
    split at h
    · rename_i hz
      rw [awp_bind] at h
      obtain ⟨vs, ys, h1, hl, hr, hc⟩ := rdCells_ok R hh h hz
      simp only [AVRel] at r
      have hy := r.2.2 hv.symm (by rw [hh]; rfl)
      exact key _ off vs ys hy (by rw [hr.length, hl]) hr hc h1
    · simp [awp] at h
  | eptr l n i j =>
    simp only [loadA, awp] at h
    split at h
    · rename_i e z xs fz ho
      split at h
      · rename_i hn
        split at h
        · rename_i row hrow
          split at h
          · rename_i hj
            simp only [AVRel] at r
            obtain ⟨hnil, hy⟩ := r.2.2 hn.symm (by rw [ho]; rfl)
            simp only [ho, AV.ownZ] at hy
            obtain ⟨cur, c1, c2, c3, c4, c5⟩ := (R.owns l e z xs fz ho).row hnil
            have hcell : ∀ k, k < ti.size → ∃ y, cur[i * z + j + k]? = some y ∧ ∀ x, row[j + k]? = some x → PVRel I x y := by
              intro k hk
              have hlt : j + k < row.length := by omega
              obtain ⟨y, y1, y2, y3⟩ := c5.2 i (j + k) row _ hrow (List.getElem?_eq_getElem hlt)
              refine ⟨y, by simpa [Nat.add_assoc] using y1, fun x hx => ?_⟩
              rw [List.getElem?_eq_getElem hlt] at hx
              injection hx with hx
              subst hx
              exact y2
            obtain ⟨ys, y1, y2, y3⟩ := row_list (I := I) (G := G) (s := s) (w := w) (b := G.blk l) (o := i * z + j) (n := ti.size) (f := fun k => cur.getD (i * z + j + k) undef) (cs := row.drop j) (by simp; omega)
              (fun k hk => by
                obtain ⟨y, q1, _⟩ := hcell k hk
                simp [World.cell?, c1, Array.getD_eq_getD_getElem?, q1])
              (fun k x hx hk => by
                obtain ⟨y, q1, q2⟩ := hcell k hk
                simp only [Array.getD_eq_getD_getElem?, q1, Option.getD_some]
                exact q2 x (by simpa using hx))
            exact key _ _ _ ys hy y1 y2 y3 h
          · simp [awp] at h
        · simp [awp] at h
      · simp [awp] at h
    · simp [awp] at h
  | p x =>
    cases x with
    | ptr cs =>
      simp only [loadA] at h
      split at h
      · rename_i hz
        simp only [AVRel] at r
        cases r with
        | ptr cs b o val hI h1 hr =>
          obtain ⟨ys, y1, y2, y3⟩ := row_list (I := I) (G := G) (s := s) (w := w) (b := b) (o := o) (n := ti.size) (f := val) (cs := cs) hz (fun k hk => R.imm _ _ _ (hI k (by omega))) (fun j x hj _ => hr j x hj)
          exact key b o _ ys rfl y1 y2 y3 h
      · simp [awp] at h
    | _ => simp [loadA, awp] at h
  | _ => simp [loadA, awp] at h

/-- A value's cells. -/
theorem cellsA_ok {v : AV} {y : Value} (r : AVRel I G s v y) (ht : ∀ vs, v ≠ .tup vs) (hj : v ≠ .junk) : ∃ ys, y.cells = ys.toArray ∧ AVRels I G s (cellsA v) ys := by
  have one : ∀ (hv : y.oneCell' = true ∨ ∃ vs, y = .tuple vs), AVRels I G s [v] [y] ∧ y.cells = [y].toArray := by
    intro hv
    refine ⟨by simp only [AVRels]; exact ⟨y, [], rfl, r, rfl⟩, ?_⟩
    rcases hv with hv | ⟨vs, rfl⟩
    · cases y <;> simp_all [Value.oneCell', Value.cells]
    · rfl
  cases v with
  | agg cs =>
    simp only [AVRel] at r
    obtain ⟨vs, rfl, r⟩ := r
    exact ⟨vs, rfl, r⟩
  | p x =>
    cases x with
    | agg cs =>
      simp only [AVRel] at r
      cases r with
      | agg cs vs hl hr => exact ⟨vs, rfl, AVRels.of_p hl hr⟩
    | v x =>
      simp only [AVRel] at r
      cases r
      have hp : AVRels I G s [.p (.v y)] [y] := by simp only [AVRels, AVRel]; exact ⟨y, [], rfl, .v y, rfl⟩
      cases y with
      | agg c =>
        refine ⟨c.toList, by simp [Value.cells], ?_⟩
        have : ∀ l : List Value, AVRels I G s (l.map fun x => .p (.v x)) l := by
          intro l
          induction l with
          | nil => simp [AVRels]
          | cons a l ih => simp only [List.map_cons, AVRels, AVRel]; exact ⟨a, l, rfl, .v a, ih⟩
        exact this c.toList
      | _ => exact ⟨_, rfl, hp⟩
    | sl xs => simp only [AVRel] at r; have : y.oneCell' = true := r.one' rfl; exact ⟨[y], (one (.inl this)).2, (one (.inl this)).1⟩
    | ptr xs => simp only [AVRel] at r; have : y.oneCell' = true := r.one' rfl; exact ⟨[y], (one (.inl this)).2, (one (.inl this)).1⟩
    | iface t x => simp only [AVRel] at r; have : y.oneCell' = true := r.one' rfl; exact ⟨[y], (one (.inl this)).2, (one (.inl this)).1⟩
  | nilS => simp only [AVRel] at r; subst r; exact ⟨_, rfl, by simp only [cellsA, AVRels, AVRel]; exact ⟨_, [], rfl, rfl, rfl⟩⟩
  | ptr => simp only [AVRel] at r; obtain ⟨h1, ⟨ad, rfl⟩, h3⟩ := r; exact ⟨[_], rfl, by simp only [cellsA, AVRels, AVRel]; exact ⟨_, [], rfl, ⟨h1, ⟨ad, rfl⟩, h3⟩, rfl⟩⟩
  | ref => simp only [AVRel] at r; obtain ⟨h1, ⟨ad, c, rfl⟩, h3⟩ := r; exact ⟨[_], rfl, by simp only [cellsA, AVRels, AVRel]; exact ⟨_, [], rfl, ⟨h1, ⟨ad, c, rfl⟩, h3⟩, rfl⟩⟩
  | eptr => simp only [AVRel] at r; obtain ⟨h1, ⟨ad, rfl⟩, h3⟩ := r; exact ⟨[_], rfl, by simp only [cellsA, AVRels, AVRel]; exact ⟨_, [], rfl, ⟨h1, ⟨ad, rfl⟩, h3⟩, rfl⟩⟩
  | sref => simp only [AVRel] at r; obtain ⟨h1, ⟨ad, c, rfl⟩, h3⟩ := r; exact ⟨[_], rfl, by simp only [cellsA, AVRels, AVRel]; exact ⟨_, [], rfl, ⟨h1, ⟨ad, c, rfl⟩, h3⟩, rfl⟩⟩
  | clo => simp only [AVRel] at r; obtain ⟨cs, rfl, h⟩ := r; exact ⟨[_], rfl, by simp only [cellsA, AVRels, AVRel]; exact ⟨_, [], rfl, ⟨cs, rfl, h⟩, rfl⟩⟩
  | ifc => simp only [AVRel] at r; obtain ⟨y', rfl, h⟩ := r; exact ⟨[_], rfl, by simp only [cellsA, AVRels, AVRel]; exact ⟨_, [], rfl, ⟨y', rfl, h⟩, rfl⟩⟩
  | own => simp only [AVRel] at r
  | hdr => simp only [AVRel] at r
  | tup vs => exact absurd rfl (ht vs)
  | junk => exact absurd rfl hj
end

end Go.Proofs.YtkjglhamlnnboaaDoor.Am
