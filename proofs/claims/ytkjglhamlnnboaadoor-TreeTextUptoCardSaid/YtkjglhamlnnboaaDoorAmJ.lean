/-
  THE ABSTRACT MACHINE, part J: parts of rows, append, what is built.
-/
import Derived.Test.YtkjglhamlnnboaaDoorAmI
set_option linter.unusedVariables false
set_option linter.unusedSimpArgs false
namespace Go.Proofs.YtkjglhamlnnboaaDoor.Am
open Go Go.RowKit

section
variable {P : Program} {C : Ctx} {I J : Imm} {G G' : Ghost} {s s' : St} {ts ts' : Array Value} {w w' : World}

/-- A bound as the model reads it. -/
inductive BoundRel (d : Nat) : Option Value → Nat → Prop
  | none : BoundRel d none d
  | some (k : IntKind) (i : Nat) : BoundRel d (some (.int k i)) i

def OptRel (I : Imm) (G : Ghost) (s : St) : Option AV → Option Value → Prop
  | some v, some y => AVRel I G s v y
  | none, none => True
  | _, _ => False

theorem boundA_ok {d : Nat} {v : Option AV} {y : Option Value} {n : Nat} (h : boundA d v = some n) (r : OptRel I G s v y) : BoundRel d y n := by
  unfold boundA at h
  cases v with
  | none =>
    cases y with
    | none => injection h with h; subst h; exact .none
    | some y => exact r.elim
  | some v =>
    cases y with
    | none => exact r.elim
    | some y =>
      simp only [OptRel] at h r
      split at h
      · rename_i i hi
        split at h
        · rename_i h0
          injection h with h
          obtain ⟨k, rfl⟩ := intA_ok hi r
          subst h
          have : (i : Int) = (i.toNat : Int) := by omega
          rw [this]
          exact .some k _
        · cases h
      · cases h

theorem slice_run {t e : Nat} {ti : TI} (ht : P.underlying t = some (.slice e)) (hti : TiOk P e ti) {a : Option Addr} {len cap l h : Nat} {lo hi : Option Value} (hl : BoundRel 0 lo l) (hh : BoundRel len hi h) (hlh : l ≤ h) (hhl : h ≤ len) (hlc : len ≤ cap) :
    (Instr.sliceAt t (.slice a len cap) lo hi none).run P w = .ok (.slice (if cap = l then a else a.map (·.add (l * ti.size))) (h - l) (cap - l)) w := by
  have hb : (Instr.sliceBounds true len cap lo hi none).run P w = .ok (l, h, cap) w := by
    have h1 : h ≤ cap := by omega
    cases hl <;> cases hh <;> simp [Instr.sliceBounds, Instr.sliceBound, asIntOf, hlh, hhl, hlc, h1]
    all_goals trace_state
    all_goals omega
  simp [Instr.sliceAt, Instr.slice, run_underlying ht, hb, hti.run_size]

theorem PVRel.slice {z : Nat} {xs : List (List PV)} {a : Option Addr} {n cap : Nat} (h : PVRel I (.sl z xs) (.slice a n cap)) : n = xs.length ∧ n ≤ cap ∧ cap ≤ maxLen := by
  cases h with
  | nil z a cap hc => exact ⟨rfl, Nat.zero_le _, hc⟩
  | sl xs b o z cap val hz hn hl hc hm hI h1 hr => exact ⟨rfl, hc, hm⟩

theorem PVRel.slice_form {z : Nat} {xs : List (List PV)} {y : Value} (h : PVRel I (.sl z xs) y) : ∃ a cap, y = .slice a xs.length cap := by
  cases h with
  | nil z a cap hc => exact ⟨_, _, rfl⟩
  | sl xs b o z cap val hz hn hl hc hm hI h1 hr => exact ⟨_, _, rfl⟩

theorem PVRel.part {z sz : Nat} {xs : List (List PV)} {a : Option Addr} {n cap l h : Nat} (r : PVRel I (.sl z xs) (.slice a n cap)) (hlh : l ≤ h) (hhn : h ≤ xs.length) (hz : z = sz ∨ xs = []) :
    PVRel I (.sl z ((xs.take h).drop l)) (.slice (if cap = l then a else a.map (·.add (l * sz))) (h - l) (cap - l)) := by
  by_cases heq : h - l = 0
  · have : (xs.take h).drop l = [] := by apply List.eq_nil_of_length_eq_zero; simp; omega
    rw [this, heq]
    exact .nil _ _ _ (by have := r.slice.2.2; omega)
  · cases r with
    | nil z a cap hc => simp at hhn; omega
    | sl xs b o z cap val hz0 hn hl hc hm hI h1 hr =>
      have hzz : z = sz := by rcases hz with h | h; exact h; exact absurd h hn
      subst hzz
      have hlen : ((xs.take h).drop l).length = h - l := by simp; omega
      rw [if_neg (by omega), Option.map_some, addr_add]
      have := PVRel.sl (I := I) ((xs.take h).drop l) b (o + l * z) z (cap - l) (fun k => val (l * z + k)) hz0 (by intro h0; rw [h0] at hlen; simp at hlen; omega)
        (fun r hr => hl r (List.mem_of_mem_take (List.mem_of_mem_drop hr))) (by rw [hlen]; omega) (by omega) ?_ ?_ ?_
      · rwa [hlen] at this
      · intro k hk
        rw [hlen] at hk
        rw [Nat.add_assoc]
        exact hI _ (by calc l * z + k < l * z + (h - l) * z := by omega
                _ = (l + (h - l)) * z := by rw [Nat.add_mul]
                _ ≤ xs.length * z := Nat.mul_le_mul_right _ (by omega))
      · intro k hk
        rw [hlen] at hk
        exact h1 _ (by calc l * z + k < l * z + (h - l) * z := by omega
                _ = (l + (h - l)) * z := by rw [Nat.add_mul]
                _ ≤ xs.length * z := Nat.mul_le_mul_right _ (by omega))
      · intro i j row x hi hj
        rw [List.getElem?_drop, List.getElem?_take] at hi
        split at hi
        · have := hr (l + i) j row x hi hj
          rw [Nat.add_mul, Nat.add_assoc] at this
          exact this
        · cases hi

theorem sliceA_ok {t e : Nat} {ti : TI} (ht : P.underlying t = some (.slice e)) (hti : TiOk P e ti) {v : AV} {y : Value} {lo hi : Option AV} {ylo yhi : Option Value} {Q : AV → St → Prop} (h : awp P (sliceA ti.size v lo hi) s Q) (R : Rel C I G s ts w) (r : AVRel I G s v y)
    (rlo : OptRel I G s lo ylo) (rhi : OptRel I G s hi yhi) :
    ∃ u x s' J, (Instr.sliceAt t y ylo yhi none).run P w = .ok x w ∧ Q u s' ∧ Rel C J G s' ts w ∧ Ext C I J s s' G G ∧ AVRel J G s' u x := by
  cases v with
  | ref l n len =>
    simp only [sliceA] at h
    split at h
    case h_2 => simp [awp] at h
    rename_i a b ha hb
    have Ba := boundA_ok ha rlo
    have Bb := boundA_ok hb rhi
    split at h
    · rename_i hc
      obtain ⟨rfl, hbl⟩ := hc
      rw [awp_bind] at h
      obtain ⟨e', z, xs, fz, ho, hv, hlen, h⟩ := ownAt_ok h
      simp only [awp] at h
      simp only [AVRel] at r
      have hy := r.2.2 hv.symm (by rw [ho]; rfl)
      have O := R.owns l e' z xs fz ho
      obtain ⟨ad, c, hac⟩ := R.addr_any ho hlen
      have hlc : len ≤ c ∧ addrOf G l b = .slice (if c = 0 then ad else ad.map (·.add (0 * ti.size))) (b - 0) (c - 0) := by
        cases hn : G.nil l with
        | true =>
          have := O.nil hn; subst this
          have hl0 : len = 0 := by simpa using hlen
          subst hl0
          simp only [addrOf, hn, if_true] at hac ⊢
          injection hac with a1 a2 a3
          subst a1 a3
          simp; omega
        | false =>
          obtain ⟨cur, c1, c2, c3, c4, c5⟩ := O.row hn
          simp only [addrOf, hn, Bool.false_eq_true, if_false] at hac ⊢
          injection hac with a1 a2 a3
          subst a1 a3
          refine ⟨by omega, ?_⟩
          simp [addr_add]
      refine ⟨_, _, s, I, by rw [hy, hac]; exact slice_run ht hti Ba Bb (Nat.zero_le _) hbl hlc.1, h, R, Ext.refl _ _ _ _, ?_⟩
      simp only [AVRel]
      refine ⟨by omega, ⟨_, _, rfl⟩, fun _ _ => hlc.2.symm⟩
    · split at h
      case isFalse => simp [awp] at h
      rename_i hc
      rw [awp_bind] at h
      simp only [snap, awp_bind] at h
      obtain ⟨e', z, xs, fz, ho, hv, hlen, h⟩ := ownAt_ok h
      simp only [awp] at h
      split at h
      case isFalse => simp [awp] at h
      rename_i hz
      subst hz
      obtain ⟨J, R1, E1, hp⟩ := R.mark ho
      simp only [AVRel] at r
      have hy := r.2.2 hv.symm (by rw [ho]; rfl)
      have hp1 := hp len hlen
      obtain ⟨ad, c, hac⟩ := R.addr_any ho hlen
      rw [hac] at hp1
      have hs := hp1.slice
      refine ⟨_, _, _, J, by rw [hy, hac]; exact slice_run ht hti Ba Bb hc.1 hc.2 hs.2.1, h, R1, E1, ?_⟩
      simp only [AVRel]
      exact hp1.part hc.1 (by rw [List.length_take]; omega) (.inl rfl)
  | p x =>
    cases x with
    | sl z xs =>
      simp only [sliceA] at h
      split at h
      case h_2 => simp [awp] at h
      rename_i a b ha hb
      have Ba := boundA_ok ha rlo
      have Bb := boundA_ok hb rhi
      split at h
      case isFalse => simp [awp] at h
      rename_i hc
      simp only [awp] at h
      simp only [AVRel] at r
      obtain ⟨ad, cap, rfl⟩ := r.slice_form
      have hs := r.slice
      exact ⟨_, _, s, I, slice_run ht hti Ba Bb hc.1 hc.2.1 hs.2.1, h, R, Ext.refl _ _ _ _, by simp only [AVRel]; exact r.part hc.1 hc.2.1 hc.2.2⟩
    | _ => simp [sliceA, awp] at h
  | nilS =>
    simp only [sliceA] at h
    split at h
    case h_2 => simp [awp] at h
    rename_i ha hb
    have Ba := boundA_ok ha rlo
    have Bb := boundA_ok hb rhi
    simp only [awp] at h
    simp only [AVRel] at r
    subst r
    exact ⟨_, _, s, I, slice_run ht hti Ba Bb (Nat.le_refl _) (Nat.le_refl _) (Nat.le_refl _), h, R, Ext.refl _ _ _ _, by simp [AVRel]⟩
  | _ => simp [sliceA, awp] at h

/-- The source of an append: its cells. -/
theorem srcA_ok {t e : Nat} {ti : TI} (ht : P.underlying t = some (.slice e)) {v : AV} {y : Value} {Q : Nat × List (List PV) → St → Prop} (h : awp P (srcA v) s Q) (R : Rel C I G s ts w) (r : AVRel I G s v y) :
    ∃ z ys, Q (z, ys) s ∧ ∀ size, (z = size ∨ ys = []) → 0 < size → ∃ news, Src P size t y ys.length news w ∧ RowsRel I size ys news := by
  have nilc : ∀ (z : Nat) (a : Option Addr) (cap : Nat), (a = none ∨ ∃ b o, a = some ⟨b, o, none⟩) → ∀ size, 0 < size → ∃ news, Src P size t (.slice a 0 cap) 0 news w ∧ RowsRel I size [] news := by
    intro z a cap ha size hs
    refine ⟨[], ?_, by simp [RowsRel]⟩
    refine ⟨.inl ⟨e, ht⟩, fun _ => rfl, ?_, ?_, by simp, fun _ h => by cases h⟩
    · cases a with
      | none => exact run_firstCells_none w size 0 0 cap
      | some a => simpa using run_firstCells_some (P := P) w size 0 a 0 cap [] (by simp) (by simp)
    · cases a with
      | none => exact run_firstCells_none w.drew size 0 0 cap
      | some a => simpa using run_firstCells_some (P := P) w.drew size 0 a 0 cap [] (by simp) (by simp)
  have nila : ∀ (a : Option Addr) (cap : Nat), ∀ size, 0 < size → ∃ news, Src P size t (.slice a 0 cap) 0 news w ∧ RowsRel I size [] news := by
    intro a cap size hs
    refine ⟨[], ?_, by simp [RowsRel]⟩
    refine ⟨.inl ⟨e, ht⟩, fun _ => rfl, ?_, ?_, by simp, fun _ h => by cases h⟩
    · cases a with
      | none => exact run_firstCells_none w size 0 0 cap
      | some a => simpa using run_firstCells_some (P := P) w size 0 a 0 cap [] (by simp) (by simp)
    · cases a with
      | none => exact run_firstCells_none w.drew size 0 0 cap
      | some a => simpa using run_firstCells_some (P := P) w.drew size 0 a 0 cap [] (by simp) (by simp)
  cases v with
  | p x =>
    cases x with
    | sl z ys =>
      simp only [srcA, awp] at h
      simp only [AVRel] at r
      refine ⟨z, ys, h, fun size hz hs => ?_⟩
      cases r with
      | nil z a cap hc => exact nila a cap size hs
      | sl ys b o z cap val hz0 hn hl hc hm hI h1 hr =>
        have hzz : z = size := by rcases hz with h | h; exact h; exact absurd h hn
        subst hzz
        refine ⟨(List.range (ys.length * z)).map val, Src.ofSlice w ht ⟨b, o, none⟩ ys.length cap _ (by simp) (fun j u hu => ?_) (fun u hu => ?_), hl, fun i j row x hi hj => ?_⟩
        · rw [List.getElem?_map] at hu
          cases hq : (List.range (ys.length * z))[j]? with
          | none => simp [hq] at hu
          | some q =>
            simp only [hq, Option.map_some, Option.some.injEq] at hu
            obtain ⟨hj, hjq⟩ := List.getElem?_eq_some_iff.1 hq
            simp at hj hjq
            subst hjq hu
            rw [addr_add]
            exact R.imm _ _ _ (hI _ hj)
        · obtain ⟨q, hq, rfl⟩ := List.mem_map.1 hu
          exact h1 q (by simpa using hq)
        · have hi' : i < ys.length := (List.getElem?_eq_some_iff.1 hi).1
          have hj' : j < z := by rw [← hl row (List.mem_of_getElem? hi)]; exact (List.getElem?_eq_some_iff.1 hj).1
          have hlt : i * z + j < ys.length * z := by
            calc i * z + j < i * z + z := by omega
              _ = (i + 1) * z := by rw [Nat.add_mul, Nat.one_mul]
              _ ≤ ys.length * z := Nat.mul_le_mul_right _ hi'
          refine ⟨val (i * z + j), by simp [hlt], hr i j row x hi hj, h1 _ hlt⟩
    | _ => simp [srcA, awp] at h
  | nilS =>
    simp only [srcA, awp] at h
    simp only [AVRel] at r
    subst r
    exact ⟨0, [], h, fun size _ hs => nila none 0 size hs⟩
  | ref l n len =>
    simp only [srcA, awp_bind] at h
    obtain ⟨e', z, xs, fz, ho, hv, hlen, h⟩ := ownAt_ok h
    simp only [awp] at h
    simp only [AVRel] at r
    have hy := r.2.2 hv.symm (by rw [ho]; rfl)
    have O := R.owns l e' z xs fz ho
    have htl : (xs.take len).length = len := by simp; omega
    refine ⟨z, xs.take len, h, fun size hz hs => ?_⟩
    rw [htl]
    by_cases h0 : len = 0
    · subst h0
      obtain ⟨ad, c, hac⟩ := R.addr_any ho hlen
      rw [hy, hac, List.take_zero]
      exact nila ad c size hs
    · have hzz : z = size := by
        rcases hz with h | h
        · exact h
        · rw [h] at htl; simp at htl; omega
      subst hzz
      have hn : G.nil l = false := by
        cases hn : G.nil l with
        | false => rfl
        | true => have := O.nil hn; subst this; simp at hlen; omega
      obtain ⟨cur, c1, c2, c3, c4, c5⟩ := O.row hn
      have hsub : len * z ≤ cur.size := by rw [c4]; exact Nat.mul_le_mul_right _ (by omega)
      rw [hy]
      simp only [addrOf, hn, Bool.false_eq_true, if_false]
      refine ⟨cur.toList.take (len * z), Src.ofSlice w ht ⟨G.blk l, 0, none⟩ len (G.cap l) _ (by simp; omega) (fun j u hu => ?_) (fun u hu => ?_), fun r hr => c5.1 r (List.mem_of_mem_take hr), fun i j row x hi hj => ?_⟩
      · rw [List.getElem?_take] at hu
        split at hu
        · rw [addr_add]; simpa [World.cell?, c1] using hu
        · cases hu
      · -- every cell of the rows is one
        obtain ⟨k, hk, hke⟩ := List.getElem_of_mem hu
        have hk' : k < len * z := by simp at hk; omega
        have hi : k / z < xs.length := by
          have : k / z < len := Nat.div_lt_of_lt_mul (by rw [Nat.mul_comm]; exact hk')
          omega
        have hrow : xs[k / z]? = some xs[k / z] := List.getElem?_eq_getElem hi
        have hj : k % z < (xs[k / z]).length := by rw [c5.1 _ (List.mem_of_getElem? hrow)]; exact Nat.mod_lt _ O.pos
        obtain ⟨y', y1, y2, y3⟩ := c5.2 (k / z) (k % z) _ _ hrow (List.getElem?_eq_getElem hj)
        rw [show k / z * z + k % z = k by rw [Nat.mul_comm]; exact Nat.div_add_mod k z] at y1
        have : u = y' := by
          rw [← hke, List.getElem_take]
          have hkc : k < cur.toList.length := by simp; omega
          rw [List.getElem?_eq_getElem hkc] at y1
          injection y1
        rw [this]; exact y3
      · rw [List.getElem?_take] at hi
        split at hi
        · rename_i hil
          obtain ⟨y', y1, y2, y3⟩ := c5.2 i j row x hi hj
          have hj' : j < z := by rw [← c5.1 row (List.mem_of_getElem? hi)]; exact (List.getElem?_eq_some_iff.1 hj).1
          refine ⟨y', ?_, y2, y3⟩
          rw [List.getElem?_take, if_pos]
          · exact y1
          · calc i * z + j < i * z + z := by omega
              _ = (i + 1) * z := by rw [Nat.add_mul, Nat.one_mul]
              _ ≤ len * z := Nat.mul_le_mul_right _ hil
        · cases hi
  | _ => simp [srcA, awp] at h

theorem RowsRel.append {z : Nat} {xs ys : List (List PV)} {a b : List Value} (h : RowsRel I z xs a) (k : RowsRel I z ys b) (ha : a.length = xs.length * z) : RowsRel I z (xs ++ ys) (a ++ b) := by
  refine ⟨fun r hr => ?_, fun i j row x hi hj => ?_⟩
  · rcases List.mem_append.1 hr with h1 | h1
    · exact h.1 r h1
    · exact k.1 r h1
  · by_cases hlt : i < xs.length
    · rw [List.getElem?_append_left hlt] at hi
      obtain ⟨y, y1, y2, y3⟩ := h.2 i j row x hi hj
      exact ⟨y, by rw [List.getElem?_append_left (List.getElem?_eq_some_iff.1 y1).1]; exact y1, y2, y3⟩
    · rw [List.getElem?_append_right (by omega)] at hi
      obtain ⟨y, y1, y2, y3⟩ := k.2 (i - xs.length) j row x hi hj
      have : xs.length * z ≤ i * z := Nat.mul_le_mul_right _ (by omega)
      refine ⟨y, ?_, y2, y3⟩
      rw [List.getElem?_append_right (by omega), ha]
      rw [show i * z + j - xs.length * z = (i - xs.length) * z + j by rw [Nat.sub_mul]; omega]
      exact y1

theorem RowsRel.pad {z : Nat} {xs : List (List PV)} {a : List Value} (h : RowsRel I z xs a) (b : List Value) : RowsRel I z xs (a ++ b) :=
  ⟨h.1, fun i j row x hi hj => let ⟨y, y1, y2, y3⟩ := h.2 i j row x hi hj; ⟨y, by rw [List.getElem?_append_left (List.getElem?_eq_some_iff.1 y1).1]; exact y1, y2, y3⟩⟩

theorem RowsRel.len {z : Nat} {xs : List (List PV)} {a : List Value} (h : RowsRel I z xs a) (hz : 0 < z) : xs.length * z ≤ a.length := by
  rcases Nat.eq_zero_or_pos xs.length with h0 | h0
  · simp [h0]
  · have hi : xs.length - 1 < xs.length := by omega
    have hrow : xs[xs.length - 1]? = some xs[xs.length - 1] := List.getElem?_eq_getElem hi
    have hrl := h.1 _ (List.mem_of_getElem? hrow)
    have hj : z - 1 < (xs[xs.length - 1]).length := by omega
    obtain ⟨y, y1, _⟩ := h.2 _ _ _ _ hrow (List.getElem?_eq_getElem hj)
    have := (List.getElem?_eq_some_iff.1 y1).1
    have h2 : xs.length * z = (xs.length - 1) * z + z := by
      conv => lhs; rw [show xs.length = xs.length - 1 + 1 by omega, Nat.add_mul, Nat.one_mul]
    omega

/-- A row goes to a temporary. -/
theorem own_new {d e z b cap : Nat} {xs : List (List PV)} {fz : Bool} {cur : Array Value} (R : Rel C I G s ts w) (hd : d < C.N) (F : Free C G s w b) (hi : ∀ o v, I b o = some v → fz = true ∧ o < xs.length * z)
    (hw : w.heap[b]? = some (.cells cur e (0, 0))) (hz : 0 < z) (hn : xs.length ≤ cap) (hc : cap ≤ maxLen) (hs : cur.size = cap * z) (hr : RowsRel I z xs cur.toList) :
    ∃ G', Rel C I G' (s.set d (.own e z xs fz)) (ts.setIfInBounds d (.slice (some ⟨b, 0, none⟩) xs.length cap)) w ∧ Ext C I I s (s.set d (.own e z xs fz)) G G' :=
  ⟨_, R.put_own F hi hw hz hn hc hs hr (.tmp hd), Imm.le_refl I, Keeps.set _ _ _ fun x hx => by simp [Ghost.upd, hx], fun _ _ _ => rfl⟩

/-- append. -/
theorem appendRows_ok {t t' ty e d : Nat} {ti : TI} (ht : P.underlying t = some (.slice e)) (hti : TiOk P e ti) (hd : d < C.N) {v : AV} {y yy : Value} {z0 : Nat} {ys : List (List PV)} {Q : Unit → St → Prop} (h : awp P ((appendRows e ti v z0 ys).bind fun r => putD (some d) r) s Q)
    (hsrc : ∀ size, (z0 = size ∨ ys = []) → 0 < size → ∃ news, Src P size t' yy ys.length news w ∧ RowsRel I size ys news) (R : Rel C I G s ts w) (r : AVRel I G s v y) :
    ∃ x s' J G' w', (Builtin.append_ #[t, t'] ty #[y, yy]).run P w = .ok x w' ∧ Q () s' ∧ Rel C J G' s' (ts.setIfInBounds d x) w' ∧ Ext C I J s s' G G' := by
  obtain ⟨i, zv, hi, hsz, hby, hzv, hzc⟩ := hti.ex
  rw [awp_bind] at h
  simp only [appendRows] at h
  split at h
  case isFalse => simp [awp] at h
  rename_i hc
  obtain ⟨news, hnews, hrows⟩ := hsrc ti.size hc.1 hc.2.1
  have hnl : news.length = ys.length * ti.size := hnews.newsLen
  have hcell0 : ys = [] → (Builtin.firstCells ti.size 0 yy).run P w = .ok #[] w := by
    intro h0
    have h1 := hnews.cells
    subst h0
    have : news = [] := List.eq_nil_of_length_eq_zero (by simpa using hnl)
    subst this
    simpa using h1
  have hlen0 : ys = [] → ∀ w', (Builtin.lenOf yy).run P w' = .ok 0 w' := by
    intro h0 w'
    have h1 := hnews.len w'
    subst h0
    simpa using h1
  rw [← hsz] at hnews
  have hzl : zv.cells.size = ti.size := by
    have : zv.cells.toList.length = ti.size := by rw [hzc, List.length_map]; exact hti.zlen
    simpa using this
  -- the growing arm, whatever was there
  have grown : ∀ (base : Option Addr) (sLen sCap : Nat) (olds : List Value) (xs : List (List PV)), xs.length = sLen → olds.length = sLen * ti.size → RowsRel I ti.size xs olds → (Builtin.firstCells i.size sLen (.slice base sLen sCap)).run P w.drew = .ok olds.toArray w.drew →
      sCap < sLen + ys.length → (sLen + ys.length) * ti.bytes ≤ roomA → sLen + ys.length ≤ maxLen → ∀ s1 : St, Rel C I G s1 ts w → ∀ fz, Q () (s1.set d (.own e ti.size (xs ++ ys) fz)) →
      ∃ x s' J G' w', (Builtin.append_ #[t, t'] ty #[.slice base sLen sCap, yy]).run P w = .ok x w' ∧ Q () s' ∧ Rel C J G' s' (ts.setIfInBounds d x) w' ∧ Ext C I J s1 s' G G' := by
    intro base sLen sCap olds xs hxl hol hor hold hg hb h63 s1 R1 fz hq
    have hrun := run_append_grow_src (P := P) w t t' ty e i zv ht hi hzv base sLen sCap olds hold yy ys.length news hnews hg (by simp only [maxLen] at h63; omega) (by rw [hby]; exact growslice_fits hg hb)
    have hcapm := grownCap_le_maxLen w (sLen + ys.length) sCap e h63
    have hcapg := grownCap_ge w (sLen + ys.length) sCap e
    generalize grownCap w (sLen + ys.length) sCap e = cap at hrun hcapm hcapg
    have G1 : Grew w (w.drew.alloc (.cells ((olds ++ news).toArray ++ Builtin.zeroCells zv.cells (cap - (sLen + ys.length))) e)) := (Grew.drew w).trans (Grew.alloc _ _)
    have R2 := R1.grow G1
    have F2 := R1.free_new G1 (by simp)
    have hlen : (xs ++ ys).length = sLen + ys.length := by simp [hxl]
    obtain ⟨G', R3, E3⟩ := own_new (d := d) (e := e) (z := ti.size) (b := w.heap.size) (cap := cap) (xs := xs ++ ys) (fz := fz) R2 hd F2 (fun o v hv => by rw [R1.imm_lt (Nat.le_refl _) o] at hv; cases hv) (heap_alloc_new w.drew _) hc.2.1 (by rw [hlen]; exact hcapg) hcapm
      (by
        simp only [Array.size_append, List.size_toArray, List.length_append, hol, hnl, size_zeroCells, hzl, ← Nat.add_mul]
        rw [show sLen + ys.length + (cap - (sLen + ys.length)) = cap by omega])
      (by
        simp only [Array.toList_append]
        exact (hor.append hrows (by rw [hol, hxl])).pad _)
    rw [hlen] at R3
    exact ⟨_, _, I, G', _, hrun, hq, R3, E3⟩
  have hy63 : ∀ k, (k + ys.length) * ti.bytes ≤ roomA → k ≤ maxLen → k + ys.length ≤ maxLen := by
    intro k hk hkm
    have h1 : k + ys.length ≤ (k + ys.length) * ti.bytes := Nat.le_mul_of_pos_right _ hc.2.2
    simp only [roomA] at hk
    simp only [maxLen]
    omega
  cases v with
  | nilS =>
    simp only at h
    split at h
    case isFalse => simp [awp] at h
    rename_i hb
    simp only [awp, putD] at h
    simp only [AVRel] at r
    subst r
    by_cases h0 : ys.length = 0
    · have hys : ys = [] := List.eq_nil_of_length_eq_zero h0
      subst hys
      have hnews0 : news = [] := List.eq_nil_of_length_eq_zero (by simpa using hnl)
      subst hnews0
      refine ⟨.slice none 0 0, _, I, _, w, ?_, h, R.put_nil (k := d) e ti.size hc.2.1 (.tmp hd), Imm.le_refl I, Keeps.set _ _ _ fun x hx => by simp [Ghost.upd, hx], fun _ _ _ => rfl⟩
      rcases hnews.kind with ⟨_, hk⟩ | hk <;> simp [Builtin.append_, run_underlying ht, run_underlying hk, sizeOf, typeInfo, hi, hlen0 rfl, hsz, hcell0 rfl]
    · have := grown none 0 0 [] [] rfl (by simp) (by simp [RowsRel]) (run_firstCells_none w.drew i.size 0 0 0) (by omega) (by simpa using hb) (hy63 0 (by simpa using hb) (by simp [maxLen])) s R false (by simpa using h)
      simpa using this
  | p x =>
    cases x with
    | sl z xs =>
      cases xs with
      | nil =>
        simp only at h
        split at h
        case isFalse => simp [awp] at h
        rename_i hys
        subst hys
        simp only [awp, putD] at h
        simp only [AVRel] at r
        have hnews0 : news = [] := List.eq_nil_of_length_eq_zero (by simpa using hnl)
        subst hnews0
        obtain ⟨a, cap, rfl⟩ := r.slice_form
        have hrun : (Builtin.append_ #[t, t'] ty #[.slice a 0 cap, yy]).run P w = .ok (.slice a 0 cap) w := by
          rcases hnews.kind with ⟨_, hk⟩ | hk <;> cases a <;> simp [Builtin.append_, run_underlying ht, run_underlying hk, sizeOf, typeInfo, hi, hlen0 rfl, hsz, hcell0 rfl, storeCells]
        obtain ⟨a1, a2⟩ := put_plain_ok (k := d) (v := .p (.sl 0 [])) (y := .slice a 0 cap) R (.tmp hd) (by simp only [AVRel]; exact .nil _ _ _ r.slice.2.2)
        exact ⟨_, _, I, G, w, hrun, h, a1, a2⟩
      | cons => simp [awp] at h
    | _ => simp [awp] at h
  | ref l n len =>
    simp only [awp_bind] at h
    obtain ⟨e', z, xs, fz, ho, hv, hlen, h⟩ := ownAt_ok h
    simp only at h
    split at h
    case isFalse => simp [awp] at h
    rename_i hcc
    obtain ⟨rfl, rfl, hfz, hb⟩ := hcc
    simp only [awp, putD] at h
    simp only [AVRel] at r
    have hyv := r.2.2 hv.symm (by rw [ho]; rfl)
    subst hyv
    have O := R.owns l _ _ xs fz ho
    have hhdr : (s.val l).isHdr = false := by rw [ho]; rfl
    -- the place gives its row away
    have e1 : s.set l .junk = (s.mod l .junk).set l .junk := by
      apply St.ext'
      · intro x; simp only [St.set_val, St.mod_val]; split <;> rfl
      · intro x; simp only [St.set_ver, St.mod_ver]
    have R1 : Rel C I G (s.set l .junk) ts w := R.set_junk hhdr
    have E1 : Ext C I I s (s.set l .junk) G G := ⟨Imm.le_refl I, Keeps.set s l _ fun _ _ => ⟨rfl, rfl, rfl⟩, fun _ _ _ => rfl⟩
    have hlen63 := hy63 len hb (by
      cases hn : G.nil l with
      | true => have := O.nil hn; subst this; simp at hlen; subst hlen; simp [maxLen]
      | false => obtain ⟨cur, c1, c2, c3, _⟩ := O.row hn; omega)
    have key : ∃ x s' J G' w', (Builtin.append_ #[t, t'] ty #[addrOf G l len, yy]).run P w = .ok x w' ∧ Q () s' ∧ Rel C J G' s' (ts.setIfInBounds d x) w' ∧ Ext C I J (s.set l .junk) s' G G' := by
      cases hn : G.nil l with
      | true =>
        have hx := O.nil hn
        subst hx
        have hl0 : len = 0 := by simpa using hlen
        subst hl0
        simp only [addrOf, hn, if_true]
        by_cases h0 : ys.length = 0
        · have hys : ys = [] := List.eq_nil_of_length_eq_zero h0
          subst hys
          refine ⟨.slice none 0 0, _, I, G.upd d 0 0 true, w, ?_, h, ?_, ?_⟩
          · rcases hnews.kind with ⟨_, hk⟩ | hk <;> simp [Builtin.append_, run_underlying ht, run_underlying hk, sizeOf, typeInfo, hi, hlen0 rfl, hsz, hcell0 rfl]
          · have := R1.put (G' := G.upd d 0 0 true) (k := d) (v := .own e' ti.size ([] ++ []) fz) (y := .slice none 0 0) (.tmp hd) (fun x hx => by simp [Ghost.upd, hx]) rfl (by simp [CellRel, addrOf, Ghost.upd]) (by
              intro e'' z' xs fz' hv
              injection hv with h1 h2 h3 h4
              subst h1 h2 h3 h4
              exact ⟨⟨hc.2.1, fun _ => rfl, by simp [Ghost.upd], by simp [Ghost.upd]⟩, by simp [Ghost.upd]⟩)
            simpa using this
          · exact ⟨Imm.le_refl I, Keeps.set _ d _ fun x hx => by simp [Ghost.upd, hx], fun _ _ _ => rfl⟩
        · have := grown none 0 0 [] [] rfl (by simp) (by simp [RowsRel]) (run_firstCells_none w.drew i.size 0 0 0) (by omega) hb hlen63 _ R1 fz (by simpa using h)
          simpa using this
      | false =>
        obtain ⟨cur, c1, c2, c3, c4, c5⟩ := O.row hn
        have hF : Free C G (s.set l .junk) w (G.blk l) := by
          have F := R.free_old (l := l) (.inr ⟨by rw [ho]; rfl, hn⟩)
          refine ⟨F.lt, F.ge, F.prot, fun x hx => F.live x ?_⟩
          unfold Live at hx ⊢
          simpa using hx
        simp only [addrOf, hn, Bool.false_eq_true, if_false]
        have htk : (xs.take len).length = len := by simp; omega
        have hlz : len * ti.size ≤ cur.size := by rw [c4]; exact Nat.mul_le_mul_right _ (by omega)
        have holds : ∀ w2 : World, w2.heap[G.blk l]? = w.heap[G.blk l]? → ∀ j u, (cur.toList.take (len * ti.size))[j]? = some u → w2.cell? ((⟨G.blk l, 0, none⟩ : Addr).add j) = some u := by
          intro w2 hw2 j u hu
          rw [List.getElem?_take] at hu
          split at hu
          · rw [addr_add]; simpa [World.cell?, hw2, c1] using hu
          · cases hu
        have hor : RowsRel I ti.size (xs.take len) (cur.toList.take (len * ti.size)) := by
          refine ⟨fun r hr => c5.1 r (List.mem_of_mem_take hr), fun i' j row x hi' hj => ?_⟩
          rw [List.getElem?_take] at hi'
          split at hi'
          · rename_i hil
            obtain ⟨y', y1, y2, y3⟩ := c5.2 i' j row x hi' hj
            have hj' : j < ti.size := by rw [← c5.1 row (List.mem_of_getElem? hi')]; exact (List.getElem?_eq_some_iff.1 hj).1
            refine ⟨y', ?_, y2, y3⟩
            rw [List.getElem?_take, if_pos]
            · exact y1
            · calc i' * ti.size + j < i' * ti.size + ti.size := by omega
                _ = (i' + 1) * ti.size := by rw [Nat.add_mul, Nat.one_mul]
                _ ≤ len * ti.size := Nat.mul_le_mul_right _ hil
          · cases hi'
        by_cases hroom : len + ys.length ≤ G.cap l
        · -- there is room
          have hfit : len * ti.size + news.length ≤ cur.size := by rw [hnl, c4, ← Nat.add_mul]; exact Nat.mul_le_mul_right _ hroom
          have hrun : ∃ w2, (Builtin.append_ #[t, t'] ty #[.slice (some ⟨G.blk l, 0, none⟩) len (G.cap l), yy]).run P w = .ok (.slice (some ⟨G.blk l, 0, none⟩) (len + ys.length) (G.cap l)) w2 ∧ w2.heap[G.blk l]? = some (.cells (laid cur (len * ti.size) news) e' (0, 0)) ∧ Same w w2 (G.blk l) := by
            obtain ⟨w2, r2, b2, S2⟩ := storeCells_known (P := P) news (o := len * ti.size) (i := 0) c1 (by omega) hnews.one
            refine ⟨w2, ?_, by simpa using b2, S2⟩
            have hcl := hnews.cells
            rcases hnews.kind with ⟨_, hk⟩ | hk <;> simp [Builtin.append_, run_underlying ht, run_underlying hk, sizeOf, typeInfo, hi, hnews.len, hroom, hsz, addr_add, r2] at hcl ⊢ <;> simp [hcl, r2]
          obtain ⟨w2, hr2, hb2, S2⟩ := hrun
          have hlaid := laid_size (cs := cur) (o := len * ti.size) (ys := news) hfit
          have hIo : ∀ o v, I (G.blk l) o = some v → o < len * ti.size := by
            intro o v hv
            obtain ⟨f1, f2⟩ := O.imm hn o v hv
            rcases hfz with f3 | f3
            · rw [f3] at f1; cases f1
            · rw [f3]; exact f2
          have R2 : Rel C I G (s.set l .junk) ts w2 := R1.touch hF S2 (fun o v hv => by
            have h1 := R1.imm _ _ _ hv
            have h2 := hIo o v hv
            simp only [World.cell?, hb2, c1, Option.isSome_none, Bool.false_eq_true, if_false] at h1 ⊢
            rw [laid_get hfit, if_neg (by omega)]
            exact h1)
          have hF2 : Free C G (s.set l .junk) w2 (G.blk l) := ⟨by rw [S2.size]; exact hF.lt, hF.ge, hF.prot, hF.live⟩
          have hlen2 : (xs.take len ++ ys).length = len + ys.length := by simp; omega
          obtain ⟨G', R3, E3⟩ := own_new (d := d) (e := e') (z := ti.size) (b := G.blk l) (cap := G.cap l) (xs := xs.take len ++ ys) (fz := fz) R2 hd hF2 (fun o v hv => by
              refine ⟨(O.imm hn o v hv).1, ?_⟩
              have := hIo o v hv
              rw [hlen2, Nat.add_mul]; omega) hb2 hc.2.1 (by rw [hlen2]; exact hroom) c3 (by rw [hlaid]; exact c4)
            (by
              have hl2 : (laid cur (len * ti.size) news).toList = (cur.toList.take (len * ti.size) ++ news) ++ cur.toList.drop (len * ti.size + news.length) := by simp [laid]
              rw [hl2]
              exact (hor.append hrows (by rw [htk, List.length_take, Array.length_toList, Nat.min_eq_left hlz])).pad _)
          rw [hlen2] at R3
          exact ⟨_, _, I, G', w2, hr2, h, R3, E3⟩
        · exact grown (some ⟨G.blk l, 0, none⟩) len (G.cap l) (cur.toList.take (len * ti.size)) (xs.take len) htk (by simp; omega) hor
            (by rw [hsz]; exact run_firstCells_some (P := P) w.drew ti.size len ⟨G.blk l, 0, none⟩ len (G.cap l) _ (by simp; omega) (holds w.drew rfl)) (by omega) hb hlen63 _ R1 fz h
    obtain ⟨x, s', J, G', w', k1, k2, k3, k4⟩ := key
    exact ⟨x, s', J, G', w', k1, k2, k3, E1.trans k4⟩
  | _ => simp [awp] at h

theorem append_ok {t ty e d : Nat} {ti : TI} (ht : P.underlying t = some (.slice e)) (hti : TiOk P e ti) (hd : d < C.N) {v vy : AV} {y yy : Value} {Q : Unit → St → Prop} (h : awp P ((appendA e ti v vy).bind fun r => putD (some d) r) s Q)
    (R : Rel C I G s ts w) (r : AVRel I G s v y) (ry : AVRel I G s vy yy) :
    ∃ x s' J G' w', (Builtin.append_ #[t, t] ty #[y, yy]).run P w = .ok x w' ∧ Q () s' ∧ Rel C J G' s' (ts.setIfInBounds d x) w' ∧ Ext C I J s s' G G' := by
  rw [awp_bind] at h
  simp only [appendA, awp_bind] at h
  obtain ⟨z0, ys, h, hsrc⟩ := srcA_ok (ti := ti) ht h R ry
  exact appendRows_ok ht hti hd (by rw [awp_bind]; exact h) hsrc R r

/-- A string as a source. -/
theorem srcS_ok {t : Nat} (ht : P.underlying t = some .string) (b : ByteArray) (size : Nat) (hz : 1 = size ∨ byteRows b = []) : 0 < size → ∃ news, Src P size t (.string b) (byteRows b).length news w ∧ RowsRel I size (byteRows b) news := by
  intro hp
  have hl : (byteRows b).length = b.size := by simp [byteRows]
  rw [hl]
  rcases hz with rfl | h0
  · refine ⟨byteCells b, Src.ofString w ht b, fun r hr => ?_, fun i j row x hi hj => ?_⟩
    · obtain ⟨_, _, rfl⟩ := List.mem_map.1 hr; rfl
    · simp only [byteRows, List.getElem?_map, Option.map_eq_some_iff] at hi
      obtain ⟨c, hc, rfl⟩ := hi
      cases j with
      | succ j => simp at hj
      | zero =>
        simp only [List.getElem?_cons_zero, Option.some.injEq] at hj
        subst hj
        exact ⟨.int .u8 c.toNat, by simp only [byteCells, List.getElem?_map, Nat.mul_one, Nat.add_zero, hc, Option.map_some], .v _, rfl⟩
  · have hb : b.size = 0 := by rw [← hl, h0]; rfl
    rw [hb]
    refine ⟨[], ⟨.inr ht, fun _ => by simp [Builtin.lenOf, hb, pure], ?_, ?_, by simp, fun _ h => by cases h⟩, by simp [RowsRel, h0]⟩ <;> simp [Builtin.firstCells, hb, pure]

/-- copy. -/
theorem copy_ok {t t' ty e : Nat} {ti : TI} (ht : P.underlying t = some (.slice e)) (hti : TiOk P e ti) {v vy : AV} {y yy : Value} {Q : AV → St → Prop} (h : awp P (copyA ti v vy) s Q)
    (R : Rel C I G s ts w) (r : AVRel I G s v y) (ry : AVRel I G s vy yy) :
    ∃ x u s' w', (Builtin.copy_ #[t, t'] ty #[y, yy]).run P w = .ok x w' ∧ Q u s' ∧ Rel C I G s' ts w' ∧ Ext C I I s s' G G ∧ AVRel I G s' u x := by
  obtain ⟨i, zv, hi, hsz, hby, hzv, hzc⟩ := hti.ex
  simp only [copyA, awp_bind] at h
  obtain ⟨z0, ys, h, hsrc⟩ := srcA_ok (ti := ti) ht h R ry
  simp only at h
  split at h
  case isFalse => simp [awp] at h
  rename_i hc
  obtain ⟨news, hnews, hrows⟩ := hsrc ti.size hc.1 hc.2
  have hnl : news.length = ys.length * ti.size := hnews.newsLen
  cases v with
  | ref l n len =>
    simp only [awp_bind] at h
    obtain ⟨e', z, xs, fz, ho, hv, hlen, h⟩ := ownAt_ok h
    simp only at h
    split at h
    case isFalse => simp [awp] at h
    rename_i hcc
    obtain ⟨rfl, rfl, hfit⟩ := hcc
    simp only [awp] at h
    have hq := h
    simp only [AVRel] at r
    have hy := r.2.2 hv.symm (by rw [ho]; rfl)
    have O := R.owns l e' ti.size xs false ho
    have hxs : (ys ++ xs.drop ys.length).length = xs.length := by simp; omega
    have hsize : (sizeOf e).run P w = .ok ti.size w := hti.run_size w
    cases hn : G.nil l with
    | true =>
      have hx0 := O.nil hn
      have hys : ys = [] := by
        have : xs.length = 0 := by rw [hx0]; rfl
        exact List.eq_nil_of_length_eq_zero (by omega)
      subst hys
      have hl0 : len = 0 := by rw [hx0] at hlen; simpa using hlen
      subst hx0 hl0
      have hnews0 : news = [] := List.eq_nil_of_length_eq_zero (by simpa using hnl)
      subst hnews0
      have hs : s.mod l (.own e' ti.size ([] ++ List.drop ([] : List (List PV)).length []) false) = s := by
        apply St.ext'
        · intro x; simp only [St.mod_val]; split
          · rename_i hx; rw [hx, ho]; rfl
          · rfl
        · intro x; rfl
      rw [hs] at hq
      refine ⟨.int .i64 0, _, s, w, ?_, hq, R, Ext.refl _ _ _ _, by simp only [AVRel]; exact .v _⟩
      have hyv : y = .slice none 0 0 := by rw [hy]; simp [addrOf, hn]
      subst hyv
      have h0 := hnews.cells
      simp only [List.length_nil] at h0
      have hl := hnews.len w
      simp [Builtin.copy_, run_underlying ht, hl, hsize, h0, goInt, pure]
    | false =>
      obtain ⟨cur, c1, c2, c3, c4, c5⟩ := O.row hn
      have hyv : y = .slice (some ⟨G.blk l, 0, none⟩) len (G.cap l) := by rw [hy]; simp [addrOf, hn]
      have hsub : ys.length * ti.size ≤ cur.size := by rw [c4]; exact Nat.mul_le_mul_right _ (by omega)
      obtain ⟨w2, r2, b2, S2⟩ := storeCells_known (P := P) news (o := 0) (i := 0) c1 (by simp only [Nat.zero_add]; omega) hnews.one
      simp only [Nat.add_zero] at b2
      have hlaid := laid_size (cs := cur) (o := 0) (ys := news) (by omega)
      have hIb : ∀ o v, I (G.blk l) o = some v → False := fun o v hv => by have := (O.imm hn o v hv).1; cases this
      have hrws : RowsRel I ti.size (ys ++ xs.drop ys.length) (laid cur 0 news).toList := by
        refine ⟨fun r hr => ?_, fun i' j' row' x hi' hj' => ?_⟩
        · rcases List.mem_append.1 hr with h | h
          · exact hrows.1 r h
          · exact c5.1 r (List.mem_of_mem_drop h)
        · by_cases hlt : i' < ys.length
          · rw [List.getElem?_append_left hlt] at hi'
            obtain ⟨y', y1, y2, y3⟩ := hrows.2 i' j' row' x hi' hj'
            refine ⟨y', ?_, y2, y3⟩
            have hk : i' * ti.size + j' < news.length := (List.getElem?_eq_some_iff.1 y1).1
            simp only [Array.getElem?_toList]
            rw [laid_get (by omega), if_pos (by omega)]
            simpa using y1
          · rw [List.getElem?_append_right (by omega), List.getElem?_drop, show ys.length + (i' - ys.length) = i' by omega] at hi'
            obtain ⟨y', y1, y2, y3⟩ := c5.2 i' j' row' x hi' hj'
            refine ⟨y', ?_, y2, y3⟩
            simp only [Array.getElem?_toList] at y1 ⊢
            have : ys.length * ti.size ≤ i' * ti.size := Nat.mul_le_mul_right _ (by omega)
            rw [laid_get (by omega), if_neg (by omega)]
            exact y1
      have R2 := R.mod_own (xs' := ys ++ xs.drop ys.length) (fz' := false) ho hxs (Imm.le_refl I) (.inl hn) S2 (fun o v hv => (hIb o v hv).elim) (fun _ _ _ => rfl)
        ⟨O.pos, fun h => by simp [hn] at h, fun _ => ⟨_, b2, by rw [hxs]; exact c2, c3, by rw [hlaid]; exact c4, hrws⟩, fun _ o v hv => (hIb o v hv).elim⟩
      refine ⟨.int .i64 ys.length, _, _, w2, ?_, hq, R2, ⟨Imm.le_refl _, Keeps.mod _ l _ (fun _ => by simp [ho, AV.isOwn, AV.ownZ]) (by simp [AV.isHdr]), fun _ _ _ => rfl⟩, by simp only [AVRel]; exact .v _⟩
      subst hyv
      have hmin : Nat.min ys.length len = ys.length := Nat.min_eq_left hfit
      simp [Builtin.copy_, run_underlying ht, hnews.len w, hsize, hmin, hnews.cells, r2, goInt, pure]
  | _ => simp [awp] at h
end

end Go.Proofs.YtkjglhamlnnboaaDoor.Am
