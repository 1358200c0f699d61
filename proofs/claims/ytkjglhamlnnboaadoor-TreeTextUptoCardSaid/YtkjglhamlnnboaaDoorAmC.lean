/-
  THE ABSTRACT MACHINE, part C: steps of states and what they do to the relation.
-/
import Derived.Test.YtkjglhamlnnboaaDoorAmB
set_option linter.unusedVariables false
set_option linter.unusedSimpArgs false
namespace Go.Proofs.YtkjglhamlnnboaaDoor.Am
open Go Go.RowKit

section
variable {C : Ctx} {I J : Imm} {G G' : Ghost} {s : St} {ts ts' : Array Value} {w w' : World}

/-- Other blocks than one are as they were. -/
structure Same (w w' : World) (b : Nat) : Prop where
  os : w'.os = w.os
  tape : w'.tape = w.tape
  output : w'.output = w.output
  size : w'.heap.size = w.heap.size
  block : ∀ k, k ≠ b → w'.heap[k]? = w.heap[k]?

theorem Same.below {B : Nat} {w0 : World} {b : Nat} (h : Same w w' b) (hb : B ≤ b) (hB : Below B w0 w) : Below B w0 w' :=
  hB.trans ⟨h.os, h.tape, h.output, by have := h.size; omega, fun k hk => h.block k (by omega)⟩

/-- Place k was written: y lies there. -/
inductive Wrote (C : Ctx) (G : Ghost) (s : St) (k : Nat) (y : Value) (ts : Array Value) (w : World) : Array Value → World → Prop
  | tmp (hk : k < C.N) : Wrote C G s k y ts w (ts.setIfInBounds k y) w
  | cell (n j e z : Nat) (cs : Array Value) (w' : World) (hk : k = kcell n j) (hj : j < z) (hh : s.val (khdr n) = .hdr e z) (hw : w.heap[G.blk (khdr n)]? = some (.cells cs e (0, 0)))
      (hw' : w'.heap[G.blk (khdr n)]? = some (.cells (cs.setIfInBounds j y) e (0, 0))) (hs : Same w w' (G.blk (khdr n))) : Wrote C G s k y ts w ts w'

theorem live_val {k : Nat} (h : Live s G k) : (s.val k).isHdr = true ∨ (s.val k).isOwn = true := h.imp id (·.1)

theorem Rel.put {k : Nat} {v : AV} {y : Value} (R : Rel C I G s ts w) (W : Wrote C G s k y ts w ts' w')
    (hG : ∀ x, x ≠ k → G'.blk x = G.blk x ∧ G'.cap x = G.cap x ∧ G'.nil x = G.nil x) (hv : v.isHdr = false)
    (hrel : CellRel I G' (s.set k v) k v y)
    (hown : ∀ e z xs fz, v = .own e z xs fz → OwnOk I G' w' k e z xs fz ∧ (G'.nil k = false → (∀ x, x ≠ k → Live s G x → G.blk x ≠ G'.blk k) ∧ C.B ≤ G'.blk k ∧ G'.blk k < w.heap.size ∧ C.prot (G'.blk k) = none)) :
    Rel C I G' (s.set k v) ts' w' := by
  have hkeep : Keeps s (s.set k v) G G' := Keeps.set s k v hG
  have hknh : ∀ n, k ≠ khdr n := by
    intro n hn
    cases W with
    | tmp hk => have := khdr_ge n; have := R.small; omega
    | cell n' j e z cs w' hk hj hh hw hw' hs => have := (R.objs _ _ _ hh).1; exact kcell_ne_hdr (by omega) (hk.symm.trans hn)
  have liveOld : ∀ x, x ≠ k → (Live (s.set k v) G' x ↔ Live s G x) := by
    intro x hx
    obtain ⟨-, -, h3⟩ := hG x hx
    simp [Live, hx, h3]
  have liveNew : Live (s.set k v) G' k → v.isOwn = true ∧ G'.nil k = false := by
    intro h
    rcases h with h | h
    · simp [hv] at h
    · simpa using h
  have ownv : v.isOwn = true → ∃ e z xs fz, v = .own e z xs fz := by
    intro h; cases v <;> simp [AV.isOwn] at h; exact ⟨_, _, _, _, rfl⟩
  -- worlds: every block but one object's is as it was
  have hsz : w'.heap.size = w.heap.size := by cases W with
    | tmp => rfl
    | cell _ _ _ _ _ _ _ _ _ _ _ hs => exact hs.size
  have hblk : ∀ x, Live s G x → (s.val x).isOwn = true → w'.heap[G.blk x]? = w.heap[G.blk x]? := by
    intro x hx ho
    cases W with
    | tmp => rfl
    | cell n j e z cs w' hk hj hh hw hw' hs =>
      refine hs.block _ fun heq => ?_
      have := R.inj x (khdr n) hx (.inl (by simp [hh, AV.isHdr])) heq
      subst this
      simp [hh, AV.isOwn] at ho
  have hprot : ∀ b, C.prot b ≠ none → w'.heap[b]? = w.heap[b]? := by
    intro b hb
    cases W with
    | tmp => rfl
    | cell n j e z cs w' hk hj hh hw hw' hs =>
      refine hs.block _ fun heq => hb ?_
      rw [heq]; exact (R.mine (khdr n) (.inl (by simp [hh, AV.isHdr]))).2.2
  refine ⟨?_, R.laid, ?_, ?_, ?_, ?_, R.small, ?_, ?_, ?_, fun n => by simpa [Ne.symm (hknh n)] using R.hdrs n, ?_, ?_, ?_, ?_, ?_⟩
  · cases W with
    | tmp => exact R.below
    | cell n j e z cs w' hk hj hh hw hw' hs => exact hs.below (R.mine (khdr n) (.inl (by simp [hh, AV.isHdr]))).1 R.below
  · rw [hsz]; exact R.base
  · intro b o hb; rw [hprot b (by simp [hb])]; exact R.prot b o hb
  · intro b o u hu
    cases W with
    | tmp => exact R.imm b o u hu
    | cell n j e z cs w' hk hj hh hw hw' hs =>
      have hne : b ≠ G.blk (khdr n) := by
        rintro rfl
        have := R.immH (khdr n) (by simp [hh, AV.isHdr]) o
        simp [this] at hu
      have := R.imm b o u hu
      simpa [World.cell?, hs.block b hne] using this
  · cases W with
    | tmp => simpa using R.size
    | cell => exact R.size
  · intro t ht
    by_cases e : t = k
    · subst e
      cases W with
      | tmp hk =>
        have : (ts.setIfInBounds t y).getD t undef = y := by simp [Array.getD_eq_getD_getElem?, R.size, ht]
        rw [this]; simpa using hrel
      | cell n j e z cs w' hk hj hh hw hw' hs => have := kcell_ge n j; have := R.small; omega
    · have h1 : (s.set k v).val t = s.val t := by simp [e]
      rw [h1]
      have h2 : ts'.getD t undef = ts.getD t undef := by
        cases W with
        | tmp hk => simp [Array.getD_eq_getD_getElem?, Array.getElem?_setIfInBounds, Ne.symm e]
        | cell => rfl
      rw [h2]
      exact (R.tmps t ht).keep (Imm.le_refl I) hkeep (fun _ => hG t e)
  · intro t h1 h2
    have e : t ≠ k := by
      rintro rfl
      cases W with
      | tmp hk => omega
      | cell n j e z cs w' hk hj hh hw hw' hs => have := kcell_ge n j; omega
    simpa [e] using R.high t h1 h2
  · intro t ht
    by_cases e : t = k
    · subst e; simpa using hv
    · simpa [e] using R.notHdr t ht
  · intro n e z hz
    have hne : khdr n ≠ k := fun h => hknh n h.symm
    have hz' : s.val (khdr n) = .hdr e z := by simpa [hne] using hz
    obtain ⟨h1, cs, h2, h3, h4⟩ := R.objs n e z hz'
    obtain ⟨g1, -, -⟩ := hG _ hne
    rw [g1]
    cases W with
    | tmp hk =>
      refine ⟨h1, cs, h2, h3, fun j hj => ?_⟩
      have hjk : kcell n j ≠ k := by have := kcell_ge n j; have := R.small; omega
      have := (h4 j hj).keep (Imm.le_refl I) hkeep (fun _ => hG _ hjk)
      simpa [hjk] using this
    | cell n' j' e' z' cs' w' hk hj' hh hw hw' hs =>
      by_cases hn : n = n'
      · subst hn
        rw [hh] at hz'
        injection hz' with e1 e2
        subst e1 e2
        rw [hw] at h2
        injection h2 with h2
        injection h2 with h2
        subst h2
        refine ⟨h1, _, hw', by simpa using h3, fun j hj => ?_⟩
        by_cases hjj : j = j'
        · subst hjj
          subst hk
          have : (cs'.setIfInBounds j y).getD j undef = y := by simp [Array.getD_eq_getD_getElem?, h3, hj]
          rw [this]
          simpa using hrel
        · have hjk : kcell n j ≠ k := by rw [hk]; intro h; exact hjj (kcell_inj (by omega) (by omega) h).2
          have h5 : (cs'.setIfInBounds j' y).getD j undef = cs'.getD j undef := by simp [Array.getD_eq_getD_getElem?, Array.getElem?_setIfInBounds, Ne.symm hjj]
          rw [h5]
          have := (h4 j hj).keep (Imm.le_refl I) hkeep (fun _ => hG _ hjk)
          simpa [hjk] using this
      · have hb : G.blk (khdr n) ≠ G.blk (khdr n') := fun h => hn (khdr_inj (R.inj _ _ (.inl (by simp [hz', AV.isHdr])) (.inl (by simp [hh, AV.isHdr])) h))
        refine ⟨h1, cs, by rw [hs.block _ hb]; exact h2, h3, fun j hj => ?_⟩
        have hjk : kcell n j ≠ k := by
          rw [hk]; intro h
          have := (R.objs _ _ _ hh).1
          exact hn (kcell_inj (by omega) (by omega) h).1
        have := (h4 j hj).keep (Imm.le_refl I) hkeep (fun _ => hG _ hjk)
        simpa [hjk] using this
  · intro x e z xs fz hx
    by_cases hxk : x = k
    · subst hxk
      exact (hown e z xs fz (by simpa using hx)).1
    · have hx' : s.val x = .own e z xs fz := by simpa [hxk] using hx
      obtain ⟨o1, o2, o3, o4⟩ := R.owns x e z xs fz hx'
      obtain ⟨g1, g2, g3⟩ := hG x hxk
      refine ⟨o1, by rw [g3]; exact o2, ?_, by rw [g3, g1]; exact o4⟩
      rw [g3, g1, g2]
      intro hn
      obtain ⟨cur, c1, c2⟩ := o3 hn
      exact ⟨cur, by rw [hblk x (.inr ⟨by simp [hx', AV.isOwn], hn⟩) (by simp [hx', AV.isOwn])]; exact c1, c2⟩
  · intro x x' hx hx' hb
    by_cases e : x = k <;> by_cases e' : x' = k
    · rw [e, e']
    · subst e
      obtain ⟨o, hn⟩ := liveNew hx
      obtain ⟨e0, z0, xs0, fz0, hv0⟩ := ownv o
      have := ((hown e0 z0 xs0 fz0 hv0).2 hn).1 x' e' ((liveOld x' e').1 hx')
      rw [(hG x' e').1] at hb
      exact absurd hb.symm this
    · subst e'
      obtain ⟨o, hn⟩ := liveNew hx'
      obtain ⟨e0, z0, xs0, fz0, hv0⟩ := ownv o
      have := ((hown e0 z0 xs0 fz0 hv0).2 hn).1 x e ((liveOld x e).1 hx)
      rw [(hG x e).1] at hb
      exact absurd hb this
    · rw [(hG x e).1, (hG x' e').1] at hb
      exact R.inj x x' ((liveOld x e).1 hx) ((liveOld x' e').1 hx') hb
  · intro x hx
    by_cases e : x = k
    · subst e
      obtain ⟨o, hn⟩ := liveNew hx
      obtain ⟨e0, z0, xs0, fz0, hv0⟩ := ownv o
      have := ((hown e0 z0 xs0 fz0 hv0).2 hn).2
      rw [hsz]; exact this
    · rw [(hG x e).1, hsz]
      exact R.mine x ((liveOld x e).1 hx)
  · intro x hx o
    by_cases e : x = k
    · subst e; simp [hv] at hx
    · rw [(hG x e).1]
      exact R.immH x (by simpa [e] using hx) o

/-- A place that owns nothing new. -/
theorem Rel.put_plain {k : Nat} {v : AV} {y : Value} (R : Rel C I G s ts w) (W : Wrote C G s k y ts w ts' w') (h : AVRel I G s v y) : Rel C I G (s.set k v) ts' w' := by
  have hno : v.isOwn = false := by cases v <;> simp_all [AVRel, AV.isOwn]
  have hnh : v.isHdr = false := by cases v <;> simp_all [AVRel, AV.isHdr]
  refine R.put W (fun _ _ => ⟨rfl, rfl, rfl⟩) hnh (CellRel.of (h.keep (Imm.le_refl I) (Keeps.set s k v fun _ _ => ⟨rfl, rfl, rfl⟩))) ?_
  intro e z xs fz hv
  subst hv
  simp [AV.isOwn] at hno

def Ghost.upd (G : Ghost) (k b c : Nat) (n : Bool) : Ghost := ⟨fun x => if x = k then b else G.blk x, fun x => if x = k then c else G.cap x, fun x => if x = k then n else G.nil x⟩

/-- A place that owns nothing yet: nil. -/
theorem Rel.put_nil {k : Nat} (R : Rel C I G s ts w) (e z : Nat) (hz : 0 < z) (W : Wrote C G s k (.slice none 0 0) ts w ts' w') : Rel C I (G.upd k 0 0 true) (s.set k (.own e z [] false)) ts' w' := by
  refine R.put W (fun x hx => by simp [Ghost.upd, hx]) rfl (by simp [CellRel, addrOf, Ghost.upd]) ?_
  intro e' z' xs fz hv
  injection hv with h1 h2 h3 h4
  subst h1 h2 h3 h4
  exact ⟨⟨hz, fun _ => rfl, by simp [Ghost.upd], by simp [Ghost.upd]⟩, by simp [Ghost.upd]⟩

/-- A place is told anew, nothing being written: it owns nothing any more. -/
theorem Rel.mod_plain {k : Nat} {v : AV} (R : Rel C I G s ts w) (hnh : v.isHdr = false) (hno : v.isOwn = false)
    (hrel : k < C.N → AVRel I G s v (ts.getD k undef)) (hN : ¬ k < C.N → v = .junk) : Rel C I G (s.mod k v) ts w := by
  have hkeep : Keeps s (s.mod k v) G G := Keeps.mod s k v (by simp [hno]) (by simp [hnh])
  have hl : ∀ x, Live (s.mod k v) G x → x ≠ k ∧ Live s G x := by
    intro x hx
    by_cases e : x = k
    · subst e; rcases hx with hx | hx <;> simp [hnh, hno] at hx
    · exact ⟨e, by simpa [Live, e] using hx⟩
  refine ⟨R.below, R.laid, R.base, R.prot, R.imm, R.size, R.small, ?_, ?_, ?_, fun n => by by_cases e : khdr n = k <;> simp [e, hno, R.hdrs n], ?_, ?_, ?_, ?_, ?_⟩
  · intro t ht
    by_cases e : t = k
    · subst e
      have := (hrel ht).keep (Imm.le_refl I) hkeep
      simpa using CellRel.of this
    · have := (R.tmps t ht).keep (Imm.le_refl I) hkeep (fun _ => ⟨rfl, rfl, rfl⟩)
      simpa [e] using this
  · intro t h1 h2
    by_cases e : t = k
    · subst e; simpa using hN (by omega)
    · simpa [e] using R.high t h1 h2
  · intro t ht
    by_cases e : t = k
    · subst e; simpa using hnh
    · simpa [e] using R.notHdr t ht
  · intro n e z hz
    have hne : khdr n ≠ k := by rintro rfl; simp at hz; simp [hz, AV.isHdr] at hnh
    have hz' : s.val (khdr n) = .hdr e z := by simpa [hne] using hz
    obtain ⟨h1, cs, h2, h3, h4⟩ := R.objs n e z hz'
    refine ⟨h1, cs, h2, h3, fun j hj => ?_⟩
    by_cases e' : kcell n j = k
    · have : ¬ k < C.N := by have := kcell_ge n j; have := R.small; omega
      simp [e', hN this, CellRel, AVRel]
    · have := (h4 j hj).keep (Imm.le_refl I) hkeep (fun _ => ⟨rfl, rfl, rfl⟩)
      simpa [e'] using this
  · intro x e z xs fz hx
    have e' : x ≠ k := by rintro rfl; simp at hx; simp [hx, AV.isOwn] at hno
    exact R.owns x e z xs fz (by simpa [e'] using hx)
  · intro x x' hx hx' hb
    exact R.inj x x' (hl x hx).2 (hl x' hx').2 hb
  · intro x hx
    exact R.mine x (hl x hx).2
  · intro x hx o
    have e' : x ≠ k := by rintro rfl; simp [hnh] at hx
    exact R.immH x (by simpa [e'] using hx) o

theorem Rel.set_junk {k : Nat} (R : Rel C I G s ts w) (hkh : (s.val k).isHdr = false) : Rel C I G (s.set k .junk) ts w := by
  have hkeep : Keeps s (s.set k .junk) G G := Keeps.set s k _ fun _ _ => ⟨rfl, rfl, rfl⟩
  have hl : ∀ x, Live (s.set k .junk) G x → x ≠ k ∧ Live s G x := by
    intro x hx
    by_cases e : x = k
    · subst e; rcases hx with hx | hx <;> simp [AV.isHdr, AV.isOwn] at hx
    · exact ⟨e, by simpa [Live, e] using hx⟩
  refine ⟨R.below, R.laid, R.base, R.prot, R.imm, R.size, R.small, ?_, ?_, ?_, ?_, ?_, ?_, ?_, ?_, ?_⟩
  · intro t ht
    by_cases e : t = k
    · subst e; simp [CellRel, AVRel]
    · have := (R.tmps t ht).keep (Imm.le_refl I) hkeep (fun _ => ⟨rfl, rfl, rfl⟩)
      simpa [e] using this
  · intro t h1 h2
    by_cases e : t = k
    · subst e; simp
    · simpa [e] using R.high t h1 h2
  · intro t ht
    by_cases e : t = k
    · subst e; simp [AV.isHdr]
    · simpa [e] using R.notHdr t ht
  · intro n
    by_cases e : khdr n = k
    · simp [e, AV.isOwn]
    · simpa [e] using R.hdrs n
  · intro n e z hz
    have hne : khdr n ≠ k := by rintro rfl; simp at hz
    have hz' : s.val (khdr n) = .hdr e z := by simpa [hne] using hz
    obtain ⟨h1, cs, h2, h3, h4⟩ := R.objs n e z hz'
    refine ⟨h1, cs, h2, h3, fun j hj => ?_⟩
    by_cases e' : kcell n j = k
    · simp [e', CellRel, AVRel]
    · have := (h4 j hj).keep (Imm.le_refl I) hkeep (fun _ => ⟨rfl, rfl, rfl⟩)
      simpa [e'] using this
  · intro x e z xs fz hx
    have e' : x ≠ k := by rintro rfl; simp at hx
    exact R.owns x e z xs fz (by simpa [e'] using hx)
  · intro x x' hx hx' hb
    exact R.inj x x' (hl x hx).2 (hl x' hx').2 hb
  · intro x hx
    exact R.mine x (hl x hx).2
  · intro x hx o
    have e' : x ≠ k := by rintro rfl; simp [AV.isHdr] at hx
    exact R.immH x (by simpa [e'] using hx) o

/-- The world has grown: new blocks alone. -/
structure Grew (w w' : World) : Prop where
  os : w'.os = w.os
  tape : w'.tape = w.tape
  output : w'.output = w.output
  size : w.heap.size ≤ w'.heap.size
  block : ∀ k, k < w.heap.size → w'.heap[k]? = w.heap[k]?

theorem Grew.refl (w : World) : Grew w w := ⟨rfl, rfl, rfl, Nat.le_refl _, fun _ _ => rfl⟩
theorem Grew.alloc (w : World) (o : Obj) : Grew w (w.alloc o) := ⟨rfl, rfl, rfl, by simp, fun k hk => heap_alloc_old w o k hk⟩
theorem Grew.drew (w : World) : Grew w w.drew := ⟨rfl, rfl, rfl, Nat.le_refl _, fun _ _ => rfl⟩
theorem Grew.trans {a b c : World} (h : Grew a b) (k : Grew b c) : Grew a c :=
  ⟨k.os.trans h.os, k.tape.trans h.tape, k.output.trans h.output, Nat.le_trans h.size k.size, fun i hi => (k.block i (Nat.lt_of_lt_of_le hi h.size)).trans (h.block i hi)⟩

theorem Rel.grow (R : Rel C I G s ts w) (h : Grew w w') : Rel C I G s ts w' := by
  refine ⟨R.below.trans ⟨h.os, h.tape, h.output, h.size, fun k hk => h.block k (Nat.lt_of_lt_of_le hk R.base)⟩, R.laid, Nat.le_trans R.base h.size, ?_, ?_, R.size, R.small, R.tmps, R.high, R.notHdr, R.hdrs, ?_, ?_, R.inj, ?_, R.immH⟩
  · intro b o hb
    have := R.prot b o hb
    rw [h.block b (Array.getElem?_eq_some_iff.1 this).1]; exact this
  · intro b o v hv
    have := R.imm b o v hv
    have hb : b < w.heap.size := World.block_lt_of_cell? w ⟨b, o, none⟩ this
    simpa [World.cell?, h.block b hb] using this
  · intro n e z hz
    obtain ⟨h1, cs, h2, h3⟩ := R.objs n e z hz
    exact ⟨h1, cs, by rw [h.block _ (Array.getElem?_eq_some_iff.1 h2).1]; exact h2, h3⟩
  · intro k e z xs fz hk
    obtain ⟨o1, o2, o3, o4⟩ := R.owns k e z xs fz hk
    refine ⟨o1, o2, fun hn => ?_, o4⟩
    obtain ⟨cur, c1, c2⟩ := o3 hn
    exact ⟨cur, by rw [h.block _ (Array.getElem?_eq_some_iff.1 c1).1]; exact c1, c2⟩
  · intro k hk
    have := R.mine k hk
    exact ⟨this.1, Nat.lt_of_lt_of_le this.2.1 h.size, this.2.2⟩

/-- A block of the law's own that no place of the state holds. -/
structure Free (C : Ctx) (G : Ghost) (s : St) (w : World) (b : Nat) : Prop where
  lt : b < w.heap.size
  ge : C.B ≤ b
  prot : C.prot b = none
  live : ∀ x, Live s G x → G.blk x ≠ b

theorem Rel.imm_lt (R : Rel C I G s ts w) {b : Nat} (h : w.heap.size ≤ b) (o : Nat) : I b o = none := by
  cases h' : I b o with
  | none => rfl
  | some v =>
    have h2 : (⟨b, o, none⟩ : Addr).block < w.heap.size := World.block_lt_of_cell? w _ (R.imm _ _ _ h')
    have h3 : b < w.heap.size := h2
    omega

/-- The block that is made next is such a one. -/
theorem Rel.free_new (R : Rel C I G s ts w) {w1 : World} (hg : Grew w w1) (h : w.heap.size < w1.heap.size) : Free C G s w1 w.heap.size := by
  refine ⟨h, R.base, ?_, ?_⟩
  · cases h : C.prot w.heap.size with
    | none => rfl
    | some o => have := (Array.getElem?_eq_some_iff.1 (R.prot _ _ h)).1; omega
  · intro x hx he
    have := (R.mine x hx).2.1
    omega

/-- A block that was a place's, given away. -/
theorem Rel.free_old (R : Rel C I G s ts w) {l : Nat} (h : Live s G l) : Free C G (s.mod l .junk) w (G.blk l) := by
  obtain ⟨h1, h2, h3⟩ := R.mine l h
  refine ⟨h2, h1, h3, fun x hx he => ?_⟩
  have hxl : x ≠ l := by rintro rfl; rcases hx with h | h <;> simp [AV.isHdr, AV.isOwn] at h
  exact hxl (R.inj x l (by simpa [Live, hxl] using hx) h he)

/-- A free block is written. -/
theorem Rel.touch (R : Rel C I G s ts w) {b : Nat} (F : Free C G s w b) (S : Same w w' b) (hI : ∀ o v, I b o = some v → w'.cell? ⟨b, o, none⟩ = some v) : Rel C I G s ts w' := by
  refine ⟨S.below F.ge R.below, R.laid, by rw [S.size]; exact R.base, ?_, ?_, R.size, R.small, R.tmps, R.high, R.notHdr, R.hdrs, ?_, ?_, R.inj, ?_, R.immH⟩
  · intro b' o hb
    rw [S.block b' (by rintro rfl; simp [F.prot] at hb)]; exact R.prot b' o hb
  · intro b' o v hv
    by_cases e : b' = b
    · subst e; exact hI o v hv
    · have := R.imm b' o v hv
      simpa [World.cell?, S.block b' e] using this
  · intro n e z hz
    obtain ⟨h1, cs, h2, h3⟩ := R.objs n e z hz
    exact ⟨h1, cs, by rw [S.block _ (F.live _ (.inl (by simp [hz, AV.isHdr])))]; exact h2, h3⟩
  · intro k e z xs fz hk
    obtain ⟨o1, o2, o3, o4⟩ := R.owns k e z xs fz hk
    refine ⟨o1, o2, fun hn => ?_, o4⟩
    obtain ⟨cur, c1, c2⟩ := o3 hn
    exact ⟨cur, by rw [S.block _ (F.live _ (.inr ⟨by simp [hk, AV.isOwn], hn⟩))]; exact c1, c2⟩
  · intro k hk
    rw [S.size]; exact R.mine k hk

/-- What a free block holds is told for good. -/
theorem Rel.freeze (R : Rel C I G s ts w) {b : Nat} (F : Free C G s w b) (hIJ : I.le J) (hJ : ∀ o v, J b o = some v → w.cell? ⟨b, o, none⟩ = some v) (ho : ∀ b', b' ≠ b → ∀ o, J b' o = I b' o) : Rel C J G s ts w := by
  refine ⟨R.below, R.laid, R.base, R.prot, ?_, R.size, R.small, ?_, R.high, R.notHdr, R.hdrs, ?_, ?_, R.inj, R.mine, ?_⟩
  · intro b' o v hv
    by_cases e : b' = b
    · subst e; exact hJ o v hv
    · exact R.imm b' o v (by rw [← ho b' e]; exact hv)
  · intro t ht; exact (R.tmps t ht).keep hIJ (Keeps.refl s G) (fun _ => ⟨rfl, rfl, rfl⟩)
  · intro n e z hz
    obtain ⟨h1, cs, h2, h3, h4⟩ := R.objs n e z hz
    exact ⟨h1, cs, h2, h3, fun j hj => (h4 j hj).keep hIJ (Keeps.refl s G) (fun _ => ⟨rfl, rfl, rfl⟩)⟩
  · intro k e z xs fz hk
    obtain ⟨o1, o2, o3, o4⟩ := R.owns k e z xs fz hk
    refine ⟨o1, o2, fun hn => ?_, fun hn o v hv => ?_⟩
    · obtain ⟨cur, c1, c2, c3, c4, c5⟩ := o3 hn
      exact ⟨cur, c1, c2, c3, c4, c5.mono hIJ⟩
    · rw [ho _ (F.live k (.inr ⟨by simp [hk, AV.isOwn], hn⟩))] at hv
      exact o4 hn o v hv
  · intro k hk o
    rw [ho _ (F.live k (.inl hk))]; exact R.immH k hk o

/-- A place gets a row of its own, in a block that was free. -/
theorem Rel.put_own {k : Nat} (R : Rel C I G s ts w) {e z : Nat} {xs : List (List PV)} {fz : Bool} {b cap : Nat} {cur : Array Value} (F : Free C G s w b)
    (hi : ∀ o v, I b o = some v → fz = true ∧ o < xs.length * z)
    (hw : w.heap[b]? = some (.cells cur e (0, 0))) (hz : 0 < z) (hn : xs.length ≤ cap) (hc : cap ≤ maxLen) (hs : cur.size = cap * z) (hr : RowsRel I z xs cur.toList)
    (W : Wrote C G s k (.slice (some ⟨b, 0, none⟩) xs.length cap) ts w ts' w') : Rel C I (G.upd k b cap false) (s.set k (.own e z xs fz)) ts' w' := by
  have hb : w'.heap[b]? = w.heap[b]? := by
    cases W with
    | tmp => rfl
    | cell n j e' z' cs w' hk hj hh hw1 hw' hs' => exact hs'.block _ fun h => F.live (khdr n) (.inl (by simp [hh, AV.isHdr])) h.symm
  refine R.put W (fun x hx => by simp [Ghost.upd, hx]) rfl (by simp [CellRel, addrOf, Ghost.upd]) ?_
  intro e' z' xs' fz' hv
  injection hv with h1 h2 h3 h4
  subst h1 h2 h3 h4
  refine ⟨⟨hz, by simp [Ghost.upd], fun _ => ⟨cur, by simpa [Ghost.upd, hb] using hw, by simpa [Ghost.upd] using hn, by simpa [Ghost.upd] using hc, by simpa [Ghost.upd] using hs, hr⟩, ?_⟩, fun _ => ⟨fun x hx hl => by simpa [Ghost.upd] using F.live x hl, by simpa [Ghost.upd] using F.ge, by simpa [Ghost.upd] using F.lt, by simpa [Ghost.upd] using F.prot⟩⟩
  intro _ o v hv
  exact hi o v (by simpa [Ghost.upd] using hv)

/-- A row is told anew where it lies: other cells, or told for good. -/
theorem Rel.mod_own {l e z : Nat} {xs xs' : List (List PV)} {fz fz' : Bool} (R : Rel C I G s ts w) (ho : s.val l = .own e z xs fz) (hlen : xs'.length = xs.length) (hIJ : I.le J)
    (hn : G.nil l = false ∨ (w' = w ∧ J = I)) (S : Same w w' (G.blk l)) (hJ : ∀ o v, J (G.blk l) o = some v → w'.cell? ⟨G.blk l, o, none⟩ = some v) (hJo : ∀ b, b ≠ G.blk l → ∀ o, J b o = I b o)
    (hO : OwnOk J G w' l e z xs' fz') : Rel C J G (s.mod l (.own e z xs' fz')) ts w' := by
  have hkeep : Keeps s (s.mod l (.own e z xs' fz')) G G := Keeps.mod s l _ (fun _ => by simp [ho, AV.isOwn, AV.ownZ]) (by simp [AV.isHdr])
  have hlive : ∀ x, Live (s.mod l (.own e z xs' fz')) G x ↔ Live s G x := by
    intro x
    by_cases h : x = l
    · subst h; simp [Live, ho, AV.isHdr, AV.isOwn]
    · simp [Live, h]
  have hblk : ∀ b, (∀ x, Live s G x → x ≠ l → True) → b ≠ G.blk l ∨ G.nil l = true → w'.heap[b]? = w.heap[b]? := by
    intro b _ hb
    rcases hn with h | ⟨rfl, _⟩
    · rcases hb with hb | hb
      · exact S.block b hb
      · simp [h] at hb
    · rfl
  have hll : G.nil l = false → Live s G l := fun h => .inr ⟨by simp [ho, AV.isOwn], h⟩
  have hne : ∀ x, Live s G x → x ≠ l → G.blk x ≠ G.blk l ∨ G.nil l = true := by
    intro x hx hxl
    cases h : G.nil l with
    | true => exact .inr rfl
    | false => exact .inl fun he => hxl (R.inj x l hx (hll h) he)
  have hJI : ∀ x, Live s G x → x ≠ l → ∀ o, J (G.blk x) o = I (G.blk x) o := by
    intro x hx hxl o
    rcases hne x hx hxl with h | h
    · exact hJo _ h o
    · rcases hn with h' | ⟨_, rfl⟩
      · simp [h] at h'
      · rfl
  refine ⟨?_, R.laid, by rw [S.size]; exact R.base, ?_, ?_, R.size, R.small, ?_, ?_, ?_, ?_, ?_, ?_, ?_, ?_, ?_⟩
  · rcases hn with h | ⟨rfl, _⟩
    · exact S.below (R.mine l (hll h)).1 R.below
    · exact R.below
  · intro b o hb
    rw [hblk b (fun _ _ _ => trivial) ?_]
    · exact R.prot b o hb
    · cases h : G.nil l with
      | true => exact .inr rfl
      | false => exact .inl (by rintro rfl; simp [(R.mine l (hll h)).2.2] at hb)
  · intro b o v hv
    by_cases e' : b = G.blk l
    · subst e'; exact hJ o v hv
    · have := R.imm b o v (by rw [← hJo b e']; exact hv)
      simpa [World.cell?, S.block b e'] using this
  · intro t ht
    by_cases e' : t = l
    · subst e'
      have := R.tmps t ht
      rw [ho] at this
      simp only [CellRel] at this
      simp only [St.mod_val, if_true, CellRel]
      rw [hlen]; exact this
    · have := (R.tmps t ht).keep hIJ hkeep (fun _ => ⟨rfl, rfl, rfl⟩)
      simpa [e'] using this
  · intro t h1 h2
    have e' : t ≠ l := by rintro rfl; have := R.high t h1 h2; simp [ho] at this
    simpa [e'] using R.high t h1 h2
  · intro t ht
    by_cases e' : t = l
    · subst e'; simp [AV.isHdr]
    · simpa [e'] using R.notHdr t ht
  · intro n
    have e' : khdr n ≠ l := by rintro rfl; have := R.hdrs n; simp [ho, AV.isOwn] at this
    simpa [e'] using R.hdrs n
  · intro n e0 z0 hz
    have hnl : khdr n ≠ l := by rintro rfl; simp at hz
    have hz' : s.val (khdr n) = .hdr e0 z0 := by simpa [hnl] using hz
    obtain ⟨h1, cs, h2, h3, h4⟩ := R.objs n e0 z0 hz'
    refine ⟨h1, cs, by rw [hblk _ (fun _ _ _ => trivial) (hne _ (.inl (by simp [hz', AV.isHdr])) hnl)]; exact h2, h3, fun j hj => ?_⟩
    by_cases e' : kcell n j = l
    · have := h4 j hj
      rw [e', ho] at this
      simp only [CellRel] at this
      simp only [e', St.mod_val, if_true, CellRel]
      rw [hlen]; exact this
    · have := (h4 j hj).keep hIJ hkeep (fun _ => ⟨rfl, rfl, rfl⟩)
      simpa [e'] using this
  · intro x e0 z0 xs0 fz0 hx
    by_cases e' : x = l
    · subst e'
      simp only [St.mod_val, if_true] at hx
      injection hx with a1 a2 a3 a4
      subst a1 a2 a3 a4
      exact hO
    · have hx' : s.val x = .own e0 z0 xs0 fz0 := by simpa [e'] using hx
      obtain ⟨o1, o2, o3, o4⟩ := R.owns x e0 z0 xs0 fz0 hx'
      refine ⟨o1, o2, fun h => ?_, fun h o v hv => ?_⟩
      · obtain ⟨cur, c1, c2, c3, c4, c5⟩ := o3 h
        have hlx : Live s G x := .inr ⟨by simp [hx', AV.isOwn], h⟩
        exact ⟨cur, by rw [hblk _ (fun _ _ _ => trivial) (hne x hlx e')]; exact c1, c2, c3, c4, c5.mono hIJ⟩
      · rw [hJI x (.inr ⟨by simp [hx', AV.isOwn], h⟩) e'] at hv
        exact o4 h o v hv
  · intro x x' hx hx' hb
    exact R.inj x x' ((hlive x).1 hx) ((hlive x').1 hx') hb
  · intro x hx
    rw [S.size]; exact R.mine x ((hlive x).1 hx)
  · intro x hx o
    have e' : x ≠ l := by rintro rfl; simp [AV.isHdr] at hx
    have hx' : (s.val x).isHdr = true := by simpa [e'] using hx
    rw [hJI x (.inl hx') e']
    exact R.immH x hx' o

/-- A new object: its cells are told afterwards. -/
theorem Rel.put_hdr {n e z b : Nat} {cs : Array Value} (R : Rel C I G s ts w) (F : Free C G s w b) (hi : ∀ o, I b o = none) (hw : w.heap[b]? = some (.cells cs e (0, 0))) (hz : cs.size = z) (h62 : z ≤ 62)
    (hj : ∀ j, j < z → s.val (kcell n j) = .junk) : Rel C I (G.upd (khdr n) b 0 false) (s.set (khdr n) (.hdr e z)) ts w := by
  have hG : ∀ x, x ≠ khdr n → (G.upd (khdr n) b 0 false).blk x = G.blk x ∧ (G.upd (khdr n) b 0 false).cap x = G.cap x ∧ (G.upd (khdr n) b 0 false).nil x = G.nil x := fun x hx => by simp [Ghost.upd, hx]
  have hkeep : Keeps s (s.set (khdr n) (.hdr e z)) G (G.upd (khdr n) b 0 false) := Keeps.set s _ _ hG
  have hlive : ∀ x, x ≠ khdr n → (Live (s.set (khdr n) (.hdr e z)) (G.upd (khdr n) b 0 false) x ↔ Live s G x) := by
    intro x hx; simp [Live, hx, Ghost.upd]
  have hbk : (G.upd (khdr n) b 0 false).blk (khdr n) = b := by simp [Ghost.upd]
  have hbx : ∀ x, x ≠ khdr n → (G.upd (khdr n) b 0 false).blk x = G.blk x := fun x hx => (hG x hx).1
  refine ⟨R.below, R.laid, R.base, R.prot, R.imm, R.size, R.small, ?_, ?_, ?_, fun m => by (by_cases h : khdr m = khdr n; (simp [h, AV.isOwn]); (simpa [h] using R.hdrs m)), ?_, ?_, ?_, ?_, ?_⟩
  · intro t ht
    have h : t ≠ khdr n := by have := khdr_ge n; have := R.small; omega
    have := (R.tmps t ht).keep (Imm.le_refl I) hkeep (fun _ => hG t h)
    simpa [h] using this
  · intro t h1 h2
    have h : t ≠ khdr n := by have := khdr_ge n; omega
    simpa [h] using R.high t h1 h2
  · intro t ht
    have h : t ≠ khdr n := by have := khdr_ge n; omega
    simpa [h] using R.notHdr t ht
  · intro m e0 z0 hm
    by_cases h : m = n
    · subst h
      simp only [St.set_val, if_true] at hm
      injection hm with a1 a2
      subst a1 a2
      refine ⟨h62, cs, by rw [hbk]; exact hw, hz, fun j hjz => ?_⟩
      have hc : kcell m j ≠ khdr m := kcell_ne_hdr (by omega)
      simp [hc, hj j hjz, CellRel, AVRel]
    · have hk : khdr m ≠ khdr n := fun h' => h (khdr_inj h')
      obtain ⟨h1, cs', h2, h3, h4⟩ := R.objs m e0 z0 (by simpa [hk] using hm)
      refine ⟨h1, cs', by rw [hbx _ hk]; exact h2, h3, fun j hjz => ?_⟩
      have hc : kcell m j ≠ khdr n := kcell_ne_hdr (by omega)
      have := (h4 j hjz).keep (Imm.le_refl I) hkeep (fun _ => hG _ hc)
      simpa [hc] using this
  · intro x e0 z0 xs fz hx
    have hk : x ≠ khdr n := by rintro rfl; simp at hx
    obtain ⟨o1, o2, o3, o4⟩ := R.owns x e0 z0 xs fz (by simpa [hk] using hx)
    obtain ⟨g1, g2, g3⟩ := hG x hk
    exact ⟨o1, by rw [g3]; exact o2, by rw [g1, g2, g3]; exact o3, by rw [g1, g3]; exact o4⟩
  · intro x x' hx hx' hb'
    by_cases h : x = khdr n <;> by_cases h' : x' = khdr n
    · rw [h, h']
    · subst h; rw [hbk, hbx _ h'] at hb'; exact absurd hb'.symm (F.live x' ((hlive x' h').1 hx'))
    · subst h'; rw [hbk, hbx _ h] at hb'; exact absurd hb' (F.live x ((hlive x h).1 hx))
    · rw [hbx _ h, hbx _ h'] at hb'; exact R.inj x x' ((hlive x h).1 hx) ((hlive x' h').1 hx') hb'
  · intro x hx
    by_cases h : x = khdr n
    · subst h; rw [hbk]; exact ⟨F.ge, F.lt, F.prot⟩
    · rw [hbx _ h]; exact R.mine x ((hlive x h).1 hx)
  · intro x hx o
    by_cases h : x = khdr n
    · subst h; rw [hbk]; exact hi o
    · rw [hbx _ h]; exact R.immH x (by simpa [h] using hx) o

/-- What a place that gives its row away leaves: a free block, but for what of it is not written any more. -/
theorem Rel.put_from {k l : Nat} (R : Rel C I G s ts w) (hkl : k ≠ l) (hl : l < 4096) {e z : Nat} {xs : List (List PV)} {fz : Bool} (ho : s.val l = .own e z xs fz)
    (W : Wrote C G s k (addrOf G l xs.length) ts w ts' w') : ∃ G', Rel C I G' ((s.mod l .junk).set k (.own e z xs fz)) ts' w' ∧ G'.blk k = G.blk l ∧ G'.cap k = G.cap l ∧ G'.nil k = G.nil l ∧ (∀ x, x ≠ k → G'.blk x = G.blk x ∧ G'.cap x = G.cap x ∧ G'.nil x = G.nil x) := by
  have R1 : Rel C I G (s.mod l .junk) ts w := by
    refine R.mod_plain rfl rfl (fun _ => by simp [AVRel]) (fun _ => rfl)
  have W1 : Wrote C G (s.mod l .junk) k (addrOf G l xs.length) ts w ts' w' := by
    cases W with
    | tmp hk => exact .tmp hk
    | cell n j e' z' cs w' hk hj hh hw hw' hs => exact .cell n j e' z' cs w' hk hj (by have := khdr_ge n; simp [show khdr n ≠ l by omega, hh]) hw hw' hs
  have O := R.owns l e z xs fz ho
  have hb : G.nil l = false → w'.heap[G.blk l]? = w.heap[G.blk l]? := by
    intro hn
    cases W with
    | tmp => rfl
    | cell n j e' z' cs w' hk hj hh hw hw' hs =>
      refine hs.block _ fun h => ?_
      have := R.inj l (khdr n) (.inr ⟨by simp [ho, AV.isOwn], hn⟩) (.inl (by simp [hh, AV.isHdr])) h
      have := khdr_ge n; omega
  refine ⟨G.upd k (G.blk l) (G.cap l) (G.nil l), ?_, by simp [Ghost.upd], by simp [Ghost.upd], by simp [Ghost.upd], fun x hx => by simp [Ghost.upd, hx]⟩
  refine R1.put W1 (fun x hx => by simp [Ghost.upd, hx]) rfl (by simp [CellRel, addrOf, Ghost.upd]) ?_
  intro e' z' xs1 fz' hv
  injection hv with h1 h2 h3 h4
  subst h1 h2 h3 h4
  refine ⟨⟨O.pos, by simpa [Ghost.upd] using O.nil, ?_, by simpa [Ghost.upd] using O.imm⟩, ?_⟩
  · intro hn
    have hn' : G.nil l = false := by simpa [Ghost.upd] using hn
    obtain ⟨cur, c1, c2⟩ := O.row hn'
    exact ⟨cur, by simpa [Ghost.upd, hb hn'] using c1, by simpa [Ghost.upd] using c2⟩
  · intro hn
    have hn' : G.nil l = false := by simpa [Ghost.upd] using hn
    have M := R.mine l (.inr ⟨by simp [ho, AV.isOwn], hn'⟩)
    refine ⟨fun x hx hlx => ?_, by simpa [Ghost.upd] using M⟩
    have hxl : x ≠ l := by
      rintro rfl
      rcases hlx with h | h <;> simp [AV.isHdr, AV.isOwn] at h
    have hlx' : Live s G x := by simpa [Live, hxl] using hlx
    intro he
    exact hxl (R.inj x l hlx' (.inr ⟨by simp [ho, AV.isOwn], hn'⟩) (by simpa [Ghost.upd] using he))
end

end Go.Proofs.YtkjglhamlnnboaaDoor.Am
