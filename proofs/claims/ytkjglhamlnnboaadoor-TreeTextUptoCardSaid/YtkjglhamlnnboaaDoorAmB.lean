/-
  THE ABSTRACT MACHINE, part B: when a state tells a frame and a world. Plain definitions and lemmas.
-/
import Derived.Test.YtkjglhamlnnboaaDoorAmA
set_option linter.unusedVariables false
set_option linter.unusedSimpArgs false
namespace Go.Proofs.YtkjglhamlnnboaaDoor.Am
open Go Go.RowKit

/-- Cells that are not written any more, and what they hold. -/
abbrev Imm := Nat → Nat → Option Value
def Imm.le (I J : Imm) : Prop := ∀ b o v, I b o = some v → J b o = some v
theorem Imm.le_refl (I : Imm) : I.le I := fun _ _ _ h => h
theorem Imm.le_trans {I J K : Imm} (h : I.le J) (k : J.le K) : I.le K := fun b o v hv => k b o v (h b o v hv)

inductive PVRel (I : Imm) : PV → Value → Prop
  | v (x : Value) : PVRel I (.v x) x
  | agg (cs : List PV) (vs : List Value) (h : vs.length = cs.length) (hr : ∀ j x, cs[j]? = some x → PVRel I x (vs.getD j undef)) : PVRel I (.agg cs) (.agg vs.toArray)
  | nil (z : Nat) (a : Option Addr) (cap : Nat) (hc : cap ≤ maxLen) : PVRel I (.sl z []) (.slice a 0 cap)
  | sl (xs : List (List PV)) (b o z cap : Nat) (val : Nat → Value) (hz : 0 < z) (hn : xs ≠ []) (hl : ∀ r, r ∈ xs → r.length = z) (hc : xs.length ≤ cap) (hm : cap ≤ maxLen)
      (hI : ∀ k, k < xs.length * z → I b (o + k) = some (val k)) (h1 : ∀ k, k < xs.length * z → (val k).oneCell' = true)
      (hr : ∀ (i j : Nat) (row : List PV) (x : PV), xs[i]? = some row → row[j]? = some x → PVRel I x (val (i * z + j))) : PVRel I (.sl z xs) (.slice (some ⟨b, o, none⟩) xs.length cap)
  | ptr (cs : List PV) (b o : Nat) (val : Nat → Value) (hI : ∀ k, k < cs.length → I b (o + k) = some (val k)) (h1 : ∀ k, k < cs.length → (val k).oneCell' = true)
      (hr : ∀ j x, cs[j]? = some x → PVRel I x (val j)) : PVRel I (.ptr cs) (.pointer (some ⟨b, o, none⟩))
  | iface (t : TypeId) (x : PV) (y : Value) (h : PVRel I x y) : PVRel I (.iface t x) (.iface t y)

theorem PVRel.mono {I J : Imm} (hIJ : I.le J) {x : PV} {y : Value} (h : PVRel I x y) : PVRel J x y := by
  induction h with
  | v x => exact .v x
  | agg cs vs h _ ih => exact .agg cs vs h ih
  | nil z a cap hc => exact .nil z a cap hc
  | sl xs b o z cap val hz hn hl hc hm hI h1 _ ih => exact .sl xs b o z cap val hz hn hl hc hm (fun k hk => hIJ _ _ _ (hI k hk)) h1 ih
  | ptr cs b o val hI h1 _ ih => exact .ptr cs b o val (fun k hk => hIJ _ _ _ (hI k hk)) h1 ih
  | iface t x y _ ih => exact .iface t x y ih

/-- Where what is owned lies. -/
structure Ghost where
  blk : Nat → Nat
  cap : Nat → Nat
  nil : Nat → Bool

def addrOf (G : Ghost) (l len : Nat) : Value := if G.nil l then .slice none 0 0 else .slice (some ⟨G.blk l, 0, none⟩) len (G.cap l)

def AV.isOwn : AV → Bool
  | .own .. => true
  | _ => false
def AV.isHdr : AV → Bool
  | .hdr .. => true
  | _ => false
/-- The size of the elements that are owned. -/
def AV.ownZ : AV → Nat
  | .own _ z _ _ => z
  | _ => 0

mutual
def AVRel (I : Imm) (G : Ghost) (s : St) : AV → Value → Prop
  | .p x, y => PVRel I x y
  | .nilS, y => y = .slice none 0 0
  | .ptr n ver off, y => ver ≤ s.ver (khdr n) ∧ (∃ ad, y = .pointer (some ad)) ∧ (ver = s.ver (khdr n) → (s.val (khdr n)).isHdr = true → y = .pointer (some ⟨G.blk (khdr n), off, none⟩))
  | .ref l ver len, y => ver ≤ s.ver l ∧ (∃ ad c, y = .slice ad len c) ∧ (ver = s.ver l → (s.val l).isOwn = true → y = addrOf G l len)
  | .eptr l ver i j, y => ver ≤ s.ver l ∧ (∃ ad, y = .pointer (some ad)) ∧ (ver = s.ver l → (s.val l).isOwn = true → G.nil l = false ∧ y = .pointer (some ⟨G.blk l, i * (s.val l).ownZ + j, none⟩))
  | .sref n ver len, y => ver ≤ s.ver (khdr n) ∧ (∃ ad c, y = .slice (some ad) len c) ∧ (ver = s.ver (khdr n) → (s.val (khdr n)).isHdr = true → ∃ c, y = .slice (some ⟨G.blk (khdr n), 0, none⟩) len c)
  | .own .., _ => False
  | .clo f caps, y => ∃ cs : List Value, y = .func (.func f) #[] cs.toArray ∧ AVRels I G s caps cs
  | .agg cs, y => ∃ vs : List Value, y = .agg vs.toArray ∧ AVRels I G s cs vs
  | .tup cs, y => ∃ vs : List Value, y = .tuple vs.toArray ∧ AVRels I G s cs vs
  | .ifc t x, y => ∃ y', y = .iface t y' ∧ AVRel I G s x y'
  | .hdr .., _ => False
  | .junk, _ => True
def AVRels (I : Imm) (G : Ghost) (s : St) : List AV → List Value → Prop
  | [], ys => ys = []
  | c :: cs, ys => ∃ y ys', ys = y :: ys' ∧ AVRel I G s c y ∧ AVRels I G s cs ys'
end

/-- What place k holds. -/
def CellRel (I : Imm) (G : Ghost) (s : St) (k : Nat) (v : AV) (y : Value) : Prop := match v with
  | .own _ _ xs _ => y = addrOf G k xs.length
  | v => AVRel I G s v y

def RowsRel (I : Imm) (z : Nat) (xs : List (List PV)) (cur : List Value) : Prop :=
  (∀ r, r ∈ xs → r.length = z) ∧ ∀ (i j : Nat) (row : List PV) (x : PV), xs[i]? = some row → row[j]? = some x → ∃ y, cur[i * z + j]? = some y ∧ PVRel I x y ∧ y.oneCell' = true

structure OwnOk (I : Imm) (G : Ghost) (w : World) (k e z : Nat) (xs : List (List PV)) (fz : Bool) : Prop where
  pos : 0 < z
  nil : G.nil k = true → xs = []
  row : G.nil k = false → ∃ cur, w.heap[G.blk k]? = some (.cells cur e (0, 0)) ∧ xs.length ≤ G.cap k ∧ G.cap k ≤ maxLen ∧ cur.size = G.cap k * z ∧ RowsRel I z xs cur.toList
  imm : G.nil k = false → ∀ o v, I (G.blk k) o = some v → fz = true ∧ o < xs.length * z

def Live (s : St) (G : Ghost) (k : Nat) : Prop := (s.val k).isHdr = true ∨ (s.val k).isOwn = true ∧ G.nil k = false

/-- What is laid ahead of all calls: the library's table of the powers of ten, where the program has it. -/
def Laid (B : Nat) (w0 : World) : Prop := ∀ w, Below B w0 w → (∃ g, g ∈ Proofs.Tryd.prog.globals.toList ∧ g.name = "internal/strconv.uint64pow10") → Lib.TabIs Proofs.Tryd.prog w "internal/strconv.uint64pow10" .u64 Lib.pow10Tab

/-- What a frame's proof goes by: the first block of the law's own, the world that it began in, what must stay, how many temporaries there are. -/
structure Ctx where
  B : Nat
  w0 : World
  prot : Nat → Option Obj
  N : Nat

structure Rel (C : Ctx) (I : Imm) (G : Ghost) (s : St) (ts : Array Value) (w : World) : Prop where
  below : Below C.B C.w0 w
  laid : Laid C.B C.w0
  base : C.B ≤ w.heap.size
  prot : ∀ b o, C.prot b = some o → w.heap[b]? = some o
  imm : ∀ b o v, I b o = some v → w.cell? ⟨b, o, none⟩ = some v
  size : ts.size = C.N
  small : C.N ≤ 4096
  tmps : ∀ t, t < C.N → CellRel I G s t (s.val t) (ts.getD t undef)
  high : ∀ t, C.N ≤ t → t < 4096 → s.val t = .junk
  notHdr : ∀ t, t < 4096 → (s.val t).isHdr = false
  hdrs : ∀ n, (s.val (khdr n)).isOwn = false
  objs : ∀ n e z, s.val (khdr n) = .hdr e z → z ≤ 62 ∧ ∃ cs, w.heap[G.blk (khdr n)]? = some (.cells cs e (0, 0)) ∧ cs.size = z ∧ ∀ j, j < z → CellRel I G s (kcell n j) (s.val (kcell n j)) (cs.getD j undef)
  owns : ∀ k e z xs fz, s.val k = .own e z xs fz → OwnOk I G w k e z xs fz
  inj : ∀ k k', Live s G k → Live s G k' → G.blk k = G.blk k' → k = k'
  mine : ∀ k, Live s G k → C.B ≤ G.blk k ∧ G.blk k < w.heap.size ∧ C.prot (G.blk k) = none
  immH : ∀ k, (s.val k).isHdr = true → ∀ o, I (G.blk k) o = none

/-! ### Plain facts on places -/
theorem khdr_inj {n m : Nat} (h : khdr n = khdr m) : n = m := by unfold khdr at h; omega
theorem kcell_ne_hdr {n m j : Nat} (h : j ≤ 62) : kcell n j ≠ khdr m := by unfold kcell khdr; omega
theorem kcell_ge (n j : Nat) : 4096 ≤ kcell n j := by unfold kcell; omega
theorem khdr_ge (n : Nat) : 4096 ≤ khdr n := by unfold khdr; omega
theorem kcell_inj {n m j i : Nat} (hj : j ≤ 62) (hi : i ≤ 62) (h : kcell n j = kcell m i) : n = m ∧ j = i := by unfold kcell at h; omega
theorem kcell_succ (n j : Nat) : kcell n j + 1 = kcell n (j + 1) := by unfold kcell; omega

section lemmas
variable {I J : Imm} {G G' : Ghost} {s : St}

@[simp] theorem St.set_val (s : St) (k : Nat) (v : AV) (x : Nat) : (s.set k v).val x = if x = k then v else s.val x := rfl
@[simp] theorem St.set_ver (s : St) (k : Nat) (v : AV) (x : Nat) : (s.set k v).ver x = if x = k then s.ver k + 1 else s.ver x := rfl
@[simp] theorem St.mod_val (s : St) (k : Nat) (v : AV) (x : Nat) : (s.mod k v).val x = if x = k then v else s.val x := rfl
@[simp] theorem St.mod_ver (s : St) (k : Nat) (v : AV) (x : Nat) : (s.mod k v).ver x = s.ver x := rfl

/-- How a value's meaning hangs on the state: on the versions, and, of those places whose version is as it was, on the kind and on where they lie. -/
structure Keeps (s s' : St) (G G' : Ghost) : Prop where
  up : ∀ k, s.ver k ≤ s'.ver k
  own : ∀ k, s.ver k = s'.ver k → (s'.val k).isOwn = true → (s.val k).isOwn = true ∧ (s'.val k).ownZ = (s.val k).ownZ ∧ G'.blk k = G.blk k ∧ G'.cap k = G.cap k ∧ G'.nil k = G.nil k
  hdr : ∀ k, s.ver k = s'.ver k → (s'.val k).isHdr = true → (s.val k).isHdr = true ∧ G'.blk k = G.blk k

theorem Keeps.refl (s : St) (G : Ghost) : Keeps s s G G := ⟨fun _ => Nat.le_refl _, fun _ _ h => ⟨h, rfl, rfl, rfl, rfl⟩, fun _ _ h => ⟨h, rfl⟩⟩

theorem addrOf_congr {l : Nat} (len : Nat) (h1 : G'.blk l = G.blk l) (h2 : G'.cap l = G.cap l) (h3 : G'.nil l = G.nil l) : addrOf G' l len = addrOf G l len := by simp [addrOf, h1, h2, h3]

mutual
theorem AVRel.keep {s s' : St} (hI : I.le J) (hk : Keeps s s' G G') : ∀ {v : AV} {y : Value}, AVRel I G s v y → AVRel J G' s' v y
  | .p x, y, h => by simp only [AVRel] at h ⊢; exact h.mono hI
  | .nilS, y, h => by simpa only [AVRel] using h
  | .ptr n ver off, y, h => by
    simp only [AVRel] at h ⊢
    refine ⟨Nat.le_trans h.1 (hk.up _), h.2.1, fun hv hh => ?_⟩
    have hv' : s.ver (khdr n) = s'.ver (khdr n) := Nat.le_antisymm (hk.up _) (by omega)
    obtain ⟨h1, h2⟩ := hk.hdr _ hv' hh
    rw [h2]
    exact h.2.2 (by omega) h1
  | .ref l ver len, y, h => by
    simp only [AVRel] at h ⊢
    refine ⟨Nat.le_trans h.1 (hk.up _), h.2.1, fun hv hh => ?_⟩
    have hv' : s.ver l = s'.ver l := Nat.le_antisymm (hk.up _) (by omega)
    obtain ⟨h1, h2, h3, h4, h5⟩ := hk.own _ hv' hh
    rw [addrOf_congr len h3 h4 h5]
    exact h.2.2 (by omega) h1
  | .eptr l ver i j, y, h => by
    simp only [AVRel] at h ⊢
    refine ⟨Nat.le_trans h.1 (hk.up _), h.2.1, fun hv hh => ?_⟩
    have hv' : s.ver l = s'.ver l := Nat.le_antisymm (hk.up _) (by omega)
    obtain ⟨h1, h2, h3, h4, h5⟩ := hk.own _ hv' hh
    rw [h2, h3, h5]
    exact h.2.2 (by omega) h1
  | .sref n ver len, y, h => by
    simp only [AVRel] at h ⊢
    refine ⟨Nat.le_trans h.1 (hk.up _), h.2.1, fun hv hh => ?_⟩
    have hv' : s.ver (khdr n) = s'.ver (khdr n) := Nat.le_antisymm (hk.up _) (by omega)
    obtain ⟨h1, h2⟩ := hk.hdr _ hv' hh
    rw [h2]
    exact h.2.2 (by omega) h1
  | .own .., y, h => by simp only [AVRel] at h
  | .clo f caps, y, h => by
    simp only [AVRel] at h ⊢
    obtain ⟨cs, rfl, hc⟩ := h
    exact ⟨cs, rfl, AVRels.keep hI hk hc⟩
  | .agg cs, y, h => by
    simp only [AVRel] at h ⊢
    obtain ⟨vs, rfl, hc⟩ := h
    exact ⟨vs, rfl, AVRels.keep hI hk hc⟩
  | .tup cs, y, h => by
    simp only [AVRel] at h ⊢
    obtain ⟨vs, rfl, hc⟩ := h
    exact ⟨vs, rfl, AVRels.keep hI hk hc⟩
  | .ifc t x, y, h => by
    simp only [AVRel] at h ⊢
    obtain ⟨y', rfl, hc⟩ := h
    exact ⟨y', rfl, AVRel.keep hI hk hc⟩
  | .hdr .., y, h => by simp only [AVRel] at h
  | .junk, y, h => by simp only [AVRel]
theorem AVRels.keep {s s' : St} (hI : I.le J) (hk : Keeps s s' G G') : ∀ {vs : List AV} {ys : List Value}, AVRels I G s vs ys → AVRels J G' s' vs ys
  | [], ys, h => by simpa only [AVRels] using h
  | c :: cs, ys, h => by
    simp only [AVRels] at h ⊢
    obtain ⟨y, ys', rfl, h1, h2⟩ := h
    exact ⟨y, ys', rfl, AVRel.keep hI hk h1, AVRels.keep hI hk h2⟩
end

theorem allP_rel : ∀ {cs : List AV} {l : List PV} {vs : List Value}, allP cs = some l → AVRels I G s cs vs → vs.length = l.length ∧ ∀ j x, l[j]? = some x → PVRel I x (vs.getD j undef)
  | [], l, vs, h, r => by
    simp only [allP, Option.some.injEq] at h
    subst h
    simp only [AVRels] at r
    subst r
    simp
  | c :: cs, l, vs, h, r => by
    cases c
    case p x =>
      simp only [allP, Option.map_eq_some_iff] at h
      obtain ⟨l', h1, rfl⟩ := h
      simp only [AVRels] at r
      obtain ⟨y, ys, rfl, r1, r2⟩ := r
      obtain ⟨e1, e2⟩ := allP_rel h1 r2
      refine ⟨by simp [e1], fun j z hj => ?_⟩
      cases j with
      | zero =>
        simp only [List.getElem?_cons_zero, Option.some.injEq] at hj
        subst hj
        simpa [AVRel] using r1
      | succ j => simpa using e2 j z (by simpa using hj)
    all_goals (simp [allP] at h)
theorem AVRels.aggA {cs : List AV} {vs : List Value} (r : AVRels I G s cs vs) : AVRel I G s (aggA cs) (.agg vs.toArray) := by
  unfold Am.aggA
  split
  · rename_i l h
    obtain ⟨e1, e2⟩ := allP_rel h r
    simp only [AVRel]
    exact .agg _ _ e1 e2
  · simp only [AVRel]
    exact ⟨vs, rfl, r⟩

/-- A place that is written: its own meaning may turn; all others' stays. -/
theorem Keeps.set (s : St) (k : Nat) (v : AV) (h : ∀ x, x ≠ k → G'.blk x = G.blk x ∧ G'.cap x = G.cap x ∧ G'.nil x = G.nil x) : Keeps s (s.set k v) G G' := by
  refine ⟨fun x => ?_, fun x hx hh => ?_, fun x hx hh => ?_⟩
  · simp only [St.set_ver]; split <;> simp_all
  · simp only [St.set_ver, St.set_val] at *
    by_cases e : x = k
    · simp [e] at hx
    · rw [if_neg e] at hh; obtain ⟨h1, h2, h3⟩ := h x e; simp [e, hh, h1, h2, h3]
  · simp only [St.set_ver, St.set_val] at *
    by_cases e : x = k
    · simp [e] at hx
    · rw [if_neg e] at hh; obtain ⟨h1, h2, h3⟩ := h x e; exact ⟨hh, h1⟩

theorem Keeps.mod (s : St) (k : Nat) (v : AV) (h1 : v.isOwn = true → (s.val k).isOwn = true ∧ v.ownZ = (s.val k).ownZ) (h2 : v.isHdr = true → (s.val k).isHdr = true) : Keeps s (s.mod k v) G G := by
  refine ⟨fun x => by simp, fun x hx hh => ?_, fun x hx hh => ?_⟩
  · by_cases e : x = k
    · subst e
      have hh' : v.isOwn = true := by simpa using hh
      exact ⟨(h1 hh').1, by simpa using (h1 hh').2, rfl, rfl, rfl⟩
    · have hh' : (s.val x).isOwn = true := by simpa [e] using hh
      exact ⟨hh', by simp [e], rfl, rfl, rfl⟩
  · by_cases e : x = k
    · subst e
      have hh' : v.isHdr = true := by simpa using hh
      exact ⟨h2 hh', rfl⟩
    · have hh' : (s.val x).isHdr = true := by simpa [e] using hh
      exact ⟨hh', rfl⟩

theorem CellRel.keep {s s' : St} (hI : I.le J) (hk : Keeps s s' G G') {k : Nat} {v : AV} {y : Value} (hG : v.isOwn = true → G'.blk k = G.blk k ∧ G'.cap k = G.cap k ∧ G'.nil k = G.nil k) (h : CellRel I G s k v y) : CellRel J G' s' k v y := by
  cases v with
  | own e z xs fz => obtain ⟨h1, h2, h3⟩ := hG rfl; simp only [CellRel] at h ⊢; rw [addrOf_congr _ h1 h2 h3]; exact h
  | _ => simp only [CellRel] at h ⊢; exact AVRel.keep hI hk h

theorem CellRel.of {k : Nat} {v : AV} {y : Value} (h : AVRel I G s v y) : CellRel I G s k v y := by
  cases v with
  | own e z xs fz => simp only [AVRel] at h
  | _ => simpa only [CellRel] using h

theorem CellRel.to {k : Nat} {v : AV} {y : Value} (hv : v.isOwn = false) (h : CellRel I G s k v y) : AVRel I G s v y := by
  cases v with
  | own e z xs fz => simp [AV.isOwn] at hv
  | _ => simpa only [CellRel] using h

theorem RowsRel.mono (hI : I.le J) {z : Nat} {xs : List (List PV)} {cur : List Value} (h : RowsRel I z xs cur) : RowsRel J z xs cur :=
  ⟨h.1, fun i j row x h1 h2 => let ⟨y, h3, h4, h5⟩ := h.2 i j row x h1 h2; ⟨y, h3, h4.mono hI, h5⟩⟩
end lemmas

end Go.Proofs.YtkjglhamlnnboaaDoor.Am
