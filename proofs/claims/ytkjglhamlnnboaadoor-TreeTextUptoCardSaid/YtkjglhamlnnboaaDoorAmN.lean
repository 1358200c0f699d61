/-
  THE ABSTRACT MACHINE, part N: a region in whatever order its edges allow.
-/
import Derived.Test.YtkjglhamlnnboaaDoorAmM
set_option linter.unusedVariables false
set_option linter.unusedSimpArgs false
namespace Go.Proofs.YtkjglhamlnnboaaDoor.Am
open Go Go.RowKit

section
variable {P : Program} {T : Tab} {C : Ctx} {I J : Imm} {G G' : Ghost} {s s' : St} {a : Act} {ts ts' : Array Value} {w w' : World}

theorem Chain.fn {ops : Array Oper} : ∀ {l : List Oper} {s s' : St} {fs : List (List Nat × List Nat)}, Chain P T ops l s s' fs →
    ∃ st : Nat → St, st 0 = s ∧ st l.length = s' ∧ fs.length = l.length ∧ ∀ (i : Nat) (o : Oper), l[i]? = some o → ∃ R W, fs[i]? = some (R, W) ∧ FRun P (guarded P T ops o) (st i) (st (i + 1)) R W
  | [], s, s', fs, h => by
    obtain ⟨rfl, rfl⟩ := h
    exact ⟨fun _ => s', rfl, rfl, rfl, fun i o h => by simp at h⟩
  | o :: l, s, s', fs, h => by
    obtain ⟨s1, R, W, fs', rfl, h1, h2⟩ := h
    obtain ⟨st, a1, a2, a3, a4⟩ := h2.fn
    refine ⟨fun i => match i with | 0 => s | i + 1 => st i, rfl, a2, by simp [a3], fun i o' ho => ?_⟩
    cases i with
    | zero => simp at ho; subst ho; exact ⟨R, W, by simp, by rw [← a1] at h1; exact h1⟩
    | succ i =>
      obtain ⟨R', W', b1, b2⟩ := a4 i o' (by simpa using ho)
      exact ⟨R', W', by simpa using b1, b2⟩

/-! ### What comes ahead of what -/

theorem befs_len : ∀ (l : List Oper) (acc : List Nat), (befs acc l).length = acc.length + l.length
  | [], acc => rfl
  | o :: r, acc => by simp only [befs]; rw [befs_len r]; simp; omega
theorem befs_old : ∀ (l : List Oper) (acc : List Nat) (i : Nat), i < acc.length → (befs acc l)[i]? = acc[i]?
  | [], acc, i, h => rfl
  | o :: r, acc, i, h => by
    simp only [befs]
    rw [befs_old r _ i (by simp; omega), List.getElem?_append_left h]

theorem befs_get : ∀ (l : List Oper) (acc : List Nat) (j : Nat) (o : Oper), l[j]? = some o → ∃ acc', acc'.length = acc.length + j ∧ (∀ i, i < acc.length + j → (befs acc l)[i]? = acc'[i]?) ∧ (befs acc l)[acc.length + j]? = some (befMask acc' o)
  | [], acc, j, o, h => by simp at h
  | o' :: r, acc, j, o, h => by
    simp only [befs]
    cases j with
    | zero =>
      simp at h
      subst h
      refine ⟨acc, rfl, fun i hi => ?_, ?_⟩
      · rw [befs_old r _ i (by simp; omega), List.getElem?_append_left (by omega)]
      · rw [befs_old r _ _ (by simp)]; simp
    | succ j =>
      obtain ⟨acc', h1, h2, h3⟩ := befs_get r (acc ++ [befMask acc o']) j o (by simpa using h)
      simp only [List.length_append, List.length_singleton] at h1 h2 h3
      exact ⟨acc', by omega, fun i hi => h2 i (by omega), by rw [show acc.length + (j + 1) = acc.length + 1 + j by omega]; exact h3⟩

theorem befMask_bit {acc : List Nat} {o : Oper} {i : Nat} (h : (befMask acc o).testBit i = true) : ∃ e, e ∈ o.after ∧ Region.binds .any e = true ∧ (e.on = i ∨ (acc.getD e.on 0).testBit i = true) := by
  have key : ∀ (l : List Edge) (m : Nat), (l.foldl (fun s e => if Region.binds .any e then s ||| (2 ^ e.on ||| acc.getD e.on 0) else s) m).testBit i = true → m.testBit i = true ∨ ∃ e, e ∈ l ∧ Region.binds .any e = true ∧ (e.on = i ∨ (acc.getD e.on 0).testBit i = true) := by
    intro l
    induction l with
    | nil => intro m h; exact .inl h
    | cons e l ih =>
      intro m h
      simp only [List.foldl_cons] at h
      rcases ih _ h with h1 | ⟨e', h1, h2⟩
      · split at h1
        · rename_i hb
          simp only [Nat.testBit_or, Bool.or_eq_true] at h1
          rcases h1 with h1 | h1 | h1
          · exact .inl h1
          · refine .inr ⟨e, by simp, hb, .inl ?_⟩
            rw [Nat.testBit_two_pow] at h1
            simpa using h1
          · exact .inr ⟨e, by simp, hb, .inr h1⟩
        · exact .inl h1
      · exact .inr ⟨e', by simp [h1], h2⟩
  rcases key o.after.toList 0 h with h1 | ⟨e, h1, h2⟩
  · simp at h1
  · exact ⟨e, by simpa using h1, h2⟩

/-- Who is listed has those listed that come ahead of it. -/
def Closed (ops : Array Oper) (D : Nat → Bool) : Prop := ∀ j o, ops[j]? = some o → D j = true → ∀ e, e ∈ o.after → Region.binds .any e = true → D e.on = true

theorem bef_listed {ops : Array Oper} {D : Nat → Bool} (hc : Closed ops D) : ∀ (j : Nat) (o : Oper), ops[j]? = some o → (∀ e, e ∈ o.after → Region.binds .any e = true → D e.on = true) → ∀ i, ((befs [] ops.toList).getD j 0).testBit i = true → D i = true := by
  intro j
  induction j using Nat.strongRecOn with
  | _ j ih =>
    intro o ho hr i hb
    obtain ⟨acc', h1, h2, h3⟩ := befs_get ops.toList [] j o (by simpa using ho)
    simp only [List.length_nil, Nat.zero_add] at h1 h2 h3
    rw [List.getD_eq_getElem?_getD, h3, Option.getD_some] at hb
    obtain ⟨e, e1, e2, e3⟩ := befMask_bit hb
    have hD := hr e e1 e2
    rcases e3 with rfl | e3
    · exact hD
    · have hlt : e.on < j := by
        rcases Nat.lt_or_ge e.on j with h | h
        · exact h
        · rw [List.getD_eq_getElem?_getD, List.getElem?_eq_none (by omega)] at e3; simp at e3
      have hsz : e.on < ops.size := by have := (Array.getElem?_eq_some_iff.1 ho).1; omega
      have hoe : ops[e.on]? = some ops[e.on] := Array.getElem?_eq_getElem hsz
      refine ih e.on hlt _ hoe (hc e.on _ hoe hD) i ?_
      rw [List.getD_eq_getElem?_getD, h2 e.on hlt, ← List.getD_eq_getElem?_getD]
      exact e3

theorem disj_spec {x y : List Nat} (h : disj x y = true) {k : Nat} (h1 : k ∈ x) (h2 : k ∈ y) : False := by
  have := List.all_eq_true.1 h k h1
  simp [h2] at this

theorem noClash_spec {bs : List Nat} : ∀ {fs : List (List Nat × List Nat)} {i0 : Nat}, noClash bs fs i0 = true → ∀ (i j : Nat) (Ri Wi Rj Wj : List Nat), i < j → fs[i]? = some (Ri, Wi) → fs[j]? = some (Rj, Wj) → (bs.getD (i0 + j) 0).testBit (i0 + i) = true ∨ (∀ k, k ∈ Wi → k ∈ Rj → False) ∧ (∀ k, k ∈ Ri → k ∈ Wj → False)
  | [], i0, h, i, j, Ri, Wi, Rj, Wj, hij, h1, h2 => by simp at h1
  | (R, W) :: rest, i0, h, i, j, Ri, Wi, Rj, Wj, hij, h1, h2 => by
    simp only [noClash, Bool.and_eq_true] at h
    obtain ⟨ha, hb⟩ := h
    cases i with
    | zero =>
      simp at h1
      obtain ⟨rfl, rfl⟩ := h1
      obtain ⟨j, rfl⟩ : ∃ q, j = q + 1 := ⟨j - 1, by omega⟩
      have hj : rest[j]? = some (Rj, Wj) := by simpa using h2
      have hm : ((Rj, Wj), i0 + 1 + j) ∈ rest.zipIdx (i0 + 1) := by
        rw [List.mem_zipIdx_iff_le_and_getElem?_sub]
        exact ⟨by omega, by simpa using hj⟩
      have := List.all_eq_true.1 ha _ hm
      simp only [Bool.or_eq_true, Bool.and_eq_true] at this
      rcases this with h3 | ⟨h3, h4⟩
      · exact .inl (by rw [show i0 + (j + 1) = i0 + 1 + j by omega]; simpa using h3)
      · exact .inr ⟨fun k k1 k2 => disj_spec h3 k1 k2, fun k k1 k2 => disj_spec h4 k1 k2⟩
    | succ i =>
      obtain ⟨j, rfl⟩ : ∃ q, j = q + 1 := ⟨j - 1, by omega⟩
      have := noClash_spec hb i j Ri Wi Rj Wj (by omega) (by simpa using h1) (by simpa using h2)
      rw [show i0 + (j + 1) = i0 + 1 + j by omega, show i0 + (i + 1) = i0 + 1 + i by omega]
      exact this

/-! ### The state when some are done -/

def cur (s0 : St) (st : Nat → St) (W : Nat → List Nat) (D : Nat → Bool) : Nat → Nat → AV × Nat
  | 0, k => (s0.val k, s0.ver k)
  | i + 1, k => if D i = true ∧ k ∈ W i then ((st (i + 1)).val k, (st (i + 1)).ver k) else cur s0 st W D i k

theorem cur_at {st : Nat → St} {W : Nat → List Nat} {D : Nat → Bool} {n : Nat} (hst : ∀ i, i < n → ∀ k, k ∉ W i → (st (i + 1)).val k = (st i).val k ∧ (st (i + 1)).ver k = (st i).ver k) {j k : Nat} (hj : j ≤ n) (hD : ∀ i, i < n → k ∈ W i → (D i = true ↔ i < j)) :
    cur (st 0) st W D n k = ((st j).val k, (st j).ver k) := by
  have key : ∀ m, m ≤ n → cur (st 0) st W D m k = if m ≤ j then ((st m).val k, (st m).ver k) else ((st j).val k, (st j).ver k) := by
    intro m
    induction m with
    | zero => intro _; simp [cur]
    | succ m ih =>
      intro hm
      have ih := ih (by omega)
      simp only [cur]
      by_cases hw : k ∈ W m
      · have h1 := hD m (by omega) hw
        by_cases hmj : m < j
        · rw [if_pos ⟨h1.2 hmj, hw⟩, if_pos (by omega)]
        · rw [if_neg (fun h => hmj (h1.1 h.1)), ih, if_neg (show ¬ m + 1 ≤ j by omega)]
          by_cases he : m ≤ j
          · have : m = j := by omega
            subst this; simp
          · rw [if_neg he]
      · rw [if_neg (fun h => hw h.2), ih]
        obtain ⟨a1, a2⟩ := hst m (by omega) k hw
        by_cases hmj : m + 1 ≤ j
        · rw [if_pos (by omega), if_pos hmj, a1, a2]
        · rw [if_neg hmj]
          by_cases he : m ≤ j
          · have : m = j := by omega
            subst this; simp
          · rw [if_neg he]
  have := key n (Nat.le_refl n)
  by_cases h : n ≤ j
  · have : n = j := by omega
    subst this
    simpa using key n (Nat.le_refl n)
  · rwa [if_neg h] at this

theorem cur_congr {s0 : St} {st : Nat → St} {W : Nat → List Nat} {D D' : Nat → Bool} {k : Nat} : ∀ {n : Nat}, (∀ i, i < n → k ∈ W i → D' i = D i) → cur s0 st W D' n k = cur s0 st W D n k
  | 0, _ => rfl
  | n + 1, h => by
    simp only [cur]
    rw [cur_congr (n := n) fun i hi hk => h i (by omega) hk]
    by_cases hk : k ∈ W n
    · rw [h n (by omega) hk]
    · simp [hk]

def edgesOk (ops : Array Oper) : Bool := ops.toList.zipIdx.all fun x => x.1.after.toList.all fun e => !Region.binds .any e || decide (e.on < x.2)

/-- A REGION that draws its order. -/
theorem draw_ok (hT : TabOk P T) (hm : P.follows .mixedOrders = true) {id : Nat} {ops : Array Oper} (hN : dstsOk C.N ops = true) (he : edgesOk ops = true) {fs : List (List Nat × List Nat)} (hch : Chain P T ops ops.toList s s' fs) (hnc : noClash (befs [] ops.toList) fs 0 = true)
    (R : Rel C I G s a.tmps w) {Q : Exit → Act → World → Prop} (hQ : ∀ a' w', After C I G s a.defers (· = s') a' w' → Q .normal a' w') : (Code.region id ops true).wp P Q a w := by
  obtain ⟨st, st0, stn, hfl, hstep⟩ := hch.fn
  have hn : ops.toList.length = ops.size := by simp
  rw [hn] at stn hfl
  -- footprints as functions
  let RR : Nat → List Nat := fun i => (fs.getD i ([], [])).1
  let WW : Nat → List Nat := fun i => (fs.getD i ([], [])).2
  have hrun : ∀ i o, ops[i]? = some o → FRun P (guarded P T ops o) (st i) (st (i + 1)) (RR i) (WW i) ∧ fs[i]? = some (RR i, WW i) := by
    intro i o ho
    obtain ⟨R, W, h1, h2⟩ := hstep i o (by simpa using ho)
    have e1 : RR i = R := by simp [RR, List.getD_eq_getElem?_getD, h1]
    have e2 : WW i = W := by simp [WW, List.getD_eq_getElem?_getD, h1]
    rw [e1, e2]; exact ⟨h2, h1⟩
  have hget : ∀ i, i < ops.size → ∃ o, ops[i]? = some o := fun i hi => ⟨_, Array.getElem?_eq_getElem hi⟩
  have hst : ∀ i, i < ops.size → ∀ k, k ∉ WW i → (st (i + 1)).val k = (st i).val k ∧ (st (i + 1)).ver k = (st i).ver k := by
    intro i hi k hk
    obtain ⟨o, ho⟩ := hget i hi
    exact (FRun_frame (hrun i o ho).1).1 k hk
  have hWR : ∀ i, i < ops.size → ∀ k, k ∈ WW i → k ∈ RR i := by
    intro i hi k hk
    obtain ⟨o, ho⟩ := hget i hi
    exact (FRun_frame (hrun i o ho).1).2.1 k hk
  have hclash : ∀ i j, i < j → j < ops.size → ((befs [] ops.toList).getD j 0).testBit i = true ∨ (∀ k, k ∈ WW i → k ∈ RR j → False) ∧ (∀ k, k ∈ RR i → k ∈ WW j → False) := by
    intro i j hij hj
    obtain ⟨oi, hoi⟩ := hget i (by omega)
    obtain ⟨oj, hoj⟩ := hget j hj
    have := noClash_spec hnc i j _ _ _ _ hij (hrun i oi hoi).2 (hrun j oj hoj).2
    simpa using this
  -- the walk over all orders
  have key : ∀ (fuel : Nat) (listed : Array Bool) (sD : St) (I1 : Imm) (G1 : Ghost) (a1 : Act) (w1 : World), listed.size = ops.size → ((List.range ops.size).filter fun i => !listed.getD i true).length ≤ fuel →
      Closed ops (fun i => listed.getD i false) → (∀ k, (sD.val k, sD.ver k) = cur s st WW (fun i => listed.getD i false) ops.size k) → Rel C I1 G1 sD a1.tmps w1 → Ext C I I1 s sD G G1 → a1.defers = a.defers →
      wpAny P .any ops Q fuel listed a1 w1 := by
    intro fuel
    -- when nothing is ready, all is done
    have fin : ∀ (listed : Array Bool) (sD : St) (I1 : Imm) (G1 : Ghost) (a1 : Act) (w1 : World), listed.size = ops.size → (∀ k, (sD.val k, sD.ver k) = cur s st WW (fun i => listed.getD i false) ops.size k) → Rel C I1 G1 sD a1.tmps w1 → Ext C I I1 s sD G G1 → a1.defers = a.defers →
        (∀ i, i < ops.size → listed.getD i false = true) → Q .normal a1 w1 := by
      intro listed sD I1 G1 a1 w1 hls hcur R1 E1 hdef hall
      have hsD : sD = s' := by
        have h1 : ∀ k, (sD.val k, sD.ver k) = ((st ops.size).val k, (st ops.size).ver k) := by
          intro k
          rw [hcur k]
          have := cur_at (st := st) (W := WW) (D := fun i => listed.getD i false) (n := ops.size) hst (j := ops.size) (k := k) (Nat.le_refl _) (fun i hi _ => by simp [hall i hi, hi])
          rw [st0] at this
          exact this
        rw [← stn]
        exact St.ext' (fun k => congrArg Prod.fst (h1 k)) (fun k => congrArg Prod.snd (h1 k))
      subst hsD
      exact hQ a1 w1 ⟨_, I1, G1, rfl, R1, E1, hdef⟩
    have allOf : ∀ (listed : Array Bool), listed.size = ops.size → Region.ready .any ops listed = [] → ∀ i, i < ops.size → listed.getD i false = true := by
      intro listed hls hr i
      induction i using Nat.strongRecOn with
      | _ i ih =>
        intro hi
        cases hq : listed.getD i false with
        | true => rfl
        | false =>
          exfalso
          obtain ⟨o, ho⟩ := hget i hi
          have hq' : listed.getD i true = false := by
            have hlt : i < listed.size := by omega
            simp only [Array.getD_eq_getD_getElem?, Array.getElem?_eq_getElem hlt, Option.getD_some] at hq ⊢; exact hq
          have : i ∈ Region.ready .any ops listed := by
            rw [mem_ready]
            refine ⟨hq', o, ho, fun e hee hb => ?_⟩
            have h2 := List.all_eq_true.1 he (o, i) (by rw [List.mem_zipIdx_iff_getElem?]; simpa using ho)
            have h3 := List.all_eq_true.1 h2 e (by simpa using hee)
            simp only [hb, Bool.not_true, Bool.false_or, decide_eq_true_eq] at h3
            exact ih e.on h3 (by omega)
          rw [hr] at this
          cases this
    induction fuel with
    | zero =>
      intro listed sD I1 G1 a1 w1 hls hcount hcl hcur R1 E1 hdef
      have hall : ∀ i, i < ops.size → listed.getD i true = true := by
        intro i hi
        have h0 : ((List.range ops.size).filter fun i => !listed.getD i true) = [] := List.eq_nil_of_length_eq_zero (by omega)
        cases hq : listed.getD i true with
        | true => rfl
        | false =>
          have : i ∈ (List.range ops.size).filter fun i => !listed.getD i true := List.mem_filter.2 ⟨List.mem_range.2 hi, by simp [hq]⟩
          rw [h0] at this; cases this
      have hall' : ∀ i, i < ops.size → listed.getD i false = true := by
        intro i hi
        have := hall i hi
        have hlt : i < listed.size := by omega
        simp only [Array.getD_eq_getD_getElem?, Array.getElem?_eq_getElem hlt, Option.getD_some] at this ⊢; exact this
      refine ⟨?_, fin listed sD I1 G1 a1 w1 hls hcur R1 E1 hdef hall'⟩
      cases hr : Region.ready .any ops listed with
      | nil => rfl
      | cons x xs =>
        have hx : x ∈ Region.ready .any ops listed := by rw [hr]; simp
        rw [mem_ready] at hx
        obtain ⟨h1, o, h2, _⟩ := hx
        have := hall x (Array.getElem?_eq_some_iff.1 h2).1
        rw [h1] at this; cases this
    | succ fuel ih =>
      intro listed sD I1 G1 a1 w1 hls hcount hcl hcur R1 E1 hdef
      refine ⟨fun hr => fin listed sD I1 G1 a1 w1 hls hcur R1 E1 hdef (allOf listed hls hr), fun j hj => ?_⟩
      rw [mem_ready] at hj
      obtain ⟨hj1, o, ho, hpre⟩ := hj
      have hjn : j < ops.size := (Array.getElem?_eq_some_iff.1 ho).1
      have hjl : j < listed.size := by omega
      have hj1' : listed.getD j false = false := by
        simp only [Array.getD_eq_getD_getElem?, Array.getElem?_eq_getElem hjl, Option.getD_some] at hj1 ⊢; exact hj1
      -- what it reads is as it was in the text's order
      have hwr : ∀ k, k ∈ RR j → ∀ i, i < ops.size → k ∈ WW i → i ≠ j → (listed.getD i false = true ↔ i < j) := by
        intro k hk i hi hki hij
        rcases Nat.lt_or_gt_of_ne hij with hlt | hgt
        · refine ⟨fun _ => hlt, fun _ => ?_⟩
          rcases hclash i j hlt hjn with hb | ⟨hb, _⟩
          · exact bef_listed (D := fun i => listed.getD i false) hcl j o ho hpre i hb
          · exact (hb k hki hk).elim
        · refine ⟨fun hli => ?_, fun h => by omega⟩
          exfalso
          rcases hclash j i hgt hi with hb | ⟨_, hb⟩
          · obtain ⟨oi, hoi⟩ := hget i hi
            have := bef_listed (D := fun i => listed.getD i false) hcl i oi hoi (hcl i oi hoi hli) j hb
            rw [hj1'] at this; cases this
          · exact hb k hk hki
      have hag : AgreeOn (RR j) (st j) sD := by
        intro k hk
        have h1 := hcur k
        have h2 := cur_at (st := st) (W := WW) (D := fun i => listed.getD i false) (n := ops.size) hst (j := j) (k := k) (by omega) (fun i hi hki => by
          by_cases hij : i = j
          · subst hij; simp only [hj1']; simp
          · exact hwr k hk i hi hki hij)
        rw [st0] at h2
        rw [h2] at h1
        injection h1 with h3 h4
        exact ⟨h3.symm, h4.symm⟩
      obtain ⟨_, _, hfr⟩ := FRun_frame (hrun j o ho).1
      obtain ⟨t', t1, t2, t3⟩ := hfr sD hag
      refine guarded_ok hT hN ho (FRun_awp t1) R1 ?_
      rintro s2 J2 G2 a2 w2 rfl R2 E2 hd2
      have hD' : ∀ i, (listed.setIfInBounds j true).getD i false = if i = j then true else listed.getD i false := by
        intro i
        by_cases hij : i = j
        · subst hij; simp [Array.getD_eq_getD_getElem?, hjl]
        · simp [Array.getD_eq_getD_getElem?, Array.getElem?_setIfInBounds, Ne.symm hij, hij]
      refine ih (listed.setIfInBounds j true) s2 J2 G2 a2 w2 (by simpa using hls) ?_ ?_ ?_ R2 (E1.trans E2) (by rw [hd2, hdef])
      · -- one fewer
        have hsub : ((List.range ops.size).filter fun i => !(listed.setIfInBounds j true).getD i true).length < ((List.range ops.size).filter fun i => !listed.getD i true).length := by
          have hT' : ∀ i, (listed.setIfInBounds j true).getD i true = if i = j then true else listed.getD i true := by
            intro i
            by_cases hij : i = j
            · subst hij; simp [Array.getD_eq_getD_getElem?, hjl]
            · simp [Array.getD_eq_getD_getElem?, Array.getElem?_setIfInBounds, Ne.symm hij, hij]
          have hfl : ∀ l : List Nat, (l.filter fun i => !(listed.setIfInBounds j true).getD i true).length ≤ (l.filter fun i => !listed.getD i true).length ∧ (j ∈ l → (l.filter fun i => !(listed.setIfInBounds j true).getD i true).length < (l.filter fun i => !listed.getD i true).length) := by
            intro l
            induction l with
            | nil => simp
            | cons x l ihl =>
              obtain ⟨i1, i2⟩ := ihl
              simp only [List.filter_cons, hT']
              by_cases hx : x = j
              · subst hx
                simp only [if_true, Bool.not_true, Bool.false_eq_true, if_false, hj1, Bool.not_false, if_true, List.length_cons]
                simp only [hT'] at i1
                exact ⟨by omega, fun _ => by omega⟩
              · simp only [hx, if_false]
                simp only [hT'] at i1 i2
                split
                · simp only [List.length_cons]
                  exact ⟨by omega, fun hm => by have := i2 (by rcases List.mem_cons.1 hm with h | h; exact absurd h.symm hx; exact h); omega⟩
                · exact ⟨i1, fun hm => i2 (by rcases List.mem_cons.1 hm with h | h; exact absurd h.symm hx; exact h)⟩
          exact (hfl _).2 (List.mem_range.2 hjn)
        omega
      · intro j' o' ho' hj' e hee hb
        simp only [hD'] at hj' ⊢
        split
        · rfl
        · rename_i hne
          split at hj'
          · rename_i hjj
            subst hjj
            rw [ho] at ho'
            injection ho' with ho'
            subst ho'
            exact hpre e hee hb
          · exact hcl j' o' ho' hj' e hee hb
      · intro k
        by_cases hkw : k ∈ WW j
        · have hkr := hWR j hjn k hkw
          obtain ⟨b1, b2⟩ := t2 k hkw
          have h2 := cur_at (st := st) (W := WW) (D := fun i => (listed.setIfInBounds j true).getD i false) (n := ops.size) hst (j := j + 1) (k := k) (by omega) (fun i hi hki => by
            rw [hD']
            by_cases hij : i = j
            · subst hij; simp
            · rw [if_neg hij, hwr k hkr i hi hki hij]; omega)
          rw [st0] at h2
          rw [h2, b1, b2]
        · obtain ⟨b1, b2⟩ := t3 k hkw
          rw [b1, b2, hcur k]
          refine (cur_congr fun i hi hki => ?_).symm
          rw [hD', if_neg]
          rintro rfl
          exact hkw hki
  refine wp_region_any hm ?_
  refine key ops.size (Array.replicate ops.size false) s I G a { w with drawn := w.drawn + 1 } (by simp) ?_ ?_ ?_ (R.grow (Grew.drew w)) (Ext.refl _ _ _ _) rfl
  · exact Nat.le_trans (List.length_filter_le _ _) (by simp)
  · intro j o ho hj
    have hlt := (Array.getElem?_eq_some_iff.1 ho).1
    simp [Array.getD_eq_getD_getElem?, hlt] at hj
  · intro k
    have h2 := cur_at (st := st) (W := WW) (D := fun i => (Array.replicate ops.size false).getD i false) (n := ops.size) hst (j := 0) (k := k) (by omega) (fun i hi hki => by simp [Array.getD_eq_getD_getElem?, hi])
    rw [st0] at h2
    exact h2.symm
end

end Go.Proofs.YtkjglhamlnnboaaDoor.Am
