/-
  THE ABSTRACT MACHINE, part M: regions: their operations one behind the other, or in whatever order their edges allow.
-/
import Derived.Test.YtkjglhamlnnboaaDoorAmL
set_option linter.unusedVariables false
set_option linter.unusedSimpArgs false
namespace Go.Proofs.YtkjglhamlnnboaaDoor.Am
open Go Go.RowKit

/-- An operation with its guard. -/
def guarded (P : Program) (T : Tab) (ops : Array Oper) (o : Oper) : AM Unit := match o.guard with
  | none => opAM P T o
  | some (j, want) => match (ops[j]?).bind (·.dst) with
    | some d => .get d fun v _ => match v with
      | .p (.v (.bool b)) => if b = want then opAM P T o else (match o.dst with
          | some d => .set d .junk (.pure ())
          | none => .pure ())
      | _ => .fail
    | none => .fail

def seqA (P : Program) (T : Tab) (ops : Array Oper) : List Oper → AM Unit
  | [] => .pure ()
  | o :: r => (guarded P T ops o).bind fun _ => seqA P T ops r

def dstsOk (N : Nat) (ops : Array Oper) : Bool := ops.toList.all fun o => match o.dst with | some d => decide (d < N) | none => true

section
variable {P : Program} {T : Tab} {C : Ctx} {I J : Imm} {G G' : Ghost} {s s' : St} {a : Act} {ts ts' : Array Value} {w w' : World}

theorem dstsOk_get {N : Nat} {ops : Array Oper} (h : dstsOk N ops = true) {i : Nat} {o : Oper} (ho : ops[i]? = some o) : ∀ d, o.dst = some d → d < N := by
  intro d hd
  have := List.all_eq_true.1 h o (List.mem_of_getElem? (by simpa using ho))
  simpa [hd] using this

theorem guarded_ok (hT : TabOk P T) {ops : Array Oper} (hN : dstsOk C.N ops = true) {i : Nat} {o : Oper} (ho : ops[i]? = some o) {Qs : Unit → St → Prop} (h : awp P (guarded P T ops o) s Qs) (R : Rel C I G s a.tmps w)
    {K : Act → World → Prop} {Q : Exit → Act → World → Prop} (hK : Then C I G s a Qs K) : wpOp P ops Q i K a w := by
  have hd := dstsOk_get hN ho
  unfold wpOp
  rw [ho]
  simp only
  unfold guarded at h
  split at h
  · rename_i hg
    have hw : Region.wanted o (yielded ops a.tmps) = true := by simp [Region.wanted, hg]
    rw [if_pos hw]
    exact .inl (op_ok hT hd h R hK)
  · rename_i j want hg
    split at h
    case h_2 => simp [awp] at h
    rename_i d hdj
    simp only [awp] at h
    split at h
    case h_2 => simp [awp] at h
    rename_i b hv
    have hdN : d < C.N := by
      cases hq : ops[j]? with
      | none => simp [hq] at hdj
      | some oj => simp only [hq, Option.bind_some] at hdj; exact dstsOk_get hN hq d hdj
    have hval : a.tmps[d]? = some (.bool b) := by
      have h1 := R.tmps d hdN
      rw [hv] at h1
      simp only [CellRel, AVRel] at h1
      have hlt : d < a.tmps.size := by rw [R.size]; exact hdN
      have h2 : a.tmps.getD d undef = .bool b := by generalize a.tmps.getD d undef = y at h1; cases h1; rfl
      rw [Array.getElem?_eq_getElem hlt]
      simpa [Array.getD_eq_getD_getElem?, Array.getElem?_eq_getElem hlt] using h2
    have hy : yielded ops a.tmps j = some b := by simp [yielded, hdj, hval]
    split at h
    · rename_i hb
      subst hb
      have hw : Region.wanted o (yielded ops a.tmps) = true := by simp [Region.wanted, hg, hy]
      rw [if_pos hw]
      exact .inl (op_ok hT hd h R hK)
    · rename_i hb
      have hw : ¬ Region.wanted o (yielded ops a.tmps) = true := by simp [Region.wanted, hg, hy]; exact hb
      rw [if_neg hw]
      split at h
      · rename_i d' hd'
        simp only [awp] at h
        obtain ⟨a1, a2⟩ := put_plain_ok (k := d') (v := .junk) (y := undef) R (.tmp (hd d' hd')) (by simp [AVRel])
        exact hK _ I G _ w h (by rw [hd']; exact a1) a2 (put_defers _ _ _)
      · rename_i hd'
        simp only [awp] at h
        exact hK s I G _ w h (by rw [hd']; exact R) (Ext.refl _ _ _ _) (put_defers _ _ _)

/-- What a region comes to. -/
def After (C : Ctx) (I : Imm) (G : Ghost) (s : St) (ds : List Deferred) (Qs : St → Prop) (a' : Act) (w' : World) : Prop :=
  ∃ s' J G', Qs s' ∧ Rel C J G' s' a'.tmps w' ∧ Ext C I J s s' G G' ∧ a'.defers = ds

theorem ops_ok (hT : TabOk P T) {ops : Array Oper} (hN : dstsOk C.N ops = true) {Q : Exit → Act → World → Prop} : ∀ (l : List Oper) (k : Nat) {I : Imm} {G : Ghost} {s : St} {a : Act} {w : World} {Qs : St → Prop}, (∀ j, l[j]? = ops[k + j]?) → awp P (seqA P T ops l) s (fun _ s' => Qs s') → Rel C I G s a.tmps w →
    (∀ a' w', After C I G s a.defers Qs a' w' → Q .normal a' w') → wpOps P ops Q ((List.range l.length).map (k + ·)) a w
  | [], k, I, G, s, a, w, Qs, hl, h, R, hQ => by
    simp only [seqA, awp] at h
    simp only [List.length_nil, List.range_zero, List.map_nil, wpOps]
    exact hQ a w ⟨s, I, G, h, R, Ext.refl _ _ _ _, rfl⟩
  | o :: l, k, I, G, s, a, w, Qs, hl, h, R, hQ => by
    have hr : (List.range (o :: l).length).map (k + ·) = k :: (List.range l.length).map (k + 1 + ·) := by
      simp only [List.length_cons, List.range_succ_eq_map, List.map_cons, Nat.add_zero, List.map_map]
      congr 1
      apply List.map_congr_left
      intro x _
      simp; omega
    rw [hr, wpOps_cons]
    simp only [seqA, awp_bind] at h
    have ho : ops[k]? = some o := by simpa using (hl 0).symm
    refine guarded_ok hT hN ho h R ?_
    intro s1 J G1 a1 w1 h1 R1 E1 hd1
    refine ops_ok hT hN l (k + 1) (fun j => by have := hl (j + 1); simp only [List.getElem?_cons_succ] at this; rw [this, show k + (j + 1) = k + 1 + j by omega]) h1 R1 ?_
    rintro a2 w2 ⟨s2, J2, G2, q1, q2, q3, q4⟩
    exact hQ a2 w2 ⟨s2, J2, G2, q1, q2, E1.trans q3, by rw [q4, hd1]⟩

/-- A REGION that is done in the text's order. -/
theorem region_ok (hT : TabOk P T) {id : Nat} {ops : Array Oper} (hN : dstsOk C.N ops = true) {Qs : St → Prop} (h : awp P (seqA P T ops ops.toList) s (fun _ s' => Qs s')) (R : Rel C I G s a.tmps w) {Q : Exit → Act → World → Prop}
    (hQ : ∀ a' w', After C I G s a.defers Qs a' w' → Q .normal a' w') : (Code.region id ops false).wp P Q a w := by
  refine wp_region ?_
  have := ops_ok hT hN ops.toList 0 (fun j => by simp) h R hQ
  simpa using this

/-! ### Any order -/

/-- A program's run, with the places that it read and wrote. -/
def FRun (P : Program) : AM Unit → St → St → List Nat → List Nat → Prop
  | .pure _, s, s', R, W => s' = s ∧ R = [] ∧ W = []
  | .fail, _, _, _, _ => False
  | .get k f, s, s', R, W => ∃ R', R = k :: R' ∧ FRun P (f (s.val k) (s.ver k)) s s' R' W
  | .set k v c, s, s', R, W => ∃ R' W', R = k :: R' ∧ W = k :: W' ∧ FRun P c (s.set k v) s' R' W'
  | .mod k v c, s, s', R, W => ∃ R' W', R = k :: R' ∧ W = k :: W' ∧ FRun P c (s.mod k v) s' R' W'
  | .call f args d c, s, s', R, W => ∃ d0 L imps args' r R' W', d = some d0 ∧ L.Nodup ∧ impsOf s L L = some imps ∧ renAs L s.ver args = some args' ∧ args.length ≤ 64 ∧ (∀ o, o ∈ imps → o.cells.length ≤ 62) ∧
      SemCall P f args' imps r ∧ namesOk L d0 r = true ∧ backOk (L ++ newNames d0 r.news.length) (verIn s (newNames d0 r.news.length)) r = true ∧
      R = d0 :: ((L ++ newNames d0 r.news.length).flatMap (fun n => (List.range 64).map fun j => 4096 + n * 64 + j) ++ R') ∧
      W = (d0 :: (((List.range L.length).flatMap fun i => ((List.range 63).filter fun j => (outAt r i j).isSome).map fun j => 4096 + L.getD i 0 * 64 + j) ++ ((newNames d0 r.news.length).flatMap fun n => (List.range 64).map fun j => 4096 + n * 64 + j))) ++ W' ∧
      FRun P c (retInto s L d0 r) s' R' W'

/-- Two states that agree at some places. -/
def AgreeOn (R : List Nat) (s t : St) : Prop := ∀ k, k ∈ R → s.val k = t.val k ∧ s.ver k = t.ver k

theorem renA_congr_mem {L : List Nat} {ver ver' : Nat → Nat} (h : ∀ n, n ∈ L → ver' (khdr n) = ver (khdr n)) : ∀ (v : AV), renA L ver' v = renA L ver v := by
  have key : ∀ v : AV, (∀ n v' o, v = .ptr n v' o → renA L ver' v = renA L ver v) := by
    intro v n v' o hv
    subst hv
    simp only [renA]
    cases hi : L.idxOf? n with
    | none => rfl
    | some i => simp only [h n (List.mem_of_getElem? (idx_some hi))]
  intro v
  exact (AV.rec (motive_1 := fun v => renA L ver' v = renA L ver v) (motive_2 := fun vs => renAs L ver' vs = renAs L ver vs)
    (fun _ => rfl) rfl (fun n v' o => key _ n v' o rfl) (fun _ _ _ => rfl) (fun _ _ _ _ => rfl) (fun _ _ _ => rfl) (fun _ _ _ _ => rfl) (fun f caps ih => by simp only [renA, ih]) (fun cs ih => by simp only [renA, ih])
    (fun cs ih => by simp only [renA, ih]) (fun t x ih => by simp only [renA, ih]) (fun _ _ => rfl) rfl rfl (fun c cs ih1 ih2 => by simp only [renAs, ih1, ih2]) v)

theorem renAs_congr_mem {L : List Nat} {ver ver' : Nat → Nat} (h : ∀ n, n ∈ L → ver' (khdr n) = ver (khdr n)) : ∀ (vs : List AV), renAs L ver' vs = renAs L ver vs
  | [] => rfl
  | c :: cs => by simp only [renAs, renA_congr_mem h c, renAs_congr_mem h cs]

theorem backA_congr {L : List Nat} {ver ver' : Nat → Nat} (h : ∀ n, n ∈ L → ver' (khdr n) = ver (khdr n)) (v : AV) : backA L ver' v = backA L ver v :=
  AV.rec (motive_1 := fun v => backA L ver' v = backA L ver v) (motive_2 := fun vs => backAs L ver' vs = backAs L ver vs)
    (fun _ => rfl) rfl (fun i v' o => by
      simp only [backA]
      split
      · split
        · rename_i n hn; rw [h n (List.mem_of_getElem? hn)]
        · rfl
      · rfl) (fun _ _ _ => rfl) (fun _ _ _ _ => rfl) (fun _ _ _ => rfl) (fun _ _ _ _ => rfl) (fun f caps ih => by simp only [backA, ih]) (fun cs ih => by simp only [backA, ih])
    (fun cs ih => by simp only [backA, ih]) (fun t x ih => by simp only [backA, ih]) (fun _ _ => rfl) rfl rfl (fun c cs ih1 ih2 => by simp only [backAs, ih1, ih2]) v

theorem hdr_mem {n : Nat} {L : List Nat} (h : n ∈ L) : khdr n ∈ L.flatMap (fun n => (List.range 64).map fun j => 4096 + n * 64 + j) :=
  List.mem_flatMap.2 ⟨n, h, List.mem_map.2 ⟨63, by simp, by unfold khdr; rfl⟩⟩
theorem cell_mem {n j : Nat} {L : List Nat} (h : n ∈ L) (hj : j < 64) : kcell n j ∈ L.flatMap (fun n => (List.range 64).map fun j => 4096 + n * 64 + j) :=
  List.mem_flatMap.2 ⟨n, h, List.mem_map.2 ⟨j, by simpa using hj, by unfold kcell; rfl⟩⟩

theorem impOf_congr {L : List Nat} {t : St} {n : Nat} (h0 : s.val (khdr n) = t.val (khdr n)) (hc : ∀ j, j ≤ 62 → s.val (kcell n j) = t.val (kcell n j)) (hz : ∀ e z, s.val (khdr n) = .hdr e z → z ≤ 63) (hv : ∀ m, m ∈ L → t.ver (khdr m) = s.ver (khdr m)) : impOf t L n = impOf s L n := by
  unfold impOf
  rw [← h0]
  cases hq : s.val (khdr n) with
  | hdr e z =>
    have hzz := hz e z hq
    have hcells : cellsOf t n z = cellsOf s n z := by
      unfold cellsOf
      apply List.map_congr_left
      intro j hj
      exact (hc j (by have := List.mem_range.1 hj; omega)).symm
    simp only [hcells, renAs_congr_mem hv]
  | _ => rfl

theorem impsOf_congr {L : List Nat} {t : St} (hag : ∀ n, n ∈ L → s.val (khdr n) = t.val (khdr n) ∧ (∀ j, j ≤ 62 → s.val (kcell n j) = t.val (kcell n j))) (hv : ∀ m, m ∈ L → t.ver (khdr m) = s.ver (khdr m)) :
    ∀ {ns : List Nat} {imps : List ObjD}, (∀ n, n ∈ ns → n ∈ L) → (∀ o, o ∈ imps → o.cells.length ≤ 62) → impsOf s L ns = some imps → impsOf t L ns = some imps
  | [], imps, _, _, h => by simpa only [impsOf] using h
  | n :: r, imps, hn, hs, h => by
    simp only [impsOf] at h ⊢
    split at h
    · rename_i x xs hx hxs
      injection h with h
      subst h
      have h1 : impOf t L n = some x := by
        rw [impOf_congr (s := s) (hag n (hn n (by simp))).1 (hag n (hn n (by simp))).2 ?_ hv]
        · exact hx
        · intro e z hz
          have := (impOf_spec hx).1
          rw [hz] at this
          injection this with _ hz2
          have := hs x (by simp)
          omega
      rw [h1, impsOf_congr hag hv (fun m hm => hn m (by simp [hm])) (fun o ho => hs o (by simp [ho])) hxs]
    · cases h

theorem FRun_awp : ∀ {m : AM Unit} {s s' : St} {R W : List Nat}, FRun P m s s' R W → awp P m s fun _ x => x = s'
  | .pure _, s, s', R, W, h => h.1.symm
  | .fail, s, s', R, W, h => h
  | .get k f, s, s', R, W, h => by obtain ⟨R', _, h⟩ := h; exact FRun_awp (m := f (s.val k) (s.ver k)) h
  | .set k v c, s, s', R, W, h => by obtain ⟨R', W', _, _, h⟩ := h; exact FRun_awp (m := c) h
  | .mod k v c, s, s', R, W, h => by obtain ⟨R', W', _, _, h⟩ := h; exact FRun_awp (m := c) h
  | .call f args d c, s, s', R, W, h => by
    obtain ⟨d0, L, imps, args', r, R', W', h1, h2, h3, h4, h5, h6, h7, h8, h9, _, _, h⟩ := h
    exact ⟨d0, L, imps, args', r, h1, h2, h3, h4, h5, h7, h8, h9, FRun_awp (m := c) h⟩

/-- The places that a call writes. -/
theorem retVal_writes {L : List Nat} {d : Nat} {r : CRes} {k : Nat} (hnd : (L ++ newNames d r.news.length).Nodup) (h : retVal (L ++ newNames d r.news.length) L.length d r k ≠ none) :
    k ∈ d :: (((List.range L.length).flatMap fun i => ((List.range 63).filter fun j => (outAt r i j).isSome).map fun j => 4096 + L.getD i 0 * 64 + j) ++ ((newNames d r.news.length).flatMap fun n => (List.range 64).map fun j => 4096 + n * 64 + j)) := by
  unfold retVal at h
  by_cases hd : k = d
  · simp [hd]
  · simp only [hd, if_false] at h
    by_cases h4 : k < 4096
    · simp [h4] at h
    · simp only [h4, if_false] at h
      refine List.mem_cons_of_mem _ ?_
      cases hi : (L ++ newNames d r.news.length).idxOf? ((k - 4096) / 64) with
      | none => simp [hi] at h
      | some i =>
        simp only [hi] at h
        have hin := idx_some hi
        by_cases hiL : i < L.length
        · simp only [hiL, if_true] at h
          by_cases h63 : (k - 4096) % 64 = 63
          · simp [h63] at h
          · simp only [h63, if_false] at h
            refine List.mem_append.2 (.inl (List.mem_flatMap.2 ⟨i, List.mem_range.2 hiL, List.mem_map.2 ⟨(k - 4096) % 64, List.mem_filter.2 ⟨List.mem_range.2 (by omega), by cases ho : outAt r i ((k - 4096) % 64) <;> simp_all⟩, ?_⟩⟩))
            rw [List.getElem?_append_left hiL] at hin
            rw [List.getD_eq_getElem?_getD, hin, Option.getD_some]
            omega
        · rw [List.getElem?_append_right (by omega)] at hin
          exact List.mem_append.2 (.inr (List.mem_flatMap.2 ⟨_, List.mem_of_getElem? hin, List.mem_map.2 ⟨(k - 4096) % 64, List.mem_range.2 (Nat.mod_lt _ (by decide)), by omega⟩⟩))

theorem FRun_frame : ∀ {m : AM Unit} {s s' : St} {R W : List Nat}, FRun P m s s' R W → (∀ k, k ∉ W → s'.val k = s.val k ∧ s'.ver k = s.ver k) ∧ (∀ k, k ∈ W → k ∈ R) ∧
    ∀ t, AgreeOn R s t → ∃ t', FRun P m t t' R W ∧ (∀ k, k ∈ W → t'.val k = s'.val k ∧ t'.ver k = s'.ver k) ∧ (∀ k, k ∉ W → t'.val k = t.val k ∧ t'.ver k = t.ver k)
  | .pure _, s, s', R, W, h => by
    obtain ⟨rfl, rfl, rfl⟩ := h
    exact ⟨fun _ _ => ⟨rfl, rfl⟩, fun k hk => by simp at hk, fun t _ => ⟨t, ⟨rfl, rfl, rfl⟩, fun k hk => by simp at hk, fun _ _ => ⟨rfl, rfl⟩⟩⟩
  | .fail, s, s', R, W, h => h.elim
  | .get k f, s, s', R, W, h => by
    obtain ⟨R', rfl, h⟩ := h
    obtain ⟨h1, h2, h3⟩ := FRun_frame (m := f (s.val k) (s.ver k)) h
    refine ⟨h1, fun x hx => List.mem_cons_of_mem _ (h2 x hx), fun t ht => ?_⟩
    obtain ⟨a1, a2⟩ := ht k (by simp)
    obtain ⟨t', b1, b2, b3⟩ := h3 t fun x hx => ht x (List.mem_cons_of_mem _ hx)
    exact ⟨t', ⟨R', rfl, by rw [← a1, ← a2]; exact b1⟩, b2, b3⟩
  | .set k v c, s, s', R, W, h => by
    obtain ⟨R', W', rfl, rfl, h⟩ := h
    obtain ⟨h1, h2, h3⟩ := FRun_frame (m := c) h
    refine ⟨fun x hx => ?_, fun x hx => ?_, fun t ht => ?_⟩
    · simp only [List.mem_cons, not_or] at hx
      obtain ⟨a1, a2⟩ := h1 x hx.2
      exact ⟨by rw [a1]; simp [hx.1], by rw [a2]; simp [hx.1]⟩
    · rcases List.mem_cons.1 hx with rfl | hx
      · simp
      · exact List.mem_cons_of_mem _ (h2 x hx)
    · obtain ⟨t', b1, b2, b3⟩ := h3 (t.set k v) fun x hx => by
        obtain ⟨c1, c2⟩ := ht x (List.mem_cons_of_mem _ hx)
        obtain ⟨c3, c4⟩ := ht k (by simp)
        simp only [St.set_val, St.set_ver]
        split <;> simp_all
      refine ⟨t', ⟨R', W', rfl, rfl, b1⟩, fun x hx => ?_, fun x hx => ?_⟩
      · by_cases hxw : x ∈ W'
        · exact b2 x hxw
        · have hxk : x = k := by rcases List.mem_cons.1 hx with h | h; exact h; exact absurd h hxw
          subst hxk
          obtain ⟨c3, c4⟩ := ht x (by simp)
          obtain ⟨d1, d2⟩ := b3 x hxw
          obtain ⟨e1, e2⟩ := h1 x hxw
          exact ⟨by rw [d1, e1]; simp, by rw [d2, e2]; simp [c4]⟩
      · simp only [List.mem_cons, not_or] at hx
        obtain ⟨d1, d2⟩ := b3 x hx.2
        exact ⟨by rw [d1]; simp [hx.1], by rw [d2]; simp [hx.1]⟩
  | .mod k v c, s, s', R, W, h => by
    obtain ⟨R', W', rfl, rfl, h⟩ := h
    obtain ⟨h1, h2, h3⟩ := FRun_frame (m := c) h
    refine ⟨fun x hx => ?_, fun x hx => ?_, fun t ht => ?_⟩
    · simp only [List.mem_cons, not_or] at hx
      obtain ⟨a1, a2⟩ := h1 x hx.2
      exact ⟨by rw [a1]; simp [hx.1], by rw [a2]; simp⟩
    · rcases List.mem_cons.1 hx with rfl | hx
      · simp
      · exact List.mem_cons_of_mem _ (h2 x hx)
    · obtain ⟨t', b1, b2, b3⟩ := h3 (t.mod k v) fun x hx => by
        obtain ⟨c1, c2⟩ := ht x (List.mem_cons_of_mem _ hx)
        simp only [St.mod_val, St.mod_ver]
        split <;> simp_all
      refine ⟨t', ⟨R', W', rfl, rfl, b1⟩, fun x hx => ?_, fun x hx => ?_⟩
      · by_cases hxw : x ∈ W'
        · exact b2 x hxw
        · have hxk : x = k := by rcases List.mem_cons.1 hx with h | h; exact h; exact absurd h hxw
          subst hxk
          obtain ⟨c3, c4⟩ := ht x (by simp)
          obtain ⟨d1, d2⟩ := b3 x hxw
          obtain ⟨e1, e2⟩ := h1 x hxw
          exact ⟨by rw [d1, e1]; simp, by rw [d2, e2]; simp [c4]⟩
      · simp only [List.mem_cons, not_or] at hx
        obtain ⟨d1, d2⟩ := b3 x hx.2
        exact ⟨by rw [d1]; simp [hx.1], by rw [d2]; simp⟩
  | .call f args d c, s, s', R, W, h => by
    obtain ⟨d0, L, imps, args', r, R', W', q1, q2, q3, q4, q5, q6, q7, q8, q9, rfl, rfl, h⟩ := h
    obtain ⟨h1, h2, h3⟩ := FRun_frame (m := c) h
    have hnd : (L ++ newNames d0 r.news.length).Nodup := by
      simp only [namesOk, Bool.and_eq_true, decide_eq_true_eq] at q8; exact q8.1.1
    have hsame : ∀ (u : St) x, retVal (L ++ newNames d0 r.news.length) L.length d0 r x = none → (retInto u L d0 r).val x = u.val x ∧ (retInto u L d0 r).ver x = u.ver x := fun u x hx => retInto_none (s := u) hx
    refine ⟨fun x hx => ?_, fun x hx => ?_, fun t ht => ?_⟩
    · have hx1 : x ∉ W' := fun h => hx (List.mem_append.2 (.inr h))
      have hx2 : retVal (L ++ newNames d0 r.news.length) L.length d0 r x = none := by
        cases hq : retVal (L ++ newNames d0 r.news.length) L.length d0 r x with
        | none => rfl
        | some _ => exact absurd (List.mem_append.2 (.inl (retVal_writes hnd (by rw [hq]; simp)))) hx
      obtain ⟨a1, a2⟩ := h1 x hx1
      obtain ⟨b1, b2⟩ := hsame s x hx2
      exact ⟨a1.trans b1, a2.trans b2⟩
    · rcases List.mem_append.1 hx with hx | hx
      · rcases List.mem_cons.1 hx with rfl | hx
        · simp
        · refine List.mem_cons_of_mem _ (List.mem_append.2 (.inl ?_))
          rcases List.mem_append.1 hx with hx | hx
          · obtain ⟨i, hi, hx⟩ := List.mem_flatMap.1 hx
            obtain ⟨j, hj, rfl⟩ := List.mem_map.1 hx
            have hi' := List.mem_range.1 hi
            have hj' := List.mem_range.1 (List.mem_filter.1 hj).1
            refine List.mem_flatMap.2 ⟨L.getD i 0, List.mem_append.2 (.inl ?_), List.mem_map.2 ⟨j, List.mem_range.2 (by omega), rfl⟩⟩
            rw [List.getD_eq_getElem?_getD, List.getElem?_eq_getElem hi', Option.getD_some]
            exact List.getElem_mem hi'
          · obtain ⟨n, hn, hx⟩ := List.mem_flatMap.1 hx
            exact List.mem_flatMap.2 ⟨n, List.mem_append.2 (.inr hn), hx⟩
      · exact List.mem_cons_of_mem _ (List.mem_append.2 (.inr (h2 x hx)))
    · have hobj : ∀ n, n ∈ L ++ newNames d0 r.news.length → (s.val (khdr n) = t.val (khdr n) ∧ s.ver (khdr n) = t.ver (khdr n)) ∧ ∀ j, j < 64 → s.val (kcell n j) = t.val (kcell n j) ∧ s.ver (kcell n j) = t.ver (kcell n j) := by
        intro n hn
        exact ⟨ht _ (List.mem_cons_of_mem _ (List.mem_append.2 (.inl (hdr_mem hn)))), fun j hj => ht _ (List.mem_cons_of_mem _ (List.mem_append.2 (.inl (cell_mem hn hj))))⟩
      have hverL : ∀ m, m ∈ L → t.ver (khdr m) = s.ver (khdr m) := fun m hm => (hobj m (List.mem_append.2 (.inl hm))).1.2.symm
      have hverLL : ∀ m, m ∈ L ++ newNames d0 r.news.length → verIn t (newNames d0 r.news.length) (khdr m) = verIn s (newNames d0 r.news.length) (khdr m) := by
        intro m hm
        simp only [verIn, (hobj m hm).1.2]
      have p3 : impsOf t L L = some imps := impsOf_congr (fun n hn => ⟨(hobj n (List.mem_append.2 (.inl hn))).1.1, fun j hj => ((hobj n (List.mem_append.2 (.inl hn))).2 j (by omega)).1⟩) hverL (fun n hn => hn) q6 q3
      have p4 : renAs L t.ver args = some args' := by rw [renAs_congr_mem hverL]; exact q4
      have p9 : backOk (L ++ newNames d0 r.news.length) (verIn t (newNames d0 r.news.length)) r = true := by
        rw [← q9]
        have hbc := fun v => backA_congr (L := L ++ newNames d0 r.news.length) (ver := verIn s (newNames d0 r.news.length)) (ver' := verIn t (newNames d0 r.news.length)) hverLL v
        unfold backOk
        rw [hbc]
        congr 1
        · congr 1
          congr 1
          funext o
          congr 1
          funext c
          cases c with
          | none => rfl
          | some v => simp only [hbc]
        · congr 1
          funext o
          congr 1
          funext c
          rw [hbc]
      have hret : ∀ x, retVal (L ++ newNames d0 r.news.length) L.length d0 r x ≠ none → s.ver x = t.ver x → (retInto t L d0 r).val x = (retInto s L d0 r).val x ∧ (retInto t L d0 r).ver x = (retInto s L d0 r).ver x := by
        intro x hx hxv
        cases hq : retVal (L ++ newNames d0 r.news.length) L.length d0 r x with
        | none => exact absurd hq hx
        | some v =>
          obtain ⟨a1, a2⟩ := retInto_some (s := s) hq
          obtain ⟨b1, b2⟩ := retInto_some (s := t) hq
          refine ⟨?_, by rw [b2, a2, hxv]⟩
          rw [b1, a1]
          congr 1
          cases v <;> first | exact backA_congr hverLL _ | rfl
      -- what is written was read
      have hwr : ∀ x, retVal (L ++ newNames d0 r.news.length) L.length d0 r x ≠ none → s.ver x = t.ver x := by
        intro x hx
        have := retVal_writes hnd hx
        rcases List.mem_cons.1 this with rfl | h
        · exact (ht _ (by simp)).2
        · rcases List.mem_append.1 h with h | h
          · obtain ⟨i, hi, h⟩ := List.mem_flatMap.1 h
            obtain ⟨j, hj, rfl⟩ := List.mem_map.1 h
            have hi' := List.mem_range.1 hi
            have hj' := List.mem_range.1 (List.mem_filter.1 hj).1
            refine (ht _ (List.mem_cons_of_mem _ (List.mem_append.2 (.inl (List.mem_flatMap.2 ⟨L.getD i 0, List.mem_append.2 (.inl ?_), List.mem_map.2 ⟨j, List.mem_range.2 (by omega), rfl⟩⟩))))).2
            rw [List.getD_eq_getElem?_getD, List.getElem?_eq_getElem hi', Option.getD_some]
            exact List.getElem_mem hi'
          · obtain ⟨n, hn, h⟩ := List.mem_flatMap.1 h
            exact (ht _ (List.mem_cons_of_mem _ (List.mem_append.2 (.inl (List.mem_flatMap.2 ⟨n, List.mem_append.2 (.inr hn), h⟩))))).2
      obtain ⟨t', b1, b2, b3⟩ := h3 (retInto t L d0 r) fun x hx => by
        cases hq : retVal (L ++ newNames d0 r.news.length) L.length d0 r x with
        | none =>
          obtain ⟨a1, a2⟩ := hsame s x hq
          obtain ⟨c1, c2⟩ := hsame t x hq
          obtain ⟨e1, e2⟩ := ht x (List.mem_cons_of_mem _ (List.mem_append.2 (.inr hx)))
          exact ⟨by rw [a1, c1, e1], by rw [a2, c2, e2]⟩
        | some v =>
          have hne : retVal (L ++ newNames d0 r.news.length) L.length d0 r x ≠ none := by rw [hq]; simp
          obtain ⟨a1, a2⟩ := hret x hne (hwr x hne)
          exact ⟨a1.symm, a2.symm⟩
      refine ⟨t', ⟨d0, L, imps, args', r, R', W', q1, q2, p3, p4, q5, q6, q7, q8, p9, rfl, rfl, b1⟩, fun x hx => ?_, fun x hx => ?_⟩
      · by_cases hxw : x ∈ W'
        · exact b2 x hxw
        · obtain ⟨d1, d2⟩ := b3 x hxw
          obtain ⟨e1, e2⟩ := h1 x hxw
          rw [d1, d2, e1, e2]
          cases hq : retVal (L ++ newNames d0 r.news.length) L.length d0 r x with
          | none =>
            obtain ⟨a1, a2⟩ := hsame s x hq
            obtain ⟨c1, c2⟩ := hsame t x hq
            have hxR : x ∈ d0 :: ((L ++ newNames d0 r.news.length).flatMap (fun n => (List.range 64).map fun j => 4096 + n * 64 + j) ++ R') := by
              rcases List.mem_append.1 hx with hx | hx
              · rcases List.mem_cons.1 hx with rfl | hx
                · simp
                · refine List.mem_cons_of_mem _ (List.mem_append.2 (.inl ?_))
                  rcases List.mem_append.1 hx with hx | hx
                  · obtain ⟨i, hi, hx⟩ := List.mem_flatMap.1 hx
                    obtain ⟨j, hj, rfl⟩ := List.mem_map.1 hx
                    have hi' := List.mem_range.1 hi
                    have hj' := List.mem_range.1 (List.mem_filter.1 hj).1
                    refine List.mem_flatMap.2 ⟨L.getD i 0, List.mem_append.2 (.inl ?_), List.mem_map.2 ⟨j, List.mem_range.2 (by omega), rfl⟩⟩
                    rw [List.getD_eq_getElem?_getD, List.getElem?_eq_getElem hi', Option.getD_some]
                    exact List.getElem_mem hi'
                  · obtain ⟨n, hn, hx⟩ := List.mem_flatMap.1 hx
                    exact List.mem_flatMap.2 ⟨n, List.mem_append.2 (.inr hn), hx⟩
              · exact absurd hx hxw
            obtain ⟨g1, g2⟩ := ht x hxR
            rw [a1, a2, c1, c2, g1, g2]; exact ⟨rfl, rfl⟩
          | some v =>
            have hne : retVal (L ++ newNames d0 r.news.length) L.length d0 r x ≠ none := by rw [hq]; simp
            exact hret x hne (hwr x hne)
      · have hx1 : x ∉ W' := fun h => hx (List.mem_append.2 (.inr h))
        have hx2 : retVal (L ++ newNames d0 r.news.length) L.length d0 r x = none := by
          cases hq : retVal (L ++ newNames d0 r.news.length) L.length d0 r x with
          | none => rfl
          | some _ => exact absurd (List.mem_append.2 (.inl (retVal_writes hnd (by rw [hq]; simp)))) hx
        obtain ⟨d1, d2⟩ := b3 x hx1
        obtain ⟨c1, c2⟩ := hsame t x hx2
        exact ⟨d1.trans c1, d2.trans c2⟩

/-! #### The edges -/

def befMask (acc : List Nat) (o : Oper) : Nat := o.after.toList.foldl (fun s e => if Region.binds .any e then s ||| (2 ^ e.on ||| acc.getD e.on 0) else s) 0
/-- Of each operation those that come ahead of it in every order. -/
def befs : List Nat → List Oper → List Nat
  | acc, [] => acc
  | acc, o :: r => befs (acc ++ [befMask acc o]) r

def disj (a b : List Nat) : Bool := a.all fun x => !b.contains x

/-- Nothing that an operation writes is read or written by one that may come on either side. -/
def noClash (bs : List Nat) : List (List Nat × List Nat) → Nat → Bool
  | [], _ => true
  | (R, W) :: rest, i => ((rest.zipIdx (i + 1)).all fun x => (bs.getD x.2 0).testBit i || (disj W x.1.1 && disj R x.1.2)) && noClash bs rest (i + 1)

/-- The steps of a region, one behind the other. -/
def Chain (P : Program) (T : Tab) (ops : Array Oper) : List Oper → St → St → List (List Nat × List Nat) → Prop
  | [], s, s', fs => s' = s ∧ fs = []
  | o :: r, s, s', fs => ∃ s1 R W fs', fs = (R, W) :: fs' ∧ FRun P (guarded P T ops o) s s1 R W ∧ Chain P T ops r s1 s' fs'
end

end Go.Proofs.YtkjglhamlnnboaaDoor.Am
