/-
  THE ABSTRACT MACHINE, part E: a call, told in the caller's state.
-/
import Derived.Test.YtkjglhamlnnboaaDoorAmD
set_option linter.unusedVariables false
set_option linter.unusedSimpArgs false
namespace Go.Proofs.YtkjglhamlnnboaaDoor.Am
open Go Go.RowKit

theorem div_cell {n j : Nat} (h : j < 64) : (kcell n j - 4096) / 64 = n ∧ (kcell n j - 4096) % 64 = j := by unfold kcell; omega
theorem div_hdr (n : Nat) : (khdr n - 4096) / 64 = n ∧ (khdr n - 4096) % 64 = 63 := by unfold khdr; omega
theorem key_eq {k : Nat} (h : 4096 ≤ k) : k = 4096 + ((k - 4096) / 64) * 64 + (k - 4096) % 64 := by omega

section
variable {I J : Imm} {G G' : Ghost} {s s' : St}

theorem idx_some {L : List Nat} {n i : Nat} (h : L.idxOf? n = some i) : L[i]? = some n := by
  rw [List.idxOf?_eq_some_iff] at h
  obtain ⟨h1, h2, _⟩ := h
  simp [List.getElem?_eq_getElem h1, h2]

theorem idx_nodup {L : List Nat} (hL : L.Nodup) {n i : Nat} (h : L[i]? = some n) : L.idxOf? n = some i := by
  rw [List.idxOf?_eq_some_iff]
  obtain ⟨h1, h2⟩ := List.getElem?_eq_some_iff.1 h
  refine ⟨h1, h2, fun j hj he => ?_⟩
  have hjl : j < L.length := by omega
  have h3 := List.pairwise_iff_getElem.1 hL j i hjl h1 hj
  exact h3 (by rw [he, h2])

mutual
/-- Handed in. -/
theorem AVRel.ren {L : List Nat} (hb : ∀ (i n : Nat), L[i]? = some n → G'.blk (khdr i) = G.blk (khdr n))
    (hh : ∀ (i n : Nat), L[i]? = some n → (s.val (khdr n)).isHdr = true) (hv' : ∀ k, s'.ver k = 0) : ∀ {v v' : AV} {y : Value}, renA L s.ver v = some v' → v.isOwn = false → AVRel I G s v y → AVRel I G' s' v' y
  | .p x, v', y, h, _, r => by simp only [renA, Option.some.injEq] at h; subst h; simpa only [AVRel] using r
  | .ptr n v off, v', y, h, _, r => by
    simp only [renA] at h
    cases hi : L.idxOf? n with
    | none => simp [hi] at h
    | some i =>
      simp only [hi] at h
      split at h
      · rename_i hv
        injection h with h
        subst h
        simp only [AVRel] at r ⊢
        refine ⟨Nat.zero_le _, r.2.1, fun _ _ => ?_⟩
        rw [r.2.2 hv (hh i n (idx_some hi)), hb i n (idx_some hi)]
      · cases h
  | .own .., v', y, h, ho, r => by simp [AV.isOwn] at ho
  | .clo f caps, v', y, h, _, r => by
    simp only [renA, Option.map_eq_some_iff] at h
    obtain ⟨cs, hc, rfl⟩ := h
    simp only [AVRel] at r ⊢
    obtain ⟨ys, rfl, hr⟩ := r
    exact ⟨ys, rfl, AVRels.ren hb hh hv' hc hr⟩
  | .agg caps, v', y, h, _, r => by
    simp only [renA, Option.map_eq_some_iff] at h
    obtain ⟨cs, hc, rfl⟩ := h
    simp only [AVRel] at r ⊢
    obtain ⟨ys, rfl, hr⟩ := r
    exact ⟨ys, rfl, AVRels.ren hb hh hv' hc hr⟩
  | .ifc t x, v', y, h, _, r => by
    simp only [renA, Option.map_eq_some_iff] at h
    obtain ⟨x', hc, rfl⟩ := h
    simp only [AVRel] at r ⊢
    obtain ⟨y', rfl, hr⟩ := r
    refine ⟨y', rfl, AVRel.ren hb hh hv' hc ?_ hr⟩
    cases x <;> simp_all [AVRel, AV.isOwn]
  | .junk, v', y, h, _, r => by simp only [renA, Option.some.injEq] at h; subst h; simp only [AVRel]
  | .nilS, v', y, h, _, r => by simp [renA] at h
  | .ref .., v', y, h, _, r => by simp [renA] at h
  | .eptr .., v', y, h, _, r => by simp [renA] at h
  | .sref .., v', y, h, _, r => by simp [renA] at h
  | .tup caps, v', y, h, _, r => by
    simp only [renA, Option.map_eq_some_iff] at h
    obtain ⟨cs, hc, rfl⟩ := h
    simp only [AVRel] at r ⊢
    obtain ⟨ys, rfl, hr⟩ := r
    exact ⟨ys, rfl, AVRels.ren hb hh hv' hc hr⟩
  | .hdr .., v', y, h, _, r => by simp [renA] at h
theorem AVRels.ren {L : List Nat} (hb : ∀ (i n : Nat), L[i]? = some n → G'.blk (khdr i) = G.blk (khdr n))
    (hh : ∀ (i n : Nat), L[i]? = some n → (s.val (khdr n)).isHdr = true) (hv' : ∀ k, s'.ver k = 0) : ∀ {vs vs' : List AV} {ys : List Value}, renAs L s.ver vs = some vs' → AVRels I G s vs ys → AVRels I G' s' vs' ys
  | [], vs', ys, h, r => by simp only [renAs, Option.some.injEq] at h; subst h; simpa only [AVRels] using r
  | c :: cs, vs', ys, h, r => by
    simp only [renAs] at h
    split at h
    · rename_i x xs hx hxs
      injection h with h
      subst h
      simp only [AVRels] at r ⊢
      obtain ⟨y, ys', rfl, r1, r2⟩ := r
      refine ⟨y, ys', rfl, AVRel.ren hb hh hv' hx ?_ r1, AVRels.ren hb hh hv' hxs r2⟩
      cases c <;> simp_all [AVRel, AV.isOwn]
    · cases h
end

mutual
/-- Handed back. -/
theorem AVRel.back {L : List Nat} {ver : Nat → Nat} (hb : ∀ (i n : Nat), L[i]? = some n → G'.blk (khdr n) = G.blk (khdr i))
    (hh : ∀ (i n : Nat), L[i]? = some n → (s.val (khdr i)).isHdr = true) (hv : ∀ (i n : Nat), L[i]? = some n → s.ver (khdr i) = 0) (hv' : ∀ (i n : Nat), L[i]? = some n → s'.ver (khdr n) = ver (khdr n)) :
    ∀ {v v' : AV} {y : Value}, backA L ver v = some v' → v.isOwn = false → AVRel I G s v y → AVRel I G' s' v' y
  | .p x, v', y, h, _, r => by simp only [backA, Option.some.injEq] at h; subst h; simpa only [AVRel] using r
  | .nilS, v', y, h, _, r => by simp only [backA, Option.some.injEq] at h; subst h; simpa only [AVRel] using r
  | .ptr i v off, v', y, h, _, r => by
    simp only [backA] at h
    split at h
    · rename_i h0
      subst h0
      split at h
      · rename_i n hn
        injection h with h
        subst h
        simp only [AVRel] at r ⊢
        refine ⟨by rw [hv' i n hn]; exact Nat.le_refl _, r.2.1, fun _ _ => ?_⟩
        rw [r.2.2 (hv i n hn).symm (hh i n hn), hb i n hn]
      · cases h
    · cases h
  | .own .., v', y, h, ho, r => by simp [AV.isOwn] at ho
  | .clo f caps, v', y, h, _, r => by
    simp only [backA, Option.map_eq_some_iff] at h
    obtain ⟨cs, hc, rfl⟩ := h
    simp only [AVRel] at r ⊢
    obtain ⟨ys, rfl, hr⟩ := r
    exact ⟨ys, rfl, AVRels.back hb hh hv hv' hc hr⟩
  | .agg caps, v', y, h, _, r => by
    simp only [backA, Option.map_eq_some_iff] at h
    obtain ⟨cs, hc, rfl⟩ := h
    simp only [AVRel] at r ⊢
    obtain ⟨ys, rfl, hr⟩ := r
    exact ⟨ys, rfl, AVRels.back hb hh hv hv' hc hr⟩
  | .tup caps, v', y, h, _, r => by
    simp only [backA, Option.map_eq_some_iff] at h
    obtain ⟨cs, hc, rfl⟩ := h
    simp only [AVRel] at r ⊢
    obtain ⟨ys, rfl, hr⟩ := r
    exact ⟨ys, rfl, AVRels.back hb hh hv hv' hc hr⟩
  | .ifc t x, v', y, h, _, r => by
    simp only [backA, Option.map_eq_some_iff] at h
    obtain ⟨x', hc, rfl⟩ := h
    simp only [AVRel] at r ⊢
    obtain ⟨y', rfl, hr⟩ := r
    refine ⟨y', rfl, AVRel.back hb hh hv hv' hc ?_ hr⟩
    cases x <;> simp_all [AVRel, AV.isOwn]
  | .junk, v', y, h, _, r => by simp only [backA, Option.some.injEq] at h; subst h; simp only [AVRel]
  | .ref .., v', y, h, _, r => by simp [backA] at h
  | .eptr .., v', y, h, _, r => by simp [backA] at h
  | .sref .., v', y, h, _, r => by simp [backA] at h
  | .hdr .., v', y, h, _, r => by simp [backA] at h
theorem AVRels.back {L : List Nat} {ver : Nat → Nat} (hb : ∀ (i n : Nat), L[i]? = some n → G'.blk (khdr n) = G.blk (khdr i))
    (hh : ∀ (i n : Nat), L[i]? = some n → (s.val (khdr i)).isHdr = true) (hv : ∀ (i n : Nat), L[i]? = some n → s.ver (khdr i) = 0) (hv' : ∀ (i n : Nat), L[i]? = some n → s'.ver (khdr n) = ver (khdr n)) :
    ∀ {vs vs' : List AV} {ys : List Value}, backAs L ver vs = some vs' → AVRels I G s vs ys → AVRels I G' s' vs' ys
  | [], vs', ys, h, r => by simp only [backAs, Option.some.injEq] at h; subst h; simpa only [AVRels] using r
  | c :: cs, vs', ys, h, r => by
    simp only [backAs] at h
    split at h
    · rename_i x xs hx hxs
      injection h with h
      subst h
      simp only [AVRels] at r ⊢
      obtain ⟨y, ys', rfl, r1, r2⟩ := r
      refine ⟨y, ys', rfl, AVRel.back hb hh hv hv' hx ?_ r1, AVRels.back hb hh hv hv' hxs r2⟩
      cases c <;> simp_all [AVRel, AV.isOwn]
    · cases h
end

mutual
/-- There and back. -/
theorem back_ren {L LL : List Nat} {ver ver' : Nat → Nat} (hL : ∀ (i n : Nat), L[i]? = some n → LL[i]? = some n) (hv : ∀ n, n ∈ L → ver' (khdr n) = ver (khdr n)) : ∀ {v v' : AV}, renA L ver v = some v' → backA LL ver' v' = some v
  | .p x, v', h => by simp only [renA, Option.some.injEq] at h; subst h; rfl
  | .ptr n v off, v', h => by
    simp only [renA] at h
    cases hi : L.idxOf? n with
    | none => simp [hi] at h
    | some i =>
      simp only [hi] at h
      split at h
      · rename_i hv0
        injection h with h
        subst h
        have h1 := idx_some hi
        simp only [backA, hL i n h1, if_true]
        rw [hv n (List.mem_of_getElem? h1), ← hv0]
      · cases h
  | .own .., v', h => by simp only [renA, Option.some.injEq] at h; subst h; rfl
  | .clo f caps, v', h => by
    simp only [renA, Option.map_eq_some_iff] at h
    obtain ⟨cs, hc, rfl⟩ := h
    simp [backA, backs_ren hL hv hc]
  | .agg caps, v', h => by
    simp only [renA, Option.map_eq_some_iff] at h
    obtain ⟨cs, hc, rfl⟩ := h
    simp [backA, backs_ren hL hv hc]
  | .ifc t x, v', h => by
    simp only [renA, Option.map_eq_some_iff] at h
    obtain ⟨x', hc, rfl⟩ := h
    simp [backA, back_ren hL hv hc]
  | .junk, v', h => by simp only [renA, Option.some.injEq] at h; subst h; rfl
  | .nilS, v', h => by simp [renA] at h
  | .ref .., v', h => by simp [renA] at h
  | .eptr .., v', h => by simp [renA] at h
  | .tup caps, v', h => by
    simp only [renA, Option.map_eq_some_iff] at h
    obtain ⟨cs, hc, rfl⟩ := h
    simp [backA, backs_ren hL hv hc]
  | .hdr .., v', h => by simp [renA] at h
theorem backs_ren {L LL : List Nat} {ver ver' : Nat → Nat} (hL : ∀ (i n : Nat), L[i]? = some n → LL[i]? = some n) (hv : ∀ n, n ∈ L → ver' (khdr n) = ver (khdr n)) : ∀ {vs vs' : List AV}, renAs L ver vs = some vs' → backAs LL ver' vs' = some vs
  | [], vs', h => by simp only [renAs, Option.some.injEq] at h; subst h; rfl
  | c :: cs, vs', h => by
    simp only [renAs] at h
    split at h
    · rename_i x xs hx hxs
      injection h with h
      subst h
      simp only [backAs, back_ren hL hv hx, backs_ren hL hv hxs]
    · cases h
end

theorem renA_own {L : List Nat} {ver : Nat → Nat} {v v' : AV} (h : renA L ver v = some v') : v'.isOwn = v.isOwn ∧ v'.isHdr = false ∧ v.isHdr = false ∧ (v.isOwn = true → v' = v) := by
  cases v <;> simp only [renA, Option.some.injEq, Option.map_eq_some_iff, reduceCtorEq] at h
  case ptr n v off =>
    split at h
    · split at h
      · injection h with h; subst h; simp [AV.isOwn, AV.isHdr]
      · cases h
    · cases h
  case clo => obtain ⟨_, _, rfl⟩ := h; simp [AV.isOwn, AV.isHdr]
  case agg => obtain ⟨_, _, rfl⟩ := h; simp [AV.isOwn, AV.isHdr]
  case tup => obtain ⟨_, _, rfl⟩ := h; simp [AV.isOwn, AV.isHdr]
  case ifc => obtain ⟨_, _, rfl⟩ := h; simp [AV.isOwn, AV.isHdr]
  all_goals (subst h; simp [AV.isOwn, AV.isHdr])

theorem backA_own {L : List Nat} {ver : Nat → Nat} {v v' : AV} (h : backA L ver v = some v') : v'.isOwn = v.isOwn ∧ v'.isHdr = false ∧ v.isHdr = false ∧ (v.isOwn = true → v' = v) := by
  cases v <;> simp only [backA, Option.some.injEq, Option.map_eq_some_iff, reduceCtorEq] at h
  case ptr n v off =>
    split at h
    · split at h
      · injection h with h; subst h; simp [AV.isOwn, AV.isHdr]
      · cases h
    · cases h
  case clo => obtain ⟨_, _, rfl⟩ := h; simp [AV.isOwn, AV.isHdr]
  case agg => obtain ⟨_, _, rfl⟩ := h; simp [AV.isOwn, AV.isHdr]
  case tup => obtain ⟨_, _, rfl⟩ := h; simp [AV.isOwn, AV.isHdr]
  case ifc => obtain ⟨_, _, rfl⟩ := h; simp [AV.isOwn, AV.isHdr]
  all_goals (subst h; simp [AV.isOwn, AV.isHdr])

theorem AVRels.length : ∀ {vs : List AV} {ys : List Value}, AVRels I G s vs ys → ys.length = vs.length
  | [], ys, h => by simp only [AVRels] at h; simp [h]
  | c :: cs, ys, h => by
    simp only [AVRels] at h
    obtain ⟨y, ys', rfl, _, h2⟩ := h
    simp [AVRels.length h2]

theorem AVRels.get : ∀ {vs : List AV} {ys : List Value}, AVRels I G s vs ys → ∀ j, j < vs.length → AVRel I G s (vs.getD j .junk) (ys.getD j undef)
  | [], ys, h, j, hj => by simp at hj
  | c :: cs, ys, h, j, hj => by
    simp only [AVRels] at h
    obtain ⟨y, ys', rfl, h1, h2⟩ := h
    cases j with
    | zero => simpa using h1
    | succ j => simpa using AVRels.get h2 j (by simpa using hj)

theorem renAs_length {L : List Nat} {ver : Nat → Nat} : ∀ {vs vs' : List AV}, renAs L ver vs = some vs' → vs'.length = vs.length
  | [], vs', h => by simp only [renAs, Option.some.injEq] at h; simp [← h]
  | c :: cs, vs', h => by
    simp only [renAs] at h
    split at h
    · rename_i x xs hx hxs
      injection h with h
      subst h
      simp [renAs_length hxs]
    · cases h

theorem renAs_get {L : List Nat} {ver : Nat → Nat} : ∀ {vs vs' : List AV}, renAs L ver vs = some vs' → ∀ (j : Nat) (v : AV), vs[j]? = some v → ∃ v', vs'[j]? = some v' ∧ renA L ver v = some v'
  | [], vs', h, j, v, hv => by simp at hv
  | c :: cs, vs', h, j, v, hv => by
    simp only [renAs] at h
    split at h
    · rename_i x xs hx hxs
      injection h with h
      subst h
      cases j with
      | zero => simp at hv; subst hv; exact ⟨x, by simp, hx⟩
      | succ j => simpa using renAs_get hxs j v (by simpa using hv)
    · cases h

theorem impsOf_get {L : List Nat} : ∀ {ns : List Nat} {imps : List ObjD}, impsOf s L ns = some imps → imps.length = ns.length ∧ ∀ (i n : Nat), ns[i]? = some n → ∃ o, imps[i]? = some o ∧ impOf s L n = some o
  | [], imps, h => by simp only [impsOf, Option.some.injEq] at h; subst h; simp
  | n :: r, imps, h => by
    simp only [impsOf] at h
    split at h
    · rename_i x xs hx hxs
      injection h with h
      subst h
      obtain ⟨h1, h2⟩ := impsOf_get hxs
      refine ⟨by simp [h1], fun i m hm => ?_⟩
      cases i with
      | zero => simp at hm; subst hm; exact ⟨x, by simp, hx⟩
      | succ i => simpa using h2 i m (by simpa using hm)
    · cases h

/-- What is known of an object that is handed in. -/
theorem impOf_spec {L : List Nat} {n : Nat} {o : ObjD} (h : impOf s L n = some o) : s.val (khdr n) = .hdr o.e o.cells.length ∧ ∀ j, j < o.cells.length → ∃ c, o.cells[j]? = some c ∧ renA L s.ver (s.val (kcell n j)) = some c := by
  unfold impOf at h
  split at h
  · rename_i e z hz
    simp only [Option.map_eq_some_iff] at h
    obtain ⟨cs, hc, rfl⟩ := h
    have hl := renAs_length hc
    simp only [cellsOf, List.length_map, List.length_range] at hl
    refine ⟨by simp [hz, hl], fun j hj => ?_⟩
    simp only at hj
    obtain ⟨v', h1, h2⟩ := renAs_get hc j (s.val (kcell n j)) (by rw [hl] at hj; simp [cellsOf, hj])
    exact ⟨v', h1, h2⟩
  · cases h
end

end Go.Proofs.YtkjglhamlnnboaaDoor.Am
