/-
  THE ABSTRACT MACHINE, part O: code, and functions.
-/
import Derived.Test.YtkjglhamlnnboaaDoorAmN
import Derived.Defers
set_option linter.unusedVariables false
set_option linter.unusedSimpArgs false
namespace Go.Proofs.YtkjglhamlnnboaaDoor.Am
open Go Go.RowKit

/-- Calls that are put off: the function, its arguments. -/
abbrev Dfs := List (FuncId × List AV)

section
variable {P : Program} {T : Tab} {C : Ctx} {I J : Imm} {G G' : Ghost} {s s' : St} {a : Act} {ts ts' : Array Value} {w w' : World}

def DRel (I : Imm) (G : Ghost) (s : St) : Dfs → List Deferred → Prop
  | [], ys => ys = []
  | x :: xs, ys => ∃ d ys' cap, ys = d :: ys' ∧ d.target = .fn (.func x.1) cap ∧ AVRels I G s x.2 (d.args ++ cap).toList ∧ DRel I G s xs ys'

theorem DRel.keep {s s' : St} (hI : I.le J) (hk : Keeps s s' G G') : ∀ {xs : Dfs} {ys : List Deferred}, DRel I G s xs ys → DRel J G' s' xs ys
  | [], ys, h => h
  | x :: xs, ys, h => by
    obtain ⟨d, ys', cap, rfl, h1, h2, h3⟩ := h
    exact ⟨d, ys', cap, rfl, h1, AVRels.keep hI hk h2, DRel.keep hI hk h3⟩

/-- What code comes to, told in states. -/
def SWp (P : Program) (N : Nat) (c : Code) (s : St) (ds : Dfs) (Q : Exit → St → Dfs → Prop) : Prop :=
  ∀ (C : Ctx) (I : Imm) (G : Ghost) (a : Act) (w : World), C.N = N → Rel C I G s a.tmps w → DRel I G s ds a.defers →
    c.wp P (fun e a' w' => ∃ s' ds' J G', Q e s' ds' ∧ Rel C J G' s' a'.tmps w' ∧ Ext C I J s s' G G' ∧ DRel J G' s' ds' a'.defers) a w

theorem SWp.mono {N : Nat} {c : Code} {ds : Dfs} {Q Q' : Exit → St → Dfs → Prop} (h : SWp P N c s ds Q) (hq : ∀ e s' ds', Q e s' ds' → Q' e s' ds') : SWp P N c s ds Q' :=
  fun C I G a w hN R D => wp_mono (h C I G a w hN R D) fun e a' w' ⟨s', ds', J, G', h1, h2⟩ => ⟨s', ds', J, G', hq _ _ _ h1, h2⟩

theorem swp_skip {N : Nat} {ds : Dfs} {Q : Exit → St → Dfs → Prop} (h : Q .normal s ds) : SWp P N .skip s ds Q :=
  fun C I G a w hN R D => wp_skip ⟨s, ds, I, G, h, R, Ext.refl _ _ _ _, D⟩
theorem swp_ret {N : Nat} {ds : Dfs} {Q : Exit → St → Dfs → Prop} (h : Q .ret s ds) : SWp P N .ret s ds Q :=
  fun C I G a w hN R D => wp_ret ⟨s, ds, I, G, h, R, Ext.refl _ _ _ _, D⟩
theorem swp_exit {N id : Nat} {ds : Dfs} {Q : Exit → St → Dfs → Prop} (h : Q (.exit id) s ds) : SWp P N (.exit id) s ds Q :=
  fun C I G a w hN R D => wp_exit ⟨s, ds, I, G, h, R, Ext.refl _ _ _ _, D⟩

def thenS (K : St → Dfs → Prop) (Q : Exit → St → Dfs → Prop) : Exit → St → Dfs → Prop
  | .normal, s, ds => K s ds
  | e, s, ds => Q e s ds

theorem swp_seq {N : Nat} {x y : Code} {ds : Dfs} {Q : Exit → St → Dfs → Prop} (h : SWp P N x s ds (thenS (fun s' ds' => SWp P N y s' ds' Q) Q)) : SWp P N (.seq x y) s ds Q := by
  intro C I G a w hN R D
  refine wp_seq (wp_mono (h C I G a w hN R D) ?_)
  rintro e a' w' ⟨s', ds', J, G', h1, h2, h3, h4⟩
  cases e with
  | normal =>
    simp only [Exit.then, thenS] at h1 ⊢
    refine wp_mono (h1 C J G' a' w' hN h2 h4) ?_
    rintro e a'' w'' ⟨s'', ds'', J', G'', k1, k2, k3, k4⟩
    exact ⟨s'', ds'', J', G'', k1, k2, h3.trans k3, k4⟩
  | _ => exact ⟨s', ds', J, G', h1, h2, h3, h4⟩

theorem swp_cond {N : Nat} {c : Operand} {x y : Code} {ds : Dfs} {Q : Exit → St → Dfs → Prop} {b : Bool} (hc : awp P (evalO c) s fun v _ => v = .p (.v (.bool b))) (h : SWp P N (if b then x else y) s ds Q) : SWp P N (.cond c x y) s ds Q := by
  intro C I G a w hN R D
  obtain ⟨v, hv, rfl⟩ := evalO_ok hc R
  simp only [AVRel] at hv
  have : a.eval c = .bool b := by generalize a.eval c = q at hv; cases hv; rfl
  exact wp_cond this (h C I G a w hN R D)

def blockS (id : Nat) (Q : Exit → St → Dfs → Prop) : Exit → St → Dfs → Prop
  | .exit id', s, ds => if id' = id then Q .normal s ds else Q (.exit id') s ds
  | e, s, ds => Q e s ds

theorem swp_block {N id : Nat} {c : Code} {ds : Dfs} {Q : Exit → St → Dfs → Prop} (h : SWp P N c s ds (blockS id Q)) : SWp P N (.block id c) s ds Q := by
  intro C I G a w hN R D
  refine wp_block (wp_mono (h C I G a w hN R D) ?_)
  rintro e a' w' ⟨s', ds', J, G', h1, h2⟩
  cases e with
  | exit id' =>
    simp only [Exit.inBlock, blockS] at h1 ⊢
    split at h1
    · rename_i he; rw [if_pos he]; exact ⟨s', ds', J, G', h1, h2⟩
    · rename_i he; rw [if_neg he]; exact ⟨s', ds', J, G', h1, h2⟩
  | _ => exact ⟨s', ds', J, G', h1, h2⟩

theorem wp_loop_n {c : Code} {Q : Exit → Act → World → Prop} (Inv : Nat → Act → World → Prop) (round : ∀ n a w, Inv n a w → c.wp P (Exit.then (fun a' w' => ∃ m, m < n ∧ Inv m a' w') Q) a w) {n : Nat} {a : Act} {w : World} (h : Inv n a w) : (Code.loop c).wp P Q a w := by
  intro b k cs
  have key : ∀ n a w, Inv n a w → ∃ e a' w', Q e a' w' ∧ Arrives P (lone (b.at a (.code c :: .inLoop c :: k)) cs w) b k cs e a' w' := by
    intro n
    induction n using Nat.strongRecOn with
    | _ n ih =>
      intro a w hI
      obtain ⟨e, a₁, w₁, hq, harr⟩ := round n a w hI b (.inLoop c :: k) cs
      cases e with
      | normal =>
        obtain ⟨m, hlt, hI₁⟩ := hq
        obtain ⟨e₂, a₂, w₂, hq₂, harr₂⟩ := ih m hlt a₁ w₁ hI₁
        exact ⟨e₂, a₂, w₂, hq₂, .of_steps (Steps.trans harr (.one step_inLoop)) harr₂⟩
      | exit id => exact ⟨_, a₁, w₁, hq, .pass (x := .inLoop c) rfl (fun _ _ => .inl (by simp)) harr⟩
      | goto l => exact ⟨_, a₁, w₁, hq, .pass (x := .inLoop c) rfl (fun _ _ => .inl (by simp)) harr⟩
      | ret => exact ⟨_, a₁, w₁, hq, .pass (x := .inLoop c) rfl (fun _ _ => .inl (by simp)) harr⟩
      | panic ch => exact ⟨_, a₁, w₁, hq, .pass (x := .inLoop c) rfl (fun _ _ => .inl (by simp)) harr⟩
      | outgrown => exact ⟨_, a₁, w₁, hq, .pass (x := .inLoop c) rfl (fun _ _ => .inl (by simp)) harr⟩
  obtain ⟨e, a', w', hq, harr⟩ := key n a w h
  exact ⟨e, a', w', hq, .of_steps (.one step_loop) harr⟩

/-- A loop: what holds at each round's head, by how many rounds are left at most. -/
theorem swp_loop {N : Nat} {c : Code} {Q : Exit → St → Dfs → Prop} (Inv : Nat → St → Dfs → Prop) (round : ∀ n s ds, Inv n s ds → SWp P N c s ds (thenS (fun s' ds' => ∃ m, m < n ∧ Inv m s' ds') Q)) {n : Nat} {ds : Dfs} (h : Inv n s ds) : SWp P N (.loop c) s ds Q := by
  intro C I G a w hN R D
  refine wp_loop_n (P := P) (fun n a' w' => ∃ s' ds' J G', Inv n s' ds' ∧ Rel C J G' s' a'.tmps w' ∧ Ext C I J s s' G G' ∧ DRel J G' s' ds' a'.defers) ?_ (n := n) ⟨s, ds, I, G, h, R, Ext.refl _ _ _ _, D⟩
  rintro n a1 w1 ⟨s1, ds1, J, G1, h1, R1, E1, D1⟩
  refine wp_mono (round n s1 ds1 h1 C J G1 a1 w1 hN R1 D1) ?_
  rintro e a2 w2 ⟨s2, ds2, J2, G2, h2, R2, E2, D2⟩
  cases e with
  | normal => obtain ⟨m, hm, h3⟩ := h2; exact ⟨m, hm, s2, ds2, J2, G2, h3, R2, E1.trans E2, D2⟩
  | _ => exact ⟨s2, ds2, J2, G2, h2, R2, E1.trans E2, D2⟩

theorem swp_region (hT : TabOk P T) {N id : Nat} {ops : Array Oper} {ds : Dfs} {Q : Exit → St → Dfs → Prop} (hd : dstsOk N ops = true) (h : awp P (seqA P T ops ops.toList) s fun _ s' => Q .normal s' ds) : SWp P N (.region id ops false) s ds Q := by
  intro C I G a w hN R D
  subst hN
  refine region_ok hT hd h R ?_
  rintro a' w' ⟨s', J, G', h1, h2, h3, h4⟩
  exact ⟨s', ds, J, G', h1, h2, h3, by rw [h4]; exact D.keep h3.imm h3.keep⟩

theorem swp_draw (hT : TabOk P T) (hm : P.follows .mixedOrders = true) {N id : Nat} {ops : Array Oper} {ds : Dfs} {Q : Exit → St → Dfs → Prop} (hd : dstsOk N ops = true) (he : edgesOk ops = true) {fs : List (List Nat × List Nat)} (hch : Chain P T ops ops.toList s s' fs)
    (hnc : noClash (befs [] ops.toList) fs 0 = true) (h : Q .normal s' ds) : SWp P N (.region id ops true) s ds Q := by
  intro C I G a w hN R D
  subst hN
  refine draw_ok hT hm hd he hch hnc R ?_
  rintro a' w' ⟨s1, J, G', rfl, h2, h3, h4⟩
  exact ⟨s1, ds, J, G', h, h2, h3, by rw [h4]; exact D.keep h3.imm h3.keep⟩

/-! ### Functions -/

theorem Rel.extend {B : Nat} {w0 : World} {prot : Nat → Option Obj} {args : List AV} {imps : List ObjD} {vals : Array Value} {N : Nat} (hN : args.length ≤ N) (h4 : N ≤ 4096) (R : Rel ⟨B, w0, prot, args.length⟩ I G (initSt args imps) vals w) :
    Rel ⟨B, w0, prot, N⟩ I G (initSt args imps) (vals ++ Array.replicate (N - vals.size) undef) w := by
  have hsz : vals.size = args.length := R.size
  refine ⟨R.below, R.laid, R.base, R.prot, R.imm, by simp [hsz]; omega, h4, ?_, ?_, R.notHdr, R.hdrs, R.objs, R.owns, R.inj, R.mine, R.immH⟩
  · intro t ht
    have ht' : t < N := ht
    by_cases hl : t < args.length
    · have := R.tmps t hl
      have h2 : (vals ++ Array.replicate (N - vals.size) undef).getD t undef = vals.getD t undef := by
        simp [Array.getD_eq_getD_getElem?, Array.getElem?_append, hsz, hl]
      rw [h2]; exact this
    · have : (initSt args imps).val t = .junk := R.high t (by simpa using hl) (by omega)
      rw [this]; simp [CellRel, AVRel]
  · intro t h1 h2
    have h1' : N ≤ t := h1
    exact R.high t (by show args.length ≤ t; omega) h2

/-- What a function's end leaves: its value x; the objects that were handed in are those of the first names, the new ones are NL. -/
structure Leaving (imps : List ObjD) (s : St) (x : AV) (r : CRes) (NL : List Nat) (objs : List ObjD) : Prop where
  nodup : (List.range imps.length ++ NL).Nodup
  hobjs : impsOf s (List.range imps.length ++ NL) (List.range imps.length ++ NL) = some objs
  ret : x.isOwn = true ∧ r.ret = x ∨ x.isOwn = false ∧ renA (List.range imps.length ++ NL) s.ver x = some r.ret
  news : r.news = objs.drop imps.length
  heads : ∀ (i : Nat) (o : ObjD), imps[i]? = some o → s.ver (khdr i) = 0 ∧ ∃ o' : ObjD, objs[i]? = some o' ∧ o'.e = o.e ∧ o'.cells.length = o.cells.length
  wrote : ∀ (i j : Nat) (v : AV), outAt r i j = some v → i < imps.length ∧ ∃ o' : ObjD, objs[i]? = some o' ∧ o'.cells[j]? = some v
  kept : ∀ (i j : Nat) (o : ObjD), imps[i]? = some o → j < o.cells.length → outAt r i j = none → s.ver (kcell i j) = 0 ∧ ∃ o' : ObjD, objs[i]? = some o' ∧ o'.cells[j]? = o.cells[j]?

theorem Rel.reprot {B N : Nat} {w0 : World} {p p' : Nat → Option Obj} (R : Rel ⟨B, w0, p, N⟩ I G s ts w) (h1 : ∀ b o, p' b = some o → w.heap[b]? = some o) (h2 : ∀ b, p b = none → p' b = none) : Rel ⟨B, w0, p', N⟩ I G s ts w :=
  ⟨R.below, R.laid, R.base, h1, R.imm, R.size, R.small, R.tmps, R.high, R.notHdr, R.hdrs, R.objs, R.owns, R.inj, fun k hk => let ⟨a, b, c⟩ := R.mine k hk; ⟨a, b, h2 _ c⟩, R.immH⟩

/-- Versions go up; what is owned lies where it did. -/
theorem Rel.retag (R : Rel C I G s ts w) (hv : ∀ k, s'.val k = s.val k) (hu : ∀ k, s.ver k ≤ s'.ver k) (hG : ∀ k, (s.val k).isOwn = true ∨ (s.val k).isHdr = true → G'.blk k = G.blk k ∧ G'.cap k = G.cap k ∧ G'.nil k = G.nil k) : Rel C I G' s' ts w := by
  have hk : Keeps s s' G G' := by
    refine ⟨hu, fun k _ ho => ?_, fun k _ ho => ?_⟩
    · rw [hv] at ho ⊢; obtain ⟨a, b, c⟩ := hG k (.inl ho); exact ⟨ho, rfl, a, b, c⟩
    · rw [hv] at ho; exact ⟨ho, (hG k (.inr ho)).1⟩
  have hl : ∀ k, Live s' G' k → Live s G k := by
    intro k h
    unfold Live at h ⊢
    rw [hv] at h
    rcases h with h | ⟨h, hn⟩
    · exact .inl h
    · exact .inr ⟨h, by rw [← (hG k (.inl h)).2.2]; exact hn⟩
  have hbl : ∀ k, Live s' G' k → G'.blk k = G.blk k := fun k h => (hG k ((live_val (hl k h)).symm)).1
  refine ⟨R.below, R.laid, R.base, R.prot, R.imm, R.size, R.small, ?_, fun t h1 h2 => by rw [hv]; exact R.high t h1 h2, fun t h => by rw [hv]; exact R.notHdr t h, fun n => by rw [hv]; exact R.hdrs n, ?_, ?_, ?_, ?_, ?_⟩
  · intro t ht
    rw [hv]
    exact (R.tmps t ht).keep (Imm.le_refl I) hk fun h => hG t (.inl h)
  · intro n e z hz
    rw [hv] at hz
    obtain ⟨h1, cs, h2, h3, h4⟩ := R.objs n e z hz
    refine ⟨h1, cs, by rw [(hG (khdr n) (.inr (by rw [hz]; rfl))).1]; exact h2, h3, fun j hj => ?_⟩
    rw [hv]
    exact (h4 j hj).keep (Imm.le_refl I) hk fun h => hG _ (.inl h)
  · intro k e z xs fz hk'
    rw [hv] at hk'
    obtain ⟨a, b, c⟩ := hG k (.inl (by rw [hk']; rfl))
    obtain ⟨o1, o2, o3, o4⟩ := R.owns k e z xs fz hk'
    exact ⟨o1, by rw [c]; exact o2, by rw [a, b, c]; exact o3, by rw [a, c]; exact o4⟩
  · intro k k' h h' he
    rw [hbl k h, hbl k' h'] at he
    exact R.inj k k' (hl k h) (hl k' h') he
  · intro k h
    rw [hbl k h]; exact R.mine k (hl k h)
  · intro k h o
    rw [hv] at h
    rw [(hG k (.inr h)).1]; exact R.immH k h o

theorem range_get {n i : Nat} (h : i < n) (NL : List Nat) : (List.range n ++ NL)[i]? = some i := by
  rw [List.getElem?_append_left (by simpa using h)]; simp [h]

open Classical in
theorem Rel.leave {N : Nat} {prot : Nat → Option Obj} {B : Nat} {w0 : World} {args : List AV} {imps : List ObjD} {x : AV} {y : Value} {r : CRes} {NL : List Nat} {objs : List ObjD} (R : Rel ⟨B, w0, prot, N⟩ J G' s ts w) (hx : (∃ t0, t0 < N ∧ x = s.val t0 ∧ y = ts.getD t0 undef) ∨ AVRel J G' s x y) (L : Leaving imps s x r NL objs)
    (E : Keeps (initSt args imps) s G G') : ∃ G2, Rel ⟨B, w0, prot, 1⟩ J G2 (retSt imps r) #[y] w ∧ (∀ n, n < imps.length → G2.blk (khdr n) = G.blk (khdr n)) ∧
      (∀ n j, n < imps.length → j ≤ 62 → outAt r n j = none → G2.blk (kcell n j) = G.blk (kcell n j) ∧ G2.cap (kcell n j) = G.cap (kcell n j) ∧ G2.nil (kcell n j) = G.nil (kcell n j)) := by
  obtain ⟨hol, hog⟩ := impsOf_get L.hobjs
  have hil : imps.length ≤ objs.length := by rw [hol]; simp
  -- the state told as one in which a call begins
  have base : ∃ Gp sv, Rel ⟨B, w0, prot, 1⟩ J Gp sv #[y] w ∧ (∀ k, sv.val k = (initSt [r.ret] objs).val k) ∧ (∀ k, sv.ver k ≤ if k < 4096 then 1 else 0) ∧ (∀ k, 4096 ≤ k → Gp.blk k = G'.blk (kmap (List.range imps.length ++ NL) k) ∧ Gp.cap k = G'.cap (kmap (List.range imps.length ++ NL) k) ∧ Gp.nil k = G'.nil (kmap (List.range imps.length ++ NL) k)) := by
    rcases L.ret with ⟨hown, hret⟩ | ⟨hno, hret⟩
    · -- a row of its own
      obtain ⟨t0, ht0, rfl, rfl⟩ : ∃ t0, t0 < N ∧ x = s.val t0 ∧ y = ts.getD t0 undef := by
        rcases hx with hx | hx
        · exact hx
        · cases x <;> simp [AV.isOwn] at hown
          simp [AVRel] at hx
      have R1 : Rel ⟨B, w0, prot, N⟩ J G' (s.mod t0 .junk) ts w := R.mod_plain rfl rfl (fun _ => by simp [AVRel]) (fun _ => rfl)
      have h4 : t0 < 4096 := Nat.lt_of_lt_of_le ht0 R.small
      have himps : impsOf (s.mod t0 .junk) (List.range imps.length ++ NL) (List.range imps.length ++ NL) = some objs := by
        have key : ∀ (ns : List Nat), impsOf (s.mod t0 .junk) (List.range imps.length ++ NL) ns = impsOf s (List.range imps.length ++ NL) ns := by
          intro ns
          induction ns with
          | nil => rfl
          | cons n ns ih =>
            have h1 : impOf (s.mod t0 .junk) (List.range imps.length ++ NL) n = impOf s (List.range imps.length ++ NL) n := by
              have a1 : (s.mod t0 .junk).val (khdr n) = s.val (khdr n) := by have := khdr_ge n; simp [show khdr n ≠ t0 by omega]
              have a2 : ∀ z, cellsOf (s.mod t0 .junk) n z = cellsOf s n z := by
                intro z; unfold cellsOf; apply List.map_congr_left; intro j _; have := kcell_ge n j; simp [show kcell n j ≠ t0 by omega]
              have a3 : (s.mod t0 .junk).ver = s.ver := rfl
              unfold impOf
              rw [a1]
              cases s.val (khdr n) <;> simp only [a2, a3]
            simp only [impsOf, h1, ih]
        rw [key]; exact L.hobjs
      have R2 := R1.callIn L.nodup himps (args := [.junk]) (args' := [.junk]) (vals := #[ts.getD t0 undef]) (by simp [renAs, renA]) (by simp [AVRels, AVRel]) (by simp)
      have R3 : Rel ⟨B, w0, prot, 1⟩ J (G'.pull (kmap (List.range imps.length ++ NL))) (initSt [.junk] objs) #[ts.getD t0 undef] w := R2.reprot R.prot (fun b hb => (protIn_none R1 _ hb).1)
      cases hv : s.val t0 with
      | own e z xs fz =>
        have O := R.owns t0 e z xs fz hv
        have hy := R.tmps t0 ht0
        rw [hv] at hy
        simp only [CellRel] at hy
        let Gp : Ghost := (G'.pull (kmap (List.range imps.length ++ NL))).upd 0 (G'.blk t0) (G'.cap t0) (G'.nil t0)
        have hne : ∀ x, Live (initSt [.junk] objs) (G'.pull (kmap (List.range imps.length ++ NL))) x → G'.nil t0 = false → G'.blk (kmap (List.range imps.length ++ NL) x) ≠ G'.blk t0 := by
          intro x hx hn he
          -- its block is a place's of the frame behind, which is not t0
          have h1 := (R2.mine x hx).2.2
          have h2 : Live s G' t0 := .inr ⟨by rw [hv]; rfl, hn⟩
          have h3 := R1.free_old (l := t0)
          -- the block of t0 is free in s.mod t0 junk
          have F := R.free_old h2
          -- but x's image is live there
          have h4' : ∃ y, Live (s.mod t0 .junk) G' y ∧ G'.blk y = G'.blk (kmap (List.range imps.length ++ NL) x) := by
            have hlv := live_val hx
            rcases Nat.lt_or_ge x 4096 with hlt | hge
            · rw [initSt_tmp _ _ hlt] at hlv
              cases x with
              | zero => simp [AV.isHdr, AV.isOwn] at hlv
              | succ x => simp [AV.isHdr, AV.isOwn] at hlv
            · obtain ⟨_, himp⟩ := impsOf_get himps
              rcases key_cases hge with ⟨n, rfl⟩ | ⟨n, j, hj, rfl⟩
              · rw [initSt_hdr] at hlv
                cases ho : objs[n]? with
                | none => simp [ho, AV.isHdr, AV.isOwn] at hlv
                | some o =>
                  have hn' : n < (List.range imps.length ++ NL).length := by rw [← hol]; exact (List.getElem?_eq_some_iff.1 ho).1
                  have hLn : (List.range imps.length ++ NL)[n]? = some (List.range imps.length ++ NL)[n] := List.getElem?_eq_getElem hn'
                  obtain ⟨o', q1, q2⟩ := himp n _ hLn
                  have := (impOf_spec q2).1
                  exact ⟨_, .inl (by rw [this]; rfl), by rw [kmap_hdr _ hLn]⟩
              · rw [initSt_cell _ _ _ (by omega)] at hlv
                cases ho : objs[n]? with
                | none => simp [ho, AV.isHdr, AV.isOwn] at hlv
                | some o =>
                  have hn' : n < (List.range imps.length ++ NL).length := by rw [← hol]; exact (List.getElem?_eq_some_iff.1 ho).1
                  have hLn : (List.range imps.length ++ NL)[n]? = some (List.range imps.length ++ NL)[n] := List.getElem?_eq_getElem hn'
                  obtain ⟨o', q1, q2⟩ := himp n _ hLn
                  rw [ho] at q1
                  injection q1 with q1
                  subst q1
                  obtain ⟨p1, p2⟩ := impOf_spec q2
                  by_cases hjl : j < o.cells.length
                  · obtain ⟨c, c1, c2⟩ := p2 j hjl
                    simp only [ho, List.getD_eq_getElem?_getD, c1, Option.getD_some] at hlv
                    obtain ⟨a1, a2, a3, a4⟩ := renA_own c2
                    have hco : c.isOwn = true := by simpa [a2] using hlv
                    have hnil : G'.nil (kcell (List.range imps.length ++ NL)[n] j) = false := by
                      rcases hx with hx | hx
                      · rw [initSt_cell _ _ _ (by omega), ho] at hx
                        simp only [List.getD_eq_getElem?_getD, c1, Option.getD_some, a2] at hx; cases hx
                      · have := hx.2; simp only [Ghost.pull, kmap_cell _ hLn (show j < 64 by omega)] at this; exact this
                    exact ⟨_, .inr ⟨by rw [← a1]; exact hco, hnil⟩, by rw [kmap_cell _ hLn (by omega)]⟩
                  · simp [ho, List.getD_eq_getElem?_getD, List.getElem?_eq_none (by omega : o.cells.length ≤ j), AV.isHdr, AV.isOwn] at hlv
          obtain ⟨y, y1, y2⟩ := h4'
          exact F.live y y1 (by rw [y2, he])
        have R4 := R3.put (G' := Gp) (k := 0) (v := .own e z xs fz) (y := ts.getD t0 undef) (.tmp (show 0 < 1 by omega)) (fun x hx => by simp [Gp, Ghost.upd, hx]) rfl (by simp only [CellRel, addrOf, Gp, Ghost.upd, if_true]; exact hy) (by
          intro e' z' xs' fz' hq
          injection hq with q1 q2 q3 q4
          subst q1 q2 q3 q4
          refine ⟨⟨O.pos, by simpa [Gp, Ghost.upd] using O.nil, by simpa [Gp, Ghost.upd] using O.row, by simpa [Gp, Ghost.upd] using O.imm⟩, fun hn => ?_⟩
          have hn' : G'.nil t0 = false := by simpa [Gp, Ghost.upd] using hn
          refine ⟨fun x _ hx => ?_, by simpa [Gp, Ghost.upd] using R.mine t0 (.inr ⟨by rw [hv]; rfl, hn'⟩)⟩
          have := hne x hx hn'
          simpa [Gp, Ghost.upd, Ghost.pull] using this)
        have hr : r.ret = .own e z xs fz := by rw [hret, hv]
        have hts : (#[ts.getD t0 undef] : Array Value).setIfInBounds 0 (ts.getD t0 undef) = #[ts.getD t0 undef] := by rfl
        rw [hts] at R4
        refine ⟨Gp, _, R4, fun k => ?_, fun k => ?_, fun k hk => by simp [Gp, Ghost.upd, Ghost.pull, show k ≠ 0 by omega]⟩
        · simp only [St.set_val, hr]
          by_cases h0 : k = 0
          · subst h0; simp [initSt]
          · simp only [h0, if_false]
            rcases Nat.lt_or_ge k 4096 with hlt | hge
            · rw [initSt_tmp _ _ hlt, initSt_tmp _ _ hlt]
              obtain ⟨q, rfl⟩ : ∃ q, k = q + 1 := ⟨k - 1, by omega⟩
              simp
            · rw [initSt_key _ _ hge, initSt_key _ _ hge]
        · simp only [St.set_ver]
          show (if k = 0 then 0 + 1 else 0) ≤ _
          split
          · rename_i h; subst h; simp
          · exact Nat.zero_le _
      | _ => rw [hv] at hown; simp [AV.isOwn] at hown
    · have hy : AVRel J G' s x y := by
        rcases hx with ⟨t0, ht0, rfl, rfl⟩ | hx
        · exact (R.tmps t0 ht0).to hno
        · exact hx
      have R2 := R.callIn L.nodup L.hobjs (args := [x]) (args' := [r.ret]) (vals := #[y]) (by simp [renAs, hret]) (by simp only [AVRels]; exact ⟨_, [], rfl, hy, rfl⟩) (by simp)
      exact ⟨_, _, R2.reprot R.prot (fun b hb => (protIn_none R _ hb).1), fun _ => rfl, fun k => Nat.zero_le _, fun k hk => ⟨rfl, rfl, rfl⟩⟩
  obtain ⟨Gp, sv, RB, hval, hver, hGp⟩ := base
  -- the ghost: what was not written lies where it did
  let G2 : Ghost := ⟨fun k => if (∃ n j, k = kcell n j ∧ n < imps.length ∧ j ≤ 62 ∧ outAt r n j = none) then G.blk k else Gp.blk k, fun k => if (∃ n j, k = kcell n j ∧ n < imps.length ∧ j ≤ 62 ∧ outAt r n j = none) then G.cap k else Gp.cap k, fun k => if (∃ n j, k = kcell n j ∧ n < imps.length ∧ j ≤ 62 ∧ outAt r n j = none) then G.nil k else Gp.nil k⟩
  have hobjcell : ∀ n j, j ≤ 62 → (initSt [r.ret] objs).val (kcell n j) = match objs[n]? with | some o => o.cells.getD j .junk | none => .junk := fun n j hj => initSt_cell _ _ _ (by omega)
  have hagree : ∀ k, (sv.val k).isOwn = true ∨ (sv.val k).isHdr = true → G2.blk k = Gp.blk k ∧ G2.cap k = Gp.cap k ∧ G2.nil k = Gp.nil k := by
    intro k hk
    by_cases hex : ∃ n j, k = kcell n j ∧ n < imps.length ∧ j ≤ 62 ∧ outAt r n j = none
    · obtain ⟨n, j, rfl, hn, hj, ho⟩ := hex
      have hcond : ∃ n' j', kcell n j = kcell n' j' ∧ n' < imps.length ∧ j' ≤ 62 ∧ outAt r n' j' = none := ⟨n, j, rfl, hn, hj, ho⟩
      have hno : n < objs.length := by omega
      have hon : objs[n]? = some objs[n] := List.getElem?_eq_getElem hno
      obtain ⟨o', q1, q2⟩ := hog n n (range_get hn NL)
      rw [hon] at q1
      injection q1 with q1
      subst q1
      obtain ⟨p1, p2⟩ := impOf_spec q2
      rw [hval, hobjcell n j hj, hon] at hk
      by_cases hjl : j < objs[n].cells.length
      · obtain ⟨c, c1, c2⟩ := p2 j hjl
        simp only [List.getD_eq_getElem?_getD, c1, Option.getD_some] at hk
        obtain ⟨a1, a2, a3, a4⟩ := renA_own c2
        have hco : (s.val (kcell n j)).isOwn = true := by rw [← a1]; simpa [a2] using hk
        have him : imps[n]? = some imps[n] := List.getElem?_eq_getElem hn
        obtain ⟨_, o'', r1, _, r3⟩ := L.heads n _ him
        rw [hon] at r1
        injection r1 with r1
        subst r1
        have hv0 := (L.kept n j _ him (by omega) ho).1
        obtain ⟨_, _, e3, e4, e5⟩ := E.own (kcell n j) (by rw [hv0]; rfl) hco
        obtain ⟨g1, g2, g3⟩ := hGp (kcell n j) (kcell_ge n j)
        rw [kmap_cell _ (range_get hn NL) (by omega)] at g1 g2 g3
        simp only [G2, if_pos hcond, g1, g2, g3, e3, e4, e5, and_self]
      · simp [List.getD_eq_getElem?_getD, List.getElem?_eq_none (by omega : objs[n].cells.length ≤ j), AV.isOwn, AV.isHdr] at hk
    · simp only [G2, if_neg hex, and_self]
  refine ⟨G2, RB.retag (fun k => ?_) (fun k => ?_) hagree, fun n hn => ?_, fun n j hn hj ho => ?_⟩
  · -- the callee's end is what is handed back
    rw [hval]
    rcases Nat.lt_or_ge k 4096 with hlt | hge
    · rw [initSt_tmp _ _ hlt]
      cases k with
      | zero => simp [retSt]
      | succ k => simp [retSt, hlt]
    · rcases key_cases hge with ⟨n, rfl⟩ | ⟨n, j, hj, rfl⟩
      · rw [initSt_hdr, show khdr n = 4096 + n * 64 + 63 by unfold khdr; rfl, retSt_key imps r (by omega)]
        simp only [if_true]
        by_cases hn : n < imps.length
        · have him : imps[n]? = some imps[n] := List.getElem?_eq_getElem hn
          obtain ⟨_, o', r1, r2, r3⟩ := L.heads n _ him
          rw [List.getElem?_append_left hn, him, r1]
          simp only [r2, r3]
        · rw [List.getElem?_append_right (by omega), L.news, List.getElem?_drop, show imps.length + (n - imps.length) = n by omega]
      · rw [hobjcell n j hj, show kcell n j = 4096 + n * 64 + j by unfold kcell; rfl, retSt_key imps r (by omega)]
        simp only [show ¬ j = 63 by omega, if_false]
        by_cases hn : n < imps.length
        · have him : imps[n]? = some imps[n] := List.getElem?_eq_getElem hn
          obtain ⟨_, o', r1, r2, r3⟩ := L.heads n _ him
          rw [List.getElem?_append_left hn, him, r1]
          simp only
          cases ho : outAt r n j with
          | some v =>
            obtain ⟨_, o'', q1, q2⟩ := L.wrote n j v ho
            rw [r1] at q1
            injection q1 with q1
            subst q1
            simp [List.getD_eq_getElem?_getD, q2]
          | none =>
            by_cases hjl : j < imps[n].cells.length
            · obtain ⟨_, o'', q1, q2⟩ := L.kept n j _ him hjl ho
              rw [r1] at q1
              injection q1 with q1
              subst q1
              simp [List.getD_eq_getElem?_getD, q2]
            · simp [List.getD_eq_getElem?_getD, List.getElem?_eq_none (by omega : imps[n].cells.length ≤ j), List.getElem?_eq_none (by omega : o'.cells.length ≤ j)]
        · rw [List.getElem?_append_right (by omega), L.news, List.getElem?_drop, show imps.length + (n - imps.length) = n by omega]
          have ho : outAt r n j = none := by
            cases ho : outAt r n j with
            | none => rfl
            | some v => exact absurd (L.wrote n j v ho).1 hn
          rw [ho]
          cases objs[n]? <;> rfl
  · have := hver k
    simp only [retSt]
    split
    · rename_i h; rw [if_pos h] at this; exact this
    · rename_i h; rw [if_neg h] at this; omega
  · have hcond : ¬ ∃ n' j', khdr n = kcell n' j' ∧ n' < imps.length ∧ j' ≤ 62 ∧ outAt r n' j' = none := by
      rintro ⟨n', j', h, _, hj', _⟩; exact kcell_ne_hdr hj' h.symm
    have him : imps[n]? = some imps[n] := List.getElem?_eq_getElem hn
    obtain ⟨hv0, o', r1, r2, r3⟩ := L.heads n _ him
    obtain ⟨o'', q1, q2⟩ := hog n n (range_get hn NL)
    have hh := (impOf_spec q2).1
    obtain ⟨g1, _⟩ := hGp (khdr n) (khdr_ge n)
    rw [kmap_hdr _ (range_get hn NL)] at g1
    have := (E.hdr (khdr n) (by rw [hv0]; rfl) (by rw [hh]; rfl)).2
    simp only [G2, if_neg hcond, g1, this]
  · have hcond : ∃ n' j', kcell n j = kcell n' j' ∧ n' < imps.length ∧ j' ≤ 62 ∧ outAt r n' j' = none := ⟨n, j, rfl, hn, hj, ho⟩
    simp only [G2, if_pos hcond, and_self]

/-! ### Results -/

def resA1 (T : Tab) (v : ResultVar × List Nat) : AM AV := match v.1 with
  | .tmp t => (evalO (.tmp t)).bind (argOf v.2)
  | .cell a t => withT T t fun ti => (evalO (.tmp a)).bind fun p => (loadA ti p).bind (argOf ti.zs)

def tupA : List AV → AV
  | [x] => x
  | xs => .tup xs

def resV (a : Act) : ResultVar → Sem Value
  | .tmp t => pure (a.tmps.getD t undef)
  | .cell c t => do loadVar t (← asAddr (a.tmps.getD c undef))

theorem resA1_ok (hT : TabOk P T) {v : ResultVar × List Nat} {Q : AV → St → Prop} (h : awp P (resA1 T v) s Q) (R : Rel C I G s a.tmps w) :
    ∃ x y s' J, (resV a v.1).run P w = .ok y w ∧ Q x s' ∧ Rel C J G s' a.tmps w ∧ Ext C I J s s' G G ∧ AVRel J G s' x y := by
  obtain ⟨v, zs⟩ := v
  cases v with
  | tmp t =>
    simp only [resA1, awp_bind] at h
    obtain ⟨v, hv, h⟩ := evalO_ok h R
    obtain ⟨v', s', J, h1, h2, h3, h4⟩ := argOf_ok h R hv
    exact ⟨v', _, s', J, rfl, h1, h2, h3, h4⟩
  | cell c t =>
    simp only [resA1] at h
    obtain ⟨ti, hti, h⟩ := withT_ok h
    simp only [awp_bind] at h
    obtain ⟨p, hp, h⟩ := evalO_ok h R
    obtain ⟨u, x, h1, h2, h3⟩ := load_ok (hT t ti hti) h R hp
    obtain ⟨v', s', J, k1, k2, k3, k4⟩ := argOf_ok h2 R h3
    refine ⟨v', x, s', J, ?_, k1, k2, k3, k4⟩
    have hq : a.eval (.tmp c) = a.tmps.getD c undef := rfl
    rw [hq] at h1
    simp only [resV, Sem.run_bind, Instr.loadAt] at h1 ⊢
    generalize a.tmps.getD c undef = q at h1 ⊢
    unfold Instr.sureAddr at h1
    split at h1
    · simpa [asAddr] using h1
    · simp [stuck] at h1

theorem resA_ok (hT : TabOk P T) : ∀ {vs : List (ResultVar × List Nat)} {I : Imm} {s : St} {Q : List AV → St → Prop}, awp P (mapA (resA1 T) vs) s Q → Rel C I G s a.tmps w →
    ∃ xs ys s' J, ((vs.map (·.1)).mapM (resV a)).run P w = .ok ys w ∧ Q xs s' ∧ Rel C J G s' a.tmps w ∧ Ext C I J s s' G G ∧ AVRels J G s' xs ys
  | [], I, s, Q, h, R => ⟨[], [], s, I, rfl, by simpa only [mapA, awp] using h, R, Ext.refl _ _ _ _, by simp only [AVRels]⟩
  | v :: vs, I, s, Q, h, R => by
    simp only [mapA, awp_bind] at h
    obtain ⟨x, y, s1, J1, h1, h2, h3, h4, h5⟩ := resA1_ok hT h R
    obtain ⟨xs, ys, s2, J2, k1, k2, k3, k4, k5⟩ := resA_ok hT h2 h3
    simp only [awp] at k2
    refine ⟨x :: xs, y :: ys, s2, J2, ?_, k2, k3, h4.trans k4, by simp only [AVRels]; exact ⟨y, ys, rfl, h5.keep k4.imm k4.keep, k5⟩⟩
    simp only [List.map_cons, List.mapM_cons, Sem.run_bind, h1, k1, Result.andThen_ok, Sem.run_pure]

theorem tagT_fst {β : Type} (T : Tab) (xs : List β) (ts : List Nat) : (tagT T xs ts).map (·.1) = xs := by
  have := tagT_map T (fun x => x) xs ts
  simpa only [List.map_id'] using this

/-- What a function's results come to at its end. -/
def resWp (P : Program) (T : Tab) (N : Nat) (rs : List (ResultVar × List Nat)) (s : St) (Q : AV → St → Prop) : Prop :=
  (∃ t, rs.map (·.1) = [.tmp t] ∧ t < N ∧ (s.val t).isOwn = true ∧ Q (s.val t) s) ∨ awp P (mapA (resA1 T) rs) s fun xs s' => Q (tupA xs) s'

theorem resWp_ok (hT : TabOk P T) {fn : Func} {Q : AV → St → Prop} (h : resWp P T C.N (tagT T fn.results.toList fn.resultTypes.toList) s Q) (R : Rel C I G s a.tmps w) :
    ∃ x y s' J, (results fn a.tmps).run P w = .ok y w ∧ Q x s' ∧ Rel C J G s' a.tmps w ∧ Ext C I J s s' G G ∧ ((∃ t0, t0 < C.N ∧ x = s'.val t0 ∧ y = a.tmps.getD t0 undef) ∨ AVRel J G s' x y) := by
  rcases h with ⟨t, hr, ht, ho, hq⟩ | h
  · refine ⟨_, a.tmps.getD t undef, s, I, ?_, hq, R, Ext.refl _ _ _ _, .inl ⟨t, ht, rfl, rfl⟩⟩
    have : fn.results = #[.tmp t] := by
      have hr2 : fn.results.toList = [.tmp t] := by rw [tagT_fst] at hr; exact hr
      rw [← Array.toArray_toList (xs := fn.results), hr2]
    simp [results, this]
  · obtain ⟨xs, ys, s', J, h1, h2, h3, h4, h5⟩ := resA_ok hT h R
    rw [tagT_fst] at h1
    refine ⟨tupA xs, (if h : ys.toArray.size = 1 then ys.toArray[0] else .tuple ys.toArray), s', J, ?_, h2, h3, h4, .inr ?_⟩
    · have hm : (fn.results.mapM (resV a)).run P w = .ok ys.toArray w := by
        rw [← Array.toArray_toList (xs := fn.results), List.mapM_toArray, Sem.run_map, h1]; rfl
      have he : results fn a.tmps = (do let vs ← fn.results.mapM (resV a); pure (if h : vs.size = 1 then vs[0] else .tuple vs)) := by
        unfold results
        congr 1
      rw [he]
      simp only [Sem.run_bind, hm, Result.andThen_ok, Sem.run_pure]
    · cases xs with
      | nil => simp only [AVRels] at h5; subst h5; simp [tupA, AVRel, AVRels]
      | cons x xs =>
        simp only [AVRels] at h5
        obtain ⟨y, ys', rfl, h6, h7⟩ := h5
        cases xs with
        | nil => simp only [AVRels] at h7; subst h7; simpa [tupA] using h6
        | cons x' xs =>
          simp only [AVRels] at h7
          obtain ⟨y', ys'', rfl, h8, h9⟩ := h7
          simp only [tupA, AVRel, AVRels]
          exact ⟨y :: y' :: ys'', by simp, y, _, rfl, h6, y', _, rfl, h8, h9⟩

/-- A function's contract from its body's. -/
theorem semCall_of_swp (hT : TabOk P T) {f : FuncId} {fn : Func} {c : Code} {args : List AV} {imps : List ObjD} {r : CRes} (hf : P.funcs[f]? = some fn) (hb : fn.body = some c) (hn : (fn.name == "runtime.NumGoroutine") = false) (hN : args.length ≤ fn.ntmps) (h4 : fn.ntmps ≤ 4096)
    (h : SWp P fn.ntmps c (initSt args imps) [] fun e s ds => (e = .normal ∨ e = .ret) ∧ ds = [] ∧ resWp P T fn.ntmps (tagT T fn.results.toList fn.resultTypes.toList) s fun x s' => ∃ NL objs, Leaving imps s' x r NL objs) : SemCall P f args imps r := by
  intro B w0 prot I G vals w R
  have R' := R.extend hN h4
  have hcf : (callFunc f vals).run P w = .ok (.enter f vals) w := by
    have hn' : fn.name ≠ "runtime.NumGoroutine" := by simpa using hn
    simp [callFunc, hf, hn', hb]
  unfold Inv
  rw [hcf]
  refine calls_of_wp hf hb (wp_mono (h ⟨B, w0, prot, fn.ntmps⟩ I G _ w rfl R' rfl) ?_)
  rintro e a' w' ⟨s', ds', J, G', ⟨he, rfl, hr⟩, R2, E, hd⟩
  have hd' : a'.defers = [] := hd
  obtain ⟨x, y, s2, J2, k1, ⟨NL, objs, L⟩, R3, E2, hx⟩ := resWp_ok (C := ⟨B, w0, prot, fn.ntmps⟩) hT hr R2
  have E3 := E.trans E2
  obtain ⟨G2, q1, q2, q3⟩ := R3.leave hx L E3.keep
  rcases he with rfl | rfl <;> exact ⟨hd', y, k1, J2, G2, q1, E3.imm, E3.prot, q2, q3⟩
end

end Go.Proofs.YtkjglhamlnnboaaDoor.Am
