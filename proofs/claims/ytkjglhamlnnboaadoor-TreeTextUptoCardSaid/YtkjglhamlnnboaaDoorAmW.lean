/-
  THE ABSTRACT MACHINE, part W: rules for proofs: what is asked, answered.
-/
import Derived.Test.YtkjglhamlnnboaaDoorAmV
set_option linter.unusedVariables false
set_option linter.unusedSimpArgs false
namespace Go.Proofs.YtkjglhamlnnboaaDoor.Am
open Go Go.RowKit

section
variable {P Q : Program} {O : Ora Prop}

theorem wrap_i64 {x : Int} (h1 : -9223372036854775808 ≤ x) (h2 : x ≤ 9223372036854775807) : IntKind.i64.wrap x = x := by
  simp only [IntKind.wrap, IntKind.bits, IntKind.signed, Bool.true_and]
  split
  · rename_i h; have := of_decide_eq_true h; omega
  · rename_i h; have : ¬ (x % 2 ^ 64 ≥ 2 ^ (64 - 1)) := fun h' => h (decide_eq_true h'); omega
theorem wrap_i32 {x : Int} (h1 : -2147483648 ≤ x) (h2 : x ≤ 2147483647) : IntKind.i32.wrap x = x := by
  simp only [IntKind.wrap, IntKind.bits, IntKind.signed, Bool.true_and]
  split
  · rename_i h; have := of_decide_eq_true h; omega
  · rename_i h; have : ¬ (x % 2 ^ 32 ≥ 2 ^ (32 - 1)) := fun h' => h (decide_eq_true h'); omega
theorem wrap_u8 {x : Int} (h1 : 0 ≤ x) (h2 : x ≤ 255) : IntKind.u8.wrap x = x := by
  simp only [IntKind.wrap, IntKind.bits, IntKind.signed, Bool.false_and, Bool.false_eq_true, if_false]
  omega
theorem wrap_u16 {x : Int} (h1 : 0 ≤ x) (h2 : x ≤ 65535) : IntKind.u16.wrap x = x := by
  simp only [IntKind.wrap, IntKind.bits, IntKind.signed, Bool.false_and, Bool.false_eq_true, if_false]
  omega
theorem wrap_u32 {x : Int} (h1 : 0 ≤ x) (h2 : x ≤ 4294967295) : IntKind.u32.wrap x = x := by
  simp only [IntKind.wrap, IntKind.bits, IntKind.signed, Bool.false_and, Bool.false_eq_true, if_false]
  omega
theorem wrap_u64 {x : Int} (h1 : 0 ≤ x) (h2 : x ≤ 18446744073709551615) : IntKind.u64.wrap x = x := by
  simp only [IntKind.wrap, IntKind.bits, IntKind.signed, Bool.false_and, Bool.false_eq_true, if_false]
  omega

def inK (k : IntKind) (x : Int) : Prop := match k with
  | .i8 => -128 ≤ x ∧ x ≤ 127
  | .i16 => -32768 ≤ x ∧ x ≤ 32767
  | .i32 => -2147483648 ≤ x ∧ x ≤ 2147483647
  | .i64 => -9223372036854775808 ≤ x ∧ x ≤ 9223372036854775807
  | .u8 => 0 ≤ x ∧ x ≤ 255
  | .u16 => 0 ≤ x ∧ x ≤ 65535
  | .u32 => 0 ≤ x ∧ x ≤ 4294967295
  | .u64 => 0 ≤ x ∧ x ≤ 18446744073709551615
theorem wrap_in {k : IntKind} {x : Int} (h : inK k x) : k.wrap x = x := by
  cases k
  · simp only [inK, IntKind.wrap, IntKind.bits, IntKind.signed, Bool.true_and] at *
    split
    · rename_i h'; have := of_decide_eq_true h'; omega
    · rename_i h'; have : ¬ (x % 2 ^ 8 ≥ 2 ^ (8 - 1)) := fun h => h' (decide_eq_true h); omega
  · simp only [inK, IntKind.wrap, IntKind.bits, IntKind.signed, Bool.true_and] at *
    split
    · rename_i h'; have := of_decide_eq_true h'; omega
    · rename_i h'; have : ¬ (x % 2 ^ 16 ≥ 2 ^ (16 - 1)) := fun h => h' (decide_eq_true h); omega
  · exact wrap_i32 h.1 h.2
  · exact wrap_i64 h.1 h.2
  · exact wrap_u8 h.1 h.2
  · exact wrap_u16 h.1 h.2
  · exact wrap_u32 h.1 h.2
  · exact wrap_u64 h.1 h.2

/-- A number as an integer, by a name that stays. -/
def zn (n : Nat) : Int := n
theorem zn_eq (n : Nat) : zn n = (n : Int) := rfl

theorem lofLen {F : LO} (h : F = F0) (xs : List (List PV)) : F.len xs = xs.length := by subst h; rfl
theorem lofTake {F : LO} (h : F = F0) (n : Nat) (xs : List (List PV)) : F.take n xs = xs.take n := by subst h; rfl
theorem lofDrop {F : LO} (h : F = F0) (n : Nat) (xs : List (List PV)) : F.drop n xs = xs.drop n := by subst h; rfl
theorem lofApp {F : LO} (h : F = F0) (xs ys : List (List PV)) : F.app xs ys = xs ++ ys := by subst h; rfl
theorem lofSet {F : LO} (h : F = F0) (xs : List (List PV)) (i : Nat) (r : List PV) : F.set xs i r = xs.set i r := by subst h; rfl
theorem lofBytes {F : LO} (h : F = F0) (s : ByteArray) : F.bytes s = byteRows s := by subst h; rfl
theorem lofRep {F : LO} (h : F = F0) (n : Nat) (r : List PV) : F.rep n r = List.replicate n r := by subst h; rfl

theorem o_some (hO : Asks Q O) {β : Type} {m : Unit → Option β} {K : β → Prop} {b : β} (h : m () = some b) (k : K b) : O.opt m K := hO.opt ⟨b, h, k⟩
theorem o_need (hO : Asks Q O) {b : Unit → Bool} {K : Unit → Prop} (h : b () = true) (k : K ()) : O.opt (fun _ => guardO (b ())) K := hO.opt ⟨(), by simp [guardO, h], k⟩
theorem o_ble (hO : Asks Q O) {a b : Nat} {K : Unit → Prop} (h : a ≤ b) (k : K ()) : O.opt (fun _ => guardO (Nat.ble a b)) K := hO.opt ⟨(), by simp [guardO, h], k⟩
theorem o_cut (hO : Asks Q O) {a b len : Nat} {K : Unit → Prop} (h1 : a ≤ b) (h2 : b ≤ len) (k : K ()) : O.opt (fun _ => guardO (cutO a b len)) K := hO.opt ⟨(), by simp [guardO, cutO, h1, h2], k⟩
theorem o_room (hO : Asks Q O) {fz : Bool} {len n more z : Nat} {K : Unit → Prop} (h1 : fz = false ∨ len = n) (h2 : (len + more) * z ≤ 140737488355328) (k : K ()) : O.opt (fun _ => guardO (roomO fz len n more z)) K := hO.opt ⟨(), by unfold guardO roomO roomA; rw [if_pos (decide_eq_true ⟨h1, h2⟩)], k⟩
theorem o_guard (hO : Asks Q O) {b : Bool} {K : Unit → Prop} (h : b = true) (k : K ()) : O.opt (fun _ => guardO b) K := hO.opt ⟨(), by simp [guardO, h], k⟩
theorem o_empty (hO : Asks Q O) {α : Type} {l : List α} {K : Unit → Prop} (h : l = []) (k : K ()) : O.opt (fun _ => guardO l.isEmpty) K := hO.opt ⟨(), by simp [guardO, h], k⟩
/-- A length: from here on a name. -/
theorem o_len (hO : Asks Q O) {n : Nat} {K : Int → Prop} (k : ∀ i : Int, i = zn n → K i) : O.opt (fun _ => lenO n) K := hO.opt ⟨n, rfl, k _ rfl⟩
theorem o_len_l (hO : Asks Q O) {c : Nat} {K : Int → Prop} (h : (c == c) = true) (k : K (OfNat.ofNat c)) : O.opt (fun _ => lenO (OfNat.ofNat c)) K := hO.opt ⟨_, rfl, k⟩
theorem o_nat (hO : Asks Q O) {i : Int} {K : Nat → Prop} (h : 0 ≤ i) (k : ∀ j : Nat, zn j = i → K j) : O.opt (fun _ => natO i) K := hO.opt ⟨i.toNat, by simp [natO, h], k _ (by rw [zn_eq]; omega)⟩
theorem o_nat_l (hO : Asks Q O) {c : Nat} {K : Nat → Prop} (k : K c) : O.opt (fun _ => natO (OfNat.ofNat c)) K := hO.opt ⟨c, by
  have h : (OfNat.ofNat c : Int) = (c : Int) := rfl
  rw [h]; simp [natO], k⟩
theorem o_at (hO : Asks Q O) {i : Int} {len : Nat} {K : Nat → Prop} (h : 0 ≤ i) (h2 : i < len) (k : ∀ j : Nat, zn j = i → K j) : O.opt (fun _ => inO i len) K := hO.opt ⟨i.toNat, by simp [inO, natO, h, h2], k _ (by rw [zn_eq]; omega)⟩
theorem o_at_l (hO : Asks Q O) {c len : Nat} {K : Nat → Prop} (h : c < len) (k : K c) : O.opt (fun _ => inO (OfNat.ofNat c : Int) len) K := hO.opt ⟨c, by
  have h' : (OfNat.ofNat c : Int) = (c : Int) := rfl
  rw [h']; simp [inO, natO, h], k⟩
theorem o_elem (hO : Asks Q O) {i : Int} {xs : List (List PV)} {row : List PV} {K : List PV → Prop} {j : Nat} (hj : zn j = i) (h : xs[j]? = some row) (k : K row) : O.opt (fun _ => atO xs i) K := hO.opt ⟨row, by
  subst hj; simpa [atO, natO, zn] using h, k⟩
theorem o_elem_l (hO : Asks Q O) {c : Nat} {xs : List (List PV)} {row : List PV} {K : List PV → Prop} (h : xs[c]? = some row) (k : K row) : O.opt (fun _ => atO xs (OfNat.ofNat c)) K := hO.opt ⟨row, by
  have h' : (OfNat.ofNat c : Int) = (c : Int) := rfl
  rw [h']; simpa [atO, natO] using h, k⟩
theorem o_get (hO : Asks Q O) {j : Nat} {xs : List (List PV)} {row : List PV} {K : List PV → Prop} (h : xs[j]? = some row) (k : K row) : O.opt (fun _ => getO xs j) K := hO.opt ⟨row, h, k⟩
theorem o_mk (hO : Asks Q O) {n m : Int} {z : Nat} {K : Nat → Prop} (h1 : n = m) (h2 : 0 ≤ n) (h3 : n ≤ 9223372036854775807) (h4 : n.toNat * z ≤ 140737488355328) (k : ∀ j : Nat, zn j = n → K j) : O.opt (fun _ => mkO n m z) K := hO.opt ⟨n.toNat, by simp [mkO, natO, roomA, h1, h2, h3, h4]; subst h1; simp [h2, h3, h4], k _ (by rw [zn_eq]; omega)⟩
theorem o_ite (hO : Asks Q O) {b : Bool} {x y : Unit → Prop} (h1 : b = true → x ()) (h2 : b = false → y ()) : O.ite b x y := hO.ite ⟨h1, h2⟩
theorem o_ite_t (hO : Asks Q O) {x y : Unit → Prop} (h1 : x ()) : O.ite true x y := hO.ite ⟨fun _ => h1, fun h => nomatch h⟩
theorem o_ite_f (hO : Asks Q O) {x y : Unit → Prop} (h1 : y ()) : O.ite false x y := hO.ite ⟨fun h => (nomatch h), fun _ => h1⟩
theorem o_call (hO : Asks Q O) {f : FuncId} {args : List AV} {imps : List ObjD} {K : CRes → Prop} {r : CRes} (hQ : Q = P) (h : SemCall P f args imps r) (k : K r) : O.call f args imps K := hO.call ⟨r, hQ ▸ h, k⟩
theorem o_loop (hO : Asks Q O) {a : Code} {body : CS → Dfs → (Exit → CS → Dfs → Prop) → Prop} {c : CS} {ds : Dfs} {K : Exit → CS → Dfs → Prop} (ks : List Nat) (Inv : Nat → (Nat → Nat) → List AV → Prop)
    (h0 : headP ks Inv c) (h1 : ∀ n bv vs, Inv n bv vs → body ⟨zipE bv ks vs, bv⟩ ds (loopK ks Inv n ds K)) : O.loop a body c ds K := hO.loop ⟨ks, Inv, h0, h1⟩

/-! Comparisons -/
section
variable {t : Nat} {x y : Operand} {k : IntKind} {a b : Int} {K : Value → Prop}
theorem k_eql (hO : Asks Q O) (h1 : a = b → K (.bool true)) (h2 : ¬ a = b → K (.bool false)) : O.opt (fun _ => pureRun Q (do eqGuard .eql t x y (.int k a) (.int k b); binOp .eql t (.int k a) (.int k b))) K := by
  refine hO.opt ⟨_, pr_eql t x y k a b, ?_⟩
  by_cases h : a = b <;> simp [h, h1, h2]
theorem k_eql_t (hO : Asks Q O) (h : a = b) (h1 : K (.bool true)) : O.opt (fun _ => pureRun Q (do eqGuard .eql t x y (.int k a) (.int k b); binOp .eql t (.int k a) (.int k b))) K := k_eql hO (fun _ => h1) (fun h' => absurd h h')
theorem k_eql_f (hO : Asks Q O) (h : ¬ a = b) (h1 : K (.bool false)) : O.opt (fun _ => pureRun Q (do eqGuard .eql t x y (.int k a) (.int k b); binOp .eql t (.int k a) (.int k b))) K := k_eql hO (fun h' => absurd h' h) (fun _ => h1)
theorem k_neq (hO : Asks Q O) (h1 : ¬ a = b → K (.bool true)) (h2 : a = b → K (.bool false)) : O.opt (fun _ => pureRun Q (do eqGuard .neq t x y (.int k a) (.int k b); binOp .neq t (.int k a) (.int k b))) K := by
  refine hO.opt ⟨_, pr_neq t x y k a b, ?_⟩
  by_cases h : a = b <;> simp [h, h1, h2]
theorem k_neq_t (hO : Asks Q O) (h : ¬ a = b) (h1 : K (.bool true)) : O.opt (fun _ => pureRun Q (do eqGuard .neq t x y (.int k a) (.int k b); binOp .neq t (.int k a) (.int k b))) K := k_neq hO (fun _ => h1) (fun h' => absurd h' h)
theorem k_neq_f (hO : Asks Q O) (h : a = b) (h1 : K (.bool false)) : O.opt (fun _ => pureRun Q (do eqGuard .neq t x y (.int k a) (.int k b); binOp .neq t (.int k a) (.int k b))) K := k_neq hO (fun h' => absurd h h') (fun _ => h1)
theorem k_lss (hO : Asks Q O) (h1 : a < b → K (.bool true)) (h2 : ¬ a < b → K (.bool false)) : O.opt (fun _ => pureRun Q (do eqGuard .lss t x y (.int k a) (.int k b); binOp .lss t (.int k a) (.int k b))) K := by
  refine hO.opt ⟨_, pr_lss t x y k a b, ?_⟩
  by_cases h : a < b <;> simp [h, h1, h2]
theorem k_lss_t (hO : Asks Q O) (h : a < b) (h1 : K (.bool true)) : O.opt (fun _ => pureRun Q (do eqGuard .lss t x y (.int k a) (.int k b); binOp .lss t (.int k a) (.int k b))) K := k_lss hO (fun _ => h1) (fun h' => absurd h h')
theorem k_lss_f (hO : Asks Q O) (h : ¬ a < b) (h1 : K (.bool false)) : O.opt (fun _ => pureRun Q (do eqGuard .lss t x y (.int k a) (.int k b); binOp .lss t (.int k a) (.int k b))) K := k_lss hO (fun h' => absurd h' h) (fun _ => h1)
theorem k_leq (hO : Asks Q O) (h1 : a ≤ b → K (.bool true)) (h2 : ¬ a ≤ b → K (.bool false)) : O.opt (fun _ => pureRun Q (do eqGuard .leq t x y (.int k a) (.int k b); binOp .leq t (.int k a) (.int k b))) K := by
  refine hO.opt ⟨_, pr_leq t x y k a b, ?_⟩
  by_cases h : a ≤ b <;> simp [h, h1, h2]
theorem k_leq_t (hO : Asks Q O) (h : a ≤ b) (h1 : K (.bool true)) : O.opt (fun _ => pureRun Q (do eqGuard .leq t x y (.int k a) (.int k b); binOp .leq t (.int k a) (.int k b))) K := k_leq hO (fun _ => h1) (fun h' => absurd h h')
theorem k_leq_f (hO : Asks Q O) (h : ¬ a ≤ b) (h1 : K (.bool false)) : O.opt (fun _ => pureRun Q (do eqGuard .leq t x y (.int k a) (.int k b); binOp .leq t (.int k a) (.int k b))) K := k_leq hO (fun h' => absurd h' h) (fun _ => h1)
theorem k_gtr (hO : Asks Q O) (h1 : b < a → K (.bool true)) (h2 : ¬ b < a → K (.bool false)) : O.opt (fun _ => pureRun Q (do eqGuard .gtr t x y (.int k a) (.int k b); binOp .gtr t (.int k a) (.int k b))) K := by
  refine hO.opt ⟨_, pr_gtr t x y k a b, ?_⟩
  by_cases h : b < a <;> simp [h, h1, h2]
theorem k_gtr_t (hO : Asks Q O) (h : b < a) (h1 : K (.bool true)) : O.opt (fun _ => pureRun Q (do eqGuard .gtr t x y (.int k a) (.int k b); binOp .gtr t (.int k a) (.int k b))) K := k_gtr hO (fun _ => h1) (fun h' => absurd h h')
theorem k_gtr_f (hO : Asks Q O) (h : ¬ b < a) (h1 : K (.bool false)) : O.opt (fun _ => pureRun Q (do eqGuard .gtr t x y (.int k a) (.int k b); binOp .gtr t (.int k a) (.int k b))) K := k_gtr hO (fun h' => absurd h' h) (fun _ => h1)
theorem k_geq (hO : Asks Q O) (h1 : b ≤ a → K (.bool true)) (h2 : ¬ b ≤ a → K (.bool false)) : O.opt (fun _ => pureRun Q (do eqGuard .geq t x y (.int k a) (.int k b); binOp .geq t (.int k a) (.int k b))) K := by
  refine hO.opt ⟨_, pr_geq t x y k a b, ?_⟩
  by_cases h : b ≤ a <;> simp [h, h1, h2]
theorem k_geq_t (hO : Asks Q O) (h : b ≤ a) (h1 : K (.bool true)) : O.opt (fun _ => pureRun Q (do eqGuard .geq t x y (.int k a) (.int k b); binOp .geq t (.int k a) (.int k b))) K := k_geq hO (fun _ => h1) (fun h' => absurd h h')
theorem k_geq_f (hO : Asks Q O) (h : ¬ b ≤ a) (h1 : K (.bool false)) : O.opt (fun _ => pureRun Q (do eqGuard .geq t x y (.int k a) (.int k b); binOp .geq t (.int k a) (.int k b))) K := k_geq hO (fun h' => absurd h' h) (fun _ => h1)
/-! Sums -/
theorem k_add (hO : Asks Q O) (h : ∀ n, n = k.wrap (a + b) → K (.int k n)) : O.opt (fun _ => pureRun Q (do eqGuard .add t x y (.int k a) (.int k b); binOp .add t (.int k a) (.int k b))) K := hO.opt ⟨_, pr_add t x y k a b, h _ rfl⟩
theorem k_add_in (hO : Asks Q O) (hi : inK k (a + b)) (h : ∀ n, n = a + b → K (.int k n)) : O.opt (fun _ => pureRun Q (do eqGuard .add t x y (.int k a) (.int k b); binOp .add t (.int k a) (.int k b))) K := hO.opt ⟨_, pr_add t x y k a b, h _ (wrap_in hi)⟩
theorem k_add_l (hO : Asks Q O) (h : (a == a && b == b) = true) (h1 : K (.int k (k.wrap (a + b)))) : O.opt (fun _ => pureRun Q (do eqGuard .add t x y (.int k a) (.int k b); binOp .add t (.int k a) (.int k b))) K := hO.opt ⟨_, pr_add t x y k a b, h1⟩
theorem k_sub (hO : Asks Q O) (h : ∀ n, n = k.wrap (a - b) → K (.int k n)) : O.opt (fun _ => pureRun Q (do eqGuard .sub t x y (.int k a) (.int k b); binOp .sub t (.int k a) (.int k b))) K := hO.opt ⟨_, pr_sub t x y k a b, h _ rfl⟩
theorem k_sub_in (hO : Asks Q O) (hi : inK k (a - b)) (h : ∀ n, n = a - b → K (.int k n)) : O.opt (fun _ => pureRun Q (do eqGuard .sub t x y (.int k a) (.int k b); binOp .sub t (.int k a) (.int k b))) K := hO.opt ⟨_, pr_sub t x y k a b, h _ (wrap_in hi)⟩
theorem k_sub_l (hO : Asks Q O) (h : (a == a && b == b) = true) (h1 : K (.int k (k.wrap (a - b)))) : O.opt (fun _ => pureRun Q (do eqGuard .sub t x y (.int k a) (.int k b); binOp .sub t (.int k a) (.int k b))) K := hO.opt ⟨_, pr_sub t x y k a b, h1⟩
theorem k_mul (hO : Asks Q O) (h : ∀ n, n = k.wrap (a * b) → K (.int k n)) : O.opt (fun _ => pureRun Q (do eqGuard .mul t x y (.int k a) (.int k b); binOp .mul t (.int k a) (.int k b))) K := hO.opt ⟨_, pr_mul t x y k a b, h _ rfl⟩
theorem k_mul_in (hO : Asks Q O) (hi : inK k (a * b)) (h : ∀ n, n = a * b → K (.int k n)) : O.opt (fun _ => pureRun Q (do eqGuard .mul t x y (.int k a) (.int k b); binOp .mul t (.int k a) (.int k b))) K := hO.opt ⟨_, pr_mul t x y k a b, h _ (wrap_in hi)⟩
theorem k_mul_l (hO : Asks Q O) (h : (a == a && b == b) = true) (h1 : K (.int k (k.wrap (a * b)))) : O.opt (fun _ => pureRun Q (do eqGuard .mul t x y (.int k a) (.int k b); binOp .mul t (.int k a) (.int k b))) K := hO.opt ⟨_, pr_mul t x y k a b, h1⟩
theorem k_quo (hO : Asks Q O) (hb : b ≠ 0) (h : ∀ n, n = k.wrap (a.tdiv b) → K (.int k n)) : O.opt (fun _ => pureRun Q (do eqGuard .quo t x y (.int k a) (.int k b); binOp .quo t (.int k a) (.int k b))) K := hO.opt ⟨_, pr_quo t x y k a b hb, h _ rfl⟩
theorem k_rem (hO : Asks Q O) (hb : b ≠ 0) (h : ∀ n, n = a.tmod b → K (.int k n)) : O.opt (fun _ => pureRun Q (do eqGuard .rem t x y (.int k a) (.int k b); binOp .rem t (.int k a) (.int k b))) K := hO.opt ⟨_, pr_rem t x y k a b hb, h _ rfl⟩
theorem k_rem_pos (hO : Asks Q O) (ha : 0 ≤ a) (hb : 0 < b) (h : ∀ n, n = a % b → K (.int k n)) : O.opt (fun _ => pureRun Q (do eqGuard .rem t x y (.int k a) (.int k b); binOp .rem t (.int k a) (.int k b))) K := k_rem hO (by omega) fun n hn => h n (by rw [hn, Int.tmod_eq_emod_of_nonneg ha])
theorem k_quo_pos (hO : Asks Q O) (ha : 0 ≤ a) (hb : 0 < b) (h : ∀ n, n = k.wrap (a / b) → K (.int k n)) : O.opt (fun _ => pureRun Q (do eqGuard .quo t x y (.int k a) (.int k b); binOp .quo t (.int k a) (.int k b))) K := k_quo hO (by omega) fun n hn => h n (by rw [hn, Int.tdiv_eq_ediv_of_nonneg ha])
theorem k_quo_in (hO : Asks Q O) (ha : 0 ≤ a) (hb : 0 < b) (hi : inK k (a / b)) (h : ∀ n, n = a / b → K (.int k n)) : O.opt (fun _ => pureRun Q (do eqGuard .quo t x y (.int k a) (.int k b); binOp .quo t (.int k a) (.int k b))) K := k_quo_pos hO ha hb fun n hn => h n (by rw [hn, wrap_in hi])
theorem k_not (hO : Asks Q O) {q : Bool} (h : K (.bool (!q))) : O.opt (fun _ => pureRun Q (Op.unary .not (.bool q))) K := hO.opt ⟨_, pr_not q, h⟩
end

/-! Strings, and what else there is -/
section
variable {t d src dst : Nat} {x y : Operand} {a b s : ByteArray} {k k' : IntKind} {i j : Int} {K : Value → Prop}
theorem k_slen (hO : Asks Q O) (ht : Q.underlying t = some .string) (h : ∀ n, n = zn s.size → K (.int .i64 n)) : O.opt (fun _ => pureRun Q (Builtin.len_ ⟨[t]⟩ d ⟨[.string s]⟩)) K := by
  refine hO.opt ⟨.int .i64 (zn s.size), ?_, h _ rfl⟩
  simp [Builtin.len_, pr_bind, pr_und ht, pr_pure, goInt, zn]
theorem k_seql (hO : Asks Q O) (h1 : a = b → K (.bool true)) (h2 : ¬ a = b → K (.bool false)) : O.opt (fun _ => pureRun Q (do eqGuard .eql t x y (.string a) (.string b); binOp .eql t (.string a) (.string b))) K := by
  refine hO.opt ⟨_, pr_seql t x y a b, ?_⟩
  rw [ByteArray.toList_eq, ByteArray.toList_eq]
  by_cases h : a = b
  · subst h; simpa using h1 rfl
  · have : (a.data.toList == b.data.toList) = false := by
      rw [beq_eq_false_iff_ne]
      intro e
      apply h
      obtain ⟨⟨a⟩⟩ := a
      obtain ⟨⟨b⟩⟩ := b
      simp only at e
      rw [e]
    rw [this]; exact h2 h
theorem pr_sneq (t : Nat) (x y : Operand) (a b : ByteArray) : pureRun Q (do eqGuard .neq t x y (.string a) (.string b); binOp .neq t (.string a) (.string b)) = some (.bool !(a.toList == b.toList)) := by
  simp [eqGuard, binOp, Op.stringOp, pr_pure]
theorem k_sneq (hO : Asks Q O) (h1 : ¬ a = b → K (.bool true)) (h2 : a = b → K (.bool false)) : O.opt (fun _ => pureRun Q (do eqGuard .neq t x y (.string a) (.string b); binOp .neq t (.string a) (.string b))) K := by
  refine hO.opt ⟨_, pr_sneq t x y a b, ?_⟩
  rw [ByteArray.toList_eq, ByteArray.toList_eq]
  by_cases h : a = b
  · subst h; simpa using h2 rfl
  · have : (a.data.toList == b.data.toList) = false := by
      rw [beq_eq_false_iff_ne]
      intro e
      apply h
      obtain ⟨⟨a⟩⟩ := a
      obtain ⟨⟨b⟩⟩ := b
      simp only at e
      rw [e]
    rw [this]; exact h1 h
theorem k_seql_t (hO : Asks Q O) (h : a = b) (h1 : K (.bool true)) : O.opt (fun _ => pureRun Q (do eqGuard .eql t x y (.string a) (.string b); binOp .eql t (.string a) (.string b))) K := k_seql hO (fun _ => h1) (fun h' => absurd h h')
theorem k_seql_f (hO : Asks Q O) (h : ¬ a = b) (h1 : K (.bool false)) : O.opt (fun _ => pureRun Q (do eqGuard .eql t x y (.string a) (.string b); binOp .eql t (.string a) (.string b))) K := k_seql hO (fun h' => absurd h' h) (fun _ => h1)
theorem k_sneq_t (hO : Asks Q O) (h : ¬ a = b) (h1 : K (.bool true)) : O.opt (fun _ => pureRun Q (do eqGuard .neq t x y (.string a) (.string b); binOp .neq t (.string a) (.string b))) K := k_sneq hO (fun _ => h1) (fun h' => absurd h' h)
theorem k_sneq_f (hO : Asks Q O) (h : a = b) (h1 : K (.bool false)) : O.opt (fun _ => pureRun Q (do eqGuard .neq t x y (.string a) (.string b); binOp .neq t (.string a) (.string b))) K := k_sneq hO (fun h' => absurd h h') (fun _ => h1)
theorem size_lit (l : List UInt8) : (⟨l.toArray⟩ : ByteArray).size = l.length := rfl
theorem k_sadd (hO : Asks Q O) (hs : a.size + b.size ≤ 9223372036854775807) (h : ∀ s, s = a ++ b → s.size = a.size + b.size → K (.string s)) : O.opt (fun _ => pureRun Q (do eqGuard .add t x y (.string a) (.string b); binOp .add t (.string a) (.string b))) K := by
  refine hO.opt ⟨.string (a ++ b), ?_, h _ rfl (by simp)⟩
  have h63 : IntKind.i64.max = 9223372036854775807 := rfl
  have hn : ¬ (((a.size + b.size : Nat) : Int) > 9223372036854775807) := by omega
  simp only [eqGuard, binOp, Op.stringOp, h63, if_neg hn]
  rfl
theorem k_sidx (hO : Asks Q O) (ht : Q.underlying t = some .string) {c : UInt8} {m : Nat} (hm : zn m = i) (hc : s.data[m]? = some c) (h : ∀ n, n = zn c.toNat → K (.int .u8 n)) : O.opt (fun _ => pureRun Q (Instr.index t (.string s) (.int k i))) K := by
  refine hO.opt ⟨.int .u8 (zn c.toNat), ?_, h _ rfl⟩
  have h0 : 0 ≤ i := by rw [← hm]; exact Int.natCast_nonneg _
  have h1 : s[i.toNat]? = some c := by
    have : i.toNat = m := by rw [← hm]; rfl
    rw [this]
    obtain ⟨hlt, e⟩ := Array.getElem?_eq_some_iff.1 hc
    rw [getElem?_pos s m hlt]
    exact congrArg some e
  simp [Instr.index, asIntOf, pr_bind, pr_und ht, pr_pure, h0, h1, zn]
theorem k_conv (hO : Asks Q O) {ts : TypeDesc} (h1 : Q.underlying src = some ts) (h2 : Q.underlying dst = some (.int k')) (h : ∀ n, n = k'.wrap i → K (.int k' n)) : O.opt (fun _ => pureRun Q (convert src dst (.int k i))) K := hO.opt ⟨_, pr_conv h1 h2, h _ rfl⟩
theorem k_conv_in (hO : Asks Q O) {ts : TypeDesc} (h1 : Q.underlying src = some ts) (h2 : Q.underlying dst = some (.int k')) (hi : inK k' i) (h : K (.int k' i)) : O.opt (fun _ => pureRun Q (convert src dst (.int k i))) K := k_conv hO h1 h2 fun n hn => by rw [hn, wrap_in hi]; exact h
theorem k_rune (hO : Asks Q O) (h1 : Q.underlying src = some (.int k)) (h2 : Q.underlying dst = some .string) (h : ∀ s, s = Utf8.encode i → K (.string s)) : O.opt (fun _ => pureRun Q (convert src dst (.int k i))) K := by
  refine hO.opt ⟨.string (Utf8.encode i), ?_, h _ rfl⟩
  simp only [convert, pr_bind, pr_und h1, pr_und h2, Option.bind_some]
  simp [Conv.intToString, pr_pure]
theorem k_min (hO : Asks Q O) {ta : Array Nat} (h : ∀ n, n ≤ i → n ≤ j → (n = i ∨ n = j) → K (.int k n)) : O.opt (fun _ => pureRun Q (Builtin.min_ ta d ⟨[.int k i, .int k' j]⟩)) K := by
  refine hO.opt ⟨_, pr_min ta d k k' i j, ?_⟩
  split
  · exact h _ (by omega) (by omega) (.inr rfl)
  · exact h _ (by omega) (by omega) (.inl rfl)
theorem k_max (hO : Asks Q O) {ta : Array Nat} (h : ∀ n, i ≤ n → j ≤ n → (n = i ∨ n = j) → K (.int k n)) : O.opt (fun _ => pureRun Q (Builtin.max_ ta d ⟨[.int k i, .int k' j]⟩)) K := by
  refine hO.opt ⟨_, pr_max ta d k k' i j, ?_⟩
  split
  · exact h _ (by omega) (by omega) (.inr rfl)
  · exact h _ (by omega) (by omega) (.inl rfl)
/-- Whatever else: by what it comes to. -/
theorem k_any (hO : Asks Q O) {m : Unit → Option Value} {v : Value} (hv : m () = some v) (h : ∀ u, u = v → K u) : O.opt m K := hO.opt ⟨v, hv, h _ rfl⟩
theorem k_neg (hO : Asks Q O) (h : ∀ n, n = k.wrap (-i) → K (.int k n)) : O.opt (fun _ => pureRun Q (Op.unary .neg (.int k i))) K := hO.opt ⟨.int k (k.wrap (-i)), by simp [Op.unary, Op.intArith, pr_pure], h _ rfl⟩
end

/-- A function that was walked in the model. -/
theorem semCall_raw {f : FuncId} {fn : Func} {c : Code} {args : List AV} {imps : List ObjD} {r : CRes} (hf : P.funcs[f]? = some fn) (hb : fn.body = some c) (hn : (fn.name == "runtime.NumGoroutine") = false)
    (h : ∀ (B : Nat) (w0 : World) (prot : Nat → Option Obj) (I : Imm) (G : Ghost) (vals : Array Value) (w : World), Rel ⟨B, w0, prot, args.length⟩ I G (initSt args imps) vals w →
      Calls P f vals w fun e w' => ∃ v, e = .returned v ∧ ∃ s' J G' x NL objs, Rel ⟨B, w0, prot, args.length⟩ J G' s' vals w' ∧ Ext ⟨B, w0, prot, args.length⟩ I J (initSt args imps) s' G G' ∧ AVRel J G' s' x v ∧ Leaving imps s' x r NL objs) : SemCall P f args imps r := by
  intro B w0 prot I G vals w R
  have hcf : (callFunc f vals).run P w = .ok (.enter f vals) w := by
    have hn' : fn.name ≠ "runtime.NumGoroutine" := by simpa using hn
    simp [callFunc, hf, hn', hb]
  unfold Inv
  rw [hcf]
  refine (h B w0 prot I G vals w R).mono ?_
  rintro e w' ⟨v, rfl, s', J, G', x, NL, objs, R', E, hx, L⟩
  obtain ⟨G2, q1, q2, q3⟩ := R'.leave (.inr hx) L E.keep
  exact ⟨J, G2, q1, E.imm, E.prot, q2, q3⟩

end
end Go.Proofs.YtkjglhamlnnboaaDoor.Am
