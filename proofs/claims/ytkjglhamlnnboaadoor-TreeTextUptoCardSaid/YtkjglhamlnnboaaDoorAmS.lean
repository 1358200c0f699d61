/-
  THE ABSTRACT MACHINE, part S: the operations for evaluation are the operations.
-/
import Derived.Test.YtkjglhamlnnboaaDoorAmR
set_option linter.unusedVariables false
set_option linter.unusedSimpArgs false
namespace Go.Proofs.YtkjglhamlnnboaaDoor.Am
open Go Go.RowKit

instance F0 : LO where
  len := List.length
  take := List.take
  drop := List.drop
  app := List.append
  set := List.set
  bytes := byteRows
  rep := List.replicate

theorem lo_len (xs : List (List PV)) : LO.len xs = xs.length := rfl
theorem lo_take (n : Nat) (xs : List (List PV)) : LO.take n xs = xs.take n := rfl
theorem lo_drop (n : Nat) (xs : List (List PV)) : LO.drop n xs = xs.drop n := rfl
theorem lo_app (xs ys : List (List PV)) : LO.app xs ys = xs ++ ys := rfl
theorem lo_set (xs : List (List PV)) (i : Nat) (r : List PV) : LO.set xs i r = xs.set i r := rfl
theorem lo_bytes (s : ByteArray) : LO.bytes s = byteRows s := rfl
theorem lo_rep (n : Nat) (r : List PV) : LO.rep n r = List.replicate n r := rfl
theorem lo_cut (n : Nat) (xs : List (List PV)) : cutL n xs = xs.take n := by
  unfold cutL
  split
  · rename_i h; rw [h, lo_len, List.take_length]
  · rfl

section
variable {α : Type}

theorem bind_congr {β γ : Type} {m : AM β} {f g : β → AM γ} (h : ∀ a, f a = g a) : m.bind f = m.bind g := by
  rw [show f = g from funext h]

theorem bind_assoc {β γ δ : Type} (m : AM β) (f : β → AM γ) (g : γ → AM δ) : (m.bind f).bind g = m.bind fun a => (f a).bind g := by
  induction m with
  | pure a => rfl
  | fail => rfl
  | get k h ih => simp only [AM.bind, ih]
  | set k v c ih => simp only [AM.bind, ih]
  | mod k v c ih => simp only [AM.bind, ih]
  | call h xs d c ih => simp only [AM.bind, ih]

theorem low_ite {p : Prop} [Decidable p] {x y : AE α} : (if p then x else y).lower = if p then x.lower else y.lower := by split <;> rfl
theorem low_need {p : Bool} {f : Unit → AE α} : (AE.opt (fun _ => guardO p) f).lower = if p then (f ()).lower else .fail := by
  cases p <;> rfl
theorem low_ble {a b : Nat} {f : Unit → AE α} : (AE.opt (fun _ => guardO (Nat.ble a b)) f).lower = if a ≤ b then (f ()).lower else .fail := by
  rw [low_need]; by_cases h : a ≤ b
  · rw [if_pos (Nat.ble_eq_true_of_le h), if_pos h]
  · rw [if_neg (fun h' => h (Nat.le_of_ble_eq_true h')), if_neg h]
theorem low_room {fz : Bool} {len n more z : Nat} {f : Unit → AE α} : (AE.opt (fun _ => guardO (roomO fz len n more z)) f).lower = if (fz = false ∨ len = n) ∧ (len + more) * z ≤ roomA then (f ()).lower else .fail := by
  rw [low_need]; unfold roomO; simp only [decide_eq_true_eq]
theorem low_cut {a b len : Nat} {f : Unit → AE α} : (AE.opt (fun _ => guardO (cutO a b len)) f).lower = if a ≤ b ∧ b ≤ len then (f ()).lower else .fail := by
  rw [low_need]; unfold cutO; simp only [decide_eq_true_eq]
theorem bind_ite {β γ : Type} {p : Prop} [Decidable p] {x y : AM β} {f : β → AM γ} : (if p then x else y).bind f = if p then x.bind f else y.bind f := by split <;> rfl

theorem evalX_low (x : Operand) (K : AV → AE α) : (evalX x K).lower = (evalO x).bind fun v => (K v).lower := by
  cases x with
  | tmp t =>
    simp only [evalX, evalO]
    split
    · simp only [AE.lower, AM.bind]
      congr 1; funext v n
      cases v <;> rfl
    · rfl
  | const v =>
    simp only [evalX, evalO]
    split
    · rfl
    · rename_i h
      split
      · exact absurd rfl h
      · rfl
  | global g => rfl
  | func f => rfl

theorem ownX_low (l n len : Nat) (K : Nat → Nat → List (List PV) → Bool → AE α) : (ownX l n len K).lower = (ownAt l n len).bind fun q => (K q.1 q.2.1 q.2.2.1 q.2.2.2).lower := by
  simp only [ownX, ownAt, AE.lower, AM.bind]
  congr 1; funext v m
  cases v with
  | own e z xs fz =>
    simp only [low_ite, low_ble, lo_len, AE.lower]
    by_cases h1 : m = n
    · by_cases h2 : len ≤ xs.length
      · simp [h1, h2, AM.bind]
      · simp [h1, h2, AM.bind]
    · simp [h1, AM.bind]
  | _ => rfl

mutual
theorem snapX_low (zs : List Nat) (v : AV) (K : PV → AE α) : (snapX zs v K).lower = (snap zs v).bind fun x => (K x).lower := by
  cases v with
  | ref l n len => simp only [snapX, snap, ownX_low, bind_assoc, lo_cut]; exact bind_congr fun q => rfl
  | agg cs => simp only [snapX, snap, bind_assoc]; rw [snapsX_low zs cs]; exact bind_congr fun q => rfl
  | clo f caps => cases caps <;> rfl
  | ifc t x => simp only [snapX, snap, bind_assoc]; rw [snapX_low [] x]; exact bind_congr fun q => rfl
  | _ => rfl
theorem snapsX_low (zs : List Nat) (cs : List AV) (K : List PV → AE α) : (snapsX zs cs K).lower = (snaps zs cs).bind fun x => (K x).lower := by
  cases cs with
  | nil => rfl
  | cons c r =>
    simp only [snapsX, snaps, bind_assoc]
    rw [snapX_low zs c]
    refine bind_congr fun x => ?_
    rw [snapsX_low zs.tail r]
    exact bind_congr fun q => rfl
end

mutual
theorem argX_low (zs : List Nat) (v : AV) (K : AV → AE α) : (argX zs v K).lower = (argOf zs v).bind fun x => (K x).lower := by
  cases v with
  | ref l n len => simp only [argX, argOf, snap, ownX_low, bind_assoc, lo_cut]; exact bind_congr fun q => rfl
  | agg cs => simp only [argX, argOf, bind_assoc]; rw [argsX_low zs cs]; exact bind_congr fun q => rfl
  | ifc t x => simp only [argX, argOf, bind_assoc]; rw [argX_low [] x]; exact bind_congr fun q => rfl
  | _ => rfl
theorem argsX_low (zs : List Nat) (cs : List AV) (K : List AV → AE α) : (argsX zs cs K).lower = (argsOf zs cs).bind fun x => (K x).lower := by
  cases cs with
  | nil => rfl
  | cons c r =>
    simp only [argsX, argsOf, bind_assoc]
    rw [argX_low zs c]
    refine bind_congr fun x => ?_
    rw [argsX_low zs.tail r]
    exact bind_congr fun q => rfl
end

mutual
theorem partX_low (v : AV) (K : AV → AE α) : (partX v K).lower = (partOf v).bind fun x => (K x).lower := by
  cases v with
  | ref l n len => simp only [partX, partOf, snap, ownX_low, bind_assoc, lo_cut]; exact bind_congr fun q => rfl
  | agg cs => simp only [partX, partOf, bind_assoc]; rw [partsX_low cs]; exact bind_congr fun q => rfl
  | ifc t x => simp only [partX, partOf, bind_assoc]; rw [partX_low x]; exact bind_congr fun q => rfl
  | _ => rfl
theorem partsX_low (cs : List AV) (K : List AV → AE α) : (partsX cs K).lower = (partsOf cs).bind fun x => (K x).lower := by
  cases cs with
  | nil => rfl
  | cons c r =>
    simp only [partsX, partsOf, bind_assoc]
    rw [partX_low c]
    refine bind_congr fun x => ?_
    rw [partsX_low r]
    exact bind_congr fun q => rfl
end

theorem putCellX_low (k : Nat) (ty : Option (Nat × Nat)) (v : AV) (K : AE α) : (putCellX k ty v K).lower = (putCell k ty v).bind fun _ => K.lower := by
  cases v with
  | nilS => cases ty <;> rfl
  | ref l n len =>
    simp only [putCellX, putCell, ownX_low, bind_assoc]
    refine bind_congr fun q => ?_
    obtain ⟨e, z, xs, fz⟩ := q
    simp only [low_ite, lo_cut, lo_len]
    by_cases h1 : l = k
    · cases fz <;> simp [h1, AM.bind, AE.lower]
    · by_cases h2 : l < 4096
      · by_cases h3 : len = xs.length
        · simp [h1, h2, h3, AM.bind, AE.lower]
        · simp [h1, h2, h3, AM.bind, AE.lower]
      · simp [h1, h2, AM.bind, AE.lower]
  | p x => simp only [putCellX, putCell]; split <;> rfl
  | ifc t x => simp only [putCellX, putCell]; split <;> rfl
  | _ => rfl

theorem putCellsX_low : ∀ (k : Nat) (ts : List (Option (Nat × Nat))) (cs : List AV) (K : AE α), (putCellsX k ts cs K).lower = (putCells k ts cs).bind fun _ => K.lower
  | k, t :: ts, c :: cs, K => by
    simp only [putCellsX, putCells, putCellX_low, bind_assoc]
    exact bind_congr fun _ => putCellsX_low (k + 1) ts cs K
  | k, [], [], K => rfl
  | k, [], _ :: _, K => rfl
  | k, _ :: _, [], K => rfl

theorem clearX_low : ∀ (k z : Nat) (K : AE α), (clearX k z K).lower = (clearA k z).bind fun _ => K.lower
  | k, 0, K => rfl
  | k, z + 1, K => by simp only [clearX, clearA, AE.lower, AM.bind, clearX_low (k + 1) z K]

theorem newObjX_low (n e : Nat) (ty : List (Option (Nat × Nat))) (cs : List AV) (K : AV → AE α) : (newObjX n e ty cs K).lower = (newObjA n e ty cs).bind fun v => (K v).lower := by
  simp only [newObjX, newObjA, low_ite]
  by_cases h1 : cs.length ≤ 62
  · by_cases h2 : ty.length = cs.length
    · simp only [h1, h2, if_true, and_self, clearX_low, bind_assoc]
      refine bind_congr fun _ => ?_
      simp only [AE.lower, AM.bind, putCellsX_low, bind_assoc]
    · simp [h1, h2, AE.lower, AM.bind]
  · simp [h1, AE.lower, AM.bind]

theorem putX_low (d : Option Nat) (v : AV) (K : AE α) : (putX d v K).lower = (putD d v).bind fun _ => K.lower := by
  cases d <;> rfl

theorem rdCellsX_low : ∀ (k z : Nat) (K : List AV → AE α), (rdCellsX k z K).lower = (rdCells k z).bind fun v => (K v).lower
  | k, 0, K => rfl
  | k, z + 1, K => by
    simp only [rdCellsX, rdCells, AE.lower, AM.bind, bind_assoc]
    congr 1; funext v n
    rw [rdCellsX_low (k + 1) z]
    refine bind_congr fun r => ?_
    cases v <;> rfl

theorem hdrX_low (n ver : Nat) (K : Nat → Nat → AE α) : (hdrX n ver K).lower = (hdrAt n ver).bind fun q => (K q.1 q.2).lower := by
  simp only [hdrX, hdrAt, AE.lower, AM.bind]
  congr 1; funext v m
  cases v with
  | hdr e z => simp only [low_ite]; by_cases h : m = ver <;> simp [h, AM.bind, AE.lower]
  | _ => rfl

theorem packX_low (b : Bool) (cs : List AV) (K : AV → AE α) : (packX b cs K).lower = (packA b cs).bind fun v => (K v).lower := by
  unfold packX packA
  cases b
  · simp only [Bool.false_eq_true, if_false]
    rcases cs with _ | ⟨c, _ | ⟨c', r⟩⟩ <;> rfl
  · rfl

theorem loadX_low (ti : TI) (a : AV) (K : AV → AE α) : (loadX ti a K).lower = (loadA ti a).bind fun v => (K v).lower := by
  cases a with
  | p x =>
    cases x with
    | ptr cs => simp only [loadX, loadA, low_ite, bind_ite, packX_low]; rfl
    | _ => rfl
  | ptr n ver off =>
    simp only [loadX, loadA, hdrX_low, bind_assoc]
    refine bind_congr fun q => ?_
    simp only [low_ite, bind_ite, rdCellsX_low, bind_assoc, packX_low]
    rfl
  | eptr l n i j =>
    simp only [loadX, loadA, AE.lower, AM.bind]
    congr 1; funext v m
    cases v with
    | own e z xs fz =>
      simp only [low_ite, bind_ite, AE.lower, getO]
      split
      · cases xs[i]? with
        | none => rfl
        | some row => simp only [low_ite, bind_ite, packX_low]; rfl
      · rfl
    | _ => rfl
  | _ => rfl

theorem storeX_low (ti : TI) (a v : AV) (K : AE α) : (storeX ti a v K).lower = (storeA ti a v).bind fun _ => K.lower := by
  unfold storeX storeA
  simp only [low_ite, bind_ite]
  split
  · cases a with
    | ptr n ver off =>
      simp only [hdrX_low, bind_assoc]
      refine bind_congr fun q => ?_
      simp only [low_ite, bind_ite, putCellsX_low]
      rfl
    | eptr l n i j =>
      simp only [snapsX_low, bind_assoc]
      refine bind_congr fun xs => ?_
      simp only [AE.lower, AM.bind]
      congr 1; funext v m
      cases v with
      | own e z rows fz =>
        cases fz
        · simp only [low_ite, bind_ite, AE.lower, getO, lo_set]
          split
          · cases rows[i]? with
            | none => rfl
            | some row =>
              simp only [low_ite, bind_ite]
              by_cases h1 : j + xs.length ≤ row.length
              · by_cases h2 : xs.all PV.one = true
                · simp [h1, h2, AE.lower, AM.bind]
                · simp [h1, h2, AE.lower, AM.bind]
              · simp [h1, AE.lower, AM.bind]
          · rfl
        · rfl
      | _ => rfl
    | _ => rfl
  · rfl

theorem low_opt {β : Type} {m : Unit → Option β} {f : β → AE α} : (AE.opt m f).lower = match m () with | some a => (f a).lower | none => .fail := by
  simp only [AE.lower]
  cases m () <;> rfl

theorem indexAddrX_low (z : Nat) (x i : AV) (K : AV → AE α) : (indexAddrX z x i K).lower = (indexAddrA z x i).bind fun v => (K v).lower := by
  unfold indexAddrX indexAddrA
  cases intA i with
  | none => rfl
  | some i =>
    simp only
    cases x with
    | ref l n len =>
      simp only [ownX_low, bind_assoc]
      refine bind_congr fun q => ?_
      obtain ⟨e, z', xs, fz⟩ := q
      simp only [low_ite, bind_ite, low_opt, inO, atO]
      by_cases h1 : z' = z
      · by_cases h2 : i < len
        · by_cases h3 : 0 ≤ i
          · simp [h1, h2, h3, natO, AM.bind]
          · simp [h1, h2, h3, natO, AM.bind]
        · simp [h1, h2, AM.bind]
      · simp [h1, AM.bind, AE.lower]
    | sref n ver len =>
      simp only [low_ite, bind_ite, low_opt, inO, atO]
      by_cases h1 : z = 1
      · by_cases h2 : i < len
        · by_cases h3 : 0 ≤ i
          · simp [h1, h2, h3, natO, AM.bind]
          · simp [h1, h2, h3, natO, AM.bind]
        · simp [h1, h2, AM.bind]
      · simp [h1, AM.bind, AE.lower]
    | p y =>
      cases y with
      | sl z' xs =>
        simp only [low_ite, bind_ite, low_opt, inO, atO]
        by_cases h1 : z' = z
        · by_cases h3 : 0 ≤ i
          · simp only [h1, h3, natO, if_true, and_self, Option.bind_some]
            cases xs[i.toNat]? <;> rfl
          · simp [h1, h3, natO, AM.bind]
        · simp [h1, AM.bind, AE.lower]
      | _ => rfl
    | _ => rfl

theorem fieldAddrX_low (off : Nat) (a : AV) (K : AV → AE α) : (fieldAddrX off a K).lower = (fieldAddrA off a).bind fun v => (K v).lower := by
  cases a with
  | p x => cases x <;> rfl
  | _ => rfl

theorem boundX_low (d : Nat) (o : Option AV) (K : Nat → AE α) : (boundX d o K).lower = match boundA d o with | some n => (K n).lower | none => .fail := by
  cases o with
  | none => rfl
  | some a =>
    simp only [boundX, boundA]
    cases intA a with
    | none => rfl
    | some i =>
      simp only [low_opt, natO]
      by_cases h : 0 ≤ i <;> simp [h]

theorem dropZero (a : Nat) (xs : List (List PV)) : (if a = 0 then xs else xs.drop a) = xs.drop a := by
  split
  · rename_i h; subst h; simp
  · rfl

theorem sliceX_low (z : Nat) (x : AV) (lo hi : Option AV) (K : AV → AE α) : (sliceX z x lo hi K).lower = (sliceA z x lo hi).bind fun v => (K v).lower := by
  cases x with
  | nilS =>
    simp only [sliceX, sliceA, boundX_low]
    cases boundA 0 lo with
    | none => rfl
    | some a =>
      simp only [boundX_low]
      cases boundA 0 hi with
      | none => cases a <;> rfl
      | some b =>
        simp only [low_cut]
        cases a <;> cases b <;> simp [AM.bind]
  | ref l n len =>
    simp only [sliceX, sliceA, boundX_low]
    cases boundA 0 lo with
    | none => rfl
    | some a =>
      simp only [boundX_low]
      cases boundA len hi with
      | none => rfl
      | some b =>
        simp only [low_cut, low_ite, bind_ite, ownX_low, bind_assoc, lo_cut, lo_drop]
        by_cases h0 : a = 0
        · subst h0
          by_cases h1 : b ≤ len
          · simp [h1, AM.bind]
          · simp [h1, AM.bind]
        · by_cases h1 : a ≤ b ∧ b ≤ len
          · simp only [h0, h1, and_self, if_true, if_false, false_and, snap, bind_assoc]
            refine bind_congr fun q => ?_
            simp only [AE.lower, AM.bind, low_ite, bind_ite]
          · have h2 : ¬ (a = 0 ∧ b ≤ len) := fun h => h0 h.1
            simp [h1, h2, AM.bind]
  | p y =>
    cases y with
    | sl z' xs =>
      simp only [sliceX, sliceA, boundX_low]
      cases boundA 0 lo with
      | none => rfl
      | some a =>
        simp only [boundX_low]
        cases boundA xs.length hi with
        | none => rfl
        | some b =>
          simp only [low_cut, low_need, low_ite, bind_ite, lo_cut, lo_drop, lo_len, dropZero]
          by_cases h1 : a ≤ b ∧ b ≤ xs.length
          · by_cases h2 : z' = z
            · simp [h1, h2, AM.bind]
            · cases xs <;> simp_all [AM.bind]
          · have h2 : ¬ (a ≤ b ∧ b ≤ xs.length ∧ (z' = z ∨ xs = [])) := fun h => h1 ⟨h.1, h.2.1⟩
            simp only [h1, h2, if_false, AM.bind]
    | _ => rfl
  | _ => rfl

theorem srcX_low (x : AV) (K : Nat → List (List PV) → AE α) : (srcX x K).lower = (srcA x).bind fun q => (K q.1 q.2).lower := by
  cases x with
  | p y => cases y <;> rfl
  | ref l n len => simp only [srcX, srcA, ownX_low, bind_assoc, lo_cut]; exact bind_congr fun q => rfl
  | _ => rfl

def appRow (e : Nat) (ti : TI) (x : AV) (ys : List (List PV)) : AM AV := match x with
    | .nilS => if ys.length * ti.bytes ≤ roomA then .pure (.own e ti.size ys false) else .fail
    | .p (.sl _ []) => if ys = [] then .pure (.p (.sl 0 [])) else .fail
    | .ref l n len => (ownAt l n len).bind fun (e', z, xs, fz) =>
        if e' = e ∧ z = ti.size ∧ (fz = false ∨ len = xs.length) ∧ (len + ys.length) * ti.bytes ≤ roomA then
          .set l .junk (.pure (.own e z (xs.take len ++ ys) fz)) else .fail
    | _ => .fail
theorem appendRows_eq (e : Nat) (ti : TI) (x : AV) (z0 : Nat) (ys : List (List PV)) : appendRows e ti x z0 ys = if (z0 = ti.size ∨ ys = []) ∧ 0 < ti.size ∧ 0 < ti.bytes then appRow e ti x ys else .fail := rfl

theorem appGoX_low (e : Nat) (ti : TI) (x : AV) (ys : List (List PV)) (K : AV → AE α) : (appGoX e ti x ys K).lower = (if 0 < ti.size ∧ 0 < ti.bytes then appRow e ti x ys else .fail).bind fun v => (K v).lower := by
  unfold appGoX
  simp only [low_ite]
  by_cases h1 : 0 < ti.size
  · by_cases h2 : 0 < ti.bytes
    · simp only [h1, h2, and_self, if_true]
      cases x with
      | nilS => simp only [appRow, low_ble, lo_len, bind_ite]; rfl
      | p y =>
        cases y with
        | sl z' xs =>
          cases xs with
          | nil => simp only [appRow, low_need, List.isEmpty_iff, bind_ite]; rfl
          | cons _ _ => rfl
        | _ => rfl
      | ref l n len =>
        simp only [appRow, ownX_low, bind_assoc]
        refine bind_congr fun q => ?_
        obtain ⟨e', z, xs, fz⟩ := q
        simp only [low_ite, low_room, lo_len, lo_cut, lo_app, bind_ite, AE.lower, AM.bind]
        by_cases a1 : e' = e
        · by_cases a2 : z = ti.size
          · simp [a1, a2]
          · simp [a1, a2]
        · simp [a1]
      | _ => rfl
    · simp [h1, h2, AE.lower, AM.bind]
  · simp [h1, AE.lower, AM.bind]

theorem appendX_low (e : Nat) (ti : TI) (x : AV) (z0 : Nat) (ys : List (List PV)) (K : AV → AE α) : (appendX e ti x z0 ys K).lower = (appendRows e ti x z0 ys).bind fun v => (K v).lower := by
  unfold appendX
  rw [appendRows_eq]
  simp only [low_ite, low_need, appGoX_low, List.isEmpty_iff]
  by_cases h0 : z0 = ti.size
  · simp [h0]
  · by_cases hy : ys = []
    · simp [h0, hy]
    · simp [h0, hy, AM.bind]

theorem lenX_low (x : AV) (K : Nat → AE α) : (lenX x K).lower = (lenA x).bind fun v => (K v).lower := by
  cases x with
  | p y => cases y <;> rfl
  | ref l n len => simp only [lenX, lenA, ownX_low, bind_assoc]; exact bind_congr fun q => rfl
  | _ => rfl

def copyRow (ti : TI) (x : AV) (ys : List (List PV)) : AM AV := match x with
    | .ref l n len => (ownAt l n len).bind fun q =>
        if q.2.1 = ti.size ∧ q.2.2.2 = false ∧ ys.length ≤ len then .mod l (.own q.1 q.2.1 (ys ++ q.2.2.1.drop ys.length) false) (.pure (.p (.v (.int .i64 ys.length)))) else .fail
    | _ => .fail
theorem copyA_eq (ti : TI) (x y : AV) : copyA ti x y = (srcA y).bind fun q => if (q.1 = ti.size ∨ q.2 = []) ∧ 0 < ti.size then copyRow ti x q.2 else .fail := by
  unfold copyA copyRow
  refine bind_congr fun q => ?_
  obtain ⟨z0, ys⟩ := q
  cases x <;> rfl

theorem copyX_low (ti : TI) (x y : AV) (K : AV → AE α) : (copyX ti x y K).lower = (copyA ti x y).bind fun v => (K v).lower := by
  rw [copyA_eq]
  unfold copyX
  simp only [srcX_low, bind_assoc]
  refine bind_congr fun q => ?_
  obtain ⟨z0, ys⟩ := q
  have key : (copyGoX ti x ys K).lower = (if 0 < ti.size then copyRow ti x ys else AM.fail).bind fun v => (K v).lower := by
    unfold copyGoX
    by_cases h1 : 0 < ti.size
    · simp only [h1, if_true, copyRow]
      cases x with
      | ref l n len =>
        simp only [ownX_low, bind_assoc]
        refine bind_congr fun q => ?_
        obtain ⟨e', z, xs, fz⟩ := q
        simp only [low_ite, low_ble, lo_len, lo_app, lo_drop]
        simp only [low_opt, lenO, bind_ite, AE.lower, AM.bind]
        by_cases a1 : z = ti.size
        · cases fz <;> simp [a1]
        · simp [a1]
      | _ => rfl
    · simp [h1, AE.lower, AM.bind]
  simp only [low_ite, low_need, List.isEmpty_iff, key]
  by_cases h0 : z0 = ti.size
  · simp [h0]
  · by_cases hy : ys = []
    · simp [h0, hy]
    · simp [h0, hy, AM.bind]

theorem mapX_low {β γ : Type} {f : β → (γ → AE α) → AE α} {g : β → AM γ} (h : ∀ b K, (f b K).lower = (g b).bind fun x => (K x).lower) : ∀ (l : List β) (K : List γ → AE α), (mapX f l K).lower = (mapA g l).bind fun x => (K x).lower
  | [], K => rfl
  | b :: l, K => by
    simp only [mapX, mapA, h, bind_assoc]
    refine bind_congr fun x => ?_
    rw [mapX_low h l]
    exact bind_congr fun q => rfl

theorem evalsX_low (l : List Operand) (K : List AV → AE α) : (evalsX l K).lower = (mapA evalO l).bind fun x => (K x).lower := mapX_low evalX_low l K

theorem withTX_low (T : Tab) (t : Nat) {f : TI → AE α} {β : Type} {g : TI → AM β} {k : β → AM α} (h : ∀ ti, (f ti).lower = (g ti).bind k) : (withTX T t f).lower = (withT T t g).bind k := by
  unfold withTX withT
  cases T t with
  | none => rfl
  | some ti => exact h ti

theorem withDX_low (d : Option Nat) {f : Nat → AE α} {g : Nat → AM Unit} {k : Unit → AM α} (h : ∀ x, (f x).lower = (g x).bind k) : (withDX d f).lower = (withD d g).bind k := by
  cases d with
  | none => rfl
  | some x => exact h x

theorem buildX_low (T : Tab) (fields : List (Nat × Nat)) : ∀ (cs : List AV) (l : List (Nat × AV)) (K : List AV → AE α), (buildX T fields cs l K).lower = (buildA T fields cs l).bind fun x => (K x).lower
  | cs, [], K => rfl
  | cs, (i, v) :: rest, K => by
    simp only [buildX, buildA]
    cases fields[i]? with
    | none => rfl
    | some q =>
      obtain ⟨off, t⟩ := q
      simp only [withTX]
      cases T t with
      | none => rfl
      | some ti =>
        simp only [partX_low, bind_assoc]
        refine bind_congr fun v' => ?_
        simp only [low_ite, bind_ite]
        split
        · cases layAt cs off (cellsA v') with
          | none => rfl
          | some cs' => exact buildX_low T fields cs' rest K
        · rfl

theorem buildRowsX_low (z : Nat) (ws : List Nat) : ∀ (rows : List (List PV)) (l : List (Nat × AV)) (K : List (List PV) → AE α), (buildRowsX z ws rows l K).lower = (buildRows z ws rows l).bind fun x => (K x).lower
  | rows, [], K => rfl
  | rows, (i, v) :: rest, K => by
    simp only [buildRowsX, buildRows, snapsX_low, bind_assoc]
    refine bind_congr fun xs => ?_
    simp only [low_ite, bind_ite]
    by_cases h1 : xs.length = z
    · by_cases h2 : i < rows.length
      · by_cases h3 : xs.all PV.one = true
        · simp only [h1, h2, h3, and_self, if_true]; exact buildRowsX_low z ws _ rest K
        · simp [h1, h2, h3, AM.bind, AE.lower]
      · simp [h1, h2, AM.bind, AE.lower]
    · simp [h1, AM.bind, AE.lower]

theorem rowObjX_low (d e len : Nat) (vs : List (Nat × AV)) (K : AE α) : (rowObjX d e len vs K).lower = (rowObj d e len vs).bind fun _ => K.lower := by
  unfold rowObjX rowObj
  simp only [low_ite, bind_ite]
  by_cases h1 : vs.map (·.1) = List.range len
  · by_cases h2 : (vs.all fun x => slotOk x.2) = true
    · by_cases h3 : 0 < len
      · simp only [h1, h2, h3, and_self, if_true, newObjX_low, bind_assoc]
        refine bind_congr fun p => ?_
        cases p with
        | ptr n v o => cases o <;> rfl
        | _ => rfl
      · simp [h1, h2, h3, AM.bind, AE.lower]
    · simp [h1, h2, AM.bind, AE.lower]
  · simp [h1, AM.bind, AE.lower]

theorem assignX_low (d : Nat) (ty : Option (Nat × Nat)) (v : AV) (K : AE α) : (assignX d ty v K).lower = (assignA d ty v).bind fun _ => K.lower := by
  cases v with
  | agg cs => simp only [assignX, assignA, partsX_low, bind_assoc]; exact bind_congr fun q => rfl
  | p x => rfl
  | _ => simp only [assignX, assignA]; exact putCellX_low d ty _ K

theorem pureX_low (P : Program) (d : Option Nat) (m : Unit → Sem Value) (K : AE α) : (pureX P d m K).lower = (pureV P d (m ())).bind fun _ => K.lower := by
  simp only [pureX, low_opt, pureV]
  cases pureRun P (m ()) with
  | none => rfl
  | some v => exact putX_low d _ K

theorem callArg_low (x : Operand × List Nat) (K : AV → AE α) : (evalX x.1 fun y => argX x.2 y K).lower = ((evalO x.1).bind (argOf x.2)).bind fun v => (K v).lower := by
  simp only [evalX_low, argX_low, bind_assoc]

theorem opCallX_low (P : Program) (T : Tab) (o : Oper) (c : Call) (K : AE α) : (opCallX P T o c K).lower = (opCall P T o c).bind fun _ => K.lower := by
  unfold opCallX opCall
  cases hc : c.callee with
  | value f =>
    simp only [evalX_low, bind_assoc]
    refine bind_congr fun v => ?_
    rw [mapX_low (f := fun (x : Operand × List Nat) K => evalX x.1 fun y => argX x.2 y K) (g := fun (x : Operand × List Nat) => (evalO x.1).bind (argOf x.2)) callArg_low]
    refine bind_congr fun args => ?_
    cases v <;> rfl
  | invoke r m => rfl
  | builtin b =>
    cases b with
    | len =>
      simp only
      generalize c.args.toList = xl
      generalize c.argTypes.toList = ts
      rcases xl with _ | ⟨x, _ | ⟨x2, xl⟩⟩ <;> rcases ts with _ | ⟨t, _ | ⟨t2, ts⟩⟩ <;> try rfl
      simp only [evalX_low, bind_assoc]
      refine bind_congr fun v => ?_
      cases scal v with
      | some u => exact pureX_low P o.dst _ K
      | none =>
        refine withTX_low T t fun tt => ?_
        cases tt.shape with
        | slice e => simp only [lenX_low, bind_assoc]; exact bind_congr fun n => putX_low _ _ _
        | _ => rfl
    | append =>
      simp only
      generalize c.args.toList = xl
      generalize c.argTypes.toList = ts
      rcases xl with _ | ⟨x, _ | ⟨x2, _ | ⟨x3, xl⟩⟩⟩ <;> rcases ts with _ | ⟨t, _ | ⟨t2, _ | ⟨t3, ts⟩⟩⟩ <;> try rfl
      simp only [low_ite, bind_ite]
      split
      · refine withTX_low T t fun tt => ?_
        cases tt.shape with
        | slice e =>
          refine withTX_low T e fun ti => ?_
          simp only [evalX_low, bind_assoc]
          refine bind_congr fun a => bind_congr fun b => ?_
          simp only [srcX_low, appendA, bind_assoc, appendX_low]
          refine bind_congr fun q => bind_congr fun r => ?_
          exact withDX_low o.dst fun d => putX_low _ _ _
        | _ => rfl
      · refine withTX_low T t fun tt => withTX_low T t2 fun tx => ?_
        cases tt.shape with
        | slice e =>
          cases tx.shape with
          | string =>
            refine withTX_low T e fun ti => ?_
            simp only [evalX_low, bind_assoc]
            refine bind_congr fun a => bind_congr fun b => ?_
            cases scal b with
            | none => rfl
            | some u =>
              cases u with
              | string s =>
                simp only [appendX_low, bind_assoc]
                refine bind_congr fun r => ?_
                exact withDX_low o.dst fun d => putX_low _ _ _
              | _ => rfl
          | _ => rfl
        | _ => rfl
    | copy =>
      simp only
      generalize c.args.toList = xl
      generalize c.argTypes.toList = ts
      rcases xl with _ | ⟨x, _ | ⟨x2, _ | ⟨x3, xl⟩⟩⟩ <;> rcases ts with _ | ⟨t, _ | ⟨t2, _ | ⟨t3, ts⟩⟩⟩ <;> try rfl
      refine withTX_low T t fun tt => ?_
      cases tt.shape with
      | slice e =>
        refine withTX_low T e fun ti => ?_
        simp only [evalX_low, bind_assoc, copyX_low]
        exact bind_congr fun a => bind_congr fun b => bind_congr fun r => putX_low _ _ _
      | _ => rfl
    | _ =>
      simp only [evalsX_low, bind_assoc]
      refine bind_congr fun vs => ?_
      cases vs.mapM scal with
      | none => rfl
      | some xs => exact pureX_low P o.dst _ K

theorem opX_low (P : Program) (T : Tab) (o : Oper) (K : AE α) : (opX P T o K).lower = (opAM P T o).bind fun _ => K.lower := by
  unfold opX opAM
  cases ho : o.op with
  | move x => simp only [evalX_low, bind_assoc]; exact bind_congr fun v => putX_low _ _ _
  | pick c x y =>
    simp only [evalX_low, bind_assoc]
    refine bind_congr fun v => ?_
    cases scal v with
    | none => rfl
    | some u =>
      cases u with
      | bool q =>
        cases q
        · simp only [AE.lower, Bool.false_eq_true, if_false, evalX_low, bind_assoc]; exact bind_congr fun v => putX_low _ _ _
        · simp only [AE.lower, if_true, evalX_low, bind_assoc]; exact bind_congr fun v => putX_low _ _ _
      | _ => rfl
  | assign x =>
    simp only [evalX_low, bind_assoc]
    refine bind_congr fun v => withDX_low o.dst fun d => withTX_low T o.type fun ti => assignX_low _ _ _ _
  | alloc e =>
    refine withDX_low o.dst fun d => withTX_low T e fun ti => ?_
    simp only [newObjX_low, bind_assoc]
    exact bind_congr fun v => rfl
  | box e x =>
    refine withDX_low o.dst fun d => withTX_low T e fun ti => ?_
    simp only [evalX_low, bind_assoc]
    refine bind_congr fun v => ?_
    simp only [low_ite, bind_ite, newObjX_low, bind_assoc]
    split
    · exact bind_congr fun v => rfl
    · rfl
  | build t parts =>
    refine withTX_low T t fun ti => ?_
    rw [mapX_low (f := fun (x : Nat × Operand) K => evalX x.2 fun v => K (x.1, v)) (g := fun x => (evalO x.2).bind fun v => .pure (x.1, v)) (fun b K => by simp only [evalX_low, bind_assoc]; rfl), bind_assoc]
    refine bind_congr fun vs => ?_
    cases ti.shape with
    | struct fs => simp only [buildX_low, bind_assoc]; exact bind_congr fun cs => putX_low _ _ _
    | _ => rfl
  | buildSlice t len parts =>
    refine withDX_low o.dst fun d => withTX_low T t fun tt => ?_
    cases tt.shape with
    | slice e =>
      refine withTX_low T e fun ti => ?_
      rw [mapX_low (f := fun (x : Nat × Operand) K => evalX x.2 fun v => K (x.1, v)) (g := fun x => (evalO x.2).bind fun v => .pure (x.1, v)) (fun b K => by simp only [evalX_low, bind_assoc]; rfl), bind_assoc]
      refine bind_congr fun vs => ?_
      simp only [low_ite, bind_ite]
      split
      · by_cases h1 : ti.size = 1
        · by_cases h2 : len ≤ 62
          · simp only [h1, h2, and_self, if_true]; exact rowObjX_low d e len vs K
          · simp [h1, h2, AM.bind, AE.lower]
        · simp [h1, AM.bind, AE.lower]
      · cases toPVs ti.zs ti.zero with
        | none => rfl
        | some z =>
          simp only [low_ite, bind_ite]
          by_cases h1 : 0 < ti.size
          · by_cases h2 : len * ti.size ≤ 16777216
            · simp only [h1, h2, and_self, if_true, buildRowsX_low, bind_assoc]; exact bind_congr fun r => putX_low _ _ _
            · simp [h1, h2, AM.bind, AE.lower]
          · simp [h1, AM.bind, AE.lower]
    | _ => rfl
  | load t a =>
    refine withTX_low T t fun ti => ?_
    simp only [evalX_low, bind_assoc, loadX_low]
    exact bind_congr fun x => bind_congr fun v => putX_low _ _ _
  | store t a x =>
    simp only [low_ite, bind_ite]
    split
    · rfl
    · refine withTX_low T t fun ti => ?_
      simp only [evalX_low, bind_assoc]
      exact bind_congr fun p => bind_congr fun v => storeX_low _ _ _ _
  | nilCheck x =>
    simp only [evalX_low, bind_assoc]
    refine bind_congr fun v => ?_
    cases v with
    | p y => cases y <;> first | rfl | exact putX_low _ _ _
    | _ => first | rfl | exact putX_low _ _ _
  | binOp op t x y yt =>
    simp only [evalX_low, bind_assoc]
    refine bind_congr fun a => bind_congr fun b => ?_
    cases scal a with
    | none => cases scal b <;> rfl
    | some u =>
      cases scal b with
      | none => rfl
      | some v => exact pureX_low P o.dst _ K
  | unOp op t x =>
    simp only [evalX_low, bind_assoc]
    refine bind_congr fun a => ?_
    cases scal a with
    | none => rfl
    | some u => exact pureX_low P o.dst _ K
  | convert src dst x =>
    simp only [evalX_low, bind_assoc]
    refine bind_congr fun a => ?_
    cases scal a with
    | none => rfl
    | some u => exact pureX_low P o.dst _ K
  | makeFunc fn first caps =>
    cases fn with
    | func f =>
      simp only [low_ite, bind_ite]
      split
      · simp only [evalsX_low, bind_assoc]
        refine bind_congr fun vs => ?_
        simp only [low_ite, bind_ite]
        split
        · exact putX_low _ _ _
        · rfl
      · rfl
    | _ => rfl
  | makeSlice t l c =>
    refine withDX_low o.dst fun d => withTX_low T t fun tt => ?_
    cases tt.shape with
    | slice e =>
      refine withTX_low T e fun ti => ?_
      simp only [evalX_low, bind_assoc]
      refine bind_congr fun a => bind_congr fun b => ?_
      generalize toPVs ti.zs ti.zero = tz
      have hq : ∀ (n m : Int) (z : List PV), (if 0 < ti.size then AE.opt (fun _ => mkO n m ti.bytes) (fun j => putX (some d) (.own e ti.size (List.replicate j z) false) K) else .fail).lower =
          (if n = m ∧ 0 ≤ n ∧ n ≤ 9223372036854775807 ∧ n.toNat * ti.bytes ≤ roomA ∧ 0 < ti.size then putD (some d) (.own e ti.size (List.replicate n.toNat z) false) else .fail).bind fun _ => K.lower := by
        intro n m z
        by_cases h1 : 0 < ti.size
        · rw [if_pos h1, low_opt]
          unfold mkO
          by_cases h2 : n = m ∧ n ≤ 9223372036854775807 ∧ n.toNat * ti.bytes ≤ roomA
          · by_cases h3 : 0 ≤ n
            · rw [if_pos h2, if_pos (show n = m ∧ 0 ≤ n ∧ n ≤ 9223372036854775807 ∧ n.toNat * ti.bytes ≤ roomA ∧ 0 < ti.size from ⟨h2.1, h3, h2.2.1, h2.2.2, h1⟩)]
              simp only [natO, if_pos h3]
              rfl
            · rw [if_pos h2, if_neg (show ¬ (n = m ∧ 0 ≤ n ∧ n ≤ 9223372036854775807 ∧ n.toNat * ti.bytes ≤ roomA ∧ 0 < ti.size) from fun h => h3 h.2.1)]
              simp only [natO, if_neg h3]
              rfl
          · rw [if_neg h2, if_neg (show ¬ (n = m ∧ 0 ≤ n ∧ n ≤ 9223372036854775807 ∧ n.toNat * ti.bytes ≤ roomA ∧ 0 < ti.size) from fun h => h2 ⟨h.1, h.2.2.1, h.2.2.2.1⟩)]
            rfl
        · rw [if_neg h1, if_neg (show ¬ (n = m ∧ 0 ≤ n ∧ n ≤ 9223372036854775807 ∧ n.toNat * ti.bytes ≤ roomA ∧ 0 < ti.size) from fun h => h1 h.2.2.2.2)]
          rfl
      cases a with
      | p x =>
        cases x with
        | v u =>
          cases u with
          | int k n =>
            cases b with
            | p y =>
              cases y with
              | v u' =>
                cases u' with
                | int k' m => cases tz with
                  | none => rfl
                  | some z => exact hq n m z
                | _ => rfl
              | _ => rfl
            | _ => rfl
          | _ => rfl
        | _ => rfl
      | _ => rfl
    | _ => rfl
  | slice t x lo hi mx =>
    cases mx with
    | none =>
      simp only [evalX_low, evalsX_low, bind_assoc]
      refine bind_congr fun v => bind_congr fun l => bind_congr fun h => ?_
      cases scal v with
      | some u =>
        simp only
        cases l.mapM scal with
        | none => cases h.mapM scal <;> rfl
        | some l' =>
          cases h.mapM scal with
          | none => rfl
          | some h' => exact pureX_low P o.dst _ K
      | none =>
        refine withTX_low T t fun tt => ?_
        cases tt.shape with
        | slice e =>
          refine withTX_low T e fun ti => ?_
          simp only [low_ite, bind_ite, sliceX_low, bind_assoc]
          split
          · exact bind_congr fun r => putX_low _ _ _
          · rfl
        | _ => rfl
    | some _ => rfl
  | fieldAddr t x f =>
    refine withTX_low T t fun ti => ?_
    cases ti.shape with
    | struct fs =>
      simp only
      cases fs[f]? with
      | none => rfl
      | some q =>
        simp only [evalX_low, bind_assoc, fieldAddrX_low]
        exact bind_congr fun v => bind_congr fun r => putX_low _ _ _
    | _ => rfl
  | indexAddr t x i =>
    refine withTX_low T t fun tt => ?_
    cases tt.shape with
    | slice e =>
      refine withTX_low T e fun ti => ?_
      simp only [evalX_low, bind_assoc, indexAddrX_low]
      exact bind_congr fun v => bind_congr fun j => bind_congr fun r => putX_low _ _ _
    | _ => rfl
  | index t x i =>
    simp only [evalX_low, bind_assoc]
    refine bind_congr fun a => bind_congr fun b => ?_
    cases scal a with
    | none => cases scal b <;> rfl
    | some u =>
      cases scal b with
      | none => rfl
      | some v => exact pureX_low P o.dst _ K
  | extract x i =>
    simp only [evalX_low, bind_assoc]
    refine bind_congr fun v => ?_
    cases v with
    | tup vs =>
      simp only
      cases vs[i]? with
      | none => rfl
      | some u => exact putX_low _ _ _
    | _ => rfl
  | call c => exact opCallX_low P T o c K
  | _ => rfl

theorem guardedX_low (P : Program) (T : Tab) (ops : Array Oper) (o : Oper) (K : AE α) : (guardedX P T ops o K).lower = (guarded P T ops o).bind fun _ => K.lower := by
  unfold guardedX guarded
  cases o.guard with
  | none => exact opX_low P T o K
  | some q =>
    obtain ⟨j, want⟩ := q
    simp only
    cases (ops[j]?).bind (·.dst) with
    | none => rfl
    | some d =>
      simp only [AE.lower, AM.bind]
      congr 1; funext v n
      cases v with
      | p x =>
        cases x with
        | v u =>
          cases u with
          | bool b =>
            cases want <;> cases b <;> simp only [AE.lower, opX_low, Bool.false_eq_true, if_true, if_false, reduceCtorEq] <;> cases o.dst <;> rfl
          | _ => rfl
        | _ => rfl
      | _ => rfl

theorem seqX_low (P : Program) (T : Tab) (ops : Array Oper) : ∀ (l : List Oper) (K : AE α), (seqX P T ops l K).lower = (seqA P T ops l).bind fun _ => K.lower
  | [], K => rfl
  | o :: r, K => by
    simp only [seqX, seqA, guardedX_low, bind_assoc]
    exact bind_congr fun _ => seqX_low P T ops r K

theorem resX1_low (T : Tab) (v : ResultVar × List Nat) (K : AV → AE α) : (resX1 T v K).lower = (resA1 T v).bind fun x => (K x).lower := by
  obtain ⟨v, zs⟩ := v
  cases v with
  | tmp t => simp only [resX1, resA1, evalX_low, argX_low, bind_assoc]
  | cell a t =>
    simp only [resX1, resA1]
    refine withTX_low T t fun ti => ?_
    simp only [evalX_low, loadX_low, argX_low, bind_assoc]

end
end Go.Proofs.YtkjglhamlnnboaaDoor.Am
