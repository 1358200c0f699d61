/-
  THE ABSTRACT MACHINE, part D: calls, and what programs of one operation come to.
-/
import Derived.Test.YtkjglhamlnnboaaDoorAmC
set_option linter.unusedVariables false
set_option linter.unusedSimpArgs false
namespace Go.Proofs.YtkjglhamlnnboaaDoor.Am
open Go Go.RowKit

/-! ### Objects handed in -/

/-- The state in which a call begins. -/
def initSt (args : List AV) (imps : List ObjD) : St where
  val k := if k < 4096 then args.getD k .junk else match imps[(k - 4096) / 64]? with
    | some o => if (k - 4096) % 64 = 63 then .hdr o.e o.cells.length else o.cells.getD ((k - 4096) % 64) .junk
    | none => .junk
  ver _ := 0

def outAt (r : CRes) (i j : Nat) : Option AV := ((r.outs[i]?).bind (·[j]?)).bind id

/-- The state in which it ends: its value in the first temporary. -/
def retSt (imps : List ObjD) (r : CRes) : St where
  val k := if k = 0 then r.ret else if k < 4096 then .junk else match (imps ++ r.news)[(k - 4096) / 64]? with
    | some o => if (k - 4096) % 64 = 63 then .hdr o.e o.cells.length else (outAt r ((k - 4096) / 64) ((k - 4096) % 64)).getD (o.cells.getD ((k - 4096) % 64) .junk)
    | none => .junk
  ver k := if k < 4096 then 1 else if (k - 4096) % 64 = 63 then 0 else if (outAt r ((k - 4096) / 64) ((k - 4096) % 64)).isSome then 1 else 0

/-- A call of function f. -/
def Inv (P : Program) (f : FuncId) (vals : Array Value) (w : World) (K : Value → World → Prop) : Prop :=
  match (callFunc f vals).run P w with
  | .ok (.value v) w' => K v w'
  | .ok (.enter g xs) w' => Calls P g xs w' fun e w'' => match e with
    | .returned v => K v w''
    | _ => False
  | _ => False

theorem Inv.mono {P : Program} {f : FuncId} {vals : Array Value} {w : World} {K K' : Value → World → Prop} (h : Inv P f vals w K) (hk : ∀ v w, K v w → K' v w) : Inv P f vals w K' := by
  unfold Inv at h ⊢
  split at h
  · exact hk _ _ h
  · refine h.mono ?_
    intro e w' hq
    cases e <;> simp_all
  · exact h

/-- What a step keeps. -/
structure Ext (C : Ctx) (I J : Imm) (s s' : St) (G G' : Ghost) : Prop where
  imm : I.le J
  keep : Keeps s s' G G'
  prot : ∀ b, C.prot b ≠ none → ∀ o, J b o = I b o

theorem Keeps.trans {s s' s'' : St} {G G' G'' : Ghost} (h : Keeps s s' G G') (k : Keeps s' s'' G' G'') : Keeps s s'' G G'' := by
  refine ⟨fun x => Nat.le_trans (h.up x) (k.up x), fun x hx ho => ?_, fun x hx ho => ?_⟩
  · have h1 := h.up x; have h2 := k.up x
    obtain ⟨a1, a2, a3, a4, a5⟩ := k.own x (by omega) ho
    obtain ⟨b1, b2, b3, b4, b5⟩ := h.own x (by omega) a1
    exact ⟨b1, a2.trans b2, a3.trans b3, a4.trans b4, a5.trans b5⟩
  · have h1 := h.up x; have h2 := k.up x
    obtain ⟨a1, a2⟩ := k.hdr x (by omega) ho
    obtain ⟨b1, b2⟩ := h.hdr x (by omega) a1
    exact ⟨b1, a2.trans b2⟩

theorem Ext.refl (C : Ctx) (I : Imm) (s : St) (G : Ghost) : Ext C I I s s G G := ⟨Imm.le_refl I, Keeps.refl s G, fun _ _ _ => rfl⟩
theorem Ext.trans {C : Ctx} {I J K : Imm} {s s' s'' : St} {G G' G'' : Ghost} (h : Ext C I J s s' G G') (k : Ext C J K s' s'' G' G'') : Ext C I K s s'' G G'' :=
  ⟨Imm.le_trans h.imm k.imm, h.keep.trans k.keep, fun b hb o => (k.prot b hb o).trans (h.prot b hb o)⟩

/-- The contract of a function at these arguments and objects. -/
def SemCall (P : Program) (f : FuncId) (args : List AV) (imps : List ObjD) (r : CRes) : Prop :=
  ∀ (B : Nat) (w0 : World) (prot : Nat → Option Obj) (I : Imm) (G : Ghost) (vals : Array Value) (w : World),
    Rel ⟨B, w0, prot, args.length⟩ I G (initSt args imps) vals w →
    Inv P f vals w fun v w' => ∃ J G', Rel ⟨B, w0, prot, 1⟩ J G' (retSt imps r) #[v] w' ∧ I.le J ∧ (∀ b, prot b ≠ none → ∀ o, J b o = I b o) ∧
      (∀ n, n < imps.length → G'.blk (khdr n) = G.blk (khdr n)) ∧
      (∀ n j, n < imps.length → j ≤ 62 → outAt r n j = none → G'.blk (kcell n j) = G.blk (kcell n j) ∧ G'.cap (kcell n j) = G.cap (kcell n j) ∧ G'.nil (kcell n j) = G.nil (kcell n j))

/-! ### Names -/

mutual
/-- A value as the callee names it: the object L[i] is object i. -/
def renA (L : List Nat) (ver : Nat → Nat) : AV → Option AV
  | .p x => some (.p x)
  | .ptr n v off => match L.idxOf? n with
    | some i => if v = ver (khdr n) then some (.ptr i 0 off) else none
    | none => none
  | .own e z xs fz => some (.own e z xs fz)
  | .clo f caps => (renAs L ver caps).map (.clo f)
  | .agg cs => (renAs L ver cs).map .agg
  | .tup cs => (renAs L ver cs).map .tup
  | .ifc t x => (renA L ver x).map (.ifc t)
  | .junk => some .junk
  | _ => none
def renAs (L : List Nat) (ver : Nat → Nat) : List AV → Option (List AV)
  | [] => some []
  | c :: r => match renA L ver c, renAs L ver r with
    | some x, some xs => some (x :: xs)
    | _, _ => none
end

mutual
/-- A value of the callee as the caller names it. -/
def backA (L : List Nat) (ver : Nat → Nat) : AV → Option AV
  | .p x => some (.p x)
  | .nilS => some .nilS
  | .ptr i v off => if v = 0 then (match L[i]? with
    | some n => some (.ptr n (ver (khdr n)) off)
    | none => none) else none
  | .own e z xs fz => some (.own e z xs fz)
  | .clo f caps => (backAs L ver caps).map (.clo f)
  | .agg cs => (backAs L ver cs).map .agg
  | .tup cs => (backAs L ver cs).map .tup
  | .ifc t x => (backA L ver x).map (.ifc t)
  | .junk => some .junk
  | _ => none
def backAs (L : List Nat) (ver : Nat → Nat) : List AV → Option (List AV)
  | [] => some []
  | c :: r => match backA L ver c, backAs L ver r with
    | some x, some xs => some (x :: xs)
    | _, _ => none
end

mutual
/-- The objects that a value points to. -/
def names : AV → List Nat
  | .ptr n _ _ => [n]
  | .clo _ caps => namesL caps
  | .agg cs => namesL cs
  | .tup cs => namesL cs
  | .ifc _ x => names x
  | _ => []
def namesL : List AV → List Nat
  | [] => []
  | c :: r => names c ++ namesL r
end

def cellsOf (s : St) (n z : Nat) : List AV := (List.range z).map fun j => s.val (kcell n j)

/-- All objects that are come to, each once. -/
def reach (s : St) : Nat → List Nat → List Nat → List Nat
  | 0, L, _ => L
  | _, L, [] => L
  | k + 1, L, n :: todo => if L.contains n then reach s k L todo else match s.val (khdr n) with
    | .hdr _ z => reach s k (L ++ [n]) (todo ++ namesL (cellsOf s n z))
    | _ => L

def impOf (s : St) (L : List Nat) (n : Nat) : Option ObjD := match s.val (khdr n) with
  | .hdr e z => (renAs L s.ver (cellsOf s n z)).map fun cs => ⟨e, cs⟩
  | _ => none
def impsOf (s : St) (L : List Nat) : List Nat → Option (List ObjD)
  | [] => some []
  | n :: r => match impOf s L n, impsOf s L r with
    | some x, some xs => some (x :: xs)
    | _, _ => none

/-- The names of the new objects of a call with the destination d. -/
def newNames (d k : Nat) : List Nat := (List.range k).map fun i => 64 + 4096 * (i + 1) + d

/-- The callee's place in the caller. -/
def keyMap (L : List Nat) (k : Nat) : Nat := 4096 + (L.getD ((k - 4096) / 64) 0) * 64 + (k - 4096) % 64

/-- What becomes of a place by a call: nothing, or what the callee tells. -/
def retVal (LL : List Nat) (nimp d : Nat) (r : CRes) (k : Nat) : Option AV :=
  if k = d then some r.ret else if k < 4096 then none else
    match LL.idxOf? ((k - 4096) / 64) with
    | none => none
    | some i => if i < nimp then (if (k - 4096) % 64 = 63 then none else outAt r i ((k - 4096) % 64))
      else match r.news[i - nimp]? with
        | some o => if (k - 4096) % 64 = 63 then some (.hdr o.e o.cells.length) else some (o.cells.getD ((k - 4096) % 64) .junk)
        | none => none

/-- A head stays a head. -/
def backH (L : List Nat) (ver : Nat → Nat) : AV → Option AV
  | .hdr e z => some (.hdr e z)
  | v => backA L ver v

def verIn (s : St) (NL : List Nat) (k : Nat) : Nat := if NL.any (fun n => khdr n = k) then s.ver k + 1 else s.ver k

/-- Can all be told in the caller's names? -/
def backOk (LL : List Nat) (ver : Nat → Nat) (r : CRes) : Bool :=
  (backA LL ver r.ret).isSome && (r.outs.all fun o => o.all fun c => match c with | some v => (backA LL ver v).isSome | none => true) && (r.news.all fun o => o.cells.all fun c => (backA LL ver c).isSome)

/-- The caller's state behind the call. 'L': the objects that were handed in. -/
def retInto (s : St) (L : List Nat) (d : Nat) (r : CRes) : St :=
  let NL := newNames d r.news.length
  { val := fun k => match retVal (L ++ NL) L.length d r k with
      | some v => (backH (L ++ NL) (verIn s NL) v).getD .junk
      | none => s.val k
    ver := fun k => match retVal (L ++ NL) L.length d r k with
      | some _ => s.ver k + 1
      | none => s.ver k }

/-- The names are each one's own; so are the new ones. -/
def namesOk (L : List Nat) (d : Nat) (r : CRes) : Bool := decide ((L ++ newNames d r.news.length).Nodup) && decide (r.outs.length ≤ L.length) && r.news.all (fun o => o.cells.length ≤ 62)

/-- What a program of one operation comes to. -/
def awp (P : Program) {α : Type} : AM α → St → (α → St → Prop) → Prop
  | .pure a, s, Q => Q a s
  | .fail, _, _ => False
  | .get k f, s, Q => awp P (f (s.val k) (s.ver k)) s Q
  | .set k v c, s, Q => awp P c (s.set k v) Q
  | .mod k v c, s, Q => awp P c (s.mod k v) Q
  | .call f args d c, s, Q => ∃ d0 L imps args' r, d = some d0 ∧ L.Nodup ∧ impsOf s L L = some imps ∧ renAs L s.ver args = some args' ∧ args.length ≤ 64 ∧
      SemCall P f args' imps r ∧ namesOk L d0 r = true ∧ backOk (L ++ newNames d0 r.news.length) (verIn s (newNames d0 r.news.length)) r = true ∧
      awp P c (retInto s L d0 r) Q

theorem awp_bind (P : Program) {α β : Type} (m : AM α) (f : α → AM β) : ∀ (s : St) (Q : β → St → Prop), awp P (m.bind f) s Q ↔ awp P m s fun a s' => awp P (f a) s' Q := by
  induction m with
  | pure a => intro s Q; simp [AM.bind, awp]
  | fail => intro s Q; simp [AM.bind, awp]
  | get k g ih => intro s Q; simp [AM.bind, awp, ih]
  | set k v c ih => intro s Q; simp [AM.bind, awp, ih]
  | mod k v c ih => intro s Q; simp [AM.bind, awp, ih]
  | call f xs d c ih => intro s Q; simp [AM.bind, awp, ih]

theorem awp_mono (P : Program) {α : Type} (m : AM α) : ∀ (s : St) {Q Q' : α → St → Prop}, awp P m s Q → (∀ a s', Q a s' → Q' a s') → awp P m s Q' := by
  induction m with
  | pure a => intro s Q Q' h hq; exact hq _ _ h
  | fail => intro s Q Q' h hq; exact h
  | get k g ih => intro s Q Q' h hq; exact ih _ _ _ h hq
  | set k v c ih => intro s Q Q' h hq; exact ih _ h hq
  | mod k v c ih => intro s Q Q' h hq; exact ih _ h hq
  | call f xs d c ih =>
    intro s Q Q' h hq
    obtain ⟨d0, L, imps, args', r, h1, hn, h2, h3, h4, h5, h6, h7, h8⟩ := h
    exact ⟨d0, L, imps, args', r, h1, hn, h2, h3, h4, h5, h6, h7, ih _ h8 hq⟩

end Go.Proofs.YtkjglhamlnnboaaDoor.Am
