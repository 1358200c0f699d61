/-
  THE ABSTRACT MACHINE, part A: values, states, programs of one operation. Plain definitions: nothing here speaks of a particular program.
-/
import Derived.Test.YtkjglhamlnnboaaDoorProg
import Derived.Orders
import Derived.Below
import Derived.Maps.AppendAt
import Derived.Lib.LaidTab
import Derived.Lib.ItoaNum
set_option linter.unusedVariables false
namespace Go.Proofs.YtkjglhamlnnboaaDoor.Am
open Go

/-- Data by value: what lies in memory that is never written again, or in no memory. -/
inductive PV where
  | v (x : Value)
  | agg (cs : List PV)
  | sl (z : Nat) (xs : List (List PV))
  | ptr (cs : List PV)
  | iface (t : TypeId) (x : PV)

instance : Inhabited PV := ⟨.v (.tuple #[])⟩

/-- What a temporary, or a cell of an object, holds. 'ptr n ver off': a cell of the object n; 'ref l ver len': the first elements of the row that the place l owns; 'own': such a row, told where it is owned. -/
inductive AV where
  | p (x : PV)
  | nilS
  | ptr (n ver off : Nat)
  | ref (l ver len : Nat)
  | eptr (l ver i j : Nat)
  | sref (n ver len : Nat)
  | own (e z : Nat) (xs : List (List PV)) (fz : Bool)
  | clo (f : FuncId) (caps : List AV)
  | agg (cs : List AV)
  | tup (vs : List AV)
  | ifc (t : TypeId) (x : AV)
  | hdr (e z : Nat)
  | junk

instance : Inhabited AV := ⟨.junk⟩

/-- May it lie in one cell? -/
def PV.one : PV → Bool
  | .v x => x.oneCell'
  | .agg _ => false
  | _ => true

/-- Places: temporaries below 4096; behind them 64 places for each object: its cells, and, the last one, its head. -/
def kcell (n j : Nat) : Nat := 4096 + n * 64 + j
def khdr (n : Nat) : Nat := 4096 + n * 64 + 63
attribute [irreducible] kcell khdr
/-- The name of the object that an operation with this destination makes. -/
def nameOf (d : Nat) : Nat := 64 + d

inductive Shape where
  | struct (fs : List (Nat × Nat))
  | array (n e : Nat)
  | slice (e : Nat)
  | string
  | other
def Shape.agg : Shape → Bool
  | .struct _ | .array _ _ => true
  | _ => false

/-- What is told of a type: its cells, its bytes, its zero, of each cell whose type is a slice the element and its size, its kind. -/
structure TI where
  size : Nat
  bytes : Nat
  zero : List AV
  cty : List (Option (Nat × Nat))
  shape : Shape

/-- Of each cell that is a slice the elements' size. -/
def TI.zs (ti : TI) : List Nat := ti.cty.map fun o => match o with
  | some (_, z) => z
  | none => 0

abbrev Tab := Nat → Option TI

/-- Values with the sizes of their types' elements. -/
def tagT {β : Type} (T : Tab) : List β → List Nat → List (β × List Nat)
  | [], _ => []
  | x :: xs, ts => (x, match ts with
    | t :: _ => (match T t with
      | some ti => ti.zs
      | none => [])
    | [] => []) :: tagT T xs ts.tail

structure St where
  val : Nat → AV
  ver : Nat → Nat

def St.set (s : St) (k : Nat) (v : AV) : St := ⟨fun x => if x = k then v else s.val x, fun x => if x = k then s.ver k + 1 else s.ver x⟩
def St.mod (s : St) (k : Nat) (v : AV) : St := ⟨fun x => if x = k then v else s.val x, s.ver⟩

/-- An object: its type, its cells. -/
structure ObjD where
  e : Nat
  cells : List AV

/-- What a call gives: its value, of each object that was handed in the cells that were written, and objects that are new. In it object i is the i-th that was handed in; behind them come the new ones. -/
structure CRes where
  ret : AV
  outs : List (List (Option AV))
  news : List ObjD

/-- Programs on states. -/
inductive AM (α : Type) where
  | pure (a : α)
  | fail
  | get (k : Nat) (f : AV → Nat → AM α)
  | set (k : Nat) (v : AV) (c : AM α)
  | mod (k : Nat) (v : AV) (c : AM α)
  | call (f : FuncId) (args : List AV) (d : Option Nat) (c : AM α)

namespace AM
def bind {α β : Type} : AM α → (α → AM β) → AM β
  | .pure a, f => f a
  | .fail, _ => .fail
  | .get k g, f => .get k fun v n => (g v n).bind f
  | .set k v c, f => .set k v (c.bind f)
  | .mod k v c, f => .mod k v (c.bind f)
  | .call g xs d c, f => .call g xs d (c.bind f)
end AM

instance : Monad AM where
  pure := AM.pure
  bind := AM.bind

def rd (k : Nat) : AM (AV × Nat) := .get k fun v n => .pure (v, n)
def wr (k : Nat) (v : AV) : AM Unit := .set k v (.pure ())
def md (k : Nat) (v : AV) : AM Unit := .mod k v (.pure ())
def no {α : Type} : AM α := .fail
def ofO {α : Type} : Option α → AM α
  | some a => .pure a
  | none => .fail
def must (b : Bool) : AM Unit := if b then .pure () else .fail

def mapA {α β : Type} (f : α → AM β) : List α → AM (List β)
  | [] => .pure []
  | a :: r => (f a).bind fun b => (mapA f r).bind fun bs => .pure (b :: bs)

/-- A computation of the model that touches no memory. -/
def pureRun {α : Type} (P : Program) : Sem α → Option α
  | .pure a => some a
  | .program k => pureRun P (k P)
  | _ => none

/-- An operand's value. A place that owns a row is read as a reference to it. -/
def evalO : Operand → AM AV
  | .tmp t => if t < 4096 then .get t fun v n => match v with
    | .own _ _ xs _ => .pure (.ref t n xs.length)
    | .hdr _ _ => .fail
    | v => .pure v
    else .fail
  | .const v => match v with
    | .slice none 0 0 => .pure .nilS
    | v => .pure (.p (.v v))
  | .global _ => .fail
  | .func f => .pure (.clo f [])

/-- What the place l owns, as far as a reference may be read. -/
def ownAt (l n len : Nat) : AM (Nat × Nat × List (List PV) × Bool) := .get l fun v m => match v with
  | .own e z xs fz => if m = n ∧ len ≤ xs.length then .pure (e, z, xs, fz) else .fail
  | _ => .fail

mutual
/-- A value for good: of a reference what it shows, which is not written any more. -/
def snap : List Nat → AV → AM PV
  | _, .p x => .pure x
  | zs, .nilS => .pure (.sl (zs.headD 0) [])
  | _, .ref l n len => (ownAt l n len).bind fun (e, z, xs, _) => .mod l (.own e z xs true) (.pure (.sl z (xs.take len)))
  | zs, .agg cs => (snaps zs cs).bind fun xs => .pure (.agg xs)
  | _, .clo f [] => .pure (.v (.func (.func f) #[] #[]))
  | _, .ifc t x => (snap [] x).bind fun y => .pure (.iface t y)
  | _, _ => .fail
def snaps : List Nat → List AV → AM (List PV)
  | _, [] => .pure []
  | zs, c :: r => (snap zs c).bind fun x => (snaps zs.tail r).bind fun xs => .pure (x :: xs)
end

/-- Plain cells as one plain value. -/
def allP : List AV → Option (List PV)
  | [] => some []
  | .p x :: r => (allP r).map (x :: ·)
  | _ => none
def aggA (cs : List AV) : AV := match allP cs with
  | some l => .p (.agg l)
  | none => .agg cs

mutual
/-- An argument: references become what they show; pointers stay. -/
def argOf : List Nat → AV → AM AV
  | zs, .nilS => .pure (.p (.sl (zs.headD 0) []))
  | _, .ref l n len => (snap [] (.ref l n len)).bind fun x => .pure (.p x)
  | zs, .agg cs => (argsOf zs cs).bind fun xs => .pure (aggA xs)
  | _, .ifc t x => (argOf [] x).bind fun y => .pure (.ifc t y)
  | _, .p x => .pure (.p x)
  | _, .ptr n v o => .pure (.ptr n v o)
  | _, .clo f caps => .pure (.clo f caps)
  | _, _ => .fail
def argsOf : List Nat → List AV → AM (List AV)
  | _, [] => .pure []
  | zs, c :: r => (argOf zs c).bind fun x => (argsOf zs.tail r).bind fun xs => .pure (x :: xs)
end

/-- A value's cells. -/
def cellsA : AV → List AV
  | .agg cs => cs
  | .p (.agg cs) => cs.map .p
  | .p (.v (.agg c)) => c.toList.map fun x => .p (.v x)
  | v => [v]

/-- What may be captured. -/
def capOk : AV → Bool
  | .p _ | .ptr .. | .clo .. => true
  | _ => false

/-- One cell is written: a row that a temporary owns goes over as a whole; of any other reference what it shows. -/
def putCell (k : Nat) (ty : Option (Nat × Nat)) : AV → AM Unit
  | .nilS => match ty with
    | some (e, z) => .set k (.own e z [] false) (.pure ())
    | none => .fail
  | .ref l n len => (ownAt l n len).bind fun (e, z, xs, fz) =>
      if l = k ∧ fz = false then .set k (.own e z (xs.take len) false) (.pure ())
      else if l ≠ k ∧ l < 4096 ∧ len = xs.length then
        .set k (.own e z xs fz) (.get k fun _ m => .mod l (.ref k m len) (.pure ()))
      else .mod l (.own e z xs true) (.set k (.p (.sl z (xs.take len))) (.pure ()))
  | .p x => if x.one then .set k (.p x) (.pure ()) else .fail
  | .ptr n v o => .set k (.ptr n v o) (.pure ())
  | .eptr l n i j => .set k (.eptr l n i j) (.pure ())
  | .sref n v len => .set k (.sref n v len) (.pure ())
  | .clo f caps => .set k (.clo f caps) (.pure ())
  | .ifc t x => if capOk x then .set k (.ifc t x) (.pure ()) else .fail
  | _ => .fail

def putCells (k : Nat) : List (Option (Nat × Nat)) → List AV → AM Unit
  | t :: ts, c :: cs => (putCell k t c).bind fun _ => putCells (k + 1) ts cs
  | [], [] => .pure ()
  | _, _ => .fail

/-- Cells of which nothing is told. -/
def clearA (k : Nat) : Nat → AM Unit
  | 0 => .pure ()
  | z + 1 => .mod k .junk (clearA (k + 1) z)

/-- A new object, its cells given. -/
def newObjA (n e : Nat) (ty : List (Option (Nat × Nat))) (cs : List AV) : AM AV :=
  if cs.length ≤ 62 ∧ ty.length = cs.length then
    (clearA (kcell n 0) cs.length).bind fun _ => .set (khdr n) (.hdr e cs.length) ((putCells (kcell n 0) ty cs).bind fun _ => .get (khdr n) fun _ m => .pure (.ptr n m 0))
  else .fail

/-- The result of an operation. -/
def putD (d : Option Nat) (v : AV) : AM Unit := match d with
  | some d => .set d v (.pure ())
  | none => .pure ()

/-- The cells from a place on. -/
def rdCells (k : Nat) : Nat → AM (List AV)
  | 0 => .pure []
  | z + 1 => .get k fun v n => (rdCells (k + 1) z).bind fun r => match v with
    | .own _ _ xs _ => .pure (.ref k n xs.length :: r)
    | .hdr _ _ => .fail
    | v => .pure (v :: r)

/-- An object's head: its size, if the pointer is to it as it is. -/
def hdrAt (n ver : Nat) : AM (Nat × Nat) := .get (khdr n) fun v m => match v with
  | .hdr e z => if m = ver then .pure (e, z) else .fail
  | _ => .fail

/-- A value of so many cells as one value. -/
def packA (isAgg : Bool) (cs : List AV) : AM AV :=
  if isAgg then .pure (.agg cs) else match cs with
  | [c] => .pure c
  | _ => .fail

def loadA (ti : TI) : AV → AM AV
  | .ptr n ver off => (hdrAt n ver).bind fun (_, z) => if off + ti.size ≤ z then (rdCells (kcell n off) ti.size).bind (packA ti.shape.agg) else .fail
  | .eptr l n i j => .get l fun v m => match v with
    | .own _ z xs _ => if m = n then (match xs[i]? with
        | some row => if j + ti.size ≤ row.length then packA ti.shape.agg ((row.drop j).take ti.size |>.map .p) else .fail
        | none => .fail) else .fail
    | _ => .fail
  | .p (.ptr cs) => if ti.size ≤ cs.length then packA ti.shape.agg ((cs.take ti.size).map .p) else .fail
  | _ => .fail

/-- A row with some cells written. -/
def patch (row : List PV) (j : Nat) (xs : List PV) : List PV := row.take j ++ xs ++ row.drop (j + xs.length)

def storeA (ti : TI) (a v : AV) : AM Unit :=
  let cs := cellsA v
  if cs.length = ti.size then
    match a with
    | .ptr n ver off => (hdrAt n ver).bind fun (_, z) => if off + ti.size ≤ z then putCells (kcell n off) ti.cty cs else .fail
    | .eptr l n i j => (snaps ti.zs cs).bind fun xs => .get l fun v m => match v with
      | .own e z rows false => if m = n then (match rows[i]? with
          | some row => if j + xs.length ≤ row.length ∧ xs.all PV.one = true then .mod l (.own e z (rows.set i (patch row j xs)) false) (.pure ()) else .fail
          | none => .fail) else .fail
      | _ => .fail
    | _ => .fail
  else .fail

/-- The int that an index is. -/
def intA : AV → Option Int
  | .p (.v (.int _ i)) => some i
  | _ => none

def indexAddrA (z : Nat) (x i : AV) : AM AV :=
  match intA i with
  | none => .fail
  | some i => match x with
    | .ref l n len => (ownAt l n len).bind fun (_, z', _, _) => if 0 ≤ i ∧ i < len ∧ z' = z then .pure (.eptr l n i.toNat 0) else .fail
    | .sref n ver len => if 0 ≤ i ∧ i < len ∧ z = 1 then .pure (.ptr n ver i.toNat) else .fail
    | .p (.sl z' xs) => if 0 ≤ i ∧ z' = z then (match xs[i.toNat]? with
        | some row => .pure (.p (.ptr row))
        | none => .fail) else .fail
    | _ => .fail

def fieldAddrA (off : Nat) : AV → AM AV
  | .ptr n ver o => .pure (.ptr n ver (o + off))
  | .eptr l n i j => .pure (.eptr l n i (j + off))
  | .p (.ptr cs) => .pure (.p (.ptr (cs.drop off)))
  | _ => .fail

/-- A bound of a slice expression. -/
def boundA (d : Nat) : Option AV → Option Nat
  | none => some d
  | some a => match intA a with
    | some i => if 0 ≤ i then some i.toNat else none
    | none => none

def sliceA (z : Nat) (x : AV) (lo hi : Option AV) : AM AV :=
  match x with
  | .ref l n len => match boundA 0 lo, boundA len hi with
    | some a, some b => if a = 0 ∧ b ≤ len then (ownAt l n len).bind fun _ => .pure (.ref l n b)
        else if a ≤ b ∧ b ≤ len then (snap [] (.ref l n len)).bind fun y => match y with
          | .sl z' xs => if z' = z then .pure (.p (.sl z ((xs.take b).drop a))) else .fail
          | _ => .fail
        else .fail
    | _, _ => .fail
  | .p (.sl z' xs) => match boundA 0 lo, boundA xs.length hi with
    | some a, some b => if a ≤ b ∧ b ≤ xs.length ∧ (z' = z ∨ xs = []) then .pure (.p (.sl z' ((xs.take b).drop a))) else .fail
    | _, _ => .fail
  | .nilS => match boundA 0 lo, boundA 0 hi with
    | some 0, some 0 => .pure .nilS
    | _, _ => .fail
  | _ => .fail

/-- The rows of a source of append, or copy. -/
def srcA (x : AV) : AM (Nat × List (List PV)) := match x with
  | .p (.sl z ys) => .pure (z, ys)
  | .nilS => .pure (0, [])
  | .ref l n len => (ownAt l n len).bind fun (_, z, xs, _) => .pure (z, xs.take len)
  | _ => .fail

/-- The greatest number of bytes of a row. -/
def roomA : Nat := 140737488355328

/-- append: the row goes from its place to the result. -/
def appendRows (e : Nat) (ti : TI) (x : AV) (z0 : Nat) (ys : List (List PV)) : AM AV :=
  if (z0 = ti.size ∨ ys = []) ∧ 0 < ti.size ∧ 0 < ti.bytes then
    match x with
    | .nilS => if ys.length * ti.bytes ≤ roomA then .pure (.own e ti.size ys false) else .fail
    | .p (.sl _ []) => if ys = [] then .pure (.p (.sl 0 [])) else .fail
    | .ref l n len => (ownAt l n len).bind fun (e', z, xs, fz) =>
        if e' = e ∧ z = ti.size ∧ (fz = false ∨ len = xs.length) ∧ (len + ys.length) * ti.bytes ≤ roomA then
          .set l .junk (.pure (.own e z (xs.take len ++ ys) fz)) else .fail
    | _ => .fail
  else .fail
def appendA (e : Nat) (ti : TI) (x y : AV) : AM AV := (srcA y).bind fun q => appendRows e ti x q.1 q.2
/-- A string's bytes as rows. -/
def byteRows (s : ByteArray) : List (List PV) := s.data.toList.map fun b => [.v (.int .u8 b.toNat)]

/-- copy of what fits as a whole. -/
def copyA (ti : TI) (x y : AV) : AM AV :=
  (srcA y).bind fun (z0, ys) => if (z0 = ti.size ∨ ys = []) ∧ 0 < ti.size then
    match x with
    | .ref l n len => (ownAt l n len).bind fun (e, z, xs, fz) =>
        if z = ti.size ∧ fz = false ∧ ys.length ≤ len then .mod l (.own e z (ys ++ xs.drop ys.length) false) (.pure (.p (.v (.int .i64 ys.length)))) else .fail
    | _ => .fail
  else .fail

def lenA : AV → AM Nat
  | .nilS => .pure 0
  | .p (.sl _ xs) => .pure xs.length
  | .ref l n len => (ownAt l n len).bind fun _ => .pure len
  | .sref _ _ len => .pure len
  | _ => .fail

/-- Parts laid into a list of cells. -/
def layAt {α : Type} (cs : List α) (off : Nat) (xs : List α) : Option (List α) :=
  if off + xs.length ≤ cs.length then some (cs.take off ++ xs ++ cs.drop (off + xs.length)) else none

mutual
/-- A part of a struct that is built: references become what they show. -/
def partOf : AV → AM AV
  | .nilS => .pure .nilS
  | .ref l n len => (snap [] (.ref l n len)).bind fun x => .pure (.p x)
  | .agg cs => (partsOf cs).bind fun xs => .pure (.agg xs)
  | .ifc t x => (partOf x).bind fun y => .pure (.ifc t y)
  | .p x => .pure (.p x)
  | .ptr n v o => .pure (.ptr n v o)
  | .clo f caps => .pure (.clo f caps)
  | _ => .fail
def partsOf : List AV → AM (List AV)
  | [] => .pure []
  | c :: r => (partOf c).bind fun x => (partsOf r).bind fun xs => .pure (x :: xs)
end

def buildA (T : Tab) (fields : List (Nat × Nat)) : List AV → List (Nat × AV) → AM (List AV)
  | cs, [] => .pure cs
  | cs, (i, v) :: rest => match fields[i]? with
    | some (off, t) => match T t with
      | some ti => (partOf v).bind fun v' =>
          let xs := cellsA v'
          if xs.length = ti.size then (match layAt cs off xs with
            | some cs' => buildA T fields cs' rest
            | none => .fail) else .fail
      | none => .fail
    | none => .fail

def toPVs : List Nat → List AV → Option (List PV)
  | _, [] => some []
  | zs, .p x :: r => (toPVs zs.tail r).map (x :: ·)
  | zs, .nilS :: r => (toPVs zs.tail r).map (.sl (zs.headD 0) [] :: ·)
  | _, _ => none

def buildRows (z : Nat) (ws : List Nat) : List (List PV) → List (Nat × AV) → AM (List (List PV))
  | rows, [] => .pure rows
  | rows, (i, v) :: rest => (snaps ws (cellsA v)).bind fun xs =>
      if xs.length = z ∧ i < rows.length ∧ xs.all PV.one = true then buildRows z ws (rows.set i xs) rest else .fail

/-- May it be laid as a cell of a row that is an object? -/
def slotOk : AV → Bool
  | .ptr .. | .clo .. => true
  | .p x => x.one
  | _ => false

/-- A row of pointers, or of functions: an object of its own. -/
def ptrRow : List AV → Bool
  | [.p (.v (.pointer none))] => true
  | [.p (.v .nilFunc)] => true
  | _ => false

def rowObj (d e len : Nat) (vs : List (Nat × AV)) : AM Unit :=
  if vs.map (·.1) = List.range len ∧ (vs.all fun x => slotOk x.2) = true ∧ 0 < len then
    (newObjA (nameOf d) e (List.replicate len none) (vs.map (·.2))).bind fun p => match p with
      | .ptr n v 0 => .set d (.sref n v len) (.pure ())
      | _ => .fail
  else .fail

/-- A value that is no reference: told as it is. -/
def scal : AV → Option Value
  | .p (.v x) => some x
  | _ => none

def assignA (d : Nat) (ty : Option (Nat × Nat)) : AV → AM Unit
  | .agg cs => (partsOf cs).bind fun xs => .set d (.agg xs) (.pure ())
  | .p x => .set d (.p x) (.pure ())
  | v => putCell d ty v

def withT {α : Type} (T : Tab) (t : Nat) (f : TI → AM α) : AM α := match T t with
  | some ti => f ti
  | none => .fail

def withD (d : Option Nat) (f : Nat → AM Unit) : AM Unit := match d with
  | some d => f d
  | none => .fail

def pureV (P : Program) (d : Option Nat) (m : Sem Value) : AM Unit := match pureRun P m with
  | some v => putD d (.p (.v v))
  | none => .fail

def opCall (P : Program) (T : Tab) (o : Oper) (c : Call) : AM Unit := match c.callee with
  | .value f => (evalO f).bind fun v => (mapA (fun (x : Operand × List Nat) => (evalO x.1).bind (argOf x.2)) (tagT T c.args.toList c.argTypes.toList)).bind fun args => match v with
      | .clo g caps => .call g (args ++ caps) o.dst (.pure ())
      | _ => .fail
  | .builtin .len => match c.args.toList, c.argTypes.toList with
      | [x], [t] => (evalO x).bind fun v => match scal v with
          | some u => pureV P o.dst (Builtin.len_ #[t] o.type #[u])
          | none => withT T t fun tt => match tt.shape with
            | .slice _ => (lenA v).bind fun n => putD o.dst (.p (.v (.int .i64 n)))
            | _ => .fail
      | _, _ => .fail
  | .builtin .append => match c.args.toList, c.argTypes.toList with
      | [x, y], [t, t'] => if t = t' then withT T t fun tt => match tt.shape with
          | .slice e => withT T e fun ti => (evalO x).bind fun a => (evalO y).bind fun b => (appendA e ti a b).bind fun r => withD o.dst fun d => putD (some d) r
          | _ => .fail
        else withT T t fun tt => withT T t' fun tx => match tt.shape, tx.shape with
          | .slice e, .string => withT T e fun ti => (evalO x).bind fun a => (evalO y).bind fun b => match scal b with
              | some (.string s) => (appendRows e ti a 1 (byteRows s)).bind fun r => withD o.dst fun d => putD (some d) r
              | _ => .fail
          | _, _ => .fail
      | _, _ => .fail
  | .builtin .copy => match c.args.toList, c.argTypes.toList with
      | [x, y], [t, _] => withT T t fun tt => match tt.shape with
          | .slice e => withT T e fun ti => (evalO x).bind fun a => (evalO y).bind fun b => (copyA ti a b).bind fun r => putD o.dst r
          | _ => .fail
      | _, _ => .fail
  | .builtin b => (mapA evalO c.args.toList).bind fun vs => match vs.mapM scal with
      | some xs => pureV P o.dst (match b with
          | .min => Builtin.min_ c.argTypes o.type xs.toArray
          | .max => Builtin.max_ c.argTypes o.type xs.toArray
          | _ => .halt (.stuck ""))
      | none => .fail
  | _ => .fail

/-- One operation. -/
def opAM (P : Program) (T : Tab) (o : Oper) : AM Unit := match o.op with
  | .move x => (evalO x).bind fun v => putD o.dst v
  | .pick c x y => (evalO c).bind fun v => match scal v with
      | some (.bool q) => (evalO (if q then x else y)).bind fun u => putD o.dst u
      | _ => .fail
  | .assign x => (evalO x).bind fun v => withD o.dst fun d => withT T o.type fun ti => assignA d (ti.cty.headD none) v
  | .alloc e => withD o.dst fun d => withT T e fun ti => (newObjA (nameOf d) e ti.cty ti.zero).bind fun v => .set d v (.pure ())
  | .box e x => withD o.dst fun d => withT T e fun ti => (evalO x).bind fun v => if (cellsA v).length = ti.size then (newObjA (nameOf d) e ti.cty (cellsA v)).bind fun v => .set d v (.pure ()) else .fail
  | .build t parts => withT T t fun ti => (mapA (fun x => (evalO x.2).bind fun v => .pure (x.1, v)) parts.toList).bind fun vs => match ti.shape with
      | .struct fs => (buildA T fs ti.zero vs).bind fun cs => putD o.dst (.agg cs)
      | _ => .fail
  | .buildSlice t len parts => withD o.dst fun d => withT T t fun tt => match tt.shape with
      | .slice e => withT T e fun ti => (mapA (fun x => (evalO x.2).bind fun v => .pure (x.1, v)) parts.toList).bind fun vs => if ptrRow ti.zero = true then (if ti.size = 1 ∧ len ≤ 62 then rowObj d e len vs else .fail) else match toPVs ti.zs ti.zero with
          | some z => if 0 < ti.size ∧ len * ti.size ≤ 16777216 then (buildRows ti.size ti.zs (List.replicate len z) vs).bind fun rows => putD (some d) (.own e ti.size rows false) else .fail
          | none => .fail
      | _ => .fail
  | .load t a => withT T t fun ti => (evalO a).bind fun x => (loadA ti x).bind fun v => putD o.dst v
  | .store t a x => if o.dst.isSome then .fail else withT T t fun ti => (evalO a).bind fun p => (evalO x).bind fun v => storeA ti p v
  | .nilCheck x => (evalO x).bind fun v => match v with
      | .ptr .. | .eptr .. | .p (.ptr _) | .clo .. => putD o.dst v
      | _ => .fail
  | .binOp op t x y _ => (evalO x).bind fun a => (evalO y).bind fun b => match scal a, scal b with
      | some u, some v => pureV P o.dst (do eqGuard op t x y u v; binOp op t u v)
      | _, _ => .fail
  | .unOp op _ x => (evalO x).bind fun a => match scal a with
      | some u => pureV P o.dst (Op.unary op u)
      | none => .fail
  | .convert src dst x => (evalO x).bind fun a => match scal a with
      | some u => pureV P o.dst (convert src dst u)
      | none => .fail
  | .makeFunc (.func f) first caps => if first.isEmpty then (mapA evalO caps.toList).bind fun vs => if vs.all capOk then putD o.dst (.clo f vs) else .fail else .fail
  | .makeSlice t l c => withD o.dst fun d => withT T t fun tt => match tt.shape with
      | .slice e => withT T e fun ti => (evalO l).bind fun a => (evalO c).bind fun b => match a, b, toPVs ti.zs ti.zero with
          | .p (.v (.int _ n)), .p (.v (.int _ m)), some z => if n = m ∧ 0 ≤ n ∧ n ≤ 9223372036854775807 ∧ n.toNat * ti.bytes ≤ roomA ∧ 0 < ti.size then putD (some d) (.own e ti.size (List.replicate n.toNat z) false) else .fail
          | _, _, _ => .fail
      | _ => .fail
  | .slice t x lo hi none => (evalO x).bind fun v => (mapA evalO lo.toList).bind fun l => (mapA evalO hi.toList).bind fun h => match scal v with
      | some u => match l.mapM scal, h.mapM scal with
          | some l, some h => pureV P o.dst (Instr.sliceAt t u l.head? h.head? none)
          | _, _ => .fail
      | none => withT T t fun tt => match tt.shape with
          | .slice e => withT T e fun ti => if 0 < ti.size then (sliceA ti.size v l.head? h.head?).bind fun r => putD o.dst r else .fail
          | _ => .fail
  | .fieldAddr t x f => withT T t fun ti => match ti.shape with
      | .struct fs => match fs[f]? with
          | some (off, _) => (evalO x).bind fun v => (fieldAddrA off v).bind fun r => putD o.dst r
          | none => .fail
      | _ => .fail
  | .indexAddr t x i => withT T t fun tt => match tt.shape with
      | .slice e => withT T e fun ti => (evalO x).bind fun v => (evalO i).bind fun j => (indexAddrA ti.size v j).bind fun r => putD o.dst r
      | _ => .fail
  | .index t x i => (evalO x).bind fun a => (evalO i).bind fun b => match scal a, scal b with
      | some u, some v => pureV P o.dst (Instr.index t u v)
      | _, _ => .fail
  | .extract x i => (evalO x).bind fun v => match v with
      | .tup vs => match vs[i]? with
          | some u => putD o.dst u
          | none => .fail
      | _ => .fail
  | .call c => opCall P T o c
  | _ => .fail

end Go.Proofs.YtkjglhamlnnboaaDoor.Am
