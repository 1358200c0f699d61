/-
  THE ABSTRACT MACHINE, part R: the operations once more, for evaluation: tests on what need not be known stand as questions of their own.
-/
import Derived.Test.YtkjglhamlnnboaaDoorAmQ
set_option linter.unusedVariables false
set_option linter.unusedSimpArgs false
namespace Go.Proofs.YtkjglhamlnnboaaDoor.Am
open Go Go.RowKit

inductive AE (α : Type) : Type 1 where
  | pure (a : α)
  | fail
  | get (k : Nat) (f : AV → Nat → AE α)
  | set (k : Nat) (v : AV) (c : AE α)
  | mod (k : Nat) (v : AV) (c : AE α)
  | call (f : FuncId) (args : List AV) (d : Option Nat) (c : AE α)
  | opt {β : Type} (m : Unit → Option β) (f : β → AE α)
  | br (b : Bool) (x y : Unit → AE α)

def AE.lower {α : Type} : AE α → AM α
  | .pure a => .pure a
  | .fail => .fail
  | .get k f => .get k fun v n => (f v n).lower
  | .set k v c => .set k v c.lower
  | .mod k v c => .mod k v c.lower
  | .call f args d c => .call f args d c.lower
  | .opt m f => match m () with
    | some a => (f a).lower
    | none => .fail
  | .br b x y => if b then (x ()).lower else (y ()).lower

/-- What is done with rows: by names that stay, where a proof is asked. -/
class LO where
  len : List (List PV) → Nat
  take : Nat → List (List PV) → List (List PV)
  drop : Nat → List (List PV) → List (List PV)
  app : List (List PV) → List (List PV) → List (List PV)
  set : List (List PV) → Nat → List PV → List (List PV)
  bytes : ByteArray → List (List PV)
  rep : Nat → List PV → List (List PV)

def guardO (b : Bool) : Option Unit := if b then some () else none

/-- An index's number, when it is none below 0. -/
def natO (i : Int) : Option Nat := if 0 ≤ i then some i.toNat else none
def inO (i : Int) (len : Nat) : Option Nat := if i < len then natO i else none
def getO (xs : List (List PV)) (j : Nat) : Option (List PV) := xs[j]?
def atO (xs : List (List PV)) (i : Int) : Option (List PV) := (natO i).bind fun j => xs[j]?
def lenO (n : Nat) : Option Int := some (n : Int)
def mkO (n m : Int) (z : Nat) : Option Nat := if n = m ∧ n ≤ 9223372036854775807 ∧ n.toNat * z ≤ roomA then natO n else none
/-- Room for so many more. -/
def roomO (fz : Bool) (len n more z : Nat) : Bool := decide ((fz = false ∨ len = n) ∧ (len + more) * z ≤ roomA)
def cutO (a b len : Nat) : Bool := decide (a ≤ b ∧ b ≤ len)

section
variable {α : Type} [F : LO]

/-- The head of rows. -/
def cutL (len : Nat) (xs : List (List PV)) : List (List PV) := if len = LO.len xs then xs else LO.take len xs

def evalX : Operand → (AV → AE α) → AE α
  | .tmp t, K => if t < 4096 then .get t fun v n => (match v with
    | .own _ _ xs _ => K (.ref t n (LO.len xs))
    | .hdr _ _ => .fail
    | v => K v)
    else .fail
  | .const v, K => (match v with
    | .slice none 0 0 => K .nilS
    | v => K (.p (.v v)))
  | .global _, _ => .fail
  | .func f, K => K (.clo f [])

def ownX (l n len : Nat) (K : Nat → Nat → List (List PV) → Bool → AE α) : AE α := .get l fun v m => match v with
  | .own e z xs fz => if m = n then .opt (fun _ => guardO (Nat.ble len (LO.len xs))) fun _ => K e z xs fz else .fail
  | _ => .fail

mutual
def snapX : List Nat → AV → (PV → AE α) → AE α
  | _, .p x, K => K x
  | zs, .nilS, K => K (.sl (zs.headD 0) [])
  | _, .ref l n len, K => ownX l n len fun e z xs _ => .mod l (.own e z xs true) (K (.sl z (cutL len xs)))
  | zs, .agg cs, K => snapsX zs cs fun xs => K (.agg xs)
  | _, .clo f [], K => K (.v (.func (.func f) #[] #[]))
  | _, .ifc t x, K => snapX [] x fun y => K (.iface t y)
  | _, _, _ => .fail
def snapsX : List Nat → List AV → (List PV → AE α) → AE α
  | _, [], K => K []
  | zs, c :: r, K => snapX zs c fun x => snapsX zs.tail r fun xs => K (x :: xs)
end

mutual
def argX : List Nat → AV → (AV → AE α) → AE α
  | zs, .nilS, K => K (.p (.sl (zs.headD 0) []))
  | _, .ref l n len, K => ownX l n len fun e z xs _ => .mod l (.own e z xs true) (K (.p (.sl z (cutL len xs))))
  | zs, .agg cs, K => argsX zs cs fun xs => K (aggA xs)
  | _, .ifc t x, K => argX [] x fun y => K (.ifc t y)
  | _, .p x, K => K (.p x)
  | _, .ptr n v o, K => K (.ptr n v o)
  | _, .clo f caps, K => K (.clo f caps)
  | _, _, _ => .fail
def argsX : List Nat → List AV → (List AV → AE α) → AE α
  | _, [], K => K []
  | zs, c :: r, K => argX zs c fun x => argsX zs.tail r fun xs => K (x :: xs)
end

mutual
def partX : AV → (AV → AE α) → AE α
  | .nilS, K => K .nilS
  | .ref l n len, K => ownX l n len fun e z xs _ => .mod l (.own e z xs true) (K (.p (.sl z (cutL len xs))))
  | .agg cs, K => partsX cs fun xs => K (.agg xs)
  | .ifc t x, K => partX x fun y => K (.ifc t y)
  | .p x, K => K (.p x)
  | .ptr n v o, K => K (.ptr n v o)
  | .clo f caps, K => K (.clo f caps)
  | _, _ => .fail
def partsX : List AV → (List AV → AE α) → AE α
  | [], K => K []
  | c :: r, K => partX c fun x => partsX r fun xs => K (x :: xs)
end

def putCellX (k : Nat) (ty : Option (Nat × Nat)) (v : AV) (K : AE α) : AE α := match v with
  | .nilS => (match ty with
    | some (e, z) => .set k (.own e z [] false) K
    | none => .fail)
  | .ref l n len => ownX l n len fun e z xs fz =>
      if l = k then (if fz = false then .set k (.own e z (cutL len xs) false) K else .mod l (.own e z xs true) (.set k (.p (.sl z (cutL len xs))) K))
      else if l < 4096 then (if len = LO.len xs then .set k (.own e z xs fz) (.get k fun _ m => .mod l (.ref k m len) K) else .mod l (.own e z xs true) (.set k (.p (.sl z (cutL len xs))) K))
      else .mod l (.own e z xs true) (.set k (.p (.sl z (cutL len xs))) K)
  | .p x => if x.one then .set k (.p x) K else .fail
  | .ptr n v o => .set k (.ptr n v o) K
  | .eptr l n i j => .set k (.eptr l n i j) K
  | .sref n v len => .set k (.sref n v len) K
  | .clo f caps => .set k (.clo f caps) K
  | .ifc t x => if capOk x then .set k (.ifc t x) K else .fail
  | _ => .fail

def putCellsX (k : Nat) : List (Option (Nat × Nat)) → List AV → AE α → AE α
  | t :: ts, c :: cs, K => putCellX k t c (putCellsX (k + 1) ts cs K)
  | [], [], K => K
  | _, _, _ => .fail

def clearX (k : Nat) : Nat → AE α → AE α
  | 0, K => K
  | z + 1, K => .mod k .junk (clearX (k + 1) z K)

def newObjX (n e : Nat) (ty : List (Option (Nat × Nat))) (cs : List AV) (K : AV → AE α) : AE α :=
  if cs.length ≤ 62 then (if ty.length = cs.length then
    clearX (kcell n 0) cs.length (.set (khdr n) (.hdr e cs.length) (putCellsX (kcell n 0) ty cs (.get (khdr n) fun _ m => K (.ptr n m 0))))
  else .fail) else .fail

def putX (d : Option Nat) (v : AV) (K : AE α) : AE α := match d with
  | some d => .set d v K
  | none => K

def rdCellsX (k : Nat) : Nat → (List AV → AE α) → AE α
  | 0, K => K []
  | z + 1, K => .get k fun v n => rdCellsX (k + 1) z fun r => match v with
    | .own _ _ xs _ => K (.ref k n (LO.len xs) :: r)
    | .hdr _ _ => .fail
    | v => K (v :: r)

def hdrX (n ver : Nat) (K : Nat → Nat → AE α) : AE α := .get (khdr n) fun v m => match v with
  | .hdr e z => if m = ver then K e z else .fail
  | _ => .fail

def packX (isAgg : Bool) (cs : List AV) (K : AV → AE α) : AE α :=
  if isAgg then K (.agg cs) else match cs with
  | [c] => K c
  | _ => .fail

def loadX (ti : TI) (a : AV) (K : AV → AE α) : AE α := match a with
  | .ptr n ver off => hdrX n ver fun _ z => if off + ti.size ≤ z then rdCellsX (kcell n off) ti.size fun cs => packX ti.shape.agg cs K else .fail
  | .eptr l n i j => .get l fun v m => match v with
    | .own _ z xs _ => if m = n then .opt (fun _ => getO xs i) fun row => (if j + ti.size ≤ row.length then packX ti.shape.agg ((row.drop j).take ti.size |>.map .p) K else .fail) else .fail
    | _ => .fail
  | .p (.ptr cs) => if ti.size ≤ cs.length then packX ti.shape.agg ((cs.take ti.size).map .p) K else .fail
  | _ => .fail

def storeX (ti : TI) (a v : AV) (K : AE α) : AE α :=
  if (cellsA v).length = ti.size then
    match a with
    | .ptr n ver off => hdrX n ver fun _ z => if off + ti.size ≤ z then putCellsX (kcell n off) ti.cty (cellsA v) K else .fail
    | .eptr l n i j => snapsX ti.zs (cellsA v) fun xs => .get l fun v m => match v with
      | .own e z rows false => if m = n then .opt (fun _ => getO rows i) fun row => (if j + xs.length ≤ row.length then (if xs.all PV.one = true then .mod l (.own e z (LO.set rows i (patch row j xs)) false) K else .fail) else .fail) else .fail
      | _ => .fail
    | _ => .fail
  else .fail

def indexAddrX (z : Nat) (x i : AV) (K : AV → AE α) : AE α :=
  match intA i with
  | none => .fail
  | some i => match x with
    | .ref l n len => ownX l n len fun _ z' _ _ => if z' = z then .opt (fun _ => inO i len) fun j => K (.eptr l n j 0) else .fail
    | .sref n ver len => if z = 1 then .opt (fun _ => inO i len) fun j => K (.ptr n ver j) else .fail
    | .p (.sl z' xs) => if z' = z then .opt (fun _ => atO xs i) fun row => K (.p (.ptr row)) else .fail
    | _ => .fail

def fieldAddrX (off : Nat) (a : AV) (K : AV → AE α) : AE α := match a with
  | .ptr n ver o => K (.ptr n ver (o + off))
  | .eptr l n i j => K (.eptr l n i (j + off))
  | .p (.ptr cs) => K (.p (.ptr (cs.drop off)))
  | _ => .fail

def boundX (d : Nat) (o : Option AV) (K : Nat → AE α) : AE α := match o with
  | none => K d
  | some a => match intA a with
    | some i => .opt (fun _ => natO i) K
    | none => .fail

def sliceX (z : Nat) (x : AV) (lo hi : Option AV) (K : AV → AE α) : AE α :=
  match x with
  | .ref l n len => boundX 0 lo fun a => boundX len hi fun b => .opt (fun _ => guardO (cutO a b len)) fun _ =>
      if a = 0 then ownX l n len fun _ _ _ _ => K (.ref l n b)
      else ownX l n len fun e z' xs _ => .mod l (.own e z' xs true) (if z' = z then K (.p (.sl z (LO.drop a (cutL b (cutL len xs))))) else .fail)
  | .p (.sl z' xs) => boundX 0 lo fun a => boundX (LO.len xs) hi fun b => .opt (fun _ => guardO (cutO a b (LO.len xs))) fun _ =>
      if z' = z then K (.p (.sl z' (if a = 0 then cutL b xs else LO.drop a (cutL b xs)))) else .opt (fun _ => guardO xs.isEmpty) fun _ => K (.p (.sl z' (if a = 0 then cutL b xs else LO.drop a (cutL b xs))))
  | .nilS => boundX 0 lo fun a => boundX 0 hi fun b => .opt (fun _ => guardO (cutO a b 0)) fun _ => K .nilS
  | _ => .fail

def srcX (x : AV) (K : Nat → List (List PV) → AE α) : AE α := match x with
  | .p (.sl z ys) => K z ys
  | .nilS => K 0 []
  | .ref l n len => ownX l n len fun _ z xs _ => K z (cutL len xs)
  | _ => .fail

def appGoX (e : Nat) (ti : TI) (x : AV) (ys : List (List PV)) (K : AV → AE α) : AE α :=
  if 0 < ti.size then (if 0 < ti.bytes then (match x with
    | .nilS => .opt (fun _ => guardO (Nat.ble (LO.len ys * ti.bytes) roomA)) fun _ => K (.own e ti.size ys false)
    | .p (.sl _ []) => .opt (fun _ => guardO ys.isEmpty) fun _ => K (.p (.sl 0 []))
    | .ref l n len => ownX l n len fun e' z xs fz => if e' = e then (if z = ti.size then .opt (fun _ => guardO (roomO fz len (LO.len xs) (LO.len ys) ti.bytes)) fun _ =>
          .set l .junk (K (.own e z (LO.app (cutL len xs) ys) fz)) else .fail) else .fail
    | _ => .fail) else .fail) else .fail
def appendX (e : Nat) (ti : TI) (x : AV) (z0 : Nat) (ys : List (List PV)) (K : AV → AE α) : AE α :=
  if z0 = ti.size then appGoX e ti x ys K else .opt (fun _ => guardO ys.isEmpty) fun _ => appGoX e ti x ys K

def copyGoX (ti : TI) (x : AV) (ys : List (List PV)) (K : AV → AE α) : AE α :=
  if 0 < ti.size then (match x with
      | .ref l n len => ownX l n len fun e z xs fz => if z = ti.size then (if fz = false then .opt (fun _ => guardO (Nat.ble (LO.len ys) len)) fun _ => .mod l (.own e z (LO.app ys (LO.drop (LO.len ys) xs)) false) (.opt (fun _ => lenO (LO.len ys)) fun i => K (.p (.v (.int .i64 i)))) else .fail) else .fail
      | _ => .fail) else .fail
def copyX (ti : TI) (x y : AV) (K : AV → AE α) : AE α :=
  srcX y fun z0 ys => if z0 = ti.size then copyGoX ti x ys K else .opt (fun _ => guardO ys.isEmpty) fun _ => copyGoX ti x ys K

def lenX (x : AV) (K : Nat → AE α) : AE α := match x with
  | .nilS => K 0
  | .p (.sl _ xs) => K (LO.len xs)
  | .ref l n len => ownX l n len fun _ _ _ _ => K len
  | .sref _ _ len => K len
  | _ => .fail

def mapX {β γ : Type} (f : β → (γ → AE α) → AE α) : List β → (List γ → AE α) → AE α
  | [], K => K []
  | a :: r, K => f a fun b => mapX f r fun bs => K (b :: bs)

def withTX (T : Tab) (t : Nat) (f : TI → AE α) : AE α := match T t with
  | some ti => f ti
  | none => .fail

def buildX (T : Tab) (fields : List (Nat × Nat)) : List AV → List (Nat × AV) → (List AV → AE α) → AE α
  | cs, [], K => K cs
  | cs, (i, v) :: rest, K => match fields[i]? with
    | some (off, t) => withTX T t fun ti => partX v fun v' => if (cellsA v').length = ti.size then (match layAt cs off (cellsA v') with
          | some cs' => buildX T fields cs' rest K
          | none => .fail) else .fail
    | none => .fail

def buildRowsX (z : Nat) (ws : List Nat) : List (List PV) → List (Nat × AV) → (List (List PV) → AE α) → AE α
  | rows, [], K => K rows
  | rows, (i, v) :: rest, K => snapsX ws (cellsA v) fun xs => if xs.length = z then (if i < rows.length then (if xs.all PV.one = true then buildRowsX z ws (rows.set i xs) rest K else .fail) else .fail) else .fail

def rowObjX (d e len : Nat) (vs : List (Nat × AV)) (K : AE α) : AE α :=
  if vs.map (·.1) = List.range len then (if (vs.all fun x => slotOk x.2) = true then (if 0 < len then
    newObjX (nameOf d) e (List.replicate len none) (vs.map (·.2)) fun p => (match p with
      | .ptr n v 0 => .set d (.sref n v len) K
      | _ => .fail) else .fail) else .fail) else .fail

def assignX (d : Nat) (ty : Option (Nat × Nat)) (v : AV) (K : AE α) : AE α := match v with
  | .agg cs => partsX cs fun xs => .set d (.agg xs) K
  | .p x => .set d (.p x) K
  | v => putCellX d ty v K

def withDX (d : Option Nat) (f : Nat → AE α) : AE α := match d with
  | some d => f d
  | none => .fail

def pureX (P : Program) (d : Option Nat) (m : Unit → Sem Value) (K : AE α) : AE α := .opt (fun _ => pureRun P (m ())) fun v => putX d (.p (.v v)) K

def evalsX (l : List Operand) (K : List AV → AE α) : AE α := mapX evalX l K

def opCallX (P : Program) (T : Tab) (o : Oper) (c : Call) (K : AE α) : AE α := match c.callee with
  | .value f => evalX f fun v => mapX (fun (x : Operand × List Nat) K => evalX x.1 fun y => argX x.2 y K) (tagT T c.args.toList c.argTypes.toList) fun args => (match v with
      | .clo g caps => .call g (args ++ caps) o.dst K
      | _ => .fail)
  | .builtin .len => (match c.args.toList, c.argTypes.toList with
      | [x], [t] => evalX x fun v => (match scal v with
          | some u => pureX P o.dst (fun _ => Builtin.len_ #[t] o.type #[u]) K
          | none => withTX T t fun tt => match tt.shape with
            | .slice _ => lenX v fun n => .opt (fun _ => lenO n) fun i => putX o.dst (.p (.v (.int .i64 i))) K
            | _ => .fail)
      | _, _ => .fail)
  | .builtin .append => (match c.args.toList, c.argTypes.toList with
      | [x, y], [t, t'] => if t = t' then withTX T t fun tt => (match tt.shape with
          | .slice e => withTX T e fun ti => evalX x fun a => evalX y fun b => srcX b fun z0 ys => appendX e ti a z0 ys fun r => withDX o.dst fun d => putX (some d) r K
          | _ => .fail)
        else withTX T t fun tt => withTX T t' fun tx => (match tt.shape, tx.shape with
          | .slice e, .string => withTX T e fun ti => evalX x fun a => evalX y fun b => (match scal b with
              | some (.string s) => appendX e ti a 1 (LO.bytes s) fun r => withDX o.dst fun d => putX (some d) r K
              | _ => .fail)
          | _, _ => .fail)
      | _, _ => .fail)
  | .builtin .copy => (match c.args.toList, c.argTypes.toList with
      | [x, y], [t, _] => withTX T t fun tt => (match tt.shape with
          | .slice e => withTX T e fun ti => evalX x fun a => evalX y fun b => copyX ti a b fun r => putX o.dst r K
          | _ => .fail)
      | _, _ => .fail)
  | .builtin b => evalsX c.args.toList fun vs => (match vs.mapM scal with
      | some xs => pureX P o.dst (fun _ => match b with
          | .min => Builtin.min_ c.argTypes o.type xs.toArray
          | .max => Builtin.max_ c.argTypes o.type xs.toArray
          | _ => .halt (.stuck "")) K
      | none => .fail)
  | _ => .fail

def opX (P : Program) (T : Tab) (o : Oper) (K : AE α) : AE α := match o.op with
  | .move x => evalX x fun v => putX o.dst v K
  | .pick c x y => evalX c fun v => (match scal v with
      | some (.bool q) => .br q (fun _ => evalX x fun u => putX o.dst u K) (fun _ => evalX y fun u => putX o.dst u K)
      | _ => .fail)
  | .assign x => evalX x fun v => withDX o.dst fun d => withTX T o.type fun ti => assignX d (ti.cty.headD none) v K
  | .alloc e => withDX o.dst fun d => withTX T e fun ti => newObjX (nameOf d) e ti.cty ti.zero fun v => .set d v K
  | .box e x => withDX o.dst fun d => withTX T e fun ti => evalX x fun v => if (cellsA v).length = ti.size then newObjX (nameOf d) e ti.cty (cellsA v) fun v => .set d v K else .fail
  | .build t parts => withTX T t fun ti => mapX (fun (x : Nat × Operand) K => evalX x.2 fun v => K (x.1, v)) parts.toList fun vs => (match ti.shape with
      | .struct fs => buildX T fs ti.zero vs fun cs => putX o.dst (.agg cs) K
      | _ => .fail)
  | .buildSlice t len parts => withDX o.dst fun d => withTX T t fun tt => (match tt.shape with
      | .slice e => withTX T e fun ti => mapX (fun (x : Nat × Operand) K => evalX x.2 fun v => K (x.1, v)) parts.toList fun vs => if ptrRow ti.zero = true then (if ti.size = 1 then (if len ≤ 62 then rowObjX d e len vs K else .fail) else .fail) else (match toPVs ti.zs ti.zero with
          | some z => if 0 < ti.size then (if len * ti.size ≤ 16777216 then buildRowsX ti.size ti.zs (List.replicate len z) vs fun rows => putX (some d) (.own e ti.size rows false) K else .fail) else .fail
          | none => .fail)
      | _ => .fail)
  | .load t a => withTX T t fun ti => evalX a fun x => loadX ti x fun v => putX o.dst v K
  | .store t a x => if o.dst.isSome then .fail else withTX T t fun ti => evalX a fun p => evalX x fun v => storeX ti p v K
  | .nilCheck x => evalX x fun v => (match v with
      | .ptr .. | .eptr .. | .p (.ptr _) | .clo .. => putX o.dst v K
      | _ => .fail)
  | .binOp op t x y _ => evalX x fun a => evalX y fun b => (match scal a, scal b with
      | some u, some v => pureX P o.dst (fun _ => do eqGuard op t x y u v; binOp op t u v) K
      | _, _ => .fail)
  | .unOp op _ x => evalX x fun a => (match scal a with
      | some u => pureX P o.dst (fun _ => Op.unary op u) K
      | none => .fail)
  | .convert src dst x => evalX x fun a => (match scal a with
      | some u => pureX P o.dst (fun _ => convert src dst u) K
      | none => .fail)
  | .makeFunc (.func f) first caps => if first.isEmpty then evalsX caps.toList fun vs => (if vs.all capOk then putX o.dst (.clo f vs) K else .fail) else .fail
  | .makeSlice t l c => withDX o.dst fun d => withTX T t fun tt => (match tt.shape with
      | .slice e => withTX T e fun ti => evalX l fun a => evalX c fun b => (match a, b, toPVs ti.zs ti.zero with
          | .p (.v (.int _ n)), .p (.v (.int _ m)), some z => if 0 < ti.size then .opt (fun _ => mkO n m ti.bytes) fun j => putX (some d) (.own e ti.size (LO.rep j z) false) K else .fail
          | _, _, _ => .fail)
      | _ => .fail)
  | .slice t x lo hi none => evalX x fun v => evalsX lo.toList fun l => evalsX hi.toList fun h => (match scal v with
      | some u => (match l.mapM scal, h.mapM scal with
          | some l, some h => pureX P o.dst (fun _ => Instr.sliceAt t u l.head? h.head? none) K
          | _, _ => .fail)
      | none => withTX T t fun tt => match tt.shape with
          | .slice e => withTX T e fun ti => if 0 < ti.size then sliceX ti.size v l.head? h.head? fun r => putX o.dst r K else .fail
          | _ => .fail)
  | .fieldAddr t x f => withTX T t fun ti => (match ti.shape with
      | .struct fs => (match fs[f]? with
          | some (off, _) => evalX x fun v => fieldAddrX off v fun r => putX o.dst r K
          | none => .fail)
      | _ => .fail)
  | .indexAddr t x i => withTX T t fun tt => (match tt.shape with
      | .slice e => withTX T e fun ti => evalX x fun v => evalX i fun j => indexAddrX ti.size v j fun r => putX o.dst r K
      | _ => .fail)
  | .index t x i => evalX x fun a => evalX i fun b => (match scal a, scal b with
      | some u, some v => pureX P o.dst (fun _ => Instr.index t u v) K
      | _, _ => .fail)
  | .extract x i => evalX x fun v => (match v with
      | .tup vs => (match vs[i]? with
          | some u => putX o.dst u K
          | none => .fail)
      | _ => .fail)
  | .call c => opCallX P T o c K
  | _ => .fail

def guardedX (P : Program) (T : Tab) (ops : Array Oper) (o : Oper) (K : AE α) : AE α := match o.guard with
  | none => opX P T o K
  | some (j, want) => match (ops[j]?).bind (·.dst) with
    | some d => .get d fun v _ => match v with
      | .p (.v (.bool b)) => (match want with
          | true => .br b (fun _ => opX P T o K) (fun _ => match o.dst with
            | some d => .set d .junk K
            | none => K)
          | false => .br b (fun _ => match o.dst with
            | some d => .set d .junk K
            | none => K) (fun _ => opX P T o K))
      | _ => .fail
    | none => .fail

def seqX (P : Program) (T : Tab) (ops : Array Oper) : List Oper → AE α → AE α
  | [], K => K
  | o :: r, K => guardedX P T ops o (seqX P T ops r K)

def resX1 (T : Tab) (v : ResultVar × List Nat) (K : AV → AE α) : AE α := match v.1 with
  | .tmp t => evalX (.tmp t) fun u => argX v.2 u K
  | .cell a t => withTX T t fun ti => evalX (.tmp a) fun p => loadX ti p fun u => argX ti.zs u K

end
end Go.Proofs.YtkjglhamlnnboaaDoor.Am
