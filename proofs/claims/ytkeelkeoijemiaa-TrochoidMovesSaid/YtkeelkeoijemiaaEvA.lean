/- A plain evaluator of the model's code over values: the definitions. -/
import Derived.Calls
import Derived.Orders
import Derived.Below
namespace Go.Proofs.Ytkeelkeoijemiaa.Ev
open Go Go.RowKit

/-- Values of the evaluator: slices and pointers into memory that nobody writes any more are lists. -/
inductive MV where
  | sc (v : Value)
  | agg (cs : List MV)
  | tup (cs : List MV)
  | fs (len : Nat) (cap : Option Nat) (cs : List MV)
  | cp (cs : List MV)
  | row (nm gen off len : Nat) (cap : Option Nat) (sz : Nat)
  | ptr (nm gen off : Nat)
  | fn (f : FuncId) (caps : List MV)
  | any
  deriving Inhabited

structure Ent where
  gen : Nat
  cells : List MV
  frozen : Bool
  deriving Inhabited

structure St where
  sl : List MV
  en : List (Option Ent)
  ck : Nat
  deriving Inhabited

/-- What one operation does: the value that it yields, the entries that it sets, the names that it freezes. -/
structure Eff where
  val : MV
  upd : List (Nat × Option Ent)
  frz : List Nat
  deriving Inhabited

def undefM : MV := .sc undef
/-- A cell of a constant. -/
def cv1 : Value → MV
  | .slice none 0 0 => .fs 0 (some 0) []
  | v => .sc v
/-- A constant. -/
def cv : Value → MV
  | .agg cs => .agg (cs.toList.map cv1)
  | .func (.func f) ⟨[]⟩ ⟨[]⟩ => .fn f []
  | v => cv1 v

def St.slot (st : St) (t : Nat) : MV := st.sl.getD t undefM
def St.ent (st : St) (n : Nat) : Option Ent := st.en.getD n none
def St.ev (st : St) : Operand → MV
  | .tmp t => st.slot t
  | .const v => cv v
  | .global g => .sc (.pointer (some ⟨g, 0, none⟩))
  | .func f => .fn f []

mutual
def toVal : MV → Option Value
  | .sc v => some v
  | .agg cs => (toVals cs).map fun l => .agg ⟨l⟩
  | _ => none
def toVals : List MV → Option (List Value)
  | [] => some []
  | m :: ms => match toVal m, toVals ms with
    | some v, some l => some (v :: l)
    | _, _ => none
end

/-- A run that asks nothing but the program. -/
def pureRun {α : Type} (P : Program) : Sem α → Option α
  | .pure a => some a
  | .program k => pureRun P (k P)
  | _ => none

def szO (P : Program) (t : TypeId) : Option Nat := (P.info? t).map (·.size)
def bytesO (P : Program) (t : TypeId) : Option Nat := (P.info? t).map (·.bytes)
def aggO (P : Program) (t : TypeId) : Option Bool := (P.underlying t).map fun | .struct _ | .array _ _ => true | _ => false
def zeroO (P : Program) (t : TypeId) : Option (List Value) := ((P.info? t).bind (·.zero)).map (·.cells.toList)
def sliceO (P : Program) (t : TypeId) : Option TypeId := match P.underlying t with | some (.slice e) => some e | _ => none

/-- May it stand in one cell? -/
def cellOk : MV → Bool
  | .sc (.agg _) | .sc (.tuple _) | .agg _ | .tup _ | .any => false
  | _ => true
def cellsOf : MV → Option (List MV)
  | .agg cs => if cs.all cellOk then some cs else none
  | m => if cellOk m then some [m] else none

/-- One value of type t out of cells. -/
def takeT (P : Program) (t : TypeId) (cs : List MV) : Option MV :=
  match aggO P t, szO P t with
  | some true, some n => if n ≤ cs.length then some (.agg (cs.take n)) else none
  | some false, some _ => match cs with
    | c :: _ => some c
    | [] => none
  | _, _ => none

/-- The cells behind a pointer. -/
def behind (en : Nat → Option Ent) : MV → Option (List MV)
  | .cp cs => some cs
  | .ptr nm g off => match en nm with
    | some e => if e.gen = g then some (e.cells.drop off) else none
    | none => none
  | _ => none

/-- The cells of a slice. -/
def rowCells (en : Nat → Option Ent) : MV → Option (Nat × List MV)
  | .fs len _ cs => some (len, cs)
  | .row nm g off len _ sz => match en nm with
    | some e => if e.gen = g ∧ off + len * sz ≤ e.cells.length then some (len, (e.cells.drop off).take (len * sz)) else none
    | none => none
  | _ => none

mutual
/-- A value without names: what it refers to is read, and named to be frozen. -/
def freeze (en : Nat → Option Ent) : Nat → MV → Option (MV × List Nat)
  | 0, _ => none
  | _ + 1, .sc v => some (.sc v, [])
  | _ + 1, .fs n c cs => some (.fs n c cs, [])
  | _ + 1, .any => none
  | _ + 1, .cp cs => some (.cp cs, [])
  | k + 1, .agg cs => (freezes en k cs).map fun x => (.agg x.1, x.2)
  | k + 1, .tup cs => (freezes en k cs).map fun x => (.tup x.1, x.2)
  | k + 1, .fn f cs => (freezes en k cs).map fun x => (.fn f x.1, x.2)
  | k + 1, .ptr nm g off => match en nm with
    | some e => if e.gen = g ∧ g ≠ 0 then (freezes en k (e.cells.drop off)).map fun x => (.cp x.1, nm :: x.2) else none
    | none => none
  | k + 1, .row nm g off len cap sz => match en nm with
    | some e => if e.gen = g ∧ g ≠ 0 ∧ off + len * sz ≤ e.cells.length then
        (freezes en k ((e.cells.drop off).take (len * sz))).map fun x => (.fs len cap x.1, nm :: x.2) else none
    | none => none
def freezes (en : Nat → Option Ent) : Nat → List MV → Option (List MV × List Nat)
  | 0, _ => none
  | _ + 1, [] => some ([], [])
  | k + 1, m :: ms => match freeze en k m, freezes en k ms with
    | some x, some y => some (x.1 :: y.1, x.2 ++ y.2)
    | _, _ => none
end
def FUEL : Nat := 1000000

/-- What calls do: a table; and which arguments a function writes to (rows, by their places). -/
structure Tab where
  call : FuncId → List MV → Option (MV × List (List MV))
  io : FuncId → List Nat

def putCells (cs : List MV) (off : Nat) (vs : List MV) : List MV := cs.take off ++ vs ++ cs.drop (off + vs.length)

/-- Without names. -/
def bare (ms : List MV) : Bool := match freezes (fun _ => none) FUEL ms with
  | some (_, []) => true
  | _ => false

/-- The arguments of a call: by value, or written to. -/
def prepArgs (en : Nat → Option Ent) (io : List Nat) : Nat → List MV → Option (List MV × List Nat × List (Nat × Nat × Nat))
  | _, [] => some ([], [], [])
  | i, m :: ms => match prepArgs en io (i + 1) ms with
    | none => none
    | some (as, fz, ios) =>
      if io.contains i then match m with
        | .row nm g off len _ sz => match en nm with
          | some e => if e.gen = g ∧ e.frozen = false ∧ off + len * sz ≤ e.cells.length ∧ bare ((e.cells.drop off).take (len * sz)) = true
              then some (.fs len none ((e.cells.drop off).take (len * sz)) :: as, fz, (nm, off, len * sz) :: ios) else none
          | none => none
        | _ => none
      else match freeze en FUEL m with
        | some (m', f) => some (m' :: as, f ++ fz, ios)
        | none => none

/-- What comes back in the rows that a call wrote to. -/
def backRows (en : Nat → Option Ent) : List (Nat × Nat × Nat) → List (List MV) → Option (List (Nat × Option Ent))
  | [], [] => some []
  | (nm, off, n) :: ios, o :: os => match en nm, backRows en ios os with
    | some e, some r => if o.length = n then some ((nm, some { e with cells := putCells e.cells off o }) :: r) else none
    | _, _ => none
  | _, _ => none

def intOf? : MV → Option Int
  | .sc (.int _ n) => some n
  | _ => none

/-- Parts of a struct or an array, laid over its zero cells. -/
def fillM (place : Nat → Option (Nat × Nat)) (cells : List MV) : List (Nat × MV) → Option (List MV)
  | [] => some cells
  | (i, v) :: rest => match place i with
    | none => none
    | some (off, size) => match cellsOf v with
      | some vs => if vs.length ≠ size ∨ off + vs.length > cells.length then none
        else fillM place (putCells cells off vs) rest
      | none => none

def placesO (P : Program) (fields : List Field) : Option (List (Nat × Nat)) := fields.mapM fun f => (szO P f.type).map fun n => (f.offset, n)

def repCells (zs : List MV) : Nat → List MV
  | 0 => []
  | n + 1 => zs ++ repCells zs n

structure Res where
  val : MV
  upd : List (Nat × Option Ent) := []
  frz : List Nat := []
  rd : List Nat := []

def bound (len : Nat) (x : Option MV) (d : Nat) : Option Nat := match x with
  | none => some d
  | some m => match intOf? m with
    | some i => if 0 ≤ i ∧ i ≤ len then some i.toNat else none
    | none => none

def maxB (len : Nat) (cap : Option Nat) : Option MV → Option (Option Nat)
  | none => some none
  | some m => (bound (cap.getD len) (some m) 0).map some
def sliceParts : MV → Option (Nat × Option Nat)
  | .fs len cap _ => some (len, cap)
  | .row _ _ _ len cap _ => some (len, cap)
  | _ => none
/-- A slice of a slice. -/
def sliceOf (sz : Nat) (x : MV) (l h : Nat) (cap : Option Nat) : Option Res :=
  match x with
  | .fs _ _ cs => some { val := .fs (h - l) cap ((cs.drop (l * sz)).take ((h - l) * sz)) }
  | .row nm gen off _ _ sz' => if sz' = sz then some { val := if h = l then .fs 0 cap [] else .row nm gen (off + l * sz) (h - l) cap sz } else none
  | _ => none

/-- Are structs equal? Told field by field. -/
def eqFs (P : Program) (rec : TypeId → Value → Value → Option Bool) (xs ys : Array Value) : List Field → Option Bool
  | [] => some true
  | f :: fs => if (f.name == "_") = true then none else match pureRun P (part f.type xs f.offset), pureRun P (part f.type ys f.offset) with
    | some a, some b => match rec f.type a b, eqFs P rec xs ys fs with
      | some p, some q => some (p && q)
      | _, _ => none
    | _, _ => none
def eqT (P : Program) : Nat → TypeId → Value → Value → Option Bool
  | 0, _, _, _ => none
  | d + 1, t, x, y => match P.underlying t, x, y with
    | some .bool, .bool a, .bool b => some (a == b)
    | some (.int _), .int k a, .int k' b => if k = k' then some (a == b) else none
    | some (.struct fs), .agg xs, .agg ys => if P.stoodInHeld t = true then none else eqFs P (eqT P d) xs ys fs.toList
    | _, _, _ => none
def eqOp (P : Program) (o : Oper) (ev : Operand → MV) : Option Value :=
  match o.op with
  | .binOp .eql t x y _ => match toVal (ev x), toVal (ev y) with
    | some (.agg a), some (.agg b) => if P.eqGuardType P.depth t = false then (eqT P 10000 t (.agg a) (.agg b)).map .bool else none
    | _, _ => none
  | .binOp .neq t x y _ => match toVal (ev x), toVal (ev y) with
    | some (.agg a), some (.agg b) => if P.eqGuardType P.depth t = false then (eqT P 10000 t (.agg a) (.agg b)).map fun r => .bool (!r) else none
    | _, _ => none
  | _ => none
/-- An operation on plain values, by the model's own word. -/
def pureOp (P : Program) (o : Oper) (ev : Operand → MV) : Option MV :=
  if o.op.operands.toList.all (fun x => (toVal (ev x)).isSome) then
    match eqOp P o ev with
    | some v => some (.sc v)
    | none => match pureRun P (execOp (fun x => (toVal (ev x)).getD undef) o) with
      | some (.value v) => some (.sc v)
      | _ => none
  else none

def nameOf : MV → List Nat
  | .ptr nm _ _ => [nm]
  | .row nm _ _ _ _ _ => [nm]
  | _ => []

def evalLen : MV → Option MV
  | .fs n _ _ => some (.sc (.int .i64 n))
  | .row _ _ _ n _ _ => some (.sc (.int .i64 n))
  | _ => none

/-- The bytes of a string as cells. -/
def strCells (s : ByteArray) : List MV := s.data.toList.map fun b => .sc (.int .u8 b.toNat)

def srcCells (en : Nat → Option Ent) : MV → Option (Nat × List MV)
  | .sc (.string s) => some (s.size, strCells s)
  | m => rowCells en m

def capIn (cap : Option Nat) (need : Nat) : Option Nat := cap.bind fun c => if need ≤ c then some c else none
def evalAppend (P : Program) (d g : Nat) (en : Nat → Option Ent) (elem : TypeId) (s x : MV) : Option Res :=
  match szO P elem, bytesO P elem, zeroO P elem, srcCells en x with
  | some sz, some by_, some z, some (n, new) =>
    if new.length ≠ n * sz ∨ new.all cellOk = false ∨ z.length ≠ sz ∨ sz = 0 ∨ by_ = 0 ∨ by_ > 65536 then none else
    match s with
    | .fs len (some c) cs =>
      -- a fresh row for certain
      if c < len + n ∧ cs.length = len * sz ∧ (len + n) ≤ 1073741824 then
        some { val := .row d g 0 (len + n) none sz, upd := [(d, some ⟨g, cs ++ new, false⟩)], rd := nameOf x }
      else if len + n = 0 then some { val := .fs 0 (some c) [], rd := nameOf x } else none
    | .row nm g' off len cap sz' => match en nm with
      | some e =>
        if e.gen = g' ∧ g' ≠ 0 ∧ e.frozen = false ∧ sz' = sz ∧ off + len * sz = e.cells.length ∧ (len + n) ≤ 1073741824 ∧ (nameOf x).contains nm = false then
          some { val := .row d g 0 (len + n) (capIn cap (len + n)) sz,
                 upd := [(nm, none), (d, some ⟨g, e.cells.drop off ++ new, false⟩)], rd := nm :: nameOf x }
        else none
      | none => none
    | _ => none
  | _, _, _, _ => none

def evalCall (T : Tab) (en : Nat → Option Ent) (f : FuncId) (args : List MV) : Option Res :=
  match prepArgs en (T.io f) 0 args with
  | none => none
  | some (as, fz, ios) =>
    if (ios.map (·.1)).Nodup ∧ (ios.map (·.1)).all (fun n => !fz.contains n) then
      match T.call f as with
      | none => none
      | some (r, outs) => match backRows en ios outs with
        | none => none
        | some u => some { val := r, upd := u, frz := fz, rd := fz ++ ios.map (·.1) }
    else none

def evalOp (P : Program) (T : Tab) (o : Oper) (g : Nat) (st : St) : Option Res :=
  match o.op with
  | .move x | .assign x => some { val := st.ev x }
  | .pick c a b => match st.ev c with
    | .sc (.bool t) => some { val := if t then st.ev a else st.ev b }
    | _ => none
  | .alloc t => match o.dst, zeroO P t with
    | some d, some z => some { val := .ptr d g 0, upd := [(d, some ⟨g, z.map cv1, false⟩)] }
    | _, _ => none
  | .box _ x => match o.dst, cellsOf (st.ev x) with
    | some d, some cs => some { val := .ptr d g 0, upd := [(d, some ⟨g, cs, false⟩)] }
    | _, _ => none
  | .load t a => match behind st.ent (st.ev a) with
    | some cs => match takeT P t cs with
      | some v => some { val := v, rd := nameOf (st.ev a) }
      | none => none
    | none => none
  | .store t a x => match st.ev a, szO P t, cellsOf (st.ev x) with
    | .ptr nm gen off, some n, some cs => match st.ent nm with
      | some e => if e.gen = gen ∧ e.frozen = false ∧ cs.length = n ∧ off + n ≤ e.cells.length then
          some { val := undefM, upd := [(nm, some { e with cells := putCells e.cells off cs })], rd := [nm] } else none
      | none => none
    | _, _, _ => none
  | .nilCheck x => match st.ev x with
    | .ptr a b c => some { val := .ptr a b c }
    | .cp a => some { val := .cp a }
    | .fn a b => some { val := .fn a b }
    | _ => none
  | .binOp .. | .unOp .. | .index _ _ _ => (pureOp P o st.ev).map fun v => { val := v }
  | .convert _ _ _ => (pureOp P o st.ev).map fun v => { val := v }
  | .fieldAddr s x f => match P.underlying s with
    | some (.struct fields) => match fields[f]? with
      | some fd => match szO P fd.type, st.ev x with
        | some (_ + 1), .ptr nm gen off => some { val := .ptr nm gen (off + fd.offset) }
        | some (_ + 1), .cp cs => some { val := .cp (cs.drop fd.offset) }
        | _, _ => none
      | none => none
    | _ => none
  | .field s x f => match P.underlying s with
    | some (.struct fields) => match fields[f]?, st.ev x with
      | some fd, .agg cs => match takeT P fd.type (cs.drop fd.offset) with
        | some v => some { val := v }
        | none => none
      | _, _ => none
    | _ => none
  | .indexAddr t x i => match P.underlying t, intOf? (st.ev i) with
    | some (.slice e), some n => match szO P e, st.ev x with
      | some sz, .fs len _ cs => if 0 ≤ n ∧ n < len ∧ cs ≠ [] then some { val := .cp (cs.drop (n.toNat * sz)) } else none
      | some sz, .row nm gen off len _ sz' => if 0 ≤ n ∧ n < len ∧ sz' = sz then some { val := .ptr nm gen (off + n.toNat * sz) } else none
      | _, _ => none
    | some (.array len e), some n => match szO P e, st.ev x with
      | some sz, .ptr nm gen off => if 0 ≤ n ∧ n < len then some { val := .ptr nm gen (off + n.toNat * sz) } else none
      | some sz, .cp cs => if 0 ≤ n ∧ n < len then some { val := .cp (cs.drop (n.toNat * sz)) } else none
      | _, _ => none
    | _, _ => none
  | .build t parts => match P.underlying t, zeroO P t with
    | some (.struct fields), some z => match placesO P fields.toList with
      | some pl => (fillM (pl[·]?) (z.map cv1) (parts.toList.map fun p => (p.1, st.ev p.2))).map fun cs => { val := .agg cs }
      | none => none
    | some (.array _ e), some z => match szO P e with
      | some sz => (fillM (fun i => some (i * sz, sz)) (z.map cv1) (parts.toList.map fun p => (p.1, st.ev p.2))).map fun cs => { val := .agg cs }
      | none => none
    | _, _ => none
  | .buildSlice t len parts => match sliceO P t, o.dst with
    | some e, some d => match szO P e, zeroO P e with
      | some sz, some z => if z.length = sz ∧ len * sz ≤ 1048576 ∧ 0 < sz then
          (fillM (fun i => some (i * sz, sz)) (repCells (z.map cv1) len) (parts.toList.map fun p => (p.1, st.ev p.2))).map fun cs =>
            { val := .row d g 0 len (some len) sz, upd := [(d, some ⟨g, cs, false⟩)] } else none
      | _, _ => none
    | _, _ => none
  | .makeSlice t l c => match sliceO P t, o.dst, intOf? (st.ev l), intOf? (st.ev c) with
    | some e, some d, some ln, some cn => match szO P e, zeroO P e, bytesO P e with
      | some sz, some z, some by_ => if z.length = sz ∧ 0 < sz ∧ 0 ≤ ln ∧ ln ≤ cn ∧ by_ * cn ≤ 281474976710656 ∧ cn ≤ 4611686018427387904 then
          some { val := .row d g 0 ln.toNat (some cn.toNat) sz, upd := [(d, some ⟨g, repCells (z.map cv1) ln.toNat, false⟩)] } else none
      | _, _, _ => none
    | _, _, _, _ => none
  | .slice t x lo hi mx => match P.underlying t with
    | some (.slice e) => if mx.isSome && hi.isNone then none else match szO P e, sliceParts (st.ev x) with
      | some sz, some (len, cap) => match bound len (hi.map st.ev) len with
        | some h => match bound h (lo.map st.ev) 0, maxB len cap (mx.map st.ev) with
          | some l, some m => if (m.all (h ≤ ·)) = true then sliceOf sz (st.ev x) l h (match m with | some m => some (m - l) | none => cap.map (· - l)) else none
          | _, _ => none
        | none => none
      | _, _ => none
    | some .string => (pureOp P o st.ev).map fun v => { val := v }
    | _ => none
  | .extract x i => match st.ev x with
    | .tup vs => match vs[i]? with
      | some v => some { val := v }
      | none => none
    | _ => none
  | .makeFunc (.func f) ⟨[]⟩ caps => some { val := .fn f (caps.toList.map st.ev) }
  | .call c => match c.callee with
    | .builtin .len => match c.args.toList, c.argTypes.toList with
      | [x], [t] => match P.underlying t with
        | some (.slice _) => (evalLen (st.ev x)).map fun v => { val := v }
        | some .string => (pureOp P o st.ev).map fun v => { val := v }
        | some (.array n _) => some { val := .sc (.int .i64 n) }
        | _ => none
      | _, _ => none
    | .builtin .max | .builtin .min => (pureOp P o st.ev).map fun v => { val := v }
    | .builtin .append => match c.args.toList, c.argTypes.toList, o.dst with
      | [s, x], t :: t2 :: _, some d => match sliceO P t, P.underlying t2 with
        | some e, some (.slice _) | some e, some .string => evalAppend P d g st.ent e (st.ev s) (st.ev x)
        | _, _ => none
      | _, _, _ => none
    | .value f => match st.ev f with
      | .fn f caps => evalCall T st.ent f (c.args.toList.map st.ev ++ caps)
      | _ => none
    | _ => none
  | _ => none

def setUpd : List (Option Ent) → List (Nat × Option Ent) → List (Option Ent)
  | en, [] => en
  | en, (n, x) :: r => setUpd (en.set n x) r
def frzAt (en : List (Option Ent)) (n : Nat) : List (Option Ent) := match en.getD n none with
  | some e => en.set n (some { e with frozen := true })
  | none => en
def setFrz : List (Option Ent) → List Nat → List (Option Ent)
  | en, [] => en
  | en, n :: r => setFrz (frzAt en n) r
def St.put (st : St) (dst : Option Tmp) (r : Res) : St :=
  { st with sl := (match dst with | some d => st.sl.set d r.val | none => st.sl), en := setUpd (setFrz st.en r.frz) r.upd }
def St.skip (st : St) (dst : Option Tmp) : St := { st with sl := match dst with | some d => st.sl.set d undefM | none => st.sl }

/-- Is an operation wanted? -/
def wants (ops : List Oper) (st : St) (o : Oper) : Option Bool :=
  match o.guard with
  | none => some true
  | some (j, want) => match (ops[j]?).bind (·.dst) with
    | some d => if d < st.sl.length then match st.slot d with
        | .sc (.bool b) => some (b == want)
        | .sc _ => some false
        | _ => none
      else none
    | none => none

def evalOps (P : Program) (T : Tab) (ops : List Oper) (ck : Nat) : Nat → List Oper → St → Option St
  | _, [], st => some st
  | i, o :: rest, st => match wants ops st o with
    | some true => match evalOp P T o (ck + i) st with
      | some r => evalOps P T ops ck (i + 1) rest (st.put o.dst r)
      | none => none
    | some false => evalOps P T ops ck (i + 1) rest (st.skip o.dst)
    | none => none

/-- The same, with what each operation did. -/
def step1 (P : Program) (T : Tab) (ops : List Oper) (g : Nat) (o : Oper) (st : St) : Option (Option Res × St) :=
  match wants ops st o with
  | some true => match evalOp P T o g st with
    | some r => some (some r, st.put o.dst r)
    | none => none
  | some false => some (none, st.skip o.dst)
  | none => none
def evalLog (P : Program) (T : Tab) (ops : List Oper) (ck : Nat) : List (Nat × Oper) → St → Option (St × List (Option Res))
  | [], st => some (st, [])
  | (i, o) :: rest, st => match step1 P T ops (ck + i) o st with
    | some (r, s1) => match evalLog P T ops ck rest s1 with
      | some (s, l) => some (s, r :: l)
      | none => none
    | none => none
def numbered : Nat → List Oper → List (Nat × Oper)
  | _, [] => []
  | i, o :: r => (i, o) :: numbered (i + 1) r

def meets (a b : List Nat) : Bool := a.any fun x => b.contains x
def touches (a b : Option Res) : Bool := match a, b with
  | some a, some b => meets (a.upd.map (·.1)) (b.rd ++ b.upd.map (·.1) ++ b.frz)
  | _, _ => false
/-- Which operations come ahead of one, as bits. -/
def befEdges (acc : List Nat) : List Edge → Nat
  | [] => 0
  | e :: r => if Region.binds .any e then 2 ^ e.on ||| acc.getD e.on 0 ||| befEdges acc r else befEdges acc r
def befs : List Nat → List Oper → List Nat
  | acc, [] => acc
  | acc, o :: r => befs (acc ++ [befEdges acc o.after.toList]) r
def indep (ops : Array Oper) (x y : Oper) (rx ry : Option Res) : Bool := x.apart ops y && !touches rx ry && !touches ry rx
structure Item where
  i : Nat
  o : Oper
  l : Option Res
  b : Nat
def items : Nat → List Oper → List (Option Res) → List Nat → List Item
  | i, o :: os, l :: ls, b :: bs => ⟨i, o, l, b⟩ :: items (i + 1) os ls bs
  | _, _, _, _ => []
/-- Two operations of a region that draws its order: in the order of the text for certain, or apart. -/
def pairOk (ops : Array Oper) (x y : Item) : Bool := !(decide (x.i < y.i)) || y.b.testBit x.i || indep ops x.o y.o x.l y.l
def edgesOk : Nat → List Oper → Bool
  | _, [] => true
  | i, o :: r => (o.after.toList.all fun e => !Region.binds .any e || decide (e.on < i)) && edgesOk (i + 1) r
def drawOk (ops : Array Oper) (log : List (Option Res)) : Bool :=
  edgesOk 0 ops.toList && (items 0 ops.toList log (befs [] ops.toList)).all fun y => (items 0 ops.toList log (befs [] ops.toList)).all fun x => pairOk ops x y

def evalRegion (P : Program) (T : Tab) (ops : Array Oper) (draw : Bool) (st : St) : Option St :=
  match (if draw then
      match evalLog P T ops.toList st.ck (numbered 0 ops.toList) st with
      | some (s, log) => if drawOk ops log then some s else none
      | none => none
    else evalOps P T ops.toList st.ck 0 ops.toList st) with
  | some s => some { s with ck := st.ck + ops.size }
  | none => none

inductive Out where
  | normal
  | exit (id : Nat)
  | ret

def evalLoop (f : St → Option (Out × St)) : Nat → St → Option (Out × St)
  | 0, _ => none
  | n + 1, st => match f st with
    | some (.normal, s) => evalLoop f n s
    | r => r

/-- The temporaries that a piece of code writes, but by assignments: what they hold is gone when the code is entered again. -/
def scratchOps : List Oper → List Nat
  | [] => []
  | o :: r => match o.op, o.dst with
    | .assign _, _ => scratchOps r
    | _, some d => d :: scratchOps r
    | _, none => scratchOps r
def scratch : Code → List Nat
  | .region _ ops _ => scratchOps ops.toList
  | .seq a b => scratch a ++ scratch b
  | .cond _ a b => scratch a ++ scratch b
  | .block _ c => scratch c
  | .loop c => scratch c
  | _ => []
def opReads (o : Oper) : List Nat := o.op.operands.toList.filterMap fun | .tmp t => some t | _ => none
/-- In the order of the text: what is written, and what is read before it is written. -/
def earlyOps : List Nat → List Oper → List Nat × List Nat
  | wr, [] => (wr, [])
  | wr, o :: r => match earlyOps (o.dst.toList ++ wr) r with
    | (w2, e2) => (w2, (opReads o).filter (fun t => !wr.contains t) ++ e2)
def early : List Nat → Code → List Nat × List Nat
  | wr, .region _ ops _ => earlyOps wr ops.toList
  | wr, .seq a b => match early wr a with
    | (w1, e1) => match early w1 b with
      | (w2, e2) => (w2, e1 ++ e2)
  | wr, .cond _ a b => match early wr a with
    | (w1, e1) => match early w1 b with
      | (w2, e2) => (w2, e1 ++ e2)
  | wr, .block _ c => early wr c
  | wr, .loop c => early wr c
  | wr, _ => (wr, [])
def scratch1 (c : Code) : List Nat := (scratch c).filter fun t => !(early [] c).2.contains t
mutual
/-- Names as they are told behind a normalisation: those that hold, with the generation 1 (0 stays). -/
def norm1 (en : Nat → Option Ent) : MV → MV
  | .ptr nm g off => match en nm with
    | some e => if e.gen = g then .ptr nm (if g = 0 then 0 else 1) off else .any
    | none => .any
  | .row nm g off len cap sz => match en nm with
    | some e => if e.gen = g then .row nm (if g = 0 then 0 else 1) off len cap sz else .any
    | none => .any
  | .agg cs => .agg (norms en cs)
  | .tup cs => .tup (norms en cs)
  | .fn f cs => .fn f (norms en cs)
  | m => m
def norms (en : Nat → Option Ent) : List MV → List MV
  | [] => []
  | m :: ms => norm1 en m :: norms en ms
end
mutual
def namesIn : MV → List Nat
  | .ptr nm _ _ => [nm]
  | .row nm _ _ _ _ _ => [nm]
  | .agg cs => namesInL cs
  | .tup cs => namesInL cs
  | .fn _ cs => namesInL cs
  | _ => []
def namesInL : List MV → List Nat
  | [] => []
  | m :: ms => namesIn m ++ namesInL ms
end
def wipe (w : List Nat) : Nat → List MV → List MV
  | _, [] => []
  | i, m :: ms => (if w.contains i then .any else m) :: wipe w (i + 1) ms
/-- Entries of scratch places that nothing kept refers to go. (What refers to what: two steps deep.) -/
def dropEn (w used : List Nat) : Nat → List (Option Ent) → List (Option Ent)
  | _, [] => []
  | i, e :: es => (if w.contains i && !used.contains i then none else e) :: dropEn w used (i + 1) es
def entNames : List (Option Ent) → Nat → List Nat
  | en, n => match en.getD n none with
    | some e => namesInL e.cells
    | none => []
/-- At a loop's head: scratch temporaries are forgotten, generations begin anew. -/
def normSt (w : List Nat) (st : St) : St :=
  let sl := wipe w 0 st.sl
  let u0 := namesInL sl
  let en0 := dropEn w [] 0 st.en
  let u1 := u0 ++ (namesInL (en0.flatMap fun | some e => e.cells | none => []))
  let u2 := u1 ++ u1.flatMap (entNames st.en)
  let en := dropEn w u2 0 st.en
  let look := fun n => en.getD n none
  { sl := norms look sl, en := en.map fun | some e => some { gen := if e.gen = 0 then 0 else 1, cells := norms look e.cells, frozen := e.frozen } | none => none, ck := 2 }

def evalCode (P : Program) (T : Tab) (k : Nat) : Code → St → Option (Out × St)
  | .skip, st => some (.normal, st)
  | .region _ ops draw, st => (evalRegion P T ops draw st).map fun s => (.normal, s)
  | .seq a b, st => match evalCode P T k a st with
    | some (.normal, s) => evalCode P T k b s
    | r => r
  | .cond c x y, st => match st.ev c with
    | .sc (.bool t) => if t then evalCode P T k x st else evalCode P T k y st
    | _ => none
  | .block id c, st => match evalCode P T k c st with
    | some (.exit i, s) => if i = id then some (.normal, s) else some (.exit i, s)
    | r => r
  | .loop c, st => evalLoop (fun s => evalCode P T k c (normSt (scratch1 c) s)) k st
  | .exit id, st => some (.exit id, st)
  | .ret, st => some (.ret, st)
  | _, _ => none

/-- A function's results. -/
def resOf (P : Program) (st : St) : List ResultVar → Option (List MV)
  | [] => some []
  | .tmp t :: r => match freeze st.ent FUEL (st.slot t), resOf P st r with
    | some (v, _), some l => some (v :: l)
    | _, _ => none
  | .cell a t :: r => match behind st.ent (st.slot a), resOf P st r with
    | some cs, some l => match takeT P t cs with
      | some v => match freeze st.ent FUEL v with
        | some (v, _) => some (v :: l)
        | none => none
      | none => none
    | _, _ => none

/-- The rows that the caller gets back. -/
def outsOf (st : St) : List Nat → Option (List (List MV))
  | [] => some []
  | p :: r => match st.ent p, outsOf st r with
    | some e, some l => if e.gen = 0 ∧ e.frozen = false ∧ bare e.cells = true then some (e.cells :: l) else none
    | _, _ => none

/-- The frame at a function's begin: rows that are written to become rows of its own. -/
def startSl (P : Program) (io : List Nat) (params : List TypeId) : Nat → List MV → Option (List MV)
  | _, [] => some []
  | i, m :: ms => match startSl P io params (i + 1) ms with
    | none => none
    | some l => if io.contains i then match m, (params[i]?).bind (sliceO P) with
        | .fs len _ cs, some e => match szO P e with
          | some sz => if 0 < len ∧ cs.length = len * sz then some (.row i 0 0 len none sz :: l) else none
          | none => none
        | _, _ => none
      else some (m :: l)
def startEn (io : List Nat) : Nat → List MV → List (Option Ent)
  | _, [] => []
  | i, m :: ms => (if io.contains i then match m with | .fs _ _ cs => some ⟨0, cs, false⟩ | _ => none else none) :: startEn io (i + 1) ms

def evalBody (P : Program) (T : Tab) (k : Nat) (io : List Nat) (f : FuncId) (args : List MV) : Option (MV × List (List MV)) :=
  match P.funcs[f]? with
  | none => none
  | some fn => match fn.body, startSl P io fn.params.toList 0 args with
    | some c, some sl =>
      match evalCode P T k c { sl := sl ++ List.replicate (fn.ntmps - args.length) undefM, en := startEn io 0 args ++ List.replicate (fn.ntmps - args.length) none, ck := 1 } with
      | some (.normal, st) | some (.ret, st) => match resOf P st fn.results.toList, outsOf st ((List.range' 0 args.length).filter fun i => io.contains i) with
        | some [v], some o => some (v, o)
        | some vs, some o => some (.tup vs, o)
        | _, _ => none
      | _ => none
    | _, _ => none
end Go.Proofs.Ytkeelkeoijemiaa.Ev
