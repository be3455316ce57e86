/- A plain evaluator of the model's code over values: the definitions. How values of the evaluator stand to the machine's: the relation, and what keeps it. The state of the evaluator and the machine's: the invariant. Writing, freezing: the invariant is kept. -/
import Derived.Calls
import Derived.Orders
import Derived.Below
import Derived.Laws.CopyRow
set_option linter.unusedVariables false
set_option linter.unusedSimpArgs false
namespace Go.Proofs.YtkeelkeoijemiaaGreat.Ev
open Go Go.RowKit

/-- Values of the evaluator: slices and pointers into memory that nobody writes any more are lists. -/
inductive MV where
  | sc (v : Value)
  | agg (cs : List MV)
  | tup (cs : List MV)
  | fs (len : Nat) (cap : Option Nat) (cs : List MV)
  | cp (cs : List MV)
  | row (nm gen off len : Nat) (cap : Option Nat) (sz : Nat)
  | ptr (nm gen off : Nat)
  | fn (f : FuncId) (caps : List MV)
  | any
  deriving Inhabited

structure Ent where
  gen : Nat
  cells : List MV
  frozen : Bool
  deriving Inhabited

structure St where
  sl : List MV
  en : List (Option Ent)
  ck : Nat
  deriving Inhabited

def undefM : MV := .sc undef
/-- A cell of a constant. -/
def cv1 : Value → MV
  | .slice none 0 0 => .fs 0 (some 0) []
  | v => .sc v
/-- A constant. -/
def cv : Value → MV
  | .agg cs => .agg (cs.toList.map cv1)
  | .func (.func f) ⟨[]⟩ ⟨[]⟩ => .fn f []
  | v => cv1 v

def St.slot (st : St) (t : Nat) : MV := st.sl.getD t undefM
def St.ent (st : St) (n : Nat) : Option Ent := st.en.getD n none
def St.ev (st : St) : Operand → MV
  | .tmp t => st.slot t
  | .const v => cv v
  | .global g => .sc (.pointer (some ⟨g, 0, none⟩))
  | .func f => .fn f []

mutual
def toVal : MV → Option Value
  | .sc v => some v
  | .agg cs => (toVals cs).map fun l => .agg ⟨l⟩
  | _ => none
def toVals : List MV → Option (List Value)
  | [] => some []
  | m :: ms => match toVal m, toVals ms with
    | some v, some l => some (v :: l)
    | _, _ => none
end

/-- A run that asks nothing but the program. -/
def pureRun {α : Type} (P : Program) : Sem α → Option α
  | .pure a => some a
  | .program k => pureRun P (k P)
  | _ => none

def szO (P : Program) (t : TypeId) : Option Nat := (P.info? t).map (·.size)
def bytesO (P : Program) (t : TypeId) : Option Nat := (P.info? t).map (·.bytes)
def aggO (P : Program) (t : TypeId) : Option Bool := (P.underlying t).map fun | .struct _ | .array _ _ => true | _ => false
def zeroO (P : Program) (t : TypeId) : Option (List Value) := ((P.info? t).bind (·.zero)).map (·.cells.toList)
def sliceO (P : Program) (t : TypeId) : Option TypeId := match P.underlying t with | some (.slice e) => some e | _ => none

/-- May it stand in one cell? -/
def cellOk : MV → Bool
  | .sc (.agg _) | .sc (.tuple _) | .agg _ | .tup _ | .any => false
  | _ => true
def cellsOf : MV → Option (List MV)
  | .agg cs => if cs.all cellOk then some cs else none
  | m => if cellOk m then some [m] else none

/-- One value of type t out of cells. -/
def takeT (P : Program) (t : TypeId) (cs : List MV) : Option MV :=
  match aggO P t, szO P t with
  | some true, some n => if n ≤ cs.length then some (.agg (cs.take n)) else none
  | some false, some _ => match cs with
    | c :: _ => some c
    | [] => none
  | _, _ => none

/-- The cells behind a pointer. -/
def behind (en : Nat → Option Ent) : MV → Option (List MV)
  | .cp cs => some cs
  | .ptr nm g off => match en nm with
    | some e => if e.gen = g then some (e.cells.drop off) else none
    | none => none
  | _ => none

/-- The cells of a slice. -/
def rowCells (en : Nat → Option Ent) : MV → Option (Nat × List MV)
  | .fs len _ cs => some (len, cs)
  | .row nm g off len _ sz => match en nm with
    | some e => if e.gen = g ∧ off + len * sz ≤ e.cells.length then some (len, (e.cells.drop off).take (len * sz)) else none
    | none => none
  | _ => none

mutual
/-- A value without names: what it refers to is read, and named to be frozen. -/
def freeze (en : Nat → Option Ent) : Nat → MV → Option (MV × List Nat)
  | 0, _ => none
  | _ + 1, .sc v => some (.sc v, [])
  | _ + 1, .fs n c cs => some (.fs n c cs, [])
  | _ + 1, .any => none
  | _ + 1, .cp cs => some (.cp cs, [])
  | k + 1, .agg cs => (freezes en k cs).map fun x => (.agg x.1, x.2)
  | k + 1, .tup cs => (freezes en k cs).map fun x => (.tup x.1, x.2)
  | k + 1, .fn f cs => (freezes en k cs).map fun x => (.fn f x.1, x.2)
  | k + 1, .ptr nm g off => match en nm with
    | some e => if e.gen = g ∧ g ≠ 0 then (freezes en k (e.cells.drop off)).map fun x => (.cp x.1, nm :: x.2) else none
    | none => none
  | k + 1, .row nm g off len cap sz => match en nm with
    | some e => if e.gen = g ∧ g ≠ 0 ∧ off + len * sz ≤ e.cells.length then
        (freezes en k ((e.cells.drop off).take (len * sz))).map fun x => (.fs len cap x.1, nm :: x.2) else none
    | none => none
def freezes (en : Nat → Option Ent) : Nat → List MV → Option (List MV × List Nat)
  | 0, _ => none
  | _ + 1, [] => some ([], [])
  | k + 1, m :: ms => match freeze en k m, freezes en k ms with
    | some x, some y => some (x.1 :: y.1, x.2 ++ y.2)
    | _, _ => none
end
def FUEL : Nat := 1000000

/-- What calls do: a table; and which arguments a function writes to (rows, by their places). -/
structure Tab where
  call : FuncId → List MV → Option (MV × List (List MV))
  io : FuncId → List Nat
  dd : FuncId → List Nat × List (Nat × Nat) := fun _ => ([], [])

def putCells (cs : List MV) (off : Nat) (vs : List MV) : List MV := cs.take off ++ vs ++ cs.drop (off + vs.length)

/-- Without names. -/
def bare (ms : List MV) : Bool := match freezes (fun _ => none) FUEL ms with
  | some (_, []) => true
  | _ => false

/-- The arguments of a call: by value, or written to. -/
def prepArgs (en : Nat → Option Ent) (io : List Nat) : Nat → List MV → Option (List MV × List Nat × List (Nat × Nat × Nat))
  | _, [] => some ([], [], [])
  | i, m :: ms => match prepArgs en io (i + 1) ms with
    | none => none
    | some (as, fz, ios) =>
      if io.contains i then match m with
        | .row nm g off len _ sz => match en nm with
          | some e => if e.gen = g ∧ e.frozen = false ∧ off + len * sz ≤ e.cells.length ∧ bare ((e.cells.drop off).take (len * sz)) = true
              then some (.fs len none ((e.cells.drop off).take (len * sz)) :: as, fz, (nm, off, len * sz) :: ios) else none
          | none => none
        | _ => none
      else match freeze en FUEL m with
        | some (m', f) => some (m' :: as, f ++ fz, ios)
        | none => none

/-- What comes back in the rows that a call wrote to. -/
def backRows (en : Nat → Option Ent) : List (Nat × Nat × Nat) → List (List MV) → Option (List (Nat × Option Ent))
  | [], [] => some []
  | (nm, off, n) :: ios, o :: os => match en nm, backRows en ios os with
    | some e, some r => if o.length = n then some ((nm, some { e with cells := putCells e.cells off o }) :: r) else none
    | _, _ => none
  | _, _ => none

def intOf? : MV → Option Int
  | .sc (.int _ n) => some n
  | _ => none

/-- Parts of a struct or an array, laid over its zero cells. -/
def fillM (place : Nat → Option (Nat × Nat)) (cells : List MV) : List (Nat × MV) → Option (List MV)
  | [] => some cells
  | (i, v) :: rest => match place i with
    | none => none
    | some (off, size) => match cellsOf v with
      | some vs => if vs.length ≠ size ∨ off + vs.length > cells.length then none
        else fillM place (putCells cells off vs) rest
      | none => none

def placesO (P : Program) (fields : List Field) : Option (List (Nat × Nat)) := fields.mapM fun f => (szO P f.type).map fun n => (f.offset, n)

def repCells (zs : List MV) : Nat → List MV
  | 0 => []
  | n + 1 => zs ++ repCells zs n

structure Res where
  val : MV
  upd : List (Nat × Option Ent) := []
  frz : List Nat := []
  rd : List Nat := []

def bound (len : Nat) (x : Option MV) (d : Nat) : Option Nat := match x with
  | none => some d
  | some m => match intOf? m with
    | some i => if 0 ≤ i ∧ i ≤ len then some i.toNat else none
    | none => none

def maxB (len : Nat) (cap : Option Nat) : Option MV → Option (Option Nat)
  | none => some none
  | some m => (bound (cap.getD len) (some m) 0).map some
def sliceParts : MV → Option (Nat × Option Nat)
  | .fs len cap _ => some (len, cap)
  | .row _ _ _ len cap _ => some (len, cap)
  | _ => none
/-- A slice of a slice. -/
def sliceOf (sz : Nat) (x : MV) (l h : Nat) (cap : Option Nat) : Option Res :=
  match x with
  | .fs _ _ cs => some { val := .fs (h - l) cap ((cs.drop (l * sz)).take ((h - l) * sz)) }
  | .row nm gen off _ _ sz' => if sz' = sz then some { val := if h = l then .fs 0 cap [] else .row nm gen (off + l * sz) (h - l) cap sz } else none
  | _ => none

/-- Are structs equal? Told field by field. -/
def eqFs (P : Program) (rec : TypeId → Value → Value → Option Bool) (xs ys : Array Value) : List Field → Option Bool
  | [] => some true
  | f :: fs => if (f.name == "_") = true then none else match pureRun P (part f.type xs f.offset), pureRun P (part f.type ys f.offset) with
    | some a, some b => match rec f.type a b, eqFs P rec xs ys fs with
      | some p, some q => some (p && q)
      | _, _ => none
    | _, _ => none
def eqT (P : Program) : Nat → TypeId → Value → Value → Option Bool
  | 0, _, _, _ => none
  | d + 1, t, x, y => match P.underlying t, x, y with
    | some .bool, .bool a, .bool b => some (a == b)
    | some (.int _), .int k a, .int k' b => if k = k' then some (a == b) else none
    | some (.struct fs), .agg xs, .agg ys => if P.stoodInHeld t = true then none else eqFs P (eqT P d) xs ys fs.toList
    | _, _, _ => none
def eqOp (P : Program) (o : Oper) (ev : Operand → MV) : Option Value :=
  match o.op with
  | .binOp .eql t x y _ => match toVal (ev x), toVal (ev y) with
    | some (.agg a), some (.agg b) => if P.eqGuardType P.depth t = false then (eqT P 10000 t (.agg a) (.agg b)).map .bool else none
    | _, _ => none
  | .binOp .neq t x y _ => match toVal (ev x), toVal (ev y) with
    | some (.agg a), some (.agg b) => if P.eqGuardType P.depth t = false then (eqT P 10000 t (.agg a) (.agg b)).map fun r => .bool (!r) else none
    | _, _ => none
  | _ => none
/-- An operation on plain values, by the model's own word. -/
def pureOp (P : Program) (o : Oper) (ev : Operand → MV) : Option MV :=
  if o.op.operands.toList.all (fun x => (toVal (ev x)).isSome) then
    match eqOp P o ev with
    | some v => some (.sc v)
    | none => match pureRun P (execOp (fun x => (toVal (ev x)).getD undef) o) with
      | some (.value v) => some (.sc v)
      | _ => none
  else none

def nameOf : MV → List Nat
  | .ptr nm _ _ => [nm]
  | .row nm _ _ _ _ _ => [nm]
  | _ => []

def evalLen : MV → Option MV
  | .fs n _ _ => some (.sc (.int .i64 n))
  | .row _ _ _ n _ _ => some (.sc (.int .i64 n))
  | _ => none

/-- The bytes of a string as cells. -/
def strCells (s : ByteArray) : List MV := s.data.toList.map fun b => .sc (.int .u8 b.toNat)

def srcCells (en : Nat → Option Ent) : MV → Option (Nat × List MV)
  | .sc (.string s) => some (s.size, strCells s)
  | m => rowCells en m

def capIn (cap : Option Nat) (need : Nat) : Option Nat := cap.bind fun c => if need ≤ c then some c else none
def evalAppend (P : Program) (d g : Nat) (en : Nat → Option Ent) (elem : TypeId) (s x : MV) : Option Res :=
  match szO P elem, bytesO P elem, zeroO P elem, srcCells en x with
  | some sz, some by_, some z, some (n, new) =>
    if new.length ≠ n * sz ∨ new.all cellOk = false ∨ z.length ≠ sz ∨ sz = 0 ∨ by_ = 0 ∨ by_ > 65536 then none else
    match s with
    | .fs len (some c) cs =>
      -- a fresh row for certain
      if c < len + n ∧ cs.length = len * sz ∧ (len + n) ≤ 1073741824 then
        some { val := .row d g 0 (len + n) none sz, upd := [(d, some ⟨g, cs ++ new, false⟩)], rd := nameOf x }
      else if len + n = 0 then some { val := .fs 0 (some c) [], rd := nameOf x } else none
    | .row nm g' off len cap sz' => match en nm with
      | some e =>
        if e.gen = g' ∧ g' ≠ 0 ∧ e.frozen = false ∧ sz' = sz ∧ off + len * sz = e.cells.length ∧ (len + n) ≤ 1073741824 ∧ (nameOf x).contains nm = false then
          some { val := .row d g 0 (len + n) (capIn cap (len + n)) sz,
                 upd := [(nm, none), (d, some ⟨g, e.cells.drop off ++ new, false⟩)], rd := nm :: nameOf x }
        else none
      | none => none
    | _ => none
  | _, _, _, _ => none

def evalCall (T : Tab) (en : Nat → Option Ent) (f : FuncId) (args : List MV) : Option Res :=
  match prepArgs en (T.io f) 0 args with
  | none => none
  | some (as, fz, ios) =>
    if (ios.map (·.1)).Nodup ∧ (ios.map (·.1)).all (fun n => !fz.contains n) then
      match T.call f as with
      | none => none
      | some (r, outs) => match backRows en ios outs with
        | none => none
        | some u => some { val := r, upd := u, frz := fz, rd := fz ++ ios.map (·.1) }
    else none

def evalOp (P : Program) (T : Tab) (o : Oper) (g : Nat) (st : St) : Option Res :=
  match o.op with
  | .move x | .assign x => some { val := st.ev x }
  | .pick c a b => match st.ev c with
    | .sc (.bool t) => some { val := if t then st.ev a else st.ev b }
    | _ => none
  | .alloc t => match o.dst, zeroO P t with
    | some d, some z => some { val := .ptr d g 0, upd := [(d, some ⟨g, z.map cv1, false⟩)] }
    | _, _ => none
  | .box _ x => match o.dst, cellsOf (st.ev x) with
    | some d, some cs => some { val := .ptr d g 0, upd := [(d, some ⟨g, cs, false⟩)] }
    | _, _ => none
  | .load t a => match behind st.ent (st.ev a) with
    | some cs => match takeT P t cs with
      | some v => some { val := v, rd := nameOf (st.ev a) }
      | none => none
    | none => none
  | .store t a x => match st.ev a, szO P t, cellsOf (st.ev x) with
    | .ptr nm gen off, some n, some cs => match st.ent nm with
      | some e => if e.gen = gen ∧ e.frozen = false ∧ cs.length = n ∧ off + n ≤ e.cells.length then
          some { val := undefM, upd := [(nm, some { e with cells := putCells e.cells off cs })], rd := [nm] } else none
      | none => none
    | _, _, _ => none
  | .nilCheck x => match st.ev x with
    | .ptr a b c => some { val := .ptr a b c }
    | .cp a => some { val := .cp a }
    | .fn a b => some { val := .fn a b }
    | _ => none
  | .binOp .. | .unOp .. | .index _ _ _ => (pureOp P o st.ev).map fun v => { val := v }
  | .convert _ _ _ => (pureOp P o st.ev).map fun v => { val := v }
  | .fieldAddr s x f => match P.underlying s with
    | some (.struct fields) => match fields[f]? with
      | some fd => match szO P fd.type, st.ev x with
        | some (_ + 1), .ptr nm gen off => some { val := .ptr nm gen (off + fd.offset) }
        | some (_ + 1), .cp cs => some { val := .cp (cs.drop fd.offset) }
        | _, _ => none
      | none => none
    | _ => none
  | .field s x f => match P.underlying s with
    | some (.struct fields) => match fields[f]?, st.ev x with
      | some fd, .agg cs => match takeT P fd.type (cs.drop fd.offset) with
        | some v => some { val := v }
        | none => none
      | _, _ => none
    | _ => none
  | .indexAddr t x i => match P.underlying t, intOf? (st.ev i) with
    | some (.slice e), some n => match szO P e, st.ev x with
      | some sz, .fs len _ cs => if 0 ≤ n ∧ n < len ∧ cs ≠ [] then some { val := .cp (cs.drop (n.toNat * sz)) } else none
      | some sz, .row nm gen off len _ sz' => if 0 ≤ n ∧ n < len ∧ sz' = sz then some { val := .ptr nm gen (off + n.toNat * sz) } else none
      | _, _ => none
    | some (.array len e), some n => match szO P e, st.ev x with
      | some sz, .ptr nm gen off => if 0 ≤ n ∧ n < len then some { val := .ptr nm gen (off + n.toNat * sz) } else none
      | some sz, .cp cs => if 0 ≤ n ∧ n < len then some { val := .cp (cs.drop (n.toNat * sz)) } else none
      | _, _ => none
    | _, _ => none
  | .build t parts => match P.underlying t, zeroO P t with
    | some (.struct fields), some z => match placesO P fields.toList with
      | some pl => (fillM (pl[·]?) (z.map cv1) (parts.toList.map fun p => (p.1, st.ev p.2))).map fun cs => { val := .agg cs }
      | none => none
    | some (.array _ e), some z => match szO P e with
      | some sz => (fillM (fun i => some (i * sz, sz)) (z.map cv1) (parts.toList.map fun p => (p.1, st.ev p.2))).map fun cs => { val := .agg cs }
      | none => none
    | _, _ => none
  | .buildSlice t len parts => match sliceO P t, o.dst with
    | some e, some d => match szO P e, zeroO P e with
      | some sz, some z => if z.length = sz ∧ len * sz ≤ 1048576 ∧ 0 < sz then
          (fillM (fun i => some (i * sz, sz)) (repCells (z.map cv1) len) (parts.toList.map fun p => (p.1, st.ev p.2))).map fun cs =>
            { val := .row d g 0 len (some len) sz, upd := [(d, some ⟨g, cs, false⟩)] } else none
      | _, _ => none
    | _, _ => none
  | .makeSlice t l c => match sliceO P t, o.dst, intOf? (st.ev l), intOf? (st.ev c) with
    | some e, some d, some ln, some cn => match szO P e, zeroO P e, bytesO P e with
      | some sz, some z, some by_ => if z.length = sz ∧ 0 < sz ∧ 0 ≤ ln ∧ ln ≤ cn ∧ by_ * cn ≤ 281474976710656 ∧ cn ≤ 4611686018427387904 then
          some { val := .row d g 0 ln.toNat (some cn.toNat) sz, upd := [(d, some ⟨g, repCells (z.map cv1) ln.toNat, false⟩)] } else none
      | _, _, _ => none
    | _, _, _, _ => none
  | .slice t x lo hi mx => match P.underlying t with
    | some (.slice e) => if mx.isSome && hi.isNone then none else match szO P e, sliceParts (st.ev x) with
      | some sz, some (len, cap) => match bound len (hi.map st.ev) len with
        | some h => match bound h (lo.map st.ev) 0, maxB len cap (mx.map st.ev) with
          | some l, some m => if (m.all (h ≤ ·)) = true then sliceOf sz (st.ev x) l h (match m with | some m => some (m - l) | none => cap.map (· - l)) else none
          | _, _ => none
        | none => none
      | _, _ => none
    | some .string => (pureOp P o st.ev).map fun v => { val := v }
    | _ => none
  | .extract x i => match st.ev x with
    | .tup vs => match vs[i]? with
      | some v => some { val := v }
      | none => none
    | _ => none
  | .makeFunc (.func f) ⟨[]⟩ caps => some { val := .fn f (caps.toList.map st.ev) }
  | .call c => match c.callee with
    | .builtin .len => match c.args.toList, c.argTypes.toList with
      | [x], [t] => match P.underlying t with
        | some (.slice _) => (evalLen (st.ev x)).map fun v => { val := v }
        | some .string => (pureOp P o st.ev).map fun v => { val := v }
        | some (.array n _) => some { val := .sc (.int .i64 n) }
        | _ => none
      | _, _ => none
    | .builtin .max | .builtin .min => (pureOp P o st.ev).map fun v => { val := v }
    | .builtin .append => match c.args.toList, c.argTypes.toList, o.dst with
      | [s, x], t :: t2 :: _, some d => match sliceO P t, P.underlying t2 with
        | some e, some (.slice _) | some e, some .string => evalAppend P d g st.ent e (st.ev s) (st.ev x)
        | _, _ => none
      | _, _, _ => none
    | .value f => match st.ev f with
      | .fn f caps => evalCall T st.ent f (c.args.toList.map st.ev ++ caps)
      | _ => none
    | _ => none
  | _ => none

def setUpd : List (Option Ent) → List (Nat × Option Ent) → List (Option Ent)
  | en, [] => en
  | en, (n, x) :: r => setUpd (en.set n x) r
def frzAt (en : List (Option Ent)) (n : Nat) : List (Option Ent) := match en.getD n none with
  | some e => en.set n (some { e with frozen := true })
  | none => en
def setFrz : List (Option Ent) → List Nat → List (Option Ent)
  | en, [] => en
  | en, n :: r => setFrz (frzAt en n) r
def St.put (st : St) (dst : Option Tmp) (r : Res) : St :=
  { st with sl := (match dst with | some d => st.sl.set d r.val | none => st.sl), en := setUpd (setFrz st.en r.frz) r.upd }
def St.skip (st : St) (dst : Option Tmp) : St := { st with sl := match dst with | some d => st.sl.set d undefM | none => st.sl }

/-- Is an operation wanted? -/
def wants (ops : List Oper) (st : St) (o : Oper) : Option Bool :=
  match o.guard with
  | none => some true
  | some (j, want) => match (ops[j]?).bind (·.dst) with
    | some d => if d < st.sl.length then match st.slot d with
        | .sc (.bool b) => some (b == want)
        | .sc _ => some false
        | _ => none
      else none
    | none => none

def evalOps (P : Program) (T : Tab) (ops : List Oper) (ck : Nat) : Nat → List Oper → St → Option St
  | _, [], st => some st
  | i, o :: rest, st => match wants ops st o with
    | some true => match evalOp P T o (ck + i) st with
      | some r => evalOps P T ops ck (i + 1) rest (st.put o.dst r)
      | none => none
    | some false => evalOps P T ops ck (i + 1) rest (st.skip o.dst)
    | none => none

/-- The same, with what each operation did. -/
def step1 (P : Program) (T : Tab) (ops : List Oper) (g : Nat) (o : Oper) (st : St) : Option (Option Res × St) :=
  match wants ops st o with
  | some true => match evalOp P T o g st with
    | some r => some (some r, st.put o.dst r)
    | none => none
  | some false => some (none, st.skip o.dst)
  | none => none
def evalLog (P : Program) (T : Tab) (ops : List Oper) (ck : Nat) : List (Nat × Oper) → St → Option (St × List (Option Res))
  | [], st => some (st, [])
  | (i, o) :: rest, st => match step1 P T ops (ck + i) o st with
    | some (r, s1) => match evalLog P T ops ck rest s1 with
      | some (s, l) => some (s, r :: l)
      | none => none
    | none => none
def numbered : Nat → List Oper → List (Nat × Oper)
  | _, [] => []
  | i, o :: r => (i, o) :: numbered (i + 1) r

def meets (a b : List Nat) : Bool := a.any fun x => b.contains x
def touches (a b : Option Res) : Bool := match a, b with
  | some a, some b => meets (a.upd.map (·.1)) (b.rd ++ b.upd.map (·.1) ++ b.frz)
  | _, _ => false
/-- Which operations come ahead of one, as bits. -/
def befEdges (acc : List Nat) : List Edge → Nat
  | [] => 0
  | e :: r => if Region.binds .any e then 2 ^ e.on ||| acc.getD e.on 0 ||| befEdges acc r else befEdges acc r
def befs : List Nat → List Oper → List Nat
  | acc, [] => acc
  | acc, o :: r => befs (acc ++ [befEdges acc o.after.toList]) r
def indep (ops : Array Oper) (x y : Oper) (rx ry : Option Res) : Bool := x.apart ops y && !touches rx ry && !touches ry rx
structure Item where
  i : Nat
  o : Oper
  l : Option Res
  b : Nat
def items : Nat → List Oper → List (Option Res) → List Nat → List Item
  | i, o :: os, l :: ls, b :: bs => ⟨i, o, l, b⟩ :: items (i + 1) os ls bs
  | _, _, _, _ => []
/-- Two operations of a region that draws its order: in the order of the text for certain, or apart. -/
def pairOk (ops : Array Oper) (x y : Item) : Bool := !(decide (x.i < y.i)) || y.b.testBit x.i || indep ops x.o y.o x.l y.l
def edgesOk : Nat → List Oper → Bool
  | _, [] => true
  | i, o :: r => (o.after.toList.all fun e => !Region.binds .any e || decide (e.on < i)) && edgesOk (i + 1) r
def drawOk (ops : Array Oper) (log : List (Option Res)) : Bool :=
  edgesOk 0 ops.toList && (items 0 ops.toList log (befs [] ops.toList)).all fun y => (items 0 ops.toList log (befs [] ops.toList)).all fun x => pairOk ops x y

def evalRegion (P : Program) (T : Tab) (ops : Array Oper) (draw : Bool) (st : St) : Option St :=
  match (if draw then
      match evalLog P T ops.toList st.ck (numbered 0 ops.toList) st with
      | some (s, log) => if drawOk ops log then some s else none
      | none => none
    else evalOps P T ops.toList st.ck 0 ops.toList st) with
  | some s => some { s with ck := st.ck + ops.size }
  | none => none

inductive Out where
  | normal
  | exit (id : Nat)
  | ret

def evalLoop (f : St → Option (Out × St)) : Nat → St → Option (Out × St)
  | 0, _ => none
  | n + 1, st => match f st with
    | some (.normal, s) => evalLoop f n s
    | r => r

/-- The temporaries that a piece of code writes, but by assignments: what they hold is gone when the code is entered again. -/
def scratchOps : List Oper → List Nat
  | [] => []
  | o :: r => match o.op, o.dst with
    | .assign _, _ => scratchOps r
    | _, some d => d :: scratchOps r
    | _, none => scratchOps r
def scratch : Code → List Nat
  | .region _ ops _ => scratchOps ops.toList
  | .seq a b => scratch a ++ scratch b
  | .cond _ a b => scratch a ++ scratch b
  | .block _ c => scratch c
  | .loop c => scratch c
  | _ => []
def opReads (o : Oper) : List Nat := o.op.operands.toList.filterMap fun | .tmp t => some t | _ => none
/-- In the order of the text: what is written, and what is read before it is written. -/
def earlyOps : List Nat → List Oper → List Nat × List Nat
  | wr, [] => (wr, [])
  | wr, o :: r => match earlyOps (o.dst.toList ++ wr) r with
    | (w2, e2) => (w2, (opReads o).filter (fun t => !wr.contains t) ++ e2)
def early : List Nat → Code → List Nat × List Nat
  | wr, .region _ ops _ => earlyOps wr ops.toList
  | wr, .seq a b => match early wr a with
    | (w1, e1) => match early w1 b with
      | (w2, e2) => (w2, e1 ++ e2)
  | wr, .cond _ a b => match early wr a with
    | (w1, e1) => match early w1 b with
      | (w2, e2) => (w2, e1 ++ e2)
  | wr, .block _ c => early wr c
  | wr, .loop c => early wr c
  | wr, _ => (wr, [])
def scratch1 (c : Code) : List Nat := (scratch c).filter fun t => !(early [] c).2.contains t
def occOps (v : Nat) : List Oper → Nat
  | [] => 0
  | o :: r => (opReads o).count v + (if o.dst = some v then 1 else 0) + occOps v r
/-- How often a temporary is read or written. -/
def occ (v : Nat) : Code → Nat
  | .region _ ops _ => occOps v ops.toList
  | .seq a b => occ v a + occ v b
  | .cond c a b => (match c with | .tmp t => if t = v then 1 else 0 | _ => 0) + occ v a + occ v b
  | .block _ c => occ v c
  | .loop c => occ v c
  | _ => 0
/-- What is forgotten at a loop's head: as told (temporaries of one piece of code; variables that only this loop names), and scratch places. Any list will do. -/
def deadAt (d : List Nat × List (Nat × Nat)) (c : Code) : List Nat := d.1 ++ (scratch1 c ++ (d.2.filter fun x => occ x.1 c == x.2).map (·.1))
mutual
/-- Names as they are told behind a normalisation: those that hold, with the generation 1 (0 stays). -/
def norm1 (en : Nat → Option Ent) : MV → MV
  | .ptr nm g off => match en nm with
    | some e => if e.gen = g then .ptr nm (if g = 0 then 0 else 1) off else .any
    | none => .any
  | .row nm g off len cap sz => match en nm with
    | some e => if e.gen = g then .row nm (if g = 0 then 0 else 1) off len cap sz else .any
    | none => .any
  | .agg cs => .agg (norms en cs)
  | .tup cs => .tup (norms en cs)
  | .fn f cs => .fn f (norms en cs)
  | m => m
def norms (en : Nat → Option Ent) : List MV → List MV
  | [] => []
  | m :: ms => norm1 en m :: norms en ms
end
mutual
def namesIn : MV → List Nat
  | .ptr nm _ _ => [nm]
  | .row nm _ _ _ _ _ => [nm]
  | .agg cs => namesInL cs
  | .tup cs => namesInL cs
  | .fn _ cs => namesInL cs
  | _ => []
def namesInL : List MV → List Nat
  | [] => []
  | m :: ms => namesIn m ++ namesInL ms
end
def wipe (w : List Nat) : Nat → List MV → List MV
  | _, [] => []
  | i, m :: ms => (if w.contains i then .any else m) :: wipe w (i + 1) ms
/-- Entries of scratch places that nothing kept refers to go. (What refers to what: two steps deep.) -/
def dropEn (w used : List Nat) : Nat → List (Option Ent) → List (Option Ent)
  | _, [] => []
  | i, e :: es => (if w.contains i && !used.contains i then none else e) :: dropEn w used (i + 1) es
def entNames : List (Option Ent) → Nat → List Nat
  | en, n => match en.getD n none with
    | some e => namesInL e.cells
    | none => []
/-- At a loop's head: scratch temporaries are forgotten, generations begin anew. -/
def normSt (w : List Nat) (st : St) : St :=
  let sl := wipe w 0 st.sl
  let u0 := namesInL sl
  let en0 := dropEn w [] 0 st.en
  let u1 := u0 ++ (namesInL (en0.flatMap fun | some e => e.cells | none => []))
  let u2 := u1 ++ u1.flatMap (entNames st.en)
  let en := dropEn w u2 0 st.en
  let look := fun n => en.getD n none
  { sl := norms look sl, en := en.map fun | some e => some { gen := if e.gen = 0 then 0 else 1, cells := norms look e.cells, frozen := e.frozen } | none => none, ck := 2 }

def evalCode (P : Program) (T : Tab) (W : Code → List Nat) (k : Nat) : Code → St → Option (Out × St)
  | .skip, st => some (.normal, st)
  | .region _ ops draw, st => (evalRegion P T ops draw st).map fun s => (.normal, s)
  | .seq a b, st => match evalCode P T W k a st with
    | some (.normal, s) => evalCode P T W k b s
    | r => r
  | .cond c x y, st => match st.ev c with
    | .sc (.bool t) => if t then evalCode P T W k x st else evalCode P T W k y st
    | _ => none
  | .block id c, st => match evalCode P T W k c st with
    | some (.exit i, s) => if i = id then some (.normal, s) else some (.exit i, s)
    | r => r
  | .loop c, st => evalLoop (fun s => evalCode P T W k c (normSt (W c) s)) k st
  | .exit id, st => some (.exit id, st)
  | .ret, st => some (.ret, st)
  | _, _ => none

/-- A function's results. -/
def resOf (P : Program) (st : St) : List ResultVar → Option (List MV)
  | [] => some []
  | .tmp t :: r => match freeze st.ent FUEL (st.slot t), resOf P st r with
    | some (v, _), some l => some (v :: l)
    | _, _ => none
  | .cell a t :: r => match behind st.ent (st.slot a), resOf P st r with
    | some cs, some l => match takeT P t cs with
      | some v => match freeze st.ent FUEL v with
        | some (v, _) => some (v :: l)
        | none => none
      | none => none
    | _, _ => none

/-- The rows that the caller gets back. -/
def outsOf (st : St) : List Nat → Option (List (List MV))
  | [] => some []
  | p :: r => match st.ent p, outsOf st r with
    | some e, some l => if e.gen = 0 ∧ e.frozen = false ∧ bare e.cells = true then some (e.cells :: l) else none
    | _, _ => none

/-- The frame at a function's begin: rows that are written to become rows of its own. -/
def startSl (P : Program) (io : List Nat) (params : List TypeId) : Nat → List MV → Option (List MV)
  | _, [] => some []
  | i, m :: ms => match startSl P io params (i + 1) ms with
    | none => none
    | some l => if io.contains i then match m, (params[i]?).bind (sliceO P) with
        | .fs len _ cs, some e => match szO P e with
          | some sz => if 0 < len ∧ cs.length = len * sz then some (.row i 0 0 len none sz :: l) else none
          | none => none
        | _, _ => none
      else some (m :: l)
def startEn (io : List Nat) : Nat → List MV → List (Option Ent)
  | _, [] => []
  | i, m :: ms => (if io.contains i then match m with | .fs _ _ cs => some ⟨0, cs, false⟩ | _ => none else none) :: startEn io (i + 1) ms

def evalBody (P : Program) (T : Tab) (k : Nat) (io : List Nat) (f : FuncId) (args : List MV) : Option (MV × List (List MV)) :=
  match P.funcs[f]? with
  | none => none
  | some fn => match fn.body, startSl P io fn.params.toList 0 args with
    | some c, some sl =>
      match evalCode P T (deadAt (T.dd f)) k c { sl := sl ++ List.replicate (fn.ntmps - args.length) undefM, en := startEn io 0 args ++ List.replicate (fn.ntmps - args.length) none, ck := 1 } with
      | some (.normal, st) | some (.ret, st) => match resOf P st fn.results.toList, outsOf st ((List.range' 0 args.length).filter fun i => io.contains i) with
        | some [v], some o => some (v, o)
        | some vs, some o => some (.tup vs, o)
        | _, _ => none
      | _ => none
    | _, _ => none
end Go.Proofs.YtkeelkeoijemiaaGreat.Ev

namespace Go.Proofs.YtkeelkeoijemiaaGreat.Ev
open Go Go.RowKit

def hasCells (w : World) (b n : Nat) : Prop := ∃ c el fr, w.heap[b]? = some (.cells c el fr) ∧ n ≤ c.size
def noR : Nat → Nat → Option (Nat × Nat) := fun _ _ => none

/-- The cells from an address on. -/
def CellsAt (w : World) (b o : Nat) (vs : List Value) : Prop := ∀ i, i < vs.length → w.cell? ⟨b, o + i, none⟩ = vs[i]?

mutual
def VR (w : World) (ok : Nat → Prop) (R : Nat → Nat → Option (Nat × Nat)) : MV → Value → Prop
  | .sc v, x => x = v
  | .agg cs, x => ∃ vs : List Value, x = .agg ⟨vs⟩ ∧ VRs w ok R cs vs
  | .tup cs, x => ∃ vs : List Value, x = .tuple ⟨vs⟩ ∧ VRs w ok R cs vs
  | .fn f cs, x => ∃ vs : List Value, x = .func (.func f) #[] ⟨vs⟩ ∧ VRs w ok R cs vs
  | .fs len cap cs, x => ∃ a c, x = .slice a len c ∧ len ≤ c ∧ (∀ k, cap = some k → c = k) ∧
      ((len = 0 ∧ cs = [] ∧ (a = none → c = 0)) ∨ ∃ b o vs, a = some ⟨b, o, none⟩ ∧ ok b ∧ CellsAt w b o vs ∧ VRs w ok noR cs vs)
  | .cp cs, x => ∃ b o vs, x = .pointer (some ⟨b, o, none⟩) ∧ ok b ∧ CellsAt w b o vs ∧ VRs w ok noR cs vs
  | .row nm g off len cap sz, x => ∃ B d c, R nm g = some (B, d) ∧ x = .slice (some ⟨B, d + off, none⟩) len c ∧ len ≤ c ∧ (∀ k, cap = some k → c = k) ∧
      (g ≠ 0 → hasCells w B (d + off + c * sz))
  | .ptr nm g off, x => ∃ B d, R nm g = some (B, d) ∧ x = .pointer (some ⟨B, d + off, none⟩)
  | .any, _ => True
def VRs (w : World) (ok : Nat → Prop) (R : Nat → Nat → Option (Nat × Nat)) : List MV → List Value → Prop
  | [], vs => vs = []
  | m :: ms, vs => ∃ v vt, vs = v :: vt ∧ VR w ok R m v ∧ VRs w ok R ms vt
end

/-- From w to w': the blocks that may be read hold what they held; none shrinks. -/
structure Ext (ok : Nat → Prop) (w w' : World) : Prop where
  same : ∀ b, ok b → w'.heap[b]? = w.heap[b]?
  has : ∀ b n, hasCells w b n → hasCells w' b n

theorem Ext.refl (ok : Nat → Prop) (w : World) : Ext ok w w := ⟨fun _ _ => rfl, fun _ _ h => h⟩
theorem Ext.cell {ok : Nat → Prop} {w w' : World} (h : Ext ok w w') {b o : Nat} (hb : ok b) : w'.cell? ⟨b, o, none⟩ = w.cell? ⟨b, o, none⟩ := by
  unfold World.cell?; rw [h.same b hb]
theorem Ext.cells {ok : Nat → Prop} {w w' : World} (h : Ext ok w w') {b o : Nat} {vs : List Value} (hb : ok b) (hc : CellsAt w b o vs) : CellsAt w' b o vs :=
  fun i hi => (h.cell hb).trans (hc i hi)

mutual
theorem VR.mono {w w' : World} {ok ok' : Nat → Prop} {R R' : Nat → Nat → Option (Nat × Nat)} (hx : Ext ok w w') (ho : ∀ b, ok b → ok' b) (hR : ∀ n g p, R n g = some p → R' n g = some p) :
    ∀ (m : MV) (x : Value), VR w ok R m x → VR w' ok' R' m x
  | .sc _, _, h => h
  | .agg cs, _, ⟨vs, e, h⟩ => ⟨vs, e, VRs.mono hx ho hR cs vs h⟩
  | .tup cs, _, ⟨vs, e, h⟩ => ⟨vs, e, VRs.mono hx ho hR cs vs h⟩
  | .fn _ cs, _, ⟨vs, e, h⟩ => ⟨vs, e, VRs.mono hx ho hR cs vs h⟩
  | .fs _ _ cs, _, ⟨a, c, e, h1, h2, h⟩ => ⟨a, c, e, h1, h2, h.elim .inl fun ⟨b, o, vs, ea, hb, hc, hv⟩ => .inr ⟨b, o, vs, ea, ho b hb, hx.cells hb hc, VRs.mono hx ho (fun _ _ _ h => h) cs vs hv⟩⟩
  | .cp cs, _, ⟨b, o, vs, e, hb, hc, hv⟩ => ⟨b, o, vs, e, ho b hb, hx.cells hb hc, VRs.mono hx ho (fun _ _ _ h => h) cs vs hv⟩
  | .row _ _ _ _ _ _, _, ⟨B, d, c, h1, h2, h3, h4, h5⟩ => ⟨B, d, c, hR _ _ _ h1, h2, h3, h4, fun hg => hx.has _ _ (h5 hg)⟩
  | .ptr _ _ _, _, ⟨B, d, h1, h2⟩ => ⟨B, d, hR _ _ _ h1, h2⟩
  | .any, _, _ => trivial
theorem VRs.mono {w w' : World} {ok ok' : Nat → Prop} {R R' : Nat → Nat → Option (Nat × Nat)} (hx : Ext ok w w') (ho : ∀ b, ok b → ok' b) (hR : ∀ n g p, R n g = some p → R' n g = some p) :
    ∀ (ms : List MV) (vs : List Value), VRs w ok R ms vs → VRs w' ok' R' ms vs
  | [], _, h => h
  | m :: ms, _, ⟨v, vt, e, h, hs⟩ => ⟨v, vt, e, VR.mono hx ho hR m v h, VRs.mono hx ho hR ms vt hs⟩
end

section lists
variable {w : World} {ok : Nat → Prop} {R : Nat → Nat → Option (Nat × Nat)}
theorem VRs.length : ∀ {ms : List MV} {vs : List Value}, VRs w ok R ms vs → vs.length = ms.length
  | [], _, h => by cases h; rfl
  | _ :: _, _, ⟨_, _, e, _, h⟩ => by subst e; simp [VRs.length h]
theorem VRs.get : ∀ {ms : List MV} {vs : List Value} (_ : VRs w ok R ms vs) (i : Nat) (m : MV), ms[i]? = some m → ∃ v, vs[i]? = some v ∧ VR w ok R m v
  | [], _, _, _, _, h => by simp at h
  | m :: ms, _, ⟨v, vt, e, h, hs⟩, 0, m', he => by subst e; simp at he; subst he; exact ⟨v, rfl, h⟩
  | m :: ms, _, ⟨v, vt, e, h, hs⟩, i + 1, m', he => by subst e; simp at he; simpa using VRs.get hs i m' he
theorem VRs.nil : VRs w ok R [] [] := rfl
theorem VRs.cons {m : MV} {v : Value} {ms : List MV} {vs : List Value} (h : VR w ok R m v) (hs : VRs w ok R ms vs) : VRs w ok R (m :: ms) (v :: vs) := ⟨v, vs, rfl, h, hs⟩
theorem VRs.append : ∀ {ms : List MV} {vs : List Value} {ns : List MV} {us : List Value}, VRs w ok R ms vs → VRs w ok R ns us → VRs w ok R (ms ++ ns) (vs ++ us)
  | [], _, _, _, h, k => by cases h; exact k
  | _ :: _, _, _, _, ⟨_, _, e, h, hs⟩, k => by subst e; exact VRs.cons h (VRs.append hs k)
theorem VRs.take : ∀ (n : Nat) {ms : List MV} {vs : List Value}, VRs w ok R ms vs → VRs w ok R (ms.take n) (vs.take n)
  | 0, _, _, _ => by simp; exact VRs.nil
  | _ + 1, [], _, h => by cases h; exact VRs.nil
  | n + 1, _ :: _, _, ⟨_, _, e, h, hs⟩ => by subst e; exact VRs.cons h (VRs.take n hs)
theorem VRs.drop : ∀ (n : Nat) {ms : List MV} {vs : List Value}, VRs w ok R ms vs → VRs w ok R (ms.drop n) (vs.drop n)
  | 0, _, _, h => by simpa using h
  | _ + 1, [], _, h => by cases h; exact VRs.nil
  | n + 1, _ :: _, _, ⟨_, _, e, _, hs⟩ => by subst e; exact VRs.drop n hs
theorem VRs.set : ∀ (n : Nat) {ms : List MV} {vs : List Value} {m : MV} {v : Value}, VRs w ok R ms vs → VR w ok R m v → VRs w ok R (ms.set n m) (vs.set n v)
  | _, [], _, _, _, h, _ => by cases h; exact VRs.nil
  | 0, _ :: _, _, _, _, ⟨_, _, e, _, hs⟩, k => by subst e; exact VRs.cons k hs
  | n + 1, _ :: _, _, _, _, ⟨_, _, e, h, hs⟩, k => by subst e; exact VRs.cons h (VRs.set n hs k)
theorem VRs.replicate {m : MV} {v : Value} (h : VR w ok R m v) : ∀ n, VRs w ok R (List.replicate n m) (List.replicate n v)
  | 0 => VRs.nil
  | n + 1 => by rw [List.replicate_succ, List.replicate_succ]; exact VRs.cons h (VRs.replicate h n)
theorem VRs.map_of {α : Type} {f : α → MV} {g : α → Value} : ∀ (l : List α), (∀ x ∈ l, VR w ok R (f x) (g x)) → VRs w ok R (l.map f) (l.map g)
  | [], _ => VRs.nil
  | x :: l, h => VRs.cons (h x (by simp)) (VRs.map_of l fun y hy => h y (by simp [hy]))
theorem VR_cv1 (v : Value) : VR w ok R (cv1 v) v := by
  unfold cv1
  split
  · exact ⟨none, 0, rfl, Nat.le_refl _, fun k h => by cases h; rfl, .inl ⟨rfl, rfl, fun _ => rfl⟩⟩
  · rfl
theorem VRs_cv1 (l : List Value) : VRs w ok R (l.map cv1) l := by
  have := VRs.map_of (w := w) (ok := ok) (R := R) (f := cv1) (g := id) l fun x _ => VR_cv1 x
  simpa using this
theorem VR_cv (v : Value) : VR w ok R (cv v) v := by
  unfold cv
  split
  · rename_i cs; exact ⟨cs.toList, rfl, VRs_cv1 _⟩
  · rename_i f; exact ⟨[], rfl, VRs.nil⟩
  · exact VR_cv1 _
end lists

mutual
theorem toVal_sound {w : World} {ok : Nat → Prop} {R : Nat → Nat → Option (Nat × Nat)} : ∀ (m : MV) (x v : Value), VR w ok R m x → toVal m = some v → x = v
  | .sc _, x, v, h, e => by simp [toVal] at e; subst e; exact h
  | .agg cs, x, v, ⟨vs, hx, h⟩, e => by
    simp only [toVal, Option.map_eq_some_iff] at e
    obtain ⟨l, hl, rfl⟩ := e
    rw [hx, toVals_sound cs vs l h hl]
  | .tup _, _, _, _, e => by simp [toVal] at e
  | .fs _ _ _, _, _, _, e => by simp [toVal] at e
  | .cp _, _, _, _, e => by simp [toVal] at e
  | .row _ _ _ _ _ _, _, _, _, e => by simp [toVal] at e
  | .ptr _ _ _, _, _, _, e => by simp [toVal] at e
  | .fn _ _, _, _, _, e => by simp [toVal] at e
  | .any, _, _, _, e => by simp [toVal] at e
theorem toVals_sound {w : World} {ok : Nat → Prop} {R : Nat → Nat → Option (Nat × Nat)} : ∀ (ms : List MV) (vs l : List Value), VRs w ok R ms vs → toVals ms = some l → vs = l
  | [], vs, l, h, e => by simp [toVals] at e; subst e; exact h
  | m :: ms, vs, l, ⟨v, vt, hx, h, hs⟩, e => by
    simp only [toVals] at e
    split at e
    · rename_i v' l' h1 h2
      cases e
      rw [hx, toVal_sound m v v' h h1, toVals_sound ms vt l' hs h2]
    · cases e
end

theorem pureRun_sound {α : Type} {P : Program} : ∀ (s : Sem α) (a : α), pureRun P s = some a → ∀ w, s.run P w = .ok a w
  | .pure _, a, h, w => by simp [pureRun] at h; subst h; rfl
  | .program k, a, h, w => by simp only [pureRun] at h; exact pureRun_sound (k P) a h w
  | .load _ _ _, _, h, _ => by simp [pureRun] at h
  | .store _ _ _ _, _, h, _ => by simp [pureRun] at h
  | .new _ _, _, h, _ => by simp [pureRun] at h
  | .shape _ _, _, h, _ => by simp [pureRun] at h
  | .freeze _ _ _, _, h, _ => by simp [pureRun] at h
  | .frozen _ _, _, h, _ => by simp [pureRun] at h
  | .getObj _ _, _, h, _ => by simp [pureRun] at h
  | .setObj _ _ _, _, h, _ => by simp [pureRun] at h
  | .choose _ _, _, h, _ => by simp [pureRun] at h
  | .sys _ _, _, h, _ => by simp [pureRun] at h
  | .mark _ _, _, h, _ => by simp [pureRun] at h
  | .halt _, _, h, _ => by simp [pureRun] at h
end Go.Proofs.YtkeelkeoijemiaaGreat.Ev

namespace Go.Proofs.YtkeelkeoijemiaaGreat.Ev
open Go Go.RowKit

structure IOw where
  p : Nat
  B : Nat
  d : Nat
  n : Nat
structure Gh where
  w0 : World
  ok0 : Nat → Prop
  ios : List IOw

/-- An entry and its block. -/
structure ER (G : Gh) (w : World) (ok : Nat → Prop) (R : Nat → Nat → Option (Nat × Nat)) (nm : Nat) (e : Ent) (B d : Nat) : Prop where
  at_ : R nm e.gen = some (B, d)
  body : ∃ c el vs, w.heap[B]? = some (.cells c el (0, 0)) ∧ VRs w ok R e.cells vs ∧ (∀ i, i < vs.length → c[d + i]? = vs[i]?) ∧ (vs = [] ∨ d + vs.length ≤ c.size)
  fro : e.frozen = true → ok B
  own : e.frozen = false → ¬ ok B
  base : G.w0.heap.size ≤ B ∨ e.gen = 0
  io : e.gen = 0 → e.frozen = false ∧ ∃ x ∈ G.ios, x.p = nm ∧ x.B = B ∧ x.d = d ∧ x.n = e.cells.length

structure SR (G : Gh) (st : St) (a : Act) (w : World) (ok : Nat → Prop) (R : Nat → Nat → Option (Nat × Nat)) (lim : Nat → Prop) : Prop where
  os : w.os = G.w0.os
  tape : w.tape = G.w0.tape
  output : w.output = G.w0.output
  size : G.w0.heap.size ≤ w.heap.size
  low : ∀ k, k < G.w0.heap.size → (∀ x ∈ G.ios, x.B ≠ k) → w.heap[k]? = G.w0.heap[k]?
  ioK : ∀ x ∈ G.ios, ∃ c c0 el fr, G.w0.heap[x.B]? = some (.cells c0 el fr) ∧ w.heap[x.B]? = some (.cells c el fr) ∧ c.size = c0.size ∧ ∀ i, (i < x.d ∨ x.d + x.n ≤ i) → c[i]? = c0[i]?
  okLt : ∀ b, ok b → b < w.heap.size
  okLow : ∀ b, ok b → G.ok0 b ∨ G.w0.heap.size ≤ b
  okUp : ∀ b, G.ok0 b → ok b
  ents : ∀ nm e, st.ent nm = some e → ∃ B d, ER G w ok R nm e B d
  apart : ∀ n n' e e' p p', n ≠ n' → st.ent n = some e → st.ent n' = some e' → R n e.gen = some p → R n' e'.gen = some p' → e.frozen = false → p.1 ≠ p'.1
  slots : VRs w ok R st.sl a.tmps.toList
  defers : a.defers = []
  fresh : ∀ nm g, R nm g ≠ none → lim g

theorem getD_set_some {en : List (Option Ent)} {n m : Nat} {x : Option Ent} {e : Ent} (h : (en.set n x).getD m none = some e) : (m = n ∧ x = some e) ∨ (m ≠ n ∧ en.getD m none = some e) := by
  simp only [List.getD_eq_getElem?_getD, List.getElem?_set] at h ⊢
  by_cases hm : n = m
  · subst hm
    by_cases hl : n < en.length
    · simp [hl] at h; exact .inl ⟨rfl, h⟩
    · simp [hl] at h
  · simp [hm] at h; exact .inr ⟨fun e => hm e.symm, h⟩
theorem setUpd_some : ∀ (u : List (Nat × Option Ent)) (en : List (Option Ent)) (m : Nat) (e : Ent), (setUpd en u).getD m none = some e → (m, some e) ∈ u ∨ (m ∉ u.map (·.1) ∧ en.getD m none = some e)
  | [], en, m, e, h => .inr ⟨by simp, h⟩
  | (n, x) :: r, en, m, e, h => by
    rcases setUpd_some r (en.set n x) m e h with h | ⟨h1, h2⟩
    · exact .inl (by simp [h])
    · rcases getD_set_some h2 with ⟨rfl, rfl⟩ | ⟨h3, h4⟩
      · exact .inl (by simp)
      · exact .inr ⟨by simp at h1 ⊢; exact ⟨h3, h1⟩, h4⟩

variable {P : Program} {G : Gh} {st : St} {a : Act} {w : World} {ok : Nat → Prop} {R : Nat → Nat → Option (Nat × Nat)} {lim : Nat → Prop}

theorem SR.lenEq (h : SR G st a w ok R lim) : a.tmps.size = st.sl.length := by
  have := h.slots.length; simpa using this

theorem VRs.getD {ms : List MV} {vs : List Value} (h : VRs w ok R ms vs) (t : Nat) : VR w ok R (ms.getD t undefM) (vs.getD t undef) := by
  cases hm : ms[t]? with
  | none =>
    have hl : ms.length ≤ t := by simpa using hm
    have : vs[t]? = none := by rw [List.getElem?_eq_none_iff, h.length]; exact hl
    simp only [List.getD_eq_getElem?_getD, hm, this, Option.getD_none]; rfl
  | some m =>
    obtain ⟨v, hv, hr⟩ := h.get t m hm
    simp only [List.getD_eq_getElem?_getD, hm, hv, Option.getD_some]; exact hr
theorem SR.slot (h : SR G st a w ok R lim) (t : Nat) : VR w ok R (st.slot t) (a.tmps.getD t undef) := by
  have := h.slots.getD t
  simpa [St.slot] using this
theorem SR.ev (h : SR G st a w ok R lim) : ∀ x : Operand, VR w ok R (st.ev x) (a.eval x)
  | .tmp t => h.slot t
  | .const v => VR_cv v
  | .global _ => rfl
  | .func _ => ⟨[], rfl, VRs.nil⟩

theorem ER.has {nm B d : Nat} {e : Ent} (h : ER G w ok R nm e B d) : hasCells w B 0 := by
  obtain ⟨c, el, vs, h1, _⟩ := h.body
  exact ⟨c, el, _, h1, Nat.zero_le _⟩
theorem ER.lt {nm B d : Nat} {e : Ent} (h : ER G w ok R nm e B d) : B < w.heap.size := by
  obtain ⟨c, el, vs, h1, _⟩ := h.body
  rcases Nat.lt_or_ge B w.heap.size with h | h
  · exact h
  · simp [Array.getElem?_eq_none h] at h1

/-- An entry whose block nobody touches. -/
theorem ER.keep {w' : World} {ok' : Nat → Prop} {R' : Nat → Nat → Option (Nat × Nat)} {nm B d : Nat} {e : Ent} (h : ER G w ok R nm e B d) (hx : Ext ok w w') (ho : ∀ b, ok b → ok' b)
    (hR : ∀ n g p, R n g = some p → R' n g = some p) (hB : w'.heap[B]? = w.heap[B]?) (hm : e.frozen = false → ¬ ok' B) : ER G w' ok' R' nm e B d := by
  obtain ⟨c, el, vs, h1, h2, h3, h4⟩ := h.body
  exact ⟨hR _ _ _ h.at_, ⟨c, el, vs, hB.trans h1, VRs.mono hx ho hR _ _ h2, h3, h4⟩, fun hf => ho _ (h.fro hf), hm, h.base, h.io⟩

/-- A slot is set to what is related. -/
theorem slots_put {m : MV} {v : Value} (h : VRs w ok R st.sl a.tmps.toList) (dst : Option Tmp) (hv : VR w ok R m v) :
    VRs w ok R (match dst with | some d => st.sl.set d m | none => st.sl) (a.put dst v).tmps.toList := by
  cases dst with
  | none => exact h
  | some d => simp only [Act.put, Array.toList_setIfInBounds]; exact h.set d hv
theorem defers_put {dst : Option Tmp} {v : Value} (h : a.defers = []) : (a.put dst v).defers = [] := by cases dst <;> exact h

/-- A value and no more. -/
theorem SR.val (h : SR G st a w ok R lim) {m : MV} {v : Value} (dst : Option Tmp) (hv : VR w ok R m v) (rd : List Nat) : SR G (st.put dst { val := m, rd := rd }) (a.put dst v) w ok R lim :=
  { h with slots := slots_put h.slots dst hv, defers := defers_put h.defers, ents := h.ents, apart := h.apart }
theorem SR.skip (h : SR G st a w ok R lim) (dst : Option Tmp) : SR G (st.skip dst) (a.put dst undef) w ok R lim :=
  { h with slots := slots_put h.slots dst rfl, defers := defers_put h.defers, ents := h.ents, apart := h.apart }

theorem Ext.alloc (w : World) (ok : Nat → Prop) (o : Obj) (h : ∀ b, ok b → b < w.heap.size) : Ext ok w (w.alloc o) :=
  ⟨fun b hb => Below.heap_alloc _ _ _ (h b hb), fun b n ⟨c, el, fr, h1, h2⟩ => ⟨c, el, fr, by
    have : b < w.heap.size := by
      rcases Nat.lt_or_ge b w.heap.size with h | h
      · exact h
      · simp [Array.getElem?_eq_none h] at h1
    rw [Below.heap_alloc _ _ _ this]; exact h1, h2⟩⟩
theorem heap_alloc_self (w : World) (o : Obj) : (w.alloc o).heap[w.heap.size]? = some o := by
  show (w.heap.push o)[w.heap.size]? = some o
  simp

/-- R with one place more. -/
def addR (R : Nat → Nat → Option (Nat × Nat)) (n g : Nat) (p : Nat × Nat) : Nat → Nat → Option (Nat × Nat) := fun n' g' => if n' = n ∧ g' = g then some p else R n' g'
theorem addR_self {n g : Nat} {p : Nat × Nat} : addR R n g p n g = some p := by simp [addR]
theorem addR_old {n g : Nat} {p : Nat × Nat} (hn : R n g = none) : ∀ n' g' q, R n' g' = some q → addR R n g p n' g' = some q := by
  intro n' g' q h
  unfold addR
  rw [if_neg]
  · exact h
  · rintro ⟨rfl, rfl⟩; rw [hn] at h; cases h

/-- A new row: entries may go, one comes. -/
theorem SR.new (h : SR G st a w ok R lim) {m : MV} {v : Value} (dst : Option Tmp) {d g : Nat} (hg : g ≠ 0) (hR : R d g = none) {cells : List MV} {vs : List Value} (c : Array Value) (el : TypeId)
    (hc : VRs w ok R cells vs) (hcs : ∀ i, i < vs.length → c[i]? = vs[i]?) (kill : List (Nat × Option Ent)) (hk : ∀ x ∈ kill, x.2 = none) (rd : List Nat)
    (hv : VR (w.alloc (.cells c el)) ok (addR R d g (w.heap.size, 0)) m v) :
    SR G (st.put dst { val := m, upd := kill ++ [(d, some ⟨g, cells, false⟩)], rd := rd }) (a.put dst v) (w.alloc (.cells c el)) ok (addR R d g (w.heap.size, 0)) (fun x => lim x ∨ x = g) := by
  have hx : Ext ok w (w.alloc (.cells c el)) := Ext.alloc _ _ _ h.okLt
  have hnok : ¬ ok w.heap.size := fun hb => Nat.lt_irrefl _ (h.okLt _ hb)
  have cases_ : ∀ n e, (st.put dst { val := m, upd := kill ++ [(d, some ⟨g, cells, false⟩)], rd := rd }).ent n = some e → (n = d ∧ e = ⟨g, cells, false⟩) ∨ (n ≠ d ∧ st.ent n = some e) := by
    intro n e he
    rcases setUpd_some _ _ _ _ he with h1 | ⟨h1, h2⟩
    · rcases List.mem_append.1 h1 with h1 | h1
      · have := hk _ h1; cases this
      · simp at h1; exact .inl h1
    · simp at h1; exact .inr ⟨h1.2, h2⟩
  refine { os := h.os, tape := h.tape, output := h.output, size := by simp; exact Nat.le_succ_of_le h.size, low := ?_, ioK := ?_, okLt := fun b hb => by simp; exact Nat.lt_succ_of_lt (h.okLt b hb), okLow := h.okLow, okUp := h.okUp, ents := ?_, apart := ?_, slots := ?_, defers := defers_put h.defers, fresh := ?_ }
  · intro k hk' hk2
    rw [Below.heap_alloc _ _ _ (Nat.lt_of_lt_of_le hk' h.size)]; exact h.low k hk' hk2
  · intro x hx'
    obtain ⟨c1, c0, el1, fr, h1, h2, h3, h4⟩ := h.ioK x hx'
    refine ⟨c1, c0, el1, fr, h1, ?_, h3, h4⟩
    have : x.B < w.heap.size := by
      rcases Nat.lt_or_ge x.B w.heap.size with h | h
      · exact h
      · simp [Array.getElem?_eq_none h] at h2
    rw [Below.heap_alloc _ _ _ this]; exact h2
  · intro n e he
    rcases cases_ n e he with ⟨rfl, rfl⟩ | ⟨_, he⟩
    · refine ⟨w.heap.size, 0, addR_self, ⟨c, el, vs, heap_alloc_self _ _, VRs.mono hx (fun _ h => h) (addR_old hR) _ _ hc, fun i hi => by simpa using hcs i hi, ?_⟩, fun hf => (Bool.noConfusion hf), fun _ => hnok, .inl h.size, fun h0 => absurd h0 hg⟩
      cases vs with
      | nil => exact .inl rfl
      | cons v0 vs0 =>
        right
        have := hcs vs0.length (by simp)
        rw [Nat.zero_add]
        rcases Nat.lt_or_ge vs0.length c.size with h' | h'
        · simp; omega
        · rw [Array.getElem?_eq_none h'] at this
          have h9 : (v0 :: vs0)[vs0.length]? ≠ none := by simp
          exact absurd this.symm h9
    · obtain ⟨B, d', hE⟩ := h.ents n e he
      exact ⟨B, d', hE.keep hx (fun _ h => h) (addR_old hR) (Below.heap_alloc _ _ _ hE.lt) hE.own⟩
  · intro n n' e e' p p' hne he he' hp hp' hf
    rcases cases_ n e he with ⟨rfl, rfl⟩ | ⟨_, he1⟩
    · rcases cases_ n' e' he' with ⟨rfl, rfl⟩ | ⟨_, he1'⟩
      · exact absurd rfl hne
      · obtain ⟨B, d', hE⟩ := h.ents n' e' he1'
        have e1 : p = (w.heap.size, 0) := by have := hp.symm.trans (addR_self (R := R)); exact Option.some.inj this
        have e2 : p' = (B, d') := by have := hp'.symm.trans (addR_old hR _ _ _ hE.at_); exact Option.some.inj this
        subst e1 e2
        exact fun e => by have := hE.lt; simp at e; omega
    · obtain ⟨B, d', hE⟩ := h.ents n e he1
      have e1 : p = (B, d') := by have := hp.symm.trans (addR_old hR _ _ _ hE.at_); exact Option.some.inj this
      rcases cases_ n' e' he' with ⟨rfl, rfl⟩ | ⟨_, he1'⟩
      · have e2 : p' = (w.heap.size, 0) := by have := hp'.symm.trans (addR_self (R := R)); exact Option.some.inj this
        subst e1 e2
        exact fun e => by have := hE.lt; simp at e; omega
      · obtain ⟨B', d'', hE'⟩ := h.ents n' e' he1'
        have e2 : p' = (B', d'') := by have := hp'.symm.trans (addR_old hR _ _ _ hE'.at_); exact Option.some.inj this
        subst e1 e2
        exact h.apart n n' e e' _ _ hne he1 he1' hE.at_ hE'.at_ hf
  · exact slots_put (VRs.mono hx (fun _ h => h) (addR_old hR) _ _ h.slots) dst hv
  · intro n' g' hne
    unfold addR at hne
    split at hne
    · rename_i hh; exact .inr hh.2
    · exact .inl (h.fresh _ _ hne)
end Go.Proofs.YtkeelkeoijemiaaGreat.Ev

namespace Go.Proofs.YtkeelkeoijemiaaGreat.Ev
open Go Go.RowKit

structure Gh.ok (G : Gh) : Prop where
  lt : ∀ x ∈ G.ios, x.B < G.w0.heap.size
  one : ∀ x ∈ G.ios, ∀ y ∈ G.ios, x.B = y.B → x = y
  no : ∀ x ∈ G.ios, ¬ G.ok0 x.B

variable {P : Program} {G : Gh} {st : St} {a : Act} {w : World} {ok : Nat → Prop} {R : Nat → Nat → Option (Nat × Nat)} {lim : Nat → Prop}

theorem lt_of_heap {w : World} {k : Nat} {o : Obj} (h : w.heap[k]? = some o) : k < w.heap.size := (Array.getElem?_eq_some_iff.1 h).1

theorem Ext.setRow {B : Nat} {c c' : Array Value} {el : TypeId} (hB : w.heap[B]? = some (.cells c el (0, 0))) (hs : c'.size = c.size) (hn : ¬ ok B) : Ext ok w (w.setRow B c') := by
  refine ⟨fun b hb => setRow_other _ _ _ _ (fun e => hn (e ▸ hb)), fun b n ⟨c1, el1, fr, h1, h2⟩ => ?_⟩
  by_cases hb : b = B
  · subst hb
    rw [hB] at h1; cases h1
    exact ⟨c', el, (0, 0), setRow_heap _ _ _ _ _ _ hB, by omega⟩
  · exact ⟨c1, el1, fr, by rw [setRow_other _ _ _ _ hb]; exact h1, h2⟩

/-- A write into a row of one's own. -/
theorem SR.write (hG : G.ok) (h : SR G st a w ok R lim) {nm B d0 : Nat} {e : Ent} (he : st.ent nm = some e) (hE : ER G w ok R nm e B d0) (hf : e.frozen = false)
    {c c' : Array Value} {el : TypeId} (hB : w.heap[B]? = some (.cells c el (0, 0))) (hs : c'.size = c.size) {lo hi : Nat} (hc : ∀ i, (i < lo ∨ hi ≤ i) → c'[i]? = c[i]?)
    (hio : e.gen = 0 → d0 ≤ lo ∧ hi ≤ d0 + e.cells.length) {R' : Nat → Nat → Option (Nat × Nat)} (hR : ∀ n g p, R n g = some p → R' n g = some p) {lim' : Nat → Prop} (hlim : ∀ n g, R' n g ≠ none → lim' g)
    {st' : St} {a' : Act} {nm' d' : Nat} {e' : Ent} (hE' : ER G (w.setRow B c') ok R' nm' e' B d') (hf' : e'.frozen = false)
    (hst : ∀ n x, st'.ent n = some x → (n = nm' ∧ x = e') ∨ (n ≠ nm ∧ n ≠ nm' ∧ st.ent n = some x)) (hsl : VRs (w.setRow B c') ok R' st'.sl a'.tmps.toList) (hd : a'.defers = []) :
    SR G st' a' (w.setRow B c') ok R' lim' := by
  have hn : ¬ ok B := hE.own hf
  have hx : Ext ok w (w.setRow B c') := Ext.setRow hB hs hn
  have hlt : B < w.heap.size := lt_of_heap hB
  have other : ∀ n x, n ≠ nm → st.ent n = some x → ∃ B1 d1, ER G w ok R n x B1 d1 ∧ B1 ≠ B := by
    intro n x hne hx1
    obtain ⟨B1, d1, h1⟩ := h.ents n x hx1
    exact ⟨B1, d1, h1, fun eq => h.apart nm n e x (B, d0) (B1, d1) (Ne.symm hne) he hx1 hE.at_ h1.at_ hf eq.symm⟩
  refine { os := h.os, tape := h.tape, output := h.output, size := by simpa [World.setRow] using h.size, low := ?_, ioK := ?_, okLt := fun b hb => by simpa [World.setRow] using h.okLt b hb, okLow := h.okLow, okUp := h.okUp, ents := ?_, apart := ?_, slots := hsl, defers := hd, fresh := hlim }
  · intro k hk hk2
    by_cases hkB : k = B
    · exfalso
      rcases hE.base with hb | hb
      · omega
      · obtain ⟨_, x, hx1, _, hxB, _, _⟩ := hE.io hb
        exact hk2 x hx1 (hxB.trans hkB.symm)
    · rw [setRow_other _ _ _ _ hkB]; exact h.low k hk hk2
  · intro x hx1
    obtain ⟨c1, c0, el1, fr, h1, h2, h3, h4⟩ := h.ioK x hx1
    by_cases hxB : x.B = B
    · have hg : e.gen = 0 := by
        rcases hE.base with hb | hb
        · have := hG.lt x hx1; omega
        · exact hb
      obtain ⟨_, y, hy1, _, hyB, hyd, hyn⟩ := hE.io hg
      have hxy : x = y := hG.one x hx1 y hy1 (hxB.trans hyB.symm)
      subst hxy
      rw [hxB, hB] at h2
      cases h2
      obtain ⟨hr1, hr2⟩ := hio hg
      refine ⟨c', c0, el, (0, 0), h1, ?_, hs.trans h3, fun i hi => ?_⟩
      · rw [hxB]; exact setRow_heap _ _ _ _ _ _ hB
      · rw [hc i (by omega)]; exact h4 i hi
    · exact ⟨c1, c0, el1, fr, h1, by rw [setRow_other _ _ _ _ hxB]; exact h2, h3, h4⟩
  · intro n x hx1
    rcases hst n x hx1 with ⟨rfl, rfl⟩ | ⟨hne, _, hx2⟩
    · exact ⟨B, d', hE'⟩
    · obtain ⟨B1, d1, h1, hne1⟩ := other n x hne hx2
      exact ⟨B1, d1, h1.keep hx (fun _ h => h) hR (setRow_other _ _ _ _ hne1) h1.own⟩
  · intro n n' x x' p p' hne hx1 hx1' hp hp' hfx
    rcases hst n x hx1 with ⟨rfl, rfl⟩ | ⟨hn1, _, hx2⟩
    · rcases hst n' x' hx1' with ⟨rfl, rfl⟩ | ⟨hn1', _, hx2'⟩
      · exact absurd rfl hne
      · obtain ⟨B1, d1, h1, hne1⟩ := other n' x' hn1' hx2'
        have e1 := Option.some.inj (hp.symm.trans hE'.at_)
        have e2 := Option.some.inj (hp'.symm.trans (hR _ _ _ h1.at_))
        subst e1 e2
        exact fun e => hne1 e.symm
    · obtain ⟨B1, d1, h1, hne1⟩ := other n x hn1 hx2
      have e1 := Option.some.inj (hp.symm.trans (hR _ _ _ h1.at_))
      rcases hst n' x' hx1' with ⟨rfl, rfl⟩ | ⟨hn1', _, hx2'⟩
      · have e2 := Option.some.inj (hp'.symm.trans hE'.at_)
        subst e1 e2
        exact hne1
      · obtain ⟨B2, d2, h2⟩ := h.ents n' x' hx2'
        have e2 := Option.some.inj (hp'.symm.trans (hR _ _ _ h2.at_))
        subst e1 e2
        exact h.apart n n' x x' _ _ hne hx2 hx2' h1.at_ h2.at_ hfx

theorem setFrz_some : ∀ (f : List Nat) (en : List (Option Ent)) (m : Nat) (e : Ent), (setFrz en f).getD m none = some e → ∃ e0, en.getD m none = some e0 ∧ e.gen = e0.gen ∧ e.cells = e0.cells ∧ (e.frozen = true ↔ (e0.frozen = true ∨ m ∈ f))
  | [], en, m, e, h => ⟨e, h, rfl, rfl, by simp⟩
  | n :: r, en, m, e, h => by
    simp only [setFrz] at h
    obtain ⟨e1, h1, hg, hc, hf⟩ := setFrz_some r _ m e h
    unfold frzAt at h1
    split at h1
    · rename_i e2 he2
      rcases getD_set_some h1 with ⟨rfl, hh⟩ | ⟨hne, hh⟩
      · cases hh
        exact ⟨e2, he2, hg, hc, by rw [hf]; simp⟩
      · exact ⟨e1, hh, hg, hc, by rw [hf]; simp [hne]⟩
    · rename_i he2
      refine ⟨e1, h1, hg, hc, ?_⟩
      have : m ≠ n := by rintro rfl; rw [he2] at h1; cases h1
      rw [hf]; simp [this]

/-- What may be read, some rows frozen. -/
def okF (st : St) (R : Nat → Nat → Option (Nat × Nat)) (ok : Nat → Prop) (fz : List Nat) : Nat → Prop := fun b => ok b ∨ ∃ nm ∈ fz, ∃ e d, st.ent nm = some e ∧ R nm e.gen = some (b, d)

theorem SR.freeze (h : SR G st a w ok R lim) (fz : List Nat) (hz : ∀ nm ∈ fz, ∀ e, st.ent nm = some e → e.gen ≠ 0) :
    SR G { st with en := setFrz st.en fz } a w (okF st R ok fz) R lim := by
  have up : ∀ b, ok b → okF st R ok fz b := fun b hb => .inl hb
  have old : ∀ n x, ({ st with en := setFrz st.en fz } : St).ent n = some x → ∃ e0, st.ent n = some e0 ∧ x.gen = e0.gen ∧ x.cells = e0.cells ∧ (x.frozen = true ↔ (e0.frozen = true ∨ n ∈ fz)) :=
    fun n x hx => setFrz_some fz st.en n x hx
  refine { h with okLt := ?_, okLow := ?_, okUp := fun b hb => .inl (h.okUp b hb), ents := ?_, apart := ?_, slots := VRs.mono (Ext.refl _ _) up (fun _ _ _ h => h) _ _ h.slots }
  · rintro b (hb | ⟨nm, _, e, d, he, hR⟩)
    · exact h.okLt b hb
    · obtain ⟨B, d', hE⟩ := h.ents nm e he
      have := Option.some.inj (hR.symm.trans hE.at_)
      cases this; exact hE.lt
  · rintro b (hb | ⟨nm, hn, e, d, he, hR⟩)
    · exact h.okLow b hb
    · obtain ⟨B, d', hE⟩ := h.ents nm e he
      have := Option.some.inj (hR.symm.trans hE.at_)
      cases this
      exact .inr (hE.base.resolve_right (hz nm hn e he))
  · intro n x hx
    obtain ⟨e0, he0, hg, hc, hf⟩ := old n x hx
    obtain ⟨B, d, hE⟩ := h.ents n e0 he0
    obtain ⟨c, el, vs, h1, h2, h3, h4⟩ := hE.body
    refine ⟨B, d, by rw [hg]; exact hE.at_, ⟨c, el, vs, h1, by rw [hc]; exact VRs.mono (Ext.refl _ _) up (fun _ _ _ h => h) _ _ h2, h3, h4⟩, ?_, ?_, by rw [hg]; exact hE.base, ?_⟩
    · intro hx1
      rcases hf.1 hx1 with hx2 | hx2
      · exact .inl (hE.fro hx2)
      · exact .inr ⟨n, hx2, e0, d, he0, hE.at_⟩
    · intro hx1
      have hnf : e0.frozen = false := by
        cases hh : e0.frozen with
        | false => rfl
        | true => rw [hf.2 (.inl hh)] at hx1; cases hx1
      have hnn : n ∉ fz := fun hh => by rw [hf.2 (.inr hh)] at hx1; cases hx1
      rintro (hb | ⟨nm, hm, e, d', he, hR⟩)
      · exact hE.own hnf hb
      · exact h.apart n nm e0 e (B, d) (B, d') (fun e => hnn (e ▸ hm)) he0 he hE.at_ hR hnf rfl
    · intro hg0
      rw [hg] at hg0
      obtain ⟨hfr, hio⟩ := hE.io hg0
      refine ⟨?_, by rw [hc]; exact hio⟩
      cases hh : x.frozen with
      | false => rfl
      | true =>
        rcases hf.1 hh with hx2 | hx2
        · rw [hfr] at hx2; cases hx2
        · exact absurd hg0 (hz n hx2 e0 he0)
  · intro n n' x x' p p' hne hx hx' hp hp' hfx
    obtain ⟨e0, he0, hg, hc, hf⟩ := old n x hx
    obtain ⟨e0', he0', hg', hc', hf'⟩ := old n' x' hx'
    have hnf : e0.frozen = false := by
      cases hh : e0.frozen with
      | false => rfl
      | true => rw [hf.2 (.inl hh)] at hfx; cases hfx
    rw [hg] at hp; rw [hg'] at hp'
    exact h.apart n n' e0 e0' p p' hne he0 he0' hp hp' hnf

mutual
theorem freeze_sound (h : SR G st a w ok R lim) {ok' : Nat → Prop} (up : ∀ b, ok b → ok' b) : ∀ (k : Nat) (m m' : MV) (ns : List Nat) (x : Value), freeze st.ent k m = some (m', ns) → VR w ok R m x →
    (∀ nm ∈ ns, ∀ e b d, st.ent nm = some e → R nm e.gen = some (b, d) → ok' b) → VR w ok' noR m' x
  | 0, _, _, _, _, e, _, _ => by simp [freeze] at e
  | k + 1, .sc v, m', ns, x, e, hv, _ => by simp [freeze] at e; obtain ⟨rfl, rfl⟩ := e; exact hv
  | k + 1, .fs n c cs, m', ns, x, e, hv, _ => by simp [freeze] at e; obtain ⟨rfl, rfl⟩ := e; exact VR.mono (R := R) (Ext.refl _ _) up (fun _ _ _ h => h) _ _ hv
  | k + 1, .any, m', ns, x, e, hv, _ => by simp [freeze] at e
  | k + 1, .cp cs, m', ns, x, e, hv, _ => by simp [freeze] at e; obtain ⟨rfl, rfl⟩ := e; exact VR.mono (R := R) (Ext.refl _ _) up (fun _ _ _ h => h) _ _ hv
  | k + 1, .agg cs, m', ns, x, e, ⟨vs, hx, hv⟩, hb => by
    simp only [freeze, Option.map_eq_some_iff] at e
    obtain ⟨⟨y, z⟩, h1, h2⟩ := e; cases h2
    exact ⟨vs, hx, freezes_sound h up k cs y z vs h1 hv hb⟩
  | k + 1, .tup cs, m', ns, x, e, ⟨vs, hx, hv⟩, hb => by
    simp only [freeze, Option.map_eq_some_iff] at e
    obtain ⟨⟨y, z⟩, h1, h2⟩ := e; cases h2
    exact ⟨vs, hx, freezes_sound h up k cs y z vs h1 hv hb⟩
  | k + 1, .fn f cs, m', ns, x, e, ⟨vs, hx, hv⟩, hb => by
    simp only [freeze, Option.map_eq_some_iff] at e
    obtain ⟨⟨y, z⟩, h1, h2⟩ := e; cases h2
    exact ⟨vs, hx, freezes_sound h up k cs y z vs h1 hv hb⟩
  | k + 1, .ptr nm g off, m', ns, x, e, ⟨B, d, hR, hx⟩, hb => by
    simp only [freeze] at e
    split at e
    · rename_i en he
      split at e
      · rename_i hg
        simp only [Option.map_eq_some_iff] at e
        obtain ⟨⟨y, z⟩, h1, h2⟩ := e; cases h2
        obtain ⟨B', d', hE⟩ := h.ents nm en he
        have hBB := Option.some.inj ((hg.1 ▸ hR).symm.trans hE.at_)
        cases hBB
        obtain ⟨c, el, vs, h3, h4, h5, _⟩ := hE.body
        refine ⟨B, d + off, vs.drop off, hx, hb nm (by simp) en B d he hE.at_, ?_, freezes_sound h up k _ y z _ h1 (h4.drop off) fun n hn => hb n (by simp [hn])⟩
        intro i hi
        simp only [List.length_drop] at hi
        simp only [World.cell?, h3, List.getElem?_drop, Nat.add_assoc]
        exact h5 (off + i) (by omega)
      · cases e
    · cases e
  | k + 1, .row nm g off len cap sz, m', ns, x, e, ⟨B, d, c0, hR, hx, hl, hc, _⟩, hb => by
    simp only [freeze] at e
    split at e
    · rename_i en he
      split at e
      · rename_i hg
        simp only [Option.map_eq_some_iff] at e
        obtain ⟨⟨y, z⟩, h1, h2⟩ := e; cases h2
        obtain ⟨B', d', hE⟩ := h.ents nm en he
        have hBB := Option.some.inj ((hg.1 ▸ hR).symm.trans hE.at_)
        cases hBB
        obtain ⟨c, el, vs, h3, h4, h5, _⟩ := hE.body
        refine ⟨_, c0, hx, hl, hc, .inr ⟨B, d + off, (vs.drop off).take (len * sz), rfl, hb nm (by simp) en B d he hE.at_, ?_, freezes_sound h up k _ y z _ h1 ((h4.drop off).take _) fun n hn => hb n (by simp [hn])⟩⟩
        intro i hi
        simp only [List.length_take, List.length_drop] at hi
        have hi1 : i < len * sz := Nat.lt_of_lt_of_le hi (Nat.min_le_left _ _)
        have hi2 : i < vs.length - off := Nat.lt_of_lt_of_le hi (Nat.min_le_right _ _)
        rw [List.getElem?_take_of_lt hi1, List.getElem?_drop]
        simp only [World.cell?, h3, Nat.add_assoc]
        exact h5 (off + i) (by omega)
      · cases e
    · cases e
theorem freezes_sound (h : SR G st a w ok R lim) {ok' : Nat → Prop} (up : ∀ b, ok b → ok' b) : ∀ (k : Nat) (ms ms' : List MV) (ns : List Nat) (vs : List Value), freezes st.ent k ms = some (ms', ns) → VRs w ok R ms vs →
    (∀ nm ∈ ns, ∀ e b d, st.ent nm = some e → R nm e.gen = some (b, d) → ok' b) → VRs w ok' noR ms' vs
  | 0, _, _, _, _, e, _, _ => by simp [freezes] at e
  | k + 1, [], ms', ns, vs, e, hv, _ => by simp [freezes] at e; obtain ⟨rfl, rfl⟩ := e; exact hv
  | k + 1, m :: ms, ms', ns, vs, e, ⟨v, vt, hx, hv, hvs⟩, hb => by
    simp only [freezes] at e
    split at e
    · rename_i x y h1 h2
      cases e
      subst hx
      exact VRs.cons (freeze_sound h up k m x.1 x.2 v h1 hv fun n hn => hb n (by simp [hn])) (freezes_sound h up k ms y.1 y.2 vt h2 hvs fun n hn => hb n (by simp [hn]))
    · cases e
end
mutual
theorem freeze_gen (en : Nat → Option Ent) : ∀ (k : Nat) (m m' : MV) (ns : List Nat), freeze en k m = some (m', ns) → ∀ nm ∈ ns, ∀ e, en nm = some e → e.gen ≠ 0
  | 0, _, _, _, e => by simp [freeze] at e
  | k + 1, .sc v, m', ns, e => by simp [freeze] at e; obtain ⟨rfl, rfl⟩ := e; simp
  | k + 1, .fs n c cs, m', ns, e => by simp [freeze] at e; obtain ⟨rfl, rfl⟩ := e; simp
  | k + 1, .any, m', ns, e => by simp [freeze] at e
  | k + 1, .cp cs, m', ns, e => by simp [freeze] at e; obtain ⟨rfl, rfl⟩ := e; simp
  | k + 1, .agg cs, m', ns, e => by
    simp only [freeze, Option.map_eq_some_iff] at e
    obtain ⟨⟨y, z⟩, h1, h2⟩ := e; cases h2; exact freezes_gen en k cs y z h1
  | k + 1, .tup cs, m', ns, e => by
    simp only [freeze, Option.map_eq_some_iff] at e
    obtain ⟨⟨y, z⟩, h1, h2⟩ := e; cases h2; exact freezes_gen en k cs y z h1
  | k + 1, .fn f cs, m', ns, e => by
    simp only [freeze, Option.map_eq_some_iff] at e
    obtain ⟨⟨y, z⟩, h1, h2⟩ := e; cases h2; exact freezes_gen en k cs y z h1
  | k + 1, .ptr nm g off, m', ns, e => by
    simp only [freeze] at e
    split at e
    · rename_i en0 he
      split at e
      · rename_i hg
        simp only [Option.map_eq_some_iff] at e
        obtain ⟨⟨y, z⟩, h1, h2⟩ := e; cases h2
        intro n hn e1 he1
        rcases List.mem_cons.1 hn with rfl | hn
        · rw [he] at he1; cases he1; rw [hg.1]; exact hg.2
        · exact freezes_gen en k _ y z h1 n hn e1 he1
      · cases e
    · cases e
  | k + 1, .row nm g off len cap sz, m', ns, e => by
    simp only [freeze] at e
    split at e
    · rename_i en0 he
      split at e
      · rename_i hg
        simp only [Option.map_eq_some_iff] at e
        obtain ⟨⟨y, z⟩, h1, h2⟩ := e; cases h2
        intro n hn e1 he1
        rcases List.mem_cons.1 hn with rfl | hn
        · rw [he] at he1; cases he1; rw [hg.1]; exact hg.2.1
        · exact freezes_gen en k _ y z h1 n hn e1 he1
      · cases e
    · cases e
theorem freezes_gen (en : Nat → Option Ent) : ∀ (k : Nat) (ms ms' : List MV) (ns : List Nat), freezes en k ms = some (ms', ns) → ∀ nm ∈ ns, ∀ e, en nm = some e → e.gen ≠ 0
  | 0, _, _, _, e => by simp [freezes] at e
  | k + 1, [], ms', ns, e => by simp [freezes] at e; obtain ⟨rfl, rfl⟩ := e; simp
  | k + 1, m :: ms, ms', ns, e => by
    simp only [freezes] at e
    split at e
    · rename_i x y h1 h2
      cases e
      intro n hn
      rcases List.mem_append.1 hn with hn | hn
      · exact freeze_gen en k m x.1 x.2 h1 n hn
      · exact freezes_gen en k ms y.1 y.2 h2 n hn
    · cases e
end
end Go.Proofs.YtkeelkeoijemiaaGreat.Ev

