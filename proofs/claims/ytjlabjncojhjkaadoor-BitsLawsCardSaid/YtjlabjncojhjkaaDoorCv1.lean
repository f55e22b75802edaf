/- The value-level semantics: what each operation, each piece of code and each function does to clean values and the clean heap. -/
import Derived.Test.YtjlabjncojhjkaaDoorCv0
namespace Go.Cv
open Go

/-! ### Types, as far as the semantics asks for them -/
inductive TK where
  | int (k : IntKind)
  | bool
  | str
  | slice (e : Nat)
  | ptr (e : Nat)
  | map (k e : Nat)
  | struct (fs : List (Nat × Nat))
  | arr (n e : Nat)
  | other
  deriving Inhabited
def TK.isSl : TK → Bool
  | .slice _ => true
  | _ => false
/-- A type: its kind, its cells, its bytes, the cells of its zero value, and, if '==' goes cell by cell, the cells' kinds. -/
structure Ty where
  kd : TK
  sz : Nat
  bts : Nat
  zero : Option (List CV)
  flat : Option (List TK)
  deriving Inhabited
def Ty.agg (t : Ty) : Bool := match t.kd with | .struct _ => true | .arr _ _ => true | _ => false
def Ty.zeroV (t : Ty) : Option CV := match t.zero with | some zc => if t.agg then some (.agg zc) else zc[0]? | none => none

/-- The surroundings: the program, its types, what its variables hold (never written), and where slices are taken to be never written again: parameters at a function's entry; slots behind a region; a function's results; which functions may be called. -/
structure Env where
  P : Program
  T : Nat → Option Ty
  G : Nat → Option (List CV)
  ent : Nat → List Nat
  rgf : Nat → Nat → List Nat
  rtf : Nat → Bool
  okf : Nat → Bool

def ofS : Value → CV
  | .bool b => .bool b
  | .int k n => .int k n
  | .string s => .str s.data.toList
  | .pointer none => .nilp
  | .slice none 0 0 => .nils
  | .map none => .nilm
  | .nilFunc => .nilf
  | _ => .undef
def oneV : Value → Bool
  | .agg _ => false
  | .tuple _ => false
  | _ => true
def ofV : Value → CV
  | .agg cs => if cs.toList.all oneV then .agg (cs.toList.map ofS) else .undef
  | .tuple vs => if vs.isEmpty then .tup [] else .undef
  | v => ofS v

def evC (E : Env) (tm : List CV) : Operand → CV
  | .tmp t => tm.getD t (.tup [])
  | .const v => ofV v
  | .global g => match E.G g with | some cs => .iptr cs 0 | none => .undef
  | .func f => .fn f []

/-! ### Operations -/
def splice (cs : List CV) (off : Nat) (vc : List CV) : List CV := cs.take off ++ vc ++ cs.drop (off + vc.length)
def ldC (ag : Bool) (sz : Nat) (cs : List CV) (off : Nat) : Option CV :=
  if ag then (if off + sz ≤ cs.length then some (.agg ((cs.drop off).take sz)) else none) else cs[off]?
def chunk (sz : Nat) : Nat → List CV → List (List CV)
  | 0, _ => []
  | n + 1, cs => cs.take sz :: chunk sz n (cs.drop sz)
def fillC (place : Nat → Option (Nat × Nat)) (cs : List CV) : List (Nat × CV) → Option (List CV)
  | [] => some cs
  | (i, v) :: r =>
    match place i with
    | some (off, size) =>
      match v.cells with
      | some vc => if vc.length = size ∧ off + size ≤ cs.length then fillC place (splice cs off vc) r else none
      | none => none
    | none => none

def intBin : BinOp → IntKind → Int → Int → Option CV
  | .add, k, x, y => some (.int k (k.wrap (x + y)))
  | .sub, k, x, y => some (.int k (k.wrap (x - y)))
  | .mul, k, x, y => some (.int k (k.wrap (x * y)))
  | .quo, k, x, y => if y = 0 then none else some (.int k (k.wrap (x.tdiv y)))
  | .rem, k, x, y => if y = 0 then none else some (.int k (x.tmod y))
  | .and, k, x, y => some (.int k (k.wrap (BitVec.ofInt k.bits x &&& BitVec.ofInt k.bits y).toNat))
  | .or, k, x, y => some (.int k (k.wrap (BitVec.ofInt k.bits x ||| BitVec.ofInt k.bits y).toNat))
  | .xor, k, x, y => some (.int k (k.wrap (BitVec.ofInt k.bits x ^^^ BitVec.ofInt k.bits y).toNat))
  | .andNot, k, x, y => some (.int k (k.wrap (BitVec.ofInt k.bits x &&& ~~~BitVec.ofInt k.bits y).toNat))
  | .shl, k, x, y => if y < 0 then none else some (.int k (k.wrap (x * 2 ^ (min y.toNat k.bits))))
  | .shr, k, x, y => if y < 0 then none else some (.int k (x.fdiv (2 ^ (min y.toNat k.bits))))
  | .eql, _, x, y => some (.bool (decide (x = y)))
  | .neq, _, x, y => some (.bool (!decide (x = y)))
  | .lss, _, x, y => some (.bool (decide (x < y)))
  | .leq, _, x, y => some (.bool (decide (x ≤ y)))
  | .gtr, _, x, y => some (.bool (decide (x > y)))
  | .geq, _, x, y => some (.bool (decide (x ≥ y)))
def isShift : BinOp → Bool
  | .shl => true
  | .shr => true
  | _ => false
def strBin : BinOp → List UInt8 → List UInt8 → Option CV
  | .add, x, y => if x.length + y.length ≤ 9223372036854775807 then some (.str (x ++ y)) else none
  | .eql, x, y => some (.bool (x == y))
  | .neq, x, y => some (.bool (!(x == y)))
  | .lss, x, y => some (.bool (Op.bytesLess x y))
  | .leq, x, y => some (.bool (Op.bytesLess x y || x == y))
  | .gtr, x, y => some (.bool (!(Op.bytesLess x y || x == y)))
  | .geq, x, y => some (.bool (!(Op.bytesLess x y)))
  | _, _, _ => none
/-- '==' of two cells of a kind that hold numbers, bools or strings. -/
def cmpC : TK → CV → CV → Option Bool
  | .int _, .int j a, .int k b => if j = k then some (a == b) else none
  | .bool, .bool a, .bool b => some (a == b)
  | .str, .str a, .str b => some (a == b)
  | _, _, _ => none
def cmpL : List TK → List CV → List CV → Option Bool
  | [], [], [] => some true
  | t :: ts, x :: xs, y :: ys => match cmpC t x y, cmpL ts xs ys with | some a, some b => some (a && b) | _, _ => none
  | _, _, _ => none
def eqBin (ty : Ty) (x y : CV) : Option Bool :=
  match ty.kd, x, y with
  | .bool, .bool a, .bool b => some (a == b)
  | .struct _, .agg xs, .agg ys => match ty.flat with | some ks => cmpL ks xs ys | none => none
  | .ptr _, .nilp, .nilp => some true
  | .ptr _, .nilp, .ptr _ _ => some false
  | .ptr _, .nilp, .iptr _ _ => some false
  | .ptr _, .ptr _ _, .nilp => some false
  | .ptr _, .iptr _ _, .nilp => some false
  | .slice _, .nils, .nils => some true
  | .slice _, .ref _ _ _ _, .nils => some false
  | .slice _, .nils, .ref _ _ _ _ => some false
  | .slice _, .lst _ (_ :: _), .nils => some false
  | .slice _, .nils, .lst _ (_ :: _) => some false
  | .map _ _, .nilm, .nilm => some true
  | .map _ _, .map _, .nilm => some false
  | .map _ _, .nilm, .map _ => some false
  | _, _, _ => none
def binC (E : Env) (op : BinOp) (t : Nat) (x y : CV) : Option CV :=
  match x, y with
  | .int j a, .int k b => if isShift op then intBin op j a b else if j = k then intBin op j a b else none
  | .str a, .str b => strBin op a b
  | x, y =>
    match E.T t with
    | some ty =>
      match op with
      | .eql => (eqBin ty x y).map .bool
      | .neq => (eqBin ty x y).map fun r => .bool (!r)
      | _ => none
    | none => none
def unC : UnOp → CV → Option CV
  | .neg, .int k n => some (.int k (k.wrap (0 - n)))
  | .xor, .int k n => intBin .xor k (if k.signed then -1 else k.max) n
  | .not, .bool b => some (.bool (!b))
  | _, _ => none
def byteCells : List CV → Option (List UInt8)
  | [] => some []
  | .int .u8 n :: r => (byteCells r).map (UInt8.ofNat n.toNat :: ·)
  | _ :: _ => none
/-- The cells of a slice that is read. -/
def rowC (v : CV) : CM (List CV) :=
  match v with
  | .nils => .pure []
  | .lst _ xs => .pure xs.flatten
  | .ref id off len sz => .get id fun o =>
    match o with
    | .cells cs => if off + len * sz ≤ cs.length then .pure ((cs.drop off).take (len * sz)) else .fail
    | .fro cs => if off + len * sz ≤ cs.length then .pure ((cs.drop off).take (len * sz)) else .fail
    | _ => .fail
  | _ => .fail
def lenC : CV → Option Nat
  | .nils => some 0
  | .lst _ xs => some xs.length
  | .ref _ _ len _ => some len
  | .str s => some s.length
  | _ => none
/-- A slice's elements have sz cells. -/
def szC (sz : Nat) : CV → Bool
  | .nils => true
  | .lst s _ => s == sz
  | .ref _ _ _ s => s == sz
  | _ => false
def boundC (v : Option CV) (d hi : Nat) : Option Nat :=
  match v with
  | none => some d
  | some (.int _ n) => if 0 ≤ n ∧ n ≤ (hi : Int) then some n.toNat else none
  | some _ => none
def sliceC (E : Env) (t : Nat) (x : CV) (lo hi mx : Option CV) : Option CV :=
  if mx.isSome && hi.isNone then none else
  match x with
  | .str s =>
    if mx.isSome then none else
    match E.T t with
    | some { kd := .str, .. } =>
      match boundC hi s.length s.length with
      | some h => match boundC lo 0 h with
        | some l => some (.str ((s.take h).drop l))
        | none => none
      | none => none
    | _ => none
  | .nils =>
    match E.T t with
    | some { kd := .slice e, .. } =>
      match E.T e with
      | some _ =>
        match boundC mx 0 0, boundC hi 0 0, boundC lo 0 0 with
        | some _, some _, some _ => some .nils
        | _, _, _ => none
      | none => none
    | _ => none
  | .lst sz xs =>
    match E.T t with
    | some { kd := .slice e, .. } =>
      match E.T e with
      | some te => if te.sz = sz then
          match boundC mx xs.length xs.length with
          | some m => match boundC hi (min xs.length m) m with
            | some h => match boundC lo 0 h with
              | some l => some (.lst sz ((xs.take h).drop l))
              | none => none
            | none => none
          | none => none
        else none
      | none => none
    | _ => none
  | .ref id off len sz =>
    match E.T t with
    | some { kd := .slice e, .. } =>
      match E.T e with
      | some te => if te.sz = sz then
          match boundC mx len len with
          | some m => match boundC hi (min len m) m with
            | some h => match boundC lo 0 h with
              | some l => some (.ref id (off + l * sz) (h - l) sz)
              | none => none
            | none => none
          | none => none
        else none
      | none => none
    | _ => none
  | _ => none
/-- A key's cells: of a struct's type, or of another. -/
def keyCells : Bool → CV → Option (List CV)
  | true, .agg cs => some cs
  | true, _ => none
  | false, v => some [v]
def findC (ag : Bool) (ks : List TK) (k : CV) : List (CV × CV) → Nat → Option (Option (Nat × CV))
  | [], _ => some none
  | (k', v) :: r, i =>
    match keyCells ag k, keyCells ag k' with
    | some a, some b =>
      match cmpL ks a b with
      | some true => some (some (i, v))
      | some false => findC ag ks k r (i + 1)
      | none => none
    | _, _ => none
/-- A key that may be asked for: numbers, bools or strings alone. -/
def keyC (ag : Bool) (ks : List TK) (k : CV) : Bool := match keyCells ag k with | some cs => (cmpL ks cs cs).isSome | none => false
def lookC (ag : Bool) (ks : List TK) (t : Ty) (es : List (CV × CV)) (k : CV) (ok : Bool) : Option CV :=
  if keyC ag ks k then
    match findC ag ks k es 0 with
    | some (some (_, v)) => some (if ok then .tup [v, .bool true] else v)
    | some none => match t.zeroV with | some z => some (if ok then .tup [z, .bool false] else z) | none => none
    | none => none
  else none
def insC (ag : Bool) (ks : List TK) (es : List (CV × CV)) (k v : CV) : Option (List (CV × CV)) :=
  if keyC ag ks k then
    match findC ag ks k es 0 with
    | some (some (i, _)) => some (es.modify i fun _ => (k, v))
    | some none => some (es ++ [(k, v)])
    | none => none
  else none

def primC (E : Env) (o : Oper) (ev : Operand → CV) : CM CV :=
  match o.op with
  | .move x => .pure (ev x)
  | .assign x => .pure (ev x)
  | .pick c a b => match ev c with | .bool p => .pure (if p then ev a else ev b) | _ => .fail
  | .alloc t => match E.T t with
    | some ty => match ty.zero with | some zc => .new (.cells zc) fun id => .pure (.ptr id 0) | none => .fail
    | none => .fail
  | .box _ x => match (ev x).cells with | some cs => .new (.cells cs) fun id => .pure (.ptr id 0) | none => .fail
  | .build t parts => match E.T t with
    | some { kd := .struct fs, zero := some zc, .. } =>
      if fs.all fun p => (E.T p.2).isSome then
        match fillC (fun i => match fs[i]? with | some (off, ft) => (match E.T ft with | some fty => some (off, fty.sz) | none => none) | none => none) zc (parts.toList.map fun p => (p.1, ev p.2)) with
        | some cs => .pure (.agg cs)
        | none => .fail
      else .fail
    | some { kd := .arr _ e, zero := some zc, .. } =>
      match E.T e with
      | some te => match fillC (fun i => some (i * te.sz, te.sz)) zc (parts.toList.map fun p => (p.1, ev p.2)) with
        | some cs => .pure (.agg cs)
        | none => .fail
      | none => .fail
    | _ => .fail
  | .buildSlice t len parts => match E.T t with
    | some { kd := .slice e, .. } =>
      match E.T e with
      | some te => match te.zero with
        | some zc =>
          if len * te.sz ≤ 16777216 ∧ 0 < te.sz then
            match fillC (fun i => some (i * te.sz, te.sz)) (List.replicate len zc).flatten (parts.toList.map fun p => (p.1, ev p.2)) with
            | some cs => .new (.cells cs) fun id => .pure (.ref id 0 len te.sz)
            | none => .fail
          else .fail
        | none => .fail
      | none => .fail
    | _ => .fail
  | .load t a => match E.T t with
    | some ty => match ev a with
      | .iptr cs off => .ofO (ldC ty.agg ty.sz cs off)
      | .ptr id off => .get id fun ob =>
        match ob with
        | .cells cs => .ofO (ldC ty.agg ty.sz cs off)
        | .fro cs => .ofO (ldC ty.agg ty.sz cs off)
        | _ => .fail
      | _ => .fail
    | none => .fail
  | .store t a x => match E.T t with
    | some ty => match ev a with
      | .ptr id off => .get id fun ob =>
        match ob with
        | .cells cs => match (ev x).cells with
          | some vc => if vc.length = ty.sz ∧ off + ty.sz ≤ cs.length then .put id (.cells (splice cs off vc)) (.pure (.tup [])) else .fail
          | none => .fail
        | _ => .fail
      | _ => .fail
    | none => .fail
  | .nilCheck x => match ev x with
    | .ptr a b => .pure (.ptr a b)
    | .iptr a b => .pure (.iptr a b)
    | .fn a b => .pure (.fn a b)
    | _ => .fail
  | .binOp op t x y _ => .ofO (binC E op t (ev x) (ev y))
  | .unOp op _ x => .ofO (unC op (ev x))
  | .convert s d x => match E.T s, E.T d with
    | some ts, some td => match td.kd, ev x with
      | .int k, .int _ n => .pure (.int k (k.wrap n))
      | .str, .str b => .pure (.str b)
      | .str, .nils => (match ts.kd with | .slice e => (match E.T e with | some { kd := .int .u8, .. } => .pure (.str []) | _ => .fail) | _ => .fail)
      | .str, .lst sz xs => (match ts.kd with | .slice e => (match E.T e with | some { kd := .int .u8, .. } => if sz = 1 then .ofO ((byteCells xs.flatten).map .str) else .fail | _ => .fail) | _ => .fail)
      | .str, .ref id off len sz => (match ts.kd with | .slice e => (match E.T e with | some { kd := .int .u8, .. } => if sz = 1 then (rowC (.ref id off len sz)).bind fun cs => .ofO ((byteCells cs).map .str) else .fail | _ => .fail) | _ => .fail)
      | _, _ => .fail
    | _, _ => .fail
  | .makeFunc (.func f) first caps => if first.isEmpty then .pure (.fn f (caps.toList.map ev)) else .fail
  | .makeMap _ none => .new (.map []) fun id => .pure (.map id)
  | .makeSlice t l c => match E.T t with
    | some { kd := .slice e, .. } =>
      match E.T e with
      | some te => match te.zero, ev l, ev c with
        | some zc, .int _ n, .int _ m =>
          if 0 ≤ n ∧ n ≤ m ∧ m ≤ 140737488355328 ∧ m * te.bts ≤ 140737488355328 ∧ 0 < te.sz then .new (.cells (List.replicate n.toNat zc).flatten) fun id => .pure (.ref id 0 n.toNat te.sz) else .fail
        | _, _, _ => .fail
      | none => .fail
    | _ => .fail
  | .slice t x lo hi mx => .ofO (sliceC E t (ev x) (lo.map ev) (hi.map ev) (mx.map ev))
  | .fieldAddr s x f => match E.T s with
    | some { kd := .struct fs, .. } => match fs[f]? with
      | some (off, ft) => match E.T ft with
        | some fty => if fty.sz = 0 then .fail else
          match ev x with
          | .ptr id o => .pure (.ptr id (o + off))
          | .iptr cs o => .pure (.iptr cs (o + off))
          | _ => .fail
        | none => .fail
      | none => .fail
    | _ => .fail
  | .field t x f => match E.T t with
    | some { kd := .struct fs, .. } => match fs[f]? with
      | some (off, ft) => match E.T ft with
        | some fty => match ev x with
          | .agg cs => .ofO (if off + fty.sz ≤ cs.length then ldC fty.agg fty.sz cs off else none)
          | _ => .fail
        | none => .fail
      | none => .fail
    | _ => .fail
  | .indexAddr t x i => match E.T t with
    | some { kd := .slice e, .. } => match E.T e with
      | some te => match ev i with
        | .int _ n => match ev x with
          | .lst sz xs => if sz = te.sz ∧ 0 ≤ n then (match xs[n.toNat]? with | some y => .pure (.iptr y 0) | none => .fail) else .fail
          | .ref id off len sz => if sz = te.sz ∧ 0 ≤ n ∧ n < (len : Int) then .pure (.ptr id (off + n.toNat * sz)) else .fail
          | _ => .fail
        | _ => .fail
      | none => .fail
    | some { kd := .arr len e, .. } => match E.T e with
      | some te => match ev i with
        | .int _ n => if 0 ≤ n ∧ n < (len : Int) then
            (match ev x with
            | .ptr id o => .pure (.ptr id (o + n.toNat * te.sz))
            | .iptr cs o => .pure (.iptr cs (o + n.toNat * te.sz))
            | _ => .fail) else .fail
        | _ => .fail
      | none => .fail
    | _ => .fail
  | .index t x i => match ev i with
    | .int _ n => if 0 ≤ n then
        match ev x with
        | .str s => (match E.T t with | some { kd := .str, .. } => (match s[n.toNat]? with | some b => .pure (.int .u8 b.toNat) | none => .fail) | _ => .fail)
        | .agg cs => (match E.T t with
          | some { kd := .arr len e, .. } => (match E.T e with
            | some te => if n < (len : Int) ∧ n.toNat * te.sz + te.sz ≤ cs.length then .ofO (ldC te.agg te.sz cs (n.toNat * te.sz)) else .fail
            | none => .fail)
          | _ => .fail)
        | _ => .fail
      else .fail
    | _ => .fail
  | .lookup t m k ok => match E.T t with
    | some { kd := .map kt et, .. } => match E.T kt, E.T et with
      | some tk, some te =>
        match tk.flat with
        | some ks =>
          match ev m with
          | .nilm => .ofO (lookC tk.agg ks te [] (ev k) ok)
          | .map id => .get id fun ob => match ob with | .map es => .ofO (lookC tk.agg ks te es (ev k) ok) | _ => .fail
          | _ => .fail
        | none => .fail
      | _, _ => .fail
    | _ => .fail
  | .mapUpdate t m k v => match E.T t with
    | some { kd := .map kt _, .. } => match E.T kt with
      | some tk =>
        match tk.flat with
        | some ks =>
          match ev m with
          | .map id => .get id fun ob =>
            match ob with
            | .map es => (match insC tk.agg ks es (ev k) (ev v) with | some es' => .put id (.map es') (.pure (.tup [])) | none => .fail)
            | _ => .fail
          | _ => .fail
        | none => .fail
      | none => .fail
    | _ => .fail
  | .insert t m k v => match E.T t with
    | some { kd := .map kt _, .. } => match E.T kt with
      | some tk =>
        match tk.flat with
        | some ks =>
          match ev m with
          | .map id => .get id fun ob =>
            match ob with
            | .map es => (match insC tk.agg ks es (ev k) (ev v) with | some es' => .put id (.map es') (.pure (.tup [])) | none => .fail)
            | _ => .fail
          | _ => .fail
        | none => .fail
      | none => .fail
    | _ => .fail
  | .extract x i => match ev x with | .tup vs => .ofO vs[i]? | _ => .fail
  | .call { callee := .builtin .len, args := args, argTypes := ts } =>
    match args.toList.map ev with
    | [v] =>
      match v with
      | .nilm => (match ts[0]? with | some t => (match E.T t with | some { kd := .map _ _, .. } => .pure (.int .i64 0) | _ => .fail) | none => .fail)
      | .map id => (match ts[0]? with
        | some t => (match E.T t with | some { kd := .map _ _, .. } => .get id fun ob => (match ob with | .map es => .pure (.int .i64 es.length) | _ => .fail) | _ => .fail)
        | none => .fail)
      | .str s => (match ts[0]? with | some t => (match E.T t with | some { kd := .str, .. } => .pure (.int .i64 s.length) | _ => .fail) | none => .fail)
      | v => (match ts[0]? with
        | some t => (match E.T t with | some { kd := .slice _, .. } => (match lenC v with | some n => .pure (.int .i64 n) | none => .fail) | _ => .fail)
        | none => .fail)
    | _ => .fail
  | .call { callee := .builtin .append, args := args, argTypes := ts } =>
    match args.toList.map ev, ts.toList with
    | [b, y], [t, u] =>
      match E.T t, E.T u with
      | some { kd := .slice e, .. }, some tu =>
        match E.T e with
        | some te =>
          if szC te.sz b && tu.kd.isSl && szC te.sz y && te.zero.isSome && decide (0 < te.sz) then
            (rowC y).bind fun news =>
            match b with
            | .nils =>
              if news.isEmpty then .pure .nils
              else if news.length / te.sz * te.bts ≤ 140737488355328 ∧ news.length / te.sz ≤ 140737488355328 then .new (.cells news) fun id => .pure (.ref id 0 (news.length / te.sz) te.sz) else .fail
            | .ref id off len sz => .get id fun ob =>
              match ob with
              | .cells cs =>
                if off + len * sz ≤ cs.length ∧ (len + news.length / te.sz) * te.bts ≤ 140737488355328 ∧ len + news.length / te.sz ≤ 140737488355328 then
                  .del id (.new (.cells ((cs.drop off).take (len * sz) ++ news)) fun id' => .pure (.ref id' 0 (len + news.length / te.sz) sz))
                else .fail
              | _ => .fail
            | _ => .fail
          else .fail
        | none => .fail
      | _, _ => .fail
    | _, _ => .fail
  | .call { callee := .builtin .copy, args := args, argTypes := ts } =>
    match args.toList.map ev, ts[0]? with
    | [b, y], some t =>
      match E.T t with
      | some { kd := .slice e, .. } =>
        match E.T e with
        | some te =>
          if szC te.sz b && szC te.sz y then
            (rowC y).bind fun news =>
            match b with
            | .ref id off len sz => .get id fun ob =>
              match ob with
              | .cells cs =>
                if off + len * sz ≤ cs.length ∧ 0 < sz then
                  let n := min (news.length / sz) len
                  .put id (.cells (splice cs off (news.take (n * sz)))) (.pure (.int .i64 n))
                else .fail
              | _ => .fail
            | _ => .fail
          else .fail
        | none => .fail
      | _ => .fail
    | _, _ => .fail
  | .call { callee := .builtin .min, args := args, .. } =>
    match args.toList.map ev with
    | [.int j a, .int k b] => if j = k then .pure (.int j (if b < a then b else a)) else .fail
    | _ => .fail
  | .call { callee := .builtin .max, args := args, .. } =>
    match args.toList.map ev with
    | [.int j a, .int k b] => if j = k then .pure (.int j (if b > a then b else a)) else .fail
    | _ => .fail
  | _ => .fail
/-- A call of a function: which one, with which arguments. -/
def calleeC (o : Oper) (ev : Operand → CV) : Option (Option (Nat × List CV)) :=
  match o.op with
  | .call { callee := .value f, args := args, .. } =>
    match ev f with
    | .fn k caps => some (some (k, args.toList.map ev ++ caps))
    | _ => some none
  | _ => none

/-! ### Slices that are never written again, from here on -/
def frzL (f : CV → H → Option (CV × H)) : List CV → H → Option (List CV × H)
  | [], h => some ([], h)
  | c :: cs, h =>
    match f c h with
    | some (c', h') => match frzL f cs h' with | some (cs', h'') => some (c' :: cs', h'') | none => none
    | none => none
def frz : Nat → CV → H → Option (CV × H)
  | 0, _, _ => none
  | n + 1, v, h =>
    match v with
    | .ref id off len sz =>
      if len = 0 then some (.lst sz [], h) else
      match h.get id with
      | some (.cells cs) =>
        if off + len * sz ≤ cs.length ∧ 0 < sz then
          match frzL (frz n) cs h with
          | some (cs', h') =>
            if beqO (h'.get id) (some (.cells cs)) then some (.lst sz (chunk sz len (cs'.drop off)), h'.put id (.fro cs')) else none
          | none => none
        else none
      | some (.fro cs) => if off + len * sz ≤ cs.length ∧ 0 < sz then some (.lst sz (chunk sz len (cs.drop off)), h) else none
      | _ => none
    | .agg cs => match frzL (frz n) cs h with | some (cs', h') => some (.agg cs', h') | none => none
    | .tup cs => match frzL (frz n) cs h with | some (cs', h') => some (.tup cs', h') | none => none
    | v => some (v, h)
def frzDeep : Nat := 8
def frzSlots : List Nat → List CV → H → Option (List CV × H)
  | [], tm, h => some (tm, h)
  | i :: is, tm, h =>
    match frz frzDeep (tm.getD i (.tup [])) h with
    | some (v, h') => frzSlots is (tm.set i v) h'
    | none => none

/-! ### Code -/
inductive Ex where
  | normal
  | exit (id : Nat)
  | ret
  deriving DecidableEq, Inhabited
structure St where
  tm : List CV
  h : H
  deriving Inhabited
def putC (dst : Option Tmp) (v : CV) (tm : List CV) : List CV := match dst with | some d => tm.set d v | none => tm
abbrev CallF := Nat → List CV → H → Option (CV × H)
/-- Is an operation wanted? none: it can't be told. -/
def wantedC (ops : List Oper) (o : Oper) (tm : List CV) : Option Bool :=
  match o.guard with
  | none => some true
  | some (j, want) =>
    match ops[j]? with
    | some g => match g.dst with
      | some d => match tm[d]? with
        | some (.bool b) => some (b == want)
        | some (.tup []) => some false
        | some _ => none
        | none => some false
      | none => some false
    | none => some false
def stepC (E : Env) (call : CallF) (ops : List Oper) (o : Oper) (st : St) : Option St :=
  match wantedC ops o st.tm with
  | some true =>
    match calleeC o (evC E st.tm) with
    | some (some (k, args)) => match call k args st.h with | some (v, h) => some ⟨putC o.dst v st.tm, h⟩ | none => none
    | some none => none
    | none => match (primC E o (evC E st.tm)).run st.h with | some (v, h) => some ⟨putC o.dst v st.tm, h⟩ | none => none
  | some false => some ⟨putC o.dst (.tup []) st.tm, st.h⟩
  | none => none
def opsC (E : Env) (call : CallF) (ops : List Oper) : List Oper → St → Option St
  | [], st => some st
  | o :: r, st => match stepC E call ops o st with | some st' => opsC E call ops r st' | none => none

/-! #### Regions whose order is open: in the order of the text, and no two that may change places touch each other -/
/-- What a step of a region touched: reads, writes, what it made; a call: the heap before and behind it. -/
structure Tch where
  rd : List Nat
  wr : List Nat
  al : List Nat
  call : Option (H × H)
  deriving Inhabited
def hideL : List Nat → H → H
  | [], h => h
  | i :: is, h => hideL is (h.del i)
def restL (old : H) : List Nat → H → H
  | [], h => h
  | i :: is, h => restL old is (h.setO i (old.get i))
def stepD (E : Env) (call : CallF) (ops : List Oper) (o : Oper) (hid : List Nat) (st : St) : Option (St × Tch) :=
  match wantedC ops o st.tm with
  | some true =>
    match calleeC o (evC E st.tm) with
    | some (some (k, args)) =>
      match call k args (hideL hid st.h) with
      | some (v, h) => some (⟨putC o.dst v st.tm, restL st.h hid h⟩, ⟨[], [], [], some (st.h, restL st.h hid h)⟩)
      | none => none
    | some none => none
    | none =>
      match (primC E o (evC E st.tm)).run st.h with
      | some (v, h) => let e := (primC E o (evC E st.tm)).eff st.h; some (⟨putC o.dst v st.tm, h⟩, ⟨e.rd, e.wr, e.al, none⟩)
      | none => none
  | some false => some (⟨putC o.dst (.tup []) st.tm, st.h⟩, ⟨[], [], [], none⟩)
  | none => none
def bindsC (e : Edge) : Bool := match e.ground with | .textOnly _ => false | .gcOnly _ => false | _ => true
/-- All that comes before an operation for sure (as the bits of a number). -/
def befC (ops : List Oper) : List Nat := ops.foldl (fun acc o => acc ++ [(o.after.toList.filter bindsC).foldl (fun s e => s ||| (1 <<< e.on ||| acc.getD e.on 0)) 0]) []
/-- Two that may change places: the first of the text is x. -/
def compatC (x y : Tch) : Bool :=
  match x.call, y.call with
  | none, none => (x.wr ++ x.al).all (fun i => !(y.rd ++ y.wr ++ y.al).contains i) && (y.wr ++ y.al).all (fun i => !(x.rd ++ x.wr).contains i)
  | none, some (h, h') => x.wr.isEmpty && x.rd.all (fun i => (h.get i).isSome && beqO (h.get i) (h'.get i))
  | some (h, h'), none => y.wr.isEmpty && y.rd.all (fun i => (h.get i).isSome && beqO (h.get i) (h'.get i))
  | some _, some _ => false
def goD (E : Env) (call : CallF) (ops : List Oper) (bef : List Nat) : Nat → List Oper → List Tch → St → Option (St × List Tch)
  | _, [], ts, st => some (st, ts)
  | i, o :: r, ts, st =>
    let un := ts.zipIdx.filter fun p => !(bef.getD i 0).testBit p.2
    match stepD E call ops o (un.flatMap fun p => p.1.al) st with
    | some (st', t) => if un.all (fun p => compatC p.1 t) then goD E call ops bef (i + 1) r (ts ++ [t]) st' else none
    | none => none
/-- Operations that may change places share no temporary. -/
def apartOk (ops : List Oper) (bef : List Nat) : Bool := ops.zipIdx.all fun p => ops.zipIdx.all fun q => !(decide (p.2 < q.2)) || (bef.getD q.2 0).testBit p.2 || p.1.apart ops.toArray q.1
def edgesOk (ops : List Oper) : Bool := ops.zipIdx.all fun p => p.1.after.toList.all (fun e => !bindsC e || decide (e.on < p.2))
def drawC (E : Env) (call : CallF) (ops : List Oper) (st : St) : Option St :=
  match goD E call ops (befC ops) 0 ops [] st with
  | some (st', _) => some st'
  | none => none
/-- All drawn regions of a piece of code are in order. -/
def drawsOk : Code → Bool
  | .region _ ops true => edgesOk ops.toList && apartOk ops.toList (befC ops.toList)
  | .seq a b => drawsOk a && drawsOk b
  | .cond _ a b => drawsOk a && drawsOk b
  | .block _ b => drawsOk b
  | .loop b => drawsOk b
  | .scope b => drawsOk b
  | _ => true

def loopN (body : St → Option (Ex × St)) : Nat → St → Option (Ex × St)
  | 0, _ => none
  | n + 1, st => match body st with | some (.normal, st') => loopN body n st' | r => r
def execC (E : Env) (fid : Nat) (call : CallF) (n : Nat) : Code → St → Option (Ex × St)
  | .skip, st => some (.normal, st)
  | .label _, st => some (.normal, st)
  | .seq a b, st => match execC E fid call n a st with | some (.normal, st') => execC E fid call n b st' | r => r
  | .cond c a b, st => match evC E st.tm c with | .bool true => execC E fid call n a st | .bool false => execC E fid call n b st | _ => none
  | .block id b, st => match execC E fid call n b st with | some (.exit i, st') => if i = id then some (.normal, st') else some (.exit i, st') | r => r
  | .loop b, st => loopN (execC E fid call n b) n st
  | .exit id, st => some (.exit id, st)
  | .scope b, st => execC E fid call n b st
  | .ret, st => some (.ret, st)
  | .region id ops dr, st =>
    match (if dr then drawC E call ops.toList st else opsC E call ops.toList ops.toList st) with
    | some st' => match frzSlots (E.rgf fid id) st'.tm st'.h with | some (tm, h) => some (.normal, ⟨tm, h⟩) | none => none
    | none => none
  | _, _ => none

def resC (E : Env) (st : St) : List ResultVar → Option (List CV)
  | [] => some []
  | .tmp t :: r => (resC E st r).map (st.tm.getD t (.tup []) :: ·)
  | .cell a t :: r =>
    match E.T t with
    | some ty => match (match st.tm.getD a (.tup []) with
        | .ptr id off => (match st.h.get id with | some (.cells cs) => ldC ty.agg ty.sz cs off | some (.fro cs) => ldC ty.agg ty.sz cs off | _ => none)
        | .iptr cs off => ldC ty.agg ty.sz cs off
        | _ => none) with
      | some v => (resC E st r).map (v :: ·)
      | none => none
    | none => none
def oneOrTup : List CV → CV
  | [v] => v
  | vs => .tup vs
def fnChk (P : Program) (k : Nat) : Bool :=
  match P.funcs[k]? with
  | some fn => match fn.body with | some b => fn.name != "runtime.NumGoroutine" && drawsOk b | none => false
  | none => false
def runFn (E : Env) : Nat → CallF
  | 0, _, _, _ => none
  | n + 1, k, args, h =>
    match E.P.funcs[k]? with
    | none => none
    | some fn =>
      match fn.body with
      | none => none
      | some body =>
        if E.okf k then
          match frzSlots (E.ent k) (args ++ List.replicate (fn.ntmps - args.length) (.tup [])) h with
          | none => none
          | some (tm, h1) =>
            match execC E k (runFn E n) n body ⟨tm, h1⟩ with
            | some (.normal, st) | some (.ret, st) =>
              match resC E st fn.results.toList with
              | some vs => if E.rtf k then frz frzDeep (oneOrTup vs) st.h else some (oneOrTup vs, st.h)
              | none => none
            | _ => none
        else none
end Go.Cv
