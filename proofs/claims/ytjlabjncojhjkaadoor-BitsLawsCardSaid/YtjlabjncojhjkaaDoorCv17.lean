/- Code, stepped through by 'simp': one law for each operation, and where 'simp' looks. -/
import Derived.Test.YtjlabjncojhjkaaDoorCv16
namespace Go.Cv
open Go
universe u

/-! ### Temporaries -/
def getT : List CV → Nat → CV
  | [], _ => .tup []
  | a :: _, 0 => a
  | _ :: l, n + 1 => getT l n
def setT : List CV → Nat → CV → List CV
  | [], _, _ => []
  | _ :: l, 0, v => v :: l
  | a :: l, n + 1, v => a :: setT l n v
theorem getT_eq : ∀ (l : List CV) (n : Nat), getT l n = l.getD n (.tup [])
  | [], n => by simp [getT]
  | a :: l, 0 => by simp [getT]
  | a :: l, n + 1 => by simp [getT, getT_eq l n]
theorem setT_eq : ∀ (l : List CV) (n : Nat) (v : CV), setT l n v = l.set n v
  | [], n, v => by simp [setT]
  | a :: l, 0, v => by simp [setT]
  | a :: l, n + 1, v => by simp [setT, setT_eq l n]
theorem getT_zero (a : CV) (l : List CV) : getT (a :: l) 0 = a := rfl
theorem getT_succ (a : CV) (l : List CV) (n : Nat) : getT (a :: l) (n + 1) = getT l n := rfl
theorem setT_zero (a : CV) (l : List CV) (v : CV) : setT (a :: l) 0 v = v :: l := rfl
theorem setT_succ (a : CV) (l : List CV) (n : Nat) (v : CV) : setT (a :: l) (n + 1) v = a :: setT l n v := rfl
def putT : Option Tmp → CV → List CV → List CV
  | some d, v, l => setT l d v
  | none, _, l => l
theorem putT_eq (d : Option Tmp) (v : CV) (l : List CV) : putT d v l = putC d v l := by cases d <;> simp [putT, putC, setT_eq]
theorem putT_fun : putT = putC := funext fun d => funext fun v => funext fun l => putT_eq d v l
theorem putT_some (d : Tmp) (v : CV) (l : List CV) : putT (some d) v l = setT l d v := rfl
theorem putT_none (v : CV) (l : List CV) : putT none v l = l := rfl
theorem ev_tmp (E : Env) (tm : List CV) (t : Tmp) : evC E tm (.tmp t) = getT tm t := (getT_eq _ _).symm
theorem ev_int (E : Env) (tm : List CV) (k : IntKind) (n : Int) : evC E tm (.const (.int k n)) = .int k n := rfl
theorem ev_bool (E : Env) (tm : List CV) (b : Bool) : evC E tm (.const (.bool b)) = .bool b := rfl
theorem ev_nilp (E : Env) (tm : List CV) : evC E tm (.const (.pointer none)) = .nilp := rfl
theorem ev_nils (E : Env) (tm : List CV) : evC E tm (.const (.slice none 0 0)) = .nils := rfl
theorem ev_nilm (E : Env) (tm : List CV) : evC E tm (.const (.map none)) = .nilm := rfl
theorem ev_nilf (E : Env) (tm : List CV) : evC E tm (.const .nilFunc) = .nilf := rfl
theorem ev_str (E : Env) (tm : List CV) (s : ByteArray) : evC E tm (.const (.string s)) = .str s.data.toList := rfl
theorem ev_agg (E : Env) (tm : List CV) (cs : Array Value) : evC E tm (.const (.agg cs)) = ofV (.agg cs) := rfl
theorem ev_func (E : Env) (tm : List CV) (f : Nat) : evC E tm (.func f) = .fn f [] := rfl
theorem ev_global (E : Env) (tm : List CV) (g : Nat) : evC E tm (.global g) = (match E.G g with | some cs => .iptr cs 0 | none => .undef) := rfl

/-! ### What must hold, in a form that 'simp' steps through: it looks at the state alone, not at what comes behind -/
/-- It holds fast what stands ahead of it: 'simp' does not look into it. -/
structure Tag {α : Sort u} (a : α) : Type where
def uM {α : Type} (x : CM α) (h : H) (Q : α → H → Prop) (_ : Tag Q) : Prop := vM x h Q
def uGet {α : Type} (o : Option CObj) (k : CObj → CM α) (h : H) (Q : α → H → Prop) (_ : Tag k) (_ : Tag Q) : Prop :=
  match o with
  | some o => vM (k o) h Q
  | none => False
def uMut : Option CObj → Prop
  | some (.fro _) => False
  | some _ => True
  | none => False
theorem uM_pure {α : Type} (a : α) (h : H) (Q : α → H → Prop) (t : Tag Q) : uM (.pure a) h Q t = Q a h := (rfl)
theorem uM_fail {α : Type} (h : H) (Q : α → H → Prop) (t : Tag Q) : uM .fail h Q t = False := (rfl)
theorem uM_get {α : Type} (i : Nat) (k : CObj → CM α) (h : H) (Q : α → H → Prop) (t : Tag Q) : uM (.get i k) h Q t = uGet (h.get i) k h Q ⟨⟩ t := by
  apply propext
  show (∃ o, h.get i = some o ∧ vM (k o) h Q) ↔ uGet (h.get i) k h Q ⟨⟩ t
  generalize h.get i = x
  cases x <;> simp [uGet]
theorem uGet_some {α : Type} (o : CObj) (k : CObj → CM α) (h : H) (Q : α → H → Prop) (t : Tag Q) (t' : Tag k) : uGet (some o) k h Q t' t = uM (k o) h Q t := (rfl)
theorem uM_put {α : Type} (i : Nat) (o : CObj) (k : CM α) (h : H) (Q : α → H → Prop) (t : Tag Q) : uM (.put i o k) h Q t = (uMut (h.get i) ∧ uM k (h.put i o) Q t) := by
  apply propext
  show ((∃ o', h.get i = some o' ∧ o'.mut = true) ∧ vM k (h.put i o) Q) ↔ (uMut (h.get i) ∧ vM k (h.put i o) Q)
  generalize h.get i = x
  cases x with
  | none => simp [uMut]
  | some y => cases y <;> simp [uMut, CObj.mut]
theorem uM_del {α : Type} (i : Nat) (k : CM α) (h : H) (Q : α → H → Prop) (t : Tag Q) : uM (.del i k) h Q t = (uMut (h.get i) ∧ uM k (h.del i) Q t) := by
  apply propext
  show ((∃ o', h.get i = some o' ∧ o'.mut = true) ∧ vM k (h.del i) Q) ↔ (uMut (h.get i) ∧ vM k (h.del i) Q)
  generalize h.get i = x
  cases x with
  | none => simp [uMut]
  | some y => cases y <;> simp [uMut, CObj.mut]
theorem uM_new {α : Type} (o : CObj) (k : Nat → CM α) (h : H) (Q : α → H → Prop) (t : Tag Q) : uM (.new o k) h Q t = uM (k h.next) (h.new o) Q t := (rfl)
theorem uM_ite {α : Type} {c : Prop} [Decidable c] (x : CM α) (h : H) (Q : α → H → Prop) (t : Tag Q) : uM (if c then x else .fail) h Q t = (c ∧ uM x h Q t) := by
  apply propext; unfold uM
  split <;> simp [*, vM]
theorem uM_ofO {α : Type} (a : α) (h : H) (Q : α → H → Prop) (t : Tag Q) : uM (CM.ofO (some a)) h Q t = Q a h := (rfl)
theorem uMut_cells (cs : List CV) : uMut (some (.cells cs)) = True := (rfl)
theorem uMut_map (es : List (CV × CV)) : uMut (some (.map es)) = True := (rfl)
theorem uMut_siter (s : List UInt8) (p : Nat) : uMut (some (.siter s p)) = True := (rfl)

def uOps (E : Env) (ops r : List Oper) (tm : List CV) (h : H) (K : St → Prop) (_ : Tag (E, ops, r, K)) : Prop := vOps E ops r ⟨tm, h⟩ K
/-- A call, as 'simp' leaves it. -/
def uRuns (E : Env) (k : Nat) (args : List CV) (h : H) (K : CV → H → Prop) (_ : Tag (E, k, K)) : Prop := Runs E k args h K
theorem uRuns_iff {E : Env} {k : Nat} {args : List CV} {h : H} {K : CV → H → Prop} {t : Tag (E, k, K)} : uRuns E k args h K t ↔ Runs E k args h K := Iff.rfl
def uWant (w : Option Bool) (p q : Prop) (_ : Tag (PProd.mk p q)) : Prop := match w with | some true => p | some false => q | none => False
def uOp (E : Env) (o : Oper) (tm : List CV) (h : H) (K : CV → H → Prop) (_ : Tag (E, o, K)) : Prop :=
  match calleeC o (evC E tm) with
  | some (some (k, args)) => Runs E k args h K
  | some none => False
  | none => uM (primC E o (evC E tm)) h K ⟨⟩
theorem uWant_true (p q : Prop) (t : Tag (PProd.mk p q)) : uWant (some true) p q t = p := (rfl)
theorem uWant_false (p q : Prop) (t : Tag (PProd.mk p q)) : uWant (some false) p q t = q := (rfl)
def dstAt : List Oper → Nat → Option Tmp
  | [], _ => none
  | o :: _, 0 => o.dst
  | _ :: l, n + 1 => dstAt l n
theorem dstAt_eq : ∀ (l : List Oper) (n : Nat), dstAt l n = (l[n]?).bind (·.dst)
  | [], n => by simp [dstAt]
  | a :: l, 0 => by simp [dstAt]
  | a :: l, n + 1 => by simp [dstAt, dstAt_eq l n]
theorem dstAt_zero (d : Option Tmp) (op : Op) (ty : TypeId) (ps : String) (af : Array Edge) (gd : Option (Nat × Bool)) (l : List Oper) : dstAt (⟨d, op, ty, ps, af, gd⟩ :: l) 0 = d := (rfl)
theorem dstAt_succ (o : Oper) (l : List Oper) (n : Nat) : dstAt (o :: l) (n + 1) = dstAt l n := (rfl)
/-- A guard: its bool's value. -/
def wantV : CV → Bool → Option Bool
  | .bool b, w => some (b == w)
  | .tup [], _ => some false
  | _, _ => none
def wantT (ops : List Oper) (tm : List CV) : Option (Nat × Bool) → Option Bool
  | none => some true
  | some (j, w) => match dstAt ops j with | some d => wantV (getT tm d) w | none => some false
theorem wantT_eq (ops : List Oper) (o : Oper) (tm : List CV) : wantedC ops o tm = wantT ops tm o.guard ∨ wantedC ops o tm = wantT ops tm o.guard := by
  left
  unfold wantedC wantT
  cases hg : o.guard with
  | none => rfl
  | some p =>
    obtain ⟨j, w⟩ := p
    simp only [dstAt_eq]
    cases hj : ops[j]? with
    | none => rfl
    | some g =>
      simp only [Option.bind_some]
      cases hd : g.dst with
      | none => rfl
      | some d =>
        simp only [getT_eq, List.getD_eq_getElem?_getD]
        cases ht : tm[d]? with
        | none => rfl
        | some v =>
          simp only [Option.getD_some]
          cases v with
          | tup l => cases l <;> rfl
          | _ => rfl
theorem wantT_none (ops : List Oper) (tm : List CV) : wantT ops tm none = some true := (rfl)
theorem wantT_some (ops : List Oper) (tm : List CV) (j : Nat) (w : Bool) : wantT ops tm (some (j, w)) = (match dstAt ops j with | some d => wantV (getT tm d) w | none => some false) := (rfl)
theorem wantV_bool (b w : Bool) : wantV (.bool b) w = some (b == w) := (rfl)
theorem wantV_tup (w : Bool) : wantV (.tup []) w = some false := (rfl)
theorem uOps_nil (E : Env) (ops : List Oper) (tm : List CV) (h : H) (K : St → Prop) (t : Tag (E, ops, ([] : List Oper), K)) : uOps E ops [] tm h K t = K ⟨tm, h⟩ := (rfl)
theorem uOps_cons (E : Env) (ops : List Oper) (d : Option Tmp) (op : Op) (ty : TypeId) (ps : String) (af : Array Edge) (gd : Option (Nat × Bool)) (r : List Oper) (tm : List CV) (h : H) (K : St → Prop) (t : Tag (E, ops, (⟨d, op, ty, ps, af, gd⟩ :: r : List Oper), K)) :
    uOps E ops (⟨d, op, ty, ps, af, gd⟩ :: r) tm h K t = uWant (wantT ops tm gd) (uOp E ⟨d, op, ty, ps, af, none⟩ tm h (fun v h' => uOps E ops r (putT d v tm) h' K ⟨⟩) ⟨⟩) (uOps E ops r (putT d (.tup []) tm) h K ⟨⟩) ⟨⟩ := by
  have hw : wantedC ops ⟨d, op, ty, ps, af, gd⟩ tm = wantT ops tm gd := (wantT_eq ops ⟨d, op, ty, ps, af, gd⟩ tm).elim id id
  rw [putT_fun]
  simp only [uOps, vOps, vOp, hw]
  unfold uWant
  generalize wantT ops tm gd = x
  cases x with
  | none => rfl
  | some b => cases b <;> rfl
/-- A call. -/
def uCall (E : Env) (f : CV) (args : List CV) (h : H) (K : CV → H → Prop) (_ : Tag (E, K)) : Prop :=
  match f with
  | .fn k caps => Runs E k (args ++ caps) h K
  | _ => False
theorem uOp_call (E : Env) {d : Option Tmp} {f : Operand} {args : Array Operand} {ts : Array TypeId} {ty : TypeId} {ps : String} {af : Array Edge} {gd : Option (Nat × Bool)} (tm : List CV) (h : H) (K : CV → H → Prop) (t : Tag (E, (⟨d, .call { callee := .value f, args := args, argTypes := ts }, ty, ps, af, gd⟩ : Oper), K)) :
    uOp E ⟨d, .call { callee := .value f, args := args, argTypes := ts }, ty, ps, af, gd⟩ tm h K t = uCall E (evC E tm f) (args.toList.map (evC E tm)) h K ⟨⟩ := by
  unfold uOp uCall calleeC
  simp only
  cases evC E tm f <;> rfl
theorem uCall_fn (E : Env) (k : Nat) (caps args : List CV) (h : H) (K : CV → H → Prop) (t : Tag (E, K)) : uCall E (.fn k caps) args h K t = uRuns E k (args ++ caps) h K ⟨⟩ := (rfl)
theorem u_move (E : Env) {d0 : Option Tmp} {ty0 : TypeId} {ps : String} {af : Array Edge} {gd : Option (Nat × Bool)} (tm : List CV) (h : H) (K : CV → H → Prop) {x} (tg : Tag (E, (⟨d0, .move x, ty0, ps, af, gd⟩ : Oper), K)) : uOp E ⟨d0, .move x, ty0, ps, af, gd⟩ tm h K tg = uM (
 .pure ((evC E tm) x)) h K ⟨⟩ := (rfl)
theorem u_assign (E : Env) {d0 : Option Tmp} {ty0 : TypeId} {ps : String} {af : Array Edge} {gd : Option (Nat × Bool)} (tm : List CV) (h : H) (K : CV → H → Prop) {x} (tg : Tag (E, (⟨d0, .assign x, ty0, ps, af, gd⟩ : Oper), K)) : uOp E ⟨d0, .assign x, ty0, ps, af, gd⟩ tm h K tg = uM (
 .pure ((evC E tm) x)) h K ⟨⟩ := (rfl)
theorem u_pick (E : Env) {d0 : Option Tmp} {ty0 : TypeId} {ps : String} {af : Array Edge} {gd : Option (Nat × Bool)} (tm : List CV) (h : H) (K : CV → H → Prop) {c} {a} {b} (tg : Tag (E, (⟨d0, .pick c a b, ty0, ps, af, gd⟩ : Oper), K)) : uOp E ⟨d0, .pick c a b, ty0, ps, af, gd⟩ tm h K tg = uM (
 match (evC E tm) c with | .bool p => .pure (if p then (evC E tm) a else (evC E tm) b) | _ => .fail) h K ⟨⟩ := (rfl)
theorem u_alloc (E : Env) {d0 : Option Tmp} {ty0 : TypeId} {ps : String} {af : Array Edge} {gd : Option (Nat × Bool)} (tm : List CV) (h : H) (K : CV → H → Prop) {t} (tg : Tag (E, (⟨d0, .alloc t, ty0, ps, af, gd⟩ : Oper), K)) : uOp E ⟨d0, .alloc t, ty0, ps, af, gd⟩ tm h K tg = uM (
 match E.T t with
    | some ty => match ty.zero with | some zc => .new (.cells zc) fun id => .pure (.ptr id 0) | none => .fail
    | none => .fail) h K ⟨⟩ := (rfl)
theorem u_box (E : Env) {d0 : Option Tmp} {ty0 : TypeId} {ps : String} {af : Array Edge} {gd : Option (Nat × Bool)} (tm : List CV) (h : H) (K : CV → H → Prop) {x} {u1} (tg : Tag (E, (⟨d0, .box u1 x, ty0, ps, af, gd⟩ : Oper), K)) : uOp E ⟨d0, .box u1 x, ty0, ps, af, gd⟩ tm h K tg = uM (
 match ((evC E tm) x).cells with | some cs => .new (.cells cs) fun id => .pure (.ptr id 0) | none => .fail) h K ⟨⟩ := (rfl)
theorem u_build (E : Env) {d0 : Option Tmp} {ty0 : TypeId} {ps : String} {af : Array Edge} {gd : Option (Nat × Bool)} (tm : List CV) (h : H) (K : CV → H → Prop) {t} {parts} (tg : Tag (E, (⟨d0, .build t parts, ty0, ps, af, gd⟩ : Oper), K)) : uOp E ⟨d0, .build t parts, ty0, ps, af, gd⟩ tm h K tg = uM (
 match E.T t with
    | some { kd := .struct fs, zero := some zc, .. } =>
      if fs.all fun p => (E.T p.2).isSome then
        match fillC (fun i => match fs[i]? with | some (off, ft) => (match E.T ft with | some fty => some (off, fty.sz) | none => none) | none => none) zc (parts.toList.map fun p => (p.1, (evC E tm) p.2)) with
        | some cs => .pure (.agg cs)
        | none => .fail
      else .fail
    | some { kd := .arr _ e, zero := some zc, .. } =>
      match E.T e with
      | some te => match fillC (fun i => some (i * te.sz, te.sz)) zc (parts.toList.map fun p => (p.1, (evC E tm) p.2)) with
        | some cs => .pure (.agg cs)
        | none => .fail
      | none => .fail
    | _ => .fail) h K ⟨⟩ := (rfl)
theorem u_buildSlice (E : Env) {d0 : Option Tmp} {ty0 : TypeId} {ps : String} {af : Array Edge} {gd : Option (Nat × Bool)} (tm : List CV) (h : H) (K : CV → H → Prop) {t} {len} {parts} (tg : Tag (E, (⟨d0, .buildSlice t len parts, ty0, ps, af, gd⟩ : Oper), K)) : uOp E ⟨d0, .buildSlice t len parts, ty0, ps, af, gd⟩ tm h K tg = uM (
 match E.T t with
    | some { kd := .slice e, .. } =>
      match E.T e with
      | some te => match te.zero with
        | some zc =>
          if len * te.sz ≤ 16777216 ∧ 0 < te.sz then
            match fillC (fun i => some (i * te.sz, te.sz)) (List.replicate len zc).flatten (parts.toList.map fun p => (p.1, (evC E tm) p.2)) with
            | some cs => .new (.cells cs) fun id => .pure (.ref id 0 len te.sz)
            | none => .fail
          else .fail
        | none => .fail
      | none => .fail
    | _ => .fail) h K ⟨⟩ := (rfl)
theorem u_load (E : Env) {d0 : Option Tmp} {ty0 : TypeId} {ps : String} {af : Array Edge} {gd : Option (Nat × Bool)} (tm : List CV) (h : H) (K : CV → H → Prop) {t} {a} (tg : Tag (E, (⟨d0, .load t a, ty0, ps, af, gd⟩ : Oper), K)) : uOp E ⟨d0, .load t a, ty0, ps, af, gd⟩ tm h K tg = uM (
 match E.T t with
    | some ty => match (evC E tm) a with
      | .iptr cs off => .ofO (ldC ty.agg ty.sz cs off)
      | .ptr id off => .get id fun ob =>
        match ob with
        | .cells cs => .ofO (ldC ty.agg ty.sz cs off)
        | .fro cs => .ofO (ldC ty.agg ty.sz cs off)
        | _ => .fail
      | _ => .fail
    | none => .fail) h K ⟨⟩ := (rfl)
theorem u_store (E : Env) {d0 : Option Tmp} {ty0 : TypeId} {ps : String} {af : Array Edge} {gd : Option (Nat × Bool)} (tm : List CV) (h : H) (K : CV → H → Prop) {t} {a} {x} (tg : Tag (E, (⟨d0, .store t a x, ty0, ps, af, gd⟩ : Oper), K)) : uOp E ⟨d0, .store t a x, ty0, ps, af, gd⟩ tm h K tg = uM (
 match E.T t with
    | some ty => match (evC E tm) a with
      | .ptr id off => .get id fun ob =>
        match ob with
        | .cells cs => match ((evC E tm) x).cells with
          | some vc => if vc.length = ty.sz ∧ off + ty.sz ≤ cs.length then .put id (.cells (splice cs off vc)) (.pure (.tup [])) else .fail
          | none => .fail
        | _ => .fail
      | _ => .fail
    | none => .fail) h K ⟨⟩ := (rfl)
theorem u_nilCheck (E : Env) {d0 : Option Tmp} {ty0 : TypeId} {ps : String} {af : Array Edge} {gd : Option (Nat × Bool)} (tm : List CV) (h : H) (K : CV → H → Prop) {x} (tg : Tag (E, (⟨d0, .nilCheck x, ty0, ps, af, gd⟩ : Oper), K)) : uOp E ⟨d0, .nilCheck x, ty0, ps, af, gd⟩ tm h K tg = uM (
 match (evC E tm) x with
    | .ptr a b => .pure (.ptr a b)
    | .iptr a b => .pure (.iptr a b)
    | .fn a b => .pure (.fn a b)
    | _ => .fail) h K ⟨⟩ := (rfl)
theorem u_binOp (E : Env) {d0 : Option Tmp} {ty0 : TypeId} {ps : String} {af : Array Edge} {gd : Option (Nat × Bool)} (tm : List CV) (h : H) (K : CV → H → Prop) {op} {t} {x} {y} {u1} (tg : Tag (E, (⟨d0, .binOp op t x y u1, ty0, ps, af, gd⟩ : Oper), K)) : uOp E ⟨d0, .binOp op t x y u1, ty0, ps, af, gd⟩ tm h K tg = uM (
 .ofO (binC E op t ((evC E tm) x) ((evC E tm) y))) h K ⟨⟩ := (rfl)
theorem u_unOp (E : Env) {d0 : Option Tmp} {ty0 : TypeId} {ps : String} {af : Array Edge} {gd : Option (Nat × Bool)} (tm : List CV) (h : H) (K : CV → H → Prop) {op} {x} {u1} (tg : Tag (E, (⟨d0, .unOp op u1 x, ty0, ps, af, gd⟩ : Oper), K)) : uOp E ⟨d0, .unOp op u1 x, ty0, ps, af, gd⟩ tm h K tg = uM (
 .ofO (unC op ((evC E tm) x))) h K ⟨⟩ := (rfl)
theorem u_convert (E : Env) {d0 : Option Tmp} {ty0 : TypeId} {ps : String} {af : Array Edge} {gd : Option (Nat × Bool)} (tm : List CV) (h : H) (K : CV → H → Prop) {s} {d} {x} (tg : Tag (E, (⟨d0, .convert s d x, ty0, ps, af, gd⟩ : Oper), K)) : uOp E ⟨d0, .convert s d x, ty0, ps, af, gd⟩ tm h K tg = uM (
 match E.T s, E.T d with
    | some ts, some td => match td.kd, (evC E tm) x with
      | .int k, .int _ n => .pure (.int k (k.wrap n))
      | .str, .str b => .pure (.str b)
      | .str, .nils => (match ts.kd with | .slice e => (match E.T e with | some { kd := .int .u8, .. } => .pure (.str []) | _ => .fail) | _ => .fail)
      | .str, .lst sz xs => (match ts.kd with | .slice e => (match E.T e with | some { kd := .int .u8, .. } => if sz = 1 then .ofO ((byteCells xs.flatten).map .str) else .fail | _ => .fail) | _ => .fail)
      | .str, .ref id off len sz => (match ts.kd with | .slice e => (match E.T e with | some { kd := .int .u8, .. } => if sz = 1 then (rowC (.ref id off len sz)).bind fun cs => .ofO ((byteCells cs).map .str) else .fail | _ => .fail) | _ => .fail)
      | _, _ => .fail
    | _, _ => .fail) h K ⟨⟩ := (rfl)
theorem u_makeFunc (E : Env) {d0 : Option Tmp} {ty0 : TypeId} {ps : String} {af : Array Edge} {gd : Option (Nat × Bool)} (tm : List CV) (h : H) (K : CV → H → Prop) {f} {first} {caps} (tg : Tag (E, (⟨d0, .makeFunc (.func f) first caps, ty0, ps, af, gd⟩ : Oper), K)) : uOp E ⟨d0, .makeFunc (.func f) first caps, ty0, ps, af, gd⟩ tm h K tg = uM (
 if first.isEmpty then .pure (.fn f (caps.toList.map (evC E tm))) else .fail) h K ⟨⟩ := (rfl)
theorem u_makeMap (E : Env) {d0 : Option Tmp} {ty0 : TypeId} {ps : String} {af : Array Edge} {gd : Option (Nat × Bool)} (tm : List CV) (h : H) (K : CV → H → Prop) {t} (tg : Tag (E, (⟨d0, .makeMap t none, ty0, ps, af, gd⟩ : Oper), K)) : uOp E ⟨d0, .makeMap t none, ty0, ps, af, gd⟩ tm h K tg = uM (
 .new (.map []) fun id => .pure (.map id)) h K ⟨⟩ := (rfl)
theorem u_makeSlice (E : Env) {d0 : Option Tmp} {ty0 : TypeId} {ps : String} {af : Array Edge} {gd : Option (Nat × Bool)} (tm : List CV) (h : H) (K : CV → H → Prop) {t} {l} {c} (tg : Tag (E, (⟨d0, .makeSlice t l c, ty0, ps, af, gd⟩ : Oper), K)) : uOp E ⟨d0, .makeSlice t l c, ty0, ps, af, gd⟩ tm h K tg = uM (
 match E.T t with
    | some { kd := .slice e, .. } =>
      match E.T e with
      | some te => match te.zero, (evC E tm) l, (evC E tm) c with
        | some zc, .int _ n, .int _ m =>
          if 0 ≤ n ∧ n ≤ m ∧ m ≤ 140737488355328 ∧ m * te.bts ≤ 140737488355328 ∧ 0 < te.sz then .new (.cells (List.replicate n.toNat zc).flatten) fun id => .pure (.ref id 0 n.toNat te.sz) else .fail
        | _, _, _ => .fail
      | none => .fail
    | _ => .fail) h K ⟨⟩ := (rfl)
theorem u_slice (E : Env) {d0 : Option Tmp} {ty0 : TypeId} {ps : String} {af : Array Edge} {gd : Option (Nat × Bool)} (tm : List CV) (h : H) (K : CV → H → Prop) {t} {x} {lo} {hi} {mx} (tg : Tag (E, (⟨d0, .slice t x lo hi mx, ty0, ps, af, gd⟩ : Oper), K)) : uOp E ⟨d0, .slice t x lo hi mx, ty0, ps, af, gd⟩ tm h K tg = uM (
 .ofO (sliceC E t ((evC E tm) x) (lo.map (evC E tm)) (hi.map (evC E tm)) (mx.map (evC E tm)))) h K ⟨⟩ := (rfl)
theorem u_fieldAddr (E : Env) {d0 : Option Tmp} {ty0 : TypeId} {ps : String} {af : Array Edge} {gd : Option (Nat × Bool)} (tm : List CV) (h : H) (K : CV → H → Prop) {s} {x} {f} (tg : Tag (E, (⟨d0, .fieldAddr s x f, ty0, ps, af, gd⟩ : Oper), K)) : uOp E ⟨d0, .fieldAddr s x f, ty0, ps, af, gd⟩ tm h K tg = uM (
 match E.T s with
    | some { kd := .struct fs, .. } => match fs[f]? with
      | some (off, ft) => match E.T ft with
        | some fty => if fty.sz = 0 then .fail else
          match (evC E tm) x with
          | .ptr id o => .pure (.ptr id (o + off))
          | .iptr cs o => .pure (.iptr cs (o + off))
          | _ => .fail
        | none => .fail
      | none => .fail
    | _ => .fail) h K ⟨⟩ := (rfl)
theorem u_field (E : Env) {d0 : Option Tmp} {ty0 : TypeId} {ps : String} {af : Array Edge} {gd : Option (Nat × Bool)} (tm : List CV) (h : H) (K : CV → H → Prop) {t} {x} {f} (tg : Tag (E, (⟨d0, .field t x f, ty0, ps, af, gd⟩ : Oper), K)) : uOp E ⟨d0, .field t x f, ty0, ps, af, gd⟩ tm h K tg = uM (
 match E.T t with
    | some { kd := .struct fs, .. } => match fs[f]? with
      | some (off, ft) => match E.T ft with
        | some fty => match (evC E tm) x with
          | .agg cs => .ofO (if off + fty.sz ≤ cs.length then ldC fty.agg fty.sz cs off else none)
          | _ => .fail
        | none => .fail
      | none => .fail
    | _ => .fail) h K ⟨⟩ := (rfl)
theorem u_indexAddr (E : Env) {d0 : Option Tmp} {ty0 : TypeId} {ps : String} {af : Array Edge} {gd : Option (Nat × Bool)} (tm : List CV) (h : H) (K : CV → H → Prop) {t} {x} {i} (tg : Tag (E, (⟨d0, .indexAddr t x i, ty0, ps, af, gd⟩ : Oper), K)) : uOp E ⟨d0, .indexAddr t x i, ty0, ps, af, gd⟩ tm h K tg = uM (
 match E.T t with
    | some { kd := .slice e, .. } => match E.T e with
      | some te => match (evC E tm) i with
        | .int _ n => match (evC E tm) x with
          | .lst sz xs => if sz = te.sz ∧ 0 ≤ n then (match xs[n.toNat]? with | some y => .pure (.iptr y 0) | none => .fail) else .fail
          | .ref id off len sz => if sz = te.sz ∧ 0 ≤ n ∧ n < (len : Int) then .pure (.ptr id (off + n.toNat * sz)) else .fail
          | _ => .fail
        | _ => .fail
      | none => .fail
    | some { kd := .arr len e, .. } => match E.T e with
      | some te => match (evC E tm) i with
        | .int _ n => if 0 ≤ n ∧ n < (len : Int) then
            (match (evC E tm) x with
            | .ptr id o => .pure (.ptr id (o + n.toNat * te.sz))
            | .iptr cs o => .pure (.iptr cs (o + n.toNat * te.sz))
            | _ => .fail) else .fail
        | _ => .fail
      | none => .fail
    | _ => .fail) h K ⟨⟩ := (rfl)
theorem u_index (E : Env) {d0 : Option Tmp} {ty0 : TypeId} {ps : String} {af : Array Edge} {gd : Option (Nat × Bool)} (tm : List CV) (h : H) (K : CV → H → Prop) {t} {x} {i} (tg : Tag (E, (⟨d0, .index t x i, ty0, ps, af, gd⟩ : Oper), K)) : uOp E ⟨d0, .index t x i, ty0, ps, af, gd⟩ tm h K tg = uM (
 match (evC E tm) i with
    | .int _ n => if 0 ≤ n then
        match (evC E tm) x with
        | .str s => (match E.T t with | some { kd := .str, .. } => (match s[n.toNat]? with | some b => .pure (.int .u8 b.toNat) | none => .fail) | _ => .fail)
        | .agg cs => (match E.T t with
          | some { kd := .arr len e, .. } => (match E.T e with
            | some te => if n < (len : Int) ∧ n.toNat * te.sz + te.sz ≤ cs.length then .ofO (ldC te.agg te.sz cs (n.toNat * te.sz)) else .fail
            | none => .fail)
          | _ => .fail)
        | _ => .fail
      else .fail
    | _ => .fail) h K ⟨⟩ := (rfl)
theorem u_lookup (E : Env) {d0 : Option Tmp} {ty0 : TypeId} {ps : String} {af : Array Edge} {gd : Option (Nat × Bool)} (tm : List CV) (h : H) (K : CV → H → Prop) {t} {m} {k} {ok} (tg : Tag (E, (⟨d0, .lookup t m k ok, ty0, ps, af, gd⟩ : Oper), K)) : uOp E ⟨d0, .lookup t m k ok, ty0, ps, af, gd⟩ tm h K tg = uM (
 match E.T t with
    | some { kd := .map kt et, .. } => match E.T kt, E.T et with
      | some tk, some te =>
        match tk.flat with
        | some ks =>
          match (evC E tm) m with
          | .nilm => .ofO (lookC tk.agg ks te [] ((evC E tm) k) ok)
          | .map id => .get id fun ob => match ob with | .map es => .ofO (lookC tk.agg ks te es ((evC E tm) k) ok) | _ => .fail
          | _ => .fail
        | none => .fail
      | _, _ => .fail
    | _ => .fail) h K ⟨⟩ := (rfl)
theorem u_mapUpdate (E : Env) {d0 : Option Tmp} {ty0 : TypeId} {ps : String} {af : Array Edge} {gd : Option (Nat × Bool)} (tm : List CV) (h : H) (K : CV → H → Prop) {t} {m} {k} {v} (tg : Tag (E, (⟨d0, .mapUpdate t m k v, ty0, ps, af, gd⟩ : Oper), K)) : uOp E ⟨d0, .mapUpdate t m k v, ty0, ps, af, gd⟩ tm h K tg = uM (
 match E.T t with
    | some { kd := .map kt _, .. } => match E.T kt with
      | some tk =>
        match tk.flat with
        | some ks =>
          match (evC E tm) m with
          | .map id => .get id fun ob =>
            match ob with
            | .map es => (match insC tk.agg ks es ((evC E tm) k) ((evC E tm) v) with | some es' => .put id (.map es') (.pure (.tup [])) | none => .fail)
            | _ => .fail
          | _ => .fail
        | none => .fail
      | none => .fail
    | _ => .fail) h K ⟨⟩ := (rfl)
theorem u_insert (E : Env) {d0 : Option Tmp} {ty0 : TypeId} {ps : String} {af : Array Edge} {gd : Option (Nat × Bool)} (tm : List CV) (h : H) (K : CV → H → Prop) {t} {m} {k} {v} (tg : Tag (E, (⟨d0, .insert t m k v, ty0, ps, af, gd⟩ : Oper), K)) : uOp E ⟨d0, .insert t m k v, ty0, ps, af, gd⟩ tm h K tg = uM (
 match E.T t with
    | some { kd := .map kt _, .. } => match E.T kt with
      | some tk =>
        match tk.flat with
        | some ks =>
          match (evC E tm) m with
          | .map id => .get id fun ob =>
            match ob with
            | .map es => (match insC tk.agg ks es ((evC E tm) k) ((evC E tm) v) with | some es' => .put id (.map es') (.pure (.tup [])) | none => .fail)
            | _ => .fail
          | _ => .fail
        | none => .fail
      | none => .fail
    | _ => .fail) h K ⟨⟩ := (rfl)
theorem u_extract (E : Env) {d0 : Option Tmp} {ty0 : TypeId} {ps : String} {af : Array Edge} {gd : Option (Nat × Bool)} (tm : List CV) (h : H) (K : CV → H → Prop) {x} {i} (tg : Tag (E, (⟨d0, .extract x i, ty0, ps, af, gd⟩ : Oper), K)) : uOp E ⟨d0, .extract x i, ty0, ps, af, gd⟩ tm h K tg = uM (
 match (evC E tm) x with | .tup vs => .ofO vs[i]? | _ => .fail) h K ⟨⟩ := (rfl)
theorem u_len (E : Env) {d0 : Option Tmp} {ty0 : TypeId} {ps : String} {af : Array Edge} {gd : Option (Nat × Bool)} (tm : List CV) (h : H) (K : CV → H → Prop) {args} {ts} (tg : Tag (E, (⟨d0, .call { callee := .builtin .len, args := args, argTypes := ts }, ty0, ps, af, gd⟩ : Oper), K)) : uOp E ⟨d0, .call { callee := .builtin .len, args := args, argTypes := ts }, ty0, ps, af, gd⟩ tm h K tg = uM (
    match args.toList.map (evC E tm) with
    | [v] =>
      match v with
      | .nilm => (match ts[0]? with | some t => (match E.T t with | some { kd := .map _ _, .. } => .pure (.int .i64 0) | _ => .fail) | none => .fail)
      | .map id => (match ts[0]? with
        | some t => (match E.T t with | some { kd := .map _ _, .. } => .get id fun ob => (match ob with | .map es => .pure (.int .i64 es.length) | _ => .fail) | _ => .fail)
        | none => .fail)
      | .str s => (match ts[0]? with | some t => (match E.T t with | some { kd := .str, .. } => .pure (.int .i64 s.length) | _ => .fail) | none => .fail)
      | v => (match ts[0]? with
        | some t => (match E.T t with | some { kd := .slice _, .. } => (match lenC v with | some n => .pure (.int .i64 n) | none => .fail) | _ => .fail)
        | none => .fail)
    | _ => .fail) h K ⟨⟩ := (rfl)
theorem u_append (E : Env) {d0 : Option Tmp} {ty0 : TypeId} {ps : String} {af : Array Edge} {gd : Option (Nat × Bool)} (tm : List CV) (h : H) (K : CV → H → Prop) {args} {ts} (tg : Tag (E, (⟨d0, .call { callee := .builtin .append, args := args, argTypes := ts }, ty0, ps, af, gd⟩ : Oper), K)) : uOp E ⟨d0, .call { callee := .builtin .append, args := args, argTypes := ts }, ty0, ps, af, gd⟩ tm h K tg = uM (
    match args.toList.map (evC E tm), ts.toList with
    | [b, y], [t, u] =>
      match E.T t, E.T u with
      | some { kd := .slice e, .. }, some tu =>
        match E.T e with
        | some te =>
          if szC te.sz b && tu.kd.isSl && szC te.sz y && te.zero.isSome && decide (0 < te.sz) then
            (rowC y).bind fun news =>
            match b with
            | .nils =>
              if news.isEmpty then .pure .nils
              else if news.length / te.sz * te.bts ≤ 140737488355328 ∧ news.length / te.sz ≤ 140737488355328 then .new (.cells news) fun id => .pure (.ref id 0 (news.length / te.sz) te.sz) else .fail
            | .ref id off len sz => .get id fun ob =>
              match ob with
              | .cells cs =>
                if off + len * sz ≤ cs.length ∧ (len + news.length / te.sz) * te.bts ≤ 140737488355328 ∧ len + news.length / te.sz ≤ 140737488355328 then
                  .del id (.new (.cells ((cs.drop off).take (len * sz) ++ news)) fun id' => .pure (.ref id' 0 (len + news.length / te.sz) sz))
                else .fail
              | _ => .fail
            | _ => .fail
          else .fail
        | none => .fail
      | _, _ => .fail
    | _, _ => .fail) h K ⟨⟩ := (rfl)
theorem u_copy (E : Env) {d0 : Option Tmp} {ty0 : TypeId} {ps : String} {af : Array Edge} {gd : Option (Nat × Bool)} (tm : List CV) (h : H) (K : CV → H → Prop) {args} {ts} (tg : Tag (E, (⟨d0, .call { callee := .builtin .copy, args := args, argTypes := ts }, ty0, ps, af, gd⟩ : Oper), K)) : uOp E ⟨d0, .call { callee := .builtin .copy, args := args, argTypes := ts }, ty0, ps, af, gd⟩ tm h K tg = uM (
    match args.toList.map (evC E tm), ts[0]? with
    | [b, y], some t =>
      match E.T t with
      | some { kd := .slice e, .. } =>
        match E.T e with
        | some te =>
          if szC te.sz b && szC te.sz y then
            (rowC y).bind fun news =>
            match b with
            | .ref id off len sz => .get id fun ob =>
              match ob with
              | .cells cs =>
                if off + len * sz ≤ cs.length ∧ 0 < sz then
                  let n := min (news.length / sz) len
                  .put id (.cells (splice cs off (news.take (n * sz)))) (.pure (.int .i64 n))
                else .fail
              | _ => .fail
            | _ => .fail
          else .fail
        | none => .fail
      | _ => .fail
    | _, _ => .fail) h K ⟨⟩ := (rfl)
theorem u_min (E : Env) {d0 : Option Tmp} {ty0 : TypeId} {ps : String} {af : Array Edge} {gd : Option (Nat × Bool)} (tm : List CV) (h : H) (K : CV → H → Prop) {args} {ts} (tg : Tag (E, (⟨d0, .call { callee := .builtin .min, args := args, argTypes := ts }, ty0, ps, af, gd⟩ : Oper), K)) : uOp E ⟨d0, .call { callee := .builtin .min, args := args, argTypes := ts }, ty0, ps, af, gd⟩ tm h K tg = uM (
    match args.toList.map (evC E tm) with
    | [.int j a, .int k b] => if j = k then .pure (.int j (if b < a then b else a)) else .fail
    | _ => .fail) h K ⟨⟩ := (rfl)
theorem u_max (E : Env) {d0 : Option Tmp} {ty0 : TypeId} {ps : String} {af : Array Edge} {gd : Option (Nat × Bool)} (tm : List CV) (h : H) (K : CV → H → Prop) {args} {ts} (tg : Tag (E, (⟨d0, .call { callee := .builtin .max, args := args, argTypes := ts }, ty0, ps, af, gd⟩ : Oper), K)) : uOp E ⟨d0, .call { callee := .builtin .max, args := args, argTypes := ts }, ty0, ps, af, gd⟩ tm h K tg = uM (
    match args.toList.map (evC E tm) with
    | [.int j a, .int k b] => if j = k then .pure (.int j (if b > a then b else a)) else .fail
    | _ => .fail) h K ⟨⟩ := (rfl)
/-! ### Code -/
def uIf (v : CV) (p q : Prop) (_ : Tag (PProd.mk p q)) : Prop :=
  match v with
  | .bool true => p
  | .bool false => q
  | _ => False
theorem uIf_true (p q : Prop) (t : Tag (PProd.mk p q)) : uIf (.bool true) p q t = p := (rfl)
theorem uIf_false (p q : Prop) (t : Tag (PProd.mk p q)) : uIf (.bool false) p q t = q := (rfl)
theorem uIf_dec (c : Prop) [Decidable c] (p q : Prop) (t : Tag (PProd.mk p q)) : uIf (.bool (decide c)) p q t = ((c → p) ∧ (¬ c → q)) := by
  by_cases hc : c <;> simp [hc, uIf]
/-- A loop or a drawn region, as 'simp' leaves it. -/
def uDoes (E : Env) (fid : Nat) (c : Code) (tm : List CV) (h : H) (Q : Ex → St → Prop) (_ : Tag (E, fid, c, Q)) : Prop := Does E fid c ⟨tm, h⟩ Q
/-- The same, as one function that 'simp' may unfold. -/
def wX (E : Env) (fid : Nat) : Code → List CV → H → (Ex → St → Prop) → Prop
  | .skip, tm, h, Q => Q .normal ⟨tm, h⟩
  | .label _, tm, h, Q => Q .normal ⟨tm, h⟩
  | .exit i, tm, h, Q => Q (.exit i) ⟨tm, h⟩
  | .ret, tm, h, Q => Q .ret ⟨tm, h⟩
  | .scope b, tm, h, Q => wX E fid b tm h Q
  | .seq a b, tm, h, Q => wX E fid a tm h (thenX (fun st => wX E fid b st.tm st.h Q) Q)
  | .cond c a b, tm, h, Q => uIf (evC E tm c) (wX E fid a tm h Q) (wX E fid b tm h Q) ⟨⟩
  | .block id b, tm, h, Q => wX E fid b tm h (blockX id Q)
  | .region _ ops false, tm, h, Q => uOps E ops.toList ops.toList tm h (fun st => Q .normal st) ⟨⟩
  | c, tm, h, Q => Does E fid c ⟨tm, h⟩ Q
def xX (E : Env) (fid : Nat) (c : Code) (tm : List CV) (h : H) (Q : Ex → St → Prop) (_ : Tag (E, fid, c, Q)) : Prop := wX E fid c tm h Q
theorem wX_sound {E : Env} {fid : Nat} (hz : ∀ id, E.rgf fid id = []) : ∀ (c : Code) (tm : List CV) (h : H) (Q : Ex → St → Prop), wX E fid c tm h Q → Does E fid c ⟨tm, h⟩ Q := by
  intro c
  induction c with
  | skip => intro tm h Q w; exact Does.skip w
  | label l => intro tm h Q w; exact Does.label w
  | exit i => intro tm h Q w; exact Does.exit w
  | ret => intro tm h Q w; exact Does.ret w
  | scope b ih => intro tm h Q w; exact Does.scope (ih _ _ _ w)
  | seq a b iha ihb =>
    intro tm h Q w
    refine Does.seq ((iha _ _ _ w).mono fun x st q => ?_)
    cases x with
    | normal => exact ihb _ _ _ q
    | _ => exact q
  | cond c a b iha ihb =>
    intro tm h Q w
    simp only [wX] at w
    unfold uIf at w
    split at w
    · rename_i hc; exact Does.cond hc (fun _ => iha _ _ _ w) (fun h => by cases h)
    · rename_i hc; exact Does.cond hc (fun h => by cases h) (fun _ => ihb _ _ _ w)
    · exact w.elim
  | block id b ih => intro tm h Q w; exact Does.block (ih _ _ _ w)
  | region id ops dr =>
    intro tm h Q w
    cases dr with
    | false => exact Does.region (hz id) w
    | true => exact w
  | _ => intro tm h Q w; exact w
section
variable (E : Env) (fid : Nat) (tm : List CV) (h : H) (Q : Ex → St → Prop)
theorem xX_skip (t : Tag (E, fid, Code.skip, Q)) : xX E fid .skip tm h Q t = Q .normal ⟨tm, h⟩ := (rfl)
theorem xX_label (l : Nat) (t : Tag (E, fid, Code.label l, Q)) : xX E fid (.label l) tm h Q t = Q .normal ⟨tm, h⟩ := (rfl)
theorem xX_exit (i : Nat) (t : Tag (E, fid, Code.exit i, Q)) : xX E fid (.exit i) tm h Q t = Q (.exit i) ⟨tm, h⟩ := (rfl)
theorem xX_ret (t : Tag (E, fid, Code.ret, Q)) : xX E fid .ret tm h Q t = Q .ret ⟨tm, h⟩ := (rfl)
theorem xX_scope (b : Code) (t : Tag (E, fid, Code.scope b, Q)) : xX E fid (.scope b) tm h Q t = xX E fid b tm h Q ⟨⟩ := (rfl)
theorem xX_seq (a b : Code) (t : Tag (E, fid, Code.seq a b, Q)) : xX E fid (.seq a b) tm h Q t = xX E fid a tm h (thenX (fun st => xX E fid b st.tm st.h Q ⟨⟩) Q) ⟨⟩ := (rfl)
theorem xX_cond (c : Operand) (a b : Code) (t : Tag (E, fid, Code.cond c a b, Q)) : xX E fid (.cond c a b) tm h Q t = uIf (evC E tm c) (xX E fid a tm h Q ⟨⟩) (xX E fid b tm h Q ⟨⟩) ⟨⟩ := (rfl)
theorem xX_block (id : Nat) (b : Code) (t : Tag (E, fid, Code.block id b, Q)) : xX E fid (.block id b) tm h Q t = xX E fid b tm h (blockX id Q) ⟨⟩ := (rfl)
theorem xX_region (id : Nat) (l : List Oper) (t : Tag (E, fid, Code.region id l.toArray false, Q)) : xX E fid (.region id l.toArray false) tm h Q t = uOps E l l tm h (fun st => Q .normal st) ⟨⟩ := (rfl)
theorem xX_draw (id : Nat) (ops : Array Oper) (t : Tag (E, fid, Code.region id ops true, Q)) : xX E fid (.region id ops true) tm h Q t = uDoes E fid (.region id ops true) tm h Q ⟨⟩ := (rfl)
theorem xX_loop (b : Code) (t : Tag (E, fid, Code.loop b, Q)) : xX E fid (.loop b) tm h Q t = uDoes E fid (.loop b) tm h Q ⟨⟩ := (rfl)
end
theorem thenX_normal (K : St → Prop) (Q : Ex → St → Prop) (st : St) : thenX K Q .normal st = K st := (rfl)
theorem thenX_exit (K : St → Prop) (Q : Ex → St → Prop) (i : Nat) (st : St) : thenX K Q (.exit i) st = Q (.exit i) st := (rfl)
theorem thenX_ret (K : St → Prop) (Q : Ex → St → Prop) (st : St) : thenX K Q .ret st = Q .ret st := (rfl)
theorem blockX_normal (id : Nat) (Q : Ex → St → Prop) (st : St) : blockX id Q .normal st = Q .normal st := (rfl)
theorem blockX_exit (id : Nat) (Q : Ex → St → Prop) (i : Nat) (st : St) : blockX id Q (.exit i) st = if i = id then Q .normal st else Q (.exit i) st := (rfl)
theorem blockX_ret (id : Nat) (Q : Ex → St → Prop) (st : St) : blockX id Q .ret st = Q .ret st := (rfl)
theorem Runs.ofX {E : Env} {k : Nat} {fn : Func} {body : Code} {args : List CV} {h : H} {Q : CV → H → Prop} (hf : E.P.funcs[k]? = some fn) (hb : fn.body = some body) (hok : E.okf k = true) (he : E.ent k = []) (hr : E.rtf k = false)
    (hz : ∀ id, E.rgf k id = []) (w : xX E k body (args ++ List.replicate (fn.ntmps - args.length) (.tup [])) h (resX E fn.results.toList Q) ⟨⟩) : Runs E k args h Q := Runs.of hf hb hok he hr (wX_sound hz _ _ _ _ w)
attribute [simp] getT_zero getT_succ setT_zero setT_succ putT_some putT_none ev_tmp ev_int ev_bool ev_nilp ev_nils ev_nilm ev_nilf ev_str ev_agg ev_func ev_global uM_pure uM_fail uM_get uGet_some uM_put uM_del uM_new uM_ite uM_ofO uMut_cells uMut_map uMut_siter uWant_true uWant_false dstAt_zero dstAt_succ wantT_none wantT_some wantV_bool wantV_tup uOps_nil uOps_cons uOp_call uCall_fn u_move u_assign u_pick u_alloc u_box u_build u_buildSlice u_load u_store u_nilCheck u_binOp u_unOp u_convert u_makeFunc u_makeMap u_makeSlice u_slice u_fieldAddr u_field u_indexAddr u_index u_lookup u_mapUpdate u_insert u_extract u_len u_append u_copy u_min u_max uIf_true uIf_false uIf_dec xX_skip xX_label xX_exit xX_ret xX_scope xX_seq xX_cond xX_block xX_region xX_draw xX_loop thenX_normal thenX_exit thenX_ret blockX_normal blockX_exit blockX_ret
theorem resX_ret (E : Env) (rs : List ResultVar) (Q : CV → H → Prop) (st : St) : resX E rs Q .ret st = ∃ vs, resC E st rs = some vs ∧ Q (oneOrTup vs) st.h := (rfl)
theorem resX_normal (E : Env) (rs : List ResultVar) (Q : CV → H → Prop) (st : St) : resX E rs Q .normal st = ∃ vs, resC E st rs = some vs ∧ Q (oneOrTup vs) st.h := (rfl)
attribute [simp] resX_ret resX_normal resC oneOrTup fillC splice CV.cells rowC CM.bind szC List.replicate H.next_new H.next_put H.next_del H.get_new H.get_put H.get_del unC TK.isSl
attribute [simp] binC isShift intBin CM.ofO ldC Ty.agg lenC
end Go.Cv
