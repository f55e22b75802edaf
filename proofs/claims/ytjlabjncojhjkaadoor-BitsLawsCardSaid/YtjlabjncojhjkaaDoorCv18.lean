/- Calls whose outcome is told, as equations; drawn regions, stepped through by 'simp'. -/
import Derived.Test.YtjlabjncojhjkaaDoorCv17
namespace Go.Cv
open Go

theorem runFn_det {E : Env} {k : Nat} {args : List CV} {h : H} {n m : Nat} {r s : CV × H} (hr : runFn E n k args h = some r) (hs : runFn E m k args h = some s) : r = s := by
  have h1 := runFn_mono (E := E) n (max n m) (Nat.le_max_left _ _) _ _ _ _ hr
  have h2 := runFn_mono (E := E) m (max n m) (Nat.le_max_right _ _) _ _ _ _ hs
  rw [h1] at h2
  exact Option.some.inj h2
/-- A call whose result and heap are told. -/
theorem Runs.det {E : Env} {k : Nat} {args : List CV} {h : H} {v : CV} {h' : H} (r : Runs E k args h fun w k => w = v ∧ k = h') {K : CV → H → Prop} {t : Tag (E, k, K)} : uRuns E k args h K t = K v h' := by
  obtain ⟨n, _, _, hr, rfl, rfl⟩ := r
  apply propext
  constructor
  · rintro ⟨m, v2, h2, hs, q⟩
    have := runFn_det hr hs
    cases this; exact q
  · intro q; exact ⟨n, _, _, hr, q⟩
theorem Runs.and {E : Env} {k : Nat} {args : List CV} {h : H} {P Q : CV → H → Prop} (a : Runs E k args h P) (b : Runs E k args h Q) : Runs E k args h fun v h' => P v h' ∧ Q v h' := by
  obtain ⟨n, v, h', hr, p⟩ := a
  obtain ⟨m, v2, h2, hs, q⟩ := b
  have := runFn_det hr hs
  cases this
  exact ⟨n, v, h', hr, p, q⟩

theorem Runs.grows {E : Env} (hE : E.OK) (hP : E.P.follows .mixedOrders = true) {k : Nat} {args : List CV} {h : H} {Q : CV → H → Prop} (r : Runs E k args h Q) (wf : WFH h) : Runs E k args h fun v h' => Grows h h' ∧ Q v h' := by
  obtain ⟨n, v, h', hr, q⟩ := r
  exact ⟨n, v, h', hr, ((runFn_sound hE hP n).pre _ _ _ _ _ hr wf).2, q⟩
/-- A number that comes later is another: for 'simp'. -/
theorem far {a b : Nat} (h : a < b) : a ≠ b ∧ b ≠ a ∧ (∀ k, a ≠ b + k) ∧ (∀ k, b + k ≠ a) := ⟨by omega, by omega, fun k => by omega, fun k => by omega⟩

/-! ### Drawn regions -/
/-- A small program that is run, with what it touched. -/
def vE {α : Type} : CM α → H → List Nat → List Nat → List Nat → (α → H → List Nat → List Nat → List Nat → Prop) → Prop
  | .pure a, h, rd, wr, al, Q => Q a h rd wr al
  | .fail, _, _, _, _, _ => False
  | .get i k, h, rd, wr, al, Q => ∃ o, h.get i = some o ∧ vE (k o) h (rd ++ [i]) wr al Q
  | .put i o k, h, rd, wr, al, Q => (∃ o', h.get i = some o' ∧ o'.mut = true) ∧ vE k (h.put i o) rd (wr ++ [i]) al Q
  | .del i k, h, rd, wr, al, Q => (∃ o', h.get i = some o' ∧ o'.mut = true) ∧ vE k (h.del i) rd (wr ++ [i]) al Q
  | .new o k, h, rd, wr, al, Q => vE (k h.next) (h.new o) rd wr (al ++ [h.next]) Q
theorem vE_sound {α : Type} (x : CM α) : ∀ (h : H) (rd wr al : List Nat) (Q : α → H → List Nat → List Nat → List Nat → Prop), vE x h rd wr al Q →
    ∃ a h', x.run h = some (a, h') ∧ Q a h' (rd ++ (x.eff h).rd) (wr ++ (x.eff h).wr) (al ++ (x.eff h).al) := by
  induction x with
  | pure a => intro h rd wr al Q w; exact ⟨a, h, rfl, by simp only [CM.eff, List.append_nil]; exact w⟩
  | fail => intro h rd wr al Q w; exact w.elim
  | get i k ih =>
    intro h rd wr al Q w
    obtain ⟨o, ho, w⟩ := w
    obtain ⟨a, h', r, q⟩ := ih o h _ _ _ Q w
    exact ⟨a, h', by simp only [CM.run, ho]; exact r, by simpa [CM.eff, ho] using q⟩
  | put i o k ih =>
    intro h rd wr al Q w
    obtain ⟨⟨o', ho, hm⟩, w⟩ := w
    obtain ⟨a, h', r, q⟩ := ih _ _ _ _ Q w
    refine ⟨a, h', ?_, by simpa [CM.eff] using q⟩
    simp only [CM.run, ho]
    cases o' <;> simp_all [CObj.mut]
  | del i k ih =>
    intro h rd wr al Q w
    obtain ⟨⟨o', ho, hm⟩, w⟩ := w
    obtain ⟨a, h', r, q⟩ := ih _ _ _ _ Q w
    refine ⟨a, h', ?_, by simpa [CM.eff] using q⟩
    simp only [CM.run, ho]
    cases o' <;> simp_all [CObj.mut]
  | new o k ih =>
    intro h rd wr al Q w
    obtain ⟨a, h', r, q⟩ := ih h.next (h.new o) _ _ _ Q w
    exact ⟨a, h', r, by simpa [CM.eff] using q⟩
def vStepD (E : Env) (ops : List Oper) (o : Oper) (hid : List Nat) (tm : List CV) (h : H) (K : List CV → H → Tch → Prop) : Prop :=
  match wantT ops tm o.guard with
  | some true =>
    match calleeC o (evC E tm) with
    | some (some (k, args)) => Runs E k args (hideL hid h) fun v h' => K (putT o.dst v tm) (restL h hid h') ⟨[], [], [], some (h, restL h hid h')⟩
    | some none => False
    | none => vE (primC E o (evC E tm)) h [] [] [] fun v h' rd wr al => K (putT o.dst v tm) h' ⟨rd, wr, al, none⟩
  | some false => K (putT o.dst (.tup []) tm) h ⟨[], [], [], none⟩
  | none => False
theorem vStepD_sound {E : Env} {ops : List Oper} {o : Oper} {hid : List Nat} {tm : List CV} {h : H} {K : List CV → H → Tch → Prop} (w : vStepD E ops o hid tm h K) :
    ∃ n tm' h' t, stepD E (runFn E n) ops o hid ⟨tm, h⟩ = some (⟨tm', h'⟩, t) ∧ K tm' h' t := by
  unfold vStepD at w
  have hw0 := (wantT_eq ops o tm).elim id id
  split at w
  · rename_i hw
    rw [hw] at hw0
    split at w
    · rename_i k args hk
      obtain ⟨n, v, h', hr, q⟩ := w
      exact ⟨n, putC o.dst v tm, restL h hid h', ⟨[], [], [], some (h, restL h hid h')⟩, by simp only [stepD, hw0, hk, hr], by rw [putT_fun] at q; exact q⟩
    · exact w.elim
    · rename_i hk
      obtain ⟨v, h', hr, q⟩ := vE_sound _ _ _ _ _ _ w
      exact ⟨0, putC o.dst v tm, h', ⟨((primC E o (evC E tm)).eff h).rd, ((primC E o (evC E tm)).eff h).wr, ((primC E o (evC E tm)).eff h).al, none⟩, by simp only [stepD, hw0, hk, hr], by rw [putT_fun] at q; simpa using q⟩
  · rename_i hw
    rw [hw] at hw0
    exact ⟨0, putC o.dst (.tup []) tm, h, ⟨[], [], [], none⟩, by simp only [stepD, hw0], by rw [putT_fun] at w; exact w⟩
  · exact w.elim
def unB (bef : Nat) : List Tch → Nat → List Tch
  | [], _ => []
  | t :: ts, j => if bef.testBit j then unB bef ts (j + 1) else t :: unB bef ts (j + 1)
theorem unB_eq (bef : Nat) : ∀ (ts : List Tch) (j : Nat), unB bef ts j = ((ts.zipIdx j).filter fun p => !bef.testBit p.2).map (·.1)
  | [], j => by simp [unB]
  | t :: ts, j => by
    rw [unB, unB_eq bef ts (j + 1), List.zipIdx_cons, List.filter_cons]
    cases h : bef.testBit j <;> simp
def vGoD (E : Env) (ops : List Oper) (bef : List Nat) : Nat → List Oper → List Tch → List CV → H → (St → Prop) → Prop
  | _, [], _, tm, h, K => K ⟨tm, h⟩
  | i, o :: r, ts, tm, h, K => vStepD E ops o ((unB (bef.getD i 0) ts 0).flatMap (·.al)) tm h fun tm' h' t => (∀ p ∈ unB (bef.getD i 0) ts 0, compatC p t = true) ∧ vGoD E ops bef (i + 1) r (ts ++ [t]) tm' h' K
theorem vGoD_sound {E : Env} {ops : List Oper} {bef : List Nat} : ∀ (r : List Oper) (i : Nat) (ts : List Tch) (tm : List CV) (h : H) (K : St → Prop), vGoD E ops bef i r ts tm h K →
    ∃ n st' ts', goD E (runFn E n) ops bef i r ts ⟨tm, h⟩ = some (st', ts') ∧ K st' := by
  intro r
  induction r with
  | nil => intro i ts tm h K w; exact ⟨0, _, _, rfl, w⟩
  | cons o r ih =>
    intro i ts tm h K w
    obtain ⟨n, tm1, h1, t, hs, hc, w⟩ := vStepD_sound w
    obtain ⟨m, st', ts', hg, q⟩ := ih _ _ _ _ _ w
    refine ⟨max n m, st', ts', ?_, q⟩
    have e1 : (unB (bef.getD i 0) ts 0).flatMap (·.al) = (ts.zipIdx.filter fun p => !(bef.getD i 0).testBit p.2).flatMap fun p => p.1.al := by
      rw [unB_eq, List.flatMap_map]
    rw [e1] at hs
    simp only [goD, stepD_mono (runFn_mono n (max n m) (Nat.le_max_left _ _)) hs]
    rw [if_pos]
    · exact goD_mono (runFn_mono m (max n m) (Nat.le_max_right _ _)) _ _ _ _ _ hg
    · rw [List.all_eq_true]
      intro p hp
      refine hc p.1 ?_
      rw [unB_eq]
      exact List.mem_map.2 ⟨p, hp, rfl⟩
theorem Does.draw {E : Env} {fid : Nat} {id : Nat} {ops : Array Oper} {tm : List CV} {h : H} {Q : Ex → St → Prop} (hz : E.rgf fid id = []) (w : vGoD E ops.toList (befC ops.toList) 0 ops.toList [] tm h fun st => Q .normal st) : Does E fid (.region id ops true) ⟨tm, h⟩ Q := by
  obtain ⟨n, st', ts', hg, q⟩ := vGoD_sound _ _ _ _ _ _ w
  exact ⟨n, .normal, st', by simp only [execC, if_true, drawC, hg, hz, frzSlots], q⟩

/-! #### .. in the form that 'simp' steps through -/
def uE {α : Type} (x : CM α) (h : H) (rd wr al : List Nat) (Q : α → H → List Nat → List Nat → List Nat → Prop) (_ : Tag Q) : Prop := vE x h rd wr al Q
def uGetE {α : Type} (o : Option CObj) (k : CObj → CM α) (h : H) (rd wr al : List Nat) (Q : α → H → List Nat → List Nat → List Nat → Prop) (_ : Tag k) (_ : Tag Q) : Prop :=
  match o with
  | some o => vE (k o) h rd wr al Q
  | none => False
section
variable {α : Type} (h : H) (rd wr al : List Nat) (Q : α → H → List Nat → List Nat → List Nat → Prop) (t : Tag Q)
theorem uE_pure (a : α) : uE (.pure a) h rd wr al Q t = Q a h rd wr al := (rfl)
theorem uE_fail : uE .fail h rd wr al Q t = False := (rfl)
theorem uE_ofO (a : α) : uE (CM.ofO (some a)) h rd wr al Q t = Q a h rd wr al := (rfl)
theorem uE_get (i : Nat) (k : CObj → CM α) : uE (.get i k) h rd wr al Q t = uGetE (h.get i) k h (rd ++ [i]) wr al Q ⟨⟩ t := by
  apply propext
  show (∃ o, h.get i = some o ∧ vE (k o) h (rd ++ [i]) wr al Q) ↔ uGetE (h.get i) k h (rd ++ [i]) wr al Q ⟨⟩ t
  generalize h.get i = x
  cases x <;> simp [uGetE]
theorem uGetE_some (o : CObj) (k : CObj → CM α) (t' : Tag k) : uGetE (some o) k h rd wr al Q t' t = uE (k o) h rd wr al Q t := (rfl)
theorem uE_put (i : Nat) (o : CObj) (k : CM α) : uE (.put i o k) h rd wr al Q t = (uMut (h.get i) ∧ uE k (h.put i o) rd (wr ++ [i]) al Q t) := by
  apply propext
  show ((∃ o', h.get i = some o' ∧ o'.mut = true) ∧ vE k (h.put i o) rd (wr ++ [i]) al Q) ↔ (uMut (h.get i) ∧ vE k (h.put i o) rd (wr ++ [i]) al Q)
  generalize h.get i = x
  cases x with
  | none => simp [uMut]
  | some y => cases y <;> simp [uMut, CObj.mut]
theorem uE_del (i : Nat) (k : CM α) : uE (.del i k) h rd wr al Q t = (uMut (h.get i) ∧ uE k (h.del i) rd (wr ++ [i]) al Q t) := by
  apply propext
  show ((∃ o', h.get i = some o' ∧ o'.mut = true) ∧ vE k (h.del i) rd (wr ++ [i]) al Q) ↔ (uMut (h.get i) ∧ vE k (h.del i) rd (wr ++ [i]) al Q)
  generalize h.get i = x
  cases x with
  | none => simp [uMut]
  | some y => cases y <;> simp [uMut, CObj.mut]
theorem uE_new (o : CObj) (k : Nat → CM α) : uE (.new o k) h rd wr al Q t = uE (k h.next) (h.new o) rd wr (al ++ [h.next]) Q t := (rfl)
theorem uE_ite {c : Prop} [Decidable c] (x : CM α) : uE (if c then x else .fail) h rd wr al Q t = (c ∧ uE x h rd wr al Q t) := by
  apply propext; unfold uE
  split <;> simp [*, vE]
end
def uOpD (E : Env) (o : Oper) (hid : List Nat) (tm : List CV) (h : H) (K : CV → H → Tch → Prop) (_ : Tag (E, o, hid, K)) : Prop :=
  match calleeC o (evC E tm) with
  | some (some (k, args)) => Runs E k args (hideL hid h) fun v h' => K v (restL h hid h') ⟨[], [], [], some (h, restL h hid h')⟩
  | some none => False
  | none => vE (primC E o (evC E tm)) h [] [] [] fun v h' rd wr al => K v h' ⟨rd, wr, al, none⟩
theorem d_move (E : Env) {d0 : Option Tmp} {ty0 : TypeId} {ps : String} {af : Array Edge} {gd : Option (Nat × Bool)} (tm : List CV) (h : H) (hid : List Nat) (K : CV → H → Tch → Prop) {x} (tg : Tag (E, (⟨d0, .move x, ty0, ps, af, gd⟩ : Oper), hid, K)) : uOpD E ⟨d0, .move x, ty0, ps, af, gd⟩ hid tm h K tg = uE (
 .pure ((evC E tm) x)) h [] [] [] (fun v h' rd wr al => K v h' ⟨rd, wr, al, none⟩) ⟨⟩ := (rfl)
theorem d_assign (E : Env) {d0 : Option Tmp} {ty0 : TypeId} {ps : String} {af : Array Edge} {gd : Option (Nat × Bool)} (tm : List CV) (h : H) (hid : List Nat) (K : CV → H → Tch → Prop) {x} (tg : Tag (E, (⟨d0, .assign x, ty0, ps, af, gd⟩ : Oper), hid, K)) : uOpD E ⟨d0, .assign x, ty0, ps, af, gd⟩ hid tm h K tg = uE (
 .pure ((evC E tm) x)) h [] [] [] (fun v h' rd wr al => K v h' ⟨rd, wr, al, none⟩) ⟨⟩ := (rfl)
theorem d_pick (E : Env) {d0 : Option Tmp} {ty0 : TypeId} {ps : String} {af : Array Edge} {gd : Option (Nat × Bool)} (tm : List CV) (h : H) (hid : List Nat) (K : CV → H → Tch → Prop) {c} {a} {b} (tg : Tag (E, (⟨d0, .pick c a b, ty0, ps, af, gd⟩ : Oper), hid, K)) : uOpD E ⟨d0, .pick c a b, ty0, ps, af, gd⟩ hid tm h K tg = uE (
 match (evC E tm) c with | .bool p => .pure (if p then (evC E tm) a else (evC E tm) b) | _ => .fail) h [] [] [] (fun v h' rd wr al => K v h' ⟨rd, wr, al, none⟩) ⟨⟩ := (rfl)
theorem d_alloc (E : Env) {d0 : Option Tmp} {ty0 : TypeId} {ps : String} {af : Array Edge} {gd : Option (Nat × Bool)} (tm : List CV) (h : H) (hid : List Nat) (K : CV → H → Tch → Prop) {t} (tg : Tag (E, (⟨d0, .alloc t, ty0, ps, af, gd⟩ : Oper), hid, K)) : uOpD E ⟨d0, .alloc t, ty0, ps, af, gd⟩ hid tm h K tg = uE (
 match E.T t with
    | some ty => match ty.zero with | some zc => .new (.cells zc) fun id => .pure (.ptr id 0) | none => .fail
    | none => .fail) h [] [] [] (fun v h' rd wr al => K v h' ⟨rd, wr, al, none⟩) ⟨⟩ := (rfl)
theorem d_box (E : Env) {d0 : Option Tmp} {ty0 : TypeId} {ps : String} {af : Array Edge} {gd : Option (Nat × Bool)} (tm : List CV) (h : H) (hid : List Nat) (K : CV → H → Tch → Prop) {x} {u1} (tg : Tag (E, (⟨d0, .box u1 x, ty0, ps, af, gd⟩ : Oper), hid, K)) : uOpD E ⟨d0, .box u1 x, ty0, ps, af, gd⟩ hid tm h K tg = uE (
 match ((evC E tm) x).cells with | some cs => .new (.cells cs) fun id => .pure (.ptr id 0) | none => .fail) h [] [] [] (fun v h' rd wr al => K v h' ⟨rd, wr, al, none⟩) ⟨⟩ := (rfl)
theorem d_build (E : Env) {d0 : Option Tmp} {ty0 : TypeId} {ps : String} {af : Array Edge} {gd : Option (Nat × Bool)} (tm : List CV) (h : H) (hid : List Nat) (K : CV → H → Tch → Prop) {t} {parts} (tg : Tag (E, (⟨d0, .build t parts, ty0, ps, af, gd⟩ : Oper), hid, K)) : uOpD E ⟨d0, .build t parts, ty0, ps, af, gd⟩ hid tm h K tg = uE (
 match E.T t with
    | some { kd := .struct fs, zero := some zc, .. } =>
      if fs.all fun p => (E.T p.2).isSome then
        match fillC (fun i => match fs[i]? with | some (off, ft) => (match E.T ft with | some fty => some (off, fty.sz) | none => none) | none => none) zc (parts.toList.map fun p => (p.1, (evC E tm) p.2)) with
        | some cs => .pure (.agg cs)
        | none => .fail
      else .fail
    | some { kd := .arr _ e, zero := some zc, .. } =>
      match E.T e with
      | some te => match fillC (fun i => some (i * te.sz, te.sz)) zc (parts.toList.map fun p => (p.1, (evC E tm) p.2)) with
        | some cs => .pure (.agg cs)
        | none => .fail
      | none => .fail
    | _ => .fail) h [] [] [] (fun v h' rd wr al => K v h' ⟨rd, wr, al, none⟩) ⟨⟩ := (rfl)
theorem d_buildSlice (E : Env) {d0 : Option Tmp} {ty0 : TypeId} {ps : String} {af : Array Edge} {gd : Option (Nat × Bool)} (tm : List CV) (h : H) (hid : List Nat) (K : CV → H → Tch → Prop) {t} {len} {parts} (tg : Tag (E, (⟨d0, .buildSlice t len parts, ty0, ps, af, gd⟩ : Oper), hid, K)) : uOpD E ⟨d0, .buildSlice t len parts, ty0, ps, af, gd⟩ hid tm h K tg = uE (
 match E.T t with
    | some { kd := .slice e, .. } =>
      match E.T e with
      | some te => match te.zero with
        | some zc =>
          if len * te.sz ≤ 16777216 ∧ 0 < te.sz then
            match fillC (fun i => some (i * te.sz, te.sz)) (List.replicate len zc).flatten (parts.toList.map fun p => (p.1, (evC E tm) p.2)) with
            | some cs => .new (.cells cs) fun id => .pure (.ref id 0 len te.sz)
            | none => .fail
          else .fail
        | none => .fail
      | none => .fail
    | _ => .fail) h [] [] [] (fun v h' rd wr al => K v h' ⟨rd, wr, al, none⟩) ⟨⟩ := (rfl)
theorem d_load (E : Env) {d0 : Option Tmp} {ty0 : TypeId} {ps : String} {af : Array Edge} {gd : Option (Nat × Bool)} (tm : List CV) (h : H) (hid : List Nat) (K : CV → H → Tch → Prop) {t} {a} (tg : Tag (E, (⟨d0, .load t a, ty0, ps, af, gd⟩ : Oper), hid, K)) : uOpD E ⟨d0, .load t a, ty0, ps, af, gd⟩ hid tm h K tg = uE (
 match E.T t with
    | some ty => match (evC E tm) a with
      | .iptr cs off => .ofO (ldC ty.agg ty.sz cs off)
      | .ptr id off => .get id fun ob =>
        match ob with
        | .cells cs => .ofO (ldC ty.agg ty.sz cs off)
        | .fro cs => .ofO (ldC ty.agg ty.sz cs off)
        | _ => .fail
      | _ => .fail
    | none => .fail) h [] [] [] (fun v h' rd wr al => K v h' ⟨rd, wr, al, none⟩) ⟨⟩ := (rfl)
theorem d_store (E : Env) {d0 : Option Tmp} {ty0 : TypeId} {ps : String} {af : Array Edge} {gd : Option (Nat × Bool)} (tm : List CV) (h : H) (hid : List Nat) (K : CV → H → Tch → Prop) {t} {a} {x} (tg : Tag (E, (⟨d0, .store t a x, ty0, ps, af, gd⟩ : Oper), hid, K)) : uOpD E ⟨d0, .store t a x, ty0, ps, af, gd⟩ hid tm h K tg = uE (
 match E.T t with
    | some ty => match (evC E tm) a with
      | .ptr id off => .get id fun ob =>
        match ob with
        | .cells cs => match ((evC E tm) x).cells with
          | some vc => if vc.length = ty.sz ∧ off + ty.sz ≤ cs.length then .put id (.cells (splice cs off vc)) (.pure (.tup [])) else .fail
          | none => .fail
        | _ => .fail
      | _ => .fail
    | none => .fail) h [] [] [] (fun v h' rd wr al => K v h' ⟨rd, wr, al, none⟩) ⟨⟩ := (rfl)
theorem d_nilCheck (E : Env) {d0 : Option Tmp} {ty0 : TypeId} {ps : String} {af : Array Edge} {gd : Option (Nat × Bool)} (tm : List CV) (h : H) (hid : List Nat) (K : CV → H → Tch → Prop) {x} (tg : Tag (E, (⟨d0, .nilCheck x, ty0, ps, af, gd⟩ : Oper), hid, K)) : uOpD E ⟨d0, .nilCheck x, ty0, ps, af, gd⟩ hid tm h K tg = uE (
 match (evC E tm) x with
    | .ptr a b => .pure (.ptr a b)
    | .iptr a b => .pure (.iptr a b)
    | .fn a b => .pure (.fn a b)
    | _ => .fail) h [] [] [] (fun v h' rd wr al => K v h' ⟨rd, wr, al, none⟩) ⟨⟩ := (rfl)
theorem d_binOp (E : Env) {d0 : Option Tmp} {ty0 : TypeId} {ps : String} {af : Array Edge} {gd : Option (Nat × Bool)} (tm : List CV) (h : H) (hid : List Nat) (K : CV → H → Tch → Prop) {op} {t} {x} {y} {u1} (tg : Tag (E, (⟨d0, .binOp op t x y u1, ty0, ps, af, gd⟩ : Oper), hid, K)) : uOpD E ⟨d0, .binOp op t x y u1, ty0, ps, af, gd⟩ hid tm h K tg = uE (
 .ofO (binC E op t ((evC E tm) x) ((evC E tm) y))) h [] [] [] (fun v h' rd wr al => K v h' ⟨rd, wr, al, none⟩) ⟨⟩ := (rfl)
theorem d_unOp (E : Env) {d0 : Option Tmp} {ty0 : TypeId} {ps : String} {af : Array Edge} {gd : Option (Nat × Bool)} (tm : List CV) (h : H) (hid : List Nat) (K : CV → H → Tch → Prop) {op} {x} {u1} (tg : Tag (E, (⟨d0, .unOp op u1 x, ty0, ps, af, gd⟩ : Oper), hid, K)) : uOpD E ⟨d0, .unOp op u1 x, ty0, ps, af, gd⟩ hid tm h K tg = uE (
 .ofO (unC op ((evC E tm) x))) h [] [] [] (fun v h' rd wr al => K v h' ⟨rd, wr, al, none⟩) ⟨⟩ := (rfl)
theorem d_convert (E : Env) {d0 : Option Tmp} {ty0 : TypeId} {ps : String} {af : Array Edge} {gd : Option (Nat × Bool)} (tm : List CV) (h : H) (hid : List Nat) (K : CV → H → Tch → Prop) {s} {d} {x} (tg : Tag (E, (⟨d0, .convert s d x, ty0, ps, af, gd⟩ : Oper), hid, K)) : uOpD E ⟨d0, .convert s d x, ty0, ps, af, gd⟩ hid tm h K tg = uE (
 match E.T s, E.T d with
    | some ts, some td => match td.kd, (evC E tm) x with
      | .int k, .int _ n => .pure (.int k (k.wrap n))
      | .str, .str b => .pure (.str b)
      | .str, .nils => (match ts.kd with | .slice e => (match E.T e with | some { kd := .int .u8, .. } => .pure (.str []) | _ => .fail) | _ => .fail)
      | .str, .lst sz xs => (match ts.kd with | .slice e => (match E.T e with | some { kd := .int .u8, .. } => if sz = 1 then .ofO ((byteCells xs.flatten).map .str) else .fail | _ => .fail) | _ => .fail)
      | .str, .ref id off len sz => (match ts.kd with | .slice e => (match E.T e with | some { kd := .int .u8, .. } => if sz = 1 then (rowC (.ref id off len sz)).bind fun cs => .ofO ((byteCells cs).map .str) else .fail | _ => .fail) | _ => .fail)
      | _, _ => .fail
    | _, _ => .fail) h [] [] [] (fun v h' rd wr al => K v h' ⟨rd, wr, al, none⟩) ⟨⟩ := (rfl)
theorem d_makeFunc (E : Env) {d0 : Option Tmp} {ty0 : TypeId} {ps : String} {af : Array Edge} {gd : Option (Nat × Bool)} (tm : List CV) (h : H) (hid : List Nat) (K : CV → H → Tch → Prop) {f} {first} {caps} (tg : Tag (E, (⟨d0, .makeFunc (.func f) first caps, ty0, ps, af, gd⟩ : Oper), hid, K)) : uOpD E ⟨d0, .makeFunc (.func f) first caps, ty0, ps, af, gd⟩ hid tm h K tg = uE (
 if first.isEmpty then .pure (.fn f (caps.toList.map (evC E tm))) else .fail) h [] [] [] (fun v h' rd wr al => K v h' ⟨rd, wr, al, none⟩) ⟨⟩ := (rfl)
theorem d_makeMap (E : Env) {d0 : Option Tmp} {ty0 : TypeId} {ps : String} {af : Array Edge} {gd : Option (Nat × Bool)} (tm : List CV) (h : H) (hid : List Nat) (K : CV → H → Tch → Prop) {t} (tg : Tag (E, (⟨d0, .makeMap t none, ty0, ps, af, gd⟩ : Oper), hid, K)) : uOpD E ⟨d0, .makeMap t none, ty0, ps, af, gd⟩ hid tm h K tg = uE (
 .new (.map []) fun id => .pure (.map id)) h [] [] [] (fun v h' rd wr al => K v h' ⟨rd, wr, al, none⟩) ⟨⟩ := (rfl)
theorem d_makeSlice (E : Env) {d0 : Option Tmp} {ty0 : TypeId} {ps : String} {af : Array Edge} {gd : Option (Nat × Bool)} (tm : List CV) (h : H) (hid : List Nat) (K : CV → H → Tch → Prop) {t} {l} {c} (tg : Tag (E, (⟨d0, .makeSlice t l c, ty0, ps, af, gd⟩ : Oper), hid, K)) : uOpD E ⟨d0, .makeSlice t l c, ty0, ps, af, gd⟩ hid tm h K tg = uE (
 match E.T t with
    | some { kd := .slice e, .. } =>
      match E.T e with
      | some te => match te.zero, (evC E tm) l, (evC E tm) c with
        | some zc, .int _ n, .int _ m =>
          if 0 ≤ n ∧ n ≤ m ∧ m ≤ 140737488355328 ∧ m * te.bts ≤ 140737488355328 ∧ 0 < te.sz then .new (.cells (List.replicate n.toNat zc).flatten) fun id => .pure (.ref id 0 n.toNat te.sz) else .fail
        | _, _, _ => .fail
      | none => .fail
    | _ => .fail) h [] [] [] (fun v h' rd wr al => K v h' ⟨rd, wr, al, none⟩) ⟨⟩ := (rfl)
theorem d_slice (E : Env) {d0 : Option Tmp} {ty0 : TypeId} {ps : String} {af : Array Edge} {gd : Option (Nat × Bool)} (tm : List CV) (h : H) (hid : List Nat) (K : CV → H → Tch → Prop) {t} {x} {lo} {hi} {mx} (tg : Tag (E, (⟨d0, .slice t x lo hi mx, ty0, ps, af, gd⟩ : Oper), hid, K)) : uOpD E ⟨d0, .slice t x lo hi mx, ty0, ps, af, gd⟩ hid tm h K tg = uE (
 .ofO (sliceC E t ((evC E tm) x) (lo.map (evC E tm)) (hi.map (evC E tm)) (mx.map (evC E tm)))) h [] [] [] (fun v h' rd wr al => K v h' ⟨rd, wr, al, none⟩) ⟨⟩ := (rfl)
theorem d_fieldAddr (E : Env) {d0 : Option Tmp} {ty0 : TypeId} {ps : String} {af : Array Edge} {gd : Option (Nat × Bool)} (tm : List CV) (h : H) (hid : List Nat) (K : CV → H → Tch → Prop) {s} {x} {f} (tg : Tag (E, (⟨d0, .fieldAddr s x f, ty0, ps, af, gd⟩ : Oper), hid, K)) : uOpD E ⟨d0, .fieldAddr s x f, ty0, ps, af, gd⟩ hid tm h K tg = uE (
 match E.T s with
    | some { kd := .struct fs, .. } => match fs[f]? with
      | some (off, ft) => match E.T ft with
        | some fty => if fty.sz = 0 then .fail else
          match (evC E tm) x with
          | .ptr id o => .pure (.ptr id (o + off))
          | .iptr cs o => .pure (.iptr cs (o + off))
          | _ => .fail
        | none => .fail
      | none => .fail
    | _ => .fail) h [] [] [] (fun v h' rd wr al => K v h' ⟨rd, wr, al, none⟩) ⟨⟩ := (rfl)
theorem d_field (E : Env) {d0 : Option Tmp} {ty0 : TypeId} {ps : String} {af : Array Edge} {gd : Option (Nat × Bool)} (tm : List CV) (h : H) (hid : List Nat) (K : CV → H → Tch → Prop) {t} {x} {f} (tg : Tag (E, (⟨d0, .field t x f, ty0, ps, af, gd⟩ : Oper), hid, K)) : uOpD E ⟨d0, .field t x f, ty0, ps, af, gd⟩ hid tm h K tg = uE (
 match E.T t with
    | some { kd := .struct fs, .. } => match fs[f]? with
      | some (off, ft) => match E.T ft with
        | some fty => match (evC E tm) x with
          | .agg cs => .ofO (if off + fty.sz ≤ cs.length then ldC fty.agg fty.sz cs off else none)
          | _ => .fail
        | none => .fail
      | none => .fail
    | _ => .fail) h [] [] [] (fun v h' rd wr al => K v h' ⟨rd, wr, al, none⟩) ⟨⟩ := (rfl)
theorem d_indexAddr (E : Env) {d0 : Option Tmp} {ty0 : TypeId} {ps : String} {af : Array Edge} {gd : Option (Nat × Bool)} (tm : List CV) (h : H) (hid : List Nat) (K : CV → H → Tch → Prop) {t} {x} {i} (tg : Tag (E, (⟨d0, .indexAddr t x i, ty0, ps, af, gd⟩ : Oper), hid, K)) : uOpD E ⟨d0, .indexAddr t x i, ty0, ps, af, gd⟩ hid tm h K tg = uE (
 match E.T t with
    | some { kd := .slice e, .. } => match E.T e with
      | some te => match (evC E tm) i with
        | .int _ n => match (evC E tm) x with
          | .lst sz xs => if sz = te.sz ∧ 0 ≤ n then (match xs[n.toNat]? with | some y => .pure (.iptr y 0) | none => .fail) else .fail
          | .ref id off len sz => if sz = te.sz ∧ 0 ≤ n ∧ n < (len : Int) then .pure (.ptr id (off + n.toNat * sz)) else .fail
          | _ => .fail
        | _ => .fail
      | none => .fail
    | some { kd := .arr len e, .. } => match E.T e with
      | some te => match (evC E tm) i with
        | .int _ n => if 0 ≤ n ∧ n < (len : Int) then
            (match (evC E tm) x with
            | .ptr id o => .pure (.ptr id (o + n.toNat * te.sz))
            | .iptr cs o => .pure (.iptr cs (o + n.toNat * te.sz))
            | _ => .fail) else .fail
        | _ => .fail
      | none => .fail
    | _ => .fail) h [] [] [] (fun v h' rd wr al => K v h' ⟨rd, wr, al, none⟩) ⟨⟩ := (rfl)
theorem d_index (E : Env) {d0 : Option Tmp} {ty0 : TypeId} {ps : String} {af : Array Edge} {gd : Option (Nat × Bool)} (tm : List CV) (h : H) (hid : List Nat) (K : CV → H → Tch → Prop) {t} {x} {i} (tg : Tag (E, (⟨d0, .index t x i, ty0, ps, af, gd⟩ : Oper), hid, K)) : uOpD E ⟨d0, .index t x i, ty0, ps, af, gd⟩ hid tm h K tg = uE (
 match (evC E tm) i with
    | .int _ n => if 0 ≤ n then
        match (evC E tm) x with
        | .str s => (match E.T t with | some { kd := .str, .. } => (match s[n.toNat]? with | some b => .pure (.int .u8 b.toNat) | none => .fail) | _ => .fail)
        | .agg cs => (match E.T t with
          | some { kd := .arr len e, .. } => (match E.T e with
            | some te => if n < (len : Int) ∧ n.toNat * te.sz + te.sz ≤ cs.length then .ofO (ldC te.agg te.sz cs (n.toNat * te.sz)) else .fail
            | none => .fail)
          | _ => .fail)
        | _ => .fail
      else .fail
    | _ => .fail) h [] [] [] (fun v h' rd wr al => K v h' ⟨rd, wr, al, none⟩) ⟨⟩ := (rfl)
theorem d_lookup (E : Env) {d0 : Option Tmp} {ty0 : TypeId} {ps : String} {af : Array Edge} {gd : Option (Nat × Bool)} (tm : List CV) (h : H) (hid : List Nat) (K : CV → H → Tch → Prop) {t} {m} {k} {ok} (tg : Tag (E, (⟨d0, .lookup t m k ok, ty0, ps, af, gd⟩ : Oper), hid, K)) : uOpD E ⟨d0, .lookup t m k ok, ty0, ps, af, gd⟩ hid tm h K tg = uE (
 match E.T t with
    | some { kd := .map kt et, .. } => match E.T kt, E.T et with
      | some tk, some te =>
        match tk.flat with
        | some ks =>
          match (evC E tm) m with
          | .nilm => .ofO (lookC tk.agg ks te [] ((evC E tm) k) ok)
          | .map id => .get id fun ob => match ob with | .map es => .ofO (lookC tk.agg ks te es ((evC E tm) k) ok) | _ => .fail
          | _ => .fail
        | none => .fail
      | _, _ => .fail
    | _ => .fail) h [] [] [] (fun v h' rd wr al => K v h' ⟨rd, wr, al, none⟩) ⟨⟩ := (rfl)
theorem d_mapUpdate (E : Env) {d0 : Option Tmp} {ty0 : TypeId} {ps : String} {af : Array Edge} {gd : Option (Nat × Bool)} (tm : List CV) (h : H) (hid : List Nat) (K : CV → H → Tch → Prop) {t} {m} {k} {v} (tg : Tag (E, (⟨d0, .mapUpdate t m k v, ty0, ps, af, gd⟩ : Oper), hid, K)) : uOpD E ⟨d0, .mapUpdate t m k v, ty0, ps, af, gd⟩ hid tm h K tg = uE (
 match E.T t with
    | some { kd := .map kt _, .. } => match E.T kt with
      | some tk =>
        match tk.flat with
        | some ks =>
          match (evC E tm) m with
          | .map id => .get id fun ob =>
            match ob with
            | .map es => (match insC tk.agg ks es ((evC E tm) k) ((evC E tm) v) with | some es' => .put id (.map es') (.pure (.tup [])) | none => .fail)
            | _ => .fail
          | _ => .fail
        | none => .fail
      | none => .fail
    | _ => .fail) h [] [] [] (fun v h' rd wr al => K v h' ⟨rd, wr, al, none⟩) ⟨⟩ := (rfl)
theorem d_insert (E : Env) {d0 : Option Tmp} {ty0 : TypeId} {ps : String} {af : Array Edge} {gd : Option (Nat × Bool)} (tm : List CV) (h : H) (hid : List Nat) (K : CV → H → Tch → Prop) {t} {m} {k} {v} (tg : Tag (E, (⟨d0, .insert t m k v, ty0, ps, af, gd⟩ : Oper), hid, K)) : uOpD E ⟨d0, .insert t m k v, ty0, ps, af, gd⟩ hid tm h K tg = uE (
 match E.T t with
    | some { kd := .map kt _, .. } => match E.T kt with
      | some tk =>
        match tk.flat with
        | some ks =>
          match (evC E tm) m with
          | .map id => .get id fun ob =>
            match ob with
            | .map es => (match insC tk.agg ks es ((evC E tm) k) ((evC E tm) v) with | some es' => .put id (.map es') (.pure (.tup [])) | none => .fail)
            | _ => .fail
          | _ => .fail
        | none => .fail
      | none => .fail
    | _ => .fail) h [] [] [] (fun v h' rd wr al => K v h' ⟨rd, wr, al, none⟩) ⟨⟩ := (rfl)
theorem d_extract (E : Env) {d0 : Option Tmp} {ty0 : TypeId} {ps : String} {af : Array Edge} {gd : Option (Nat × Bool)} (tm : List CV) (h : H) (hid : List Nat) (K : CV → H → Tch → Prop) {x} {i} (tg : Tag (E, (⟨d0, .extract x i, ty0, ps, af, gd⟩ : Oper), hid, K)) : uOpD E ⟨d0, .extract x i, ty0, ps, af, gd⟩ hid tm h K tg = uE (
 match (evC E tm) x with | .tup vs => .ofO vs[i]? | _ => .fail) h [] [] [] (fun v h' rd wr al => K v h' ⟨rd, wr, al, none⟩) ⟨⟩ := (rfl)
theorem d_len (E : Env) {d0 : Option Tmp} {ty0 : TypeId} {ps : String} {af : Array Edge} {gd : Option (Nat × Bool)} (tm : List CV) (h : H) (hid : List Nat) (K : CV → H → Tch → Prop) {args} {ts} (tg : Tag (E, (⟨d0, .call { callee := .builtin .len, args := args, argTypes := ts }, ty0, ps, af, gd⟩ : Oper), hid, K)) : uOpD E ⟨d0, .call { callee := .builtin .len, args := args, argTypes := ts }, ty0, ps, af, gd⟩ hid tm h K tg = uE (
    match args.toList.map (evC E tm) with
    | [v] =>
      match v with
      | .nilm => (match ts[0]? with | some t => (match E.T t with | some { kd := .map _ _, .. } => .pure (.int .i64 0) | _ => .fail) | none => .fail)
      | .map id => (match ts[0]? with
        | some t => (match E.T t with | some { kd := .map _ _, .. } => .get id fun ob => (match ob with | .map es => .pure (.int .i64 es.length) | _ => .fail) | _ => .fail)
        | none => .fail)
      | .str s => (match ts[0]? with | some t => (match E.T t with | some { kd := .str, .. } => .pure (.int .i64 s.length) | _ => .fail) | none => .fail)
      | v => (match ts[0]? with
        | some t => (match E.T t with | some { kd := .slice _, .. } => (match lenC v with | some n => .pure (.int .i64 n) | none => .fail) | _ => .fail)
        | none => .fail)
    | _ => .fail) h [] [] [] (fun v h' rd wr al => K v h' ⟨rd, wr, al, none⟩) ⟨⟩ := (rfl)
theorem d_append (E : Env) {d0 : Option Tmp} {ty0 : TypeId} {ps : String} {af : Array Edge} {gd : Option (Nat × Bool)} (tm : List CV) (h : H) (hid : List Nat) (K : CV → H → Tch → Prop) {args} {ts} (tg : Tag (E, (⟨d0, .call { callee := .builtin .append, args := args, argTypes := ts }, ty0, ps, af, gd⟩ : Oper), hid, K)) : uOpD E ⟨d0, .call { callee := .builtin .append, args := args, argTypes := ts }, ty0, ps, af, gd⟩ hid tm h K tg = uE (
    match args.toList.map (evC E tm), ts.toList with
    | [b, y], [t, u] =>
      match E.T t, E.T u with
      | some { kd := .slice e, .. }, some tu =>
        match E.T e with
        | some te =>
          if szC te.sz b && tu.kd.isSl && szC te.sz y && te.zero.isSome && decide (0 < te.sz) then
            (rowC y).bind fun news =>
            match b with
            | .nils =>
              if news.isEmpty then .pure .nils
              else if news.length / te.sz * te.bts ≤ 140737488355328 ∧ news.length / te.sz ≤ 140737488355328 then .new (.cells news) fun id => .pure (.ref id 0 (news.length / te.sz) te.sz) else .fail
            | .ref id off len sz => .get id fun ob =>
              match ob with
              | .cells cs =>
                if off + len * sz ≤ cs.length ∧ (len + news.length / te.sz) * te.bts ≤ 140737488355328 ∧ len + news.length / te.sz ≤ 140737488355328 then
                  .del id (.new (.cells ((cs.drop off).take (len * sz) ++ news)) fun id' => .pure (.ref id' 0 (len + news.length / te.sz) sz))
                else .fail
              | _ => .fail
            | _ => .fail
          else .fail
        | none => .fail
      | _, _ => .fail
    | _, _ => .fail) h [] [] [] (fun v h' rd wr al => K v h' ⟨rd, wr, al, none⟩) ⟨⟩ := (rfl)
theorem d_copy (E : Env) {d0 : Option Tmp} {ty0 : TypeId} {ps : String} {af : Array Edge} {gd : Option (Nat × Bool)} (tm : List CV) (h : H) (hid : List Nat) (K : CV → H → Tch → Prop) {args} {ts} (tg : Tag (E, (⟨d0, .call { callee := .builtin .copy, args := args, argTypes := ts }, ty0, ps, af, gd⟩ : Oper), hid, K)) : uOpD E ⟨d0, .call { callee := .builtin .copy, args := args, argTypes := ts }, ty0, ps, af, gd⟩ hid tm h K tg = uE (
    match args.toList.map (evC E tm), ts[0]? with
    | [b, y], some t =>
      match E.T t with
      | some { kd := .slice e, .. } =>
        match E.T e with
        | some te =>
          if szC te.sz b && szC te.sz y then
            (rowC y).bind fun news =>
            match b with
            | .ref id off len sz => .get id fun ob =>
              match ob with
              | .cells cs =>
                if off + len * sz ≤ cs.length ∧ 0 < sz then
                  let n := min (news.length / sz) len
                  .put id (.cells (splice cs off (news.take (n * sz)))) (.pure (.int .i64 n))
                else .fail
              | _ => .fail
            | _ => .fail
          else .fail
        | none => .fail
      | _ => .fail
    | _, _ => .fail) h [] [] [] (fun v h' rd wr al => K v h' ⟨rd, wr, al, none⟩) ⟨⟩ := (rfl)
theorem d_min (E : Env) {d0 : Option Tmp} {ty0 : TypeId} {ps : String} {af : Array Edge} {gd : Option (Nat × Bool)} (tm : List CV) (h : H) (hid : List Nat) (K : CV → H → Tch → Prop) {args} {ts} (tg : Tag (E, (⟨d0, .call { callee := .builtin .min, args := args, argTypes := ts }, ty0, ps, af, gd⟩ : Oper), hid, K)) : uOpD E ⟨d0, .call { callee := .builtin .min, args := args, argTypes := ts }, ty0, ps, af, gd⟩ hid tm h K tg = uE (
    match args.toList.map (evC E tm) with
    | [.int j a, .int k b] => if j = k then .pure (.int j (if b < a then b else a)) else .fail
    | _ => .fail) h [] [] [] (fun v h' rd wr al => K v h' ⟨rd, wr, al, none⟩) ⟨⟩ := (rfl)
theorem d_max (E : Env) {d0 : Option Tmp} {ty0 : TypeId} {ps : String} {af : Array Edge} {gd : Option (Nat × Bool)} (tm : List CV) (h : H) (hid : List Nat) (K : CV → H → Tch → Prop) {args} {ts} (tg : Tag (E, (⟨d0, .call { callee := .builtin .max, args := args, argTypes := ts }, ty0, ps, af, gd⟩ : Oper), hid, K)) : uOpD E ⟨d0, .call { callee := .builtin .max, args := args, argTypes := ts }, ty0, ps, af, gd⟩ hid tm h K tg = uE (
    match args.toList.map (evC E tm) with
    | [.int j a, .int k b] => if j = k then .pure (.int j (if b > a then b else a)) else .fail
    | _ => .fail) h [] [] [] (fun v h' rd wr al => K v h' ⟨rd, wr, al, none⟩) ⟨⟩ := (rfl)
def uCallD (E : Env) (f : CV) (args : List CV) (hid : List Nat) (h : H) (K : CV → H → Tch → Prop) (_ : Tag (E, hid, K)) : Prop :=
  match f with
  | .fn k caps => Runs E k (args ++ caps) (hideL hid h) fun v h' => K v (restL h hid h') ⟨[], [], [], some (h, restL h hid h')⟩
  | _ => False
theorem uOpD_call (E : Env) {d : Option Tmp} {f : Operand} {args : Array Operand} {ts : Array TypeId} {ty : TypeId} {ps : String} {af : Array Edge} {gd : Option (Nat × Bool)} (hid : List Nat) (tm : List CV) (h : H) (K : CV → H → Tch → Prop) (t : Tag (E, (⟨d, .call { callee := .value f, args := args, argTypes := ts }, ty, ps, af, gd⟩ : Oper), hid, K)) :
    uOpD E ⟨d, .call { callee := .value f, args := args, argTypes := ts }, ty, ps, af, gd⟩ hid tm h K t = uCallD E (evC E tm f) (args.toList.map (evC E tm)) hid h K ⟨⟩ := by
  unfold uOpD uCallD calleeC
  simp only
  cases evC E tm f <;> rfl
theorem uCallD_fn (E : Env) (k : Nat) (caps args : List CV) (hid : List Nat) (h : H) (K : CV → H → Tch → Prop) (t : Tag (E, hid, K)) :
    uCallD E (.fn k caps) args hid h K t = uRuns E k (args ++ caps) (hideL hid h) (fun v h' => K v (restL h hid h') ⟨[], [], [], some (h, restL h hid h')⟩) ⟨⟩ := (rfl)
/-- All that may change places with the step go along with it. -/
def okAll (l : List Tch) (t : Tch) : Prop := ∀ p ∈ l, compatC p t = true
theorem okAll_nil (t : Tch) : okAll [] t = True := by simp [okAll]
theorem okAll_cons (p : Tch) (l : List Tch) (t : Tch) : okAll (p :: l) t = (compatC p t = true ∧ okAll l t) := by simp [okAll]
def unM (b : Nat) : List Tch → List Tch
  | [] => []
  | t :: ts => if b % 2 = 1 then unM (b / 2) ts else t :: unM (b / 2) ts
theorem unM_eq (b : Nat) : ∀ (ts : List Tch) (j : Nat), unB b ts j = unM (b / 2 ^ j) ts
  | [], j => rfl
  | t :: ts, j => by
    rw [unB, unM, unM_eq b ts (j + 1), Nat.testBit_eq_decide_div_mod_eq, Nat.pow_succ, ← Nat.div_div_eq_div_mul]
    by_cases h : b / 2 ^ j % 2 = 1 <;> simp [h]
theorem unM_zero (b : Nat) (ts : List Tch) : unB b ts 0 = unM b ts := by rw [unM_eq]; simp
def uGoD (E : Env) (ops : List Oper) (bef : List Nat) (i : Nat) (r : List Oper) (ts : List Tch) (tm : List CV) (h : H) (K : St → Prop) (_ : Tag (E, ops, r, K)) : Prop := vGoD E ops bef i r ts tm h K
theorem uGoD_nil (E : Env) (ops : List Oper) (bef : List Nat) (i : Nat) (ts : List Tch) (tm : List CV) (h : H) (K : St → Prop) (t : Tag (E, ops, ([] : List Oper), K)) : uGoD E ops bef i [] ts tm h K t = K ⟨tm, h⟩ := (rfl)
theorem uGoD_cons (E : Env) (ops : List Oper) (d : Option Tmp) (op : Op) (ty : TypeId) (ps : String) (af : Array Edge) (gd : Option (Nat × Bool)) (r : List Oper) (bef : List Nat) (i : Nat) (ts : List Tch) (tm : List CV) (h : H) (K : St → Prop) (t : Tag (E, ops, (⟨d, op, ty, ps, af, gd⟩ :: r : List Oper), K)) :
    uGoD E ops bef i (⟨d, op, ty, ps, af, gd⟩ :: r) ts tm h K t = uWant (wantT ops tm gd)
      (uOpD E ⟨d, op, ty, ps, af, none⟩ ((unM (bef.getD i 0) ts).flatMap (·.al)) tm h (fun v h' t => okAll (unM (bef.getD i 0) ts) t ∧ uGoD E ops bef (i + 1) r (ts ++ [t]) (putT d v tm) h' K ⟨⟩) ⟨⟩)
      (okAll (unM (bef.getD i 0) ts) ⟨[], [], [], none⟩ ∧ uGoD E ops bef (i + 1) r (ts ++ [⟨[], [], [], none⟩]) (putT d (.tup []) tm) h K ⟨⟩) ⟨⟩ := by
  rw [show unM = (fun b ts => unB b ts 0) from funext fun b => funext fun ts => (unM_zero b ts).symm]
  simp only [uGoD, vGoD, vStepD]
  unfold uWant
  generalize wantT ops tm gd = x
  cases x with
  | none => rfl
  | some b => cases b <;> rfl
theorem xX_drawn {E : Env} {fid : Nat} {tm : List CV} {h : H} {Q : Ex → St → Prop} {id : Nat} {l : List Oper} (bef : List Nat) (hz : E.rgf fid id = []) (hb : befC l = bef) (w : uGoD E l bef 0 l [] tm h (fun st => Q .normal st) ⟨⟩) : uDoes E fid (.region id l.toArray true) tm h Q ⟨⟩ := by
  subst hb; exact Does.draw hz w
attribute [simp] uE_pure uE_fail uE_ofO uE_get uGetE_some uE_put uE_del uE_new uE_ite uOpD_call uCallD_fn okAll_nil okAll_cons uGoD_nil uGoD_cons unM compatC d_move d_assign d_pick d_alloc d_box d_build d_buildSlice d_load d_store d_nilCheck d_binOp d_unOp d_convert d_makeFunc d_makeMap d_makeSlice d_slice d_fieldAddr d_field d_indexAddr d_index d_lookup d_mapUpdate d_insert d_extract d_len d_append d_copy d_min d_max
end Go.Cv
