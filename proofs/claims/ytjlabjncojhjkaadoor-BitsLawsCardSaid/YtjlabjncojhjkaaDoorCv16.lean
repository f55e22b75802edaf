/- What must hold ahead of a piece of code, so that it comes to an end and what is asked holds behind it. -/
import Derived.Test.YtjlabjncojhjkaaDoorCv15
namespace Go.Cv
open Go

/-! ### More fuel, the same -/
def CallF.le (a b : CallF) : Prop := ∀ k args h r, a k args h = some r → b k args h = some r
theorem stepC_mono {E : Env} {a b : CallF} (hab : CallF.le a b) {ops : List Oper} {o : Oper} {st st' : St} (h : stepC E a ops o st = some st') : stepC E b ops o st = some st' := by
  unfold stepC at *
  split
  · rename_i hw
    simp only [hw] at h
    split
    · rename_i k args hk
      simp only [hk] at h
      split at h
      · rename_i v hh hr
        rw [hab _ _ _ _ hr]; exact h
      · cases h
    · rename_i hk; simp only [hk] at h; cases h
    · rename_i hk; simp only [hk] at h; exact h
  · rename_i hw; simp only [hw] at h; exact h
  · rename_i hw; simp only [hw] at h; cases h
theorem opsC_mono {E : Env} {a b : CallF} (hab : CallF.le a b) {ops : List Oper} : ∀ (r : List Oper) {st st' : St}, opsC E a ops r st = some st' → opsC E b ops r st = some st' := by
  intro r
  induction r with
  | nil => intro st st' h; exact h
  | cons o r ih =>
    intro st st' h
    simp only [opsC] at *
    split at h
    · rename_i st1 h1
      rw [stepC_mono hab h1]; exact ih h
    · cases h
theorem stepD_mono {E : Env} {a b : CallF} (hab : CallF.le a b) {ops : List Oper} {o : Oper} {hid : List Nat} {st : St} {r : St × Tch} (h : stepD E a ops o hid st = some r) : stepD E b ops o hid st = some r := by
  unfold stepD at *
  split
  · rename_i hw
    simp only [hw] at h
    split
    · rename_i k args hk
      simp only [hk] at h
      split at h
      · rename_i v hh hr
        rw [hab _ _ _ _ hr]; exact h
      · cases h
    · rename_i hk; simp only [hk] at h; cases h
    · rename_i hk; simp only [hk] at h; exact h
  · rename_i hw; simp only [hw] at h; exact h
  · rename_i hw; simp only [hw] at h; cases h
theorem goD_mono {E : Env} {a b : CallF} (hab : CallF.le a b) {ops : List Oper} {bef : List Nat} : ∀ (r : List Oper) (i : Nat) (ts : List Tch) (st : St) (x : St × List Tch), goD E a ops bef i r ts st = some x → goD E b ops bef i r ts st = some x := by
  intro r
  induction r with
  | nil => intro i ts st x h; exact h
  | cons o r ih =>
    intro i ts st x h
    simp only [goD] at *
    split at h
    · rename_i st1 t1 h1
      rw [stepD_mono hab h1]
      simp only at *
      split at h
      · rename_i hc; rw [if_pos hc]; exact ih _ _ _ _ h
      · cases h
    · cases h
theorem drawC_mono {E : Env} {a b : CallF} (hab : CallF.le a b) {ops : List Oper} {st st' : St} (h : drawC E a ops st = some st') : drawC E b ops st = some st' := by
  unfold drawC at *
  split at h
  · rename_i st1 ts h1
    rw [goD_mono hab _ _ _ _ _ h1]; exact h
  · cases h
theorem loopN_mono {f g : St → Option (Ex × St)} (hfg : ∀ st r, f st = some r → g st = some r) : ∀ (n m : Nat) (st : St) (r : Ex × St), n ≤ m → loopN f n st = some r → loopN g m st = some r := by
  intro n
  induction n with
  | zero => intro m st r _ h; simp [loopN] at h
  | succ n ih =>
    intro m st r hm h
    obtain ⟨m, rfl⟩ : ∃ k, m = k + 1 := ⟨m - 1, by omega⟩
    simp only [loopN] at *
    split at h
    · rename_i st1 h1
      rw [hfg _ _ h1]; exact ih m _ _ (by omega) h
    · rename_i hne
      rw [hfg _ _ h]
      split
      · rename_i st2 he; cases he; exact absurd h (hne st2)
      · rfl
theorem execC_mono {E : Env} {fid : Nat} {a b : CallF} (hab : CallF.le a b) {n m : Nat} (hm : n ≤ m) : ∀ (c : Code) (st : St) (r : Ex × St), execC E fid a n c st = some r → execC E fid b m c st = some r := by
  intro c
  induction c with
  | region id ops dr =>
    intro st r h
    simp only [execC] at *
    cases dr with
    | true =>
      simp only [if_true] at *
      split at h
      · rename_i st1 h1; rw [drawC_mono hab h1]; exact h
      · cases h
    | false =>
      simp only [Bool.false_eq_true, if_false] at *
      split at h
      · rename_i st1 h1; rw [opsC_mono hab _ h1]; exact h
      · cases h
  | seq p q ihp ihq =>
    intro st r h
    simp only [execC] at *
    split at h
    · rename_i st1 h1; rw [ihp _ _ h1]; exact ihq _ _ h
    · rename_i hne
      rw [ihp _ _ h]
      split
      · rename_i st2 he; cases he; exact absurd h (hne st2)
      · rfl
  | cond c p q ihp ihq =>
    intro st r h
    simp only [execC] at *
    split
    · rename_i hc; simp only [hc] at h; exact ihp _ _ h
    · rename_i hc; simp only [hc] at h; exact ihq _ _ h
    · rename_i h1 h2
      split at h
      · rename_i hc; exact absurd hc h1
      · rename_i hc; exact absurd hc h2
      · cases h
  | block id p ih =>
    intro st r h
    simp only [execC] at *
    split at h
    · rename_i i st1 h1; rw [ih _ _ h1]; exact h
    · rename_i hne
      rw [ih _ _ h]
      split
      · rename_i i st2 he; cases he; exact absurd h (hne i st2)
      · rfl
  | loop p ih => intro st r h; simp only [execC] at *; exact loopN_mono (fun st r h => ih st r h) n m st r hm h
  | scope p ih => intro st r h; simp only [execC] at *; exact ih _ _ h
  | _ => intro st r h; exact h
theorem runFn_mono {E : Env} : ∀ (n m : Nat), n ≤ m → CallF.le (runFn E n) (runFn E m) := by
  intro n
  induction n with
  | zero => intro m _ k args h r hr; simp [runFn] at hr
  | succ n ih =>
    intro m hm k args h r hr
    obtain ⟨m, rfl⟩ : ∃ k, m = k + 1 := ⟨m - 1, by omega⟩
    simp only [runFn] at *
    split at hr
    · cases hr
    rename_i fn hfn
    split at hr
    · cases hr
    rename_i body hb
    split at hr
    case isFalse => cases hr
    rename_i hok
    rw [if_pos hok]
    split at hr
    · cases hr
    rename_i tm h1 he
    split at hr
    · rename_i st hx; rw [execC_mono (ih m (by omega)) (by omega) _ _ _ hx]; exact hr
    · rename_i st hx; rw [execC_mono (ih m (by omega)) (by omega) _ _ _ hx]; exact hr
    · cases hr

/-! ### What is to be shown of a call, and of code -/
/-- The call comes to an end, and what is asked holds of its result and of the heap behind it. -/
def Runs (E : Env) (k : Nat) (args : List CV) (h : H) (Q : CV → H → Prop) : Prop := ∃ n v h', runFn E n k args h = some (v, h') ∧ Q v h'
theorem Runs.mono {E : Env} {k : Nat} {args : List CV} {h : H} {Q Q' : CV → H → Prop} (r : Runs E k args h Q) (hq : ∀ v h', Q v h' → Q' v h') : Runs E k args h Q' :=
  let ⟨n, v, h', a, b⟩ := r; ⟨n, v, h', a, hq v h' b⟩
def vM {α : Type} : CM α → H → (α → H → Prop) → Prop
  | .pure a, h, Q => Q a h
  | .fail, _, _ => False
  | .get i k, h, Q => ∃ o, h.get i = some o ∧ vM (k o) h Q
  | .put i o k, h, Q => (∃ o', h.get i = some o' ∧ o'.mut = true) ∧ vM k (h.put i o) Q
  | .del i k, h, Q => (∃ o', h.get i = some o' ∧ o'.mut = true) ∧ vM k (h.del i) Q
  | .new o k, h, Q => vM (k h.next) (h.new o) Q
theorem vM_sound {α : Type} (x : CM α) : ∀ (h : H) (Q : α → H → Prop), vM x h Q → ∃ a h', x.run h = some (a, h') ∧ Q a h' := by
  induction x with
  | pure a => intro h Q w; exact ⟨a, h, rfl, w⟩
  | fail => intro h Q w; exact w.elim
  | get i k ih => intro h Q w; obtain ⟨o, ho, w⟩ := w; simp only [CM.run, ho]; exact ih o h Q w
  | put i o k ih =>
    intro h Q w
    obtain ⟨⟨o', ho, hm⟩, w⟩ := w
    simp only [CM.run, ho]
    cases o' <;> simp_all [CObj.mut]
  | del i k ih =>
    intro h Q w
    obtain ⟨⟨o', ho, hm⟩, w⟩ := w
    simp only [CM.run, ho]
    cases o' <;> simp_all [CObj.mut]
  | new o k ih => intro h Q w; exact ih h.next (h.new o) Q w
def vOp (E : Env) (ops : List Oper) (o : Oper) (st : St) (K : St → Prop) : Prop :=
  match wantedC ops o st.tm with
  | some true =>
    match calleeC o (evC E st.tm) with
    | some (some (k, args)) => Runs E k args st.h fun v h => K ⟨putC o.dst v st.tm, h⟩
    | some none => False
    | none => vM (primC E o (evC E st.tm)) st.h fun v h => K ⟨putC o.dst v st.tm, h⟩
  | some false => K ⟨putC o.dst (.tup []) st.tm, st.h⟩
  | none => False
def vOps (E : Env) (ops : List Oper) : List Oper → St → (St → Prop) → Prop
  | [], st, K => K st
  | o :: r, st, K => vOp E ops o st fun st' => vOps E ops r st' K
/-- The code comes to an end, and what is asked holds behind it. -/
def Does (E : Env) (fid : Nat) (c : Code) (st : St) (Q : Ex → St → Prop) : Prop := ∃ n x st', execC E fid (runFn E n) n c st = some (x, st') ∧ Q x st'
theorem Does.mono {E : Env} {fid : Nat} {c : Code} {st : St} {Q Q' : Ex → St → Prop} (d : Does E fid c st Q) (hq : ∀ x st', Q x st' → Q' x st') : Does E fid c st Q' :=
  let ⟨n, x, st', a, b⟩ := d; ⟨n, x, st', a, hq x st' b⟩
theorem vOp_sound {E : Env} {ops : List Oper} {o : Oper} {st : St} {K : St → Prop} (w : vOp E ops o st K) : ∃ n st', stepC E (runFn E n) ops o st = some st' ∧ K st' := by
  unfold vOp at w
  split at w
  · rename_i hw
    split at w
    · rename_i k args hk
      obtain ⟨n, v, h', hr, q⟩ := w
      exact ⟨n, _, by simp only [stepC, hw, hk, hr], q⟩
    · exact w.elim
    · rename_i hk
      obtain ⟨v, h', hr, q⟩ := vM_sound _ _ _ w
      exact ⟨0, _, by simp only [stepC, hw, hk, hr], q⟩
  · rename_i hw
    exact ⟨0, _, by simp only [stepC, hw], w⟩
  · exact w.elim
theorem vOps_sound {E : Env} {ops : List Oper} : ∀ (r : List Oper) (st : St) (K : St → Prop), vOps E ops r st K → ∃ n st', opsC E (runFn E n) ops r st = some st' ∧ K st' := by
  intro r
  induction r with
  | nil => intro st K w; exact ⟨0, st, rfl, w⟩
  | cons o r ih =>
    intro st K w
    obtain ⟨n, st1, h1, w⟩ := vOp_sound w
    obtain ⟨m, st2, h2, q⟩ := ih _ _ w
    refine ⟨max n m, st2, ?_, q⟩
    simp only [opsC, stepC_mono (runFn_mono n (max n m) (Nat.le_max_left _ _)) h1]
    exact opsC_mono (runFn_mono m (max n m) (Nat.le_max_right _ _)) _ h2
section
variable {E : Env} {fid : Nat} {st : St} {Q : Ex → St → Prop}
theorem Does.region {id : Nat} {ops : Array Oper} (hz : E.rgf fid id = []) (w : vOps E ops.toList ops.toList st fun st' => Q .normal st') : Does E fid (.region id ops false) st Q := by
  obtain ⟨n, st', h, q⟩ := vOps_sound _ _ _ w
  exact ⟨n, .normal, st', by simp only [execC, Bool.false_eq_true, if_false, h, hz, frzSlots], q⟩
theorem Does.skip (w : Q .normal st) : Does E fid .skip st Q := ⟨0, _, _, rfl, w⟩
theorem Does.label {l : Nat} (w : Q .normal st) : Does E fid (.label l) st Q := ⟨0, _, _, rfl, w⟩
theorem Does.exit {l : Nat} (w : Q (.exit l) st) : Does E fid (.exit l) st Q := ⟨0, _, _, rfl, w⟩
theorem Does.ret (w : Q .ret st) : Does E fid .ret st Q := ⟨0, _, _, rfl, w⟩
theorem Does.scope {b : Code} (w : Does E fid b st Q) : Does E fid (.scope b) st Q := by
  obtain ⟨n, x, st', h, q⟩ := w
  exact ⟨n, x, st', by simp only [execC, h], q⟩
/-- What is asked behind the first of two. -/
def thenX (K : St → Prop) (Q : Ex → St → Prop) : Ex → St → Prop
  | .normal, st => K st
  | x, st => Q x st
theorem Does.seq {a b : Code} (w : Does E fid a st (thenX (fun st' => Does E fid b st' Q) Q)) : Does E fid (.seq a b) st Q := by
  obtain ⟨n, x, st1, h1, q⟩ := w
  cases x with
  | normal =>
    obtain ⟨m, x, st2, h2, q⟩ := q
    refine ⟨max n m, x, st2, ?_, q⟩
    simp only [execC, execC_mono (runFn_mono n (max n m) (Nat.le_max_left _ _)) (Nat.le_max_left _ _) _ _ _ h1]
    exact execC_mono (runFn_mono m (max n m) (Nat.le_max_right _ _)) (Nat.le_max_right _ _) _ _ _ h2
  | exit i => exact ⟨n, _, st1, by simp only [execC, h1], q⟩
  | ret => exact ⟨n, _, st1, by simp only [execC, h1], q⟩
theorem Does.cond {c : Operand} {a b : Code} {t : Bool} (hc : evC E st.tm c = .bool t) (ha : t = true → Does E fid a st Q) (hb : t = false → Does E fid b st Q) : Does E fid (.cond c a b) st Q := by
  cases t with
  | true => obtain ⟨n, x, st', h, q⟩ := ha rfl; exact ⟨n, x, st', by simp only [execC, hc, h], q⟩
  | false => obtain ⟨n, x, st', h, q⟩ := hb rfl; exact ⟨n, x, st', by simp only [execC, hc, h], q⟩
def blockX (id : Nat) (Q : Ex → St → Prop) : Ex → St → Prop
  | .exit i, st => if i = id then Q .normal st else Q (.exit i) st
  | x, st => Q x st
theorem Does.block {id : Nat} {b : Code} (w : Does E fid b st (blockX id Q)) : Does E fid (.block id b) st Q := by
  obtain ⟨n, x, st', h, q⟩ := w
  cases x with
  | normal => exact ⟨n, .normal, st', by simp only [execC, h], q⟩
  | ret => exact ⟨n, .ret, st', by simp only [execC, h], q⟩
  | exit i =>
    simp only [blockX] at q
    by_cases hi : i = id
    · rw [if_pos hi] at q; exact ⟨n, .normal, st', by simp only [execC, h, if_pos hi], q⟩
    · rw [if_neg hi] at q; exact ⟨n, .exit i, st', by simp only [execC, h, if_neg hi], q⟩
/-- A loop: what holds ahead of each round, with a number that grows less. -/
theorem Does.loop {b : Code} (I : Nat → St → Prop) (n0 : Nat) (h0 : I n0 st) (hI : ∀ n st, I n st → Does E fid b st (thenX (fun st' => ∃ m, m < n ∧ I m st') Q)) : Does E fid (.loop b) st Q := by
  induction n0 using Nat.strongRecOn generalizing st with
  | _ n ih =>
    obtain ⟨k, x, st1, h1, q⟩ := hI n st h0
    have one : ∀ x st2 m, loopN (execC E fid (runFn E m) m b) m st1 = some (x, st2) → ∀ M, k ≤ M → m ≤ M → execC E fid (runFn E k) k b st = some (.normal, st1) → execC E fid (runFn E (M + 1)) (M + 1) (.loop b) st = some (x, st2) := by
      intro x st2 m h2 M hk hm he
      simp only [execC, loopN]
      rw [execC_mono (runFn_mono k (M + 1) (by omega)) (by omega) _ _ _ he]
      exact loopN_mono (fun s r hr => execC_mono (runFn_mono m (M + 1) (by omega)) (by omega) _ _ _ hr) m M _ _ hm h2
    cases x with
    | normal =>
      obtain ⟨m, hm, q⟩ := q
      obtain ⟨j, x, st2, h2, q⟩ := ih m hm q
      simp only [execC] at h2
      exact ⟨max k j + 1, x, st2, one x st2 j h2 (max k j) (Nat.le_max_left _ _) (Nat.le_max_right _ _) h1, q⟩
    | exit i => exact ⟨k + 1, .exit i, st1, by simp only [execC, loopN]; rw [execC_mono (runFn_mono k (k + 1) (by omega)) (by omega) _ _ _ h1], q⟩
    | ret => exact ⟨k + 1, .ret, st1, by simp only [execC, loopN]; rw [execC_mono (runFn_mono k (k + 1) (by omega)) (by omega) _ _ _ h1], q⟩
end
/-- What is asked behind a function's body. -/
def resX (E : Env) (rs : List ResultVar) (Q : CV → H → Prop) : Ex → St → Prop
  | .exit _, _ => False
  | _, st => ∃ vs, resC E st rs = some vs ∧ Q (oneOrTup vs) st.h
theorem Runs.of {E : Env} {k : Nat} {fn : Func} {body : Code} {args : List CV} {h : H} {Q : CV → H → Prop} (hf : E.P.funcs[k]? = some fn) (hb : fn.body = some body) (hok : E.okf k = true) (he : E.ent k = []) (hr : E.rtf k = false)
    (w : Does E k body ⟨args ++ List.replicate (fn.ntmps - args.length) (.tup []), h⟩ (resX E fn.results.toList Q)) : Runs E k args h Q := by
  obtain ⟨n, x, st', hx, q⟩ := w
  have fin : (x = .normal ∨ x = .ret) → resX E fn.results.toList Q x st' → Runs E k args h Q := by
    intro hxx q
    have q' : ∃ vs, resC E st' fn.results.toList = some vs ∧ Q (oneOrTup vs) st'.h := by rcases hxx with rfl | rfl <;> exact q
    obtain ⟨vs, hv, q⟩ := q'
    refine ⟨n + 1, oneOrTup vs, st'.h, ?_, q⟩
    simp only [runFn, hf, hb, hok, if_true, he, frzSlots]
    rcases hxx with rfl | rfl
    · simp only [hx, hv, hr]; rfl
    · simp only [hx, hv, hr]; rfl
  cases x with
  | normal => exact fin (.inl rfl) q
  | ret => exact fin (.inr rfl) q
  | exit i => exact q.elim
end Go.Cv
