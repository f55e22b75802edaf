/- What the machine's operations do to related values: numbers, comparisons, conversions, slices. -/
import Derived.Test.YtjlabjncojhjkaaDoorCv5
namespace Go.Cv
open Go

theorem bytes_toList (l : List UInt8) : (⟨l.toArray⟩ : ByteArray).toList = l := by rw [ByteArray.toList_eq]

section
variable {P : Program} {w : World}
theorem intBin_sound {op : BinOp} {j k : IntKind} {x y : Int} {v : CV} (g : Gh) (t : Nat) (hk : isShift op = true ∨ j = k) (h : intBin op j x y = some v) :
    ∃ v', (binOp op t (.int j x) (.int k y)).run P w = .ok v' w ∧ VR g v v' := by
  cases op <;> simp only [isShift, Bool.false_eq_true, false_or, true_or] at hk <;> simp only [intBin] at h
  case quo =>
    subst hk
    split at h
    · cases h
    · rename_i h0
      cases h
      exact ⟨_, by simp [binOp, Op.intDiv, h0], .int _ _⟩
  case rem =>
    subst hk
    split at h
    · cases h
    · rename_i h0
      cases h
      exact ⟨_, by simp [binOp, Op.intDiv, h0], .int _ _⟩
  case shl =>
    split at h
    · cases h
    · rename_i h0
      cases h
      exact ⟨_, by simp [binOp, Op.shift, h0], .int _ _⟩
  case shr =>
    split at h
    · cases h
    · rename_i h0
      cases h
      exact ⟨_, by simp [binOp, Op.shift, h0], .int _ _⟩
  case eql => subst hk; cases h; exact ⟨_, by simp [binOp, Op.intCmp]; rfl, .bool _⟩
  case neq => subst hk; cases h; exact ⟨_, by simp [binOp, Op.intCmp]; rfl, .bool _⟩
  case lss => subst hk; cases h; exact ⟨_, by simp [binOp, Op.intCmp], .bool _⟩
  case leq => subst hk; cases h; exact ⟨_, by simp [binOp, Op.intCmp], .bool _⟩
  case gtr => subst hk; cases h; exact ⟨_, by simp [binOp, Op.intCmp], .bool _⟩
  case geq => subst hk; cases h; exact ⟨_, by simp [binOp, Op.intCmp], .bool _⟩
  case add => subst hk; cases h; exact ⟨_, by simp [binOp, Op.intArith], .int _ _⟩
  case sub => subst hk; cases h; exact ⟨_, by simp [binOp, Op.intArith], .int _ _⟩
  case mul => subst hk; cases h; exact ⟨_, by simp [binOp, Op.intArith], .int _ _⟩
  all_goals
    subst hk
    cases h
    refine ⟨_, ?_, .int _ _⟩
    simp only [binOp, ne_eq, not_true_eq_false, if_false, Op.intBits]
    rfl
theorem strBin_sound {op : BinOp} {x y : List UInt8} {v : CV} (g : Gh) (t : Nat) (h : strBin op x y = some v) :
    ∃ v', (binOp op t (.string ⟨x.toArray⟩) (.string ⟨y.toArray⟩)).run P w = .ok v' w ∧ VR g v v' := by
  cases op <;> simp only [strBin] at h
  case add =>
    split at h
    · rename_i hle
      cases h
      have hs : ∀ l : List UInt8, (⟨l.toArray⟩ : ByteArray).size = l.length := fun l => by simp [ByteArray.size]
      refine ⟨.string (⟨x.toArray⟩ ++ ⟨y.toArray⟩), ?_, ?_⟩
      · have e : IntKind.i64.max = 9223372036854775807 := by decide
        simp only [binOp, Op.stringOp, e, hs]
        rw [if_neg (by omega)]
        rfl
      · have : (⟨x.toArray⟩ ++ ⟨y.toArray⟩ : ByteArray) = ⟨(x ++ y).toArray⟩ := by
          apply ByteArray.ext
          simp
        rw [this]
        exact .str _
    · cases h
  all_goals first
    | (cases h; exact ⟨_, by simp [binOp, Op.stringOp], .bool _⟩)
    | cases h
end

/-! ### '==' -/
theorem cmpC_sound {P : Program} {w : World} {g : Gh} {k : TK} {t : Nat} {x y : CV} {x' y' : Value} {r : Bool} (hk : scalarK P t k = true) (hx : VR g x x') (hy : VR g y y') (h : cmpC k x y = some r) (d : Nat) :
    (Op.equalIn (d + 1) t x' y').run P w = .ok r w := by
  unfold cmpC at h
  split at h
  · cases hx; cases hy
    split at h
    · rename_i he; subst he
      cases h
      exact run_equalIn_int w d t _ _ _ _ (scalarK_int hk)
    · cases h
  · cases hx; cases hy
    cases h
    exact run_equalIn_bool w d t _ _ (scalarK_bool hk)
  · cases hx; cases hy
    cases h
    rw [run_equalIn_string w d t _ _ (scalarK_str hk), bytes_toList, bytes_toList]
  · cases h
theorem scalar_noagg {P : Program} {w : World} {t : Nat} {k : TK} (hk : scalarK P t k = true) : (isAgg t).run P w = .ok false w := by
  cases k with
  | int k => rw [isAgg_of (scalarK_int hk)]
  | bool => rw [isAgg_of (scalarK_bool hk)]
  | str => rw [isAgg_of (scalarK_str hk)]
  | _ => simp [scalarK] at hk
theorem flatF_sound {P : Program} {w : World} {g : Gh} {d : Nat} {xs ys : Array Value} : ∀ {fs : List Field} {ks : List TK} {i : Nat} {cx cy : List CV} {r : Bool}, flatF P fs ks i = true →
    VRL g cx (xs.toList.drop i) → VRL g cy (ys.toList.drop i) → cmpL ks cx cy = some r → (Op.eqFields (d + 1) xs ys fs).run P w = .ok r w
  | [], [], i, cx, cy, r, _, hx, hy, h => by
    cases cx <;> cases cy <;> simp [cmpL] at h
    subst h
    simp [Op.eqFields]
  | [], _ :: _, _, _, _, _, hf, _, _, _ => by simp [flatF] at hf
  | _ :: _, [], _, _, _, _, hf, _, _, _ => by simp [flatF] at hf
  | f :: fs, k :: ks, i, cx, cy, r, hf, hx, hy, h => by
    simp only [flatF, Bool.and_eq_true] at hf
    obtain ⟨⟨⟨h1, h2⟩, h3⟩, h4⟩ := hf
    cases cx with
    | nil => cases cy <;> simp [cmpL] at h
    | cons x cx =>
      cases cy with
      | nil => simp [cmpL] at h
      | cons y cy =>
        simp only [cmpL] at h
        split at h
        · rename_i p q hp hq
          have ho : f.offset = i := by simpa using h2
          have gx := hx.get (i := 0) (c := x) rfl
          have gy := hy.get (i := 0) (c := y) rfl
          obtain ⟨x', a1, _, a3⟩ := gx
          obtain ⟨y', b1, _, b3⟩ := gy
          rw [List.getElem?_drop, Nat.add_zero] at a1 b1
          have hxs : xs[i]? = some x' := by simpa using a1
          have hys : ys[i]? = some y' := by simpa using b1
          have px : (part f.type xs f.offset).run P w = .ok x' w := by simp [part, scalar_noagg h3, ho, hxs]
          have py : (part f.type ys f.offset).run P w = .ok y' w := by simp [part, scalar_noagg h3, ho, hys]
          have hn : f.name ≠ "_" := by simpa using h1
          simp only [Op.eqFields]
          rw [if_pos hn]
          simp only [Sem.run_bind, px, py, Result.andThen_ok, cmpC_sound (w := w) h3 a3 b3 hp d, Sem.run_ite]
          simp at h
          cases p
          · simp at h ⊢; subst h; rfl
          · simp only [Bool.not_true, Bool.false_eq_true, if_false]
            simp at h; subst h
            have dx : VRL g cx (xs.toList.drop (i + 1)) := by
              have := hx.drop 1
              simpa [List.drop_drop] using this
            have dy : VRL g cy (ys.toList.drop (i + 1)) := by
              have := hy.drop 1
              simpa [List.drop_drop] using this
            exact flatF_sound h4 dx dy hq
        · cases h
theorem TyOK.flat_struct {P : Program} {t : Nat} {ty : Ty} (hT : TyOK P t ty) {fs : List (Nat × Nat)} (hk : ty.kd = .struct fs) {ks : List TK} (hf : ty.flat = some ks) :
    ∃ F : Array Field, P.underlying t = some (.struct F) ∧ flatF P F.toList ks 0 = true ∧ P.stoodInHeld t = false ∧ P.eqGuardType P.depth t = false := by
  have := hT.flat
  simp only [flatChk, hf, hk] at this
  split at this
  · rename_i F hF
    simp only [Bool.and_eq_true, Bool.not_eq_true'] at this
    exact ⟨F, hF, this.1.1, this.1.2, this.2⟩
  · cases this
theorem eq_struct {P : Program} {w : World} {g : Gh} {t : Nat} {ty : Ty} (hT : TyOK P t ty) {fs : List (Nat × Nat)} (hk : ty.kd = .struct fs) {ks : List TK} (hf : ty.flat = some ks) {xs ys : List CV} {us vs : Array Value}
    (hx : VR g (.agg xs) (.agg us)) (hy : VR g (.agg ys) (.agg vs)) {r : Bool} (h : cmpL ks xs ys = some r) : (Op.equal t (.agg us) (.agg vs)).run P w = .ok r w := by
  obtain ⟨F, hF, h1, h2, h3⟩ := hT.flat_struct hk hf
  have hF' : P.fieldsOf t = F := by simp [Program.fieldsOf, hF]
  rw [show Op.equal t (.agg us) (.agg vs) = Op.equalIn (9999 + 1) t (.agg us) (.agg vs) from rfl]
  rw [run_equalIn_struct w 9999 t us vs (by rw [hF']; exact hF) h2, hF']
  exact flatF_sound (d := 9998) h1 (by simpa using VRL.of_agg hx) (by simpa using VRL.of_agg hy) h
theorem equal_at {P : Program} {w : World} {t : Nat} {x y : Value} {r : Bool} (h : ∀ d : Nat, (Op.equalIn (d + 1) t x y).run P w = .ok r w) : (Op.equal t x y).run P w = .ok r w := h 9999
theorem equal_nilptr {P : Program} {w : World} {t e : Nat} (hu : P.underlying t = some (.pointer e)) (b : Option Addr) : (Op.equal t (.pointer none) (.pointer b)).run P w = .ok b.isNone w :=
  equal_at fun d => by simp [Op.equalIn, run_underlying hu]
theorem equal_ptrnil {P : Program} {w : World} {t e : Nat} (hu : P.underlying t = some (.pointer e)) (a : Addr) : (Op.equal t (.pointer (some a)) (.pointer none)).run P w = .ok false w :=
  equal_at fun d => by simp [Op.equalIn, run_underlying hu]
theorem equal_nilslice {P : Program} {w : World} {t e : Nat} (hu : P.underlying t = some (.slice e)) (b : Option Addr) (n c m k : Nat) : (Op.equal t (.slice none m k) (.slice b n c)).run P w = .ok b.isNone w :=
  equal_at fun d => by simp [Op.equalIn, run_underlying hu]
theorem equal_slicenil {P : Program} {w : World} {t e : Nat} (hu : P.underlying t = some (.slice e)) (a : Addr) (n c m k : Nat) : (Op.equal t (.slice (some a) n c) (.slice none m k)).run P w = .ok false w :=
  equal_at fun d => by simp [Op.equalIn, run_underlying hu]
theorem equal_nilmap {P : Program} {w : World} {t k e : Nat} (hu : P.underlying t = some (.map k e)) (b : Option Nat) : (Op.equal t (.map none) (.map b)).run P w = .ok b.isNone w :=
  equal_at fun d => by simp [Op.equalIn, run_underlying hu]
theorem equal_mapnil {P : Program} {w : World} {t k e : Nat} (hu : P.underlying t = some (.map k e)) (a : Nat) : (Op.equal t (.map (some a)) (.map none)).run P w = .ok false w :=
  equal_at fun d => by simp [Op.equalIn, run_underlying hu]
/-- '==' of two values that are no numbers and no strings. -/
theorem eqBin_sound {P : Program} {w : World} {g : Gh} {t : Nat} {ty : Ty} (hT : TyOK P t ty) {x y : CV} {x' y' : Value} (hx : VR g x x') (hy : VR g y y') {r : Bool} (h : eqBin ty x y = some r) :
    (Op.equal t x' y').run P w = .ok r w ∧ (∀ op : BinOp, ∀ xo yo : Operand, (eqGuard op t xo yo x' y').run P w = .ok () w) ∧ (∀ op : BinOp, (op = .eql → (binOp op t x' y').run P w = .ok (.bool r) w) ∧ (op = .neq → (binOp op t x' y').run P w = .ok (.bool (!r)) w)) := by
  have fin : (Op.equal t x' y').run P w = .ok r w → (∀ j n, x' ≠ .int j n) → (∀ s, x' ≠ .string s) → (∀ k b, x' ≠ .float k b) → (∀ k b c, x' ≠ .complex k b c) → (x' = .nilIface → False) → ((∃ us, x' = .agg us) → P.eqGuardType P.depth t = false) →
      (Op.equal t x' y').run P w = .ok r w ∧ (∀ op : BinOp, ∀ xo yo : Operand, (eqGuard op t xo yo x' y').run P w = .ok () w) ∧ (∀ op : BinOp, (op = .eql → (binOp op t x' y').run P w = .ok (.bool r) w) ∧ (op = .neq → (binOp op t x' y').run P w = .ok (.bool (!r)) w)) := by
    intro he n1 n2 n3 n4 n5 n6
    refine ⟨he, fun op xo yo => ?_, fun op => ⟨fun e => ?_, fun e => ?_⟩⟩
    · cases x' <;> cases op <;> first
        | (simp [eqGuard]; done)
        | (exact (n5 rfl).elim)
        | (cases y' <;> simp [eqGuard, n6 ⟨_, rfl⟩]; done)
    · subst e
      cases x' <;> cases y' <;> first
        | (exact (n1 _ _ rfl).elim)
        | (exact (n2 _ rfl).elim)
        | (exact (n3 _ _ rfl).elim)
        | (exact (n4 _ _ _ rfl).elim)
        | (simp [binOp, he]; done)
    · subst e
      cases x' <;> cases y' <;> first
        | (exact (n1 _ _ rfl).elim)
        | (exact (n2 _ rfl).elim)
        | (exact (n3 _ _ rfl).elim)
        | (exact (n4 _ _ _ rfl).elim)
        | (simp [binOp, he]; done)
  unfold eqBin at h
  split at h
  · rename_i hk
    cases hx; cases hy
    cases h
    exact fin (run_equal_bool w t _ _ (hT.bool hk)) (by simp) (by simp) (by simp) (by simp) (by simp) (by simp)
  · rename_i fs xs ys hk
    split at h
    · rename_i ks hf
      cases x' with
      | agg us =>
        cases y' with
        | agg vs =>
          refine fin (eq_struct hT hk hf hx hy h) (by simp) (by simp) (by simp) (by simp) (by simp) (fun _ => ?_)
          obtain ⟨_, _, _, _, h4⟩ := hT.flat_struct hk hf
          exact h4
        | _ => cases hy
      | _ => cases hx
    · cases h
  · rename_i hk; cases hx; cases hy; cases h
    exact fin (equal_nilptr (hT.ptr hk) _) (by simp) (by simp) (by simp) (by simp) (by simp) (by simp)
  · rename_i hk; cases hx; cases hy; cases h
    exact fin (equal_nilptr (hT.ptr hk) _) (by simp) (by simp) (by simp) (by simp) (by simp) (by simp)
  · rename_i hk; cases hx; cases hy; cases h
    exact fin (equal_nilptr (hT.ptr hk) _) (by simp) (by simp) (by simp) (by simp) (by simp) (by simp)
  · rename_i hk; cases hx; cases hy; cases h
    exact fin (equal_ptrnil (hT.ptr hk) _) (by simp) (by simp) (by simp) (by simp) (by simp) (by simp)
  · rename_i hk; cases hx; cases hy; cases h
    exact fin (equal_ptrnil (hT.ptr hk) _) (by simp) (by simp) (by simp) (by simp) (by simp) (by simp)
  · rename_i hk; cases hx; cases hy; cases h
    exact fin (equal_nilslice (hT.slice hk) _ _ _ _ _) (by simp) (by simp) (by simp) (by simp) (by simp) (by simp)
  · rename_i hk; cases hx; cases hy; cases h
    exact fin (equal_slicenil (hT.slice hk) _ _ _ _ _) (by simp) (by simp) (by simp) (by simp) (by simp) (by simp)
  · rename_i hk; cases hx; cases hy; cases h
    exact fin (equal_nilslice (hT.slice hk) _ _ _ _ _) (by simp) (by simp) (by simp) (by simp) (by simp) (by simp)
  · rename_i hk; cases hx; cases hy; cases h
    exact fin (equal_slicenil (hT.slice hk) _ _ _ _ _) (by simp) (by simp) (by simp) (by simp) (by simp) (by simp)
  · rename_i hk; cases hx; cases hy; cases h
    exact fin (equal_nilslice (hT.slice hk) _ _ _ _ _) (by simp) (by simp) (by simp) (by simp) (by simp) (by simp)
  · rename_i hk; cases hx; cases hy; cases h
    exact fin (equal_nilmap (hT.map hk) _) (by simp) (by simp) (by simp) (by simp) (by simp) (by simp)
  · rename_i hk; cases hx; cases hy; cases h
    exact fin (equal_mapnil (hT.map hk) _) (by simp) (by simp) (by simp) (by simp) (by simp) (by simp)
  · rename_i hk; cases hx; cases hy; cases h
    exact fin (equal_nilmap (hT.map hk) _) (by simp) (by simp) (by simp) (by simp) (by simp) (by simp)
  · cases h

section
variable {E : Env} (hE : E.OK) {g : Gh} {h : H} {w : World} {a : Act} {o : Oper} {ev : Operand → CV} (hev : ∀ x, VR g (ev x) (a.eval x)) (hR : R g h w) (wf : WFH h) {v : CV} {h' : H}
include hE hev hR wf

omit hev hR wf in
theorem binC_sound {op : BinOp} {t : Nat} {x y : CV} {x' y' : Value} (hx : VR g x x') (hy : VR g y y') {v : CV} (h : binC E op t x y = some v) (xo yo : Operand) :
    ∃ v', (eqGuard op t xo yo x' y').run E.P w = .ok () w ∧ (binOp op t x' y').run E.P w = .ok v' w ∧ VR g v v' := by
  unfold binC at h
  split at h
  · cases hx; cases hy
    rename_i j a k b
    have hh : (isShift op = true ∨ j = k) ∧ intBin op j a b = some v := by
      split at h
      · rename_i hs; exact ⟨.inl hs, h⟩
      · split at h
        · rename_i hjk; exact ⟨.inr hjk, h⟩
        · cases h
    obtain ⟨v', h1, h2⟩ := intBin_sound (P := E.P) (w := w) g t hh.1 hh.2
    exact ⟨v', by cases op <;> simp [eqGuard], h1, h2⟩
  · cases hx; cases hy
    obtain ⟨v', h1, h2⟩ := strBin_sound (P := E.P) (w := w) g t h
    exact ⟨v', by cases op <;> simp [eqGuard], h1, h2⟩
  · split at h
    · rename_i ty hty
      split at h
      · cases he : eqBin ty x y with
        | none => simp [he] at h
        | some r =>
          simp [he] at h; subst h
          obtain ⟨_, h2, h3⟩ := eqBin_sound (w := w) (hE.ty t ty hty) hx hy he
          exact ⟨_, h2 _ _ _, (h3 .eql).1 rfl, .bool _⟩
      · cases he : eqBin ty x y with
        | none => simp [he] at h
        | some r =>
          simp [he] at h; subst h
          obtain ⟨_, h2, h3⟩ := eqBin_sound (w := w) (hE.ty t ty hty) hx hy he
          exact ⟨_, h2 _ _ _, (h3 .neq).2 rfl, .bool _⟩
      · cases h
    · cases h
theorem p_binOp {op : BinOp} {t u : Nat} {x y : Operand} (ho : o.op = .binOp op t x y u) (hr : (primC E o ev).run h = some (v, h')) : POut E g h w a o v h' := by
  simp only [primC, ho] at hr
  cases hb : binC E op t (ev x) (ev y) with
  | none => simp [hb, CM.ofO, CM.run] at hr
  | some r =>
    simp [hb, CM.ofO, CM.run] at hr
    obtain ⟨rfl, rfl⟩ := hr
    obtain ⟨v', h1, h2, h3⟩ := binC_sound (w := w) hE (hev x) (hev y) hb x y
    refine .val hR wf (v' := v') ?_ h3
    simp [execOp, ho, h1, h2]
omit hE in
theorem p_unOp {op : UnOp} {t : Nat} {x : Operand} (ho : o.op = .unOp op t x) (hr : (primC E o ev).run h = some (v, h')) : POut E g h w a o v h' := by
  simp only [primC, ho] at hr
  have hx := hev x
  generalize hax : a.eval x = ax at hx
  generalize hex : ev x = ex at hx hr
  cases hb : unC op ex with
  | none => simp [hb, CM.ofO, CM.run] at hr
  | some r =>
    simp [hb, CM.ofO, CM.run] at hr
    obtain ⟨rfl, rfl⟩ := hr
    unfold unC at hb
    split at hb
    · cases hx; cases hb
      exact .val hR wf (v' := .int _ _) (by simp [execOp, ho, hax, Op.unary, Op.intArith]) (.int _ _)
    · cases hx
      simp only [intBin] at hb
      cases hb
      refine .val hR wf (v' := .int _ _) ?_ (.int _ _)
      simp only [execOp, ho, hax, Op.unary, Op.intBits, Sem.run_bind]
      rfl
    · cases hx; cases hb
      exact .val hR wf (v' := .bool _) (by simp [execOp, ho, hax, Op.unary]) (.bool _)
    · cases hb
end
end Go.Cv
