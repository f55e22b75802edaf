/- What the machine's operations do to related values: maps. -/
import Derived.Test.YtjlabjncojhjkaaDoorCv8
namespace Go.Cv
open Go

theorem TyOK.flat_cases {P : Program} {t : Nat} {ty : Ty} (hT : TyOK P t ty) {ks : List TK} (hf : ty.flat = some ks) :
    (ty.agg = false ∧ ∃ k, ks = [k] ∧ scalarK P t k = true) ∨ (ty.agg = true ∧ ∃ fs, ty.kd = .struct fs) := by
  have := hT.flat
  simp only [flatChk, hf] at this
  have hkd := hT.kd
  unfold Ty.agg
  split at this
  · rename_i fs hk; rw [hk]; exact .inr ⟨rfl, fs, rfl⟩
  · rename_i k hk
    rw [hk] at hkd ⊢
    split at this
    · simp at this; subst this; exact .inl ⟨rfl, _, rfl, hkd⟩
    · cases this
  · rename_i hk
    rw [hk] at hkd ⊢
    split at this
    · exact .inl ⟨rfl, _, rfl, hkd⟩
    · cases this
  · rename_i hk
    rw [hk] at hkd ⊢
    split at this
    · exact .inl ⟨rfl, _, rfl, hkd⟩
    · cases this
  · cases this
theorem cmpC_true {k : TK} {x y : CV} (h : cmpC k x y = some true) : x = y := by
  unfold cmpC at h
  split at h
  · split at h
    · rename_i e; subst e; simp at h; rw [h]
    · cases h
  · simp at h; rw [h]
  · simp at h; rw [h]
  · cases h
theorem cmpL_true : ∀ {ks : List TK} {xs ys : List CV}, cmpL ks xs ys = some true → xs = ys
  | [], xs, ys, h => by cases xs <;> cases ys <;> simp [cmpL] at h; rfl
  | k :: ks, xs, ys, h => by
    cases xs <;> cases ys <;> simp only [cmpL] at h <;> try (cases h; done)
    split at h
    · rename_i x xs y ys a b ha hb
      simp at h
      obtain ⟨rfl, rfl⟩ := h
      rw [cmpC_true ha, cmpL_true hb]
    · cases h
/-- A scalar key: what the machine sees at once. -/
theorem sameNow_of {P : Program} {g : Gh} {t : Nat} {k : TK} {d : TypeDesc} (hd : P.underlying t = some d) (hk : scalarK P t k = true) {x y : CV} {x' y' : Value} (hx : VR g x x') (hy : VR g y y') {r : Bool} (h : cmpC k x y = some r) : Instr.sameNow d x' y' = some r := by
  unfold cmpC at h
  split at h
  · cases hx; cases hy
    split at h
    · rename_i e; subst e; cases h
      rw [scalarK_int hk] at hd; cases hd
      simp [Instr.sameNow]
    · cases h
  · cases hx; cases hy; cases h
    rw [scalarK_bool hk] at hd; cases hd
    simp [Instr.sameNow]
  · cases hx; cases hy; cases h
    rw [scalarK_str hk] at hd; cases hd
    simp only [Instr.sameNow, beq_toListBytes, bytes_toList]
  · cases h
theorem sameBits_of {g : Gh} {k : TK} {x : CV} {x' y' : Value} (hx : VR g x x') (hy : VR g x y') (h : cmpC k x x = some true) (n : Nat) : Instr.sameBits n x' y' = true := by
  unfold cmpC at h
  split at h
  · cases hx; cases hy; cases n <;> simp [Instr.sameBits]
  · cases hx; cases hy; cases n <;> simp [Instr.sameBits]
  · cases hx; cases hy; cases n <;> simp [Instr.sameBits, beq_toListBytes]
  · cases h
theorem sameBits_list {g : Gh} : ∀ {ks : List TK} {xs : List CV} {us vs : List Value}, VRL g xs us → VRL g xs vs → cmpL ks xs xs = some true → ((us.zip vs).all fun p => Instr.sameBits 9999 p.1 p.2) = true
  | _, [], us, vs, hu, hv, _ => by
    have := hu.1; cases us <;> simp at this; simp
  | [], _ :: _, _, _, _, _, h => by simp [cmpL] at h
  | k :: ks, x :: xs, us, vs, hu, hv, h => by
    have e1 := hu.1
    have e2 := hv.1
    cases us with
    | nil => simp at e1
    | cons u us =>
      cases vs with
      | nil => simp at e2
      | cons v vs =>
        simp only [cmpL] at h
        split at h
        · rename_i a b ha hb
          simp at h
          obtain ⟨rfl, rfl⟩ := h
          simp only [List.zip_cons_cons, List.all_cons, Bool.and_eq_true]
          exact ⟨sameBits_of hu.head.1 hv.head.1 ha _, sameBits_list hu.head.2.2 hv.head.2.2 hb⟩
        · cases h

/-- Two entries' lists. -/
def EntsR (g : Gh) (es : List (CV × CV)) (ents : List MapEntry) : Prop := es.length = ents.length ∧ ∀ (i : Nat) k v me, es[i]? = some (k, v) → ents[i]? = some me → VR g k me.key ∧ VR g v me.val
theorem EntsR.head {g : Gh} {k v : CV} {es : List (CV × CV)} {me : MapEntry} {ents : List MapEntry} (h : EntsR g ((k, v) :: es) (me :: ents)) : VR g k me.key ∧ VR g v me.val ∧ EntsR g es ents :=
  ⟨(h.2 0 k v me rfl rfl).1, (h.2 0 k v me rfl rfl).2, by simpa using h.1, fun i k v me p q => h.2 (i + 1) k v me (by simpa using p) (by simpa using q)⟩
def FindR (g : Gh) : Option (Nat × CV) → Option (Nat × Value) → Prop
  | none, none => True
  | some (i, v), some (j, u) => i = j ∧ VR g v u
  | _, _ => False
theorem findNow_sound {P : Program} {g : Gh} {t : Nat} {k : TK} {d : TypeDesc} (hd : P.underlying t = some d) (hk : scalarK P t k = true) {x : CV} {x' : Value} (hx : VR g x x') : ∀ {es : List (CV × CV)} {ents : List MapEntry} {i : Nat} {r : Option (Nat × CV)},
    EntsR g es ents → findC false [k] x es i = some r → ∃ r', Instr.findNow d x' ents i = some r' ∧ FindR g r r'
  | [], ents, i, r, he, h => by
    have := he.1
    simp [findC] at h; subst h
    cases ents <;> simp at this
    exact ⟨none, by simp [Instr.findNow], trivial⟩
  | (k', v) :: es, ents, i, r, he, h => by
    have := he.1
    cases ents with
    | nil => simp at this
    | cons me ents =>
      obtain ⟨h1, h2, h3⟩ := he.head
      simp only [findC, keyCells] at h
      split at h
      · rename_i hc
        cases h
        simp only [cmpL] at hc
        split at hc
        · rename_i p q hp hq
          simp at hc hq
          subst hq
          obtain ⟨rfl, _⟩ := hc
          exact ⟨some (i, me.val), by simp [Instr.findNow, sameNow_of hd hk hx h1 hp], rfl, h2⟩
        · cases hc
      · rename_i hc
        simp only [cmpL] at hc
        split at hc
        · rename_i p q hp hq
          simp at hc hq
          subst hq
          have hpf : p = false := by simpa using hc
          subst hpf
          obtain ⟨r', k1, k2⟩ := findNow_sound hd hk hx h3 h
          exact ⟨r', by simp [Instr.findNow, sameNow_of hd hk hx h1 hp, k1], k2⟩
        · cases hc
      · cases h
theorem findAsking_sound {P : Program} {w : World} {g : Gh} {t : Nat} {ty : Ty} (hT : TyOK P t ty) {fs : List (Nat × Nat)} (hk : ty.kd = .struct fs) {ks : List TK} (hf : ty.flat = some ks) {x : CV} {x' : Value} (hx : VR g x x') : ∀ {es : List (CV × CV)} {ents : List MapEntry} {i : Nat} {r : Option (Nat × CV)},
    EntsR g es ents → findC true ks x es i = some r → ∃ r', (Instr.findAsking t x' ents i).run P w = .ok r' w ∧ FindR g r r'
  | [], ents, i, r, he, h => by
    have := he.1
    simp [findC] at h; subst h
    cases ents <;> simp at this
    exact ⟨none, by simp [Instr.findAsking], trivial⟩
  | (k', v) :: es, ents, i, r, he, h => by
    have := he.1
    cases ents with
    | nil => simp at this
    | cons me ents =>
      obtain ⟨h1, h2, h3⟩ := he.head
      simp only [findC] at h
      split at h
      · rename_i aa bb ha hb
        have ea : x = .agg aa := by cases x <;> simp [keyCells] at ha; rw [ha]
        have eb : k' = .agg bb := by cases k' <;> simp [keyCells] at hb; rw [hb]
        have hx0 := hx
        rw [ea] at hx0
        rw [eb] at h1
        generalize hkey : me.key = mk at h1
        cases x' with
        | agg us =>
          cases mk with
          | agg vs =>
            split at h
            · rename_i hc
              cases h
              refine ⟨some (i, me.val), ?_, rfl, h2⟩
              simp [Instr.findAsking, hkey, eq_struct (w := w) hT hk hf hx0 h1 hc]
            · rename_i hc
              obtain ⟨r', k1, k2⟩ := findAsking_sound (w := w) hT hk hf hx h3 h
              exact ⟨r', by simp [Instr.findAsking, hkey, eq_struct (w := w) hT hk hf hx0 h1 hc, k1], k2⟩
            · cases h
          | _ => cases h1
        | _ => cases hx0
      · cases h
theorem findKey_sound {P : Program} {w : World} {g : Gh} {t : Nat} {ty : Ty} (hT : TyOK P t ty) {ks : List TK} (hf : ty.flat = some ks) {x : CV} {x' : Value} (hx : VR g x x') (hkc : keyC ty.agg ks x = true) {es : List (CV × CV)} {ents : List MapEntry} {r : Option (Nat × CV)}
    (he : EntsR g es ents) (h : findC ty.agg ks x es 0 = some r) : ∃ r', (Instr.findKey t x' ents).run P w = .ok r' w ∧ FindR g r r' := by
  rcases hT.flat_cases hf with ⟨ha, k, rfl, hk⟩ | ⟨ha, fs, hk⟩
  · rw [ha] at h
    obtain ⟨d, hd⟩ : ∃ d, P.underlying t = some d := by
      cases k with
      | int k => exact ⟨_, scalarK_int hk⟩
      | bool => exact ⟨_, scalarK_bool hk⟩
      | str => exact ⟨_, scalarK_str hk⟩
      | _ => simp [scalarK] at hk
    obtain ⟨r', k1, k2⟩ := findNow_sound hd hk hx he h
    exact ⟨r', by simp [Instr.findKey, run_underlying hd, k1], k2⟩
  · rw [ha] at h hkc
    obtain ⟨F, hF, _⟩ := hT.struct hk
    have hag : ∃ us, x' = .agg us := by
      unfold keyC at hkc
      split at hkc
      · rename_i cs hcs
        have : x = .agg cs := by cases x <;> simp [keyCells] at hcs; rw [hcs]
        rw [this] at hx
        cases x' with
        | agg us => exact ⟨us, rfl⟩
        | _ => cases hx
      · cases hkc
    obtain ⟨us, rfl⟩ := hag
    cases es with
    | nil =>
      have := he.1
      cases ents <;> simp at this
      simp [findC] at h; subst h
      exact ⟨none, by simp [Instr.findKey, run_underlying hF, Instr.findNow], trivial⟩
    | cons e es =>
      have hlen := he.1
      cases ents with
      | nil => simp at hlen
      | cons me ents =>
        obtain ⟨r', k1, k2⟩ := findAsking_sound (w := w) hT hk hf hx he h
        refine ⟨r', ?_, k2⟩
        have hnow : Instr.findNow (.struct F) (.agg us) (me :: ents) 0 = none := by simp [Instr.findNow, Instr.sameNow]
        simp [Instr.findKey, run_underlying hF, hnow, k1]
/-- A key's check passes. -/
theorem checkKey_scalar {P : Program} {w : World} {t : Nat} {k : TK} (hk : scalarK P t k = true) (b : Bool) (n : Nat) (v : Value) : (Instr.checkKey b (n + 1) t v).run P w = .ok () w := by
  cases k with
  | int k => simp [Instr.checkKey, run_underlying (scalarK_int hk)]
  | bool => simp [Instr.checkKey, run_underlying (scalarK_bool hk)]
  | str => simp [Instr.checkKey, run_underlying (scalarK_str hk)]
  | _ => simp [scalarK] at hk
theorem checkKey_fields {P : Program} {w : World} {b : Bool} {n : Nat} {us : Array Value} : ∀ {fs : List Field} {ks : List TK} {i : Nat}, flatF P fs ks i = true → i + fs.length ≤ us.size →
    (forIn (m := Sem) fs PUnit.unit fun f _ => if f.name ≠ "_" then (do Instr.checkKey b (n + 1) f.type (← part f.type us f.offset); pure (ForInStep.yield PUnit.unit)) else pure (ForInStep.yield PUnit.unit)).run P w = .ok PUnit.unit w
  | [], _, _, _, _ => by simp
  | f :: fs, [], _, h, _ => by simp [flatF] at h
  | f :: fs, k :: ks, i, h, hl => by
    simp only [flatF, Bool.and_eq_true] at h
    obtain ⟨⟨⟨h1, h2⟩, h3⟩, h4⟩ := h
    have ho : f.offset = i := by simpa using h2
    simp only [List.length_cons] at hl
    have hi : i < us.size := by omega
    have px : (part f.type us f.offset).run P w = .ok us[i] w := by simp [part, scalar_noagg h3, ho, hi]
    have hn : f.name ≠ "_" := by simpa using h1
    simp only [List.forIn_cons, Sem.run_bind]
    rw [if_pos hn]
    simp only [Sem.run_bind, px, Result.andThen_ok, checkKey_scalar h3, Sem.run_pure]
    exact checkKey_fields h4 (by omega)
theorem flatF_len {P : Program} : ∀ {fs : List Field} {ks : List TK} {i : Nat}, flatF P fs ks i = true → fs.length = ks.length
  | [], [], _, _ => rfl
  | [], _ :: _, _, h => by simp [flatF] at h
  | _ :: _, [], _, h => by simp [flatF] at h
  | f :: fs, k :: ks, i, h => by
    simp only [flatF, Bool.and_eq_true] at h
    simp [flatF_len h.2]
theorem cmpL_len : ∀ {ks : List TK} {xs ys : List CV}, (cmpL ks xs ys).isSome = true → ks.length = xs.length
  | [], xs, ys, h => by cases xs <;> cases ys <;> simp [cmpL] at h; rfl
  | k :: ks, xs, ys, h => by
    cases xs <;> cases ys <;> simp only [cmpL] at h <;> try (cases h; done)
    split at h
    · rename_i hb
      simp [cmpL_len (by rw [hb]; rfl)]
    · cases h
theorem checkKey_sound {P : Program} {w : World} {g : Gh} {t : Nat} {ty : Ty} (hT : TyOK P t ty) {ks : List TK} (hf : ty.flat = some ks) {x : CV} {x' : Value} (hx : VR g x x') (hkc : keyC ty.agg ks x = true) (b : Bool) : (Instr.checkKey b 10000 t x').run P w = .ok () w := by
  rcases hT.flat_cases hf with ⟨ha, k, rfl, hk⟩ | ⟨ha, fs, hk⟩
  · exact checkKey_scalar hk b 9999 x'
  · obtain ⟨F, hF, h1, _⟩ := hT.flat_struct hk hf
    rw [ha] at hkc
    unfold keyC at hkc
    split at hkc
    · rename_i cs hcs
      have : x = .agg cs := by cases x <;> simp [keyCells] at hcs; rw [hcs]
      subst this
      cases x' with
      | agg us =>
        have hl := (VRL.of_agg hx).1
        have e1 := cmpL_len hkc
        have e2 := flatF_len h1
        have key := checkKey_fields (w := w) (b := b) (n := 9998) (us := us) h1 (by simp at hl e2 ⊢; omega)
        rw [show (10000 : Nat) = 9999 + 1 from rfl]
        rw [Instr.checkKey]
        simp only [Sem.run_bind, run_underlying hF, Result.andThen_ok]
        rw [← Array.forIn_toList]
        rw [show (9999 : Nat) = 9998 + 1 from rfl]
        rw [key]
        simp
      | _ => cases hx
    · cases hkc
theorem MapR.ents {g : Gh} {w : World} {b : Nat} {es : List (CV × CV)} (h : MapR g w b es) : ∃ ents clock, w.heap[b]? = some (.map ents clock) ∧ EntsR g es ents.toList := by
  obtain ⟨ents, clock, h1, h2, h3⟩ := h
  exact ⟨ents, clock, h1, by simpa using h2.symm, fun i k v me p q => h3 i k v me p (by simpa using q)⟩
theorem findC_lt {ag : Bool} {ks : List TK} {x : CV} : ∀ {es : List (CV × CV)} {i j : Nat} {v : CV}, findC ag ks x es i = some (some (j, v)) → i ≤ j ∧ j < i + es.length ∧ ∃ k', es[j - i]? = some (k', v) ∧ (∃ a, keyCells ag x = some a ∧ keyCells ag k' = some a)
  | [], _, _, _, h => by simp [findC] at h
  | (k', v') :: es, i, j, v, h => by
    simp only [findC] at h
    split at h
    · rename_i a b ha hb
      split at h
      · rename_i hc
        simp at h; obtain ⟨rfl, rfl⟩ := h
        have := cmpL_true hc; subst this
        exact ⟨Nat.le_refl _, by simp, k', by simp, a, ha, hb⟩
      · obtain ⟨h1, h2, k2, h3, h4⟩ := findC_lt h
        refine ⟨by omega, by simp; omega, k2, ?_, h4⟩
        rw [show j - i = (j - (i + 1)) + 1 from by omega, List.getElem?_cons_succ]
        exact h3
      · cases h
    · cases h

section
variable {E : Env} (hE : E.OK) {g : Gh} {h : H} {w : World} {a : Act} {o : Oper} {ev : Operand → CV} (hev : ∀ x, VR g (ev x) (a.eval x)) (hR : R g h w) (wf : WFH h) {v : CV} {h' : H}
include hE hev hR wf

theorem p_lookup {t : Nat} {m k : Operand} {ok : Bool} (ho : o.op = .lookup t m k ok) (hr : (primC E o ev).run h = some (v, h')) : POut E g h w a o v h' := by
  simp only [primC, ho] at hr
  have hm := hev m
  have hk := hev k
  generalize ham : a.eval m = am at hm
  generalize hak : a.eval k = ak at hk
  generalize hek : ev k = ek at hk hr
  split at hr
  · rename_i kt et sz bts zc fl hty
    have hT := hE.ty t _ hty
    split at hr
    · rename_i tk te htk hte
      split at hr
      · rename_i ks hks
        have main : ∀ (es : List (CV × CV)) (ents : List MapEntry) (e : Bool), EntsR g es ents → lookC tk.agg ks te es ek ok = some v →
            ((am = .map none ∧ ents = []) ∨ ∃ b clock arr, am = .map (some b) ∧ w.heap[b]? = some (.map arr clock) ∧ arr.toList = ents) → POut E g h w a o v h := by
          intro es ents e he hl hes
          unfold lookC at hl
          split at hl
          · rename_i hkc
            split at hl
            · rename_i i u hfind
              obtain ⟨r', k1, k2⟩ := findKey_sound (w := w) (hE.ty kt tk htk) hks hk hkc he hfind
              cases r' with
              | none => exact k2.elim
              | some p =>
                obtain ⟨j, u'⟩ := p
                obtain ⟨rfl, hu⟩ := k2
                cases hl
                refine .val hR wf (v' := if ok then .tuple #[u', .bool true] else u') ?_ ?_
                · simp only [execOp, ho, Sem.run_bind, ham, hak, Instr.lookup, run_underlying (hT.map rfl), Result.andThen_ok]
                  rcases hes with ⟨rfl, rfl⟩ | ⟨b, clock, arr, rfl, hb, rfl⟩
                  · cases ok <;> simp [checkKey_sound (w := w) (hE.ty kt tk htk) hks hk hkc, k1]
                  · cases ok <;> simp [getObj, Sem.run, hb, checkKey_sound (w := w) (hE.ty kt tk htk) hks hk hkc, k1]
                · cases ok
                  · exact hu
                  · refine .tup _ _ rfl (fun i c x hc hx => ?_)
                    match i with
                    | 0 => simp at hc hx; subst hc; subst hx; exact hu
                    | 1 => simp at hc hx; subst hc; subst hx; exact .bool true
                    | i + 2 => simp at hc
            · rename_i hfind
              obtain ⟨r', k1, k2⟩ := findKey_sound (w := w) (hE.ty kt tk htk) hks hk hkc he hfind
              cases r' with
              | some p => exact k2.elim
              | none =>
                split at hl
                · rename_i z hz
                  cases hl
                  obtain ⟨z', hz1, hz2⟩ := (hE.ty et te hte).zeroV (w := w) hz g
                  refine .val hR wf (v' := if ok then .tuple #[z', .bool false] else z') ?_ ?_
                  · simp only [execOp, ho, Sem.run_bind, ham, hak, Instr.lookup, run_underlying (hT.map rfl), Result.andThen_ok]
                    rcases hes with ⟨rfl, rfl⟩ | ⟨b, clock, arr, rfl, hb, rfl⟩
                    · cases ok <;> simp [checkKey_sound (w := w) (hE.ty kt tk htk) hks hk hkc, k1, hz1]
                    · cases ok <;> simp [getObj, Sem.run, hb, checkKey_sound (w := w) (hE.ty kt tk htk) hks hk hkc, k1, hz1]
                  · cases ok
                    · exact hz2
                    · refine .tup _ _ rfl (fun i c x hc hx => ?_)
                      match i with
                      | 0 => simp at hc hx; subst hc; subst hx; exact hz2
                      | 1 => simp at hc hx; subst hc; subst hx; exact .bool false
                      | i + 2 => simp at hc
                · cases hl
            · cases hl
          · cases hl
        split at hr
        · rename_i hem
          rw [hem] at hm
          cases hl : lookC tk.agg ks te [] ek ok with
          | none => simp [hl, CM.ofO, CM.run] at hr
          | some u =>
            simp [hl, CM.ofO, CM.run] at hr
            obtain ⟨rfl, rfl⟩ := hr
            cases hm
            exact main [] [] true ⟨rfl, by simp⟩ hl (.inl ⟨rfl, rfl⟩)
        · rename_i id hem
          rw [hem] at hm
          simp only [CM.run] at hr
          split at hr
          · rename_i ob hob
            split at hr
            · rename_i es
              cases hl : lookC tk.agg ks te es ek ok with
              | none => simp [hl, CM.ofO, CM.run] at hr
              | some u =>
                simp [hl, CM.ofO, CM.run] at hr
                obtain ⟨rfl, rfl⟩ := hr
                cases hm with
                | map _ b x y hp =>
                  obtain ⟨b', x', y', hp', hmr⟩ := hR.ob id _ hob
                  rw [hp] at hp'; cases hp'
                  obtain ⟨ents, clock, e1, e2⟩ := hmr.ents
                  exact main es ents.toList true e2 hl (.inr ⟨b, clock, ents, rfl, e1, rfl⟩)
            · simp [CM.run] at hr
          · cases hr
        · simp [CM.run] at hr
      · simp [CM.run] at hr
    · simp [CM.run] at hr
  · simp [CM.run] at hr

omit hE hev hR wf in
theorem ins_sound {t kt et : Nat} {ty tk : Ty} (hT : TyOK E.P t ty) (hkd : ty.kd = .map kt et) (hK : TyOK E.P kt tk) {ks : List TK} (hks : tk.flat = some ks) (hR : R g h w) (wf : WFH h) {id : Nat} {es es' : List (CV × CV)} (hob : h.get id = some (.map es)) {k v : CV} {k' v' m' : Value} (hm : VR g (.map id) m') (hk : VR g k k') (hv : VR g v v')
    (hi : insC tk.agg ks es k v = some es') : ∃ w', (Instr.mapUpdate t m' k' v').run E.P w = .ok () w' ∧ Step g h w g (h.put id (.map es')) w' := by
  cases hm with
  | map _ b x y hp =>
    obtain ⟨b', x', y', hp', hmr⟩ := hR.ob id _ hob
    rw [hp] at hp'; cases hp'
    obtain ⟨ents, clock, e1, e2⟩ := hmr.ents
    have put : ∀ (ents' : Array MapEntry) (clock' : Nat), EntsR g es' ents'.toList → Step g h w g (h.put id (.map es')) { w with heap := w.heap.setIfInBounds b (.map ents' clock') } := by
      intro ents' clock' he'
      have hlt := lt_of_get e1
      refine Step.put hR wf hob rfl hp _ rfl rfl rfl rfl (by simp) (fun q hq hne => ?_) ⟨b, x, y, hp, ents', clock', ?_, by simpa using he'.1.symm, fun i k v me p q => he'.2 i k v me p (by simpa using q)⟩
      · simp [Ne.symm hne]
      · simp [hlt]
    unfold insC at hi
    split at hi
    · rename_i hkc
      have hck := checkKey_sound (w := w) hK hks hk hkc false
      split at hi
      · rename_i i u hfind
        obtain ⟨r', k1, k2⟩ := findKey_sound (w := w) hK hks hk hkc e2 hfind
        cases r' with
        | none => exact k2.elim
        | some p =>
          obtain ⟨j, u'⟩ := p
          obtain ⟨rfl, hu⟩ := k2
          cases hi
          obtain ⟨_, hlt, k0, hget, aa, ha1, ha2⟩ := findC_lt hfind
          simp at hlt hget
          have hlt' : i < ents.size := by have := e2.1; simp at this; omega
          have hkr := (e2.2 i k0 u ents[i] hget (by simp [hlt'])).1
          have hbits : Instr.sameBits 10000 ents[i].key k' = true := by
            unfold keyC at hkc
            rw [ha1] at hkc
            have hself : ∃ r, cmpL ks aa aa = some r := Option.isSome_iff_exists.1 hkc
            obtain ⟨r, hr⟩ := hself
            have hrt : ∀ {ks : List TK} {xs : List CV} {r : Bool}, cmpL ks xs xs = some r → r = true := by
              intro ks
              induction ks with
              | nil => intro xs r hh; cases xs <;> simp [cmpL] at hh; exact hh
              | cons q ks ih =>
                intro xs r hh
                cases xs with
                | nil => simp [cmpL] at hh
                | cons x xs =>
                  simp only [cmpL] at hh
                  split at hh
                  · rename_i p1 p2 q1 q2
                    have := ih q2
                    subst this
                    have : p1 = true := by
                      unfold cmpC at q1
                      split at q1
                      · simp at q1; exact q1
                      · simp at q1; exact q1
                      · simp at q1; exact q1
                      · cases q1
                    subst this
                    simp at hh; exact hh
                  · cases hh
            have := hrt hr; subst this
            rcases hK.flat_cases hks with ⟨hag, κ, rfl, hsc⟩ | ⟨hag, fs, hkd'⟩
            · rw [hag] at ha1 ha2
              simp [keyCells] at ha1 ha2
              subst ha1
              simp at ha2; subst ha2
              simp only [cmpL] at hr
              split at hr
              · rename_i p1 p2 q1 q2
                simp at q2 hr; subst q2
                have hp1 : p1 = true := by simpa using hr
                subst hp1
                exact sameBits_of hkr hk q1 10000
              · cases hr
            · rw [hag] at ha1 ha2
              have ek : k = .agg aa := by cases k <;> simp [keyCells] at ha1; rw [ha1]
              have ek0 : k0 = .agg aa := by cases k0 <;> simp [keyCells] at ha2; rw [ha2]
              subst ek; subst ek0
              generalize ents[i].key = mk at hkr
              cases mk with
              | agg us =>
                cases k' with
                | agg vs =>
                  have l1 := VRL.of_agg hkr
                  have l2 := VRL.of_agg hk
                  have hsz : us.size = vs.size := by have a1 := l1.1; have a2 := l2.1; simp at a1 a2; omega
                  have := sameBits_list l1 l2 hr
                  simp only [Instr.sameBits, Bool.and_eq_true]
                  exact ⟨by simp [hsz], this⟩
                | _ => cases hk
              | _ => cases hkr
          refine ⟨{ w with heap := w.heap.setIfInBounds b (.map (ents.modify i fun e => { e with key := k', val := v' }) clock) }, ?_, put _ _ ?_⟩
          · simp only [Instr.mapUpdate, Sem.run_bind, run_underlying (hT.map hkd), Result.andThen_ok]
            simp [getObj, setObj, Sem.run, e1, hck, k1, Instr.keyThatStays, hlt', hbits, Result.andThen]
          · refine ⟨by have := e2.1; simp at this ⊢; exact this, fun q kq vq me hq hme => ?_⟩
            simp only [Array.toList_modify] at hme
            rw [List.getElem?_modify] at hq hme
            by_cases hqi : i = q
            · subst hqi
              rw [hget] at hq
              have : ents.toList[i]? = some ents[i] := by simp [hlt']
              rw [this] at hme
              simp at hq hme
              obtain ⟨rfl, rfl⟩ := hq
              subst hme
              exact ⟨hk, hv⟩
            · simp [hqi] at hq hme
              exact e2.2 q kq vq me hq (by simpa using hme)
      · rename_i hfind
        obtain ⟨r', k1, k2⟩ := findKey_sound (w := w) hK hks hk hkc e2 hfind
        cases r' with
        | some p => exact k2.elim
        | none =>
          cases hi
          refine ⟨{ w with heap := w.heap.setIfInBounds b (.map (ents.push { key := k', val := v', born := clock }) (clock + 1)) }, ?_, put _ _ ?_⟩
          · simp only [Instr.mapUpdate, Sem.run_bind, run_underlying (hT.map hkd), Result.andThen_ok]
            simp [getObj, setObj, Sem.run, e1, hck, k1, Result.andThen]
          · have hlen := e2.1
            refine ⟨by simp at hlen ⊢; exact hlen, fun q kq vq me hq hme => ?_⟩
            simp only [Array.toList_push] at hme
            rw [List.getElem?_append] at hq hme
            rw [← hlen] at hme
            split at hq
            · rename_i hlt
              rw [if_pos hlt] at hme
              exact e2.2 q kq vq me hq hme
            · rename_i hge
              rw [if_neg hge] at hme
              cases hq0 : q - es.length with
              | zero => rw [hq0] at hq hme; simp at hq hme; obtain ⟨rfl, rfl⟩ := hq; subst hme; exact ⟨hk, hv⟩
              | succ n => rw [hq0] at hq; simp at hq
      · cases hi
    · cases hi

theorem p_mapUpdate {t : Nat} {m k x : Operand} (ho : o.op = .mapUpdate t m k x) (hr : (primC E o ev).run h = some (v, h')) : POut E g h w a o v h' := by
  simp only [primC, ho] at hr
  split at hr
  · rename_i kt et sz bts zc fl hty
    split at hr
    · rename_i tk htk
      split at hr
      · rename_i ks hks
        split at hr
        · rename_i id hem
          simp only [CM.run] at hr
          split at hr
          · rename_i ob hob
            split at hr
            · rename_i es
              split at hr
              · rename_i es' hes
                simp only [CM.run, hob, Option.some.injEq, Prod.mk.injEq] at hr
                obtain ⟨rfl, rfl⟩ := hr
                obtain ⟨w', h1, h2⟩ := ins_sound (hE.ty t _ hty) rfl (hE.ty kt tk htk) hks hR wf hob (hem ▸ hev m) (hev k) (hev x) hes
                exact ⟨g, w', undef, .inr ⟨by simp [execOp, ho, h1], rfl⟩, .tup [] #[] rfl (by simp), h2⟩
              · simp [CM.run] at hr
            · simp [CM.run] at hr
          · cases hr
        · simp [CM.run] at hr
      · simp [CM.run] at hr
    · simp [CM.run] at hr
  · simp [CM.run] at hr
theorem p_insert {t : Nat} {m k x : Operand} (ho : o.op = .insert t m k x) (hr : (primC E o ev).run h = some (v, h')) : POut E g h w a o v h' := by
  simp only [primC, ho] at hr
  split at hr
  · rename_i kt et sz bts zc fl hty
    split at hr
    · rename_i tk htk
      split at hr
      · rename_i ks hks
        split at hr
        · rename_i id hem
          simp only [CM.run] at hr
          split at hr
          · rename_i ob hob
            split at hr
            · rename_i es
              split at hr
              · rename_i es' hes
                simp only [CM.run, hob, Option.some.injEq, Prod.mk.injEq] at hr
                obtain ⟨rfl, rfl⟩ := hr
                obtain ⟨w', h1, h2⟩ := ins_sound (hE.ty t _ hty) rfl (hE.ty kt tk htk) hks hR wf hob (hem ▸ hev m) (hev k) (hev x) hes
                exact ⟨g, w', undef, .inr ⟨by simp [execOp, ho, h1], rfl⟩, .tup [] #[] rfl (by simp), h2⟩
              · simp [CM.run] at hr
            · simp [CM.run] at hr
          · cases hr
        · simp [CM.run] at hr
      · simp [CM.run] at hr
    · simp [CM.run] at hr
  · simp [CM.run] at hr
end
end Go.Cv
