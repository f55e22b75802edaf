/- Code and functions: what the semantics says is what the machine does. -/
import Derived.Test.YtjlabjncojhjkaaDoorCv14b
import Derived.Scope
namespace Go.Cv
open Go

def exOf : Ex → Exit
  | .normal => .normal
  | .exit i => .exit i
  | .ret => .ret
def CodeOut (E : Env) (st : St) (x : Ex) (st' : St) (c : Code) : Prop :=
  Grows st.h st'.h ∧ ∀ g w a, Rel E g st a w → Free g st.h.next st'.h.next → ∀ Q : Exit → Act → World → Prop, (∀ g' w' a', Step g st.h w g' st'.h w' → Rel E g' st' a' w' → Q (exOf x) a' w') → c.wp E.P Q a w
theorem loopN_sound {E : Env} {b : Code} {body : St → Option (Ex × St)} (hb : ∀ st x st', body st = some (x, st') → WFH st.h → CodeOut E st x st' b) : ∀ (n : Nat) (st : St) (x : Ex) (st' : St), loopN body n st = some (x, st') → WFH st.h →
    Grows st.h st'.h ∧ ∀ g w a, Rel E g st a w → Free g st.h.next st'.h.next → ∀ Q : Exit → Act → World → Prop, (∀ g' w' a', Step g st.h w g' st'.h w' → Rel E g' st' a' w' → Q (exOf x) a' w') → Code.rounds E.P b Q n a w := by
  intro n
  induction n with
  | zero => intro st x st' hr; simp [loopN] at hr
  | succ n ih =>
    intro st x st' hr wf
    simp only [loopN] at hr
    split at hr
    · rename_i st1 h1
      obtain ⟨g1, k1⟩ := hb _ _ _ h1 wf
      obtain ⟨g2, k2⟩ := ih _ _ _ hr g1.wf
      refine ⟨g1.trans g2, fun g w a rel hf Q hQ => ?_⟩
      refine k1 g w a rel (hf.left g2.nx) _ (fun g' w' a' s1 rel1 => ?_)
      exact k2 g' w' a' rel1 (hf.right s1) Q (fun g'' w'' a'' s2 rel2 => hQ g'' w'' a'' (s1.trans s2) rel2)
    · rename_i hne
      obtain ⟨g1, k1⟩ := hb _ _ _ hr wf
      refine ⟨g1, fun g w a rel hf Q hQ => k1 g w a rel hf _ (fun g' w' a' s rel' => ?_)⟩
      have := hQ g' w' a' s rel'
      cases x with
      | normal => exact absurd hr (hne st')
      | exit i => exact this
      | ret => exact this
theorem execC_sound {E : Env} (hE : E.OK) (hP : E.P.follows .mixedOrders = true) {call : CallF} (hc : CallOK E call) (fid n : Nat) : ∀ (c : Code) (st : St) (x : Ex) (st' : St), drawsOk c = true → execC E fid call n c st = some (x, st') → WFH st.h → CodeOut E st x st' c := by
  intro c
  induction c with
  | skip =>
    intro st x st' hdr hr wf
    simp only [execC, Option.some.injEq, Prod.mk.injEq] at hr
    obtain ⟨rfl, rfl⟩ := hr
    exact ⟨.refl wf, fun g w a rel _ Q hQ => wp_skip (hQ g w a (.refl rel.r wf) rel)⟩
  | label l =>
    intro st x st' hdr hr wf
    simp only [execC, Option.some.injEq, Prod.mk.injEq] at hr
    obtain ⟨rfl, rfl⟩ := hr
    exact ⟨.refl wf, fun g w a rel _ Q hQ => wp_label (hQ g w a (.refl rel.r wf) rel)⟩
  | region id ops dr =>
    intro st x st' hdr hr wf
    simp only [execC] at hr
    split at hr
    · rename_i st1 h1
      split at hr
      · rename_i tm h2 h3
        simp only [Option.some.injEq, Prod.mk.injEq] at hr
        obtain ⟨rfl, rfl⟩ := hr
        have main : Grows st.h st1.h ∧ ∀ g w a, Rel E g st a w → Free g st.h.next st1.h.next → ∀ Q : Exit → Act → World → Prop, (∀ g' w' a', Step g st.h w g' st1.h w' → Rel E g' st1 a' w' → Q .normal a' w') → (Code.region id ops dr).wp E.P Q a w := by
          cases dr with
          | true => exact drawC_sound hE hP hc (by simpa [drawsOk] using hdr) (by simpa using h1) wf
          | false =>
            have h1' : opsC E call ops.toList ops.toList st = some st1 := by simpa using h1
            refine ⟨(opsC_sound (Q := fun _ _ _ => True) hE hc _ h1' wf).1, fun g w a rel hf Q hQ => wp_region_list ?_⟩
            simpa using (opsC_sound (Q := Q) hE hc _ h1' wf).2 g w a rel hf hQ
        obtain ⟨g1, k1⟩ := main
        obtain ⟨g2, k2⟩ := frzSlots_sound _ _ _ _ _ h3 g1.wf
        refine ⟨g1.trans g2, fun g w a rel hf Q hQ => k1 g w a rel (hf.left g2.nx) Q (fun g' w' a' s1 rel1 => ?_)⟩
        obtain ⟨g'', s2, ht⟩ := k2 g' w' _ rel1.r rel1.tm
        exact hQ g'' w' a' (s1.trans s2) ⟨s2.r, rel1.gl.mono s2.le, ht, rel1.df⟩
      · cases hr
    · cases hr
  | seq p q ihp ihq =>
    intro st x st' hdr hr wf
    simp only [drawsOk, Bool.and_eq_true] at hdr
    simp only [execC] at hr
    split at hr
    · rename_i st1 h1
      obtain ⟨g1, k1⟩ := ihp _ _ _ hdr.1 h1 wf
      obtain ⟨g2, k2⟩ := ihq _ _ _ hdr.2 hr g1.wf
      refine ⟨g1.trans g2, fun g w a rel hf Q hQ => wp_seq ?_⟩
      refine k1 g w a rel (hf.left g2.nx) _ (fun g' w' a' s1 rel1 => ?_)
      exact k2 g' w' a' rel1 (hf.right s1) Q (fun g'' w'' a'' s2 rel2 => hQ g'' w'' a'' (s1.trans s2) rel2)
    · rename_i hne
      obtain ⟨g1, k1⟩ := ihp _ _ _ hdr.1 hr wf
      refine ⟨g1, fun g w a rel hf Q hQ => wp_seq (k1 g w a rel hf _ (fun g' w' a' s rel' => ?_))⟩
      have := hQ g' w' a' s rel'
      cases x with
      | normal => exact absurd hr (hne st')
      | exit i => exact this
      | ret => exact this
  | cond cc p q ihp ihq =>
    intro st x st' hdr hr wf
    simp only [drawsOk, Bool.and_eq_true] at hdr
    simp only [execC] at hr
    split at hr
    · rename_i hcv
      obtain ⟨g1, k1⟩ := ihp _ _ _ hdr.1 hr wf
      refine ⟨g1, fun g w a rel hf Q hQ => wp_cond_true ?_ (k1 g w a rel hf Q hQ)⟩
      have := evC_sound rel.gl rel.tm cc
      rw [hcv] at this
      generalize a.eval cc = y at this
      cases this; rfl
    · rename_i hcv
      obtain ⟨g1, k1⟩ := ihq _ _ _ hdr.2 hr wf
      refine ⟨g1, fun g w a rel hf Q hQ => wp_cond_false ?_ (k1 g w a rel hf Q hQ)⟩
      have := evC_sound rel.gl rel.tm cc
      rw [hcv] at this
      generalize a.eval cc = y at this
      cases this; rfl
    · cases hr
  | block id b ih =>
    intro st x st' hdr hr wf
    simp only [execC] at hr
    split at hr
    · rename_i i st1 h1
      obtain ⟨g1, k1⟩ := ih _ _ _ (by simpa [drawsOk] using hdr) h1 wf
      split at hr
      · rename_i he
        simp only [Option.some.injEq, Prod.mk.injEq] at hr
        obtain ⟨rfl, rfl⟩ := hr
        refine ⟨g1, fun g w a rel hf Q hQ => wp_block (k1 g w a rel hf _ (fun g' w' a' s rel' => ?_))⟩
        show (if i = id then Q .normal a' w' else Q (.exit i) a' w')
        rw [if_pos he]; exact hQ g' w' a' s rel'
      · rename_i he
        simp only [Option.some.injEq, Prod.mk.injEq] at hr
        obtain ⟨rfl, rfl⟩ := hr
        refine ⟨g1, fun g w a rel hf Q hQ => wp_block (k1 g w a rel hf _ (fun g' w' a' s rel' => ?_))⟩
        show (if i = id then Q .normal a' w' else Q (.exit i) a' w')
        rw [if_neg he]; exact hQ g' w' a' s rel'
    · rename_i hne
      obtain ⟨g1, k1⟩ := ih _ _ _ (by simpa [drawsOk] using hdr) hr wf
      refine ⟨g1, fun g w a rel hf Q hQ => wp_block (k1 g w a rel hf _ (fun g' w' a' s rel' => ?_))⟩
      have := hQ g' w' a' s rel'
      cases x with
      | normal => exact this
      | exit i => exact absurd hr (hne i st')
      | ret => exact this
  | loop b ih =>
    intro st x st' hdr hr wf
    simp only [execC] at hr
    obtain ⟨g1, k1⟩ := loopN_sound (fun st x st' h wf => ih st x st' (by simpa [drawsOk] using hdr) h wf) n st x st' hr wf
    exact ⟨g1, fun g w a rel hf Q hQ => wp_loop_rounds n (k1 g w a rel hf Q hQ)⟩
  | exit id =>
    intro st x st' hdr hr wf
    simp only [execC, Option.some.injEq, Prod.mk.injEq] at hr
    obtain ⟨rfl, rfl⟩ := hr
    exact ⟨.refl wf, fun g w a rel _ Q hQ => wp_exit (hQ g w a (.refl rel.r wf) rel)⟩
  | scope b ih =>
    intro st x st' hdr hr wf
    simp only [execC] at hr
    obtain ⟨g1, k1⟩ := ih _ _ _ (by simpa [drawsOk] using hdr) hr wf
    refine ⟨g1, fun g w a rel hf Q hQ => wp_scope_straight (k1 g w a rel hf _ (fun g' w' a' s rel' => ?_))⟩
    have := hQ g' w' a' s rel'
    cases x <;> exact this
  | ret =>
    intro st x st' hdr hr wf
    simp only [execC, Option.some.injEq, Prod.mk.injEq] at hr
    obtain ⟨rfl, rfl⟩ := hr
    exact ⟨.refl wf, fun g w a rel _ Q hQ => wp_ret (hQ g w a (.refl rel.r wf) rel)⟩
  | goto l => intro st x st' _ hr; simp [execC] at hr
  | refuse s => intro st x st' _ hr; simp [execC] at hr
  | rangeFunc f ps p q => intro st x st' _ hr; simp [execC] at hr

/-! ### Results -/
theorem results_list (P : Program) (w : World) (f : ResultVar → Sem Value) : ∀ (l : List ResultVar) (vs : List Value), l.length = vs.length → (∀ (i : Nat) r v, l[i]? = some r → vs[i]? = some v → (f r).run P w = .ok v w) → (l.mapM f).run P w = .ok vs w := by
  intro l
  induction l with
  | nil => intro vs hl _; cases vs <;> simp_all
  | cons r l ih =>
    intro vs hl h
    cases vs with
    | nil => simp at hl
    | cons v vs =>
      have h0 := h 0 r v rfl rfl
      have h1 := ih vs (by simpa using hl) (fun i r v p q => h (i + 1) r v (by simpa using p) (by simpa using q))
      simp [List.mapM_cons, Sem.run_bind, h0, h1]
theorem resC_sound {E : Env} (hE : E.OK) {g : Gh} {st : St} {a : Act} {w : World} (rel : Rel E g st a w) (_ : WFH st.h) : ∀ (l : List ResultVar) (cs : List CV), resC E st l = some cs →
    ∃ vs : List Value, l.length = vs.length ∧ cs.length = vs.length ∧ (∀ (i : Nat) c v, cs[i]? = some c → vs[i]? = some v → VR g c v) ∧
      ∀ (i : Nat) r v, l[i]? = some r → vs[i]? = some v → (match r with | .tmp t => (pure (a.tmps.getD t undef) : Sem Value) | .cell ad t => do loadVar t (← asAddr (a.tmps.getD ad undef))).run E.P w = .ok v w := by
  intro l
  induction l with
  | nil => intro cs hr; simp [resC] at hr; subst hr; exact ⟨[], rfl, rfl, by simp, by simp⟩
  | cons r l ih =>
    intro cs hr
    have glue : ∀ (c : CV) (v : Value) (cs' : List CV), resC E st l = some cs' → c :: cs' = cs → VR g c v → (match r with | .tmp t => (pure (a.tmps.getD t undef) : Sem Value) | .cell ad t => do loadVar t (← asAddr (a.tmps.getD ad undef))).run E.P w = .ok v w →
        ∃ vs : List Value, (r :: l).length = vs.length ∧ cs.length = vs.length ∧ (∀ (i : Nat) c v, cs[i]? = some c → vs[i]? = some v → VR g c v) ∧
      ∀ (i : Nat) r' v, (r :: l)[i]? = some r' → vs[i]? = some v → (match r' with | .tmp t => (pure (a.tmps.getD t undef) : Sem Value) | .cell ad t => do loadVar t (← asAddr (a.tmps.getD ad undef))).run E.P w = .ok v w := by
      intro c v cs' e1 e2 hv hrun
      subst e2
      obtain ⟨vs, p1, p2, p3, p4⟩ := ih cs' e1
      refine ⟨v :: vs, by simp [p1], by simp [p2], fun i c v hc hv' => ?_, fun i r v hc hv' => ?_⟩
      · cases i with
        | zero => simp at hc hv'; subst hc; subst hv'; exact hv
        | succ i => simp at hc hv'; exact p3 i c v hc hv'
      · cases i with
        | zero => simp at hc hv'; subst hc; subst hv'; exact hrun
        | succ i => simp at hc hv'; exact p4 i r v hc hv'
    cases r with
    | tmp t =>
      simp only [resC, Option.map_eq_some_iff] at hr
      obtain ⟨cs', e1, e2⟩ := hr
      exact glue _ _ cs' e1 e2 (rel.tm.getD t) (by simp [Sem.run_pure])
    | cell ad t =>
      simp only [resC] at hr
      split at hr
      · rename_i ty hty
        split at hr
        · rename_i v hv
          simp only [Option.map_eq_some_iff] at hr
          obtain ⟨cs', e1, e2⟩ := hr
          have hvr := rel.tm.getD ad
          split at hv
          · rename_i id off hpt
            rw [hpt] at hvr
            generalize hx : a.tmps.getD ad undef = x at hvr
            cases hvr with
            | ptr _ _ b base lim hp =>
              split at hv
              · rename_i cs0 hob
                obtain ⟨v', hl, hvv⟩ := ld_sound (hE.ty t ty hty) (CellsAt.of_obj rel.r hob (.inl rfl) hp) hv
                exact glue _ v' cs' e1 e2 hvv (by simp [hx, asAddr, hl])
              · rename_i cs0 hob
                obtain ⟨v', hl, hvv⟩ := ld_sound (hE.ty t ty hty) (CellsAt.of_obj rel.r hob (.inr rfl) hp) hv
                exact glue _ v' cs' e1 e2 hvv (by simp [hx, asAddr, hl])
              · cases hv
          · rename_i cs0 off hpt
            rw [hpt] at hvr
            generalize hx : a.tmps.getD ad undef = x at hvr
            cases hvr with
            | iptr _ _ b o val q1 q2 =>
              obtain ⟨v', hl, hvv⟩ := ld_sound (hE.ty t ty hty) (CellsAt.of_iptr rel.r q1 q2) hv
              exact glue _ v' cs' e1 e2 hvv (by simp [hx, asAddr, hl])
          · cases hv
        · cases hr
      · cases hr
theorem results_sound {E : Env} (hE : E.OK) {g : Gh} {st : St} {a : Act} {w : World} (rel : Rel E g st a w) (wf : WFH st.h) (fn : Func) {cs : List CV} (hr : resC E st fn.results.toList = some cs) :
    ∃ v, (results fn a.tmps).run E.P w = .ok v w ∧ VR g (oneOrTup cs) v := by
  obtain ⟨vs, h1, h2, h3, h4⟩ := resC_sound hE rel wf _ _ hr
  have hm := results_list E.P w (fun r => match r with | .tmp t => (pure (a.tmps.getD t undef) : Sem Value) | .cell ad t => do loadVar t (← asAddr (a.tmps.getD ad undef))) fn.results.toList vs h1 h4
  have hrun : (results fn a.tmps).run E.P w = .ok (if h : vs.toArray.size = 1 then vs.toArray[0] else .tuple vs.toArray) w := by
    unfold results
    rw [Array.mapM_eq_mapM_toList]
    simp only [Sem.run_bind, Sem.run_map]
    have glue : ∀ X : Result (List Value), X = .ok vs w → ((X.andThen fun a w' => Result.ok a.toArray w').andThen fun a w' => Sem.run E.P (pure (if h : a.size = 1 then a[0] else Value.tuple a)) w') = .ok (if h : vs.toArray.size = 1 then vs.toArray[0] else .tuple vs.toArray) w := by
      intro X hX; subst hX; rfl
    exact glue _ hm
  refine ⟨_, hrun, ?_⟩
  match cs, vs, h2, h3 with
  | [], [], _, _ => exact .tup [] #[] rfl (by simp)
  | [c], [v], _, h3 => exact h3 0 c v rfl rfl
  | c :: c' :: cs, v :: v' :: vs, h2, h3 =>
    simp only [oneOrTup]
    rw [dif_neg (by simp)]
    exact .tup _ _ (by simpa using h2) (fun i c v p q => h3 i c v p (by simpa using q))

theorem runFn_sound {E : Env} (hE : E.OK) (hP : E.P.follows .mixedOrders = true) : ∀ n, CallOK E (runFn E n) := by
  intro n
  induction n with
  | zero => exact ⟨fun _ _ _ _ _ hr => by simp [runFn] at hr, fun _ _ _ _ _ hr => by simp [runFn] at hr⟩
  | succ n ih =>
    have main : ∀ k args h v h', runFn E (n + 1) k args h = some (v, h') → WFH h → (E.okf k = true ∧ Grows h h') ∧ ∀ g w args', R g h w → GlobOK E g → TmpR g args args' → Free g h.next h'.next →
        Calls E.P k args' w fun e w' => ∃ g' v', e = .returned v' ∧ VR g' v v' ∧ Step g h w g' h' w' := by
      intro k args h v h' hr wf
      simp only [runFn] at hr
      split at hr
      · cases hr
      rename_i fn hfn
      split at hr
      · cases hr
      rename_i body hbody
      split at hr
      case isFalse => cases hr
      rename_i hok
      have hdr : drawsOk body = true := by
        obtain ⟨fn', b', q1, q2, _, q4⟩ := okf_some hE hok
        rw [hfn] at q1; cases q1
        rw [hbody] at q2; cases q2
        exact q4
      split at hr
      · cases hr
      rename_i tm h1 he
      obtain ⟨g1, k1⟩ := frzSlots_sound _ _ _ _ _ he wf
      have fin : ∀ (x : Ex) (st : St), x = .normal ∨ x = .ret → execC E k (runFn E n) n body ⟨tm, h1⟩ = some (x, st) →
          (match resC E st fn.results.toList with | some vs => if E.rtf k then frz frzDeep (oneOrTup vs) st.h else some (oneOrTup vs, st.h) | none => none) = some (v, h') →
          (E.okf k = true ∧ Grows h h') ∧ ∀ g w args', R g h w → GlobOK E g → TmpR g args args' → Free g h.next h'.next →
          Calls E.P k args' w fun e w' => ∃ g' v', e = .returned v' ∧ VR g' v v' ∧ Step g h w g' h' w' := by
        intro x st hx hex hres
        obtain ⟨g2, k2⟩ := execC_sound hE hP ih k n body _ _ _ hdr hex g1.wf
        split at hres
        case h_2 => cases hres
        rename_i vs hvs
        have last : Grows st.h h' ∧ ∀ g w x, R g st.h w → VR g (oneOrTup vs) x → ∃ g', Step g st.h w g' h' w ∧ VR g' v x := by
          split at hres
          · refine ⟨frz_grows _ _ _ _ _ hres g2.wf, fun g w x hR hx => ?_⟩
            obtain ⟨g', s, _, hv⟩ := frz_sound frzDeep g st.h w _ _ _ hR g2.wf hres
            exact ⟨g', s, hv x hx⟩
          · simp only [Option.some.injEq, Prod.mk.injEq] at hres
            obtain ⟨rfl, rfl⟩ := hres
            exact ⟨.refl g2.wf, fun g w x hR hx => ⟨g, .refl hR g2.wf, hx⟩⟩
        obtain ⟨g3, k3⟩ := last
        refine ⟨⟨hok, (g1.trans g2).trans g3⟩, fun g w args' hR hG ht hf => ?_⟩
        refine calls_of_wp hfn hbody ?_
        have ht0 : TmpR g (args ++ List.replicate (fn.ntmps - args.length) (.tup [])) (args' ++ Array.replicate (fn.ntmps - args'.size) undef) := by
          refine ⟨by simp [ht.1], fun i c u hc hu => ?_⟩
          by_cases hi : i < args.length
          · rw [List.getElem?_append_left hi] at hc
            rw [Array.getElem?_append_left (by rw [← ht.1]; exact hi)] at hu
            exact ht.2 i c u hc hu
          · rw [List.getElem?_append_right (by omega)] at hc
            rw [Array.getElem?_append_right (by rw [← ht.1]; omega)] at hu
            rw [List.getElem?_replicate] at hc
            rw [Array.getElem?_replicate] at hu
            split at hc
            · cases hc
              split at hu
              · cases hu; exact .tup [] #[] rfl (by simp)
              · cases hu
            · cases hc
        obtain ⟨ga, s1, ht1⟩ := k1 g w _ hR ht0
        have hf1 : Free g h.next h1.next := hf.left (Nat.le_trans g2.nx g3.nx)
        have hfa : Free ga h1.next st.h.next := (hf.left g3.nx).right s1
        refine k2 ga w _ ⟨s1.r, hG.mono s1.le, ht1, rfl⟩ hfa _ (fun g' w' a' s2 rel => ?_)
        obtain ⟨u, hu, hvu⟩ := results_sound hE rel g2.wf fn hvs
        obtain ⟨gz, s3, hvz⟩ := k3 g' w' u rel.r hvu
        have done : a'.defers = [] ∧ ∃ v', (results fn a'.tmps).run E.P w' = .ok v' w' ∧ ∃ g'' v'', Ending.returned v' = .returned v'' ∧ VR g'' v v'' ∧ Step g h w g'' h' w' :=
          ⟨rel.df, u, hu, gz, u, rfl, hvz, (s1.trans s2).trans s3⟩
        rcases hx with rfl | rfl
        · exact done
        · exact done
      split at hr
      · rename_i st hex; exact fin _ _ (.inl rfl) hex hr
      · rename_i st hex; exact fin _ _ (.inr rfl) hex hr
      · cases hr
    exact ⟨fun k args h v h' hr wf => (main k args h v h' hr wf).1, fun k args h v h' hr wf => (main k args h v h' hr wf).2⟩
end Go.Cv
