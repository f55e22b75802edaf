/- One step of a region; lists of steps; slots that are taken to be never written again. -/
import Derived.Test.YtjlabjncojhjkaaDoorCv12
import Derived.LoopN
import Derived.Tactics
namespace Go.Cv
open Go

/-- What every piece of a run does to the numbers. -/
structure Grows (h h' : H) : Prop where
  nx : h.next ≤ h'.next
  wf : WFH h'
  no : ∀ i, i < h.next → h.get i = none → h'.get i = none
theorem Grows.refl {h : H} (wf : WFH h) : Grows h h := ⟨Nat.le_refl _, wf, fun _ _ q => q⟩
theorem Grows.trans {a b c : H} (x : Grows a b) (y : Grows b c) : Grows a c :=
  ⟨Nat.le_trans x.nx y.nx, y.wf, fun i hi hn => y.no i (Nat.lt_of_lt_of_le hi x.nx) (x.no i hi hn)⟩
theorem CM.grows {α : Type} (x : CM α) {h h' : H} {a : α} (hr : x.run h = some (a, h')) (wf : WFH h) : Grows h h' := by
  obtain ⟨a, b, c⟩ := CM.run_wf x hr wf
  exact ⟨a, b, c⟩
theorem Free.left {g : Gh} {a b c : Nat} (h : Free g a c) (hb : b ≤ c) : Free g a b := fun i h1 h2 => h i h1 (Nat.lt_of_lt_of_le h2 hb)
theorem Free.right {g g' : Gh} {h h' : H} {w w' : World} {c : Nat} (hf : Free g h.next c) (s : Step g h w g' h' w') : Free g' h'.next c := fun i h1 h2 => by
  cases Classical.em (g'.place i = g.place i) with
  | inl e => rw [e]; exact hf i (Nat.le_trans s.nx h1) h2
  | inr e => have := s.plc i e; omega

/-- A function's calls keep to what they say. -/
structure CallOK (E : Env) (call : CallF) : Prop where
  pre : ∀ k args h v h', call k args h = some (v, h') → WFH h → E.okf k = true ∧ Grows h h'
  run : ∀ k args h v h', call k args h = some (v, h') → WFH h → ∀ g w args', R g h w → GlobOK E g → TmpR g args args' → Free g h.next h'.next →
    Calls E.P k args' w fun e w' => ∃ g' v', e = .returned v' ∧ VR g' v v' ∧ Step g h w g' h' w'

def OOut (E : Env) (g : Gh) (h : H) (w : World) (a : Act) (o : Oper) (v : CV) (h' : H) : Prop :=
  ∀ (K : Act → World → Prop) (Q : Exit → Act → World → Prop), (∀ g' w' v', VR g' v v' → Step g h w g' h' w' → K (a.put o.dst v') w') → o.wp E.P a w K Q
theorem POut.oout {E : Env} {g : Gh} {h : H} {w : World} {a : Act} {o : Oper} {v : CV} {h' : H} (hp : POut E g h w a o v h') : OOut E g h w a o v h' := by
  intro K Q hK
  obtain ⟨g', w', v', hr, hv, hs⟩ := hp
  unfold Oper.wp
  rcases hr with hr | ⟨hr, rfl⟩
  · rw [hr]; exact hK _ _ _ hv hs
  · rw [hr]; exact hK _ _ _ hv hs
theorem okf_some {E : Env} (hE : E.OK) {k : Nat} (h : E.okf k = true) : ∃ fn b, E.P.funcs[k]? = some fn ∧ fn.body = some b ∧ (fn.name == "runtime.NumGoroutine") = false ∧ drawsOk b = true := by
  have := hE.fn k h
  unfold fnChk at this
  split at this
  · rename_i fn hf
    split at this
    · rename_i b hb
      simp only [Bool.and_eq_true] at this
      exact ⟨fn, b, hf, hb, by simpa [bne] using this.1, this.2⟩
    · cases this
  · cases this
theorem call_oout {E : Env} (hE : E.OK) {call : CallF} (hc : CallOK E call) {g : Gh} {h : H} {w : World} {a : Act} {o : Oper} {ev : Operand → CV} (hev : ∀ x, VR g (ev x) (a.eval x)) (hR : R g h w) (hG : GlobOK E g) (wf : WFH h)
    {k : Nat} {args : List CV} (hk : calleeC o ev = some (some (k, args))) {v : CV} {h' : H} (hr : call k args h = some (v, h')) (hf : Free g h.next h'.next) : OOut E g h w a o v h' := by
  intro K Q hK
  unfold calleeC at hk
  split at hk
  · rename_i f cargs ts ho
    split at hk
    · rename_i k' caps hfk
      simp only [Option.some.injEq, Prod.mk.injEq] at hk
      obtain ⟨rfl, rfl⟩ := hk
      have hv := hev f
      rw [hfk] at hv
      generalize hfe : a.eval f = fv at hv
      cases hv with
      | fn _ _ vs hl h2 =>
        obtain ⟨hok, _⟩ := hc.pre _ _ _ _ _ hr wf
        obtain ⟨fn, bd, hfn, hb, hnm, _⟩ := okf_some hE hok
        have hrun : (execOp a.eval o).run E.P w = .ok (.enter k' (cargs.map a.eval ++ vs)) w := by
          have hb' : fn.body ≠ none := fun e => by rw [e] at hb; cases hb
          have hnm' : fn.name ≠ "runtime.NumGoroutine" := by simpa using hnm
          simp [hb', hnm', execOp, ho, resolve, hfe, Deferred.ofValue, invoke, callFunc, hfn, Sem.run_bind, Sem.run_pure]
        have hargs : TmpR g (cargs.toList.map ev ++ caps) (cargs.map a.eval ++ vs) := by
          refine ⟨by simp [hl], fun i c u hc hu => ?_⟩
          by_cases hi : i < cargs.size
          · rw [List.getElem?_append_left (by simpa using hi)] at hc
            rw [Array.getElem?_append_left (by simpa using hi)] at hu
            simp [hi] at hc hu
            subst hc; subst hu
            exact hev _
          · rw [List.getElem?_append_right (by simp; omega)] at hc
            rw [Array.getElem?_append_right (by simp; omega)] at hu
            simp at hc hu
            exact h2 _ _ _ hc hu
        unfold Oper.wp
        rw [hrun, Oper.upon_enter]
        refine Calls.mono (hc.run _ _ _ _ _ hr wf g w _ hR hG hargs hf) (fun e w' he => ?_)
        obtain ⟨g', v', rfl, hv', hs⟩ := he
        exact hK _ _ _ hv' hs
    · simp at hk
  · simp at hk

/-! ### One step -/
structure Rel (E : Env) (g : Gh) (st : St) (a : Act) (w : World) : Prop where
  r : R g st.h w
  gl : GlobOK E g
  tm : TmpR g st.tm a.tmps
  df : a.defers = []
theorem Rel.next {E : Env} {g g' : Gh} {st : St} {a : Act} {w w' : World} (r : Rel E g st a w) {h' : H} (s : Step g st.h w g' h' w') (dst : Option Tmp) {v : CV} {v' : Value} (hv : VR g' v v') : Rel E g' ⟨putC dst v st.tm, h'⟩ (a.put dst v') w' :=
  ⟨s.r, r.gl.mono s.le, (r.tm.mono s.le).put dst hv, by rw [put_defers]; exact r.df⟩

def SOut (E : Env) (st st' : St) (go : (Act → World → Prop) → Act → World → Prop) : Prop :=
  ∀ g w a, Rel E g st a w → Free g st.h.next st'.h.next → ∀ K : Act → World → Prop, (∀ g' w' a', Step g st.h w g' st'.h w' → Rel E g' st' a' w' → K a' w') → go K a w

theorem stepC_sound {E : Env} (hE : E.OK) {call : CallF} (hc : CallOK E call) {ops : List Oper} {o : Oper} {st st' : St} (hs : stepC E call ops o st = some st') (wf : WFH st.h) :
    Grows st.h st'.h ∧ ∀ Q : Exit → Act → World → Prop, SOut E st st' fun K a w => if Region.wanted o (yielded ops.toArray a.tmps) then o.wp E.P a w K Q else K (a.put o.dst undef) w := by
  unfold stepC at hs
  split at hs
  · rename_i hw
    split at hs
    · rename_i k args hk
      split at hs
      · rename_i v h hr
        simp only [Option.some.injEq] at hs; subst hs
        refine ⟨(hc.pre _ _ _ _ _ hr wf).2, fun Q g w a rel hf K hK => ?_⟩
        simp only [wanted_sound rel.tm hw, if_true]
        exact call_oout hE hc (evC_sound rel.gl rel.tm) rel.r rel.gl wf hk hr hf K Q (fun g' w' v' hv s => hK g' w' _ s (rel.next s o.dst hv))
      · cases hs
    · cases hs
    · split at hs
      · rename_i v h hr
        simp only [Option.some.injEq] at hs; subst hs
        refine ⟨CM.grows _ hr wf, fun Q g w a rel hf K hK => ?_⟩
        simp only [wanted_sound rel.tm hw, if_true]
        exact (prim_sound hE (evC_sound rel.gl rel.tm) rel.r wf hr (fun i h1 h2 => hf i h1 h2)).oout K Q (fun g' w' v' hv s => hK g' w' _ s (rel.next s o.dst hv))
      · cases hs
  · rename_i hw
    simp only [Option.some.injEq] at hs; subst hs
    refine ⟨.refl wf, fun Q g w a rel hf K hK => ?_⟩
    simp only [wanted_sound rel.tm hw]
    exact hK g w _ (.refl rel.r wf) (rel.next (.refl rel.r wf) o.dst (.tup [] #[] rfl (by simp)))
  · cases hs

theorem opsC_sound {E : Env} (hE : E.OK) {call : CallF} (hc : CallOK E call) {ops : List Oper} {Q : Exit → Act → World → Prop} : ∀ (r : List Oper) {st st' : St}, opsC E call ops r st = some st' → WFH st.h →
    Grows st.h st'.h ∧ ∀ g w a, Rel E g st a w → Free g st.h.next st'.h.next → (∀ g' w' a', Step g st.h w g' st'.h w' → Rel E g' st' a' w' → Q .normal a' w') → wpList E.P ops.toArray Q r a w := by
  intro r
  induction r with
  | nil =>
    intro st st' hs wf
    simp only [opsC, Option.some.injEq] at hs; subst hs
    exact ⟨.refl wf, fun g w a rel _ hQ => wpList_nil (hQ g w a (.refl rel.r wf) rel)⟩
  | cons o r ih =>
    intro st st' hs wf
    simp only [opsC] at hs
    split at hs
    · rename_i st1 h1
      obtain ⟨gr1, k1⟩ := stepC_sound hE hc h1 wf
      obtain ⟨gr2, k2⟩ := ih hs gr1.wf
      refine ⟨gr1.trans gr2, fun g w a rel hf hQ => wpList_step fun K hK => ?_⟩
      refine k1 Q g w a rel (hf.left gr2.nx) K (fun g' w' a' s1 rel1 => hK a' w' ?_)
      exact k2 g' w' a' rel1 (hf.right s1) (fun g'' w'' a'' s2 rel2 => hQ g'' w'' a'' (s1.trans s2) rel2)
    · cases hs

/-! ### Slots -/
theorem frzL_grows {f : CV → H → Option (CV × H)} (hf : ∀ v h v' h', f v h = some (v', h') → WFH h → Grows h h') : ∀ (cs cs' : List CV) (h h' : H), frzL f cs h = some (cs', h') → WFH h → Grows h h' := by
  intro cs
  induction cs with
  | nil => intro cs' h h' hr wf; simp [frzL] at hr; obtain ⟨_, rfl⟩ := hr; exact .refl wf
  | cons c cs ih =>
    intro cs' h h' hr wf
    simp only [frzL] at hr
    split at hr
    · rename_i c1 h1 e1
      split at hr
      · rename_i c2 h2 e2
        simp at hr; obtain ⟨_, rfl⟩ := hr
        have g1 := hf _ _ _ _ e1 wf
        exact g1.trans (ih _ _ _ e2 g1.wf)
      · cases hr
    · cases hr
theorem frz_grows : ∀ n v h v' h', frz n v h = some (v', h') → WFH h → Grows h h'
  | 0, v, h, v', h', hr, _ => by simp [frz] at hr
  | n + 1, v, h, v', h', hr, wf => by
    have ih := frz_grows n
    unfold frz at hr
    split at hr
    · split at hr
      · simp at hr; obtain ⟨_, rfl⟩ := hr; exact .refl wf
      · split at hr
        · split at hr
          · split at hr
            · rename_i cs' h1 e1
              split at hr
              · rename_i hb
                simp at hr; obtain ⟨_, rfl⟩ := hr
                have g1 := frzL_grows (f := frz n) ih _ _ _ _ e1 wf
                have hob := beqO_eq hb
                refine g1.trans ⟨Nat.le_refl _, H.wf_put g1.wf (H.lt_next g1.wf hob) _, fun i hi hn => ?_⟩
                rw [H.get_put]
                split
                · rename_i e; subst e; rw [hob] at hn; cases hn
                · exact hn
              · cases hr
            · cases hr
          · cases hr
        · split at hr
          · simp at hr; obtain ⟨_, rfl⟩ := hr; exact .refl wf
          · cases hr
        · cases hr
    · split at hr
      · rename_i e1
        simp at hr; obtain ⟨_, rfl⟩ := hr
        exact frzL_grows (f := frz n) ih _ _ _ _ e1 wf
      · cases hr
    · split at hr
      · rename_i e1
        simp at hr; obtain ⟨_, rfl⟩ := hr
        exact frzL_grows (f := frz n) ih _ _ _ _ e1 wf
      · cases hr
    · simp at hr; obtain ⟨_, rfl⟩ := hr; exact .refl wf
theorem setIfInBounds_getD (vs : Array Value) (i : Nat) (v : Value) : vs.setIfInBounds i (vs.getD i v) = vs := by
  apply Array.ext_getElem?
  intro j
  rw [Array.getElem?_setIfInBounds]
  split
  · rename_i e; subst e
    split
    · rename_i hl; simp [hl]
    · rename_i hl; simp at hl; simp [hl]
  · rfl
theorem frzSlots_sound : ∀ (is : List Nat) (tm tm' : List CV) (h h' : H), frzSlots is tm h = some (tm', h') → WFH h →
    Grows h h' ∧ ∀ g w vs, R g h w → TmpR g tm vs → ∃ g', Step g h w g' h' w ∧ TmpR g' tm' vs := by
  intro is
  induction is with
  | nil => intro tm tm' h h' hr wf; simp [frzSlots] at hr; obtain ⟨rfl, rfl⟩ := hr; exact ⟨.refl wf, fun g w vs hR ht => ⟨g, .refl hR wf, ht⟩⟩
  | cons i is ih =>
    intro tm tm' h h' hr wf
    simp only [frzSlots] at hr
    split at hr
    · rename_i v h1 e1
      have g1 := frz_grows _ _ _ _ _ e1 wf
      obtain ⟨g2, k2⟩ := ih _ _ _ _ hr g1.wf
      refine ⟨g1.trans g2, fun g w vs hR ht => ?_⟩
      obtain ⟨g', s, _, hv⟩ := frz_sound frzDeep g h w _ _ _ hR wf e1
      have ht' : TmpR g' (tm.set i v) vs := by
        have := (ht.mono s.le).set i (hv _ (ht.getD i))
        rwa [setIfInBounds_getD] at this
      obtain ⟨g'', s2, ht2⟩ := k2 g' w vs s.r ht'
      exact ⟨g'', s.trans s2, ht2⟩
    · cases hr
end Go.Cv
