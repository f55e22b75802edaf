/- What an operation looks at. -/
import Derived.Test.YtjlabjncojhjkaaDoorCv13
namespace Go.Cv
open Go

theorem primC_congr (E : Env) (o : Oper) {ev ev' : Operand → CV} (h : ∀ x ∈ o.op.operands, ev x = ev' x) : primC E o ev = primC E o ev' := by
  obtain ⟨dst, op, type, pos, after, guard⟩ := o
  have pairs : ∀ ps : Array (Nat × Operand), (∀ x ∈ ps.map (·.2), ev x = ev' x) → (ps.toList.map fun p => (p.1, ev p.2)) = (ps.toList.map fun p => (p.1, ev' p.2)) := fun ps hp =>
    List.map_congr_left fun p hm => by
      obtain ⟨i, x⟩ := p
      simp only [hp x (Array.mem_map.2 ⟨(i, x), by simpa using hm, rfl⟩)]
  cases op <;> simp only [Op.operands] at h
  case build t ps => simp only [primC]; simp only [pairs ps fun x hx => h x (by simpa using hx)]
  case buildSlice t n ps => simp only [primC]; simp only [pairs ps fun x hx => h x (by simpa using hx)]
  case makeFunc fn first captured =>
    have h1 : first.toList.map ev = first.toList.map ev' := List.map_congr_left fun x hx => h x (by simp at hx; simp [hx])
    have h2 : captured.toList.map ev = captured.toList.map ev' := List.map_congr_left fun x hx => h x (by simp at hx; simp [hx])
    cases fn <;> simp only [primC, h2]
  case call c =>
    obtain ⟨callee, args, ts⟩ := c
    have h1 : args.toList.map ev = args.toList.map ev' := List.map_congr_left fun x hx => h x (by simp at hx; simp [Call.operands, hx])
    cases callee with
    | builtin b => cases b <;> simp only [primC, h1]
    | _ => simp only [primC]
  case makeMap t r => cases r <;> simp only [primC]
  case slice t x lo hi mx => cases lo <;> cases hi <;> cases mx <;> simp_all [primC]
  all_goals (first | rfl | (simp only [primC]; simp_all; done) | skip)
theorem calleeC_congr (o : Oper) {ev ev' : Operand → CV} (h : ∀ x ∈ o.op.operands, ev x = ev' x) : calleeC o ev = calleeC o ev' := by
  obtain ⟨dst, op, type, pos, after, guard⟩ := o
  cases op <;> simp only [calleeC]
  case call c =>
    obtain ⟨callee, args, ts⟩ := c
    simp only [Op.operands] at h
    have h1 : args.toList.map ev = args.toList.map ev' := List.map_congr_left fun x hx => h x (by simp at hx; simp [Call.operands, hx])
    cases callee with
    | value f =>
      have h2 : ev f = ev' f := h f (by simp [Call.operands])
      simp only [h1, h2]
    | _ => rfl

/-- The temporaries that an operation looks at; the others are nothing. -/
def maskC (l : List Tmp) (tm : List CV) : List CV := tm.mapIdx fun i c => if l.contains i then c else .undef
theorem maskC_get (l : List Tmp) (tm : List CV) (i : Nat) : (maskC l tm)[i]? = (tm[i]?).map fun c => if l.contains i then c else .undef := by
  simp [maskC, List.getElem?_mapIdx]
theorem maskC_in {l : List Tmp} {i : Nat} (hi : i ∈ l) (tm : List CV) : (maskC l tm)[i]? = tm[i]? := by
  rw [maskC_get]
  cases tm[i]? <;> simp [hi]
theorem evC_mask (E : Env) (ops : List Oper) (o : Oper) (tm : List CV) : ∀ x ∈ o.op.operands, evC E (maskC (o.looksAt ops.toArray) tm) x = evC E tm x := by
  intro x hx
  cases x with
  | tmp t =>
    have : t ∈ o.looksAt ops.toArray := List.mem_append_left _ (List.mem_filterMap.2 ⟨.tmp t, by simpa using hx, rfl⟩)
    simp only [evC, List.getD_eq_getElem?_getD, maskC_in this]
  | _ => rfl
theorem wantedC_mask (ops : List Oper) (o : Oper) (tm : List CV) : wantedC ops o (maskC (o.looksAt ops.toArray) tm) = wantedC ops o tm := by
  unfold wantedC
  cases hg : o.guard with
  | none => rfl
  | some p =>
    obtain ⟨j, want⟩ := p
    simp only
    cases hj : ops[j]? with
    | none => rfl
    | some gd =>
      simp only
      cases hd : gd.dst with
      | none => rfl
      | some d =>
        have : d ∈ o.looksAt ops.toArray := List.mem_append_right _ (by simp [hg, hj, hd])
        simp only [maskC_in this]

/-! ### Heaps by their contents -/
theorem exists_H (f : Nat → Option CObj) (next : Nat) : ∀ N, ∃ h : H, h.next = next ∧ ∀ i, h.get i = if i < N then f i else none := by
  intro N
  induction N with
  | zero => exact ⟨⟨next, .leaf⟩, rfl, fun i => by simp [H.get, Tr.get]⟩
  | succ N ih =>
    obtain ⟨h, h1, h2⟩ := ih
    refine ⟨h.setO N (f N), h1, fun i => ?_⟩
    rw [H.get_setO, h2]
    by_cases e : i = N
    · subst e; simp
    · rw [if_neg e]
      by_cases hi : i < N
      · rw [if_pos hi, if_pos (by omega)]
      · rw [if_neg hi, if_neg (by omega)]
theorem hideL_next : ∀ (l : List Nat) (h : H), (hideL l h).next = h.next
  | [], h => rfl
  | i :: l, h => by rw [hideL, hideL_next l]; rfl
theorem hideL_get : ∀ (l : List Nat) (h : H) (i : Nat), (hideL l h).get i = if i ∈ l then none else h.get i
  | [], h, i => by simp [hideL]
  | j :: l, h, i => by
    rw [hideL, hideL_get l, H.get_del]
    by_cases hl : i ∈ l
    · simp [hl]
    · by_cases e : i = j <;> simp [hl, e]
theorem restL_next (old : H) : ∀ (l : List Nat) (h : H), (restL old l h).next = h.next
  | [], h => rfl
  | i :: l, h => by rw [restL, restL_next old l]; rfl
theorem restL_get (old : H) : ∀ (l : List Nat) (h : H) (i : Nat), (restL old l h).get i = if i ∈ l then old.get i else h.get i
  | [], h, i => by simp [restL]
  | j :: l, h, i => by
    rw [restL, restL_get old l, H.get_setO]
    by_cases hl : i ∈ l
    · simp [hl]
    · by_cases e : i = j
      · subst e; simp
      · simp [hl, e]

/-! ### What a step of a drawn region touches -/
def Tch.Wr (t : Tch) (i : Nat) : Prop := match t.call with | none => i ∈ t.wr ∨ i ∈ t.al | some p => p.1.get i ≠ p.2.get i
def Tch.Vw (t : Tch) (hid : List Nat) (i : Nat) : Prop := match t.call with | none => i ∈ t.rd ∨ i ∈ t.wr | some p => p.1.get i ≠ none ∧ i ∉ hid
/-- A step's own part of the heap, and what it does there. -/
structure Loc (E : Env) (ops : List Oper) (o : Oper) (hid : List Nat) (st st' : St) (t : Tch) (k k' : H) (v : CV) : Prop where
  tm : st'.tm = putC o.dst v st.tm
  n0 : k.next = st.h.next
  n1 : k'.next = st'.h.next
  wf : WFH k
  sub : Sub k st.h
  inW : ∀ i, t.Wr i → k'.get i = st'.h.get i
  outW : ∀ i, ¬ t.Wr i → k'.get i = k.get i ∧ st'.h.get i = st.h.get i
  fresh : ∀ i, t.Wr i → k.get i = none → k'.get i ≠ none → st.h.get i = none
  grows : Grows st.h st'.h
  view : ∀ i, k.get i ≠ none → t.Vw hid i
  prim : t.call = none → ∀ i, i ∈ t.al → st.h.next ≤ i ∧ i < st'.h.next
  noal : t.call ≠ none → t.al = []
  call : ∀ p, t.call = some p → p = (st.h, st'.h) ∧ ∀ i, t.Wr i → i ∉ hid
  run : ∀ g w a, R g k w → GlobOK E g → TmpR g (maskC (o.looksAt ops.toArray) st.tm) a.tmps → Free g k.next k'.next → ∀ (K : Act → World → Prop) (Q : Exit → Act → World → Prop),
    (∀ g' w' v', VR g' v v' → Step g k w g' k' w' → K (a.put o.dst v') w') → if Region.wanted o (yielded ops.toArray a.tmps) then o.wp E.P a w K Q else K (a.put o.dst undef) w
theorem stepD_loc {E : Env} (hE : E.OK) {call : CallF} (hc : CallOK E call) {ops : List Oper} {o : Oper} {hid : List Nat} {st st' : St} {t : Tch} (hs : stepD E call ops o hid st = some (st', t)) (wf : WFH st.h) (hh : ∀ i ∈ hid, i < st.h.next) :
    ∃ k k' v, Loc E ops o hid st st' t k k' v := by
  unfold stepD at hs
  have hce := calleeC_congr o (evC_mask E ops o st.tm)
  have hpe := primC_congr E o (evC_mask E ops o st.tm)
  have hwe := wantedC_mask ops o st.tm
  split at hs
  · rename_i hw
    rw [hw] at hwe
    split at hs
    · rename_i ck args hk
      rw [hk] at hce
      split at hs
      · rename_i v h hr
        simp only [Option.some.injEq, Prod.mk.injEq] at hs
        obtain ⟨rfl, rfl⟩ := hs
        have wfk : WFH (hideL hid st.h) := fun i hi => by
          rw [hideL_get]
          split
          · rfl
          · exact wf i (by rw [hideL_next] at hi; exact hi)
        have gr := (hc.pre _ _ _ _ _ hr wfk).2
        have gnx : st.h.next ≤ h.next := by have := gr.nx; rwa [hideL_next] at this
        have gno : ∀ i, i < st.h.next → (hideL hid st.h).get i = none → h.get i = none := fun i hi => gr.no i (by rw [hideL_next]; exact hi)
        have hW : ∀ i, st.h.get i ≠ (restL st.h hid h).get i → i ∉ hid := fun i hi hm => hi (by rw [restL_get, if_pos hm])
        refine ⟨hideL hid st.h, h, v, ⟨rfl, hideL_next _ _, (restL_next _ _ _).symm, wfk, fun i ob hi => ?_, fun i hi => ?_, fun i hi => ?_, fun i hi hn _ => ?_, ⟨?_, fun i hi => ?_, fun i hi hn => ?_⟩, fun i hi => ?_, fun h => (by simp at h), fun _ => rfl, fun p hp => ?_, fun g w a hR hG ht hf K Q hK => ?_⟩⟩
        · rw [hideL_get] at hi
          split at hi
          · cases hi
          · exact hi
        · have := hW i hi
          show h.get i = (restL st.h hid h).get i
          rw [restL_get, if_neg this]
        · have e : st.h.get i = (restL st.h hid h).get i := Classical.byContradiction hi
          refine ⟨?_, e.symm⟩
          rw [hideL_get]
          by_cases hm : i ∈ hid
          · rw [if_pos hm]
            exact gno i (hh i hm) (by rw [hideL_get, if_pos hm])
          · rw [if_neg hm, e, restL_get, if_neg hm]
        · have := hW i hi
          rwa [hideL_get, if_neg this] at hn
        · show st.h.next ≤ (restL st.h hid h).next
          rw [restL_next]; exact gnx
        · have hi' : h.next ≤ i := by have : (restL st.h hid h).next ≤ i := hi; rwa [restL_next] at this
          show (restL st.h hid h).get i = none
          rw [restL_get]
          split
          · exact wf i (Nat.le_trans gnx hi')
          · exact gr.wf i hi'
        · show (restL st.h hid h).get i = none
          rw [restL_get]
          split
          · exact hn
          · rename_i hm
            exact gno i hi (by rw [hideL_get, if_neg hm]; exact hn)
        · rw [hideL_get] at hi
          split at hi
          · exact absurd rfl hi
          · rename_i hm; exact ⟨hi, hm⟩
        · simp only [Option.some.injEq] at hp; subst hp
          exact ⟨rfl, hW⟩
        · simp only [wanted_sound ht hwe, if_true]
          exact call_oout hE hc (evC_sound hG ht) hR hG wfk hce hr hf K Q hK
      · cases hs
    · cases hs
    · split at hs
      · rename_i v h hr
        simp only [Option.some.injEq, Prod.mk.injEq] at hs
        obtain ⟨rfl, rfl⟩ := hs
        obtain ⟨k, kn, kg⟩ := exists_H (fun i => if i ∈ ((primC E o (evC E st.tm)).eff st.h).rd ∨ i ∈ ((primC E o (evC E st.tm)).eff st.h).wr then st.h.get i else none) st.h.next st.h.next
        have kg' : ∀ i, k.get i = if i ∈ ((primC E o (evC E st.tm)).eff st.h).rd ∨ i ∈ ((primC E o (evC E st.tm)).eff st.h).wr then st.h.get i else none := fun i => by
          rw [kg]
          split
          · rfl
          · rename_i hi
            rw [wf i (by omega)]; simp
        have sub : Sub k st.h := fun i ob hi => by
          rw [kg'] at hi
          split at hi
          · exact hi
          · cases hi
        have wfk : WFH k := fun i hi => by rw [kg, if_neg (by omega)]
        obtain ⟨k', r1, r2, r3, r4⟩ := CM.run_local _ hr kn (fun i hi => by rw [kg', if_pos hi])
        have hal := CM.eff_al _ hr
        refine ⟨k, k', v, ⟨rfl, kn, r2, wfk, sub, fun i hi => r3 i hi, fun i hi => r4 i hi, fun i hi hn _ => ?_, CM.grows _ hr wf, fun i hi => ?_, fun _ i hi => hal i hi, fun h => absurd rfl h, fun p hp => (by cases hp), fun g w a hR hG ht hf K Q hK => ?_⟩⟩
        · rcases hi with hi | hi
          · rwa [kg', if_pos (.inr hi)] at hn
          · exact wf i (hal i hi).1
        · rw [kg'] at hi
          split at hi
          · rename_i hm; exact hm
          · exact absurd rfl hi
        · simp only [wanted_sound ht hwe, if_true]
          rw [← hpe] at r1
          exact (prim_sound hE (evC_sound hG ht) hR wfk r1 (fun i h1 h2 => hf i h1 h2)).oout K Q hK
      · cases hs
  · rename_i hw
    rw [hw] at hwe
    simp only [Option.some.injEq, Prod.mk.injEq] at hs
    obtain ⟨rfl, rfl⟩ := hs
    obtain ⟨k, kn, kg⟩ := exists_H (fun _ => none) st.h.next 0
    have kg' : ∀ i, k.get i = none := fun i => by rw [kg]; simp
    have nW : ∀ i, ¬ Tch.Wr ⟨[], [], [], none⟩ i := fun i hi => by simp [Tch.Wr] at hi
    refine ⟨k, k, .tup [], ⟨rfl, kn, kn, fun i _ => kg' i, fun i ob hi => (by rw [kg'] at hi; cases hi), fun i hi => absurd hi (nW i), fun i _ => ⟨rfl, rfl⟩, fun i hi => absurd hi (nW i), .refl wf, fun i hi => absurd (kg' i) hi, fun _ i hi => (by simp at hi), fun h => absurd rfl h, fun p hp => (by cases hp), fun g w a hR hG ht hf K Q hK => ?_⟩⟩
    simp only [wanted_sound ht hwe]
    exact hK g w _ (.tup [] #[] rfl (by simp)) (.refl hR (fun i _ => kg' i))
  · cases hs
end Go.Cv
