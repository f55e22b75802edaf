/- Drawn regions: whatever order the machine takes, it comes to what the order of the text comes to. -/
import Derived.Test.YtjlabjncojhjkaaDoorCv14
namespace Go.Cv
open Go

structure Ctx (E : Env) (ops : List Oper) (S : Nat → St) (T : Nat → Tch) (Hd : Nat → List Nat) : Prop where
  loc : ∀ j o, ops[j]? = some o → ∃ k k' v, Loc E ops o (Hd j) (S j) (S (j + 1)) (T j) k k' v
  wf : ∀ j, j ≤ ops.length → WFH (S j).h
  mono : ∀ j, j ≤ ops.length → ∀ i, i ≤ j → (S i).h.next ≤ (S j).h.next
  no : ∀ j, j ≤ ops.length → ∀ x, x < (S 0).h.next → (S 0).h.get x = none → (S j).h.get x = none
  ww : ∀ i j, i < j → j < ops.length → ¬ ((befC ops).getD j 0).testBit i = true → ∀ x, (T i).Wr x → ¬ (T j).Wr x
  wv : ∀ i j, i < j → j < ops.length → ¬ ((befC ops).getD j 0).testBit i = true → ∀ x, (T i).Wr x → ¬ (T j).Vw (Hd j) x
  vw : ∀ i j, i < j → j < ops.length → ¬ ((befC ops).getD j 0).testBit i = true → ∀ x, (T i).Vw (Hd i) x → ¬ (T j).Wr x
theorem Text.ctx {E : Env} (hE : E.OK) {call : CallF} (hc : CallOK E call) {ops : List Oper} {S : Nat → St} {T : Nat → Tch} {Hd : Nat → List Nat} (t : Text E call ops (befC ops) 0 ops S T Hd) (wf0 : WFH (S 0).h) : Ctx E ops S T Hd := by
  have main : ∀ j, j ≤ ops.length → (WFH (S j).h ∧ (∀ i, i ≤ j → (S i).h.next ≤ (S j).h.next) ∧ (∀ x, x < (S 0).h.next → (S 0).h.get x = none → (S j).h.get x = none)) ∧ ∀ m o, m < j → ops[m]? = some o → ∃ k k' v, Loc E ops o (Hd m) (S m) (S (m + 1)) (T m) k k' v := by
    intro j
    induction j with
    | zero => exact fun _ => ⟨⟨wf0, fun i hi => by rw [Nat.le_zero.1 hi]; exact Nat.le_refl _, fun _ _ h => h⟩, fun m o hm => by omega⟩
    | succ j ih =>
      intro hj
      obtain ⟨⟨i1, i2, i3⟩, i4⟩ := ih (by omega)
      obtain ⟨o, ho⟩ : ∃ o, ops[j]? = some o := ⟨ops[j]'(by omega), by simp⟩
      have hs := t.step j o ho
      simp only [Nat.zero_add] at hs
      have hh : ∀ x ∈ Hd j, x < (S j).h.next := by
        intro x hx
        have := (t.hid j o ho x)
        simp only [Nat.zero_add] at this
        obtain ⟨m, hm, _, hal⟩ := this.1 hx
        obtain ⟨om, hom⟩ : ∃ o, ops[m]? = some o := ⟨ops[m]'(by omega), by simp⟩
        obtain ⟨k, k', v, l⟩ := i4 m om hm hom
        by_cases hcl : (T m).call = none
        · exact Nat.lt_of_lt_of_le (l.prim hcl x hal).2 (i2 (m + 1) (by omega))
        · rw [l.noal hcl] at hal; simp at hal
      obtain ⟨k, k', v, l⟩ := stepD_loc hE hc hs i1 hh
      refine ⟨⟨l.grows.wf, fun i hi => ?_, fun x hx hn => l.grows.no x (Nat.lt_of_lt_of_le hx (i2 0 (by omega))) (i3 x hx hn)⟩, fun m o' hm hom => ?_⟩
      · rcases Nat.lt_or_ge i (j + 1) with h | h
        · exact Nat.le_trans (i2 i (by omega)) l.grows.nx
        · rw [show i = j + 1 from by omega]; exact Nat.le_refl _
      · by_cases e : m = j
        · subst e; rw [ho] at hom; cases hom; exact ⟨k, k', v, l⟩
        · exact i4 m o' (by omega) hom
  have loc : ∀ j o, ops[j]? = some o → ∃ k k' v, Loc E ops o (Hd j) (S j) (S (j + 1)) (T j) k k' v := fun j o ho =>
    (main (j + 1) (by have := (List.getElem?_eq_some_iff.1 ho).1; omega)).2 j o (by omega) ho
  have wf : ∀ j, j ≤ ops.length → WFH (S j).h := fun j hj => (main j hj).1.1
  have mono : ∀ j, j ≤ ops.length → ∀ i, i ≤ j → (S i).h.next ≤ (S j).h.next := fun j hj => (main j hj).1.2.1
  have conf : ∀ i j, i < j → j < ops.length → ¬ ((befC ops).getD j 0).testBit i = true → ∀ x, ((T i).Wr x → ¬ (T j).Wr x) ∧ ((T i).Wr x → ¬ (T j).Vw (Hd j) x) ∧ ((T i).Vw (Hd i) x → ¬ (T j).Wr x) := by
    intro i j hij hj hb x
    obtain ⟨oi, hoi⟩ : ∃ o, ops[i]? = some o := ⟨ops[i]'(by omega), by simp⟩
    obtain ⟨oj, hoj⟩ : ∃ o, ops[j]? = some o := ⟨ops[j]'(by omega), by simp⟩
    obtain ⟨ki, ki', vi, li⟩ := loc i oi hoi
    obtain ⟨kj, kj', vj, lj⟩ := loc j oj hoj
    have hok := t.ok j oj hoj i (by omega) (by simpa using hb)
    simp only [Nat.zero_add] at hok
    have hhid := t.hid j oj hoj x
    simp only [Nat.zero_add] at hhid
    unfold compatC at hok
    cases hci : (T i).call with
    | none =>
      cases hcj : (T j).call with
      | none =>
        simp only [hci, hcj, Bool.and_eq_true, List.all_eq_true, List.mem_append, Bool.not_eq_true', List.contains_eq_mem, decide_eq_false_iff_not] at hok
        obtain ⟨k1, k2⟩ := hok
        simp only [Tch.Wr, Tch.Vw, hci, hcj]
        exact ⟨fun a b => k1 x a (b.elim (fun q => .inl (.inr q)) .inr), fun a b => k1 x a (.inl b), fun a b => k2 x b a⟩
      | some p =>
        obtain ⟨rfl, hnh⟩ := lj.call p hcj
        simp only [hci, hcj, Bool.and_eq_true, List.all_eq_true, List.isEmpty_iff] at hok
        obtain ⟨k1, k2⟩ := hok
        have hal : (T i).Wr x → x ∈ Hd j := fun hw => by
          simp only [Tch.Wr, hci, k1] at hw
          exact hhid.2 ⟨i, hij, hb, by simpa using hw⟩
        refine ⟨fun a b => hnh x b (hal a), fun a b => ?_, fun a b => ?_⟩
        · simp only [Tch.Vw, hcj] at b
          exact b.2 (hal a)
        · simp only [Tch.Vw, hci, k1] at a
          simp only [Tch.Wr, hcj] at b
          exact b (beqO_eq (k2 x (by simpa using a)).2)
    | some p =>
      obtain ⟨rfl, hnh⟩ := li.call p hci
      cases hcj : (T j).call with
      | none =>
        simp only [hci, hcj, Bool.and_eq_true, List.all_eq_true, List.isEmpty_iff] at hok
        obtain ⟨k1, k2⟩ := hok
        have hnew : (T j).Wr x → (S i).h.get x = none ∧ (S (i + 1)).h.get x = none := fun hw => by
          simp only [Tch.Wr, hcj, k1] at hw
          have := (lj.prim hcj x (by simpa using hw)).1
          exact ⟨wf i (by omega) x (Nat.le_trans (mono j (by omega) i (by omega)) this), wf (i + 1) (by omega) x (Nat.le_trans (mono j (by omega) (i + 1) (by omega)) this)⟩
        refine ⟨fun a b => ?_, fun a b => ?_, fun a b => ?_⟩
        · simp only [Tch.Wr, hci] at a
          obtain ⟨e1, e2⟩ := hnew b
          exact a (e1.trans e2.symm)
        · simp only [Tch.Wr, hci] at a
          simp only [Tch.Vw, hcj, k1] at b
          exact a (beqO_eq (k2 x (by simpa using b)).2)
        · simp only [Tch.Vw, hci] at a
          exact a.1 (hnew b).1
      | some q => simp [hci, hcj] at hok
  exact ⟨loc, wf, mono, fun j hj => (main j hj).1.2.2, fun i j a b c x => (conf i j a b c x).1, fun i j a b c x => (conf i j a b c x).2.1, fun i j a b c x => (conf i j a b c x).2.2⟩

section
variable {E : Env} {ops : List Oper} {S : Nat → St} {T : Nat → Tch} {Hd : Nat → List Nat} (C : Ctx E ops S T Hd)
include C
theorem Ctx.heap_chain {x : Nat} : ∀ (d m : Nat), m + d ≤ ops.length → (∀ k, m ≤ k → k < m + d → ¬ (T k).Wr x) → (S (m + d)).h.get x = (S m).h.get x := by
  intro d
  induction d with
  | zero => intro m _ _; rfl
  | succ d ih =>
    intro m hm hk
    obtain ⟨o, ho⟩ : ∃ o, ops[m + d]? = some o := ⟨ops[m + d]'(by omega), by simp⟩
    obtain ⟨k, k', v, l⟩ := C.loc _ o ho
    rw [show m + (d + 1) = m + d + 1 from by omega, (l.outW x (hk (m + d) (by omega) (by omega))).2]
    exact ih m (by omega) (fun k h1 h2 => hk k h1 (by omega))
theorem Ctx.tm_chain {x : Nat} : ∀ (d m : Nat), m + d ≤ ops.length → (∀ k o, m ≤ k → k < m + d → ops[k]? = some o → o.dst ≠ some x) → (S (m + d)).tm[x]? = (S m).tm[x]? := by
  intro d
  induction d with
  | zero => intro m _ _; rfl
  | succ d ih =>
    intro m hm hk
    obtain ⟨o, ho⟩ : ∃ o, ops[m + d]? = some o := ⟨ops[m + d]'(by omega), by simp⟩
    obtain ⟨k, k', v, l⟩ := C.loc _ o ho
    have hd := hk (m + d) o (by omega) (by omega) ho
    rw [show m + (d + 1) = m + d + 1 from by omega, l.tm]
    have : (putC o.dst v (S (m + d)).tm)[x]? = (S (m + d)).tm[x]? := by
      unfold putC
      split
      · rename_i e he
        rw [List.getElem?_set, if_neg (fun h => hd (by rw [he, h]))]
      · rfl
    rw [this]
    exact ih m (by omega) (fun k o h1 h2 => hk k o h1 (by omega))
theorem Ctx.tm_len : ∀ m, m ≤ ops.length → (S m).tm.length = (S 0).tm.length := by
  intro m
  induction m with
  | zero => intro _; rfl
  | succ m ih =>
    intro hm
    obtain ⟨o, ho⟩ : ∃ o, ops[m]? = some o := ⟨ops[m]'(by omega), by simp⟩
    obtain ⟨k, k', v, l⟩ := C.loc _ o ho
    rw [l.tm, ← ih (by omega)]
    unfold putC; split <;> simp
end

def Ls (listed : Array Bool) (i : Nat) : Prop := listed.getD i false = true
theorem Ls.lt {listed : Array Bool} {i : Nat} (h : Ls listed i) : i < listed.size := by
  rcases Nat.lt_or_ge i listed.size with hi | hi
  · exact hi
  · simp [Ls, Array.getD, Nat.not_lt.2 hi] at h
theorem Ls.set {listed : Array Bool} {j i : Nat} (hj : j < listed.size) : Ls (listed.setIfInBounds j true) i ↔ i = j ∨ Ls listed i := by
  unfold Ls
  by_cases e : i = j
  · subst e; simp [hj]
  · have : (listed.setIfInBounds j true)[i]? = listed[i]? := by rw [Array.getElem?_setIfInBounds_ne (Ne.symm e)]
    simp [e, this]

structure Inv (E : Env) (ops : List Oper) (S : Nat → St) (T : Nat → Tch) (g0 : Gh) (w0 : World) (listed : Array Bool) (a : Act) (w : World) (g : Gh) (cur : H) : Prop where
  sz : listed.size = ops.length
  down : ∀ j x, Ls listed j → ((befC ops).getD j 0).testBit x = true → Ls listed x
  st : StepW g0 (S 0).h w0 g cur w
  gl : GlobOK E g
  heap : ∀ x m, m ≤ ops.length → (∀ k, k < m → (T k).Wr x → Ls listed k) → (∀ k, Ls listed k → m ≤ k → ¬ (T k).Wr x) → cur.get x = (S m).h.get x
  bd : ∀ x, (S ops.length).h.next ≤ x → cur.get x = none
  tsz : a.tmps.size = (S 0).tm.length
  tms : ∀ d m, m ≤ ops.length → (∀ k o, ops[k]? = some o → k < m → o.dst = some d → Ls listed k) → (∀ k o, ops[k]? = some o → Ls listed k → m ≤ k → o.dst ≠ some d) → ∀ c v, (S m).tm[d]? = some c → a.tmps[d]? = some v → VR g c v
  df : a.defers = []
  free : ∀ j, j < ops.length → ¬ Ls listed j → Free g (S j).h.next (S (j + 1)).h.next
  plc : ∀ i, g.place i ≠ g0.place i → (S 0).h.next ≤ i ∧ i < (S ops.length).h.next

theorem Inv.step {E : Env} {ops : List Oper} {S : Nat → St} {T : Nat → Tch} {Hd : Nat → List Nat} (C : Ctx E ops S T Hd) (hap : apartOk ops (befC ops) = true) {g0 : Gh} {w0 : World} {listed : Array Bool} {a : Act} {w : World} {g : Gh} {cur : H}
    (I : Inv E ops S T g0 w0 listed a w g cur) {j : Nat} {o : Oper} (ho : ops[j]? = some o) (hnl : ¬ Ls listed j) (hed : ∀ e ∈ o.after.toList, bindsC e = true → Ls listed e.on)
    (K : Act → World → Prop) (Q : Exit → Act → World → Prop) (hK : ∀ a' w' g' cur', Inv E ops S T g0 w0 (listed.setIfInBounds j true) a' w' g' cur' → K a' w') :
    if Region.wanted o (yielded ops.toArray a.tmps) then o.wp E.P a w K Q else K (a.put o.dst undef) w := by
  have hj : j < ops.length := (List.getElem?_eq_some_iff.1 ho).1
  have hjl : j < listed.size := by rw [I.sz]; exact hj
  obtain ⟨k, k', v, l⟩ := C.loc j o ho
  have befL : ∀ x, ((befC ops).getD j 0).testBit x = true → Ls listed x := by
    intro x hx
    obtain ⟨o', e, h1, h2, h3, h4⟩ := befC_mem hx
    rw [ho] at h1; cases h1
    have := hed e h2 h3
    rcases h4 with rfl | h4
    · exact this
    · exact I.down _ _ this h4
  have ltn : ∀ i, Ls listed i → i < ops.length := fun i hi => by rw [← I.sz]; exact hi.lt
  have ap : ∀ i m oi om, i < m → ops[i]? = some oi → ops[m]? = some om → ¬ ((befC ops).getD m 0).testBit i = true → oi.apart ops.toArray om = true := by
    intro i m oi om him hi hm hb
    have h1 := List.all_eq_true.1 hap (oi, i) (List.mem_zipIdx_iff_getElem?.2 hi)
    have h2 := List.all_eq_true.1 h1 (om, m) (List.mem_zipIdx_iff_getElem?.2 hm)
    simp only [Bool.or_eq_true, Bool.not_eq_true', decide_eq_false_iff_not] at h2
    rcases h2 with (h2 | h2) | h2
    · exact absurd him h2
    · exact absurd h2 hb
    · exact h2
  have hVal : ∀ x, (T j).Vw (Hd j) x ∨ (T j).Wr x → cur.get x = (S j).h.get x := by
    intro x hx
    refine I.heap x j (by omega) (fun m hm hw => ?_) (fun m hl hm hw => ?_)
    · by_cases hb : ((befC ops).getD j 0).testBit m = true
      · exact befL m hb
      · rcases hx with hx | hx
        · exact absurd hx (C.wv m j hm hj hb x hw)
        · exact absurd hx (C.ww m j hm hj hb x hw)
    · have hne : m ≠ j := fun e => hnl (e ▸ hl)
      by_cases hb : ((befC ops).getD m 0).testBit j = true
      · exact hnl (I.down m j hl hb)
      · rcases hx with hx | hx
        · exact C.vw j m (by omega) (ltn m hl) hb x hx hw
        · exact C.ww j m (by omega) (ltn m hl) hb x hx hw
  have sub : Sub k cur := fun x ob hx => by
    rw [hVal x (.inl (l.view x (by rw [hx]; simp)))]
    exact l.sub x ob hx
  have ht : TmpR g (maskC (o.looksAt ops.toArray) (S j).tm) a.tmps := by
    refine ⟨by rw [I.tsz, ← C.tm_len j (by omega)]; simp [maskC], fun d c u hc hu => ?_⟩
    rw [maskC_get] at hc
    cases hcd : (S j).tm[d]? with
    | none => simp [hcd] at hc
    | some c0 =>
      simp only [hcd, Option.map_some, Option.some.injEq] at hc
      split at hc
      · rename_i hlk
        have hlk' : d ∈ o.looksAt ops.toArray := by simpa using hlk
        subst hc
        refine I.tms d j (by omega) (fun m om hom hm hd => ?_) (fun m om hom hl hm hd => ?_) _ _ hcd hu
        · by_cases hb : ((befC ops).getD j 0).testBit m = true
          · exact befL m hb
          · exact absurd hlk' ((Oper.apart_spec (ap m j om o hm hom ho hb)).1 d hd)
        · have hne : m ≠ j := fun e => hnl (e ▸ hl)
          by_cases hb : ((befC ops).getD m 0).testBit j = true
          · exact hnl (I.down m j hl hb)
          · exact (Oper.apart_spec (ap j m o om (by omega) ho hom hb)).2.2 d hd hlk'
      · subst hc; exact .undef _
  refine l.run g w a (I.st.r.sub sub) I.gl ht (by rw [l.n0, l.n1]; exact I.free j hj hnl) K Q (fun g' w' v' hv s => ?_)
  classical
  obtain ⟨cur', _, cg⟩ := exists_H (fun x => if (T j).Wr x then (S (j + 1)).h.get x else cur.get x) 0 (S ops.length).h.next
  have cg' : ∀ x, cur'.get x = if (T j).Wr x then (S (j + 1)).h.get x else cur.get x := fun x => by
    rw [cg]
    split
    · rfl
    · rename_i hx
      rw [I.bd x (by omega), C.wf (j + 1) (by omega) x (Nat.le_trans (C.mono ops.length (Nat.le_refl _) (j + 1) (by omega)) (by omega))]
      simp
  have lift := StepW.lift I.st.r sub s.w (k' := cur') (fun i => by
    by_cases hw : (T j).Wr i
    · exact .inl ⟨by rw [cg', if_pos hw, l.inW i hw], fun h1 h2 => by rw [hVal i (.inr hw)]; exact l.fresh i hw h1 h2⟩
    · exact .inr ⟨(l.outW i hw).1, by rw [cg', if_neg hw]⟩)
  -- an operation behind j that is listed can't hang together with j
  have after : ∀ m, j < m → Ls listed m → ¬ ((befC ops).getD m 0).testBit j = true := fun m _ hl hb => hnl (I.down m j hl hb)
  refine hK _ _ g' cur' ⟨by simp [I.sz], fun y x hy hx => ?_, I.st.trans lift, I.gl.mono s.le, fun x m hm h1 h2 => ?_, fun x hx => ?_, ?_, fun d m hm h1 h2 c u hc hu => ?_, ?_, fun i hi hni => ?_, fun i hi => ?_⟩
  · rw [Ls.set hjl] at hy ⊢
    rcases hy with rfl | hy
    · exact .inr (befL x hx)
    · exact .inr (I.down y x hy hx)
  · rw [cg']
    by_cases hw : (T j).Wr x
    · rw [if_pos hw]
      have hjm : j < m := by
        rcases Nat.lt_or_ge j m with h | h
        · exact h
        · exact absurd hw (h2 j ((Ls.set hjl).2 (.inl rfl)) h)
      obtain ⟨d, rfl⟩ : ∃ d, m = j + 1 + d := ⟨m - j - 1, by omega⟩
      refine (C.heap_chain d (j + 1) hm (fun i hi1 hi2 hwi => ?_)).symm
      rcases (Ls.set hjl).1 (h1 i hi2 hwi) with e | hl
      · omega
      · exact C.ww j i (by omega) (ltn i hl) (after i (by omega) hl) x hw hwi
    · rw [if_neg hw]
      refine I.heap x m hm (fun i hi hwi => ?_) (fun i hl hi => h2 i ((Ls.set hjl).2 (.inr hl)) hi)
      rcases (Ls.set hjl).1 (h1 i hi hwi) with e | hl
      · subst e; exact absurd hwi hw
      · exact hl
  · rw [cg, if_neg (by omega)]
  · rw [← I.tsz]
    unfold Act.put; split <;> simp
  · by_cases hd : o.dst = some d
    · have hjm : j < m := by
        rcases Nat.lt_or_ge j m with h | h
        · exact h
        · exact absurd hd (h2 j o ho ((Ls.set hjl).2 (.inl rfl)) h)
      obtain ⟨e, rfl⟩ : ∃ d, m = j + 1 + d := ⟨m - j - 1, by omega⟩
      rw [C.tm_chain e (j + 1) hm (fun i oi hi1 hi2 hoi hdi => by
        rcases (Ls.set hjl).1 (h1 i oi hoi hi2 hdi) with e | hl
        · omega
        · exact (Oper.apart_spec (ap j i o oi (by omega) ho hoi (after i (by omega) hl))).2.1 d hd hdi), l.tm, hd] at hc
      rw [hd] at hu
      simp only [putC, List.getElem?_set, if_true] at hc
      simp only [Act.put, Array.getElem?_setIfInBounds, if_true] at hu
      split at hc
      · cases hc
        split at hu
        · cases hu; exact hv
        · cases hu
      · cases hc
    · have hu' : a.tmps[d]? = some u := by
        rw [← hu]
        unfold Act.put
        split
        · rename_i e he
          rw [Array.getElem?_setIfInBounds_ne (fun h => hd (by rw [he, h]))]
        · rfl
      refine (I.tms d m hm (fun i oi hoi hi hdi => ?_) (fun i oi hoi hl hi => h2 i oi hoi ((Ls.set hjl).2 (.inr hl)) hi) c u hc hu').mono s.le
      rcases (Ls.set hjl).1 (h1 i oi hoi hi hdi) with e | hl
      · subst e; rw [ho] at hoi; cases hoi; exact absurd hdi hd
      · exact hl
  · rw [put_defers]; exact I.df
  · have hij : i ≠ j := fun e => hni ((Ls.set hjl).2 (.inl e))
    have hnl' : ¬ Ls listed i := fun h => hni ((Ls.set hjl).2 (.inr h))
    intro y hy1 hy2
    cases Classical.em (g'.place y = g.place y) with
    | inl e => rw [e]; exact I.free i hi hnl' y hy1 hy2
    | inr e =>
      have := s.plc y e
      rw [l.n0, l.n1] at this
      rcases Nat.lt_or_ge i j with h | h
      · have := C.mono j (by omega) (i + 1) (by omega); omega
      · have := C.mono i (by omega) (j + 1) (by omega); omega
  · cases Classical.em (g'.place i = g.place i) with
    | inl e => exact I.plc i (by rw [← e]; exact hi)
    | inr e =>
      have := s.plc i e
      rw [l.n0, l.n1] at this
      have h1 := C.mono j (by omega) 0 (by omega)
      have h2 := C.mono ops.length (Nat.le_refl _) (j + 1) (by omega)
      omega

theorem filter_lt {p q : Nat → Bool} (hpq : ∀ x, q x = true → p x = true) {i : Nat} (hp : p i = true) (hq : q i = false) : ∀ (l : List Nat), i ∈ l → (l.filter q).length < (l.filter p).length := by
  have le : ∀ l : List Nat, (l.filter q).length ≤ (l.filter p).length := by
    intro l
    induction l with
    | nil => simp
    | cons x l ih =>
      simp only [List.filter_cons]
      cases hqx : q x with
      | true => simp [hpq x hqx]; exact ih
      | false => cases p x <;> simp <;> omega
  intro l
  induction l with
  | nil => intro h; simp at h
  | cons x l ih =>
    intro h
    simp only [List.filter_cons]
    by_cases e : i = x
    · subst e; simp [hp, hq]; have := le l; omega
    · have := ih (by simpa [e] using h)
      cases hqx : q x with
      | true => simp [hpq x hqx]; exact this
      | false => cases p x <;> simp <;> omega

theorem Inv.any {E : Env} {ops : Array Oper} {S : Nat → St} {T : Nat → Tch} {Hd : Nat → List Nat} (C : Ctx E ops.toList S T Hd) (hap : apartOk ops.toList (befC ops.toList) = true) (hed : edgesOk ops.toList = true) {g0 : Gh} {w0 : World} {Q : Exit → Act → World → Prop}
    (hQ : ∀ listed a w g cur, Inv E ops.toList S T g0 w0 listed a w g cur → (∀ j, j < ops.size → Ls listed j) → Q .normal a w) :
    ∀ (fuel : Nat) (listed : Array Bool) (a : Act) (w : World) (g : Gh) (cur : H), Inv E ops.toList S T g0 w0 listed a w g cur → ((List.range ops.size).filter fun i => !listed.getD i false).length ≤ fuel → wpAny E.P .any ops Q fuel listed a w := by
  have isz : ∀ {listed a w g cur}, Inv E ops.toList S T g0 w0 listed a w g cur → listed.size = ops.size := fun I => by rw [I.sz]; simp
  have inReady : ∀ {listed : Array Bool} (hs : listed.size = ops.size) {j : Nat}, j ∈ Region.ready .any ops listed → j < ops.size ∧ ¬ Ls listed j ∧ ∃ o, ops.toList[j]? = some o ∧ ∀ e ∈ o.after.toList, bindsC e = true → Ls listed e.on := by
    intro listed hs j hj
    simp only [Region.ready, List.mem_filter, List.mem_range, Bool.and_eq_true] at hj
    obtain ⟨h1, h2, h3⟩ := hj
    refine ⟨h1, fun h => ?_, ops[j], by simp [h1], fun e he hb => ?_⟩
    · unfold Ls at h
      have hl : j < listed.size := by omega
      simp [hl] at h h2
      rw [h] at h2; cases h2
    · have h3' : ops[j].after.all (fun e => !Region.binds .any e || listed.getD e.on false) = true := by simpa [h1] using h3
      have := (Array.all_eq_true_iff_forall_mem.1 h3') e (by simpa using he)
      rw [binds_any, hb] at this
      simpa [Ls] using this
  have full : ∀ {listed : Array Bool} (hs : listed.size = ops.size), Region.ready .any ops listed = [] → ∀ j, j < ops.size → Ls listed j := by
    intro listed hs hr j
    induction j using Nat.strongRecOn with
    | _ j ih =>
      intro hj
      refine Classical.byContradiction fun hn => ?_
      have hmem : j ∈ Region.ready .any ops listed := by
        simp only [Region.ready, List.mem_filter, List.mem_range, Bool.and_eq_true]
        have hl : j < listed.size := by omega
        refine ⟨hj, ?_, ?_⟩
        · unfold Ls at hn
          simp [hl] at hn ⊢
          exact hn
        · have : ops[j].after.all (fun e => !Region.binds .any e || listed.getD e.on false) = true := by
            rw [Array.all_eq_true_iff_forall_mem]
            intro e he
            rw [binds_any]
            cases hb : bindsC e with
            | false => rfl
            | true =>
              have h1 := List.all_eq_true.1 hed (ops[j], j) (List.mem_zipIdx_iff_getElem?.2 (by simp [hj]))
              have h2 := List.all_eq_true.1 h1 e (by simpa using he)
              simp only [hb, Bool.not_true, Bool.false_or, decide_eq_true_eq] at h2
              have := ih e.on h2 (by omega)
              simpa [Ls] using this
          simpa [hj] using this
      rw [hr] at hmem; cases hmem
  intro fuel
  induction fuel with
  | zero =>
    intro listed a w g cur I hf
    have hall : ∀ j, j < ops.size → Ls listed j := fun j hj => by
      have hnil := List.length_eq_zero_iff.1 (Nat.le_zero.1 hf)
      refine Classical.byContradiction fun hn => ?_
      have : j ∈ (List.range ops.size).filter fun i => !listed.getD i false := by
        rw [List.mem_filter, List.mem_range]
        refine ⟨hj, ?_⟩
        unfold Ls at hn
        simpa using hn
      rw [hnil] at this; cases this
    refine ⟨?_, hQ _ _ _ _ _ I hall⟩
    cases hr : Region.ready .any ops listed with
    | nil => rfl
    | cons j r =>
      obtain ⟨h1, h2, _⟩ := inReady (isz I) (by rw [hr]; simp : j ∈ Region.ready .any ops listed)
      exact absurd (hall j h1) h2
  | succ fuel ih =>
    intro listed a w g cur I hf
    refine ⟨fun hr => hQ _ _ _ _ _ I (full (isz I) hr), fun j hj => ?_⟩
    obtain ⟨h1, h2, o, ho, he⟩ := inReady (isz I) hj
    have ho' : ops[j]? = some o := by simpa using ho
    have := Inv.step C hap I ho h2 he (wpAny E.P .any ops Q fuel (listed.setIfInBounds j true)) Q (fun a' w' g' cur' I' => ih _ a' w' g' cur' I' (by
      have hjl : j < listed.size := by rw [isz I]; exact h1
      have hlt := filter_lt (p := fun i => !listed.getD i false) (q := fun i => !(listed.setIfInBounds j true).getD i false) (fun x hx => by
        have hx' : ¬ Ls (listed.setIfInBounds j true) x := by unfold Ls; simpa using hx
        have : ¬ Ls listed x := fun h => hx' ((Ls.set hjl).2 (.inr h))
        unfold Ls at this; simpa using this) (i := j) (by unfold Ls at h2; simpa using h2) (by
        have : Ls (listed.setIfInBounds j true) j := (Ls.set hjl).2 (.inl rfl)
        unfold Ls at this; simpa using this) (List.range ops.size) (List.mem_range.2 h1)
      omega))
    simp only [wpOp, ho']
    split
    · rename_i hw; rw [if_pos (by simpa using hw)] at this; exact .inl this
    · rename_i hw; rw [if_neg (by simpa using hw)] at this; exact this

theorem drawC_sound {E : Env} (hE : E.OK) (hP : E.P.follows .mixedOrders = true) {call : CallF} (hc : CallOK E call) {ops : Array Oper} {id : Nat} {st st' : St} (hok : edgesOk ops.toList = true ∧ apartOk ops.toList (befC ops.toList) = true) (hs : drawC E call ops.toList st = some st') (wf : WFH st.h) :
    Grows st.h st'.h ∧ ∀ g w a, Rel E g st a w → Free g st.h.next st'.h.next → ∀ Q : Exit → Act → World → Prop, (∀ g' w' a', Step g st.h w g' st'.h w' → Rel E g' st' a' w' → Q .normal a' w') → (Code.region id ops true).wp E.P Q a w := by
  unfold drawC at hs
  split at hs
  case h_2 => cases hs
  rename_i st1 ts hgo
  simp only [Option.some.injEq] at hs; subst hs
  obtain ⟨S, T, Hd, h1, h2, _, t⟩ := goD_text _ _ _ _ _ _ hgo rfl
  simp only [Nat.zero_add] at h2
  subst h1; subst h2
  have C := t.ctx hE hc wf
  have gr : Grows (S 0).h (S ops.toList.length).h := ⟨C.mono _ (Nat.le_refl _) 0 (by omega), C.wf _ (Nat.le_refl _), C.no _ (Nat.le_refl _)⟩
  refine ⟨gr, fun g w a rel hf Q hQ => wp_region_any hP ?_⟩
  have s0 : Step g (S 0).h w g (S 0).h { w with drawn := w.drawn + 1 } := Step.world rel.r wf rfl rfl rfl rfl
  have hL : ∀ i, ¬ Ls (Array.replicate ops.size false) i := fun i hi => by
    unfold Ls at hi
    simp [Array.getElem?_replicate] at hi
    split at hi <;> simp at hi
  have zero : ∀ x m, m ≤ ops.toList.length → (∀ k, k < m → (T k).Wr x → Ls (Array.replicate ops.size false) k) → (S 0).h.get x = (S m).h.get x := fun x m hm hk => by
    have := C.heap_chain m 0 (x := x) (by omega) (fun k _ h2 hw => hL k (hk k (by omega) hw))
    rw [Nat.zero_add] at this; exact this.symm
  refine Inv.any C hok.2 hok.1 (g0 := g) (w0 := { w with drawn := w.drawn + 1 }) (fun listed a' w' g' cur I hall => ?_) ops.size _ a _ g (S 0).h ⟨by simp, fun j x hj => absurd hj (hL j), s0.w |> fun z => ⟨s0.r, g.le_refl, .refl _ _ _, fun _ h => .inl h, fun _ _ h => absurd rfl h, fun _ h => .inl h⟩, rel.gl, fun x m hm hk _ => zero x m hm hk, fun x hx => wf x (Nat.le_trans (C.mono _ (Nat.le_refl _) 0 (by omega)) hx), rel.tm.1.symm, fun d m hm hk _ c v hc hv => ?_, rel.df, fun j hj _ => ?_, fun i hi => absurd rfl hi⟩ ?_
  · have hall' : ∀ k, k < ops.toList.length → Ls listed k := fun k hk => hall k (by simpa using hk)
    have heq : ∀ x, cur.get x = (S ops.toList.length).h.get x := fun x => I.heap x _ (Nat.le_refl _) (fun k hk _ => hall' k hk) (fun k hl hk => by have := hl.lt; rw [I.sz] at this; omega)
    have sub : Sub (S ops.toList.length).h cur := fun x o ho => by rw [heq]; exact ho
    have ow : ∀ b, Owned g' (S ops.toList.length).h b → Owned g' cur b := fun b ho => ho.sub sub
    have st : Step g (S 0).h { w with drawn := w.drawn + 1 } g' (S ops.toList.length).h w' :=
      ⟨I.st.r.sub sub, I.st.le, I.st.keep, fun b ho => I.st.own b (ow b ho), I.st.icn, I.plc, gr.nx, gr.wf, fun b ho => I.st.has b (by
        obtain ⟨i, o, p, q1, q2, q3⟩ := ho
        exact ⟨i, o, p, sub i o q1, q2, q3⟩)⟩
    refine hQ g' w' a' (s0.trans st) ⟨st.r, I.gl, ⟨by rw [I.tsz, C.tm_len _ (Nat.le_refl _)], fun d c v hc hv => ?_⟩, I.df⟩
    exact I.tms d _ (Nat.le_refl _) (fun k o _ hk _ => hall' k hk) (fun k o _ hl hk => by have := hl.lt; rw [I.sz] at this; omega) c v hc hv
  · have : (S m).tm[d]? = (S 0).tm[d]? := by
      have := C.tm_chain (x := d) m 0 (by omega) (fun k o _ h2 ho hd => hL k (hk k o ho (by omega) hd))
      rwa [Nat.zero_add] at this
    rw [this] at hc
    exact rel.tm.2 d c v hc hv
  · refine fun i h1 h2 => hf i (Nat.le_trans (C.mono j (by omega) 0 (by omega)) h1) (Nat.lt_of_lt_of_le h2 (C.mono _ (Nat.le_refl _) (j + 1) (by omega)))
  · refine Nat.le_trans (List.length_filter_le _ _) ?_
    simp
end Go.Cv
