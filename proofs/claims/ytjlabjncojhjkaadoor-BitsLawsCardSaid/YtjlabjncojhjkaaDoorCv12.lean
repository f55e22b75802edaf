/- Steps on a part of the heap; what a step may touch. -/
import Derived.Test.YtjlabjncojhjkaaDoorCv11
namespace Go.Cv
open Go

/-! ### Small programs: what they leave, and that they look at nothing but what they touch -/
theorem CM.run_wf {α : Type} (x : CM α) : ∀ {h h' : H} {a : α}, x.run h = some (a, h') → WFH h → h.next ≤ h'.next ∧ WFH h' ∧ ∀ i, i < h.next → h.get i = none → h'.get i = none := by
  induction x with
  | pure a => intro h h' b hr wf; simp [CM.run] at hr; obtain ⟨_, rfl⟩ := hr; exact ⟨Nat.le_refl _, wf, fun _ _ h => h⟩
  | fail => intro h h' b hr; simp [CM.run] at hr
  | get i k ih =>
    intro h h' b hr wf
    simp only [CM.run] at hr
    split at hr
    · exact ih _ hr wf
    · cases hr
  | put i o k ih =>
    intro h h' b hr wf
    simp only [CM.run] at hr
    split at hr
    · cases hr
    · rename_i ob _ hob
      obtain ⟨h1, h2, h3⟩ := ih hr (H.wf_put wf (H.lt_next wf hob) o)
      refine ⟨h1, h2, fun j hj hn => h3 j hj ?_⟩
      rw [H.get_put]
      split
      · rename_i e; subst e; rw [hob] at hn; cases hn
      · exact hn
    · cases hr
  | del i k ih =>
    intro h h' b hr wf
    simp only [CM.run] at hr
    split at hr
    · cases hr
    · obtain ⟨h1, h2, h3⟩ := ih hr (H.wf_del wf i)
      refine ⟨h1, h2, fun j hj hn => h3 j hj ?_⟩
      rw [H.get_del]
      split
      · rfl
      · exact hn
    · cases hr
  | new o k ih =>
    intro h h' b hr wf
    simp only [CM.run] at hr
    obtain ⟨h1, h2, h3⟩ := ih _ hr (H.wf_new wf o)
    rw [H.next_new] at h1 h3
    refine ⟨by omega, h2, fun j hj hn => h3 j (by omega) ?_⟩
    rw [H.get_new, if_neg (by omega)]
    exact hn
def Tch.W (e : CM.Eff) (i : Nat) : Prop := i ∈ e.wr ∨ i ∈ e.al
theorem CM.run_local {α : Type} (x : CM α) : ∀ {h k h' : H} {a : α}, x.run h = some (a, h') → k.next = h.next → (∀ i, i ∈ (x.eff h).rd ∨ i ∈ (x.eff h).wr → k.get i = h.get i) →
    ∃ k', x.run k = some (a, k') ∧ k'.next = h'.next ∧ (∀ i, Tch.W (x.eff h) i → k'.get i = h'.get i) ∧ (∀ i, ¬ Tch.W (x.eff h) i → k'.get i = k.get i ∧ h'.get i = h.get i) := by
  induction x with
  | pure a =>
    intro h k h' b hr hn hk
    simp [CM.run] at hr; obtain ⟨rfl, rfl⟩ := hr
    exact ⟨k, rfl, hn, fun i hi => by simp [Tch.W, CM.eff] at hi, fun i _ => ⟨rfl, rfl⟩⟩
  | fail => intro h k h' b hr; simp [CM.run] at hr
  | get i f ih =>
    intro h k h' b hr hn hk
    simp only [CM.run, CM.eff] at hr hk ⊢
    cases hob : h.get i with
    | none => simp [hob] at hr
    | some o =>
      simp only [hob] at hr hk ⊢
      have hki : k.get i = some o := by rw [hk i (.inl (by simp)), hob]
      simp only [hki]
      exact ih o hr hn (fun j hj => hk j (by rcases hj with hj | hj <;> simp [hj]))
  | put i o f ih =>
    intro h k h' b hr hn hk
    simp only [CM.run, CM.eff] at hr hk ⊢
    have hki : k.get i = h.get i := hk i (.inr (by simp))
    rw [hki]
    cases hob : h.get i with
    | none => simp [hob] at hr
    | some ob =>
      simp only [hob] at hr ⊢
      cases ob with
      | fro cs => simp at hr
      | _ =>
        simp only at hr ⊢
        obtain ⟨k', r1, r2, r3, r4⟩ := ih (k := k.put i o) hr (by rw [H.next_put, H.next_put]; exact hn) (fun j hj => by
          rw [H.get_put, H.get_put]
          split
          · rfl
          · exact hk j (by rcases hj with hj | hj <;> simp [hj]))
        refine ⟨k', r1, r2, fun j hj => ?_, fun j hj => ?_⟩
        · by_cases hw : Tch.W (f.eff (h.put i o)) j
          · exact r3 j hw
          · obtain ⟨r5, r6⟩ := r4 j hw
            rw [r5, r6, H.get_put, H.get_put]
            rcases hj with hj | hj
            · rcases List.mem_cons.1 hj with e | e
              · rw [if_pos e, if_pos e]
              · exact absurd (.inl e) hw
            · exact absurd (.inr hj) hw
        · have hw : ¬ Tch.W (f.eff (h.put i o)) j := fun hh => hj (by rcases hh with hh | hh; exact .inl (by simp [hh]); exact .inr hh)
          obtain ⟨r5, r6⟩ := r4 j hw
          have hne : j ≠ i := fun e => hj (.inl (by simp [e]))
          rw [r5, r6, H.get_put, H.get_put, if_neg hne, if_neg hne]
          exact ⟨rfl, rfl⟩
  | del i f ih =>
    intro h k h' b hr hn hk
    simp only [CM.run, CM.eff] at hr hk ⊢
    have hki : k.get i = h.get i := hk i (.inr (by simp))
    rw [hki]
    cases hob : h.get i with
    | none => simp [hob] at hr
    | some ob =>
      simp only [hob] at hr ⊢
      cases ob with
      | fro cs => simp at hr
      | _ =>
        simp only at hr ⊢
        obtain ⟨k', r1, r2, r3, r4⟩ := ih (k := k.del i) hr (by rw [H.next_del, H.next_del]; exact hn) (fun j hj => by
          rw [H.get_del, H.get_del]
          split
          · rfl
          · exact hk j (by rcases hj with hj | hj <;> simp [hj]))
        refine ⟨k', r1, r2, fun j hj => ?_, fun j hj => ?_⟩
        · by_cases hw : Tch.W (f.eff (h.del i)) j
          · exact r3 j hw
          · obtain ⟨r5, r6⟩ := r4 j hw
            rw [r5, r6, H.get_del, H.get_del]
            rcases hj with hj | hj
            · rcases List.mem_cons.1 hj with e | e
              · rw [if_pos e, if_pos e]
              · exact absurd (.inl e) hw
            · exact absurd (.inr hj) hw
        · have hw : ¬ Tch.W (f.eff (h.del i)) j := fun hh => hj (by rcases hh with hh | hh; exact .inl (by simp [hh]); exact .inr hh)
          obtain ⟨r5, r6⟩ := r4 j hw
          have hne : j ≠ i := fun e => hj (.inl (by simp [e]))
          rw [r5, r6, H.get_del, H.get_del, if_neg hne, if_neg hne]
          exact ⟨rfl, rfl⟩
  | new o f ih =>
    intro h k h' b hr hn hk
    simp only [CM.run, CM.eff] at hr hk ⊢
    rw [hn]
    obtain ⟨k', r1, r2, r3, r4⟩ := ih h.next (k := k.new o) hr (by rw [H.next_new, H.next_new, hn]) (fun j hj => by
      rw [H.get_new, H.get_new, hn]
      split
      · rfl
      · exact hk j (by rcases hj with hj | hj <;> simp [hj]))
    refine ⟨k', r1, r2, fun j hj => ?_, fun j hj => ?_⟩
    · by_cases hw : Tch.W ((f h.next).eff (h.new o)) j
      · exact r3 j hw
      · obtain ⟨r5, r6⟩ := r4 j hw
        rw [r5, r6, H.get_new, H.get_new, hn]
        rcases hj with hj | hj
        · exact absurd (.inl hj) hw
        · rcases List.mem_cons.1 hj with e | e
          · rw [if_pos e, if_pos e]
          · exact absurd (.inr e) hw
    · have hw : ¬ Tch.W ((f h.next).eff (h.new o)) j := fun hh => hj (by rcases hh with hh | hh; exact .inl hh; exact .inr (by simp [hh]))
      obtain ⟨r5, r6⟩ := r4 j hw
      have hne : j ≠ h.next := fun e => hj (.inr (by simp [e]))
      rw [r5, r6, H.get_new, H.get_new, hn, if_neg hne, if_neg hne]
      exact ⟨rfl, rfl⟩
/-- What a small program makes has a number that comes. -/
theorem CM.eff_al {α : Type} (x : CM α) : ∀ {h h' : H} {a : α}, x.run h = some (a, h') → ∀ i, i ∈ (x.eff h).al → h.next ≤ i ∧ i < h'.next := by
  induction x with
  | pure a => intro h h' b hr i hi; simp [CM.eff] at hi
  | fail => intro h h' b hr; simp [CM.run] at hr
  | get i f ih =>
    intro h h' b hr j hj
    simp only [CM.run, CM.eff] at hr hj
    cases hob : h.get i with
    | none => simp [hob] at hr
    | some o => simp only [hob] at hr hj; exact ih o hr j hj
  | put i o f ih =>
    intro h h' b hr j hj
    simp only [CM.run, CM.eff] at hr hj
    split at hr
    · cases hr
    · exact ih hr j hj
    · cases hr
  | del i f ih =>
    intro h h' b hr j hj
    simp only [CM.run, CM.eff] at hr hj
    split at hr
    · cases hr
    · exact ih hr j hj
    · cases hr
  | new o f ih =>
    intro h h' b hr j hj
    simp only [CM.run, CM.eff] at hr hj
    have mono : ∀ {α : Type} (x : CM α) {h h' : H} {a : α}, x.run h = some (a, h') → h.next ≤ h'.next := by
      intro α x
      induction x with
      | pure a => intro h h' b hr; simp [CM.run] at hr; rw [hr.2]; exact Nat.le_refl _
      | fail => intro h h' b hr; simp [CM.run] at hr
      | get i f ih => intro h h' b hr; simp only [CM.run] at hr; split at hr; exact ih _ hr; cases hr
      | put i o f ih => intro h h' b hr; simp only [CM.run] at hr; split at hr; cases hr; (have := ih hr; exact this); cases hr
      | del i f ih => intro h h' b hr; simp only [CM.run] at hr; split at hr; cases hr; (have := ih hr; exact this); cases hr
      | new o f ih => intro h h' b hr; simp only [CM.run] at hr; have := ih _ hr; rw [H.next_new] at this; omega
    have hm := mono _ hr
    rw [H.next_new] at hm
    rcases List.mem_cons.1 hj with e | e
    · subst e; exact ⟨Nat.le_refl _, by omega⟩
    · have := ih _ hr j e
      rw [H.next_new] at this
      exact ⟨by omega, this.2⟩

/-! ### A part of the heap -/
/-- h is a part of k. -/
def Sub (h k : H) : Prop := ∀ i o, h.get i = some o → k.get i = some o
theorem R.sub {g : Gh} {h k : H} {w : World} (hR : R g k w) (hs : Sub h k) : R g h w :=
  ⟨hR.ic, fun i o hi => hR.ob i o (hs i o hi), fun i j oi oj p q hi hj => hR.ex i j oi oj p q (hs i oi hi) (hs j oj hj)⟩
theorem Owned.sub {g : Gh} {h k : H} (hs : Sub h k) {b : Nat} (ho : Owned g h b) : Owned g k b := by
  obtain ⟨i, o, p, h1, h2, h3, h4⟩ := ho
  exact ⟨i, o, p, hs i o h1, h2, h3, h4⟩
/-- A step on a part of the heap is a step on the whole; the numbers are told beside. -/
structure StepW (g : Gh) (k : H) (w : World) (g' : Gh) (k' : H) (w' : World) : Prop where
  r : R g' k' w'
  le : g.le g'
  keep : Keep g k w w'
  own : ∀ b, Owned g' k' b → Owned g k b ∨ w.heap.size ≤ b
  icn : ∀ b o, g'.icell b o ≠ g.icell b o → Owned g k b ∨ w.heap.size ≤ b
  has : ∀ b, Has g' k' b → Has g k b ∨ w.heap.size ≤ b
theorem Step.w {g g' : Gh} {h h' : H} {w w' : World} (s : Step g h w g' h' w') : StepW g h w g' h' w' := ⟨s.r, s.le, s.keep, s.own, s.icn, s.has⟩
theorem StepW.trans {g g1 g2 : Gh} {h h1 h2 : H} {w w1 w2 : World} (a : StepW g h w g1 h1 w1) (b : StepW g1 h1 w1 g2 h2 w2) : StepW g h w g2 h2 w2 where
  r := b.r
  le := Gh.le_trans a.le b.le
  keep := {
    os := b.keep.os.trans a.keep.os
    tape := b.keep.tape.trans a.keep.tape
    output := b.keep.output.trans a.keep.output
    size := Nat.le_trans a.keep.size b.keep.size
    blk := fun k hk hn => by
      rw [b.keep.blk k (Nat.lt_of_lt_of_le hk a.keep.size) (fun ho => by
        rcases a.own k ho with h' | h'
        · exact hn h'
        · omega)]
      exact a.keep.blk k hk hn }
  own := fun k ho => by
    rcases b.own k ho with h' | h'
    · exact a.own k h'
    · exact .inr (Nat.le_trans a.keep.size h')
  icn := fun k o hne => by
    by_cases h1 : g1.icell k o = g.icell k o
    · rcases b.icn k o (by rw [h1]; exact hne) with h' | h'
      · exact a.own k h'
      · exact .inr (Nat.le_trans a.keep.size h')
    · exact a.icn k o h1
  has := fun k ho => by
    rcases b.has k ho with h' | h'
    · exact a.has k h'
    · exact .inr (Nat.le_trans a.keep.size h')
theorem StepW.lift {g g' : Gh} {h h' k k' : H} {w w' : World} (hR : R g k w) (hs : Sub h k) (s : StepW g h w g' h' w')
    (hk : ∀ i, (k'.get i = h'.get i ∧ (h.get i = none → h'.get i ≠ none → k.get i = none)) ∨ (h'.get i = h.get i ∧ k'.get i = k.get i)) : StepW g k w g' k' w' := by
  -- an object of the whole that the step does not know
  have farH : ∀ i o, k.get i = some o → h.get i = none → ∀ p, g.place i = some p → ¬ Has g h p.1 := by
    intro i o hi hn p hp ho
    obtain ⟨j, oj, q, hj, hq, e⟩ := ho
    have hne : i ≠ j := fun e' => by subst e'; rw [hn] at hj; cases hj
    exact hR.ex i j o oj p q hi (hs j oj hj) hp hq hne e.symm
  have far : ∀ i o, k.get i = some o → h.get i = none → ∀ p, g.place i = some p → ¬ Owned g h p.1 := fun i o hi hn p hp ho => farH i o hi hn p hp ho.has
  have cases' : ∀ i o, k'.get i = some o → (h'.get i = some o) ∨ (h.get i = none ∧ h'.get i = none ∧ k.get i = some o) := by
    intro i o hi
    rcases hk i with ⟨e1, _⟩ | ⟨e1, e2⟩
    · rw [e1] at hi; exact .inl hi
    · rw [e2] at hi
      cases hh : h.get i with
      | none => rw [hh] at e1; exact .inr ⟨rfl, e1, hi⟩
      | some o' =>
        have := hs i o' hh
        rw [this] at hi; cases hi
        rw [hh] at e1; exact .inl e1
  have lt : ∀ i o p, k.get i = some o → g.place i = some p → p.1 < w.heap.size := fun i o p hi hp => hR.lt hi hp
  refine ⟨⟨s.r.ic, fun i o hi => ?_, fun i j oi oj p q hi hj hpi hpj hij => ?_⟩, s.le, ⟨s.keep.os, s.keep.tape, s.keep.output, s.keep.size, fun b hb hn => s.keep.blk b hb (fun ho => hn (ho.sub hs))⟩, fun b hb => ?_, fun b o hne => (s.icn b o hne).imp (fun ho => ho.sub hs) (fun q => q), fun b hb => ?_⟩
  · rcases cases' i o hi with h1 | ⟨h1, _, h2⟩
    · exact s.r.ob i o h1
    · refine (hR.ob i o h2).keep s.le (fun p hp _ q => ?_) s.keep.size (fun p hp _ => s.keep.blk p.1 (lt i o p h2 hp) (far i o h2 h1 p hp))
      cases Classical.em (g'.icell p.1 q = g.icell p.1 q) with
      | inl e => exact e
      | inr e =>
        rcases s.icn p.1 q e with ho | ho
        · exact absurd ho (far i o h2 h1 p hp)
        · have := lt i o p h2 hp; omega
  · have pl : ∀ i o p, k.get i = some o → g'.place i = some p → g.place i = some p := by
      intro i o p hi hp
      obtain ⟨p', hp'⟩ := hR.placed hi
      have := s.le.2 _ _ hp'
      rw [this] at hp; cases hp; exact hp'
    -- one that the step knows against one that it does not
    have mix : ∀ i j oi oj p q, h'.get i = some oi → h.get j = none → k.get j = some oj → g'.place i = some p → g'.place j = some q → i ≠ j → p.1 ≠ q.1 := by
      intro i j oi oj p q hi hn hj hpi hpj hij e
      have hpj' := pl j oj q hj hpj
      rcases s.has p.1 ⟨i, oi, p, hi, hpi, rfl⟩ with ho | ho
      · exact farH j oj hj hn q hpj' (e ▸ ho)
      · have := lt j oj q hj hpj'; omega
    rcases cases' i oi hi with h1 | ⟨h1, h1', h2⟩
    · rcases cases' j oj hj with h3 | ⟨h3, h3', h4⟩
      · exact s.r.ex i j oi oj p q h1 h3 hpi hpj hij
      · exact mix i j oi oj p q h1 h3 h4 hpi hpj hij
    · rcases cases' j oj hj with h3 | ⟨h3, h3', h4⟩
      · exact fun e => mix j i oj oi q p h3 h1 h2 hpj hpi (Ne.symm hij) e.symm
      · exact hR.ex i j oi oj p q h2 h4 (pl i oi p h2 hpi) (pl j oj q h4 hpj) hij
  · obtain ⟨i, o, p, hi, hm, hp, rfl⟩ := hb
    rcases cases' i o hi with h1 | ⟨h1, _, h2⟩
    · exact (s.own p.1 ⟨i, o, p, h1, hm, hp, rfl⟩).imp (fun ho => ho.sub hs) (fun q => q)
    · obtain ⟨p', hp'⟩ := hR.placed h2
      have := s.le.2 _ _ hp'
      rw [this] at hp; cases hp
      exact .inl ⟨i, o, p, h2, hm, hp', rfl⟩
  · obtain ⟨i, o, p, hi, hp, rfl⟩ := hb
    rcases cases' i o hi with h1 | ⟨h1, _, h2⟩
    · refine (s.has p.1 ⟨i, o, p, h1, hp, rfl⟩).imp (fun ho => ?_) (fun q => q)
      obtain ⟨j, oj, q, a1, a2, a3⟩ := ho
      exact ⟨j, oj, q, hs j oj a1, a2, a3⟩
    · obtain ⟨p', hp'⟩ := hR.placed h2
      have := s.le.2 _ _ hp'
      rw [this] at hp; cases hp
      exact .inl ⟨i, o, p, h2, hp', rfl⟩
end Go.Cv
