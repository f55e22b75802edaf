/- Drawn regions: whatever order the machine takes, it comes to what the order of the text comes to. -/
import Derived.Test.YtjlabjncojhjkaaDoorCv13b
namespace Go.Cv
open Go

/-! ### The run in the order of the text, taken apart -/
structure Text (E : Env) (call : CallF) (ops : List Oper) (bef : List Nat) (lo : Nat) (r : List Oper) (S : Nat → St) (T : Nat → Tch) (Hd : Nat → List Nat) : Prop where
  step : ∀ j o, r[j]? = some o → stepD E call ops o (Hd (lo + j)) (S (lo + j)) = some (S (lo + j + 1), T (lo + j))
  hid : ∀ j o, r[j]? = some o → ∀ x, x ∈ Hd (lo + j) ↔ ∃ m, m < lo + j ∧ ¬ (bef.getD (lo + j) 0).testBit m = true ∧ x ∈ (T m).al
  ok : ∀ j o, r[j]? = some o → ∀ m, m < lo + j → ¬ (bef.getD (lo + j) 0).testBit m = true → compatC (T m) (T (lo + j)) = true
theorem goD_text {E : Env} {call : CallF} {ops : List Oper} {bef : List Nat} : ∀ (r : List Oper) (i : Nat) (ts : List Tch) (st st' : St) (ts' : List Tch), goD E call ops bef i r ts st = some (st', ts') → ts.length = i →
    ∃ S T Hd, S i = st ∧ S (i + r.length) = st' ∧ (∀ j, j < i → ts[j]? = some (T j)) ∧ Text E call ops bef i r S T Hd := by
  intro r
  induction r with
  | nil =>
    intro i ts st st' ts' hr hl
    simp only [goD, Option.some.injEq, Prod.mk.injEq] at hr
    obtain ⟨rfl, rfl⟩ := hr
    exact ⟨fun _ => st, fun j => ts.getD j default, fun _ => [], rfl, rfl, fun j hj => by simp [hl, hj], ⟨by simp, by simp, by simp⟩⟩
  | cons o r ih =>
    intro i ts st st' ts' hr hl
    simp only [goD] at hr
    split at hr
    · rename_i st1 t1 hs
      split at hr
      · rename_i hall
        obtain ⟨S, T, Hd, h1, h2, h3, h4⟩ := ih (i + 1) (ts ++ [t1]) st1 st' ts' hr (by simp [hl])
        have hTi : T i = t1 := by
          have := h3 i (by omega)
          rw [List.getElem?_append_right (by omega)] at this
          simp [hl] at this
          exact this.symm
        have hTs : ∀ j, j < i → ts[j]? = some (T j) := fun j hj => by
          have := h3 j (by omega)
          rwa [List.getElem?_append_left (by omega)] at this
        have hun : ∀ (p : Tch × Nat), p ∈ ts.zipIdx.filter (fun p => !(bef.getD i 0).testBit p.2) ↔ p.2 < i ∧ ¬ (bef.getD i 0).testBit p.2 = true ∧ p.1 = T p.2 := by
          intro p
          simp only [List.mem_filter, List.mem_zipIdx_iff_getElem?]
          constructor
          · rintro ⟨a, b⟩
            have hp : p.2 < i := by rw [← hl]; exact (List.getElem?_eq_some_iff.1 a).1
            rw [hTs _ hp] at a
            exact ⟨hp, by simpa using b, by simpa using a.symm⟩
          · rintro ⟨a, b, c⟩
            exact ⟨by rw [hTs _ a, c], by simpa using b⟩
        refine ⟨fun j => if j = i then st else S j, T, fun j => if j = i then (ts.zipIdx.filter fun p => !(bef.getD i 0).testBit p.2).flatMap (fun p => p.1.al) else Hd j, by simp, ?_, hTs, ⟨fun j o' hj => ?_, fun j o' hj x => ?_, fun j o' hj m hm hn => ?_⟩⟩
        · simp only [List.length_cons]
          rw [if_neg (by omega), ← h2]
          congr 1; omega
        · cases j with
          | zero =>
            simp only [List.getElem?_cons_zero, Option.some.injEq] at hj; subst hj
            simp only [Nat.add_zero, if_true]
            rw [if_neg (by omega), h1, hTi]
            exact hs
          | succ j =>
            simp only [List.getElem?_cons_succ] at hj
            have := h4.step j o' hj
            rw [show i + 1 + j = i + (j + 1) from by omega] at this
            show stepD E call ops o' (if i + (j + 1) = i then _ else Hd (i + (j + 1))) (if i + (j + 1) = i then st else S (i + (j + 1))) = some (if i + (j + 1) + 1 = i then st else S (i + (j + 1) + 1), T (i + (j + 1)))
            rw [if_neg (by omega), if_neg (by omega), if_neg (by omega)]
            exact this
        · cases j with
          | zero =>
            simp only [Nat.add_zero, if_true, List.mem_flatMap]
            constructor
            · rintro ⟨p, hp, hx⟩
              obtain ⟨a, b, c⟩ := (hun p).1 hp
              exact ⟨p.2, a, b, c ▸ hx⟩
            · rintro ⟨m, a, b, c⟩
              exact ⟨(T m, m), (hun _).2 ⟨a, b, rfl⟩, c⟩
          | succ j =>
            simp only [List.getElem?_cons_succ] at hj
            have := h4.hid j o' hj x
            rw [show i + 1 + j = i + (j + 1) from by omega] at this
            show x ∈ (if i + (j + 1) = i then _ else Hd (i + (j + 1))) ↔ _
            rw [if_neg (by omega)]
            exact this
        · cases j with
          | zero =>
            simp only [Nat.add_zero] at hm hn ⊢
            have := List.all_eq_true.1 hall (T m, m) ((hun _).2 ⟨hm, hn, rfl⟩)
            rw [hTi]; exact this
          | succ j =>
            simp only [List.getElem?_cons_succ] at hj
            have := h4.ok j o' hj m (by omega) (by rwa [show i + 1 + j = i + (j + 1) from by omega])
            rwa [show i + 1 + j = i + (j + 1) from by omega] at this
      · cases hr
    · cases hr

/-! ### What comes before -/
def befB (acc : List Nat) (ops : List Oper) : List Nat := ops.foldl (fun acc o => acc ++ [(o.after.toList.filter bindsC).foldl (fun s e => s ||| (1 <<< e.on ||| acc.getD e.on 0)) 0]) acc
theorem befB_prefix : ∀ (ops : List Oper) (acc : List Nat) (j : Nat), j < acc.length → (befB acc ops).getD j 0 = acc.getD j 0 := by
  intro ops
  induction ops with
  | nil => intro acc j _; rfl
  | cons o r ih =>
    intro acc j hj
    unfold befB
    rw [List.foldl_cons]
    have := ih (acc ++ [(o.after.toList.filter bindsC).foldl (fun s e => s ||| (1 <<< e.on ||| acc.getD e.on 0)) 0]) j (by simp; omega)
    unfold befB at this
    rw [this]
    simp [List.getD_eq_getElem?_getD, List.getElem?_append_left hj]
theorem mem_befFold (acc : List Nat) (x : Nat) : ∀ (es : List Edge) (s : Nat), (es.foldl (fun s e => s ||| (1 <<< e.on ||| acc.getD e.on 0)) s).testBit x = true → s.testBit x = true ∨ ∃ e ∈ es, x = e.on ∨ (acc.getD e.on 0).testBit x = true := by
  intro es
  induction es with
  | nil => intro s h; exact .inl h
  | cons e es ih =>
    intro s h
    rw [List.foldl_cons] at h
    rcases ih _ h with h | ⟨e', h1, h2⟩
    · rw [Nat.testBit_or, Nat.testBit_or, Bool.or_eq_true, Bool.or_eq_true] at h
      rcases h with h | h | h
      · exact .inl h
      · rw [Nat.one_shiftLeft, Nat.testBit_two_pow] at h
        exact .inr ⟨e, by simp, .inl (by have := of_decide_eq_true h; exact this.symm)⟩
      · exact .inr ⟨e, by simp, .inr h⟩
    · exact .inr ⟨e', by simp [h1], h2⟩
theorem befB_mem {x : Nat} : ∀ (ops : List Oper) (acc : List Nat) (m : Nat), ((befB acc ops).getD (acc.length + m) 0).testBit x = true →
    ∃ o e, ops[m]? = some o ∧ e ∈ o.after.toList ∧ bindsC e = true ∧ (x = e.on ∨ ((befB acc ops).getD e.on 0).testBit x = true) := by
  intro ops
  induction ops with
  | nil =>
    intro acc m h
    simp only [befB, List.foldl_nil, List.getD_eq_getElem?_getD] at h
    rw [List.getElem?_eq_none (by omega)] at h; simp at h
  | cons o r ih =>
    intro acc m h
    have hB : befB acc (o :: r) = befB (acc ++ [(o.after.toList.filter bindsC).foldl (fun s e => s ||| (1 <<< e.on ||| acc.getD e.on 0)) 0]) r := rfl
    cases m with
    | zero =>
      rw [hB, befB_prefix _ _ _ (by simp)] at h
      simp only [List.getD_eq_getElem?_getD] at h
      rw [List.getElem?_append_right (by omega)] at h
      simp only [Nat.add_zero, Nat.sub_self, List.getElem?_cons_zero, Option.getD_some, ← List.getD_eq_getElem?_getD] at h
      rcases mem_befFold acc x _ _ h with h | ⟨e, h1, h2⟩
      · simp at h
      · rw [List.mem_filter] at h1
        refine ⟨o, e, rfl, h1.1, h1.2, h2.imp (fun q => q) (fun q => ?_)⟩
        have he : e.on < acc.length := by
          rcases Nat.lt_or_ge e.on acc.length with h' | h'
          · exact h'
          · rw [List.getD_eq_getElem?_getD, List.getElem?_eq_none h'] at q; simp at q
        rwa [hB, befB_prefix _ _ _ (by simp; omega), show (acc ++ [(o.after.toList.filter bindsC).foldl (fun s e => s ||| (1 <<< e.on ||| acc.getD e.on 0)) 0]).getD e.on 0 = acc.getD e.on 0 by simp [List.getD_eq_getElem?_getD, List.getElem?_append_left he]]
    | succ m =>
      rw [hB] at h ⊢
      have := ih (acc ++ [(o.after.toList.filter bindsC).foldl (fun s e => s ||| (1 <<< e.on ||| acc.getD e.on 0)) 0]) m (by
        simp only [List.length_append, List.length_cons, List.length_nil]
        rwa [show acc.length + 1 + m = acc.length + (m + 1) from by omega])
      simpa using this
theorem befC_mem {ops : List Oper} {x j : Nat} (h : ((befC ops).getD j 0).testBit x = true) : ∃ o e, ops[j]? = some o ∧ e ∈ o.after.toList ∧ bindsC e = true ∧ (x = e.on ∨ ((befC ops).getD e.on 0).testBit x = true) := by
  have := befB_mem ops [] j (by simpa [befC, befB] using h)
  exact this
theorem binds_any (e : Edge) : Region.binds .any e = bindsC e := by
  unfold Region.binds bindsC
  cases e.ground <;> rfl
end Go.Cv
