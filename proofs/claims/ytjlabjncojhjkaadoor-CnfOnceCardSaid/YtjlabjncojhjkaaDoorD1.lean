/- A part of the proof of a law of the given program: contracts of functions over the clean heap. -/
import Derived.Test.YtjlabjncojhjkaaDoorD0
import Derived.Test.YtjlabjncojhjkaaDoorC6
namespace Go.Proofs.YtjlabjncojhjkaaDoor
open Go Go.Cv
theorem fit_int {c : CV} {t : TypeId} {k : IntKind} (ht : Tryd.prog.underlying t = some (.int k)) {cs : List CV} (h : Fit Tryd.prog t cs) : ∃ n, cs = [.int k n] ∧ (Lit.int k n).wf = true := by
  cases h with
  | int k' n h hw => rw [ht] at h; cases h; exact ⟨n, rfl, hw⟩
  | bool b h => rw [ht] at h; cases h
  | str s h => rw [ht] at h; cases h
  | sl xs h => rw [ht] at h; cases h
  | struct cs h => rw [ht] at h; cases h
  | arr cs h => rw [ht] at h; cases h
theorem fit_sl {t e : TypeId} (ht : Tryd.prog.underlying t = some (.slice e)) {cs : List CV} (h : Fit Tryd.prog t cs) : ∃ xs, cs = [.lst (Tryd.prog.cellsOf e) xs] ∧ xs.length ≤ maxLen ∧ ∀ x ∈ xs, Fit Tryd.prog e x := by
  cases h with
  | sl xs h hl hx => rw [ht] at h; cases h; exact ⟨xs, rfl, hl, hx⟩
  | int k' n h hw => rw [ht] at h; cases h
  | bool b h => rw [ht] at h; cases h
  | str s h => rw [ht] at h; cases h
  | struct cs h => rw [ht] at h; cases h
  | arr cs h => rw [ht] at h; cases h
theorem fit_struct {t : TypeId} {fs : Array Field} (ht : Tryd.prog.underlying t = some (.struct fs)) {cs : List CV} (h : Fit Tryd.prog t cs) : cs.length = Tryd.prog.cellsOf t ∧ ∀ (i : Nat) (f : Field), fs[i]? = some f → Fit Tryd.prog f.type ((cs.drop f.offset).take (Tryd.prog.cellsOf f.type)) := by
  cases h with
  | struct cs h hl hx => rw [ht] at h; cases h; exact ⟨hl, hx⟩
  | sl xs h hl hx => rw [ht] at h; cases h
  | int k' n h hw => rw [ht] at h; cases h
  | bool b h => rw [ht] at h; cases h
  | str s h => rw [ht] at h; cases h
  | arr cs h => rw [ht] at h; cases h
theorem fit_arr {t e : TypeId} {n : Nat} (ht : Tryd.prog.underlying t = some (.array n e)) {cs : List CV} (h : Fit Tryd.prog t cs) : cs.length = Tryd.prog.cellsOf t ∧ ∀ i, i < n → Fit Tryd.prog e ((cs.drop (i * Tryd.prog.cellsOf e)).take (Tryd.prog.cellsOf e)) := by
  cases h with
  | arr cs h hl hx => rw [ht] at h; cases h; exact ⟨hl, hx⟩
  | struct cs h => rw [ht] at h; cases h
  | sl xs h hl hx => rw [ht] at h; cases h
  | int k' n h hw => rw [ht] at h; cases h
  | bool b h => rw [ht] at h; cases h
  | str s h => rw [ht] at h; cases h
theorem fit_bool {t : TypeId} (ht : Tryd.prog.underlying t = some .bool) {cs : List CV} (h : Fit Tryd.prog t cs) : ∃ b, cs = [.bool b] := by
  cases h with
  | bool b h => exact ⟨b, rfl⟩
  | int k' n h hw => rw [ht] at h; cases h
  | str s h => rw [ht] at h; cases h
  | sl xs h => rw [ht] at h; cases h
  | struct cs h => rw [ht] at h; cases h
  | arr cs h => rw [ht] at h; cases h
theorem wf_i64 {n : Int} (h : (Lit.int .i64 n).wf = true) : -9223372036854775808 ≤ n ∧ n ≤ 9223372036854775807 := by
  simp only [Lit.wf, Bool.and_eq_true, decide_eq_true_eq] at h
  exact h
theorem uAct : (match Tryd.prog.underlying 39 with | some (.struct fs) => fs.toList.map (fun f => (f.offset, f.type)) == [(0, 3), (1, 3), (2, 3), (3, 3)] | _ => false) = true := by kernel_rfl
theorem cAct : Tryd.prog.cellsOf 39 = 4 := by kernel_rfl
theorem act_fit {cs : List CV} (h : Fit Tryd.prog 39 cs) : ∃ x : Act, cs = actC x ∧ x.fits := by
  have hu := uAct
  split at hu
  · rename_i fs hfs
    obtain ⟨hl, hx⟩ := fit_struct hfs h
    rw [cAct] at hl
    simp only [beq_iff_eq] at hu
    have at_ : ∀ (i o : Nat), (fs.toList.map (fun f => (f.offset, f.type)))[i]? = some (o, 3) → ∃ n, ((cs.drop o).take 1) = [.int .i64 n] ∧ (Lit.int .i64 n).wf = true := by
      intro i o h
      rw [List.getElem?_map, Option.map_eq_some_iff] at h
      obtain ⟨f, h1, h2⟩ := h
      have h3 : f.offset = o := congrArg Prod.fst h2
      have h4 : f.type = 3 := congrArg Prod.snd h2
      have := hx i f (by simpa using h1)
      rw [h3, h4, c3] at this
      exact fit_int (c := .undef) u3 this
    rw [hu] at at_
    obtain ⟨n0, a0, w0⟩ := at_ 0 0 rfl
    obtain ⟨n1, a1, w1⟩ := at_ 1 1 rfl
    obtain ⟨n2, a2, w2⟩ := at_ 2 2 rfl
    obtain ⟨n3, a3, w3⟩ := at_ 3 3 rfl
    match cs, hl with
    | [c0, c1, c2, c3], _ =>
      simp at a0 a1 a2 a3
      subst a0; subst a1; subst a2; subst a3
      exact ⟨⟨n0, n1, n2, n3⟩, rfl, (wf_i64 w1).2, (wf_i64 w2).2⟩
  · cases hu
theorem u22 : Tryd.prog.underlying 22 = some (.slice 39) := by kernel_rfl
theorem acts_fit {cs : List CV} (h : Fit Tryd.prog 22 cs) : ∃ acts : List Act, cs = [.lst 4 (acts.map actC)] ∧ ∀ x ∈ acts, x.fits := by
  obtain ⟨xs, rfl, _, hx⟩ := fit_sl u22 h
  rw [cAct]
  have : ∀ xs : List (List CV), (∀ x ∈ xs, Fit Tryd.prog 39 x) → ∃ acts : List Act, xs = acts.map actC ∧ ∀ x ∈ acts, x.fits := by
    intro xs
    induction xs with
    | nil => intro _; exact ⟨[], rfl, by simp⟩
    | cons x xs ih =>
      intro hx
      obtain ⟨a, rfl, ha⟩ := act_fit (hx x (by simp))
      obtain ⟨bs, rfl, hbs⟩ := ih fun y hy => hx y (by simp [hy])
      exact ⟨a :: bs, rfl, by simpa [ha] using hbs⟩
  obtain ⟨acts, rfl, ha⟩ := this xs hx
  exact ⟨acts, rfl, ha⟩
theorem fitAll_one {t : TypeId} {cvs : List CV} (h : FitAll Tryd.prog [t] cvs) : ∃ c, cvs = [c] ∧ FitV Tryd.prog t c := by
  match cvs, h with
  | [c], ⟨h, _⟩ => exact ⟨c, rfl, h⟩
theorem fitAll_two {t u : TypeId} {cvs : List CV} (h : FitAll Tryd.prog [t, u] cvs) : ∃ c d, cvs = [c, d] ∧ FitV Tryd.prog t c ∧ FitV Tryd.prog u d := by
  match cvs, h with
  | [c, d], ⟨h, k, _⟩ => exact ⟨c, d, rfl, h, k⟩
theorem fitAll_three {t u s : TypeId} {cvs : List CV} (h : FitAll Tryd.prog [t, u, s] cvs) : ∃ c d e, cvs = [c, d, e] ∧ FitV Tryd.prog t c ∧ FitV Tryd.prog u d ∧ FitV Tryd.prog s e := by
  match cvs, h with
  | [c, d, e], ⟨h, k, l, _⟩ => exact ⟨c, d, e, rfl, h, k, l⟩
theorem actsV {c : CV} (h : FitV Tryd.prog 22 c) : ∃ acts : List Act, c = .lst 4 (acts.map actC) ∧ ∀ x ∈ acts, x.fits := by
  unfold FitV at h
  rw [u22] at h
  obtain ⟨acts, e, ha⟩ := acts_fit h
  exact ⟨acts, by simpa using e, ha⟩
end Go.Proofs.YtjlabjncojhjkaaDoor
