/- A part of the proof of a law of the given program: contracts of functions over the clean heap. -/
import Derived.Test.YtjlabjncojhjkaaDoorD1
import Derived.Test.YtjlabjncojhjkaaDoorC10
namespace Go.Proofs.YtjlabjncojhjkaaDoor
open Go Go.Cv
theorem u23 : Tryd.prog.underlying 23 = some (.slice 5) := by kernel_rfl
theorem u5 : Tryd.prog.underlying 5 = some (.int .u8) := by kernel_rfl
theorem cc5 : Tryd.prog.cellsOf 5 = 1 := by kernel_rfl
theorem wf_u8 {n : Int} (h : (Lit.int .u8 n).wf = true) : 0 ≤ n ∧ n < 256 := by
  simp only [Lit.wf, Bool.and_eq_true, decide_eq_true_eq] at h
  have h1 : IntKind.u8.min = 0 := rfl
  have h2 : IntKind.u8.max = 255 := rfl
  omega
theorem u8sV {c : CV} (h : FitV Tryd.prog 23 c) : ∃ ps : List Int, c = .lst 1 (ps.map u8C) ∧ ∀ p ∈ ps, 0 ≤ p ∧ p < 256 := by
  unfold FitV at h
  rw [u23] at h
  obtain ⟨xs, e, _, hx⟩ := fit_sl u23 h
  rw [cc5] at e
  have : ∀ xs : List (List CV), (∀ x ∈ xs, Fit Tryd.prog 5 x) → ∃ ps : List Int, xs = ps.map u8C ∧ ∀ p ∈ ps, 0 ≤ p ∧ p < 256 := by
    intro xs
    induction xs with
    | nil => intro _; exact ⟨[], rfl, by simp⟩
    | cons x xs ih =>
      intro hx
      obtain ⟨n, rfl, hn⟩ := fit_int (c := .undef) u5 (hx x (by simp))
      obtain ⟨ps, rfl, hps⟩ := ih fun y hy => hx y (by simp [hy])
      refine ⟨n :: ps, rfl, fun p hp => ?_⟩
      rcases List.mem_cons.1 hp with rfl | hp
      · exact wf_u8 hn
      · exact hps p hp
  obtain ⟨ps, rfl, hps⟩ := this xs hx
  exact ⟨ps, by simpa using e, hps⟩
end Go.Proofs.YtjlabjncojhjkaaDoor
