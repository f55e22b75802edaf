/- A part of the proof of a law of the given program: contracts of functions over the clean heap. -/
import Derived.Test.YtjlabjncojhjkaaDoorDx
namespace Go.Proofs.YtjlabjncojhjkaaDoor
open Go Go.Cv
/-! ### An array of two bytes as an argument -/
theorem u41 : Tryd.prog.underlying 41 = some (.array 2 5) := by kernel_rfl
theorem c41 : Tryd.prog.cellsOf 41 = 2 := by kernel_rfl
theorem c5 : Tryd.prog.cellsOf 5 = 1 := by kernel_rfl
theorem arr2V {c : CV} (h : FitV Tryd.prog 41 c) : ∃ p q : Int, c = .agg [.int .u8 p, .int .u8 q] ∧ (0 ≤ p ∧ p < 256) ∧ (0 ≤ q ∧ q < 256) := by
  unfold FitV at h
  rw [u41] at h
  obtain ⟨cs, rfl, h⟩ := h
  obtain ⟨hl, hx⟩ := fit_arr u41 h
  rw [c41] at hl
  have h0 := hx 0 (by omega)
  have h1 := hx 1 (by omega)
  rw [c5] at h0 h1
  obtain ⟨p, e0, w0⟩ := fit_int u5 h0
  obtain ⟨q, e1, w1⟩ := fit_int u5 h1
  match cs, hl with
  | [x, y], _ =>
    simp at e0 e1
    subst e0; subst e1
    exact ⟨p, q, rfl, wf_u8 w0, wf_u8 w1⟩
end Go.Proofs.YtjlabjncojhjkaaDoor
