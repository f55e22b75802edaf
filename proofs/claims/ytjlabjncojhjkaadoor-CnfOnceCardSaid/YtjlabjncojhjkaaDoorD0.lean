/- A part of the proof of a law of the given program: contracts of functions over the clean heap. -/
import Derived.Test.YtjlabjncojhjkaaDoorSeatG1
import Derived.Test.YtjlabjncojhjkaaDoorCv21
import Derived.Test.YtjlabjncojhjkaaDoorRows
import Derived.Test.YtjlabjncojhjkaaDoorCards
import Derived.Test.YtjlabjncojhjkaaDoorTie
import Derived.WalkKit
import Derived.ProofKit
import Derived.Deep.DeepHandedRow
import Derived.Lib.LaidTab
namespace Go.Proofs.YtjlabjncojhjkaaDoor
open Go Go.Cv
theorem own : ownKnob Tryd.prog.godebug = none := by kernel_rfl
theorem kids : Kids Tryd.prog (· < Tryd.prog.types.size) := kids_rows (by kernel_rfl) (by kernel_rfl)
theorem full : ∀ t e, t < Tryd.prog.types.size → Tryd.prog.underlying t = some (.slice e) → 0 < Tryd.prog.cellsOf e := slices_full_of Tryd.prog (by kernel_rfl)
theorem g_in : Tryd.prog.globalNamed "weirgate/graph.input" = some 0 := by kernel_rfl
theorem g_ty : (Tryd.prog.globals[0]?).map (·.type) = some 66 := by kernel_rfl
theorem u66 : (match Tryd.prog.underlying 66 with | some (.struct fs) => fs.toList.map (fun f => (f.offset, f.type)) == [(0, 3), (1, 3)] | _ => false) = true := by kernel_rfl
theorem u3 : Tryd.prog.underlying 3 = some (.int .i64) := Tryd.underlying3
theorem c3 : Tryd.prog.cellsOf 3 = 1 := by kernel_rfl
theorem c66 : Tryd.prog.cellsOf 66 = 2 := by kernel_rfl
/-- What the row's list gives: graph.input holds (-1, -1). -/
theorem glob {W : World} (h : laidMetH Tryd.prog [("weirgate/graph.input", Rows.laid_weirgate_graph_input)] W) : GlobOK E (g0 W) := by
  obtain ⟨ps, hl, _, _⟩ : laidMet Tryd.prog [("weirgate/graph.input", Rows.laid_weirgate_graph_input)] W := h
  obtain ⟨g, t, cs, fuel, p, q, hg, ht, hv, htr, _, _⟩ := hl
  rw [g_in] at hg; cases hg
  rw [g_ty] at ht; cases ht
  have hu := u66
  split at hu
  · rename_i fs hfs
    obtain ⟨xs, n, rfl, hx, hcl, hxl, hf⟩ := DataW.trod_struct hfs htr
    simp only [beq_iff_eq] at hu
    have hlen := congrArg List.length hu
    simp at hlen
    have at_ : ∀ (i o t : Nat), (fs.toList.map (fun f => (f.offset, f.type)))[i]? = some (o, t) → ∃ f, fs[i]? = some f ∧ f.offset = o ∧ f.type = t := by
      intro i o t h
      rw [List.getElem?_map, Option.map_eq_some_iff] at h
      obtain ⟨f, h1, h2⟩ := h
      exact ⟨f, by simpa using h1, congrArg Prod.fst h2, congrArg Prod.snd h2⟩
    rw [hu] at at_
    obtain ⟨f0, a0, a1, a2⟩ := at_ 0 0 3 rfl
    obtain ⟨f1, b0, b1, b2⟩ := at_ 1 1 3 rfl
    have h0 := hf 0 f0 a0
    have h1 := hf 1 f1 b0
    rw [a1, a2, c3] at h0
    rw [b1, b2, c3] at h1
    rw [c66] at hcl
    have hxs := congrArg Prod.fst hx
    simp only [Rows.laid_weirgate_graph_input, DataW.agg.injEq] at hxs
    have hx2 : xs.length = 2 := by rw [hxl]; simpa using hlen
    clear hx
    obtain ⟨x0, x1, rfl⟩ : ∃ x0 x1, xs = [x0, x1] := by
      match xs, hx2 with
      | [x0, x1], _ => exact ⟨x0, x1, rfl⟩
    · skip
      simp at hxs h0 h1
      obtain ⟨n0, c0, d0, _⟩ := DataW.trod_int u3 h0
      obtain ⟨n1, c1, d1, _⟩ := DataW.trod_int u3 h1
      rw [d0, d1] at hxs
      simp at hxs
      obtain ⟨rfl, rfl⟩ := hxs
      have k0 : cs[0]? = some (.int .i64 (-1)) := by have := congrArg (·[0]?) c0; simpa [List.getElem?_take] using this
      have k1 : cs[1]? = some (.int .i64 (-1)) := by have := congrArg (·[0]?) c1; simpa [List.getElem?_take, List.getElem?_drop] using this
      unfold World.var? at hv
      rw [g_in] at hv
      simp only [Option.bind_some] at hv
      split at hv
      · rename_i cur e fz hw
        cases hv
        intro gl cs' hc
        have hE : E.G gl = if gl = 0 then some [.int .i64 (-1), .int .i64 (-1)] else none := rfl
        rw [hE] at hc
        split at hc
        · rename_i hgl
          subst hgl
          cases hc
          have cell : ∀ j, j < 2 → (g0 W).icell 0 (0 + j) = some (.int .i64 (-1)) := by
            intro j hj
            show W.cell? ⟨0, 0 + j, none⟩ = _
            unfold World.cell?
            simp only [hw]
            rcases j with _ | _ | j
            · simpa using k0
            · simpa using k1
            · omega
          refine .iptr _ 0 0 0 (fun _ => .int .i64 (-1)) (fun j y hy => ?_) (fun j y hy => ?_)
          · have : j < 2 := (List.getElem?_eq_some_iff.1 hy).1
            exact ⟨cell j this, rfl⟩
          · rcases j with _ | _ | j
            · simp at hy; subst hy; exact .int _ _
            · simp at hy; subst hy; exact .int _ _
            · simp at hy
        · cases hc
      · cases hv
  · cases hu
/-- A world for the witness. -/
noncomputable def laidWorld (os : Os) : World :=
  { World.holding Tryd.prog os ⟨#[], #[], []⟩ with heap := (World.holding Tryd.prog os ⟨#[], #[], []⟩).heap.modify 0 fun
      | .cells _ t frozen => .cells #[.int .i64 (-1), .int .i64 (-1)] t frozen
      | o => o }
end Go.Proofs.YtjlabjncojhjkaaDoor
