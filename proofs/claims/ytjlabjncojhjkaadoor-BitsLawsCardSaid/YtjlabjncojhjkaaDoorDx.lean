/- A part of the proof of a law of the given program: contracts of functions over the clean heap. -/
import Derived.Test.YtjlabjncojhjkaaDoorSeatG1
import Derived.Test.YtjlabjncojhjkaaDoorCv21
import Derived.Test.YtjlabjncojhjkaaDoorRows
import Derived.Test.YtjlabjncojhjkaaDoorCards
import Derived.Test.YtjlabjncojhjkaaDoorTie
import Derived.WalkKit
import Derived.ProofKit
import Derived.Deep.DeepHandedRow
import Derived.Lib.LaidTab
namespace Go.Proofs.YtjlabjncojhjkaaDoor
open Go Go.Cv
theorem own : ownKnob Tryd.prog.godebug = none := by kernel_rfl
theorem kids : Kids Tryd.prog (· < Tryd.prog.types.size) := kids_rows (by kernel_rfl) (by kernel_rfl)
theorem full : ∀ t e, t < Tryd.prog.types.size → Tryd.prog.underlying t = some (.slice e) → 0 < Tryd.prog.cellsOf e := slices_full_of Tryd.prog (by kernel_rfl)
theorem g_in : Tryd.prog.globalNamed "weirgate/graph.input" = some 0 := by kernel_rfl
theorem g_ty : (Tryd.prog.globals[0]?).map (·.type) = some 66 := by kernel_rfl
theorem u66 : (match Tryd.prog.underlying 66 with | some (.struct fs) => fs.toList.map (fun f => (f.offset, f.type)) == [(0, 3), (1, 3)] | _ => false) = true := by kernel_rfl
theorem u3 : Tryd.prog.underlying 3 = some (.int .i64) := Tryd.underlying3
theorem c3 : Tryd.prog.cellsOf 3 = 1 := by kernel_rfl
theorem c66 : Tryd.prog.cellsOf 66 = 2 := by kernel_rfl
/-- What the row's list gives: graph.input holds (-1, -1). -/
theorem glob {W : World} (h : laidMetH Tryd.prog [("weirgate/graph.input", Rows.laid_weirgate_graph_input)] W) : GlobOK E (g0 W) := by
  obtain ⟨ps, hl, _, _⟩ : laidMet Tryd.prog [("weirgate/graph.input", Rows.laid_weirgate_graph_input)] W := h
  obtain ⟨g, t, cs, fuel, p, q, hg, ht, hv, htr, _, _⟩ := hl
  rw [g_in] at hg; cases hg
  rw [g_ty] at ht; cases ht
  have hu := u66
  split at hu
  · rename_i fs hfs
    obtain ⟨xs, n, rfl, hx, hcl, hxl, hf⟩ := DataW.trod_struct hfs htr
    simp only [beq_iff_eq] at hu
    have hlen := congrArg List.length hu
    simp at hlen
    have at_ : ∀ (i o t : Nat), (fs.toList.map (fun f => (f.offset, f.type)))[i]? = some (o, t) → ∃ f, fs[i]? = some f ∧ f.offset = o ∧ f.type = t := by
      intro i o t h
      rw [List.getElem?_map, Option.map_eq_some_iff] at h
      obtain ⟨f, h1, h2⟩ := h
      exact ⟨f, by simpa using h1, congrArg Prod.fst h2, congrArg Prod.snd h2⟩
    rw [hu] at at_
    obtain ⟨f0, a0, a1, a2⟩ := at_ 0 0 3 rfl
    obtain ⟨f1, b0, b1, b2⟩ := at_ 1 1 3 rfl
    have h0 := hf 0 f0 a0
    have h1 := hf 1 f1 b0
    rw [a1, a2, c3] at h0
    rw [b1, b2, c3] at h1
    rw [c66] at hcl
    have hxs := congrArg Prod.fst hx
    simp only [Rows.laid_weirgate_graph_input, DataW.agg.injEq] at hxs
    have hx2 : xs.length = 2 := by rw [hxl]; simpa using hlen
    clear hx
    obtain ⟨x0, x1, rfl⟩ : ∃ x0 x1, xs = [x0, x1] := by
      match xs, hx2 with
      | [x0, x1], _ => exact ⟨x0, x1, rfl⟩
    · skip
      simp at hxs h0 h1
      obtain ⟨n0, c0, d0, _⟩ := DataW.trod_int u3 h0
      obtain ⟨n1, c1, d1, _⟩ := DataW.trod_int u3 h1
      rw [d0, d1] at hxs
      simp at hxs
      obtain ⟨rfl, rfl⟩ := hxs
      have k0 : cs[0]? = some (.int .i64 (-1)) := by have := congrArg (·[0]?) c0; simpa [List.getElem?_take] using this
      have k1 : cs[1]? = some (.int .i64 (-1)) := by have := congrArg (·[0]?) c1; simpa [List.getElem?_take, List.getElem?_drop] using this
      unfold World.var? at hv
      rw [g_in] at hv
      simp only [Option.bind_some] at hv
      split at hv
      · rename_i cur e fz hw
        cases hv
        intro gl cs' hc
        have hE : E.G gl = if gl = 0 then some [.int .i64 (-1), .int .i64 (-1)] else none := rfl
        rw [hE] at hc
        split at hc
        · rename_i hgl
          subst hgl
          cases hc
          have cell : ∀ j, j < 2 → (g0 W).icell 0 (0 + j) = some (.int .i64 (-1)) := by
            intro j hj
            show W.cell? ⟨0, 0 + j, none⟩ = _
            unfold World.cell?
            simp only [hw]
            rcases j with _ | _ | j
            · simpa using k0
            · simpa using k1
            · omega
          refine .iptr _ 0 0 0 (fun _ => .int .i64 (-1)) (fun j y hy => ?_) (fun j y hy => ?_)
          · have : j < 2 := (List.getElem?_eq_some_iff.1 hy).1
            exact ⟨cell j this, rfl⟩
          · rcases j with _ | _ | j
            · simp at hy; subst hy; exact .int _ _
            · simp at hy; subst hy; exact .int _ _
            · simp at hy
        · cases hc
      · cases hv
  · cases hu
/-- A world for the witness. -/
noncomputable def laidWorld (os : Os) : World :=
  { World.holding Tryd.prog os ⟨#[], #[], []⟩ with heap := (World.holding Tryd.prog os ⟨#[], #[], []⟩).heap.modify 0 fun
      | .cells _ t frozen => .cells #[.int .i64 (-1), .int .i64 (-1)] t frozen
      | o => o }
end Go.Proofs.YtjlabjncojhjkaaDoor
namespace Go.Proofs.YtjlabjncojhjkaaDoor
open Go Go.Cv
theorem fit_int {t : TypeId} {k : IntKind} (ht : Tryd.prog.underlying t = some (.int k)) {cs : List CV} (h : Fit Tryd.prog t cs) : ∃ n, cs = [.int k n] ∧ (Lit.int k n).wf = true := by
  cases h with
  | int k' n h hw => rw [ht] at h; cases h; exact ⟨n, rfl, hw⟩
  | bool b h => rw [ht] at h; cases h
  | str s h => rw [ht] at h; cases h
  | sl xs h => rw [ht] at h; cases h
  | struct cs h => rw [ht] at h; cases h
  | arr cs h => rw [ht] at h; cases h
theorem fit_sl {t e : TypeId} (ht : Tryd.prog.underlying t = some (.slice e)) {cs : List CV} (h : Fit Tryd.prog t cs) : ∃ xs, cs = [.lst (Tryd.prog.cellsOf e) xs] ∧ xs.length ≤ maxLen ∧ ∀ x ∈ xs, Fit Tryd.prog e x := by
  cases h with
  | sl xs h hl hx => rw [ht] at h; cases h; exact ⟨xs, rfl, hl, hx⟩
  | int k' n h hw => rw [ht] at h; cases h
  | bool b h => rw [ht] at h; cases h
  | str s h => rw [ht] at h; cases h
  | struct cs h => rw [ht] at h; cases h
  | arr cs h => rw [ht] at h; cases h
theorem fit_struct {t : TypeId} {fs : Array Field} (ht : Tryd.prog.underlying t = some (.struct fs)) {cs : List CV} (h : Fit Tryd.prog t cs) : cs.length = Tryd.prog.cellsOf t ∧ ∀ (i : Nat) (f : Field), fs[i]? = some f → Fit Tryd.prog f.type ((cs.drop f.offset).take (Tryd.prog.cellsOf f.type)) := by
  cases h with
  | struct cs h hl hx => rw [ht] at h; cases h; exact ⟨hl, hx⟩
  | sl xs h hl hx => rw [ht] at h; cases h
  | int k' n h hw => rw [ht] at h; cases h
  | bool b h => rw [ht] at h; cases h
  | str s h => rw [ht] at h; cases h
  | arr cs h => rw [ht] at h; cases h
theorem fit_arr {t e : TypeId} {n : Nat} (ht : Tryd.prog.underlying t = some (.array n e)) {cs : List CV} (h : Fit Tryd.prog t cs) : cs.length = Tryd.prog.cellsOf t ∧ ∀ i, i < n → Fit Tryd.prog e ((cs.drop (i * Tryd.prog.cellsOf e)).take (Tryd.prog.cellsOf e)) := by
  cases h with
  | arr cs h hl hx => rw [ht] at h; cases h; exact ⟨hl, hx⟩
  | struct cs h => rw [ht] at h; cases h
  | sl xs h hl hx => rw [ht] at h; cases h
  | int k' n h hw => rw [ht] at h; cases h
  | bool b h => rw [ht] at h; cases h
  | str s h => rw [ht] at h; cases h
theorem fit_bool {t : TypeId} (ht : Tryd.prog.underlying t = some .bool) {cs : List CV} (h : Fit Tryd.prog t cs) : ∃ b, cs = [.bool b] := by
  cases h with
  | bool b h => exact ⟨b, rfl⟩
  | int k' n h hw => rw [ht] at h; cases h
  | str s h => rw [ht] at h; cases h
  | sl xs h => rw [ht] at h; cases h
  | struct cs h => rw [ht] at h; cases h
  | arr cs h => rw [ht] at h; cases h
theorem wf_i64 {n : Int} (h : (Lit.int .i64 n).wf = true) : -9223372036854775808 ≤ n ∧ n ≤ 9223372036854775807 := by
  simp only [Lit.wf, Bool.and_eq_true, decide_eq_true_eq] at h
  exact h
theorem u5 : Tryd.prog.underlying 5 = some (.int .u8) := by kernel_rfl
theorem wf_u8 {n : Int} (h : (Lit.int .u8 n).wf = true) : 0 ≤ n ∧ n < 256 := by
  simp only [Lit.wf, Bool.and_eq_true, decide_eq_true_eq] at h
  have h1 : IntKind.u8.min = 0 := rfl
  have h2 : IntKind.u8.max = 255 := rfl
  omega
theorem fitAll_one {t : TypeId} {cvs : List CV} (h : FitAll Tryd.prog [t] cvs) : ∃ c, cvs = [c] ∧ FitV Tryd.prog t c := by
  match cvs, h with
  | [c], ⟨h, _⟩ => exact ⟨c, rfl, h⟩
theorem fitAll_two {t u : TypeId} {cvs : List CV} (h : FitAll Tryd.prog [t, u] cvs) : ∃ c d, cvs = [c, d] ∧ FitV Tryd.prog t c ∧ FitV Tryd.prog u d := by
  match cvs, h with
  | [c, d], ⟨h, k, _⟩ => exact ⟨c, d, rfl, h, k⟩
theorem fitAll_three {t u s : TypeId} {cvs : List CV} (h : FitAll Tryd.prog [t, u, s] cvs) : ∃ c d e, cvs = [c, d, e] ∧ FitV Tryd.prog t c ∧ FitV Tryd.prog u d ∧ FitV Tryd.prog s e := by
  match cvs, h with
  | [c, d, e], ⟨h, k, l, _⟩ => exact ⟨c, d, e, rfl, h, k, l⟩
end Go.Proofs.YtjlabjncojhjkaaDoor
namespace Go.Proofs.YtjlabjncojhjkaaDoor
open Go Go.Cv
theorem intV {c : CV} (h : FitV Tryd.prog 3 c) : ∃ n, c = .int .i64 n ∧ -9223372036854775808 ≤ n ∧ n ≤ 9223372036854775807 := by
  unfold FitV at h
  rw [u3] at h
  obtain ⟨n, e, hw⟩ := fit_int u3 h
  exact ⟨n, by simpa using e, wf_i64 hw⟩
theorem u8V {c : CV} (h : FitV Tryd.prog 5 c) : ∃ n, c = .int .u8 n ∧ 0 ≤ n ∧ n < 256 := by
  unfold FitV at h
  rw [u5] at h
  obtain ⟨n, e, hw⟩ := fit_int u5 h
  exact ⟨n, by simpa using e, wf_u8 hw⟩
theorem boolV {c : CV} (h : FitV Tryd.prog 4 c) : ∃ b, c = .bool b := by
  unfold FitV at h
  rw [Tryd.underlying4] at h
  obtain ⟨b, e⟩ := fit_bool Tryd.underlying4 h
  exact ⟨b, by simpa using e⟩
end Go.Proofs.YtjlabjncojhjkaaDoor
