/- A part of the proof of a law of the given program: contracts of functions over the clean heap. -/
import Derived.Test.YtjlabjncojhjkaaDoorG1c
namespace Go.Proofs.YtjlabjncojhjkaaDoor
open Go Go.Cv

/-- An edge that the graph has. -/
def Gr.edge (G : Gr) (e : Int) : Int := if e < 0 ∨ 2 * (G.l.length : Int) ≤ e then 0 else e
theorem edge_e {h : H} {F : Nat → Prop} {gid : Nat} {G : Gr} (hG : GraphAt h F gid G) {e : Int} (h1 : e ≤ 9223372036854775807) (K) (t) : uRuns E 49 [.ptr gid 0, .int .i64 e] h K t = K (.int .i64 (G.edge e)) h := by
  obtain ⟨lid, mid, insv, k1, _⟩ := hG.ex
  rw [edge_u k1]
  congr 2
  unfold Gr.edge
  by_cases he : e < 0
  · simp [he]
  · have : e.tdiv 2 = e / 2 := Int.tdiv_eq_ediv_of_nonneg (by omega)
    rw [this, wrap64 (by omega) (by omega)]
    have : ((G.l.length : Int) ≤ e / 2) ↔ (2 * (G.l.length : Int) ≤ e) := by omega
    simp [he, this]
end Go.Proofs.YtjlabjncojhjkaaDoor
