/- A part of the proof of a law of the given program: contracts of functions over the clean heap. -/
import Derived.Test.YtjlabjncojhjkaaDoorG1b
import Derived.Test.YtjlabjncojhjkaaDoorCv19
namespace Go.Proofs.YtjlabjncojhjkaaDoor
open Go Go.Cv
theorem not_u (e : Int) (h : H) (K) (t) : uRuns E 18 [.int .i64 e] h K t = K (.int .i64 (IntKind.i64.wrap (BitVec.ofInt 64 e ^^^ BitVec.ofInt 64 1).toNat)) h := Runs.det ⟨1, _, _, by kernel_rfl, rfl, rfl⟩
theorem not_e {e : Int} (h0 : 0 ≤ e) (h1 : e < 4611686018427387904) (h : H) (K) (t) : uRuns E 18 [.int .i64 e] h K t = K (.int .i64 (if e % 2 = 0 then e + 1 else e - 1)) h := by rw [not_u, not_val h0 h1]
/-- Where a pair stands in the map. -/
def lookPI : List ((Int × Int) × Int) → Int → Int → Nat → Option (Nat × Int)
  | [], _, _, _ => none
  | ((x, y), e) :: r, a, b, i => if a = x ∧ b = y then some (i, e) else lookPI r a b (i + 1)
theorem findC_pairs (a b : Int) : ∀ (is : List ((Int × Int) × Int)) (i : Nat), findC true [.int .i64, .int .i64] (.agg [.int .i64 a, .int .i64 b]) (mapE is) i = some ((lookPI is a b i).map fun p => (p.1, .int .i64 p.2))
  | [], i => by simp [mapE, findC, lookPI]
  | ((x, y), e) :: r, i => by
    have ih := findC_pairs a b r (i + 1)
    simp only [mapE, List.map_cons] at *
    simp only [findC, keyCells, cmpL, cmpC, if_true, lookPI]
    by_cases h1 : a = x
    · by_cases h2 : b = y
      · simp [h1, h2]
      · have e2 : (b == y) = false := by simpa using h2
        simp only [e2, Bool.and_true, Bool.and_false, h2, and_false, if_false]
        exact ih
    · have e1 : (a == x) = false := by simpa using h1
      simp only [e1, Bool.false_and, h1, false_and, if_false]
      exact ih
end Go.Proofs.YtjlabjncojhjkaaDoor
