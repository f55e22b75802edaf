/- A part of the proof of a law of the given program: contracts of functions over the clean heap. -/
import Derived.Test.YtjlabjncojhjkaaDoorG2c
namespace Go.Proofs.YtjlabjncojhjkaaDoor
open Go Go.Cv
/-! ### Maps of numbers -/
def mapI (l : List (Int × Int)) : List (CV × CV) := l.map fun p => (.int .i64 p.1, .int .i64 p.2)
def lookI : List (Int × Int) → Int → Nat → Option (Nat × Int)
  | [], _, _ => none
  | (x, v) :: r, a, i => if a = x then some (i, v) else lookI r a (i + 1)
theorem findC_ints (a : Int) : ∀ (l : List (Int × Int)) (i : Nat), findC false [.int .i64] (.int .i64 a) (mapI l) i = some ((lookI l a i).map fun p => (p.1, .int .i64 p.2))
  | [], i => by simp [mapI, findC, lookI]
  | (x, v) :: r, i => by
    have ih := findC_ints a r (i + 1)
    simp only [mapI, List.map_cons] at *
    simp only [findC, keyCells, cmpL, cmpC, if_true, lookI]
    by_cases h1 : a = x
    · simp [h1]
    · have e1 : (a == x) = false := by simpa using h1
      simp only [e1, h1, if_false]
      simpa using ih
end Go.Proofs.YtjlabjncojhjkaaDoor
