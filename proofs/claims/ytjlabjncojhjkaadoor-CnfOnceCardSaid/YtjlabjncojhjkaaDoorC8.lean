/- A part of the proof of a law of the given program: contracts of functions over the clean heap. -/
import Derived.Test.YtjlabjncojhjkaaDoorC7
namespace Go.Proofs.YtjlabjncojhjkaaDoor
open Go Go.Cv
def isB : Option (CV × H) → Bool
  | some (.bool true, _) => true
  | _ => false
def isB2 (r : Option (CV × H)) (f : H → Option (CV × H)) : Bool := match r with
  | some (.bool true, h) => isB (f h)
  | _ => false
theorem aw7 : isB2 (runFn E 60 12 [] ⟨0, .leaf⟩) (fun h => runFn E 60 12 [] h) = true := by kernel_rfl
theorem aw7_run : Runs E 12 [] ⟨0, .leaf⟩ fun v h => v = .bool true ∧ Runs E 12 [] h fun v _ => v = .bool true := by
  have h := aw7
  unfold isB2 at h
  split at h
  · rename_i h1 e1
    refine ⟨60, _, _, e1, rfl, ?_⟩
    unfold isB at h
    split at h
    · rename_i e2; exact ⟨60, _, _, e2, rfl⟩
    · cases h
  · cases h
end Go.Proofs.YtjlabjncojhjkaaDoor
