/- Loops, stepped through: the slots ahead of a round are told by a function. -/
import Derived.Test.YtjlabjncojhjkaaDoorCv19
namespace Go.Cv
open Go
def tabF (f : Nat → CV) : Nat → Nat → List CV
  | _, 0 => []
  | i, n + 1 => f i :: tabF f (i + 1) n
theorem tabF_len (f : Nat → CV) : ∀ (n i : Nat), (tabF f i n).length = n
  | 0, _ => rfl
  | n + 1, i => by simp [tabF, tabF_len f n]
theorem tabF_get (f : Nat → CV) : ∀ (n i j : Nat), j < n → (tabF f i n)[j]? = some (f (i + j))
  | n + 1, i, 0, _ => by simp [tabF]
  | n + 1, i, j + 1, h => by
    simp only [tabF, List.getElem?_cons_succ]
    rw [tabF_get f n (i + 1) j (by omega)]
    congr 2; omega
theorem tabF_eta (l : List CV) : l = tabF (getT l) 0 l.length := by
  apply List.ext_getElem?
  intro j
  by_cases h : j < l.length
  · rw [tabF_get _ _ _ _ h, getT_eq, List.getD_eq_getElem?_getD]
    simp [h]
  · rw [List.getElem?_eq_none (by omega), List.getElem?_eq_none (by rw [tabF_len]; omega)]
theorem xX_loopI {E : Env} {fid : Nat} {body : Code} {N : Nat} {tm : List CV} {h : H} {Q : Ex → St → Prop} (hz : ∀ id, E.rgf fid id = []) (hlen : tm.length = N) (I : Nat → (Nat → CV) → H → Prop) (n0 : Nat) (h0 : I n0 (getT tm) h)
    (hI : ∀ n f h, I n f h → xX E fid body (tabF f 0 N) h (thenX (fun st => st.tm.length = N ∧ ∃ m, m < n ∧ I m (getT st.tm) st.h) Q) ⟨⟩) : uDoes E fid (.loop body) tm h Q ⟨⟩ := by
  refine Does.loop (fun n st => st.tm.length = N ∧ I n (getT st.tm) st.h) n0 ⟨hlen, h0⟩ ?_
  rintro n ⟨tm, h⟩ ⟨hl, hi⟩
  refine wX_sound hz _ _ _ _ ?_
  have := hI n _ _ hi
  simp only at hl
  rw [← hl, ← tabF_eta] at this
  have e : (fun st : St => st.tm.length = N ∧ ∃ m, m < n ∧ I m (getT st.tm) st.h) = (fun st : St => ∃ m, m < n ∧ (st.tm.length = N ∧ I m (getT st.tm) st.h)) := by
    funext st
    apply propext
    constructor
    · rintro ⟨a, m, b, c⟩; exact ⟨m, b, a, c⟩
    · rintro ⟨m, b, a, c⟩; exact ⟨a, m, b, c⟩
  rw [hl, e] at this
  exact this
theorem beqO_self (x : Option CObj) : beqO x x = true := by
  first | exact beqO_refl x | (cases x <;> simp [beqO])
attribute [simp] hideL restL beqO_self
end Go.Cv
