/- A part of the proof of a law of the given program: contracts of functions over the clean heap. -/
import Derived.Test.YtjlabjncojhjkaaDoorT4
namespace Go.Proofs.YtjlabjncojhjkaaDoor
open Go Go.Cv
/-! ### Inputs -/
theorem evalL_ins (m : List Bool) : ∀ j : Nat, evalL m (List.replicate (j + 1) (-1, -1)) = (false :: (List.range j).map (m.getD · false), j)
  | 0 => rfl
  | j + 1 => by
    rw [List.replicate_succ', evalL_snoc (by simp), evalL_ins m j]
    unfold evalStep
    rw [if_pos rfl, List.range_succ, List.map_append]
    rfl
theorem inp_l : ∀ (k n : Nat) {G : Gr}, G.l = List.replicate (n + 1) (-1, -1) → n + 1 + k ≤ 200000 →
    (inpL G k).2.l = List.replicate (n + k + 1) (-1, -1) ∧ ∀ i, i < k → (inpL G k).1[i]? = some (2 * ((n + 1 + i : Nat) : Int))
  | 0, n, G, h, _ => by simp only [inpL]; exact ⟨h, fun i hi => by omega⟩
  | k + 1, n, G, h, hr => by
    have hl : G.l.length = n + 1 := by rw [h, List.length_replicate]
    have e : G.input = (2 * (G.l.length : Int), { G with l := G.l ++ [(-1, -1)], ins := G.ins ++ [2 * (G.l.length : Int)] }) := by unfold Gr.input; rw [if_neg (by omega)]
    have ih := inp_l k (n + 1) (G := G.input.2) (by rw [e]; simp only; rw [h, ← List.replicate_succ']) (by omega)
    simp only [inpL]
    refine ⟨by rw [ih.1]; congr 1; omega, fun i hi => ?_⟩
    rcases i with _ | i
    · rw [e, hl]; rfl
    · rw [List.getElem?_cons_succ, ih.2 i (by omega)]; congr 2; omega
theorem inp_bits {G : Gr} (ok : G.OK) {n k : Nat} (h : G.l = List.replicate (n + 1) (-1, -1)) (hr : n + 1 + k ≤ 200000) {A B C : List Bool} (ha : A.length = n) (hb : B.length = k) :
    evB (inpL G k).2 (A ++ B ++ C) (inpL G k).1 = B := by
  have hi := inp_l k n h hr
  have hu := inpL_up k ok
  refine List.ext_getElem? fun i => ?_
  by_cases c : i < k
  · rw [evB_def, List.getElem?_map, hi.2 i c]
    have hE := hu.2 _ (List.mem_of_getElem? (hi.2 i c))
    simp only [Option.map_some]
    unfold bitG
    rw [Gr.edge_id hE, hi.1, evalL_ins]
    unfold bitV
    have q1 : (2 * ((n + 1 + i : Nat) : Int) / 2).toNat = n + i + 1 := by omega
    have q2 : ¬ (2 * ((n + 1 + i : Nat) : Int) % 2 = 1) := by omega
    rw [q1]
    simp only [q2, decide_false, Bool.bne_false, List.getD_eq_getElem?_getD, List.getElem?_cons_succ, List.getElem?_map]
    rw [List.getElem?_range (by omega)]
    simp only [Option.map_some, Option.getD_some]
    rw [List.append_assoc, List.getElem?_append_right (by omega), ha, List.getElem?_append_left (by omega), show n + i - n = i by omega, List.getElem?_eq_getElem (by omega)]
    rfl
  · rw [List.getElem?_eq_none (by rw [evB_len, inpL_len]; omega), List.getElem?_eq_none (by omega)]
theorem inp_vec {G : Gr} (ok : G.OK) {k : Nat} (hk : 1 ≤ k ∧ k ≤ 16) : G.Up (inpL G k).2 ∧ Vec (inpL G k).2 (inpL G k).1 k := ⟨(inpL_up k ok).1, inpL_len k G, hk, (inpL_up k ok).2⟩
theorem num_inp {G : Gr} (ok : G.OK) {n k : Nat} (h : G.l = List.replicate (n + 1) (-1, -1)) (hr : n + 1 + k ≤ 200000) {A C : List Bool} (a : Int) (ha : A.length = n) :
    num (inpL G k).2 (A ++ bitsL a k ++ C) (inpL G k).1 = trimN a k := by
  unfold num; rw [inp_bits ok h hr ha (bitsL_len a k), sval_bits]
end Go.Proofs.YtjlabjncojhjkaaDoor
