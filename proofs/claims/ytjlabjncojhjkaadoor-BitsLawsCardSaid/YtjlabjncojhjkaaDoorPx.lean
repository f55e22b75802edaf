/- A part of the proof of a law of the given program: contracts of functions over the clean heap. -/
import Derived.Test.YtjlabjncojhjkaaDoorBz
namespace Go.Proofs.YtjlabjncojhjkaaDoor
open Go Go.Cv
/-! ### Numbers and their bits -/
theorem pow_pos (k : Nat) : (0 : Int) < 2 ^ k := by
  have h2 : 1 ≤ 2 ^ k := Nat.one_le_two_pow
  have e : ((2 ^ k : Nat) : Int) = (2 : Int) ^ k := by simp
  omega
theorem mod_succ (n : Int) (k : Nat) : n % 2 ^ (k + 1) = n % 2 ^ k + (if n / 2 ^ k % 2 = 1 then 2 ^ k else 0) := by
  have hp := pow_pos k
  have h1 : (2 : Int) ^ (k + 1) = 2 ^ k * 2 := Int.pow_succ 2 k
  have h2 := Int.emod_def n (2 ^ k)
  have h3 := Int.emod_def n (2 ^ (k + 1))
  have h4 : n / 2 ^ (k + 1) = n / 2 ^ k / 2 := by rw [h1, Int.ediv_ediv_of_nonneg (by omega)]
  rw [h4, h1] at h3
  rw [h1, h3, h2]
  generalize n / 2 ^ k = q
  generalize (2 : Int) ^ k = p at *
  have h5 := Int.emod_def q 2
  split
  · rename_i hq
    have : q / 2 = (q - 1) / 2 := by omega
    have e : p * 2 * (q / 2) = p * (q - 1) := by
      rw [Int.mul_assoc]; congr 1; omega
    rw [e, Int.mul_sub, Int.mul_one]; omega
  · rename_i hq
    have e : p * 2 * (q / 2) = p * q := by
      rw [Int.mul_assoc]; congr 1; omega
    rw [e]; omega
theorem sumB_bits (n : Int) : ∀ k, sumB (bitsL n k) = n % 2 ^ k
  | 0 => by simp [bitsL, sumB]
  | k + 1 => by
    have hb : bitsL n (k + 1) = bitsL n k ++ [decide (n / 2 ^ k % 2 = 1)] := by simp [bitsL, List.range_succ]
    rw [hb, sumB_snoc, sumB_bits n k, mod_succ, bitsL_len]
    simp
theorem trim_mod (n : Int) (k : Nat) : trimN (n % 2 ^ k) k = trimN n k := by
  unfold trimN
  rw [Int.emod_emod_of_dvd _ (Int.dvd_refl _)]
/-- The number that bits say, with their sign. -/
def sval (l : List Bool) : Int := trimN (sumB l) l.length
theorem sval_bits (n : Int) (k : Nat) : sval (bitsL n k) = trimN n k := by
  unfold sval; rw [sumB_bits, bitsL_len, trim_mod]
theorem valueL_eq {l : List Bool} (h : 1 ≤ l.length ∧ l.length ≤ 16) : valueL l = sval l := by
  unfold valueL sval
  have : l ≠ [] := by intro e; rw [e] at h; simp at h
  rw [if_neg this, heldN_id h, List.take_of_length_le (Nat.le_refl _)]
theorem sumB_rep : ∀ (n : Nat) (b : Bool), sumB (List.replicate n b) = if b then 2 ^ n - 1 else 0
  | 0, b => by cases b <;> simp [sumB]
  | n + 1, b => by
    rw [List.replicate_succ, sumB, sumB_rep n b, Int.pow_succ]
    cases b <;> simp <;> omega
theorem sumB_app : ∀ (l m : List Bool), sumB (l ++ m) = sumB l + 2 ^ l.length * sumB m
  | [], m => by simp [sumB]
  | b :: l, m => by
    simp only [List.cons_append, sumB, sumB_app l m, List.length_cons, Int.pow_succ]
    rw [Int.mul_add, ← Int.mul_assoc, Int.mul_comm 2 (2 ^ l.length)]
    omega
def lastB (l : List Bool) : Bool := l.getD (l.length - 1) false
theorem snoc_lastB {l : List Bool} (h : 1 ≤ l.length) : ∃ i, l = i ++ [lastB l] ∧ i.length = l.length - 1 := by
  refine ⟨l.take (l.length - 1), ?_, by rw [List.length_take]; omega⟩
  conv => lhs; rw [← List.take_append_drop (l.length - 1) l]
  congr 1
  rw [List.drop_eq_getElem_cons (by omega), List.drop_of_length_le (by omega)]
  unfold lastB
  rw [List.getD_eq_getElem?_getD, List.getElem?_eq_getElem (by omega)]
  rfl
/-- What the sign says of the number without it. -/
theorem sumB_sign {l : List Bool} (h : 1 ≤ l.length) : if lastB l then 2 ^ (l.length - 1) ≤ sumB l else sumB l < 2 ^ (l.length - 1) := by
  obtain ⟨i, hi, hl⟩ := snoc_lastB h
  have hb := sumB_b i
  rw [hl] at hb
  have e : sumB l = sumB i + if lastB l then 2 ^ (l.length - 1) else 0 := by
    conv => lhs; rw [hi]
    rw [sumB_snoc, hl]
  rw [e]
  cases lastB l
  · simp only [Bool.false_eq_true, if_false]; omega
  · simp only [if_true]; omega
theorem sval_eq {l : List Bool} (h : 1 ≤ l.length) : sval l = sumB l - if lastB l then 2 ^ l.length else 0 := by
  have hb := sumB_b l
  have hs := sumB_sign h
  unfold sval trimN
  rw [Int.emod_eq_of_lt hb.1 hb.2]
  cases hl : lastB l
  · rw [hl] at hs; simp only [Bool.false_eq_true, if_false] at hs ⊢
    rw [if_neg (by omega)]; omega
  · rw [hl] at hs; simp only [if_true] at hs ⊢
    rw [if_pos hs]
/-- Wider bits are the same number. -/
theorem sval_wide {l : List Bool} (h : 1 ≤ l.length) (d : Nat) : sval (l ++ List.replicate d (lastB l)) = sval l := by
  have hl : lastB (l ++ List.replicate d (lastB l)) = lastB l := by
    rcases d with _ | d
    · simp
    · unfold lastB
      rw [List.getD_eq_getElem?_getD, List.length_append, List.length_replicate, List.getElem?_append_right (by omega), List.getElem?_replicate, if_pos (by omega)]
      rfl
  rw [sval_eq (by rw [List.length_append]; omega), sval_eq h, hl, sumB_app, sumB_rep, List.length_append, List.length_replicate, Int.pow_add]
  cases lastB l
  · simp
  · simp only [if_true]
    rw [Int.mul_sub, Int.mul_one]; omega
end Go.Proofs.YtjlabjncojhjkaaDoor
namespace Go.Proofs.YtjlabjncojhjkaaDoor
open Go Go.Cv
/-! ### What edges are -/
def bitG (G : Gr) (m : List Bool) (e : Int) : Bool := bitV (evalL m G.l).1 (G.edge e)
theorem evB_def (G : Gr) (m : List Bool) (l : List Int) : evB G m l = l.map (bitG G m) := rfl
theorem evalFold_pre (m : List Bool) : ∀ (l : List (Int × Int)) (st : List Bool × Nat), ∃ t, (l.foldl (evalStep m) st).1 = st.1 ++ t
  | [], st => ⟨[], by simp⟩
  | p :: l, st => by
    obtain ⟨t, ht⟩ := evalFold_pre m l (evalStep m st p)
    have : ∃ b, (evalStep m st p).1 = st.1 ++ [b] := by unfold evalStep; split <;> exact ⟨_, rfl⟩
    obtain ⟨b, hb⟩ := this
    exact ⟨b :: t, by rw [List.foldl_cons, ht, hb, List.append_assoc]; rfl⟩
theorem bit_0 {G : Gr} (ok : G.OK) (m : List Bool) : bitG G m 0 = false := by
  unfold bitG
  rw [Gr.edge_id (Gr.E_0 ok)]
  obtain ⟨t, ht⟩ := evalFold_pre m G.l.tail ([false], 0)
  unfold bitV evalL
  rw [ht]; rfl
theorem bit_1 {G : Gr} (ok : G.OK) (m : List Bool) : bitG G m 1 = true := by
  unfold bitG
  rw [Gr.edge_id (Gr.E_1 ok)]
  obtain ⟨t, ht⟩ := evalFold_pre m G.l.tail ([false], 0)
  unfold bitV evalL
  rw [ht]; rfl
theorem evB_const {G : Gr} (ok : G.OK) (m : List Bool) (n : Int) (k : Nat) : evB G m (constL n k) = bitsL n k := by
  rw [evB_def]
  unfold constL
  rw [List.map_map]
  have : (bitG G m ∘ fun b : Bool => if b then (1 : Int) else 0) = id := by
    funext b
    cases b
    · exact bit_0 ok m
    · exact bit_1 ok m
  rw [this, List.map_id]
def wideB (l : List Bool) (k : Nat) : List Bool := l.take k ++ List.replicate (k - l.length) (lastB l)
theorem evB_last {G : Gr} {m : List Bool} {l : List Int} (h : 1 ≤ l.length) : lastB (evB G m l) = bitG G m (lastL l) := by
  unfold lastB lastL
  rw [evB_len, List.getD_eq_getElem?_getD, List.getD_eq_getElem?_getD, evB_def, List.getElem?_map, List.getElem?_eq_getElem (by omega)]
  rfl
theorem evB_wide {G : Gr} {m : List Bool} {l : List Int} (h : 1 ≤ l.length ∧ l.length ≤ 16) (k : Nat) : evB G m (wideL l k) = wideB (evB G m l) k := by
  unfold wideL wideB
  rw [vec_id h, evB_def, List.map_append, List.map_take, List.map_replicate, ← evB_def, evB_len, evB_last h.1]
theorem wideB_len (l : List Bool) (k : Nat) : (wideB l k).length = k := by simp [wideB]; omega
theorem sval_wideB {l : List Bool} {k : Nat} (h : 1 ≤ l.length) (hk : l.length ≤ k) : sval (wideB l k) = sval l := by
  unfold wideB
  rw [List.take_of_length_le hk]
  exact sval_wide h _
theorem wideB_less {l : List Bool} {k : Nat} (hk : k ≤ l.length) : wideB l k = l.take k := by
  unfold wideB; rw [show k - l.length = 0 by omega, List.replicate_zero, List.append_nil]
theorem bitsL_take (n : Int) {a b : Nat} (h : b ≤ a) : (bitsL n a).take b = bitsL n b := by
  unfold bitsL
  rw [← List.map_take, List.take_range, Nat.min_eq_left h]
theorem wide_const {G : Gr} (ok : G.OK) (m : List Bool) (n : Int) {a b : Nat} (ha : 1 ≤ a ∧ a ≤ 16) (hb : 1 ≤ b ∧ b ≤ 16) : valueL (evB G m (wideL (constL n a) b)) = trimN n (min a b) := by
  rw [evB_wide (by rw [constL_len]; exact ha), evB_const ok, valueL_eq (by rw [wideB_len]; exact hb)]
  by_cases h : a ≤ b
  · rw [sval_wideB (by rw [bitsL_len]; exact ha.1) (by rw [bitsL_len]; exact h), sval_bits, Nat.min_eq_left h]
  · rw [wideB_less (by rw [bitsL_len]; omega), bitsL_take n (by omega), sval_bits, Nat.min_eq_right (by omega)]
end Go.Proofs.YtjlabjncojhjkaaDoor
