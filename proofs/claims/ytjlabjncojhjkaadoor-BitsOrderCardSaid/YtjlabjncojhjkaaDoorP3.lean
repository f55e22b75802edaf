/- A part of the proof of a law of the given program: contracts of functions over the clean heap. -/
import Derived.Test.YtjlabjncojhjkaaDoorPx
namespace Go.Proofs.YtjlabjncojhjkaaDoor
open Go Go.Cv
/-! ### The law BitsParts -/
theorem trimN_b (n : Int) {k : Nat} (hk : 1 ≤ k) : -(2 ^ (k - 1)) ≤ trimN n k ∧ trimN n k < 2 ^ (k - 1) ∧ (2 : Int) ^ k = 2 * 2 ^ (k - 1) := by
  have hp := pow_pos k
  have pk : (2 : Int) ^ k = 2 * 2 ^ (k - 1) := by
    have : k = (k - 1) + 1 := by omega
    conv => lhs; rw [this, Int.pow_succ]
    omega
  have h1 := Int.emod_nonneg n (show (2 : Int) ^ k ≠ 0 by omega)
  have h2 := Int.emod_lt_of_pos n hp
  unfold trimN
  split <;> omega
theorem trimN_in {x : Int} {k : Nat} (hk : 1 ≤ k) (h : -(2 ^ (k - 1)) ≤ x ∧ x < 2 ^ (k - 1)) : trimN x k = x := by
  have hp := pow_pos (k - 1)
  have pk := (trimN_b x hk).2.2
  unfold trimN
  by_cases c : 0 ≤ x
  · rw [Int.emod_eq_of_lt c (by omega), if_neg (by omega)]
  · have e : x % 2 ^ k = x + 2 ^ k := by
      rw [← Int.add_emod_right, Int.emod_eq_of_lt (by omega) (by omega)]
    rw [e, if_pos (by omega)]; omega
theorem trimN_mod (n : Int) (k : Nat) : trimN n k % 2 ^ k = n % 2 ^ k := by
  unfold trimN
  split
  · rw [Int.sub_emod_right, Int.emod_emod_of_dvd _ (Int.dvd_refl _)]
  · rw [Int.emod_emod_of_dvd _ (Int.dvd_refl _)]
theorem trimN_congr {x y : Int} {k : Nat} (h : x % 2 ^ k = y % 2 ^ k) : trimN x k = trimN y k := by unfold trimN; rw [h]
theorem pow_le (a b : Nat) (h : a ≤ b) : (2 : Int) ^ a ≤ 2 ^ b := by
  have h1 : 2 ^ a ≤ 2 ^ b := Nat.pow_le_pow_right (by omega) h
  have e1 : ((2 ^ a : Nat) : Int) = (2 : Int) ^ a := by simp
  have e2 : ((2 ^ b : Nat) : Int) = (2 : Int) ^ b := by simp
  omega
theorem trim_trim (n : Int) {a b : Nat} (ha : 1 ≤ a) (hb : 1 ≤ b) : trimN (trimN n a) b = trimN n (min a b) := by
  by_cases h : a ≤ b
  · rw [Nat.min_eq_left h]
    have hx := trimN_b n ha
    have hp := pow_le (a - 1) (b - 1) (by omega)
    exact trimN_in hb ⟨by omega, by omega⟩
  · rw [Nat.min_eq_right (by omega)]
    apply trimN_congr
    have hd : (2 : Int) ^ b ∣ 2 ^ a := by
      have e1 : ((2 ^ a : Nat) : Int) = (2 : Int) ^ a := by simp
      have e2 : ((2 ^ b : Nat) : Int) = (2 : Int) ^ b := by simp
      rw [← e1, ← e2]; exact Int.natCast_dvd_natCast.2 (Nat.pow_dvd_pow 2 (by omega))
    rw [← Int.emod_emod_of_dvd (trimN n a) hd, trimN_mod, Int.emod_emod_of_dvd n hd]
theorem value_bits (n : Int) {k : Nat} (h : 1 ≤ k ∧ k ≤ 16) : valueL (bitsL n k) = trimN n k := by
  rw [valueL_eq (by rw [bitsL_len]; exact h), sval_bits]
set_option maxRecDepth 8000 in
theorem bitsParts_run (n w to : Int) : Runs E 7 [.int .i64 n, .int .i64 w, .int .i64 to] ⟨0, .leaf⟩ fun v _ => v = .bool true := by
  have ha := heldN_b w
  have hb := heldN_b to
  have hk1 : (heldN w : Int) = (if 16 < (if 1 > w then 1 else w) then 16 else (if 1 > w then 1 else w)) := by unfold heldN; omega
  have hk2 : (heldN to : Int) = (if 16 < (if 1 > to then 1 else to) then 16 else (if 1 > to then 1 else to)) := by unfold heldN; omega
  have hk3 : (if 16 < (if to < 1 then 1 else to) then 16 else (if to < 1 then 1 else to)) = (heldN to : Int) := by unfold heldN; omega
  refine Runs.ofX Tryd.func7 rfl rfl rfl rfl (fun _ => rfl) ?_
  simp [Tryd.f7]
  refine (awake_run (S := fun _ _ => False) (fun i _ => rfl) (fun _ _ q => q.elim)).mono fun v h1 ⟨hv, g1, _⟩ => ?_
  subst hv
  simp [rtrim_u, trim_u]
  refine (bits_run g1.wf n w).mono fun v h2 F2 => ?_
  simp
  refine value_of (l := bitsL n (heldN w)) F2 (by rw [bitsL_len]; omega) ?_
  rw [value_bits n ha]
  simp
  refine (bits_run F2.gr.wf n w).mono fun v h3 F3 => ?_
  obtain ⟨g3, k3, i3, hv, n3, c3⟩ := F3
  rw [bools_len, bitsL_len] at hv
  subst hv
  simp [← hk1]
  refine (new_mem g3.wf (S := fun _ _ => False) (fun _ _ q => q.elim)).mono fun v h4 ⟨g4, gid, hv, I⟩ => ?_
  subst hv
  simp
  refine (const_run I.wf n w).mono fun v h5 F5 => ?_
  obtain ⟨i5, rfl, n5, I5⟩ := I.fresh1 F5
  simp
  have r6 := wide_run I5.wf (v := .ref i5 0 (ints (constL n (heldN w))).length 1) (l := constL n (heldN w)) (.inr ⟨i5, [], rfl, by rw [List.append_nil]; exact I5.sv i5 _ (.inr ⟨rfl, rfl⟩)⟩) to
  refine r6.mono fun v h6 F6 => ?_
  obtain ⟨i6, rfl, n6, I6⟩ := I5.fresh1 F6
  have l6 := wideL_len (constL n (heldN w)) (heldN to)
  simp [rtrim_u, ints_len', l6, hk3]
  have sw : Small (wideL (constL n (heldN w)) (heldN to)) := small_wide (small_const _ _) _
  have r7 := eval_run I6 (mv := .nils) (ev := .ref i6 0 (wideL (constL n (heldN w)) (heldN to)).length 1) (model := []) (es := wideL (constL n (heldN w)) (heldN to)) (.inl ⟨rfl, rfl⟩) (.inr ⟨i6, rfl, .inr ⟨rfl, rfl⟩⟩) (by intro e; rw [e, List.length_nil] at l6; omega) (by omega) (by decide) sw
  rw [l6] at r7
  refine r7.mono fun v h7 F7 => ?_
  simp
  refine value_of (l := evB gr0 [] (wideL (constL n (heldN w)) (heldN to))) F7 (by rw [evB_len]; omega) ?_
  rw [wide_const gr0_ok [] n ha hb]
  have I7 := I6.fresh F7.gr F7.fr
  simp [trim_trim n ha.1 hb.1]
  refine (inputs_run I7 w).mono fun v h8 ⟨g8, i8, hv, n8, I8⟩ => ?_
  subst hv
  simp [inpL_len]
end Go.Proofs.YtjlabjncojhjkaaDoor
