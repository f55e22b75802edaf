/- A part of the proof of a law of the given program: contracts of functions over the clean heap. -/
import Derived.Test.YtjlabjncojhjkaaDoorBz
namespace Go.Proofs.YtjlabjncojhjkaaDoor
open Go Go.Cv
/-! ### ref06.Do: what the numbers do -/
def doN (op a b : Int) (w : Nat) : Int :=
  if op = 0 then trimN (a + b) w else if op = 1 then trimN (a - b) w else if op = 2 then trimN (a * b) w else if b = 0 then 0 else if op = 3 then trimN (a.tdiv b) w else trimN (a.tmod b) w
theorem mul_b {a b : Int} (ha : -32768 ≤ a ∧ a ≤ 32768) (hb : -32768 ≤ b ∧ b ≤ 32768) : -1073741824 ≤ a * b ∧ a * b ≤ 1073741824 := by
  have h : (a * b).natAbs ≤ 1073741824 := by
    rw [Int.natAbs_mul]
    exact Nat.mul_le_mul (show a.natAbs ≤ 32768 by omega) (show b.natAbs ≤ 32768 by omega)
  omega
def rdoI (op a b w x y : Int) (m : Nat) (h0 : H) (f : Nat → CV) (h : H) : Prop :=
  h = h0 ∧ f 0 = .int .i64 op ∧ f 1 = .int .i64 a ∧ f 2 = .int .i64 b ∧ f 3 = .int .i64 w ∧ f 10 = .int .i64 y ∧ ∃ q r : Int, f 11 = .int .i64 q ∧ f 12 = .int .i64 r ∧ 0 ≤ q ∧ q + r ≤ x ∧ 0 ≤ r ∧ x = q * y + r ∧ m = r.toNat
theorem qr {x y q r : Int} (hr : 0 ≤ r) (hy : r < y) (e : x = q * y + r) : q = x / y ∧ r = x % y := by
  have h1 := Int.mul_ediv_add_emod x y
  have h2 := Int.emod_nonneg x (show y ≠ 0 by omega)
  have h3 := Int.emod_lt_of_pos x (show 0 < y by omega)
  subst e
  constructor
  · rw [Int.add_comm, Int.add_mul_ediv_right _ _ (by omega), Int.ediv_eq_zero_of_lt hr hy]; omega
  · rw [Int.add_comm, Int.add_mul_emod_self_right, Int.emod_eq_of_lt hr hy]
theorem td_cases (a b : Int) : a.tdiv b = (if a < 0 then (if b < 0 then (-a) / (-b) else -((-a) / b)) else if b < 0 then -(a / (-b)) else a / b) ∧ a.tmod b = if a < 0 then (if b < 0 then -((-a) % (-b)) else -((-a) % b)) else if b < 0 then a % (-b) else a % b := by
  by_cases h1 : a < 0 <;> by_cases h2 : b < 0 <;> simp only [h1, h2, if_true, if_false]
  · obtain ⟨x, rfl⟩ : ∃ x, a = -x := ⟨-a, by omega⟩
    obtain ⟨y, rfl⟩ : ∃ y, b = -y := ⟨-b, by omega⟩
    rw [Int.neg_tdiv, Int.tdiv_neg, Int.neg_tmod, Int.tmod_neg, Int.neg_neg, Int.neg_neg, Int.neg_neg, Int.tdiv_eq_ediv_of_nonneg (by omega), Int.tmod_eq_emod_of_nonneg (by omega)]
    exact ⟨rfl, rfl⟩
  · obtain ⟨x, rfl⟩ : ∃ x, a = -x := ⟨-a, by omega⟩
    rw [Int.neg_tdiv, Int.neg_tmod, Int.neg_neg, Int.tdiv_eq_ediv_of_nonneg (by omega), Int.tmod_eq_emod_of_nonneg (by omega)]
    exact ⟨rfl, rfl⟩
  · obtain ⟨y, rfl⟩ : ∃ y, b = -y := ⟨-b, by omega⟩
    rw [Int.tdiv_neg, Int.tmod_neg, Int.neg_neg, Int.tdiv_eq_ediv_of_nonneg (by omega), Int.tmod_eq_emod_of_nonneg (by omega)]
    exact ⟨rfl, rfl⟩
  · rw [Int.tdiv_eq_ediv_of_nonneg (by omega), Int.tmod_eq_emod_of_nonneg (by omega)]
    exact ⟨rfl, rfl⟩
set_option maxRecDepth 8000 in
set_option maxHeartbeats 2000000 in
theorem rdo_u {op a b : Int} {w : Nat} (hw : 1 ≤ w ∧ w ≤ 16) (ha : -32768 ≤ a ∧ a ≤ 32768) (hb : -32768 ≤ b ∧ b ≤ 32768) (h : H) (K) (t) :
    uRuns E 42 [.int .i64 op, .int .i64 a, .int .i64 b, .int .i64 (w : Nat)] h K t = K (.int .i64 (doN op a b w)) h := by
  refine Runs.det (Runs.ofX Tryd.func42 rfl rfl rfl rfl (fun _ => rfl) ?_)
  have ew : heldN (w : Int) = w := heldN_id hw
  have mb := mul_b ha hb
  have w1 : IntKind.i64.wrap (a + b) = a + b := wrap64 (by omega) (by omega)
  have w2 : IntKind.i64.wrap (a - b) = a - b := wrap64 (by omega) (by omega)
  have w3 : IntKind.i64.wrap (a * b) = a * b := wrap64 (by omega) (by omega)
  have w4 : IntKind.i64.wrap (-a) = -a := wrap64 (by omega) (by omega)
  have w5 : IntKind.i64.wrap (-b) = -b := wrap64 (by omega) (by omega)
  by_cases o0 : op = 0
  · subst o0
    simp [Tryd.f42, w1, rtrim_u, ew, doN]
  by_cases o1 : op = 1
  · subst o1
    simp [Tryd.f42, w2, rtrim_u, ew, doN]
  by_cases o2 : op = 2
  · subst o2
    simp [Tryd.f42, w3, rtrim_u, ew, doN]
  by_cases b0 : b = 0
  · subst b0
    simp [Tryd.f42, o0, o1, o2, doN]
  have hd : doN op a b w = if op = 3 then trimN (a.tdiv b) w else trimN (a.tmod b) w := by simp [doN, o0, o1, o2, b0]
  obtain ⟨ZQ, hQ⟩ : ∃ z, trimN (a.tdiv b) w = z := ⟨_, rfl⟩
  obtain ⟨ZR, hR⟩ : ∃ z, trimN (a.tmod b) w = z := ⟨_, rfl⟩
  rw [hd, hQ, hR]
  rw [(td_cases a b).1] at hQ
  rw [(td_cases a b).2] at hR
  by_cases c1 : a < 0 <;> by_cases c2 : b < 0
  all_goals
    obtain ⟨x, hx⟩ : ∃ x, x = if a < 0 then -a else a := ⟨_, rfl⟩
    obtain ⟨y, hy⟩ : ∃ y, y = if b < 0 then -b else b := ⟨_, rfl⟩
    simp only [c1, c2, if_true, if_false] at hx hy hQ hR
    rw [← hx, ← hy] at hQ hR
    simp [Tryd.f42, o0, o1, o2, b0, c1, c2, w4, w5]
    refine xX_loopI (N := 77) (fun _ => rfl) rfl (fun m f h' => rdoI op a b (w : Nat) x y m h f h') x.toNat ?_ ?_
    · exact ⟨rfl, rfl, rfl, rfl, rfl, by rw [hy]; rfl, 0, x, rfl, by rw [hx]; rfl, by omega, by omega, by omega, by omega, rfl⟩
    · rintro m f h1 ⟨rfl, f0, f1, f2, f3, f10, q, r, f11, f12, hq, hs, hr, e, rfl⟩
      by_cases c : y ≤ r
      · have u1 : IntKind.i64.wrap (r - y) = r - y := wrap64 (by omega) (by omega)
        have u2 : IntKind.i64.wrap (q + 1) = q + 1 := wrap64 (by omega) (by omega)
        simp [tabF, f0, f1, f2, f3, f10, f11, f12, c, u1, u2]
        exact ⟨(r - y).toNat, by omega, rfl, rfl, rfl, rfl, rfl, rfl, q + 1, r - y, rfl, rfl, by omega, by omega, by omega, by rw [Int.add_mul]; omega, rfl⟩
      · obtain ⟨e1, e2⟩ := qr hr (by omega) e
        have u3 : IntKind.i64.wrap (-q) = -q := wrap64 (by omega) (by omega)
        have u4 : IntKind.i64.wrap (-r) = -r := wrap64 (by omega) (by omega)
        rw [← e1] at hQ
        rw [← e2] at hR
        clear e1 e2
        by_cases o3 : op = 3
        · simp [tabF, f0, f1, f2, f3, f10, f11, f12, c, o3, c1, c2, u3, rtrim_u, ew, hQ, eqBin]
        · simp [tabF, f0, f1, f2, f3, f10, f11, f12, c, o3, c1, u4, rtrim_u, ew, hR]
end Go.Proofs.YtjlabjncojhjkaaDoor
