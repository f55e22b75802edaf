/- Numbers: what fits is as it is; an edge that is turned. -/
import Derived.Test.YtjlabjncojhjkaaDoorCv18
namespace Go.Cv
open Go

theorem wrap64 {x : Int} (h1 : -9223372036854775808 ≤ x) (h2 : x ≤ 9223372036854775807) : IntKind.i64.wrap x = x := by
  have hb : IntKind.i64.bits = 64 := rfl
  have hs : IntKind.i64.signed = true := rfl
  unfold IntKind.wrap
  simp only [hb, hs, Bool.true_and, decide_eq_true_eq]
  simp only [Nat.reduceSub, Int.reducePow]
  split <;> omega
theorem xor1 (n : Nat) : n ^^^ 1 = if n % 2 = 0 then n + 1 else n - 1 := by
  have h1 : (n ^^^ 1) / 2 = n / 2 := by rw [Nat.xor_div_two]; simp
  have h2 : (n ^^^ 1) % 2 = 1 ↔ ¬ (n % 2 = 1) := by rw [Nat.xor_mod_two_eq_one]; simp
  split <;> omega
theorem not_val {e : Int} (h0 : 0 ≤ e) (h1 : e < 4611686018427387904) : IntKind.i64.wrap ((BitVec.ofInt 64 e ^^^ BitVec.ofInt 64 1).toNat : Int) = if e % 2 = 0 then e + 1 else e - 1 := by
  obtain ⟨n, rfl⟩ := Int.eq_ofNat_of_zero_le h0
  have e1 : (BitVec.ofInt 64 (n : Int) ^^^ BitVec.ofInt 64 1).toNat = n ^^^ 1 := by
    rw [BitVec.toNat_xor, BitVec.toNat_ofInt, BitVec.toNat_ofInt]
    have : ((n : Int) % ((2 ^ 64 : Nat) : Int)).toNat = n := by omega
    rw [this]; rfl
  rw [e1, xor1, wrap64] <;> split <;> omega
end Go.Cv
