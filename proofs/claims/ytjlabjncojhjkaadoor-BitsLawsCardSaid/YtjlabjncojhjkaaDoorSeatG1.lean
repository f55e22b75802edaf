/- A part of the proof of a law of the given program: contracts of functions over the clean heap. -/
import Derived.Test.YtjlabjncojhjkaaDoorCv18
import Derived.Test.YtjlabjncojhjkaaDoorProg
import Derived.KernelRfl
namespace Go.Proofs.YtjlabjncojhjkaaDoor
open Go Go.Cv
def tab : List Ty :=
[
  ⟨.other, 1, 0, none, none⟩,
  ⟨.other, 1, 8, some [.nilf], none⟩,
  ⟨.int .i64, 1, 8, some [.int .i64 0], some [.int .i64]⟩,
  ⟨.int .i64, 1, 8, some [.int .i64 0], some [.int .i64]⟩,
  ⟨.bool, 1, 1, some [.bool false], some [.bool]⟩,
  ⟨.int .u8, 1, 1, some [.int .u8 0], some [.int .u8]⟩,
  ⟨.int .u8, 1, 1, some [.int .u8 0], some [.int .u8]⟩,
  ⟨.struct [(0, 2), (1, 3), (2, 4), (3, 6)], 4, 24, some [.int .i64 0, .int .i64 0, .bool false, .int .u8 0], some [.int .i64, .int .i64, .bool, .int .u8]⟩,
  ⟨.struct [(0, 2), (1, 3), (2, 4), (3, 6)], 4, 24, some [.int .i64 0, .int .i64 0, .bool false, .int .u8 0], some [.int .i64, .int .i64, .bool, .int .u8]⟩,
  ⟨.str, 1, 16, some [.str []], some [.str]⟩,
  ⟨.str, 1, 16, some [.str []], some [.str]⟩,
  ⟨.str, 1, 16, some [.str []], some [.str]⟩,
  ⟨.int .u64, 1, 8, some [.int .u64 0], some [.int .u64]⟩,
  ⟨.struct [(0, 9), (1, 12)], 2, 24, some [.str [], .int .u64 0], none⟩,
  ⟨.struct [(0, 9), (1, 12)], 2, 24, some [.str [], .int .u64 0], none⟩,
  ⟨.ptr 88, 1, 8, some [.nilp], none⟩,
  ⟨.ptr 91, 1, 8, some [.nilp], none⟩,
  ⟨.ptr 100, 1, 8, some [.nilp], none⟩,
  ⟨.struct [(0, 17)], 1, 8, some [.nilp], none⟩,
  ⟨.struct [(0, 17)], 1, 8, some [.nilp], none⟩,
  ⟨.other, 1, 16, none, none⟩,
  ⟨.int .i32, 1, 4, some [.int .i32 0], some [.int .i32]⟩,
  ⟨.slice 39, 1, 24, some [.nils], none⟩,
  ⟨.slice 5, 1, 24, some [.nils], none⟩,
  ⟨.other, 1, 8, some [.nilf], none⟩,
  ⟨.ptr 71, 1, 8, some [.nilp], none⟩,
  ⟨.slice 3, 1, 24, some [.nils], none⟩,
  ⟨.other, 1, 0, none, none⟩,
  ⟨.other, 1, 8, some [.nilf], none⟩,
  ⟨.ptr 63, 1, 8, some [.nilp], none⟩,
  ⟨.other, 1, 8, some [.nilf], none⟩,
  ⟨.other, 1, 8, some [.nilf], none⟩,
  ⟨.slice 26, 1, 24, some [.nils], none⟩,
  ⟨.other, 1, 8, some [.nilf], none⟩,
  ⟨.other, 1, 8, some [.nilf], none⟩,
  ⟨.other, 1, 8, some [.nilf], none⟩,
  ⟨.other, 1, 8, some [.nilf], none⟩,
  ⟨.other, 1, 8, some [.nilf], none⟩,
  ⟨.struct [(0, 3), (1, 3), (2, 3), (3, 3)], 4, 32, some [.int .i64 0, .int .i64 0, .int .i64 0, .int .i64 0], some [.int .i64, .int .i64, .int .i64, .int .i64]⟩,
  ⟨.struct [(0, 3), (1, 3), (2, 3), (3, 3)], 4, 32, some [.int .i64 0, .int .i64 0, .int .i64 0, .int .i64 0], some [.int .i64, .int .i64, .int .i64, .int .i64]⟩,
  ⟨.other, 1, 8, some [.nilf], none⟩,
  ⟨.arr 2 5, 2, 2, some [.int .u8 0, .int .u8 0], none⟩,
  ⟨.other, 1, 8, some [.nilf], none⟩,
  ⟨.other, 1, 8, some [.nilf], none⟩,
  ⟨.other, 1, 8, some [.nilf], none⟩,
  ⟨.other, 1, 8, some [.nilf], none⟩,
  ⟨.slice 4, 1, 24, some [.nils], none⟩,
  ⟨.other, 1, 8, some [.nilf], none⟩,
  ⟨.other, 1, 8, some [.nilf], none⟩,
  ⟨.other, 1, 8, some [.nilf], none⟩,
  ⟨.other, 1, 8, some [.nilf], none⟩,
  ⟨.other, 1, 8, some [.nilf], none⟩,
  ⟨.other, 1, 8, some [.nilf], none⟩,
  ⟨.other, 1, 8, some [.nilf], none⟩,
  ⟨.other, 1, 8, some [.nilf], none⟩,
  ⟨.other, 1, 8, some [.nilf], none⟩,
  ⟨.other, 1, 8, some [.nilf], none⟩,
  ⟨.other, 1, 8, some [.nilf], none⟩,
  ⟨.other, 1, 8, some [.nilf], none⟩,
  ⟨.other, 1, 8, some [.nilf], none⟩,
  ⟨.other, 1, 8, some [.nilf], none⟩,
  ⟨.map 3 3, 1, 8, some [.nilm], none⟩,
  ⟨.struct [(0, 25), (1, 61), (2, 32)], 3, 40, some [.nilp, .nilm, .nils], none⟩,
  ⟨.struct [(0, 25), (1, 61), (2, 32)], 3, 40, some [.nilp, .nilm, .nils], none⟩,
  ⟨.other, 1, 8, some [.nilf], none⟩,
  ⟨.struct [(0, 3), (1, 3)], 2, 16, some [.int .i64 0, .int .i64 0], some [.int .i64, .int .i64]⟩,
  ⟨.struct [(0, 3), (1, 3)], 2, 16, some [.int .i64 0, .int .i64 0], some [.int .i64, .int .i64]⟩,
  ⟨.other, 1, 0, none, none⟩,
  ⟨.slice 66, 1, 24, some [.nils], none⟩,
  ⟨.map 66 3, 1, 8, some [.nilm], none⟩,
  ⟨.struct [(0, 68), (1, 69), (2, 26)], 3, 56, some [.nils, .nilm, .nils], none⟩,
  ⟨.struct [(0, 68), (1, 69), (2, 26)], 3, 56, some [.nils, .nilm, .nils], none⟩,
  ⟨.other, 1, 8, some [.nilf], none⟩,
  ⟨.other, 1, 8, some [.nilf], none⟩,
  ⟨.other, 1, 8, some [.nilf], none⟩,
  ⟨.other, 1, 0, none, none⟩,
  ⟨.other, 1, 8, some [.nilf], none⟩,
  ⟨.other, 1, 8, some [.nilf], none⟩,
  ⟨.other, 1, 8, some [.nilf], none⟩,
  ⟨.other, 1, 8, some [.nilf], none⟩,
  ⟨.other, 1, 8, some [.nilf], none⟩,
  ⟨.other, 1, 8, some [.nilf], none⟩,
  ⟨.other, 1, 8, some [.nilf], none⟩,
  ⟨.other, 1, 0, none, none⟩,
  ⟨.other, 1, 8, some [.nilf], none⟩,
  ⟨.other, 1, 8, some [.nilf], none⟩,
  ⟨.other, 1, 8, some [.nilf], none⟩,
  ⟨.struct [(0, 17), (1, 17), (2, 17), (3, 9)], 4, 40, some [.nilp, .nilp, .nilp, .str []], none⟩,
  ⟨.struct [(0, 17), (1, 17), (2, 17), (3, 9)], 4, 40, some [.nilp, .nilp, .nilp, .str []], none⟩,
  ⟨.arr 0 16, 0, 0, some [], none⟩,
  ⟨.struct [(0, 89)], 0, 0, some [], none⟩,
  ⟨.struct [(0, 89)], 0, 0, some [], none⟩,
  ⟨.int .u32, 1, 4, some [.int .u32 0], some [.int .u32]⟩,
  ⟨.int .u8, 1, 1, some [.int .u8 0], some [.int .u8]⟩,
  ⟨.int .u8, 1, 1, some [.int .u8 0], some [.int .u8]⟩,
  ⟨.other, 1, 8, some [.nilf], none⟩,
  ⟨.ptr 5, 1, 8, some [.nilp], none⟩,
  ⟨.int .i32, 1, 4, some [.int .i32 0], some [.int .i32]⟩,
  ⟨.int .i32, 1, 4, some [.int .i32 0], some [.int .i32]⟩,
  ⟨.struct [(0, 12), (1, 12), (2, 92), (3, 93), (4, 5), (5, 5), (6, 94), (7, 95), (8, 96), (9, 97), (10, 98)], 11, 48, some [.int .u64 0, .int .u64 0, .int .u32 0, .int .u8 0, .int .u8 0, .int .u8 0, .int .u8 0, .nilf, .nilp, .int .i32 0, .int .i32 0], none⟩,
  ⟨.struct [(0, 12), (1, 12), (2, 92), (3, 93), (4, 5), (5, 5), (6, 94), (7, 95), (8, 96), (9, 97), (10, 98)], 11, 48, some [.int .u64 0, .int .u64 0, .int .u32 0, .int .u8 0, .int .u8 0, .int .u8 0, .int .u8 0, .nilf, .nilp, .int .i32 0, .int .i32 0], none⟩,
  ⟨.other, 1, 8, some [.nilp], none⟩
  ]

noncomputable def E : Env := { P := Tryd.prog, T := tabOf tab, G := fun g => if g = 0 then some [.int .i64 (-1), .int .i64 (-1)] else none, ent := fun _ => [], rgf := fun _ _ => [], rtf := fun _ => false, okf := fun k => decide (3 ≤ k ∧ k < 66) }
theorem tab_chk : tabChk Tryd.prog tab = true := by kernel_rfl
theorem fn_chk : (List.range 66).all (fun k => decide (k < 3) || fnChk Tryd.prog k) = true := by kernel_rfl
theorem E_ok : E.OK := ⟨tab_ok tab_chk, fun k hk => by
  have h := of_decide_eq_true hk
  have := List.all_eq_true.1 fn_chk k (List.mem_range.2 h.2)
  show fnChk Tryd.prog k = true
  simpa [Nat.not_lt.2 h.1] using this⟩
theorem E_mix : E.P.follows .mixedOrders = true := by kernel_rfl
@[simp] theorem E_rgf (a b : Nat) : E.rgf a b = [] := rfl
@[simp] theorem T0 : E.T 0 = some ⟨.other, 1, 0, none, none⟩ := rfl
@[simp] theorem T1 : E.T 1 = some ⟨.other, 1, 8, some [.nilf], none⟩ := rfl
@[simp] theorem T2 : E.T 2 = some ⟨.int .i64, 1, 8, some [.int .i64 0], some [.int .i64]⟩ := rfl
@[simp] theorem T3 : E.T 3 = some ⟨.int .i64, 1, 8, some [.int .i64 0], some [.int .i64]⟩ := rfl
@[simp] theorem T4 : E.T 4 = some ⟨.bool, 1, 1, some [.bool false], some [.bool]⟩ := rfl
@[simp] theorem T5 : E.T 5 = some ⟨.int .u8, 1, 1, some [.int .u8 0], some [.int .u8]⟩ := rfl
@[simp] theorem T6 : E.T 6 = some ⟨.int .u8, 1, 1, some [.int .u8 0], some [.int .u8]⟩ := rfl
@[simp] theorem T7 : E.T 7 = some ⟨.struct [(0, 2), (1, 3), (2, 4), (3, 6)], 4, 24, some [.int .i64 0, .int .i64 0, .bool false, .int .u8 0], some [.int .i64, .int .i64, .bool, .int .u8]⟩ := rfl
@[simp] theorem T8 : E.T 8 = some ⟨.struct [(0, 2), (1, 3), (2, 4), (3, 6)], 4, 24, some [.int .i64 0, .int .i64 0, .bool false, .int .u8 0], some [.int .i64, .int .i64, .bool, .int .u8]⟩ := rfl
@[simp] theorem T9 : E.T 9 = some ⟨.str, 1, 16, some [.str []], some [.str]⟩ := rfl
@[simp] theorem T10 : E.T 10 = some ⟨.str, 1, 16, some [.str []], some [.str]⟩ := rfl
@[simp] theorem T11 : E.T 11 = some ⟨.str, 1, 16, some [.str []], some [.str]⟩ := rfl
@[simp] theorem T12 : E.T 12 = some ⟨.int .u64, 1, 8, some [.int .u64 0], some [.int .u64]⟩ := rfl
@[simp] theorem T13 : E.T 13 = some ⟨.struct [(0, 9), (1, 12)], 2, 24, some [.str [], .int .u64 0], none⟩ := rfl
@[simp] theorem T14 : E.T 14 = some ⟨.struct [(0, 9), (1, 12)], 2, 24, some [.str [], .int .u64 0], none⟩ := rfl
@[simp] theorem T15 : E.T 15 = some ⟨.ptr 88, 1, 8, some [.nilp], none⟩ := rfl
@[simp] theorem T16 : E.T 16 = some ⟨.ptr 91, 1, 8, some [.nilp], none⟩ := rfl
@[simp] theorem T17 : E.T 17 = some ⟨.ptr 100, 1, 8, some [.nilp], none⟩ := rfl
@[simp] theorem T18 : E.T 18 = some ⟨.struct [(0, 17)], 1, 8, some [.nilp], none⟩ := rfl
@[simp] theorem T19 : E.T 19 = some ⟨.struct [(0, 17)], 1, 8, some [.nilp], none⟩ := rfl
@[simp] theorem T20 : E.T 20 = some ⟨.other, 1, 16, none, none⟩ := rfl
@[simp] theorem T21 : E.T 21 = some ⟨.int .i32, 1, 4, some [.int .i32 0], some [.int .i32]⟩ := rfl
@[simp] theorem T22 : E.T 22 = some ⟨.slice 39, 1, 24, some [.nils], none⟩ := rfl
@[simp] theorem T23 : E.T 23 = some ⟨.slice 5, 1, 24, some [.nils], none⟩ := rfl
@[simp] theorem T24 : E.T 24 = some ⟨.other, 1, 8, some [.nilf], none⟩ := rfl
@[simp] theorem T25 : E.T 25 = some ⟨.ptr 71, 1, 8, some [.nilp], none⟩ := rfl
@[simp] theorem T26 : E.T 26 = some ⟨.slice 3, 1, 24, some [.nils], none⟩ := rfl
@[simp] theorem T27 : E.T 27 = some ⟨.other, 1, 0, none, none⟩ := rfl
@[simp] theorem T28 : E.T 28 = some ⟨.other, 1, 8, some [.nilf], none⟩ := rfl
@[simp] theorem T29 : E.T 29 = some ⟨.ptr 63, 1, 8, some [.nilp], none⟩ := rfl
@[simp] theorem T30 : E.T 30 = some ⟨.other, 1, 8, some [.nilf], none⟩ := rfl
@[simp] theorem T31 : E.T 31 = some ⟨.other, 1, 8, some [.nilf], none⟩ := rfl
@[simp] theorem T32 : E.T 32 = some ⟨.slice 26, 1, 24, some [.nils], none⟩ := rfl
@[simp] theorem T33 : E.T 33 = some ⟨.other, 1, 8, some [.nilf], none⟩ := rfl
@[simp] theorem T34 : E.T 34 = some ⟨.other, 1, 8, some [.nilf], none⟩ := rfl
@[simp] theorem T35 : E.T 35 = some ⟨.other, 1, 8, some [.nilf], none⟩ := rfl
@[simp] theorem T36 : E.T 36 = some ⟨.other, 1, 8, some [.nilf], none⟩ := rfl
@[simp] theorem T37 : E.T 37 = some ⟨.other, 1, 8, some [.nilf], none⟩ := rfl
@[simp] theorem T38 : E.T 38 = some ⟨.struct [(0, 3), (1, 3), (2, 3), (3, 3)], 4, 32, some [.int .i64 0, .int .i64 0, .int .i64 0, .int .i64 0], some [.int .i64, .int .i64, .int .i64, .int .i64]⟩ := rfl
@[simp] theorem T39 : E.T 39 = some ⟨.struct [(0, 3), (1, 3), (2, 3), (3, 3)], 4, 32, some [.int .i64 0, .int .i64 0, .int .i64 0, .int .i64 0], some [.int .i64, .int .i64, .int .i64, .int .i64]⟩ := rfl
@[simp] theorem T40 : E.T 40 = some ⟨.other, 1, 8, some [.nilf], none⟩ := rfl
@[simp] theorem T41 : E.T 41 = some ⟨.arr 2 5, 2, 2, some [.int .u8 0, .int .u8 0], none⟩ := rfl
@[simp] theorem T42 : E.T 42 = some ⟨.other, 1, 8, some [.nilf], none⟩ := rfl
@[simp] theorem T43 : E.T 43 = some ⟨.other, 1, 8, some [.nilf], none⟩ := rfl
@[simp] theorem T44 : E.T 44 = some ⟨.other, 1, 8, some [.nilf], none⟩ := rfl
@[simp] theorem T45 : E.T 45 = some ⟨.other, 1, 8, some [.nilf], none⟩ := rfl
@[simp] theorem T46 : E.T 46 = some ⟨.slice 4, 1, 24, some [.nils], none⟩ := rfl
@[simp] theorem T47 : E.T 47 = some ⟨.other, 1, 8, some [.nilf], none⟩ := rfl
@[simp] theorem T48 : E.T 48 = some ⟨.other, 1, 8, some [.nilf], none⟩ := rfl
@[simp] theorem T49 : E.T 49 = some ⟨.other, 1, 8, some [.nilf], none⟩ := rfl
@[simp] theorem T50 : E.T 50 = some ⟨.other, 1, 8, some [.nilf], none⟩ := rfl
@[simp] theorem T51 : E.T 51 = some ⟨.other, 1, 8, some [.nilf], none⟩ := rfl
@[simp] theorem T52 : E.T 52 = some ⟨.other, 1, 8, some [.nilf], none⟩ := rfl
@[simp] theorem T53 : E.T 53 = some ⟨.other, 1, 8, some [.nilf], none⟩ := rfl
@[simp] theorem T54 : E.T 54 = some ⟨.other, 1, 8, some [.nilf], none⟩ := rfl
@[simp] theorem T55 : E.T 55 = some ⟨.other, 1, 8, some [.nilf], none⟩ := rfl
@[simp] theorem T56 : E.T 56 = some ⟨.other, 1, 8, some [.nilf], none⟩ := rfl
@[simp] theorem T57 : E.T 57 = some ⟨.other, 1, 8, some [.nilf], none⟩ := rfl
@[simp] theorem T58 : E.T 58 = some ⟨.other, 1, 8, some [.nilf], none⟩ := rfl
@[simp] theorem T59 : E.T 59 = some ⟨.other, 1, 8, some [.nilf], none⟩ := rfl
@[simp] theorem T60 : E.T 60 = some ⟨.other, 1, 8, some [.nilf], none⟩ := rfl
@[simp] theorem T61 : E.T 61 = some ⟨.map 3 3, 1, 8, some [.nilm], none⟩ := rfl
@[simp] theorem T62 : E.T 62 = some ⟨.struct [(0, 25), (1, 61), (2, 32)], 3, 40, some [.nilp, .nilm, .nils], none⟩ := rfl
@[simp] theorem T63 : E.T 63 = some ⟨.struct [(0, 25), (1, 61), (2, 32)], 3, 40, some [.nilp, .nilm, .nils], none⟩ := rfl
@[simp] theorem T64 : E.T 64 = some ⟨.other, 1, 8, some [.nilf], none⟩ := rfl
@[simp] theorem T65 : E.T 65 = some ⟨.struct [(0, 3), (1, 3)], 2, 16, some [.int .i64 0, .int .i64 0], some [.int .i64, .int .i64]⟩ := rfl
@[simp] theorem T66 : E.T 66 = some ⟨.struct [(0, 3), (1, 3)], 2, 16, some [.int .i64 0, .int .i64 0], some [.int .i64, .int .i64]⟩ := rfl
@[simp] theorem T67 : E.T 67 = some ⟨.other, 1, 0, none, none⟩ := rfl
@[simp] theorem T68 : E.T 68 = some ⟨.slice 66, 1, 24, some [.nils], none⟩ := rfl
@[simp] theorem T69 : E.T 69 = some ⟨.map 66 3, 1, 8, some [.nilm], none⟩ := rfl
@[simp] theorem T70 : E.T 70 = some ⟨.struct [(0, 68), (1, 69), (2, 26)], 3, 56, some [.nils, .nilm, .nils], none⟩ := rfl
@[simp] theorem T71 : E.T 71 = some ⟨.struct [(0, 68), (1, 69), (2, 26)], 3, 56, some [.nils, .nilm, .nils], none⟩ := rfl
@[simp] theorem T72 : E.T 72 = some ⟨.other, 1, 8, some [.nilf], none⟩ := rfl
@[simp] theorem T73 : E.T 73 = some ⟨.other, 1, 8, some [.nilf], none⟩ := rfl
@[simp] theorem T74 : E.T 74 = some ⟨.other, 1, 8, some [.nilf], none⟩ := rfl
@[simp] theorem T75 : E.T 75 = some ⟨.other, 1, 0, none, none⟩ := rfl
@[simp] theorem T76 : E.T 76 = some ⟨.other, 1, 8, some [.nilf], none⟩ := rfl
@[simp] theorem T77 : E.T 77 = some ⟨.other, 1, 8, some [.nilf], none⟩ := rfl
@[simp] theorem T78 : E.T 78 = some ⟨.other, 1, 8, some [.nilf], none⟩ := rfl
@[simp] theorem T79 : E.T 79 = some ⟨.other, 1, 8, some [.nilf], none⟩ := rfl
@[simp] theorem T80 : E.T 80 = some ⟨.other, 1, 8, some [.nilf], none⟩ := rfl
@[simp] theorem T81 : E.T 81 = some ⟨.other, 1, 8, some [.nilf], none⟩ := rfl
@[simp] theorem T82 : E.T 82 = some ⟨.other, 1, 8, some [.nilf], none⟩ := rfl
@[simp] theorem T83 : E.T 83 = some ⟨.other, 1, 0, none, none⟩ := rfl
@[simp] theorem T84 : E.T 84 = some ⟨.other, 1, 8, some [.nilf], none⟩ := rfl
@[simp] theorem T85 : E.T 85 = some ⟨.other, 1, 8, some [.nilf], none⟩ := rfl
@[simp] theorem T86 : E.T 86 = some ⟨.other, 1, 8, some [.nilf], none⟩ := rfl
@[simp] theorem T87 : E.T 87 = some ⟨.struct [(0, 17), (1, 17), (2, 17), (3, 9)], 4, 40, some [.nilp, .nilp, .nilp, .str []], none⟩ := rfl
@[simp] theorem T88 : E.T 88 = some ⟨.struct [(0, 17), (1, 17), (2, 17), (3, 9)], 4, 40, some [.nilp, .nilp, .nilp, .str []], none⟩ := rfl
@[simp] theorem T89 : E.T 89 = some ⟨.arr 0 16, 0, 0, some [], none⟩ := rfl
@[simp] theorem T90 : E.T 90 = some ⟨.struct [(0, 89)], 0, 0, some [], none⟩ := rfl
@[simp] theorem T91 : E.T 91 = some ⟨.struct [(0, 89)], 0, 0, some [], none⟩ := rfl
@[simp] theorem T92 : E.T 92 = some ⟨.int .u32, 1, 4, some [.int .u32 0], some [.int .u32]⟩ := rfl
@[simp] theorem T93 : E.T 93 = some ⟨.int .u8, 1, 1, some [.int .u8 0], some [.int .u8]⟩ := rfl
@[simp] theorem T94 : E.T 94 = some ⟨.int .u8, 1, 1, some [.int .u8 0], some [.int .u8]⟩ := rfl
@[simp] theorem T95 : E.T 95 = some ⟨.other, 1, 8, some [.nilf], none⟩ := rfl
@[simp] theorem T96 : E.T 96 = some ⟨.ptr 5, 1, 8, some [.nilp], none⟩ := rfl
@[simp] theorem T97 : E.T 97 = some ⟨.int .i32, 1, 4, some [.int .i32 0], some [.int .i32]⟩ := rfl
@[simp] theorem T98 : E.T 98 = some ⟨.int .i32, 1, 4, some [.int .i32 0], some [.int .i32]⟩ := rfl
@[simp] theorem T99 : E.T 99 = some ⟨.struct [(0, 12), (1, 12), (2, 92), (3, 93), (4, 5), (5, 5), (6, 94), (7, 95), (8, 96), (9, 97), (10, 98)], 11, 48, some [.int .u64 0, .int .u64 0, .int .u32 0, .int .u8 0, .int .u8 0, .int .u8 0, .int .u8 0, .nilf, .nilp, .int .i32 0, .int .i32 0], none⟩ := rfl
@[simp] theorem T100 : E.T 100 = some ⟨.struct [(0, 12), (1, 12), (2, 92), (3, 93), (4, 5), (5, 5), (6, 94), (7, 95), (8, 96), (9, 97), (10, 98)], 11, 48, some [.int .u64 0, .int .u64 0, .int .u32 0, .int .u8 0, .int .u8 0, .int .u8 0, .int .u8 0, .nilf, .nilp, .int .i32 0, .int .i32 0], none⟩ := rfl
@[simp] theorem T101 : E.T 101 = some ⟨.other, 1, 8, some [.nilp], none⟩ := rfl
end Go.Proofs.YtjlabjncojhjkaaDoor
