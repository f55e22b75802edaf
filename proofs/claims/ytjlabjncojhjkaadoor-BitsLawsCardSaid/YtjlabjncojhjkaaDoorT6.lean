/- A part of the proof of a law of the given program: contracts of functions over the clean heap. -/
import Derived.Test.YtjlabjncojhjkaaDoorTx
namespace Go.Proofs.YtjlabjncojhjkaaDoor
open Go Go.Cv
/-! ### BitsOrder: what its vectors come to -/
theorem o_gen {G : Gr} (ok : G.OK) (hG : G.l.length ≤ 1000) {X Y Z : List Int} (vX : Vec G X 6) (vY : Vec G Y 6) (vZ : Vec G Z 6) (L1 L2 S1 S2 : Int × Gr) (A1 A2 : List Int × Gr)
    (e1 : L1 = lessG G X Y) (e2 : L2 = lessG L1.2 Y X) (e3 : S1 = sameG L2.2 X Y) (e4 : A1 = addG S1.2 X Z) (e5 : A2 = addG A1.2 Y Z) (e6 : S2 = sameG A2.2 A1.1 A2.1) :
    L1.2.OK ∧ L2.2.OK ∧ S1.2.OK ∧ A1.2.OK ∧ A2.2.OK ∧ S2.2.OK ∧ Small A1.1 ∧ Small A2.1 ∧ Small [L1.1, L2.1, S1.1, S2.1] ∧ A1.1.length = 6 ∧ A2.1.length = 6 ∧
    ∀ m, evB S2.2 m [L1.1, L2.1, S1.1, S2.1] = [decide (num G m X < num G m Y), decide (num G m Y < num G m X), decide (num G m X = num G m Y), decide (trimN (num G m X + num G m Z) 6 = trimN (num G m Y + num G m Z) 6)] := by
  have u1 := lessG_up ok X Y
  have c1 := lessG_cost vX vY
  rw [← e1] at u1 c1
  have u2 := lessG_up u1.1.ok Y X
  have c2 := lessG_cost (vY.up u1.1) (vX.up u1.1)
  rw [← e2] at u2 c2
  have w2 := u1.1.trans u2.1
  have u3 := sameG_up u2.1.ok X Y
  have c3 := sameG_cost (vX.up w2) (vY.up w2)
  rw [← e3] at u3 c3
  have w3 := w2.trans u3.1
  have u4 := addG_up u3.1.ok (vX.up w3) (vZ.up w3)
  have c4 := addG_cost (vX.up w3) (vZ.up w3)
  rw [← e4] at u4 c4
  have w4 := w3.trans u4.1
  have u5 := addG_up u4.1.ok (vY.up w4) (vZ.up w4)
  have c5 := addG_cost (vY.up w4) (vZ.up w4)
  rw [← e5] at u5 c5
  have w5 := w4.trans u5.1
  have u6 := sameG_up u5.1.ok A1.1 A2.1
  have c6 := sameG_cost (u4.2.up u5.1) u5.2
  rw [← e6] at u6 c6
  have E1 : S2.2.E L1.1 := (((((u2.1.trans u3.1).trans u4.1).trans u5.1).trans u6.1).e u1.2)
  have E2 : S2.2.E L2.1 := ((((u3.1.trans u4.1).trans u5.1).trans u6.1).e u2.2)
  have E3 : S2.2.E S1.1 := (((u4.1.trans u5.1).trans u6.1).e u3.2)
  refine ⟨u1.1.ok, u2.1.ok, u3.1.ok, u4.1.ok, u5.1.ok, u6.1.ok, u4.2.small u4.1.ok, u5.2.small u5.1.ok, small_of (small_E u6.1.ok ?_), u4.2.len, u5.2.len, fun m => ?_⟩
  · intro e he
    simp only [List.mem_cons, List.not_mem_nil, or_false] at he
    rcases he with rfl | rfl | rfl | rfl
    · exact E1
    · exact E2
    · exact E3
    · exact u6.2
  · have b1 := bit_less ok vX vY (by omega) m
    have b2 := bit_less u1.1.ok (vY.up u1.1) (vX.up u1.1) (by omega) m
    have b3 := bit_same u2.1.ok (vX.up w2) (vY.up w2) (by omega) m
    have n4 := num_add u3.1.ok (vX.up w3) (vZ.up w3) (by omega) m
    have n5 := num_add u4.1.ok (vY.up w4) (vZ.up w4) (by omega) m
    have b6 := bit_same u5.1.ok (u4.2.up u5.1) u5.2 (by omega) m
    rw [← e1] at b1
    rw [← e2] at b2
    rw [← e3] at b3
    rw [← e4] at n4
    rw [← e5] at n5
    rw [← e6] at b6
    rw [num_up ok u1.1 vX, num_up ok u1.1 vY] at b2
    rw [num_up ok w2 vX, num_up ok w2 vY] at b3
    rw [num_up ok w3 vX, num_up ok w3 vZ] at n4
    rw [num_up ok w4 vY, num_up ok w4 vZ] at n5
    rw [num_up u4.1.ok u5.1 u4.2, n4, n5] at b6
    rw [evB_cons, evB_cons, evB_cons, evB_cons, evB_nil, b6,
      bit_up u1.1.ok ((((u2.1.trans u3.1).trans u4.1).trans u5.1).trans u6.1) u1.2, b1,
      bit_up u2.1.ok (((u3.1.trans u4.1).trans u5.1).trans u6.1) u2.2, b2,
      bit_up u3.1.ok ((u4.1.trans u5.1).trans u6.1) u3.2, b3]
    rfl
theorem o_add {x y z : Int} {k : Nat} (_ : 1 ≤ k) (hx : trimN x k = x) (hy : trimN y k = y) : trimN (x + z) k = trimN (y + z) k ↔ x = y := by
  constructor
  · intro h
    have h1 := trimN_mod (x + z) k
    have h2 := trimN_mod (y + z) k
    rw [h] at h1
    have h3 : (x + z) % 2 ^ k = (y + z) % 2 ^ k := h1.symm.trans h2
    have h4 := mod_sub h3 (show z % 2 ^ k = z % 2 ^ k from rfl)
    rw [show x + z - z = x by omega, show y + z - z = y by omega] at h4
    rw [← hx, ← hy]; exact trimN_congr h4
  · intro h; rw [h]
theorem o_inp {X Y Z : List Int × Gr} (hX : X = inpL gr0 6) (hY : Y = inpL X.2 6) (hZ : Z = inpL Y.2 6) (a b c : Int) :
    Z.2.OK ∧ Z.2.l.length = 19 ∧ Y.2.OK ∧ X.2.OK ∧ Vec Z.2 X.1 6 ∧ Vec Z.2 Y.1 6 ∧ Vec Z.2 Z.1 6 ∧ num Z.2 (bitsL a 6 ++ bitsL b 6 ++ bitsL c 6) X.1 = trimN a 6 ∧ num Z.2 (bitsL a 6 ++ bitsL b 6 ++ bitsL c 6) Y.1 = trimN b 6 ∧ num Z.2 (bitsL a 6 ++ bitsL b 6 ++ bitsL c 6) Z.1 = trimN c 6 := by
  have h1 := inp_vec gr0_ok (show 1 ≤ 6 ∧ 6 ≤ 16 by omega)
  have l0 : gr0.l = List.replicate (0 + 1) (-1, -1) := rfl
  have lX := (inp_l 6 0 l0 (by omega)).1
  have nX := num_inp gr0_ok l0 (k := 6) (by omega) (A := []) (C := bitsL b 6 ++ bitsL c 6) a rfl
  rw [← hX] at h1 lX nX
  rw [List.nil_append, ← List.append_assoc] at nX
  have h2 := inp_vec h1.1.ok (show 1 ≤ 6 ∧ 6 ≤ 16 by omega)
  have lY := (inp_l 6 (0 + 6) lX (by omega)).1
  have nY := num_inp h1.1.ok lX (k := 6) (by omega) (A := bitsL a 6) (C := bitsL c 6) b (bitsL_len a 6)
  rw [← hY] at h2 lY nY
  have h3 := inp_vec h2.1.ok (show 1 ≤ 6 ∧ 6 ≤ 16 by omega)
  have lZ := (inp_l 6 (0 + 6 + 6) lY (by omega)).1
  have nZ := num_inp h2.1.ok lY (k := 6) (by omega) (A := bitsL a 6 ++ bitsL b 6) (C := []) c (by rw [List.length_append, bitsL_len, bitsL_len])
  rw [← hZ] at h3 lZ nZ
  rw [List.append_nil] at nZ
  refine ⟨h3.1.ok, by rw [lZ, List.length_replicate], h2.1.ok, h1.1.ok, (h1.2.up h2.1).up h3.1, h2.2.up h3.1, h3.2, ?_, ?_, nZ⟩
  · rw [num_up h1.1.ok (h2.1.trans h3.1) h1.2, nX]
  · rw [num_up h2.1.ok h3.1 h2.2, nY]
theorem o_ev {G : Gr} {m : List Bool} {a b c : Int} {X Y Z : List Int} (hx : num G m X = trimN a 6) (hy : num G m Y = trimN b 6) (hz : num G m Z = trimN c 6) :
    [decide (num G m X < num G m Y), decide (num G m Y < num G m X), decide (num G m X = num G m Y), decide (trimN (num G m X + num G m Z) 6 = trimN (num G m Y + num G m Z) 6)] = [decide (trimN a 6 < trimN b 6), decide (trimN b 6 < trimN a 6), decide (trimN a 6 = trimN b 6), decide (trimN a 6 = trimN b 6)] := by
  have t := o_add (z := trimN c 6) (show 1 ≤ 6 by omega) (trim_trim a (show 1 ≤ 6 by omega) (show 1 ≤ 6 by omega)) (trim_trim b (show 1 ≤ 6 by omega) (show 1 ≤ 6 by omega))
  rw [hx, hy, hz]
  simp only [t]
end Go.Proofs.YtjlabjncojhjkaaDoor
