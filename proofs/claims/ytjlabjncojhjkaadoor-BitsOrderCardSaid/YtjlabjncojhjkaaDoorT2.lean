/- A part of the proof of a law of the given program: contracts of functions over the clean heap. -/
import Derived.Test.YtjlabjncojhjkaaDoorT1
namespace Go.Proofs.YtjlabjncojhjkaaDoor
open Go Go.Cv
theorem evB_up {G G' : Gr} (ok : G.OK) (u : G.Up G') {l : List Int} (h : ∀ e ∈ l, G.E e) (m : List Bool) : evB G' m l = evB G m l := by
  rw [evB_def, evB_def]
  exact List.map_congr_left fun e he => bit_up ok u (h e he) m
theorem evB_cons (G : Gr) (m : List Bool) (e : Int) (l : List Int) : evB G m (e :: l) = bitG G m e :: evB G m l := rfl
theorem evB_nil (G : Gr) (m : List Bool) : evB G m [] = [] := rfl
/-! ### Mux -/
theorem muxL_cost : ∀ (l n : List Int) (G : Gr) (c : Int), (muxL G c l n).2.l.length ≤ G.l.length + 3 * l.length
  | [], _, G, c => by simp [muxL]
  | _ :: _, [], G, c => by simp [muxL]
  | a :: l, b :: n, G, c => by
    have h1 := mux_len G c a b
    have h2 := muxL_cost l n (G.mux c a b).2 c
    simp only [muxL, List.length_cons]
    omega
theorem muxL_bit (m : List Bool) : ∀ (l n : List Int) {G : Gr} {c : Int}, G.OK → G.E c → (∀ e ∈ l, G.E e) → (∀ e ∈ n, G.E e) → l.length = n.length → G.l.length + 3 * l.length ≤ 200000 →
    evB (muxL G c l n).2 m (muxL G c l n).1 = if bitG G m c then evB G m l else evB G m n
  | [], [], G, c, _, _, _, _, _, _ => by simp only [muxL, evB_nil]; split <;> rfl
  | [], _ :: _, _, _, _, _, _, _, h, _ => by simp at h
  | _ :: _, [], _, _, _, _, _, _, h, _ => by simp at h
  | a :: l, b :: n, G, c, ok, hc, hl, hn, hlen, hr => by
    simp only [List.length_cons] at hlen hr
    have u := Gr.mux_up ok c a b
    have ln := mux_len G c a b
    have u2 := muxL_up l n c u.1.ok
    have ih := muxL_bit m l n u.1.ok (u.1.e hc) (fun e he => u.1.e (hl e (List.mem_cons_of_mem _ he))) (fun e he => u.1.e (hn e (List.mem_cons_of_mem _ he))) (by omega) (by omega)
    simp only [muxL]
    rw [evB_cons, ih, bit_up u.1.ok u2.1 u.2, mux_bit ok (by omega) c a b (hn b (List.mem_cons_self ..)), bit_up ok u.1 hc,
      evB_up ok u.1 (fun e he => hl e (List.mem_cons_of_mem _ he)), evB_up ok u.1 (fun e he => hn e (List.mem_cons_of_mem _ he)), evB_cons, evB_cons]
    split <;> rfl
/-! ### Sums -/
def addB : List Bool → List Bool → Bool → List Bool
  | x :: l, y :: n, c => ((x != y) != c) :: addB l n ((x && y) || ((x != y) && c))
  | _, _, _ => []
def bI (b : Bool) : Int := if b then 1 else 0
theorem addB_len : ∀ (l n : List Bool) (c : Bool), l.length = n.length → (addB l n c).length = l.length
  | [], _, _, _ => by simp [addB]
  | _ :: _, [], _, h => by simp at h
  | x :: l, y :: n, c, h => by simp [addB, addB_len l n _ (by simpa using h)]
theorem sumB_addB : ∀ (l n : List Bool) (c : Bool), l.length = n.length → sumB (addB l n c) = (sumB l + sumB n + bI c) % 2 ^ l.length
  | [], [], c, _ => by simp [addB, sumB]
  | [], _ :: _, _, h => by simp at h
  | _ :: _, [], _, h => by simp at h
  | x :: l, y :: n, c, h => by
    have ih := sumB_addB l n ((x && y) || ((x != y) && c)) (by simpa using h)
    have hp := pow_pos l.length
    simp only [addB, sumB, List.length_cons]
    rw [ih]
    have key : ∀ A B : Int, ∀ p : Int, 0 < p → ∀ s t : Int, 0 ≤ s → s ≤ 1 → (2 * (A % p) + s = (2 * A + s) % (p * 2)) := by
      intro A B p hp s t h0 h1
      have h2 := Int.emod_def A p
      have h3 := Int.emod_nonneg A (show p ≠ 0 by omega)
      have h4 := Int.emod_lt_of_pos A hp
      have e : 2 * A + s = (2 * (A % p) + s) + (p * 2) * (A / p) := by
        rw [h2, Int.mul_sub]
        have : p * 2 * (A / p) = 2 * (p * (A / p)) := by rw [Int.mul_comm p 2, Int.mul_assoc]
        omega
      rw [e, Int.add_mul_emod_self_left]
      exact (Int.emod_eq_of_lt (by omega) (by omega)).symm
    rw [Int.pow_succ]
    have k := key (sumB l + sumB n + bI ((x && y) || ((x != y) && c))) 0 (2 ^ l.length) hp (bI ((x != y) != c)) 0 (by unfold bI; split <;> omega) (by unfold bI; split <;> omega)
    have e1 : (if ((x != y) != c) = true then (1 : Int) else 0) = bI ((x != y) != c) := rfl
    rw [e1, Int.add_comm, k]
    congr 1
    cases x <;> cases y <;> cases c <;> simp [bI] <;> omega
theorem sumC_len (G : Gr) (a b c : Int) : (sumC G a b c).2.l.length ≤ G.l.length + 9 := by
  have h1 := xor_len G a b
  have h2 := xor_len (G.xor a b).2 (G.xor a b).1 c
  have h3 := or2_len (sumX G a b c).2 a b (G.xor a b).1 c
  unfold sumC
  unfold sumX at h3 ⊢
  omega
theorem sumL_cost : ∀ (l n : List Int) (G : Gr) (c : Int), (sumL G l n c).2.l.length ≤ G.l.length + 9 * l.length
  | [], _, G, c => by simp [sumL]
  | _ :: _, [], G, c => by simp [sumL]
  | a :: l, b :: n, G, c => by
    have h1 := sumC_len G a b c
    have h2 := sumL_cost l n (sumC G a b c).2 (sumC G a b c).1
    simp only [sumL, List.length_cons]
    omega
theorem sumL_bit (m : List Bool) : ∀ (l n : List Int) {G : Gr} {c : Int}, G.OK → G.E c → (∀ e ∈ l, G.E e) → (∀ e ∈ n, G.E e) → l.length = n.length → G.l.length + 9 * l.length ≤ 200000 →
    evB (sumL G l n c).2 m (sumL G l n c).1 = addB (evB G m l) (evB G m n) (bitG G m c)
  | [], [], G, c, _, _, _, _, _, _ => by simp only [sumL, evB_nil, addB]
  | [], _ :: _, _, _, _, _, _, _, h, _ => by simp at h
  | _ :: _, [], _, _, _, _, _, _, h, _ => by simp at h
  | a :: l, b :: n, G, c, ok, hc, hl, hn, hlen, hr => by
    simp only [List.length_cons] at hlen hr
    have ha := hl a (List.mem_cons_self ..); have hb := hn b (List.mem_cons_self ..)
    have x1 := Gr.xor_up ok a b
    have xl := xor_len G a b
    have u1 := sumX_up ok a b c
    have ul : (sumX G a b c).2.l.length ≤ G.l.length + 6 := by have := xor_len (G.xor a b).2 (G.xor a b).1 c; unfold sumX; omega
    have u2 := sumC_up ok a b c
    have cl := sumC_len G a b c
    have u3 := sumL_up l n (sumC G a b c).1 u2.1.ok
    have up := u1.1.trans u2.1
    have ih := sumL_bit m l n u2.1.ok u2.2 (fun e he => up.e (hl e (List.mem_cons_of_mem _ he))) (fun e he => up.e (hn e (List.mem_cons_of_mem _ he))) (by omega) (by omega)
    have b1 : bitG (sumX G a b c).2 m (sumX G a b c).1 = ((bitG G m a != bitG G m b) != bitG G m c) := by
      unfold sumX
      rw [xor_bit x1.1.ok (by omega), xor_bit ok (by omega), bit_up ok x1.1 hc]
    have xu : (G.xor a b).2.Up (sumX G a b c).2 := (Gr.xor_up x1.1.ok _ c).1
    have b2 : bitG (sumC G a b c).2 m (sumC G a b c).1 = ((bitG G m a && bitG G m b) || ((bitG G m a != bitG G m b) && bitG G m c)) := by
      unfold sumC
      rw [or2_bit u1.1.ok (by omega) (xu.e x1.2) _ _ _ (u1.1.e hc), bit_up ok u1.1 ha, bit_up ok u1.1 hb, bit_up ok u1.1 hc, bit_up x1.1.ok xu x1.2, xor_bit ok (by omega)]
    simp only [sumL]
    rw [evB_cons, ih, bit_up u1.1.ok (u2.1.trans u3.1) u1.2, b1, b2, evB_up ok up (fun e he => hl e (List.mem_cons_of_mem _ he)), evB_up ok up (fun e he => hn e (List.mem_cons_of_mem _ he)), evB_cons, evB_cons]
    simp only [addB]
end Go.Proofs.YtjlabjncojhjkaaDoor
