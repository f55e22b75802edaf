/- A part of the proof of a law of the given program: contracts of functions over the clean heap. -/
import Derived.Test.YtjlabjncojhjkaaDoorPx
namespace Go.Proofs.YtjlabjncojhjkaaDoor
open Go Go.Cv
/-! ### What the graph's functions answer -/
theorem evalL_pre {m : List Bool} {l t : List (Int × Int)} (h : 0 < l.length) : ∃ s, (evalL m (l ++ t)).1 = (evalL m l).1 ++ s := by
  unfold evalL
  rw [List.tail_append_of_ne_nil (by intro e; rw [e] at h; simp at h), List.foldl_append]
  exact evalFold_pre m t _
theorem bitV_pre {V s : List Bool} {e : Int} (h : 0 ≤ e) (hl : e / 2 < V.length) : bitV (V ++ s) e = bitV V e := by
  unfold bitV
  rw [List.getD_eq_getElem?_getD, List.getD_eq_getElem?_getD, List.getElem?_append_left (by omega)]
theorem bit_up {G G' : Gr} (ok : G.OK) (u : G.Up G') {e : Int} (h : G.E e) (m : List Bool) : bitG G' m e = bitG G m e := by
  unfold bitG
  rw [Gr.edge_id h, Gr.edge_id (u.e h)]
  obtain ⟨t, ht⟩ := u.l
  rw [ht]
  obtain ⟨s, hs⟩ := evalL_pre (m := m) (t := t) ok.pos
  rw [hs]
  exact bitV_pre h.1 (by rw [evalL_len ok.pos]; have := h.2; omega)
theorem bit_edge {G : Gr} (ok : G.OK) (m : List Bool) (e : Int) : bitG G m (G.edge e) = bitG G m e := by
  unfold bitG; rw [Gr.edge_id (Gr.edge_E ok e)]
theorem bitV_nt {V : List Bool} {e : Int} (_ : 0 ≤ e) : bitV V (nt e) = !bitV V e := by
  have h2 : nt e / 2 = e / 2 := by unfold nt; split <;> omega
  have h3 : (nt e % 2 = 1) ↔ ¬ (e % 2 = 1) := by unfold nt; split <;> omega
  unfold bitV
  rw [h2]
  by_cases q : e % 2 = 1
  · have : ¬ (nt e % 2 = 1) := fun w => h3.1 w q
    simp [q, this]
  · simp [q, h3.2 q]
theorem bit_nt {G : Gr} {e : Int} (h : G.E e) (m : List Bool) : bitG G m (nt e) = !bitG G m e := by
  unfold bitG
  rw [Gr.edge_id h, Gr.edge_id (nt_E h)]
  exact bitV_nt h.1
/-- A node that is an and. -/
theorem bit_node {G : Gr} (ok : G.OK) {k : Nat} {p : Int × Int} (hk : G.l[k]? = some p) (h0 : 0 < k) (hp : p ≠ (-1, -1)) (m : List Bool) : bitG G m (2 * (k : Int)) = (bitG G m p.1 && bitG G m p.2) := by
  have hl := (List.getElem?_eq_some_iff.1 hk).1
  have hnd := (ok.nd _ _ hk).resolve_left hp
  have split_ : G.l = G.l.take k ++ p :: G.l.drop (k + 1) := by
    conv => lhs; rw [← List.take_append_drop k G.l]
    congr 1
    rw [List.drop_eq_getElem_cons hl]
    congr 1
    exact (List.getElem?_eq_some_iff.1 hk).2
  have tl : 0 < (G.l.take k).length := by rw [List.length_take]; omega
  have tlen : (evalL m (G.l.take k)).1.length = k := by rw [evalL_len tl, List.length_take]; omega
  have h1 : evalL m (G.l.take k ++ [p]) = evalStep m (evalL m (G.l.take k)) p := evalL_snoc tl
  have h2 : (evalStep m (evalL m (G.l.take k)) p).1 = (evalL m (G.l.take k)).1 ++ [bitV (evalL m (G.l.take k)).1 p.1 && bitV (evalL m (G.l.take k)).1 p.2] := by unfold evalStep; rw [if_neg hp]
  obtain ⟨s, hs⟩ := evalL_pre (m := m) (l := G.l.take k ++ [p]) (t := G.l.drop (k + 1)) (by simp)
  have hall : (evalL m G.l).1 = (evalL m (G.l.take k)).1 ++ ((bitV (evalL m (G.l.take k)).1 p.1 && bitV (evalL m (G.l.take k)).1 p.2) :: s) := by
    conv => lhs; rw [split_]
    rw [show G.l.take k ++ p :: G.l.drop (k + 1) = (G.l.take k ++ [p]) ++ G.l.drop (k + 1) by simp, hs, h1, h2]
    simp
  have e1 : bitG G m p.1 = bitV (evalL m (G.l.take k)).1 p.1 := by
    unfold bitG
    rw [Gr.edge_id (by unfold Gr.E; omega), hall]
    exact bitV_pre (by omega) (by rw [tlen]; omega)
  have e2 : bitG G m p.2 = bitV (evalL m (G.l.take k)).1 p.2 := by
    unfold bitG
    rw [Gr.edge_id (by unfold Gr.E; omega), hall]
    exact bitV_pre (by omega) (by rw [tlen]; omega)
  rw [e1, e2]
  unfold bitG
  rw [Gr.edge_id (by unfold Gr.E; omega), hall]
  unfold bitV
  have q1 : (2 * (k : Int) / 2).toNat = k := by omega
  have q2 : ¬ (2 * (k : Int) % 2 = 1) := by omega
  rw [q1, List.getD_eq_getElem?_getD, List.getElem?_append_right (by omega), tlen, Nat.sub_self]
  simp
theorem ands_bit {G : Gr} (ok : G.OK) (hr : G.l.length < 200000) {a b : Int} (ha : G.E a) (hb : G.E b) (hab : a ≤ b) (m : List Bool) : bitG (G.ands a b).2 m (G.ands a b).1 = (bitG G m a && bitG G m b) := by
  have up := Gr.ands_up ok ha hb hab
  unfold Gr.ands at up ⊢
  split
  · rename_i h
    rcases h with rfl | rfl
    · rw [bit_0 ok]; rfl
    · rw [bit_0 ok, bit_nt hb]; simp
  · rename_i h1
    split
    · rename_i h
      rcases h with rfl | rfl
      · rw [bit_1 ok]; rfl
      · simp
    · rename_i h2
      split
      · rename_i i e he
        obtain ⟨k, rfl, h0, hk, hp⟩ := ok.is _ _ (lookPI_mem _ _ _ _ _ he)
        exact bit_node ok hk h0 hp m
      · rename_i hn
        rw [if_neg h1, if_neg h2] at up
        simp only [hn] at up
        rw [if_neg (by omega)] at up
        rw [if_neg (by omega)]
        have hp : ((a, b) : Int × Int) ≠ (-1, -1) := by
          intro e; have := congrArg Prod.fst e; simp only at this; have := ha.1; omega
        rw [bit_node up.1.ok (k := G.l.length) (p := (a, b)) (by simp) ok.pos hp]
        simp only
        rw [bit_up ok up.1 ha, bit_up ok up.1 hb]
theorem and_bit {G : Gr} (ok : G.OK) (hr : G.l.length < 200000) (a b : Int) (m : List Bool) : bitG (G.and a b).2 m (G.and a b).1 = (bitG G m a && bitG G m b) := by
  unfold Gr.and
  split
  · rw [ands_bit ok hr (Gr.edge_E ok b) (Gr.edge_E ok a) (by omega), bit_edge ok, bit_edge ok, Bool.and_comm]
  · rw [ands_bit ok hr (Gr.edge_E ok a) (Gr.edge_E ok b) (by omega), bit_edge ok, bit_edge ok]
theorem and_len (G : Gr) (a b : Int) : (G.and a b).2.l.length ≤ G.l.length + 1 := by
  have h : ∀ a b, (G.ands a b).2.l.length ≤ G.l.length + 1 := by
    intro a b
    unfold Gr.ands
    split
    · exact Nat.le_succ _
    · split
      · exact Nat.le_succ _
      · split
        · exact Nat.le_succ _
        · split <;> simp
  unfold Gr.and
  split <;> exact h _ _
theorem or_len (G : Gr) (a b : Int) : (G.or a b).2.l.length ≤ G.l.length + 1 := and_len G _ _
theorem or_bit {G : Gr} (ok : G.OK) (hr : G.l.length < 200000) (a b : Int) (m : List Bool) : bitG (G.or a b).2 m (G.or a b).1 = (bitG G m a || bitG G m b) := by
  have u := Gr.and_up ok (nt (G.edge a)) (nt (G.edge b))
  show bitG (G.and (nt (G.edge a)) (nt (G.edge b))).2 m (nt (G.and (nt (G.edge a)) (nt (G.edge b))).1) = _
  rw [bit_nt u.2, and_bit ok hr, bit_nt (Gr.edge_E ok a), bit_nt (Gr.edge_E ok b), bit_edge ok, bit_edge ok]
  simp
theorem or2_bit {G : Gr} (ok : G.OK) (hr : G.l.length + 3 ≤ 200000) {c : Int} (hc : G.E c) (a b d : Int) (hd : G.E d) (m : List Bool) :
    bitG (Gr.or2 (G.and a b) ((G.and a b).2.and c d)).2 m (Gr.or2 (G.and a b) ((G.and a b).2.and c d)).1 = ((bitG G m a && bitG G m b) || (bitG G m c && bitG G m d)) := by
  have h1 := Gr.and_up ok a b
  have h2 := Gr.and_up h1.1.ok c d
  have l1 := and_len G a b
  have l2 := and_len (G.and a b).2 c d
  unfold Gr.or2
  rw [or_bit h2.1.ok (by omega), bit_up h1.1.ok h2.1 h1.2, and_bit ok (by omega), and_bit h1.1.ok (by omega), bit_up ok h1.1 hc, bit_up ok h1.1 hd]
theorem or2_len (G : Gr) (a b c d : Int) : (Gr.or2 (G.and a b) ((G.and a b).2.and c d)).2.l.length ≤ G.l.length + 3 := by
  have l1 := and_len G a b
  have l2 := and_len (G.and a b).2 c d
  have l3 := or_len ((G.and a b).2.and c d).2 (G.and a b).1 ((G.and a b).2.and c d).1
  unfold Gr.or2; omega
theorem xor_len (G : Gr) (a b : Int) : (G.xor a b).2.l.length ≤ G.l.length + 3 := or2_len G _ _ _ _
theorem mux_len (G : Gr) (c a b : Int) : (G.mux c a b).2.l.length ≤ G.l.length + 3 := or2_len G _ _ _ _
theorem xor_bit {G : Gr} (ok : G.OK) (hr : G.l.length + 3 ≤ 200000) (a b : Int) (m : List Bool) : bitG (G.xor a b).2 m (G.xor a b).1 = (bitG G m a != bitG G m b) := by
  unfold Gr.xor
  rw [or2_bit ok hr (nt_E (Gr.edge_E ok a)) _ _ _ (Gr.edge_E ok b), bit_nt (Gr.edge_E ok a), bit_nt (Gr.edge_E ok b)]
  simp only [bit_edge ok]
  cases bitG G m a <;> cases bitG G m b <;> rfl
theorem mux_bit {G : Gr} (ok : G.OK) (hr : G.l.length + 3 ≤ 200000) (c a b : Int) (hb : G.E b) (m : List Bool) : bitG (G.mux c a b).2 m (G.mux c a b).1 = if bitG G m c then bitG G m a else bitG G m b := by
  unfold Gr.mux
  rw [or2_bit ok hr (nt_E (Gr.edge_E ok c)) _ _ _ hb, bit_nt (Gr.edge_E ok c)]
  simp only [bit_edge ok]
  cases bitG G m c <;> cases bitG G m a <;> cases bitG G m b <;> rfl
end Go.Proofs.YtjlabjncojhjkaaDoor
namespace Go.Proofs.YtjlabjncojhjkaaDoor
open Go Go.Cv
theorem evB_up {G G' : Gr} (ok : G.OK) (u : G.Up G') {l : List Int} (h : ∀ e ∈ l, G.E e) (m : List Bool) : evB G' m l = evB G m l := by
  rw [evB_def, evB_def]
  exact List.map_congr_left fun e he => bit_up ok u (h e he) m
theorem evB_cons (G : Gr) (m : List Bool) (e : Int) (l : List Int) : evB G m (e :: l) = bitG G m e :: evB G m l := rfl
theorem evB_nil (G : Gr) (m : List Bool) : evB G m [] = [] := rfl
/-! ### Mux -/
theorem muxL_cost : ∀ (l n : List Int) (G : Gr) (c : Int), (muxL G c l n).2.l.length ≤ G.l.length + 3 * l.length
  | [], _, G, c => by simp [muxL]
  | _ :: _, [], G, c => by simp [muxL]
  | a :: l, b :: n, G, c => by
    have h1 := mux_len G c a b
    have h2 := muxL_cost l n (G.mux c a b).2 c
    simp only [muxL, List.length_cons]
    omega
theorem muxL_bit (m : List Bool) : ∀ (l n : List Int) {G : Gr} {c : Int}, G.OK → G.E c → (∀ e ∈ l, G.E e) → (∀ e ∈ n, G.E e) → l.length = n.length → G.l.length + 3 * l.length ≤ 200000 →
    evB (muxL G c l n).2 m (muxL G c l n).1 = if bitG G m c then evB G m l else evB G m n
  | [], [], G, c, _, _, _, _, _, _ => by simp only [muxL, evB_nil]; split <;> rfl
  | [], _ :: _, _, _, _, _, _, _, h, _ => by simp at h
  | _ :: _, [], _, _, _, _, _, _, h, _ => by simp at h
  | a :: l, b :: n, G, c, ok, hc, hl, hn, hlen, hr => by
    simp only [List.length_cons] at hlen hr
    have u := Gr.mux_up ok c a b
    have ln := mux_len G c a b
    have u2 := muxL_up l n c u.1.ok
    have ih := muxL_bit m l n u.1.ok (u.1.e hc) (fun e he => u.1.e (hl e (List.mem_cons_of_mem _ he))) (fun e he => u.1.e (hn e (List.mem_cons_of_mem _ he))) (by omega) (by omega)
    simp only [muxL]
    rw [evB_cons, ih, bit_up u.1.ok u2.1 u.2, mux_bit ok (by omega) c a b (hn b (List.mem_cons_self ..)), bit_up ok u.1 hc,
      evB_up ok u.1 (fun e he => hl e (List.mem_cons_of_mem _ he)), evB_up ok u.1 (fun e he => hn e (List.mem_cons_of_mem _ he)), evB_cons, evB_cons]
    split <;> rfl
/-! ### Sums -/
def addB : List Bool → List Bool → Bool → List Bool
  | x :: l, y :: n, c => ((x != y) != c) :: addB l n ((x && y) || ((x != y) && c))
  | _, _, _ => []
def bI (b : Bool) : Int := if b then 1 else 0
theorem addB_len : ∀ (l n : List Bool) (c : Bool), l.length = n.length → (addB l n c).length = l.length
  | [], _, _, _ => by simp [addB]
  | _ :: _, [], _, h => by simp at h
  | x :: l, y :: n, c, h => by simp [addB, addB_len l n _ (by simpa using h)]
theorem sumB_addB : ∀ (l n : List Bool) (c : Bool), l.length = n.length → sumB (addB l n c) = (sumB l + sumB n + bI c) % 2 ^ l.length
  | [], [], c, _ => by simp [addB, sumB]
  | [], _ :: _, _, h => by simp at h
  | _ :: _, [], _, h => by simp at h
  | x :: l, y :: n, c, h => by
    have ih := sumB_addB l n ((x && y) || ((x != y) && c)) (by simpa using h)
    have hp := pow_pos l.length
    simp only [addB, sumB, List.length_cons]
    rw [ih]
    have key : ∀ A B : Int, ∀ p : Int, 0 < p → ∀ s t : Int, 0 ≤ s → s ≤ 1 → (2 * (A % p) + s = (2 * A + s) % (p * 2)) := by
      intro A B p hp s t h0 h1
      have h2 := Int.emod_def A p
      have h3 := Int.emod_nonneg A (show p ≠ 0 by omega)
      have h4 := Int.emod_lt_of_pos A hp
      have e : 2 * A + s = (2 * (A % p) + s) + (p * 2) * (A / p) := by
        rw [h2, Int.mul_sub]
        have : p * 2 * (A / p) = 2 * (p * (A / p)) := by rw [Int.mul_comm p 2, Int.mul_assoc]
        omega
      rw [e, Int.add_mul_emod_self_left]
      exact (Int.emod_eq_of_lt (by omega) (by omega)).symm
    rw [Int.pow_succ]
    have k := key (sumB l + sumB n + bI ((x && y) || ((x != y) && c))) 0 (2 ^ l.length) hp (bI ((x != y) != c)) 0 (by unfold bI; split <;> omega) (by unfold bI; split <;> omega)
    have e1 : (if ((x != y) != c) = true then (1 : Int) else 0) = bI ((x != y) != c) := rfl
    rw [e1, Int.add_comm, k]
    congr 1
    cases x <;> cases y <;> cases c <;> simp [bI] <;> omega
theorem sumC_len (G : Gr) (a b c : Int) : (sumC G a b c).2.l.length ≤ G.l.length + 9 := by
  have h1 := xor_len G a b
  have h2 := xor_len (G.xor a b).2 (G.xor a b).1 c
  have h3 := or2_len (sumX G a b c).2 a b (G.xor a b).1 c
  unfold sumC
  unfold sumX at h3 ⊢
  omega
theorem sumL_cost : ∀ (l n : List Int) (G : Gr) (c : Int), (sumL G l n c).2.l.length ≤ G.l.length + 9 * l.length
  | [], _, G, c => by simp [sumL]
  | _ :: _, [], G, c => by simp [sumL]
  | a :: l, b :: n, G, c => by
    have h1 := sumC_len G a b c
    have h2 := sumL_cost l n (sumC G a b c).2 (sumC G a b c).1
    simp only [sumL, List.length_cons]
    omega
theorem sumL_bit (m : List Bool) : ∀ (l n : List Int) {G : Gr} {c : Int}, G.OK → G.E c → (∀ e ∈ l, G.E e) → (∀ e ∈ n, G.E e) → l.length = n.length → G.l.length + 9 * l.length ≤ 200000 →
    evB (sumL G l n c).2 m (sumL G l n c).1 = addB (evB G m l) (evB G m n) (bitG G m c)
  | [], [], G, c, _, _, _, _, _, _ => by simp only [sumL, evB_nil, addB]
  | [], _ :: _, _, _, _, _, _, _, h, _ => by simp at h
  | _ :: _, [], _, _, _, _, _, _, h, _ => by simp at h
  | a :: l, b :: n, G, c, ok, hc, hl, hn, hlen, hr => by
    simp only [List.length_cons] at hlen hr
    have ha := hl a (List.mem_cons_self ..); have hb := hn b (List.mem_cons_self ..)
    have x1 := Gr.xor_up ok a b
    have xl := xor_len G a b
    have u1 := sumX_up ok a b c
    have ul : (sumX G a b c).2.l.length ≤ G.l.length + 6 := by have := xor_len (G.xor a b).2 (G.xor a b).1 c; unfold sumX; omega
    have u2 := sumC_up ok a b c
    have cl := sumC_len G a b c
    have u3 := sumL_up l n (sumC G a b c).1 u2.1.ok
    have up := u1.1.trans u2.1
    have ih := sumL_bit m l n u2.1.ok u2.2 (fun e he => up.e (hl e (List.mem_cons_of_mem _ he))) (fun e he => up.e (hn e (List.mem_cons_of_mem _ he))) (by omega) (by omega)
    have b1 : bitG (sumX G a b c).2 m (sumX G a b c).1 = ((bitG G m a != bitG G m b) != bitG G m c) := by
      unfold sumX
      rw [xor_bit x1.1.ok (by omega), xor_bit ok (by omega), bit_up ok x1.1 hc]
    have xu : (G.xor a b).2.Up (sumX G a b c).2 := (Gr.xor_up x1.1.ok _ c).1
    have b2 : bitG (sumC G a b c).2 m (sumC G a b c).1 = ((bitG G m a && bitG G m b) || ((bitG G m a != bitG G m b) && bitG G m c)) := by
      unfold sumC
      rw [or2_bit u1.1.ok (by omega) (xu.e x1.2) _ _ _ (u1.1.e hc), bit_up ok u1.1 ha, bit_up ok u1.1 hb, bit_up ok u1.1 hc, bit_up x1.1.ok xu x1.2, xor_bit ok (by omega)]
    simp only [sumL]
    rw [evB_cons, ih, bit_up u1.1.ok (u2.1.trans u3.1) u1.2, b1, b2, evB_up ok up (fun e he => hl e (List.mem_cons_of_mem _ he)), evB_up ok up (fun e he => hn e (List.mem_cons_of_mem _ he)), evB_cons, evB_cons]
    simp only [addB]
end Go.Proofs.YtjlabjncojhjkaaDoor
namespace Go.Proofs.YtjlabjncojhjkaaDoor
open Go Go.Cv
/-! ### The law BitsParts -/
theorem trimN_b (n : Int) {k : Nat} (hk : 1 ≤ k) : -(2 ^ (k - 1)) ≤ trimN n k ∧ trimN n k < 2 ^ (k - 1) ∧ (2 : Int) ^ k = 2 * 2 ^ (k - 1) := by
  have hp := pow_pos k
  have pk : (2 : Int) ^ k = 2 * 2 ^ (k - 1) := by
    have : k = (k - 1) + 1 := by omega
    conv => lhs; rw [this, Int.pow_succ]
    omega
  have h1 := Int.emod_nonneg n (show (2 : Int) ^ k ≠ 0 by omega)
  have h2 := Int.emod_lt_of_pos n hp
  unfold trimN
  split <;> omega
theorem trimN_in {x : Int} {k : Nat} (hk : 1 ≤ k) (h : -(2 ^ (k - 1)) ≤ x ∧ x < 2 ^ (k - 1)) : trimN x k = x := by
  have hp := pow_pos (k - 1)
  have pk := (trimN_b x hk).2.2
  unfold trimN
  by_cases c : 0 ≤ x
  · rw [Int.emod_eq_of_lt c (by omega), if_neg (by omega)]
  · have e : x % 2 ^ k = x + 2 ^ k := by
      rw [← Int.add_emod_right, Int.emod_eq_of_lt (by omega) (by omega)]
    rw [e, if_pos (by omega)]; omega
theorem trimN_mod (n : Int) (k : Nat) : trimN n k % 2 ^ k = n % 2 ^ k := by
  unfold trimN
  split
  · rw [Int.sub_emod_right, Int.emod_emod_of_dvd _ (Int.dvd_refl _)]
  · rw [Int.emod_emod_of_dvd _ (Int.dvd_refl _)]
theorem trimN_congr {x y : Int} {k : Nat} (h : x % 2 ^ k = y % 2 ^ k) : trimN x k = trimN y k := by unfold trimN; rw [h]
theorem pow_le (a b : Nat) (h : a ≤ b) : (2 : Int) ^ a ≤ 2 ^ b := by
  have h1 : 2 ^ a ≤ 2 ^ b := Nat.pow_le_pow_right (by omega) h
  have e1 : ((2 ^ a : Nat) : Int) = (2 : Int) ^ a := by simp
  have e2 : ((2 ^ b : Nat) : Int) = (2 : Int) ^ b := by simp
  omega
theorem trim_trim (n : Int) {a b : Nat} (ha : 1 ≤ a) (hb : 1 ≤ b) : trimN (trimN n a) b = trimN n (min a b) := by
  by_cases h : a ≤ b
  · rw [Nat.min_eq_left h]
    have hx := trimN_b n ha
    have hp := pow_le (a - 1) (b - 1) (by omega)
    exact trimN_in hb ⟨by omega, by omega⟩
  · rw [Nat.min_eq_right (by omega)]
    apply trimN_congr
    have hd : (2 : Int) ^ b ∣ 2 ^ a := by
      have e1 : ((2 ^ a : Nat) : Int) = (2 : Int) ^ a := by simp
      have e2 : ((2 ^ b : Nat) : Int) = (2 : Int) ^ b := by simp
      rw [← e1, ← e2]; exact Int.natCast_dvd_natCast.2 (Nat.pow_dvd_pow 2 (by omega))
    rw [← Int.emod_emod_of_dvd (trimN n a) hd, trimN_mod, Int.emod_emod_of_dvd n hd]
theorem value_bits (n : Int) {k : Nat} (h : 1 ≤ k ∧ k ≤ 16) : valueL (bitsL n k) = trimN n k := by
  rw [valueL_eq (by rw [bitsL_len]; exact h), sval_bits]
set_option maxRecDepth 8000 in
theorem bitsParts_run (n w to : Int) : Runs E 7 [.int .i64 n, .int .i64 w, .int .i64 to] ⟨0, .leaf⟩ fun v _ => v = .bool true := by
  have ha := heldN_b w
  have hb := heldN_b to
  have hk1 : (heldN w : Int) = (if 16 < (if 1 > w then 1 else w) then 16 else (if 1 > w then 1 else w)) := by unfold heldN; omega
  have hk2 : (heldN to : Int) = (if 16 < (if 1 > to then 1 else to) then 16 else (if 1 > to then 1 else to)) := by unfold heldN; omega
  have hk3 : (if 16 < (if to < 1 then 1 else to) then 16 else (if to < 1 then 1 else to)) = (heldN to : Int) := by unfold heldN; omega
  refine Runs.ofX Tryd.func7 rfl rfl rfl rfl (fun _ => rfl) ?_
  simp [Tryd.f7]
  refine (awake_run (S := fun _ _ => False) (fun i _ => rfl) (fun _ _ q => q.elim)).mono fun v h1 ⟨hv, g1, _⟩ => ?_
  subst hv
  simp [rtrim_u, trim_u]
  refine (bits_run g1.wf n w).mono fun v h2 F2 => ?_
  simp
  refine value_of (l := bitsL n (heldN w)) F2 (by rw [bitsL_len]; omega) ?_
  rw [value_bits n ha]
  simp
  refine (bits_run F2.gr.wf n w).mono fun v h3 F3 => ?_
  obtain ⟨g3, k3, i3, hv, n3, c3⟩ := F3
  rw [bools_len, bitsL_len] at hv
  subst hv
  simp [← hk1]
  refine (new_mem g3.wf (S := fun _ _ => False) (fun _ _ q => q.elim)).mono fun v h4 ⟨g4, gid, hv, I⟩ => ?_
  subst hv
  simp
  refine (const_run I.wf n w).mono fun v h5 F5 => ?_
  obtain ⟨i5, rfl, n5, I5⟩ := I.fresh1 F5
  simp
  have r6 := wide_run I5.wf (v := .ref i5 0 (ints (constL n (heldN w))).length 1) (l := constL n (heldN w)) (.inr ⟨i5, [], rfl, by rw [List.append_nil]; exact I5.sv i5 _ (.inr ⟨rfl, rfl⟩)⟩) to
  refine r6.mono fun v h6 F6 => ?_
  obtain ⟨i6, rfl, n6, I6⟩ := I5.fresh1 F6
  have l6 := wideL_len (constL n (heldN w)) (heldN to)
  simp [rtrim_u, ints_len', l6, hk3]
  have sw : Small (wideL (constL n (heldN w)) (heldN to)) := small_wide (small_const _ _) _
  have r7 := eval_run I6 (mv := .nils) (ev := .ref i6 0 (wideL (constL n (heldN w)) (heldN to)).length 1) (model := []) (es := wideL (constL n (heldN w)) (heldN to)) (.inl ⟨rfl, rfl⟩) (.inr ⟨i6, rfl, .inr ⟨rfl, rfl⟩⟩) (by intro e; rw [e, List.length_nil] at l6; omega) (by omega) (by decide) sw
  rw [l6] at r7
  refine r7.mono fun v h7 F7 => ?_
  simp
  refine value_of (l := evB gr0 [] (wideL (constL n (heldN w)) (heldN to))) F7 (by rw [evB_len]; omega) ?_
  rw [wide_const gr0_ok [] n ha hb]
  have I7 := I6.fresh F7.gr F7.fr
  simp [trim_trim n ha.1 hb.1]
  refine (inputs_run I7 w).mono fun v h8 ⟨g8, i8, hv, n8, I8⟩ => ?_
  subst hv
  simp [inpL_len]
end Go.Proofs.YtjlabjncojhjkaaDoor
namespace Go.Proofs.YtjlabjncojhjkaaDoor
open Go Go.Cv
/-! ### Vectors as numbers -/
/-- The number that a vector comes to. -/
def num (G : Gr) (m : List Bool) (l : List Int) : Int := sval (evB G m l)
structure Vec (G : Gr) (l : List Int) (k : Nat) : Prop where
  len : l.length = k
  b : 1 ≤ k ∧ k ≤ 16
  e : ∀ x ∈ l, G.E x
theorem Vec.up {G G' : Gr} {l : List Int} {k : Nat} (v : Vec G l k) (u : G.Up G') : Vec G' l k := ⟨v.len, v.b, fun x hx => u.e (v.e x hx)⟩
theorem num_up {G G' : Gr} (ok : G.OK) (u : G.Up G') {l : List Int} {k : Nat} (v : Vec G l k) (m : List Bool) : num G' m l = num G m l := by
  unfold num; rw [evB_up ok u v.e]
theorem Vec.small {G : Gr} (ok : G.OK) {l : List Int} {k : Nat} (v : Vec G l k) : Small l := small_of (small_E ok v.e)
theorem Vec.ne {G : Gr} {l : List Int} {k : Nat} (v : Vec G l k) : l ≠ [] := by
  intro e; have h1 := v.len; have h2 := v.b; rw [e] at h1; simp at h1; omega
theorem Vec.bl {G : Gr} {l : List Int} {k : Nat} (v : Vec G l k) : 1 ≤ l.length ∧ l.length ≤ 16 := by rw [v.len]; exact v.b
theorem Vec.wide {G : Gr} {l : List Int} {k j : Nat} (v : Vec G l k) (hj : 1 ≤ j ∧ j ≤ 16) : Vec G (wideL l j) j :=
  ⟨wideL_len _ _, hj, fun x hx => v.e x (by have := mem_wide hx; rwa [vec_id v.bl] at this)⟩
theorem num_wide {G : Gr} {l : List Int} {k j : Nat} (v : Vec G l k) (h : k ≤ j) (m : List Bool) : num G m (wideL l j) = num G m l := by
  unfold num
  rw [evB_wide v.bl, sval_wideB (by rw [evB_len]; exact v.bl.1) (by rw [evB_len, v.len]; exact h)]
theorem Vec.const {G : Gr} (ok : G.OK) (n : Int) {k : Nat} (hk : 1 ≤ k ∧ k ≤ 16) : Vec G (constL n k) k := ⟨constL_len n k, hk, const_E ok n k⟩
theorem num_const {G : Gr} (ok : G.OK) (n : Int) (k : Nat) (m : List Bool) : num G m (constL n k) = trimN n k := by
  unfold num; rw [evB_const ok, sval_bits]
theorem num_value {G : Gr} {l : List Int} {k : Nat} (v : Vec G l k) (m : List Bool) : valueL (evB G m l) = num G m l := valueL_eq (by rw [evB_len]; exact v.bl)
theorem both_eq {G : Gr} {a b : List Int} {k j : Nat} (va : Vec G a k) (vb : Vec G b j) : bothK a b = max k j := by
  unfold bothK; rw [vec_id va.bl, vec_id vb.bl, va.len, vb.len]
theorem max_b {G : Gr} {a b : List Int} {k j : Nat} (va : Vec G a k) (vb : Vec G b j) : 1 ≤ max k j ∧ max k j ≤ 16 := by have h1 := va.b; have h2 := vb.b; omega
theorem mod_ex {p x y : Int} (h : x % p = y % p) : ∃ t, x = y + p * t := by
  refine ⟨x / p - y / p, ?_⟩
  have h1 := Int.emod_def x p
  have h2 := Int.emod_def y p
  rw [Int.mul_sub]; omega
theorem mod_of {p x y : Int} (t : Int) (h : x = y + p * t) : x % p = y % p := by rw [h, Int.add_mul_emod_self_left]
theorem mod_add {p x y x' y' : Int} (h1 : x % p = x' % p) (h2 : y % p = y' % p) : (x + y) % p = (x' + y') % p := by
  obtain ⟨s, hs⟩ := mod_ex h1; obtain ⟨t, ht⟩ := mod_ex h2
  exact mod_of (s + t) (by rw [Int.mul_add]; omega)
theorem mod_sub {p x y x' y' : Int} (h1 : x % p = x' % p) (h2 : y % p = y' % p) : (x - y) % p = (x' - y') % p := by
  obtain ⟨s, hs⟩ := mod_ex h1; obtain ⟨t, ht⟩ := mod_ex h2
  exact mod_of (s - t) (by rw [Int.mul_sub]; omega)
theorem mod_mul {p x y x' y' : Int} (h1 : x % p = x' % p) (h2 : y % p = y' % p) : (x * y) % p = (x' * y') % p := by
  rw [Int.mul_emod, h1, h2, ← Int.mul_emod]
theorem sval_mod (l : List Bool) : sval l % 2 ^ l.length = sumB l % 2 ^ l.length := trimN_mod _ _
theorem sumB_mod (l : List Bool) : sumB l % 2 ^ l.length = sumB l := Int.emod_eq_of_lt (sumB_b l).1 (sumB_b l).2
theorem sval_of {l : List Bool} {x : Int} (h : sumB l % 2 ^ l.length = x % 2 ^ l.length) : sval l = trimN x l.length := trimN_congr h
theorem num_trim {G : Gr} {l : List Int} {k : Nat} (v : Vec G l k) (m : List Bool) : trimN (num G m l) k = num G m l := by
  have := v.len
  unfold num sval
  rw [evB_len, this, trim_trim _ v.b.1 v.b.1, Nat.min_self]
theorem num_b {G : Gr} {l : List Int} {k : Nat} (v : Vec G l k) (m : List Bool) : -(2 ^ (k - 1)) ≤ num G m l ∧ num G m l < 2 ^ (k - 1) := by
  have := v.len
  unfold num sval
  rw [evB_len, this]
  exact ⟨(trimN_b _ v.b.1).1, (trimN_b _ v.b.1).2.1⟩
/-! ### Mux -/
theorem muxG_up {G : Gr} (ok : G.OK) (c : Int) {a b : List Int} {k j : Nat} (va : Vec G a k) (vb : Vec G b j) : G.Up (muxG G c a b).2 ∧ Vec (muxG G c a b).2 (muxG G c a b).1 (max k j) := by
  have u := muxL_up (wideL a (bothK a b)) (wideL b (bothK a b)) c ok
  refine ⟨u.1, ?_, max_b va vb, u.2⟩
  unfold muxG
  rw [muxL_len _ _ _ _ (by rw [wideL_len, wideL_len]), wideL_len, both_eq va vb]
theorem muxG_cost {G : Gr} (c : Int) {a b : List Int} {k j : Nat} (va : Vec G a k) (vb : Vec G b j) : (muxG G c a b).2.l.length ≤ G.l.length + 48 := by
  have h := muxL_cost (wideL a (bothK a b)) (wideL b (bothK a b)) G c
  have := max_b va vb
  rw [wideL_len, both_eq va vb] at h
  unfold muxG; rw [both_eq va vb]; omega
theorem num_mux {G : Gr} (ok : G.OK) {c : Int} (hc : G.E c) {a b : List Int} {k j : Nat} (va : Vec G a k) (vb : Vec G b j) (hr : G.l.length + 48 ≤ 200000) (m : List Bool) :
    num (muxG G c a b).2 m (muxG G c a b).1 = if bitG G m c then num G m a else num G m b := by
  have mb := max_b va vb
  have e := both_eq va vb
  have h := muxL_bit m (wideL a (max k j)) (wideL b (max k j)) ok hc (va.wide mb).e (vb.wide mb).e (by rw [wideL_len, wideL_len]) (by rw [wideL_len]; omega)
  unfold muxG
  rw [e]
  unfold num
  rw [h]
  split
  · exact num_wide va (by omega) m
  · exact num_wide vb (by omega) m
/-! ### Sums -/
theorem sumL_vec {G : Gr} (ok : G.OK) (c : Int) {a b : List Int} {k : Nat} (va : Vec G a k) (hb : b.length = k) : G.Up (sumL G a b c).2 ∧ Vec (sumL G a b c).2 (sumL G a b c).1 k := by
  have u := sumL_up a b c ok
  exact ⟨u.1, by rw [sumL_len _ _ _ _ (by rw [va.len, hb]), va.len], va.b, u.2⟩
theorem sumL_c {G : Gr} (c : Int) {a b : List Int} {k : Nat} (va : Vec G a k) : (sumL G a b c).2.l.length ≤ G.l.length + 144 := by
  have h := sumL_cost a b G c
  have := va.bl
  omega
theorem num_sum {G : Gr} (ok : G.OK) {c : Int} (hc : G.E c) {a b : List Int} {k : Nat} (va : Vec G a k) (vb : Vec G b k) (hr : G.l.length + 144 ≤ 200000) (m : List Bool) :
    num (sumL G a b c).2 m (sumL G a b c).1 = trimN (num G m a + num G m b + bI (bitG G m c)) k := by
  have la := va.len; have lb := vb.len; have hk := va.b
  have h := sumL_bit m a b ok hc va.e vb.e (by omega) (by omega)
  have e1 : (evB G m a).length = k := by rw [evB_len, la]
  have e2 : (evB G m b).length = k := by rw [evB_len, lb]
  have el := addB_len (evB G m a) (evB G m b) (bitG G m c) (by omega)
  unfold num
  rw [h]
  rw [sval_of (x := sval (evB G m a) + sval (evB G m b) + bI (bitG G m c)), el, e1]
  rw [el, e1, sumB_addB _ _ _ (by omega), e1, Int.emod_emod_of_dvd _ (Int.dvd_refl _)]
  have s1 := sval_mod (evB G m a); have s2 := sval_mod (evB G m b)
  rw [e1] at s1; rw [e2] at s2
  exact mod_add (mod_add s1.symm s2.symm) rfl
theorem addG_up {G : Gr} (ok : G.OK) {a b : List Int} {k j : Nat} (va : Vec G a k) (vb : Vec G b j) : G.Up (addG G a b).2 ∧ Vec (addG G a b).2 (addG G a b).1 (max k j) := by
  unfold addG
  rw [both_eq va vb]
  exact sumL_vec ok _ (va.wide (max_b va vb)) (wideL_len _ _)
theorem addG_cost {G : Gr} {a b : List Int} {k j : Nat} (va : Vec G a k) (vb : Vec G b j) : (addG G a b).2.l.length ≤ G.l.length + 144 := by
  unfold addG
  rw [both_eq va vb]
  exact sumL_c _ (va.wide (max_b va vb))
theorem num_add {G : Gr} (ok : G.OK) {a b : List Int} {k j : Nat} (va : Vec G a k) (vb : Vec G b j) (hr : G.l.length + 144 ≤ 200000) (m : List Bool) :
    num (addG G a b).2 m (addG G a b).1 = trimN (num G m a + num G m b) (max k j) := by
  have mb := max_b va vb
  unfold addG
  rw [both_eq va vb, num_sum ok (Gr.E_0 ok) (va.wide mb) (vb.wide mb) hr, num_wide va (by omega), num_wide vb (by omega), bit_0 ok]
  simp [bI]
theorem sumB_not : ∀ (l : List Bool), sumB (l.map (!·)) = 2 ^ l.length - 1 - sumB l
  | [] => by simp [sumB]
  | b :: l => by
    simp only [List.map_cons, sumB, sumB_not l, List.length_cons, Int.pow_succ]
    cases b <;> simp <;> omega
theorem evB_nt {G : Gr} {l : List Int} (h : ∀ x ∈ l, G.E x) (m : List Bool) : evB G m (l.map nt) = (evB G m l).map (!·) := by
  rw [evB_def, evB_def, List.map_map, List.map_map]
  exact List.map_congr_left fun x hx => bit_nt (h x hx) m
theorem Vec.nt {G : Gr} {l : List Int} {k : Nat} (v : Vec G l k) : Vec G (l.map nt) k :=
  ⟨by rw [List.length_map, v.len], v.b, fun x hx => by obtain ⟨y, hy, rfl⟩ := List.mem_map.1 hx; exact nt_E (v.e y hy)⟩
theorem num_nt {G : Gr} {l : List Int} {k : Nat} (v : Vec G l k) (m : List Bool) : num G m (l.map nt) % 2 ^ k = (-1 - num G m l) % 2 ^ k := by
  have e : (evB G m l).length = k := by rw [evB_len, v.len]
  have e' : ((evB G m l).map (!·)).length = k := by rw [List.length_map, e]
  have s1 := sval_mod (evB G m l)
  have s2 := sval_mod ((evB G m l).map (!·))
  rw [e] at s1; rw [e', sumB_not, e] at s2
  unfold num
  rw [evB_nt v.e, s2, show (2 : Int) ^ k - 1 - sumB (evB G m l) = (-1 - sumB (evB G m l)) + 2 ^ k by omega, Int.add_emod_right]
  exact mod_sub rfl s1.symm
theorem num_dif {G : Gr} (ok : G.OK) {a b : List Int} {k : Nat} (va : Vec G a k) (vb : Vec G b k) (hr : G.l.length + 144 ≤ 200000) (m : List Bool) :
    num (sumL G a (b.map nt) 1).2 m (sumL G a (b.map nt) 1).1 = trimN (num G m a - num G m b) k := by
  rw [num_sum ok (Gr.E_1 ok) va vb.nt hr, bit_1 ok]
  apply trimN_congr
  have h := num_nt vb m
  rw [show bI true = 1 from rfl]
  refine (mod_add (mod_add rfl h) rfl).trans ?_
  congr 1; omega
theorem subG_up {G : Gr} (ok : G.OK) {a b : List Int} {k j : Nat} (va : Vec G a k) (vb : Vec G b j) : G.Up (subG G a b).2 ∧ Vec (subG G a b).2 (subG G a b).1 (max k j) := by
  unfold subG
  rw [both_eq va vb]
  exact sumL_vec ok _ (va.wide (max_b va vb)) (by rw [List.length_map, wideL_len])
theorem subG_cost {G : Gr} {a b : List Int} {k j : Nat} (va : Vec G a k) (vb : Vec G b j) : (subG G a b).2.l.length ≤ G.l.length + 144 := by
  unfold subG
  rw [both_eq va vb]
  exact sumL_c _ (va.wide (max_b va vb))
theorem num_sub {G : Gr} (ok : G.OK) {a b : List Int} {k j : Nat} (va : Vec G a k) (vb : Vec G b j) (hr : G.l.length + 144 ≤ 200000) (m : List Bool) :
    num (subG G a b).2 m (subG G a b).1 = trimN (num G m a - num G m b) (max k j) := by
  have mb := max_b va vb
  unfold subG
  rw [both_eq va vb, num_dif ok (va.wide mb) (vb.wide mb) hr, num_wide va (by omega), num_wide vb (by omega)]
end Go.Proofs.YtjlabjncojhjkaaDoor
namespace Go.Proofs.YtjlabjncojhjkaaDoor
open Go Go.Cv
/-! ### Some, Same, Less -/
theorem anyL_cost : ∀ (l : List Int) (G : Gr) (o : Int), (anyL G o l).2.l.length ≤ G.l.length + l.length
  | [], G, o => by simp [anyL]
  | e :: l, G, o => by
    have h1 := or_len G o e
    have h2 := anyL_cost l (G.or o e).2 (G.or o e).1
    simp only [anyL, List.length_cons]; omega
theorem anyL_bit (m : List Bool) : ∀ (l : List Int) {G : Gr} {o : Int}, G.OK → G.E o → (∀ e ∈ l, G.E e) → G.l.length + l.length ≤ 200000 →
    bitG (anyL G o l).2 m (anyL G o l).1 = (bitG G m o || (evB G m l).any id)
  | [], G, o, _, _, _, _ => by simp [anyL, evB_nil]
  | e :: l, G, o, ok, ho, hl, hr => by
    simp only [List.length_cons] at hr
    have u := Gr.or_up ok o e
    have ln := or_len G o e
    have ih := anyL_bit m l u.1.ok u.2 (fun x hx => u.1.e (hl x (List.mem_cons_of_mem _ hx))) (by omega)
    simp only [anyL]
    rw [ih, or_bit ok (by omega), evB_up ok u.1 (fun x hx => hl x (List.mem_cons_of_mem _ hx)), evB_cons, List.any_cons, Bool.or_assoc]
    rfl
theorem sumB_any : ∀ (l : List Bool), l.any id = decide (sumB l ≠ 0)
  | [] => by simp [sumB]
  | b :: l => by
    have hb := sumB_b l
    rw [List.any_cons, sumB_any l, sumB]
    cases b
    · simp
    · simp; omega
theorem sval_zero (l : List Bool) : sval l = 0 ↔ sumB l = 0 := by
  have h1 := sumB_mod l
  have h2 := sval_mod l
  constructor
  · intro h; rw [h, Int.zero_emod] at h2; omega
  · intro h
    unfold sval trimN
    rw [h, Int.zero_emod, if_neg]
    have := pow_pos (l.length - 1); omega
theorem bit_some {G : Gr} (ok : G.OK) {l : List Int} {k : Nat} (v : Vec G l k) (hr : G.l.length + 16 ≤ 200000) (m : List Bool) :
    bitG (anyL G 0 (vecL l)).2 m (anyL G 0 (vecL l)).1 = decide (num G m l ≠ 0) := by
  have := v.bl
  rw [vec_id v.bl, anyL_bit m l ok (Gr.E_0 ok) v.e (by omega), bit_0 ok, Bool.false_or, sumB_any]
  have := sval_zero (evB G m l)
  unfold num
  simp [this]
theorem some_cost {G : Gr} {l : List Int} {k : Nat} (v : Vec G l k) : (anyL G 0 (vecL l)).2.l.length ≤ G.l.length + 16 := by
  have := v.bl
  have h := anyL_cost l G 0
  rw [vec_id v.bl]; omega
theorem some_up {G : Gr} (ok : G.OK) (l : List Int) : G.Up (anyL G 0 l).2 ∧ (anyL G 0 l).2.E (anyL G 0 l).1 := anyL_up l ok (Gr.E_0 ok)
theorem sameS_cost (G : Gr) (o a b : Int) : (sameS G o a b).2.l.length ≤ G.l.length + 4 := by
  have h1 := xor_len G a b
  have h2 := and_len (G.xor a b).2 o (nt (G.xor a b).1)
  unfold sameS; omega
theorem sameL_cost : ∀ (l n : List Int) (G : Gr) (o : Int), (sameL G o l n).2.l.length ≤ G.l.length + 4 * l.length
  | [], _, G, o => by simp [sameL]
  | _ :: _, [], G, o => by simp [sameL]
  | a :: l, b :: n, G, o => by
    have h1 := sameS_cost G o a b
    have h2 := sameL_cost l n (sameS G o a b).2 (sameS G o a b).1
    simp only [sameL, List.length_cons]; omega
theorem sameS_bit {G : Gr} (ok : G.OK) {o : Int} (ho : G.E o) (a b : Int) (hr : G.l.length + 4 ≤ 200000) (m : List Bool) : bitG (sameS G o a b).2 m (sameS G o a b).1 = (bitG G m o && (bitG G m a == bitG G m b)) := by
  have u := Gr.xor_up ok a b
  have ln := xor_len G a b
  unfold sameS
  rw [and_bit u.1.ok (by omega), bit_nt u.2, xor_bit ok (by omega), bit_up ok u.1 ho]
  cases bitG G m a <;> cases bitG G m b <;> rfl
theorem sameL_bit (m : List Bool) : ∀ (l n : List Int) {G : Gr} {o : Int}, G.OK → G.E o → (∀ e ∈ l, G.E e) → (∀ e ∈ n, G.E e) → l.length = n.length → G.l.length + 4 * l.length ≤ 200000 →
    bitG (sameL G o l n).2 m (sameL G o l n).1 = (bitG G m o && (evB G m l == evB G m n))
  | [], [], G, o, _, _, _, _, _, _ => by simp [sameL, evB_nil]
  | [], _ :: _, _, _, _, _, _, _, h, _ => by simp at h
  | _ :: _, [], _, _, _, _, _, _, h, _ => by simp at h
  | a :: l, b :: n, G, o, ok, ho, hl, hn, hlen, hr => by
    simp only [List.length_cons] at hlen hr
    have u := sameS_up ok o a b
    have ln := sameS_cost G o a b
    have ih := sameL_bit m l n u.1.ok u.2 (fun x hx => u.1.e (hl x (List.mem_cons_of_mem _ hx))) (fun x hx => u.1.e (hn x (List.mem_cons_of_mem _ hx))) (by omega) (by omega)
    simp only [sameL]
    rw [ih, sameS_bit ok ho a b (by omega), evB_up ok u.1 (fun x hx => hl x (List.mem_cons_of_mem _ hx)), evB_up ok u.1 (fun x hx => hn x (List.mem_cons_of_mem _ hx)), evB_cons, evB_cons, List.cons_beq_cons, Bool.and_assoc]
theorem sumB_inj : ∀ (l n : List Bool), l.length = n.length → sumB l = sumB n → l = n
  | [], [], _, _ => rfl
  | [], _ :: _, h, _ => by simp at h
  | _ :: _, [], h, _ => by simp at h
  | a :: l, b :: n, h, e => by
    simp only [sumB] at e
    have e1 : a = b := by cases a <;> cases b <;> simp at e ⊢ <;> omega
    subst e1
    rw [sumB_inj l n (by simpa using h) (by omega)]
theorem sval_inj {l n : List Bool} (h : l.length = n.length) (e : sval l = sval n) : l = n := by
  have h1 := sval_mod l; have h2 := sval_mod n
  rw [e, h, h2, sumB_mod, ← h, sumB_mod] at h1
  exact sumB_inj l n h h1.symm
theorem same_val {l n : List Bool} (h : l.length = n.length) : (l == n) = decide (sval l = sval n) := by
  by_cases e : l = n
  · subst e; simp
  · have : sval l ≠ sval n := fun q => e (sval_inj h q)
    simp [e, this]
theorem sameG_up {G : Gr} (ok : G.OK) (a b : List Int) : G.Up (sameG G a b).2 ∧ (sameG G a b).2.E (sameG G a b).1 := sameL_up _ _ ok (Gr.E_1 ok)
theorem sameG_cost {G : Gr} {a b : List Int} {k j : Nat} (va : Vec G a k) (vb : Vec G b j) : (sameG G a b).2.l.length ≤ G.l.length + 64 := by
  have h := sameL_cost (wideL a (bothK a b)) (wideL b (bothK a b)) G 1
  have := max_b va vb
  rw [wideL_len, both_eq va vb] at h
  unfold sameG; rw [both_eq va vb]; omega
theorem bit_same {G : Gr} (ok : G.OK) {a b : List Int} {k j : Nat} (va : Vec G a k) (vb : Vec G b j) (hr : G.l.length + 64 ≤ 200000) (m : List Bool) :
    bitG (sameG G a b).2 m (sameG G a b).1 = decide (num G m a = num G m b) := by
  have mb := max_b va vb
  unfold sameG
  rw [both_eq va vb, sameL_bit m _ _ ok (Gr.E_1 ok) (va.wide mb).e (vb.wide mb).e (by rw [wideL_len, wideL_len]) (by rw [wideL_len]; omega), bit_1 ok, Bool.true_and,
    same_val (by rw [evB_len, evB_len, wideL_len, wideL_len])]
  have h1 := num_wide va (show k ≤ max k j by omega) m
  have h2 := num_wide vb (show j ≤ max k j by omega) m
  unfold num at h1 h2 ⊢
  rw [h1, h2]
theorem lessS_cost (G : Gr) (o a b : Int) : (lessS G o a b).2.l.length ≤ G.l.length + 6 := by
  have h1 := xor_len G a b
  have h2 := mux_len (G.xor a b).2 (G.xor a b).1 b o
  unfold lessS; omega
theorem lessT_cost (G : Gr) (o a b : Int) : (lessT G o a b).2.l.length ≤ G.l.length + 6 := by
  have h1 := xor_len G a b
  have h2 := mux_len (G.xor a b).2 (G.xor a b).1 a o
  unfold lessT; omega
theorem lessS_bit {G : Gr} (ok : G.OK) {o a b : Int} (ho : G.E o) (hb : G.E b) (hr : G.l.length + 6 ≤ 200000) (m : List Bool) : bitG (lessS G o a b).2 m (lessS G o a b).1 = if bitG G m a != bitG G m b then bitG G m b else bitG G m o := by
  have u := Gr.xor_up ok a b
  have ln := xor_len G a b
  unfold lessS
  rw [mux_bit u.1.ok (by omega) _ _ _ (u.1.e ho), xor_bit ok (by omega), bit_up ok u.1 ho, bit_up ok u.1 hb]
theorem lessT_bit {G : Gr} (ok : G.OK) {o a b : Int} (ho : G.E o) (ha : G.E a) (hr : G.l.length + 6 ≤ 200000) (m : List Bool) : bitG (lessT G o a b).2 m (lessT G o a b).1 = if bitG G m a != bitG G m b then bitG G m a else bitG G m o := by
  have u := Gr.xor_up ok a b
  have ln := xor_len G a b
  unfold lessT
  rw [mux_bit u.1.ok (by omega) _ _ _ (u.1.e ho), xor_bit ok (by omega), bit_up ok u.1 ho, bit_up ok u.1 ha]
theorem lessL_up (l n : List Int) {G : Gr} {o : Int} (ok : G.OK) (ho : G.E o) : G.Up (lessL G o l n).2 ∧ (lessL G o l n).2.E (lessL G o l n).1 := lessP_up _ ok ho
theorem lessL_cost : ∀ (l n : List Int) (G : Gr) (o : Int), (lessL G o l n).2.l.length ≤ G.l.length + 6 * l.length
  | [], _, G, o => by rw [lessL_nil]; simp
  | _ :: _, [], G, o => by unfold lessL; rw [List.zip_nil_right, lessP_nil]; simp
  | a :: l, b :: n, G, o => by
    have h1 := lessS_cost G o a b
    have h2 := lessL_cost l n (lessS G o a b).2 (lessS G o a b).1
    rw [lessL_cons, List.length_cons]; omega
theorem less_cons (x y : Int) (a b o : Bool) : (if x = y then (if a != b then b else o) else decide (x < y)) = if (if a then 1 else 0) + 2 * x = (if b then 1 else 0) + 2 * y then o else decide ((if a then 1 else 0) + 2 * x < (if b then 1 else 0) + 2 * y) := by
  by_cases e : x = y
  · subst e
    rw [if_pos rfl]
    have e1 : ¬ ((1 : Int) + 2 * x = 2 * x) := by omega
    have e2 : ¬ ((2 : Int) * x = 1 + 2 * x) := by omega
    have e3 : ¬ ((1 : Int) + 2 * x < 2 * x) := by omega
    have e4 : (2 : Int) * x < 1 + 2 * x := by omega
    cases a <;> cases b <;> simp [e1, e2, e3, e4]
  · rw [if_neg e, if_neg (by cases a <;> cases b <;> simp <;> omega)]
    apply decide_eq_decide.2
    cases a <;> cases b <;> simp <;> omega
theorem lessL_bit (m : List Bool) : ∀ (l n : List Int) {G : Gr} {o : Int}, G.OK → G.E o → (∀ e ∈ l, G.E e) → (∀ e ∈ n, G.E e) → l.length = n.length → G.l.length + 6 * l.length ≤ 200000 →
    bitG (lessL G o l n).2 m (lessL G o l n).1 = if sumB (evB G m l) = sumB (evB G m n) then bitG G m o else decide (sumB (evB G m l) < sumB (evB G m n))
  | [], [], G, o, _, _, _, _, _, _ => by rw [lessL_nil]; simp [evB_nil]
  | [], _ :: _, _, _, _, _, _, _, h, _ => by simp at h
  | _ :: _, [], _, _, _, _, _, _, h, _ => by simp at h
  | a :: l, b :: n, G, o, ok, ho, hl, hn, hlen, hr => by
    simp only [List.length_cons] at hlen hr
    have u := lessS_up ok o a b
    have ln := lessS_cost G o a b
    have ih := lessL_bit m l n u.1.ok u.2 (fun x hx => u.1.e (hl x (List.mem_cons_of_mem _ hx))) (fun x hx => u.1.e (hn x (List.mem_cons_of_mem _ hx))) (by omega) (by omega)
    rw [lessL_cons, ih, lessS_bit ok ho (hn b (List.mem_cons_self ..)) (by omega), evB_up ok u.1 (fun x hx => hl x (List.mem_cons_of_mem _ hx)), evB_up ok u.1 (fun x hx => hn x (List.mem_cons_of_mem _ hx)), evB_cons, evB_cons, sumB, sumB]
    generalize sumB (evB G m l) = x
    generalize sumB (evB G m n) = y
    exact less_cons x y _ _ _
theorem lessE_up {G : Gr} (ok : G.OK) (a b : List Int) : G.Up (lessE G a b).2 ∧ (lessE G a b).2.E (lessE G a b).1 := by
  have h1 := lessL_up (a.take (a.length - 1)) (b.take (a.length - 1)) ok (Gr.E_0 ok)
  have h2 := lessT_up h1.1.ok (lessL G 0 (a.take (a.length - 1)) (b.take (a.length - 1))).1 (lastE a) (lastE b)
  unfold lessE
  exact ⟨h1.1.trans h2.1, h2.2⟩
theorem lessG_up {G : Gr} (ok : G.OK) (a b : List Int) : G.Up (lessG G a b).2 ∧ (lessG G a b).2.E (lessG G a b).1 := lessE_up ok _ _
theorem lessG_cost {G : Gr} {a b : List Int} {k j : Nat} (va : Vec G a k) (vb : Vec G b j) : (lessG G a b).2.l.length ≤ G.l.length + 102 := by
  have mb := max_b va vb
  have e := both_eq va vb
  have h := lessL_cost ((wideL a (max k j)).take (max k j - 1)) ((wideL b (max k j)).take (max k j - 1)) G 0
  have h2 := lessT_cost (lessL G 0 ((wideL a (max k j)).take (max k j - 1)) ((wideL b (max k j)).take (max k j - 1))).2 (lessL G 0 ((wideL a (max k j)).take (max k j - 1)) ((wideL b (max k j)).take (max k j - 1))).1 (lastE (wideL a (max k j))) (lastE (wideL b (max k j)))
  rw [List.length_take, wideL_len] at h
  unfold lessG lessE
  rw [e, wideL_len]
  omega
theorem last_E {G : Gr} {l : List Int} {k : Nat} (v : Vec G l k) : G.E (lastE l) := v.e _ (List.mem_of_getElem? (last_get v.bl.1))
theorem evB_lastE {G : Gr} {l : List Int} (h : 1 ≤ l.length) (m : List Bool) : lastB (evB G m l) = bitG G m (lastE l) := evB_last h
theorem lastB_num {G : Gr} {l : List Int} {k : Nat} (v : Vec G l k) (m : List Bool) : bitG G m (lastE l) = decide (num G m l < 0) := by
  have h := sval_eq (l := evB G m l) (by rw [evB_len]; exact v.bl.1)
  have hb := sumB_b (evB G m l)
  rw [evB_lastE v.bl.1] at h
  unfold num
  cases hc : bitG G m (lastE l)
  · rw [hc] at h; simp at h ⊢; omega
  · rw [hc] at h; simp only [if_true] at h; simp; omega
theorem sumB_split {l : List Bool} (h : 1 ≤ l.length) : sumB l = sumB (l.take (l.length - 1)) + (if lastB l then 2 ^ (l.length - 1) else 0) := by
  obtain ⟨i, hi, hl⟩ := snoc_lastB h
  have e : l.take (l.length - 1) = i := by
    have : l.take (l.length - 1) = (i ++ [lastB l]).take (l.length - 1) := congrArg _ hi
    rw [this]; exact List.take_left' hl
  rw [e]
  have : sumB l = sumB (i ++ [lastB l]) := congrArg _ hi
  rw [this, sumB_snoc, hl]
theorem less_val {l n : List Bool} (h : l.length = n.length) (h1 : 1 ≤ l.length) :
    (if lastB l != lastB n then lastB l else if sumB (l.take (l.length - 1)) = sumB (n.take (l.length - 1)) then false else decide (sumB (l.take (l.length - 1)) < sumB (n.take (l.length - 1)))) = decide (sval l < sval n) := by
  have a1 := sval_eq h1; have a2 := sval_eq (l := n) (by omega)
  have b1 := sumB_split h1; have b2 := sumB_split (l := n) (by omega)
  have c1 := sumB_b (l.take (l.length - 1)); have c2 := sumB_b (n.take (l.length - 1))
  rw [List.length_take] at c1 c2
  rw [← h] at a2 b2 c2
  have e1 : min (l.length - 1) l.length = l.length - 1 := by omega
  rw [e1] at c1 c2
  have pk : (2 : Int) ^ l.length = 2 * 2 ^ (l.length - 1) := (trimN_b 0 h1).2.2
  rw [a1, a2, b1, b2, pk]
  generalize sumB (l.take (l.length - 1)) = x at *
  generalize sumB (n.take (l.length - 1)) = y at *
  generalize (2 : Int) ^ (l.length - 1) = p at *
  cases lastB l <;> cases lastB n <;> simp <;> (try split) <;> (try simp) <;> omega
theorem bit_less {G : Gr} (ok : G.OK) {a b : List Int} {k j : Nat} (va : Vec G a k) (vb : Vec G b j) (hr : G.l.length + 102 ≤ 200000) (m : List Bool) :
    bitG (lessG G a b).2 m (lessG G a b).1 = decide (num G m a < num G m b) := by
  have mb := max_b va vb
  have e := both_eq va vb
  have wa := va.wide mb; have wb := vb.wide mb
  have h1 := num_wide va (show k ≤ max k j by omega) m
  have h2 := num_wide vb (show j ≤ max k j by omega) m
  unfold lessG
  rw [e, ← h1, ← h2]
  generalize wideL a (max k j) = x at *
  generalize wideL b (max k j) = y at *
  generalize max k j = n at *
  have lx := wa.len; have ly := wb.len
  have u := lessL_up (x.take (x.length - 1)) (y.take (x.length - 1)) ok (Gr.E_0 ok)
  have c := lessL_cost (x.take (x.length - 1)) (y.take (x.length - 1)) G 0
  rw [List.length_take] at c
  have hb := lessL_bit m (x.take (x.length - 1)) (y.take (x.length - 1)) ok (Gr.E_0 ok) (fun z hz => wa.e z (List.mem_of_mem_take hz)) (fun z hz => wb.e z (List.mem_of_mem_take hz)) (by rw [List.length_take, List.length_take]; omega) (by rw [List.length_take]; omega)
  unfold lessE
  rw [lessT_bit u.1.ok u.2 (u.1.e (last_E wa)) (by omega), hb, bit_up ok u.1 (last_E wa), bit_up ok u.1 (last_E wb), bit_0 ok]
  have := less_val (l := evB G m x) (n := evB G m y) (by rw [evB_len, evB_len]; omega) (by rw [evB_len]; omega)
  unfold num
  rw [← this, evB_lastE wa.bl.1, evB_lastE wb.bl.1, evB_len]
  rw [evB_def, evB_def, evB_def, evB_def, List.map_take, List.map_take]
end Go.Proofs.YtjlabjncojhjkaaDoor
namespace Go.Proofs.YtjlabjncojhjkaaDoor
open Go Go.Cv
/-! ### Inputs -/
theorem evalL_ins (m : List Bool) : ∀ j : Nat, evalL m (List.replicate (j + 1) (-1, -1)) = (false :: (List.range j).map (m.getD · false), j)
  | 0 => rfl
  | j + 1 => by
    rw [List.replicate_succ', evalL_snoc (by simp), evalL_ins m j]
    unfold evalStep
    rw [if_pos rfl, List.range_succ, List.map_append]
    rfl
theorem inp_l : ∀ (k n : Nat) {G : Gr}, G.l = List.replicate (n + 1) (-1, -1) → n + 1 + k ≤ 200000 →
    (inpL G k).2.l = List.replicate (n + k + 1) (-1, -1) ∧ ∀ i, i < k → (inpL G k).1[i]? = some (2 * ((n + 1 + i : Nat) : Int))
  | 0, n, G, h, _ => by simp only [inpL]; exact ⟨h, fun i hi => by omega⟩
  | k + 1, n, G, h, hr => by
    have hl : G.l.length = n + 1 := by rw [h, List.length_replicate]
    have e : G.input = (2 * (G.l.length : Int), { G with l := G.l ++ [(-1, -1)], ins := G.ins ++ [2 * (G.l.length : Int)] }) := by unfold Gr.input; rw [if_neg (by omega)]
    have ih := inp_l k (n + 1) (G := G.input.2) (by rw [e]; simp only; rw [h, ← List.replicate_succ']) (by omega)
    simp only [inpL]
    refine ⟨by rw [ih.1]; congr 1; omega, fun i hi => ?_⟩
    rcases i with _ | i
    · rw [e, hl]; rfl
    · rw [List.getElem?_cons_succ, ih.2 i (by omega)]; congr 2; omega
theorem inp_bits {G : Gr} (ok : G.OK) {n k : Nat} (h : G.l = List.replicate (n + 1) (-1, -1)) (hr : n + 1 + k ≤ 200000) {A B C : List Bool} (ha : A.length = n) (hb : B.length = k) :
    evB (inpL G k).2 (A ++ B ++ C) (inpL G k).1 = B := by
  have hi := inp_l k n h hr
  have hu := inpL_up k ok
  refine List.ext_getElem? fun i => ?_
  by_cases c : i < k
  · rw [evB_def, List.getElem?_map, hi.2 i c]
    have hE := hu.2 _ (List.mem_of_getElem? (hi.2 i c))
    simp only [Option.map_some]
    unfold bitG
    rw [Gr.edge_id hE, hi.1, evalL_ins]
    unfold bitV
    have q1 : (2 * ((n + 1 + i : Nat) : Int) / 2).toNat = n + i + 1 := by omega
    have q2 : ¬ (2 * ((n + 1 + i : Nat) : Int) % 2 = 1) := by omega
    rw [q1]
    simp only [q2, decide_false, Bool.bne_false, List.getD_eq_getElem?_getD, List.getElem?_cons_succ, List.getElem?_map]
    rw [List.getElem?_range (by omega)]
    simp only [Option.map_some, Option.getD_some]
    rw [List.append_assoc, List.getElem?_append_right (by omega), ha, List.getElem?_append_left (by omega), show n + i - n = i by omega, List.getElem?_eq_getElem (by omega)]
    rfl
  · rw [List.getElem?_eq_none (by rw [evB_len, inpL_len]; omega), List.getElem?_eq_none (by omega)]
theorem inp_vec {G : Gr} (ok : G.OK) {k : Nat} (hk : 1 ≤ k ∧ k ≤ 16) : G.Up (inpL G k).2 ∧ Vec (inpL G k).2 (inpL G k).1 k := ⟨(inpL_up k ok).1, inpL_len k G, hk, (inpL_up k ok).2⟩
theorem num_inp {G : Gr} (ok : G.OK) {n k : Nat} (h : G.l = List.replicate (n + 1) (-1, -1)) (hr : n + 1 + k ≤ 200000) {A C : List Bool} (a : Int) (ha : A.length = n) :
    num (inpL G k).2 (A ++ bitsL a k ++ C) (inpL G k).1 = trimN a k := by
  unfold num; rw [inp_bits ok h hr ha (bitsL_len a k), sval_bits]
end Go.Proofs.YtjlabjncojhjkaaDoor
