/- A part of the proof of a law of the given program: contracts of functions over the clean heap. -/
import Derived.Test.YtjlabjncojhjkaaDoorPx
namespace Go.Proofs.YtjlabjncojhjkaaDoor
open Go Go.Cv
/-! ### What the graph's functions answer -/
theorem evalL_pre {m : List Bool} {l t : List (Int × Int)} (h : 0 < l.length) : ∃ s, (evalL m (l ++ t)).1 = (evalL m l).1 ++ s := by
  unfold evalL
  rw [List.tail_append_of_ne_nil (by intro e; rw [e] at h; simp at h), List.foldl_append]
  exact evalFold_pre m t _
theorem bitV_pre {V s : List Bool} {e : Int} (h : 0 ≤ e) (hl : e / 2 < V.length) : bitV (V ++ s) e = bitV V e := by
  unfold bitV
  rw [List.getD_eq_getElem?_getD, List.getD_eq_getElem?_getD, List.getElem?_append_left (by omega)]
theorem bit_up {G G' : Gr} (ok : G.OK) (u : G.Up G') {e : Int} (h : G.E e) (m : List Bool) : bitG G' m e = bitG G m e := by
  unfold bitG
  rw [Gr.edge_id h, Gr.edge_id (u.e h)]
  obtain ⟨t, ht⟩ := u.l
  rw [ht]
  obtain ⟨s, hs⟩ := evalL_pre (m := m) (t := t) ok.pos
  rw [hs]
  exact bitV_pre h.1 (by rw [evalL_len ok.pos]; have := h.2; omega)
theorem bit_edge {G : Gr} (ok : G.OK) (m : List Bool) (e : Int) : bitG G m (G.edge e) = bitG G m e := by
  unfold bitG; rw [Gr.edge_id (Gr.edge_E ok e)]
theorem bitV_nt {V : List Bool} {e : Int} (h : 0 ≤ e) : bitV V (nt e) = !bitV V e := by
  have h2 : nt e / 2 = e / 2 := by unfold nt; split <;> omega
  have h3 : (nt e % 2 = 1) ↔ ¬ (e % 2 = 1) := by unfold nt; split <;> omega
  unfold bitV
  rw [h2]
  by_cases q : e % 2 = 1
  · have : ¬ (nt e % 2 = 1) := fun w => h3.1 w q
    simp [q, this]
  · simp [q, h3.2 q]
theorem bit_nt {G : Gr} {e : Int} (h : G.E e) (m : List Bool) : bitG G m (nt e) = !bitG G m e := by
  unfold bitG
  rw [Gr.edge_id h, Gr.edge_id (nt_E h)]
  exact bitV_nt h.1
/-- A node that is an and. -/
theorem bit_node {G : Gr} (ok : G.OK) {k : Nat} {p : Int × Int} (hk : G.l[k]? = some p) (h0 : 0 < k) (hp : p ≠ (-1, -1)) (m : List Bool) : bitG G m (2 * (k : Int)) = (bitG G m p.1 && bitG G m p.2) := by
  have hl := (List.getElem?_eq_some_iff.1 hk).1
  have hnd := (ok.nd _ _ hk).resolve_left hp
  have split_ : G.l = G.l.take k ++ p :: G.l.drop (k + 1) := by
    conv => lhs; rw [← List.take_append_drop k G.l]
    congr 1
    rw [List.drop_eq_getElem_cons hl]
    congr 1
    exact (List.getElem?_eq_some_iff.1 hk).2
  have tl : 0 < (G.l.take k).length := by rw [List.length_take]; omega
  have tlen : (evalL m (G.l.take k)).1.length = k := by rw [evalL_len tl, List.length_take]; omega
  have h1 : evalL m (G.l.take k ++ [p]) = evalStep m (evalL m (G.l.take k)) p := evalL_snoc tl
  have h2 : (evalStep m (evalL m (G.l.take k)) p).1 = (evalL m (G.l.take k)).1 ++ [bitV (evalL m (G.l.take k)).1 p.1 && bitV (evalL m (G.l.take k)).1 p.2] := by unfold evalStep; rw [if_neg hp]
  obtain ⟨s, hs⟩ := evalL_pre (m := m) (l := G.l.take k ++ [p]) (t := G.l.drop (k + 1)) (by simp)
  have hall : (evalL m G.l).1 = (evalL m (G.l.take k)).1 ++ ((bitV (evalL m (G.l.take k)).1 p.1 && bitV (evalL m (G.l.take k)).1 p.2) :: s) := by
    conv => lhs; rw [split_]
    rw [show G.l.take k ++ p :: G.l.drop (k + 1) = (G.l.take k ++ [p]) ++ G.l.drop (k + 1) by simp, hs, h1, h2]
    simp
  have e1 : bitG G m p.1 = bitV (evalL m (G.l.take k)).1 p.1 := by
    unfold bitG
    rw [Gr.edge_id (by unfold Gr.E; omega), hall]
    exact bitV_pre (by omega) (by rw [tlen]; omega)
  have e2 : bitG G m p.2 = bitV (evalL m (G.l.take k)).1 p.2 := by
    unfold bitG
    rw [Gr.edge_id (by unfold Gr.E; omega), hall]
    exact bitV_pre (by omega) (by rw [tlen]; omega)
  rw [e1, e2]
  unfold bitG
  rw [Gr.edge_id (by unfold Gr.E; omega), hall]
  unfold bitV
  have q1 : (2 * (k : Int) / 2).toNat = k := by omega
  have q2 : ¬ (2 * (k : Int) % 2 = 1) := by omega
  rw [q1, List.getD_eq_getElem?_getD, List.getElem?_append_right (by omega), tlen, Nat.sub_self]
  simp [q2]
theorem ands_bit {G : Gr} (ok : G.OK) (hr : G.l.length < 200000) {a b : Int} (ha : G.E a) (hb : G.E b) (hab : a ≤ b) (m : List Bool) : bitG (G.ands a b).2 m (G.ands a b).1 = (bitG G m a && bitG G m b) := by
  have up := Gr.ands_up ok ha hb hab
  unfold Gr.ands at up ⊢
  split
  · rename_i h
    rcases h with rfl | rfl
    · rw [bit_0 ok]; rfl
    · rw [bit_0 ok, bit_nt hb]; simp
  · rename_i h1
    split
    · rename_i h
      rcases h with rfl | rfl
      · rw [bit_1 ok]; rfl
      · simp
    · rename_i h2
      split
      · rename_i i e he
        obtain ⟨k, rfl, h0, hk, hp⟩ := ok.is _ _ (lookPI_mem _ _ _ _ _ he)
        exact bit_node ok hk h0 hp m
      · rename_i hn
        rw [if_neg h1, if_neg h2] at up
        simp only [hn] at up
        rw [if_neg (by omega)] at up
        rw [if_neg (by omega)]
        have hp : ((a, b) : Int × Int) ≠ (-1, -1) := by
          intro e; have := congrArg Prod.fst e; simp only at this; have := ha.1; omega
        rw [bit_node up.1.ok (k := G.l.length) (p := (a, b)) (by simp) ok.pos hp]
        simp only
        rw [bit_up ok up.1 ha, bit_up ok up.1 hb]
theorem and_bit {G : Gr} (ok : G.OK) (hr : G.l.length < 200000) (a b : Int) (m : List Bool) : bitG (G.and a b).2 m (G.and a b).1 = (bitG G m a && bitG G m b) := by
  unfold Gr.and
  split
  · rw [ands_bit ok hr (Gr.edge_E ok b) (Gr.edge_E ok a) (by omega), bit_edge ok, bit_edge ok, Bool.and_comm]
  · rw [ands_bit ok hr (Gr.edge_E ok a) (Gr.edge_E ok b) (by omega), bit_edge ok, bit_edge ok]
theorem and_len (G : Gr) (a b : Int) : (G.and a b).2.l.length ≤ G.l.length + 1 := by
  have h : ∀ a b, (G.ands a b).2.l.length ≤ G.l.length + 1 := by
    intro a b
    unfold Gr.ands
    split
    · exact Nat.le_succ _
    · split
      · exact Nat.le_succ _
      · split
        · exact Nat.le_succ _
        · split <;> simp
  unfold Gr.and
  split <;> exact h _ _
theorem or_len (G : Gr) (a b : Int) : (G.or a b).2.l.length ≤ G.l.length + 1 := and_len G _ _
theorem or_bit {G : Gr} (ok : G.OK) (hr : G.l.length < 200000) (a b : Int) (m : List Bool) : bitG (G.or a b).2 m (G.or a b).1 = (bitG G m a || bitG G m b) := by
  have u := Gr.and_up ok (nt (G.edge a)) (nt (G.edge b))
  show bitG (G.and (nt (G.edge a)) (nt (G.edge b))).2 m (nt (G.and (nt (G.edge a)) (nt (G.edge b))).1) = _
  rw [bit_nt u.2, and_bit ok hr, bit_nt (Gr.edge_E ok a), bit_nt (Gr.edge_E ok b), bit_edge ok, bit_edge ok]
  simp
theorem or2_bit {G : Gr} (ok : G.OK) (hr : G.l.length + 3 ≤ 200000) {c : Int} (hc : G.E c) (a b d : Int) (hd : G.E d) (m : List Bool) :
    bitG (Gr.or2 (G.and a b) ((G.and a b).2.and c d)).2 m (Gr.or2 (G.and a b) ((G.and a b).2.and c d)).1 = ((bitG G m a && bitG G m b) || (bitG G m c && bitG G m d)) := by
  have h1 := Gr.and_up ok a b
  have h2 := Gr.and_up h1.1.ok c d
  have l1 := and_len G a b
  have l2 := and_len (G.and a b).2 c d
  unfold Gr.or2
  rw [or_bit h2.1.ok (by omega), bit_up h1.1.ok h2.1 h1.2, and_bit ok (by omega), and_bit h1.1.ok (by omega), bit_up ok h1.1 hc, bit_up ok h1.1 hd]
theorem or2_len (G : Gr) (a b c d : Int) : (Gr.or2 (G.and a b) ((G.and a b).2.and c d)).2.l.length ≤ G.l.length + 3 := by
  have l1 := and_len G a b
  have l2 := and_len (G.and a b).2 c d
  have l3 := or_len ((G.and a b).2.and c d).2 (G.and a b).1 ((G.and a b).2.and c d).1
  unfold Gr.or2; omega
theorem xor_len (G : Gr) (a b : Int) : (G.xor a b).2.l.length ≤ G.l.length + 3 := or2_len G _ _ _ _
theorem mux_len (G : Gr) (c a b : Int) : (G.mux c a b).2.l.length ≤ G.l.length + 3 := or2_len G _ _ _ _
theorem xor_bit {G : Gr} (ok : G.OK) (hr : G.l.length + 3 ≤ 200000) (a b : Int) (m : List Bool) : bitG (G.xor a b).2 m (G.xor a b).1 = (bitG G m a != bitG G m b) := by
  unfold Gr.xor
  rw [or2_bit ok hr (nt_E (Gr.edge_E ok a)) _ _ _ (Gr.edge_E ok b), bit_nt (Gr.edge_E ok a), bit_nt (Gr.edge_E ok b)]
  simp only [bit_edge ok]
  cases bitG G m a <;> cases bitG G m b <;> rfl
theorem mux_bit {G : Gr} (ok : G.OK) (hr : G.l.length + 3 ≤ 200000) (c a b : Int) (hb : G.E b) (m : List Bool) : bitG (G.mux c a b).2 m (G.mux c a b).1 = if bitG G m c then bitG G m a else bitG G m b := by
  unfold Gr.mux
  rw [or2_bit ok hr (nt_E (Gr.edge_E ok c)) _ _ _ hb, bit_nt (Gr.edge_E ok c)]
  simp only [bit_edge ok]
  cases bitG G m c <;> cases bitG G m a <;> cases bitG G m b <;> rfl
end Go.Proofs.YtjlabjncojhjkaaDoor
