/- A part of the proof of a law of the given program: contracts of functions over the clean heap. -/
import Derived.Test.YtjlabjncojhjkaaDoorT2
import Derived.Test.YtjlabjncojhjkaaDoorP3
namespace Go.Proofs.YtjlabjncojhjkaaDoor
open Go Go.Cv
/-! ### Vectors as numbers -/
/-- The number that a vector comes to. -/
def num (G : Gr) (m : List Bool) (l : List Int) : Int := sval (evB G m l)
structure Vec (G : Gr) (l : List Int) (k : Nat) : Prop where
  len : l.length = k
  b : 1 ≤ k ∧ k ≤ 16
  e : ∀ x ∈ l, G.E x
theorem Vec.up {G G' : Gr} {l : List Int} {k : Nat} (v : Vec G l k) (u : G.Up G') : Vec G' l k := ⟨v.len, v.b, fun x hx => u.e (v.e x hx)⟩
theorem num_up {G G' : Gr} (ok : G.OK) (u : G.Up G') {l : List Int} {k : Nat} (v : Vec G l k) (m : List Bool) : num G' m l = num G m l := by
  unfold num; rw [evB_up ok u v.e]
theorem Vec.small {G : Gr} (ok : G.OK) {l : List Int} {k : Nat} (v : Vec G l k) : Small l := small_of (small_E ok v.e)
theorem Vec.ne {G : Gr} {l : List Int} {k : Nat} (v : Vec G l k) : l ≠ [] := by
  intro e; have h1 := v.len; have h2 := v.b; rw [e] at h1; simp at h1; omega
theorem Vec.bl {G : Gr} {l : List Int} {k : Nat} (v : Vec G l k) : 1 ≤ l.length ∧ l.length ≤ 16 := by rw [v.len]; exact v.b
theorem Vec.wide {G : Gr} {l : List Int} {k j : Nat} (v : Vec G l k) (hj : 1 ≤ j ∧ j ≤ 16) : Vec G (wideL l j) j :=
  ⟨wideL_len _ _, hj, fun x hx => v.e x (by have := mem_wide hx; rwa [vec_id v.bl] at this)⟩
theorem num_wide {G : Gr} {l : List Int} {k j : Nat} (v : Vec G l k) (h : k ≤ j) (m : List Bool) : num G m (wideL l j) = num G m l := by
  unfold num
  rw [evB_wide v.bl, sval_wideB (by rw [evB_len]; exact v.bl.1) (by rw [evB_len, v.len]; exact h)]
theorem Vec.const {G : Gr} (ok : G.OK) (n : Int) {k : Nat} (hk : 1 ≤ k ∧ k ≤ 16) : Vec G (constL n k) k := ⟨constL_len n k, hk, const_E ok n k⟩
theorem num_const {G : Gr} (ok : G.OK) (n : Int) (k : Nat) (m : List Bool) : num G m (constL n k) = trimN n k := by
  unfold num; rw [evB_const ok, sval_bits]
theorem num_value {G : Gr} {l : List Int} {k : Nat} (v : Vec G l k) (m : List Bool) : valueL (evB G m l) = num G m l := valueL_eq (by rw [evB_len]; exact v.bl)
theorem both_eq {G : Gr} {a b : List Int} {k j : Nat} (va : Vec G a k) (vb : Vec G b j) : bothK a b = max k j := by
  unfold bothK; rw [vec_id va.bl, vec_id vb.bl, va.len, vb.len]
theorem max_b {G : Gr} {a b : List Int} {k j : Nat} (va : Vec G a k) (vb : Vec G b j) : 1 ≤ max k j ∧ max k j ≤ 16 := by have h1 := va.b; have h2 := vb.b; omega
theorem mod_ex {p x y : Int} (h : x % p = y % p) : ∃ t, x = y + p * t := by
  refine ⟨x / p - y / p, ?_⟩
  have h1 := Int.emod_def x p
  have h2 := Int.emod_def y p
  rw [Int.mul_sub]; omega
theorem mod_of {p x y : Int} (t : Int) (h : x = y + p * t) : x % p = y % p := by rw [h, Int.add_mul_emod_self_left]
theorem mod_add {p x y x' y' : Int} (h1 : x % p = x' % p) (h2 : y % p = y' % p) : (x + y) % p = (x' + y') % p := by
  obtain ⟨s, hs⟩ := mod_ex h1; obtain ⟨t, ht⟩ := mod_ex h2
  exact mod_of (s + t) (by rw [Int.mul_add]; omega)
theorem mod_sub {p x y x' y' : Int} (h1 : x % p = x' % p) (h2 : y % p = y' % p) : (x - y) % p = (x' - y') % p := by
  obtain ⟨s, hs⟩ := mod_ex h1; obtain ⟨t, ht⟩ := mod_ex h2
  exact mod_of (s - t) (by rw [Int.mul_sub]; omega)
theorem mod_mul {p x y x' y' : Int} (h1 : x % p = x' % p) (h2 : y % p = y' % p) : (x * y) % p = (x' * y') % p := by
  rw [Int.mul_emod, h1, h2, ← Int.mul_emod]
theorem sval_mod (l : List Bool) : sval l % 2 ^ l.length = sumB l % 2 ^ l.length := trimN_mod _ _
theorem sumB_mod (l : List Bool) : sumB l % 2 ^ l.length = sumB l := Int.emod_eq_of_lt (sumB_b l).1 (sumB_b l).2
theorem sval_of {l : List Bool} {x : Int} (h : sumB l % 2 ^ l.length = x % 2 ^ l.length) : sval l = trimN x l.length := trimN_congr h
theorem num_trim {G : Gr} {l : List Int} {k : Nat} (v : Vec G l k) (m : List Bool) : trimN (num G m l) k = num G m l := by
  have := v.len
  unfold num sval
  rw [evB_len, this, trim_trim _ v.b.1 v.b.1, Nat.min_self]
theorem num_b {G : Gr} {l : List Int} {k : Nat} (v : Vec G l k) (m : List Bool) : -(2 ^ (k - 1)) ≤ num G m l ∧ num G m l < 2 ^ (k - 1) := by
  have := v.len
  unfold num sval
  rw [evB_len, this]
  exact ⟨(trimN_b _ v.b.1).1, (trimN_b _ v.b.1).2.1⟩
/-! ### Mux -/
theorem muxG_up {G : Gr} (ok : G.OK) (c : Int) {a b : List Int} {k j : Nat} (va : Vec G a k) (vb : Vec G b j) : G.Up (muxG G c a b).2 ∧ Vec (muxG G c a b).2 (muxG G c a b).1 (max k j) := by
  have u := muxL_up (wideL a (bothK a b)) (wideL b (bothK a b)) c ok
  refine ⟨u.1, ?_, max_b va vb, u.2⟩
  unfold muxG
  rw [muxL_len _ _ _ _ (by rw [wideL_len, wideL_len]), wideL_len, both_eq va vb]
theorem muxG_cost {G : Gr} (c : Int) {a b : List Int} {k j : Nat} (va : Vec G a k) (vb : Vec G b j) : (muxG G c a b).2.l.length ≤ G.l.length + 48 := by
  have h := muxL_cost (wideL a (bothK a b)) (wideL b (bothK a b)) G c
  have := max_b va vb
  rw [wideL_len, both_eq va vb] at h
  unfold muxG; rw [both_eq va vb]; omega
theorem num_mux {G : Gr} (ok : G.OK) {c : Int} (hc : G.E c) {a b : List Int} {k j : Nat} (va : Vec G a k) (vb : Vec G b j) (hr : G.l.length + 48 ≤ 200000) (m : List Bool) :
    num (muxG G c a b).2 m (muxG G c a b).1 = if bitG G m c then num G m a else num G m b := by
  have mb := max_b va vb
  have e := both_eq va vb
  have h := muxL_bit m (wideL a (max k j)) (wideL b (max k j)) ok hc (va.wide mb).e (vb.wide mb).e (by rw [wideL_len, wideL_len]) (by rw [wideL_len]; omega)
  unfold muxG
  rw [e]
  unfold num
  rw [h]
  split
  · exact num_wide va (by omega) m
  · exact num_wide vb (by omega) m
/-! ### Sums -/
theorem sumL_vec {G : Gr} (ok : G.OK) (c : Int) {a b : List Int} {k : Nat} (va : Vec G a k) (hb : b.length = k) : G.Up (sumL G a b c).2 ∧ Vec (sumL G a b c).2 (sumL G a b c).1 k := by
  have u := sumL_up a b c ok
  exact ⟨u.1, by rw [sumL_len _ _ _ _ (by rw [va.len, hb]), va.len], va.b, u.2⟩
theorem sumL_c {G : Gr} (c : Int) {a b : List Int} {k : Nat} (va : Vec G a k) : (sumL G a b c).2.l.length ≤ G.l.length + 144 := by
  have h := sumL_cost a b G c
  have := va.bl
  omega
theorem num_sum {G : Gr} (ok : G.OK) {c : Int} (hc : G.E c) {a b : List Int} {k : Nat} (va : Vec G a k) (vb : Vec G b k) (hr : G.l.length + 144 ≤ 200000) (m : List Bool) :
    num (sumL G a b c).2 m (sumL G a b c).1 = trimN (num G m a + num G m b + bI (bitG G m c)) k := by
  have la := va.len; have lb := vb.len; have hk := va.b
  have h := sumL_bit m a b ok hc va.e vb.e (by omega) (by omega)
  have e1 : (evB G m a).length = k := by rw [evB_len, la]
  have e2 : (evB G m b).length = k := by rw [evB_len, lb]
  have el := addB_len (evB G m a) (evB G m b) (bitG G m c) (by omega)
  unfold num
  rw [h]
  rw [sval_of (x := sval (evB G m a) + sval (evB G m b) + bI (bitG G m c)), el, e1]
  rw [el, e1, sumB_addB _ _ _ (by omega), e1, Int.emod_emod_of_dvd _ (Int.dvd_refl _)]
  have s1 := sval_mod (evB G m a); have s2 := sval_mod (evB G m b)
  rw [e1] at s1; rw [e2] at s2
  exact mod_add (mod_add s1.symm s2.symm) rfl
theorem addG_up {G : Gr} (ok : G.OK) {a b : List Int} {k j : Nat} (va : Vec G a k) (vb : Vec G b j) : G.Up (addG G a b).2 ∧ Vec (addG G a b).2 (addG G a b).1 (max k j) := by
  unfold addG
  rw [both_eq va vb]
  exact sumL_vec ok _ (va.wide (max_b va vb)) (wideL_len _ _)
theorem addG_cost {G : Gr} {a b : List Int} {k j : Nat} (va : Vec G a k) (vb : Vec G b j) : (addG G a b).2.l.length ≤ G.l.length + 144 := by
  unfold addG
  rw [both_eq va vb]
  exact sumL_c _ (va.wide (max_b va vb))
theorem num_add {G : Gr} (ok : G.OK) {a b : List Int} {k j : Nat} (va : Vec G a k) (vb : Vec G b j) (hr : G.l.length + 144 ≤ 200000) (m : List Bool) :
    num (addG G a b).2 m (addG G a b).1 = trimN (num G m a + num G m b) (max k j) := by
  have mb := max_b va vb
  unfold addG
  rw [both_eq va vb, num_sum ok (Gr.E_0 ok) (va.wide mb) (vb.wide mb) hr, num_wide va (by omega), num_wide vb (by omega), bit_0 ok]
  simp [bI]
theorem sumB_not : ∀ (l : List Bool), sumB (l.map (!·)) = 2 ^ l.length - 1 - sumB l
  | [] => by simp [sumB]
  | b :: l => by
    simp only [List.map_cons, sumB, sumB_not l, List.length_cons, Int.pow_succ]
    cases b <;> simp <;> omega
theorem evB_nt {G : Gr} {l : List Int} (h : ∀ x ∈ l, G.E x) (m : List Bool) : evB G m (l.map nt) = (evB G m l).map (!·) := by
  rw [evB_def, evB_def, List.map_map, List.map_map]
  exact List.map_congr_left fun x hx => bit_nt (h x hx) m
theorem Vec.nt {G : Gr} {l : List Int} {k : Nat} (v : Vec G l k) : Vec G (l.map nt) k :=
  ⟨by rw [List.length_map, v.len], v.b, fun x hx => by obtain ⟨y, hy, rfl⟩ := List.mem_map.1 hx; exact nt_E (v.e y hy)⟩
theorem num_nt {G : Gr} {l : List Int} {k : Nat} (v : Vec G l k) (m : List Bool) : num G m (l.map nt) % 2 ^ k = (-1 - num G m l) % 2 ^ k := by
  have e : (evB G m l).length = k := by rw [evB_len, v.len]
  have e' : ((evB G m l).map (!·)).length = k := by rw [List.length_map, e]
  have s1 := sval_mod (evB G m l)
  have s2 := sval_mod ((evB G m l).map (!·))
  rw [e] at s1; rw [e', sumB_not, e] at s2
  unfold num
  rw [evB_nt v.e, s2, show (2 : Int) ^ k - 1 - sumB (evB G m l) = (-1 - sumB (evB G m l)) + 2 ^ k by omega, Int.add_emod_right]
  exact mod_sub rfl s1.symm
theorem num_dif {G : Gr} (ok : G.OK) {a b : List Int} {k : Nat} (va : Vec G a k) (vb : Vec G b k) (hr : G.l.length + 144 ≤ 200000) (m : List Bool) :
    num (sumL G a (b.map nt) 1).2 m (sumL G a (b.map nt) 1).1 = trimN (num G m a - num G m b) k := by
  rw [num_sum ok (Gr.E_1 ok) va vb.nt hr, bit_1 ok]
  apply trimN_congr
  have h := num_nt vb m
  rw [show bI true = 1 from rfl]
  refine (mod_add (mod_add rfl h) rfl).trans ?_
  congr 1; omega
theorem subG_up {G : Gr} (ok : G.OK) {a b : List Int} {k j : Nat} (va : Vec G a k) (vb : Vec G b j) : G.Up (subG G a b).2 ∧ Vec (subG G a b).2 (subG G a b).1 (max k j) := by
  unfold subG
  rw [both_eq va vb]
  exact sumL_vec ok _ (va.wide (max_b va vb)) (by rw [List.length_map, wideL_len])
theorem subG_cost {G : Gr} {a b : List Int} {k j : Nat} (va : Vec G a k) (vb : Vec G b j) : (subG G a b).2.l.length ≤ G.l.length + 144 := by
  unfold subG
  rw [both_eq va vb]
  exact sumL_c _ (va.wide (max_b va vb))
theorem num_sub {G : Gr} (ok : G.OK) {a b : List Int} {k j : Nat} (va : Vec G a k) (vb : Vec G b j) (hr : G.l.length + 144 ≤ 200000) (m : List Bool) :
    num (subG G a b).2 m (subG G a b).1 = trimN (num G m a - num G m b) (max k j) := by
  have mb := max_b va vb
  unfold subG
  rw [both_eq va vb, num_dif ok (va.wide mb) (vb.wide mb) hr, num_wide va (by omega), num_wide vb (by omega)]
end Go.Proofs.YtjlabjncojhjkaaDoor
