/- A part of the proof of a law of the given program: contracts of functions over the clean heap. -/
import Derived.Test.YtjlabjncojhjkaaDoorTx
namespace Go.Proofs.YtjlabjncojhjkaaDoor
open Go Go.Cv
/-! ### Masks and products -/
theorem maskL_cost : ∀ (l : List Int) (G : Gr) (e : Int), (maskL G e l).2.l.length ≤ G.l.length + l.length
  | [], G, e => by simp [maskL]
  | x :: l, G, e => by
    have h1 := and_len G e x
    have h2 := maskL_cost l (G.and e x).2 e
    simp only [maskL, List.length_cons]; omega
theorem maskL_bit (m : List Bool) : ∀ (l : List Int) {G : Gr} {e : Int}, G.OK → G.E e → (∀ x ∈ l, G.E x) → G.l.length + l.length ≤ 200000 →
    evB (maskL G e l).2 m (maskL G e l).1 = if bitG G m e then evB G m l else List.replicate l.length false
  | [], G, e, _, _, _, _ => by simp [maskL, evB_nil]
  | x :: l, G, e, ok, he, hl, hr => by
    simp only [List.length_cons] at hr
    have u := Gr.and_up ok e x
    have ln := and_len G e x
    have u2 := maskL_up l e u.1.ok
    have ih := maskL_bit m l u.1.ok (u.1.e he) (fun y hy => u.1.e (hl y (List.mem_cons_of_mem _ hy))) (by omega)
    simp only [maskL]
    rw [evB_cons, ih, bit_up u.1.ok u2.1 u.2, and_bit ok (by omega), bit_up ok u.1 he, evB_up ok u.1 (fun y hy => hl y (List.mem_cons_of_mem _ hy)), evB_cons]
    cases bitG G m e <;> simp
theorem mask_vec {G : Gr} (ok : G.OK) (e : Int) {l : List Int} {k : Nat} (v : Vec G l k) : G.Up (maskL G e l).2 ∧ Vec (maskL G e l).2 (maskL G e l).1 k := by
  have u := maskL_up l e ok
  exact ⟨u.1, by rw [maskL_len, v.len], v.b, u.2⟩
theorem sval_rep (n : Nat) : sval (List.replicate n false) = 0 := by
  rw [sval_zero, sumB_rep]; rfl
theorem num_mask {G : Gr} (ok : G.OK) {e : Int} (he : G.E e) {l : List Int} {k : Nat} (v : Vec G l k) (hr : G.l.length + 16 ≤ 200000) (m : List Bool) :
    num (maskL G e l).2 m (maskL G e l).1 = if bitG G m e then num G m l else 0 := by
  have := v.bl
  unfold num
  rw [maskL_bit m l ok he v.e (by omega)]
  split
  · rfl
  · exact sval_rep _
theorem num_mod {G : Gr} {l : List Int} {k : Nat} (v : Vec G l k) (m : List Bool) : num G m l % 2 ^ k = sumB (evB G m l) % 2 ^ k := by
  have := sval_mod (evB G m l)
  rw [evB_len, v.len] at this
  exact this
theorem sumB_of {G : Gr} {l : List Int} {k : Nat} (v : Vec G l k) (m : List Bool) : sumB (evB G m l) = num G m l % 2 ^ k := by
  have h := sumB_mod (evB G m l)
  rw [evB_len, v.len] at h
  rw [num_mod v, h]
theorem moved_vec {G : Gr} (ok : G.OK) {a : List Int} {k i : Nat} (v : Vec G a k) (hi : i < k) : Vec G (movedL a i) k := by
  have := v.bl; have hl := v.len
  refine ⟨by rw [movedL_len (by omega) (by omega), hl], v.b, fun e he => ?_⟩
  unfold movedL at he
  rcases List.mem_append.1 he with q | q
  · exact const_E ok _ _ e (List.mem_of_mem_take q)
  · exact v.e e (List.mem_of_mem_take q)
theorem num_moved {G : Gr} (ok : G.OK) {a : List Int} {k i : Nat} (v : Vec G a k) (hi : i < k) (m : List Bool) : num G m (movedL a i) % 2 ^ k = (2 ^ i * num G m a) % 2 ^ k := by
  have vb := v.bl; have hl := v.len
  rw [num_mod (moved_vec ok v hi)]
  have e1 : evB G m (movedL a i) = List.replicate i false ++ (evB G m a).take (k - i) := by
    unfold movedL
    rw [evB_def, List.map_append, List.map_take, List.map_take, ← evB_def, ← evB_def, evB_const ok, heldN_id (by omega), hl]
    congr 1
    refine List.ext_getElem? fun j => ?_
    by_cases c : j < i
    · rw [List.getElem?_take_of_lt c, bitsL_get (by omega), List.getElem?_replicate_of_lt c]
      simp
    · rw [List.getElem?_eq_none (by rw [List.length_take, bitsL_len]; omega), List.getElem?_eq_none (by rw [List.length_replicate]; omega)]
  have e2 : evB G m a = (evB G m a).take (k - i) ++ (evB G m a).drop (k - i) := (List.take_append_drop _ _).symm
  have e3 : sumB (evB G m a) = sumB ((evB G m a).take (k - i)) + 2 ^ (k - i) * sumB ((evB G m a).drop (k - i)) := by
    have := sumB_app ((evB G m a).take (k - i)) ((evB G m a).drop (k - i))
    rw [List.take_append_drop, List.length_take, evB_len, hl, Nat.min_eq_left (by omega)] at this
    exact this
  rw [e1, sumB_app, sumB_rep, List.length_replicate]
  simp only [Bool.false_eq_true, if_false, Int.zero_add]
  have h4 : (2 ^ i * num G m a) % 2 ^ k = (2 ^ i * sumB (evB G m a)) % 2 ^ k := mod_mul rfl (num_mod v m)
  rw [h4, e3]
  have pk : (2 : Int) ^ k = 2 ^ i * 2 ^ (k - i) := by rw [← Int.pow_add]; congr 1; omega
  exact (mod_of (sumB ((evB G m a).drop (k - i))) (by rw [Int.mul_add, pk, Int.mul_assoc])).symm
theorem mulStep_vec {G : Gr} (ok : G.OK) {out a : List Int} (x : Int) {i k : Nat} (vo : Vec G out k) (va : Vec G a k) (hi : i < k) : G.Up (mulStep G out a x i).2 ∧ Vec (mulStep G out a x i).2 (mulStep G out a x i).1 k := by
  have u1 := mask_vec ok x (moved_vec ok va hi)
  have u2 := sumL_vec u1.1.ok 0 (vo.up u1.1) (b := (maskL G x (movedL a i)).1) u1.2.len
  unfold mulStep
  exact ⟨u1.1.trans u2.1, u2.2⟩
theorem mulStep_cost {G : Gr} (ok : G.OK) {out a : List Int} (x : Int) {i k : Nat} (vo : Vec G out k) (va : Vec G a k) (hi : i < k) : (mulStep G out a x i).2.l.length ≤ G.l.length + 160 := by
  have u1 := mask_vec ok x (moved_vec ok va hi)
  have c1 := maskL_cost (movedL a i) G x
  have c2 := sumL_c (G := (maskL G x (movedL a i)).2) 0 (b := (maskL G x (movedL a i)).1) (vo.up u1.1)
  have := (moved_vec ok va hi).bl
  unfold mulStep; omega
theorem num_mulStep {G : Gr} (ok : G.OK) {out a : List Int} {x : Int} {i k : Nat} (hx : G.E x) (vo : Vec G out k) (va : Vec G a k) (hi : i < k) (hr : G.l.length + 160 ≤ 200000) (m : List Bool) :
    num (mulStep G out a x i).2 m (mulStep G out a x i).1 % 2 ^ k = (num G m out + (if bitG G m x then 1 else 0) * (2 ^ i * num G m a)) % 2 ^ k := by
  have vm := moved_vec ok va hi
  have u1 := mask_vec ok x vm
  have c1 := maskL_cost (movedL a i) G x
  have := vm.bl
  unfold mulStep
  rw [num_sum u1.1.ok (Gr.E_0 u1.1.ok) (vo.up u1.1) u1.2 (by omega), trimN_mod, bit_0 u1.1.ok, num_mask ok hx vm (by omega), num_up ok u1.1 vo]
  rw [show bI false = 0 from rfl, Int.add_zero]
  refine mod_add rfl ?_
  split
  · rw [num_moved ok va hi, Int.one_mul]
  · rw [Int.zero_mul]
theorem mulFrom_num {a : List Int} {k : Nat} : ∀ (bs : List Int) {G : Gr} {out : List Int} {i : Nat}, G.OK → Vec G out k → Vec G a k → (∀ x ∈ bs, G.E x) → i + bs.length ≤ k → G.l.length + 160 * bs.length ≤ 200000 →
    G.Up (mulFrom G out a bs i).2 ∧ Vec (mulFrom G out a bs i).2 (mulFrom G out a bs i).1 k ∧ (mulFrom G out a bs i).2.l.length ≤ G.l.length + 160 * bs.length ∧
    ∀ m, num (mulFrom G out a bs i).2 m (mulFrom G out a bs i).1 % 2 ^ k = (num G m out + 2 ^ i * sumB (evB G m bs) * num G m a) % 2 ^ k
  | [], G, out, i, ok, vo, va, _, _, _ => by
    simp only [mulFrom]
    exact ⟨.refl ok, vo, by simp, fun m => by rw [evB_nil]; simp [sumB]⟩
  | x :: bs, G, out, i, ok, vo, va, hb, hi, hr => by
    simp only [List.length_cons] at hi hr
    have u := mulStep_vec ok x vo va (i := i) (by omega)
    have c := mulStep_cost ok x vo va (i := i) (by omega)
    have ih := mulFrom_num bs (i := i + 1) u.1.ok u.2 (va.up u.1) (fun y hy => u.1.e (hb y (List.mem_cons_of_mem _ hy))) (by omega) (by omega)
    simp only [mulFrom]
    refine ⟨u.1.trans ih.1, ih.2.1, by rw [List.length_cons]; omega, fun m => ?_⟩
    rw [ih.2.2.2 m, num_up ok u.1 va, evB_up ok u.1 (fun y hy => hb y (List.mem_cons_of_mem _ hy)), evB_cons, sumB]
    refine (mod_add (num_mulStep ok (hb x (List.mem_cons_self ..)) vo va (by omega) (by omega) m) rfl).trans ?_
    congr 1
    rw [Int.pow_succ, Int.add_assoc]
    congr 1
    generalize (if bitG G m x then (1 : Int) else 0) = t
    generalize sumB (evB G m bs) = s
    generalize num G m a = n
    generalize (2 : Int) ^ i = p
    rw [Int.mul_add, Int.add_mul, Int.mul_comm p t, Int.mul_assoc t, Int.mul_assoc p 2 s]
theorem mulG_facts {G : Gr} (ok : G.OK) {a b : List Int} {k j : Nat} (va : Vec G a k) (vb : Vec G b j) (hr : G.l.length + 2560 ≤ 200000) :
    G.Up (mulG G a b).2 ∧ Vec (mulG G a b).2 (mulG G a b).1 (max k j) ∧ (mulG G a b).2.l.length ≤ G.l.length + 2560 ∧ ∀ m, num (mulG G a b).2 m (mulG G a b).1 = trimN (num G m a * num G m b) (max k j) := by
  have mb := max_b va vb
  have wa := va.wide mb; have wb := vb.wide mb
  have v0 := Vec.const ok 0 mb
  have h := mulFrom_num (wideL b (max k j)) (i := 0) ok v0 wa wb.e (by rw [wideL_len]; omega) (by rw [wideL_len]; omega)
  unfold mulG
  rw [both_eq va vb, wideL_len, heldN_id mb]
  rw [wideL_len] at h
  refine ⟨h.1, h.2.1, by omega, fun m => ?_⟩
  rw [← num_trim h.2.1 m]
  apply trimN_congr
  rw [h.2.2.2 m, num_const ok, num_wide va (by omega)]
  rw [show trimN 0 (max k j) = 0 from trimN_in mb.1 ⟨by have := pow_pos (max k j - 1); omega, pow_pos _⟩, Int.zero_add, Int.pow_zero, Int.one_mul, Int.mul_comm]
  refine mod_mul rfl ?_
  rw [← num_mod wb, num_wide vb (by omega)]
end Go.Proofs.YtjlabjncojhjkaaDoor
namespace Go.Proofs.YtjlabjncojhjkaaDoor
open Go Go.Cv
/-! ### Quotients -/
theorem evB_app (G : Gr) (m : List Bool) (a b : List Int) : evB G m (a ++ b) = evB G m a ++ evB G m b := by rw [evB_def, evB_def, evB_def, List.map_append]
theorem evB_take (G : Gr) (m : List Bool) (a : List Int) (n : Nat) : evB G m (a.take n) = (evB G m a).take n := by rw [evB_def, evB_def, List.map_take]
theorem evB_rev (G : Gr) (m : List Bool) (a : List Int) : evB G m a.reverse = (evB G m a).reverse := by rw [evB_def, evB_def, List.map_reverse]
theorem sumB_take (l : List Bool) {n : Nat} (h : n ≤ l.length) : sumB (l.take n) = sumB l % 2 ^ n := by
  have h1 : sumB l = sumB (l.take n) + 2 ^ n * sumB (l.drop n) := by
    have := sumB_app (l.take n) (l.drop n)
    rwa [List.take_append_drop, List.length_take, Nat.min_eq_left h] at this
  have h2 := sumB_b (l.take n)
  rw [List.length_take, Nat.min_eq_left h] at h2
  rw [h1, Int.add_mul_emod_self_left, Int.emod_eq_of_lt h2.1 h2.2]
/-- The bit at a place. -/
theorem bit_at : ∀ (l : List Bool) (n : Nat), n < l.length → (l.getD n false = true ↔ 2 ^ n ≤ sumB l % 2 ^ (n + 1)) := by
  intro l n h
  have h1 := sumB_take l (n := n + 1) (by omega)
  have h2 : l.take (n + 1) = l.take n ++ [l.getD n false] := by
    rw [List.take_add_one, List.getD_eq_getElem?_getD, List.getElem?_eq_getElem h]; rfl
  have h3 := sumB_b (l.take n)
  rw [List.length_take, Nat.min_eq_left (by omega)] at h3
  rw [← h1, h2, sumB_snoc, List.length_take, Nat.min_eq_left (by omega)]
  cases l.getD n false <;> simp <;> omega
theorem dDiff_cost {G : Gr} {x : Int} {rest b : List Int} : (dDiff G x rest b).2.l.length ≤ G.l.length + 9 * (rest.length + 2) := by
  have h := sumL_cost ((x :: rest) ++ [0]) ((b ++ [0]).map nt ++ [1]) G 1
  simp only [List.length_append, List.length_cons, List.length_nil] at h
  unfold dDiff; omega
theorem dDiff_num {G : Gr} (ok : G.OK) {x : Int} {rest b : List Int} (hx : G.E x) (hr : ∀ e ∈ rest, G.E e) (hb : ∀ e ∈ b, G.E e) (hl : rest.length = b.length) (hn : G.l.length + 9 * (rest.length + 2) ≤ 200000) (m : List Bool) :
    sumB (evB (dDiff G x rest b).2 m (dDiff G x rest b).1) = ((if bitG G m x then 1 else 0) + 2 * sumB (evB G m rest) - sumB (evB G m b)) % 2 ^ (rest.length + 2) := by
  have hbn : ∀ e ∈ (b ++ [0]), G.E e := fun e he => by
    rcases List.mem_append.1 he with q | q
    · exact hb e q
    · rw [List.mem_singleton.1 q]; exact Gr.E_0 ok
  have h := sumL_bit m ((x :: rest) ++ [0]) ((b ++ [0]).map nt ++ [1]) ok (Gr.E_1 ok) (fun e he => by
      rcases List.mem_append.1 he with q | q
      · rcases List.mem_cons.1 q with rfl | q
        · exact hx
        · exact hr e q
      · rw [List.mem_singleton.1 q]; exact Gr.E_0 ok) (fun e he => by
      rcases List.mem_append.1 he with q | q
      · obtain ⟨y, hy, rfl⟩ := List.mem_map.1 q; exact nt_E (hbn y hy)
      · rw [List.mem_singleton.1 q]; exact Gr.E_1 ok) (by simp [hl]) (by simp; omega)
  unfold dDiff
  rw [h, sumB_addB _ _ _ (by rw [evB_len, evB_len]; simp [hl]), evB_app, evB_app, evB_nt hbn, evB_app, evB_cons, evB_cons, evB_cons, evB_nil, bit_0 ok, bit_1 ok, sumB_snoc, sumB_snoc, sumB_not, sumB_snoc, sumB]
  have el : (bitG G m x :: evB G m rest ++ [false]).length = rest.length + 2 := by simp [evB_len]
  have el2 : (List.map (fun x => !x) (evB G m b ++ [false])).length = rest.length + 1 := by simp [evB_len, hl]
  have el3 : (evB G m b ++ [false]).length = rest.length + 1 := by simp [evB_len, hl]
  rw [el, el2, el3]
  simp only [Bool.false_eq_true, if_false, if_true, Int.add_zero]
  rw [show bI true = 1 from rfl]
  have pk : (2 : Int) ^ (rest.length + 2) = 2 * 2 ^ (rest.length + 1) := by rw [Int.pow_succ 2 (rest.length + 1)]; omega
  exact mod_of 1 (by rw [pk]; omega)
theorem dFits_bit {G : Gr} (ok : G.OK) {x : Int} {rest b : List Int} (hx : G.E x) (hr : ∀ e ∈ rest, G.E e) (hb : ∀ e ∈ b, G.E e) (hl : rest.length = b.length) (hn : G.l.length + 9 * (rest.length + 2) ≤ 200000) (m : List Bool) :
    bitG (dDiff G x rest b).2 m (dFits G x rest b) = decide (sumB (evB G m b) ≤ (if bitG G m x then 1 else 0) + 2 * sumB (evB G m rest)) := by
  have h := dDiff_num ok hx hr hb hl hn m
  have hlen := dDiff_len (G := G) (x := x) hl
  have u := dDiff_up ok x rest b
  unfold dFits
  have hE : (dDiff G x rest b).2.E ((dDiff G x rest b).1.getD (rest.length + 1) 0) := by
    refine u.2 _ ?_
    rw [List.getD_eq_getElem?_getD, List.getElem?_eq_getElem (by omega)]
    exact List.getElem_mem _
  rw [bit_nt hE]
  have e1 : bitG (dDiff G x rest b).2 m ((dDiff G x rest b).1.getD (rest.length + 1) 0) = (evB (dDiff G x rest b).2 m (dDiff G x rest b).1).getD (rest.length + 1) false := by
    rw [evB_def, List.getD_eq_getElem?_getD, List.getD_eq_getElem?_getD, List.getElem?_map, List.getElem?_eq_getElem (by omega)]
    rfl
  have e2 := bit_at (evB (dDiff G x rest b).2 m (dDiff G x rest b).1) (rest.length + 1) (by rw [evB_len]; omega)
  rw [← e1] at e2
  have hm := sumB_mod (evB (dDiff G x rest b).2 m (dDiff G x rest b).1)
  rw [evB_len, hlen] at hm
  rw [show rest.length + 1 + 1 = rest.length + 2 by omega, hm, h] at e2
  have br := sumB_b (evB G m rest); have bb := sumB_b (evB G m b)
  rw [evB_len] at br bb
  rw [← hl] at bb
  have p0 := pow_pos rest.length
  have p1 : (2 : Int) ^ (rest.length + 1) = 2 * 2 ^ rest.length := by rw [Int.pow_succ]; omega
  have p2 : (2 : Int) ^ (rest.length + 2) = 4 * 2 ^ rest.length := by rw [Int.pow_succ, p1]; omega
  rw [p1, p2] at e2
  have hx01 : (0 : Int) ≤ (if bitG G m x then 1 else 0) ∧ (if bitG G m x then (1 : Int) else 0) ≤ 1 := by split <;> omega
  generalize (if bitG G m x then (1 : Int) else 0) = t at *
  generalize sumB (evB G m rest) = r at *
  generalize sumB (evB G m b) = s at *
  generalize (2 : Int) ^ rest.length = p at *
  by_cases c : s ≤ t + 2 * r
  · rw [Int.emod_eq_of_lt (by omega) (by omega)] at e2
    have : ¬ (2 * p ≤ t + 2 * r - s) := by omega
    rw [decide_eq_true c]
    have : bitG (dDiff G x rest b).2 m ((dDiff G x rest b).1.getD (rest.length + 1) 0) = false := by
      rw [Bool.eq_false_iff]; exact fun q => this (e2.1 q)
    rw [this]; rfl
  · have em : (t + 2 * r - s) % (4 * p) = t + 2 * r - s + 4 * p := by
      rw [← Int.add_emod_right, Int.emod_eq_of_lt (by omega) (by omega)]
    rw [em] at e2
    rw [decide_eq_false c, e2.2 (by omega)]; rfl
theorem dRest_cost {G : Gr} {x : Int} {rest b : List Int} (hl : rest.length = b.length) : (dRest G x rest b).2.l.length ≤ G.l.length + 9 * (rest.length + 2) + 3 * rest.length := by
  have h1 := dDiff_cost (G := G) (x := x) (rest := rest) (b := b)
  have h2 := muxL_cost ((dDiff G x rest b).1.take rest.length) ((x :: rest).take rest.length) (dDiff G x rest b).2 (dFits G x rest b)
  rw [List.length_take, dDiff_len hl] at h2
  unfold dRest; omega
/-- What is left, where b isn't 0 and what was left is less than b. -/
theorem dRest_num {G : Gr} (ok : G.OK) {x : Int} {rest b : List Int} (hx : G.E x) (hr : ∀ e ∈ rest, G.E e) (hb : ∀ e ∈ b, G.E e) (hl : rest.length = b.length) (hn : G.l.length + 9 * (rest.length + 2) + 3 * rest.length ≤ 200000) (m : List Bool)
    (hlt : sumB (evB G m rest) < sumB (evB G m b)) :
    sumB (evB (dRest G x rest b).2 m (dRest G x rest b).1) = (if bitG G m x then 1 else 0) + 2 * sumB (evB G m rest) - (if sumB (evB G m b) ≤ (if bitG G m x then 1 else 0) + 2 * sumB (evB G m rest) then sumB (evB G m b) else 0) := by
  have h := dDiff_num ok hx hr hb hl (by omega) m
  have hf := dFits_bit ok hx hr hb hl (by omega) m
  have hlen := dDiff_len (G := G) (x := x) hl
  have u := dDiff_up ok x rest b
  have hc := dDiff_cost (G := G) (x := x) (rest := rest) (b := b)
  have hxr : ∀ e ∈ (x :: rest).take rest.length, G.E e := fun e he => by
    rcases List.mem_cons.1 (List.mem_of_mem_take he) with rfl | q
    · exact hx
    · exact hr e q
  have hm := muxL_bit m ((dDiff G x rest b).1.take rest.length) ((x :: rest).take rest.length) u.1.ok (dFits_E ok hl) (fun e he => u.2 e (List.mem_of_mem_take he)) (fun e he => u.1.e (hxr e he)) (by simp; omega) (by rw [List.length_take]; omega)
  unfold dRest
  rw [hm, hf, evB_take, evB_up ok u.1 hxr, evB_take, evB_cons]
  have br := sumB_b (evB G m rest); have bb := sumB_b (evB G m b)
  rw [evB_len] at br bb
  rw [← hl] at bb
  have p0 := pow_pos rest.length
  have p1 : (2 : Int) ^ (rest.length + 1) = 2 * 2 ^ rest.length := by rw [Int.pow_succ]; omega
  have p2 : (2 : Int) ^ (rest.length + 2) = 4 * 2 ^ rest.length := by rw [Int.pow_succ, p1]; omega
  have t1 := sumB_take (evB (dDiff G x rest b).2 m (dDiff G x rest b).1) (n := rest.length) (by rw [evB_len]; omega)
  have t2 := sumB_take (bitG G m x :: evB G m rest) (n := rest.length) (by rw [List.length_cons, evB_len]; omega)
  rw [h, p2] at t1
  rw [sumB] at t2
  have hx01 : (0 : Int) ≤ (if bitG G m x then 1 else 0) ∧ (if bitG G m x then (1 : Int) else 0) ≤ 1 := by split <;> omega
  by_cases c : sumB (evB G m b) ≤ (if bitG G m x then 1 else 0) + 2 * sumB (evB G m rest)
  · rw [decide_eq_true c, if_pos rfl, if_pos c, t1]
    generalize (if bitG G m x then (1 : Int) else 0) = t at *
    generalize sumB (evB G m rest) = r at *
    generalize sumB (evB G m b) = s at *
    generalize (2 : Int) ^ rest.length = p at *
    rw [Int.emod_eq_of_lt (a := t + 2 * r - s) (b := 4 * p) (by omega) (by omega), Int.emod_eq_of_lt (by omega) (by omega)]
  · rw [decide_eq_false c, if_neg (by simp), if_neg c, t2]
    generalize (if bitG G m x then (1 : Int) else 0) = t at *
    generalize sumB (evB G m rest) = r at *
    generalize sumB (evB G m b) = s at *
    generalize (2 : Int) ^ rest.length = p at *
    rw [Int.emod_eq_of_lt (by omega) (by omega)]; omega
theorem divFrom_cost (b : List Int) : ∀ (xs : List Int) {G : Gr} {rest : List Int}, rest.length = b.length →
    (divFrom G rest b xs).g.l.length ≤ G.l.length + xs.length * (9 * (b.length + 2) + 3 * b.length)
  | [], G, rest, _ => by simp [divFrom]
  | x :: xs, G, rest, hl => by
    have c := dRest_cost (G := G) (x := x) hl
    have l := dRest_len (G := G) (x := x) hl
    have ih := divFrom_cost b xs (G := (dRest G x rest b).2) (rest := (dRest G x rest b).1) (by omega)
    simp only [divFrom, List.length_cons, Nat.add_mul, Nat.one_mul]
    rw [hl] at c
    omega
theorem divFrom_num (b : List Int) (m : List Bool) : ∀ (xs : List Int) {G : Gr} {rest : List Int}, G.OK → rest.length = b.length → (∀ e ∈ rest, G.E e) → (∀ e ∈ xs, G.E e) → (∀ e ∈ b, G.E e) →
    G.l.length + xs.length * (9 * (b.length + 2) + 3 * b.length) ≤ 200000 → sumB (evB G m rest) < sumB (evB G m b) →
    sumB (evB G m rest) * 2 ^ xs.length + sumB (evB G m xs.reverse) = sumB (evB (divFrom G rest b xs).g m (divFrom G rest b xs).q) * sumB (evB G m b) + sumB (evB (divFrom G rest b xs).g m (divFrom G rest b xs).r) ∧
    sumB (evB (divFrom G rest b xs).g m (divFrom G rest b xs).r) < sumB (evB G m b)
  | [], G, rest, ok, hl, hr, hx, hb, hn, hlt => by
    simp only [divFrom]
    exact ⟨by simp [evB_nil, sumB], hlt⟩
  | x :: xs, G, rest, ok, hl, hr, hx, hb, hn, hlt => by
    simp only [List.length_cons, Nat.add_mul, Nat.one_mul] at hn
    have hx0 := hx x (List.mem_cons_self ..)
    have hxs : ∀ e ∈ xs, G.E e := fun e he => hx e (List.mem_cons_of_mem _ he)
    have c := dRest_cost (G := G) (x := x) hl
    have l := dRest_len (G := G) (x := x) hl
    have u := dRest_up ok x rest b
    have hbl := hl
    have hnr : G.l.length + 9 * (rest.length + 2) + 3 * rest.length ≤ 200000 := by rw [hl]; omega
    have hd := dRest_num ok hx0 hr hb hl hnr m hlt
    have hf := dFits_bit ok hx0 hr hb hl (by omega) m
    have hbu := evB_up ok u.1 hb m
    have bx : (0 : Int) ≤ (if bitG G m x then 1 else 0) ∧ (if bitG G m x then (1 : Int) else 0) ≤ 1 := by split <;> omega
    have lt2 : sumB (evB (dRest G x rest b).2 m (dRest G x rest b).1) < sumB (evB (dRest G x rest b).2 m b) := by
      rw [hd, hbu]
      split <;> omega
    have ih := divFrom_num b m xs u.1.ok (by rw [l, hl]) u.2 (fun e he => u.1.e (hxs e he)) (fun e he => u.1.e (hb e he)) (by rw [hl] at c; omega) lt2
    have up := divFrom_up b xs u.1.ok (rest := (dRest G x rest b).1) (by rw [l, hl]) u.2
    have fE := dFits_E ok (x := x) hl
    have fu := (muxL_up ((dDiff G x rest b).1.take rest.length) ((x :: rest).take rest.length) (dFits G x rest b) (dDiff_up ok x rest b).1.ok).1
    have fb : bitG (divFrom (dRest G x rest b).2 (dRest G x rest b).1 b xs).g m (dFits G x rest b) = decide (sumB (evB G m b) ≤ (if bitG G m x then 1 else 0) + 2 * sumB (evB G m rest)) := by
      rw [bit_up (dDiff_up ok x rest b).1.ok (fu.trans up.1) fE, hf]
    rw [hbu] at ih
    simp only [divFrom]
    refine ⟨?_, ih.2⟩
    rw [evB_app, evB_cons, evB_nil, sumB_snoc, evB_len, up.2.2.2.1, fb, List.reverse_cons, evB_app, evB_cons, evB_nil, sumB_snoc, evB_len, List.length_reverse]
    have e1 := ih.1
    rw [hd, evB_up ok u.1 (fun e he => hxs e (List.mem_reverse.1 he))] at e1
    rw [List.length_cons, Int.pow_succ]
    generalize sumB (evB (divFrom (dRest G x rest b).2 (dRest G x rest b).1 b xs).g m (divFrom (dRest G x rest b).2 (dRest G x rest b).1 b xs).q) = q at *
    generalize sumB (evB (divFrom (dRest G x rest b).2 (dRest G x rest b).1 b xs).g m (divFrom (dRest G x rest b).2 (dRest G x rest b).1 b xs).r) = r at *
    generalize sumB (evB G m xs.reverse) = X at *
    generalize sumB (evB G m rest) = R at *
    generalize sumB (evB G m b) = B at *
    generalize (2 : Int) ^ xs.length = p at *
    have ep : (if bitG G m x = true then p else 0) = (if bitG G m x then 1 else 0) * p := by split <;> simp
    rw [ep]
    generalize (if bitG G m x then (1 : Int) else 0) = t at *
    by_cases c : B ≤ t + 2 * R
    · rw [if_pos c] at e1
      rw [decide_eq_true c, if_pos rfl, Int.add_mul]
      rw [Int.sub_mul, Int.add_mul] at e1
      rw [Int.mul_comm p B]
      have : R * (p * 2) = 2 * R * p := by rw [Int.mul_comm p 2, ← Int.mul_assoc, Int.mul_comm R 2]
      omega
    · rw [if_neg c] at e1
      rw [decide_eq_false c, if_neg (by simp), Int.add_zero]
      rw [Int.sub_zero, Int.add_mul] at e1
      have : R * (p * 2) = 2 * R * p := by rw [Int.mul_comm p 2, ← Int.mul_assoc, Int.mul_comm R 2]
      omega
end Go.Proofs.YtjlabjncojhjkaaDoor
namespace Go.Proofs.YtjlabjncojhjkaaDoor
open Go Go.Cv
/-! ### Div and Rem as numbers -/
theorem negG_facts {G : Gr} (ok : G.OK) {v : List Int} {k : Nat} (hv : Vec G v k) (hr : G.l.length + 144 ≤ 200000) :
    G.Up (negG G v).2 ∧ Vec (negG G v).2 (negG G v).1 k ∧ (negG G v).2.l.length ≤ G.l.length + 144 ∧ ∀ m, num (negG G v).2 m (negG G v).1 = trimN (- num G m v) k := by
  have vc := Vec.const ok 0 hv.b
  have e : heldN v.length = k := by rw [hv.len, heldN_id hv.b]
  have u := sumL_vec ok 1 hv.nt (b := constL 0 k) (constL_len 0 k)
  have c := sumL_c (G := G) 1 (b := constL 0 k) hv.nt
  unfold negG
  rw [e]
  refine ⟨u.1, u.2, c, fun m => ?_⟩
  rw [num_sum ok (Gr.E_1 ok) hv.nt vc hr, bit_1 ok, num_const ok]
  apply trimN_congr
  rw [show trimN 0 k = 0 from trimN_in hv.b.1 ⟨by have := pow_pos (k - 1); omega, pow_pos _⟩, Int.add_zero, show bI true = 1 from rfl]
  refine (mod_add (num_nt hv m) rfl).trans ?_
  congr 1; omega
theorem signed_facts {G : Gr} (ok : G.OK) {e : Int} (he : G.E e) {v : List Int} {k : Nat} (hv : Vec G v k) (hr : G.l.length + 192 ≤ 200000) :
    G.Up (signedG G e v).2 ∧ Vec (signedG G e v).2 (signedG G e v).1 k ∧ (signedG G e v).2.l.length ≤ G.l.length + 192 ∧ ∀ m, num (signedG G e v).2 m (signedG G e v).1 = if bitG G m e then trimN (- num G m v) k else num G m v := by
  have h := negG_facts ok hv (by omega)
  have u := muxG_up h.1.ok e h.2.1 (hv.up h.1)
  have c := muxG_cost e h.2.1 (hv.up h.1)
  rw [Nat.max_self] at u
  unfold signedG
  refine ⟨h.1.trans u.1, u.2, by have := h.2.2.1; omega, fun m => ?_⟩
  rw [num_mux h.1.ok (h.1.e he) h.2.1 (hv.up h.1) (by have := h.2.2.1; omega), h.2.2.2, bit_up ok h.1 he, num_up ok h.1 hv]
theorem size_facts {G : Gr} (ok : G.OK) {v : List Int} {k : Nat} (hv : Vec G v k) (hr : G.l.length + 192 ≤ 200000) :
    G.Up (sizeG G v).2 ∧ Vec (sizeG G v).2 (sizeG G v).1 k ∧ (sizeG G v).2.l.length ≤ G.l.length + 192 ∧ ∀ m, sumB (evB (sizeG G v).2 m (sizeG G v).1) = (num G m v).natAbs := by
  have h := signed_facts ok (last_E hv) hv hr
  refine ⟨h.1, h.2.1, h.2.2.1, fun m => ?_⟩
  show sumB (evB (signedG G (lastE v) v).2 m (signedG G (lastE v) v).1) = _
  rw [sumB_of h.2.1, h.2.2.2 m, lastB_num hv]
  have hb := num_b hv m
  have p := (trimN_b 0 hv.b.1).2.2
  have pp := pow_pos (k - 1)
  by_cases c : num G m v < 0
  · rw [decide_eq_true c, if_pos rfl, trimN_mod, Int.emod_eq_of_lt (by omega) (by omega)]; omega
  · rw [decide_eq_false c, if_neg (by simp), Int.emod_eq_of_lt (by omega) (by omega)]; omega
theorem divS_facts {G : Gr} (ok : G.OK) {e : Int} (he : G.E e) {b v : List Int} {k : Nat} (hb : Vec G b k) (hv : Vec G v k) (hr : G.l.length + 224 ≤ 200000) :
    G.Up (divS G e b v).2 ∧ Vec (divS G e b v).2 (divS G e b v).1 k ∧ (divS G e b v).2.l.length ≤ G.l.length + 224 ∧
    ∀ m, num (divS G e b v).2 m (divS G e b v).1 = if num G m b = 0 then 0 else if bitG G m e then trimN (- num G m v) k else num G m v := by
  have u1 := some_up ok (vecL b)
  have c1 := some_cost hb
  have h := signed_facts u1.1.ok (u1.1.e he) (hv.up u1.1) (by omega)
  have eE := h.1.e u1.2
  have u3 := mask_vec h.1.ok (anyL G 0 (vecL b)).1 h.2.1
  have c3 := maskL_cost (signedG (anyL G 0 (vecL b)).2 e v).1 (signedG (anyL G 0 (vecL b)).2 e v).2 (anyL G 0 (vecL b)).1
  have l3 := h.2.1.bl
  unfold divS
  refine ⟨(u1.1.trans h.1).trans u3.1, u3.2, by have := h.2.2.1; omega, fun m => ?_⟩
  rw [num_mask h.1.ok eE h.2.1 (by have := h.2.2.1; omega), bit_up u1.1.ok h.1 u1.2, bit_some ok hb (by omega), h.2.2.2, bit_up ok u1.1 he, num_up ok u1.1 hv]
  by_cases c : num G m b = 0
  · rw [if_pos c, decide_eq_false (by simp [c]), if_neg (by simp)]
  · rw [if_neg c, decide_eq_true c, if_pos rfl]
structure DvF (G : Gr) (a b : List Int) (k : Nat) : Prop where
  up : G.Up (dvR G a b).g
  q : Vec (dvR G a b).g (dvR G a b).q k
  r : Vec (dvR G a b).g (dvR G a b).r k
  c : (dvR G a b).g.l.length ≤ G.l.length + 3744
  n : ∀ m, num G m b ≠ 0 → sumB (evB (dvR G a b).g m (dvR G a b).q) = (num G m a).natAbs / (num G m b).natAbs ∧ sumB (evB (dvR G a b).g m (dvR G a b).r) = (num G m a).natAbs % (num G m b).natAbs
theorem dvR_facts {G : Gr} (ok : G.OK) {a b : List Int} {k : Nat} (va : Vec G a k) (vb : Vec G b k) (hr : G.l.length + 3744 ≤ 200000) : DvF G a b k := by
  have u := dvR_up ok va.len vb.len va.b
  have h1 := size_facts ok va (by omega)
  have h2 := size_facts h1.1.ok (vb.up h1.1) (by have := h1.2.2.1; omega)
  have v0 := Vec.const h2.1.ok 0 va.b
  have e0 : heldN (sizeG G a).1.length = k := by rw [h1.2.1.len, heldN_id va.b]
  have lq := h1.2.1.len
  have lb := h2.2.1.len
  have kb := va.b
  have cost : (sizeG G a).1.reverse.length * (9 * ((sizeG (sizeG G a).2 b).1.length + 2) + 3 * (sizeG (sizeG G a).2 b).1.length) ≤ 3360 := by
    rw [List.length_reverse, lq, lb]
    have : k * (9 * (k + 2) + 3 * k) ≤ 16 * (9 * (16 + 2) + 3 * 16) := Nat.mul_le_mul (by omega) (by omega)
    omega
  have c := divFrom_cost (sizeG (sizeG G a).2 b).1 (sizeG G a).1.reverse (G := (sizeG (sizeG G a).2 b).2) (rest := constL 0 k) (by rw [constL_len, lb])
  have k1 := h1.2.2.1; have k2 := h2.2.2.1
  have ed : dvR G a b = divFrom (sizeG (sizeG G a).2 b).2 (constL 0 k) (sizeG (sizeG G a).2 b).1 (sizeG G a).1.reverse := by unfold dvR; rw [e0]
  refine ⟨u.1, ⟨u.2.2.2.1, va.b, u.2.1⟩, ⟨u.2.2.2.2, va.b, u.2.2.1⟩, by rw [ed]; omega, fun m hm => ?_⟩
  have s0 : sumB (evB (sizeG (sizeG G a).2 b).2 m (constL 0 k)) = 0 := by rw [evB_const h2.1.ok, sumB_bits, Int.zero_emod]
  have sb : sumB (evB (sizeG (sizeG G a).2 b).2 m (sizeG (sizeG G a).2 b).1) = (num G m b).natAbs := by rw [h2.2.2.2, num_up ok h1.1 vb]
  have sa : sumB (evB (sizeG (sizeG G a).2 b).2 m (sizeG G a).1) = (num G m a).natAbs := by rw [evB_up h1.1.ok h2.1 h1.2.1.e, h1.2.2.2]
  have hn := divFrom_num (sizeG (sizeG G a).2 b).1 m (sizeG G a).1.reverse (G := (sizeG (sizeG G a).2 b).2) (rest := constL 0 k) h2.1.ok (by rw [constL_len, lb]) v0.e (fun e he => h2.1.e (h1.2.1.e e (List.mem_reverse.1 he))) h2.2.1.e (by omega) (by rw [s0, sb]; omega)
  rw [← ed, s0, sb, Int.zero_mul, Int.zero_add, List.reverse_reverse, sa] at hn
  have hr0 := (sumB_b (evB (dvR G a b).g m (dvR G a b).r)).1
  generalize sumB (evB (dvR G a b).g m (dvR G a b).q) = q at *
  generalize sumB (evB (dvR G a b).g m (dvR G a b).r) = r at *
  have := Int.ediv_emod_unique (a := ((num G m a).natAbs : Int)) (b := ((num G m b).natAbs : Int)) (r := r) (q := q) (by omega)
  have hh := this.2 ⟨by rw [Int.mul_comm, Int.add_comm]; exact hn.1.symm, hr0, hn.2⟩
  exact ⟨hh.1.symm, hh.2.symm⟩
theorem tdiv_abs (a b : Int) : a.tdiv b = if (decide (a < 0) != decide (b < 0)) then -((a.natAbs : Int) / (b.natAbs : Int)) else (a.natAbs : Int) / (b.natAbs : Int) := by
  rcases Int.lt_or_le a 0 with ha | ha
  · obtain ⟨x, rfl⟩ : ∃ x : Nat, a = -x := ⟨a.natAbs, by omega⟩
    rcases Int.lt_or_le b 0 with hb | hb
    · obtain ⟨y, rfl⟩ : ∃ y : Nat, b = -y := ⟨b.natAbs, by omega⟩
      rw [decide_eq_true ha, decide_eq_true hb, Int.neg_tdiv_neg, Int.natAbs_neg, Int.natAbs_neg]
      simp [Int.tdiv_eq_ediv_of_nonneg]
    · obtain ⟨y, rfl⟩ : ∃ y : Nat, b = y := ⟨b.natAbs, by omega⟩
      rw [decide_eq_true ha, decide_eq_false (by omega), Int.neg_tdiv, Int.natAbs_neg]
      simp [Int.tdiv_eq_ediv_of_nonneg]
  · obtain ⟨x, rfl⟩ : ∃ x : Nat, a = x := ⟨a.natAbs, by omega⟩
    rcases Int.lt_or_le b 0 with hb | hb
    · obtain ⟨y, rfl⟩ : ∃ y : Nat, b = -y := ⟨b.natAbs, by omega⟩
      rw [decide_eq_false (by omega), decide_eq_true hb, Int.tdiv_neg, Int.natAbs_neg]
      simp [Int.tdiv_eq_ediv_of_nonneg]
    · obtain ⟨y, rfl⟩ : ∃ y : Nat, b = y := ⟨b.natAbs, by omega⟩
      rw [decide_eq_false (by omega), decide_eq_false (by omega)]
      simp [Int.tdiv_eq_ediv_of_nonneg]
theorem tmod_abs (a b : Int) : a.tmod b = if a < 0 then -((a.natAbs : Int) % (b.natAbs : Int)) else (a.natAbs : Int) % (b.natAbs : Int) := by
  have h1 : ∀ x : Nat, (x : Int).tmod b = (x : Int) % (b.natAbs : Int) := fun x => by
    rw [Int.tmod_eq_emod_of_nonneg (by omega)]
    rcases Int.natAbs_eq b with h | h
    · conv => lhs; rw [h]
    · conv => lhs; rw [h, Int.emod_neg]
  rcases Int.lt_or_le a 0 with ha | ha
  · obtain ⟨x, rfl⟩ : ∃ x : Nat, a = -x := ⟨a.natAbs, by omega⟩
    rw [if_pos ha, Int.neg_tmod, h1, Int.natAbs_neg]; rfl
  · obtain ⟨x, rfl⟩ : ∃ x : Nat, a = x := ⟨a.natAbs, by omega⟩
    rw [if_neg (by omega), h1]; rfl
theorem divG_facts {G : Gr} (ok : G.OK) {a b : List Int} {k j : Nat} (va : Vec G a k) (vb : Vec G b j) (hr : G.l.length + 4000 ≤ 200000) :
    G.Up (divG G a b).2 ∧ Vec (divG G a b).2 (divG G a b).1 (max k j) ∧ (divG G a b).2.l.length ≤ G.l.length + 4000 ∧
    ∀ m, num (divG G a b).2 m (divG G a b).1 = if num G m b = 0 then 0 else trimN ((num G m a).tdiv (num G m b)) (max k j) := by
  have mb := max_b va vb
  have wa := va.wide mb; have wb := vb.wide mb
  have na := num_wide va (show k ≤ max k j by omega)
  have nb := num_wide vb (show j ≤ max k j by omega)
  unfold divG
  rw [both_eq va vb]
  generalize wideL a (max k j) = x at *
  generalize wideL b (max k j) = y at *
  generalize max k j = n at *
  have D := dvR_facts ok wa wb (by omega)
  have ux : (dvR G x y).g.Up (divX G x y).2 ∧ (divX G x y).2.E (divX G x y).1 := Gr.xor_up D.up.ok (lastE x) (lastE y)
  have cx : (divX G x y).2.l.length ≤ (dvR G x y).g.l.length + 3 := xor_len (dvR G x y).g (lastE x) (lastE y)
  have hc := D.c
  have h := divS_facts (G := (divX G x y).2) (e := (divX G x y).1) ux.1.ok ux.2 (wb.up (D.up.trans ux.1)) (D.q.up ux.1) (by omega)
  unfold divE
  refine ⟨(D.up.trans ux.1).trans h.1, h.2.1, by have := h.2.2.1; omega, fun m => ?_⟩
  rw [h.2.2.2, num_up ok (D.up.trans ux.1) wb, nb]
  by_cases c : num G m b = 0
  · rw [if_pos c, if_pos c]
  · rw [if_neg c, if_neg c]
    have hbit : bitG (divX G x y).2 m (divX G x y).1 = (decide (num G m a < 0) != decide (num G m b < 0)) := by
      unfold divX
      rw [xor_bit D.up.ok (by omega), bit_up ok D.up (last_E wa), bit_up ok D.up (last_E wb), lastB_num wa, lastB_num wb, na, nb]
    have hq : num (divX G x y).2 m (dvR G x y).q % 2 ^ n = (((num G m a).natAbs : Int) / ((num G m b).natAbs : Int)) % 2 ^ n := by
      rw [num_up D.up.ok ux.1 D.q, num_mod D.q, (D.n m (by rw [nb]; exact c)).1, na, nb]
    rw [hbit, tdiv_abs]
    split
    · apply trimN_congr
      have := mod_sub (show (0 : Int) % 2 ^ n = 0 % 2 ^ n from rfl) hq
      rwa [Int.zero_sub, Int.zero_sub] at this
    · rw [← num_trim (D.q.up ux.1) m]
      exact trimN_congr hq
theorem remG_facts {G : Gr} (ok : G.OK) {a b : List Int} {k j : Nat} (va : Vec G a k) (vb : Vec G b j) (hr : G.l.length + 4000 ≤ 200000) :
    G.Up (remG G a b).2 ∧ Vec (remG G a b).2 (remG G a b).1 (max k j) ∧ (remG G a b).2.l.length ≤ G.l.length + 4000 ∧
    ∀ m, num (remG G a b).2 m (remG G a b).1 = if num G m b = 0 then 0 else trimN ((num G m a).tmod (num G m b)) (max k j) := by
  have mb := max_b va vb
  have wa := va.wide mb; have wb := vb.wide mb
  have na := num_wide va (show k ≤ max k j by omega)
  have nb := num_wide vb (show j ≤ max k j by omega)
  unfold remG
  rw [both_eq va vb]
  generalize wideL a (max k j) = x at *
  generalize wideL b (max k j) = y at *
  generalize max k j = n at *
  have D := dvR_facts ok wa wb (by omega)
  have hc := D.c
  have h := divS_facts (G := (dvR G x y).g) (e := lastE x) D.up.ok (D.up.e (last_E wa)) (wb.up D.up) D.r (by omega)
  unfold remE
  refine ⟨D.up.trans h.1, h.2.1, by have := h.2.2.1; omega, fun m => ?_⟩
  rw [h.2.2.2, num_up ok D.up wb, nb]
  by_cases c : num G m b = 0
  · rw [if_pos c, if_pos c]
  · rw [if_neg c, if_neg c]
    have hq : num (dvR G x y).g m (dvR G x y).r % 2 ^ n = (((num G m a).natAbs : Int) % ((num G m b).natAbs : Int)) % 2 ^ n := by
      rw [num_mod D.r, (D.n m (by rw [nb]; exact c)).2, na, nb]
    rw [bit_up ok D.up (last_E wa), lastB_num wa, na, tmod_abs]
    by_cases c2 : num G m a < 0
    · rw [decide_eq_true c2, if_pos rfl, if_pos c2]
      apply trimN_congr
      have := mod_sub (show (0 : Int) % 2 ^ n = 0 % 2 ^ n from rfl) hq
      rwa [Int.zero_sub, Int.zero_sub] at this
    · rw [decide_eq_false c2, if_neg (by simp), if_neg c2, ← num_trim D.r m]
      exact trimN_congr hq
end Go.Proofs.YtjlabjncojhjkaaDoor
namespace Go.Proofs.YtjlabjncojhjkaaDoor
open Go Go.Cv
/-! ### Each call's facts in one; two inputs -/
theorem addG_facts {G : Gr} (ok : G.OK) {a b : List Int} {k j : Nat} (va : Vec G a k) (vb : Vec G b j) (hr : G.l.length + 144 ≤ 200000) :
    G.Up (addG G a b).2 ∧ Vec (addG G a b).2 (addG G a b).1 (max k j) ∧ (addG G a b).2.l.length ≤ G.l.length + 144 ∧ ∀ m, num (addG G a b).2 m (addG G a b).1 = trimN (num G m a + num G m b) (max k j) :=
  ⟨(addG_up ok va vb).1, (addG_up ok va vb).2, addG_cost va vb, num_add ok va vb hr⟩
theorem subG_facts {G : Gr} (ok : G.OK) {a b : List Int} {k j : Nat} (va : Vec G a k) (vb : Vec G b j) (hr : G.l.length + 144 ≤ 200000) :
    G.Up (subG G a b).2 ∧ Vec (subG G a b).2 (subG G a b).1 (max k j) ∧ (subG G a b).2.l.length ≤ G.l.length + 144 ∧ ∀ m, num (subG G a b).2 m (subG G a b).1 = trimN (num G m a - num G m b) (max k j) :=
  ⟨(subG_up ok va vb).1, (subG_up ok va vb).2, subG_cost va vb, num_sub ok va vb hr⟩
theorem sameG_facts {G : Gr} (ok : G.OK) {a b : List Int} {k j : Nat} (va : Vec G a k) (vb : Vec G b j) (hr : G.l.length + 64 ≤ 200000) :
    G.Up (sameG G a b).2 ∧ (sameG G a b).2.E (sameG G a b).1 ∧ (sameG G a b).2.l.length ≤ G.l.length + 64 ∧ ∀ m, bitG (sameG G a b).2 m (sameG G a b).1 = decide (num G m a = num G m b) :=
  ⟨(sameG_up ok a b).1, (sameG_up ok a b).2, sameG_cost va vb, bit_same ok va vb hr⟩
theorem lessG_facts {G : Gr} (ok : G.OK) {a b : List Int} {k j : Nat} (va : Vec G a k) (vb : Vec G b j) (hr : G.l.length + 102 ≤ 200000) :
    G.Up (lessG G a b).2 ∧ (lessG G a b).2.E (lessG G a b).1 ∧ (lessG G a b).2.l.length ≤ G.l.length + 102 ∧ ∀ m, bitG (lessG G a b).2 m (lessG G a b).1 = decide (num G m a < num G m b) :=
  ⟨(lessG_up ok a b).1, (lessG_up ok a b).2, lessG_cost va vb, bit_less ok va vb hr⟩
theorem someG_facts {G : Gr} (ok : G.OK) {a : List Int} {k : Nat} (va : Vec G a k) (hr : G.l.length + 16 ≤ 200000) :
    G.Up (anyL G 0 (vecL a)).2 ∧ (anyL G 0 (vecL a)).2.E (anyL G 0 (vecL a)).1 ∧ (anyL G 0 (vecL a)).2.l.length ≤ G.l.length + 16 ∧ ∀ m, bitG (anyL G 0 (vecL a)).2 m (anyL G 0 (vecL a)).1 = decide (num G m a ≠ 0) :=
  ⟨(some_up ok _).1, (some_up ok _).2, some_cost va, bit_some ok va hr⟩
theorem inp2 {k j : Nat} {X Y : List Int × Gr} (hX : X = inpL gr0 k) (hY : Y = inpL X.2 j) (hk : 1 ≤ k ∧ k ≤ 16) (hj : 1 ≤ j ∧ j ≤ 16) (a b : Int) :
    Y.2.OK ∧ Y.2.l.length ≤ 33 ∧ X.2.OK ∧ Vec Y.2 X.1 k ∧ Vec Y.2 Y.1 j ∧ num Y.2 (bitsL a k ++ bitsL b j) X.1 = trimN a k ∧ num Y.2 (bitsL a k ++ bitsL b j) Y.1 = trimN b j := by
  have h1 := inp_vec gr0_ok hk
  have l0 : gr0.l = List.replicate (0 + 1) (-1, -1) := rfl
  have lX := (inp_l k 0 l0 (by omega)).1
  have nX := num_inp gr0_ok l0 (k := k) (by omega) (A := []) (C := bitsL b j) a rfl
  rw [← hX] at h1 lX nX
  rw [List.nil_append] at nX
  have h2 := inp_vec h1.1.ok hj
  have lY := (inp_l j (0 + k) lX (by omega)).1
  have nY := num_inp h1.1.ok lX (k := j) (by omega) (A := bitsL a k) (C := []) b (by rw [bitsL_len]; omega)
  rw [← hY] at h2 lY nY
  rw [List.append_nil] at nY
  refine ⟨h2.1.ok, by rw [lY, List.length_replicate]; omega, h1.1.ok, h1.2.up h2.1, h2.2, ?_, nY⟩
  rw [num_up h1.1.ok h2.1 h1.2, nX]
theorem trim_b {x : Int} {k : Nat} (_ : 1 ≤ k) (h : trimN x k = x) : ∀ y, y % 2 ^ k = x % 2 ^ k → trimN y k = x := fun y hy => by rw [← h]; exact trimN_congr hy
/-- BitsTurns. -/
theorem t_gen {G : Gr} (ok : G.OK) {k : Nat} (hG : G.l.length ≤ 33) {X Y : List Int} (vX : Vec G X k) (vY : Vec G Y k) (s1 s2 s3 m1 m2 : List Int × Gr) (t1 t2 t3 : Int × Gr)
    (e1 : s1 = subG G X X) (e2 : t1 = anyL s1.2 0 (vecL s1.1)) (e3 : s2 = subG t1.2 (constL 0 k) X) (e4 : s3 = subG s2.2 (constL 0 k) s2.1) (e5 : t2 = sameG s3.2 s3.1 X) (e6 : m1 = mulG t2.2 X Y) (e7 : m2 = mulG m1.2 Y X) (e8 : t3 = sameG m2.2 m1.1 m2.1) :
    Small s1.1 ∧ (∀ e ∈ s2.1, 0 ≤ e ∧ e ≤ 400000) ∧ Small s3.1 ∧ Small m1.1 ∧ Small m2.1 ∧ Small [t1.1, t2.1, t3.1] ∧ ∀ m, evB t3.2 m [t1.1, t2.1, t3.1] = [false, true, true] := by
  have kk := Nat.max_self k
  have f1 := subG_facts ok vX vX (by omega)
  rw [← e1, kk] at f1
  have f2 := someG_facts f1.1.ok f1.2.1 (by omega)
  rw [← e2] at f2
  have w2 := f1.1.trans f2.1
  have f3 := subG_facts f2.1.ok (Vec.const f2.1.ok 0 vX.b) (vX.up w2) (by omega)
  rw [← e3, kk] at f3
  have w3 := w2.trans f3.1
  have f4 := subG_facts f3.1.ok (Vec.const f3.1.ok 0 vX.b) f3.2.1 (by omega)
  rw [← e4, kk] at f4
  have w4 := w3.trans f4.1
  have f5 := sameG_facts f4.1.ok f4.2.1 (vX.up w4) (by omega)
  rw [← e5] at f5
  have w5 := w4.trans f5.1
  have f6 := mulG_facts f5.1.ok (vX.up w5) (vY.up w5) (by omega)
  rw [← e6, kk] at f6
  have w6 := w5.trans f6.1
  have f7 := mulG_facts f6.1.ok (vY.up w6) (vX.up w6) (by omega)
  rw [← e7, kk] at f7
  have f8 := sameG_facts f7.1.ok (f6.2.1.up f7.1) f7.2.1 (by omega)
  rw [← e8] at f8
  have U2 : t2.2.Up t3.2 := (f6.1.trans f7.1).trans f8.1
  have U1 : t1.2.Up t3.2 := ((f3.1.trans f4.1).trans f5.1).trans U2
  refine ⟨f1.2.1.small f1.1.ok, small_E f3.1.ok f3.2.1.e, f4.2.1.small f4.1.ok, f6.2.1.small f6.1.ok, f7.2.1.small f7.1.ok, small_of (small_E f8.1.ok ?_), fun m => ?_⟩
  · intro e he
    simp only [List.mem_cons, List.not_mem_nil, or_false] at he
    rcases he with rfl | rfl | rfl
    · exact U1.e f2.2.1
    · exact U2.e f5.2.1
    · exact f8.2.1
  · have z : trimN 0 k = 0 := trimN_in vX.b.1 ⟨by have := pow_pos (k - 1); omega, pow_pos _⟩
    have tX : trimN (num G m X) k = num G m X := num_trim vX m
    rw [evB_cons, evB_cons, evB_cons, evB_nil, bit_up f2.1.ok U1 f2.2.1, f2.2.2.2, f1.2.2.2, bit_up f5.1.ok U2 f5.2.1, f5.2.2.2, f8.2.2.2, f4.2.2.2, f3.2.2.2, num_up f6.1.ok f7.1 f6.2.1, f6.2.2.2, f7.2.2.2,
      num_up ok w2 vX, num_up ok w4 vX, num_up ok w5 vX, num_up ok w5 vY, num_up ok w6 vX, num_up ok w6 vY, num_const f2.1.ok, num_const f3.1.ok, z, Int.sub_self, z, Int.mul_comm]
    have q : trimN (0 - trimN (0 - num G m X) k) k = num G m X := by
      refine trim_b vX.b.1 tX _ ?_
      refine (mod_sub rfl (trimN_mod _ _)).trans ?_
      congr 1; omega
    rw [q]
    simp
/-- BitsLaws. -/
theorem l_gen {G : Gr} (ok : G.OK) {k : Nat} (hG : G.l.length ≤ 33) {X Y : List Int} (vX : Vec G X k) (vY : Vec G Y k) (s d dv ml rm q : List Int × Gr) (t1 t2 t3 : Int × Gr)
    (e1 : s = subG G X Y) (e2 : d = addG s.2 s.1 Y) (e3 : dv = divG d.2 X Y) (e4 : ml = mulG dv.2 dv.1 Y) (e5 : rm = remG ml.2 X Y) (e6 : q = addG rm.2 ml.1 rm.1) (e7 : t1 = sameG q.2 d.1 X) (e8 : t2 = sameG t1.2 q.1 X) (e9 : t3 = anyL t2.2 0 (vecL Y)) :
    Small s.1 ∧ Small d.1 ∧ Small dv.1 ∧ Small ml.1 ∧ Small rm.1 ∧ Small q.1 ∧ Small [t1.1, t2.1, t3.1] ∧ ∀ m, ∃ b c, evB t3.2 m [t1.1, t2.1, t3.1] = [true, b, c] ∧ (b || !c) = true := by
  have kk := Nat.max_self k
  have f1 := subG_facts ok vX vY (by omega)
  rw [← e1, kk] at f1
  have f2 := addG_facts f1.1.ok f1.2.1 (vY.up f1.1) (by omega)
  rw [← e2, kk] at f2
  have w2 := f1.1.trans f2.1
  have f3 := divG_facts f2.1.ok (vX.up w2) (vY.up w2) (by omega)
  rw [← e3, kk] at f3
  have w3 := w2.trans f3.1
  have f4 := mulG_facts f3.1.ok f3.2.1 (vY.up w3) (by omega)
  rw [← e4, kk] at f4
  have w4 := w3.trans f4.1
  have f5 := remG_facts f4.1.ok (vX.up w4) (vY.up w4) (by omega)
  rw [← e5, kk] at f5
  have w5 := w4.trans f5.1
  have f6 := addG_facts f5.1.ok (f4.2.1.up f5.1) f5.2.1 (by omega)
  rw [← e6, kk] at f6
  have w6 := w5.trans f6.1
  have vd := f2.2.1.up (((f3.1.trans f4.1).trans f5.1).trans f6.1)
  have f7 := sameG_facts f6.1.ok vd (vX.up w6) (by omega)
  rw [← e7] at f7
  have w7 := w6.trans f7.1
  have f8 := sameG_facts f7.1.ok (f6.2.1.up f7.1) (vX.up w7) (by omega)
  rw [← e8] at f8
  have w8 := w7.trans f8.1
  have f9 := someG_facts f8.1.ok (vY.up w8) (by omega)
  rw [← e9] at f9
  refine ⟨f1.2.1.small f1.1.ok, f2.2.1.small f2.1.ok, f3.2.1.small f3.1.ok, f4.2.1.small f4.1.ok, f5.2.1.small f5.1.ok, f6.2.1.small f6.1.ok, small_of (small_E f9.1.ok ?_), fun m => ?_⟩
  · intro e he
    simp only [List.mem_cons, List.not_mem_nil, or_false] at he
    rcases he with rfl | rfl | rfl
    · exact (f8.1.trans f9.1).e f7.2.1
    · exact f9.1.e f8.2.1
    · exact f9.2.1
  · have tX : trimN (num G m X) k = num G m X := num_trim vX m
    refine ⟨decide (num t1.2 m q.1 = num t1.2 m X), decide (num t2.2 m Y ≠ 0), ?_, ?_⟩
    · rw [evB_cons, evB_cons, evB_cons, evB_nil, bit_up f7.1.ok (f8.1.trans f9.1) f7.2.1, f7.2.2.2, bit_up f8.1.ok f9.1 f8.2.1, f8.2.2.2, f9.2.2.2,
        num_up f2.1.ok (((f3.1.trans f4.1).trans f5.1).trans f6.1) f2.2.1, f2.2.2.2, num_up ok f1.1 vY, f1.2.2.2, num_up ok w6 vX]
      have p : trimN (trimN (num G m X - num G m Y) k + num G m Y) k = num G m X := by
        refine trim_b vX.b.1 tX _ ?_
        refine (mod_add (trimN_mod _ _) rfl).trans ?_
        congr 1; omega
      rw [p, decide_eq_true rfl]
    · rw [num_up ok w8 vY, num_up ok w7 vX, num_up f6.1.ok f7.1 f6.2.1, f6.2.2.2, num_up f4.1.ok f5.1 f4.2.1, f4.2.2.2, f5.2.2.2, f3.2.2.2, num_up ok w2 vX, num_up ok w2 vY, num_up ok w3 vY, num_up ok w4 vX, num_up ok w4 vY]
      by_cases c : num G m Y = 0
      · simp [c]
      · rw [if_neg c, if_neg c]
        have p : trimN (trimN (trimN ((num G m X).tdiv (num G m Y)) k * num G m Y) k + trimN ((num G m X).tmod (num G m Y)) k) k = num G m X := by
          refine trim_b vX.b.1 tX _ ?_
          refine (mod_add ((trimN_mod _ _).trans (mod_mul (trimN_mod _ _) rfl)) (trimN_mod _ _)).trans ?_
          rw [Int.mul_comm, Int.mul_tdiv_add_tmod]
        rw [p, decide_eq_true rfl]; rfl
end Go.Proofs.YtjlabjncojhjkaaDoor
