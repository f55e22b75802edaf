/- A part of the proof of a law of the given program: contracts of functions over the clean heap. -/
import Derived.Test.YtjlabjncojhjkaaDoorT3
namespace Go.Proofs.YtjlabjncojhjkaaDoor
open Go Go.Cv
/-! ### Some, Same, Less -/
theorem anyL_cost : ∀ (l : List Int) (G : Gr) (o : Int), (anyL G o l).2.l.length ≤ G.l.length + l.length
  | [], G, o => by simp [anyL]
  | e :: l, G, o => by
    have h1 := or_len G o e
    have h2 := anyL_cost l (G.or o e).2 (G.or o e).1
    simp only [anyL, List.length_cons]; omega
theorem anyL_bit (m : List Bool) : ∀ (l : List Int) {G : Gr} {o : Int}, G.OK → G.E o → (∀ e ∈ l, G.E e) → G.l.length + l.length ≤ 200000 →
    bitG (anyL G o l).2 m (anyL G o l).1 = (bitG G m o || (evB G m l).any id)
  | [], G, o, _, _, _, _ => by simp [anyL, evB_nil]
  | e :: l, G, o, ok, ho, hl, hr => by
    simp only [List.length_cons] at hr
    have u := Gr.or_up ok o e
    have ln := or_len G o e
    have ih := anyL_bit m l u.1.ok u.2 (fun x hx => u.1.e (hl x (List.mem_cons_of_mem _ hx))) (by omega)
    simp only [anyL]
    rw [ih, or_bit ok (by omega), evB_up ok u.1 (fun x hx => hl x (List.mem_cons_of_mem _ hx)), evB_cons, List.any_cons, Bool.or_assoc]
    rfl
theorem sumB_any : ∀ (l : List Bool), l.any id = decide (sumB l ≠ 0)
  | [] => by simp [sumB]
  | b :: l => by
    have hb := sumB_b l
    rw [List.any_cons, sumB_any l, sumB]
    cases b
    · simp
    · simp; omega
theorem sval_zero (l : List Bool) : sval l = 0 ↔ sumB l = 0 := by
  have h1 := sumB_mod l
  have h2 := sval_mod l
  constructor
  · intro h; rw [h, Int.zero_emod] at h2; omega
  · intro h
    unfold sval trimN
    rw [h, Int.zero_emod, if_neg]
    have := pow_pos (l.length - 1); omega
theorem bit_some {G : Gr} (ok : G.OK) {l : List Int} {k : Nat} (v : Vec G l k) (hr : G.l.length + 16 ≤ 200000) (m : List Bool) :
    bitG (anyL G 0 (vecL l)).2 m (anyL G 0 (vecL l)).1 = decide (num G m l ≠ 0) := by
  have := v.bl
  rw [vec_id v.bl, anyL_bit m l ok (Gr.E_0 ok) v.e (by omega), bit_0 ok, Bool.false_or, sumB_any]
  have := sval_zero (evB G m l)
  unfold num
  simp [this]
theorem some_cost {G : Gr} {l : List Int} {k : Nat} (v : Vec G l k) : (anyL G 0 (vecL l)).2.l.length ≤ G.l.length + 16 := by
  have := v.bl
  have h := anyL_cost l G 0
  rw [vec_id v.bl]; omega
theorem some_up {G : Gr} (ok : G.OK) (l : List Int) : G.Up (anyL G 0 l).2 ∧ (anyL G 0 l).2.E (anyL G 0 l).1 := anyL_up l ok (Gr.E_0 ok)
theorem sameS_cost (G : Gr) (o a b : Int) : (sameS G o a b).2.l.length ≤ G.l.length + 4 := by
  have h1 := xor_len G a b
  have h2 := and_len (G.xor a b).2 o (nt (G.xor a b).1)
  unfold sameS; omega
theorem sameL_cost : ∀ (l n : List Int) (G : Gr) (o : Int), (sameL G o l n).2.l.length ≤ G.l.length + 4 * l.length
  | [], _, G, o => by simp [sameL]
  | _ :: _, [], G, o => by simp [sameL]
  | a :: l, b :: n, G, o => by
    have h1 := sameS_cost G o a b
    have h2 := sameL_cost l n (sameS G o a b).2 (sameS G o a b).1
    simp only [sameL, List.length_cons]; omega
theorem sameS_bit {G : Gr} (ok : G.OK) {o : Int} (ho : G.E o) (a b : Int) (hr : G.l.length + 4 ≤ 200000) (m : List Bool) : bitG (sameS G o a b).2 m (sameS G o a b).1 = (bitG G m o && (bitG G m a == bitG G m b)) := by
  have u := Gr.xor_up ok a b
  have ln := xor_len G a b
  unfold sameS
  rw [and_bit u.1.ok (by omega), bit_nt u.2, xor_bit ok (by omega), bit_up ok u.1 ho]
  cases bitG G m a <;> cases bitG G m b <;> rfl
theorem sameL_bit (m : List Bool) : ∀ (l n : List Int) {G : Gr} {o : Int}, G.OK → G.E o → (∀ e ∈ l, G.E e) → (∀ e ∈ n, G.E e) → l.length = n.length → G.l.length + 4 * l.length ≤ 200000 →
    bitG (sameL G o l n).2 m (sameL G o l n).1 = (bitG G m o && (evB G m l == evB G m n))
  | [], [], G, o, _, _, _, _, _, _ => by simp [sameL, evB_nil]
  | [], _ :: _, _, _, _, _, _, _, h, _ => by simp at h
  | _ :: _, [], _, _, _, _, _, _, h, _ => by simp at h
  | a :: l, b :: n, G, o, ok, ho, hl, hn, hlen, hr => by
    simp only [List.length_cons] at hlen hr
    have u := sameS_up ok o a b
    have ln := sameS_cost G o a b
    have ih := sameL_bit m l n u.1.ok u.2 (fun x hx => u.1.e (hl x (List.mem_cons_of_mem _ hx))) (fun x hx => u.1.e (hn x (List.mem_cons_of_mem _ hx))) (by omega) (by omega)
    simp only [sameL]
    rw [ih, sameS_bit ok ho a b (by omega), evB_up ok u.1 (fun x hx => hl x (List.mem_cons_of_mem _ hx)), evB_up ok u.1 (fun x hx => hn x (List.mem_cons_of_mem _ hx)), evB_cons, evB_cons, List.cons_beq_cons, Bool.and_assoc]
theorem sumB_inj : ∀ (l n : List Bool), l.length = n.length → sumB l = sumB n → l = n
  | [], [], _, _ => rfl
  | [], _ :: _, h, _ => by simp at h
  | _ :: _, [], h, _ => by simp at h
  | a :: l, b :: n, h, e => by
    simp only [sumB] at e
    have e1 : a = b := by cases a <;> cases b <;> simp at e ⊢ <;> omega
    subst e1
    rw [sumB_inj l n (by simpa using h) (by omega)]
theorem sval_inj {l n : List Bool} (h : l.length = n.length) (e : sval l = sval n) : l = n := by
  have h1 := sval_mod l; have h2 := sval_mod n
  rw [e, h, h2, sumB_mod, ← h, sumB_mod] at h1
  exact sumB_inj l n h h1.symm
theorem same_val {l n : List Bool} (h : l.length = n.length) : (l == n) = decide (sval l = sval n) := by
  by_cases e : l = n
  · subst e; simp
  · have : sval l ≠ sval n := fun q => e (sval_inj h q)
    simp [e, this]
theorem sameG_up {G : Gr} (ok : G.OK) (a b : List Int) : G.Up (sameG G a b).2 ∧ (sameG G a b).2.E (sameG G a b).1 := sameL_up _ _ ok (Gr.E_1 ok)
theorem sameG_cost {G : Gr} {a b : List Int} {k j : Nat} (va : Vec G a k) (vb : Vec G b j) : (sameG G a b).2.l.length ≤ G.l.length + 64 := by
  have h := sameL_cost (wideL a (bothK a b)) (wideL b (bothK a b)) G 1
  have := max_b va vb
  rw [wideL_len, both_eq va vb] at h
  unfold sameG; rw [both_eq va vb]; omega
theorem bit_same {G : Gr} (ok : G.OK) {a b : List Int} {k j : Nat} (va : Vec G a k) (vb : Vec G b j) (hr : G.l.length + 64 ≤ 200000) (m : List Bool) :
    bitG (sameG G a b).2 m (sameG G a b).1 = decide (num G m a = num G m b) := by
  have mb := max_b va vb
  unfold sameG
  rw [both_eq va vb, sameL_bit m _ _ ok (Gr.E_1 ok) (va.wide mb).e (vb.wide mb).e (by rw [wideL_len, wideL_len]) (by rw [wideL_len]; omega), bit_1 ok, Bool.true_and,
    same_val (by rw [evB_len, evB_len, wideL_len, wideL_len])]
  have h1 := num_wide va (show k ≤ max k j by omega) m
  have h2 := num_wide vb (show j ≤ max k j by omega) m
  unfold num at h1 h2 ⊢
  rw [h1, h2]
theorem lessS_cost (G : Gr) (o a b : Int) : (lessS G o a b).2.l.length ≤ G.l.length + 6 := by
  have h1 := xor_len G a b
  have h2 := mux_len (G.xor a b).2 (G.xor a b).1 b o
  unfold lessS; omega
theorem lessT_cost (G : Gr) (o a b : Int) : (lessT G o a b).2.l.length ≤ G.l.length + 6 := by
  have h1 := xor_len G a b
  have h2 := mux_len (G.xor a b).2 (G.xor a b).1 a o
  unfold lessT; omega
theorem lessS_bit {G : Gr} (ok : G.OK) {o a b : Int} (ho : G.E o) (hb : G.E b) (hr : G.l.length + 6 ≤ 200000) (m : List Bool) : bitG (lessS G o a b).2 m (lessS G o a b).1 = if bitG G m a != bitG G m b then bitG G m b else bitG G m o := by
  have u := Gr.xor_up ok a b
  have ln := xor_len G a b
  unfold lessS
  rw [mux_bit u.1.ok (by omega) _ _ _ (u.1.e ho), xor_bit ok (by omega), bit_up ok u.1 ho, bit_up ok u.1 hb]
theorem lessT_bit {G : Gr} (ok : G.OK) {o a b : Int} (ho : G.E o) (ha : G.E a) (hr : G.l.length + 6 ≤ 200000) (m : List Bool) : bitG (lessT G o a b).2 m (lessT G o a b).1 = if bitG G m a != bitG G m b then bitG G m a else bitG G m o := by
  have u := Gr.xor_up ok a b
  have ln := xor_len G a b
  unfold lessT
  rw [mux_bit u.1.ok (by omega) _ _ _ (u.1.e ho), xor_bit ok (by omega), bit_up ok u.1 ho, bit_up ok u.1 ha]
theorem lessL_up (l n : List Int) {G : Gr} {o : Int} (ok : G.OK) (ho : G.E o) : G.Up (lessL G o l n).2 ∧ (lessL G o l n).2.E (lessL G o l n).1 := lessP_up _ ok ho
theorem lessL_cost : ∀ (l n : List Int) (G : Gr) (o : Int), (lessL G o l n).2.l.length ≤ G.l.length + 6 * l.length
  | [], _, G, o => by rw [lessL_nil]; simp
  | _ :: _, [], G, o => by unfold lessL; rw [List.zip_nil_right, lessP_nil]; simp
  | a :: l, b :: n, G, o => by
    have h1 := lessS_cost G o a b
    have h2 := lessL_cost l n (lessS G o a b).2 (lessS G o a b).1
    rw [lessL_cons, List.length_cons]; omega
theorem less_cons (x y : Int) (a b o : Bool) : (if x = y then (if a != b then b else o) else decide (x < y)) = if (if a then 1 else 0) + 2 * x = (if b then 1 else 0) + 2 * y then o else decide ((if a then 1 else 0) + 2 * x < (if b then 1 else 0) + 2 * y) := by
  by_cases e : x = y
  · subst e
    rw [if_pos rfl]
    have e1 : ¬ ((1 : Int) + 2 * x = 2 * x) := by omega
    have e2 : ¬ ((2 : Int) * x = 1 + 2 * x) := by omega
    have e3 : ¬ ((1 : Int) + 2 * x < 2 * x) := by omega
    have e4 : (2 : Int) * x < 1 + 2 * x := by omega
    cases a <;> cases b <;> simp [e1, e2, e3, e4]
  · rw [if_neg e, if_neg (by cases a <;> cases b <;> simp <;> omega)]
    apply decide_eq_decide.2
    cases a <;> cases b <;> simp <;> omega
theorem lessL_bit (m : List Bool) : ∀ (l n : List Int) {G : Gr} {o : Int}, G.OK → G.E o → (∀ e ∈ l, G.E e) → (∀ e ∈ n, G.E e) → l.length = n.length → G.l.length + 6 * l.length ≤ 200000 →
    bitG (lessL G o l n).2 m (lessL G o l n).1 = if sumB (evB G m l) = sumB (evB G m n) then bitG G m o else decide (sumB (evB G m l) < sumB (evB G m n))
  | [], [], G, o, _, _, _, _, _, _ => by rw [lessL_nil]; simp [evB_nil]
  | [], _ :: _, _, _, _, _, _, _, h, _ => by simp at h
  | _ :: _, [], _, _, _, _, _, _, h, _ => by simp at h
  | a :: l, b :: n, G, o, ok, ho, hl, hn, hlen, hr => by
    simp only [List.length_cons] at hlen hr
    have u := lessS_up ok o a b
    have ln := lessS_cost G o a b
    have ih := lessL_bit m l n u.1.ok u.2 (fun x hx => u.1.e (hl x (List.mem_cons_of_mem _ hx))) (fun x hx => u.1.e (hn x (List.mem_cons_of_mem _ hx))) (by omega) (by omega)
    rw [lessL_cons, ih, lessS_bit ok ho (hn b (List.mem_cons_self ..)) (by omega), evB_up ok u.1 (fun x hx => hl x (List.mem_cons_of_mem _ hx)), evB_up ok u.1 (fun x hx => hn x (List.mem_cons_of_mem _ hx)), evB_cons, evB_cons, sumB, sumB]
    generalize sumB (evB G m l) = x
    generalize sumB (evB G m n) = y
    exact less_cons x y _ _ _
theorem lessE_up {G : Gr} (ok : G.OK) (a b : List Int) : G.Up (lessE G a b).2 ∧ (lessE G a b).2.E (lessE G a b).1 := by
  have h1 := lessL_up (a.take (a.length - 1)) (b.take (a.length - 1)) ok (Gr.E_0 ok)
  have h2 := lessT_up h1.1.ok (lessL G 0 (a.take (a.length - 1)) (b.take (a.length - 1))).1 (lastE a) (lastE b)
  unfold lessE
  exact ⟨h1.1.trans h2.1, h2.2⟩
theorem lessG_up {G : Gr} (ok : G.OK) (a b : List Int) : G.Up (lessG G a b).2 ∧ (lessG G a b).2.E (lessG G a b).1 := lessE_up ok _ _
theorem lessG_cost {G : Gr} {a b : List Int} {k j : Nat} (va : Vec G a k) (vb : Vec G b j) : (lessG G a b).2.l.length ≤ G.l.length + 102 := by
  have mb := max_b va vb
  have e := both_eq va vb
  have h := lessL_cost ((wideL a (max k j)).take (max k j - 1)) ((wideL b (max k j)).take (max k j - 1)) G 0
  have h2 := lessT_cost (lessL G 0 ((wideL a (max k j)).take (max k j - 1)) ((wideL b (max k j)).take (max k j - 1))).2 (lessL G 0 ((wideL a (max k j)).take (max k j - 1)) ((wideL b (max k j)).take (max k j - 1))).1 (lastE (wideL a (max k j))) (lastE (wideL b (max k j)))
  rw [List.length_take, wideL_len] at h
  unfold lessG lessE
  rw [e, wideL_len]
  omega
theorem last_E {G : Gr} {l : List Int} {k : Nat} (v : Vec G l k) : G.E (lastE l) := v.e _ (List.mem_of_getElem? (last_get v.bl.1))
theorem evB_lastE {G : Gr} {l : List Int} (h : 1 ≤ l.length) (m : List Bool) : lastB (evB G m l) = bitG G m (lastE l) := evB_last h
theorem lastB_num {G : Gr} {l : List Int} {k : Nat} (v : Vec G l k) (m : List Bool) : bitG G m (lastE l) = decide (num G m l < 0) := by
  have h := sval_eq (l := evB G m l) (by rw [evB_len]; exact v.bl.1)
  have hb := sumB_b (evB G m l)
  rw [evB_lastE v.bl.1] at h
  unfold num
  cases hc : bitG G m (lastE l)
  · rw [hc] at h; simp at h ⊢; omega
  · rw [hc] at h; simp only [if_true] at h; simp; omega
theorem sumB_split {l : List Bool} (h : 1 ≤ l.length) : sumB l = sumB (l.take (l.length - 1)) + (if lastB l then 2 ^ (l.length - 1) else 0) := by
  obtain ⟨i, hi, hl⟩ := snoc_lastB h
  have e : l.take (l.length - 1) = i := by
    have : l.take (l.length - 1) = (i ++ [lastB l]).take (l.length - 1) := congrArg _ hi
    rw [this]; exact List.take_left' hl
  rw [e]
  have : sumB l = sumB (i ++ [lastB l]) := congrArg _ hi
  rw [this, sumB_snoc, hl]
theorem less_val {l n : List Bool} (h : l.length = n.length) (h1 : 1 ≤ l.length) :
    (if lastB l != lastB n then lastB l else if sumB (l.take (l.length - 1)) = sumB (n.take (l.length - 1)) then false else decide (sumB (l.take (l.length - 1)) < sumB (n.take (l.length - 1)))) = decide (sval l < sval n) := by
  have a1 := sval_eq h1; have a2 := sval_eq (l := n) (by omega)
  have b1 := sumB_split h1; have b2 := sumB_split (l := n) (by omega)
  have c1 := sumB_b (l.take (l.length - 1)); have c2 := sumB_b (n.take (l.length - 1))
  rw [List.length_take] at c1 c2
  rw [← h] at a2 b2 c2
  have e1 : min (l.length - 1) l.length = l.length - 1 := by omega
  rw [e1] at c1 c2
  have pk : (2 : Int) ^ l.length = 2 * 2 ^ (l.length - 1) := (trimN_b 0 h1).2.2
  rw [a1, a2, b1, b2, pk]
  generalize sumB (l.take (l.length - 1)) = x at *
  generalize sumB (n.take (l.length - 1)) = y at *
  generalize (2 : Int) ^ (l.length - 1) = p at *
  cases lastB l <;> cases lastB n <;> simp <;> (try split) <;> (try simp) <;> omega
theorem bit_less {G : Gr} (ok : G.OK) {a b : List Int} {k j : Nat} (va : Vec G a k) (vb : Vec G b j) (hr : G.l.length + 102 ≤ 200000) (m : List Bool) :
    bitG (lessG G a b).2 m (lessG G a b).1 = decide (num G m a < num G m b) := by
  have mb := max_b va vb
  have e := both_eq va vb
  have wa := va.wide mb; have wb := vb.wide mb
  have h1 := num_wide va (show k ≤ max k j by omega) m
  have h2 := num_wide vb (show j ≤ max k j by omega) m
  unfold lessG
  rw [e, ← h1, ← h2]
  generalize wideL a (max k j) = x at *
  generalize wideL b (max k j) = y at *
  generalize max k j = n at *
  have lx := wa.len; have ly := wb.len
  have u := lessL_up (x.take (x.length - 1)) (y.take (x.length - 1)) ok (Gr.E_0 ok)
  have c := lessL_cost (x.take (x.length - 1)) (y.take (x.length - 1)) G 0
  rw [List.length_take] at c
  have hb := lessL_bit m (x.take (x.length - 1)) (y.take (x.length - 1)) ok (Gr.E_0 ok) (fun z hz => wa.e z (List.mem_of_mem_take hz)) (fun z hz => wb.e z (List.mem_of_mem_take hz)) (by rw [List.length_take, List.length_take]; omega) (by rw [List.length_take]; omega)
  unfold lessE
  rw [lessT_bit u.1.ok u.2 (u.1.e (last_E wa)) (by omega), hb, bit_up ok u.1 (last_E wa), bit_up ok u.1 (last_E wb), bit_0 ok]
  have := less_val (l := evB G m x) (n := evB G m y) (by rw [evB_len, evB_len]; omega) (by rw [evB_len]; omega)
  unfold num
  rw [← this, evB_lastE wa.bl.1, evB_lastE wb.bl.1, evB_len]
  rw [evB_def, evB_def, evB_def, evB_def, List.map_take, List.map_take]
end Go.Proofs.YtjlabjncojhjkaaDoor
