/- A part of the proof of a law of the given program: contracts of functions over the clean heap. -/
import Derived.Test.YtjlabjncojhjkaaDoorT6
namespace Go.Proofs.YtjlabjncojhjkaaDoor
open Go Go.Cv
/-! ### The law BitsOrder -/
/-- A list taken as an argument. -/
theorem argS_of {S : Nat → List CV → Prop} {i n : Nat} {l : List Int} (hl : l.length = n) (h : S i (ints l)) : ArgS S (.ref i 0 n 1) l := .inr ⟨i, by rw [hl], h⟩
/-- append(x, y...) over two lists that are there: x is gone, the joined list is new. -/
theorem Mem.glue {h : H} {gid : Nat} {G : Gr} {S : Nat → List CV → Prop} {ia ib : Nat} {A B C : List CV} (I : Mem h gid G (With (With S ia A) ib B)) (hs : ∀ i cs, S i cs → i ≠ ia) (ne : ia ≠ ib) :
    Mem ((h.del ia).new (.cells C)) gid G (With (With S ib B) h.next C) := by
  have hi : ia < h.next := I.lt (.inl (.inr ⟨rfl, rfl⟩))
  refine Mem.turn (h := h) (S := With S ib B) (id := ia) (c := A) (I.weak ?_) ?_ ⟨by simp, H.wf_new (H.wf_del I.wf _) _, fun i hi hz => by simp [far hi, hz]⟩ (fun i hi hne => by simp [far hi, hne]) (Nat.le_refl _) (by simp)
  · rintro i cs (q | q)
    · rcases q with q | q
      · exact .inl (.inl q)
      · exact .inr q
    · exact .inl (.inr q)
  · rintro i cs (q | ⟨rfl, _⟩)
    · exact hs i cs q
    · exact fun e => ne e.symm
theorem joined (l n : List Bool) : bools l ++ bools n = bools (l ++ n) := by simp [bools]
/-- How many are so. -/
def cnt (l : List Bool) (i : Nat) : Int := ((l.take i).filter id).length
def ordI (h0 : H) (iv : Nat) (l : List Bool) (m : Nat) (f : Nat → CV) (h : H) : Prop :=
  h = h0 ∧ f 12 = .ref iv 0 4 1 ∧ ∃ i : Nat, f 13 = .int .i64 (cnt l i) ∧ f 14 = .int .i64 (i : Nat) ∧ i ≤ 3 ∧ m = 3 - i
set_option maxRecDepth 8000 in
theorem bitsOrder_run (a b c : Int) : Runs E 8 [.int .i64 a, .int .i64 b, .int .i64 c] ⟨0, .leaf⟩ fun v _ => v = .bool true := by
  have e6 : heldN 6 = 6 := rfl
  refine Runs.ofX Tryd.func8 rfl rfl rfl rfl (fun _ => rfl) ?_
  simp [Tryd.f8]
  refine (awake_run (S := fun _ _ => False) (fun i _ => rfl) (fun _ _ q => q.elim)).mono fun v h1 ⟨hv, g1, _⟩ => ?_
  subst hv
  simp
  refine (new_mem g1.wf (S := fun _ _ => False) (fun _ _ q => q.elim)).mono fun v h2 ⟨g2, gid, hv, I2⟩ => ?_
  subst hv
  simp
  refine (inputs_run I2 6).mono fun v h3 ⟨g3, i3, hv, n3, I3⟩ => ?_
  rw [e6] at hv I3
  obtain ⟨X, hX⟩ : ∃ X, X = inpL gr0 6 := ⟨_, rfl⟩
  rw [← hX] at hv I3
  subst hv
  simp
  refine (inputs_run I3 6).mono fun v h4 ⟨g4, i4, hv, n4, I4⟩ => ?_
  rw [e6] at hv I4
  obtain ⟨Y, hY⟩ : ∃ Y, Y = inpL X.2 6 := ⟨_, rfl⟩
  rw [← hY] at hv I4
  subst hv
  simp
  refine (inputs_run I4 6).mono fun v h5 ⟨g5, i5, hv, n5, I5⟩ => ?_
  rw [e6] at hv I5
  obtain ⟨Z, hZ⟩ : ∃ Z, Z = inpL Y.2 6 := ⟨_, rfl⟩
  rw [← hZ] at hv I5
  subst hv
  obtain ⟨okZ, lZ, okY, okX, vX, vY, vZ, nX, nY, nZ⟩ := o_inp hX hY hZ a b c
  simp
  refine (bits_run I5.wf a 6).mono fun v h6 F6 => ?_
  obtain ⟨i6, rfl, n6, I6⟩ := I5.fresh1 F6
  simp
  refine (bits_run I6.wf b 6).mono fun v h7 F7 => ?_
  obtain ⟨i7, rfl, n7, I7⟩ := I6.fresh1 F7
  simp only [e6, bools_len, bitsL_len] at I7 ⊢
  have a6 := I7.sv i6 _ (.inl (.inr ⟨rfl, rfl⟩))
  have a7 := I7.sv i7 _ (.inr ⟨rfl, rfl⟩)
  have q6 := I7.lt (.inl (.inr ⟨rfl, rfl⟩))
  have q7 := I7.lt (.inr ⟨rfl, rfl⟩)
  have ne : i6 ≠ i7 := by have := I6.lt (.inr ⟨rfl, rfl⟩); omega
  have t6 : ∀ x : Int, (bools (bitsL x 6)).length = 6 := fun x => by rw [bools_len, bitsL_len]
  have t6' : ∀ x : Int, List.take 6 (bools (bitsL x 6)) = bools (bitsL x 6) := fun x => List.take_of_length_le (by rw [t6]; omega)
  simp [a6, a7, t6, t6']
  have J7 := I7.glue (C := bools (bitsL a 6) ++ bools (bitsL b 6)) (fun i cs q => by have := I5.lt q; omega) ne
  rw [joined] at J7 ⊢
  have s3 : With (With (With (fun _ _ => False) i3 (ints X.1)) i4 (ints Y.1)) i5 (ints Z.1) i3 (ints X.1) := .inl (.inl (.inr ⟨rfl, rfl⟩))
  have s4 : With (With (With (fun _ _ => False) i3 (ints X.1)) i4 (ints Y.1)) i5 (ints Z.1) i4 (ints Y.1) := .inl (.inr ⟨rfl, rfl⟩)
  have s5 : With (With (With (fun _ _ => False) i3 (ints X.1)) i4 (ints Y.1)) i5 (ints Z.1) i5 (ints Z.1) := .inr ⟨rfl, rfl⟩
  have bl : ∀ i cs, With (With (With (fun _ _ => False) i3 (ints X.1)) i4 (ints Y.1)) i5 (ints Z.1) i cs → i < h5.next := fun i cs q => I5.lt q
  generalize With (With (With (fun _ _ => False) i3 (ints X.1)) i4 (ints Y.1)) i5 (ints Z.1) = S5 at J7 s3 s4 s5 bl
  generalize hh8 : (h7.del i6).new (.cells (bools (bitsL a 6 ++ bitsL b 6))) = h8 at J7 ⊢
  have x8 : h8.next = h7.next + 1 := by rw [← hh8]; simp
  have p8 := J7.lt (.inr ⟨rfl, rfl⟩)
  refine (bits_run J7.wf c 6).mono fun v h9 F9 => ?_
  obtain ⟨i9, rfl, n9, I9⟩ := J7.fresh1 F9
  simp only [e6, bools_len, bitsL_len] at I9 ⊢
  have a8 := I9.sv h7.next _ (.inl (.inr ⟨rfl, rfl⟩))
  have a9 := I9.sv i9 _ (.inr ⟨rfl, rfl⟩)
  have q8 := I9.lt (.inl (.inr ⟨rfl, rfl⟩))
  have q9 := I9.lt (.inr ⟨rfl, rfl⟩)
  have ne' : h7.next ≠ i9 := by omega
  have l12 : (bools (bitsL a 6 ++ bitsL b 6)).length = 12 := by rw [bools_len, List.length_append, bitsL_len, bitsL_len]
  have t12 : List.take 12 (bools (bitsL a 6 ++ bitsL b 6)) = bools (bitsL a 6 ++ bitsL b 6) := List.take_of_length_le (by rw [l12]; omega)
  simp [a8, a9, t6, t6', l12, t12, vX.len, vY.len, vZ.len]
  have J9 := I9.glue (C := bools (bitsL a 6 ++ bitsL b 6) ++ bools (bitsL c 6)) (fun i cs q => by rcases q with q | ⟨rfl, _⟩; have := bl i cs q; omega; omega) ne'
  rw [joined] at J9 ⊢
  have lm : (bitsL a 6 ++ bitsL b 6 ++ bitsL c 6).length = 18 := by simp [bitsL_len]
  generalize bitsL a 6 ++ bitsL b 6 ++ bitsL c 6 = mo at J9 nX nY nZ lm ⊢
  have K9 := J9.weak (S' := With S5 h9.next (bools mo)) (fun i cs q => q.elim (fun q => .inl (.inl (.inl q))) .inr)
  generalize hh10 : (h9.del h7.next).new (.cells (bools mo)) = h10 at K9 ⊢
  clear J9 I9 J7
  have sX := vX.small okZ; have sY := vY.small okZ; have sZ := vZ.small okZ
  obtain ⟨L1, hL1⟩ : ∃ x, x = lessG Z.2 X.1 Y.1 := ⟨_, rfl⟩
  obtain ⟨L2, hL2⟩ : ∃ x, x = lessG L1.2 Y.1 X.1 := ⟨_, rfl⟩
  obtain ⟨S1, hS1⟩ : ∃ x, x = sameG L2.2 X.1 Y.1 := ⟨_, rfl⟩
  obtain ⟨A1, hA1⟩ : ∃ x, x = addG S1.2 X.1 Z.1 := ⟨_, rfl⟩
  obtain ⟨A2, hA2⟩ : ∃ x, x = addG A1.2 Y.1 Z.1 := ⟨_, rfl⟩
  obtain ⟨S2, hS2⟩ : ∃ x, x = sameG A2.2 A1.1 A2.1 := ⟨_, rfl⟩
  obtain ⟨o1, o2, o3, o4, o5, o6, sA1, sA2, sE, lA1, lA2, hev⟩ := o_gen okZ (by omega) vX vY vZ L1 L2 S1 S2 A1 A2 hL1 hL2 hS1 hA1 hA2 hS2
  have hev := (hev mo).trans (o_ev nX nY nZ)
  refine (less_run K9 (argS_of vX.len (.inl s3)) (argS_of vY.len (.inl s4)) sX sY).mono fun v h11 ⟨g11, K11, hv⟩ => ?_
  rw [← hL1] at K11 hv
  subst hv
  simp
  refine (less_run K11 (argS_of vY.len (.inl s4)) (argS_of vX.len (.inl s3)) sY sX).mono fun v h12 ⟨g12, K12, hv⟩ => ?_
  rw [← hL2] at K12 hv
  subst hv
  simp
  refine (same_run K12 (argS_of vX.len (.inl s3)) (argS_of vY.len (.inl s4)) sX sY).mono fun v h13 ⟨g13, K13, hv⟩ => ?_
  rw [← hS1] at K13 hv
  subst hv
  simp
  refine (add_run K13 (argS_of vX.len (.inl s3)) (argS_of vZ.len (.inl s5)) sX sZ).mono fun v h14 ⟨g14, i14, hv, n14, K14⟩ => ?_
  rw [← hA1] at K14 hv
  subst hv
  simp
  refine (add_run K14 (argS_of vY.len (.inl (.inl s4))) (argS_of vZ.len (.inl (.inl s5))) sY sZ).mono fun v h15 ⟨g15, i15, hv, n15, K15⟩ => ?_
  rw [← hA2] at K15 hv
  subst hv
  simp
  refine (same_run K15 (argS_of rfl (.inl (.inr ⟨rfl, rfl⟩))) (argS_of rfl (.inr ⟨rfl, rfl⟩)) sA1 sA2).mono fun v h16 ⟨g16, K16, hv⟩ => ?_
  rw [← hS2] at K16 hv
  subst hv
  simp
  have amo := K16.sv _ _ (.inl (.inl (.inr ⟨rfl, rfl⟩)))
  have K17 := K16.fresh (h' := h16.new (.cells (ints [L1.1, L2.1, S1.1, S2.1]))) ⟨by simp, H.wf_new K16.wf _, fun i hi hz => by simp [far hi, hz]⟩ (fun i hi => by simp [far hi])
  have hn17 := H.lt_next K16.wf amo
  refine (eval_run K17 (mv := .ref h9.next 0 18 1) (ev := .ref h16.next 0 4 1) (model := mo) (es := [L1.1, L2.1, S1.1, S2.1]) (.inr ⟨h9.next, by rw [lm], by simp [far hn17, amo]⟩) (.inr ⟨h16.next, rfl, .inr ⟨by omega, by simp⟩⟩) (by simp) (by simp) (by omega) sE).mono fun v h18 F18 => ?_
  obtain ⟨i18, rfl, n18, K18⟩ := K17.fresh1 F18
  have a18 := K18.sv i18 _ (.inr ⟨rfl, rfl⟩)
  have q18 := K18.lt (.inr ⟨rfl, rfl⟩)
  rw [show List.map (fun e => bitV (evalL mo S2.2.l).1 (S2.2.edge e)) [L1.1, L2.1, S1.1, S2.1] = evB S2.2 mo [L1.1, L2.1, S1.1, S2.1] from rfl] at a18 ⊢
  rw [hev] at a18 ⊢
  have hc3 : cnt [decide (trimN a 6 < trimN b 6), decide (trimN b 6 < trimN a 6), decide (trimN a 6 = trimN b 6), decide (trimN a 6 = trimN b 6)] 3 = 1 := by
    generalize trimN a 6 = x
    generalize trimN b 6 = y
    rcases Int.lt_trichotomy x y with h | h | h
    · have d1 : ¬ (y < x) := by omega
      have d2 : x ≠ y := by omega
      simp [cnt, h, d1, d2]
    · subst h; simp [cnt]
    · have d1 : ¬ (x < y) := by omega
      have d2 : x ≠ y := by omega
      simp [cnt, h, d1, d2]
  generalize decide (trimN a 6 < trimN b 6) = p at a18 hc3 ⊢
  generalize decide (trimN b 6 < trimN a 6) = q at a18 hc3 ⊢
  generalize decide (trimN a 6 = trimN b 6) = r at a18 hc3 ⊢
  simp [bools_len]
  refine xX_loopI (N := 79) (fun _ => rfl) rfl (ordI h18 i18 [p, q, r, r]) 3 ?_ ?_
  · exact ⟨rfl, rfl, 0, rfl, rfl, by omega, rfl⟩
  · rintro m f h ⟨rfl, f12, i, f13, f14, hi, rfl⟩
    by_cases d : i < 3
    · have d' : (i : Int) < 3 := by omega
      have w1 : IntKind.i64.wrap ((i : Int) + 1) = i + 1 := wrap64 (by omega) (by omega)
      have hb : ∃ b, [p, q, r, r][i]? = some b := ⟨_, List.getElem?_eq_getElem (by simp; omega)⟩
      obtain ⟨b, hb⟩ := hb
      have eb := getB hb
      have lb : (bools [p, q, r, r]).length = 4 := rfl
      have hi4 : i < 4 := by omega
      have cb : 0 ≤ cnt [p, q, r, r] i ∧ cnt [p, q, r, r] i ≤ 4 := by
        unfold cnt
        have := List.length_filter_le id (List.take i [p, q, r, r])
        rw [List.length_take] at this
        simp only [List.length_cons, List.length_nil] at this
        omega
      have w2 : IntKind.i64.wrap (cnt [p, q, r, r] i + 1) = cnt [p, q, r, r] i + 1 := wrap64 (by omega) (by omega)
      have hs : cnt [p, q, r, r] (i + 1) = cnt [p, q, r, r] i + if b then 1 else 0 := by
        unfold cnt
        rw [List.take_add_one, hb, List.filter_append]
        cases b <;> simp
      have hi3 : i + 1 ≤ 3 := by omega
      cases b
      · rw [if_neg (by simp)] at hs
        simp [tabF, f12, f13, f14, d', a18, lb, hi4, eb, w1]
        exact ⟨by omega, 3 - (i + 1), by omega, rfl, rfl, i + 1, by rw [hs, Int.add_zero]; rfl, rfl, hi3, rfl⟩
      · rw [if_pos rfl] at hs
        simp [tabF, f12, f13, f14, d', a18, lb, hi4, eb, w1, w2]
        exact ⟨by omega, 3 - (i + 1), by omega, rfl, rfl, i + 1, by rw [hs]; rfl, rfl, hi3, rfl⟩
    · have c2 : i = 3 := by omega
      subst c2
      rw [hc3] at f13
      simp [tabF, f12, f13, f14]
      have lb : (bools [p, q, r, r]).length = 4 := rfl
      have e2 := getB (l := [p, q, r, r]) (i := 2) (b := r) rfl
      have e3 := getB (l := [p, q, r, r]) (i := 3) (b := r) rfl
      refine xX_drawn [0, 1, 3, 7, 15, 31, 7, 71, 199, 511, 1023, 2047] rfl (by kernel_rfl) ?_
      simp [a18, lb, e2, e3, eqBin]
end Go.Proofs.YtjlabjncojhjkaaDoor
