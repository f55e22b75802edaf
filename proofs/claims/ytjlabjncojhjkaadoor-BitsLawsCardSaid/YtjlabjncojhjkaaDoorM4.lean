/- A part of the proof of a law of the given program: contracts of functions over the clean heap. -/
import Derived.Test.YtjlabjncojhjkaaDoorM3
namespace Go.Proofs.YtjlabjncojhjkaaDoor
open Go Go.Cv
/-! ### The law BitsLaws -/
set_option maxRecDepth 8000 in
theorem bitsLaws_run (a b w : Int) (hw : 0 ≤ w ∧ w < 256) : Runs E 10 [.int .i64 a, .int .i64 b, .int .u8 w] ⟨0, .leaf⟩ fun v _ => v = .bool true := by
  obtain ⟨k, k1, k2, wk, wk2⟩ := low_u8 hw 9 (by omega)
  have hk : 1 ≤ k ∧ k ≤ 16 := by omega
  have ek : heldN (k : Int) = k := heldN_id hk
  have ww : IntKind.i64.wrap w = w := wrap64 (by omega) (by omega)
  refine Runs.ofX Tryd.func10 rfl rfl rfl rfl (fun _ => rfl) ?_
  simp [Tryd.f10]
  refine (awake_run (S := fun _ _ => False) (fun i _ => rfl) (fun _ _ q => q.elim)).mono fun v h1 ⟨hv, g1, _⟩ => ?_
  subst hv
  simp [ww, wk]
  refine (new_mem g1.wf (S := fun _ _ => False) (fun _ _ q => q.elim)).mono fun v h2 ⟨g2, gid, hv, I2⟩ => ?_
  subst hv
  simp
  refine (inputs_run I2 k).mono fun v h3 ⟨g3, i3, hv, n3, I3⟩ => ?_
  rw [ek] at hv I3
  obtain ⟨X, hX⟩ : ∃ X, X = inpL gr0 k := ⟨_, rfl⟩
  rw [← hX] at hv I3
  subst hv
  simp
  refine (inputs_run I3 k).mono fun v h4 ⟨g4, i4, hv, n4, I4⟩ => ?_
  rw [ek] at hv I4
  obtain ⟨Y, hY⟩ : ∃ Y, Y = inpL X.2 k := ⟨_, rfl⟩
  rw [← hY] at hv I4
  subst hv
  obtain ⟨okY, lY, okX, vX, vY, nX, nY⟩ := inp2 hX hY hk hk a b
  simp
  refine (bits_run I4.wf a k).mono fun v h6 F6 => ?_
  obtain ⟨i6, rfl, n6, I6⟩ := I4.fresh1 F6
  simp
  refine (bits_run I6.wf b k).mono fun v h7 F7 => ?_
  obtain ⟨i7, rfl, n7, I7⟩ := I6.fresh1 F7
  simp only [ek, bools_len, bitsL_len] at I7 ⊢
  have a6 := I7.sv i6 _ (.inl (.inr ⟨rfl, rfl⟩))
  have a7 := I7.sv i7 _ (.inr ⟨rfl, rfl⟩)
  have q6 := I7.lt (.inl (.inr ⟨rfl, rfl⟩))
  have q7 := I7.lt (.inr ⟨rfl, rfl⟩)
  have ne : i6 ≠ i7 := by have := I6.lt (.inr ⟨rfl, rfl⟩); omega
  have t6 : ∀ x : Int, (bools (bitsL x k)).length = k := fun x => by rw [bools_len, bitsL_len]
  have t6' : ∀ x : Int, List.take k (bools (bitsL x k)) = bools (bitsL x k) := fun x => List.take_of_length_le (by rw [t6]; omega)
  have kk : k + k ≤ 140737488355328 := by omega
  simp [a6, a7, t6, t6', kk]
  have J7 := I7.glue (C := bools (bitsL a k) ++ bools (bitsL b k)) (fun i cs q => by have := I4.lt q; omega) ne
  rw [joined] at J7 ⊢
  have lm : (bitsL a k ++ bitsL b k).length = k + k := by rw [List.length_append, bitsL_len, bitsL_len]
  generalize bitsL a k ++ bitsL b k = mo at J7 nX nY lm ⊢
  have K7 := J7.weak (S' := With (With (With (fun _ _ => False) i3 (ints X.1)) i4 (ints Y.1)) h7.next (bools mo)) (fun i cs q => q.elim (fun q => .inl (.inl q)) .inr)
  have s3 : With (With (With (fun _ _ => False) i3 (ints X.1)) i4 (ints Y.1)) h7.next (bools mo) i3 (ints X.1) := .inl (.inl (.inr ⟨rfl, rfl⟩))
  have s4 : With (With (With (fun _ _ => False) i3 (ints X.1)) i4 (ints Y.1)) h7.next (bools mo) i4 (ints Y.1) := .inl (.inr ⟨rfl, rfl⟩)
  have s7 : With (With (With (fun _ _ => False) i3 (ints X.1)) i4 (ints Y.1)) h7.next (bools mo) h7.next (bools mo) := .inr ⟨rfl, rfl⟩
  generalize With (With (With (fun _ _ => False) i3 (ints X.1)) i4 (ints Y.1)) h7.next (bools mo) = S7 at K7 s3 s4 s7
  clear J7 I7
  generalize (h7.del i6).new (.cells (bools mo)) = h8 at K7 ⊢
  have sX := vX.small okY; have sY := vY.small okY
  have sX' := small_E okY vX.e; have sY' := small_E okY vY.e
  obtain ⟨s1, e1⟩ : ∃ x, x = subG Y.2 X.1 Y.1 := ⟨_, rfl⟩
  obtain ⟨d, e2⟩ : ∃ x, x = addG s1.2 s1.1 Y.1 := ⟨_, rfl⟩
  obtain ⟨dv, e3⟩ : ∃ x, x = divG d.2 X.1 Y.1 := ⟨_, rfl⟩
  obtain ⟨ml, e4⟩ : ∃ x, x = mulG dv.2 dv.1 Y.1 := ⟨_, rfl⟩
  obtain ⟨rm, e5⟩ : ∃ x, x = remG ml.2 X.1 Y.1 := ⟨_, rfl⟩
  obtain ⟨qq, e6⟩ : ∃ x, x = addG rm.2 ml.1 rm.1 := ⟨_, rfl⟩
  obtain ⟨t1, e7⟩ : ∃ x, x = sameG qq.2 d.1 X.1 := ⟨_, rfl⟩
  obtain ⟨t2, e8⟩ : ∃ x, x = sameG t1.2 qq.1 X.1 := ⟨_, rfl⟩
  obtain ⟨t3, e9⟩ : ∃ x, x = anyL t2.2 0 (vecL Y.1) := ⟨_, rfl⟩
  obtain ⟨z1, z2, z3, z4, z5, z6, z7, hev⟩ := l_gen okY lY vX vY s1 d dv ml rm qq t1 t2 t3 e1 e2 e3 e4 e5 e6 e7 e8 e9
  obtain ⟨bb, cc, hev, hbc⟩ := hev mo
  refine (sub_run K7 (argS_of rfl s3) (argS_of rfl s4) sX sY').mono fun v h9 ⟨g9, i9, hv, n9, K9⟩ => ?_
  rw [← e1] at K9 hv
  subst hv
  simp
  refine (add_run K9 (argS_of rfl (.inr ⟨rfl, rfl⟩)) (argS_of rfl (.inl s4)) z1 sY).mono fun v h10 ⟨g10, i10, hv, n10, K10⟩ => ?_
  rw [← e2] at K10 hv
  subst hv
  simp
  refine (div_run K10 (argS_of rfl (.inl (.inl s3))) (argS_of rfl (.inl (.inl s4))) sX' sY').mono fun v h11 ⟨g11, i11, hv, n11, K11⟩ => ?_
  rw [← e3] at K11 hv
  subst hv
  simp
  refine (mul_run K11 (argS_of rfl (.inr ⟨rfl, rfl⟩)) (argS_of rfl (.inl (.inl (.inl s4)))) z3 sY).mono fun v h12 ⟨g12, i12, hv, n12, K12⟩ => ?_
  rw [← e4] at K12 hv
  subst hv
  simp
  refine (rem_run K12 (argS_of rfl (.inl (.inl (.inl (.inl s3))))) (argS_of rfl (.inl (.inl (.inl (.inl s4))))) sX' sY').mono fun v h13 ⟨g13, i13, hv, n13, K13⟩ => ?_
  rw [← e5] at K13 hv
  subst hv
  simp
  refine (add_run K13 (argS_of rfl (.inl (.inr ⟨rfl, rfl⟩))) (argS_of rfl (.inr ⟨rfl, rfl⟩)) z4 z5).mono fun v h14 ⟨g14, i14, hv, n14, K14⟩ => ?_
  rw [← e6] at K14 hv
  subst hv
  simp
  refine (same_run K14 (argS_of rfl (.inl (.inl (.inl (.inl (.inr ⟨rfl, rfl⟩)))))) (argS_of rfl (.inl (.inl (.inl (.inl (.inl (.inl s3))))))) z2 sX).mono fun v h15 ⟨g15, K15, hv⟩ => ?_
  rw [← e7] at K15 hv
  subst hv
  simp
  refine (same_run K15 (argS_of rfl (.inr ⟨rfl, rfl⟩)) (argS_of rfl (.inl (.inl (.inl (.inl (.inl (.inl s3))))))) z6 sX).mono fun v h15b ⟨g15b, K15b, hv⟩ => ?_
  rw [← e8] at K15b hv
  subst hv
  simp
  refine (some_run K15b (argS_of rfl (.inl (.inl (.inl (.inl (.inl (.inl s4))))))) sY).mono fun v h16 ⟨g16, K16, hv⟩ => ?_
  rw [← e9] at K16 hv
  subst hv
  simp
  have amo := K16.sv _ _ (.inl (.inl (.inl (.inl (.inl (.inl s7))))))
  have K17 := K16.fresh (h' := h16.new (.cells (ints [t1.1, t2.1, t3.1]))) ⟨by simp, H.wf_new K16.wf _, fun i hi hz => by simp [far hi, hz]⟩ (fun i hi => by simp [far hi])
  have hn17 := H.lt_next K16.wf amo
  refine (eval_run K17 (mv := .ref h7.next 0 (k + k) 1) (ev := .ref h16.next 0 3 1) (model := mo) (es := [t1.1, t2.1, t3.1]) (.inr ⟨h7.next, by rw [lm], by simp [far hn17, amo]⟩) (.inr ⟨h16.next, rfl, .inr ⟨by omega, by simp⟩⟩) (by simp) (by simp) (by omega) z7).mono fun v h18 F18 => ?_
  obtain ⟨i18, rfl, n18, K18⟩ := K17.fresh1 F18
  have a18 := K18.sv i18 _ (.inr ⟨rfl, rfl⟩)
  have q18 := K18.lt (.inr ⟨rfl, rfl⟩)
  rw [show List.map (fun e => bitV (evalL mo t3.2.l).1 (t3.2.edge e)) [t1.1, t2.1, t3.1] = evB t3.2 mo [t1.1, t2.1, t3.1] from rfl] at a18 ⊢
  rw [hev] at a18 ⊢
  simp [bools] at a18 ⊢
  cases bb <;> cases cc <;> simp at hbc <;> simp [a18]
end Go.Proofs.YtjlabjncojhjkaaDoor
