/- A part of the proof of a law of the given program: contracts of functions over the clean heap. -/
import Derived.Test.YtjlabjncojhjkaaDoorM4
import Derived.Test.YtjlabjncojhjkaaDoorP2w
import Derived.Test.YtjlabjncojhjkaaDoorT11
namespace Go.Proofs.YtjlabjncojhjkaaDoor
open Go Go.Cv
/-! ### The law BitsDo -/
theorem wide10 {p : Int} (h : 0 ≤ p ∧ p < 256) : ∃ k : Nat, 1 ≤ k ∧ k ≤ 10 ∧ IntKind.i64.wrap p = p ∧ p.tmod 10 = p % 10 ∧ IntKind.i64.wrap (1 + p % 10) = (k : Int) ∧ heldN (k : Int) = k := by
  refine ⟨(1 + p % 10).toNat, by omega, by omega, wrap64 (by omega) (by omega), Int.tmod_eq_emod_of_nonneg h.1, ?_, heldN_id (by omega)⟩
  rw [wrap64 (by omega) (by omega)]; omega
theorem trim16 (n : Int) {k : Nat} (hk : 1 ≤ k ∧ k ≤ 16) : -32768 ≤ trimN n k ∧ trimN n k ≤ 32768 ∧ trimN (trimN n k) k = trimN n k := by
  have h := trimN_b n hk.1
  have h2 := pow_b (k := k) hk.2
  refine ⟨by omega, by omega, ?_⟩
  rw [trim_trim _ hk.1 hk.1, Nat.min_self]
def bdI (a b : Int) (k j gid i3 i4 i7 : Nat) (S : Nat → List CV → Prop) (Y : Gr) (n : Nat) (f : Nat → CV) (h : H) : Prop :=
  f 0 = .int .i64 a ∧ f 1 = .int .i64 b ∧ f 7 = .int .i64 (k : Nat) ∧ f 8 = .int .i64 (j : Nat) ∧ f 9 = .ptr gid 0 ∧ f 10 = .ref i3 0 k 1 ∧ f 11 = .ref i4 0 j 1 ∧ f 12 = .ref i7 0 (k + j) 1 ∧
    ∃ i : Nat, f 13 = .int .i64 (i : Nat) ∧ i ≤ 5 ∧ n = 5 - i ∧ ∃ G, Mem h gid G S ∧ Y.Up G ∧ G.l.length ≤ 33 + 4000 * i
set_option maxRecDepth 8000 in
theorem bitsDo_run {a b p q : Int} (hp : 0 ≤ p ∧ p < 256) (hq : 0 ≤ q ∧ q < 256) : Runs E 11 [.int .i64 a, .int .i64 b, .agg [.int .u8 p, .int .u8 q]] ⟨0, .leaf⟩ fun v _ => v = .bool true := by
  obtain ⟨k, k1, k2, wp, tp, ap, ek⟩ := wide10 hp
  obtain ⟨j, j1, j2, wq, tq, bq, ej⟩ := wide10 hq
  have hk : 1 ≤ k ∧ k ≤ 16 := by omega
  have hj : 1 ≤ j ∧ j ≤ 16 := by omega
  refine Runs.ofX Tryd.func11 rfl rfl rfl rfl (fun _ => rfl) ?_
  simp [Tryd.f11]
  have wf0 : WFH ((⟨0, .leaf⟩ : H).new (.cells [.int .u8 p, .int .u8 q])) := H.wf_new (fun i _ => rfl) _
  have g0 : ((⟨0, .leaf⟩ : H).new (.cells [.int .u8 p, .int .u8 q])).get 0 = some (.cells [.int .u8 p, .int .u8 q]) := by simp
  refine (awake_run wf0 (S := fun i cs => i = 0 ∧ cs = [.int .u8 p, .int .u8 q]) (fun i cs q => by rw [q.1, q.2]; exact g0)).mono fun v h1 ⟨hv, g1, sv⟩ => ?_
  subst hv
  have k0 := sv 0 _ ⟨rfl, rfl⟩
  have n0 := H.lt_next g1.wf k0
  simp
  refine xX_drawn [0, 1, 3, 7, 15, 0, 32, 96, 224, 480, 31, 2047] rfl (by kernel_rfl) ?_
  simp [k0, wp, wq, tp, tq, ap, bq]
  refine (new_mem g1.wf (S := fun _ _ => False) (fun _ _ q => q.elim)).mono fun v h2 ⟨g2, gid, hv, I2⟩ => ?_
  subst hv
  simp
  refine (inputs_run I2 k).mono fun v h3 ⟨g3, i3, hv, n3, I3⟩ => ?_
  rw [ek] at hv I3
  obtain ⟨X, hX⟩ : ∃ X, X = inpL gr0 k := ⟨_, rfl⟩
  rw [← hX] at hv I3
  subst hv
  simp
  refine (inputs_run I3 j).mono fun v h4 ⟨g4, i4, hv, n4, I4⟩ => ?_
  rw [ej] at hv I4
  obtain ⟨Y, hY⟩ : ∃ Y, Y = inpL X.2 j := ⟨_, rfl⟩
  rw [← hY] at hv I4
  subst hv
  simp [rtrim_u, ek, ej]
  obtain ⟨A, hA⟩ : ∃ A, A = trimN a k := ⟨_, rfl⟩
  obtain ⟨B, hB⟩ : ∃ B, B = trimN b j := ⟨_, rfl⟩
  have tA := trim16 a hk
  have tB := trim16 b hj
  rw [← hA] at tA
  rw [← hB] at tB
  rw [← hA, ← hB]
  obtain ⟨okY, lY, okX, vX, vY, nX, nY⟩ := inp2 hX hY hk hj A B
  rw [tA.2.2] at nX
  rw [tB.2.2] at nY
  refine (bits_run I4.wf A k).mono fun v h6 F6 => ?_
  obtain ⟨i6, rfl, n6, I6⟩ := I4.fresh1 F6
  simp
  refine (bits_run I6.wf B j).mono fun v h7 F7 => ?_
  obtain ⟨i7, rfl, n7, I7⟩ := I6.fresh1 F7
  simp only [ek, ej, bools_len, bitsL_len] at I7 ⊢
  have a6 := I7.sv i6 _ (.inl (.inr ⟨rfl, rfl⟩))
  have a7 := I7.sv i7 _ (.inr ⟨rfl, rfl⟩)
  have q6 := I7.lt (.inl (.inr ⟨rfl, rfl⟩))
  have q7 := I7.lt (.inr ⟨rfl, rfl⟩)
  have ne : i6 ≠ i7 := by have := I6.lt (.inr ⟨rfl, rfl⟩); omega
  have t6 : ∀ (x : Int) (k : Nat), (bools (bitsL x k)).length = k := fun x k => by rw [bools_len, bitsL_len]
  have t6' : ∀ (x : Int) (k : Nat), List.take k (bools (bitsL x k)) = bools (bitsL x k) := fun x k => List.take_of_length_le (by rw [t6]; omega)
  have kk : k + j ≤ 140737488355328 := by omega
  simp [a6, a7, t6, t6', kk]
  have J7 := I7.glue (C := bools (bitsL A k) ++ bools (bitsL B j)) (fun i cs q => by have := I4.lt q; omega) ne
  rw [joined] at J7 ⊢
  have lm : (bitsL A k ++ bitsL B j).length = k + j := by rw [List.length_append, bitsL_len, bitsL_len]
  generalize bitsL A k ++ bitsL B j = mo at J7 nX nY lm ⊢
  have K7 := J7.weak (S' := With (With (With (fun _ _ => False) i3 (ints X.1)) i4 (ints Y.1)) h7.next (bools mo)) (fun i cs q => q.elim (fun q => .inl (.inl q)) .inr)
  have s3 : With (With (With (fun _ _ => False) i3 (ints X.1)) i4 (ints Y.1)) h7.next (bools mo) i3 (ints X.1) := .inl (.inl (.inr ⟨rfl, rfl⟩))
  have s4 : With (With (With (fun _ _ => False) i3 (ints X.1)) i4 (ints Y.1)) h7.next (bools mo) i4 (ints Y.1) := .inl (.inr ⟨rfl, rfl⟩)
  have s7 : With (With (With (fun _ _ => False) i3 (ints X.1)) i4 (ints Y.1)) h7.next (bools mo) h7.next (bools mo) := .inr ⟨rfl, rfl⟩
  generalize With (With (With (fun _ _ => False) i3 (ints X.1)) i4 (ints Y.1)) h7.next (bools mo) = S7 at K7 s3 s4 s7
  clear J7 I7
  generalize (h7.del i6).new (.cells (bools mo)) = h8 at K7 ⊢
  have lX := vX.len
  have lYY := vY.len
  refine xX_loopI (N := 130) (fun _ => rfl) rfl (bdI A B k j gid i3 i4 h7.next S7 Y.2) 5 ?_ ?_
  · exact ⟨rfl, rfl, rfl, rfl, rfl, by rw [← lX]; rfl, by rw [← lYY]; rfl, rfl, 0, rfl, by omega, rfl, Y.2, K7, .refl okY, by omega⟩
  · rintro n f h9 ⟨f0, f1, f7, f8, f9, f10, f11, f12, i, f13, hi, rfl, G, K9, u9, c9⟩
    have sX := (vX.up u9).small u9.ok; have sY := (vY.up u9).small u9.ok
    have sX' := small_E u9.ok (vX.up u9).e; have sY' := small_E u9.ok (vY.up u9).e
    by_cases c : i < 5
    · have c' : (i : Int) < 5 := by omega
      have w1 : IntKind.i64.wrap ((i : Int) + 1) = i + 1 := wrap64 (by omega) (by omega)
      obtain ⟨u10, v10, c10, n10⟩ := doG_facts u9.ok (vX.up u9) (vY.up u9) (i : Int) (by omega)
      simp [tabF, f0, f1, f7, f8, f9, f10, f11, f12, f13, c']
      refine (do_run K9 (i : Int) (argS_of lX s3) (argS_of lYY s4) sX sY sX' sY').mono fun v h10 ⟨g10, i10, hv, nn10, K10⟩ => ?_
      subst hv
      have hN := fun m => (num_value v10 m).trans (n10 m)
      have vl := v10.len
      have sR := v10.small u10.ok
      generalize doG (i : Int) G X.1 Y.1 = R at *
      obtain ⟨M, hM⟩ : ∃ M : Nat, M = max k j := ⟨_, rfl⟩
      have mx : (if k < j then (j : Int) else (k : Int)) = (M : Int) := by split <;> omega
      have mM : 1 ≤ M ∧ M ≤ 16 := by omega
      rw [← hM] at v10 vl hN
      simp [mx, vl]
      refine (eval_run K10 (mv := .ref h7.next 0 (k + j) 1) (ev := .ref i10 0 M 1) (model := mo) (es := R.1) (.inr ⟨h7.next, by rw [lm], K10.sv _ _ (.inl s7)⟩) (argS_of vl (.inr ⟨rfl, rfl⟩)) v10.ne (by omega) (by omega) sR).mono fun v h11 F11 => ?_
      simp
      refine value_of (l := evB R.2 mo R.1) F11 (by rw [evB_len]; omega) ?_
      have I11 := K10.fresh F11.gr F11.fr
      rw [hN, num_up okY u9 vX, num_up okY u9 vY, nX, nY]
      simp [rdo_u mM ⟨tA.1, tA.2.1⟩ ⟨tB.1, tB.2.1⟩, w1, mx]
      refine ⟨5 - (i + 1), by omega, rfl, rfl, rfl, rfl, rfl, rfl, rfl, rfl, i + 1, rfl, by omega, rfl, R.2, I11.weak (S' := S7) (fun i cs q => .inl (.inl q)), u9.trans u10, ?_⟩
      exact Nat.le_trans c10 (Nat.le_trans (Nat.add_le_add_right c9 4000) (Nat.le_of_eq (by rw [Nat.mul_add, Nat.add_assoc, Nat.mul_one])))
    · have ci : i = 5 := by omega
      subst ci
      simp [tabF, f0, f1, f7, f8, f9, f10, f11, f12, f13]
      have wX := vX.up u9; have wY := vY.up u9
      have d1 := sameG_facts u9.ok wX wY (by omega)
      have d2 := lessG_facts d1.1.ok (wX.up d1.1) (wY.up d1.1) (by have := d1.2.2.1; omega)
      have d12 := d1.1.trans d2.1
      have d3 := lessG_facts d2.1.ok (wY.up d12) (wX.up d12) (by have := d1.2.2.1; have := d2.2.2.1; omega)
      have d13 := d12.trans d3.1
      have d4 := someG_facts d3.1.ok (wX.up d13) (by have := d1.2.2.1; have := d2.2.2.1; have := d3.2.2.1; omega)
      have e1 := d1.2.2.2 mo
      have e2 := d2.2.2.2 mo
      have e3 := d3.2.2.2 mo
      have e4 := d4.2.2.2 mo
      rw [num_up okY u9 vX, num_up okY u9 vY, nX, nY] at e1
      rw [num_up okY (u9.trans d1.1) vX, num_up okY (u9.trans d1.1) vY, nX, nY] at e2
      rw [num_up okY (u9.trans d12) vX, num_up okY (u9.trans d12) vY, nX, nY] at e3
      rw [num_up okY (u9.trans d13) vX, nX] at e4
      have p1 := bit_up d1.1.ok ((d2.1.trans d3.1).trans d4.1) d1.2.1 mo
      have p2 := bit_up d2.1.ok (d3.1.trans d4.1) d2.2.1 mo
      have p3 := bit_up d3.1.ok d4.1 d3.2.1 mo
      rw [e1] at p1
      rw [e2] at p2
      rw [e3] at p3
      have q1 := ((d2.1.trans d3.1).trans d4.1).e d1.2.1
      have q2 := (d3.1.trans d4.1).e d2.2.1
      have q3 := d4.1.e d3.2.1
      have q4 := d4.2.1
      have ok4 := d4.1.ok
      refine (same_run K9 (argS_of lX s3) (argS_of lYY s4) sX sY).mono fun v h10 ⟨g10, K10, hv⟩ => ?_
      subst hv
      generalize sameG G X.1 Y.1 = t1 at *
      simp
      refine (less_run K10 (argS_of lX s3) (argS_of lYY s4) sX sY).mono fun v h11 ⟨g11, K11, hv⟩ => ?_
      subst hv
      generalize lessG t1.2 X.1 Y.1 = t2 at *
      simp
      refine (less_run K11 (argS_of lYY s4) (argS_of lX s3) sY sX).mono fun v h12 ⟨g12, K12, hv⟩ => ?_
      subst hv
      generalize lessG t2.2 Y.1 X.1 = t3 at *
      simp
      refine (some_run K12 (argS_of lX s3) sX).mono fun v h13 ⟨g13, K13, hv⟩ => ?_
      subst hv
      generalize anyL t3.2 0 (vecL X.1) = t4 at *
      simp
      have hev : evB t4.2 mo [t1.1, t2.1, t3.1, t4.1] = [decide (A = B), decide (A < B), decide (B < A), decide (A ≠ 0)] := by
        rw [evB_cons, evB_cons, evB_cons, evB_cons, evB_nil, p1, p2, p3, e4]
      have sT : Small [t1.1, t2.1, t3.1, t4.1] := small_of (small_E ok4 fun e he => by
        simp only [List.mem_cons, List.not_mem_nil, or_false] at he
        rcases he with rfl | rfl | rfl | rfl
        · exact q1
        · exact q2
        · exact q3
        · exact q4)
      have amo := K13.sv _ _ s7
      have hn := H.lt_next K13.wf amo
      have K17 := K13.fresh (h' := h13.new (.cells (ints [t1.1, t2.1, t3.1, t4.1]))) ⟨by simp, H.wf_new K13.wf _, fun i hi hz => by simp [far hi, hz]⟩ (fun i hi => by simp [far hi])
      refine (eval_run K17 (mv := .ref h7.next 0 (k + j) 1) (ev := .ref h13.next 0 4 1) (model := mo) (es := [t1.1, t2.1, t3.1, t4.1]) (.inr ⟨h7.next, by rw [lm], by simp [far hn, amo]⟩) (.inr ⟨h13.next, rfl, .inr ⟨by omega, by simp⟩⟩) (by simp) (by simp) (by omega) sT).mono fun v h18 F18 => ?_
      obtain ⟨i18, rfl, n18, K18⟩ := K17.fresh1 F18
      have a18 := K18.sv i18 _ (.inr ⟨rfl, rfl⟩)
      have q18 := K18.lt (.inr ⟨rfl, rfl⟩)
      rw [show List.map (fun e => bitV (evalL mo t4.2.l).1 (t4.2.edge e)) [t1.1, t2.1, t3.1, t4.1] = evB t4.2 mo [t1.1, t2.1, t3.1, t4.1] from rfl] at a18 ⊢
      rw [hev] at a18 ⊢
      simp [bools] at a18 ⊢
      simp [a18, eqBin]
end Go.Proofs.YtjlabjncojhjkaaDoor
