/- A part of the proof of a law of the given program: contracts of functions over the clean heap. -/
import Derived.Test.YtjlabjncojhjkaaDoorT3
namespace Go.Proofs.YtjlabjncojhjkaaDoor
open Go Go.Cv
/-! ### The law BitsMux -/
theorem long_set (x y : CV) (i q : Nat) : List.take i (List.replicate i x ++ y :: List.replicate q y) ++ x :: List.drop (i + 1) (List.replicate i x ++ y :: List.replicate q y) = List.replicate (i + 1) x ++ List.replicate q y := by
  rw [List.take_left' (by simp), List.drop_append, List.length_replicate, List.drop_of_length_le (by simp), show i + 1 - i = 1 by omega]
  simp only [List.drop_succ_cons, List.drop_zero, List.replicate_succ', List.append_assoc, List.singleton_append, List.nil_append]
theorem add_none {G : Gr} (ok : G.OK) (hr : G.l.length + 9 ≤ 200000) (m : List Bool) : (addG G [] (List.replicate 17 1)).1.length = 1 ∧ valueL (evB (addG G [] (List.replicate 17 1)).2 m (addG G [] (List.replicate 17 1)).1) = 0 ∧ G.Up (addG G [] (List.replicate 17 1)).2 ∧ Small (addG G [] (List.replicate 17 1)).1 := by
  have e : addG G [] (List.replicate 17 1) = sumL G [0] [0] 0 := rfl
  rw [e]
  have h := sumL_bit m [0] [0] ok (Gr.E_0 ok) (fun e he => by rw [List.mem_singleton.1 he]; exact Gr.E_0 ok) (fun e he => by rw [List.mem_singleton.1 he]; exact Gr.E_0 ok) rfl (by simp; omega)
  have u := sumL_up [0] [0] 0 ok
  refine ⟨sumL_len _ _ _ _ rfl, ?_, u.1, small_of (small_E u.1.ok u.2)⟩
  rw [h, evB_cons, evB_nil, bit_0 ok]
  decide
theorem any_none {G : Gr} (ok : G.OK) : (anyL G 0 (vecL (List.replicate 17 1))).1 = 0 := by
  have e : vecL (List.replicate 17 1) = [0] := rfl
  rw [e]
  have e0 : G.edge 0 = 0 := Gr.edge_id (Gr.E_0 ok)
  have n0 : nt 0 = 1 := rfl
  have e1 : G.edge 1 = 1 := Gr.edge_id (Gr.E_1 ok)
  simp only [anyL, Gr.or, e0, n0, Gr.and, e1]
  rw [if_neg (by omega)]
  simp [Gr.ands, nt]
def longI (h0 : H) (c : Bool) (gid lid : Nat) (e want : Int) (lv : CV) (m : Nat) (f : Nat → CV) (h : H) : Prop :=
  f 2 = .bool c ∧ f 7 = .ptr gid 0 ∧ f 8 = .int .i64 e ∧ f 11 = .int .i64 want ∧ f 12 = lv ∧ f 13 = .ref lid 0 17 1 ∧ ∃ i : Nat, f 14 = .int .i64 (i : Nat) ∧ i ≤ 17 ∧ m = 17 - i ∧ Grows h0 h ∧ (∀ j, j < h0.next → h.get j = h0.get j) ∧ h0.next ≤ lid ∧ h.get lid = some (.cells (ints (List.replicate i 1 ++ List.replicate (17 - i) 0)))
set_option maxRecDepth 8000 in
theorem bitsMux_run (a b : Int) (c : Bool) : Runs E 6 [.int .i64 a, .int .i64 b, .bool c] ⟨0, .leaf⟩ fun v _ => v = .bool true := by
  refine Runs.ofX Tryd.func6 rfl rfl rfl rfl (fun _ => rfl) ?_
  simp [Tryd.f6]
  refine (awake_run (S := fun _ _ => False) (fun i _ => rfl) (fun _ _ q => q.elim)).mono fun v h1 ⟨hv, g1, _⟩ => ?_
  subst hv
  simp
  refine (new_mem g1.wf (S := fun _ _ => False) (fun _ _ q => q.elim)).mono fun v h2 ⟨g2, gid, hv, I2⟩ => ?_
  subst hv
  simp
  refine (m_input _ I2).mono fun v h3 ⟨g3, I3, hv⟩ => ?_
  subst hv
  simp
  refine (const_run I3.wf a 9).mono fun v h4 F4 => ?_
  obtain ⟨i4, rfl, n4, I4⟩ := I3.fresh1 F4
  simp
  refine (const_run I4.wf b 7).mono fun v h5 F5 => ?_
  obtain ⟨i5, rfl, n5, I5⟩ := I4.fresh1 F5
  have e9 : heldN 9 = 9 := rfl
  have e7 : heldN 7 = 7 := rfl
  have sw : Sv h5 (fun _ _ => False) := fun _ _ q => q.elim
  have hl9 : (constL a 9).length = 9 := constL_len a 9
  have hl7 : (constL b 7).length = 7 := constL_len b 7
  have sA := small_const a 9
  have sB := small_const b 7
  have ok1 : gr0.input.2.OK := I5.ok
  simp only [e9, e7] at I5
  have va := Vec.const ok1 a (show 1 ≤ 9 ∧ 9 ≤ 16 by omega)
  have vb := Vec.const ok1 b (show 1 ≤ 7 ∧ 7 ≤ 16 by omega)
  have eE : gr0.input.2.E gr0.input.1 := (Gr.input_up gr0_ok).2
  have eB : ∀ b, bitG gr0.input.2 [b] gr0.input.1 = b := by decide
  obtain ⟨c0, hc0⟩ : ∃ c0 : Bool, c0 = c := ⟨_, rfl⟩
  cases c
  all_goals
    simp [rtrim_u, ints_len', e9, e7, hl9, hl7]
    refine (vmux_run I5 (v1 := .ref i4 0 9 1) (v2 := .ref i5 0 7 1) (a := constL a 9) (b := constL b 7) (.inr ⟨i4, by rw [hl9], .inl (.inr ⟨rfl, rfl⟩)⟩) (.inr ⟨i5, by rw [hl7], .inr ⟨rfl, rfl⟩⟩) sA sB (c := gr0.input.1) (by decide)).mono fun v h6 ⟨g6, i6, hv, n6, I6⟩ => ?_
    subst hv
    simp
    have hV := muxG_up ok1 gr0.input.1 va vb
    have hL : (muxG gr0.input.2 gr0.input.1 (constL a 9) (constL b 7)).1.length = 9 := hV.2.len
    have hS := hV.2.small hV.1.ok
    have hN : ∀ x, valueL (evB (muxG gr0.input.2 gr0.input.1 (constL a 9) (constL b 7)).2 [x] (muxG gr0.input.2 gr0.input.1 (constL a 9) (constL b 7)).1) = if x then trimN a 9 else trimN b 7 := fun x => by
      rw [num_value hV.2, num_mux ok1 eE va vb (by decide), num_const ok1, num_const ok1, eB]
    have hok := hV.1.ok
    have hC : (muxG gr0.input.2 gr0.input.1 (constL a 9) (constL b 7)).2.l.length ≤ 60 := Nat.le_trans (muxG_cost _ va vb) (by decide)
    generalize muxG gr0.input.2 gr0.input.1 (constL a 9) (constL b 7) = R at I6 hV hL hS hN hok hC ⊢
    refine xX_loopI (N := 76) (fun _ => rfl) rfl (longI h6 c0 gid h6.next gr0.input.1 (if c0 then trimN a 9 else trimN b 7) (.ref i6 0 R.1.length 1)) 17 ?_ ?_
    · exact ⟨by rw [hc0]; rfl, rfl, rfl, by rw [hc0]; rfl, rfl, rfl, 0, rfl, by omega, rfl, ⟨by simp, H.wf_new I6.wf _, fun i hi hz => by simp [far hi, hz]⟩, fun i hi => by simp [far hi], by omega, by simp; rfl⟩
    · rintro m f h7 ⟨q2, q7, q8, q11, q12, q13, i, q14, hi, rfl, gr, fr, nl, hc⟩
      have gl := H.lt_next gr.wf hc
      by_cases d : i < 17
      · have w1 : IntKind.i64.wrap ((i : Int) + 1) = i + 1 := wrap64 (by omega) (by omega)
        have lz : (ints (List.replicate i 1 ++ List.replicate (17 - i) 0)).length = 17 := by simp [ints]; omega
        have d' : (i : Int) < 17 := by omega
        have d2 : i ≤ 16 := by omega
        simp [tabF, q2, q7, q8, q11, q12, q13, q14, d, d', d2, hc, far gl, lz, w1]
        refine ⟨17 - (i + 1), by omega, rfl, rfl, rfl, rfl, rfl, rfl, i + 1, rfl, by omega, rfl, gr.trans ⟨Nat.le_refl _, H.wf_put gr.wf gl _, fun j hj hz => ?_⟩, fun j hj => ?_, by omega, ?_⟩
        · rw [H.get_put, if_neg]
          · exact hz
          · intro e; rw [e, hc] at hz; cases hz
        · rw [H.get_put, if_neg (by omega)]; exact fr j hj
        · rw [H.get_put, if_pos rfl]
          congr 2
          obtain ⟨q, hq⟩ : ∃ q, 17 - i = q + 1 := ⟨16 - i, by omega⟩
          rw [hq, show 17 - (i + 1) = q by omega]
          rw [List.replicate_succ]
          simp only [ints, List.map_append, List.map_replicate, List.map_cons]
          exact long_set _ _ _ _
      · have c2 : i = 17 := by omega
        subst c2
        simp [tabF, q2, q7, q8, q11, q12, q13, q14, hL]
        have I7 := I6.fresh gr fr
        have hm : SlB (h7.new (.cells [.bool c0])) (.ref h7.next 0 1 1) [c0] := .inr ⟨h7.next, rfl, by simp [bools]⟩
        have I8 := I7.fresh (h' := h7.new (.cells [.bool c0])) ⟨by simp, H.wf_new I7.wf _, fun i hi hz => by simp [far hi, hz]⟩ (fun i hi => by simp [far hi])
        refine (eval_run I8 (ev := .ref i6 0 9 1) (es := R.1) hm (.inr ⟨i6, by rw [hL], .inl (.inl (.inr ⟨rfl, rfl⟩))⟩) hV.2.ne (by omega) (by simp) hS).mono fun v h9 F9 => ?_
        simp
        refine value_of (l := evB R.2 [c0] R.1) F9 (by rw [evB_len]; omega) ?_
        rw [hN]
        have I9 := I8.fresh F9.gr F9.fr
        simp
        have lR : R.2.l.length ≤ 60 := hC
        have aN := add_none hok (by omega) []
        refine (add_run I9 (v1 := .nils) (v2 := .ref h6.next 0 17 1) (a := []) (b := List.replicate 17 1) (.inl ⟨rfl, rfl⟩) (.inr ⟨h6.next, by simp, .inl (.inl (.inr ⟨by omega, hc⟩))⟩) (fun _ q => by cases q) (fun e he => by rw [(List.mem_replicate.1 he).2]; omega)).mono fun v h10 ⟨g10, i10, hv, n10, I10⟩ => ?_
        subst hv
        rw [aN.1]
        generalize addG R.2 [] (List.replicate 17 1) = A at *
        simp
        refine (eval_run I10 (mv := .nils) (ev := .ref i10 0 1 1) (model := []) (es := A.1) (.inl ⟨rfl, rfl⟩) (.inr ⟨i10, by rw [aN.1], .inr ⟨rfl, rfl⟩⟩) (by intro e; rw [e] at aN; simp at aN) (by omega) (by simp) aN.2.2.2).mono fun v h11 F11 => ?_
        simp
        refine value_of (l := evB A.2 [] A.1) F11 (by rw [evB_len]; omega) ?_
        rw [aN.2.1]
        have I11 := I10.fresh F11.gr F11.fr
        simp
        refine (some_run I11 (v := .ref h6.next 0 17 1) (l := List.replicate 17 1) (.inr ⟨h6.next, by simp, .inl (.inl (.inl (.inl (.inr ⟨by omega, hc⟩))))⟩) (fun e he => by rw [(List.mem_replicate.1 he).2]; omega)).mono fun v h12 ⟨g12, I12, hv⟩ => ?_
        subst hv
        rw [any_none aN.2.2.1.ok]
        simp
        refine (value_run I12.wf (v := .nils) (l := []) (.inl ⟨rfl, rfl⟩) (by simp)).mono fun r h13 ⟨hh, hr⟩ => ?_
        subst hh hr
        have v0 : valueL [] = 0 := rfl
        simp [v0]
end Go.Proofs.YtjlabjncojhjkaaDoor
