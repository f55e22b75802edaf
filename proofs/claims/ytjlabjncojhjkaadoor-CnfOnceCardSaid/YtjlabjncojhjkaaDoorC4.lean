/- A part of the proof of a law of the given program: contracts of functions over the clean heap. -/
import Derived.Test.YtjlabjncojhjkaaDoorC3
namespace Go.Proofs.YtjlabjncojhjkaaDoor
open Go Go.Cv
theorem lookC_v (M : Mk) (ty : Ty) (a : Int) (hz : ty.zeroV = some (.int .i64 0)) : lookC false [.int .i64] ty (mapI M.of) (.int .i64 a) false = some (.int .i64 (M.v a)) := by
  unfold lookC Mk.v
  rw [findC_ints, if_pos (by simp [keyC, keyCells, cmpL, cmpC])]
  rcases lookI M.of a 0 with _ | ⟨i, v⟩ <;> simp [hz]
def needM (M : Mk) (N : Nat) : List Int → Nat
  | [] => 0
  | x :: _ => free M.of N * (N + 3) + (if M.v x = 0 then x.toNat + 1 else N + 3)
structure NeedI (h0 : H) (F : Nat → Prop) (k gid : Nat) (M0 : Mk) (N n0 : Nat) (tid : Nat) (s : List Int) (cs : List CV) (M : Mk) (h : H) : Prop where
  td : h.get tid = some (.cells cs)
  cs1 : cs.take s.length = ints s.reverse
  cs2 : s.length ≤ cs.length
  tn : h0.next ≤ tid
  mkr : MakerAt h (fun i => (F i ∨ h0.next ≤ i) ∧ i ≠ tid) k gid M
  gr : Grows h0 h
  fr : ∀ i, i < h0.next → ¬ F i → h.get i = h0.get i
  to : M0.To M
  ok : M.OK N
  same : M0.v n0 ≠ 0 → M = M0 ∧ (s = [] ∨ s = [(n0 : Int)])
  pw : s.Pairwise (· < ·)
  rng : ∀ x ∈ s, 0 ≤ x ∧ x < N
  un : ∀ x ∈ s.tail, M.v x = 0
  bot : if s = [] then M.v n0 ≠ 0 else s.getLast? = some (n0 : Int)
def needI (h0 : H) (F : Nat → Prop) (k gid : Nat) (M0 : Mk) (N n0 : Nat) (m : Nat) (f : Nat → CV) (h : H) : Prop :=
  f 0 = .ptr k 0 ∧ ∃ tid s cs M, f 4 = .ref tid 0 s.length 1 ∧ m = needM M N s ∧ NeedI h0 F k gid M0 N n0 tid s cs M h
theorem ints_len (l : List Int) : (ints l).length = l.length := by simp [ints]
theorem pw_len (N : Nat) : ∀ (s : List Int) (lo : Int), s.Pairwise (· < ·) → (∀ x ∈ s, lo ≤ x ∧ x < N) → lo ≤ N → (s.length : Int) ≤ N - lo
  | [], lo, _, _, h => by simp; omega
  | x :: r, lo, hp, hr, _ => by
    have h1 := hr x (by simp)
    have := pw_len N r (x + 1) (List.pairwise_cons.1 hp).2 (fun y hy => ⟨(List.pairwise_cons.1 hp).1 y hy, (hr y (List.mem_cons_of_mem _ hy)).2⟩) (by omega)
    simp only [List.length_cons]
    omega
section
variable {h0 : H} {F : Nat → Prop} {k gid : Nat} {M0 : Mk} {N n0 : Nat} {tid : Nat} {cs : List CV} {M : Mk} {h : H}
theorem NeedI.fin (I : NeedI h0 F k gid M0 N n0 tid [] cs M h) : ∃ M', MPost h0 h F k gid M' ∧ M0.To M' ∧ M'.OK N ∧ ¬ M'.v n0 = 0 ∧ (¬ M0.v n0 = 0 → M' = M0) :=
  ⟨M, ⟨I.gr, I.mkr.mono fun _ q => q.1, I.fr⟩, I.to, I.ok, by have := I.bot; simpa using this, fun q => (I.same q).1⟩
theorem NeedI.top {x : Int} {r : List Int} (I : NeedI h0 F k gid M0 N n0 tid (x :: r) cs M h) : ∀ hh : r.length < cs.length, cs[r.length]'hh = .int .i64 x := by
  intro hh
  have := congrArg (fun l => l[r.length]?) I.cs1
  simp only [List.length_cons, List.reverse_cons, ints, List.map_append] at this
  rw [List.getElem?_take, if_pos (by omega), List.getElem?_append_right (by simp)] at this
  simpa [hh] using this
theorem NeedI.pop {x : Int} {r : List Int} (I : NeedI h0 F k gid M0 N n0 tid (x :: r) cs M h) (hx : M.v x ≠ 0) : NeedI h0 F k gid M0 N n0 tid r cs M h ∧ needM M N r < needM M N (x :: r) := by
  have hu : ∀ y ∈ r, M.v y = 0 := by simpa using I.un
  have hp := List.pairwise_cons.1 I.pw
  have hc := I.cs2
  simp only [List.length_cons] at hc
  refine ⟨⟨I.td, ?_, by omega, I.tn, I.mkr, I.gr, I.fr, I.to, I.ok, fun q => ⟨(I.same q).1, ?_⟩, hp.2, fun y hy => I.rng y (List.mem_cons_of_mem _ hy), fun y hy => hu y (List.mem_of_mem_tail hy), ?_⟩, ?_⟩
  · have e := I.cs1
    simp only [List.length_cons] at e
    have : List.take r.length cs = List.take r.length (List.take (r.length + 1) cs) := by rw [List.take_take, Nat.min_eq_left (by omega)]
    rw [this, e]
    simp only [List.reverse_cons, ints, List.map_append]
    exact List.take_left' (by simp)
  · rcases (I.same q).2 with w | w
    · cases w
    · left; simpa using congrArg List.tail w
  · have := I.bot
    rcases r with _ | ⟨y, r⟩
    · simp at this ⊢; subst this; exact hx
    · simpa using this
  · rcases r with _ | ⟨y, r⟩
    · simp [needM]; split <;> omega
    · have h1 := hu y (by simp)
      have h2 := I.rng y (by simp)
      simp only [needM, h1, hx, if_true, if_false]
      omega
theorem NeedI.push {x c : Int} {r : List Int} (I : NeedI h0 F k gid M0 N n0 tid (x :: r) cs M h) (hx : M.v x = 0) (hc : M.v c = 0) (c0 : 0 ≤ c) (c1 : c < x) :
    NeedI h0 F k gid M0 N n0 (h.next + 1) (c :: x :: r) (List.take (r.length + 1) cs ++ [.int .i64 c]) M (((h.new (.cells [.int .i64 c])).del tid).new (.cells (List.take (r.length + 1) cs ++ [.int .i64 c]))) ∧ needM M N (c :: x :: r) < needM M N (x :: r) := by
  have hn := I.gr.nx
  have ht := H.lt_next I.gr.wf I.td
  have wf := I.gr.wf
  have hu : ∀ y ∈ r, M.v y = 0 := by simpa using I.un
  have hr := I.rng x (by simp)
  have hcs := I.cs1
  have hc2 := I.cs2
  simp only [List.length_cons] at hc2 hcs
  have hl : (List.take (r.length + 1) cs).length = r.length + 1 := by rw [List.length_take]; omega
  have wf1 : WFH (((h.new (.cells [.int .i64 c])).del tid).new (.cells (List.take (r.length + 1) cs ++ [.int .i64 c]))) := H.wf_new (H.wf_del (H.wf_new wf _) _) _
  refine ⟨⟨by simp, ?_, by simp [hl], by omega, ?_, ⟨by simp; omega, wf1, fun i hi hz => ?_⟩, fun i hi hF => ?_, I.to, I.ok, fun q => ?_, ?_, ?_, ?_, ?_⟩, ?_⟩
  · rw [List.take_of_length_le (by simp [hl]), hcs]
    simp [ints]
  · refine ((I.mkr.lt wf).keep wf fun i hi hF => ?_).mono fun i hi => ⟨hi.1.1, by omega⟩
    have := hF.1.2
    simp [far hi, this]
  · have h2 := I.gr.no i hi hz
    simp [far (Nat.lt_of_lt_of_le hi hn), h2]
  · have h2 := I.fr i hi hF
    have := I.tn
    simp [far (Nat.lt_of_lt_of_le hi hn), h2]
    intro; omega
  · obtain ⟨rfl, w⟩ := I.same q
    rcases w with w | w
    · cases w
    · simp at w; rw [w.1] at hx; exact absurd hx q
  · refine List.pairwise_cons.2 ⟨fun y hy => ?_, I.pw⟩
    rcases List.mem_cons.1 hy with rfl | hy
    · exact c1
    · have := (List.pairwise_cons.1 I.pw).1 y hy; omega
  · intro y hy
    rcases List.mem_cons.1 hy with rfl | hy
    · omega
    · exact I.rng y hy
  · intro y hy
    simp only [List.tail_cons] at hy
    rcases List.mem_cons.1 hy with rfl | hy
    · exact hx
    · exact hu y hy
  · have := I.bot
    simpa using this
  · simp only [needM, hx, hc, if_true]
    omega
theorem NeedI.put {x : Nat} {r : List Int} {h2 : H} {and : Bool} (I : NeedI h0 F k gid M0 N n0 tid ((x : Int) :: r) cs M h) (hx : M.v x = 0) (P : MPost h h2 (fun i => (F i ∨ h0.next ≤ i) ∧ i ≠ tid) k gid (M.put x and)) :
    NeedI h0 F k gid M0 N n0 tid ((x : Int) :: r) cs (M.put x and) h2 ∧ needM (M.put x and) N ((x : Int) :: r) < needM M N ((x : Int) :: r) := by
  have hn := I.gr.nx
  have ht := H.lt_next I.gr.wf I.td
  have hr := I.rng x (by simp)
  have hu : ∀ y ∈ r, M.v y = 0 := by simpa using I.un
  have ok := I.ok
  obtain ⟨p1, p2, p3⟩ := Mk.put_ok ok (n := x) (by omega) hx and
  have pv := fun y => Mk.put_v ok hx and y
  have hp := List.pairwise_cons.1 I.pw
  refine ⟨⟨by rw [P.fr _ ht (fun q => q.2 rfl)]; exact I.td, I.cs1, I.cs2, I.tn, P.at_.mono fun i hi => ?_, I.gr.trans P.gr, fun i hi hF => ?_, I.to.trans p2, p1, fun q => ?_, I.pw, I.rng, fun y hy => ?_, ?_⟩, ?_⟩
  · rcases hi with hi | hi
    · exact hi
    · exact ⟨.inr (by omega), by omega⟩
  · rw [P.fr _ (Nat.lt_of_lt_of_le hi hn) (fun q => q.1.elim hF (fun w => by omega)), I.fr i hi hF]
  · obtain ⟨rfl, w⟩ := I.same q
    rcases w with w | w
    · cases w
    · simp at w; rw [w.1] at hx; exact absurd hx q
  · simp only [List.tail_cons] at hy
    have := hp.1 y hy
    rw [pv, if_neg (by omega)]; exact hu y hy
  · have := I.bot
    simpa using this
  · have e1 := pv x
    rw [if_pos rfl] at e1
    have e2 : (M.put x and).v x ≠ 0 := by rw [e1]; omega
    have e3 : free M.of N * (N + 3) = free (M.put (↑x) and).of N * (N + 3) + (N + 3) := by rw [← p3, Nat.add_mul, Nat.one_mul]
    simp only [needM, hx, e2, if_true, if_false]
    omega
end
set_option maxRecDepth 8000 in
/-- cnf.need -/
theorem need_run {h : H} {F Fg : Nat → Prop} {k gid : Nat} {M : Mk} {G : Gr} (hG : GraphAt h Fg gid G) (gok : G.OK) (hM : MakerAt h F k gid M) (dis : ∀ i, Fg i → ¬ F i) (wf : WFH h) (ok : M.OK G.l.length) {n : Nat} (hn : n < G.l.length) :
    Runs E 48 [.ptr k 0, .int .i64 n] h fun v h' => ∃ M', MPost h h' F k gid M' ∧ M.To M' ∧ M'.OK G.l.length ∧ M'.v n ≠ 0 ∧ (M.v n ≠ 0 → M' = M) := by
  have htop := gok.top
  refine Runs.ofX Tryd.func48 rfl rfl rfl rfl (fun _ => rfl) ?_
  simp [Tryd.f48]
  refine xX_loopI (N := 82) (fun _ => rfl) rfl (needI h F k gid M G.l.length n) (needM M G.l.length [(n : Int)]) ?_ ?_
  · refine ⟨rfl, h.next, [(n : Int)], [.int .i64 n], M, rfl, rfl, ?_⟩
    refine ⟨by simp, rfl, by simp, Nat.le_refl _, ?_, ⟨by simp, H.wf_new wf _, fun i hi hx => by simp [far hi, hx]⟩, fun i hi _ => by simp [far hi], .refl _, ok, fun _ => ⟨rfl, .inr rfl⟩, by simp, by simp; omega, by simp, by simp⟩
    refine ((hM.lt wf).keep wf fun i hi _ => by simp [far hi]).mono fun i hi => ⟨.inl hi.1, by omega⟩
  · rintro m f h1 ⟨f0, tid, s, cs, M1, f4, rfl, I⟩
    have wf1 := I.gr.wf
    have hG1 : GraphAt h1 Fg gid G := hG.keep wf fun i hi hF => I.fr i hi (dis i hF)
    obtain ⟨oid, nv, k1, k2, k3, n1, ⟨f1, f1'⟩, f2, f2'⟩ := I.mkr.ex
    have g1 := H.lt_next wf1 k1
    have g2 := H.lt_next wf1 k2
    have g3 := H.lt_next wf1 I.td
    rcases s with _ | ⟨x, r⟩
    · simp only [List.length_nil] at f4
      simp [tabF, f0, f4, resX_normal]
      exact I.fin
    · obtain ⟨x0, x1⟩ := I.rng x (by simp)
      have rl : r.length ≤ 1000000 := by
        have := pw_len G.l.length (x :: r) 0 I.pw I.rng (by omega)
        simp only [List.length_cons] at this
        omega
      have e1 : IntKind.i64.wrap (r.length : Int) = r.length := wrap64 (by omega) (by omega)
      have e3 : r.length + 1 ≤ cs.length := I.cs2
      have e4 : r.length < cs.length := e3
      have e5 : (r.length : Int) < r.length + 1 := by omega
      have e6 : (r.length : Int) ≤ r.length + 1 := by omega
      have e2 : ∀ hh : r.length < cs.length, cs[r.length]'hh = .int .i64 x := I.top
      simp only [List.length_cons] at f4
      obtain ⟨n', rfl⟩ := Int.eq_ofNat_of_zero_le x0
      have hn' : n' < G.l.length := by omega
      obtain ⟨p, hp⟩ : ∃ p, G.l[n']? = some p := ⟨_, List.getElem?_eq_getElem hn'⟩
      have hnode := node_u hG1 wf1 gok hp
      by_cases c1 : M1.v n' = 0
      · by_cases c2 : 1 ≤ n' ∧ p ≠ (-1, -1)
        · have hnd := (gok.nd _ _ hp).resolve_left c2.2
          have d1 : p.1.tdiv 2 = p.1 / 2 := Int.tdiv_eq_ediv_of_nonneg (by omega)
          have d2 : p.2.tdiv 2 = p.2 / 2 := Int.tdiv_eq_ediv_of_nonneg (by omega)
          have d3 : IntKind.i64.wrap (p.1 / 2) = p.1 / 2 := wrap64 (by omega) (by omega)
          have d4 : IntKind.i64.wrap (p.2 / 2) = p.2 / 2 := wrap64 (by omega) (by omega)
          rw [if_pos c2] at hnode
          have b1 : (r.length + 1 + 1) * 8 ≤ 140737488355328 := Nat.le_trans (Nat.mul_le_mul_right 8 (Nat.add_le_add_right (Nat.add_le_add_right rl 1) 1)) (by decide)
          have b2 : r.length ≤ 140737488355326 := Nat.le_trans rl (by decide)
          have hfr : ∀ i, i < h1.next → (F i ∨ h.next ≤ i) → True := fun _ _ _ => trivial
          by_cases c3 : M1.v (p.1 / 2) = 0
          · simp [tabF, f0, f4, k1, k2, far g1, far g2, far g3, I.td, e1, e2, e3, e4, e5, lookC_v, Ty.zeroV, c1, hnode, d1, d2, d3, d4, c3]
            have P := I.push c1 c3 (by omega) (by omega)
            exact ⟨⟨b1, b2⟩, _, P.2, rfl, _, _, _, _, rfl, rfl, P.1⟩
          · by_cases c4 : M1.v (p.2 / 2) = 0
            · simp [tabF, f0, f4, k1, k2, far g1, far g2, far g3, I.td, e1, e2, e3, e4, e5, lookC_v, Ty.zeroV, c1, hnode, d1, d2, d3, d4, c3, c4]
              have P := I.push c1 c4 (by omega) (by omega)
              exact ⟨⟨b1, b2⟩, _, P.2, rfl, _, _, _, _, rfl, rfl, P.1⟩
            · simp [tabF, f0, f4, k1, k2, far g1, far g2, far g3, I.td, e1, e2, e3, e4, e5, lookC_v, Ty.zeroV, c1, hnode, d1, d2, d3, d4, c3, c4]
              refine (mput_run I.mkr wf1 I.ok htop hn' c1 (fun _ => by omega)).mono fun v h2 P => ?_
              simp
              have P := I.put c1 P
              exact ⟨_, P.2, rfl, _, _, _, _, rfl, rfl, P.1⟩
        · rw [if_neg c2] at hnode
          simp [tabF, f0, f4, k1, k2, far g1, far g2, far g3, I.td, e1, e2, e3, e4, e5, lookC_v, Ty.zeroV, c1, hnode]
          refine (mput_run I.mkr wf1 I.ok htop hn' c1 (fun w => by cases w)).mono fun v h2 P => ?_
          simp
          have P := I.put c1 P
          exact ⟨_, P.2, rfl, _, _, _, _, rfl, rfl, P.1⟩
      · simp [tabF, f0, f4, k1, k2, far g1, far g2, far g3, I.td, e1, e2, e3, e4, e5, lookC_v, Ty.zeroV, c1, sliceC, boundC, e6]
        have P := I.pop c1
        exact ⟨_, P.2, rfl, _, _, _, _, rfl, rfl, P.1⟩
end Go.Proofs.YtjlabjncojhjkaaDoor
