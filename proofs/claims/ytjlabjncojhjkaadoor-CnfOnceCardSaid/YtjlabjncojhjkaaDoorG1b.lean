/- A part of the proof of a law of the given program: contracts of functions over the clean heap. -/
import Derived.Test.YtjlabjncojhjkaaDoorG1a
namespace Go.Proofs.YtjlabjncojhjkaaDoor
open Go Go.Cv
/-- graph.put over a graph. -/
theorem put_run {h : H} {F : Nat → Prop} {gid : Nat} {G : Gr} (hG : GraphAt h F gid G) (wf : WFH h) (hn : G.l.length < 200000) (a b : Int) :
    Runs E 50 [.ptr gid 0, .agg [.int .i64 a, .int .i64 b]] h fun v h' => Grows h h' ∧ v = .int .i64 (2 * G.l.length) ∧ GraphAt h' (fun i => F i ∨ h.next ≤ i) gid { G with l := G.l ++ [(a, b)] } ∧ ∀ i, i < h.next → ¬ F i → h'.get i = h.get i := by
  obtain ⟨lid, mid, insv, h1, h2, h3, h4, n1, n2, n3, f1, f2, f3⟩ := hG.ex
  have m1 := H.lt_next wf h3
  have q1 := H.lt_next wf h1
  refine (Runs.grows E_ok E_mix (put_u h1 h2 (cells2_len _) hn wf n1) wf).mono fun v h' hh => ?_
  obtain ⟨gr, rfl, ⟨lid', l1, l2, l3, l4⟩, fr⟩ := hh
  refine ⟨gr, rfl, ⟨lid', mid, insv, by simpa using l4, by rw [cells2_snoc]; exact l3, by rw [fr mid m1 (Ne.symm n2) (Ne.symm n3)]; exact h3, ?_, by omega, n2, by omega, .inl f1, .inr l1, .inl f3⟩, fun i hi hF => fr i hi (fun e => hF (e ▸ f1)) (fun e => hF (e ▸ f2))⟩
  rcases h4 with h4 | ⟨iid, e1, e2, e3, e4, e5, e6⟩
  · exact .inl h4
  · have := H.lt_next wf e2
    exact .inr ⟨iid, e1, by rw [fr iid this e4 e5]; exact e2, .inl e3, e4, by omega, e6⟩
theorem input_run {h : H} {F : Nat → Prop} {gid : Nat} {G : Gr} (hG : GraphAt h F gid G) (wf : WFH h) (h0 : 0 < G.l.length) (hn : G.l.length < 200000) (hb : G.ins.length ≤ 2000000) :
    Runs E 28 [.ptr gid 0] h fun v h' => Grows h h' ∧ v = .int .i64 (2 * G.l.length) ∧ GraphAt h' (fun i => F i ∨ h.next ≤ i) gid { G with l := G.l ++ [(-1, -1)], ins := G.ins ++ [2 * (G.l.length : Int)] } ∧ ∀ i, i < h.next → ¬ F i → h'.get i = h.get i := by
  refine (Runs.grows E_ok E_mix ?_ wf)
  refine (Runs.ofX Tryd.func28 rfl rfl rfl rfl (fun _ => rfl) ?_)
  simp [Tryd.f28]
  refine (put_run hG wf hn (-1) (-1)).mono fun v h1 hh => ?_
  obtain ⟨gr, rfl, hG1, fr⟩ := hh
  obtain ⟨lid, mid, insv, k1, k2, k3, k4, n1, n2, n3, f1, f2, f3⟩ := hG1.ex
  have g1 := H.lt_next gr.wf k1
  have hp : (0 : Int) < 2 * G.l.length := by omega
  have hi : G.ins.length ≤ 2000000 := hb
  rcases k4 with ⟨rfl, he⟩ | ⟨iid, rfl, e2, e3, e4, e5, e6⟩
  · simp only at he
    simp [hp, k1, far g1]
    refine ⟨⟨lid, mid, .ref (h1.next + 1) 0 1 1, ?_⟩, fun i hi hF => ?_⟩
    · have g2 := H.lt_next gr.wf k2
      have g3 := H.lt_next gr.wf k3
      simp [n1, n2, n3, Ne.symm n1, Ne.symm n2, Ne.symm n3, far g1, far g2, far g3, k2, k3, InsAt, he, ints, f1, f2, f3, Nat.add_assoc]
      have := gr.nx
      omega
    · have hi' := Nat.lt_of_lt_of_le hi gr.nx
      have : i ≠ gid := fun e => (e ▸ f1).elim hF (by omega)
      simp [this, far hi', fr i hi hF, Nat.add_assoc]
  · have g4 := H.lt_next gr.wf e2
    simp only at e2
    have b1 : (G.ins.length + 1) * 8 ≤ 140737488355328 := by omega
    have b2 : G.ins.length ≤ 140737488355327 := by omega
    have b3 : List.take G.ins.length (List.map (fun n => CV.int IntKind.i64 n) G.ins) = List.map (fun n => CV.int IntKind.i64 n) G.ins := List.take_of_length_le (by simp)
    have g2 := H.lt_next gr.wf k2
    have g3 := H.lt_next gr.wf k3
    simp [hp, k1, far g1, far g4, e2, ints, b1, b2, b3, Ne.symm e4]
    refine ⟨⟨lid, mid, .ref (h1.next + 1) 0 (G.ins.length + 1) 1, ?_⟩, fun i hi hF => ?_⟩
    · simp [n1, n2, n3, Ne.symm n1, Ne.symm n2, Ne.symm n3, far g1, far g2, far g3, k2, k3, InsAt, ints, f1, f2, f3, Nat.add_assoc, e4, e5, e6, Ne.symm e4, Ne.symm e5, Ne.symm e6]
      have := gr.nx
      omega
    · have hi' := Nat.lt_of_lt_of_le hi gr.nx
      have t1 : i ≠ gid := fun e => (e ▸ f1).elim hF (by omega)
      have t2 : i ≠ iid := fun e => (e ▸ e3).elim hF (by omega)
      simp [t1, t2, far hi', fr i hi hF, Nat.add_assoc]
end Go.Proofs.YtjlabjncojhjkaaDoor
