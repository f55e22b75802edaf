/- A part of the proof of a law of the given program: contracts of functions over the clean heap. -/
import Derived.Test.YtjlabjncojhjkaaDoorG2b
namespace Go.Proofs.YtjlabjncojhjkaaDoor
open Go Go.Cv
def Gr.or (G : Gr) (a b : Int) : Int × Gr := (nt (G.and (nt (G.edge a)) (nt (G.edge b))).1, (G.and (nt (G.edge a)) (nt (G.edge b))).2)
def Gr.or2 (r s : Int × Gr) : Int × Gr := s.2.or r.1 s.1
def Gr.xor (G : Gr) (a b : Int) : Int × Gr :=
  Gr.or2 (G.and (G.edge a) (nt (G.edge b))) ((G.and (G.edge a) (nt (G.edge b))).2.and (nt (G.edge a)) (G.edge b))
def Gr.mux (G : Gr) (c a b : Int) : Int × Gr :=
  Gr.or2 (G.and (G.edge c) a) ((G.and (G.edge c) a).2.and (nt (G.edge c)) b)
theorem Gr.or_up {G : Gr} (ok : G.OK) (a b : Int) : G.Up (G.or a b).2 ∧ (G.or a b).2.E (G.or a b).1 :=
  ⟨(and_up ok _ _).1, nt_E (and_up ok _ _).2⟩
theorem Gr.or2_up {G : Gr} (ok : G.OK) (a b c d : Int) : G.Up (or2 (G.and a b) ((G.and a b).2.and c d)).2 ∧ (or2 (G.and a b) ((G.and a b).2.and c d)).2.E (or2 (G.and a b) ((G.and a b).2.and c d)).1 := by
  have h1 := and_up ok a b
  have h2 := and_up h1.1.ok c d
  have h3 := or_up h2.1.ok (G.and a b).1 ((G.and a b).2.and c d).1
  exact ⟨(h1.1.trans h2.1).trans h3.1, h3.2⟩
theorem Gr.xor_up {G : Gr} (ok : G.OK) (a b : Int) : G.Up (G.xor a b).2 ∧ (G.xor a b).2.E (G.xor a b).1 := or2_up ok _ _ _ _
theorem Gr.mux_up {G : Gr} (ok : G.OK) (c a b : Int) : G.Up (G.mux c a b).2 ∧ (G.mux c a b).2.E (G.mux c a b).1 := or2_up ok _ _ _ _
theorem or_g {h : H} {F : Nat → Prop} {gid : Nat} {G : Gr} (hG : GraphAt h F gid G) (wf : WFH h) (ok : G.OK) {a b : Int} (ha : a ≤ 9223372036854775807) (hb : b ≤ 9223372036854775807) :
    Runs E 45 [.ptr gid 0, .int .i64 a, .int .i64 b] h fun v h' => GPost h h' F gid (G.or a b).2 ∧ v = .int .i64 (G.or a b).1 := by
  have a1 := G.edge_E ok a
  have b1 := G.edge_E ok b
  have a2 := a1.b ok; have b2 := b1.b ok
  have a3 := (nt_E a1).b ok; have b3 := (nt_E b1).b ok
  have q1 := edge_g hG (e := a) ha
  have q2 := edge_g hG (e := b) hb
  have q3 := not_g a1.1 (by omega)
  have q4 := not_g b1.1 (by omega)
  refine (Runs.ofX Tryd.func45 rfl rfl rfl rfl (fun _ => rfl) ?_)
  simp [Tryd.f45, q1, q2, q3, q4]
  refine (and_g hG wf ok (by omega) (by omega)).mono fun v h1 q => ?_
  obtain ⟨q, rfl⟩ := q
  have u := Gr.and_up ok (nt (G.edge a)) (nt (G.edge b))
  have u2 := u.2.b u.1.ok
  have q5 := not_g u.2.1 (by omega)
  simp [q5, Gr.or]
  exact q
theorem or2_g {h h' h2 : H} {F : Nat → Prop} {gid : Nat} {G : Gr} (ok : G.OK) {a b c d : Int} (q : GPost h h' F gid (G.and a b).2) (q2 : GPost h' h2 (fun i => F i ∨ h.next ≤ i) gid ((G.and a b).2.and c d).2) :
    Runs E 45 [.ptr gid 0, .int .i64 (G.and a b).1, .int .i64 ((G.and a b).2.and c d).1] h2 fun v h' => GPost h h' F gid (Gr.or2 (G.and a b) ((G.and a b).2.and c d)).2 ∧ v = .int .i64 (Gr.or2 (G.and a b) ((G.and a b).2.and c d)).1 := by
  have u1 := Gr.and_up ok a b
  have u2 := Gr.and_up u1.1.ok c d
  have := u1.2.b u1.1.ok
  have := u2.2.b u2.1.ok
  have q3 := q.trans q2
  exact (or_g q3.at_ q3.gr.wf u2.1.ok (by omega) (by omega)).mono fun v h' w => ⟨q3.trans w.1, w.2⟩
theorem xor_g {h : H} {F : Nat → Prop} {gid : Nat} {G : Gr} (hG : GraphAt h F gid G) (wf : WFH h) (ok : G.OK) {a b : Int} (ha : a ≤ 9223372036854775807) (hb : b ≤ 9223372036854775807) :
    Runs E 44 [.ptr gid 0, .int .i64 a, .int .i64 b] h fun v h' => GPost h h' F gid (G.xor a b).2 ∧ v = .int .i64 (G.xor a b).1 := by
  have a1 := G.edge_E ok a
  have b1 := G.edge_E ok b
  have a2 := a1.b ok; have b2 := b1.b ok
  have a3 := (nt_E a1).b ok; have b3 := (nt_E b1).b ok
  have q1 := edge_g hG (e := a) ha
  have q2 := edge_g hG (e := b) hb
  have q3 := not_g a1.1 (by omega)
  have q4 := not_g b1.1 (by omega)
  refine (Runs.ofX Tryd.func44 rfl rfl rfl rfl (fun _ => rfl) ?_)
  simp [Tryd.f44, q1, q2, q3, q4]
  refine (and_g hG wf ok (by omega) (by omega)).mono fun v h1 q => ?_
  obtain ⟨q, rfl⟩ := q
  have u := Gr.and_up ok (G.edge a) (nt (G.edge b))
  simp [q3]
  refine (and_g q.at_ q.gr.wf u.1.ok (by omega) (by omega)).mono fun v h2 w => ?_
  obtain ⟨w, rfl⟩ := w
  simp
  refine (or2_g ok q w).mono fun v h3 x => ?_
  obtain ⟨x, rfl⟩ := x
  simp [Gr.xor]
  exact x
theorem mux_g {h : H} {F : Nat → Prop} {gid : Nat} {G : Gr} (hG : GraphAt h F gid G) (wf : WFH h) (ok : G.OK) {c a b : Int} (hc : c ≤ 9223372036854775807) (ha : a ≤ 9223372036854775807) (hb : b ≤ 9223372036854775807) :
    Runs E 56 [.ptr gid 0, .int .i64 c, .int .i64 a, .int .i64 b] h fun v h' => GPost h h' F gid (G.mux c a b).2 ∧ v = .int .i64 (G.mux c a b).1 := by
  have a1 := G.edge_E ok c
  have a2 := a1.b ok
  have a3 := (nt_E a1).b ok
  have q1 := edge_g hG (e := c) hc
  have q3 := not_g a1.1 (by omega)
  refine (Runs.ofX Tryd.func56 rfl rfl rfl rfl (fun _ => rfl) ?_)
  simp [Tryd.f56, q1, q3]
  refine (and_g hG wf ok (by omega) (by omega)).mono fun v h1 q => ?_
  obtain ⟨q, rfl⟩ := q
  have u := Gr.and_up ok (G.edge c) a
  simp [q3]
  refine (and_g q.at_ q.gr.wf u.1.ok (by omega) (by omega)).mono fun v h2 w => ?_
  obtain ⟨w, rfl⟩ := w
  simp
  refine (or2_g ok q w).mono fun v h3 x => ?_
  obtain ⟨x, rfl⟩ := x
  simp [Gr.mux]
  exact x
end Go.Proofs.YtjlabjncojhjkaaDoor
