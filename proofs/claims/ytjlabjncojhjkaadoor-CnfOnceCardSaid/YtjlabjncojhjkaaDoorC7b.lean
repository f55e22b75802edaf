/- A part of the proof of a law of the given program: contracts of functions over the clean heap. -/
import Derived.Test.YtjlabjncojhjkaaDoorC7
namespace Go.Proofs.YtjlabjncojhjkaaDoor
open Go Go.Cv
/-- A graph, its maker, a list of its edges, and other objects (Fo). -/
structure GMO (h : H) (Fo : Nat → Prop) (gid k eid : Nat) (G : Gr) (M : Mk) (es : List Int) : Prop where
  ex : ∃ Fg Fm : Nat → Prop, GraphAt h Fg gid G ∧ MakerAt h Fm k gid M ∧ (∀ i, Fg i → ¬ Fm i ∧ i ≠ eid ∧ ¬ Fo i ∧ i < h.next) ∧ (∀ i, Fm i → i ≠ eid ∧ ¬ Fo i ∧ i < h.next)
  fo : ∀ i, Fo i → i ≠ eid ∧ i < h.next
  wf : WFH h
  ok : G.OK
  mok : M.OK G.l.length
  el : h.get eid = some (.cells (ints es))
  ed : ∀ e ∈ es, G.E e
theorem GMI.o {h : H} {gid k eid : Nat} {G : Gr} {M : Mk} {es : List Int} (I : GMI h gid k eid G M es) : GMO h (fun _ => False) gid k eid G M es := by
  obtain ⟨Fg, Fm, hG, hM, dg, dm⟩ := I.ex
  exact ⟨⟨Fg, Fm, hG, hM, fun i q => ⟨(dg i q).1, (dg i q).2.1, fun w => w, (dg i q).2.2⟩, fun i q => ⟨(dm i q).1, fun w => w, (dm i q).2⟩⟩, fun i q => q.elim, I.wf, I.ok, I.mok, I.el, I.ed⟩
section
variable {h : H} {Fo : Nat → Prop} {gid k eid : Nat} {G : Gr} {M : Mk} {es : List Int}
theorem GMO.eb (I : GMO h Fo gid k eid G M es) : ∀ e ∈ es, 0 ≤ e ∧ e < 400000 := fun e he => ⟨(I.ed e he).1, (I.ed e he).b I.ok⟩
/-- Other objects come and go. -/
theorem GMO.turn (I : GMO h Fo gid k eid G M es) {h' : H} {Fo' : Nat → Prop} (wf' : WFH h') (nx : h.next ≤ h'.next) (hk : ∀ i, i < h.next → ¬ Fo i → h'.get i = h.get i) (hf : ∀ i, Fo' i → (Fo i ∨ h.next ≤ i) ∧ i < h'.next) : GMO h' Fo' gid k eid G M es := by
  obtain ⟨Fg, Fm, hG, hM, dg, dm⟩ := I.ex
  have e0 := H.lt_next I.wf I.el
  refine ⟨⟨Fg, Fm, hG.keep I.wf fun i hi q => hk i hi (dg i q).2.2.1, hM.keep I.wf fun i hi q => hk i hi (dm i q).2.1, fun i q => ⟨(dg i q).1, (dg i q).2.1, fun w => ?_, Nat.lt_of_lt_of_le (dg i q).2.2.2 nx⟩, fun i q => ⟨(dm i q).1, fun w => ?_, Nat.lt_of_lt_of_le (dm i q).2.2 nx⟩⟩, fun i q => ⟨?_, (hf i q).2⟩, wf', I.ok, I.mok, ?_, I.ed⟩
  · have := (dg i q).2.2.2
    rcases (hf i w).1 with x | x
    · exact (dg i q).2.2.1 x
    · omega
  · have := (dm i q).2.2
    rcases (hf i w).1 with x | x
    · exact (dm i q).2.1 x
    · omega
  · rcases (hf i q).1 with x | x
    · exact (I.fo i x).1
    · omega
  · rw [hk eid e0 fun w => (I.fo _ w).1 rfl]; exact I.el
theorem go_lit (I : GMO h Fo gid k eid G M es) {e : Int} (he : G.E e) :
    Runs E 15 [.ptr k 0, .int .i64 e] h fun v h' => Grows h h' ∧ (∀ i, Fo i → h'.get i = h.get i) ∧ ∃ M', GMO h' Fo gid k eid G M' es ∧ M.To M' ∧ M'.v (e / 2) ≠ 0 ∧ (M.v (e / 2) ≠ 0 → M' = M) ∧ v = .int .i64 (if e % 2 = 1 then - M'.v (e / 2) else M'.v (e / 2)) := by
  obtain ⟨Fg, Fm, hG, hM, dg, dm⟩ := I.ex
  refine (mlit_run hG I.ok hM (fun i q => (dg i q).1) I.wf I.mok he).mono fun v h' ⟨M', P, p1, p2, p3, p4, p5⟩ => ⟨P.gr, fun i q => P.fr i (I.fo i q).2 (fun w => (dm i w).2.1 q), M', ⟨⟨Fg, fun i => (Fm i ∨ h.next ≤ i) ∧ i < h'.next, hG.keep I.wf fun i hi hF => P.fr i hi (dg i hF).1, MakerAt.lt P.at_ P.gr.wf, fun i hi => ⟨fun q => ?_, (dg i hi).2.1, (dg i hi).2.2.1, Nat.lt_of_lt_of_le (dg i hi).2.2.2 P.gr.nx⟩, fun i q => ⟨?_, fun w => ?_, q.2⟩⟩, fun i q => ⟨(I.fo i q).1, Nat.lt_of_lt_of_le (I.fo i q).2 P.gr.nx⟩, P.gr.wf, I.ok, p2, ?_, I.ed⟩, p1, p3, p4, p5⟩
  · have := (dg i hi).2.2.2
    rcases q.1 with w | w
    · exact (dg i hi).1 w
    · omega
  · have := H.lt_next I.wf I.el
    rcases q.1 with w | w
    · exact (dm i w).1
    · omega
  · have := (I.fo i w).2
    rcases q.1 with x | x
    · exact (dm i x).2.1 w
    · omega
  · rw [P.fr _ (H.lt_next I.wf I.el) (fun q => (dm _ q).1 rfl)]; exact I.el
theorem go_take (I : GMO h Fo gid k eid G M es) :
    Runs E 16 [.ptr k 0] h fun v h' => Grows h h' ∧ (∀ i, Fo i → h'.get i = h.get i) ∧ GMO h' Fo gid k eid G { M with n := 0 } es ∧ ((v = .nils ∧ M.n = 0) ∨ ∃ nid, v = .ref nid 0 M.n 1) := by
  obtain ⟨Fg, Fm, hG, hM, dg, dm⟩ := I.ex
  refine (take_run hM I.wf).mono fun v h' ⟨P, hv⟩ => ⟨P.gr, fun i q => P.fr i (I.fo i q).2 (fun w => (dm i w).2.1 q), ⟨⟨Fg, fun i => (Fm i ∨ h.next ≤ i) ∧ i < h'.next, hG.keep I.wf fun i hi hF => P.fr i hi (dg i hF).1, MakerAt.lt P.at_ P.gr.wf, fun i hi => ⟨fun q => ?_, (dg i hi).2.1, (dg i hi).2.2.1, Nat.lt_of_lt_of_le (dg i hi).2.2.2 P.gr.nx⟩, fun i q => ⟨?_, fun w => ?_, q.2⟩⟩, fun i q => ⟨(I.fo i q).1, Nat.lt_of_lt_of_le (I.fo i q).2 P.gr.nx⟩, P.gr.wf, I.ok, ⟨I.mok.rng, I.mok.key, I.mok.cnt, Nat.zero_le _⟩, ?_, I.ed⟩, hv⟩
  · have := (dg i hi).2.2.2
    rcases q.1 with w | w
    · exact (dg i hi).1 w
    · omega
  · have := H.lt_next I.wf I.el
    rcases q.1 with w | w
    · exact (dm i w).1
    · omega
  · have := (I.fo i w).2
    rcases q.1 with x | x
    · exact (dm i x).2.1 w
    · omega
  · rw [P.fr _ (H.lt_next I.wf I.el) (fun q => (dm _ q).1 rfl)]; exact I.el
theorem go_vars (I : GMO h Fo gid k eid G M es) (K) (t) : uRuns E 17 [.ptr k 0] h K t = K (.int .i64 M.of.length) h := by
  obtain ⟨Fg, Fm, hG, hM, dg, dm⟩ := I.ex
  exact mvars_u hM I.wf K t
end
end Go.Proofs.YtjlabjncojhjkaaDoor
