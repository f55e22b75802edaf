/- A part of the proof of a law of the given program: contracts of functions over the clean heap. -/
import Derived.Test.YtjlabjncojhjkaaDoorC6
namespace Go.Proofs.YtjlabjncojhjkaaDoor
open Go Go.Cv
theorem lookI_none {l : List (Int × Int)} {N : Nat} (hk : ∀ p ∈ l, p.1 < N) {k : Int} (h : (N : Int) ≤ k) : lookI l k 0 = none := by
  rcases e : lookI l k 0 with _ | r
  · rfl
  · have := hk _ (lookI_mem _ _ _ _ e)
    simp only at this; omega
theorem free_up {l : List (Int × Int)} {N : Nat} (hk : ∀ p ∈ l, p.1 < N) : ∀ d, free l (N + d) = free l N + d
  | 0 => rfl
  | d + 1 => by
    have := free_up hk d
    rw [show N + (d + 1) = (N + d) + 1 from rfl, free, this, lookI_none hk (by omega)]
    simp; omega
theorem Mk.OK.up {M : Mk} {N N' : Nat} (ok : M.OK N) (h : N ≤ N') : M.OK N' := by
  obtain ⟨d, rfl⟩ := Nat.exists_eq_add_of_le h
  refine ⟨ok.rng, fun p hp => ?_, ?_, ok.lim⟩
  · have := ok.key p hp; omega
  · rw [free_up fun p hp => (ok.key p hp).2]
    have := ok.cnt; omega
/-- A graph, its maker and a list of its edges. -/
structure GMI (h : H) (gid k eid : Nat) (G : Gr) (M : Mk) (es : List Int) : Prop where
  ex : ∃ Fg Fm : Nat → Prop, GraphAt h Fg gid G ∧ MakerAt h Fm k gid M ∧ (∀ i, Fg i → ¬ Fm i ∧ i ≠ eid ∧ i < h.next) ∧ (∀ i, Fm i → i ≠ eid ∧ i < h.next)
  wf : WFH h
  ok : G.OK
  mok : M.OK G.l.length
  el : h.get eid = some (.cells (ints es))
  ed : ∀ e ∈ es, G.E e
theorem GMI.eb {h : H} {gid k eid : Nat} {G : Gr} {M : Mk} {es : List Int} (I : GMI h gid k eid G M es) : ∀ e ∈ es, 0 ≤ e ∧ e < 400000 := fun e he => ⟨(I.ed e he).1, (I.ed e he).b I.ok⟩
theorem gm_and {h : H} {gid k eid : Nat} {G : Gr} {M : Mk} {es : List Int} (I : GMI h gid k eid G M es) {a b : Int} (ha : a ≤ 9223372036854775807) (hb : b ≤ 9223372036854775807) :
    Runs E 19 [.ptr gid 0, .int .i64 a, .int .i64 b] h fun v h' => Grows h h' ∧ GMI h' gid k eid (G.and a b).2 M es ∧ v = .int .i64 (G.and a b).1 := by
  obtain ⟨Fg, Fm, hG, hM, dg, dm⟩ := I.ex
  have up := (Gr.and_up I.ok a b).1
  refine (and_g hG I.wf I.ok ha hb).mono fun v h' ⟨P, hv⟩ => ⟨P.gr, ⟨⟨fun i => (Fg i ∨ h.next ≤ i) ∧ i < h'.next, Fm, P.at_.lt P.gr.wf, hM.keep I.wf fun i hi hF => P.fr i hi (fun q => (dg i q).1 hF), fun i hi => ⟨fun q => ?_, ?_, hi.2⟩, fun i q => ⟨(dm i q).1, Nat.lt_of_lt_of_le (dm i q).2 P.gr.nx⟩⟩, P.gr.wf, up.ok, I.mok.up up.len, ?_, fun e he => up.e (I.ed e he)⟩, hv⟩
  · rcases hi.1 with w | w
    · exact (dg i w).1 q
    · have := (dm i q).2; omega
  · have := H.lt_next I.wf I.el
    rcases hi.1 with w | w
    · exact (dg i w).2.1
    · omega
  · rw [P.fr _ (H.lt_next I.wf I.el) (fun q => (dg _ q).2.1 rfl)]; exact I.el
theorem gm_lit {h : H} {gid k eid : Nat} {G : Gr} {M : Mk} {es : List Int} (I : GMI h gid k eid G M es) {e : Int} (he : G.E e) :
    Runs E 15 [.ptr k 0, .int .i64 e] h fun v h' => Grows h h' ∧ ∃ M', GMI h' gid k eid G M' es ∧ M.To M' ∧ M'.v (e / 2) ≠ 0 ∧ (M.v (e / 2) ≠ 0 → M' = M) ∧ v = .int .i64 (if e % 2 = 1 then - M'.v (e / 2) else M'.v (e / 2)) := by
  obtain ⟨Fg, Fm, hG, hM, dg, dm⟩ := I.ex
  refine (mlit_run hG I.ok hM (fun i q => (dg i q).1) I.wf I.mok he).mono fun v h' ⟨M', P, p1, p2, p3, p4, p5⟩ => ⟨P.gr, M', ⟨⟨Fg, fun i => (Fm i ∨ h.next ≤ i) ∧ i < h'.next, hG.keep I.wf fun i hi hF => P.fr i hi (dg i hF).1, MakerAt.lt P.at_ P.gr.wf, fun i hi => ⟨fun q => ?_, (dg i hi).2.1, Nat.lt_of_lt_of_le (dg i hi).2.2 P.gr.nx⟩, fun i q => ⟨?_, q.2⟩⟩, P.gr.wf, I.ok, p2, ?_, I.ed⟩, p1, p3, p4, p5⟩
  · have := (dg i hi).2.2
    rcases q.1 with w | w
    · exact (dg i hi).1 w
    · omega
  · have := H.lt_next I.wf I.el
    rcases q.1 with w | w
    · exact (dm i w).1
    · omega
  · rw [P.fr _ (H.lt_next I.wf I.el) (fun q => (dm _ q).1 rfl)]; exact I.el
theorem gm_take {h : H} {gid k eid : Nat} {G : Gr} {M : Mk} {es : List Int} (I : GMI h gid k eid G M es) :
    Runs E 16 [.ptr k 0] h fun v h' => Grows h h' ∧ GMI h' gid k eid G { M with n := 0 } es ∧ ((v = .nils ∧ M.n = 0) ∨ ∃ nid, v = .ref nid 0 M.n 1) := by
  obtain ⟨Fg, Fm, hG, hM, dg, dm⟩ := I.ex
  refine (take_run hM I.wf).mono fun v h' ⟨P, hv⟩ => ⟨P.gr, ⟨⟨Fg, fun i => (Fm i ∨ h.next ≤ i) ∧ i < h'.next, hG.keep I.wf fun i hi hF => P.fr i hi (dg i hF).1, MakerAt.lt P.at_ P.gr.wf, fun i hi => ⟨fun q => ?_, (dg i hi).2.1, Nat.lt_of_lt_of_le (dg i hi).2.2 P.gr.nx⟩, fun i q => ⟨?_, q.2⟩⟩, P.gr.wf, I.ok, ⟨I.mok.rng, I.mok.key, I.mok.cnt, Nat.zero_le _⟩, ?_, I.ed⟩, hv⟩
  · have := (dg i hi).2.2
    rcases q.1 with w | w
    · exact (dg i hi).1 w
    · omega
  · have := H.lt_next I.wf I.el
    rcases q.1 with w | w
    · exact (dm i w).1
    · omega
  · rw [P.fr _ (H.lt_next I.wf I.el) (fun q => (dm _ q).1 rfl)]; exact I.el
theorem gm_vars {h : H} {gid k eid : Nat} {G : Gr} {M : Mk} {es : List Int} (I : GMI h gid k eid G M es) (K) (t) : uRuns E 17 [.ptr k 0] h K t = K (.int .i64 M.of.length) h := by
  obtain ⟨Fg, Fm, hG, hM, dg, dm⟩ := I.ex
  exact mvars_u hM I.wf K t
theorem gm_new {h0 h : H} {gid eid : Nat} {G : Gr} {es : List Int} (I : MadeI h0 gid eid G es h) : Runs E 14 [.ptr gid 0] h fun v h' => ∃ k, v = .ptr k 0 ∧ Grows h h' ∧ GMI h' gid k eid G ⟨[(0, 1)], 1⟩ es := by
  have wf := I.gr.wf
  have hp := I.ok.pos
  refine (mnew_run h wf gid).mono fun v h' ⟨k, hv, gr, hM, fr⟩ => ⟨k, hv, gr, ⟨⟨fun i => (h0.next ≤ i ∧ i ≠ eid) ∧ i < h.next, fun i => h.next ≤ i ∧ i < h'.next, (I.at_.lt wf).keep wf fun i hi _ => fr i hi, MakerAt.lt hM gr.wf, fun i q => ⟨fun w => by omega, q.1.2, Nat.lt_of_lt_of_le q.2 gr.nx⟩, fun i q => ⟨?_, q.2⟩⟩, gr.wf, I.ok, ⟨?_, ?_, ?_, ?_⟩, ?_, I.ed⟩⟩
  · have := H.lt_next wf I.el
    omega
  · simp
  · simp; omega
  · obtain ⟨d, hd⟩ := Nat.exists_eq_add_of_le hp
    rw [hd, free_up (N := 1) (by simp)]
    simp [free, lookI]
  · simp
  · rw [fr _ (H.lt_next wf I.el)]; exact I.el
theorem GMI.app {h : H} {gid k eid : Nat} {G : Gr} {M : Mk} {es : List Int} (I : GMI h gid k eid G M es) {e : Int} (he : G.E e) :
    GMI (((h.new (.cells [.int .i64 e])).del eid).new (.cells (ints es ++ [.int .i64 e]))) gid k (h.next + 1) G M (es ++ [e]) := by
  obtain ⟨Fg, Fm, hG, hM, dg, dm⟩ := I.ex
  have hk : ∀ i, i < h.next → i ≠ eid → (((h.new (.cells [.int .i64 e])).del eid).new (.cells (ints es ++ [.int .i64 e]))).get i = h.get i := by
    intro i hi ne
    simp [far hi, ne]
  refine ⟨⟨Fg, Fm, hG.keep I.wf fun i hi q => hk i hi (dg i q).2.1, hM.keep I.wf fun i hi q => hk i hi (dm i q).1, fun i q => ⟨(dg i q).1, ?_, ?_⟩, fun i q => ⟨?_, ?_⟩⟩, H.wf_new (H.wf_del (H.wf_new I.wf _) _) _, I.ok, I.mok, by simp [ints], fun x hx => ?_⟩
  · have := (dg i q).2.2; omega
  · have := (dg i q).2.2; simp; omega
  · have := (dm i q).2; omega
  · have := (dm i q).2; simp; omega
  · rcases List.mem_append.1 hx with hx | hx
    · exact I.ed x hx
    · simp at hx; subst hx; exact he
end Go.Proofs.YtjlabjncojhjkaaDoor
