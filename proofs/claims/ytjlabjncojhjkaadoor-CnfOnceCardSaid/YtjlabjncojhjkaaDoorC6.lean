/- A part of the proof of a law of the given program: contracts of functions over the clean heap. -/
import Derived.Test.YtjlabjncojhjkaaDoorC5
namespace Go.Proofs.YtjlabjncojhjkaaDoor
open Go Go.Cv
theorem atL_E {G : Gr} {l : List Int} (h0 : l ≠ []) (hb : ∀ e ∈ l, G.E e) (n : Int) : G.E (atL l n) := by
  have hp : 0 < l.length := List.length_pos_iff.2 h0
  unfold atL
  have j1 := Int.emod_lt_of_pos (max n 0 / 2) (show 0 < (l.length : Int) by omega)
  have j0 := Int.emod_nonneg (max n 0 / 2) (show (l.length : Int) ≠ 0 by omega)
  obtain ⟨j, hj⟩ := Int.eq_ofNat_of_zero_le j0
  simp only [hj, Int.toNat_natCast]
  have j2 : j < l.length := by omega
  have he : G.E (l.getD j 0) := by
    rw [List.getD_eq_getElem?_getD, List.getElem?_eq_getElem j2]
    exact hb _ (List.getElem_mem _)
  split
  · exact nt_E he
  · exact he
structure Act where
  k : Int
  a : Int
  b : Int
  c : Int
def Act.fits (x : Act) : Prop := x.a ≤ 9223372036854775807 ∧ x.b ≤ 9223372036854775807
def actC (x : Act) : List CV := [.int .i64 x.k, .int .i64 x.a, .int .i64 x.b, .int .i64 x.c]
/-- A graph, and a list of its edges in object eid, both in objects that came since. -/
structure MadeI (h0 : H) (gid eid : Nat) (G : Gr) (es : List Int) (h : H) : Prop where
  at_ : GraphAt h (fun j => h0.next ≤ j ∧ j ≠ eid) gid G
  ok : G.OK
  el : h.get eid = some (.cells (ints es))
  en : h0.next ≤ eid
  gr : Grows h0 h
  fr : ∀ i, i < h0.next → h.get i = h0.get i
  ed : ∀ e ∈ es, G.E e
theorem MadeI.eb {h0 h : H} {gid eid : Nat} {G : Gr} {es : List Int} (I : MadeI h0 gid eid G es h) : ∀ e ∈ es, 0 ≤ e ∧ e < 400000 := fun e he => ⟨(I.ed e he).1, (I.ed e he).b I.ok⟩
theorem MadeI.app {h0 h h2 : H} {gid eid : Nat} {G G' : Gr} {es : List Int} {e : Int} (I : MadeI h0 gid eid G es h) (P : GPost h h2 (fun j => h0.next ≤ j ∧ j ≠ eid) gid G') (U : G.Up G' ∧ G'.E e) :
    h2.get eid = some (.cells (ints es)) ∧ eid < h2.next ∧ MadeI h0 gid (h2.next + 1) G' (es ++ [e]) (((h2.new (.cells [.int .i64 e])).del eid).new (.cells (ints es ++ [.int .i64 e]))) := by
  have e0 := H.lt_next I.gr.wf I.el
  have e1 : h2.get eid = some (.cells (ints es)) := by rw [P.fr _ e0 (fun q => q.2 rfl)]; exact I.el
  have e2 := H.lt_next P.gr.wf e1
  have n1 := I.gr.nx
  have n2 := P.gr.nx
  have en := I.en
  refine ⟨e1, e2, ?_, U.1.ok, by simp [ints], by omega, ?_, fun i hi => ?_, fun x hx => ?_⟩
  · refine ((P.at_.lt P.gr.wf).keep P.gr.wf fun i hi hF => ?_).mono fun i hi => ?_
    · have : i ≠ eid := by rcases hF.1 with q | q <;> omega
      simp [far hi, this]
    · rcases hi.1 with q | q <;> omega
  · refine ⟨by simp; omega, H.wf_new (H.wf_del (H.wf_new P.gr.wf _) _) _, fun i hi hz => ?_⟩
    have h2 := P.gr.no i (by omega) (I.gr.no i hi hz)
    simp [far (show i < _ by exact Nat.lt_of_lt_of_le hi (Nat.le_trans n1 n2)), h2]
  · have t1 : i ≠ h2.next + 1 := by omega
    have t2 : i ≠ eid := by omega
    have t3 : i ≠ h2.next := by omega
    simp [t1, t2, t3]
    rw [P.fr i (by omega) (fun q => by omega), I.fr i hi]
  · rcases List.mem_append.1 hx with hx | hx
    · exact U.1.e (I.ed x hx)
    · simp at hx; subst hx; exact U.2
def madeI (h0 : H) (acts : List Act) (m : Nat) (f : Nat → CV) (h : H) : Prop :=
  f 0 = .lst 4 (acts.map actC) ∧ ∃ gid eid G es i, f 4 = .ptr gid 0 ∧ f 5 = .ref eid 0 es.length 1 ∧ f 6 = .int .i64 (i : Nat) ∧ i ≤ acts.length ∧ m = acts.length - i ∧ es.length = 4 + i ∧ MadeI h0 gid eid G es h
set_option maxRecDepth 8000 in
theorem made_run {h : H} (wf : WFH h) {acts : List Act} (hl : acts.length ≤ 25) (hf : ∀ x ∈ acts, x.fits) :
    Runs E 13 [.lst 4 (acts.map actC)] h fun v h' => ∃ gid eid G es, v = .tup [.ptr gid 0, .ref eid 0 es.length 1] ∧ es.length = 4 + acts.length ∧ MadeI h gid eid G es h' := by
  refine Runs.ofX Tryd.func13 rfl rfl rfl rfl (fun _ => rfl) ?_
  simp [Tryd.f13]
  refine (Runs.grows E_ok E_mix (new_run h) wf).mono fun v h1 ⟨g1, gid, hv, G1, fr1⟩ => ?_
  subst hv
  have ok0 : (⟨[(-1, -1)], [], []⟩ : Gr).OK := gr0_ok
  simp
  refine (input_g G1 g1.wf ok0).mono fun v h2 ⟨P2, hv⟩ => ?_
  subst hv
  have u2 := Gr.input_up ok0
  simp
  refine (input_g P2.at_ P2.gr.wf u2.1.ok).mono fun v h3 ⟨P3, hv⟩ => ?_
  subst hv
  have u3 := Gr.input_up u2.1.ok
  simp
  refine (input_g P3.at_ P3.gr.wf u3.1.ok).mono fun v h4 ⟨P4, hv⟩ => ?_
  subst hv
  have u4 := Gr.input_up u3.1.ok
  have P := P2.trans (P3.trans P4)
  have gg := g1.trans P.gr
  have nx1 := g1.nx
  have nx2 := P.gr.nx
  generalize hG' : ((({ l := [(-1, -1)], is := [], ins := [] } : Gr).input.2.input).2.input).2 = G at P u4
  generalize hx2 : (({ l := [(-1, -1)], is := [], ins := [] } : Gr).input).1 = x2 at u2 u3 u4
  generalize hx3 : (({ l := [(-1, -1)], is := [], ins := [] } : Gr).input.2.input).1 = x3 at u3 u4
  generalize hx4 : (({ l := [(-1, -1)], is := [], ins := [] } : Gr).input.2.input.2.input).1 = x4 at u4
  simp
  refine xX_loopI (N := 77) (fun _ => rfl) rfl (madeI h acts) acts.length ?_ ?_
  · refine ⟨rfl, gid, h4.next, G, [0, x2, x3, x4], 0, rfl, rfl, rfl, by omega, rfl, rfl, ?_, u4.1.ok, by simp [ints], by omega, ?_, fun i hi => ?_, fun e he => ?_⟩
    · refine ((P.at_.lt P.gr.wf).keep P.gr.wf fun i hi hF => by simp [far hi]).mono fun i hi => ?_
      refine ⟨?_, by omega⟩
      rcases hi.1 with q | q <;> omega
    · exact gg.trans ⟨by simp, H.wf_new P.gr.wf _, fun i hi hz => by simp [far hi, hz]⟩
    · have t1 : i ≠ h4.next := by omega
      simp [t1]
      rw [P.fr i (by omega) (by omega), fr1 i hi]
    · simp at he
      rcases he with rfl | rfl | rfl | rfl
      · exact Gr.E_0 u4.1.ok
      · exact u4.1.e (u3.1.e u2.2)
      · exact u4.1.e u3.2
      · exact u4.2
  · rintro m f h5 ⟨f0, gid, eid, G, es, i, f4, f5, f6, il, rfl, ie, I⟩
    have wf5 := I.gr.wf
    have e0 := H.lt_next wf5 I.el
    by_cases c : i < acts.length
    · obtain ⟨x, hx⟩ : ∃ x, acts[i]? = some x := ⟨_, List.getElem?_eq_getElem c⟩
      have xf := hf x (List.mem_of_getElem? hx)
      have hx2 : ∀ hh : i < acts.length, acts[i]'hh = x := fun hh => by simpa [hh] using hx
      have w1 : IntKind.i64.wrap ((i : Int) + 1) = i + 1 := wrap64 (by omega) (by omega)
      have ne : es ≠ [] := by intro e; rw [e, List.length_nil] at ie; omega
      have ha := at_u wf5 I.el ne (by omega) I.eb xf.1
      have hb := at_u wf5 I.el ne (by omega) I.eb xf.2
      simp [tabF, f0, f4, f5, f6, c, hx, hx2]
      refine xX_drawn [0, 0, 0, 6, 14, 30, 63, 0, 0, 0, 768, 1792, 3840, 8191, 16383, 32767] rfl (by kernel_rfl) ?_
      simp [c, hx, hx2, actC, ha, hb]
      have b1 : (es.length + 1) * 8 ≤ 140737488355328 := by omega
      have b2 : es.length ≤ 140737488355327 := by omega
      have b3 : List.take es.length (ints es) = ints es := List.take_of_length_le (by simp [ints])
      have b4 : (ints es).length = es.length := by simp [ints]
      have ea := atL_E ne I.ed x.a
      have eb := atL_E ne I.ed x.b
      have ea1 := ea.b I.ok
      have eb1 := eb.b I.ok
      have fin : ∀ {h6 : H} {G' : Gr} {e : Int} (f' : Nat → CV), f' 0 = .lst 4 (acts.map actC) → f' 4 = .ptr gid 0 → f' 5 = .ref (h6.next + 1) 0 (es.length + 1) 1 → f' 6 = .int .i64 ((i : Int) + 1) → MadeI h gid (h6.next + 1) G' (es ++ [e]) (((h6.new (.cells [.int .i64 e])).del eid).new (.cells (ints es ++ [.int .i64 e]))) →
          ∃ m, m < acts.length - i ∧ madeI h acts m f' (((h6.new (.cells [.int .i64 e])).del eid).new (.cells (ints es ++ [.int .i64 e]))) := by
        intro h6 G' e f' a b c d J
        exact ⟨acts.length - (i + 1), by omega, a, gid, h6.next + 1, G', es ++ [e], i + 1, b, by rw [c]; simp, by rw [d]; rfl, by omega, rfl, by simp; omega, J⟩
      by_cases k0 : x.k = 0
      · simp [k0, c, hx, hx2, actC]
        refine (input_g I.at_ wf5 I.ok).mono fun v h6 ⟨Q, hv⟩ => ?_
        subst hv
        obtain ⟨s1, s2, J⟩ := I.app Q (Gr.input_up I.ok)
        simp [s1, far s2, w1, b1, b2, b3, b4]
        exact fin _ rfl rfl rfl rfl J
      by_cases k1 : x.k = 1 ∨ x.k = 2
      · have go : Runs E 19 [.ptr gid 0, .int .i64 (atL es x.a), .int .i64 (atL es x.b)] h5 _ := and_g I.at_ wf5 I.ok (by omega) (by omega)
        rcases k1 with k1 | k1
        all_goals
          simp [k1, c, hx, hx2, actC]
          refine go.mono fun v h6 ⟨Q, hv⟩ => ?_
          subst hv
          obtain ⟨s1, s2, J⟩ := I.app Q (Gr.and_up I.ok _ _)
          simp [s1, far s2, w1, b1, b2, b3, b4]
          exact fin _ rfl rfl rfl rfl J
      have k2 : x.k ≠ 1 := fun e => k1 (.inl e)
      have k3 : x.k ≠ 2 := fun e => k1 (.inr e)
      by_cases k4 : x.k = 3
      · simp [k4, c, hx, hx2, actC]
        refine (xor_g I.at_ wf5 I.ok (by omega) (by omega)).mono fun v h6 ⟨Q, hv⟩ => ?_
        subst hv
        obtain ⟨s1, s2, J⟩ := I.app Q (Gr.xor_up I.ok _ _)
        simp [s1, far s2, w1, b1, b2, b3, b4]
        exact fin _ rfl rfl rfl rfl J
      · simp [k0, k2, k3, k4, c, hx, hx2, actC]
        refine (or_g I.at_ wf5 I.ok (by omega) (by omega)).mono fun v h6 ⟨Q, hv⟩ => ?_
        subst hv
        obtain ⟨s1, s2, J⟩ := I.app Q (Gr.or_up I.ok _ _)
        simp [s1, far s2, w1, b1, b2, b3, b4]
        exact fin _ rfl rfl rfl rfl J
    · have c2 : i = acts.length := by omega
      subst c2
      simp [tabF, f0, f4, f5, f6]
      exact ⟨gid, eid, G, es, ⟨rfl, rfl, rfl⟩, ie, I⟩
end Go.Proofs.YtjlabjncojhjkaaDoor
