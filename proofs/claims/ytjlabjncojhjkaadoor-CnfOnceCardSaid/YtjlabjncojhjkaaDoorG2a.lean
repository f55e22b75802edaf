/- A part of the proof of a law of the given program: contracts of functions over the clean heap. -/
import Derived.Test.YtjlabjncojhjkaaDoorG1d
namespace Go.Proofs.YtjlabjncojhjkaaDoor
open Go Go.Cv
/-! ### What the functions do, as functions of graphs -/
def nt (e : Int) : Int := if e % 2 = 0 then e + 1 else e - 1
def Gr.put (G : Gr) (p : Int × Int) : Int × Gr := if 200000 ≤ G.l.length then (0, G) else (2 * (G.l.length : Int), { G with l := G.l ++ [p] })
def Gr.input (G : Gr) : Int × Gr := if 200000 ≤ G.l.length then (0, G) else (2 * (G.l.length : Int), { G with l := G.l ++ [(-1, -1)], ins := G.ins ++ [2 * (G.l.length : Int)] })
def Gr.ands (G : Gr) (a b : Int) : Int × Gr :=
  if a = 0 ∨ a = nt b then (0, G) else if a = 1 ∨ a = b then (b, G) else
  match lookPI G.is a b 0 with
  | some (_, e) => (e, G)
  | none => if 200000 ≤ G.l.length then (0, G) else (2 * (G.l.length : Int), { G with l := G.l ++ [(a, b)], is := G.is ++ [((a, b), 2 * (G.l.length : Int))] })
def Gr.and (G : Gr) (a b : Int) : Int × Gr := if G.edge b < G.edge a then G.ands (G.edge b) (G.edge a) else G.ands (G.edge a) (G.edge b)
/-- A call over a graph: what it leaves. -/
structure GPost (h h' : H) (F : Nat → Prop) (gid : Nat) (G : Gr) : Prop where
  gr : Grows h h'
  at_ : GraphAt h' (fun i => F i ∨ h.next ≤ i) gid G
  fr : ∀ i, i < h.next → ¬ F i → h'.get i = h.get i
theorem InsAt.mono {h : H} {F F' : Nat → Prop} {v : CV} {ins : List Int} (w : InsAt h F v ins) (hf : ∀ i, F i → F' i) : InsAt h F' v ins := by
  rcases w with w | ⟨i, a, b, c⟩
  · exact .inl w
  · exact .inr ⟨i, a, b, hf i c⟩
theorem GraphAt.mono {h : H} {F F' : Nat → Prop} {gid : Nat} {G : Gr} (w : GraphAt h F gid G) (hf : ∀ i, F i → F' i) : GraphAt h F' gid G := by
  obtain ⟨lid, mid, insv, h1, h2, h3, h4, n1, n2, n3, f1, f2, f3⟩ := w.ex
  exact ⟨lid, mid, insv, h1, h2, h3, h4.mono fun i q => ⟨hf i q.1, q.2⟩, n1, n2, n3, hf _ f1, hf _ f2, hf _ f3⟩
theorem GraphAt.keep {h h' : H} {F : Nat → Prop} {gid : Nat} {G : Gr} (w : GraphAt h F gid G) (wf : WFH h) (hf : ∀ i, i < h.next → F i → h'.get i = h.get i) : GraphAt h' F gid G := by
  obtain ⟨lid, mid, insv, h1, h2, h3, h4, n1, n2, n3, f1, f2, f3⟩ := w.ex
  refine ⟨lid, mid, insv, by rw [hf _ (H.lt_next wf h1) f1]; exact h1, by rw [hf _ (H.lt_next wf h2) f2]; exact h2, by rw [hf _ (H.lt_next wf h3) f3]; exact h3, ?_, n1, n2, n3, f1, f2, f3⟩
  rcases h4 with w | ⟨i, a, b, c⟩
  · exact .inl w
  · exact .inr ⟨i, a, by rw [hf _ (H.lt_next wf b) c.1]; exact b, c⟩
theorem GraphAt.lt {h : H} {F : Nat → Prop} {gid : Nat} {G : Gr} (w : GraphAt h F gid G) (wf : WFH h) : GraphAt h (fun i => F i ∧ i < h.next) gid G := by
  obtain ⟨lid, mid, insv, h1, h2, h3, h4, n1, n2, n3, f1, f2, f3⟩ := w.ex
  refine ⟨lid, mid, insv, h1, h2, h3, ?_, n1, n2, n3, ⟨f1, H.lt_next wf h1⟩, ⟨f2, H.lt_next wf h2⟩, ⟨f3, H.lt_next wf h3⟩⟩
  rcases h4 with w | ⟨i, a, b, c⟩
  · exact .inl w
  · exact .inr ⟨i, a, b, ⟨c.1, H.lt_next wf b⟩, c.2⟩
theorem GPost.refl {h : H} {F : Nat → Prop} {gid : Nat} {G : Gr} (wf : WFH h) (w : GraphAt h F gid G) : GPost h h F gid G := ⟨.refl wf, w.mono fun _ => .inl, fun _ _ _ => rfl⟩
theorem GPost.trans {h h1 h2 : H} {F : Nat → Prop} {gid : Nat} {G G' : Gr} (a : GPost h h1 F gid G) (b : GPost h1 h2 (fun i => F i ∨ h.next ≤ i) gid G') : GPost h h2 F gid G' :=
  ⟨a.gr.trans b.gr, b.at_.mono fun i q => q.elim id fun q => .inr (Nat.le_trans a.gr.nx q), fun i hi hf => by
    rw [b.fr i (Nat.lt_of_lt_of_le hi a.gr.nx) (fun q => q.elim hf fun q => by omega), a.fr i hi hf]⟩
/-- .. where the caller does something of its own in between. -/
theorem edge_b {G : Gr} (hp : 0 < G.l.length) (e : Int) : 0 ≤ G.edge e ∧ G.edge e < 2 * (G.l.length : Int) := by
  unfold Gr.edge
  split <;> omega
theorem insC_pairs {is : List ((Int × Int) × Int)} {a b : Int} (hn : lookPI is a b 0 = none) (e : Int) : insC true [.int .i64, .int .i64] (mapE is) (.agg [.int .i64 a, .int .i64 b]) (.int .i64 e) = some (mapE (is ++ [((a, b), e)])) := by
  unfold insC
  rw [findC_pairs, hn]
  simp [keyC, keyCells, cmpL, cmpC, mapE]
/-- graph.put -/
theorem putG_run {h : H} {F : Nat → Prop} {gid : Nat} {G : Gr} (hG : GraphAt h F gid G) (wf : WFH h) (hL : G.l.length ≤ 200000) (a b : Int) :
    Runs E 50 [.ptr gid 0, .agg [.int .i64 a, .int .i64 b]] h fun v h' => GPost h h' F gid (G.put (a, b)).2 ∧ v = .int .i64 (G.put (a, b)).1 := by
  unfold Gr.put
  by_cases hn : G.l.length < 200000
  · rw [if_neg (by omega)]
    exact (put_run hG wf hn a b).mono fun v h' q => ⟨⟨q.1, q.2.2.1, q.2.2.2⟩, q.2.1⟩
  · rw [if_pos (by omega)]
    obtain ⟨lid, mid, insv, k1, k2, k3, k4, n1, n2, n3, f1, f2, f3⟩ := hG.ex
    have g1 := H.lt_next wf k1
    have e1 : (200000 : Int) ≤ G.l.length := by omega
    refine (Runs.grows E_ok E_mix (Q := fun v h' => (∀ i, i < h.next → h'.get i = h.get i) ∧ v = .int .i64 0) (Runs.ofX Tryd.func50 rfl rfl rfl rfl (fun _ => rfl) ?_) wf).mono fun v h' q => ⟨⟨q.1, (hG.keep wf fun i hi _ => q.2.1 i hi).mono fun _ => .inl, fun i hi _ => q.2.1 i hi⟩, q.2.2⟩
    simp [Tryd.f50, k1, far g1, e1]
    try (intro i hi; simp [far hi])
/-- The map takes a new pair. -/
theorem GraphAt.is {h : H} {F : Nat → Prop} {gid : Nat} {G : Gr} {lid mid : Nat} {insv : CV} (w : GraphAt h F gid G) (hg : h.get gid = some (.cells [.ref lid 0 G.l.length 2, .map mid, insv])) (is : List ((Int × Int) × Int)) :
    GraphAt (h.put mid (.map (mapE is))) F gid { G with is := is } := by
  obtain ⟨lid', mid', insv', h1, h2, h3, h4, n1, n2, n3, f1, f2, f3⟩ := w.ex
  rw [hg] at h1
  obtain ⟨rfl, rfl, rfl⟩ : lid = lid' ∧ mid = mid' ∧ insv = insv' := by simpa using h1
  refine ⟨lid, mid, insv, ?_, ?_, ?_, ?_, n1, n2, n3, f1, f2, f3⟩
  · rw [H.get_put, if_neg n2]; exact hg
  · rw [H.get_put, if_neg n3]; exact h2
  · rw [H.get_put, if_pos rfl]
  · rcases h4 with w | ⟨i, a, b, c⟩
    · exact .inl w
    · exact .inr ⟨i, a, by rw [H.get_put, if_neg c.2.2.2]; exact b, c⟩
theorem ands_run {h : H} {F : Nat → Prop} {gid : Nat} {G : Gr} (hG : GraphAt h F gid G) (wf : WFH h) (hp : 0 < G.l.length) (hL : G.l.length ≤ 200000) {a0 b0 a b : Int} (ha0 : a0 ≤ 9223372036854775807) (hb0 : b0 ≤ 9223372036854775807)
    (hsw : (G.edge a0 = a ∧ G.edge b0 = b ∧ ¬ b < a) ∨ (G.edge a0 = b ∧ G.edge b0 = a ∧ a < b)) :
    Runs E 19 [.ptr gid 0, .int .i64 a0, .int .i64 b0] h fun v h' => GPost h h' F gid (G.ands a b).2 ∧ v = .int .i64 (G.ands a b).1 := by
  have q1 := edge_e hG (e := a0) ha0
  have q2 := edge_e hG (e := b0) hb0
  have r1 := edge_b hp a0
  have r2 := edge_b hp b0
  have q3 := not_e (e := b) (by omega) (by omega)
  have hnt : (if b % 2 = 0 then b + 1 else b - 1) = nt b := rfl
  rw [hnt] at q3
  have hG1 := hG
  obtain ⟨lid, mid, insv, k1, k2, k3, k4, n1, n2, n3, f1, f2, f3⟩ := hG.ex
  by_cases hc : a = 0 ∨ a = nt b ∨ a = 1 ∨ a = b
  · refine (Runs.grows E_ok E_mix (Q := fun v h' => h' = h ∧ v = .int .i64 (G.ands a b).1) (Runs.ofX Tryd.func19 rfl rfl rfl rfl (fun _ => rfl) ?_) wf).mono fun v h' q => ?_
    · unfold Gr.ands
      rcases hsw with ⟨s1, s2, s3⟩ | ⟨s1, s2, s3⟩
      all_goals
        rw [s1] at q1; rw [s2] at q2
        by_cases c0 : a = 0
        · subst c0; simp [Tryd.f19, q1, q2, q3, s3]
        by_cases c1 : a = nt b
        · simp [Tryd.f19, q1, q2, q3, s3, c0, ← c1]
        by_cases c2 : a = 1
        · subst c2; simp [Tryd.f19, q1, q2, q3, s3, c1]
        · have c3 : a = b := by omega
          subst c3; simp [Tryd.f19, q1, q2, q3, s3, c0, c1, c2]
    · obtain ⟨gr, rfl, rfl⟩ := q
      have : (G.ands a b).2 = G := by unfold Gr.ands; split; · rfl
                                      · rw [if_pos (by omega)]
      rw [this]; exact ⟨.refl wf hG, rfl⟩
  · obtain ⟨c0, c1, c2, c3⟩ : a ≠ 0 ∧ a ≠ nt b ∧ a ≠ 1 ∧ a ≠ b := by omega
    have hu : G.ands a b = match lookPI G.is a b 0 with
      | some (_, e) => (e, G)
      | none => if 200000 ≤ G.l.length then (0, G) else (2 * (G.l.length : Int), { G with l := G.l ++ [(a, b)], is := G.is ++ [((a, b), 2 * (G.l.length : Int))] }) := by
      unfold Gr.ands; rw [if_neg (by omega), if_neg (by omega)]
    have g1 := H.lt_next wf k1
    have g3 := H.lt_next wf k3
    rcases hf : lookPI G.is a b 0 with _ | ⟨i, e⟩
    · rw [hf] at hu; rw [hu]
      refine (Runs.grows E_ok E_mix (Q := fun v h' => (GraphAt h' (fun i => F i ∨ h.next ≤ i) gid (if 200000 ≤ G.l.length then (0, G) else (2 * (G.l.length : Int), { G with l := G.l ++ [(a, b)], is := G.is ++ [((a, b), 2 * (G.l.length : Int))] })).2 ∧ ∀ i, i < h.next → ¬ F i → h'.get i = h.get i) ∧ v = .int .i64 (if 200000 ≤ G.l.length then (0, G) else (2 * (G.l.length : Int), { G with l := G.l ++ [(a, b)], is := G.is ++ [((a, b), 2 * (G.l.length : Int))] })).1) (Runs.ofX Tryd.func19 rfl rfl rfl rfl (fun _ => rfl) ?_) wf).mono fun v h' q => ⟨⟨q.1, q.2.1.1, q.2.1.2⟩, q.2.2⟩
      have hpb : ∀ h2 : H, (∀ i, h2.get i = if i = h.next then some (.cells [.int .i64 a, .int .i64 b]) else h.get i) → h2.next = h.next + 1 → WFH h2 → Runs E 50 [.ptr gid 0, .agg [.int .i64 a, .int .i64 b]] h2 fun v h1 => ∃ lid' mid' insv', (WFH h1 ∧ h.next < h1.next ∧ h1.get h.next = some (.cells [.int .i64 a, .int .i64 b]) ∧ h1.get gid = some (.cells [.ref lid' 0 (G.put (a, b)).2.l.length 2, .map mid', insv']) ∧ h1.get mid' = some (.map (mapE G.is)) ∧ (F mid' ∨ h.next ≤ mid') ∧ mid' ≠ h.next) ∧ GraphAt h1 (fun i => F i ∨ h.next ≤ i) gid (G.put (a, b)).2 ∧ (∀ i, i < h.next → ¬ F i → h1.get i = h.get i) ∧ v = .int .i64 (G.put (a, b)).1 := by
        intro h2 e1 e2 wf2
        refine (putG_run (F := fun i => F i ∧ i < h.next) ((hG.lt wf).keep wf fun i hi _ => by rw [e1, if_neg (far hi).1]) wf2 hL a b).mono fun v h1 q => ?_
        obtain ⟨q, rfl⟩ := q
        obtain ⟨lid', mid', insv', x1, x2, x3, x4, m1, m2, m3, y1, y2, y3⟩ := q.at_.ex
        have is' : (G.put (a, b)).2.is = G.is := by unfold Gr.put; split <;> rfl
        rw [is'] at x3
        have nx := q.gr.nx
        refine ⟨lid', mid', insv', ⟨q.gr.wf, by omega, ?_, x1, x3, ?_, ?_⟩, q.at_.mono fun i hi => ?_, fun i hi hF => ?_, rfl⟩
        · rw [q.fr _ (by omega) (fun w => Nat.lt_irrefl _ w.2), e1, if_pos rfl]
        · rcases y3 with y3 | y3
          · exact .inl y3.1
          · exact .inr (by omega)
        · rcases y3 with y3 | y3 <;> omega
        · rcases hi with hi | hi
          · exact .inl hi.1
          · exact .inr (by omega)
        · rw [q.fr _ (by omega) (fun w => hF w.1), e1, if_neg (far hi).1]
      rcases hsw with ⟨s1, s2, s3⟩ | ⟨s1, s2, s3⟩
      all_goals
        rw [s1] at q1; rw [s2] at q2
        simp [Tryd.f19, q1, q2, q3, s3, c0, c1, c2, c3, far g1, k1]
        refine xX_drawn [0, 1, 3, 7, 0, 31, 63, 127, 127, 255, 1023] rfl (by kernel_rfl) ?_
        simp [k1, far g1, k3, far g3, lookC, keyC, keyCells, cmpL, cmpC, findC_pairs, hf, Ty.zeroV]
        refine (hpb _ (fun i => by simp; split <;> simp [*]) rfl (H.wf_put (H.wf_new wf _) (Nat.lt_succ_self _) _)).mono fun v h1 q => ?_
        obtain ⟨lid', mid', insv', ⟨wf1, z0, z1, z2, z3, z6, z7⟩, z4, z5, rfl⟩ := q
        have g1' := H.lt_next wf1 z2
        have g3' := H.lt_next wf1 z3
        by_cases hr : 200000 ≤ G.l.length
        · simp [Gr.put, hr] at z4
          simp [Gr.put, hr]
          exact ⟨z4, z5⟩
        · have hp2 : (0 : Int) < 2 * G.l.length := by omega
          simp [Gr.put, hr] at z2 z4
          simp [Gr.put, hr, hp2]
          refine xX_drawn [0, 1, 3, 7, 0, 0, 63] rfl (by kernel_rfl) ?_
          simp [z1, z2, z3, insC_pairs hf, far z0, far g1', far g3']
          simp only [if_neg hr]
          refine ⟨⟨z4.is (by simpa using z2) _, fun i hi hF => ?_⟩, trivial⟩
          rw [if_neg (fun e => by subst e; rcases z6 with z6 | z6 <;> first | exact hF z6 | omega), z5 i hi hF]
    · rw [hf] at hu; rw [hu]
      refine (Runs.grows E_ok E_mix (Q := fun v h' => (∀ i, i < h.next → h'.get i = h.get i) ∧ v = .int .i64 e) (Runs.ofX Tryd.func19 rfl rfl rfl rfl (fun _ => rfl) ?_) wf).mono fun v h' q => ⟨⟨q.1, (hG.keep wf fun i hi _ => q.2.1 i hi).mono fun _ => .inl, fun i hi _ => q.2.1 i hi⟩, q.2.2⟩
      rcases hsw with ⟨s1, s2, s3⟩ | ⟨s1, s2, s3⟩
      all_goals
        rw [s1] at q1; rw [s2] at q2
        simp [Tryd.f19, q1, q2, q3, s3, c0, c1, c2, c3, far g1, k1]
        refine xX_drawn [0, 1, 3, 7, 0, 31, 63, 127, 127, 255, 1023] rfl (by kernel_rfl) ?_
        simp [k1, far g1, k3, far g3, lookC, keyC, keyCells, cmpL, cmpC, findC_pairs, hf, Ty.zeroV]
        intro i hi
        simp [far hi]
/-- graph.And -/
theorem and_run {h : H} {F : Nat → Prop} {gid : Nat} {G : Gr} (hG : GraphAt h F gid G) (wf : WFH h) (hp : 0 < G.l.length) (hL : G.l.length ≤ 200000) {a b : Int} (ha : a ≤ 9223372036854775807) (hb : b ≤ 9223372036854775807) :
    Runs E 19 [.ptr gid 0, .int .i64 a, .int .i64 b] h fun v h' => GPost h h' F gid (G.and a b).2 ∧ v = .int .i64 (G.and a b).1 := by
  unfold Gr.and
  split
  · exact ands_run hG wf hp hL ha hb (.inr ⟨rfl, rfl, ‹_›⟩)
  · exact ands_run hG wf hp hL ha hb (.inl ⟨rfl, rfl, ‹_›⟩)
end Go.Proofs.YtjlabjncojhjkaaDoor
