/- A part of the proof of a law of the given program: contracts of functions over the clean heap. -/
import Derived.Test.YtjlabjncojhjkaaDoorC1
namespace Go.Proofs.YtjlabjncojhjkaaDoor
open Go Go.Cv
theorem cells2_at : ∀ (l : List (Int × Int)) (k : Nat) (p : Int × Int), l[k]? = some p → ((cells2 l).drop (k * 2)).take 2 = [.int .i64 p.1, .int .i64 p.2]
  | [], k, p, h => by simp at h
  | q :: l, 0, p, h => by simp at h; subst h; simp [cells2]
  | q :: l, k + 1, p, h => by
    have e : (k + 1) * 2 = k * 2 + 1 + 1 := by omega
    have := cells2_at l k p (by simpa using h)
    rw [e]
    simpa [cells2] using this
theorem cells2_0 {l : List (Int × Int)} {k : Nat} {p : Int × Int} (h : l[k]? = some p) : (cells2 l)[k * 2]? = some (.int .i64 p.1) := by
  have := congrArg (fun l => l[0]?) (cells2_at l k p h)
  simpa [List.getElem?_take, List.getElem?_drop] using this
theorem cells2_1 {l : List (Int × Int)} {k : Nat} {p : Int × Int} (h : l[k]? = some p) : (cells2 l)[k * 2 + 1]? = some (.int .i64 p.2) := by
  have := congrArg (fun l => l[1]?) (cells2_at l k p h)
  simpa [List.getElem?_take, List.getElem?_drop] using this
/-- graph.Node -/
theorem node_u {h : H} {F : Nat → Prop} {gid : Nat} {G : Gr} (hG : GraphAt h F gid G) (wf : WFH h) (ok : G.OK) {n : Nat} {p : Int × Int} (hp : G.l[n]? = some p) (K) (t) :
    uRuns E 64 [.ptr gid 0, .int .i64 n] h K t = K (if 1 ≤ n ∧ p ≠ (-1, -1) then .tup [.int .i64 p.1, .int .i64 p.2, .bool true] else .tup [.int .i64 0, .int .i64 0, .bool false]) h := by
  obtain ⟨lid, mid, insv, k1, k2, k3, k4, n1, n2, n3, f1, f2, f3⟩ := hG.ex
  have g1 := H.lt_next wf k1
  have g2 := H.lt_next wf k2
  have hn := (List.getElem?_eq_some_iff.1 hp).1
  have hc := cells2_at _ _ _ hp
  have hl := cells2_len G.l
  have hx : n * 2 + 2 ≤ (cells2 G.l).length := by omega
  refine Runs.det (Runs.ofX Tryd.func64 rfl rfl rfl rfl (fun _ => rfl) ?_)
  by_cases c1 : 1 ≤ n
  · have e1 : ¬ (n : Int) < 1 := by omega
    have e2 : ¬ (G.l.length : Int) ≤ n := by omega
    simp [Tryd.f64]
    refine xX_drawn [0, 1, 3, 7, 7, 23, 55, 119, 247, 511, 1023, 2047, 4095, 8191, 16383, 32767, 4095, 131071, 262143, 4095, 1048575, 2097151] rfl (by kernel_rfl) ?_
    by_cases c2 : p = (-1, -1)
    · subst c2
      simp [k1, k2, far g1, far g2, e1, e2, hn, hx, hc, eqBin, cmpL, cmpC]
    · have c3 : (p.1 == -1 && p.2 == -1) = false := by
        rcases p with ⟨x, y⟩
        simp only [Prod.mk.injEq] at c2
        simp only [Bool.and_eq_false_iff, beq_eq_false_iff_ne]; omega
      simp [k1, k2, far g1, far g2, e1, e2, hn, hx, hc, eqBin, cmpL, cmpC, c1, c2, c3]
      refine xX_drawn [0, 1, 3, 7, 0, 31, 63, 127, 0, 256, 768, 1792, 0, 7936, 16128, 32512, 255, 131071, 262143] rfl (by kernel_rfl) ?_
      simp [k1, k2, far g1, far g2, e1, e2, hn, hx, hc, cells2_0 hp, cells2_1 hp]
      exact ⟨c1, c2⟩
  · have e1 : (n : Int) < 1 := by omega
    have e2 : n = 0 := by omega
    subst e2
    simp [Tryd.f64, c1, e1]
    refine xX_drawn [0, 1, 3, 7, 7, 23, 55, 119, 247, 511, 1023, 2047, 4095, 8191, 16383, 32767, 4095, 131071, 262143, 4095, 1048575, 2097151] rfl (by kernel_rfl) ?_
    simp [k1, k2, far g1, far g2, e1]
theorem nodes_u {h : H} {F : Nat → Prop} {gid : Nat} {G : Gr} (hG : GraphAt h F gid G) (wf : WFH h) (K) (t) :
    uRuns E 46 [.ptr gid 0] h K t = K (.int .i64 G.l.length) h := by
  obtain ⟨lid, mid, insv, k1, k2, k3, k4, n1, n2, n3, f1, f2, f3⟩ := hG.ex
  have g1 := H.lt_next wf k1
  refine Runs.det (Runs.ofX Tryd.func46 rfl rfl rfl rfl (fun _ => rfl) ?_)
  simp [Tryd.f46, k1, far g1]
/-! ### Makers -/
structure Mk where
  of : List (Int × Int)
  n : Nat
/-- What a node's variable is; 0: it has none. -/
def Mk.v (M : Mk) (k : Int) : Int := match lookI M.of k 0 with | some (_, v) => v | none => 0
def NextAt (h : H) (F : Nat → Prop) (v : CV) (n : Nat) : Prop := (v = .nils ∧ n = 0) ∨ ∃ nid cs, v = .ref nid 0 n 1 ∧ h.get nid = some (.cells cs) ∧ cs.length = n ∧ F nid
structure MakerAt (h : H) (F : Nat → Prop) (k gid : Nat) (M : Mk) : Prop where
  ex : ∃ oid nv, h.get k = some (.cells [.ptr gid 0, .map oid, nv]) ∧ h.get oid = some (.map (mapI M.of)) ∧ NextAt h (fun i => F i ∧ i ≠ k ∧ i ≠ oid) nv M.n ∧ k ≠ oid ∧ F k ∧ F oid
structure MPost (h h' : H) (F : Nat → Prop) (k gid : Nat) (M : Mk) : Prop where
  gr : Grows h h'
  at_ : MakerAt h' (fun i => F i ∨ h.next ≤ i) k gid M
  fr : ∀ i, i < h.next → ¬ F i → h'.get i = h.get i
theorem NextAt.mono {h : H} {F F' : Nat → Prop} {v : CV} {n : Nat} (w : NextAt h F v n) (hf : ∀ i, F i → F' i) : NextAt h F' v n := by
  rcases w with w | ⟨i, cs, a, b, c, d⟩
  · exact .inl w
  · exact .inr ⟨i, cs, a, b, c, hf i d⟩
theorem MakerAt.mono {h : H} {F F' : Nat → Prop} {k gid : Nat} {M : Mk} (w : MakerAt h F k gid M) (hf : ∀ i, F i → F' i) : MakerAt h F' k gid M := by
  obtain ⟨oid, nv, h1, h2, h3, h4, h5, h6⟩ := w.ex
  exact ⟨oid, nv, h1, h2, h3.mono fun i q => ⟨hf i q.1, q.2⟩, h4, hf _ h5, hf _ h6⟩
theorem MakerAt.keep {h h' : H} {F : Nat → Prop} {k gid : Nat} {M : Mk} (w : MakerAt h F k gid M) (wf : WFH h) (hf : ∀ i, i < h.next → F i → h'.get i = h.get i) : MakerAt h' F k gid M := by
  obtain ⟨oid, nv, h1, h2, h3, h4, h5, h6⟩ := w.ex
  refine ⟨oid, nv, by rw [hf _ (H.lt_next wf h1) h5]; exact h1, by rw [hf _ (H.lt_next wf h2) h6]; exact h2, ?_, h4, h5, h6⟩
  rcases h3 with w | ⟨i, cs, a, b, c, d⟩
  · exact .inl w
  · exact .inr ⟨i, cs, a, by rw [hf _ (H.lt_next wf b) d.1]; exact b, c, d⟩
theorem MakerAt.lt {h : H} {F : Nat → Prop} {k gid : Nat} {M : Mk} (w : MakerAt h F k gid M) (wf : WFH h) : MakerAt h (fun i => F i ∧ i < h.next) k gid M := by
  obtain ⟨oid, nv, h1, h2, h3, h4, h5, h6⟩ := w.ex
  refine ⟨oid, nv, h1, h2, ?_, h4, ⟨h5, H.lt_next wf h1⟩, ⟨h6, H.lt_next wf h2⟩⟩
  rcases h3 with w | ⟨i, cs, a, b, c, d⟩
  · exact .inl w
  · exact .inr ⟨i, cs, a, b, c, ⟨d.1, H.lt_next wf b⟩, d.2⟩
theorem MPost.refl {h : H} {F : Nat → Prop} {k gid : Nat} {M : Mk} (wf : WFH h) (w : MakerAt h F k gid M) : MPost h h F k gid M := ⟨.refl wf, w.mono fun _ => .inl, fun _ _ _ => rfl⟩
theorem MPost.trans {h h1 h2 : H} {F : Nat → Prop} {k gid : Nat} {M M' : Mk} (a : MPost h h1 F k gid M) (b : MPost h1 h2 (fun i => F i ∨ h.next ≤ i) k gid M') : MPost h h2 F k gid M' :=
  ⟨a.gr.trans b.gr, b.at_.mono fun i q => q.elim id fun q => .inr (Nat.le_trans a.gr.nx q), fun i hi hf => by
    rw [b.fr i (Nat.lt_of_lt_of_le hi a.gr.nx) (fun q => q.elim hf fun q => by omega), a.fr i hi hf]⟩
theorem MPost.same {h h' : H} {F : Nat → Prop} {k gid : Nat} {M : Mk} (w : MakerAt h F k gid M) (wf : WFH h) (gr : Grows h h') (hf : ∀ i, i < h.next → h'.get i = h.get i) : MPost h h' F k gid M :=
  ⟨gr, (w.keep wf fun i hi _ => hf i hi).mono fun _ => .inl, fun i hi _ => hf i hi⟩
/-- cnf.New -/
theorem mnew_run (h : H) (wf : WFH h) (gid : Nat) : Runs E 14 [.ptr gid 0] h fun v h' => ∃ k, v = .ptr k 0 ∧ Grows h h' ∧ MakerAt h' (fun i => h.next ≤ i) k gid ⟨[(0, 1)], 1⟩ ∧ ∀ i, i < h.next → h'.get i = h.get i := by
  refine (Runs.grows E_ok E_mix (Q := fun v h' => ∃ k, v = .ptr k 0 ∧ MakerAt h' (fun i => h.next ≤ i) k gid ⟨[(0, 1)], 1⟩ ∧ ∀ i, i < h.next → h'.get i = h.get i) (Runs.ofX Tryd.func14 rfl rfl rfl rfl (fun _ => rfl) ?_) wf).mono fun v h' ⟨g, k, a, b⟩ => ⟨k, a, g, b⟩
  simp [Tryd.f14, eqBin, insC, keyC, keyCells, cmpL, cmpC, findC]
  refine ⟨⟨h.next, .ref (h.next + 2) 0 1 1, ?_⟩, fun i hi => by simp [far hi, Nat.add_assoc]⟩
  simp [NextAt, mapI, Nat.add_assoc]
theorem mnew_nil (h : H) (K) (t) : uRuns E 14 [.nilp] h K t = K .nilp h := by
  refine Runs.det (Runs.ofX Tryd.func14 rfl rfl rfl rfl (fun _ => rfl) ?_)
  simp [Tryd.f14, eqBin]
/-- cnf.lit -/
theorem lit_u {h : H} {F : Nat → Prop} {k gid : Nat} {M : Mk} (hM : MakerAt h F k gid M) (wf : WFH h) {e : Int} (h0 : 0 ≤ e) (h1 : e < 400000) (hv : M.v (e / 2) ≤ 400000) (hv0 : 0 ≤ M.v (e / 2)) (K) (t) :
    uRuns E 47 [.ptr k 0, .int .i64 e] h K t = K (.int .i64 (if e % 2 = 1 then - M.v (e / 2) else M.v (e / 2))) h := by
  obtain ⟨oid, nv, k1, k2, k3, n1, f1, f2⟩ := hM.ex
  have g1 := H.lt_next wf k1
  have g2 := H.lt_next wf k2
  have e1 : e.tmod 2 = e % 2 := Int.tmod_eq_emod_of_nonneg h0
  have e2 : e.tdiv 2 = e / 2 := Int.tdiv_eq_ediv_of_nonneg h0
  have e3 : IntKind.i64.wrap (e % 2) = e % 2 := wrap64 (by omega) (by omega)
  have e4 : IntKind.i64.wrap (e / 2) = e / 2 := wrap64 (by omega) (by omega)
  have e5 : IntKind.i64.wrap (- M.v (e / 2)) = - M.v (e / 2) := wrap64 (by omega) (by omega)
  refine Runs.det (Runs.ofX Tryd.func47 rfl rfl rfl rfl (fun _ => rfl) ?_)
  unfold Mk.v at e5 ⊢
  by_cases c : e % 2 = 1 <;> rcases hl : lookI M.of (e / 2) 0 with _ | ⟨i, v⟩
  all_goals
    rw [hl] at e5
    simp [Tryd.f47, k1, k2, far g1, far g2, e1, e2, e3, e4, c, lookC, keyC, keyCells, cmpL, cmpC, findC_ints, hl, Ty.zeroV]
    first | done | exact e5 | exact wrap64 (by omega) (by omega)
theorem mvars_u {h : H} {F : Nat → Prop} {k gid : Nat} {M : Mk} (hM : MakerAt h F k gid M) (wf : WFH h) (K) (t) : uRuns E 17 [.ptr k 0] h K t = K (.int .i64 M.of.length) h := by
  obtain ⟨oid, nv, k1, k2, k3, n1, f1, f2⟩ := hM.ex
  have g1 := H.lt_next wf k1
  have g2 := H.lt_next wf k2
  refine Runs.det (Runs.ofX Tryd.func17 rfl rfl rfl rfl (fun _ => rfl) ?_)
  simp [Tryd.f17, k1, k2, far g1, far g2, mapI]
theorem take_run {h : H} {F : Nat → Prop} {k gid : Nat} {M : Mk} (hM : MakerAt h F k gid M) (wf : WFH h) : Runs E 16 [.ptr k 0] h fun v h' => MPost h h' F k gid { M with n := 0 } ∧ ((v = .nils ∧ M.n = 0) ∨ ∃ nid, v = .ref nid 0 M.n 1) := by
  obtain ⟨oid, nv, k1, k2, k3, n1, f1, f2⟩ := hM.ex
  have g1 := H.lt_next wf k1
  have g2 := H.lt_next wf k2
  refine (Runs.grows E_ok E_mix (Q := fun v h' => (MakerAt h' (fun i => F i ∨ h.next ≤ i) k gid { M with n := 0 } ∧ ∀ i, i < h.next → ¬ F i → h'.get i = h.get i) ∧ ((v = .nils ∧ M.n = 0) ∨ ∃ nid, v = .ref nid 0 M.n 1)) (Runs.ofX Tryd.func16 rfl rfl rfl rfl (fun _ => rfl) ?_) wf).mono fun v h' ⟨g, a, b⟩ => ⟨⟨g, a.1, a.2⟩, b⟩
  simp [Tryd.f16, k1, k2, far g1, far g2]
  refine ⟨⟨⟨oid, .nils, ?_⟩, fun i hi hF => ?_⟩, ?_⟩
  · simp [n1, Ne.symm n1, k2, far g1, far g2, NextAt, f1, f2]
  · have : i ≠ k := fun e => hF (e ▸ f1)
    simp [this, far hi]
  · rcases k3 with k3 | ⟨nid, cs, rfl, _⟩
    · exact .inl k3
    · exact .inr ⟨nid, rfl⟩
end Go.Proofs.YtjlabjncojhjkaaDoor
