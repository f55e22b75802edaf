/- A part of the proof of a law of the given program: contracts of functions over the clean heap. -/
import Derived.Test.YtjlabjncojhjkaaDoorG2a
namespace Go.Proofs.YtjlabjncojhjkaaDoor
open Go Go.Cv
/-! ### Graphs in order, and what keeps them so -/
structure Gr.OK (G : Gr) : Prop where
  pos : 0 < G.l.length
  top : G.l.length ≤ 200000
  inl : G.ins.length ≤ G.l.length
  nd : ∀ (k : Nat) (p : Int × Int), G.l[k]? = some p → p = (-1, -1) ∨ (0 < p.1 ∧ p.1 < p.2 ∧ p.2 < 2 * (k : Int))
  n0 : G.l[0]? = some (-1, -1)
  is : ∀ p e, (p, e) ∈ G.is → ∃ k : Nat, e = 2 * (k : Int) ∧ 0 < k ∧ G.l[k]? = some p ∧ p ≠ (-1, -1)
/-- A graph that came of another. -/
structure Gr.Up (G G' : Gr) : Prop where
  ok : G'.OK
  l : ∃ t, G'.l = G.l ++ t
theorem Gr.Up.refl {G : Gr} (h : G.OK) : G.Up G := ⟨h, [], by simp⟩
theorem Gr.Up.trans {G G' G'' : Gr} (a : G.Up G') (b : G'.Up G'') : G.Up G'' := by
  obtain ⟨s, hs⟩ := a.l; obtain ⟨t, ht⟩ := b.l
  exact ⟨b.ok, s ++ t, by rw [ht, hs, List.append_assoc]⟩
theorem Gr.Up.len {G G' : Gr} (a : G.Up G') : G.l.length ≤ G'.l.length := by
  obtain ⟨s, hs⟩ := a.l
  rw [hs]; simp
/-- An edge of the graph. -/
def Gr.E (G : Gr) (e : Int) : Prop := 0 ≤ e ∧ e < 2 * (G.l.length : Int)
theorem Gr.Up.e {G G' : Gr} (a : G.Up G') {e : Int} (h : G.E e) : G'.E e := by
  have := a.len; unfold Gr.E at *; omega
theorem Gr.edge_E {G : Gr} (h : G.OK) (e : Int) : G.E (G.edge e) := edge_b h.pos e
theorem Gr.edge_id {G : Gr} {e : Int} (h : G.E e) : G.edge e = e := by
  unfold Gr.E at h; unfold Gr.edge; rw [if_neg (by omega)]
theorem nt_E {G : Gr} {e : Int} (h : G.E e) : G.E (nt e) := by
  unfold Gr.E at *; unfold nt; split <;> omega
theorem Gr.E.b {G : Gr} {e : Int} (h : G.E e) (ok : G.OK) : e < 400000 := by
  have := ok.top; unfold Gr.E at h; omega
theorem Gr.E_0 {G : Gr} (ok : G.OK) : G.E 0 := by have := ok.pos; unfold Gr.E; omega
theorem Gr.E_1 {G : Gr} (ok : G.OK) : G.E 1 := by have := ok.pos; unfold Gr.E; omega
theorem Gr.put_ok {G : Gr} (ok : G.OK) {p : Int × Int} (hp : p = (-1, -1) ∨ (0 < p.1 ∧ p.1 < p.2 ∧ p.2 < 2 * (G.l.length : Int))) {ins' : List Int} {is' : List ((Int × Int) × Int)} (hi : ins'.length ≤ G.l.length + 1) (his : is' = G.is ∨ (is' = G.is ++ [(p, 2 * (G.l.length : Int))] ∧ p ≠ (-1, -1))) (hr : ¬ 200000 ≤ G.l.length) : G.Up ⟨G.l ++ [p], is', ins'⟩ := by
  have h0 := ok.pos
  have hget : ∀ (k : Nat) (q : Int × Int), (G.l ++ [p])[k]? = some q → G.l[k]? = some q ∨ (k = G.l.length ∧ q = p) := by
    intro k q hq
    rw [List.getElem?_append] at hq
    split at hq
    · exact .inl hq
    · rename_i hk
      have : k - G.l.length = 0 := by
        rcases h : k - G.l.length with _ | n
        · rfl
        · rw [h] at hq; simp at hq
      rw [this] at hq
      exact .inr ⟨by omega, by simpa using hq.symm⟩
  have hold : ∀ (k : Nat) (q : Int × Int), G.l[k]? = some q → (G.l ++ [p])[k]? = some q := by
    intro k q hq
    rw [List.getElem?_append_left (List.getElem?_eq_some_iff.1 hq).1]; exact hq
  refine ⟨⟨by simp, by simp; omega, by simpa using hi, fun k q hq => ?_, hold _ _ ok.n0, fun q e hqe => ?_⟩, [p], rfl⟩
  · rcases hget k q hq with h | ⟨rfl, rfl⟩
    · exact ok.nd k q h
    · exact hp
  · have hm : (q, e) ∈ G.is ∨ (q = p ∧ e = 2 * (G.l.length : Int) ∧ p ≠ (-1, -1)) := by
      rcases his with rfl | ⟨rfl, hne⟩
      · exact .inl hqe
      · rcases List.mem_append.1 hqe with h | h
        · exact .inl h
        · simp at h; exact .inr ⟨h.1, h.2, hne⟩
    rcases hm with hm | ⟨rfl, rfl, hne⟩
    · obtain ⟨k, a, b, c, d⟩ := ok.is q e hm
      exact ⟨k, a, b, hold _ _ c, d⟩
    · exact ⟨G.l.length, rfl, h0, by simp, hne⟩
theorem lookPI_mem : ∀ (is : List ((Int × Int) × Int)) (a b : Int) (i : Nat) (r : Nat × Int), lookPI is a b i = some r → ((a, b), r.2) ∈ is
  | [], _, _, _, _, h => by simp [lookPI] at h
  | ((x, y), e) :: l, a, b, i, r, h => by
    unfold lookPI at h
    split at h
    · rename_i hxy; cases h; obtain ⟨rfl, rfl⟩ := hxy; simp
    · exact List.mem_cons_of_mem _ (lookPI_mem l a b _ r h)
theorem Gr.ands_up {G : Gr} (ok : G.OK) {a b : Int} (ha : G.E a) (hb : G.E b) (hab : a ≤ b) : G.Up (G.ands a b).2 ∧ (G.ands a b).2.E (G.ands a b).1 := by
  unfold Gr.ands
  split
  · exact ⟨.refl ok, E_0 ok⟩
  · split
    · exact ⟨.refl ok, hb⟩
    · rename_i h1 h2
      split
      · rename_i i e he
        refine ⟨.refl ok, ?_⟩
        obtain ⟨k, x, y, z, _⟩ := ok.is _ _ (lookPI_mem _ _ _ _ _ he)
        have := (List.getElem?_eq_some_iff.1 z).1
        simp only at x
        unfold Gr.E; simp only; omega
      · split
        · exact ⟨.refl ok, E_0 ok⟩
        · rename_i hr
          have := ok.pos
          have := ok.inl
          unfold Gr.E at ha hb
          refine ⟨put_ok ok (.inr ⟨by simp only; omega, by simp only; omega, by simp only; omega⟩) (by omega) (.inr ⟨rfl, ?_⟩) hr, ?_⟩
          · intro e; have := congrArg Prod.fst e; simp only at this; omega
          · unfold Gr.E; simp; omega
theorem Gr.and_up {G : Gr} (ok : G.OK) (a b : Int) : G.Up (G.and a b).2 ∧ (G.and a b).2.E (G.and a b).1 := by
  unfold Gr.and
  split
  · exact ands_up ok (edge_E ok b) (edge_E ok a) (by omega)
  · exact ands_up ok (edge_E ok a) (edge_E ok b) (by omega)
theorem Gr.input_up {G : Gr} (ok : G.OK) : G.Up G.input.2 ∧ G.input.2.E G.input.1 := by
  unfold Gr.input
  split
  · exact ⟨.refl ok, E_0 ok⟩
  · rename_i hr
    have := ok.inl
    exact ⟨put_ok ok (.inl rfl) (by simp; omega) (.inl rfl) hr, by unfold Gr.E; simp; omega⟩
def gr0 : Gr := ⟨[(-1, -1)], [], []⟩
theorem gr0_ok : gr0.OK := by
  refine ⟨by simp [gr0], by simp [gr0], by simp [gr0], fun k p h => ?_, rfl, fun p e h => by simp [gr0] at h⟩
  rcases k with _ | k
  · simp [gr0] at h; exact .inl h.symm
  · simp [gr0] at h
/-! ### More of the walk -/
theorem input_g {h : H} {F : Nat → Prop} {gid : Nat} {G : Gr} (hG : GraphAt h F gid G) (wf : WFH h) (ok : G.OK) :
    Runs E 28 [.ptr gid 0] h fun v h' => GPost h h' F gid G.input.2 ∧ v = .int .i64 G.input.1 := by
  unfold Gr.input
  have h1 := ok.inl
  have h2 := ok.top
  by_cases hr : 200000 ≤ G.l.length
  · rw [if_pos hr]
    refine Runs.mono (Q := fun v h' => GPost h h' F gid G ∧ v = .int .i64 0) ?_ fun v h' q => q
    refine (Runs.ofX Tryd.func28 rfl rfl rfl rfl (fun _ => rfl) ?_)
    simp [Tryd.f28]
    refine (putG_run hG wf h2 (-1) (-1)).mono fun v h1 q => ?_
    obtain ⟨q, rfl⟩ := q
    unfold Gr.put at q
    rw [if_pos hr] at q
    simp [Gr.put, hr]
    exact q
  · rw [if_neg hr]
    exact (input_run hG wf ok.pos (by omega) (by omega)).mono fun v h' q => ⟨⟨q.1, q.2.2.1, q.2.2.2⟩, q.2.1⟩
theorem and_g {h : H} {F : Nat → Prop} {gid : Nat} {G : Gr} (hG : GraphAt h F gid G) (wf : WFH h) (ok : G.OK) {a b : Int} (ha : a ≤ 9223372036854775807) (hb : b ≤ 9223372036854775807) :
    Runs E 19 [.ptr gid 0, .int .i64 a, .int .i64 b] h fun v h' => GPost h h' F gid (G.and a b).2 ∧ v = .int .i64 (G.and a b).1 := and_run hG wf ok.pos ok.top ha hb
theorem edge_g {h : H} {F : Nat → Prop} {gid : Nat} {G : Gr} (hG : GraphAt h F gid G) {e : Int} (h1 : e ≤ 9223372036854775807) (K) (t) : uRuns E 49 [.ptr gid 0, .int .i64 e] h K t = K (.int .i64 (G.edge e)) h := edge_e hG h1 K t
theorem not_g {e : Int} (h0 : 0 ≤ e) (h1 : e < 4611686018427387904) (h : H) (K) (t) : uRuns E 18 [.int .i64 e] h K t = K (.int .i64 (nt e)) h := not_e h0 h1 h K t
end Go.Proofs.YtjlabjncojhjkaaDoor
