/- A part of the proof of a law of the given program: contracts of functions over the clean heap. -/
import Derived.Test.YtjlabjncojhjkaaDoorC4
namespace Go.Proofs.YtjlabjncojhjkaaDoor
open Go Go.Cv
/-- cnf.Lit -/
theorem mlit_run {h : H} {F Fg : Nat → Prop} {k gid : Nat} {M : Mk} {G : Gr} (hG : GraphAt h Fg gid G) (gok : G.OK) (hM : MakerAt h F k gid M) (dis : ∀ i, Fg i → ¬ F i) (wf : WFH h) (ok : M.OK G.l.length) {e : Int} (he : G.E e) :
    Runs E 15 [.ptr k 0, .int .i64 e] h fun v h' => ∃ M', MPost h h' F k gid M' ∧ M.To M' ∧ M'.OK G.l.length ∧ M'.v (e / 2) ≠ 0 ∧ (M.v (e / 2) ≠ 0 → M' = M) ∧ v = .int .i64 (if e % 2 = 1 then - M'.v (e / 2) else M'.v (e / 2)) := by
  have htop := gok.top
  have hb := he.b gok
  unfold Gr.E at he
  obtain ⟨oid, nv, k1, k2, k3, n1, f1, f2⟩ := hM.ex
  have g1 := H.lt_next wf k1
  have e1 : e.tdiv 2 = e / 2 := Int.tdiv_eq_ediv_of_nonneg (by omega)
  have e2 : IntKind.i64.wrap (e / 2) = e / 2 := wrap64 (by omega) (by omega)
  have e3 : ¬ (e < 0) := by omega
  have e4 : ¬ ((G.l.length : Int) ≤ e / 2) := by omega
  have hnodes := nodes_u hG wf
  obtain ⟨n, hn⟩ := Int.eq_ofNat_of_zero_le (show 0 ≤ e / 2 by omega)
  have hn' : n < G.l.length := by omega
  refine Runs.ofX Tryd.func15 rfl rfl rfl rfl (fun _ => rfl) ?_
  simp [Tryd.f15, e3, e1, e2, k1, far g1, hnodes, e4]
  rw [hn]
  refine (need_run hG gok hM dis wf ok hn').mono fun v h' ⟨M', p1, p2, p3, p4, p5⟩ => ?_
  have r := Mk.v_rng p3 (n : Int)
  have l := p3.len
  have hl := lit_u p1.at_ p1.gr.wf (e := e) (by omega) (by omega) (by rw [hn]; omega) (by rw [hn]; omega)
  rw [hn] at hl
  simp [hl]
  exact ⟨M', p1, p2, p3, p4, p5, rfl⟩
/-- A list of numbers in the heap. -/
def SlAt (h : H) (v : CV) (l : List Int) : Prop := ∃ id, v = .ref id 0 l.length 1 ∧ h.get id = some (.cells (ints l))
def atL (l : List Int) (n : Int) : Int :=
  let m := max n 0
  let e := l.getD ((m / 2) % (l.length : Int)).toNat 0
  if m % 2 = 1 then nt e else e
theorem at_u {h : H} {id : Nat} {l : List Int} (wf : WFH h) (hl : h.get id = some (.cells (ints l))) (h0 : l ≠ []) (hlen : l.length ≤ 1000000) (hb : ∀ e ∈ l, 0 ≤ e ∧ e < 400000) {n : Int} (hn : n ≤ 9223372036854775807) (K) (t) :
    uRuns E 20 [.ref id 0 l.length 1, .int .i64 n] h K t = K (.int .i64 (atL l n)) h := by
  have g1 := H.lt_next wf hl
  have hp : 0 < l.length := List.length_pos_iff.2 h0
  have z1 : (if n < 0 then (0 : Int) else n) = max n 0 := by omega
  have z2 : (if 0 > n then (0 : Int) else n) = max n 0 := by omega
  unfold atL
  obtain ⟨m, hm⟩ := Int.eq_ofNat_of_zero_le (show 0 ≤ max n 0 by omega)
  have d1 : (m : Int).tdiv 2 = (m : Int) / 2 := Int.tdiv_eq_ediv_of_nonneg (by omega)
  have d2 : IntKind.i64.wrap ((m : Int) / 2) = (m : Int) / 2 := wrap64 (by omega) (by omega)
  have j0 := Int.emod_nonneg ((m : Int) / 2) (show (l.length : Int) ≠ 0 by omega)
  have j1 := Int.emod_lt_of_pos ((m : Int) / 2) (show 0 < (l.length : Int) by omega)
  have d3 : ((m : Int) / 2).tmod (l.length : Int) = (m : Int) / 2 % l.length := Int.tmod_eq_emod_of_nonneg (by omega)
  simp only [hm]
  obtain ⟨j, hj⟩ := Int.eq_ofNat_of_zero_le j0
  rw [hj] at d3 j1 ⊢
  have d4 : IntKind.i64.wrap (j : Int) = j := wrap64 (by omega) (by omega)
  have d5 : (m : Int).tmod 2 = m % 2 := Int.tmod_eq_emod_of_nonneg (by omega)
  have d6 : IntKind.i64.wrap ((m : Int) % 2) = m % 2 := wrap64 (by omega) (by omega)
  have j2 : j < l.length := by omega
  obtain ⟨e, he⟩ : ∃ e, l[j]? = some e := ⟨_, List.getElem?_eq_getElem j2⟩
  have hbe := hb e (List.mem_of_getElem? he)
  have d7 : ∀ hh : j < l.length, l[j]'hh = e := fun hh => by simpa [hh] using he
  have hx := not_g hbe.1 (by omega)
  have d8 : l.getD j 0 = e := by rw [List.getD_eq_getElem?_getD, he]; rfl
  refine Runs.det (Runs.ofX Tryd.func20 rfl rfl rfl rfl (fun _ => rfl) ?_)
  simp only [Int.toNat_natCast, d8]
  by_cases c : (m : Int) % 2 = 1
  · simp [Tryd.f20, z1, z2, hm, d1, d2, h0, d3, d4, d5, d6, j2, hl, far g1, ints, he, d7, c, hx]
    trace_state
  · simp [Tryd.f20, z1, z2, hm, d1, d2, h0, d3, d4, d5, d6, j2, hl, far g1, ints, he, d7, c, hx]
    trace_state
end Go.Proofs.YtjlabjncojhjkaaDoor
