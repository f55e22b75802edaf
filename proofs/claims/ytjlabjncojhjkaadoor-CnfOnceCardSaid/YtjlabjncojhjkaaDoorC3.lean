/- A part of the proof of a law of the given program: contracts of functions over the clean heap. -/
import Derived.Test.YtjlabjncojhjkaaDoorC2
import Derived.Test.YtjlabjncojhjkaaDoorCv20
namespace Go.Proofs.YtjlabjncojhjkaaDoor
open Go Go.Cv
theorem lookI_app : ∀ (l : List (Int × Int)) (n v a : Int) (i : Nat), lookI (l ++ [(n, v)]) a i = match lookI l a i with | some r => some r | none => if a = n then some (i + l.length, v) else none
  | [], n, v, a, i => by simp [lookI]
  | (x, y) :: l, n, v, a, i => by
    have := lookI_app l n v a (i + 1)
    simp only [List.cons_append, lookI, List.length_cons]
    by_cases c : a = x
    · simp [c]
    · simp only [c, if_false, this]
      have e : i + 1 + l.length = i + (l.length + 1) := by omega
      rw [e]
theorem lookI_mem : ∀ (l : List (Int × Int)) (a : Int) (i : Nat) (r : Nat × Int), lookI l a i = some r → (a, r.2) ∈ l
  | [], _, _, _, h => by simp [lookI] at h
  | (x, v) :: l, a, i, r, h => by
    unfold lookI at h
    split at h
    · rename_i hx; cases h; subst hx; simp
    · exact List.mem_cons_of_mem _ (lookI_mem l a _ r h)
/-- How many nodes have no variable. -/
def free (of : List (Int × Int)) : Nat → Nat
  | 0 => 0
  | k + 1 => free of k + (if (lookI of k 0).isNone then 1 else 0)
theorem free_le (of : List (Int × Int)) : ∀ N, free of N ≤ N
  | 0 => Nat.le_refl _
  | N + 1 => by have := free_le of N; simp only [free]; split <;> omega
theorem free_put (of : List (Int × Int)) (n : Nat) (v : Int) (hn : lookI of n 0 = none) : ∀ N, free (of ++ [((n : Int), v)]) N + (if n < N then 1 else 0) = free of N
  | 0 => by simp [free]
  | N + 1 => by
    have ih := free_put of n v hn N
    simp only [free, lookI_app]
    by_cases h : n = N
    · subst h
      simp only [Nat.lt_irrefl, if_false] at ih
      simp [hn, ih]
    · have h2 : ¬ (N : Int) = n := by omega
      simp only [h2, if_false]
      have e : (if n < N + 1 then 1 else 0 : Nat) = if n < N then 1 else 0 := by
        by_cases c : n < N <;> simp [c] <;> omega
      rw [e]
      rcases lookI of N 0 <;> simp <;> omega
structure Mk.OK (M : Mk) (N : Nat) : Prop where
  rng : ∀ p ∈ M.of, 0 < p.2 ∧ p.2 ≤ M.of.length
  key : ∀ p ∈ M.of, 0 ≤ p.1 ∧ p.1 < N
  cnt : M.of.length + free M.of N = N
  lim : M.n ≤ 3 * M.of.length
structure Mk.To (M M' : Mk) : Prop where
  of : ∃ t, M'.of = M.of ++ t
  n : ∃ j, M'.n = M.n + 3 * j
theorem Mk.To.refl (M : Mk) : M.To M := ⟨⟨[], by simp⟩, ⟨0, by simp⟩⟩
theorem Mk.To.trans {M M' M'' : Mk} (a : M.To M') (b : M'.To M'') : M.To M'' := by
  obtain ⟨s, hs⟩ := a.of; obtain ⟨t, ht⟩ := b.of; obtain ⟨i, hi⟩ := a.n; obtain ⟨j, hj⟩ := b.n
  exact ⟨⟨s ++ t, by rw [ht, hs, List.append_assoc]⟩, ⟨i + j, by omega⟩⟩
theorem lookI_pre : ∀ (l t : List (Int × Int)) (a : Int) (i : Nat) (r), lookI l a i = some r → lookI (l ++ t) a i = some r
  | [], _, _, _, _, h => by simp [lookI] at h
  | (x, v) :: l, t, a, i, r, h => by
    simp only [List.cons_append, lookI] at *
    split at h
    · rename_i hx; rw [if_pos hx]; exact h
    · rename_i hx; rw [if_neg hx]; exact lookI_pre l t a _ r h
theorem Mk.v_some {M : Mk} {N : Nat} (ok : M.OK N) {k : Int} : M.v k ≠ 0 ↔ ∃ r, lookI M.of k 0 = some r := by
  unfold Mk.v
  rcases h : lookI M.of k 0 with _ | ⟨i, v⟩
  · simp
  · have := ok.rng _ (lookI_mem _ _ _ _ h)
    simp only at this
    simp; omega
theorem Mk.v_rng {M : Mk} {N : Nat} (ok : M.OK N) (k : Int) : 0 ≤ M.v k ∧ M.v k ≤ M.of.length := by
  unfold Mk.v
  rcases h : lookI M.of k 0 with _ | ⟨i, v⟩
  · simp
  · have := ok.rng _ (lookI_mem _ _ _ _ h)
    simp only at this ⊢
    omega
theorem Mk.To.v {M M' : Mk} {N : Nat} (a : M.To M') (ok : M.OK N) {k : Int} (h : M.v k ≠ 0) : M'.v k = M.v k := by
  obtain ⟨r, hr⟩ := (Mk.v_some ok).1 h
  obtain ⟨t, ht⟩ := a.of
  unfold Mk.v
  rw [ht, lookI_pre _ _ _ _ _ hr, hr]
theorem Mk.OK.len {M : Mk} {N : Nat} (ok : M.OK N) : M.of.length ≤ N := by have := ok.cnt; omega
def Mk.put (M : Mk) (n : Int) (and : Bool) : Mk := ⟨M.of ++ [(n, (M.of.length : Int) + 1)], if and then M.n + 3 else M.n⟩
theorem Mk.put_v {M : Mk} {N : Nat} (ok : M.OK N) {n : Int} (hn : M.v n = 0) (and : Bool) (k : Int) : (M.put n and).v k = if k = n then (M.of.length : Int) + 1 else M.v k := by
  have h0 : lookI M.of n 0 = none := by
    rcases h : lookI M.of n 0 with _ | r
    · rfl
    · exact absurd hn ((Mk.v_some ok).2 ⟨r, h⟩)
  unfold Mk.v Mk.put
  simp only [lookI_app]
  by_cases c : k = n
  · subst c; simp [h0]
  · rcases lookI M.of k 0 <;> simp [c]
theorem Mk.put_ok {M : Mk} {N n : Nat} (ok : M.OK N) (h : n < N) (hn : M.v n = 0) (and : Bool) : (M.put n and).OK N ∧ M.To (M.put n and) ∧ free (M.put n and).of N + 1 = free M.of N := by
  have h0 : lookI M.of n 0 = none := by
    rcases h : lookI M.of n 0 with _ | r
    · rfl
    · exact absurd hn ((Mk.v_some ok).2 ⟨r, h⟩)
  have hf := free_put M.of n ((M.of.length : Int) + 1) h0 N
  rw [if_pos h] at hf
  have hc := ok.cnt
  have hl := ok.lim
  refine ⟨⟨fun p hp => ?_, fun p hp => ?_, ?_, ?_⟩, ⟨⟨_, rfl⟩, ⟨if and then 1 else 0, by unfold Mk.put; cases and <;> simp⟩⟩, hf⟩
  · unfold Mk.put at hp ⊢
    simp only [List.mem_append, List.mem_singleton, List.length_append, List.length_singleton] at hp ⊢
    rcases hp with hp | rfl
    · have := ok.rng p hp; omega
    · simp only; omega
  · unfold Mk.put at hp
    simp only [List.mem_append, List.mem_singleton] at hp
    rcases hp with hp | rfl
    · exact ok.key p hp
    · simp only; omega
  · unfold Mk.put
    simp only [List.length_append, List.length_singleton]
    omega
  · unfold Mk.put
    simp only [List.length_append, List.length_singleton]
    cases and <;> simp <;> omega
theorem insC_ints {l : List (Int × Int)} {a : Int} (hn : lookI l a 0 = none) (e : Int) : insC false [.int .i64] (mapI l) (.int .i64 a) (.int .i64 e) = some (mapI (l ++ [(a, e)])) := by
  unfold insC
  rw [findC_ints, hn]
  simp [keyC, keyCells, cmpL, cmpC, mapI]
/-- cnf.put -/
theorem mput_run {h : H} {F : Nat → Prop} {k gid : Nat} {M : Mk} {N : Nat} (hM : MakerAt h F k gid M) (wf : WFH h) (ok : M.OK N) (hN : N ≤ 200000) {n : Nat} (hn : n < N) (hv : M.v n = 0) {a b : Int} {and : Bool} (hab : and = true → 0 ≤ a ∧ a < 400000 ∧ 0 ≤ b ∧ b < 400000) :
    Runs E 65 [.ptr k 0, .int .i64 n, .int .i64 a, .int .i64 b, .bool and] h fun v h' => MPost h h' F k gid (M.put n and) := by
  have hok := Mk.put_ok ok hn hv and
  have hlen := ok.len
  have hlim := ok.lim
  have h0 : lookI M.of n 0 = none := by
    rcases h : lookI M.of n 0 with _ | r
    · rfl
    · exact absurd hv ((Mk.v_some ok).2 ⟨r, h⟩)
  obtain ⟨oid, nv, k1, k2, k3, n1, f1, f2⟩ := hM.ex
  have g1 := H.lt_next wf k1
  have g2 := H.lt_next wf k2
  have w1 : IntKind.i64.wrap ((M.of.length : Int) + 1) = (M.of.length : Int) + 1 := wrap64 (by omega) (by omega)
  have hM1 : MakerAt (h.put oid (.map (mapI (M.of ++ [((n : Int), (M.of.length : Int) + 1)])))) F k gid (M.put n false) := by
    refine ⟨oid, nv, ?_, ?_, ?_, n1, f1, f2⟩
    · rw [H.get_put, if_neg n1]; exact k1
    · rw [H.get_put, if_pos rfl]; rfl
    · rcases k3 with w | ⟨i, cs, x, y, c, d⟩
      · exact .inl w
      · exact .inr ⟨i, cs, x, by rw [H.get_put, if_neg d.2.2]; exact y, c, d⟩
  have wf1 := H.wf_put wf g2 (.map (mapI (M.of ++ [((n : Int), (M.of.length : Int) + 1)])))
  have ok1 := (Mk.put_ok ok hn hv false).1
  have r1 := fun k => Mk.v_rng ok1 k
  have e1 : (M.put n false).of.length = M.of.length + 1 := by simp [Mk.put]
  rw [e1] at r1
  have lt := fun e h0 h1 hv hv0 => lit_u (e := e) hM1 wf1 h0 h1 hv hv0
  refine (Runs.grows E_ok E_mix (Q := fun v h' => MakerAt h' (fun i => F i ∨ h.next ≤ i) k gid (M.put n and) ∧ ∀ i, i < h.next → ¬ F i → h'.get i = h.get i) (Runs.ofX Tryd.func65 rfl rfl rfl rfl (fun _ => rfl) ?_) wf).mono fun v h' ⟨g, a, b⟩ => ⟨g, a, b⟩
  have hmap : (mapI M.of).length = M.of.length := by simp [mapI]
  cases and with
  | false =>
    simp [Tryd.f65, k1, k2, far g1, far g2, w1, hmap, insC_ints h0]
    exact ⟨hM1.mono fun _ => .inl, fun i hi hF e => absurd (e ▸ f2) hF⟩
  | true =>
    obtain ⟨a0, a1, b0, b1⟩ := hab rfl
    have ra := r1 (a / 2); have rb := r1 (b / 2)
    have la := lt a a0 a1 (by omega) (by omega); have lb := lt b b0 b1 (by omega) (by omega)
    generalize hx : (if a % 2 = 1 then -(M.put n false).v (a / 2) else (M.put n false).v (a / 2)) = x at la
    generalize hy : (if b % 2 = 1 then -(M.put n false).v (b / 2) else (M.put n false).v (b / 2)) = y at lb
    have bx : -200001 ≤ x ∧ x ≤ 200001 := by rw [← hx]; split <;> omega
    have by_ : -200001 ≤ y ∧ y ≤ 200001 := by rw [← hy]; split <;> omega
    have w2 : IntKind.i64.wrap (-((M.of.length : Int) + 1)) = -((M.of.length : Int) + 1) := wrap64 (by omega) (by omega)
    have w3 : IntKind.i64.wrap (-x) = -x := wrap64 (by omega) (by omega)
    have w4 : IntKind.i64.wrap (-y) = -y := wrap64 (by omega) (by omega)
    rcases k3 with ⟨rfl, hn0⟩ | ⟨nid, cs, rfl, k4, k5, k6⟩
    · simp [Tryd.f65, k1, k2, far g1, far g2, w1, w2, w3, w4, hmap, insC_ints h0, la, lb, n1, Nat.add_assoc]
      refine ⟨⟨oid, .ref (h.next + 4) 0 3 1, ?_⟩, fun i hi hF => ?_⟩
      · simp [n1, Ne.symm n1, far g1, far g2, k2, NextAt, f1, f2, Mk.put, hn0, Nat.add_assoc]
      · have t1 : i ≠ k := fun e => hF (e ▸ f1)
        have t2 : i ≠ oid := fun e => hF (e ▸ f2)
        simp [t1, t2, far hi]
    · have g3 := H.lt_next wf k4
      have s0 : M.n ≤ 600000 := Nat.le_trans hlim (Nat.mul_le_mul_left 3 (Nat.le_trans hlen hN))
      have s1 : (M.n + 3) * 24 ≤ 140737488355328 := Nat.le_trans (Nat.mul_le_mul_right 24 (Nat.add_le_add_right s0 3)) (by decide)
      have s2 : M.n ≤ 140737488355325 := Nat.le_trans s0 (by decide)
      have s3 : List.take M.n cs = cs := List.take_of_length_le (by omega)
      simp [Tryd.f65, k1, k2, far g1, far g2, w1, w2, w3, w4, hmap, insC_ints h0, la, lb, n1, k6.2.1, k6.2.2, Ne.symm k6.2.1, Ne.symm k6.2.2, k4, k5, far g3, Nat.add_assoc, s1, s2, s3]
      refine ⟨⟨oid, .ref (h.next + 4) 0 (M.n + 3) 1, ?_⟩, fun i hi hF => ?_⟩
      · simp [n1, Ne.symm n1, far g1, far g2, far g3, k2, NextAt, f1, f2, Mk.put, k5, k6.2.2, Ne.symm k6.2.2, Nat.add_assoc]
      · have t1 : i ≠ k := fun e => hF (e ▸ f1)
        have t2 : i ≠ oid := fun e => hF (e ▸ f2)
        have t3 : i ≠ nid := fun e => hF (e ▸ k6.1)
        simp [t1, t2, t3, far hi]
end Go.Proofs.YtjlabjncojhjkaaDoor
