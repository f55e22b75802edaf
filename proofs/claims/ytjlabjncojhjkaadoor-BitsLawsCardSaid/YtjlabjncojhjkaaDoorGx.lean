/- A part of the proof of a law of the given program: contracts of functions over the clean heap. -/
import Derived.Test.YtjlabjncojhjkaaDoorSeatG1
import Derived.Test.YtjlabjncojhjkaaDoorCv19
namespace Go.Proofs.YtjlabjncojhjkaaDoor
open Go Go.Cv
theorem wrap64 {x : Int} (h1 : -9223372036854775808 ≤ x) (h2 : x ≤ 9223372036854775807) : IntKind.i64.wrap x = x := by
  have hb : IntKind.i64.bits = 64 := rfl
  have hs : IntKind.i64.signed = true := rfl
  unfold IntKind.wrap
  simp only [hb, hs, Bool.true_and, decide_eq_true_eq]
  simp only [Nat.reduceSub, Int.reducePow]
  split <;> omega
@[simp] theorem E_G0 : E.G 0 = some [.int .i64 (-1), .int .i64 (-1)] := rfl
/-- graph.edge -/
theorem edge_u {gid lid n : Nat} {mp inp : CV} {h : H} {e : Int} (hg : h.get gid = some (.cells [.ref lid 0 n 2, mp, inp])) (K) (t) :
    uRuns E 49 [.ptr gid 0, .int .i64 e] h K t = K (.int .i64 (if e < 0 ∨ (n : Int) ≤ IntKind.i64.wrap (e.tdiv 2) then 0 else e)) h := by
  refine Runs.det (Runs.ofX Tryd.func49 rfl rfl rfl rfl (fun _ => rfl) ?_)
  by_cases he : e < 0
  · simp [Tryd.f49, he]
  · simp [Tryd.f49, he, hg]
    omega
/-- graph.put, where there is room. -/
theorem put_u {gid lid n : Nat} {mp inp : CV} {h : H} {a b : Int} {cs : List CV} (hg : h.get gid = some (.cells [.ref lid 0 n 2, mp, inp])) (hl : h.get lid = some (.cells cs)) (hc : cs.length = n * 2) (hn : n < 200000) (wf : WFH h) (hne : gid ≠ lid) :
    Runs E 50 [.ptr gid 0, .agg [.int .i64 a, .int .i64 b]] h fun v h' => v = .int .i64 (2 * n) ∧ (∃ lid', h.next ≤ lid' ∧ lid' < h'.next ∧ h'.get lid' = some (.cells (cs ++ [.int .i64 a, .int .i64 b])) ∧ h'.get gid = some (.cells [.ref lid' 0 (n + 1) 2, mp, inp])) ∧
      ∀ i, i < h.next → i ≠ gid → i ≠ lid → h'.get i = h.get i := by
  have g1 := H.lt_next wf hg
  have g2 := H.lt_next wf hl
  have hn' : (n : Int) < 200000 := by omega
  have hn2 : (n + 1) * 16 ≤ 140737488355328 := by omega
  have hn3 : n ≤ 140737488355327 := by omega
  refine (Runs.ofX Tryd.func50 rfl rfl rfl rfl (fun _ => rfl) ?_)
  simp [Tryd.f50, hg, far g1, Int.not_le.2 hn']
  refine xX_drawn [0, 0, 2, 6, 14, 0, 32, 126, 255, 511, 1023] rfl (by kernel_rfl) ?_
  simp [hg, hl, far g1, far g2, hc, hne, hn2, hn3, Nat.add_assoc, List.take_of_length_le]
  refine ⟨by rw [wrap64 (x := (n : Int)), wrap64] <;> omega, ⟨h.next + 2, by omega, by omega, ?_, rfl⟩, fun i a b c => ?_⟩
  · have : ¬ h.next + 2 = gid := by omega
    simp [this]
  · simp [b, c, far a]

/-! ### Graphs -/
structure Gr where
  l : List (Int × Int)
  is : List ((Int × Int) × Int)
  ins : List Int
def cells2 (l : List (Int × Int)) : List CV := l.flatMap fun p => [.int .i64 p.1, .int .i64 p.2]
theorem cells2_len (l : List (Int × Int)) : (cells2 l).length = l.length * 2 := by
  induction l with
  | nil => rfl
  | cons p l ih => simp [cells2] at *; omega
theorem cells2_snoc (l : List (Int × Int)) (p : Int × Int) : cells2 (l ++ [p]) = cells2 l ++ [.int .i64 p.1, .int .i64 p.2] := by simp [cells2]
def mapE (is : List ((Int × Int) × Int)) : List (CV × CV) := is.map fun p => (.agg [.int .i64 p.1.1, .int .i64 p.1.2], .int .i64 p.2)
def ints (l : List Int) : List CV := l.map fun n => .int .i64 n
/-- The list of inputs. -/
def InsAt (h : H) (F : Nat → Prop) (v : CV) (ins : List Int) : Prop := (v = .nils ∧ ins = []) ∨ ∃ iid, v = .ref iid 0 ins.length 1 ∧ h.get iid = some (.cells (ints ins)) ∧ F iid
/-- A graph lies in the heap, in objects of F. -/
structure GraphAt (h : H) (F : Nat → Prop) (gid : Nat) (G : Gr) : Prop where
  ex : ∃ lid mid insv, h.get gid = some (.cells [.ref lid 0 G.l.length 2, .map mid, insv]) ∧ h.get lid = some (.cells (cells2 G.l)) ∧ h.get mid = some (.map (mapE G.is)) ∧ InsAt h (fun i => F i ∧ i ≠ gid ∧ i ≠ lid ∧ i ≠ mid) insv G.ins ∧
    gid ≠ lid ∧ gid ≠ mid ∧ lid ≠ mid ∧ F gid ∧ F lid ∧ F mid
theorem new_run (h : H) : Runs E 22 [] h fun v h' => ∃ gid, v = .ptr gid 0 ∧ GraphAt h' (fun i => h.next ≤ i) gid ⟨[(-1, -1)], [], []⟩ ∧ ∀ i, i < h.next → h'.get i = h.get i := by
  refine (Runs.ofX Tryd.func22 rfl rfl rfl rfl (fun _ => rfl) ?_)
  simp [Tryd.f22]
  refine ⟨⟨h.next, h.next + 1, .nils, ?_⟩, fun i hi => ?_⟩
  · simp [cells2, mapE, InsAt, Nat.add_assoc]
  · simp [far hi, Nat.add_assoc]
end Go.Proofs.YtjlabjncojhjkaaDoor
namespace Go.Proofs.YtjlabjncojhjkaaDoor
open Go Go.Cv
/-- graph.put over a graph. -/
theorem put_run {h : H} {F : Nat → Prop} {gid : Nat} {G : Gr} (hG : GraphAt h F gid G) (wf : WFH h) (hn : G.l.length < 200000) (a b : Int) :
    Runs E 50 [.ptr gid 0, .agg [.int .i64 a, .int .i64 b]] h fun v h' => Grows h h' ∧ v = .int .i64 (2 * G.l.length) ∧ GraphAt h' (fun i => F i ∨ h.next ≤ i) gid { G with l := G.l ++ [(a, b)] } ∧ ∀ i, i < h.next → ¬ F i → h'.get i = h.get i := by
  obtain ⟨lid, mid, insv, h1, h2, h3, h4, n1, n2, n3, f1, f2, f3⟩ := hG.ex
  have m1 := H.lt_next wf h3
  have q1 := H.lt_next wf h1
  refine (Runs.grows E_ok E_mix (put_u h1 h2 (cells2_len _) hn wf n1) wf).mono fun v h' hh => ?_
  obtain ⟨gr, rfl, ⟨lid', l1, l2, l3, l4⟩, fr⟩ := hh
  refine ⟨gr, rfl, ⟨lid', mid, insv, by simpa using l4, by rw [cells2_snoc]; exact l3, by rw [fr mid m1 (Ne.symm n2) (Ne.symm n3)]; exact h3, ?_, by omega, n2, by omega, .inl f1, .inr l1, .inl f3⟩, fun i hi hF => fr i hi (fun e => hF (e ▸ f1)) (fun e => hF (e ▸ f2))⟩
  rcases h4 with h4 | ⟨iid, e1, e2, e3, e4, e5, e6⟩
  · exact .inl h4
  · have := H.lt_next wf e2
    exact .inr ⟨iid, e1, by rw [fr iid this e4 e5]; exact e2, .inl e3, e4, by omega, e6⟩
theorem input_run {h : H} {F : Nat → Prop} {gid : Nat} {G : Gr} (hG : GraphAt h F gid G) (wf : WFH h) (h0 : 0 < G.l.length) (hn : G.l.length < 200000) (hb : G.ins.length ≤ 2000000) :
    Runs E 28 [.ptr gid 0] h fun v h' => Grows h h' ∧ v = .int .i64 (2 * G.l.length) ∧ GraphAt h' (fun i => F i ∨ h.next ≤ i) gid { G with l := G.l ++ [(-1, -1)], ins := G.ins ++ [2 * (G.l.length : Int)] } ∧ ∀ i, i < h.next → ¬ F i → h'.get i = h.get i := by
  refine (Runs.grows E_ok E_mix ?_ wf)
  refine (Runs.ofX Tryd.func28 rfl rfl rfl rfl (fun _ => rfl) ?_)
  simp [Tryd.f28]
  refine (put_run hG wf hn (-1) (-1)).mono fun v h1 hh => ?_
  obtain ⟨gr, rfl, hG1, fr⟩ := hh
  obtain ⟨lid, mid, insv, k1, k2, k3, k4, n1, n2, n3, f1, f2, f3⟩ := hG1.ex
  have g1 := H.lt_next gr.wf k1
  have hp : (0 : Int) < 2 * G.l.length := by omega
  have hi : G.ins.length ≤ 2000000 := hb
  rcases k4 with ⟨rfl, he⟩ | ⟨iid, rfl, e2, e3, e4, e5, e6⟩
  · simp only at he
    simp [hp, k1, far g1]
    refine ⟨⟨lid, mid, .ref (h1.next + 1) 0 1 1, ?_⟩, fun i hi hF => ?_⟩
    · have g2 := H.lt_next gr.wf k2
      have g3 := H.lt_next gr.wf k3
      simp [n1, n2, n3, Ne.symm n1, Ne.symm n2, far g1, far g2, far g3, k2, k3, InsAt, he, ints, f1, f2, f3]
      have := gr.nx
      omega
    · have hi' := Nat.lt_of_lt_of_le hi gr.nx
      have : i ≠ gid := fun e => (e ▸ f1).elim hF (by omega)
      simp [this, far hi', fr i hi hF]
  · have g4 := H.lt_next gr.wf e2
    simp only at e2
    have b1 : (G.ins.length + 1) * 8 ≤ 140737488355328 := by omega
    have b2 : G.ins.length ≤ 140737488355327 := by omega
    have b3 : List.take G.ins.length (List.map (fun n => CV.int IntKind.i64 n) G.ins) = List.map (fun n => CV.int IntKind.i64 n) G.ins := List.take_of_length_le (by simp)
    have g2 := H.lt_next gr.wf k2
    have g3 := H.lt_next gr.wf k3
    simp [hp, k1, far g1, far g4, e2, ints, b1, b2, b3, Ne.symm e4]
    refine ⟨⟨lid, mid, .ref (h1.next + 1) 0 (G.ins.length + 1) 1, ?_⟩, fun i hi hF => ?_⟩
    · simp [n1, n2, n3, Ne.symm n1, Ne.symm n2, far g1, far g2, far g3, k2, k3, InsAt, ints, f1, f2, f3, Ne.symm e5, Ne.symm e6]
      have := gr.nx
      omega
    · have hi' := Nat.lt_of_lt_of_le hi gr.nx
      have t1 : i ≠ gid := fun e => (e ▸ f1).elim hF (by omega)
      have t2 : i ≠ iid := fun e => (e ▸ e3).elim hF (by omega)
      simp [t1, t2, far hi', fr i hi hF]
end Go.Proofs.YtjlabjncojhjkaaDoor
namespace Go.Proofs.YtjlabjncojhjkaaDoor
open Go Go.Cv
theorem not_u (e : Int) (h : H) (K) (t) : uRuns E 18 [.int .i64 e] h K t = K (.int .i64 (IntKind.i64.wrap (BitVec.ofInt 64 e ^^^ BitVec.ofInt 64 1).toNat)) h := Runs.det ⟨1, _, _, by kernel_rfl, rfl, rfl⟩
theorem not_e {e : Int} (h0 : 0 ≤ e) (h1 : e < 4611686018427387904) (h : H) (K) (t) : uRuns E 18 [.int .i64 e] h K t = K (.int .i64 (if e % 2 = 0 then e + 1 else e - 1)) h := by rw [not_u, not_val h0 h1]
/-- Where a pair stands in the map. -/
def lookPI : List ((Int × Int) × Int) → Int → Int → Nat → Option (Nat × Int)
  | [], _, _, _ => none
  | ((x, y), e) :: r, a, b, i => if a = x ∧ b = y then some (i, e) else lookPI r a b (i + 1)
theorem findC_pairs (a b : Int) : ∀ (is : List ((Int × Int) × Int)) (i : Nat), findC true [.int .i64, .int .i64] (.agg [.int .i64 a, .int .i64 b]) (mapE is) i = some ((lookPI is a b i).map fun p => (p.1, .int .i64 p.2))
  | [], i => by simp [mapE, findC, lookPI]
  | ((x, y), e) :: r, i => by
    have ih := findC_pairs a b r (i + 1)
    simp only [mapE, List.map_cons] at *
    simp only [findC, keyCells, cmpL, cmpC, if_true, lookPI]
    by_cases h1 : a = x
    · by_cases h2 : b = y
      · simp [h1, h2]
      · have e2 : (b == y) = false := by simpa using h2
        simp only [e2, Bool.and_true, Bool.and_false, h2, and_false, if_false]
        exact ih
    · have e1 : (a == x) = false := by simpa using h1
      simp only [e1, Bool.false_and, h1, false_and, if_false]
      exact ih
end Go.Proofs.YtjlabjncojhjkaaDoor
namespace Go.Proofs.YtjlabjncojhjkaaDoor
open Go Go.Cv

/-- An edge that the graph has. -/
def Gr.edge (G : Gr) (e : Int) : Int := if e < 0 ∨ 2 * (G.l.length : Int) ≤ e then 0 else e
theorem edge_e {h : H} {F : Nat → Prop} {gid : Nat} {G : Gr} (hG : GraphAt h F gid G) {e : Int} (h1 : e ≤ 9223372036854775807) (K) (t) : uRuns E 49 [.ptr gid 0, .int .i64 e] h K t = K (.int .i64 (G.edge e)) h := by
  obtain ⟨lid, mid, insv, k1, _⟩ := hG.ex
  rw [edge_u k1]
  congr 2
  unfold Gr.edge
  by_cases he : e < 0
  · simp [he]
  · have : e.tdiv 2 = e / 2 := Int.tdiv_eq_ediv_of_nonneg (by omega)
    rw [this, wrap64 (by omega) (by omega)]
    have : ((G.l.length : Int) ≤ e / 2) ↔ (2 * (G.l.length : Int) ≤ e) := by omega
    simp [he, this]
end Go.Proofs.YtjlabjncojhjkaaDoor
namespace Go.Proofs.YtjlabjncojhjkaaDoor
open Go Go.Cv
/-! ### What the functions do, as functions of graphs -/
def nt (e : Int) : Int := if e % 2 = 0 then e + 1 else e - 1
def Gr.put (G : Gr) (p : Int × Int) : Int × Gr := if 200000 ≤ G.l.length then (0, G) else (2 * (G.l.length : Int), { G with l := G.l ++ [p] })
def Gr.input (G : Gr) : Int × Gr := if 200000 ≤ G.l.length then (0, G) else (2 * (G.l.length : Int), { G with l := G.l ++ [(-1, -1)], ins := G.ins ++ [2 * (G.l.length : Int)] })
def Gr.ands (G : Gr) (a b : Int) : Int × Gr :=
  if a = 0 ∨ a = nt b then (0, G) else if a = 1 ∨ a = b then (b, G) else
  match lookPI G.is a b 0 with
  | some (_, e) => (e, G)
  | none => if 200000 ≤ G.l.length then (0, G) else (2 * (G.l.length : Int), { G with l := G.l ++ [(a, b)], is := G.is ++ [((a, b), 2 * (G.l.length : Int))] })
def Gr.and (G : Gr) (a b : Int) : Int × Gr := if G.edge b < G.edge a then G.ands (G.edge b) (G.edge a) else G.ands (G.edge a) (G.edge b)
/-- A call over a graph: what it leaves. -/
structure GPost (h h' : H) (F : Nat → Prop) (gid : Nat) (G : Gr) : Prop where
  gr : Grows h h'
  at_ : GraphAt h' (fun i => F i ∨ h.next ≤ i) gid G
  fr : ∀ i, i < h.next → ¬ F i → h'.get i = h.get i
theorem InsAt.mono {h : H} {F F' : Nat → Prop} {v : CV} {ins : List Int} (w : InsAt h F v ins) (hf : ∀ i, F i → F' i) : InsAt h F' v ins := by
  rcases w with w | ⟨i, a, b, c⟩
  · exact .inl w
  · exact .inr ⟨i, a, b, hf i c⟩
theorem GraphAt.mono {h : H} {F F' : Nat → Prop} {gid : Nat} {G : Gr} (w : GraphAt h F gid G) (hf : ∀ i, F i → F' i) : GraphAt h F' gid G := by
  obtain ⟨lid, mid, insv, h1, h2, h3, h4, n1, n2, n3, f1, f2, f3⟩ := w.ex
  exact ⟨lid, mid, insv, h1, h2, h3, h4.mono fun i q => ⟨hf i q.1, q.2⟩, n1, n2, n3, hf _ f1, hf _ f2, hf _ f3⟩
theorem GraphAt.keep {h h' : H} {F : Nat → Prop} {gid : Nat} {G : Gr} (w : GraphAt h F gid G) (wf : WFH h) (hf : ∀ i, i < h.next → F i → h'.get i = h.get i) : GraphAt h' F gid G := by
  obtain ⟨lid, mid, insv, h1, h2, h3, h4, n1, n2, n3, f1, f2, f3⟩ := w.ex
  refine ⟨lid, mid, insv, by rw [hf _ (H.lt_next wf h1) f1]; exact h1, by rw [hf _ (H.lt_next wf h2) f2]; exact h2, by rw [hf _ (H.lt_next wf h3) f3]; exact h3, ?_, n1, n2, n3, f1, f2, f3⟩
  rcases h4 with w | ⟨i, a, b, c⟩
  · exact .inl w
  · exact .inr ⟨i, a, by rw [hf _ (H.lt_next wf b) c.1]; exact b, c⟩
theorem GraphAt.lt {h : H} {F : Nat → Prop} {gid : Nat} {G : Gr} (w : GraphAt h F gid G) (wf : WFH h) : GraphAt h (fun i => F i ∧ i < h.next) gid G := by
  obtain ⟨lid, mid, insv, h1, h2, h3, h4, n1, n2, n3, f1, f2, f3⟩ := w.ex
  refine ⟨lid, mid, insv, h1, h2, h3, ?_, n1, n2, n3, ⟨f1, H.lt_next wf h1⟩, ⟨f2, H.lt_next wf h2⟩, ⟨f3, H.lt_next wf h3⟩⟩
  rcases h4 with w | ⟨i, a, b, c⟩
  · exact .inl w
  · exact .inr ⟨i, a, b, ⟨c.1, H.lt_next wf b⟩, c.2⟩
theorem GPost.refl {h : H} {F : Nat → Prop} {gid : Nat} {G : Gr} (wf : WFH h) (w : GraphAt h F gid G) : GPost h h F gid G := ⟨.refl wf, w.mono fun _ => .inl, fun _ _ _ => rfl⟩
theorem GPost.trans {h h1 h2 : H} {F : Nat → Prop} {gid : Nat} {G G' : Gr} (a : GPost h h1 F gid G) (b : GPost h1 h2 (fun i => F i ∨ h.next ≤ i) gid G') : GPost h h2 F gid G' :=
  ⟨a.gr.trans b.gr, b.at_.mono fun i q => q.elim id fun q => .inr (Nat.le_trans a.gr.nx q), fun i hi hf => by
    rw [b.fr i (Nat.lt_of_lt_of_le hi a.gr.nx) (fun q => q.elim hf fun q => by omega), a.fr i hi hf]⟩
/-- .. where the caller does something of its own in between. -/
theorem edge_b {G : Gr} (hp : 0 < G.l.length) (e : Int) : 0 ≤ G.edge e ∧ G.edge e < 2 * (G.l.length : Int) := by
  unfold Gr.edge
  split <;> omega
theorem insC_pairs {is : List ((Int × Int) × Int)} {a b : Int} (hn : lookPI is a b 0 = none) (e : Int) : insC true [.int .i64, .int .i64] (mapE is) (.agg [.int .i64 a, .int .i64 b]) (.int .i64 e) = some (mapE (is ++ [((a, b), e)])) := by
  unfold insC
  rw [findC_pairs, hn]
  simp [keyC, keyCells, cmpL, cmpC, mapE]
/-- graph.put -/
theorem putG_run {h : H} {F : Nat → Prop} {gid : Nat} {G : Gr} (hG : GraphAt h F gid G) (wf : WFH h) (hL : G.l.length ≤ 200000) (a b : Int) :
    Runs E 50 [.ptr gid 0, .agg [.int .i64 a, .int .i64 b]] h fun v h' => GPost h h' F gid (G.put (a, b)).2 ∧ v = .int .i64 (G.put (a, b)).1 := by
  unfold Gr.put
  by_cases hn : G.l.length < 200000
  · rw [if_neg (by omega)]
    exact (put_run hG wf hn a b).mono fun v h' q => ⟨⟨q.1, q.2.2.1, q.2.2.2⟩, q.2.1⟩
  · rw [if_pos (by omega)]
    obtain ⟨lid, mid, insv, k1, k2, k3, k4, n1, n2, n3, f1, f2, f3⟩ := hG.ex
    have g1 := H.lt_next wf k1
    have e1 : (200000 : Int) ≤ G.l.length := by omega
    refine (Runs.grows E_ok E_mix (Q := fun v h' => (∀ i, i < h.next → h'.get i = h.get i) ∧ v = .int .i64 0) (Runs.ofX Tryd.func50 rfl rfl rfl rfl (fun _ => rfl) ?_) wf).mono fun v h' q => ⟨⟨q.1, (hG.keep wf fun i hi _ => q.2.1 i hi).mono fun _ => .inl, fun i hi _ => q.2.1 i hi⟩, q.2.2⟩
    simp [Tryd.f50, k1, far g1, e1]
    try (intro i hi; simp [far hi])
/-- The map takes a new pair. -/
theorem GraphAt.is {h : H} {F : Nat → Prop} {gid : Nat} {G : Gr} {lid mid : Nat} {insv : CV} (w : GraphAt h F gid G) (hg : h.get gid = some (.cells [.ref lid 0 G.l.length 2, .map mid, insv])) (is : List ((Int × Int) × Int)) :
    GraphAt (h.put mid (.map (mapE is))) F gid { G with is := is } := by
  obtain ⟨lid', mid', insv', h1, h2, h3, h4, n1, n2, n3, f1, f2, f3⟩ := w.ex
  rw [hg] at h1
  obtain ⟨rfl, rfl, rfl⟩ : lid = lid' ∧ mid = mid' ∧ insv = insv' := by simpa using h1
  refine ⟨lid, mid, insv, ?_, ?_, ?_, ?_, n1, n2, n3, f1, f2, f3⟩
  · rw [H.get_put, if_neg n2]; exact hg
  · rw [H.get_put, if_neg n3]; exact h2
  · rw [H.get_put, if_pos rfl]
  · rcases h4 with w | ⟨i, a, b, c⟩
    · exact .inl w
    · exact .inr ⟨i, a, by rw [H.get_put, if_neg c.2.2.2]; exact b, c⟩
theorem ands_run {h : H} {F : Nat → Prop} {gid : Nat} {G : Gr} (hG : GraphAt h F gid G) (wf : WFH h) (hp : 0 < G.l.length) (hL : G.l.length ≤ 200000) {a0 b0 a b : Int} (ha0 : a0 ≤ 9223372036854775807) (hb0 : b0 ≤ 9223372036854775807)
    (hsw : (G.edge a0 = a ∧ G.edge b0 = b ∧ ¬ b < a) ∨ (G.edge a0 = b ∧ G.edge b0 = a ∧ a < b)) :
    Runs E 19 [.ptr gid 0, .int .i64 a0, .int .i64 b0] h fun v h' => GPost h h' F gid (G.ands a b).2 ∧ v = .int .i64 (G.ands a b).1 := by
  have q1 := edge_e hG (e := a0) ha0
  have q2 := edge_e hG (e := b0) hb0
  have r1 := edge_b hp a0
  have r2 := edge_b hp b0
  have q3 := not_e (e := b) (by omega) (by omega)
  have hnt : (if b % 2 = 0 then b + 1 else b - 1) = nt b := rfl
  rw [hnt] at q3
  have hG1 := hG
  obtain ⟨lid, mid, insv, k1, k2, k3, k4, n1, n2, n3, f1, f2, f3⟩ := hG.ex
  by_cases hc : a = 0 ∨ a = nt b ∨ a = 1 ∨ a = b
  · refine (Runs.grows E_ok E_mix (Q := fun v h' => h' = h ∧ v = .int .i64 (G.ands a b).1) (Runs.ofX Tryd.func19 rfl rfl rfl rfl (fun _ => rfl) ?_) wf).mono fun v h' q => ?_
    · unfold Gr.ands
      rcases hsw with ⟨s1, s2, s3⟩ | ⟨s1, s2, s3⟩
      all_goals
        rw [s1] at q1; rw [s2] at q2
        by_cases c0 : a = 0
        · subst c0; simp [Tryd.f19, q1, q2, s3]
        by_cases c1 : a = nt b
        · simp [Tryd.f19, q1, q2, q3, s3, c0, ← c1]
        by_cases c2 : a = 1
        · subst c2; simp [Tryd.f19, q1, q2, q3, s3, c1]
        · have c3 : a = b := by omega
          subst c3; simp [Tryd.f19, q1, q2, q3, s3, c0, c1, c2]
    · obtain ⟨gr, rfl, rfl⟩ := q
      have : (G.ands a b).2 = G := by unfold Gr.ands; split; · rfl
                                      · rw [if_pos (by omega)]
      rw [this]; exact ⟨.refl wf hG, rfl⟩
  · obtain ⟨c0, c1, c2, c3⟩ : a ≠ 0 ∧ a ≠ nt b ∧ a ≠ 1 ∧ a ≠ b := by omega
    have hu : G.ands a b = match lookPI G.is a b 0 with
      | some (_, e) => (e, G)
      | none => if 200000 ≤ G.l.length then (0, G) else (2 * (G.l.length : Int), { G with l := G.l ++ [(a, b)], is := G.is ++ [((a, b), 2 * (G.l.length : Int))] }) := by
      unfold Gr.ands; rw [if_neg (by omega), if_neg (by omega)]
    have g1 := H.lt_next wf k1
    have g3 := H.lt_next wf k3
    rcases hf : lookPI G.is a b 0 with _ | ⟨i, e⟩
    · rw [hf] at hu; rw [hu]
      refine (Runs.grows E_ok E_mix (Q := fun v h' => (GraphAt h' (fun i => F i ∨ h.next ≤ i) gid (if 200000 ≤ G.l.length then (0, G) else (2 * (G.l.length : Int), { G with l := G.l ++ [(a, b)], is := G.is ++ [((a, b), 2 * (G.l.length : Int))] })).2 ∧ ∀ i, i < h.next → ¬ F i → h'.get i = h.get i) ∧ v = .int .i64 (if 200000 ≤ G.l.length then (0, G) else (2 * (G.l.length : Int), { G with l := G.l ++ [(a, b)], is := G.is ++ [((a, b), 2 * (G.l.length : Int))] })).1) (Runs.ofX Tryd.func19 rfl rfl rfl rfl (fun _ => rfl) ?_) wf).mono fun v h' q => ⟨⟨q.1, q.2.1.1, q.2.1.2⟩, q.2.2⟩
      have hpb : ∀ h2 : H, (∀ i, h2.get i = if i = h.next then some (.cells [.int .i64 a, .int .i64 b]) else h.get i) → h2.next = h.next + 1 → WFH h2 → Runs E 50 [.ptr gid 0, .agg [.int .i64 a, .int .i64 b]] h2 fun v h1 => ∃ lid' mid' insv', (WFH h1 ∧ h.next < h1.next ∧ h1.get h.next = some (.cells [.int .i64 a, .int .i64 b]) ∧ h1.get gid = some (.cells [.ref lid' 0 (G.put (a, b)).2.l.length 2, .map mid', insv']) ∧ h1.get mid' = some (.map (mapE G.is)) ∧ (F mid' ∨ h.next ≤ mid') ∧ mid' ≠ h.next) ∧ GraphAt h1 (fun i => F i ∨ h.next ≤ i) gid (G.put (a, b)).2 ∧ (∀ i, i < h.next → ¬ F i → h1.get i = h.get i) ∧ v = .int .i64 (G.put (a, b)).1 := by
        intro h2 e1 e2 wf2
        refine (putG_run (F := fun i => F i ∧ i < h.next) ((hG.lt wf).keep wf fun i hi _ => by rw [e1, if_neg (far hi).1]) wf2 hL a b).mono fun v h1 q => ?_
        obtain ⟨q, rfl⟩ := q
        obtain ⟨lid', mid', insv', x1, x2, x3, x4, m1, m2, m3, y1, y2, y3⟩ := q.at_.ex
        have is' : (G.put (a, b)).2.is = G.is := by unfold Gr.put; split <;> rfl
        rw [is'] at x3
        have nx := q.gr.nx
        refine ⟨lid', mid', insv', ⟨q.gr.wf, by omega, ?_, x1, x3, ?_, ?_⟩, q.at_.mono fun i hi => ?_, fun i hi hF => ?_, rfl⟩
        · rw [q.fr _ (by omega) (fun w => Nat.lt_irrefl _ w.2), e1, if_pos rfl]
        · rcases y3 with y3 | y3
          · exact .inl y3.1
          · exact .inr (by omega)
        · rcases y3 with y3 | y3 <;> omega
        · rcases hi with hi | hi
          · exact .inl hi.1
          · exact .inr (by omega)
        · rw [q.fr _ (by omega) (fun w => hF w.1), e1, if_neg (far hi).1]
      rcases hsw with ⟨s1, s2, s3⟩ | ⟨s1, s2, s3⟩
      all_goals
        rw [s1] at q1; rw [s2] at q2
        simp [Tryd.f19, q1, q2, q3, s3, c0, c1, c2, c3]
        refine xX_drawn [0, 1, 3, 7, 0, 31, 63, 127, 127, 255, 1023] rfl (by kernel_rfl) ?_
        simp [k1, far g1, k3, far g3, lookC, keyC, keyCells, cmpL, cmpC, findC_pairs, hf, Ty.zeroV]
        refine (hpb _ (fun i => by simp; split <;> simp [*]) rfl (H.wf_put (H.wf_new wf _) (Nat.lt_succ_self _) _)).mono fun v h1 q => ?_
        obtain ⟨lid', mid', insv', ⟨wf1, z0, z1, z2, z3, z6, z7⟩, z4, z5, rfl⟩ := q
        have g1' := H.lt_next wf1 z2
        have g3' := H.lt_next wf1 z3
        by_cases hr : 200000 ≤ G.l.length
        · simp [Gr.put, hr] at z4
          simp [Gr.put, hr]
          exact ⟨z4, z5⟩
        · have hp2 : (0 : Int) < 2 * G.l.length := by omega
          simp [Gr.put, hr] at z2 z4
          simp [Gr.put, hr, hp2]
          refine xX_drawn [0, 1, 3, 7, 0, 0, 63] rfl (by kernel_rfl) ?_
          simp [z1, z2, z3, insC_pairs hf]
          simp only [if_neg hr]
          refine ⟨⟨z4.is (by simpa using z2) _, fun i hi hF => ?_⟩, trivial⟩
          rw [if_neg (fun e => by subst e; rcases z6 with z6 | z6 <;> first | exact hF z6 | omega), z5 i hi hF]
    · rw [hf] at hu; rw [hu]
      refine (Runs.grows E_ok E_mix (Q := fun v h' => (∀ i, i < h.next → h'.get i = h.get i) ∧ v = .int .i64 e) (Runs.ofX Tryd.func19 rfl rfl rfl rfl (fun _ => rfl) ?_) wf).mono fun v h' q => ⟨⟨q.1, (hG.keep wf fun i hi _ => q.2.1 i hi).mono fun _ => .inl, fun i hi _ => q.2.1 i hi⟩, q.2.2⟩
      rcases hsw with ⟨s1, s2, s3⟩ | ⟨s1, s2, s3⟩
      all_goals
        rw [s1] at q1; rw [s2] at q2
        simp [Tryd.f19, q1, q2, q3, s3, c0, c1, c2, c3]
        refine xX_drawn [0, 1, 3, 7, 0, 31, 63, 127, 127, 255, 1023] rfl (by kernel_rfl) ?_
        simp [k1, far g1, k3, far g3, lookC, keyC, keyCells, cmpL, cmpC, findC_pairs, hf, Ty.zeroV]
        intro i hi
        simp [far hi]
/-- graph.And -/
theorem and_run {h : H} {F : Nat → Prop} {gid : Nat} {G : Gr} (hG : GraphAt h F gid G) (wf : WFH h) (hp : 0 < G.l.length) (hL : G.l.length ≤ 200000) {a b : Int} (ha : a ≤ 9223372036854775807) (hb : b ≤ 9223372036854775807) :
    Runs E 19 [.ptr gid 0, .int .i64 a, .int .i64 b] h fun v h' => GPost h h' F gid (G.and a b).2 ∧ v = .int .i64 (G.and a b).1 := by
  unfold Gr.and
  split
  · exact ands_run hG wf hp hL ha hb (.inr ⟨rfl, rfl, ‹_›⟩)
  · exact ands_run hG wf hp hL ha hb (.inl ⟨rfl, rfl, ‹_›⟩)
end Go.Proofs.YtjlabjncojhjkaaDoor
namespace Go.Proofs.YtjlabjncojhjkaaDoor
open Go Go.Cv
/-! ### Graphs in order, and what keeps them so -/
structure Gr.OK (G : Gr) : Prop where
  pos : 0 < G.l.length
  top : G.l.length ≤ 200000
  inl : G.ins.length ≤ G.l.length
  nd : ∀ (k : Nat) (p : Int × Int), G.l[k]? = some p → p = (-1, -1) ∨ (0 < p.1 ∧ p.1 < p.2 ∧ p.2 < 2 * (k : Int))
  n0 : G.l[0]? = some (-1, -1)
  is : ∀ p e, (p, e) ∈ G.is → ∃ k : Nat, e = 2 * (k : Int) ∧ 0 < k ∧ G.l[k]? = some p ∧ p ≠ (-1, -1)
/-- A graph that came of another. -/
structure Gr.Up (G G' : Gr) : Prop where
  ok : G'.OK
  l : ∃ t, G'.l = G.l ++ t
theorem Gr.Up.refl {G : Gr} (h : G.OK) : G.Up G := ⟨h, [], by simp⟩
theorem Gr.Up.trans {G G' G'' : Gr} (a : G.Up G') (b : G'.Up G'') : G.Up G'' := by
  obtain ⟨s, hs⟩ := a.l; obtain ⟨t, ht⟩ := b.l
  exact ⟨b.ok, s ++ t, by rw [ht, hs, List.append_assoc]⟩
theorem Gr.Up.len {G G' : Gr} (a : G.Up G') : G.l.length ≤ G'.l.length := by
  obtain ⟨s, hs⟩ := a.l
  rw [hs]; simp
/-- An edge of the graph. -/
def Gr.E (G : Gr) (e : Int) : Prop := 0 ≤ e ∧ e < 2 * (G.l.length : Int)
theorem Gr.Up.e {G G' : Gr} (a : G.Up G') {e : Int} (h : G.E e) : G'.E e := by
  have := a.len; unfold Gr.E at *; omega
theorem Gr.edge_E {G : Gr} (h : G.OK) (e : Int) : G.E (G.edge e) := edge_b h.pos e
theorem Gr.edge_id {G : Gr} {e : Int} (h : G.E e) : G.edge e = e := by
  unfold Gr.E at h; unfold Gr.edge; rw [if_neg (by omega)]
theorem nt_E {G : Gr} {e : Int} (h : G.E e) : G.E (nt e) := by
  unfold Gr.E at *; unfold nt; split <;> omega
theorem Gr.E.b {G : Gr} {e : Int} (h : G.E e) (ok : G.OK) : e < 400000 := by
  have := ok.top; unfold Gr.E at h; omega
theorem Gr.E_0 {G : Gr} (ok : G.OK) : G.E 0 := by have := ok.pos; unfold Gr.E; omega
theorem Gr.E_1 {G : Gr} (ok : G.OK) : G.E 1 := by have := ok.pos; unfold Gr.E; omega
theorem Gr.put_ok {G : Gr} (ok : G.OK) {p : Int × Int} (hp : p = (-1, -1) ∨ (0 < p.1 ∧ p.1 < p.2 ∧ p.2 < 2 * (G.l.length : Int))) {ins' : List Int} {is' : List ((Int × Int) × Int)} (hi : ins'.length ≤ G.l.length + 1) (his : is' = G.is ∨ (is' = G.is ++ [(p, 2 * (G.l.length : Int))] ∧ p ≠ (-1, -1))) (hr : ¬ 200000 ≤ G.l.length) : G.Up ⟨G.l ++ [p], is', ins'⟩ := by
  have h0 := ok.pos
  have hget : ∀ (k : Nat) (q : Int × Int), (G.l ++ [p])[k]? = some q → G.l[k]? = some q ∨ (k = G.l.length ∧ q = p) := by
    intro k q hq
    rw [List.getElem?_append] at hq
    split at hq
    · exact .inl hq
    · rename_i hk
      have : k - G.l.length = 0 := by
        rcases h : k - G.l.length with _ | n
        · rfl
        · rw [h] at hq; simp at hq
      rw [this] at hq
      exact .inr ⟨by omega, by simpa using hq.symm⟩
  have hold : ∀ (k : Nat) (q : Int × Int), G.l[k]? = some q → (G.l ++ [p])[k]? = some q := by
    intro k q hq
    rw [List.getElem?_append_left (List.getElem?_eq_some_iff.1 hq).1]; exact hq
  refine ⟨⟨by simp, by simp; omega, by simpa using hi, fun k q hq => ?_, hold _ _ ok.n0, fun q e hqe => ?_⟩, [p], rfl⟩
  · rcases hget k q hq with h | ⟨rfl, rfl⟩
    · exact ok.nd k q h
    · exact hp
  · have hm : (q, e) ∈ G.is ∨ (q = p ∧ e = 2 * (G.l.length : Int) ∧ p ≠ (-1, -1)) := by
      rcases his with rfl | ⟨rfl, hne⟩
      · exact .inl hqe
      · rcases List.mem_append.1 hqe with h | h
        · exact .inl h
        · simp at h; exact .inr ⟨h.1, h.2, hne⟩
    rcases hm with hm | ⟨rfl, rfl, hne⟩
    · obtain ⟨k, a, b, c, d⟩ := ok.is q e hm
      exact ⟨k, a, b, hold _ _ c, d⟩
    · exact ⟨G.l.length, rfl, h0, by simp, hne⟩
theorem lookPI_mem : ∀ (is : List ((Int × Int) × Int)) (a b : Int) (i : Nat) (r : Nat × Int), lookPI is a b i = some r → ((a, b), r.2) ∈ is
  | [], _, _, _, _, h => by simp [lookPI] at h
  | ((x, y), e) :: l, a, b, i, r, h => by
    unfold lookPI at h
    split at h
    · rename_i hxy; cases h; obtain ⟨rfl, rfl⟩ := hxy; simp
    · exact List.mem_cons_of_mem _ (lookPI_mem l a b _ r h)
theorem Gr.ands_up {G : Gr} (ok : G.OK) {a b : Int} (ha : G.E a) (hb : G.E b) (hab : a ≤ b) : G.Up (G.ands a b).2 ∧ (G.ands a b).2.E (G.ands a b).1 := by
  unfold Gr.ands
  split
  · exact ⟨.refl ok, E_0 ok⟩
  · split
    · exact ⟨.refl ok, hb⟩
    · rename_i h1 h2
      split
      · rename_i i e he
        refine ⟨.refl ok, ?_⟩
        obtain ⟨k, x, y, z, _⟩ := ok.is _ _ (lookPI_mem _ _ _ _ _ he)
        have := (List.getElem?_eq_some_iff.1 z).1
        simp only at x
        unfold Gr.E; simp only; omega
      · split
        · exact ⟨.refl ok, E_0 ok⟩
        · rename_i hr
          have := ok.pos
          have := ok.inl
          unfold Gr.E at ha hb
          refine ⟨put_ok ok (.inr ⟨by simp only; omega, by simp only; omega, by simp only; omega⟩) (by omega) (.inr ⟨rfl, ?_⟩) hr, ?_⟩
          · intro e; have := congrArg Prod.fst e; simp only at this; omega
          · unfold Gr.E; simp; omega
theorem Gr.and_up {G : Gr} (ok : G.OK) (a b : Int) : G.Up (G.and a b).2 ∧ (G.and a b).2.E (G.and a b).1 := by
  unfold Gr.and
  split
  · exact ands_up ok (edge_E ok b) (edge_E ok a) (by omega)
  · exact ands_up ok (edge_E ok a) (edge_E ok b) (by omega)
theorem Gr.input_up {G : Gr} (ok : G.OK) : G.Up G.input.2 ∧ G.input.2.E G.input.1 := by
  unfold Gr.input
  split
  · exact ⟨.refl ok, E_0 ok⟩
  · rename_i hr
    have := ok.inl
    exact ⟨put_ok ok (.inl rfl) (by simp; omega) (.inl rfl) hr, by unfold Gr.E; simp; omega⟩
def gr0 : Gr := ⟨[(-1, -1)], [], []⟩
theorem gr0_ok : gr0.OK := by
  refine ⟨by simp [gr0], by simp [gr0], by simp [gr0], fun k p h => ?_, rfl, fun p e h => by simp [gr0] at h⟩
  rcases k with _ | k
  · simp [gr0] at h; exact .inl h.symm
  · simp [gr0] at h
/-! ### More of the walk -/
theorem input_g {h : H} {F : Nat → Prop} {gid : Nat} {G : Gr} (hG : GraphAt h F gid G) (wf : WFH h) (ok : G.OK) :
    Runs E 28 [.ptr gid 0] h fun v h' => GPost h h' F gid G.input.2 ∧ v = .int .i64 G.input.1 := by
  unfold Gr.input
  have h1 := ok.inl
  have h2 := ok.top
  by_cases hr : 200000 ≤ G.l.length
  · rw [if_pos hr]
    refine Runs.mono (Q := fun v h' => GPost h h' F gid G ∧ v = .int .i64 0) ?_ fun v h' q => q
    refine (Runs.ofX Tryd.func28 rfl rfl rfl rfl (fun _ => rfl) ?_)
    simp [Tryd.f28]
    refine (putG_run hG wf h2 (-1) (-1)).mono fun v h1 q => ?_
    obtain ⟨q, rfl⟩ := q
    unfold Gr.put at q
    rw [if_pos hr] at q
    simp [Gr.put, hr]
    exact q
  · rw [if_neg hr]
    exact (input_run hG wf ok.pos (by omega) (by omega)).mono fun v h' q => ⟨⟨q.1, q.2.2.1, q.2.2.2⟩, q.2.1⟩
theorem and_g {h : H} {F : Nat → Prop} {gid : Nat} {G : Gr} (hG : GraphAt h F gid G) (wf : WFH h) (ok : G.OK) {a b : Int} (ha : a ≤ 9223372036854775807) (hb : b ≤ 9223372036854775807) :
    Runs E 19 [.ptr gid 0, .int .i64 a, .int .i64 b] h fun v h' => GPost h h' F gid (G.and a b).2 ∧ v = .int .i64 (G.and a b).1 := and_run hG wf ok.pos ok.top ha hb
theorem edge_g {h : H} {F : Nat → Prop} {gid : Nat} {G : Gr} (hG : GraphAt h F gid G) {e : Int} (h1 : e ≤ 9223372036854775807) (K) (t) : uRuns E 49 [.ptr gid 0, .int .i64 e] h K t = K (.int .i64 (G.edge e)) h := edge_e hG h1 K t
theorem not_g {e : Int} (h0 : 0 ≤ e) (h1 : e < 4611686018427387904) (h : H) (K) (t) : uRuns E 18 [.int .i64 e] h K t = K (.int .i64 (nt e)) h := not_e h0 h1 h K t
end Go.Proofs.YtjlabjncojhjkaaDoor
namespace Go.Proofs.YtjlabjncojhjkaaDoor
open Go Go.Cv
def Gr.or (G : Gr) (a b : Int) : Int × Gr := (nt (G.and (nt (G.edge a)) (nt (G.edge b))).1, (G.and (nt (G.edge a)) (nt (G.edge b))).2)
def Gr.or2 (r s : Int × Gr) : Int × Gr := s.2.or r.1 s.1
def Gr.xor (G : Gr) (a b : Int) : Int × Gr :=
  Gr.or2 (G.and (G.edge a) (nt (G.edge b))) ((G.and (G.edge a) (nt (G.edge b))).2.and (nt (G.edge a)) (G.edge b))
def Gr.mux (G : Gr) (c a b : Int) : Int × Gr :=
  Gr.or2 (G.and (G.edge c) a) ((G.and (G.edge c) a).2.and (nt (G.edge c)) b)
theorem Gr.or_up {G : Gr} (ok : G.OK) (a b : Int) : G.Up (G.or a b).2 ∧ (G.or a b).2.E (G.or a b).1 :=
  ⟨(and_up ok _ _).1, nt_E (and_up ok _ _).2⟩
theorem Gr.or2_up {G : Gr} (ok : G.OK) (a b c d : Int) : G.Up (or2 (G.and a b) ((G.and a b).2.and c d)).2 ∧ (or2 (G.and a b) ((G.and a b).2.and c d)).2.E (or2 (G.and a b) ((G.and a b).2.and c d)).1 := by
  have h1 := and_up ok a b
  have h2 := and_up h1.1.ok c d
  have h3 := or_up h2.1.ok (G.and a b).1 ((G.and a b).2.and c d).1
  exact ⟨(h1.1.trans h2.1).trans h3.1, h3.2⟩
theorem Gr.xor_up {G : Gr} (ok : G.OK) (a b : Int) : G.Up (G.xor a b).2 ∧ (G.xor a b).2.E (G.xor a b).1 := or2_up ok _ _ _ _
theorem Gr.mux_up {G : Gr} (ok : G.OK) (c a b : Int) : G.Up (G.mux c a b).2 ∧ (G.mux c a b).2.E (G.mux c a b).1 := or2_up ok _ _ _ _
theorem or_g {h : H} {F : Nat → Prop} {gid : Nat} {G : Gr} (hG : GraphAt h F gid G) (wf : WFH h) (ok : G.OK) {a b : Int} (ha : a ≤ 9223372036854775807) (hb : b ≤ 9223372036854775807) :
    Runs E 45 [.ptr gid 0, .int .i64 a, .int .i64 b] h fun v h' => GPost h h' F gid (G.or a b).2 ∧ v = .int .i64 (G.or a b).1 := by
  have a1 := G.edge_E ok a
  have b1 := G.edge_E ok b
  have a2 := a1.b ok; have b2 := b1.b ok
  have a3 := (nt_E a1).b ok; have b3 := (nt_E b1).b ok
  have q1 := edge_g hG (e := a) ha
  have q2 := edge_g hG (e := b) hb
  have q3 := not_g a1.1 (by omega)
  have q4 := not_g b1.1 (by omega)
  refine (Runs.ofX Tryd.func45 rfl rfl rfl rfl (fun _ => rfl) ?_)
  simp [Tryd.f45, q1, q2, q3, q4]
  refine (and_g hG wf ok (by omega) (by omega)).mono fun v h1 q => ?_
  obtain ⟨q, rfl⟩ := q
  have u := Gr.and_up ok (nt (G.edge a)) (nt (G.edge b))
  have u2 := u.2.b u.1.ok
  have q5 := not_g u.2.1 (by omega)
  simp [q5, Gr.or]
  exact q
theorem or2_g {h h' h2 : H} {F : Nat → Prop} {gid : Nat} {G : Gr} (ok : G.OK) {a b c d : Int} (q : GPost h h' F gid (G.and a b).2) (q2 : GPost h' h2 (fun i => F i ∨ h.next ≤ i) gid ((G.and a b).2.and c d).2) :
    Runs E 45 [.ptr gid 0, .int .i64 (G.and a b).1, .int .i64 ((G.and a b).2.and c d).1] h2 fun v h' => GPost h h' F gid (Gr.or2 (G.and a b) ((G.and a b).2.and c d)).2 ∧ v = .int .i64 (Gr.or2 (G.and a b) ((G.and a b).2.and c d)).1 := by
  have u1 := Gr.and_up ok a b
  have u2 := Gr.and_up u1.1.ok c d
  have := u1.2.b u1.1.ok
  have := u2.2.b u2.1.ok
  have q3 := q.trans q2
  exact (or_g q3.at_ q3.gr.wf u2.1.ok (by omega) (by omega)).mono fun v h' w => ⟨q3.trans w.1, w.2⟩
theorem xor_g {h : H} {F : Nat → Prop} {gid : Nat} {G : Gr} (hG : GraphAt h F gid G) (wf : WFH h) (ok : G.OK) {a b : Int} (ha : a ≤ 9223372036854775807) (hb : b ≤ 9223372036854775807) :
    Runs E 44 [.ptr gid 0, .int .i64 a, .int .i64 b] h fun v h' => GPost h h' F gid (G.xor a b).2 ∧ v = .int .i64 (G.xor a b).1 := by
  have a1 := G.edge_E ok a
  have b1 := G.edge_E ok b
  have a2 := a1.b ok; have b2 := b1.b ok
  have a3 := (nt_E a1).b ok; have b3 := (nt_E b1).b ok
  have q1 := edge_g hG (e := a) ha
  have q2 := edge_g hG (e := b) hb
  have q3 := not_g a1.1 (by omega)
  have q4 := not_g b1.1 (by omega)
  refine (Runs.ofX Tryd.func44 rfl rfl rfl rfl (fun _ => rfl) ?_)
  simp [Tryd.f44, q1, q2, q4]
  refine (and_g hG wf ok (by omega) (by omega)).mono fun v h1 q => ?_
  obtain ⟨q, rfl⟩ := q
  have u := Gr.and_up ok (G.edge a) (nt (G.edge b))
  simp [q3]
  refine (and_g q.at_ q.gr.wf u.1.ok (by omega) (by omega)).mono fun v h2 w => ?_
  obtain ⟨w, rfl⟩ := w
  simp
  refine (or2_g ok q w).mono fun v h3 x => ?_
  obtain ⟨x, rfl⟩ := x
  simp [Gr.xor]
  exact x
theorem mux_g {h : H} {F : Nat → Prop} {gid : Nat} {G : Gr} (hG : GraphAt h F gid G) (wf : WFH h) (ok : G.OK) {c a b : Int} (hc : c ≤ 9223372036854775807) (ha : a ≤ 9223372036854775807) (hb : b ≤ 9223372036854775807) :
    Runs E 56 [.ptr gid 0, .int .i64 c, .int .i64 a, .int .i64 b] h fun v h' => GPost h h' F gid (G.mux c a b).2 ∧ v = .int .i64 (G.mux c a b).1 := by
  have a1 := G.edge_E ok c
  have a2 := a1.b ok
  have a3 := (nt_E a1).b ok
  have q1 := edge_g hG (e := c) hc
  have q3 := not_g a1.1 (by omega)
  refine (Runs.ofX Tryd.func56 rfl rfl rfl rfl (fun _ => rfl) ?_)
  simp [Tryd.f56, q1]
  refine (and_g hG wf ok (by omega) (by omega)).mono fun v h1 q => ?_
  obtain ⟨q, rfl⟩ := q
  have u := Gr.and_up ok (G.edge c) a
  simp [q3]
  refine (and_g q.at_ q.gr.wf u.1.ok (by omega) (by omega)).mono fun v h2 w => ?_
  obtain ⟨w, rfl⟩ := w
  simp
  refine (or2_g ok q w).mono fun v h3 x => ?_
  obtain ⟨x, rfl⟩ := x
  simp [Gr.mux]
  exact x
end Go.Proofs.YtjlabjncojhjkaaDoor
namespace Go.Proofs.YtjlabjncojhjkaaDoor
open Go Go.Cv
/-! ### Maps of numbers -/
def mapI (l : List (Int × Int)) : List (CV × CV) := l.map fun p => (.int .i64 p.1, .int .i64 p.2)
def lookI : List (Int × Int) → Int → Nat → Option (Nat × Int)
  | [], _, _ => none
  | (x, v) :: r, a, i => if a = x then some (i, v) else lookI r a (i + 1)
theorem findC_ints (a : Int) : ∀ (l : List (Int × Int)) (i : Nat), findC false [.int .i64] (.int .i64 a) (mapI l) i = some ((lookI l a i).map fun p => (p.1, .int .i64 p.2))
  | [], i => by simp [mapI, findC, lookI]
  | (x, v) :: r, i => by
    have ih := findC_ints a r (i + 1)
    simp only [mapI, List.map_cons] at *
    simp only [findC, keyCells, cmpL, cmpC, if_true, lookI]
    by_cases h1 : a = x
    · simp [h1]
    · have e1 : (a == x) = false := by simpa using h1
      simp only [e1, h1, if_false]
      simpa using ih
end Go.Proofs.YtjlabjncojhjkaaDoor
namespace Go.Proofs.YtjlabjncojhjkaaDoor
open Go Go.Cv
theorem cells2_at : ∀ (l : List (Int × Int)) (k : Nat) (p : Int × Int), l[k]? = some p → ((cells2 l).drop (k * 2)).take 2 = [.int .i64 p.1, .int .i64 p.2]
  | [], k, p, h => by simp at h
  | q :: l, 0, p, h => by simp at h; subst h; simp [cells2]
  | q :: l, k + 1, p, h => by
    have e : (k + 1) * 2 = k * 2 + 1 + 1 := by omega
    have := cells2_at l k p (by simpa using h)
    rw [e]
    simpa [cells2] using this
theorem cells2_0 {l : List (Int × Int)} {k : Nat} {p : Int × Int} (h : l[k]? = some p) : (cells2 l)[k * 2]? = some (.int .i64 p.1) := by
  have := congrArg (fun l => l[0]?) (cells2_at l k p h)
  simpa [List.getElem?_take, List.getElem?_drop] using this
theorem cells2_1 {l : List (Int × Int)} {k : Nat} {p : Int × Int} (h : l[k]? = some p) : (cells2 l)[k * 2 + 1]? = some (.int .i64 p.2) := by
  have := congrArg (fun l => l[1]?) (cells2_at l k p h)
  simpa [List.getElem?_take, List.getElem?_drop] using this
/-- graph.Node -/
theorem node_u {h : H} {F : Nat → Prop} {gid : Nat} {G : Gr} (hG : GraphAt h F gid G) (wf : WFH h) (_ : G.OK) {n : Nat} {p : Int × Int} (hp : G.l[n]? = some p) (K) (t) :
    uRuns E 64 [.ptr gid 0, .int .i64 n] h K t = K (if 1 ≤ n ∧ p ≠ (-1, -1) then .tup [.int .i64 p.1, .int .i64 p.2, .bool true] else .tup [.int .i64 0, .int .i64 0, .bool false]) h := by
  obtain ⟨lid, mid, insv, k1, k2, k3, k4, n1, n2, n3, f1, f2, f3⟩ := hG.ex
  have g1 := H.lt_next wf k1
  have g2 := H.lt_next wf k2
  have hn := (List.getElem?_eq_some_iff.1 hp).1
  have hc := cells2_at _ _ _ hp
  have hl := cells2_len G.l
  have hx : n * 2 + 2 ≤ (cells2 G.l).length := by omega
  refine Runs.det (Runs.ofX Tryd.func64 rfl rfl rfl rfl (fun _ => rfl) ?_)
  by_cases c1 : 1 ≤ n
  · have e1 : ¬ (n : Int) < 1 := by omega
    have e2 : ¬ (G.l.length : Int) ≤ n := by omega
    simp [Tryd.f64]
    refine xX_drawn [0, 1, 3, 7, 7, 23, 55, 119, 247, 511, 1023, 2047, 4095, 8191, 16383, 32767, 4095, 131071, 262143, 4095, 1048575, 2097151] rfl (by kernel_rfl) ?_
    by_cases c2 : p = (-1, -1)
    · subst c2
      simp [k1, k2, e1, e2, hn, hx, hc, eqBin, cmpL, cmpC]
    · have c3 : (p.1 == -1 && p.2 == -1) = false := by
        rcases p with ⟨x, y⟩
        simp only [Prod.mk.injEq] at c2
        simp only [Bool.and_eq_false_iff, beq_eq_false_iff_ne]; omega
      simp [k1, k2, e1, e2, hn, hx, hc, eqBin, cmpL, cmpC, c1, c2, c3]
      refine xX_drawn [0, 1, 3, 7, 0, 31, 63, 127, 0, 256, 768, 1792, 0, 7936, 16128, 32512, 255, 131071, 262143] rfl (by kernel_rfl) ?_
      simp [k1, k2, hn, cells2_0 hp, cells2_1 hp]
      exact ⟨c1, c2⟩
  · have e1 : (n : Int) < 1 := by omega
    have e2 : n = 0 := by omega
    subst e2
    simp [Tryd.f64, c1]
    refine xX_drawn [0, 1, 3, 7, 7, 23, 55, 119, 247, 511, 1023, 2047, 4095, 8191, 16383, 32767, 4095, 131071, 262143, 4095, 1048575, 2097151] rfl (by kernel_rfl) ?_
    simp
theorem nodes_u {h : H} {F : Nat → Prop} {gid : Nat} {G : Gr} (hG : GraphAt h F gid G) (wf : WFH h) (K) (t) :
    uRuns E 46 [.ptr gid 0] h K t = K (.int .i64 G.l.length) h := by
  obtain ⟨lid, mid, insv, k1, k2, k3, k4, n1, n2, n3, f1, f2, f3⟩ := hG.ex
  have g1 := H.lt_next wf k1
  refine Runs.det (Runs.ofX Tryd.func46 rfl rfl rfl rfl (fun _ => rfl) ?_)
  simp [Tryd.f46, k1]
/-! ### Makers -/
structure Mk where
  of : List (Int × Int)
  n : Nat
/-- What a node's variable is; 0: it has none. -/
def Mk.v (M : Mk) (k : Int) : Int := match lookI M.of k 0 with | some (_, v) => v | none => 0
def NextAt (h : H) (F : Nat → Prop) (v : CV) (n : Nat) : Prop := (v = .nils ∧ n = 0) ∨ ∃ nid cs, v = .ref nid 0 n 1 ∧ h.get nid = some (.cells cs) ∧ cs.length = n ∧ F nid
structure MakerAt (h : H) (F : Nat → Prop) (k gid : Nat) (M : Mk) : Prop where
  ex : ∃ oid nv, h.get k = some (.cells [.ptr gid 0, .map oid, nv]) ∧ h.get oid = some (.map (mapI M.of)) ∧ NextAt h (fun i => F i ∧ i ≠ k ∧ i ≠ oid) nv M.n ∧ k ≠ oid ∧ F k ∧ F oid
structure MPost (h h' : H) (F : Nat → Prop) (k gid : Nat) (M : Mk) : Prop where
  gr : Grows h h'
  at_ : MakerAt h' (fun i => F i ∨ h.next ≤ i) k gid M
  fr : ∀ i, i < h.next → ¬ F i → h'.get i = h.get i
theorem NextAt.mono {h : H} {F F' : Nat → Prop} {v : CV} {n : Nat} (w : NextAt h F v n) (hf : ∀ i, F i → F' i) : NextAt h F' v n := by
  rcases w with w | ⟨i, cs, a, b, c, d⟩
  · exact .inl w
  · exact .inr ⟨i, cs, a, b, c, hf i d⟩
theorem MakerAt.mono {h : H} {F F' : Nat → Prop} {k gid : Nat} {M : Mk} (w : MakerAt h F k gid M) (hf : ∀ i, F i → F' i) : MakerAt h F' k gid M := by
  obtain ⟨oid, nv, h1, h2, h3, h4, h5, h6⟩ := w.ex
  exact ⟨oid, nv, h1, h2, h3.mono fun i q => ⟨hf i q.1, q.2⟩, h4, hf _ h5, hf _ h6⟩
theorem MakerAt.keep {h h' : H} {F : Nat → Prop} {k gid : Nat} {M : Mk} (w : MakerAt h F k gid M) (wf : WFH h) (hf : ∀ i, i < h.next → F i → h'.get i = h.get i) : MakerAt h' F k gid M := by
  obtain ⟨oid, nv, h1, h2, h3, h4, h5, h6⟩ := w.ex
  refine ⟨oid, nv, by rw [hf _ (H.lt_next wf h1) h5]; exact h1, by rw [hf _ (H.lt_next wf h2) h6]; exact h2, ?_, h4, h5, h6⟩
  rcases h3 with w | ⟨i, cs, a, b, c, d⟩
  · exact .inl w
  · exact .inr ⟨i, cs, a, by rw [hf _ (H.lt_next wf b) d.1]; exact b, c, d⟩
theorem MakerAt.lt {h : H} {F : Nat → Prop} {k gid : Nat} {M : Mk} (w : MakerAt h F k gid M) (wf : WFH h) : MakerAt h (fun i => F i ∧ i < h.next) k gid M := by
  obtain ⟨oid, nv, h1, h2, h3, h4, h5, h6⟩ := w.ex
  refine ⟨oid, nv, h1, h2, ?_, h4, ⟨h5, H.lt_next wf h1⟩, ⟨h6, H.lt_next wf h2⟩⟩
  rcases h3 with w | ⟨i, cs, a, b, c, d⟩
  · exact .inl w
  · exact .inr ⟨i, cs, a, b, c, ⟨d.1, H.lt_next wf b⟩, d.2⟩
theorem MPost.refl {h : H} {F : Nat → Prop} {k gid : Nat} {M : Mk} (wf : WFH h) (w : MakerAt h F k gid M) : MPost h h F k gid M := ⟨.refl wf, w.mono fun _ => .inl, fun _ _ _ => rfl⟩
theorem MPost.trans {h h1 h2 : H} {F : Nat → Prop} {k gid : Nat} {M M' : Mk} (a : MPost h h1 F k gid M) (b : MPost h1 h2 (fun i => F i ∨ h.next ≤ i) k gid M') : MPost h h2 F k gid M' :=
  ⟨a.gr.trans b.gr, b.at_.mono fun i q => q.elim id fun q => .inr (Nat.le_trans a.gr.nx q), fun i hi hf => by
    rw [b.fr i (Nat.lt_of_lt_of_le hi a.gr.nx) (fun q => q.elim hf fun q => by omega), a.fr i hi hf]⟩
theorem MPost.same {h h' : H} {F : Nat → Prop} {k gid : Nat} {M : Mk} (w : MakerAt h F k gid M) (wf : WFH h) (gr : Grows h h') (hf : ∀ i, i < h.next → h'.get i = h.get i) : MPost h h' F k gid M :=
  ⟨gr, (w.keep wf fun i hi _ => hf i hi).mono fun _ => .inl, fun i hi _ => hf i hi⟩
/-- cnf.New -/
theorem mnew_run (h : H) (wf : WFH h) (gid : Nat) : Runs E 14 [.ptr gid 0] h fun v h' => ∃ k, v = .ptr k 0 ∧ Grows h h' ∧ MakerAt h' (fun i => h.next ≤ i) k gid ⟨[(0, 1)], 1⟩ ∧ ∀ i, i < h.next → h'.get i = h.get i := by
  refine (Runs.grows E_ok E_mix (Q := fun v h' => ∃ k, v = .ptr k 0 ∧ MakerAt h' (fun i => h.next ≤ i) k gid ⟨[(0, 1)], 1⟩ ∧ ∀ i, i < h.next → h'.get i = h.get i) (Runs.ofX Tryd.func14 rfl rfl rfl rfl (fun _ => rfl) ?_) wf).mono fun v h' ⟨g, k, a, b⟩ => ⟨k, a, g, b⟩
  simp [Tryd.f14, eqBin, insC, keyC, keyCells, cmpL, cmpC, findC]
  refine ⟨⟨h.next, .ref (h.next + 2) 0 1 1, ?_⟩, fun i hi => by simp [far hi, Nat.add_assoc]⟩
  simp [NextAt, mapI, Nat.add_assoc]
theorem mnew_nil (h : H) (K) (t) : uRuns E 14 [.nilp] h K t = K .nilp h := by
  refine Runs.det (Runs.ofX Tryd.func14 rfl rfl rfl rfl (fun _ => rfl) ?_)
  simp [Tryd.f14, eqBin]
/-- cnf.lit -/
theorem lit_u {h : H} {F : Nat → Prop} {k gid : Nat} {M : Mk} (hM : MakerAt h F k gid M) (wf : WFH h) {e : Int} (h0 : 0 ≤ e) (h1 : e < 400000) (hv : M.v (e / 2) ≤ 400000) (hv0 : 0 ≤ M.v (e / 2)) (K) (t) :
    uRuns E 47 [.ptr k 0, .int .i64 e] h K t = K (.int .i64 (if e % 2 = 1 then - M.v (e / 2) else M.v (e / 2))) h := by
  obtain ⟨oid, nv, k1, k2, k3, n1, f1, f2⟩ := hM.ex
  have g1 := H.lt_next wf k1
  have g2 := H.lt_next wf k2
  have e1 : e.tmod 2 = e % 2 := Int.tmod_eq_emod_of_nonneg h0
  have e2 : e.tdiv 2 = e / 2 := Int.tdiv_eq_ediv_of_nonneg h0
  have e3 : IntKind.i64.wrap (e % 2) = e % 2 := wrap64 (by omega) (by omega)
  have e4 : IntKind.i64.wrap (e / 2) = e / 2 := wrap64 (by omega) (by omega)
  have e5 : IntKind.i64.wrap (- M.v (e / 2)) = - M.v (e / 2) := wrap64 (by omega) (by omega)
  refine Runs.det (Runs.ofX Tryd.func47 rfl rfl rfl rfl (fun _ => rfl) ?_)
  unfold Mk.v at e5 ⊢
  by_cases c : e % 2 = 1 <;> rcases hl : lookI M.of (e / 2) 0 with _ | ⟨i, v⟩
  all_goals
    rw [hl] at e5
    simp [Tryd.f47, k1, k2, e1, e2, e4, c, lookC, keyC, keyCells, cmpL, cmpC, findC_ints, hl, Ty.zeroV]
    first | done | exact e5 | exact wrap64 (by omega) (by omega)
theorem mvars_u {h : H} {F : Nat → Prop} {k gid : Nat} {M : Mk} (hM : MakerAt h F k gid M) (wf : WFH h) (K) (t) : uRuns E 17 [.ptr k 0] h K t = K (.int .i64 M.of.length) h := by
  obtain ⟨oid, nv, k1, k2, k3, n1, f1, f2⟩ := hM.ex
  have g1 := H.lt_next wf k1
  have g2 := H.lt_next wf k2
  refine Runs.det (Runs.ofX Tryd.func17 rfl rfl rfl rfl (fun _ => rfl) ?_)
  simp [Tryd.f17, k1, k2, mapI]
theorem take_run {h : H} {F : Nat → Prop} {k gid : Nat} {M : Mk} (hM : MakerAt h F k gid M) (wf : WFH h) : Runs E 16 [.ptr k 0] h fun v h' => MPost h h' F k gid { M with n := 0 } ∧ ((v = .nils ∧ M.n = 0) ∨ ∃ nid, v = .ref nid 0 M.n 1) := by
  obtain ⟨oid, nv, k1, k2, k3, n1, f1, f2⟩ := hM.ex
  have g1 := H.lt_next wf k1
  have g2 := H.lt_next wf k2
  refine (Runs.grows E_ok E_mix (Q := fun v h' => (MakerAt h' (fun i => F i ∨ h.next ≤ i) k gid { M with n := 0 } ∧ ∀ i, i < h.next → ¬ F i → h'.get i = h.get i) ∧ ((v = .nils ∧ M.n = 0) ∨ ∃ nid, v = .ref nid 0 M.n 1)) (Runs.ofX Tryd.func16 rfl rfl rfl rfl (fun _ => rfl) ?_) wf).mono fun v h' ⟨g, a, b⟩ => ⟨⟨g, a.1, a.2⟩, b⟩
  simp [Tryd.f16, k1]
  refine ⟨⟨⟨oid, .nils, ?_⟩, fun i hi hF => ?_⟩, ?_⟩
  · simp [n1, Ne.symm n1, k2, NextAt, f1, f2]
  · have : i ≠ k := fun e => hF (e ▸ f1)
    simp [this]
  · rcases k3 with k3 | ⟨nid, cs, rfl, _⟩
    · exact .inl k3
    · exact .inr ⟨nid, rfl⟩
end Go.Proofs.YtjlabjncojhjkaaDoor
