/- A part of the proof of a law of the given program: contracts of functions over the clean heap. -/
import Derived.Test.YtjlabjncojhjkaaDoorSeatG1
namespace Go.Proofs.YtjlabjncojhjkaaDoor
open Go Go.Cv
theorem wrap64 {x : Int} (h1 : -9223372036854775808 ≤ x) (h2 : x ≤ 9223372036854775807) : IntKind.i64.wrap x = x := by
  have hb : IntKind.i64.bits = 64 := rfl
  have hs : IntKind.i64.signed = true := rfl
  unfold IntKind.wrap
  simp only [hb, hs, Bool.true_and, decide_eq_true_eq]
  simp only [Nat.reduceSub, Int.reducePow]
  split <;> omega
@[simp] theorem E_G0 : E.G 0 = some [.int .i64 (-1), .int .i64 (-1)] := rfl
/-- graph.edge -/
theorem edge_u {gid lid n : Nat} {mp inp : CV} {h : H} {e : Int} (hg : h.get gid = some (.cells [.ref lid 0 n 2, mp, inp])) (K) (t) :
    uRuns E 49 [.ptr gid 0, .int .i64 e] h K t = K (.int .i64 (if e < 0 ∨ (n : Int) ≤ IntKind.i64.wrap (e.tdiv 2) then 0 else e)) h := by
  refine Runs.det (Runs.ofX Tryd.func49 rfl rfl rfl rfl (fun _ => rfl) ?_)
  by_cases he : e < 0
  · simp [Tryd.f49, he]
  · simp [Tryd.f49, he, hg]
    omega
/-- graph.put, where there is room. -/
theorem put_u {gid lid n : Nat} {mp inp : CV} {h : H} {a b : Int} {cs : List CV} (hg : h.get gid = some (.cells [.ref lid 0 n 2, mp, inp])) (hl : h.get lid = some (.cells cs)) (hc : cs.length = n * 2) (hn : n < 200000) (wf : WFH h) (hne : gid ≠ lid) :
    Runs E 50 [.ptr gid 0, .agg [.int .i64 a, .int .i64 b]] h fun v h' => v = .int .i64 (2 * n) ∧ (∃ lid', h.next ≤ lid' ∧ lid' < h'.next ∧ h'.get lid' = some (.cells (cs ++ [.int .i64 a, .int .i64 b])) ∧ h'.get gid = some (.cells [.ref lid' 0 (n + 1) 2, mp, inp])) ∧
      ∀ i, i < h.next → i ≠ gid → i ≠ lid → h'.get i = h.get i := by
  have g1 := H.lt_next wf hg
  have g2 := H.lt_next wf hl
  have hn' : (n : Int) < 200000 := by omega
  have hn2 : (n + 1) * 16 ≤ 140737488355328 := by omega
  have hn3 : n ≤ 140737488355327 := by omega
  refine (Runs.ofX Tryd.func50 rfl rfl rfl rfl (fun _ => rfl) ?_)
  simp [Tryd.f50, hg, far g1, far g2, Int.not_le.2 hn']
  refine xX_drawn [0, 0, 2, 6, 14, 0, 32, 126, 255, 511, 1023] rfl (by kernel_rfl) ?_
  simp [hg, hl, far g1, far g2, hc, hne, Ne.symm hne, hn2, hn3, Nat.add_assoc, List.take_of_length_le]
  refine ⟨by rw [wrap64 (x := (n : Int)), wrap64] <;> omega, ⟨h.next + 2, by omega, by omega, ?_, rfl⟩, fun i a b c => ?_⟩
  · have : ¬ h.next + 2 = gid := by omega
    simp [this]
  · simp [b, c, far a]

/-! ### Graphs -/
structure Gr where
  l : List (Int × Int)
  is : List ((Int × Int) × Int)
  ins : List Int
def cells2 (l : List (Int × Int)) : List CV := l.flatMap fun p => [.int .i64 p.1, .int .i64 p.2]
theorem cells2_len (l : List (Int × Int)) : (cells2 l).length = l.length * 2 := by
  induction l with
  | nil => rfl
  | cons p l ih => simp [cells2] at *; omega
theorem cells2_snoc (l : List (Int × Int)) (p : Int × Int) : cells2 (l ++ [p]) = cells2 l ++ [.int .i64 p.1, .int .i64 p.2] := by simp [cells2]
def mapE (is : List ((Int × Int) × Int)) : List (CV × CV) := is.map fun p => (.agg [.int .i64 p.1.1, .int .i64 p.1.2], .int .i64 p.2)
def ints (l : List Int) : List CV := l.map fun n => .int .i64 n
/-- The list of inputs. -/
def InsAt (h : H) (F : Nat → Prop) (v : CV) (ins : List Int) : Prop := (v = .nils ∧ ins = []) ∨ ∃ iid, v = .ref iid 0 ins.length 1 ∧ h.get iid = some (.cells (ints ins)) ∧ F iid
/-- A graph lies in the heap, in objects of F. -/
structure GraphAt (h : H) (F : Nat → Prop) (gid : Nat) (G : Gr) : Prop where
  ex : ∃ lid mid insv, h.get gid = some (.cells [.ref lid 0 G.l.length 2, .map mid, insv]) ∧ h.get lid = some (.cells (cells2 G.l)) ∧ h.get mid = some (.map (mapE G.is)) ∧ InsAt h (fun i => F i ∧ i ≠ gid ∧ i ≠ lid ∧ i ≠ mid) insv G.ins ∧
    gid ≠ lid ∧ gid ≠ mid ∧ lid ≠ mid ∧ F gid ∧ F lid ∧ F mid
theorem new_run (h : H) : Runs E 22 [] h fun v h' => ∃ gid, v = .ptr gid 0 ∧ GraphAt h' (fun i => h.next ≤ i) gid ⟨[(-1, -1)], [], []⟩ ∧ ∀ i, i < h.next → h'.get i = h.get i := by
  refine (Runs.ofX Tryd.func22 rfl rfl rfl rfl (fun _ => rfl) ?_)
  simp [Tryd.f22]
  refine ⟨⟨h.next, h.next + 1, .nils, ?_⟩, fun i hi => ?_⟩
  · simp [cells2, mapE, InsAt, Nat.add_assoc]
  · simp [far hi, Nat.add_assoc]
end Go.Proofs.YtjlabjncojhjkaaDoor
