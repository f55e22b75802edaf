/- A part of the proof of a law of the given program: contracts of functions over the clean heap. -/
import Derived.Test.YtjlabjncojhjkaaDoorTy
import Derived.Test.YtjlabjncojhjkaaDoorB19
namespace Go.Proofs.YtjlabjncojhjkaaDoor
open Go Go.Cv
/-! ### The law BitsDo: one of five -/
def doG (op : Int) (G : Gr) (a b : List Int) : List Int × Gr :=
  if op = 0 then addG G a b else if op = 1 then subG G a b else if op = 2 then mulG G a b else if op = 3 then divG G a b else remG G a b
theorem doG_0 (G : Gr) (a b : List Int) : doG 0 G a b = addG G a b := by unfold doG; rw [if_pos rfl]
theorem doG_1 (G : Gr) (a b : List Int) : doG 1 G a b = subG G a b := by unfold doG; rw [if_neg (by decide), if_pos rfl]
theorem doG_2 (G : Gr) (a b : List Int) : doG 2 G a b = mulG G a b := by unfold doG; rw [if_neg (by decide), if_neg (by decide), if_pos rfl]
theorem doG_3 (G : Gr) (a b : List Int) : doG 3 G a b = divG G a b := by unfold doG; rw [if_neg (by decide), if_neg (by decide), if_neg (by decide), if_pos rfl]
theorem doG_4 {op : Int} (o0 : ¬ op = 0) (o1 : ¬ op = 1) (o2 : ¬ op = 2) (o3 : ¬ op = 3) (G : Gr) (a b : List Int) : doG op G a b = remG G a b := by unfold doG; rw [if_neg o0, if_neg o1, if_neg o2, if_neg o3]
theorem doN_0 (a b : Int) (w : Nat) : doN 0 a b w = trimN (a + b) w := by unfold doN; rw [if_pos rfl]
theorem doN_1 (a b : Int) (w : Nat) : doN 1 a b w = trimN (a - b) w := by unfold doN; rw [if_neg (by decide), if_pos rfl]
theorem doN_2 (a b : Int) (w : Nat) : doN 2 a b w = trimN (a * b) w := by unfold doN; rw [if_neg (by decide), if_neg (by decide), if_pos rfl]
theorem doN_3 (a b : Int) (w : Nat) : doN 3 a b w = if b = 0 then 0 else trimN (a.tdiv b) w := by unfold doN; rw [if_neg (by decide), if_neg (by decide), if_neg (by decide), if_pos rfl]
theorem doN_4 {op : Int} (o0 : ¬ op = 0) (o1 : ¬ op = 1) (o2 : ¬ op = 2) (o3 : ¬ op = 3) (a b : Int) (w : Nat) : doN op a b w = if b = 0 then 0 else trimN (a.tmod b) w := by unfold doN; rw [if_neg o0, if_neg o1, if_neg o2, if_neg o3]
theorem doG_facts {G : Gr} (ok : G.OK) {a b : List Int} {k j : Nat} (va : Vec G a k) (vb : Vec G b j) (op : Int) (hr : G.l.length + 4000 ≤ 200000) :
    G.Up (doG op G a b).2 ∧ Vec (doG op G a b).2 (doG op G a b).1 (max k j) ∧ (doG op G a b).2.l.length ≤ G.l.length + 4000 ∧ ∀ m, num (doG op G a b).2 m (doG op G a b).1 = doN op (num G m a) (num G m b) (max k j) := by
  by_cases o0 : op = 0
  · rw [o0, doG_0]
    simp only [doN_0]
    obtain ⟨h1, h2, h3, h4⟩ := addG_facts ok va vb (by omega)
    exact ⟨h1, h2, by omega, h4⟩
  by_cases o1 : op = 1
  · rw [o1, doG_1]
    simp only [doN_1]
    obtain ⟨h1, h2, h3, h4⟩ := subG_facts ok va vb (by omega)
    exact ⟨h1, h2, by omega, h4⟩
  by_cases o2 : op = 2
  · rw [o2, doG_2]
    simp only [doN_2]
    obtain ⟨h1, h2, h3, h4⟩ := mulG_facts ok va vb (by omega)
    exact ⟨h1, h2, by omega, h4⟩
  by_cases o3 : op = 3
  · rw [o3, doG_3]
    simp only [doN_3]
    exact divG_facts ok va vb (by omega)
  rw [doG_4 o0 o1 o2 o3]
  simp only [doN_4 o0 o1 o2 o3]
  exact remG_facts ok va vb (by omega)
set_option maxRecDepth 8000 in
theorem do_run {h : H} {gid : Nat} {G : Gr} {S : Nat → List CV → Prop} (I : Mem h gid G S) {v1 v2 : CV} {a b : List Int} (op : Int) (h1 : ArgS S v1 a) (h2 : ArgS S v2 b) (sa : Small a) (sb : Small b) (sa' : ∀ e ∈ a, 0 ≤ e ∧ e ≤ 400000) (sb' : ∀ e ∈ b, 0 ≤ e ∧ e ≤ 400000) :
    Runs E 41 [.ptr gid 0, .int .i64 op, v1, v2] h fun v h' => GOut h h' gid (doG op G a b).2 S v (doG op G a b).1 := by
  refine Runs.ofX Tryd.func41 rfl rfl rfl rfl (fun _ => rfl) ?_
  by_cases o0 : op = 0
  · rw [o0, doG_0]
    have F := add_run I h1 h2 sa sb
    simp [Tryd.f41]
    exact F.mono fun v h3 F => by simp; exact F
  by_cases o1 : op = 1
  · rw [o1, doG_1]
    have F := sub_run I h1 h2 sa sb'
    simp [Tryd.f41]
    exact F.mono fun v h3 F => by simp; exact F
  by_cases o2 : op = 2
  · rw [o2, doG_2]
    have F := mul_run I h1 h2 sa sb
    simp [Tryd.f41]
    exact F.mono fun v h3 F => by simp; exact F
  by_cases o3 : op = 3
  · rw [o3, doG_3]
    have F := div_run I h1 h2 sa' sb'
    simp [Tryd.f41]
    exact F.mono fun v h3 F => by simp; exact F
  rw [doG_4 o0 o1 o2 o3]
  have F := rem_run I h1 h2 sa' sb'
  simp [Tryd.f41, o0, o1, o2, o3]
  exact F.mono fun v h3 F => by simp; exact F
end Go.Proofs.YtjlabjncojhjkaaDoor
