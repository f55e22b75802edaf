/- A part of the proof of a law of the given program: contracts of functions over the clean heap. -/
import Derived.Test.YtjlabjncojhjkaaDoorGx
import Derived.Test.YtjlabjncojhjkaaDoorCv22
namespace Go.Proofs.YtjlabjncojhjkaaDoor
open Go Go.Cv
/-! ### Numbers of so many bits -/
def heldN (w : Int) : Nat := (min (max w 1) 16).toNat
theorem heldN_b (w : Int) : 1 ≤ heldN w ∧ heldN w ≤ 16 := by unfold heldN; omega
def trimN (n : Int) (k : Nat) : Int := if 2 ^ (k - 1) ≤ n % 2 ^ k then n % 2 ^ k - 2 ^ k else n % 2 ^ k
theorem pow_b {k : Nat} (h : k ≤ 16) : (1 : Int) ≤ 2 ^ k ∧ (2 : Int) ^ k ≤ 65536 := by
  have h1 : 2 ^ k ≤ 2 ^ 16 := Nat.pow_le_pow_right (by omega) h
  have h2 : 1 ≤ 2 ^ k := Nat.one_le_two_pow
  have e : ((2 ^ k : Nat) : Int) = (2 : Int) ^ k := by simp
  have e2 : (2 : Nat) ^ 16 = 65536 := by decide
  omega
theorem and_mask {n : Int} {k : Nat} (h : k ≤ 16) : IntKind.i64.wrap ((BitVec.ofInt 64 n &&& BitVec.ofInt 64 (2 ^ k - 1)).toNat : Int) = n % 2 ^ k := by
  have pb := pow_b h
  have e : ((2 ^ k : Nat) : Int) = (2 : Int) ^ k := by simp
  have h1 : 1 ≤ 2 ^ k := Nat.one_le_two_pow
  have h64 : 2 ^ k ≤ 2 ^ 16 := Nat.pow_le_pow_right (by omega) h
  have e1 : (BitVec.ofInt 64 ((2 : Int) ^ k - 1)).toNat = 2 ^ k - 1 := by
    rw [BitVec.toNat_ofInt]
    have e16 : (2 : Nat) ^ 16 = 65536 := by decide
    have : (2 : Int) ^ k - 1 = ((2 ^ k - 1 : Nat) : Int) := by omega
    rw [this, Int.emod_eq_of_lt (by omega) (by omega)]
    rfl
  have e2 : (BitVec.ofInt 64 n &&& BitVec.ofInt 64 ((2 : Int) ^ k - 1)).toNat = (BitVec.ofInt 64 n).toNat % 2 ^ k := by
    rw [BitVec.toNat_and, e1, Nat.and_two_pow_sub_one_eq_mod]
  rw [e2]
  have e3 : (((BitVec.ofInt 64 n).toNat % 2 ^ k : Nat) : Int) = n % 2 ^ k := by
    rw [BitVec.toNat_ofInt]
    have h0 : 0 ≤ n % ((2 ^ 64 : Nat) : Int) := Int.emod_nonneg _ (by decide)
    have hd : ((2 : Int) ^ k) ∣ ((2 ^ 64 : Nat) : Int) := by
      have : (2 ^ k : Nat) ∣ 2 ^ 64 := Nat.pow_dvd_pow 2 (by omega)
      rw [← e]; exact Int.natCast_dvd_natCast.2 this
    rw [Int.natCast_emod, Int.toNat_of_nonneg h0, e, Int.emod_emod_of_dvd _ hd]
  rw [e3]
  have h2 := Int.emod_nonneg n (show (2 : Int) ^ k ≠ 0 by omega)
  have h3 := Int.emod_lt_of_pos n (show (0 : Int) < 2 ^ k by omega)
  exact wrap64 (by omega) (by omega)
theorem bits64 : IntKind.i64.bits = 64 := rfl
theorem nneg (k : Nat) : ¬ ((k : Int) < 0) := by omega
theorem held_u (w : Int) (h : H) (K) (t) : uRuns E 53 [.int .i64 w] h K t = K (.int .i64 (heldN w : Nat)) h := by
  refine Runs.det (Runs.ofX Tryd.func53 rfl rfl rfl rfl (fun _ => rfl) ?_)
  have : (heldN w : Int) = (if 16 < (if 1 > w then 1 else w) then 16 else (if 1 > w then 1 else w)) := by
    unfold heldN; omega
  simp [Tryd.f53, this]
theorem trim_u (n w : Int) (h : H) (K) (t) : uRuns E 32 [.int .i64 n, .int .i64 w] h K t = K (.int .i64 (trimN n (heldN w))) h := by
  have hb := heldN_b w
  refine Runs.det (Runs.ofX Tryd.func32 rfl rfl rfl rfl (fun _ => rfl) ?_)
  have hk : (heldN w : Int) = heldN w := rfl
  generalize hkw : heldN w = k at hb
  have pb := pow_b hb.2
  have e1 : min k IntKind.i64.bits = k := by rw [bits64]; omega
  have e2 : IntKind.i64.wrap ((2 : Int) ^ k) = 2 ^ k := wrap64 (by omega) (by omega)
  have e3 : IntKind.i64.wrap ((2 : Int) ^ k - 1) = 2 ^ k - 1 := wrap64 (by omega) (by omega)
  have e4 : IntKind.i64.wrap ((k : Int) - 1) = ((k - 1 : Nat) : Int) := by rw [wrap64] <;> omega
  have e5 : min (k - 1) IntKind.i64.bits = k - 1 := by rw [bits64]; omega
  have am : IntKind.i64.wrap ((BitVec.ofInt IntKind.i64.bits n &&& BitVec.ofInt IntKind.i64.bits (2 ^ k - 1)).toNat : Int) = n % 2 ^ k := and_mask (n := n) hb.2
  simp at am
  have m0 := Int.emod_nonneg n (show (2 : Int) ^ k ≠ 0 by omega)
  have m1 := Int.emod_lt_of_pos n (show (0 : Int) < 2 ^ k by omega)
  have pk : (2 : Int) ^ k = 2 * 2 ^ (k - 1) := by
    have : k = (k - 1) + 1 := by omega
    conv => lhs; rw [this, Int.pow_succ]
    omega
  have p1 : (1 : Int) ≤ 2 ^ (k - 1) := (pow_b (k := k - 1) (by omega)).1
  have e6 : (n % 2 ^ k).fdiv (2 ^ (k - 1)) = if 2 ^ (k - 1) ≤ n % 2 ^ k then 1 else 0 := by
    rw [Int.fdiv_eq_ediv_of_nonneg _ (by omega)]
    split
    · rename_i c
      have hq := Int.emod_def (n % 2 ^ k) (2 ^ (k - 1))
      have hr0 := Int.emod_nonneg (n % 2 ^ k) (show (2 : Int) ^ (k - 1) ≠ 0 by omega)
      have hr1 := Int.emod_lt_of_pos (n % 2 ^ k) (show (0 : Int) < 2 ^ (k - 1) by omega)
      generalize n % 2 ^ k / 2 ^ (k - 1) = q at hq
      have : q < 2 := by
        refine Int.lt_of_not_ge fun hh => ?_
        have := Int.mul_le_mul_of_nonneg_left hh (show (0 : Int) ≤ 2 ^ (k - 1) by omega)
        omega
      have : 0 < q := by
        refine Int.lt_of_not_ge fun hh => ?_
        have := Int.mul_le_mul_of_nonneg_left hh (show (0 : Int) ≤ 2 ^ (k - 1) by omega)
        omega
      omega
    · exact Int.ediv_eq_zero_of_lt m0 (by omega)
  have e7 : IntKind.i64.wrap (n % 2 ^ k - 2 ^ k) = n % 2 ^ k - 2 ^ k := wrap64 (by omega) (by omega)
  unfold trimN
  by_cases c : 2 ^ (k - 1) ≤ n % 2 ^ k
  · rw [if_pos c] at e6
    simp [Tryd.f32, held_u, hkw, nneg, e1, e2, e3, e4, e5, am, e6, e7, c]
  · rw [if_neg c] at e6
    simp [Tryd.f32, held_u, hkw, nneg, e1, e2, e3, e4, e5, am, e6, c]
end Go.Proofs.YtjlabjncojhjkaaDoor
namespace Go.Proofs.YtjlabjncojhjkaaDoor
open Go Go.Cv
def bools (l : List Bool) : List CV := l.map .bool
/-- What came since: a new list, and all that was there as it was. -/
structure Fresh (h h' : H) (v : CV) (cs : List CV) : Prop where
  gr : Grows h h'
  fr : ∀ i, i < h.next → h'.get i = h.get i
  ex : ∃ id, v = .ref id 0 cs.length 1 ∧ h.next ≤ id ∧ h'.get id = some (.cells cs)
/-- A list that is being made. -/
structure OutF (h0 h : H) (v : CV) (cs : List CV) : Prop where
  gr : Grows h0 h
  fr : ∀ i, i < h0.next → h.get i = h0.get i
  ex : (v = .nils ∧ cs = []) ∨ ∃ id, v = .ref id 0 cs.length 1 ∧ h0.next ≤ id ∧ h.get id = some (.cells cs)
theorem OutF.nil {h0 : H} (wf : WFH h0) : OutF h0 h0 .nils [] := ⟨.refl wf, fun _ _ => rfl, .inl ⟨rfl, rfl⟩⟩
theorem OutF.fresh {h0 h : H} {v : CV} {cs : List CV} (I : OutF h0 h v cs) (hc : cs ≠ []) : Fresh h0 h v cs :=
  ⟨I.gr, I.fr, I.ex.elim (fun q => absurd q.2 hc) id⟩
/-- Ahead of the append: the new element lies in an object of its own. -/
theorem OutF.outC {h0 h : H} {v : CV} {cs : List CV} (I : OutF h0 h v cs) (x : CV) : OutC (h.new (.cells [x])) v cs := by
  rcases I.ex with q | ⟨id, q, _, hg⟩
  · exact .inl q
  · have := H.lt_next I.gr.wf hg
    exact .inr ⟨id, q, by simp [(far this).1, hg]⟩
theorem OutF.app {h0 h h' : H} {v x : CV} {cs : List CV} (I : OutF h0 h v cs) (A : App (h.new (.cells [x])) h' v (cs ++ [x])) : OutF h0 h' (.ref (h.next + 1) 0 (cs.length + 1) 1) (cs ++ [x]) := by
  have hn := I.gr.nx
  have e1 := A.nx
  have e2 : (h.new (.cells [x])).next = h.next + 1 := rfl
  refine ⟨⟨by omega, A.wf, fun i hi hz => ?_⟩, fun i hi => ?_, .inr ⟨_, by simp, by omega, A.el⟩⟩
  · exact A.no i (by omega) (by simp [(far (show i < h.next by omega)).1]; exact I.gr.no i hi hz)
  · rw [A.fr i (by omega) (fun id off len sz hv => ?_)]
    · simp [(far (show i < h.next by omega)).1]; exact I.fr i hi
    · rcases I.ex with ⟨rfl, _⟩ | ⟨id', rfl, h1, _⟩
      · cases hv
      · cases hv; omega
def bitsL (n : Int) (k : Nat) : List Bool := (List.range k).map fun i => decide ((n / 2 ^ i) % 2 = 1)
theorem bitsL_len (n : Int) (k : Nat) : (bitsL n k).length = k := by simp [bitsL]
theorem bools_len (l : List Bool) : (bools l).length = l.length := by simp [bools]
theorem bitsL_succ (n : Int) (k : Nat) : bools (bitsL n (k + 1)) = bools (bitsL n k) ++ [.bool (decide ((n / 2 ^ k) % 2 = 1))] := by
  simp [bitsL, bools, List.range_succ]
theorem and_one (n : Int) : IntKind.i64.wrap ((BitVec.ofInt 64 n &&& BitVec.ofInt 64 1).toNat : Int) = n % 2 := by
  have := and_mask (n := n) (k := 1) (by omega)
  simpa using this
def bitsI (h0 : H) (n : Int) (k m : Nat) (f : Nat → CV) (h : H) : Prop :=
  f 0 = .int .i64 n ∧ f 8 = .int .i64 (k : Nat) ∧ ∃ i : Nat, f 9 = .int .i64 (i : Nat) ∧ i ≤ k ∧ m = k - i ∧ OutF h0 h (f 5) (bools (bitsL n i))
set_option maxRecDepth 4000 in
/-- bits.Bits -/
theorem bits_run {h : H} (wf : WFH h) (n w : Int) : Runs E 33 [.int .i64 n, .int .i64 w] h fun v h' => Fresh h h' v (bools (bitsL n (heldN w))) := by
  have hb := heldN_b w
  refine Runs.ofX Tryd.func33 rfl rfl rfl rfl (fun _ => rfl) ?_
  simp [Tryd.f33, held_u]
  generalize heldN w = k at hb
  refine xX_loopI (N := 22) (fun _ => rfl) rfl (bitsI h n k) k ?_ ?_
  · exact ⟨rfl, rfl, 0, rfl, by omega, rfl, OutF.nil wf⟩
  · rintro m f h1 ⟨f0, f8, i, f9, hi, rfl, I⟩
    by_cases c : i < k
    · have e1 : min i IntKind.i64.bits = i := by rw [bits64]; omega
      have e2 : n.fdiv (2 ^ i) = n / 2 ^ i := Int.fdiv_eq_ediv_of_nonneg _ (by have := (pow_b (k := i) (by omega)).1; omega)
      have am : IntKind.i64.wrap ((BitVec.ofInt IntKind.i64.bits (n / 2 ^ i) &&& BitVec.ofInt IntKind.i64.bits 1).toNat : Int) = n / 2 ^ i % 2 := and_one _
      simp at am
      have w1 : IntKind.i64.wrap ((i : Int) + 1) = i + 1 := wrap64 (by omega) (by omega)
      simp [-u_append, tabF, f0, f8, f9, c, nneg, e1, e2, am]
      refine app1 (x := .bool (decide (n / 2 ^ i % 2 = 1))) (H.wf_new I.gr.wf _) (I.outC _) rfl (by simp) rfl rfl rfl rfl rfl rfl rfl rfl (by rw [bools_len, bitsL_len]; show _ * 1 ≤ _; omega) (by rw [bools_len, bitsL_len]; omega) fun h2 A => ?_
      have I2 := I.app A
      simp [w1]
      exact ⟨k - (i + 1), by omega, rfl, rfl, i + 1, rfl, by omega, rfl, by
        rw [bitsL_succ]; exact I2⟩
    · have c2 : i = k := by omega
      subst c2
      simp [tabF, f0, f8, f9]
      exact I.fresh (by intro e; have := congrArg List.length e; rw [bools_len, bitsL_len] at this; simp at this; omega)
end Go.Proofs.YtjlabjncojhjkaaDoor
namespace Go.Proofs.YtjlabjncojhjkaaDoor
open Go Go.Cv
theorem ints_app (a b : List Int) : ints (a ++ b) = ints a ++ ints b := by simp [ints]
theorem ints_len' (l : List Int) : (ints l).length = l.length := by simp [ints]
/-! ### bits.Const -/
def constL (n : Int) (k : Nat) : List Int := (bitsL n k).map fun b => if b then 1 else 0
theorem constL_len (n : Int) (k : Nat) : (constL n k).length = k := by simp [constL, bitsL_len]
theorem bitsL_get {n : Int} {k i : Nat} (h : i < k) : (bitsL n k)[i]? = some (decide (n / 2 ^ i % 2 = 1)) := by simp [bitsL, h]
theorem constL_succ (n : Int) (k : Nat) : constL n (k + 1) = constL n k ++ [if n / 2 ^ k % 2 = 1 then 1 else 0] := by
  simp [constL, bitsL, List.range_succ]
def constI (h0 : H) (n : Int) (bid k m : Nat) (f : Nat → CV) (h : H) : Prop :=
  f 10 = .ref bid 0 k 1 ∧ f 11 = .int .i64 (k : Nat) ∧ h.get bid = some (.cells (bools (bitsL n k))) ∧ bid < h0.next ∧ ∃ i : Nat, f 12 = .int .i64 (i : Nat) ∧ i ≤ k ∧ m = k - i ∧ OutF h0 h (f 5) (ints (constL n i))
set_option maxRecDepth 4000 in
theorem const_run {h : H} (wf : WFH h) (n w : Int) : Runs E 24 [.int .i64 n, .int .i64 w] h fun v h' => Fresh h h' v (ints (constL n (heldN w))) := by
  have hb := heldN_b w
  refine Runs.ofX Tryd.func24 rfl rfl rfl rfl (fun _ => rfl) ?_
  simp [Tryd.f24]
  refine (bits_run wf n w).mono fun v h1 ⟨g1, k1, bid, hv, hn, hb1⟩ => ?_
  generalize heldN w = k at *
  rw [bools_len, bitsL_len] at hv
  subst hv
  have b0 := H.lt_next g1.wf hb1
  simp
  refine xX_loopI (N := 25) (fun _ => rfl) rfl (constI h1 n bid k) k ?_ ?_
  · exact ⟨rfl, rfl, hb1, b0, 0, rfl, by omega, rfl, OutF.nil g1.wf⟩
  · rintro m f h2 ⟨f10, f11, hb2, hbl, i, f12, hi, rfl, I⟩
    have b2 := H.lt_next I.gr.wf hb2
    by_cases c : i < k
    · have e1 : ∀ hh : i < (bools (bitsL n k)).length, (bools (bitsL n k))[i]'hh = .bool (decide (n / 2 ^ i % 2 = 1)) := fun hh => by
        have : (bools (bitsL n k))[i]? = some (.bool (decide (n / 2 ^ i % 2 = 1))) := by simp [bools, bitsL_get c]
        simpa [hh] using this
      have e2 : (bools (bitsL n k)).length = k := by rw [bools_len, bitsL_len]
      have w1 : IntKind.i64.wrap ((i : Int) + 1) = i + 1 := wrap64 (by omega) (by omega)
      have keep : ∀ {x : CV} {h' : H}, App (h2.new (.cells [x])) h' (f 5) (ints (constL n i) ++ [x]) → h'.get bid = some (.cells (bools (bitsL n k))) := by
        intro x h' A
        have : (h2.new (.cells [x])).next = h2.next + 1 := rfl
        rw [A.fr bid (by omega) (fun id off len sz hv => ?_)]
        · simp [(far b2).1, hb2]
        · rcases I.ex with ⟨q, _⟩ | ⟨id', q, q1, _⟩
          · rw [q] at hv; cases hv
          · rw [q] at hv; cases hv; omega
      by_cases d : n / 2 ^ i % 2 = 1
      · simp [-u_append, tabF, f10, f11, f12, c, hb2, e1, e2, d]
        refine app1 (x := .int .i64 1) (H.wf_new I.gr.wf _) (I.outC _) rfl (by simp) rfl rfl rfl rfl rfl rfl rfl rfl (by rw [ints_len', constL_len]; show _ * 8 ≤ _; omega) (by rw [ints_len', constL_len]; omega) fun h3 A => ?_
        have I2 := I.app A
        simp [w1]
        exact ⟨k - (i + 1), by omega, rfl, rfl, keep A, hbl, i + 1, rfl, by omega, rfl, by
          rw [constL_succ, if_pos d, ints_app]; exact I2⟩
      · simp [-u_append, tabF, f10, f11, f12, c, hb2, e1, e2, d]
        refine app1 (x := .int .i64 0) (H.wf_new I.gr.wf _) (I.outC _) rfl (by simp) rfl rfl rfl rfl rfl rfl rfl rfl (by rw [ints_len', constL_len]; show _ * 8 ≤ _; omega) (by rw [ints_len', constL_len]; omega) fun h3 A => ?_
        have I2 := I.app A
        simp [w1]
        exact ⟨k - (i + 1), by omega, rfl, rfl, keep A, hbl, i + 1, rfl, by omega, rfl, by
          rw [constL_succ, if_neg d, ints_app]; exact I2⟩
    · have c2 : i = k := by omega
      subst c2
      simp [tabF, f10, f11, f12]
      obtain ⟨g2, k2, id, q1, q2, q3⟩ := I.fresh (by intro e; have := congrArg List.length e; rw [ints_len', constL_len, List.length_nil] at this; omega)
      exact ⟨g1.trans g2, fun j hj => by rw [k2 j (Nat.lt_of_lt_of_le hj g1.nx), k1 j hj], id, q1, Nat.le_trans g1.nx q2, q3⟩
/-! ### bits.vector, slices.Clone -/
def SlP (h : H) (v : CV) (cs : List CV) : Prop := (v = .nils ∧ cs = []) ∨ ∃ id rest, v = .ref id 0 cs.length 1 ∧ h.get id = some (.cells (cs ++ rest))
def vecL (l : List Int) : List Int := if l.length < 1 ∨ 16 < l.length then [0] else l
theorem vecL_len (l : List Int) : 1 ≤ (vecL l).length ∧ (vecL l).length ≤ 16 := by
  unfold vecL
  split
  · exact ⟨Nat.le_refl _, by decide⟩
  · omega
theorem vector_run {h : H} (wf : WFH h) {v : CV} {l : List Int} (hs : SlP h v (ints l)) : Runs E 51 [v] h fun v' h' => Grows h h' ∧ (∀ i, i < h.next → h'.get i = h.get i) ∧ ∃ id rest, v' = .ref id 0 (vecL l).length 1 ∧ h'.get id = some (.cells (ints (vecL l) ++ rest)) := by
  refine (Runs.grows E_ok E_mix (Q := fun v' h' => (∀ i, i < h.next → h'.get i = h.get i) ∧ ∃ id rest, v' = .ref id 0 (vecL l).length 1 ∧ h'.get id = some (.cells (ints (vecL l) ++ rest))) (Runs.ofX Tryd.func51 rfl rfl rfl rfl (fun _ => rfl) ?_) wf)
  rcases hs with ⟨rfl, hn⟩ | ⟨id, rest, rfl, hg⟩
  · have hl : l = [] := by simpa [ints] using hn
    subst hl
    simp [Tryd.f51, vecL]
    refine ⟨fun i hi => by simp [far hi], ?_⟩
    simp [ints]
  · rw [ints_len']
    by_cases c1 : (l.length : Int) < 1
    · have : l = [] := List.length_eq_zero_iff.1 (by omega)
      subst this
      simp [Tryd.f51, vecL]
      refine ⟨fun i hi => by simp [far hi], ?_⟩
      simp [ints]
    · by_cases c2 : (16 : Int) < l.length
      · have hv : vecL l = [0] := by unfold vecL; rw [if_pos (.inr (by omega))]
        simp [Tryd.f51, c1, c2, hv]
        refine ⟨fun i hi => by simp [far hi], ?_⟩
        exact ⟨[], by simp [ints]⟩
      · have hv : vecL l = l := by unfold vecL; rw [if_neg (by omega)]
        simp [Tryd.f51, c1, c2, hv]
        exact ⟨rest, hg⟩
theorem clone_run {h : H} (wf : WFH h) {id : Nat} {cs rest : List CV} (hg : h.get id = some (.cells (cs ++ rest))) (hl : cs.length ≤ 1000) : Runs E 52 [.ref id 0 cs.length 1] h fun v' h' => Fresh h h' v' cs := by
  have g0 := H.lt_next wf hg
  have b1 : cs.length * 8 ≤ 140737488355328 := by omega
  have b2 : cs.length ≤ 140737488355328 := by omega
  refine (Runs.grows E_ok E_mix (Q := fun v' h' => (∀ i, i < h.next → h'.get i = h.get i) ∧ ∃ id, v' = .ref id 0 cs.length 1 ∧ h.next ≤ id ∧ h'.get id = some (.cells cs)) (Runs.ofX Tryd.func52 rfl rfl rfl rfl (fun _ => rfl) ?_) wf).mono fun v h' ⟨a, b, c⟩ => ⟨a, b, c⟩
  simp [Tryd.f52, eqBin, hg, far g0, b1, b2]
  intro i hi
  simp [far hi]
end Go.Proofs.YtjlabjncojhjkaaDoor
namespace Go.Proofs.YtjlabjncojhjkaaDoor
open Go Go.Cv
/-! ### bits.Wide, both -/
def lastL (l : List Int) : Int := l.getD (l.length - 1) 0
def wideL (l : List Int) (k : Nat) : List Int := (vecL l).take k ++ List.replicate (k - (vecL l).length) (lastL (vecL l))
theorem wideL_len (l : List Int) (k : Nat) : (wideL l k).length = k := by simp [wideL]; omega
structure WideI (h0 : H) (v : List Int) (id k : Nat) (rest : List CV) (j : Nat) (o : CV) (h : H) : Prop where
  vg : h.get id = some (.cells (ints v ++ rest))
  vl : id < h0.next
  jk : v.length + j ≤ k ∨ j = 0
  out : OutF h0 h o (ints (v.take k ++ List.replicate j (lastL v)))
def wideI (h0 : H) (v : List Int) (id k : Nat) (w : Int) (rest : List CV) (m : Nat) (f : Nat → CV) (h : H) : Prop :=
  f 0 = .ref id 0 v.length 1 ∧ f 1 = .int .i64 w ∧ ∃ j oid q, q = (v.take k).length + j ∧ m = k - q ∧ f 5 = .ref oid 0 q 1 ∧ WideI h0 v id k rest j (f 5) h
set_option maxRecDepth 4000 in
theorem wide_run {h : H} (wf : WFH h) {v : CV} {l : List Int} (hs : SlP h v (ints l)) (w : Int) : Runs E 23 [v, .int .i64 w] h fun v' h' => Fresh h h' v' (ints (wideL l (heldN w))) := by
  have hb := heldN_b w
  refine Runs.ofX Tryd.func23 rfl rfl rfl rfl (fun _ => rfl) ?_
  simp [Tryd.f23]
  refine (vector_run wf hs).mono fun v1 h1 ⟨g1, k1, id, rest, hv, hg⟩ => ?_
  subst hv
  have vl := vecL_len l
  generalize hvl : vecL l = vv at hg vl
  have g0 := H.lt_next g1.wf hg
  have hk : heldN w = heldN w := rfl
  generalize hkk : heldN w = k at hb
  obtain ⟨p, hp⟩ : ∃ p, p = min vv.length k := ⟨_, rfl⟩
  have hm : (if k < vv.length then (k : Int) else (vv.length : Int)) = (p : Int) := by split <;> omega
  have hb1 : p ≤ vv.length := by omega
  simp [held_u, hkk, sliceC, boundC, hm, hb1]
  have hcl : (ints (vv.take k)).length = p := by simp [ints]; omega
  have hg' : h1.get id = some (.cells (ints (vv.take k) ++ (ints (vv.drop k) ++ rest))) := by
    rw [hg, ← List.append_assoc, ← ints_app, List.take_append_drop]
  have cl := clone_run g1.wf hg' (by omega)
  rw [hcl] at cl
  refine cl.mono fun v2 h2 ⟨g2, k2, oid, hv, hn, ho⟩ => ?_
  subst hv
  simp
  refine xX_loopI (N := 31) (fun _ => rfl) rfl (wideI h1 vv id k w rest) (k - p) ?_ ?_
  · have hcl' : (ints (vv.take k)).length = p := hcl
    refine ⟨rfl, rfl, 0, oid, p, by rw [← hcl, ints_len']; rfl, rfl, by simp only [getT]; rw [hcl'], ⟨by rw [k2 _ g0]; exact hg, g0, .inr rfl, ⟨g2, k2, .inr ⟨oid, ?_, hn, ?_⟩⟩⟩⟩
    · simp only [getT, List.replicate_zero, List.append_nil]
    · simp only [List.replicate_zero, List.append_nil]; exact ho
  · rintro m f h3 ⟨f0, f1, j, oid', q, hq, rfl, f5, I⟩
    have b3 := H.lt_next I.out.gr.wf I.vg
    have tl : (vv.take k).length = min k vv.length := by simp
    have hlen : (ints (vv.take k ++ List.replicate j (lastL vv))).length = q := by rw [ints_len', List.length_append, List.length_replicate, hq]
    by_cases c : q < k
    · have hx : (ints vv ++ rest)[vv.length - 1]? = some (.int .i64 (lastL vv)) := by
        rw [List.getElem?_append_left (by rw [ints_len']; omega)]
        simp only [ints, List.getElem?_map, lastL, List.getD_eq_getElem?_getD]
        rw [List.getElem?_eq_getElem (by omega)]
        simp
      have w1 : IntKind.i64.wrap ((vv.length : Int) - 1) = ((vv.length - 1 : Nat) : Int) := by rw [wrap64] <;> omega
      have i1 : vv.length - 1 < vv.length := by omega
      have hvg := I.vg
      generalize hob : ints vv ++ rest = ob at hx hvg
      have obl : vv.length - 1 < ob.length := by rw [← hob]; simp [ints]; omega
      have hx2 : ∀ hh : vv.length - 1 < ob.length, ob[vv.length - 1]'hh = .int .i64 (lastL vv) := fun hh => by simpa [hh] using hx
      simp [-u_append, tabF, f0, f1, f5, held_u, hkk, hvg, w1, c, i1, hx2, obl]
      refine app1 (x := .int .i64 (lastL vv)) (H.wf_new I.out.gr.wf _) (I.out.outC _) (by rw [f5]; rfl) (by simp) rfl rfl rfl rfl rfl rfl rfl rfl (by rw [hlen]; show _ * 8 ≤ _; omega) (by rw [hlen]; omega) fun h4 A => ?_
      have I2 := I.out.app A
      rw [hlen] at I2 ⊢
      simp
      refine ⟨k - (q + 1), by omega, rfl, rfl, j + 1, h3.next + 1, q + 1, by omega, rfl, rfl, ⟨?_, I.vl, .inl (by omega), ?_⟩⟩
      · have e2 : (h3.new (.cells [.int .i64 (lastL vv)])).next = h3.next + 1 := rfl
        rw [A.fr id (by omega) (fun id' off len sz hv => ?_)]
        · simp [(far b3).1, hvg, hob]
        · have := I.vl
          rcases I.out.ex with ⟨q', _⟩ | ⟨id2, q', q1, _⟩
          · rw [q'] at hv; cases hv
          · rw [q'] at hv; cases hv; omega
      · rw [List.replicate_succ', ← List.append_assoc, ints_app]
        exact I2
    · have hj : j = k - vv.length := by
        rcases I.jk with x | x <;> omega
      simp [tabF, f0, f1, f5, held_u, hkk, c]
      have hne : ints (vv.take k ++ List.replicate j (lastL vv)) ≠ [] := by
        intro e; have := congrArg List.length e; rw [hlen, List.length_nil] at this; omega
      obtain ⟨g3, k3, id4, q1, q2, q3⟩ := I.out.fresh hne
      have e5 : wideL l k = vv.take k ++ List.replicate j (lastL vv) := by unfold wideL; rw [hvl, hj]
      rw [e5]
      exact ⟨g1.trans g3, fun i hi => by rw [k3 i (Nat.lt_of_lt_of_le hi g1.nx), k1 i hi], id4, by rw [← f5]; exact q1, Nat.le_trans g1.nx q2, q3⟩
/-- bits.both -/
def bothK (a b : List Int) : Nat := max (vecL a).length (vecL b).length
theorem bothK_b (a b : List Int) : 1 ≤ bothK a b ∧ bothK a b ≤ 16 := by
  have := vecL_len a; have := vecL_len b; unfold bothK; omega
structure Fresh2 (h h' : H) (v1 v2 : CV) (c1 c2 : List CV) : Prop where
  gr : Grows h h'
  fr : ∀ i, i < h.next → h'.get i = h.get i
  ex : ∃ i1 i2, v1 = .ref i1 0 c1.length 1 ∧ v2 = .ref i2 0 c2.length 1 ∧ h.next ≤ i1 ∧ h.next ≤ i2 ∧ i1 ≠ i2 ∧ h'.get i1 = some (.cells c1) ∧ h'.get i2 = some (.cells c2)
theorem SlP.keep {h h' : H} {v : CV} {cs : List CV} (wf : WFH h) (s : SlP h v cs) (hk : ∀ i, i < h.next → h'.get i = h.get i) : SlP h' v cs := by
  rcases s with s | ⟨id, rest, hv, hg⟩
  · exact .inl s
  · exact .inr ⟨id, rest, hv, by rw [hk id (H.lt_next wf hg)]; exact hg⟩
theorem heldN_id {k : Nat} (h : 1 ≤ k ∧ k ≤ 16) : heldN (k : Int) = k := by unfold heldN; omega
theorem both_run {h : H} (wf : WFH h) {v1 v2 : CV} {a b : List Int} (h1 : SlP h v1 (ints a)) (h2 : SlP h v2 (ints b)) :
    Runs E 55 [v1, v2] h fun v h' => ∃ r1 r2, v = .tup [r1, r2] ∧ Fresh2 h h' r1 r2 (ints (wideL a (bothK a b))) (ints (wideL b (bothK a b))) := by
  have la := vecL_len a; have lb := vecL_len b
  have kb := bothK_b a b
  refine Runs.ofX Tryd.func55 rfl rfl rfl rfl (fun _ => rfl) ?_
  simp [Tryd.f55]
  refine (vector_run wf h1).mono fun w1 h3 ⟨g1, k1, i1, rest1, hv, hg1⟩ => ?_
  subst hv
  simp
  refine (vector_run g1.wf (h2.keep wf k1)).mono fun w2 h4 ⟨g2, k2, i2, rest2, hv, hg2⟩ => ?_
  subst hv
  have hm : (if (vecL a).length < (vecL b).length then ((vecL b).length : Int) else ((vecL a).length : Int)) = (bothK a b : Nat) := by unfold bothK; split <;> omega
  simp [hm]
  have h13 : ∀ i, i < h.next → h4.get i = h.get i := fun i hi => by rw [k2 i (Nat.lt_of_lt_of_le hi g1.nx), k1 i hi]
  refine (wide_run g2.wf (h1.keep wf h13) (bothK a b : Nat)).mono fun r1 h5 ⟨g3, k3, j1, hv1, hn1, ho1⟩ => ?_
  rw [heldN_id kb] at hv1 ho1
  subst hv1
  have h15 : ∀ i, i < h.next → h5.get i = h.get i := fun i hi => by rw [k3 i (Nat.lt_of_lt_of_le hi (g1.trans g2).nx), h13 i hi]
  simp
  refine (wide_run g3.wf (h2.keep wf h15) (bothK a b : Nat)).mono fun r2 h6 ⟨g4, k4, j2, hv2, hn2, ho2⟩ => ?_
  rw [heldN_id kb] at hv2 ho2
  subst hv2
  have lj := H.lt_next g3.wf ho1
  have n1 := g1.nx; have n2 := g2.nx; have n3 := g3.nx
  simp
  exact ⟨_, _, ⟨rfl, rfl⟩, ⟨(g1.trans g2).trans (g3.trans g4), fun i hi => by rw [k4 i (by omega), h15 i hi], j1, j2, rfl, rfl, by omega, by omega, by omega, by rw [k4 j1 lj]; exact ho1, ho2⟩⟩
end Go.Proofs.YtjlabjncojhjkaaDoor
namespace Go.Proofs.YtjlabjncojhjkaaDoor
open Go Go.Cv
/-! ### A graph, and lists beside it -/
structure Mem (h : H) (gid : Nat) (G : Gr) (S : Nat → List CV → Prop) : Prop where
  ex : ∃ Fg, GraphAt h Fg gid G ∧ ∀ i cs, S i cs → ¬ Fg i
  sv : ∀ i cs, S i cs → h.get i = some (.cells cs)
  wf : WFH h
  ok : G.OK
def With (S : Nat → List CV → Prop) (id : Nat) (c : List CV) : Nat → List CV → Prop := fun i cs => S i cs ∨ (i = id ∧ cs = c)
section
variable {h h' : H} {gid : Nat} {G G' : Gr} {S S' : Nat → List CV → Prop}
theorem Mem.lt (I : Mem h gid G S) {i : Nat} {cs : List CV} (q : S i cs) : i < h.next := H.lt_next I.wf (I.sv i cs q)
theorem Mem.weak (I : Mem h gid G S) (hs : ∀ i cs, S' i cs → S i cs) : Mem h gid G S' := by
  obtain ⟨Fg, hG, d⟩ := I.ex
  exact ⟨⟨Fg, hG, fun i cs q => d i cs (hs i cs q)⟩, fun i cs q => I.sv i cs (hs i cs q), I.wf, I.ok⟩
theorem Mem.step (I : Mem h gid G S) {Fg : Nat → Prop} (d : ∀ i cs, S i cs → ¬ Fg i) (P : GPost h h' Fg gid G') (ok : G'.OK) : Mem h' gid G' S :=
  ⟨⟨_, P.at_, fun i cs q w => w.elim (d i cs q) (fun w => by have := I.lt q; omega)⟩, fun i cs q => by rw [P.fr i (I.lt q) (d i cs q)]; exact I.sv i cs q, P.gr.wf, ok⟩
/-- New objects, and all that was there as it was. -/
theorem Mem.fresh (I : Mem h gid G S) (gr : Grows h h') (fr : ∀ i, i < h.next → h'.get i = h.get i) : Mem h' gid G (fun i cs => S i cs ∨ (h.next ≤ i ∧ h'.get i = some (.cells cs))) := by
  obtain ⟨Fg, hG, d⟩ := I.ex
  refine ⟨⟨fun i => Fg i ∧ i < h.next, (hG.lt I.wf).keep I.wf fun i hi _ => fr i hi, fun i cs q w => ?_⟩, fun i cs q => ?_, gr.wf, I.ok⟩
  · rcases q with q | q
    · exact d i cs q w.1
    · omega
  · rcases q with q | q
    · rw [fr i (I.lt q)]; exact I.sv i cs q
    · exact q.2
theorem Mem.fresh1 (I : Mem h gid G S) {v : CV} {c : List CV} (F : Fresh h h' v c) : ∃ id, v = .ref id 0 c.length 1 ∧ h.next ≤ id ∧ Mem h' gid G (With S id c) := by
  obtain ⟨gr, fr, id, hv, hn, hc⟩ := F
  exact ⟨id, hv, hn, (I.fresh gr fr).weak fun i cs q => q.elim .inl fun q => .inr ⟨by omega, by rw [q.1, q.2]; exact hc⟩⟩
/-- An object beside the graph comes anew. -/
theorem Mem.turn {id : Nat} {c : List CV} (I : Mem h gid G (With S id c)) (hs : ∀ i cs, S i cs → i ≠ id) {nid : Nat} {c' : List CV} (gr : Grows h h') (fr : ∀ i, i < h.next → i ≠ id → h'.get i = h.get i) (hn : h.next ≤ nid) (hc : h'.get nid = some (.cells c')) : Mem h' gid G (With S nid c') := by
  obtain ⟨Fg, hG, d⟩ := I.ex
  have hid : ¬ Fg id := d id c (.inr ⟨rfl, rfl⟩)
  refine ⟨⟨fun i => Fg i ∧ i < h.next, (hG.lt I.wf).keep I.wf fun i hi hF => fr i hi (fun e => hid (e ▸ hF.1)), fun i cs q w => ?_⟩, fun i cs q => ?_, gr.wf, I.ok⟩
  · rcases q with q | ⟨rfl, _⟩
    · exact d i cs (.inl q) w.1
    · omega
  · rcases q with q | ⟨rfl, rfl⟩
    · rw [fr i (I.lt (.inl q)) (hs i cs q)]; exact I.sv i cs (.inl q)
    · exact hc
end
/-! #### The graph's functions over it -/
def GRuns (f : Nat) (args : List CV) (h : H) (gid : Nat) (G : Gr) (r : Int × Gr) : Prop := ∀ S, Mem h gid G S → Runs E f args h fun v h' => Grows h h' ∧ Mem h' gid r.2 S ∧ v = .int .i64 r.1
section
variable {h : H} {gid : Nat} {G : Gr}
theorem m_and {a b : Int} (ha : a ≤ 9223372036854775807) (hb : b ≤ 9223372036854775807) : GRuns 19 [.ptr gid 0, .int .i64 a, .int .i64 b] h gid G (G.and a b) := fun S I => by
  obtain ⟨Fg, hG, d⟩ := I.ex
  exact (and_g hG I.wf I.ok ha hb).mono fun v h' ⟨P, hv⟩ => ⟨P.gr, I.step d P (Gr.and_up I.ok a b).1.ok, hv⟩
theorem m_or {a b : Int} (ha : a ≤ 9223372036854775807) (hb : b ≤ 9223372036854775807) : GRuns 45 [.ptr gid 0, .int .i64 a, .int .i64 b] h gid G (G.or a b) := fun S I => by
  obtain ⟨Fg, hG, d⟩ := I.ex
  exact (or_g hG I.wf I.ok ha hb).mono fun v h' ⟨P, hv⟩ => ⟨P.gr, I.step d P (Gr.or_up I.ok a b).1.ok, hv⟩
theorem m_xor {a b : Int} (ha : a ≤ 9223372036854775807) (hb : b ≤ 9223372036854775807) : GRuns 44 [.ptr gid 0, .int .i64 a, .int .i64 b] h gid G (G.xor a b) := fun S I => by
  obtain ⟨Fg, hG, d⟩ := I.ex
  exact (xor_g hG I.wf I.ok ha hb).mono fun v h' ⟨P, hv⟩ => ⟨P.gr, I.step d P (Gr.xor_up I.ok a b).1.ok, hv⟩
theorem m_mux {c a b : Int} (hc : c ≤ 9223372036854775807) (ha : a ≤ 9223372036854775807) (hb : b ≤ 9223372036854775807) : GRuns 56 [.ptr gid 0, .int .i64 c, .int .i64 a, .int .i64 b] h gid G (G.mux c a b) := fun S I => by
  obtain ⟨Fg, hG, d⟩ := I.ex
  exact (mux_g hG I.wf I.ok hc ha hb).mono fun v h' ⟨P, hv⟩ => ⟨P.gr, I.step d P (Gr.mux_up I.ok c a b).1.ok, hv⟩
theorem m_input : GRuns 28 [.ptr gid 0] h gid G G.input := fun S I => by
  obtain ⟨Fg, hG, d⟩ := I.ex
  exact (input_g hG I.wf I.ok).mono fun v h' ⟨P, hv⟩ => ⟨P.gr, I.step d P (Gr.input_up I.ok).1.ok, hv⟩
end
/-! #### A list that is made beside the graph -/
structure OutG (h0 h : H) (gid : Nat) (G : Gr) (S : Nat → List CV → Prop) (v : CV) (l : List Int) : Prop where
  gr : Grows h0 h
  sb : ∀ i cs, S i cs → i < h0.next
  mem : (v = .nils ∧ l = [] ∧ Mem h gid G S) ∨ ∃ oid, v = .ref oid 0 l.length 1 ∧ h0.next ≤ oid ∧ Mem h gid G (With S oid (ints l))
/-- A list made, and the graph. -/
structure GOut (h h' : H) (gid : Nat) (G : Gr) (S : Nat → List CV → Prop) (v : CV) (l : List Int) : Prop where
  gr : Grows h h'
  ex : ∃ oid, v = .ref oid 0 l.length 1 ∧ h.next ≤ oid ∧ Mem h' gid G (With S oid (ints l))
section
variable {h0 h h' : H} {gid : Nat} {G G' : Gr} {S : Nat → List CV → Prop} {v : CV} {l : List Int}
theorem OutG.nil (I : Mem h0 gid G S) : OutG h0 h0 gid G S .nils [] := ⟨.refl I.wf, fun _ _ q => I.lt q, .inl ⟨rfl, rfl, I⟩⟩
theorem OutG.m (I : OutG h0 h gid G S v l) : Mem h gid G S := by
  rcases I.mem with ⟨_, _, m⟩ | ⟨oid, _, _, m⟩
  · exact m
  · exact m.weak fun i cs q => .inl q
theorem OutG.call (I : OutG h0 h gid G S v l) {f : Nat} {args : List CV} {r : Int × Gr} (R : GRuns f args h gid G r) : Runs E f args h fun v' h' => OutG h0 h' gid r.2 S v l ∧ v' = .int .i64 r.1 := by
  rcases I.mem with ⟨a, b, m⟩ | ⟨oid, a, b, m⟩
  · exact (R _ m).mono fun v' h' ⟨g, m', hv⟩ => ⟨⟨I.gr.trans g, I.sb, .inl ⟨a, b, m'⟩⟩, hv⟩
  · exact (R _ m).mono fun v' h' ⟨g, m', hv⟩ => ⟨⟨I.gr.trans g, I.sb, .inr ⟨oid, a, b, m'⟩⟩, hv⟩
theorem OutG.outC (I : OutG h0 h gid G S v l) (x : CV) : OutC (h.new (.cells [x])) v (ints l) := by
  rcases I.mem with ⟨a, b, _⟩ | ⟨oid, a, _, m⟩
  · exact .inl ⟨a, by rw [b]; rfl⟩
  · have hg := m.sv oid _ (.inr ⟨rfl, rfl⟩)
    exact .inr ⟨oid, by rw [ints_len']; exact a, by simp [(far (H.lt_next m.wf hg)).1, hg]⟩
theorem OutG.app (I : OutG h0 h gid G S v l) {e : Int} (A : App (h.new (.cells [.int .i64 e])) h' v (ints l ++ [.int .i64 e])) : OutG h0 h' gid G S (.ref (h.next + 1) 0 (l.length + 1) 1) (l ++ [e]) := by
  have hn := I.gr.nx
  have e1 := A.nx
  have e2 : (h.new (.cells [.int .i64 e])).next = h.next + 1 := rfl
  have wf := I.m.wf
  have gr : Grows h h' := ⟨by omega, A.wf, fun i hi hz => A.no i (by omega) (by simp [(far hi).1]; exact hz)⟩
  have eli : h'.get (h.next + 1) = some (.cells (ints (l ++ [e]))) := by rw [ints_app]; exact A.el
  refine ⟨I.gr.trans gr, I.sb, .inr ⟨h.next + 1, by simp, by omega, ?_⟩⟩
  rcases I.mem with ⟨a, b, m⟩ | ⟨oid, a, b, m⟩
  · subst a
    have fr : ∀ i, i < h.next → h'.get i = h.get i := fun i hi => by
      rw [A.fr i (by omega) (fun id off len sz hv => by cases hv)]; simp [(far hi).1]
    exact (m.fresh gr fr).weak fun i cs q => q.elim .inl fun q => .inr ⟨by omega, by rw [q.1, q.2]; exact eli⟩
  · subst a
    have fr : ∀ i, i < h.next → i ≠ oid → h'.get i = h.get i := fun i hi ne => by
      rw [A.fr i (by omega) (fun id off len sz hv => by cases hv; exact ne)]; simp [(far hi).1]
    exact m.turn (fun i cs q => by have := I.sb i cs q; omega) gr fr (by omega) eli
theorem OutG.fin (I : OutG h0 h gid G S v l) (hl : l ≠ []) : GOut h0 h gid G S v l := by
  rcases I.mem with ⟨_, b, _⟩ | q
  · exact absurd b hl
  · exact ⟨I.gr, q⟩
end
end Go.Proofs.YtjlabjncojhjkaaDoor
namespace Go.Proofs.YtjlabjncojhjkaaDoor
open Go Go.Cv
def Small (l : List Int) : Prop := ∀ e ∈ l, e ≤ 1000000
theorem getI {l : List Int} {i : Nat} {e : Int} (h : l[i]? = some e) : ∀ hh : i < (ints l).length, (ints l)[i]'hh = .int .i64 e := fun hh => by
  have : (ints l)[i]? = some (.int .i64 e) := by simp [ints, h]
  simpa [hh] using this
/-! ### bits.sum -/
def sumX (G : Gr) (a b c : Int) : Int × Gr := (G.xor a b).2.xor (G.xor a b).1 c
def sumC (G : Gr) (a b c : Int) : Int × Gr :=
  Gr.or2 ((sumX G a b c).2.and a b) (((sumX G a b c).2.and a b).2.and (G.xor a b).1 c)
def sumL : Gr → List Int → List Int → Int → List Int × Gr
  | G, a :: l, b :: m, c => ((sumX G a b c).1 :: (sumL (sumC G a b c).2 l m (sumC G a b c).1).1, (sumL (sumC G a b c).2 l m (sumC G a b c).1).2)
  | G, _, _, _ => ([], G)
theorem sumX_up {G : Gr} (ok : G.OK) (a b c : Int) : G.Up (sumX G a b c).2 ∧ (sumX G a b c).2.E (sumX G a b c).1 :=
  ⟨(Gr.xor_up ok a b).1.trans (Gr.xor_up (Gr.xor_up ok a b).1.ok _ c).1, (Gr.xor_up (Gr.xor_up ok a b).1.ok _ c).2⟩
theorem sumC_up {G : Gr} (ok : G.OK) (a b c : Int) : (sumX G a b c).2.Up (sumC G a b c).2 ∧ (sumC G a b c).2.E (sumC G a b c).1 := Gr.or2_up (sumX_up ok a b c).1.ok _ _ _ _
theorem sumL_up : ∀ (l m : List Int) {G : Gr} (c : Int), G.OK → G.Up (sumL G l m c).2 ∧ ∀ e ∈ (sumL G l m c).1, (sumL G l m c).2.E e
  | [], _, G, c, ok => by simp only [sumL]; exact ⟨.refl ok, by simp⟩
  | _ :: _, [], G, c, ok => by simp only [sumL]; exact ⟨.refl ok, by simp⟩
  | a :: l, b :: m, G, c, ok => by
    have h1 := sumX_up ok a b c
    have h2 := sumC_up ok a b c
    have h3 := sumL_up l m (sumC G a b c).1 h2.1.ok
    simp only [sumL]
    refine ⟨(h1.1.trans h2.1).trans h3.1, fun e he => ?_⟩
    rcases List.mem_cons.1 he with rfl | he
    · exact h3.1.e (h2.1.e h1.2)
    · exact h3.2 e he
theorem sumL_len : ∀ (l m : List Int) (G : Gr) (c : Int), l.length = m.length → (sumL G l m c).1.length = l.length
  | [], _, G, c, _ => by simp [sumL]
  | _ :: _, [], G, c, h => by simp at h
  | a :: l, b :: m, G, c, h => by simp [sumL, sumL_len l m _ _ (by simpa using h)]
def sumI (h0 : H) (gid ia ib : Nat) (la lb : List Int) (S : Nat → List CV → Prop) (R : List Int × Gr) (m : Nat) (f : Nat → CV) (h : H) : Prop :=
  f 0 = .ptr gid 0 ∧ f 1 = .ref ia 0 la.length 1 ∧ f 2 = .ref ib 0 lb.length 1 ∧ f 13 = .int .i64 la.length ∧ ∃ (i : Nat) (c : Int) (G : Gr) (out : List Int), f 3 = .int .i64 c ∧ c ≤ 1000000 ∧ f 14 = .int .i64 (i : Nat) ∧ i ≤ la.length ∧ m = la.length - i ∧ out.length = i ∧ OutG h0 h gid G S (f 9) out ∧
    R = (out ++ (sumL G (la.drop i) (lb.drop i) c).1, (sumL G (la.drop i) (lb.drop i) c).2)
set_option maxRecDepth 8000 in
theorem sum_run {h : H} {gid ia ib : Nat} {G : Gr} {S : Nat → List CV → Prop} (I : Mem h gid G S) {la lb : List Int} (ha : S ia (ints la)) (hb : S ib (ints lb)) (hl : la.length = lb.length) (h1 : 1 ≤ la.length) (h2 : la.length ≤ 1000) (sa : Small la) (sb : Small lb) {c : Int} (hc : c ≤ 1000000) :
    Runs E 57 [.ptr gid 0, .ref ia 0 la.length 1, .ref ib 0 lb.length 1, .int .i64 c] h fun v h' => GOut h h' gid (sumL G la lb c).2 S v (sumL G la lb c).1 := by
  refine Runs.ofX Tryd.func57 rfl rfl rfl rfl (fun _ => rfl) ?_
  simp [Tryd.f57]
  refine xX_loopI (N := 52) (fun _ => rfl) rfl (sumI h gid ia ib la lb S (sumL G la lb c)) la.length ?_ ?_
  · exact ⟨rfl, rfl, rfl, rfl, 0, c, G, [], rfl, hc, rfl, by omega, rfl, rfl, OutG.nil I, by simp⟩
  · rintro m f h3 ⟨f0, f1, f2, f13, i, c, G, out, f3, hc, f14, hi, rfl, ho, O, hR⟩
    by_cases d : i < la.length
    · obtain ⟨a, hia⟩ : ∃ e, la[i]? = some e := ⟨_, List.getElem?_eq_getElem d⟩
      obtain ⟨b, hib⟩ : ∃ e, lb[i]? = some e := ⟨_, List.getElem?_eq_getElem (by omega)⟩
      have d2 : i < lb.length := by omega
      have ba := sa a (List.mem_of_getElem? hia)
      have bb := sb b (List.mem_of_getElem? hib)
      have ea := getI hia; have eb := getI hib
      have ka := O.m.sv ia _ ha; have kb := O.m.sv ib _ hb
      have na := H.lt_next O.m.wf ka; have nb := H.lt_next O.m.wf kb
      have lna := ints_len' la; have lnb := ints_len' lb
      have w1 : IntKind.i64.wrap ((i : Int) + 1) = i + 1 := wrap64 (by omega) (by omega)
      simp [tabF, f0, f1, f2, f3, f13, f14, d]
      refine xX_drawn [0, 0, 0, 6, 14, 0, 0, 96, 224, 511, 1023] rfl (by kernel_rfl) ?_
      simp [d, d2, ka, kb, ea, eb, lna, lnb]
      refine (O.call (m_xor (by omega) (by omega))).mono fun v h4 ⟨O4, hv⟩ => ?_
      subst hv
      have u4 := Gr.xor_up O.m.ok a b
      have x4 := u4.2.b u4.1.ok
      simp [-u_append]
      refine (O4.call (m_xor (by omega) (by omega))).mono fun v h5 ⟨O5, hv⟩ => ?_
      subst hv
      simp [-u_append]
      refine app1 (x := .int .i64 (sumX G a b c).1) (H.wf_new O5.m.wf _) (O5.outC _) rfl (by simp; rfl) rfl rfl rfl rfl rfl rfl rfl rfl (by rw [ints_len']; show _ * 8 ≤ _; omega) (by rw [ints_len']; omega) fun h6 A => ?_
      have O6 := O5.app A
      have ka6 := O6.m.sv ia _ ha; have kb6 := O6.m.sv ib _ hb
      have na6 := H.lt_next O6.m.wf ka6; have nb6 := H.lt_next O6.m.wf kb6
      simp
      refine xX_drawn [0, 0, 0, 0, 12, 28, 0, 0, 192, 448, 1022, 0, 0, 0, 16382, 32767, 65535] rfl (by kernel_rfl) ?_
      simp [d, d2, ka6, kb6, ea, eb, lna, lnb]
      refine (O6.call (m_and (by omega) (by omega))).mono fun v h7 ⟨O7, hv⟩ => ?_
      subst hv
      have u5 := sumX_up O.m.ok a b c
      have u7 := Gr.and_up u5.1.ok a b
      have x7 := u7.2.b u7.1.ok
      simp
      refine (O7.call (m_and (by omega) (by omega))).mono fun v h8 ⟨O8, hv⟩ => ?_
      subst hv
      have u8 := Gr.and_up u7.1.ok (G.xor a b).1 c
      have x8 := u8.2.b u8.1.ok
      have x7' : ((sumX G a b c).2.and a b).1 < 400000 := x7
      have x8' : (((sumX G a b c).2.and a b).2.and (G.xor a b).1 c).1 < 400000 := x8
      unfold sumX at x7' x8'
      simp
      refine (O8.call (m_or (by omega) (by omega))).mono fun v h9 ⟨O9, hv⟩ => ?_
      subst hv
      have u9 := sumC_up O.m.ok a b c
      have x9 := u9.2.b u9.1.ok
      simp [ints_len', w1]
      refine ⟨la.length - (i + 1), by omega, rfl, rfl, rfl, rfl, i + 1, (sumC G a b c).1, (sumC G a b c).2, out ++ [(sumX G a b c).1], rfl, by omega, rfl, by omega, rfl, by simp; omega, O9, ?_⟩
      rw [hR, List.drop_eq_getElem_cons d, List.drop_eq_getElem_cons d2]
      have e1 : la[i] = a := by simpa [d] using hia
      have e2 : lb[i] = b := by simpa [d2] using hib
      rw [e1, e2]
      simp [sumL]
    · have c2 : i = la.length := by omega
      subst c2
      simp [tabF, f0, f1, f2, f13, f14]
      rw [List.drop_length] at hR
      have hR1 : (sumL _ la lb _).1 = out := (congrArg Prod.fst hR).trans (by simp [sumL])
      have hR2 : (sumL _ la lb _).2 = G := (congrArg Prod.snd hR).trans (by simp [sumL])
      rw [hR1, hR2]
      exact O.fin (by intro e; rw [e] at ho; simp at ho; omega)
end Go.Proofs.YtjlabjncojhjkaaDoor
