/- A part of the proof of a law of the given program: contracts of functions over the clean heap. -/
import Derived.Test.YtjlabjncojhjkaaDoorPx
namespace Go.Proofs.YtjlabjncojhjkaaDoor
open Go Go.Cv
/-! ### The law BitsWide -/
theorem wide1 {p : Int} (h : 0 ≤ p ∧ p < 256) : ∃ k : Nat, 1 ≤ k ∧ k ≤ 16 ∧ IntKind.i64.wrap p = p ∧ p.tmod 16 = p % 16 ∧ IntKind.i64.wrap (1 + p % 16) = (k : Int) ∧ heldN (k : Int) = k := by
  refine ⟨(1 + p % 16).toNat, by omega, by omega, wrap64 (by omega) (by omega), Int.tmod_eq_emod_of_nonneg h.1, ?_, heldN_id (by omega)⟩
  rw [wrap64 (by omega) (by omega)]; omega
set_option maxRecDepth 8000 in
theorem bitsWide_run {n p q : Int} (hp : 0 ≤ p ∧ p < 256) (hq : 0 ≤ q ∧ q < 256) : Runs E 5 [.int .i64 n, .agg [.int .u8 p, .int .u8 q]] ⟨0, .leaf⟩ fun v _ => v = .bool true := by
  obtain ⟨a, a1, a2, wp, tp, ap, ha⟩ := wide1 hp
  obtain ⟨b, b1, b2, wq, tq, bq, hb⟩ := wide1 hq
  refine Runs.ofX Tryd.func5 rfl rfl rfl rfl (fun _ => rfl) ?_
  simp [Tryd.f5]
  have wf0 : WFH ((⟨0, .leaf⟩ : H).new (.cells [.int .u8 p, .int .u8 q])) := H.wf_new (fun i _ => rfl) _
  have g0 : ((⟨0, .leaf⟩ : H).new (.cells [.int .u8 p, .int .u8 q])).get 0 = some (.cells [.int .u8 p, .int .u8 q]) := by simp
  refine (awake_run wf0 (S := fun i cs => i = 0 ∧ cs = [.int .u8 p, .int .u8 q]) (fun i cs q => by rw [q.1, q.2]; exact g0)).mono fun v h1 ⟨hv, g1, sv⟩ => ?_
  subst hv
  have k0 := sv 0 _ ⟨rfl, rfl⟩
  have n0 := H.lt_next g1.wf k0
  simp
  refine xX_drawn [0, 1, 3, 7, 15, 0, 32, 96, 224, 480, 31, 2047] rfl (by kernel_rfl) ?_
  simp [k0, wp, wq, tp, tq, ap, bq]
  refine (new_mem g1.wf (S := fun _ _ => False) (fun _ _ q => q.elim)).mono fun v h2 ⟨g2, gid, hv, I⟩ => ?_
  subst hv
  simp
  refine (const_run I.wf n (a : Nat)).mono fun v h3 F3 => ?_
  obtain ⟨i3, rfl, n3, I3⟩ := I.fresh1 F3
  simp
  have r4 := wide_run I3.wf (v := .ref i3 0 (ints (constL n (heldN (a : Nat)))).length 1) (l := constL n (heldN (a : Nat))) (.inr ⟨i3, [], rfl, by rw [List.append_nil]; exact I3.sv i3 _ (.inr ⟨rfl, rfl⟩)⟩) (b : Nat)
  refine r4.mono fun v h4 F4 => ?_
  obtain ⟨i4, rfl, n4, I4⟩ := I3.fresh1 F4
  have l4 := wideL_len (constL n (heldN (a : Nat))) (heldN (b : Nat))
  rw [ha, hb] at I4 l4 ⊢
  simp
  rw [ints_len']
  have sw : Small (wideL (constL n a) b) := small_wide (small_const _ _) _
  refine (eval_run I4 (mv := .nils) (ev := .ref i4 0 (wideL (constL n a) b).length 1) (model := []) (es := wideL (constL n a) b) (.inl ⟨rfl, rfl⟩) (.inr ⟨i4, rfl, .inr ⟨rfl, rfl⟩⟩) (by intro e; rw [e, List.length_nil] at l4; omega) (by omega) (by decide) sw).mono fun v h5 F5 => ?_
  simp
  refine value_of (l := evB gr0 [] (wideL (constL n a) b)) F5 (by rw [evB_len]; omega) ?_
  rw [wide_const gr0_ok [] n ⟨a1, a2⟩ ⟨b1, b2⟩]
  have t1 := rtrim_u n (a : Nat)
  have t2 := rtrim_u n (b : Nat)
  rw [ha] at t1
  rw [hb] at t2
  by_cases c : (a : Int) ≤ b
  · have : min a b = a := by omega
    rw [this]
    simp [c, t1]
  · have : min a b = b := by omega
    rw [this]
    simp [c, t2]
end Go.Proofs.YtjlabjncojhjkaaDoor
