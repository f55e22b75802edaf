/- A part of the proof of a law of the given program: contracts of functions over the clean heap. -/
import Derived.Test.YtjlabjncojhjkaaDoorC8
namespace Go.Proofs.YtjlabjncojhjkaaDoor
open Go Go.Cv
theorem okP {ps : List (List CV)} : True := trivial
def litV (M : Mk) (e : Int) : Int := if e % 2 = 1 then - M.v (e / 2) else M.v (e / 2)
def growI (acts more : List Act) (last a vars : Int) (m : Nat) (f : Nat → CV) (h : H) : Prop :=
  f 1 = .lst 4 (more.map actC) ∧ ∃ gid eid k G M es i, f 5 = .ptr gid 0 ∧ f 6 = .ref eid 0 es.length 1 ∧ f 7 = .ptr k 0 ∧ f 8 = .int .i64 last ∧ f 9 = .int .i64 a ∧ f 10 = .int .i64 vars ∧ f 11 = .int .i64 (i : Nat) ∧
    i ≤ more.length ∧ m = more.length - i ∧ es.length = 4 + acts.length + i ∧ GMI h gid k eid G M es ∧ G.E last ∧ M.v (last / 2) ≠ 0 ∧ a = litV M last ∧ vars ≤ M.of.length
set_option maxRecDepth 16000 in
set_option maxHeartbeats 1000000 in
theorem grows_run {acts more : List Act} (fa : ∀ x ∈ acts, x.fits) (fm : ∀ x ∈ more, x.fits) : Runs E 4 [.lst 4 (acts.map actC), .lst 4 (more.map actC)] ⟨0, .leaf⟩ fun v _ => v = .bool true := by
  refine Runs.ofX Tryd.func4 rfl rfl rfl rfl (fun _ => rfl) ?_
  simp [Tryd.f4]
  have wf0 : WFH ⟨0, .leaf⟩ := fun i _ => rfl
  refine (Runs.grows E_ok E_mix aw7_run wf0).mono fun v h1 ⟨g1, hv, again⟩ => ?_
  subst hv
  by_cases c1 : (15 : Int) < acts.length
  · simp [c1]
    refine again.mono fun v h2 hv => ?_; subst hv; simp
  by_cases c2 : (15 : Int) < more.length
  · simp [c1, c2]
    refine again.mono fun v h2 hv => ?_; subst hv; simp
  simp [c1, c2]
  refine (made_run g1.wf (by omega) fa).mono fun v h2 ⟨gid, eid, G, es, hv, hl, I⟩ => ?_
  subst hv
  simp
  refine (gm_new I).mono fun v h3 ⟨k, hv, g3, J⟩ => ?_
  subst hv
  have w1 : IntKind.i64.wrap ((es.length : Int) - 1) = (es.length - 1 : Nat) := by rw [wrap64] <;> omega
  have e0 := H.lt_next J.wf J.el
  have il : es.length - 1 < es.length := by omega
  obtain ⟨last, hlast⟩ : ∃ e, es[es.length - 1]? = some e := ⟨_, List.getElem?_eq_getElem il⟩
  have hE := J.ed last (List.mem_of_getElem? hlast)
  have hlast2 : ∀ hh : es.length - 1 < es.length, es[es.length - 1]'hh = last := fun hh => by simpa [hh] using hlast
  simp [w1, J.el, far e0, ints, il, hlast, hlast2]
  refine (gm_lit J hE).mono fun v h4 ⟨g4, M, J4, to4, nz, _, hv⟩ => ?_
  subst hv
  have hvars := gm_vars J4
  simp [hvars]
  refine xX_loopI (N := 107) (fun _ => rfl) rfl (growI acts more last (litV M last) M.of.length) more.length ?_ ?_
  · exact ⟨rfl, gid, eid, k, G, M, es, 0, rfl, rfl, rfl, rfl, rfl, rfl, rfl, by omega, rfl, by omega, J4, hE, nz, rfl, Int.le_refl _⟩
  · clear J4 J I e0 hlast hlast2 il w1 hl hE nz to4 g4 g3 hvars
    generalize litV M last = a
    generalize (M.of.length : Int) = vars
    rintro m f h5 ⟨f1, gid, eid, k, G, M, es, i, f5, f6, f7, f8, f9, f10, f11, hi, rfl, hl, J, hE, nz, ha, hvars⟩
    have e0 := H.lt_next J.wf J.el
    have gv := gm_vars J
    have vr := Mk.v_rng J.mok (last / 2)
    have ml := J.mok.len
    have tp := J.ok.top
    by_cases c : i < more.length
    · obtain ⟨x, hx⟩ : ∃ x, more[i]? = some x := ⟨_, List.getElem?_eq_getElem c⟩
      have xf := fm x (List.mem_of_getElem? hx)
      have hx2 : ∀ hh : i < more.length, more[i]'hh = x := fun hh => by simpa [hh] using hx
      have w1 : IntKind.i64.wrap ((i : Int) + 1) = i + 1 := wrap64 (by omega) (by omega)
      have ne : es ≠ [] := by intro e; rw [e, List.length_nil] at hl; omega
      have pa := at_u J.wf J.el ne (by omega) J.eb xf.1
      have pb := at_u J.wf J.el ne (by omega) J.eb xf.2
      have ea := (atL_E ne J.ed x.a).b J.ok
      have eb := (atL_E ne J.ed x.b).b J.ok
      simp [tabF, f1, f5, f6, f7, f8, f9, f10, f11, c, hx, hx2]
      refine xX_drawn [0, 0, 0, 0, 0, 24, 56, 120, 252, 0, 0, 0, 3072, 7168, 15360, 32764, 65534, 131070, 262143, 524287] rfl (by kernel_rfl) ?_
      simp [c, hx, hx2, actC, pa, pb]
      refine (gm_and J (by omega) (by omega)).mono fun v h6 ⟨g6, J6, hv⟩ => ?_
      subst hv
      have up := Gr.and_up J.ok (atL es x.a) (atL es x.b)
      generalize hG' : (G.and (atL es x.a) (atL es x.b)).2 = G' at J6 up
      generalize he' : (G.and (atL es x.a) (atL es x.b)).1 = e at up
      have e6 := H.lt_next J6.wf J6.el
      have ap := J6.app up.2
      have b1 : (es.length + 1) * 8 ≤ 140737488355328 := by omega
      have b2 : es.length ≤ 140737488355327 := by omega
      have b3 : List.take es.length (ints es) = ints es := List.take_of_length_le (by simp [ints])
      have b4 : (ints es).length = es.length := by simp [ints]
      have w2 : IntKind.i64.wrap (es.length : Int) = es.length := wrap64 (by omega) (by omega)
      have i5 : (es.length : Int) < es.length + 1 := by omega
      simp [J6.el, far e6, b1, b2, b3, b4, w2, i5]
      refine (gm_lit ap up.2).mono fun v h7 ⟨g7, M7, J7, to7, nz7, _, hv⟩ => ?_
      subst hv
      have gv7 := gm_vars J7
      have vr7 := Mk.v_rng J7.mok (e / 2)
      have ml7 := J7.mok.len
      have tp7 := J7.ok.top
      generalize hl7 : (if e % 2 = 1 then -M7.v (e / 2) else M7.v (e / 2)) = l7
      have l0 : ¬ l7 = 0 := by rw [← hl7]; split <;> omega
      have l1 : ¬ (M7.of.length : Int) < l7 := by rw [← hl7]; split <;> omega
      have l2 : ¬ l7 < -(M7.of.length : Int) := by rw [← hl7]; split <;> omega
      have w3 : IntKind.i64.wrap (-(M7.of.length : Int)) = -(M7.of.length : Int) := wrap64 (by omega) (by omega)
      have tv := to7.v J6.mok nz
      simp [gv7, l0, l1, l2, w3, w1]
      obtain ⟨t7, ht7⟩ := to7.of
      have ll : M.of.length ≤ M7.of.length := by rw [ht7]; simp
      exact ⟨more.length - (i + 1), by omega, rfl, gid, h6.next + 1, k, G', M7, es ++ [e], i + 1, rfl, by simp [getT], rfl, rfl, rfl, rfl, rfl, by omega, rfl, by simp; omega, J7, up.1.e hE, by rw [tv]; exact nz, by rw [ha]; unfold litV; rw [tv], by omega⟩
    · have c2 : i = more.length := by omega
      subst c2
      simp [tabF, f1, f5, f6, f7, f8, f9, f10, f11]
      refine (gm_lit J hE).mono fun v h6 ⟨g6, M6, J6, to6, nz6, sm, hv⟩ => ?_
      obtain rfl := sm nz
      subst hv
      have gv6 := gm_vars J6
      have hnz : a ≠ 0 := by rw [ha]; unfold litV; split <;> omega
      have he : (if last % 2 = 1 then -M6.v (last / 2) else M6.v (last / 2)) = a := ha.symm
      simp [he, gv6, hnz, hvars]
end Go.Proofs.YtjlabjncojhjkaaDoor
