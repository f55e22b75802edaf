/- A part of the proof of a law of the given program: contracts of functions over the clean heap. -/
import Derived.Test.YtjlabjncojhjkaaDoorC7b
import Derived.Test.YtjlabjncojhjkaaDoorC8
namespace Go.Proofs.YtjlabjncojhjkaaDoor
open Go Go.Cv
def litO (M : Mk) (e : Int) : Int := if e % 2 = 1 then - M.v (e / 2) else M.v (e / 2)
def u8C (p : Int) : List CV := [.int .u8 p]
def LsAt (h : H) (Fo : Nat → Prop) (v : CV) (ls : List Int) : Prop := (ls = [] ∧ v = .nils ∧ Fo = fun _ => False) ∨ ∃ lid, v = .ref lid 0 ls.length 1 ∧ h.get lid = some (.cells (ints ls)) ∧ Fo = (· = lid)
structure OnceS (h : H) (gid k eid : Nat) (G : Gr) (M : Mk) (es : List Int) (v : CV) (n i : Nat) : Prop where
  ex : ∃ Fo, GMO h Fo gid k eid G M es ∧ LsAt h Fo v ((es.take i).map (litO M))
  nz : ∀ (j : Nat) (e : Int), j < i → es[j]? = some e → M.v (e / 2) ≠ 0
  mod : ∃ j, M.n + n = 1 + 3 * j
  zero : 0 < i → M.n = 0
  bd : n ≤ i * 600000
theorem lits_snoc {M M' : Mk} {N : Nat} (ok : M.OK N) (to : M.To M') {es : List Int} {i : Nat} {e : Int} (nz : ∀ (j : Nat) (e : Int), j < i → es[j]? = some e → M.v (e / 2) ≠ 0) (he : es[i]? = some e) :
    (es.take (i + 1)).map (litO M') = (es.take i).map (litO M) ++ [litO M' e] := by
  have hi := (List.getElem?_eq_some_iff.1 he).1
  rw [List.take_add_one, he, List.map_append]
  congr 1
  apply List.map_congr_left
  intro x hx
  obtain ⟨j, hj⟩ := List.getElem?_of_mem hx
  rw [List.getElem?_take] at hj
  split at hj
  · rename_i h1
    unfold litO
    rw [to.v ok (nz j x h1 hj)]
  · cases hj
def onceI (acts : List Act) (picks : List Int) (m : Nat) (f : Nat → CV) (h : H) : Prop :=
  f 1 = .lst 1 (picks.map u8C) ∧ ∃ gid k eid G M es n i, f 5 = .ptr gid 0 ∧ f 6 = .ref eid 0 es.length 1 ∧ f 7 = .ptr k 0 ∧ f 9 = .int .i64 (n : Nat) ∧ f 10 = .int .i64 (i : Nat) ∧ i ≤ es.length ∧ es.length = 4 + acts.length ∧ m = es.length - i ∧ OnceS h gid k eid G M es (f 8) n i
def onceJ (acts : List Act) (picks : List Int) (m : Nat) (f : Nat → CV) (h : H) : Prop :=
  f 1 = .lst 1 (picks.map u8C) ∧ ∃ gid k eid lid G M es n i, f 5 = .ptr gid 0 ∧ f 6 = .ref eid 0 es.length 1 ∧ f 7 = .ptr k 0 ∧ f 8 = .ref lid 0 es.length 1 ∧ f 9 = .int .i64 (n : Nat) ∧ f 11 = .int .i64 M.of.length ∧ f 12 = .int .i64 (i : Nat) ∧ i ≤ picks.length ∧ es.length = 4 + acts.length ∧ m = picks.length - i ∧
    GMO h (· = lid) gid k eid G M es ∧ h.get lid = some (.cells (ints (es.map (litO M)))) ∧ (∀ e ∈ es, M.v (e / 2) ≠ 0) ∧ M.n = 0 ∧ (∃ j, n = 1 + 3 * j) ∧ n ≤ es.length * 600000
set_option maxRecDepth 16000 in
set_option maxHeartbeats 1000000 in
theorem once_run {acts : List Act} {picks : List Int} (fa : ∀ x ∈ acts, x.fits) (fp : ∀ p ∈ picks, 0 ≤ p ∧ p < 256) : Runs E 3 [.lst 4 (acts.map actC), .lst 1 (picks.map u8C)] ⟨0, .leaf⟩ fun v _ => v = .bool true := by
  refine Runs.ofX Tryd.func3 rfl rfl rfl rfl (fun _ => rfl) ?_
  simp [Tryd.f3]
  have wf0 : WFH ⟨0, .leaf⟩ := fun i _ => rfl
  refine (Runs.grows E_ok E_mix aw7_run wf0).mono fun v h1 ⟨g1, hv, again⟩ => ?_
  subst hv
  by_cases c1 : (25 : Int) < acts.length
  · simp [c1]
    refine again.mono fun v h2 hv => ?_
    subst hv; simp
  by_cases c2 : (20 : Int) < picks.length
  · simp [c1, c2]
    refine again.mono fun v h2 hv => ?_
    subst hv; simp
  simp [c1, c2]
  refine (made_run g1.wf (by omega) fa).mono fun v h2 ⟨gid, eid, G, es, hv, hl, I⟩ => ?_
  subst hv
  simp
  refine (gm_new I).mono fun v h3 ⟨k, hv, g3, J⟩ => ?_
  subst hv
  simp
  refine xX_loopI (N := 115) (fun _ => rfl) rfl (onceI acts picks) es.length ?_ ?_
  · refine ⟨rfl, gid, k, eid, G, ⟨[(0, 1)], 1⟩, es, 0, 0, rfl, rfl, rfl, rfl, rfl, by omega, by omega, rfl, ⟨_, J.o, .inl ⟨rfl, rfl, rfl⟩⟩, fun j e hj => by omega, ⟨0, rfl⟩, fun h => by omega, by omega⟩
  · clear J I hl g3
    rintro m f h4 ⟨f1, gid, k, eid, G, M, es, n, i, f5, f6, f7, f9, f10, hi, hl, rfl, ⟨Fo, J, hls⟩, nz, ⟨jn, mod⟩, zero, bd⟩
    have e0 := H.lt_next J.wf J.el
    have ml := J.mok.len
    have tp := J.ok.top
    by_cases c : i < es.length
    · obtain ⟨e, he⟩ : ∃ e, es[i]? = some e := ⟨_, List.getElem?_eq_getElem c⟩
      have he2 : ∀ hh : i < es.length, es[i]'hh = e := fun hh => by simpa [hh] using he
      have hE := J.ed e (List.mem_of_getElem? he)
      have w1 : IntKind.i64.wrap ((i : Int) + 1) = i + 1 := wrap64 (by omega) (by omega)
      simp [tabF, f1, f5, f6, f7, f9, f10, c, J.el, far e0, ints, he, he2]
      refine (go_lit J hE).mono fun v h5 ⟨g5, k5, M5, J5, to5, nz5, sm5, hv⟩ => ?_
      subst hv
      have e5 := J5.wf
      rcases hls with ⟨hnil, hf8, rfl⟩ | ⟨lid, hf8, hlid, rfl⟩
      · have i0 : i = 0 := by
          have := congrArg List.length hnil
          rw [List.length_map, List.length_take, List.length_nil, Nat.min_eq_left hi] at this; exact this
        subst i0
        generalize hx : (if e % 2 = 1 then -M5.v (e / 2) else M5.v (e / 2)) = x
        have hxx : litO M5 e = x := hx
        simp [hf8]
        have J6 := J5.turn (h' := (h5.new (.cells [.int .i64 x])).new (.cells [.int .i64 x])) (Fo' := (· = h5.next + 1)) (H.wf_new (H.wf_new J5.wf _) _) (by simp; omega) (fun i hi _ => by simp [far hi]) (fun i hi => by subst hi; simp)
        have l6 : ((h5.new (.cells [.int .i64 x])).new (.cells [.int .i64 x])).get (h5.next + 1) = some (.cells (ints ((es.take 0).map (litO M) ++ [litO M5 e]))) := by simp [ints, hxx]
        refine (go_take J6).mono fun v h7 ⟨g7, k7, J7, hv7⟩ => ?_
        have n5 : M5.n ≤ 600000 := Nat.le_trans J5.mok.lim (Nat.mul_le_mul_left 3 (Nat.le_trans J5.mok.len tp))
        have nb : n + M5.n ≤ (0 + 1) * 600000 := by omega
        have nb2 : n + M5.n ≤ 100000000 := by omega
        have w2 : IntKind.i64.wrap ((n : Int) + (M5.n : Int)) = (n : Int) + (M5.n : Int) := wrap64 (by omega) (by omega)
        have hfin : ∀ f' : Nat → CV, f' 1 = .lst 1 (picks.map u8C) → f' 5 = .ptr gid 0 → f' 6 = .ref eid 0 es.length 1 → f' 7 = .ptr k 0 → f' 8 = .ref (h5.next + 1) 0 (0 + 1) 1 → f' 9 = .int .i64 ((n + M5.n : Nat) : Int) → f' 10 = .int .i64 ((0 + 1 : Nat) : Int) →
            ∃ m, m < es.length - 0 ∧ onceI acts picks m f' h7 := by
          intro f' q1 q5 q6 q7 q8 q9 q10
          obtain ⟨j5, hj5⟩ := to5.n
          refine ⟨es.length - (0 + 1), by omega, q1, gid, k, eid, G, { M5 with n := 0 }, es, n + M5.n, 0 + 1, q5, q6, q7, q9, q10, by omega, hl, rfl, ⟨⟨_, J7, .inr ⟨(h5.next + 1), ?_, ?_, rfl⟩⟩, fun j e' hj he' => ?_, ⟨jn + j5, ?_⟩, fun _ => rfl, nb⟩⟩
          · rw [q8, List.length_map, List.length_take, Nat.min_eq_left (by omega)]
          · rw [k7 _ rfl, l6]
            have := lits_snoc J.mok to5 nz he
            exact congrArg (fun l => some (CObj.cells (ints l))) this.symm
          · by_cases h1 : j < 0
            · have := to5.v J.mok (nz j e' h1 he')
              show M5.v _ ≠ 0
              rw [this]; exact nz j e' h1 he'
            · have : j = 0 := by omega
              subst this
              rw [he] at he'; cases he'; exact nz5
          · show 0 + (n + M5.n) = _
            omega
        rcases hv7 with ⟨rfl, hz7⟩ | ⟨nid, rfl⟩
        · have w3 : IntKind.i64.wrap (n : Int) = n := wrap64 (by omega) (by omega)
          simp [w1, w3]
          exact hfin _ rfl rfl rfl rfl rfl (by simp [getT, hz7]) rfl
        · simp [w1, w2]
          exact hfin _ rfl rfl rfl rfl rfl (by simp [getT]) rfl
      · generalize hx : (if e % 2 = 1 then -M5.v (e / 2) else M5.v (e / 2)) = x
        have hxx : litO M5 e = x := hx
        have hlen : ((es.take i).map (litO M)).length = i := by rw [List.length_map, List.length_take, Nat.min_eq_left hi]
        rw [hlen] at hf8
        have h5l := k5 lid rfl
        rw [hlid] at h5l
        have l0 := H.lt_next J5.wf h5l
        have b1 : (i + 1) * 8 ≤ 140737488355328 := by omega
        have b2 : i ≤ 140737488355327 := by omega
        have b4 : (ints ((es.take i).map (litO M))).length = i := by rw [ints_len, hlen]
        have b3 : List.take i (ints ((es.take i).map (litO M))) = ints ((es.take i).map (litO M)) := List.take_of_length_le (by omega)
        generalize hll : ints ((es.take i).map (litO M)) = ll at h5l b4 b3
        simp [hf8, h5l, far l0, b1, b2, b3, b4]
        have J6 := J5.turn (h' := ((h5.new (.cells [.int .i64 x])).del lid).new (.cells (ll ++ [.int .i64 x]))) (Fo' := (· = h5.next + 1)) (H.wf_new (H.wf_del (H.wf_new J5.wf _) _) _) (by simp; omega) (fun i hi q => by simp [far hi, q]) (fun i hi => by subst hi; simp)
        have l6 : (((h5.new (.cells [.int .i64 x])).del lid).new (.cells (ll ++ [.int .i64 x]))).get (h5.next + 1) = some (.cells (ints ((es.take i).map (litO M) ++ [litO M5 e]))) := by simp [ints, hxx, ← hll]
        refine (go_take J6).mono fun v h7 ⟨g7, k7, J7, hv7⟩ => ?_
        have n5 : M5.n ≤ 600000 := Nat.le_trans J5.mok.lim (Nat.mul_le_mul_left 3 (Nat.le_trans J5.mok.len tp))
        have nb : n + M5.n ≤ (i + 1) * 600000 := by omega
        have nb2 : n + M5.n ≤ 100000000 := by omega
        have w2 : IntKind.i64.wrap ((n : Int) + (M5.n : Int)) = (n : Int) + (M5.n : Int) := wrap64 (by omega) (by omega)
        have hfin : ∀ f' : Nat → CV, f' 1 = .lst 1 (picks.map u8C) → f' 5 = .ptr gid 0 → f' 6 = .ref eid 0 es.length 1 → f' 7 = .ptr k 0 → f' 8 = .ref (h5.next + 1) 0 (i + 1) 1 → f' 9 = .int .i64 ((n + M5.n : Nat) : Int) → f' 10 = .int .i64 ((i + 1 : Nat) : Int) →
            ∃ m, m < es.length - i ∧ onceI acts picks m f' h7 := by
          intro f' q1 q5 q6 q7 q8 q9 q10
          obtain ⟨j5, hj5⟩ := to5.n
          refine ⟨es.length - (i + 1), by omega, q1, gid, k, eid, G, { M5 with n := 0 }, es, n + M5.n, i + 1, q5, q6, q7, q9, q10, by omega, hl, rfl, ⟨⟨_, J7, .inr ⟨(h5.next + 1), ?_, ?_, rfl⟩⟩, fun j e' hj he' => ?_, ⟨jn + j5, ?_⟩, fun _ => rfl, nb⟩⟩
          · rw [q8, List.length_map, List.length_take, Nat.min_eq_left (by omega)]
          · rw [k7 _ rfl, l6]
            have := lits_snoc J.mok to5 nz he
            exact congrArg (fun l => some (CObj.cells (ints l))) this.symm
          · by_cases h1 : j < i
            · have := to5.v J.mok (nz j e' h1 he')
              show M5.v _ ≠ 0
              rw [this]; exact nz j e' h1 he'
            · have : j = i := by omega
              subst this
              rw [he] at he'; cases he'; exact nz5
          · show 0 + (n + M5.n) = _
            omega
        rcases hv7 with ⟨rfl, hz7⟩ | ⟨nid, rfl⟩
        · have w3 : IntKind.i64.wrap (n : Int) = n := wrap64 (by omega) (by omega)
          simp [w1, w3]
          exact hfin _ rfl rfl rfl rfl rfl (by simp [getT, hz7]) rfl
        · simp [w1, w2]
          exact hfin _ rfl rfl rfl rfl rfl (by simp [getT]) rfl
    · have c2 : i = es.length := by omega
      subst c2
      have i0 : es.length ≠ 0 := by omega
      have mz := zero (by omega)
      rcases hls with ⟨hnil, hf8, rfl⟩ | ⟨lid, hf8, hlid, rfl⟩
      · have := congrArg List.length hnil
        simp at this
        exact absurd (by rw [this]; rfl) i0
      · rw [List.take_of_length_le (Nat.le_refl _)] at hf8 hlid
        rw [List.length_map] at hf8
        simp [tabF, f1, f5, f6, f7, f9, f10, hf8, go_vars J]
        refine xX_loopI (N := 115) (fun _ => rfl) rfl (onceJ acts picks) picks.length ?_ ?_
        · exact ⟨rfl, gid, k, eid, lid, G, M, es, n, 0, rfl, rfl, rfl, rfl, rfl, rfl, rfl, by omega, hl, rfl, J, hlid, fun e he => by
            obtain ⟨j, hj⟩ := List.getElem?_of_mem he
            exact nz j e (List.getElem?_eq_some_iff.1 hj).1 hj, mz, ⟨jn, by omega⟩, bd⟩
        · have pl : (picks.length : Int) ≤ 20 := by omega
          clear J nz mod zero bd mz hi hlid hf8 f1 f5 f6 f7 f9 f10 e0 ml tp hl i0 c
          rintro m f h5 ⟨f1, gid, k, eid, lid, G, M, es, n, i, f5, f6, f7, f8, f9, f11, f12, hi, hl, rfl, J, hlid, nz, mz, ⟨jn, hjn⟩, bd⟩
          have e0 := H.lt_next J.wf J.el
          have l0 := H.lt_next J.wf hlid
          have ml := J.mok.len
          have tp := J.ok.top
          by_cases c : i < picks.length
          · obtain ⟨p, hp⟩ : ∃ p, picks[i]? = some p := ⟨_, List.getElem?_eq_getElem c⟩
            have hp2 : ∀ hh : i < picks.length, picks[i]'hh = p := fun hh => by simpa [hh] using hp
            have pr := fp p (List.mem_of_getElem? hp)
            have w1 : IntKind.i64.wrap ((i : Int) + 1) = i + 1 := wrap64 (by omega) (by omega)
            have w2 : IntKind.i64.wrap p = p := wrap64 (by omega) (by omega)
            have j0 := Int.emod_nonneg p (show (es.length : Int) ≠ 0 by omega)
            have j1 := Int.emod_lt_of_pos p (show 0 < (es.length : Int) by omega)
            have d3 : p.tmod (es.length : Int) = p % es.length := Int.tmod_eq_emod_of_nonneg (by omega)
            obtain ⟨j, hj⟩ := Int.eq_ofNat_of_zero_le j0
            rw [hj] at d3 j1
            have d4 : IntKind.i64.wrap (j : Int) = j := wrap64 (by omega) (by omega)
            have d5 : j < es.length := by omega
            have ne : ¬ es = [] := by intro e; rw [e, List.length_nil] at hl; omega
            obtain ⟨e, he⟩ : ∃ e, es[j]? = some e := ⟨_, List.getElem?_eq_getElem d5⟩
            have he2 : ∀ hh : j < es.length, es[j]'hh = e := fun hh => by simpa [hh] using he
            have hE := J.ed e (List.mem_of_getElem? he)
            have hb := J.eb e (List.mem_of_getElem? he)
            have hnz := nz e (List.mem_of_getElem? he)
            simp [tabF, f1, f5, f6, f7, f8, f9, f11, f12, c, hp, hp2, u8C, w2, d3, d4, ne]
            refine xX_drawn [0, 0, 0, 6, 14, 31, 0, 0, 192, 448, 1023, 2047, 4095, 4095, 4095, 28671, 61439, 126975, 262143, 4095, 4095, 1576959, 3674111, 7868415, 16777215, 33554431] rfl (by kernel_rfl) ?_
            simp [J.el, hlid, far e0, far l0, ints, he, he2, d5]
            refine (go_lit J hE).mono fun v h6 ⟨g6, k6, M6, J6, to6, nz6, sm6, hv⟩ => ?_
            subst hv
            obtain rfl := sm6 hnz
            have h6l := k6 lid rfl
            rw [hlid] at h6l
            have e6 := H.lt_next J6.wf J6.el
            have l6 := H.lt_next J6.wf h6l
            have hlit : (if e % 2 = 1 then -M6.v (e / 2) else M6.v (e / 2)) = litO M6 e := rfl
            have hls : (ints (es.map (litO M6)))[j]? = some (.int .i64 (litO M6 e)) := by simp [ints, he]
            have hls2 : ∀ hh : j < (ints (es.map (litO M6))).length, (ints (es.map (litO M6)))[j]'hh = .int .i64 (litO M6 e) := fun hh => by simpa [hh] using hls
            have lsl : (ints (es.map (litO M6))).length = es.length := by simp [ints]
            have vr := Mk.v_rng J6.mok (e / 2)
            rw [hlit]
            have hE' := nt_E hE
            have hnot := not_g hb.1 (by omega)
            have hd : nt e / 2 = e / 2 := by unfold nt; split <;> omega
            have hneg : litO M6 (nt e) = - litO M6 e := by
              unfold litO
              rw [hd]
              have : (nt e % 2 = 1) ↔ ¬ (e % 2 = 1) := by unfold nt; split <;> omega
              by_cases q : e % 2 = 1
              · rw [if_pos q, if_neg (fun w => this.1 w q)]; omega
              · rw [if_neg q, if_pos (this.2 q)]
            have w3 : IntKind.i64.wrap (-litO M6 e) = -litO M6 e := by unfold litO; rw [wrap64] <;> split <;> omega
            simp [J.el, J6.el, hlid, h6l, far e0, far l0, far e6, far l6, hls, hls2, lsl, d5, ints, he, he2, hnot]
            refine (go_lit J6 hE').mono fun v h7 ⟨g7, k7, M7, J7, to7, nz7, sm7, hv⟩ => ?_
            subst hv
            obtain rfl := sm7 (by rw [hd]; exact hnz)
            have h7l := k7 lid rfl
            rw [h6l] at h7l
            have e7 := H.lt_next J7.wf J7.el
            have l7 := H.lt_next J7.wf h7l
            have hlit' : (if nt e % 2 = 1 then -M7.v (nt e / 2) else M7.v (nt e / 2)) = -litO M7 e := hneg
            rw [hlit']
            simp [J6.el, J7.el, h6l, h7l, far e6, far l6, far e7, far l7, hls, hls2, lsl, d5, ints, he, he2, w3, w1]
            exact ⟨picks.length - (i + 1), by omega, rfl, gid, k, eid, lid, G, M7, es, n, i + 1, rfl, rfl, rfl, rfl, rfl, rfl, rfl, by omega, hl, rfl, J7, h7l, nz, mz, ⟨jn, hjn⟩, bd⟩
          · have c2 : i = picks.length := by omega
            subst c2
            simp [tabF, f1, f5, f6, f7, f8, f9, f11, f12]
            refine (go_take J).mono fun v h6 ⟨g6, k6, J6, hv⟩ => ?_
            have hv' : v = .nils ∨ ∃ nid, v = .ref nid 0 0 1 := by
              rcases hv with ⟨a, _⟩ | ⟨nid, a⟩
              · exact .inl a
              · rw [mz] at a; exact .inr ⟨nid, a⟩
            have n1 : (1 : Int) ≤ n := by omega
            have n2 : (n : Int).tmod 3 = 1 := by rw [Int.tmod_eq_emod_of_nonneg (by omega)]; omega
            have n3 : IntKind.i64.wrap (1 : Int) = 1 := rfl
            have gv := go_vars J6
            rcases hv' with rfl | ⟨nid, rfl⟩
            · simp [gv, n1, n2, n3]
            · simp [gv, n1, n2, n3]
end Go.Proofs.YtjlabjncojhjkaaDoor
