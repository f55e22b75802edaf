/- A part of the proof of a law of the given program: contracts of functions over the clean heap. -/
import Derived.Test.YtjlabjncojhjkaaDoorBy
import Derived.Test.YtjlabjncojhjkaaDoorGx
namespace Go.Proofs.YtjlabjncojhjkaaDoor
open Go Go.Cv
/-! ### bits.Value -/
def sumB : List Bool → Int
  | [] => 0
  | b :: l => (if b then 1 else 0) + 2 * sumB l
theorem sumB_b : ∀ (l : List Bool), 0 ≤ sumB l ∧ sumB l < 2 ^ l.length
  | [] => by simp [sumB]
  | b :: l => by
    have := sumB_b l
    simp only [sumB, List.length_cons, Int.pow_succ]
    split <;> omega
theorem sumB_snoc : ∀ (l : List Bool) (b : Bool), sumB (l ++ [b]) = sumB l + (if b then 2 ^ l.length else 0)
  | [], b => by simp [sumB]
  | c :: l, b => by
    simp only [List.cons_append, sumB, sumB_snoc l b, List.length_cons, Int.pow_succ]
    cases b <;> simp <;> omega
def valueL (l : List Bool) : Int := if l = [] then 0 else trimN (sumB (l.take (heldN l.length))) (heldN l.length)
theorem or_pow {a : Int} {i : Nat} (h0 : 0 ≤ a) (h1 : a < 2 ^ i) (hi : i ≤ 16) : IntKind.i64.wrap ((BitVec.ofInt 64 a ||| BitVec.ofInt 64 (2 ^ i)).toNat : Int) = a + 2 ^ i := by
  obtain ⟨n, rfl⟩ := Int.eq_ofNat_of_zero_le h0
  have pb := pow_b hi
  have e : ((2 ^ i : Nat) : Int) = (2 : Int) ^ i := by simp
  have hn : n < 2 ^ i := by omega
  have e1 : (BitVec.ofInt 64 (n : Int)).toNat = n := by
    rw [BitVec.toNat_ofInt, Int.emod_eq_of_lt (by omega) (by omega)]; rfl
  have e2 : (BitVec.ofInt 64 ((2 : Int) ^ i)).toNat = 2 ^ i := by
    rw [BitVec.toNat_ofInt, ← e, Int.emod_eq_of_lt (by omega) (by omega)]; rfl
  have e3 : n ||| 2 ^ i = 2 ^ i + n := by
    have := Nat.two_pow_add_eq_or_of_lt hn 1
    rw [Nat.mul_one] at this
    rw [Nat.or_comm, ← this]
  rw [BitVec.toNat_or, e1, e2, e3, wrap64] <;> omega
def valI (v : CV) (l : List Bool) (k m : Nat) (h0 : H) (f : Nat → CV) (h : H) : Prop :=
  h = h0 ∧ f 0 = v ∧ f 3 = .int .i64 (k : Nat) ∧ f 12 = .int .i64 (k : Nat) ∧ ∃ i : Nat, f 4 = .int .i64 (sumB (l.take i)) ∧ f 13 = .int .i64 (i : Nat) ∧ i ≤ k ∧ m = k - i
theorem getOf {l : List CV} {i : Nat} {x : CV} (h : l[i]? = some x) : ∀ hh : i < l.length, l[i]'hh = x := fun _ => (List.getElem?_eq_some_iff.1 h).2
theorem getB {l : List Bool} {i : Nat} {b : Bool} (h : l[i]? = some b) : ∀ hh : i < (bools l).length, (bools l)[i]'hh = .bool b := fun hh => by
  have : (bools l)[i]? = some (.bool b) := by simp [bools, h]
  simpa [hh] using this
set_option maxRecDepth 8000 in
theorem value_run {h : H} (wf : WFH h) {v : CV} {l : List Bool} (hs : (v = .nils ∧ l = []) ∨ ∃ id rest, v = .ref id 0 l.length 1 ∧ h.get id = some (.cells (bools l ++ rest))) (hl : l.length ≤ 1000000) :
    Runs E 25 [v] h fun r h' => h' = h ∧ r = .int .i64 (valueL l) := by
  refine Runs.ofX Tryd.func25 rfl rfl rfl rfl (fun _ => rfl) ?_
  rcases hs with ⟨rfl, rfl⟩ | ⟨id, rest, rfl, hg⟩
  · simp [Tryd.f25, valueL]
  · by_cases c0 : l = []
    · subst c0
      simp [Tryd.f25, valueL]
    · have g0 := H.lt_next wf hg
      have hb := heldN_b l.length
      have hlen : l.length ≠ 0 := fun e => c0 (List.length_eq_zero_iff.1 e)
      have hkl : heldN l.length ≤ l.length := by unfold heldN; omega
      simp [Tryd.f25, c0, held_u]
      have hv : valueL l = trimN (sumB (l.take (heldN l.length))) (heldN l.length) := by unfold valueL; rw [if_neg c0]
      rw [hv]
      generalize hkk : heldN l.length = k at *
      refine xX_loopI (N := 28) (fun _ => rfl) rfl (fun m f h' => valI (.ref id 0 l.length 1) l k m h f h') k ?_ ?_
      · exact ⟨rfl, rfl, rfl, rfl, 0, rfl, rfl, by omega, rfl⟩
      · rintro m f h1 ⟨rfl, f0, f3, f12, i, f4, f13, hi, rfl⟩
        by_cases c : i < k
        · obtain ⟨b, hib⟩ : ∃ b, l[i]? = some b := ⟨_, List.getElem?_eq_getElem (by omega)⟩
          have d : i < l.length := by omega
          have eb0 : (bools l ++ rest)[i]? = some (.bool b) := by
            rw [List.getElem?_append_left (by rw [bools_len]; omega)]; simp [bools, hib]
          have eb := getOf eb0
          have lb : i < (bools l ++ rest).length := by rw [List.length_append, bools_len]; omega
          have sb := sumB_b (l.take i)
          have tl : (l.take i).length = i := by rw [List.length_take]; omega
          rw [tl] at sb
          have e1 : min i IntKind.i64.bits = i := by rw [bits64]; omega
          have pb := pow_b (k := i) (by omega)
          have e2 : IntKind.i64.wrap ((2 : Int) ^ i) = 2 ^ i := wrap64 (by omega) (by omega)
          have am : IntKind.i64.wrap ((BitVec.ofInt IntKind.i64.bits (sumB (l.take i)) ||| BitVec.ofInt IntKind.i64.bits (2 ^ i)).toNat : Int) = sumB (l.take i) + 2 ^ i := or_pow sb.1 sb.2 (by omega)
          simp at am
          have w1 : IntKind.i64.wrap ((i : Int) + 1) = i + 1 := wrap64 (by omega) (by omega)
          have snoc : sumB (l.take (i + 1)) = sumB (l.take i) + (if b then 2 ^ i else 0) := by
            rw [List.take_add_one, hib]
            have := sumB_snoc (l.take i) b
            rw [tl] at this
            simpa using this
          generalize bools l ++ rest = ob at *
          cases b with
          | true =>
            simp [tabF, f0, f3, f4, f12, f13, c, d, hg, eb, lb, nneg, e1, e2, am, w1]
            exact ⟨k - (i + 1), by omega, rfl, rfl, rfl, rfl, i + 1, by simp only [getT]; rw [snoc]; rfl, rfl, by omega, rfl⟩
          | false =>
            simp [tabF, f0, f3, f4, f12, f13, c, d, hg, eb, lb, w1]
            exact ⟨k - (i + 1), by omega, rfl, rfl, rfl, rfl, i + 1, by simp only [getT]; rw [snoc]; simp, rfl, by omega, rfl⟩
        · have c2 : i = k := by omega
          subst c2
          simp [tabF, f0, f3, f4, f12, f13, trim_u]
          rw [heldN_id hb]
end Go.Proofs.YtjlabjncojhjkaaDoor
namespace Go.Proofs.YtjlabjncojhjkaaDoor
open Go Go.Cv
theorem vecm_run {h : H} {gid : Nat} {G : Gr} {S : Nat → List CV → Prop} (I : Mem h gid G S) {v : CV} {l : List Int} (a : ArgS S v l) :
    Runs E 51 [v] h fun v' h' => Grows h h' ∧ ∃ id, v' = .ref id 0 (vecL l).length 1 ∧ Mem h' gid G (With S id (ints (vecL l))) := by
  have fin : ∀ {h' : H}, (∀ i, i < h.next → h'.get i = h.get i) → Grows h h' → h'.get h.next = some (.cells (ints [0])) → vecL l = [0] → ∃ id, (h.next = id ∧ 1 = (vecL l).length) ∧ Mem h' gid G (With S id (ints (vecL l))) := by
    intro h' fr gr hc hv
    rw [hv]
    exact ⟨h.next, ⟨rfl, rfl⟩, (I.fresh gr fr).weak fun i cs q => q.elim .inl fun q => .inr ⟨by omega, by rw [q.1, q.2]; exact hc⟩⟩
  refine (Runs.grows E_ok E_mix (Q := fun v' h' => Grows h h' → ∃ id, v' = .ref id 0 (vecL l).length 1 ∧ Mem h' gid G (With S id (ints (vecL l)))) (Runs.ofX Tryd.func51 rfl rfl rfl rfl (fun _ => rfl) ?_) I.wf).mono fun v h' ⟨g, q⟩ => ⟨g, q g⟩
  rcases a with ⟨rfl, rfl⟩ | ⟨id, rfl, hs⟩
  · simp [Tryd.f51]
    intro gr
    exact fin (fun i hi => by simp [far hi]) gr (by simp [ints]) rfl
  · by_cases c1 : (l.length : Int) < 1
    · have : l = [] := List.length_eq_zero_iff.1 (by omega)
      subst this
      simp [Tryd.f51]
      intro gr
      exact fin (fun i hi => by simp [far hi]) gr (by simp [ints]) rfl
    · by_cases c2 : (16 : Int) < l.length
      · have hv : vecL l = [0] := by unfold vecL; rw [if_pos (.inr (by omega))]
        simp [Tryd.f51, c1, c2]
        intro gr
        exact fin (fun i hi => by simp [far hi]) gr (by simp [ints]) hv
      · have hv : vecL l = l := by unfold vecL; rw [if_neg (by omega)]
        simp [Tryd.f51, c1, c2, hv]
        intro _
        exact I.weak fun i cs q => q.elim (fun q => q) fun q => by rw [q.1, q.2]; exact hs
/-! ### graph.Any, bits.Some -/
def anyL : Gr → Int → List Int → Int × Gr
  | G, o, [] => (o, G)
  | G, o, e :: l => anyL (G.or o e).2 (G.or o e).1 l
theorem anyL_up : ∀ (l : List Int) {G : Gr} {o : Int}, G.OK → G.E o → G.Up (anyL G o l).2 ∧ (anyL G o l).2.E (anyL G o l).1
  | [], G, o, ok, ho => ⟨.refl ok, ho⟩
  | e :: l, G, o, ok, ho => by
    have h1 := Gr.or_up ok o e
    have h2 := anyL_up l h1.1.ok h1.2
    exact ⟨h1.1.trans h2.1, h2.2⟩
def anyI (h0 : H) (gid iv : Nat) (l : List Int) (S : Nat → List CV → Prop) (R : Int × Gr) (m : Nat) (f : Nat → CV) (h : H) : Prop :=
  f 0 = .ptr gid 0 ∧ f 8 = .ref iv 0 l.length 1 ∧ f 9 = .int .i64 l.length ∧ ∃ (i : Nat) (G : Gr) (o : Int), f 5 = .int .i64 o ∧ G.E o ∧ f 10 = .int .i64 (i : Nat) ∧ i ≤ l.length ∧ m = l.length - i ∧ Grows h0 h ∧ Mem h gid G S ∧ R = anyL G o (l.drop i)
set_option maxRecDepth 8000 in
theorem any_run {h : H} {gid iv : Nat} {G : Gr} {S : Nat → List CV → Prop} (I : Mem h gid G S) {l : List Int} (hv : S iv (ints l)) (h2 : l.length ≤ 1000) (sl : Small l) :
    Runs E 58 [.ptr gid 0, .ref iv 0 l.length 1] h fun v h' => Grows h h' ∧ Mem h' gid (anyL G 0 l).2 S ∧ v = .int .i64 (anyL G 0 l).1 := by
  refine Runs.ofX Tryd.func58 rfl rfl rfl rfl (fun _ => rfl) ?_
  simp [Tryd.f58]
  refine xX_loopI (N := 20) (fun _ => rfl) rfl (anyI h gid iv l S (anyL G 0 l)) l.length ?_ ?_
  · exact ⟨rfl, rfl, rfl, 0, G, 0, rfl, Gr.E_0 I.ok, rfl, by omega, rfl, .refl I.wf, I, by simp⟩
  · rintro m f h3 ⟨f0, f8, f9, i, G, o, f5, hoE, f10, hi, rfl, gr, J, hR⟩
    have ob := hoE.b J.ok
    by_cases d : i < l.length
    · obtain ⟨a, hia⟩ : ∃ e, l[i]? = some e := ⟨_, List.getElem?_eq_getElem d⟩
      have ba := sl a (List.mem_of_getElem? hia)
      have ea := getI hia
      have ka := J.sv iv _ hv
      have na := H.lt_next J.wf ka
      have ln := ints_len' l
      have w1 : IntKind.i64.wrap ((i : Int) + 1) = i + 1 := wrap64 (by omega) (by omega)
      simp [tabF, f0, f5, f8, f9, f10, d, ka, ea, ln]
      refine (m_or (a := o) (b := a) (by omega) (by omega) S J).mono fun v h4 ⟨g4, J4, hv⟩ => ?_
      subst hv
      have up := Gr.or_up J.ok o a
      simp [w1]
      refine ⟨l.length - (i + 1), by omega, rfl, rfl, rfl, i + 1, (G.or o a).2, (G.or o a).1, rfl, up.2, rfl, by omega, rfl, gr.trans g4, J4, ?_⟩
      rw [hR, List.drop_eq_getElem_cons d]
      have e1 : l[i] = a := by simpa [d] using hia
      rw [e1]
      rfl
    · have c2 : i = l.length := by omega
      subst c2
      simp [tabF, f0, f5, f8, f9, f10]
      rw [List.drop_length] at hR
      have hR1 : (anyL _ 0 l).1 = o := congrArg Prod.fst hR
      have hR2 : (anyL _ 0 l).2 = G := congrArg Prod.snd hR
      rw [hR1, hR2]
      exact ⟨gr, J, rfl⟩
theorem some_run {h : H} {gid : Nat} {G : Gr} {S : Nat → List CV → Prop} (I : Mem h gid G S) {v : CV} {l : List Int} (a : ArgS S v l) (sl : Small l) :
    Runs E 31 [.ptr gid 0, v] h fun r h' => Grows h h' ∧ Mem h' gid (anyL G 0 (vecL l)).2 S ∧ r = .int .i64 (anyL G 0 (vecL l)).1 := by
  have vl := vecL_len l
  refine Runs.ofX Tryd.func31 rfl rfl rfl rfl (fun _ => rfl) ?_
  simp [Tryd.f31]
  refine (vecm_run I a).mono fun r h1 ⟨g1, id, hr, J⟩ => ?_
  subst hr
  simp
  refine (any_run J (.inr ⟨rfl, rfl⟩) (by omega) (small_vec sl)).mono fun r h2 ⟨g2, J2, hr⟩ => ?_
  subst hr
  simp
  exact ⟨g1.trans g2, J2.weak fun i cs q => .inl q⟩
/-! ### bits.Less -/
def lessS (G : Gr) (o a b : Int) : Int × Gr := (G.xor a b).2.mux (G.xor a b).1 b o
def foldP (step : Gr → Int → Int → Int → Int × Gr) : Gr → Int → List (Int × Int) → Int × Gr
  | G, o, [] => (o, G)
  | G, o, p :: l => foldP step (step G o p.1 p.2).2 (step G o p.1 p.2).1 l
theorem foldP_nil (step) (G : Gr) (o : Int) : foldP step G o [] = (o, G) := by simp only [foldP]
theorem foldP_cons (step) (G : Gr) (o : Int) (p : Int × Int) (l : List (Int × Int)) : foldP step G o (p :: l) = foldP step (step G o p.1 p.2).2 (step G o p.1 p.2).1 l := by simp only [foldP]
def lessP (G : Gr) (o : Int) (l : List (Int × Int)) : Int × Gr := foldP lessS G o l
def lessL (G : Gr) (o : Int) (l m : List Int) : Int × Gr := lessP G o (l.zip m)
def lessT (G : Gr) (o a b : Int) : Int × Gr := (G.xor a b).2.mux (G.xor a b).1 a o
theorem lessS_up {G : Gr} (ok : G.OK) (o a b : Int) : G.Up (lessS G o a b).2 ∧ (lessS G o a b).2.E (lessS G o a b).1 := by
  have h1 := Gr.xor_up ok a b
  have h2 := Gr.mux_up h1.1.ok (G.xor a b).1 b o
  unfold lessS
  exact ⟨h1.1.trans h2.1, h2.2⟩
theorem lessT_up {G : Gr} (ok : G.OK) (o a b : Int) : G.Up (lessT G o a b).2 ∧ (lessT G o a b).2.E (lessT G o a b).1 := by
  have h1 := Gr.xor_up ok a b
  have h2 := Gr.mux_up h1.1.ok (G.xor a b).1 a o
  unfold lessT
  exact ⟨h1.1.trans h2.1, h2.2⟩
theorem lessP_nil (G : Gr) (o : Int) : lessP G o [] = (o, G) := foldP_nil _ _ _
theorem lessP_cons (G : Gr) (o : Int) (p : Int × Int) (l : List (Int × Int)) : lessP G o (p :: l) = lessP (lessS G o p.1 p.2).2 (lessS G o p.1 p.2).1 l := by
  unfold lessP; rw [foldP_cons]
theorem lessP_up (l : List (Int × Int)) : ∀ {G : Gr} {o : Int}, G.OK → G.E o → G.Up (lessP G o l).2 ∧ (lessP G o l).2.E (lessP G o l).1 := by
  induction l with
  | nil => intro G o ok ho; rw [lessP_nil]; exact ⟨.refl ok, ho⟩
  | cons p l ih =>
    intro G o ok ho
    have h1 := lessS_up ok o p.1 p.2
    have h2 := ih h1.1.ok h1.2
    rw [lessP_cons]
    exact ⟨h1.1.trans h2.1, h2.2⟩
theorem lessL_nil (G : Gr) (o : Int) (m : List Int) : lessL G o [] m = (o, G) := by
  unfold lessL; rw [List.zip_nil_left, lessP_nil]
theorem lessL_cons (G : Gr) (o a b : Int) (l m : List Int) : lessL G o (a :: l) (b :: m) = lessL (lessS G o a b).2 (lessS G o a b).1 l m := by
  unfold lessL; rw [List.zip_cons_cons, lessP_cons]
def lessE (G : Gr) (la lb : List Int) : Int × Gr :=
  lessT (lessL G 0 (la.take (la.length - 1)) (lb.take (la.length - 1))).2 (lessL G 0 (la.take (la.length - 1)) (lb.take (la.length - 1))).1 (lastE la) (lastE lb)
def lessG (G : Gr) (a b : List Int) : Int × Gr := lessE G (wideL a (bothK a b)) (wideL b (bothK a b))
def lessI (h0 : H) (gid ia ib : Nat) (la lb : List Int) (S : Nat → List CV → Prop) (R : Int × Gr) (m : Nat) (f : Nat → CV) (h : H) : Prop :=
  f 0 = .ptr gid 0 ∧ f 1 = .ref ia 0 la.length 1 ∧ f 2 = .ref ib 0 lb.length 1 ∧ f 7 = .int .i64 ((la.length - 1 : Nat) : Int) ∧ f 19 = .int .i64 ((la.length - 1 : Nat) : Int) ∧ ∃ (i : Nat) (G : Gr) (o : Int), f 8 = .int .i64 o ∧ G.E o ∧ f 20 = .int .i64 (i : Nat) ∧ i ≤ la.length - 1 ∧ m = la.length - 1 - i ∧ Grows h0 h ∧ Mem h gid G S ∧
    R = lessL G o ((la.take (la.length - 1)).drop i) ((lb.take (la.length - 1)).drop i)
/-! ### bits.Same -/
def sameS (G : Gr) (o a b : Int) : Int × Gr := (G.xor a b).2.and o (nt (G.xor a b).1)
def sameL : Gr → Int → List Int → List Int → Int × Gr
  | G, o, a :: l, b :: m => sameL (sameS G o a b).2 (sameS G o a b).1 l m
  | G, o, _, _ => (o, G)
theorem sameS_up {G : Gr} (ok : G.OK) (o a b : Int) : G.Up (sameS G o a b).2 ∧ (sameS G o a b).2.E (sameS G o a b).1 :=
  ⟨(Gr.xor_up ok a b).1.trans (Gr.and_up (Gr.xor_up ok a b).1.ok _ _).1, (Gr.and_up (Gr.xor_up ok a b).1.ok _ _).2⟩
theorem sameL_up : ∀ (l m : List Int) {G : Gr} {o : Int}, G.OK → G.E o → G.Up (sameL G o l m).2 ∧ (sameL G o l m).2.E (sameL G o l m).1
  | [], _, G, o, ok, ho => by simp only [sameL]; exact ⟨.refl ok, ho⟩
  | _ :: _, [], G, o, ok, ho => by simp only [sameL]; exact ⟨.refl ok, ho⟩
  | a :: l, b :: m, G, o, ok, ho => by
    have h1 := sameS_up ok o a b
    have h2 := sameL_up l m h1.1.ok h1.2
    simp only [sameL]
    exact ⟨h1.1.trans h2.1, h2.2⟩
def sameG (G : Gr) (a b : List Int) : Int × Gr := sameL G 1 (wideL a (bothK a b)) (wideL b (bothK a b))
def sameI (h0 : H) (gid ia ib : Nat) (la lb : List Int) (S : Nat → List CV → Prop) (R : Int × Gr) (m : Nat) (f : Nat → CV) (h : H) : Prop :=
  f 0 = .ptr gid 0 ∧ f 1 = .ref ia 0 la.length 1 ∧ f 2 = .ref ib 0 lb.length 1 ∧ f 16 = .int .i64 la.length ∧ ∃ (i : Nat) (G : Gr) (o : Int), f 7 = .int .i64 o ∧ G.E o ∧ f 17 = .int .i64 (i : Nat) ∧ i ≤ la.length ∧ m = la.length - i ∧ Grows h0 h ∧ Mem h gid G S ∧ R = sameL G o (la.drop i) (lb.drop i)
set_option maxRecDepth 8000 in
theorem same_run {h : H} {gid : Nat} {G : Gr} {S : Nat → List CV → Prop} (I : Mem h gid G S) {v1 v2 : CV} {a b : List Int} (h1 : ArgS S v1 a) (h2 : ArgS S v2 b) (sa : Small a) (sb : Small b) :
    Runs E 36 [.ptr gid 0, v1, v2] h fun v h' => Grows h h' ∧ Mem h' gid (sameG G a b).2 S ∧ v = .int .i64 (sameG G a b).1 := by
  have kb := bothK_b a b
  refine Runs.ofX Tryd.func36 rfl rfl rfl rfl (fun _ => rfl) ?_
  simp [Tryd.f36]
  refine (both_run I.wf (h1.sl I) (h2.sl I)).mono fun v h3 ⟨r1, r2, hv, F⟩ => ?_
  subst hv
  obtain ⟨i1, i2, rfl, rfl, n1, n2, ne, J⟩ := I.both F
  have l1 := wideL_len a (bothK a b); have l2 := wideL_len b (bothK a b)
  have s1 := small_wide sa (bothK a b); have s2 := small_wide sb (bothK a b)
  unfold sameG
  generalize hS : With (With S i1 (ints (wideL a (bothK a b)))) i2 (ints (wideL b (bothK a b))) = S2 at J
  have q1 : S2 i1 (ints (wideL a (bothK a b))) := by rw [← hS]; exact .inl (.inr ⟨rfl, rfl⟩)
  have q2 : S2 i2 (ints (wideL b (bothK a b))) := by rw [← hS]; exact .inr ⟨rfl, rfl⟩
  have hw : ∀ i cs, S i cs → S2 i cs := by intro i cs q; rw [← hS]; exact .inl (.inl q)
  generalize wideL a (bothK a b) = la at *
  generalize wideL b (bothK a b) = lb at *
  generalize bothK a b = k at *
  simp
  rw [ints_len', ints_len']
  refine xX_loopI (N := 36) (fun _ => rfl) rfl (sameI h3 gid i1 i2 la lb S2 (sameL G 1 la lb)) la.length ?_ ?_
  · exact ⟨rfl, rfl, rfl, rfl, 0, G, 1, rfl, Gr.E_1 J.ok, rfl, by omega, rfl, .refl J.wf, J, by simp⟩
  · rintro m f h4 ⟨f0, f1, f2, f16, i, G, o, f7, hoE, f17, hi, rfl, gr, J, hR⟩
    have ob := hoE.b J.ok
    by_cases d : i < la.length
    · obtain ⟨x, hia⟩ : ∃ e, la[i]? = some e := ⟨_, List.getElem?_eq_getElem d⟩
      obtain ⟨y, hib⟩ : ∃ e, lb[i]? = some e := ⟨_, List.getElem?_eq_getElem (by omega)⟩
      have d2 : i < lb.length := by omega
      have ba := s1 x (List.mem_of_getElem? hia)
      have bb := s2 y (List.mem_of_getElem? hib)
      have ea := getI hia; have eb := getI hib
      have ka := J.sv i1 _ q1; have kb := J.sv i2 _ q2
      have na := H.lt_next J.wf ka; have nb := H.lt_next J.wf kb
      have lna := ints_len' la; have lnb := ints_len' lb
      have w1 : IntKind.i64.wrap ((i : Int) + 1) = i + 1 := wrap64 (by omega) (by omega)
      simp [tabF, f0, f1, f2, f7, f16, f17, d]
      refine xX_drawn [0, 0, 0, 0, 0, 24, 56, 0, 0, 384, 896, 2044, 4092, 8191, 16383] rfl (by kernel_rfl) ?_
      simp [d, d2, ka, kb, ea, eb, lna, lnb]
      refine (m_xor (a := x) (b := y) (by omega) (by omega) S2 J).mono fun v h5 ⟨g5, J5, hv⟩ => ?_
      subst hv
      have u5 := Gr.xor_up J.ok x y
      have x5 := u5.2.b u5.1.ok
      have x6 := (nt_E u5.2).b u5.1.ok
      have q5 := not_g u5.2.1 (by omega)
      simp [q5]
      refine (m_and (a := o) (b := nt (G.xor x y).1) (by omega) (by omega) S2 J5).mono fun v h6 ⟨g6, J6, hv⟩ => ?_
      subst hv
      have u6 := sameS_up J.ok o x y
      simp [w1]
      refine ⟨la.length - (i + 1), by omega, rfl, rfl, rfl, rfl, i + 1, (sameS G o x y).2, (sameS G o x y).1, rfl, u6.2, rfl, by omega, rfl, gr.trans (g5.trans g6), J6, ?_⟩
      rw [hR, List.drop_eq_getElem_cons d, List.drop_eq_getElem_cons d2]
      have e1 : la[i] = x := by simpa [d] using hia
      have e2 : lb[i] = y := by simpa [d2] using hib
      rw [e1, e2]
      simp [sameL]
    · have c2 : i = la.length := by omega
      subst c2
      simp [tabF, f0, f1, f2, f7, f16, f17]
      rw [List.drop_length] at hR
      have hR1 : (sameL _ 1 la lb).1 = o := (congrArg Prod.fst hR).trans (by simp [sameL])
      have hR2 : (sameL _ 1 la lb).2 = G := (congrArg Prod.snd hR).trans (by simp [sameL])
      rw [hR1, hR2]
      exact ⟨F.gr.trans gr, J.weak hw, rfl⟩
set_option maxRecDepth 8000 in
set_option maxHeartbeats 1000000 in
theorem less_run {h : H} {gid : Nat} {G : Gr} {S : Nat → List CV → Prop} (I : Mem h gid G S) {v1 v2 : CV} {a b : List Int} (h1 : ArgS S v1 a) (h2 : ArgS S v2 b) (sa : Small a) (sb : Small b) :
    Runs E 35 [.ptr gid 0, v1, v2] h fun v h' => Grows h h' ∧ Mem h' gid (lessG G a b).2 S ∧ v = .int .i64 (lessG G a b).1 := by
  have kb := bothK_b a b
  refine Runs.ofX Tryd.func35 rfl rfl rfl rfl (fun _ => rfl) ?_
  simp [Tryd.f35]
  refine (both_run I.wf (h1.sl I) (h2.sl I)).mono fun v h3 ⟨r1, r2, hv, F⟩ => ?_
  subst hv
  obtain ⟨i1, i2, rfl, rfl, n1, n2, ne, J⟩ := I.both F
  have l1 := wideL_len a (bothK a b); have l2 := wideL_len b (bothK a b)
  have s1 := small_wide sa (bothK a b); have s2 := small_wide sb (bothK a b)
  unfold lessG
  generalize hS : With (With S i1 (ints (wideL a (bothK a b)))) i2 (ints (wideL b (bothK a b))) = S2 at J
  have q1 : S2 i1 (ints (wideL a (bothK a b))) := by rw [← hS]; exact .inl (.inr ⟨rfl, rfl⟩)
  have q2 : S2 i2 (ints (wideL b (bothK a b))) := by rw [← hS]; exact .inr ⟨rfl, rfl⟩
  have hw : ∀ i cs, S i cs → S2 i cs := by intro i cs q; rw [← hS]; exact .inl (.inl q)
  generalize wideL a (bothK a b) = la at *
  generalize wideL b (bothK a b) = lb at *
  generalize bothK a b = k at *
  have w0 : IntKind.i64.wrap ((la.length : Int) - 1) = ((la.length - 1 : Nat) : Int) := by rw [wrap64] <;> omega
  simp
  rw [ints_len', ints_len']
  rw [w0]
  refine xX_loopI (N := 58) (fun _ => rfl) rfl (lessI h3 gid i1 i2 la lb S2 (lessL G 0 (la.take (la.length - 1)) (lb.take (la.length - 1)))) (la.length - 1) ?_ ?_
  · exact ⟨rfl, rfl, rfl, rfl, rfl, 0, G, 0, rfl, Gr.E_0 J.ok, rfl, by omega, rfl, .refl J.wf, J, by simp⟩
  · rintro m f h4 ⟨f0, f1, f2, f7, f19, i, G, o, f8, hoE, f20, hi, rfl, gr, J, hR⟩
    have ob := hoE.b J.ok
    obtain ⟨last, hlast⟩ : ∃ last, last = la.length - 1 := ⟨_, rfl⟩
    have il : i < la.length := by omega
    obtain ⟨x, hia⟩ : ∃ e, la[i]? = some e := ⟨_, List.getElem?_eq_getElem il⟩
    obtain ⟨y, hib⟩ : ∃ e, lb[i]? = some e := ⟨_, List.getElem?_eq_getElem (by omega)⟩
    have d2 : i < lb.length := by omega
    have ba := s1 x (List.mem_of_getElem? hia)
    have bb := s2 y (List.mem_of_getElem? hib)
    have ea := getI hia; have eb := getI hib
    have ka := J.sv i1 _ q1; have kb := J.sv i2 _ q2
    have na := H.lt_next J.wf ka; have nb := H.lt_next J.wf kb
    have lna := ints_len' la; have lnb := ints_len' lb
    have w1 : IntKind.i64.wrap ((i : Int) + 1) = i + 1 := wrap64 (by omega) (by omega)
    rw [← hlast] at f7 f19 hi hR ⊢
    by_cases d : i < last
    · simp [tabF, f0, f1, f2, f7, f8, f19, f20, d]
      refine xX_drawn [0, 0, 0, 0, 12, 28, 0, 0, 192, 448, 1022, 0, 0, 6144, 14336, 0, 65535, 131071] rfl (by kernel_rfl) ?_
      simp [il, d2, ka, kb, ea, eb, lna, lnb]
      refine (m_xor (a := x) (b := y) (by omega) (by omega) S2 J).mono fun v h5 ⟨g5, J5, hv⟩ => ?_
      subst hv
      have u5 := Gr.xor_up J.ok x y
      have x5 := u5.2.b u5.1.ok
      have kb5 := J5.sv i2 _ q2
      have nb5 := H.lt_next J5.wf kb5
      simp [d2, kb, kb5, eb, lnb]
      refine (m_mux (c := (G.xor x y).1) (a := y) (b := o) (by omega) (by omega) (by omega) S2 J5).mono fun v h6 ⟨g6, J6, hv⟩ => ?_
      subst hv
      have u6 := lessS_up J.ok o x y
      simp [w1]
      refine ⟨last - (i + 1), by omega, rfl, rfl, rfl, by rw [← hlast]; rfl, by rw [← hlast]; rfl, i + 1, (lessS G o x y).2, (lessS G o x y).1, rfl, u6.2, rfl, by omega, by rw [← hlast], gr.trans (g5.trans g6), J6, ?_⟩
      rw [hR]
      have lt1 : i < (la.take last).length := by rw [List.length_take]; omega
      have lt2 : i < (lb.take last).length := by rw [List.length_take]; omega
      rw [List.drop_eq_getElem_cons lt1, List.drop_eq_getElem_cons lt2]
      have e1 : (la.take last)[i] = x := by
        rw [List.getElem_take]; exact (List.getElem?_eq_some_iff.1 hia).2
      have e2 : (lb.take last)[i] = y := by
        rw [List.getElem_take]; exact (List.getElem?_eq_some_iff.1 hib).2
      rw [e1, e2, lessL_cons, ← hlast]
    · have c2 : i = last := by omega
      subst c2
      have hd : (la.take i).drop i = [] := List.drop_of_length_le (by rw [List.length_take]; omega)
      rw [hd] at hR
      rw [lessL_nil] at hR
      have lx : lastE la = x := by
        have := last_get (v := la) (by omega)
        rw [← hlast, hia] at this
        exact (Option.some.inj this).symm
      have ly : lastE lb = y := by
        have := last_get (v := lb) (by omega)
        rw [show lb.length - 1 = i by omega, hib] at this
        exact (Option.some.inj this).symm
      simp [tabF, f0, f1, f2, f7, f8, f19, f20]
      refine xX_drawn [0, 0, 0, 0, 12, 28, 0, 0, 192, 448, 1022, 0, 0, 6144, 14336, 0, 65535, 131071] rfl (by kernel_rfl) ?_
      simp [il, d2, ka, kb, ea, eb, lna, lnb]
      refine (m_xor (a := x) (b := y) (by omega) (by omega) S2 J).mono fun v h5 ⟨g5, J5, hv⟩ => ?_
      subst hv
      have u5 := Gr.xor_up J.ok x y
      have x5 := u5.2.b u5.1.ok
      have ka5 := J5.sv i1 _ q1
      have na5 := H.lt_next J5.wf ka5
      simp [il, ka, ka5, ea, lna]
      refine (m_mux (c := (G.xor x y).1) (a := x) (b := o) (by omega) (by omega) (by omega) S2 J5).mono fun v h6 ⟨g6, J6, hv⟩ => ?_
      subst hv
      simp
      have eR : ∀ G0 : Gr, lessL G0 0 (la.take i) (lb.take i) = (o, G) → lessE G0 la lb = lessT G o x y := by
        intro G0 q
        unfold lessE
        rw [← hlast, q, lx, ly]
      rw [eR _ hR]
      exact ⟨F.gr.trans (gr.trans (g5.trans g6)), J6.weak hw, rfl⟩
end Go.Proofs.YtjlabjncojhjkaaDoor
namespace Go.Proofs.YtjlabjncojhjkaaDoor
open Go Go.Cv
/-! ### graph.Eval -/
def bitV (val : List Bool) (e : Int) : Bool := (val.getD (e / 2).toNat false) != decide (e % 2 = 1)
def evalStep (model : List Bool) (st : List Bool × Nat) (p : Int × Int) : List Bool × Nat :=
  if p = (-1, -1) then (st.1 ++ [model.getD st.2 false], st.2 + 1) else (st.1 ++ [bitV st.1 p.1 && bitV st.1 p.2], st.2)
def evalL (model : List Bool) (l : List (Int × Int)) : List Bool × Nat := l.tail.foldl (evalStep model) ([false], 0)
theorem evalFold_len (model : List Bool) : ∀ (l : List (Int × Int)) (st : List Bool × Nat), (l.foldl (evalStep model) st).1.length = st.1.length + l.length ∧ (l.foldl (evalStep model) st).2 ≤ st.2 + l.length
  | [], st => by simp
  | p :: l, st => by
    have := evalFold_len model l (evalStep model st p)
    have h1 : (evalStep model st p).1.length = st.1.length + 1 ∧ (evalStep model st p).2 ≤ st.2 + 1 := by unfold evalStep; split <;> simp
    simp only [List.foldl_cons, List.length_cons]
    omega
theorem evalL_len {model : List Bool} {l : List (Int × Int)} (h : 0 < l.length) : (evalL model l).1.length = l.length := by
  have := evalFold_len model l.tail ([false], 0)
  unfold evalL
  rw [this.1, List.length_tail]
  simp only [List.length_singleton]; omega
theorem evalL_snoc {model : List Bool} {l : List (Int × Int)} {p : Int × Int} (h : 0 < l.length) : evalL model (l ++ [p]) = evalStep model (evalL model l) p := by
  unfold evalL
  rw [List.tail_append_of_ne_nil (by intro e; rw [e] at h; simp at h), List.foldl_append]
  rfl
theorem eval1_u {h : H} {bid vid : Nat} {vl : List Bool} (hb : h.get bid = some (.cells [.ref vid 0 vl.length 1])) (hv : h.get vid = some (.cells (bools vl))) (wf : WFH h) {e : Int} (h0 : 0 ≤ e) (h1 : e / 2 < vl.length) (h2 : e ≤ 1000000) (K) (t) :
    uRuns E 54 [.int .i64 e, .ptr bid 0] h K t = K (.bool (bitV vl e)) h := by
  have nb := H.lt_next wf hb
  have nv := H.lt_next wf hv
  have d1 : e.tdiv 2 = e / 2 := Int.tdiv_eq_ediv_of_nonneg h0
  have d2 : e.tmod 2 = e % 2 := Int.tmod_eq_emod_of_nonneg h0
  obtain ⟨n, hn⟩ := Int.eq_ofNat_of_zero_le (show 0 ≤ e / 2 by omega)
  have d3 : IntKind.i64.wrap (n : Int) = n := wrap64 (by omega) (by omega)
  have d4 : IntKind.i64.wrap (e % 2) = e % 2 := wrap64 (by omega) (by omega)
  have hlt : n < vl.length := by omega
  obtain ⟨b, hbit⟩ : ∃ b, vl[n]? = some b := ⟨_, List.getElem?_eq_getElem hlt⟩
  have eb := getB hbit
  have ln := bools_len vl
  have hbv : bitV vl e = (b != decide (e % 2 = 1)) := by
    unfold bitV
    rw [hn, Int.toNat_natCast, List.getD_eq_getElem?_getD, hbit]; rfl
  refine Runs.det (Runs.ofX Tryd.func54 rfl rfl rfl rfl (fun _ => rfl) ?_)
  rw [hbv]
  simp [Tryd.f54, hb, hv, d1, d2, hn, d3, hlt, eb, ln, eqBin]
  try (cases b <;> simp)
def SlB (h : H) (v : CV) (l : List Bool) : Prop := (v = .nils ∧ l = []) ∨ ∃ id, v = .ref id 0 l.length 1 ∧ h.get id = some (.cells (bools l))
structure EvI (h0 : H) (bid vid : Nat) (N : Nat) (V : List Bool) (h : H) : Prop where
  gr : Grows h0 h
  fr : ∀ i, i < h0.next → h.get i = h0.get i
  bx : h.get bid = some (.cells [.ref vid 0 N 1])
  vl : h.get vid = some (.cells (bools (V ++ List.replicate (N - V.length) false)))
  ne : bid ≠ vid
  nb : h0.next ≤ bid
  nv : h0.next ≤ vid
def evI (h0 : H) (gid : Nat) (G : Gr) (mv ev : CV) (model : List Bool) (m : Nat) (f : Nat → CV) (h : H) : Prop :=
  f 0 = .ptr gid 0 ∧ f 1 = mv ∧ f 2 = ev ∧ ∃ bid vid n : Nat, f 7 = .ptr bid 0 ∧ f 8 = .int .i64 ((evalL model (G.l.take n)).2 : Nat) ∧ f 9 = .fn 54 [.ptr bid 0] ∧ f 10 = .int .i64 (n : Nat) ∧ 1 ≤ n ∧ n ≤ G.l.length ∧ m = G.l.length - n ∧ EvI h0 bid vid G.l.length (evalL model (G.l.take n)).1 h
def evJ (h0 : H) (gid eid bid : Nat) (es : List Int) (g : Int → Bool) (m : Nat) (f : Nat → CV) (h : H) : Prop :=
  f 0 = .ptr gid 0 ∧ f 9 = .fn 54 [.ptr bid 0] ∧ f 79 = .ref eid 0 es.length 1 ∧ f 80 = .int .i64 es.length ∧ ∃ i : Nat, f 81 = .int .i64 (i : Nat) ∧ i ≤ es.length ∧ m = es.length - i ∧ OutF h0 h (f 11) (bools ((es.map g).take i))
set_option maxRecDepth 16000 in
set_option maxHeartbeats 2000000 in
theorem eval_run {h : H} {gid : Nat} {G : Gr} {S : Nat → List CV → Prop} (I : Mem h gid G S) {mv ev : CV} {model : List Bool} {es : List Int} (hm : SlB h mv model) (he : ArgS S ev es) (h1 : es ≠ []) (h2 : es.length ≤ 1000) (hml : model.length ≤ 1000000) (se : Small es) :
    Runs E 26 [.ptr gid 0, mv, ev] h fun v h' => Fresh h h' v (bools (es.map fun e => bitV (evalL model G.l).1 (G.edge e))) := by
  obtain ⟨Fg, hG, dS⟩ := I.ex
  have wf := I.wf
  have hp := I.ok.pos
  have ht := I.ok.top
  obtain ⟨lid, mid, insv, k1, k2, k3, k4, n1, n2, n3, f1, f2, f3⟩ := hG.ex
  have g1 := H.lt_next wf k1
  have g2 := H.lt_next wf k2
  have b1 : G.l.length * 1 ≤ 140737488355328 := by omega
  have b2 : G.l.length ≤ 140737488355328 := by omega
  have b3 : (G.l.length : Int) ≤ 140737488355328 := by omega
  refine Runs.ofX Tryd.func26 rfl rfl rfl rfl (fun _ => rfl) ?_
  simp [Tryd.f26, k1, b3]
  refine xX_loopI (N := 95) (fun _ => rfl) rfl (evI h gid G mv ev model) (G.l.length - 1) ?_ ?_
  · have e1 : evalL model (G.l.take 1) = ([false], 0) := by
      have : (G.l.take 1).tail = [] := by rcases G.l with _ | ⟨x, l⟩ <;> simp
      unfold evalL; rw [this]; rfl
    have hrep : bools ([false] ++ List.replicate (G.l.length - 1) false) = List.replicate G.l.length (.bool false) := by
      obtain ⟨n, hn⟩ : ∃ n, G.l.length = n + 1 := ⟨G.l.length - 1, by omega⟩
      rw [hn]; simp [bools]
    refine ⟨rfl, rfl, rfl, h.next + 1, h.next, 1, rfl, by rw [e1]; rfl, rfl, rfl, by omega, by omega, rfl, ⟨⟨by simp; omega, H.wf_put (H.wf_new (H.wf_new wf _) _) (by simp) _, fun i hi hz => by simp [far hi, hz]⟩, fun i hi => by simp [far hi], by simp, ?_, by omega, by omega, by omega⟩⟩
    rw [e1]
    simp only [List.length_singleton]
    rw [hrep]
    simp
  · rintro m f h3 ⟨f0, f1, f2, bid, vid, n, f7, f8, f9, f10, hn1, hn2, rfl, O⟩
    have wf3 := O.gr.wf
    have k1' : h3.get gid = some (.cells [.ref lid 0 G.l.length 2, .map mid, insv]) := by rw [O.fr gid g1]; exact k1
    have k2' : h3.get lid = some (.cells (cells2 G.l)) := by rw [O.fr lid g2]; exact k2
    have g1' := H.lt_next wf3 k1'
    have g2' := H.lt_next wf3 k2'
    have gb := H.lt_next wf3 O.bx
    have gv := H.lt_next wf3 O.vl
    by_cases d : n < G.l.length
    · obtain ⟨p, hp'⟩ : ∃ p, G.l[n]? = some p := ⟨_, List.getElem?_eq_getElem d⟩
      have hc := cells2_at _ _ _ hp'
      have hcl := cells2_len G.l
      have hx : n * 2 + 2 ≤ (cells2 G.l).length := by omega
      have hx1 : n * 2 < (cells2 G.l).length := by omega
      have hx2 : n * 2 + 1 < (cells2 G.l).length := by omega
      have hg0 := cells2_0 hp'; have hg1 := cells2_1 hp'
      have w1 : IntKind.i64.wrap ((n : Int) + 1) = n + 1 := wrap64 (by omega) (by omega)
      have tl : 0 < (G.l.take n).length := by rw [List.length_take]; omega
      have Vl : (evalL model (G.l.take n)).1.length = n := by rw [evalL_len tl, List.length_take]; omega
      have hstep : evalL model (G.l.take (n + 1)) = evalStep model (evalL model (G.l.take n)) p := by
        rw [List.take_add_one, hp']; exact evalL_snoc tl
      have seenb : (evalL model (G.l.take n)).2 ≤ n := by
        have := (evalFold_len model (G.l.take n).tail ([false], 0)).2
        unfold evalL
        simp only [List.length_tail, List.length_take] at this
        omega
      have Ovl := O.vl
      rw [Vl] at Ovl
      have obl : (bools ((evalL model (G.l.take n)).1 ++ List.replicate (G.l.length - n) false)).length = G.l.length := by
        rw [bools_len, List.length_append, Vl, List.length_replicate]; omega
      have hset : ∀ b : Bool, List.take n (bools ((evalL model (G.l.take n)).1 ++ List.replicate (G.l.length - n) false)) ++ CV.bool b :: List.drop (n + 1) (bools ((evalL model (G.l.take n)).1 ++ List.replicate (G.l.length - n) false)) = bools (((evalL model (G.l.take n)).1 ++ [b]) ++ List.replicate (G.l.length - (n + 1)) false) := by
        intro b
        obtain ⟨q, hq⟩ : ∃ q, G.l.length - n = q + 1 := ⟨G.l.length - n - 1, by omega⟩
        rw [hq, show G.l.length - (n + 1) = q by omega, List.replicate_succ]
        simp only [bools, List.map_append, List.map_cons]
        rw [List.take_append_of_le_length (by simp [Vl]), List.take_of_length_le (by simp [Vl])]
        rw [List.drop_append, List.drop_of_length_le (by simp [Vl])]
        simp [Vl]
      have hn1' : n + 1 ≤ G.l.length := d
      generalize hV : (evalL model (G.l.take n)).1 = V at *
      generalize hsn : (evalL model (G.l.take n)).2 = sn at *
      have fin : ∀ (h4 : H) (b : Bool) (f' : Nat → CV), f' 0 = .ptr gid 0 → f' 1 = mv → f' 2 = ev → f' 7 = .ptr bid 0 → f' 8 = .int .i64 ((evalL model (G.l.take (n + 1))).2 : Nat) → f' 9 = .fn 54 [.ptr bid 0] → f' 10 = .int .i64 ((n : Int) + 1) → (evalL model (G.l.take (n + 1))).1 = V ++ [b] →
          h4 = h3.put vid (.cells (bools ((V ++ [b]) ++ List.replicate (G.l.length - (n + 1)) false))) → ∃ m, m < G.l.length - n ∧ evI h gid G mv ev model m f' h4 := by
        intro h4 b f' q0 q1 q2 q7 q8 q9 q10 qV q4
        have nvh : vid < h3.next := gv
        refine ⟨G.l.length - (n + 1), by omega, q0, q1, q2, bid, vid, n + 1, q7, q8, q9, by rw [q10]; rfl, by omega, by omega, rfl, ?_⟩
        rw [qV, q4]
        refine ⟨O.gr.trans ⟨Nat.le_refl _, H.wf_put wf3 gv _, fun i hi hz => ?_⟩, fun i hi => ?_, ?_, ?_, O.ne, O.nb, O.nv⟩
        · rw [H.get_put, if_neg]
          · exact hz
          · intro e; rw [e, Ovl] at hz; cases hz
        · have := O.nv
          rw [H.get_put, if_neg (by omega)]; exact O.fr i hi
        · rw [H.get_put, if_neg O.ne]; exact O.bx
        · rw [H.get_put, if_pos rfl, List.length_append, Vl, List.length_singleton]
      by_cases c2 : p = (-1, -1)
      · subst c2
        have est : evalStep model (evalL model (G.l.take n)) (-1, -1) = (V ++ [model.getD sn false], sn + 1) := by unfold evalStep; rw [if_pos rfl, hV, hsn]
        rw [est] at hstep
        simp [tabF, f0, f1, f2, f7, f8, f9, f10, k1', d]
        refine xX_drawn [0, 1, 3, 7, 0, 31, 63, 0, 255] rfl (by kernel_rfl) ?_
        simp [k1', k2', d, hx, hc, eqBin, cmpL, cmpC]
        refine xX_drawn [0, 0, 0, 0, 8, 28, 60, 124, 124, 508, 1020, 2044, 4095, 8191] rfl (by kernel_rfl) ?_
        rcases hm with ⟨rfl, rfl⟩ | ⟨mmid, rfl, hmg⟩
        · have w2 : IntKind.i64.wrap ((sn : Int) + 1) = sn + 1 := wrap64 (by omega) (by omega)
          have nlt : ¬ ((sn : Int) < 0) := by omega
          simp [O.bx, Ovl, d, obl, hset, hn1', nlt, w1, w2]
          exact fin _ false (getT _) rfl rfl rfl rfl (by rw [hstep]; rfl) rfl rfl (by rw [hstep]; simp) (by simp)
        · have gm0 := H.lt_next wf hmg
          have hmg' : h3.get mmid = some (.cells (bools model)) := by rw [O.fr mmid gm0]; exact hmg
          have gm := H.lt_next wf3 hmg'
          have w2 : IntKind.i64.wrap ((sn : Int) + 1) = sn + 1 := wrap64 (by omega) (by omega)
          have lm := bools_len model
          by_cases c4 : sn < model.length
          · obtain ⟨b, hb⟩ : ∃ b, model[sn]? = some b := ⟨_, List.getElem?_eq_getElem c4⟩
            have eb := getB hb
            have hgd : model.getD sn false = b := by rw [List.getD_eq_getElem?_getD, hb]; rfl
            simp [O.bx, Ovl, d, obl, hset, hn1', c4, hmg', eb, lm, w1, w2]
            exact fin _ b (getT _) rfl rfl rfl rfl (by rw [hstep]; rfl) rfl rfl (by rw [hstep, hgd]) (by simp)
          · have hgd : model.getD sn false = false := by rw [List.getD_eq_getElem?_getD, List.getElem?_eq_none (by omega)]; rfl
            simp [O.bx, Ovl, d, obl, hset, hn1', c4, w1, w2]
            exact fin _ false (getT _) rfl rfl rfl rfl (by rw [hstep]; rfl) rfl rfl (by rw [hstep, hgd]) (by simp)
      · have hnd := (I.ok.nd _ _ hp').resolve_left c2
        have c3 : (p.1 == -1 && p.2 == -1) = false := by
          rcases p with ⟨x, y⟩
          simp only [Prod.mk.injEq] at c2
          simp only [Bool.and_eq_false_iff, beq_eq_false_iff_ne]; omega
        have est : evalStep model (evalL model (G.l.take n)) p = (V ++ [bitV V p.1 && bitV V p.2], sn) := by unfold evalStep; rw [if_neg c2, hV, hsn]
        rw [est] at hstep
        have bvx : ∀ e : Int, 0 ≤ e → e < 2 * (n : Int) → bitV (V ++ List.replicate (G.l.length - n) false) e = bitV V e := by
          intro e e0 e1
          unfold bitV
          rw [List.getD_eq_getElem?_getD, List.getD_eq_getElem?_getD, List.getElem?_append_left (by rw [Vl]; omega)]
        have lV : (V ++ List.replicate (G.l.length - n) false).length = G.l.length := by rw [List.length_append, Vl, List.length_replicate]; omega
        have hb' : h3.get bid = some (.cells [.ref vid 0 (V ++ List.replicate (G.l.length - n) false).length 1]) := by rw [lV]; exact O.bx
        have q1 := eval1_u hb' Ovl wf3 (e := p.1) (by omega) (by rw [lV]; omega) (by omega)
        have q2 := eval1_u hb' Ovl wf3 (e := p.2) (by omega) (by rw [lV]; omega) (by omega)
        rw [bvx p.1 (by omega) (by omega)] at q1
        rw [bvx p.2 (by omega) (by omega)] at q2
        simp [tabF, f0, f1, f2, f7, f8, f9, f10, k1', d]
        refine xX_drawn [0, 1, 3, 7, 0, 31, 63, 0, 255] rfl (by kernel_rfl) ?_
        simp [k1', k2', d, hx, hc, eqBin, cmpL, cmpC, c3]
        refine xX_drawn [0, 0, 0, 0, 8, 24, 56, 0, 248, 504, 1016, 2044, 4092, 8188, 8188, 24572, 57340, 122876, 8188, 516092, 1040380, 2088956, 4194300, 8388604, 16777215, 33554431] rfl (by kernel_rfl) ?_
        have hg0' := getOf hg0
        have hg1' := getOf hg1
        by_cases c5 : bitV V p.1 = true
        · rw [c5] at q1
          simp [k1', k2', d, hx1, hx2, hg0', hg1', q1, q2, O.bx, Ovl, obl, hset, hn1', w1]
          exact fin _ (bitV V p.2) (getT _) rfl rfl rfl rfl (by rw [hstep]; rfl) rfl rfl (by rw [hstep, c5]; simp) (by simp)
        · have c6 : bitV V p.1 = false := by simpa using c5
          rw [c6] at q1
          simp [k1', k2', d, hx1, hg0', q1, O.bx, Ovl, obl, hset, hn1', w1]
          exact fin _ false (getT _) rfl rfl rfl rfl (by rw [hstep]; rfl) rfl rfl (by rw [hstep, c6]; simp) (by simp)
    · have c2 : n = G.l.length := by omega
      subst c2
      rw [List.take_length] at O f8
      have hL := evalL_len (model := model) hp
      have Ovl := O.vl
      rw [hL, Nat.sub_self, List.replicate_zero, List.append_nil] at Ovl
      obtain ⟨eid, rfl, hes⟩ : ∃ eid, ev = .ref eid 0 es.length 1 ∧ S eid (ints es) := by
        rcases he with ⟨_, q⟩ | q
        · exact absurd q h1
        · exact q
      have eh : eid < h.next := I.lt hes
      have hel : es.length ≠ 0 := fun q => h1 (List.length_eq_zero_iff.1 q)
      simp [tabF, f0, f1, f2, f7, f8, f9, f10, k1']
      have wf4 := wf3
      refine xX_loopI (N := 95) (fun _ => rfl) rfl (evJ h3 gid eid bid es (fun e => bitV (evalL model G.l).1 (G.edge e))) es.length ?_ ?_
      · exact ⟨rfl, rfl, rfl, rfl, 0, rfl, by omega, rfl, OutF.nil wf3⟩
      · rintro m f' h4 ⟨q0, q9, q79, q80, i, q81, hi, rfl, P⟩
        have wf5 := P.gr.wf
        have fr4 : ∀ j, j < h.next → h4.get j = h.get j := fun j hj => by rw [P.fr j (Nat.lt_of_lt_of_le hj O.gr.nx), O.fr j hj]
        have ke : h4.get eid = some (.cells (ints es)) := by rw [fr4 eid eh]; exact I.sv eid _ hes
        have ne := H.lt_next wf5 ke
        have kb4 : h4.get bid = some (.cells [.ref vid 0 (evalL model G.l).1.length 1]) := by rw [P.fr bid gb, hL]; exact O.bx
        have kv4 : h4.get vid = some (.cells (bools (evalL model G.l).1)) := by rw [P.fr vid gv]; exact Ovl
        by_cases d : i < es.length
        · obtain ⟨e, hie⟩ : ∃ e, es[i]? = some e := ⟨_, List.getElem?_eq_getElem d⟩
          have be := se e (List.mem_of_getElem? hie)
          have ee := getI hie
          have ln := ints_len' es
          have hG4 : GraphAt h4 Fg gid G := hG.keep wf fun j hj _ => fr4 j hj
          have q3 := edge_g hG4 (e := e) (by omega)
          have eE := Gr.edge_E I.ok e
          have eb := eE.b I.ok
          have e0 := eE.1
          have e1 := eE.2
          have q4 := eval1_u kb4 kv4 wf5 (e := G.edge e) e0 (by rw [hL]; omega) (by omega)
          have w1 : IntKind.i64.wrap ((i : Int) + 1) = i + 1 := wrap64 (by omega) (by omega)
          have ol : ((es.map fun e => bitV (evalL model G.l).1 (G.edge e)).take i).length = i := by rw [List.length_take, List.length_map]; omega
          simp [-u_append, tabF, q0, q9, q79, q80, q81, d, ke, ee, ln, q3, q4]
          refine app1 (x := .bool (bitV (evalL model G.l).1 (G.edge e))) (H.wf_new wf5 _) (P.outC _) rfl (by simp) rfl rfl rfl rfl rfl rfl rfl rfl (by rw [bools_len, ol]; show _ * 1 ≤ _; omega) (by rw [bools_len, ol]; omega) fun h5 A => ?_
          have P2 := P.app A
          simp [w1]
          refine ⟨es.length - (i + 1), by omega, rfl, rfl, rfl, rfl, i + 1, rfl, by omega, rfl, ?_⟩
          have : bools ((es.map fun e => bitV (evalL model G.l).1 (G.edge e)).take (i + 1)) = bools ((es.map fun e => bitV (evalL model G.l).1 (G.edge e)).take i) ++ [.bool (bitV (evalL model G.l).1 (G.edge e))] := by
            rw [List.take_add_one, List.getElem?_map, hie]
            simp [bools]
          rw [this]
          exact P2
        · have c2 : i = es.length := by omega
          subst c2
          simp [tabF, q0, q9, q79, q80, q81]
          rw [List.take_of_length_le (by simp)] at P
          obtain ⟨g5, k5, id, r1, r2, r3⟩ := P.fresh (by intro q; have := congrArg List.length q; rw [bools_len, List.length_map, List.length_nil] at this; omega)
          exact ⟨O.gr.trans g5, fun j hj => by rw [k5 j (Nat.lt_of_lt_of_le hj O.gr.nx), O.fr j hj], id, r1, Nat.le_trans O.gr.nx r2, r3⟩
end Go.Proofs.YtjlabjncojhjkaaDoor
namespace Go.Proofs.YtjlabjncojhjkaaDoor
open Go Go.Cv
/-! ### bits.Div, Rem -/
theorem divFrom_up (b : List Int) : ∀ (xs : List Int) {G : Gr} {rest : List Int}, G.OK → rest.length = b.length → (∀ e ∈ rest, G.E e) →
    G.Up (divFrom G rest b xs).g ∧ (∀ e ∈ (divFrom G rest b xs).q, (divFrom G rest b xs).g.E e) ∧ (∀ e ∈ (divFrom G rest b xs).r, (divFrom G rest b xs).g.E e) ∧ (divFrom G rest b xs).q.length = xs.length ∧ (divFrom G rest b xs).r.length = rest.length
  | [], G, rest, ok, hl, hr => by
    simp only [divFrom]
    refine ⟨.refl ok, by simp, hr, ?_, ?_⟩ <;> first | trivial | rfl
  | x :: xs, G, rest, ok, hl, hr => by
    have h1 := dRest_up ok x rest b
    have h2 := dRest_len (G := G) (x := x) hl
    have h3 := dFits_E ok (x := x) hl
    have h4 := (muxL_up ((dDiff G x rest b).1.take rest.length) ((x :: rest).take rest.length) (dFits G x rest b) (dDiff_up ok x rest b).1.ok).1
    have ih := divFrom_up b xs h1.1.ok (by rw [h2, hl]) h1.2
    simp only [divFrom]
    refine ⟨h1.1.trans ih.1, fun e he => ?_, ih.2.2.1, by rw [List.length_append, ih.2.2.2.1]; rfl, by rw [ih.2.2.2.2, h2]⟩
    rcases List.mem_append.1 he with he | he
    · exact ih.2.1 e he
    · simp at he; subst he
      exact ih.1.e (h4.e h3)
def dvR (G : Gr) (a b : List Int) : DivR := divFrom (sizeG (sizeG G a).2 b).2 (constL 0 (heldN (sizeG G a).1.length)) (sizeG (sizeG G a).2 b).1 (sizeG G a).1.reverse
def divX (G : Gr) (a b : List Int) : Int × Gr := (dvR G a b).g.xor (lastE a) (lastE b)
def divS (G : Gr) (m : Int) (b v : List Int) : List Int × Gr := maskL (signedG (anyL G 0 (vecL b)).2 m v).2 (anyL G 0 (vecL b)).1 (signedG (anyL G 0 (vecL b)).2 m v).1
def divE (G : Gr) (a b : List Int) : List Int × Gr := divS (divX G a b).2 (divX G a b).1 b (dvR G a b).q
def remE (G : Gr) (a b : List Int) : List Int × Gr := divS (dvR G a b).g (lastE a) b (dvR G a b).r
def divG (G : Gr) (a b : List Int) : List Int × Gr := divE G (wideL a (bothK a b)) (wideL b (bothK a b))
def remG (G : Gr) (a b : List Int) : List Int × Gr := remE G (wideL a (bothK a b)) (wideL b (bothK a b))
theorem sizeG_up {G : Gr} (ok : G.OK) (v : List Int) : G.Up (sizeG G v).2 ∧ ∀ e ∈ (sizeG G v).1, (sizeG G v).2.E e := signed_up ok _ v
theorem sizeG_len {G : Gr} {v : List Int} (h : 1 ≤ v.length ∧ v.length ≤ 16) : (sizeG G v).1.length = v.length := signed_len h
theorem const_E {G : Gr} (ok : G.OK) (n : Int) (k : Nat) : ∀ e ∈ constL n k, G.E e := fun e he => by
  rcases constL_bit he with h | h
  · rw [h]; exact Gr.E_0 ok
  · rw [h]; exact Gr.E_1 ok
theorem dvR_up {G : Gr} (ok : G.OK) {a b : List Int} {k : Nat} (ha : a.length = k) (hb : b.length = k) (hk : 1 ≤ k ∧ k ≤ 16) :
    G.Up (dvR G a b).g ∧ (∀ e ∈ (dvR G a b).q, (dvR G a b).g.E e) ∧ (∀ e ∈ (dvR G a b).r, (dvR G a b).g.E e) ∧ (dvR G a b).q.length = k ∧ (dvR G a b).r.length = k := by
  have h1 := sizeG_up ok a
  have h2 := sizeG_up h1.1.ok b
  have l1 := sizeG_len (G := G) (v := a) (by omega)
  have l2 := sizeG_len (G := (sizeG G a).2) (v := b) (by omega)
  have h3 := divFrom_up (sizeG (sizeG G a).2 b).1 (sizeG G a).1.reverse (rest := constL 0 (heldN (sizeG G a).1.length)) h2.1.ok (by rw [constL_len, heldN_id (by omega), l1, l2, ha, hb]) (const_E h2.1.ok _ _)
  refine ⟨(h1.1.trans h2.1).trans h3.1, h3.2.1, h3.2.2.1, ?_, ?_⟩
  · show (dvR G a b).q.length = k
    unfold dvR; rw [h3.2.2.2.1, List.length_reverse, l1, ha]
  · show (dvR G a b).r.length = k
    unfold dvR; rw [h3.2.2.2.2, constL_len, heldN_id (by omega), l1, ha]
/-- The two sizes and their quotient, as Div and Rem ask for them. -/
theorem anyL_b {G : Gr} (ok : G.OK) (l : List Int) : (anyL G 0 l).1 < 400000 ∧ 0 ≤ (anyL G 0 l).1 := by
  have h := anyL_up l ok (Gr.E_0 ok)
  exact ⟨h.2.b h.1.ok, h.2.1⟩
theorem divS_up {G : Gr} (ok : G.OK) (m : Int) (b v : List Int) : G.Up (divS G m b v).2 ∧ ∀ e ∈ (divS G m b v).1, (divS G m b v).2.E e := by
  have h1 := anyL_up (vecL b) ok (Gr.E_0 ok)
  have h2 := signed_up h1.1.ok m v
  have h3 := maskL_up (signedG (anyL G 0 (vecL b)).2 m v).1 (anyL G 0 (vecL b)).1 h2.1.ok
  exact ⟨(h1.1.trans h2.1).trans h3.1, h3.2⟩
theorem divS_len {G : Gr} {m : Int} {b v : List Int} (h : 1 ≤ v.length ∧ v.length ≤ 16) : (divS G m b v).1.length = v.length := by
  unfold divS; rw [maskL_len, signed_len h]
set_option maxRecDepth 8000 in
set_option maxHeartbeats 1000000 in
theorem div_run {h : H} {gid : Nat} {G : Gr} {S : Nat → List CV → Prop} (I : Mem h gid G S) {v1 v2 : CV} {a b : List Int} (h1 : ArgS S v1 a) (h2 : ArgS S v2 b) (sa : ∀ e ∈ a, 0 ≤ e ∧ e ≤ 400000) (sb : ∀ e ∈ b, 0 ≤ e ∧ e ≤ 400000) :
    Runs E 39 [.ptr gid 0, v1, v2] h fun v h' => GOut h h' gid (divG G a b).2 S v (divG G a b).1 := by
  have kb := bothK_b a b
  have sw : ∀ (l : List Int) (k : Nat), (∀ e ∈ l, 0 ≤ e ∧ e ≤ 400000) → ∀ e ∈ wideL l k, 0 ≤ e ∧ e ≤ 400000 := fun l k hl e he => by
    have := mem_wide he
    unfold vecL at this
    split at this
    · simp at this; omega
    · exact hl e this
  refine Runs.ofX Tryd.func39 rfl rfl rfl rfl (fun _ => rfl) ?_
  simp [Tryd.f39]
  refine (both_run I.wf (h1.sl I) (h2.sl I)).mono fun v h3 ⟨r1, r2, hv, F⟩ => ?_
  subst hv
  obtain ⟨i1, i2, rfl, rfl, n1, n2, ne, J⟩ := I.both F
  have l1 := wideL_len a (bothK a b); have l2 := wideL_len b (bothK a b)
  have s1 := sw a (bothK a b) sa; have s2 := sw b (bothK a b) sb
  unfold divG
  generalize hS : With (With S i1 (ints (wideL a (bothK a b)))) i2 (ints (wideL b (bothK a b))) = S2 at J
  have q1 : S2 i1 (ints (wideL a (bothK a b))) := by rw [← hS]; exact .inl (.inr ⟨rfl, rfl⟩)
  have q2 : S2 i2 (ints (wideL b (bothK a b))) := by rw [← hS]; exact .inr ⟨rfl, rfl⟩
  have hw : ∀ i cs, S i cs → S2 i cs := by intro i cs q; rw [← hS]; exact .inl (.inl q)
  generalize wideL a (bothK a b) = la at *
  generalize wideL b (bothK a b) = lb at *
  generalize bothK a b = k at *
  have lA : 1 ≤ la.length ∧ la.length ≤ 16 := by omega
  have lB : 1 ≤ lb.length ∧ lb.length ≤ 16 := by omega
  have lz1 := sizeG_len (G := G) lA
  have lz2 := sizeG_len (G := (sizeG G la).2) lB
  have u1 := sizeG_up J.ok la
  have u2 := sizeG_up u1.1.ok lb
  have u3 := dvR_up J.ok l1 l2 kb
  have b1 := small_E u1.1.ok u1.2
  have b2 := small_E u2.1.ok u2.2
  have b3 := small_E u3.1.ok u3.2.1
  have lg1 := last_get lA.1; have lg2 := last_get lB.1
  have e1 := getI lg1; have e2 := getI lg2
  have m1 := s1 _ (List.mem_of_getElem? lg1); have m2 := s2 _ (List.mem_of_getElem? lg2)
  have w1 : IntKind.i64.wrap ((la.length : Int) - 1) = ((la.length - 1 : Nat) : Int) := by rw [wrap64] <;> omega
  have w2 : IntKind.i64.wrap ((lb.length : Int) - 1) = ((lb.length - 1 : Nat) : Int) := by rw [wrap64] <;> omega
  have j1 : la.length - 1 < la.length := by omega
  have j2 : lb.length - 1 < lb.length := by omega
  have hll : (sizeG G la).1.length = (sizeG (sizeG G la).2 lb).1.length := by omega
  have hkk : 1 ≤ (sizeG G la).1.length ∧ (sizeG G la).1.length ≤ 16 := by omega
  have lq : 1 ≤ (dvR G la lb).q.length ∧ (dvR G la lb).q.length ≤ 16 := by omega
  have lna := ints_len' la; have lnb := ints_len' lb
  have c1 : lastE la ≤ 9223372036854775807 := by omega
  have c2 : lastE lb ≤ 9223372036854775807 := by omega
  have ux := Gr.xor_up u3.1.ok (lastE la) (lastE lb)
  have bx := ux.2.b ux.1.ok
  have c3 : (divX G la lb).1 ≤ 1000000 := by show (Gr.xor _ _ _).1 ≤ _; omega
  have uo := anyL_up (vecL lb) (G := (divX G la lb).2) ux.1.ok (Gr.E_0 ux.1.ok)
  have bo := anyL_b (G := (divX G la lb).2) ux.1.ok (vecL lb)
  have c4 : (anyL (divX G la lb).2 0 (vecL lb)).1 ≤ 1000000 := by omega
  have us := signed_up (G := (anyL (divX G la lb).2 0 (vecL lb)).2) uo.1.ok (divX G la lb).1 (dvR G la lb).q
  have bs := small_of (small_E us.1.ok us.2)
  have ls := signed_len (G := (anyL (divX G la lb).2 0 (vecL lb)).2) (m := (divX G la lb).1) lq
  have ls1 : 1 ≤ (signedG (anyL (divX G la lb).2 0 (vecL lb)).2 (divX G la lb).1 (dvR G la lb).q).1.length := by rw [ls]; exact lq.1
  have ls2 : (signedG (anyL (divX G la lb).2 0 (vecL lb)).2 (divX G la lb).1 (dvR G la lb).q).1.length ≤ 1000 := by rw [ls]; exact Nat.le_trans lq.2 (by decide)
  simp
  rw [ints_len', ints_len']
  refine (size_run J q1 lA s1).mono fun r h4 ⟨g4, i4, hr, n4, J4⟩ => ?_
  subst hr
  simp
  refine (size_run J4 (iv := i2) (.inl q2) lB s2).mono fun r h5 ⟨g5, i5, hr, n5, J5⟩ => ?_
  subst hr
  simp
  rw [← hll]
  have rd := divide_run J5 (ia := i4) (ib := i5) (.inl (.inr ⟨rfl, rfl⟩)) (.inr ⟨rfl, rfl⟩) hll hkk b1 b2
  rw [← hll] at rd
  refine rd.mono fun r h6 ⟨r1, r2, hr, g6, i6, i7, hr1, hr2, n6, n7, ne6, J6⟩ => ?_
  subst hr hr1 hr2
  have J6' : Mem h6 gid (dvR G la lb).g (With S2 i6 (ints (dvR G la lb).q)) := J6.weak fun i cs q => by
    rcases q with q | q
    · exact .inl (.inl (.inl (.inl q)))
    · exact .inl (.inr q)
  have ka := J6'.sv i1 _ (.inl q1); have kb' := J6'.sv i2 _ (.inl q2)
  have na := H.lt_next J6'.wf ka; have nb := H.lt_next J6'.wf kb'
  simp
  refine xX_drawn [0, 0, 0, 4, 12, 30, 62, 0, 0, 256, 768, 1920, 3968, 8191, 16383] rfl (by kernel_rfl) ?_
  simp [ka, kb', w1, w2, j1, j2, e1, e2, lna, lnb]
  refine (m_xor c1 c2 _ J6').mono fun r h7 ⟨g7, J7, hr⟩ => ?_
  subst hr
  simp
  refine (some_run J7 (v := .ref i2 0 lb.length 1) (.inr ⟨i2, rfl, .inl q2⟩) (small_of s2)).mono fun r h8 ⟨g8, J8, hr⟩ => ?_
  subst hr
  simp
  refine (signed_run J8 (iv := i6) (.inr ⟨rfl, rfl⟩) lq b3 c3).mono fun r h9 ⟨g9, i9, hr, n9, J9⟩ => ?_
  subst hr
  simp
  refine (mask_run J9 (iv := i9) (.inr ⟨rfl, rfl⟩) ls1 ls2 bs c4).mono fun r h10 O => ?_
  simp
  exact O.weak ((((F.gr.trans g4).trans g5).trans g6).trans ((g7.trans g8).trans g9)) fun i cs q => .inl (.inl (hw i cs q))
set_option maxRecDepth 8000 in
set_option maxHeartbeats 1000000 in
theorem rem_run {h : H} {gid : Nat} {G : Gr} {S : Nat → List CV → Prop} (I : Mem h gid G S) {v1 v2 : CV} {a b : List Int} (h1 : ArgS S v1 a) (h2 : ArgS S v2 b) (sa : ∀ e ∈ a, 0 ≤ e ∧ e ≤ 400000) (sb : ∀ e ∈ b, 0 ≤ e ∧ e ≤ 400000) :
    Runs E 40 [.ptr gid 0, v1, v2] h fun v h' => GOut h h' gid (remG G a b).2 S v (remG G a b).1 := by
  have kb := bothK_b a b
  have sw : ∀ (l : List Int) (k : Nat), (∀ e ∈ l, 0 ≤ e ∧ e ≤ 400000) → ∀ e ∈ wideL l k, 0 ≤ e ∧ e ≤ 400000 := fun l k hl e he => by
    have := mem_wide he
    unfold vecL at this
    split at this
    · simp at this; omega
    · exact hl e this
  refine Runs.ofX Tryd.func40 rfl rfl rfl rfl (fun _ => rfl) ?_
  simp [Tryd.f40]
  refine (both_run I.wf (h1.sl I) (h2.sl I)).mono fun v h3 ⟨r1, r2, hv, F⟩ => ?_
  subst hv
  obtain ⟨i1, i2, rfl, rfl, n1, n2, ne, J⟩ := I.both F
  have l1 := wideL_len a (bothK a b); have l2 := wideL_len b (bothK a b)
  have s1 := sw a (bothK a b) sa; have s2 := sw b (bothK a b) sb
  unfold remG
  generalize hS : With (With S i1 (ints (wideL a (bothK a b)))) i2 (ints (wideL b (bothK a b))) = S2 at J
  have q1 : S2 i1 (ints (wideL a (bothK a b))) := by rw [← hS]; exact .inl (.inr ⟨rfl, rfl⟩)
  have q2 : S2 i2 (ints (wideL b (bothK a b))) := by rw [← hS]; exact .inr ⟨rfl, rfl⟩
  have hw : ∀ i cs, S i cs → S2 i cs := by intro i cs q; rw [← hS]; exact .inl (.inl q)
  generalize wideL a (bothK a b) = la at *
  generalize wideL b (bothK a b) = lb at *
  generalize bothK a b = k at *
  have lA : 1 ≤ la.length ∧ la.length ≤ 16 := by omega
  have lB : 1 ≤ lb.length ∧ lb.length ≤ 16 := by omega
  have lz1 := sizeG_len (G := G) lA
  have lz2 := sizeG_len (G := (sizeG G la).2) lB
  have u1 := sizeG_up J.ok la
  have u2 := sizeG_up u1.1.ok lb
  have u3 := dvR_up J.ok l1 l2 kb
  have b1 := small_E u1.1.ok u1.2
  have b2 := small_E u2.1.ok u2.2
  have b3 := small_E u3.1.ok u3.2.2.1
  have lg1 := last_get lA.1; have lg2 := last_get lB.1
  have e1 := getI lg1; have e2 := getI lg2
  have m1 := s1 _ (List.mem_of_getElem? lg1); have m2 := s2 _ (List.mem_of_getElem? lg2)
  have w1 : IntKind.i64.wrap ((la.length : Int) - 1) = ((la.length - 1 : Nat) : Int) := by rw [wrap64] <;> omega
  have w2 : IntKind.i64.wrap ((lb.length : Int) - 1) = ((lb.length - 1 : Nat) : Int) := by rw [wrap64] <;> omega
  have j1 : la.length - 1 < la.length := by omega
  have j2 : lb.length - 1 < lb.length := by omega
  have hll : (sizeG G la).1.length = (sizeG (sizeG G la).2 lb).1.length := by omega
  have hkk : 1 ≤ (sizeG G la).1.length ∧ (sizeG G la).1.length ≤ 16 := by omega
  have lq : 1 ≤ (dvR G la lb).r.length ∧ (dvR G la lb).r.length ≤ 16 := by omega
  have lna := ints_len' la; have lnb := ints_len' lb
  have c1 : lastE la ≤ 9223372036854775807 := by omega
  have c2 : lastE lb ≤ 9223372036854775807 := by omega
  have bx := m1
  have c3 : lastE la ≤ 1000000 := by omega
  have uo := anyL_up (vecL lb) (G := (dvR G la lb).g) u3.1.ok (Gr.E_0 u3.1.ok)
  have bo := anyL_b (G := (dvR G la lb).g) u3.1.ok (vecL lb)
  have c4 : (anyL (dvR G la lb).g 0 (vecL lb)).1 ≤ 1000000 := by omega
  have us := signed_up (G := (anyL (dvR G la lb).g 0 (vecL lb)).2) uo.1.ok (lastE la) (dvR G la lb).r
  have bs := small_of (small_E us.1.ok us.2)
  have ls := signed_len (G := (anyL (dvR G la lb).g 0 (vecL lb)).2) (m := lastE la) lq
  have ls1 : 1 ≤ (signedG (anyL (dvR G la lb).g 0 (vecL lb)).2 (lastE la) (dvR G la lb).r).1.length := by rw [ls]; exact lq.1
  have ls2 : (signedG (anyL (dvR G la lb).g 0 (vecL lb)).2 (lastE la) (dvR G la lb).r).1.length ≤ 1000 := by rw [ls]; exact Nat.le_trans lq.2 (by decide)
  simp
  rw [ints_len', ints_len']
  refine (size_run J q1 lA s1).mono fun r h4 ⟨g4, i4, hr, n4, J4⟩ => ?_
  subst hr
  simp
  refine (size_run J4 (iv := i2) (.inl q2) lB s2).mono fun r h5 ⟨g5, i5, hr, n5, J5⟩ => ?_
  subst hr
  simp
  rw [← hll]
  have rd := divide_run J5 (ia := i4) (ib := i5) (.inl (.inr ⟨rfl, rfl⟩)) (.inr ⟨rfl, rfl⟩) hll hkk b1 b2
  rw [← hll] at rd
  refine rd.mono fun r h6 ⟨r1, r2, hr, g6, i6, i7, hr1, hr2, n6, n7, ne6, J6⟩ => ?_
  subst hr hr1 hr2
  have J6' : Mem h6 gid (dvR G la lb).g (With S2 i7 (ints (dvR G la lb).r)) := J6.weak fun i cs q => by
    rcases q with q | q
    · exact .inl (.inl (.inl (.inl q)))
    · exact .inr q
  have ka := J6'.sv i1 _ (.inl q1); have kb' := J6'.sv i2 _ (.inl q2)
  have na := H.lt_next J6'.wf ka; have nb := H.lt_next J6'.wf kb'
  simp
  refine xX_drawn [0, 0, 0, 6, 0, 0, 0, 64, 192, 480, 992, 0, 4094, 8191, 16383] rfl (by kernel_rfl) ?_
  simp
  refine (some_run J6' (v := .ref i2 0 lb.length 1) (.inr ⟨i2, rfl, .inl q2⟩) (small_of s2)).mono fun r h8 ⟨g8, J8, hr⟩ => ?_
  subst hr
  have ka8 := J8.sv i1 _ (.inl q1)
  have na8 := H.lt_next J8.wf ka8
  simp [ka, ka8, w1, j1, e1, lna]
  refine (signed_run J8 (iv := i7) (.inr ⟨rfl, rfl⟩) lq b3 c3).mono fun r h9 ⟨g9, i9, hr, n9, J9⟩ => ?_
  subst hr
  have ka9 := J9.sv i1 _ (.inl (.inl q1))
  simp
  refine (mask_run J9 (iv := i9) (.inr ⟨rfl, rfl⟩) ls1 ls2 bs c4).mono fun r h10 O => ?_
  simp
  exact O.weak ((((F.gr.trans g4).trans g5).trans g6).trans (g8.trans g9)) fun i cs q => .inl (.inl (hw i cs q))
end Go.Proofs.YtjlabjncojhjkaaDoor
namespace Go.Proofs.YtjlabjncojhjkaaDoor
open Go Go.Cv
def Sv (h : H) (S : Nat → List CV → Prop) : Prop := ∀ i cs, S i cs → h.get i = some (.cells cs)
theorem new_mem {h : H} (wf : WFH h) {S : Nat → List CV → Prop} (sv : Sv h S) : Runs E 22 [] h fun v h' => Grows h h' ∧ ∃ gid, v = .ptr gid 0 ∧ Mem h' gid gr0 S := by
  refine (Runs.grows E_ok E_mix (new_run h) wf).mono fun v h' ⟨g, gid, hv, hG, fr⟩ => ⟨g, gid, hv, ⟨_, hG, fun i cs q => ?_⟩, fun i cs q => ?_, g.wf, gr0_ok⟩
  · have := H.lt_next wf (sv i cs q); omega
  · rw [fr i (H.lt_next wf (sv i cs q))]; exact sv i cs q
theorem Mem.sv' {h : H} {gid : Nat} {G : Gr} {S : Nat → List CV → Prop} (I : Mem h gid G S) : Sv h S := I.sv
def evB (G : Gr) (model : List Bool) (l : List Int) : List Bool := l.map fun e => bitV (evalL model G.l).1 (G.edge e)
def awA : List Int × Gr := addG gr0 (constL 7 (heldN 4)) (constL 1 (heldN 4))
def awD : List Int × Gr := divG awA.2 (constL (-7) (heldN 4)) (constL 2 (heldN 4))
theorem awA_v : valueL (evB awA.2 [] awA.1) = -8 := by decide +kernel
theorem awD_v : valueL (evB awD.2 [] awD.1) = -3 := by decide +kernel
theorem awA_n : awA.1 ≠ [] ∧ awA.1.length ≤ 1000 := by decide +kernel
theorem awD_n : awD.1 ≠ [] ∧ awD.1.length ≤ 1000 := by decide +kernel
theorem awA_s : (awA.1.all fun e => decide (e ≤ 1000000)) = true := by decide +kernel
theorem awD_s : (awD.1.all fun e => decide (e ≤ 1000000)) = true := by decide +kernel
end Go.Proofs.YtjlabjncojhjkaaDoor
namespace Go.Proofs.YtjlabjncojhjkaaDoor
open Go Go.Cv
theorem rtrim_mod {n m : Int} (h : 0 < m) : (if n.tmod m < 0 then n.tmod m + m else n.tmod m) = n % m := by
  have h1 := Int.tmod_eq_emod (a := n) (b := m)
  have h2 := Int.emod_nonneg n (show m ≠ 0 by omega)
  have h3 := Int.emod_lt_of_pos n h
  split at h1 <;> split <;> omega
theorem tb_of {r m q : Int} (h : (if r < 0 then r + m else r) = q) (h0 : 0 ≤ q) (h1 : q < m) : -m ≤ r ∧ r < m := by split at h <;> omega
def rtrimI (n : Int) (k m : Nat) (h0 : H) (f : Nat → CV) (h : H) : Prop := h = h0 ∧ f 0 = .int .i64 n ∧ f 1 = .int .i64 (k : Nat) ∧ ∃ i : Nat, f 5 = .int .i64 (2 ^ i) ∧ f 6 = .int .i64 (i : Nat) ∧ i ≤ k ∧ m = k - i
set_option maxRecDepth 8000 in
theorem rtrim_u (n w : Int) (h : H) (K) (t) : uRuns E 27 [.int .i64 n, .int .i64 w] h K t = K (.int .i64 (trimN n (heldN w))) h := by
  have hb := heldN_b w
  refine Runs.det (Runs.ofX Tryd.func27 rfl rfl rfl rfl (fun _ => rfl) ?_)
  have key : ∀ (tm : List CV), tm.length = 34 → getT tm 0 = .int .i64 n → getT tm 1 = .int .i64 (heldN w : Nat) → getT tm 5 = .int .i64 1 → getT tm 6 = .int .i64 0 → rtrimI n (heldN w) (heldN w) h (getT tm) h := by
    intro tm _ a b c d
    exact ⟨rfl, a, b, 0, c, d, by omega, rfl⟩
  generalize hk : heldN w = k at *
  have hw : (w < 1 ∧ k = 1) ∨ (¬ w < 1 ∧ 16 < w ∧ k = 16) ∨ (¬ w < 1 ∧ ¬ 16 < w ∧ w = k) := by
    unfold heldN at hk; omega
  have pb := pow_b hb.2
  have m0 := Int.emod_nonneg n (show (2 : Int) ^ k ≠ 0 by omega)
  have m1 := Int.emod_lt_of_pos n (show (0 : Int) < 2 ^ k by omega)
  have pk : (2 : Int) ^ k = 2 * 2 ^ (k - 1) := by
    have : k = (k - 1) + 1 := by omega
    conv => lhs; rw [this, Int.pow_succ]
    omega
  have rm := rtrim_mod (n := n) (m := 2 ^ k) (by omega)
  have t1 := Int.tmod_eq_emod (a := n) (b := 2 ^ k)
  have e1 : ((2 : Int) ^ k).tdiv 2 = 2 ^ (k - 1) := by rw [Int.tdiv_eq_ediv_of_nonneg (by omega), pk]; exact Int.mul_ediv_cancel_left _ (by decide)
  have p1 : (1 : Int) ≤ 2 ^ (k - 1) := (pow_b (k := k - 1) (by omega)).1
  have e2 : IntKind.i64.wrap ((2 : Int) ^ (k - 1)) = 2 ^ (k - 1) := wrap64 (by omega) (by omega)
  have tb : -(2 : Int) ^ k ≤ n.tmod (2 ^ k) ∧ n.tmod (2 ^ k) < 2 ^ k := tb_of rm m0 m1
  have e3 : IntKind.i64.wrap (n.tmod (2 ^ k)) = n.tmod (2 ^ k) := wrap64 (by omega) (by omega)
  have e4 : IntKind.i64.wrap (n.tmod (2 ^ k) + 2 ^ k) = n.tmod (2 ^ k) + 2 ^ k := wrap64 (by omega) (by omega)
  have e5 : IntKind.i64.wrap (n % 2 ^ k - 2 ^ k) = n % 2 ^ k - 2 ^ k := wrap64 (by omega) (by omega)
  have nz : ¬ (2 : Int) ^ k = 0 := by omega
  rcases hw with ⟨w1, k1⟩ | ⟨w1, w2, k1⟩ | ⟨w1, w2, k1⟩
  · simp [Tryd.f27, w1]
    refine xX_loopI (N := 34) (fun _ => rfl) rfl (fun m f h' => rtrimI n k m h f h') k (key _ rfl rfl (by rw [k1]; rfl) rfl rfl) ?_
    rintro m f h1 ⟨rfl, f0, f1, i, f5, f6, hi, rfl⟩
    by_cases c : i < k
    · have pi := pow_b (k := i) (by omega)
      have w3 : IntKind.i64.wrap ((2 : Int) ^ i * 2) = 2 ^ (i + 1) := by rw [Int.pow_succ]; exact wrap64 (by omega) (by omega)
      have w4 : IntKind.i64.wrap ((i : Int) + 1) = i + 1 := wrap64 (by omega) (by omega)
      simp [tabF, f0, f1, f5, f6, c, w3, w4]
      exact ⟨k - (i + 1), by omega, rfl, rfl, rfl, i + 1, rfl, rfl, by omega, rfl⟩
    · have c2 : i = k := by omega
      subst c2
      by_cases c3 : n.tmod (2 ^ i) < 0
      · rw [if_pos c3] at rm
        rw [rm] at e4
        by_cases c4 : 2 ^ (i - 1) ≤ n % 2 ^ i
        · simp [tabF, f0, f1, f5, f6, nz, e1, e2, c3, rm, e4, e5, c4, trimN]
        · simp [tabF, f0, f1, f5, f6, nz, e1, e2, c3, rm, e4, c4, trimN]
      · rw [if_neg c3] at rm
        rw [rm] at e3 c3
        by_cases c4 : 2 ^ (i - 1) ≤ n % 2 ^ i
        · simp [tabF, f0, f1, f5, f6, nz, e1, e2, rm, c3, e5, c4, trimN]
        · simp [tabF, f0, f1, f5, f6, nz, e1, e2, rm, c3, c4, trimN]
  · simp [Tryd.f27, w1, w2]
    refine xX_loopI (N := 34) (fun _ => rfl) rfl (fun m f h' => rtrimI n k m h f h') k (key _ rfl rfl (by rw [k1]; rfl) rfl rfl) ?_
    rintro m f h1 ⟨rfl, f0, f1, i, f5, f6, hi, rfl⟩
    by_cases c : i < k
    · have pi := pow_b (k := i) (by omega)
      have w3 : IntKind.i64.wrap ((2 : Int) ^ i * 2) = 2 ^ (i + 1) := by rw [Int.pow_succ]; exact wrap64 (by omega) (by omega)
      have w4 : IntKind.i64.wrap ((i : Int) + 1) = i + 1 := wrap64 (by omega) (by omega)
      simp [tabF, f0, f1, f5, f6, c, w3, w4]
      exact ⟨k - (i + 1), by omega, rfl, rfl, rfl, i + 1, rfl, rfl, by omega, rfl⟩
    · have c2 : i = k := by omega
      subst c2
      by_cases c3 : n.tmod (2 ^ i) < 0
      · rw [if_pos c3] at rm
        rw [rm] at e4
        by_cases c4 : 2 ^ (i - 1) ≤ n % 2 ^ i
        · simp [tabF, f0, f1, f5, f6, nz, e1, e2, c3, rm, e4, e5, c4, trimN]
        · simp [tabF, f0, f1, f5, f6, nz, e1, e2, c3, rm, e4, c4, trimN]
      · rw [if_neg c3] at rm
        rw [rm] at e3 c3
        by_cases c4 : 2 ^ (i - 1) ≤ n % 2 ^ i
        · simp [tabF, f0, f1, f5, f6, nz, e1, e2, rm, c3, e5, c4, trimN]
        · simp [tabF, f0, f1, f5, f6, nz, e1, e2, rm, c3, c4, trimN]
  · simp [Tryd.f27, w1, w2]
    refine xX_loopI (N := 34) (fun _ => rfl) rfl (fun m f h' => rtrimI n k m h f h') k (key _ rfl rfl (by rw [← k1]; rfl) rfl rfl) ?_
    rintro m f h1 ⟨rfl, f0, f1, i, f5, f6, hi, rfl⟩
    by_cases c : i < k
    · have pi := pow_b (k := i) (by omega)
      have w3 : IntKind.i64.wrap ((2 : Int) ^ i * 2) = 2 ^ (i + 1) := by rw [Int.pow_succ]; exact wrap64 (by omega) (by omega)
      have w4 : IntKind.i64.wrap ((i : Int) + 1) = i + 1 := wrap64 (by omega) (by omega)
      simp [tabF, f0, f1, f5, f6, c, w3, w4]
      exact ⟨k - (i + 1), by omega, rfl, rfl, rfl, i + 1, rfl, rfl, by omega, rfl⟩
    · have c2 : i = k := by omega
      subst c2
      by_cases c3 : n.tmod (2 ^ i) < 0
      · rw [if_pos c3] at rm
        rw [rm] at e4
        by_cases c4 : 2 ^ (i - 1) ≤ n % 2 ^ i
        · simp [tabF, f0, f1, f5, f6, nz, e1, e2, c3, rm, e4, e5, c4, trimN]
        · simp [tabF, f0, f1, f5, f6, nz, e1, e2, c3, rm, e4, c4, trimN]
      · rw [if_neg c3] at rm
        rw [rm] at e3 c3
        by_cases c4 : 2 ^ (i - 1) ≤ n % 2 ^ i
        · simp [tabF, f0, f1, f5, f6, nz, e1, e2, rm, c3, e5, c4, trimN]
        · simp [tabF, f0, f1, f5, f6, nz, e1, e2, rm, c3, c4, trimN]
end Go.Proofs.YtjlabjncojhjkaaDoor
namespace Go.Proofs.YtjlabjncojhjkaaDoor
open Go Go.Cv
theorem evB_len (G : Gr) (m : List Bool) (l : List Int) : (evB G m l).length = l.length := by simp [evB]
/-- Value(Eval(..)): what comes behind Eval. -/
theorem value_of {h1 h2 : H} {v : CV} {l : List Bool} (F : Fresh h1 h2 v (bools l)) (hl : l.length ≤ 1000000) {K : CV → H → Prop} (w : K (.int .i64 (valueL l)) h2) : Runs E 25 [v] h2 K := by
  obtain ⟨gr, _, id, hv, _, hc⟩ := F
  rw [bools_len] at hv
  refine (value_run gr.wf (l := l) (.inr ⟨id, [], hv, by rw [List.append_nil]; exact hc⟩) hl).mono fun r h3 ⟨hh, hr⟩ => ?_
  subst hh hr
  exact w
theorem awA_s' : Small awA.1 := fun e he => by simpa using List.all_eq_true.1 awA_s e he
theorem awD_s' : Small awD.1 := fun e he => by simpa using List.all_eq_true.1 awD_s e he
theorem const_b (n : Int) (k : Nat) : ∀ e ∈ constL n k, 0 ≤ e ∧ e ≤ 400000 := fun e he => by rcases constL_bit he with h | h <;> omega
set_option maxRecDepth 8000 in
/-- law06.awake: true, and all lists that were there are as they were. -/
theorem awake_run {h : H} (wf : WFH h) {S : Nat → List CV → Prop} (sv : Sv h S) : Runs E 21 [] h fun v h' => v = .bool true ∧ Grows h h' ∧ Sv h' S := by
  refine Runs.ofX Tryd.func21 rfl rfl rfl rfl (fun _ => rfl) ?_
  simp [Tryd.f21]
  refine (new_mem wf sv).mono fun v h1 ⟨g1, gid, hv, I⟩ => ?_
  subst hv
  simp [eqBin]
  refine (const_run I.wf 7 4).mono fun v h2 F2 => ?_
  obtain ⟨i2, rfl, n2, I2⟩ := I.fresh1 F2
  simp
  refine (const_run I2.wf 1 4).mono fun v h3 F3 => ?_
  obtain ⟨i3, rfl, n3, I3⟩ := I2.fresh1 F3
  simp
  rw [ints_len', ints_len']
  refine (add_run I3 (v1 := .ref i2 0 (constL 7 (heldN 4)).length 1) (v2 := .ref i3 0 (constL 1 (heldN 4)).length 1) (.inr ⟨i2, rfl, .inl (.inr ⟨rfl, rfl⟩)⟩) (.inr ⟨i3, rfl, .inr ⟨rfl, rfl⟩⟩) (small_const _ _) (small_const _ _)).mono fun v h4 ⟨g4, i4, hv, n4, I4⟩ => ?_
  subst hv
  have hA : addG gr0 (constL 7 (heldN 4)) (constL 1 (heldN 4)) = awA := rfl
  rw [hA] at I4 ⊢
  simp
  refine (eval_run I4 (mv := .nils) (ev := .ref i4 0 awA.1.length 1) (model := []) (es := awA.1) (.inl ⟨rfl, rfl⟩) (.inr ⟨i4, rfl, .inr ⟨rfl, rfl⟩⟩) awA_n.1 awA_n.2 (by decide) awA_s').mono fun v h5 F5 => ?_
  simp
  refine value_of (l := evB awA.2 [] awA.1) F5 (by rw [evB_len]; exact Nat.le_trans awA_n.2 (by decide)) ?_
  have I5 := I4.fresh F5.gr F5.fr
  simp [awA_v]
  refine (const_run I5.wf (-7) 4).mono fun v h6 F6 => ?_
  obtain ⟨i6, rfl, n6, I6⟩ := I5.fresh1 F6
  simp
  refine (const_run I6.wf 2 4).mono fun v h7 F7 => ?_
  obtain ⟨i7, rfl, n7, I7⟩ := I6.fresh1 F7
  simp
  rw [ints_len', ints_len']
  refine (div_run I7 (v1 := .ref i6 0 (constL (-7) (heldN 4)).length 1) (v2 := .ref i7 0 (constL 2 (heldN 4)).length 1) (.inr ⟨i6, rfl, .inl (.inr ⟨rfl, rfl⟩)⟩) (.inr ⟨i7, rfl, .inr ⟨rfl, rfl⟩⟩) (const_b _ _) (const_b _ _)).mono fun v h8 ⟨g8, i8, hv, n8, I8⟩ => ?_
  subst hv
  have hD : divG awA.2 (constL (-7) (heldN 4)) (constL 2 (heldN 4)) = awD := rfl
  rw [hD] at I8 ⊢
  simp
  refine (eval_run I8 (mv := .nils) (ev := .ref i8 0 awD.1.length 1) (model := []) (es := awD.1) (.inl ⟨rfl, rfl⟩) (.inr ⟨i8, rfl, .inr ⟨rfl, rfl⟩⟩) awD_n.1 awD_n.2 (by decide) awD_s').mono fun v h9 F9 => ?_
  simp
  refine value_of (l := evB awD.2 [] awD.1) F9 (by rw [evB_len]; exact Nat.le_trans awD_n.2 (by decide)) ?_
  have I9 := I8.fresh F9.gr F9.fr
  simp [awD_v]
  refine ⟨((((g1.trans F2.gr).trans F3.gr).trans g4).trans F5.gr).trans (((F6.gr.trans F7.gr).trans g8).trans F9.gr), fun i cs q => I9.sv i cs (.inl (.inl (.inl (.inl (.inl (.inl (.inl (.inl q))))))))⟩
end Go.Proofs.YtjlabjncojhjkaaDoor
