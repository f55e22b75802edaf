/- A part of the proof of a law of the given program: contracts of functions over the clean heap. -/
import Derived.Test.YtjlabjncojhjkaaDoorBx
namespace Go.Proofs.YtjlabjncojhjkaaDoor
open Go Go.Cv
def ArgS (S : Nat → List CV → Prop) (v : CV) (l : List Int) : Prop := (v = .nils ∧ l = []) ∨ ∃ id, v = .ref id 0 l.length 1 ∧ S id (ints l)
theorem ArgS.sl {h : H} {gid : Nat} {G : Gr} {S : Nat → List CV → Prop} {v : CV} {l : List Int} (a : ArgS S v l) (I : Mem h gid G S) : SlP h v (ints l) := by
  rcases a with ⟨a, b⟩ | ⟨id, a, b⟩
  · exact .inl ⟨a, by rw [b]; rfl⟩
  · exact .inr ⟨id, [], by rw [ints_len']; exact a, by rw [List.append_nil]; exact I.sv id _ b⟩
theorem ArgS.weak {S S' : Nat → List CV → Prop} {v : CV} {l : List Int} (a : ArgS S v l) (hs : ∀ i cs, S i cs → S' i cs) : ArgS S' v l :=
  a.elim .inl fun ⟨id, x, y⟩ => .inr ⟨id, x, hs _ _ y⟩
theorem mem_wide {l : List Int} {k : Nat} {e : Int} (h : e ∈ wideL l k) : e ∈ vecL l := by
  unfold wideL at h
  have vl := vecL_len l
  rcases List.mem_append.1 h with h | h
  · exact List.mem_of_mem_take h
  · rw [List.eq_of_mem_replicate h]
    unfold lastL
    rw [List.getD_eq_getElem?_getD, List.getElem?_eq_getElem (by omega)]
    exact List.getElem_mem _
theorem small_vec {l : List Int} (h : Small l) : Small (vecL l) := by
  unfold vecL
  split
  · intro e he; simp at he; omega
  · exact h
theorem small_wide {l : List Int} (h : Small l) (k : Nat) : Small (wideL l k) := fun e he => small_vec h e (mem_wide he)
theorem Mem.both {h h' : H} {gid : Nat} {G : Gr} {S : Nat → List CV → Prop} (I : Mem h gid G S) {v1 v2 : CV} {c1 c2 : List CV} (F : Fresh2 h h' v1 v2 c1 c2) : ∃ i1 i2, v1 = .ref i1 0 c1.length 1 ∧ v2 = .ref i2 0 c2.length 1 ∧ h.next ≤ i1 ∧ h.next ≤ i2 ∧ i1 ≠ i2 ∧ Mem h' gid G (With (With S i1 c1) i2 c2) := by
  obtain ⟨gr, fr, i1, i2, e1, e2, n1, n2, ne, g1, g2⟩ := F
  refine ⟨i1, i2, e1, e2, n1, n2, ne, (I.fresh gr fr).weak fun i cs q => ?_⟩
  rcases q with (q | ⟨rfl, rfl⟩) | ⟨rfl, rfl⟩
  · exact .inl q
  · exact .inr ⟨n1, g1⟩
  · exact .inr ⟨n2, g2⟩
theorem GOut.weak {h h1 h' : H} {gid : Nat} {G : Gr} {S S' : Nat → List CV → Prop} {v : CV} {l : List Int} (I : GOut h1 h' gid G S' v l) (g : Grows h h1) (hs : ∀ i cs, S i cs → S' i cs) : GOut h h' gid G S v l := by
  obtain ⟨gr, oid, a, b, m⟩ := I
  exact ⟨g.trans gr, oid, a, Nat.le_trans g.nx b, m.weak fun i cs q => q.elim (fun q => .inl (hs _ _ q)) .inr⟩
/-! ### bits.not -/
def notI (h0 : H) (iv : Nat) (l : List Int) (m : Nat) (f : Nat → CV) (h : H) : Prop :=
  f 6 = .ref iv 0 l.length 1 ∧ f 7 = .int .i64 l.length ∧ h.get iv = some (.cells (ints l)) ∧ iv < h0.next ∧ ∃ i : Nat, f 8 = .int .i64 (i : Nat) ∧ i ≤ l.length ∧ m = l.length - i ∧ OutF h0 h (f 3) (ints ((l.map nt).take i))
set_option maxRecDepth 4000 in
theorem bnot_run {h : H} (wf : WFH h) {iv : Nat} {l : List Int} (hv : h.get iv = some (.cells (ints l))) (h1 : 1 ≤ l.length) (h2 : l.length ≤ 1000) (sl : ∀ e ∈ l, 0 ≤ e ∧ e ≤ 1000000) :
    Runs E 59 [.ref iv 0 l.length 1] h fun v h' => Fresh h h' v (ints (l.map nt)) := by
  have hvl := H.lt_next wf hv
  refine Runs.ofX Tryd.func59 rfl rfl rfl rfl (fun _ => rfl) ?_
  simp [Tryd.f59]
  refine xX_loopI (N := 19) (fun _ => rfl) rfl (notI h iv l) l.length ?_ ?_
  · exact ⟨rfl, rfl, hv, hvl, 0, rfl, by omega, rfl, OutF.nil wf⟩
  · rintro m f h2 ⟨f6, f7, hv2, _, i, f8, hi, rfl, I⟩
    have b2 := H.lt_next I.gr.wf hv2
    by_cases c : i < l.length
    · obtain ⟨e, he⟩ : ∃ e, l[i]? = some e := ⟨_, List.getElem?_eq_getElem c⟩
      have be := sl e (List.mem_of_getElem? he)
      have ee := getI he
      have ln := ints_len' l
      have q3 := not_g be.1 (by omega)
      have w1 : IntKind.i64.wrap ((i : Int) + 1) = i + 1 := wrap64 (by omega) (by omega)
      have ol : ((l.map nt).take i).length = i := by simp; omega
      simp [-u_append, tabF, f6, f7, f8, c, hv2, ee, ln, q3]
      refine app1 (x := .int .i64 (nt e)) (H.wf_new I.gr.wf _) (I.outC _) rfl (by simp) rfl rfl rfl rfl rfl rfl rfl rfl (by rw [ints_len', ol]; show _ * 8 ≤ _; omega) (by rw [ints_len', ol]; omega) fun h3 A => ?_
      have I2 := I.app A
      have hk : h3.get iv = some (.cells (ints l)) := by
        have : (h2.new (.cells [.int .i64 (nt e)])).next = h2.next + 1 := rfl
        rw [A.fr iv (by omega) (fun id off len sz hv => ?_)]
        · simp [(far b2).1, hv2]
        · rcases I.ex with ⟨q, _⟩ | ⟨id', q, q1, _⟩
          · rw [q] at hv; cases hv
          · rw [q] at hv; cases hv; omega
      simp [w1]
      exact ⟨l.length - (i + 1), by omega, rfl, rfl, hk, hvl, i + 1, rfl, by omega, rfl, by
        rw [List.take_add_one, List.getElem?_map, he, ints_app]; exact I2⟩
    · have c2 : i = l.length := by omega
      subst c2
      simp [tabF, f6, f7, f8]
      have := I.fresh (by intro e; have := congrArg List.length e; rw [ints_len', List.length_take, List.length_map, List.length_nil] at this; omega)
      rwa [List.take_of_length_le (by simp)] at this
/-! ### bits.mask -/
def maskL : Gr → Int → List Int → List Int × Gr
  | G, _, [] => ([], G)
  | G, e, x :: l => ((G.and e x).1 :: (maskL (G.and e x).2 e l).1, (maskL (G.and e x).2 e l).2)
theorem maskL_len : ∀ (l : List Int) (G : Gr) (e : Int), (maskL G e l).1.length = l.length
  | [], _, _ => rfl
  | x :: l, G, e => by simp [maskL, maskL_len l]
theorem maskL_up : ∀ (l : List Int) {G : Gr} (e : Int), G.OK → G.Up (maskL G e l).2 ∧ ∀ x ∈ (maskL G e l).1, (maskL G e l).2.E x
  | [], G, e, ok => ⟨.refl ok, by simp [maskL]⟩
  | x :: l, G, e, ok => by
    have h1 := Gr.and_up ok e x
    have h2 := maskL_up l e h1.1.ok
    simp only [maskL]
    refine ⟨h1.1.trans h2.1, fun y hy => ?_⟩
    rcases List.mem_cons.1 hy with rfl | hy
    · exact h2.1.e h1.2
    · exact h2.2 y hy
def maskI (h0 : H) (gid iv : Nat) (e : Int) (l : List Int) (S : Nat → List CV → Prop) (R : List Int × Gr) (m : Nat) (f : Nat → CV) (h : H) : Prop :=
  f 0 = .ptr gid 0 ∧ f 1 = .int .i64 e ∧ f 10 = .ref iv 0 l.length 1 ∧ f 11 = .int .i64 l.length ∧ ∃ (i : Nat) (G : Gr) (out : List Int), f 12 = .int .i64 (i : Nat) ∧ i ≤ l.length ∧ m = l.length - i ∧ out.length = i ∧ OutG h0 h gid G S (f 7) out ∧
    R = (out ++ (maskL G e (l.drop i)).1, (maskL G e (l.drop i)).2)
set_option maxRecDepth 4000 in
theorem mask_run {h : H} {gid iv : Nat} {G : Gr} {S : Nat → List CV → Prop} (I : Mem h gid G S) {l : List Int} (hv : S iv (ints l)) (h1 : 1 ≤ l.length) (h2 : l.length ≤ 1000) (sl : Small l) {e : Int} (he : e ≤ 1000000) :
    Runs E 60 [.ptr gid 0, .int .i64 e, .ref iv 0 l.length 1] h fun v h' => GOut h h' gid (maskL G e l).2 S v (maskL G e l).1 := by
  refine Runs.ofX Tryd.func60 rfl rfl rfl rfl (fun _ => rfl) ?_
  simp [Tryd.f60]
  refine xX_loopI (N := 25) (fun _ => rfl) rfl (maskI h gid iv e l S (maskL G e l)) l.length ?_ ?_
  · exact ⟨rfl, rfl, rfl, rfl, 0, G, [], rfl, by omega, rfl, rfl, OutG.nil I, by simp⟩
  · rintro m f h3 ⟨f0, f1, f10, f11, i, G, out, f12, hi, rfl, ho, O, hR⟩
    by_cases d : i < l.length
    · obtain ⟨a, hia⟩ : ∃ e, l[i]? = some e := ⟨_, List.getElem?_eq_getElem d⟩
      have ba := sl a (List.mem_of_getElem? hia)
      have ea := getI hia
      have ka := O.m.sv iv _ hv
      have na := H.lt_next O.m.wf ka
      have ln := ints_len' l
      have w1 : IntKind.i64.wrap ((i : Int) + 1) = i + 1 := wrap64 (by omega) (by omega)
      simp [tabF, f0, f1, f10, f11, f12, d, ka, ea, ln]
      refine (O.call (m_and (by omega) (by omega))).mono fun v h4 ⟨O4, hv⟩ => ?_
      subst hv
      simp [-u_append]
      refine app1 (x := .int .i64 (G.and e a).1) (H.wf_new O4.m.wf _) (O4.outC _) rfl (by simp) rfl rfl rfl rfl rfl rfl rfl rfl (by rw [ints_len']; show _ * 8 ≤ _; omega) (by rw [ints_len']; omega) fun h6 A => ?_
      have O6 := O4.app A
      simp [ints_len', w1]
      refine ⟨l.length - (i + 1), by omega, rfl, rfl, rfl, rfl, i + 1, (G.and e a).2, out ++ [(G.and e a).1], rfl, by omega, rfl, by simp; omega, O6, ?_⟩
      rw [hR, List.drop_eq_getElem_cons d]
      have e1 : l[i] = a := by simpa [d] using hia
      rw [e1]
      simp [maskL]
    · have c2 : i = l.length := by omega
      subst c2
      simp [tabF, f0, f1, f10, f11, f12]
      rw [List.drop_length] at hR
      have hR1 : (maskL _ e l).1 = out := (congrArg Prod.fst hR).trans (by simp [maskL])
      have hR2 : (maskL _ e l).2 = G := (congrArg Prod.snd hR).trans (by simp [maskL])
      rw [hR1, hR2]
      exact O.fin (by intro e; rw [e] at ho; simp at ho; omega)
/-! ### bits.Inputs -/
def inpL : Gr → Nat → List Int × Gr
  | G, 0 => ([], G)
  | G, n + 1 => (G.input.1 :: (inpL G.input.2 n).1, (inpL G.input.2 n).2)
theorem inpL_len : ∀ (n : Nat) (G : Gr), (inpL G n).1.length = n
  | 0, _ => rfl
  | n + 1, G => by simp [inpL, inpL_len n]
theorem inpL_up : ∀ (n : Nat) {G : Gr}, G.OK → G.Up (inpL G n).2 ∧ ∀ x ∈ (inpL G n).1, (inpL G n).2.E x
  | 0, G, ok => ⟨.refl ok, by simp [inpL]⟩
  | n + 1, G, ok => by
    have h1 := Gr.input_up ok
    have h2 := inpL_up n h1.1.ok
    simp only [inpL]
    refine ⟨h1.1.trans h2.1, fun y hy => ?_⟩
    rcases List.mem_cons.1 hy with rfl | hy
    · exact h2.1.e h1.2
    · exact h2.2 y hy
def inpI (h0 : H) (gid k : Nat) (S : Nat → List CV → Prop) (R : List Int × Gr) (m : Nat) (f : Nat → CV) (h : H) : Prop :=
  f 0 = .ptr gid 0 ∧ f 7 = .int .i64 (k : Nat) ∧ ∃ (i : Nat) (G : Gr) (out : List Int), f 8 = .int .i64 (i : Nat) ∧ i ≤ k ∧ m = k - i ∧ out.length = i ∧ OutG h0 h gid G S (f 5) out ∧ R = (out ++ (inpL G (k - i)).1, (inpL G (k - i)).2)
set_option maxRecDepth 4000 in
theorem inputs_run {h : H} {gid : Nat} {G : Gr} {S : Nat → List CV → Prop} (I : Mem h gid G S) (w : Int) :
    Runs E 34 [.ptr gid 0, .int .i64 w] h fun v h' => GOut h h' gid (inpL G (heldN w)).2 S v (inpL G (heldN w)).1 := by
  have hb := heldN_b w
  refine Runs.ofX Tryd.func34 rfl rfl rfl rfl (fun _ => rfl) ?_
  simp [Tryd.f34, held_u]
  generalize heldN w = k at hb
  refine xX_loopI (N := 17) (fun _ => rfl) rfl (inpI h gid k S (inpL G k)) k ?_ ?_
  · exact ⟨rfl, rfl, 0, G, [], rfl, by omega, rfl, rfl, OutG.nil I, by simp⟩
  · rintro m f h3 ⟨f0, f7, i, G, out, f8, hi, rfl, ho, O, hR⟩
    by_cases d : i < k
    · have w1 : IntKind.i64.wrap ((i : Int) + 1) = i + 1 := wrap64 (by omega) (by omega)
      simp [tabF, f0, f7, f8, d]
      refine (O.call m_input).mono fun v h4 ⟨O4, hv⟩ => ?_
      subst hv
      simp [-u_append]
      refine app1 (x := .int .i64 G.input.1) (H.wf_new O4.m.wf _) (O4.outC _) rfl (by simp) rfl rfl rfl rfl rfl rfl rfl rfl (by rw [ints_len']; show _ * 8 ≤ _; omega) (by rw [ints_len']; omega) fun h6 A => ?_
      have O6 := O4.app A
      simp [ints_len', w1]
      refine ⟨k - (i + 1), by omega, rfl, rfl, i + 1, G.input.2, out ++ [G.input.1], rfl, by omega, rfl, by simp; omega, O6, ?_⟩
      obtain ⟨j, hj⟩ : ∃ j, k - i = j + 1 := ⟨k - i - 1, by omega⟩
      rw [hR, hj, show k - (i + 1) = j by omega]
      simp [inpL]
    · have c2 : i = k := by omega
      subst c2
      simp [tabF, f0, f7, f8]
      rw [Nat.sub_self] at hR
      have hR1 : (inpL _ i).1 = out := (congrArg Prod.fst hR).trans (by simp [inpL])
      have hR2 : (inpL _ i).2 = G := (congrArg Prod.snd hR).trans (by simp [inpL])
      rw [hR1, hR2]
      exact O.fin (by intro e; rw [e] at ho; simp at ho; omega)
/-! ### bits.Add, Sub -/
def addG (G : Gr) (a b : List Int) : List Int × Gr := sumL G (wideL a (bothK a b)) (wideL b (bothK a b)) 0
def subG (G : Gr) (a b : List Int) : List Int × Gr := sumL G (wideL a (bothK a b)) ((wideL b (bothK a b)).map nt) 1
theorem add_run {h : H} {gid : Nat} {G : Gr} {S : Nat → List CV → Prop} (I : Mem h gid G S) {v1 v2 : CV} {a b : List Int} (h1 : ArgS S v1 a) (h2 : ArgS S v2 b) (sa : Small a) (sb : Small b) :
    Runs E 30 [.ptr gid 0, v1, v2] h fun v h' => GOut h h' gid (addG G a b).2 S v (addG G a b).1 := by
  have kb := bothK_b a b
  refine Runs.ofX Tryd.func30 rfl rfl rfl rfl (fun _ => rfl) ?_
  simp [Tryd.f30]
  refine (both_run I.wf (h1.sl I) (h2.sl I)).mono fun v h3 ⟨r1, r2, hv, F⟩ => ?_
  subst hv
  obtain ⟨i1, i2, rfl, rfl, n1, n2, ne, J⟩ := I.both F
  have l1 := wideL_len a (bothK a b); have l2 := wideL_len b (bothK a b)
  simp
  rw [ints_len', ints_len']
  refine (sum_run J (ia := i1) (ib := i2) (.inl (.inr ⟨rfl, rfl⟩)) (.inr ⟨rfl, rfl⟩) (by rw [l1, l2]) (by omega) (by omega) (small_wide sa _) (small_wide sb _) (c := 0) (by omega)).mono fun v h4 O => ?_
  simp
  exact O.weak F.gr fun i cs q => .inl (.inl q)
theorem nt_b {e : Int} (h : 0 ≤ e ∧ e ≤ 400000) : 0 ≤ nt e ∧ nt e ≤ 1000000 := by unfold nt; split <;> omega
theorem sub_run {h : H} {gid : Nat} {G : Gr} {S : Nat → List CV → Prop} (I : Mem h gid G S) {v1 v2 : CV} {a b : List Int} (h1 : ArgS S v1 a) (h2 : ArgS S v2 b) (sa : Small a) (sb : ∀ e ∈ b, 0 ≤ e ∧ e ≤ 400000) :
    Runs E 37 [.ptr gid 0, v1, v2] h fun v h' => GOut h h' gid (subG G a b).2 S v (subG G a b).1 := by
  have kb := bothK_b a b
  have sv : ∀ e ∈ wideL b (bothK a b), 0 ≤ e ∧ e ≤ 400000 := fun e he => by
    have := mem_wide he
    unfold vecL at this
    split at this
    · simp at this; omega
    · exact sb e this
  refine Runs.ofX Tryd.func37 rfl rfl rfl rfl (fun _ => rfl) ?_
  simp [Tryd.f37]
  refine (both_run I.wf (h1.sl I) (h2.sl I)).mono fun v h3 ⟨r1, r2, hv, F⟩ => ?_
  subst hv
  obtain ⟨i1, i2, rfl, rfl, n1, n2, ne, J⟩ := I.both F
  have l1 := wideL_len a (bothK a b); have l2 := wideL_len b (bothK a b)
  simp
  rw [ints_len', ints_len']
  refine (bnot_run J.wf (J.sv i2 _ (.inr ⟨rfl, rfl⟩)) (by omega) (by omega) (fun e he => by have := sv e he; omega)).mono fun v h4 F4 => ?_
  obtain ⟨i3, rfl, n3, J4⟩ := J.fresh1 F4
  simp
  rw [ints_len']
  refine (sum_run J4 (ia := i1) (ib := i3) (.inl (.inl (.inr ⟨rfl, rfl⟩))) (.inr ⟨rfl, rfl⟩) (by rw [l1, List.length_map, l2]) (by omega) (by omega) (small_wide sa _) (fun e he => by
    obtain ⟨x, hx, rfl⟩ := List.mem_map.1 he
    exact (nt_b (sv x hx)).2) (c := 1) (by omega)).mono fun v h5 O => ?_
  simp
  exact O.weak (F.gr.trans F4.gr) fun i cs q => .inl (.inl (.inl q))
end Go.Proofs.YtjlabjncojhjkaaDoor
namespace Go.Proofs.YtjlabjncojhjkaaDoor
open Go Go.Cv
/-! ### bits.Mux -/
def muxL : Gr → Int → List Int → List Int → List Int × Gr
  | G, c, a :: l, b :: m => ((G.mux c a b).1 :: (muxL (G.mux c a b).2 c l m).1, (muxL (G.mux c a b).2 c l m).2)
  | G, _, _, _ => ([], G)
theorem muxL_len : ∀ (l m : List Int) (G : Gr) (c : Int), l.length = m.length → (muxL G c l m).1.length = l.length
  | [], _, G, c, _ => by simp [muxL]
  | _ :: _, [], G, c, h => by simp at h
  | a :: l, b :: m, G, c, h => by simp [muxL, muxL_len l m _ _ (by simpa using h)]
theorem muxL_up : ∀ (l m : List Int) {G : Gr} (c : Int), G.OK → G.Up (muxL G c l m).2 ∧ ∀ e ∈ (muxL G c l m).1, (muxL G c l m).2.E e
  | [], _, G, c, ok => by simp only [muxL]; exact ⟨.refl ok, by simp⟩
  | _ :: _, [], G, c, ok => by simp only [muxL]; exact ⟨.refl ok, by simp⟩
  | a :: l, b :: m, G, c, ok => by
    have h1 := Gr.mux_up ok c a b
    have h2 := muxL_up l m c h1.1.ok
    simp only [muxL]
    refine ⟨h1.1.trans h2.1, fun e he => ?_⟩
    rcases List.mem_cons.1 he with rfl | he
    · exact h2.1.e h1.2
    · exact h2.2 e he
def muxG (G : Gr) (c : Int) (a b : List Int) : List Int × Gr := muxL G c (wideL a (bothK a b)) (wideL b (bothK a b))
def muxI (h0 : H) (gid ia ib : Nat) (c : Int) (la lb : List Int) (S : Nat → List CV → Prop) (R : List Int × Gr) (m : Nat) (f : Nat → CV) (h : H) : Prop :=
  f 0 = .ptr gid 0 ∧ f 1 = .int .i64 c ∧ f 2 = .ref ia 0 la.length 1 ∧ f 3 = .ref ib 0 lb.length 1 ∧ f 18 = .int .i64 la.length ∧ ∃ (i : Nat) (G : Gr) (out : List Int), f 19 = .int .i64 (i : Nat) ∧ i ≤ la.length ∧ m = la.length - i ∧ out.length = i ∧ OutG h0 h gid G S (f 9) out ∧
    R = (out ++ (muxL G c (la.drop i) (lb.drop i)).1, (muxL G c (la.drop i) (lb.drop i)).2)
set_option maxRecDepth 8000 in
theorem vmux_run {h : H} {gid : Nat} {G : Gr} {S : Nat → List CV → Prop} (I : Mem h gid G S) {v1 v2 : CV} {a b : List Int} (h1 : ArgS S v1 a) (h2 : ArgS S v2 b) (sa : Small a) (sb : Small b) {c : Int} (hc : c ≤ 1000000) :
    Runs E 29 [.ptr gid 0, .int .i64 c, v1, v2] h fun v h' => GOut h h' gid (muxG G c a b).2 S v (muxG G c a b).1 := by
  have kb := bothK_b a b
  refine Runs.ofX Tryd.func29 rfl rfl rfl rfl (fun _ => rfl) ?_
  simp [Tryd.f29]
  refine (both_run I.wf (h1.sl I) (h2.sl I)).mono fun v h3 ⟨r1, r2, hv, F⟩ => ?_
  subst hv
  obtain ⟨i1, i2, rfl, rfl, n1, n2, ne, J⟩ := I.both F
  have l1 := wideL_len a (bothK a b); have l2 := wideL_len b (bothK a b)
  have s1 := small_wide sa (bothK a b); have s2 := small_wide sb (bothK a b)
  unfold muxG
  generalize hS : With (With S i1 (ints (wideL a (bothK a b)))) i2 (ints (wideL b (bothK a b))) = S2 at J
  have q1 : S2 i1 (ints (wideL a (bothK a b))) := by rw [← hS]; exact .inl (.inr ⟨rfl, rfl⟩)
  have q2 : S2 i2 (ints (wideL b (bothK a b))) := by rw [← hS]; exact .inr ⟨rfl, rfl⟩
  have hw : ∀ i cs, S i cs → S2 i cs := by intro i cs q; rw [← hS]; exact .inl (.inl q)
  generalize wideL a (bothK a b) = la at *
  generalize wideL b (bothK a b) = lb at *
  generalize bothK a b = k at *
  simp
  rw [ints_len', ints_len']
  refine xX_loopI (N := 38) (fun _ => rfl) rfl (muxI h3 gid i1 i2 c la lb S2 (muxL G c la lb)) la.length ?_ ?_
  · exact ⟨rfl, rfl, rfl, rfl, rfl, 0, G, [], rfl, by omega, rfl, rfl, OutG.nil J, by simp⟩
  · rintro m f h4 ⟨f0, f1, f2, f3, f18, i, G, out, f19, hi, rfl, ho, O, hR⟩
    by_cases d : i < la.length
    · obtain ⟨x, hia⟩ : ∃ e, la[i]? = some e := ⟨_, List.getElem?_eq_getElem d⟩
      obtain ⟨y, hib⟩ : ∃ e, lb[i]? = some e := ⟨_, List.getElem?_eq_getElem (by omega)⟩
      have d2 : i < lb.length := by omega
      have ba := s1 x (List.mem_of_getElem? hia)
      have bb := s2 y (List.mem_of_getElem? hib)
      have ea := getI hia; have eb := getI hib
      have ka := O.m.sv i1 _ q1; have kb := O.m.sv i2 _ q2
      have na := H.lt_next O.m.wf ka; have nb := H.lt_next O.m.wf kb
      have lna := ints_len' la; have lnb := ints_len' lb
      have w1 : IntKind.i64.wrap ((i : Int) + 1) = i + 1 := wrap64 (by omega) (by omega)
      simp [tabF, f0, f1, f2, f3, f18, f19, d]
      refine xX_drawn [0, 0, 0, 0, 0, 24, 56, 0, 0, 384, 896, 2046, 4094, 8191, 16383] rfl (by kernel_rfl) ?_
      simp [d, d2, ka, kb, ea, eb, lna, lnb]
      refine (O.call (m_mux (by omega) (by omega) (by omega))).mono fun v h5 ⟨O5, hv⟩ => ?_
      subst hv
      simp [-d_append]
      refine appD1 (x := .int .i64 (G.mux c x y).1) (H.wf_new O5.m.wf _) (O5.outC _) rfl (by simp) rfl rfl rfl rfl rfl rfl rfl rfl (by rw [ints_len']; show _ * 8 ≤ _; omega) (by rw [ints_len']; omega) fun h6 t A => ?_
      have O6 := O5.app A
      simp [ints_len', w1]
      refine ⟨la.length - (i + 1), by omega, rfl, rfl, rfl, rfl, rfl, i + 1, (G.mux c x y).2, out ++ [(G.mux c x y).1], rfl, by omega, rfl, by simp; omega, O6, ?_⟩
      rw [hR, List.drop_eq_getElem_cons d, List.drop_eq_getElem_cons d2]
      have e1 : la[i] = x := by simpa [d] using hia
      have e2 : lb[i] = y := by simpa [d2] using hib
      rw [e1, e2]
      simp [muxL]
    · have c2 : i = la.length := by omega
      subst c2
      simp [tabF, f0, f1, f2, f3, f18, f19]
      rw [List.drop_length] at hR
      have hR1 : (muxL _ c la lb).1 = out := (congrArg Prod.fst hR).trans (by simp [muxL])
      have hR2 : (muxL _ c la lb).2 = G := (congrArg Prod.snd hR).trans (by simp [muxL])
      rw [hR1, hR2]
      exact (O.fin (by intro e; rw [e] at ho; simp at ho; omega)).weak F.gr hw
end Go.Proofs.YtjlabjncojhjkaaDoor
namespace Go.Proofs.YtjlabjncojhjkaaDoor
open Go Go.Cv
theorem constL_bit {n : Int} {k : Nat} {e : Int} (h : e ∈ constL n k) : e = 0 ∨ e = 1 := by
  unfold constL at h
  obtain ⟨b, _, rfl⟩ := List.mem_map.1 h
  cases b <;> simp
theorem small_const (n : Int) (k : Nat) : Small (constL n k) := fun e he => by rcases constL_bit he with h | h <;> omega
theorem small_E {G : Gr} (ok : G.OK) {l : List Int} (h : ∀ e ∈ l, G.E e) : ∀ e ∈ l, 0 ≤ e ∧ e ≤ 400000 := fun e he => by
  have := (h e he).b ok
  have := (h e he).1
  omega
theorem small_of {l : List Int} (h : ∀ e ∈ l, 0 ≤ e ∧ e ≤ 400000) : Small l := fun e he => by have := h e he; omega
theorem small_nt {l : List Int} (h : ∀ e ∈ l, 0 ≤ e ∧ e ≤ 400000) : Small (l.map nt) := fun e he => by
  obtain ⟨x, hx, rfl⟩ := List.mem_map.1 he
  exact (nt_b (h x hx)).2
/-! ### bits.signed, size -/
def negG (G : Gr) (v : List Int) : List Int × Gr := sumL G (v.map nt) (constL 0 (heldN v.length)) 1
def signedG (G : Gr) (m : Int) (v : List Int) : List Int × Gr := muxG (negG G v).2 m (negG G v).1 v
theorem negG_up {G : Gr} (ok : G.OK) (v : List Int) : G.Up (negG G v).2 ∧ ∀ e ∈ (negG G v).1, (negG G v).2.E e := sumL_up _ _ _ ok
theorem negG_len {G : Gr} {v : List Int} (h : 1 ≤ v.length ∧ v.length ≤ 16) : (negG G v).1.length = v.length := by
  unfold negG
  rw [sumL_len _ _ _ _ (by rw [List.length_map, constL_len, heldN_id h]), List.length_map]
theorem signed_up {G : Gr} (ok : G.OK) (m : Int) (v : List Int) : G.Up (signedG G m v).2 ∧ ∀ e ∈ (signedG G m v).1, (signedG G m v).2.E e := by
  have h1 := negG_up ok v
  have h2 := muxL_up (wideL (negG G v).1 (bothK (negG G v).1 v)) (wideL v (bothK (negG G v).1 v)) m h1.1.ok
  exact ⟨h1.1.trans h2.1, h2.2⟩
theorem vec_id {l : List Int} (h : 1 ≤ l.length ∧ l.length ≤ 16) : vecL l = l := by unfold vecL; rw [if_neg (by omega)]
theorem bothK_id {a b : List Int} {k : Nat} (ha : a.length = k) (hb : b.length = k) (h : 1 ≤ k ∧ k ≤ 16) : bothK a b = k := by
  unfold bothK; rw [vec_id (by omega), vec_id (by omega), ha, hb]; omega
theorem wideL_id {l : List Int} {k : Nat} (hl : l.length = k) (h : 1 ≤ k ∧ k ≤ 16) : wideL l k = l := by
  unfold wideL; rw [vec_id (by omega), hl, Nat.sub_self, List.replicate_zero, List.append_nil, List.take_of_length_le (by omega)]
theorem muxG_len {G : Gr} {c : Int} {a b : List Int} {k : Nat} (ha : a.length = k) (hb : b.length = k) (h : 1 ≤ k ∧ k ≤ 16) : (muxG G c a b).1.length = k := by
  unfold muxG
  rw [bothK_id ha hb h, wideL_id ha h, wideL_id hb h, muxL_len _ _ _ _ (by omega), ha]
theorem signed_len {G : Gr} {m : Int} {v : List Int} (h : 1 ≤ v.length ∧ v.length ≤ 16) : (signedG G m v).1.length = v.length := muxG_len (negG_len h) rfl h
set_option maxRecDepth 8000 in
theorem signed_run {h : H} {gid iv : Nat} {G : Gr} {S : Nat → List CV → Prop} (I : Mem h gid G S) {v : List Int} (hv : S iv (ints v)) (hl : 1 ≤ v.length ∧ v.length ≤ 16) (sv : ∀ e ∈ v, 0 ≤ e ∧ e ≤ 400000) {m : Int} (hm : m ≤ 1000000) :
    Runs E 63 [.ptr gid 0, .int .i64 m, .ref iv 0 v.length 1] h fun r h' => GOut h h' gid (signedG G m v).2 S r (signedG G m v).1 := by
  refine Runs.ofX Tryd.func63 rfl rfl rfl rfl (fun _ => rfl) ?_
  simp [Tryd.f63]
  refine (bnot_run I.wf (I.sv iv _ hv) hl.1 (by omega) (fun e he => by have := sv e he; omega)).mono fun r h1 F1 => ?_
  obtain ⟨i1, rfl, n1, J1⟩ := I.fresh1 F1
  simp
  refine (const_run J1.wf 0 v.length).mono fun r h2 F2 => ?_
  obtain ⟨i2, rfl, n2, J2⟩ := J1.fresh1 F2
  simp
  rw [ints_len', ints_len']
  refine (sum_run J2 (ia := i1) (ib := i2) (.inl (.inr ⟨rfl, rfl⟩)) (.inr ⟨rfl, rfl⟩) (by rw [List.length_map, constL_len, heldN_id hl]) (by rw [List.length_map]; omega) (by rw [List.length_map]; omega) (small_nt sv) (small_const _ _) (c := 1) (by omega)).mono fun r h3 ⟨g3, i3, hr, n3, J3⟩ => ?_
  subst hr
  simp
  have up := negG_up I.ok v
  have r4 := vmux_run J3 (v1 := .ref i3 0 (negG G v).1.length 1) (v2 := .ref iv 0 v.length 1) (a := (negG G v).1) (b := v) (.inr ⟨i3, rfl, .inr ⟨rfl, rfl⟩⟩) (.inr ⟨iv, rfl, .inl (.inl (.inl hv))⟩) (small_of (small_E up.1.ok up.2)) (small_of sv) hm
  refine r4.mono fun r h4 O => ?_
  simp
  exact O.weak ((F1.gr.trans F2.gr).trans g3) fun i cs q => .inl (.inl (.inl q))
def lastE (v : List Int) : Int := v.getD (v.length - 1) 0
theorem last_get {v : List Int} (h : 1 ≤ v.length) : v[v.length - 1]? = some (lastE v) := by
  unfold lastE
  rw [List.getD_eq_getElem?_getD, List.getElem?_eq_getElem (by omega)]; rfl
def sizeG (G : Gr) (v : List Int) : List Int × Gr := signedG G (lastE v) v
set_option maxRecDepth 8000 in
theorem size_run {h : H} {gid iv : Nat} {G : Gr} {S : Nat → List CV → Prop} (I : Mem h gid G S) {v : List Int} (hv : S iv (ints v)) (hl : 1 ≤ v.length ∧ v.length ≤ 16) (sv : ∀ e ∈ v, 0 ≤ e ∧ e ≤ 400000) :
    Runs E 62 [.ptr gid 0, .ref iv 0 v.length 1] h fun r h' => GOut h h' gid (sizeG G v).2 S r (sizeG G v).1 := by
  refine Runs.ofX Tryd.func62 rfl rfl rfl rfl (fun _ => rfl) ?_
  simp [Tryd.f62]
  have lg := last_get hl.1
  have el := getI lg
  have lm := sv _ (List.mem_of_getElem? lg)
  have kv := I.sv iv _ hv
  have nv := I.lt hv
  have ln := ints_len' v
  have w1 : IntKind.i64.wrap ((v.length : Int) - 1) = ((v.length - 1 : Nat) : Int) := by rw [wrap64] <;> omega
  have i1 : v.length - 1 < v.length := by omega
  refine xX_drawn [0, 0, 0, 4, 12, 30, 62, 0, 0, 256, 0, 1024, 3840, 8064, 0, 32767, 65535] rfl (by kernel_rfl) ?_
  simp [kv, el, ln, w1, i1]
  refine (bnot_run I.wf (I.sv iv _ hv) hl.1 (by omega) (fun e he => by have := sv e he; omega)).mono fun r h1 F1 => ?_
  obtain ⟨i1, rfl, n1, J1⟩ := I.fresh1 F1
  have kv1 := J1.sv iv _ (.inl hv)
  simp [kv, kv1]
  refine (const_run J1.wf 0 v.length).mono fun r h2 F2 => ?_
  obtain ⟨i2, rfl, n2, J2⟩ := J1.fresh1 F2
  have kv2 := J2.sv iv _ (.inl (.inl hv))
  simp [kv1, kv2]
  rw [ints_len', ints_len']
  refine (sum_run J2 (ia := i1) (ib := i2) (.inl (.inr ⟨rfl, rfl⟩)) (.inr ⟨rfl, rfl⟩) (by rw [List.length_map, constL_len, heldN_id hl]) (by rw [List.length_map]; omega) (by rw [List.length_map]; omega) (small_nt sv) (small_const _ _) (c := 1) (by omega)).mono fun r h3 ⟨g3, i3, hr, n3, J3⟩ => ?_
  subst hr
  have kv3 := J3.sv iv _ (.inl (.inl (.inl hv)))
  have up := negG_up I.ok v
  have r4 := vmux_run J3 (v1 := .ref i3 0 (negG G v).1.length 1) (v2 := .ref iv 0 v.length 1) (a := (negG G v).1) (b := v) (.inr ⟨i3, rfl, .inr ⟨rfl, rfl⟩⟩) (.inr ⟨iv, rfl, .inl (.inl (.inl hv))⟩) (small_of (small_E up.1.ok up.2)) (small_of sv) (c := lastE v) (by omega)
  simp [kv2, kv3]
  refine r4.mono fun r h4 O => ?_
  simp
  exact O.weak ((F1.gr.trans F2.gr).trans g3) fun i cs q => .inl (.inl (.inl q))
end Go.Proofs.YtjlabjncojhjkaaDoor
namespace Go.Proofs.YtjlabjncojhjkaaDoor
open Go Go.Cv
/-! ### bits.Mul -/
def movedL (a : List Int) (i : Nat) : List Int := (constL 0 (heldN (i + 1 : Nat))).take i ++ a.take (a.length - i)
def mulStep (G : Gr) (out a : List Int) (x : Int) (i : Nat) : List Int × Gr := sumL (maskL G x (movedL a i)).2 out (maskL G x (movedL a i)).1 0
def mulFrom : Gr → List Int → List Int → List Int → Nat → List Int × Gr
  | G, out, _, [], _ => (out, G)
  | G, out, a, x :: bs, i => mulFrom (mulStep G out a x i).2 (mulStep G out a x i).1 a bs (i + 1)
def mulG (G : Gr) (a b : List Int) : List Int × Gr := mulFrom G (constL 0 (heldN (wideL a (bothK a b)).length)) (wideL a (bothK a b)) (wideL b (bothK a b)) 0
theorem movedL_len {a : List Int} {i : Nat} (h : i < a.length) (h16 : a.length ≤ 16) : (movedL a i).length = a.length := by
  unfold movedL
  rw [List.length_append, List.length_take, List.length_take, constL_len, heldN_id (by omega)]
  omega
theorem small_moved {a : List Int} (h : Small a) (i : Nat) : Small (movedL a i) := fun e he => by
  unfold movedL at he
  rcases List.mem_append.1 he with q | q
  · exact small_const _ _ e (List.mem_of_mem_take q)
  · exact h e (List.mem_of_mem_take q)
theorem mulStep_up {G : Gr} (ok : G.OK) (out a : List Int) (x : Int) (i : Nat) : G.Up (mulStep G out a x i).2 ∧ ∀ e ∈ (mulStep G out a x i).1, (mulStep G out a x i).2.E e := by
  have h1 := maskL_up (movedL a i) x ok
  have h2 := sumL_up out (maskL G x (movedL a i)).1 0 h1.1.ok
  exact ⟨h1.1.trans h2.1, h2.2⟩
theorem mulStep_len {G : Gr} {out a : List Int} {x : Int} {i : Nat} (hi : i < a.length) (h16 : a.length ≤ 16) (ho : out.length = a.length) : (mulStep G out a x i).1.length = a.length := by
  unfold mulStep
  rw [sumL_len _ _ _ _ (by rw [maskL_len, movedL_len hi h16, ho]), ho]
def mulI (h0 : H) (gid ia ib : Nat) (la lb : List Int) (S : Nat → List CV → Prop) (R : List Int × Gr) (m : Nat) (f : Nat → CV) (h : H) : Prop :=
  f 0 = .ptr gid 0 ∧ f 1 = .ref ia 0 la.length 1 ∧ f 2 = .ref ib 0 lb.length 1 ∧ f 20 = .int .i64 lb.length ∧ ∃ (i oid : Nat) (G : Gr) (out : List Int), f 21 = .int .i64 (i : Nat) ∧ i ≤ lb.length ∧ m = lb.length - i ∧ f 7 = .ref oid 0 out.length 1 ∧ out.length = la.length ∧ Grows h0 h ∧ h0.next ≤ oid ∧ Small out ∧ Mem h gid G (With S oid (ints out)) ∧
    R = mulFrom G out la (lb.drop i) i
set_option maxRecDepth 8000 in
set_option maxHeartbeats 1000000 in
theorem mul_run {h : H} {gid : Nat} {G : Gr} {S : Nat → List CV → Prop} (I : Mem h gid G S) {v1 v2 : CV} {a b : List Int} (h1 : ArgS S v1 a) (h2 : ArgS S v2 b) (sa : Small a) (sb : Small b) :
    Runs E 38 [.ptr gid 0, v1, v2] h fun v h' => GOut h h' gid (mulG G a b).2 S v (mulG G a b).1 := by
  have kb := bothK_b a b
  refine Runs.ofX Tryd.func38 rfl rfl rfl rfl (fun _ => rfl) ?_
  simp [Tryd.f38]
  refine (both_run I.wf (h1.sl I) (h2.sl I)).mono fun v h3 ⟨r1, r2, hv, F⟩ => ?_
  subst hv
  obtain ⟨i1, i2, rfl, rfl, n1, n2, ne, J⟩ := I.both F
  have l1 := wideL_len a (bothK a b); have l2 := wideL_len b (bothK a b)
  have s1 := small_wide sa (bothK a b); have s2 := small_wide sb (bothK a b)
  unfold mulG
  generalize hS : With (With S i1 (ints (wideL a (bothK a b)))) i2 (ints (wideL b (bothK a b))) = S2 at J
  have q1 : S2 i1 (ints (wideL a (bothK a b))) := by rw [← hS]; exact .inl (.inr ⟨rfl, rfl⟩)
  have q2 : S2 i2 (ints (wideL b (bothK a b))) := by rw [← hS]; exact .inr ⟨rfl, rfl⟩
  have hw : ∀ i cs, S i cs → S2 i cs := by intro i cs q; rw [← hS]; exact .inl (.inl q)
  generalize wideL a (bothK a b) = la at *
  generalize wideL b (bothK a b) = lb at *
  generalize bothK a b = k at *
  simp
  rw [ints_len', ints_len']
  refine (const_run J.wf 0 la.length).mono fun r h4 F4 => ?_
  obtain ⟨i4, rfl, n4, J4⟩ := J.fresh1 F4
  simp
  rw [ints_len']
  refine xX_loopI (N := 48) (fun _ => rfl) rfl (mulI h3 gid i1 i2 la lb S2 (mulFrom G (constL 0 (heldN la.length)) la lb 0)) lb.length ?_ ?_
  · exact ⟨rfl, rfl, rfl, rfl, 0, i4, G, constL 0 (heldN la.length), rfl, by omega, rfl, rfl, by rw [constL_len, heldN_id (by omega)], F4.gr, n4, small_const _ _, J4, by simp⟩
  · rintro m f h5 ⟨f0, f1, f2, f20, i, oid, G, out, f21, hi, rfl, f7, ho, gr, n5, so, O, hR⟩
    have bnd : ∀ S', S2 = S' → True := fun _ _ => trivial
    by_cases d : i < lb.length
    · obtain ⟨y, hib⟩ : ∃ e, lb[i]? = some e := ⟨_, List.getElem?_eq_getElem d⟩
      have d1 : i < la.length := by omega
      have bb := s2 y (List.mem_of_getElem? hib)
      have eb := getI hib
      have lna := ints_len' la; have lnb := ints_len' lb
      have w1 : IntKind.i64.wrap ((i : Int) + 1) = ((i + 1 : Nat) : Int) := by rw [wrap64] <;> omega
      have w2 : IntKind.i64.wrap ((la.length : Int) - i) = ((la.length - i : Nat) : Int) := by rw [wrap64] <;> omega
      simp [tabF, f0, f1, f2, f7, f20, f21, d]
      refine xX_drawn [0, 1, 3, 0, 15, 0, 0, 64, 0, 448, 992, 2047, 4095] rfl (by kernel_rfl) ?_
      simp
      rw [w1]
      refine (const_run O.wf 0 ((i + 1 : Nat) : Int)).mono fun r h6 F6 => ?_
      have hcl : (ints (constL 0 (heldN ((i + 1 : Nat) : Int)))).length = i + 1 := by rw [ints_len', constL_len, heldN_id (by omega)]
      obtain ⟨ic, rfl, n6, O6⟩ := O.fresh1 F6
      rw [hcl]
      have ka6 := O6.sv i1 _ (.inl (.inl q1))
      have kc6 := O6.sv ic _ (.inr ⟨rfl, rfl⟩)
      have na6 := H.lt_next O6.wf ka6; have nc6 := H.lt_next O6.wf kc6
      have i3 : (i : Int) ≤ (i : Int) + 1 := by omega
      have i4 : la.length - i ≤ la.length := by omega
      have s1' : i + (la.length - i) = la.length := by omega
      have mb : min i (i + 1) = i := by omega
      have nz : ¬ (la.length : Int) < i := by omega
      have b1 : la.length * 8 ≤ 140737488355328 := by omega
      have b2 : la.length ≤ 140737488355328 := by omega
      have b3 : (i : Int) ≤ la.length := by omega
      have kb6 := O6.sv i2 _ (.inl (.inl q2))
      have nb6 := H.lt_next O6.wf kb6
      have h2x : i2 < h5.next := O.lt (.inl q2)
      have ne2 : i2 ≠ ic := by omega
      have mv : (ints (constL 0 (heldN ((i + 1 : Nat) : Int)))).take i ++ (ints la).take (la.length - i) = ints (movedL la i) := by
        unfold movedL
        simp only [ints, List.map_append, List.map_take]
      have ml := movedL_len d1 (by omega)
      have O7 : Mem ((h6.del ic).new (.cells (ints (movedL la i)))) gid G (With (With S2 oid (ints out)) h6.next (ints (movedL la i))) := by
        refine O6.turn (fun j cs q => ?_) ⟨by simp, H.wf_new (H.wf_del O6.wf _) _, fun j hj hz => by simp [(far hj).1, hz]⟩ (fun j hj hne => by simp [(far hj).1, hne]) (Nat.le_refl _) (by simp)
        have := O.lt q
        omega
      generalize ints (constL 0 (heldN ((i + 1 : Nat) : Int))) = cz at *
      have hcl' : i ≤ cz.length := by omega
      simp [w2, sliceC, boundC, ka6, kc6, lna, hcl, i3, i4, s1', b1, b2, Nat.min_eq_left i4, mv, kb6, far nb6, ne2, eb, lnb, d]
      have r8 := mask_run O7 (iv := h6.next) (l := movedL la i) (.inr ⟨rfl, rfl⟩) (by omega) (by omega) (small_moved s1 i) (e := y) bb
      rw [ml] at r8
      refine r8.mono fun r h8 ⟨g8, i8, hr, n8, J8⟩ => ?_
      subst hr
      simp
      have up8 := maskL_up (movedL la i) y O.ok
      have r9 := sum_run J8 (ia := oid) (ib := i8) (.inl (.inl (.inr ⟨rfl, rfl⟩))) (.inr ⟨rfl, rfl⟩) (by rw [maskL_len, ml, ho]) (by omega) (by omega) so (small_of (small_E up8.1.ok up8.2)) (c := 0) (by omega)
      refine r9.mono fun r h9 ⟨g9, i9, hr, n9, J9⟩ => ?_
      subst hr
      have up9 := mulStep_up O.ok out la y i
      have e7 : Grows h5 ((h6.del ic).new (.cells (ints (movedL la i)))) := F6.gr.trans ⟨by simp, O7.wf, fun j hj hz => by simp [(far hj).1, hz]⟩
      simp [w1]
      refine ⟨lb.length - (i + 1), by omega, rfl, rfl, rfl, rfl, i + 1, i9, (mulStep G out la y i).2, (mulStep G out la y i).1, rfl, by omega, rfl, rfl, mulStep_len d1 (by omega) ho, gr.trans (e7.trans (g8.trans g9)), ?_, small_of (small_E up9.1.ok up9.2), J9.weak fun j cs q => ?_, ?_⟩
      · have := gr.nx; have := e7.nx; have := g8.nx; omega
      · rcases q with q | q
        · exact .inl (.inl (.inl (.inl q)))
        · exact .inr q
      · rw [hR, List.drop_eq_getElem_cons d]
        have e1 : lb[i] = y := by simpa [d] using hib
        rw [e1]
        rfl
    · have c2 : i = lb.length := by omega
      subst c2
      simp [tabF, f0, f1, f2, f7, f20, f21]
      rw [List.drop_length] at hR
      have hR1 : (mulFrom _ _ la lb 0).1 = out := (congrArg Prod.fst hR).trans (by simp [mulFrom])
      have hR2 : (mulFrom _ _ la lb 0).2 = G := (congrArg Prod.snd hR).trans (by simp [mulFrom])
      rw [hR1, hR2]
      exact GOut.weak (h1 := h3) ⟨gr, oid, rfl, n5, O⟩ F.gr hw
end Go.Proofs.YtjlabjncojhjkaaDoor
namespace Go.Proofs.YtjlabjncojhjkaaDoor
open Go Go.Cv
theorem Mem.put {h : H} {gid : Nat} {G : Gr} {S : Nat → List CV → Prop} {id : Nat} {c c' : List CV} (I : Mem h gid G (With S id c)) (hs : ∀ i cs, S i cs → i ≠ id) : Mem (h.put id (.cells c')) gid G (With S id c') := by
  obtain ⟨Fg, hG, d⟩ := I.ex
  have hid : ¬ Fg id := d id c (.inr ⟨rfl, rfl⟩)
  have hl := I.lt (.inr ⟨rfl, rfl⟩ : With S id c id c)
  refine ⟨⟨Fg, hG.keep I.wf fun i hi hF => ?_, fun i cs q => ?_⟩, fun i cs q => ?_, H.wf_put I.wf hl _, I.ok⟩
  · rw [H.get_put, if_neg (fun e => hid (by rw [← e]; exact hF))]
  · rcases q with q | ⟨rfl, _⟩
    · exact d i cs (.inl q)
    · exact hid
  · rcases q with q | ⟨rfl, rfl⟩
    · rw [H.get_put, if_neg (hs i cs q)]; exact I.sv i cs (.inl q)
    · rw [H.get_put, if_pos rfl]
theorem Mem.app {h h' : H} {gid : Nat} {G : Gr} {S : Nat → List CV → Prop} {id n : Nat} {c : List CV} {x : CV} (I : Mem h gid G (With S id c)) (hs : ∀ i cs, S i cs → i ≠ id) (A : App (h.new (.cells [x])) h' (.ref id 0 n 1) (c ++ [x])) :
    Grows h h' ∧ Mem h' gid G (With S (h.next + 1) (c ++ [x])) := by
  have e1 := A.nx
  have e2 : (h.new (.cells [x])).next = h.next + 1 := rfl
  have gr : Grows h h' := ⟨by omega, A.wf, fun i hi hz => A.no i (by omega) (by simp [(far hi).1]; exact hz)⟩
  exact ⟨gr, I.turn hs gr (fun i hi ne => by
    rw [A.fr i (by omega) (fun id' off len sz hv => by cases hv; exact ne)]; simp [(far hi).1]) (by omega) A.el⟩
theorem Mem.outC {h : H} {gid : Nat} {G : Gr} {S : Nat → List CV → Prop} {id : Nat} {c : List CV} (I : Mem h gid G (With S id c)) (x : CV) : OutC (h.new (.cells [x])) (.ref id 0 c.length 1) c := by
  have hg := I.sv id c (.inr ⟨rfl, rfl⟩)
  exact .inr ⟨id, rfl, by simp [(far (H.lt_next I.wf hg)).1, hg]⟩
/-! ### bits.divide -/
def dDiff (G : Gr) (x : Int) (rest b : List Int) : List Int × Gr := sumL G ((x :: rest) ++ [0]) ((b ++ [0]).map nt ++ [1]) 1
def dFits (G : Gr) (x : Int) (rest b : List Int) : Int := nt ((dDiff G x rest b).1.getD (rest.length + 1) 0)
def dRest (G : Gr) (x : Int) (rest b : List Int) : List Int × Gr := muxL (dDiff G x rest b).2 (dFits G x rest b) ((dDiff G x rest b).1.take rest.length) ((x :: rest).take rest.length)
structure DivR where
  q : List Int
  r : List Int
  g : Gr
def divFrom : Gr → List Int → List Int → List Int → DivR
  | G, rest, _, [] => ⟨[], rest, G⟩
  | G, rest, b, x :: xs =>
    ⟨(divFrom (dRest G x rest b).2 (dRest G x rest b).1 b xs).q ++ [dFits G x rest b], (divFrom (dRest G x rest b).2 (dRest G x rest b).1 b xs).r, (divFrom (dRest G x rest b).2 (dRest G x rest b).1 b xs).g⟩
theorem dDiff_len {G : Gr} {x : Int} {rest b : List Int} (h : rest.length = b.length) : (dDiff G x rest b).1.length = rest.length + 2 := by
  unfold dDiff
  rw [sumL_len _ _ _ _ (by simp [h])]; simp
theorem dDiff_up {G : Gr} (ok : G.OK) (x : Int) (rest b : List Int) : G.Up (dDiff G x rest b).2 ∧ ∀ e ∈ (dDiff G x rest b).1, (dDiff G x rest b).2.E e := sumL_up _ _ _ ok
theorem dRest_up {G : Gr} (ok : G.OK) (x : Int) (rest b : List Int) : G.Up (dRest G x rest b).2 ∧ ∀ e ∈ (dRest G x rest b).1, (dRest G x rest b).2.E e :=
  ⟨(dDiff_up ok x rest b).1.trans (muxL_up _ _ _ (dDiff_up ok x rest b).1.ok).1, (muxL_up _ _ _ (dDiff_up ok x rest b).1.ok).2⟩
theorem dRest_len {G : Gr} {x : Int} {rest b : List Int} (h : rest.length = b.length) : (dRest G x rest b).1.length = rest.length := by
  unfold dRest
  have := dDiff_len (G := G) (x := x) h
  rw [muxL_len _ _ _ _ (by simp; omega)]
  simp; omega
theorem dFits_E {G : Gr} (ok : G.OK) {x : Int} {rest b : List Int} (h : rest.length = b.length) : (dDiff G x rest b).2.E (dFits G x rest b) := by
  unfold dFits
  refine nt_E ((dDiff_up ok x rest b).2 _ ?_)
  rw [List.getD_eq_getElem?_getD, List.getElem?_eq_getElem (by rw [dDiff_len h]; omega)]
  exact List.getElem_mem _
/-- The outer loop. -/
def divI (h0 : H) (gid ia ib : Nat) (la lb : List Int) (S : Nat → List CV → Prop) (R : DivR) (m : Nat) (f : Nat → CV) (h : H) : Prop :=
  f 0 = .ptr gid 0 ∧ f 1 = .ref ia 0 la.length 1 ∧ f 2 = .ref ib 0 lb.length 1 ∧ f 8 = .int .i64 la.length ∧ ∃ (n rid qid : Nat) (G : Gr) (rest Q : List Int), f 11 = .int .i64 ((n : Int) - 1) ∧ m = n ∧ n + Q.length = la.length ∧ f 9 = .ref rid 0 la.length 1 ∧ f 10 = .ref qid 0 la.length 1 ∧ rest.length = la.length ∧ Grows h0 h ∧ h0.next ≤ rid ∧ h0.next ≤ qid ∧ rid ≠ qid ∧
    (∀ e ∈ rest, 0 ≤ e ∧ e ≤ 400000) ∧ (∀ e ∈ Q, 0 ≤ e ∧ e ≤ 400000) ∧ Mem h gid G (With (With S qid (ints (List.replicate n 0 ++ Q))) rid (ints rest)) ∧
    R = ⟨(divFrom G rest lb (la.take n).reverse).q ++ Q, (divFrom G rest lb (la.take n).reverse).r, (divFrom G rest lb (la.take n).reverse).g⟩
structure GOut2 (h h' : H) (gid : Nat) (G : Gr) (S : Nat → List CV → Prop) (v1 v2 : CV) (l1 l2 : List Int) : Prop where
  gr : Grows h h'
  ex : ∃ i1 i2, v1 = .ref i1 0 l1.length 1 ∧ v2 = .ref i2 0 l2.length 1 ∧ h.next ≤ i1 ∧ h.next ≤ i2 ∧ i1 ≠ i2 ∧ Mem h' gid G (With (With S i1 (ints l1)) i2 (ints l2))
/-- The inner loop: what is left is taken over, bit by bit. -/
def divJ (h0 : H) (gid ia ib rid qid lid did n : Nat) (la lb rest : List Int) (fits : Int) (lo dd : List Int) (S4 : Nat → List CV → Prop) (R : List Int × Gr) (m : Nat) (f : Nat → CV) (h : H) : Prop :=
  f 0 = .ptr gid 0 ∧ f 1 = .ref ia 0 la.length 1 ∧ f 2 = .ref ib 0 lb.length 1 ∧ f 8 = .int .i64 la.length ∧ f 9 = .ref rid 0 la.length 1 ∧ f 10 = .ref qid 0 la.length 1 ∧ f 11 = .int .i64 (n : Nat) ∧ f 12 = .ref lid 0 (la.length + 1) 1 ∧ f 14 = .ref did 0 (la.length + 2) 1 ∧ f 15 = .int .i64 fits ∧ f 60 = .int .i64 la.length ∧
    ∃ (k : Nat) (G : Gr) (dn : List Int), f 61 = .int .i64 (k : Nat) ∧ k ≤ la.length ∧ m = la.length - k ∧ dn.length = k ∧ Grows h0 h ∧ Mem h gid G (With S4 rid (ints (dn ++ rest.drop k))) ∧
      R = (dn ++ (muxL G fits (dd.drop k) (lo.drop k)).1, (muxL G fits (dd.drop k) (lo.drop k)).2)
set_option maxRecDepth 8000 in
set_option maxHeartbeats 2000000 in
theorem divide_run {h : H} {gid ia ib : Nat} {G : Gr} {S : Nat → List CV → Prop} (I : Mem h gid G S) {la lb : List Int} (ha : S ia (ints la)) (hb : S ib (ints lb)) (hl : la.length = lb.length) (hk : 1 ≤ la.length ∧ la.length ≤ 16) (sa : ∀ e ∈ la, 0 ≤ e ∧ e ≤ 400000) (sb : ∀ e ∈ lb, 0 ≤ e ∧ e ≤ 400000) :
    Runs E 61 [.ptr gid 0, .ref ia 0 la.length 1, .ref ib 0 lb.length 1] h fun v h' => ∃ r1 r2, v = .tup [r1, r2] ∧ GOut2 h h' gid (divFrom G (constL 0 (heldN la.length)) lb la.reverse).g S r1 r2 (divFrom G (constL 0 (heldN la.length)) lb la.reverse).q (divFrom G (constL 0 (heldN la.length)) lb la.reverse).r := by
  refine Runs.ofX Tryd.func61 rfl rfl rfl rfl (fun _ => rfl) ?_
  simp [Tryd.f61]
  refine (const_run I.wf 0 la.length).mono fun r h1 F1 => ?_
  obtain ⟨rid, rfl, n1, J1⟩ := I.fresh1 F1
  have cl : (ints (constL 0 (heldN la.length))).length = la.length := by rw [ints_len', constL_len, heldN_id hk]
  have w1 : IntKind.i64.wrap ((la.length : Int) - 1) = (la.length : Int) - 1 := wrap64 (by omega) (by omega)
  have b1 : la.length * 8 ≤ 140737488355328 := by omega
  have b2 : la.length ≤ 140737488355328 := by omega
  have b3 : (la.length : Int) ≤ 140737488355328 := by omega
  rw [cl]
  have i0 : (0 : Int) ≤ (la.length : Int) + 1 := by omega
  have b4 : (la.length : Int) * 8 ≤ 140737488355328 := by omega
  simp [w1, b3, b4]
  have hrn := J1.lt (.inr ⟨rfl, rfl⟩ : With S rid (ints (constL 0 (heldN la.length))) rid (ints (constL 0 (heldN la.length))))
  have hst : ∀ i cs, S i cs → i < h.next := fun i cs q => I.lt q
  refine xX_loopI (N := 81) (fun _ => rfl) rfl (divI h gid ia ib la lb S (divFrom G (constL 0 (heldN la.length)) lb la.reverse)) la.length ?_ ?_
  · have gz : Grows h1 (h1.new (.cells (ints (List.replicate la.length 0)))) := ⟨by simp, H.wf_new J1.wf _, fun j hj hz => by simp [(far hj).1, hz]⟩
    have J2 := J1.fresh gz (fun j hj => by simp [(far hj).1])
    have hz : ints (List.replicate la.length 0) = List.replicate la.length (.int .i64 0) := by simp [ints]
    have n0 := F1.gr.nx
    rw [hz] at J2 gz
    refine ⟨rfl, rfl, rfl, rfl, la.length, rid, h1.next, G, constL 0 (heldN la.length), [], rfl, rfl, rfl, rfl, rfl, by rw [constL_len, heldN_id hk], F1.gr.trans gz, n1, by omega, by omega, fun e he => ?_, by simp, J2.weak fun j cs q => ?_, ?_⟩
    · rcases constL_bit he with h | h <;> omega
    · rcases q with (q | ⟨rfl, rfl⟩) | ⟨rfl, rfl⟩
      · exact .inl (.inl q)
      · exact .inr ⟨Nat.le_refl _, by simp [hz]⟩
      · exact .inl (.inr ⟨rfl, rfl⟩)
    · rw [List.take_length]; simp
  · rintro m f h3 ⟨f0, f1, f2, f8, n, rid, qid, G, rest, Q, f11, hmn, hnQ, f9, f10, hr, gr, nr, nq, rq, sr, sQ, J, hR⟩
    subst m
    rcases n with _ | n
    · simp [tabF, f0, f1, f2, f8, f9, f10, f11]
      simp only [List.take_zero, List.reverse_nil, divFrom, List.nil_append] at hR
      rw [hR]
      simp only [Nat.zero_add] at hnQ
      refine ⟨_, _, ⟨rfl, rfl⟩, ⟨gr, qid, rid, by rw [hnQ], by rw [hr], nq, nr, Ne.symm rq, by simpa using J⟩⟩
    · have e1 : ((n + 1 : Nat) : Int) - 1 = n := by omega
      have w2 : IntKind.i64.wrap ((la.length : Int) + 1) = ((la.length + 1 : Nat) : Int) := by rw [wrap64] <;> omega
      have i1 : la.length + 1 < la.length + 2 := by omega
      have ql : (ints (List.replicate (n + 1) 0 ++ Q)).length = la.length := by rw [ints_len', List.length_append, List.length_replicate]; omega
      have nw : IntKind.i64.wrap ((n : Int) - 1) = (n : Int) - 1 := wrap64 (by omega) (by omega)
      have hrb : rest.length = lb.length := by omega
      rw [e1] at f11
      obtain ⟨x, hx⟩ : ∃ e, la[n]? = some e := ⟨_, List.getElem?_eq_getElem (by omega)⟩
      have d1 : n < la.length := by omega
      have bx := sa x (List.mem_of_getElem? hx)
      have ex := getI hx
      have lna := ints_len' la; have lnb := ints_len' lb; have lnr := ints_len' rest
      have nq' : qid < h3.next := J.lt (i := qid) (cs := ints (List.replicate (n + 1) 0 ++ Q)) (.inl (.inr ⟨rfl, rfl⟩))
      have nr' : rid < h3.next := J.lt (i := rid) (cs := ints rest) (.inr ⟨rfl, rfl⟩)
      have ka := J.sv ia _ (.inl (.inl ha)); have kb := J.sv ib _ (.inl (.inl hb)); have kr := J.sv rid _ (.inr ⟨rfl, rfl⟩)
      have na := H.lt_next J.wf ka; have nb := H.lt_next J.wf kb; have nrr := H.lt_next J.wf kr
      have s1 : (la.length + 1) * 8 ≤ 140737488355328 := by omega
      have s2 : 1 + la.length ≤ 140737488355328 := by omega
      have s3 : (1 + la.length) * 8 ≤ 140737488355328 := by omega
      have tk : List.take la.length (ints rest) = ints rest := List.take_of_length_le (by omega)
      simp [-u_append, tabF, f0, f1, f2, f8, f9, f10, f11, d1, ka, ex, lna]
      simp [kr, far nrr, lnr, hr, s2, s3, tk]
      have ll : (ints (x :: rest)).length = la.length + 1 := by simp [ints, hr]
      have J4 : Mem (((h3.new (.cells [.int .i64 x])).del h3.next).new (.cells (.int .i64 x :: ints rest))) gid G (With (With (With S qid (ints (List.replicate (n + 1) 0 ++ Q))) rid (ints rest)) (h3.next + 1) (ints (x :: rest))) := by
        have g4 : Grows h3 (((h3.new (.cells [.int .i64 x])).del h3.next).new (.cells (.int .i64 x :: ints rest))) := ⟨by simp; omega, H.wf_new (H.wf_del (H.wf_new J.wf _) _) _, fun j hj hz => by simp [far hj, hz]⟩
        refine (J.fresh g4 (fun j hj => by simp [far hj])).weak fun j cs q => ?_
        rcases q with q | ⟨rfl, rfl⟩
        · exact .inl q
        · exact .inr ⟨by omega, by simp [ints]⟩
      generalize hH4 : ((h3.new (.cells [.int .i64 x])).del h3.next).new (.cells (.int .i64 x :: ints rest)) = h4 at J4
      have n4 : h4.next = h3.next + 2 := by rw [← hH4]; rfl
      have g4 : Grows h3 h4 := by rw [← hH4]; exact ⟨by simp; omega, H.wf_new (H.wf_del (H.wf_new J.wf _) _) _, fun j hj hz => by simp [far hj, hz]⟩
      have kb4 := J4.sv ib _ (.inl (.inl (.inl hb)))
      have r5 := clone_run J4.wf (id := ib) (cs := ints lb) (rest := []) (by rw [List.append_nil]; exact kb4) (by omega)
      rw [lnb] at r5
      refine r5.mono fun r h5 F5 => ?_
      obtain ⟨cid, rfl, n5, J5⟩ := J4.fresh1 F5
      have l4 := fun i cs (q : With (With (With S qid (ints (List.replicate (n + 1) 0 ++ Q))) rid (ints rest)) (h3.next + 1) (ints (x :: rest)) i cs) => J4.lt q
      simp [-u_append]
      refine app1 (x := .int .i64 0) (H.wf_new J5.wf _) (J5.outC _) rfl (by simp) rfl rfl rfl rfl rfl rfl rfl rfl (by rw [lnb]; show _ * 8 ≤ _; omega) (by rw [lnb]; omega) fun h6 A6 => ?_
      obtain ⟨g6, J6⟩ := J5.app (fun i cs q => by have := l4 i cs q; omega) A6
      have wl : ints lb ++ [.int .i64 0] = ints (lb ++ [0]) := by rw [ints_app]; rfl
      rw [wl] at J6
      have wll : (ints (lb ++ [0])).length = la.length + 1 := by simp [ints, hl]
      have n5' : h5.next ≤ h6.next := g6.nx
      have kl6 := J6.sv (h3.next + 1) _ (.inl (.inr ⟨rfl, rfl⟩))
      have r7 := clone_run J6.wf (id := h3.next + 1) (cs := ints (x :: rest)) (rest := []) (by rw [List.append_nil]; exact kl6) (by omega)
      rw [ll] at r7
      simp [lnb, ← hl, Nat.add_comm 1 la.length]
      refine r7.mono fun r h7 F7 => ?_
      obtain ⟨c2, rfl, n7, J7⟩ := J6.fresh1 F7
      have l6 := fun i cs q => J6.lt (i := i) (cs := cs) q
      simp [-u_append]
      refine app1 (x := .int .i64 0) (H.wf_new J7.wf _) (J7.outC _) rfl (by simp) rfl rfl rfl rfl rfl rfl rfl rfl (by rw [ll]; show _ * 8 ≤ _; omega) (by rw [ll]; omega) fun h8 A8 => ?_
      obtain ⟨g8, J8⟩ := J7.app (fun i cs q => by have := l6 i cs q; omega) A8
      have al : ints (x :: rest) ++ [.int .i64 0] = ints ((x :: rest) ++ [0]) := by rw [ints_app]; rfl
      rw [al] at J8
      have kw8 := J8.sv (h5.next + 1) _ (.inl (.inr ⟨rfl, rfl⟩))
      have r9 := bnot_run J8.wf kw8 (by simp) (by simp; omega) (fun e he => by
        rcases List.mem_append.1 he with q | q
        · have := sb e q; omega
        · simp at q; omega)
      have wl2 : (lb ++ [0]).length = la.length + 1 := by simp [hl]
      rw [wl2] at r9
      simp [ll]
      refine r9.mono fun r h9 F9 => ?_
      obtain ⟨nid, rfl, n9, J9⟩ := J8.fresh1 F9
      have l8 := fun i cs q => J8.lt (i := i) (cs := cs) q
      have nl : (ints ((lb ++ [0]).map nt)).length = la.length + 1 := by simp [ints, hl]
      generalize hnots : (lb ++ [0]).map nt = nots at *
      simp [-u_append]
      refine app1 (x := .int .i64 1) (H.wf_new J9.wf _) (J9.outC _) rfl (by simp) rfl rfl rfl rfl rfl rfl rfl rfl (by rw [nl]; show _ * 8 ≤ _; omega) (by rw [nl]; omega) fun h10 A10 => ?_
      obtain ⟨g10, J10⟩ := J9.app (fun i cs q => by have := l8 i cs q; omega) A10
      have bl : ints nots ++ [.int .i64 1] = ints (nots ++ [1]) := by rw [ints_app]; rfl
      rw [bl] at J10
      have r11 := sum_run J10 (ia := h7.next + 1) (ib := h9.next + 1) (la := (x :: rest) ++ [0]) (lb := nots ++ [1]) (.inl (.inr ⟨rfl, rfl⟩)) (.inr ⟨rfl, rfl⟩) (by
        have : nots.length = la.length + 1 := by rw [← ints_len']; exact nl
        simp [this, hr]) (by simp) (by simp; omega) (fun e he => by
        simp at he
        rcases he with rfl | he | rfl
        · omega
        · have := sr e he; omega
        · omega) (fun e he => by
        rcases List.mem_append.1 he with q | q
        · rw [← hnots] at q
          obtain ⟨z, hz, rfl⟩ := List.mem_map.1 q
          rcases List.mem_append.1 hz with q | q
          · exact (nt_b (sb z q)).2
          · simp at q; subst q; decide
        · simp at q; omega) (c := 1) (by omega)
      have e11 : sumL G ((x :: rest) ++ [0]) (nots ++ [1]) 1 = dDiff G x rest lb := by unfold dDiff; rw [hnots]
      rw [e11] at r11
      have al2 : ((x :: rest) ++ [0]).length = la.length + 2 := by simp [hr]
      have bl2 : (nots ++ [1]).length = la.length + 2 := by
        have : nots.length = la.length + 1 := by rw [← ints_len']; exact nl
        simp [this]
      rw [al2, bl2] at r11
      simp [nl]
      refine r11.mono fun r h11 ⟨g11, did, hrr, n11, J11⟩ => ?_
      subst hrr
      have dl := dDiff_len (G := G) (x := x) (rest := rest) (b := lb) hrb
      have dE := dDiff_up J.ok x rest lb
      have dS := small_E dE.1.ok dE.2
      have lst : (dDiff G x rest lb).1[la.length + 1]? = some ((dDiff G x rest lb).1.getD (rest.length + 1) 0) := by
        rw [List.getD_eq_getElem?_getD, hr, List.getElem?_eq_getElem (by rw [dl, hr]; exact Nat.lt_succ_self _)]; rfl
      have fz := dS _ (List.mem_of_getElem? lst)
      have eD := getI lst
      have dl' : (ints (dDiff G x rest lb).1).length = la.length + 2 := by rw [ints_len', dl, hr]
      have q3 := not_g fz.1 (Int.lt_of_le_of_lt fz.2 (by decide))
      have hfits : nt ((dDiff G x rest lb).1.getD (rest.length + 1) 0) = dFits G x rest lb := rfl
      rw [hfits] at q3
      have bf := nt_b fz
      rw [hfits] at bf
      have fE := dFits_E J.ok (x := x) (rest := rest) (b := lb) hrb
      have bf2 := fE.b dE.1.ok
      have kd := J11.sv did _ (.inr ⟨rfl, rfl⟩)
      have nd := H.lt_next J11.wf kd
      have kq := J11.sv qid (ints (List.replicate (n + 1) 0 ++ Q)) (.inl (.inl (.inl (.inl (.inl (.inl (.inr ⟨rfl, rfl⟩)))))))
      have nqq := H.lt_next J11.wf kq
      rw [dl, hr]
      have i5 : n + 1 ≤ (ints (List.replicate (n + 1) 0 ++ Q)).length := by rw [ql]; exact d1
      generalize hqc : ints (List.replicate (n + 1) 0 ++ Q) = qc at J11 kq ql i5
      generalize (dDiff G x rest lb).1.getD (rest.length + 1) 0 = fz0 at *
      have hqs : List.take n qc ++ CV.int IntKind.i64 (dFits G x rest lb) :: List.drop (n + 1) qc = ints (List.replicate n 0 ++ (dFits G x rest lb :: Q)) := by
        rw [← hqc]
        simp only [ints, List.map_append, List.map_replicate, List.map_cons]
        rw [List.replicate_succ', List.append_assoc]
        rw [List.take_append_of_le_length (by simp), List.take_of_length_le (by simp)]
        rw [List.drop_append, List.drop_of_length_le (by simp)]
        simp
      have lid' : h3.next + 1 < h4.next := by rw [n4]; exact Nat.lt_succ_self _
      have chain : h4.next ≤ h10.next := Nat.le_trans F5.gr.nx (Nat.le_trans g6.nx (Nat.le_trans F7.gr.nx (Nat.le_trans g8.nx (Nat.le_trans F9.gr.nx g10.nx))))
      have dne1 : qid ≠ did := Nat.ne_of_lt (Nat.lt_of_lt_of_le (Nat.lt_of_lt_of_le nq' (Nat.le_trans g4.nx chain)) n11)
      have dne2 : rid ≠ did := Nat.ne_of_lt (Nat.lt_of_lt_of_le (Nat.lt_of_lt_of_le nr' (Nat.le_trans g4.nx chain)) n11)
      have dne3 : qid ≠ h3.next + 1 := Nat.ne_of_lt (Nat.lt_succ_of_lt nq')
      have dne4 : rid ≠ h3.next + 1 := Nat.ne_of_lt (Nat.lt_succ_of_lt nr')
      have J12 : Mem (h11.put qid (.cells (ints (List.replicate n 0 ++ (dFits G x rest lb :: Q))))) gid (dDiff G x rest lb).2 (With (With (With (With S qid (ints (List.replicate n 0 ++ (dFits G x rest lb :: Q)))) (h3.next + 1) (ints (x :: rest))) did (ints (dDiff G x rest lb).1)) rid (ints rest)) := by
        have K1 : Mem h11 gid (dDiff G x rest lb).2 (With (With (With (With S rid (ints rest)) (h3.next + 1) (ints (x :: rest))) did (ints (dDiff G x rest lb).1)) qid qc) := J11.weak fun i cs q => by
          rcases q with (((q | q) | q) | q) | q
          · exact .inl (.inl (.inl (.inl (.inl (.inl (.inl q))))))
          · exact .inl (.inl (.inl (.inl (.inl (.inr q)))))
          · exact .inl (.inl (.inl (.inl (.inr q))))
          · exact .inr q
          · exact .inl (.inl (.inl (.inl (.inl (.inl (.inr q))))))
        refine (K1.put fun i cs q => ?_).weak fun i cs q => ?_
        · rcases q with ((q | ⟨rfl, _⟩) | ⟨rfl, _⟩) | ⟨rfl, _⟩
          · exact Nat.ne_of_lt (Nat.lt_of_lt_of_le (I.lt q) nq)
          · exact rq
          · exact Ne.symm dne3
          · exact Ne.symm dne1
        · rcases q with (((q | q) | q) | q) | q
          · exact .inl (.inl (.inl (.inl q)))
          · exact .inr q
          · exact .inl (.inl (.inr q))
          · exact .inl (.inr q)
          · exact .inl (.inl (.inl (.inr q)))
      simp [w2, i0, i1, kd, eD, dl', q3, d1, kq, ql, hqs]
      refine ⟨d1, ?_⟩
      have gq : Grows h11 (h11.put qid (.cells (ints (List.replicate n 0 ++ (dFits G x rest lb :: Q))))) := ⟨Nat.le_refl _, J12.wf, fun j hj hz => by
        rw [H.get_put, if_neg]
        · exact hz
        · intro e; rw [e, kq] at hz; cases hz⟩
      have g12 := gr.trans (g4.trans (F5.gr.trans (g6.trans (F7.gr.trans (g8.trans (F9.gr.trans (g10.trans (g11.trans gq))))))))
      generalize hX : h11.put qid (.cells (ints (List.replicate n 0 ++ (dFits G x rest lb :: Q)))) = h12 at J12 g12
      generalize hS4 : With (With (With S qid (ints (List.replicate n 0 ++ (dFits G x rest lb :: Q)))) (h3.next + 1) (ints (x :: rest))) did (ints (dDiff G x rest lb).1) = S4 at J12
      have p1 : S4 (h3.next + 1) (ints (x :: rest)) := by rw [← hS4]; exact .inl (.inr ⟨rfl, rfl⟩)
      have p2 : S4 did (ints (dDiff G x rest lb).1) := by rw [← hS4]; exact .inr ⟨rfl, rfl⟩
      have p3 : ∀ i cs, S4 i cs → i ≠ rid := by
        intro i cs q
        rw [← hS4] at q
        rcases q with ((q | ⟨rfl, _⟩) | ⟨rfl, _⟩) | ⟨rfl, _⟩
        · exact Nat.ne_of_lt (Nat.lt_of_lt_of_le (I.lt q) nr)
        · exact Ne.symm rq
        · exact Ne.symm dne4
        · exact Ne.symm dne2
      have p4 : ∀ i cs, With S qid (ints (List.replicate n 0 ++ (dFits G x rest lb :: Q))) i cs → S4 i cs := by
        intro i cs q; rw [← hS4]; exact .inl (.inl q)
      have lo1 : (x :: rest).length = la.length + 1 := by rw [List.length_cons, hr]
      have dS' : ∀ e ∈ (dDiff G x rest lb).1, e ≤ 400000 := fun e he => (dS e he).2
      have lS' : ∀ e ∈ x :: rest, e ≤ 400000 := fun e he => by
        rcases List.mem_cons.1 he with rfl | he
        · exact bx.2
        · exact (sr e he).2
      have okD := dE.1.ok
      have upR := dRest_up J.ok x rest lb
      have lnR := dRest_len (G := G) (x := x) hrb
      have bf3 : 0 ≤ dFits G x rest lb ∧ dFits G x rest lb ≤ 400000 := ⟨bf.1, Int.le_of_lt bf2⟩
      have hdR : dRest G x rest lb = muxL (dDiff G x rest lb).2 (dFits G x rest lb) ((dDiff G x rest lb).1.take rest.length) ((x :: rest).take rest.length) := rfl
      have dl2 : (dDiff G x rest lb).1.length = la.length + 2 := by rw [dl, hr]
      have hstep : divFrom G rest lb (List.take (n + 1) la).reverse = ⟨(divFrom (dRest G x rest lb).2 (dRest G x rest lb).1 lb (la.take n).reverse).q ++ [dFits G x rest lb], (divFrom (dRest G x rest lb).2 (dRest G x rest lb).1 lb (la.take n).reverse).r, (divFrom (dRest G x rest lb).2 (dRest G x rest lb).1 lb (la.take n).reverse).g⟩ := by
        rw [List.take_add_one, hx]
        simp [divFrom]
      rw [hstep] at hR
      generalize hlo : x :: rest = lo at p1 lo1 lS' hdR
      generalize dDiff G x rest lb = DD at p2 dS' okD hdR dl2 J12
      generalize dRest G x rest lb = RR at upR lnR hdR hR
      generalize dFits G x rest lb = fits at bf3 hdR hR p4
      clear hst J1 n1 J4 J5 J6 J7 J8 J9 J10 J11 kd kq nqq r5 r7 r9 r11 dl dE dS lst fz eD dl' q3 hfits bf fE bf2 nd kb4 l4 l6 l8 kw8 kl6 dne1 dne2 dne3 dne4 chain lid' hstep hqs gq wl wll al al2 bl bl2 nl hnots e11 ll tk s1 s2 s3 J ka kb kr na nb nrr ex hX hS4 A6 A8 A10 F5 F7 F9 n5 n7 n9 n11 n5' g4 g6 g8 g10 g11 gr lna lnb lnr w2 i1 ql wl2 i0 i5 hqc n4 hH4 sr
      refine xX_loopI (N := 81) (fun _ => rfl) rfl (divJ h gid ia ib rid qid (h3.next + 1) did n la lb rest fits (lo.take rest.length) (DD.1.take rest.length) S4 RR) la.length ?_ ?_
      · exact ⟨rfl, rfl, by rw [← hl]; rfl, rfl, rfl, rfl, rfl, rfl, rfl, rfl, rfl, 0, DD.2, [], rfl, Nat.zero_le _, rfl, rfl, g12, by simpa using J12, by rw [hdR]; simp⟩
      · clear J12 hdR okD g12
        rintro m f h13 ⟨f0, f1, f2, f8, f9, f10, f11, f12, f14, f15, f60, k, G, dn, f61, hk2, hm, hdn, g13, J, hRR⟩
        by_cases c : k < la.length
        · obtain ⟨x1, hx1⟩ : ∃ e, DD.1[k]? = some e := ⟨_, List.getElem?_eq_getElem (by omega)⟩
          obtain ⟨x2, hx2⟩ : ∃ e, lo[k]? = some e := ⟨_, List.getElem?_eq_getElem (by omega)⟩
          have b1' := dS' x1 (List.mem_of_getElem? hx1)
          have b2' := lS' x2 (List.mem_of_getElem? hx2)
          have ex1 := getI hx1; have ex2 := getI hx2
          have kd := J.sv did _ (.inl p2); have kl := J.sv (h3.next + 1) _ (.inl p1)
          have nd := H.lt_next J.wf kd; have nl := H.lt_next J.wf kl
          have c1 : k < la.length + 1 := by omega
          have c2 : k < la.length + 2 := by omega
          have c1i : (k : Int) < (la.length : Int) + 1 := by omega
          have c2i : (k : Int) < (la.length : Int) + 2 := by omega
          have ld : (ints DD.1).length = la.length + 2 := by rw [ints_len', dl2]
          have ll : (ints lo).length = la.length + 1 := by rw [ints_len', lo1]
          have w1 : IntKind.i64.wrap ((k : Int) + 1) = k + 1 := wrap64 (by omega) (by omega)
          simp [tabF, f0, f1, f2, f8, f9, f10, f11, f12, f14, f15, f60, f61, c]
          refine xX_drawn [0, 0, 0, 0, 0, 0, 48, 112, 0, 0, 768, 1792, 4092, 8191, 16383] rfl (by kernel_rfl) ?_
          simp [c1, c2, c1i, c2i, kd, kl, ex1, ex2, ld, ll]
          have rm := m_mux (h := h13) (gid := gid) (G := G) (c := fits) (a := x1) (b := x2) (by omega) (by omega) (by omega) _ J
          refine rm.mono fun r h14 ⟨g14, J14, hrv⟩ => ?_
          subst hrv
          have kr := J14.sv rid _ (.inr ⟨rfl, rfl⟩)
          have nr14 := H.lt_next J14.wf kr
          have lr : (ints (dn ++ rest.drop k)).length = la.length := by rw [ints_len', List.length_append, List.length_drop, hr]; omega
          have hc1 : k + 1 ≤ la.length := c
          have hsp : List.take k (ints (dn ++ rest.drop k)) ++ CV.int IntKind.i64 (G.mux fits x1 x2).1 :: List.drop (k + 1) (ints (dn ++ rest.drop k)) = ints ((dn ++ [(G.mux fits x1 x2).1]) ++ rest.drop (k + 1)) := by
            simp only [ints, List.map_append, List.map_cons, List.map_nil]
            rw [List.take_append_of_le_length (by simp [hdn]), List.take_of_length_le (by simp [hdn])]
            rw [List.drop_append, List.drop_of_length_le (by simp [hdn])]
            simp [hdn, List.map_drop]
          have J15 := J14.put (c' := ints ((dn ++ [(G.mux fits x1 x2).1]) ++ rest.drop (k + 1))) (fun i cs q => p3 i cs q)
          have gq : Grows h14 (h14.put rid (.cells (ints ((dn ++ [(G.mux fits x1 x2).1]) ++ rest.drop (k + 1))))) := ⟨Nat.le_refl _, J15.wf, fun j hj hz => by
            rw [H.get_put, if_neg]
            · exact hz
            · intro e; rw [e, kr] at hz; cases hz⟩
          generalize hob : ints (dn ++ rest.drop k) = ob at kr lr hsp
          simp [c, kr, lr, hc1, hsp, w1]
          refine ⟨la.length - (k + 1), by omega, rfl, rfl, rfl, rfl, rfl, rfl, rfl, rfl, rfl, rfl, rfl, k + 1, (G.mux fits x1 x2).2, dn ++ [(G.mux fits x1 x2).1], rfl, c, rfl, by simp [hdn], g13.trans (g14.trans (by simpa using gq)), by simpa using J15, ?_⟩
          rw [hRR]
          have q1 : (DD.1.take rest.length).drop k = x1 :: (DD.1.take rest.length).drop (k + 1) := by
            have hlt : k < (DD.1.take rest.length).length := by rw [List.length_take]; omega
            rw [List.drop_eq_getElem_cons hlt]
            congr 1
            have := List.getElem?_take_of_lt (l := DD.1) (show k < rest.length by omega)
            rw [hx1, List.getElem?_eq_getElem hlt] at this
            exact Option.some.inj this
          have q2 : (lo.take rest.length).drop k = x2 :: (lo.take rest.length).drop (k + 1) := by
            have hlt : k < (lo.take rest.length).length := by rw [List.length_take]; omega
            rw [List.drop_eq_getElem_cons hlt]
            congr 1
            have := List.getElem?_take_of_lt (l := lo) (show k < rest.length by omega)
            rw [hx2, List.getElem?_eq_getElem hlt] at this
            exact Option.some.inj this
          rw [q1, q2]
          simp [muxL]
        · have c2 : k = la.length := by omega
          have hd1 : (DD.1.take rest.length).drop k = [] := List.drop_of_length_le (by rw [List.length_take]; omega)
          rw [hd1] at hRR
          have hrest : rest.drop k = [] := List.drop_of_length_le (by omega)
          rw [hrest, List.append_nil] at J
          have e1 : RR.1 = dn := by rw [hRR]; simp [muxL]
          have e2 : RR.2 = G := by rw [hRR]; simp [muxL]
          subst c2
          simp [tabF, f0, f1, f2, f8, f9, f10, f11, f12, f14, f15, f60, f61, nw]
          refine ⟨n, by omega, rfl, rfl, rfl, rfl, n, rid, qid, G, dn, fits :: Q, rfl, rfl, by simp only [List.length_cons]; omega, rfl, rfl, hdn, g13, nr, nq, rq, fun e he => ?_, fun e he => ?_, J.weak fun i cs q => ?_, ?_⟩
          · rw [← e1] at he
            exact small_E (by rw [e2]; exact J.ok) upR.2 e he
          · rcases List.mem_cons.1 he with rfl | he
            · exact bf3
            · exact sQ e he
          · rcases q with q | q
            · exact .inl (p4 i cs q)
            · exact .inr q
          · rw [hR, e1, e2]
            simp
end Go.Proofs.YtjlabjncojhjkaaDoor
