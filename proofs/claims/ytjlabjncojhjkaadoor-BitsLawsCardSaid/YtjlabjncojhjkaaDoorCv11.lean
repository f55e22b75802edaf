/- Slices that are taken to be never written again: nothing turns in the machine. Related temporaries; one step of a region. -/
import Derived.Test.YtjlabjncojhjkaaDoorCv10
import Derived.Tactics
namespace Go.Cv
open Go

theorem VR.ofV (g : Gh) (v : Value) : VR g (ofV v) v := by
  cases v with
  | agg cs =>
    simp only [Cv.ofV]
    split
    · rename_i h
      refine .agg _ _ (by simp) (fun i u hu => ?_) (fun i c u hc hu => ?_)
      · have := List.all_eq_true.1 h u (List.mem_of_getElem? (by simpa using hu))
        cases u <;> simp_all [oneV, Value.oneCell']
      · rw [List.getElem?_map, Array.getElem?_toList, hu] at hc
        simp at hc; subst hc; exact .ofS g u
    · exact .undef _
  | tuple vs =>
    simp only [Cv.ofV]
    split
    · rename_i h
      have : vs = #[] := by simpa using h
      subst this
      exact .tup [] #[] rfl (by simp)
    · exact .undef _
  | _ => first | exact VR.ofS g _ | (simp only [Cv.ofV]; exact VR.ofS g _)

/-! ### Freezing -/
/-- What a function of freezing must keep. -/
def FS (f : CV → H → Option (CV × H)) : Prop := ∀ (g : Gh) (h : H) (w : World) (v v' : CV) (h' : H), R g h w → WFH h → f v h = some (v', h') →
  ∃ g', Step g h w g' h' w ∧ h'.next = h.next ∧ ∀ x, VR g v x → VR g' v' x
theorem frzL_sound {f : CV → H → Option (CV × H)} (hf : FS f) : ∀ (cs cs' : List CV) (g : Gh) (h h' : H) (w : World), R g h w → WFH h → frzL f cs h = some (cs', h') →
    ∃ g', Step g h w g' h' w ∧ h'.next = h.next ∧ cs'.length = cs.length ∧ ∀ (j : Nat) c c' x, cs[j]? = some c → cs'[j]? = some c' → VR g c x → VR g' c' x
  | [], cs', g, h, h', w, hR, wf, hr => by
    simp [frzL] at hr; obtain ⟨rfl, rfl⟩ := hr
    exact ⟨g, .refl hR wf, rfl, rfl, fun j c c' x hc => by simp at hc⟩
  | c :: cs, cs', g, h, h', w, hR, wf, hr => by
    simp only [frzL] at hr
    split at hr
    · rename_i c1 h1 hc1
      split at hr
      · rename_i cs1 h2 hcs1
        simp at hr; obtain ⟨rfl, rfl⟩ := hr
        obtain ⟨g1, s1, n1, v1⟩ := hf g h w c c1 h1 hR wf hc1
        obtain ⟨g2, s2, n2, l2, v2⟩ := frzL_sound hf cs cs1 g1 h1 h2 w s1.r s1.wf hcs1
        refine ⟨g2, s1.trans s2, n2.trans n1, by simp [l2], fun j d d' x hd hd' hx => ?_⟩
        cases j with
        | zero => simp at hd hd'; subst hd; subst hd'; exact (v1 x hx).mono s2.le
        | succ j => simp at hd hd'; exact v2 j d d' x hd hd' (hx.mono s1.le)
      · cases hr
    · cases hr
theorem chunk_len {sz : Nat} : ∀ (n : Nat) (cs : List CV), (chunk sz n cs).length = n
  | 0, _ => rfl
  | n + 1, cs => by simp [chunk, chunk_len n]
theorem chunk_get {sz : Nat} : ∀ (n : Nat) (cs : List CV) (i : Nat) (x : List CV), (chunk sz n cs)[i]? = some x → x = (cs.drop (i * sz)).take sz
  | 0, _, _, _, h => by simp [chunk] at h
  | n + 1, cs, 0, x, h => by simp [chunk] at h; simp [h]
  | n + 1, cs, i + 1, x, h => by
    simp [chunk] at h
    have := chunk_get n (cs.drop sz) i x h
    rw [this, List.drop_drop, Nat.succ_mul, Nat.add_comm]
/-- Cells that are never written again, cut into elements. -/
theorem VR.lst_of_icells {g : Gh} {b base off len sz c : Nat} {a : Addr} {cs : List CV} (hlen : len ≠ 0) (hc : len ≤ c) (ha : c = 0 ∨ a = ⟨b, base + off, none⟩) (hle : off + len * sz ≤ cs.length)
    (h : ∀ (j : Nat) x, cs[j]? = some x → ∃ v, g.icell b (base + j) = some v ∧ v.oneCell' = true ∧ VR g x v) : VR g (.lst sz (chunk sz len (cs.drop off))) (.slice (some a) len c) := by
  have ha' : a = ⟨b, base + off, none⟩ := by
    rcases ha with h0 | h0
    · omega
    · exact h0
  subst ha'
  have cellOf : ∀ (i : Nat) (x : List CV) (j : Nat) (y : CV), (chunk sz len (cs.drop off))[i]? = some x → x[j]? = some y → cs[off + i * sz + j]? = some y := by
    intro i x j y hi hj
    rw [chunk_get _ _ _ _ hi, List.getElem?_take] at hj
    split at hj
    · rw [List.getElem?_drop, List.getElem?_drop] at hj
      rwa [Nat.add_assoc]
    · cases hj
  have := VR.lst (g := g) sz (chunk sz len (cs.drop off)) ⟨b, base + off, none⟩ c (fun i j => (g.icell b (base + (off + i * sz + j))).getD Go.undef) rfl (by rw [chunk_len]; exact hc) (fun i x hi => ?_) (fun i x j y hi hj => ?_) (fun i x j y hi hj => ?_)
  · rwa [chunk_len] at this
  · have hlt : i < len := by have := (List.getElem?_eq_some_iff.1 hi).1; rwa [chunk_len] at this
    rw [chunk_get _ _ _ _ hi]
    have : (i + 1) * sz ≤ len * sz := Nat.mul_le_mul_right _ hlt
    rw [Nat.succ_mul] at this
    simp; omega
  · obtain ⟨v, h1, h2, h3⟩ := h _ _ (cellOf i x j y hi hj)
    rw [show base + off + i * sz + j = base + (off + i * sz + j) from by omega]
    exact ⟨by simp [h1], by simp [h1, h2]⟩
  · obtain ⟨v, h1, h2, h3⟩ := h _ _ (cellOf i x j y hi hj)
    simp only [h1, Option.getD_some]
    exact h3
theorem frz_sound : ∀ n, FS (frz n)
  | 0 => fun g h w v v' h' _ _ hr => by simp [frz] at hr
  | n + 1 => fun g h w v v' h' hR wf hr => by
    have same : ∀ {u : CV} {k : H}, some (v, h) = some (u, k) → ∃ g', Step g h w g' k w ∧ k.next = h.next ∧ ∀ x, VR g v x → VR g' u x := by
      intro u k hh
      simp at hh; obtain ⟨rfl, rfl⟩ := hh
      exact ⟨g, .refl hR wf, rfl, fun x hx => hx⟩
    have ih := frz_sound n
    unfold frz at hr
    split at hr
    · rename_i id off len sz
      split at hr
      · rename_i hl
        simp at hr; obtain ⟨rfl, rfl⟩ := hr
        refine ⟨g, .refl hR wf, rfl, fun x hx => ?_⟩
        cases hx; subst hl; exact .lst0 _ _ _
      · rename_i hl
        split at hr
        · rename_i cs hob
          split at hr
          · rename_i hle
            split at hr
            · rename_i cs' h1 hcs
              split at hr
              · rename_i hbeq
                simp at hr; obtain ⟨rfl, rfl⟩ := hr
                obtain ⟨g1, s1, n1, l1, v1⟩ := frzL_sound ih cs cs' g h h1 w hR wf hcs
                have hob1 := beqO_eq hbeq
                obtain ⟨p, hp⟩ := hR.placed hob
                obtain ⟨b, base, lim⟩ := p
                -- the cells of the object stand to the same cells of the machine as before
                obtain ⟨b', base', lim', hp', cur, e, fz, k1, k2, k3, k4, k5, k6⟩ := hR.ob id _ hob
                rw [hp] at hp'; cases hp'
                have hp1 := s1.le.2 _ _ hp
                obtain ⟨b2, base2, lim2, hp2, cur2, e2, fz2, q1, q2, q3, q4, q5, q6⟩ := s1.r.ob id _ hob1
                rw [hp1] at hp2; cases hp2
                rw [k1] at q1; cases q1
                have hv2 : ∃ g2, Step g1 h1 w g2 (h1.put id (.fro cs')) w ∧ g2.place = g1.place ∧ ∀ (j : Nat) x, cs'[j]? = some x → ∃ v, g2.icell b (base + j) = some v ∧ v.oneCell' = true ∧ VR g2 x v := by
                  let g' : Gh := { g1 with icell := fun x o => if x = b ∧ base ≤ o ∧ o < base + cs.length then cur[o]? else g1.icell x o }
                  have hle' : g1.le g' := ⟨fun x o v hx => by
                    show (if x = b ∧ base ≤ o ∧ o < base + cs.length then cur[o]? else g1.icell x o) = some v
                    by_cases hxb : x = b
                    · subst hxb; rw [q6 o] at hx; cases hx
                    · rw [if_neg (fun hh => hxb hh.1)]; exact hx, fun _ _ hx => hx⟩
                  have cells : ∀ (j : Nat) x, cs'[j]? = some x → ∃ v, g'.icell b (base + j) = some v ∧ v.oneCell' = true ∧ VR g' x v := by
                    intro j x hx
                    have hj : j < cs.length := by rw [← l1]; exact (List.getElem?_eq_some_iff.1 hx).1
                    obtain ⟨v, a1, a2, a3⟩ := k5.get (i := j) (c := cs[j]) (by simp [hj])
                    rw [List.getElem?_take, if_pos hj, List.getElem?_drop] at a1
                    refine ⟨v, ?_, a2, (v1 j cs[j] x v (by simp [hj]) hx a3).mono hle'⟩
                    show (if b = b ∧ base ≤ base + j ∧ base + j < base + cs.length then cur[base + j]? else g1.icell b (base + j)) = some v
                    rw [if_pos ⟨rfl, by omega, by omega⟩]
                    simpa using a1
                  have wf1 := s1.wf
                  have hR1 := s1.r
                  refine ⟨g', ⟨⟨fun x o v hx => ?_, fun i ob hi => ?_, fun i j oi oj p q hi hj hpi hpj hij => ?_⟩, hle', .refl g1 h1 w, fun k hk => ?_, fun x o hne => ?_, fun i hne => absurd rfl hne, Nat.le_refl _, H.wf_put wf1 (H.lt_next wf1 hob1) _, fun k hk => ?_⟩, rfl, cells⟩
                  · have hx' : (if x = b ∧ base ≤ o ∧ o < base + cs.length then cur[o]? else g1.icell x o) = some v := hx
                    split at hx'
                    · rename_i hc
                      obtain ⟨rfl, _, _⟩ := hc
                      simp [World.cell?, k1, hx']
                    · exact hR1.ic _ _ _ hx'
                  · rw [H.get_put] at hi
                    split at hi
                    · rename_i e1; subst e1; cases hi
                      exact ⟨b, base, _, hp1, lt_of_get k1, cells⟩
                    · rename_i e1
                      refine (hR1.ob i ob hi).keep hle' (fun p hpp _ q => ?_) (Nat.le_refl _) (fun p hpp _ => rfl)
                      have hne : p.1 ≠ b := hR1.ex i id ob _ p (b, base, _) hi hob1 hpp hp1 e1
                      show (if p.1 = b ∧ base ≤ q ∧ q < base + cs.length then cur[q]? else g1.icell p.1 q) = g1.icell p.1 q
                      rw [if_neg (fun hh => hne hh.1)]
                  · rw [H.get_put] at hi hj
                    have back : ∀ i oi, (if i = id then some (CObj.fro cs') else h1.get i) = some oi → ∃ oi', h1.get i = some oi' := fun i oi hh => by
                      split at hh
                      · rename_i e1; subst e1; exact ⟨_, hob1⟩
                      · exact ⟨_, hh⟩
                    obtain ⟨oi', hi'⟩ := back i oi hi
                    obtain ⟨oj', hj'⟩ := back j oj hj
                    exact hR1.ex i j oi' oj' p q hi' hj' hpi hpj hij
                  · obtain ⟨i, o, p, hg, hm, hpi, rfl⟩ := hk
                    rw [H.get_put] at hg
                    split at hg
                    · cases hg; simp [CObj.mut] at hm
                    · exact .inl ⟨i, o, p, hg, hm, hpi, rfl⟩
                  · by_cases hxb : x = b
                    · subst hxb; exact .inl ⟨id, _, _, hob1, rfl, hp1, rfl⟩
                    · exfalso; apply hne
                      show (if x = b ∧ base ≤ o ∧ o < base + cs.length then cur[o]? else g1.icell x o) = g1.icell x o
                      rw [if_neg (fun hh => hxb hh.1)]
                  · obtain ⟨i, o, p, hg, hpi, rfl⟩ := hk
                    rw [H.get_put] at hg
                    split at hg
                    · rename_i e1; subst e1; exact .inl ⟨i, _, p, hob1, hpi, rfl⟩
                    · exact .inl ⟨i, o, p, hg, hpi, rfl⟩
                obtain ⟨g2, s2, pl2, c2⟩ := hv2
                refine ⟨g2, s1.trans s2, by rw [H.next_put]; exact n1, fun x hx => ?_⟩
                cases hx with
                | ref _ _ _ _ a c b' base' lim' hp' hc hor =>
                  rw [hp] at hp'; cases hp'
                  exact VR.lst_of_icells hl hc (hor.imp (fun q => q) And.left) (by rw [l1]; exact hle.1) c2
              · cases hr
            · cases hr
          · cases hr
        · rename_i cs hob
          split at hr
          · rename_i hle
            simp at hr; obtain ⟨rfl, rfl⟩ := hr
            refine ⟨g, .refl hR wf, rfl, fun x hx => ?_⟩
            cases hx with
            | ref _ _ _ _ a c b base lim hp hc hor =>
              obtain ⟨b', base', lim', hp', _, hcells⟩ := hR.ob id _ hob
              rw [hp] at hp'; cases hp'
              exact VR.lst_of_icells hl hc (hor.imp (fun q => q) And.left) hle.1 hcells
          · cases hr
        · cases hr
    · rename_i cs
      split at hr
      · rename_i cs' h1 hcs
        simp at hr; obtain ⟨rfl, rfl⟩ := hr
        obtain ⟨g1, s1, n1, l1, v1⟩ := frzL_sound ih cs cs' g h h1 w hR wf hcs
        refine ⟨g1, s1, n1, fun x hx => ?_⟩
        cases hx with
        | agg _ vs hl h1 h2 =>
          refine .agg _ _ (by rw [l1]; exact hl) h1 (fun i c v hc hv => ?_)
          have hi : i < cs.length := by rw [← l1]; exact (List.getElem?_eq_some_iff.1 hc).1
          exact v1 i cs[i] c v (by simp [hi]) hc (h2 i cs[i] v (by simp [hi]) hv)
      · cases hr
    · rename_i cs
      split at hr
      · rename_i cs' h1 hcs
        simp at hr; obtain ⟨rfl, rfl⟩ := hr
        obtain ⟨g1, s1, n1, l1, v1⟩ := frzL_sound ih cs cs' g h h1 w hR wf hcs
        refine ⟨g1, s1, n1, fun x hx => ?_⟩
        cases hx with
        | tup _ vs hl h2 =>
          refine .tup _ _ (by rw [l1]; exact hl) (fun i c v hc hv => ?_)
          have hi : i < cs.length := by rw [← l1]; exact (List.getElem?_eq_some_iff.1 hc).1
          exact v1 i cs[i] c v (by simp [hi]) hc (h2 i cs[i] v (by simp [hi]) hv)
      · cases hr
    · exact same hr

/-! ### Temporaries -/
def TmpR (g : Gh) (tm : List CV) (vs : Array Value) : Prop := tm.length = vs.size ∧ ∀ (i : Nat) c v, tm[i]? = some c → vs[i]? = some v → VR g c v
theorem TmpR.mono {g g' : Gh} (hg : g.le g') {tm : List CV} {vs : Array Value} (h : TmpR g tm vs) : TmpR g' tm vs := ⟨h.1, fun i c v p q => (h.2 i c v p q).mono hg⟩
theorem TmpR.set {g : Gh} {tm : List CV} {vs : Array Value} (h : TmpR g tm vs) (i : Nat) {c : CV} {v : Value} (hv : VR g c v) : TmpR g (tm.set i c) (vs.setIfInBounds i v) := by
  refine ⟨by simp [h.1], fun j d u hd hu => ?_⟩
  rw [List.getElem?_set] at hd
  rw [Array.getElem?_setIfInBounds] at hu
  by_cases e : i = j
  · subst e
    rw [if_pos rfl] at hd hu
    split at hd
    · cases hd
      split at hu
      · cases hu; exact hv
      · cases hu
    · cases hd
  · rw [if_neg e] at hd hu
    exact h.2 j d u hd hu
theorem TmpR.put {g : Gh} {tm : List CV} {a : Act} (h : TmpR g tm a.tmps) (dst : Option Tmp) {c : CV} {v : Value} (hv : VR g c v) : TmpR g (putC dst c tm) (a.put dst v).tmps := by
  cases dst with
  | none => exact h
  | some d => exact h.set d hv
theorem put_defers (a : Act) (dst : Option Tmp) (v : Value) : (a.put dst v).defers = a.defers := by cases dst <;> rfl
theorem TmpR.getD {g : Gh} {tm : List CV} {vs : Array Value} (h : TmpR g tm vs) (i : Nat) : VR g (tm.getD i (.tup [])) (vs.getD i undef) := by
  by_cases hi : i < tm.length
  · have hi' : i < vs.size := by rw [← h.1]; exact hi
    have := h.2 i tm[i] vs[i] (by simp [hi]) (by simp [hi'])
    simpa [hi, hi'] using this
  · have hi' : ¬ i < vs.size := by rw [← h.1]; exact hi
    rw [List.getD_eq_getElem?_getD, List.getElem?_eq_none (by omega), Array.getD, dif_neg hi']
    exact .tup [] #[] rfl (by simp)
def GlobOK (E : Env) (g : Gh) : Prop := ∀ gl cs, E.G gl = some cs → VR g (.iptr cs 0) (.pointer (some ⟨gl, 0, none⟩))
theorem GlobOK.mono {E : Env} {g g' : Gh} (hg : g.le g') (h : GlobOK E g) : GlobOK E g' := fun gl cs hc => (h gl cs hc).mono hg
theorem evC_sound {E : Env} {g : Gh} (hG : GlobOK E g) {tm : List CV} {a : Act} (h : TmpR g tm a.tmps) (x : Operand) : VR g (evC E tm x) (a.eval x) := by
  cases x with
  | tmp t => exact h.getD t
  | const v => exact .ofV g v
  | global gl =>
    simp only [evC, Act.eval]
    cases hc : E.G gl with
    | none => exact .undef _
    | some cs => exact hG gl cs hc
  | func f => exact .fn f [] #[] rfl (by simp)
theorem wanted_sound {g : Gh} {ops : List Oper} {o : Oper} {tm : List CV} {a : Act} (h : TmpR g tm a.tmps) {b : Bool} (hw : wantedC ops o tm = some b) : Region.wanted o (yielded ops.toArray a.tmps) = b := by
  unfold wantedC at hw
  unfold Region.wanted
  split at hw
  · rename_i hg; rw [hg]; simpa using hw
  · rename_i j want hg
    rw [hg]
    simp only [yielded, List.getElem?_toArray]
    split at hw
    · rename_i gd hgd
      split at hw
      · rename_i d hd
        split at hw
        · rename_i bb htm
          cases hw
          have hd' : d < a.tmps.size := by rw [← h.1]; exact (List.getElem?_eq_some_iff.1 htm).1
          have hv := h.2 d _ a.tmps[d] htm (by simp [hd'])
          simp only [hgd, Option.bind_some, hd]
          rw [Array.getElem?_eq_getElem hd']
          generalize a.tmps[d] = x at hv
          cases hv
          simp
        · rename_i htm
          cases hw
          have hd' : d < a.tmps.size := by rw [← h.1]; exact (List.getElem?_eq_some_iff.1 htm).1
          have hv := h.2 d _ a.tmps[d] htm (by simp [hd'])
          simp only [hgd, Option.bind_some, hd]
          rw [Array.getElem?_eq_getElem hd']
          generalize a.tmps[d] = x at hv
          cases hv
          simp
        · cases hw
        · rename_i htm
          cases hw
          have hd' : a.tmps[d]? = none := by
            rw [Array.getElem?_eq_none]
            rw [← h.1]
            exact List.getElem?_eq_none_iff.1 htm
          simp [hgd, hd, hd']
      · rename_i hd
        cases hw
        simp [hgd, hd]
    · rename_i hgd
      cases hw
      simp [hgd]
end Go.Cv
