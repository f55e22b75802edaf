/- What the machine's operations do to related values: slices made, cut and indexed. -/
import Derived.Test.YtjlabjncojhjkaaDoorCv7
import Derived.IntWalk
namespace Go.Cv
open Go

theorem bound_cases {g : Gh} {v : Option CV} {d hi : Nat} {n : Nat} (h : boundC v d hi = some n) {x : Option Value} (hx : (∀ c, v = some c → ∃ u, x = some u ∧ VR g c u) ∧ (v = none → x = none)) :
    (x = none ∧ v = none ∧ n = d) ∨ ∃ k z, x = some (.int k z) ∧ 0 ≤ z ∧ z ≤ (hi : Int) ∧ n = z.toNat ∧ v = some (.int k z) := by
  unfold boundC at h
  split at h
  · cases h; exact .inl ⟨hx.2 rfl, rfl, rfl⟩
  · rename_i k m
    split at h
    · rename_i hle
      cases h
      obtain ⟨u, h1, h2⟩ := hx.1 _ rfl
      cases h2
      exact .inr ⟨k, m, h1, hle.1, hle.2, rfl, rfl⟩
    · cases h
  · cases h

section
variable {E : Env} (hE : E.OK) {g : Gh} {h : H} {w : World} {a : Act} {o : Oper} {ev : Operand → CV} (hev : ∀ x, VR g (ev x) (a.eval x)) (hR : R g h w) (wf : WFH h) {v : CV} {h' : H}
include hE hev hR wf

theorem p_makeSlice {t : Nat} {l c : Operand} (ho : o.op = .makeSlice t l c) (hr : (primC E o ev).run h = some (v, h')) (hf : ∀ i, h.next ≤ i → i < h'.next → g.place i = none) : POut E g h w a o v h' := by
  simp only [primC, ho] at hr
  have hl := hev l
  have hc := hev c
  generalize hal : a.eval l = al at hl
  generalize hac : a.eval c = ac at hc
  split at hr
  · rename_i e sz bts zc0 fl hty
    have hT := hE.ty t _ hty
    split at hr
    · rename_i te hte
      split at hr
      · rename_i zc j n k m hz hel hec
        rw [hel] at hl
        rw [hec] at hc
        cases hl
        cases hc
        split at hr
        · rename_i hle
          obtain ⟨h0, h1, h2, h3, h4⟩ := hle
          simp [CM.run] at hr
          obtain ⟨rfl, rfl⟩ := hr
          have hf := hf h.next (Nat.le_refl _) (by rw [H.next_new]; omega)
          obtain ⟨i, z, hi, hzz, hv, hzl, _⟩ := (hE.ty _ _ hte).zeroes hz g
          obtain ⟨i', hi', hsz, hby⟩ := (hE.ty _ _ hte).info
          rw [hi] at hi'; cases hi'
          have hzs : z.cells.size = te.sz := by have := hv.1; simp at this; omega
          have hfull := range_rep_arr z.cells (by omega) m.toNat
          rw [hzs] at hfull
          have w64 : ∀ q : Int, 0 ≤ q → q ≤ 140737488355328 → IntKind.i64.wrap q = q := fun q q0 q1 => IntWalk.i64_in q (by omega)
          have wm := w64 m (by omega) h2
          have wn := w64 n h0 (by omega)
          refine ⟨_, w.alloc (.cells ((Array.range (m.toNat * te.sz)).map fun i => z.cells[i % z.cells.size]!) e), .slice (some ⟨w.heap.size, 0, none⟩) n.toNat m.toNat, .inl ?_,
            .ref h.next 0 n.toNat te.sz ⟨w.heap.size, 0, none⟩ m.toNat w.heap.size 0 _ (Gh.at_same _ _ _) (by omega) (.inr ⟨rfl, ?_⟩), Step.newCells hR wf hf (e := e) (vs := (Array.range (m.toNat * te.sz)).map fun i => z.cells[i % z.cells.size]!) ?_ rfl rfl rfl rfl⟩
          · have eb : ¬ ((i.bytes : Int) * m > 2 ^ 48) := by
              rw [hby]
              have : (te.bts : Int) * m = m * te.bts := Int.mul_comm _ _
              omega
            have eb' : ¬ ((i.bytes : Int) * n > 2 ^ 48) := by
              have : (i.bytes : Int) * n ≤ i.bytes * m := Int.mul_le_mul_of_nonneg_left h1 (by omega)
              omega
            have er : ¬ (m.toNat * i.bytes > roomBytes) := by
              have e1 : ((m.toNat * i.bytes : Nat) : Int) = m * te.bts := by
                rw [Int.natCast_mul, Int.toNat_of_nonneg (by omega), hby]
              have : roomBytes = 140737488355328 := by decide
              omega
            simp only [execOp, ho, Sem.run_bind, hal, hac, Instr.makeSlice, run_underlying (hT.slice rfl), Result.andThen_ok, asInt, asIntOf, Sem.run_pure, typeInfo, run_program, hi, wm, wn]
            rw [show (decide (m < 0) || decide ((i.bytes : Int) * m > 2 ^ 48)) = false by simp; omega, show decide (n < 0) = false by simp; omega, show decide (n > m) = false by simp; omega]
            simp only [Bool.or_self, Bool.false_eq_true, if_false, Sem.run_bind, askRoom, Sem.run_ite, if_neg er, Sem.run_pure, Result.andThen_ok, (hE.ty _ _ hte).sizeOf]
            by_cases hz0 : m.toNat * te.sz = 0
            · have hm0 : m.toNat = 0 := by
                rcases Nat.mul_eq_zero.1 hz0 with h | h
                · exact h
                · omega
              have hr0 : Array.range 0 = #[] := rfl
              simp [hm0, hr0, newRow]
            · rw [if_neg hz0]
              simp [zeroValue, typeInfo, hi, hzz, newRow]
          · simp
          · have hlen : (List.replicate n.toNat zc).flatten.length = n.toNat * te.sz := by simp [hzl]
            rw [hlen, show z.cells.size = te.sz from hzs, hfull]
            have e1 : (List.replicate m.toNat z.cells.toList).flatten.take (n.toNat * te.sz) = (List.replicate n.toNat z.cells.toList).flatten := by
              have : m.toNat = n.toNat + (m.toNat - n.toNat) := by omega
              rw [this, ← List.replicate_append_replicate, List.flatten_append, List.take_append_of_le_length (by simp [hzs]), List.take_of_length_le (by simp [hzs])]
            rw [e1]
            exact hv.rep _
        · simp [CM.run] at hr
      · simp [CM.run] at hr
    · simp [CM.run] at hr
  · simp [CM.run] at hr

omit hE hR wf in
theorem optEv (x : Option Operand) : (∀ c, x.map ev = some c → ∃ u, x.map a.eval = some u ∧ VR g c u) ∧ (x.map ev = none → x.map a.eval = none) := by
  cases x with
  | none => simp
  | some y => simp; exact hev y

omit hE hev hR wf in
theorem run_bounds {P : Program} {lo hi mx : Option CV} {lo' hi' mx' : Option Value} (hlo : (∀ c, lo = some c → ∃ u, lo' = some u ∧ VR g c u) ∧ (lo = none → lo' = none)) (hhi : (∀ c, hi = some c → ∃ u, hi' = some u ∧ VR g c u) ∧ (hi = none → hi' = none))
    (hmx : (∀ c, mx = some c → ∃ u, mx' = some u ∧ VR g c u) ∧ (mx = none → mx' = none)) (hno : (mx.isSome && hi.isNone) = false) {len cap m hh l : Nat} (hcap : len ≤ cap) (h1 : boundC mx len len = some m) (h2 : boundC hi (min len m) m = some hh) (h3 : boundC lo 0 hh = some l) (isS : Bool) :
    ∃ m', (Instr.sliceBounds isS len cap lo' hi' mx').run P w = .ok (l, hh, m') w ∧ l ≤ hh ∧ hh ≤ m' ∧ m' ≤ cap ∧ hh ≤ len := by
  rcases bound_cases h1 hmx with ⟨rfl, rfl, rfl⟩ | ⟨km, zm, rfl, m0, m1, rfl, rfl⟩
  · rcases bound_cases h2 hhi with ⟨rfl, rfl, e2⟩ | ⟨kh, zh, rfl, g0, g1, rfl, rfl⟩
    · rw [Nat.min_self] at e2; subst e2
      rcases bound_cases h3 hlo with ⟨rfl, rfl, rfl⟩ | ⟨kl, zl, rfl, l0, l1, rfl, rfl⟩
      · exact ⟨cap, by simp [Instr.sliceBounds], Nat.zero_le _, hcap, Nat.le_refl _, Nat.le_refl _⟩
      · exact ⟨cap, by simp [Instr.sliceBounds, run_sliceBound w kl zl hh _ l0 l1], by omega, hcap, Nat.le_refl _, Nat.le_refl _⟩
    · have gc : zh ≤ (cap : Int) := by omega
      rcases bound_cases h3 hlo with ⟨rfl, rfl, rfl⟩ | ⟨kl, zl, rfl, l0, l1, rfl, rfl⟩
      · exact ⟨cap, by cases isS <;> simp [Instr.sliceBounds, run_sliceBound w kh zh cap _ g0 gc], Nat.zero_le _, by omega, Nat.le_refl _, by omega⟩
      · exact ⟨cap, by cases isS <;> simp [Instr.sliceBounds, run_sliceBound w kh zh cap _ g0 gc, run_sliceBound w kl zl zh.toNat _ l0 l1], by omega, by omega, Nat.le_refl _, by omega⟩
  · have mc : zm ≤ (cap : Int) := by omega
    rcases bound_cases h2 hhi with ⟨rfl, rfl, e2⟩ | ⟨kh, zh, rfl, g0, g1, rfl, rfl⟩
    · simp at hno
    · rcases bound_cases h3 hlo with ⟨rfl, rfl, rfl⟩ | ⟨kl, zl, rfl, l0, l1, rfl, rfl⟩
      · exact ⟨zm.toNat, by cases isS <;> simp [Instr.sliceBounds, run_sliceBound w km zm cap _ m0 mc, run_sliceBound w kh zh zm.toNat _ g0 g1], Nat.zero_le _, by omega, by omega, by omega⟩
      · exact ⟨zm.toNat, by cases isS <;> simp [Instr.sliceBounds, run_sliceBound w km zm cap _ m0 mc, run_sliceBound w kh zh zm.toNat _ g0 g1, run_sliceBound w kl zl zh.toNat _ l0 l1], by omega, by omega, by omega, by omega⟩

theorem p_slice {t : Nat} {x : Operand} {lo hi mx : Option Operand} (ho : o.op = .slice t x lo hi mx) (hr : (primC E o ev).run h = some (v, h')) : POut E g h w a o v h' := by
  simp only [primC, ho] at hr
  have hx := hev x
  generalize hax : a.eval x = ax at hx
  generalize hex : ev x = ex at hx hr
  cases hb : sliceC E t ex (lo.map ev) (hi.map ev) (mx.map ev) with
  | none => simp [hb, CM.ofO, CM.run] at hr
  | some r =>
    simp [hb, CM.ofO, CM.run] at hr
    obtain ⟨rfl, rfl⟩ := hr
    have olo := optEv (g := g) (a := a) hev lo
    have ohi := optEv (g := g) (a := a) hev hi
    have omx := optEv (g := g) (a := a) hev mx
    unfold sliceC at hb
    split at hb
    · cases hb
    rename_i hno
    have hno' : ((mx.map ev).isSome && (hi.map ev).isNone) = false := Bool.eq_false_iff.2 hno
    split at hb
    · rename_i s
      cases hx
      split at hb
      · cases hb
      · rename_i hm
        have hmx : mx = none := by cases mx <;> simp at hm ⊢
        subst hmx
        split at hb
        · rename_i sz bts zc fl hty
          split at hb
          · rename_i hh hhi
            split at hb
            · rename_i ll hlo
              cases hb
              have hsz : (⟨s.toArray⟩ : ByteArray).size = s.length := by simp [ByteArray.size]
              obtain ⟨m', k1, k2, k3, k4, k5⟩ := run_bounds (P := E.P) (w := w) (len := s.length) (cap := s.length) (m := s.length) (hh := hh) (l := ll) olo ohi omx hno' (Nat.le_refl _) rfl (by rw [Nat.min_self]; exact hhi) hlo false
              refine .val hR wf (v' := .string ((⟨s.toArray⟩ : ByteArray).extract ll hh)) ?_ ?_
              · have hu := (hE.ty t _ hty).str rfl
                simp only [execOp, ho, Sem.run_bind, hax, Instr.sliceAt, run_underlying hu, Result.andThen_ok, Instr.slice, hsz]
                simp only [Option.map_none] at k1 ⊢
                simp [k1]
              · have : ((⟨s.toArray⟩ : ByteArray).extract ll hh) = ⟨((s.take hh).drop ll).toArray⟩ := by
                  apply ByteArray.ext
                  simp [ByteArray.data_extract, List.extract_eq_take_drop, List.drop_take]
                rw [this]
                exact .str _
            · cases hb
          · cases hb
        · cases hb
    · split at hb
      · rename_i e sz bts zc fl hty
        split at hb
        · rename_i te hte
          split at hb
          · rename_i m hh ll h1 h2 h3
            cases hb
            cases hx
            have hm0 : m = 0 := by
              unfold boundC at h1
              split at h1
              · cases h1; rfl
              · split at h1
                · cases h1; omega
                · cases h1
              · cases h1
            have hh0 : hh = 0 := by
              unfold boundC at h2
              split at h2
              · cases h2; rfl
              · split at h2
                · cases h2; omega
                · cases h2
              · cases h2
            subst hm0; subst hh0
            obtain ⟨m', k1, k2, k3, k4, k5⟩ := run_bounds (P := E.P) (w := w) (len := 0) (cap := 0) olo ohi omx hno' (Nat.le_refl _) h1 (by simpa using h2) h3 true
            refine .val hR wf (v' := .slice none 0 0) ?_ .nils
            have hu := (hE.ty t _ hty).slice rfl
            have hl0 : ll = 0 := by omega
            have hm0 : m' = 0 := by omega
            subst hl0; subst hm0
            simp [execOp, ho, hax, Instr.sliceAt, run_underlying hu, Instr.slice, k1, (hE.ty e te hte).sizeOf]
          · cases hb
        · cases hb
      · cases hb
    · rename_i sz xs
      split at hb
      · rename_i e tsz bts zc fl hty
        split at hb
        · rename_i te hte
          split at hb
          · rename_i hsz
            split at hb
            · rename_i m h1
              split at hb
              · rename_i hh h2
                split at hb
                · rename_i ll h3
                  cases hb
                  have hu := (hE.ty t _ hty).slice rfl
                  have run : ∀ A c, ax = .slice A xs.length c → xs.length ≤ c → ∃ m', (execOp a.eval o).run E.P w = .ok (.value (.slice (if m' = ll then A else A.map (·.add (ll * te.sz))) (hh - ll) (m' - ll))) w ∧ ll ≤ hh ∧ hh ≤ m' ∧ m' ≤ c ∧ hh ≤ xs.length := by
                    intro A c hA hc
                    obtain ⟨m', k1, k2, k3, k4, k5⟩ := run_bounds (P := E.P) (w := w) (len := xs.length) (cap := c) olo ohi omx hno' hc h1 h2 h3 true
                    refine ⟨m', ?_, k2, k3, k4, k5⟩
                    simp [execOp, ho, hax, hA, Instr.sliceAt, run_underlying hu, Instr.slice, k1, (hE.ty e te hte).sizeOf]
                  cases hx with
                  | lst0 _ A c =>
                    obtain ⟨m', r1, r2, r3, r4, r5⟩ := run A c rfl (Nat.zero_le _)
                    simp at r5; subst r5
                    have : ll = 0 := by omega
                    subst this
                    exact .val hR wf r1 (by simpa using VR.lst0 sz _ _)
                  | lst _ _ ad c val hs hc hz g1 g2 =>
                    obtain ⟨m', r1, r2, r3, r4, r5⟩ := run (some ad) c rfl hc
                    refine .val hR wf r1 ?_
                    by_cases he : hh = ll
                    · subst he
                      have : (xs.take hh).drop hh = [] := by simp
                      rw [this, Nat.sub_self]
                      exact .lst0 _ _ _
                    · rw [if_neg (by omega), hsz]
                      have hlen : ((xs.take hh).drop ll).length = hh - ll := by simp; omega
                      have := VR.lst (g := g) sz ((xs.take hh).drop ll) (ad.add (ll * sz)) (m' - ll) (fun i j => val (ll + i) j) ?_ (by rw [hlen]; omega) (fun i x hi => ?_) (fun i x j y hi hj => ?_) (fun i x j y hi hj => ?_)
                      · rw [hlen] at this; simpa using this
                      · cases ad; simp at hs; subst hs; rw [addr_add]
                      · rw [List.getElem?_drop, List.getElem?_take] at hi
                        split at hi
                        · exact hz _ _ hi
                        · cases hi
                      · rw [List.getElem?_drop, List.getElem?_take] at hi
                        split at hi
                        · have := g1 _ _ _ _ hi hj
                          cases ad; simp at hs; subst hs
                          rw [addr_add]
                          rw [Nat.add_mul, ← Nat.add_assoc] at this
                          exact this
                        · cases hi
                      · rw [List.getElem?_drop, List.getElem?_take] at hi
                        split at hi
                        · exact g2 _ _ _ _ hi hj
                        · cases hi
                · cases hb
              · cases hb
            · cases hb
          · cases hb
        · cases hb
      · cases hb
    · rename_i id off len sz
      split at hb
      · rename_i e tsz bts zc fl hty
        split at hb
        · rename_i te hte
          split at hb
          · rename_i hsz
            split at hb
            · rename_i m h1
              split at hb
              · rename_i hh h2
                split at hb
                · rename_i ll h3
                  cases hb
                  have hu := (hE.ty t _ hty).slice rfl
                  cases hx with
                  | ref _ _ _ _ ad c b base lim hp hc hor =>
                    obtain ⟨m', k1, k2, k3, k4, k5⟩ := run_bounds (P := E.P) (w := w) (len := len) (cap := c) olo ohi omx hno' hc h1 h2 h3 true
                    have r1 : (execOp a.eval o).run E.P w = .ok (.value (.slice (if m' = ll then some ad else some (ad.add (ll * te.sz))) (hh - ll) (m' - ll))) w := by
                      simp [execOp, ho, hax, Instr.sliceAt, run_underlying hu, Instr.slice, k1, (hE.ty e te hte).sizeOf]
                    refine .val hR wf r1 ?_
                    by_cases he : m' = ll
                    · rw [if_pos he]
                      exact .ref id (off + ll * sz) (hh - ll) sz ad (m' - ll) b base lim hp (by omega) (.inl (by omega))
                    · rw [if_neg he, hsz]
                      refine .ref id (off + ll * sz) (hh - ll) sz _ (m' - ll) b base lim hp (by omega) (.inr ?_)
                      rcases hor with hz | ⟨rfl, hle⟩
                      · omega
                      · rw [addr_add]
                        refine ⟨by rw [Nat.add_assoc], ?_⟩
                        have e1 : ll * sz + (m' - ll) * sz = m' * sz := by rw [← Nat.add_mul]; congr 1; omega
                        have e2 : m' * sz ≤ c * sz := Nat.mul_le_mul_right _ k4
                        omega
                · cases hb
              · cases hb
            · cases hb
          · cases hb
        · cases hb
      · cases hb
    · cases hb

theorem p_indexAddr {t : Nat} {x i : Operand} (ho : o.op = .indexAddr t x i) (hr : (primC E o ev).run h = some (v, h')) : POut E g h w a o v h' := by
  simp only [primC, ho] at hr
  have hx := hev x
  have hi := hev i
  generalize hax : a.eval x = ax at hx
  generalize hai : a.eval i = ai at hi
  generalize hex : ev x = ex at hx hr
  split at hr
  · rename_i e sz bts zc fl hty
    have hT := hE.ty t _ hty
    split at hr
    · rename_i te hte
      split at hr
      · rename_i k n hei
        rw [hei] at hi
        cases hi
        have run : ∀ ad len c, ax = .slice (some ad) len c → 0 ≤ n → n < (len : Int) → (execOp a.eval o).run E.P w = .ok (.value (.pointer (some (ad.add (n.toNat * te.sz))))) w := by
          intro ad len c hA h0 h1
          simp [execOp, ho, hax, hA, hai, Instr.indexAt, asIntOf, run_underlying (hT.slice rfl), h0, h1, (hE.ty e te hte).sizeOf]
        split at hr
        · rename_i sz' xs
          split at hr
          · rename_i hc
            split at hr
            · rename_i y hy
              simp [CM.run] at hr
              obtain ⟨rfl, rfl⟩ := hr
              have hlt : n.toNat < xs.length := (List.getElem?_eq_some_iff.1 hy).1
              cases hx with
              | lst0 _ A c => simp at hlt
              | lst _ _ ad c val hs hcc hz g1 g2 =>
                refine .val hR wf (run ad _ c rfl hc.2 (by omega)) ?_
                cases ad; simp at hs; subst hs
                rename_i b o'
                rw [addr_add, ← hc.1]
                exact .iptr y 0 b (o' + n.toNat * sz') (fun j => val n.toNat j) (fun j u hu => g1 _ _ _ _ hy hu) (fun j u hu => g2 _ _ _ _ hy hu)
            · simp [CM.run] at hr
          · simp [CM.run] at hr
        · rename_i id off len sz'
          split at hr
          · rename_i hc
            simp [CM.run] at hr
            obtain ⟨rfl, rfl⟩ := hr
            cases hx with
            | ref _ _ _ _ ad c b base lim hp hcc hor =>
              refine .val hR wf (run ad _ c rfl hc.2.1 hc.2.2) ?_
              rcases hor with hz | ⟨rfl, hle⟩
              · omega
              · rw [addr_add, ← hc.1, Nat.add_assoc]
                exact .ptr id _ b base lim hp
          · simp [CM.run] at hr
        · simp [CM.run] at hr
      · simp [CM.run] at hr
    · simp [CM.run] at hr
  · rename_i len e sz bts zc fl hty
    have hT := hE.ty t _ hty
    split at hr
    · rename_i te hte
      split at hr
      · rename_i k n hei
        rw [hei] at hi
        cases hi
        split at hr
        · rename_i hc
          have run : ∀ ad : Addr, ax = .pointer (some ad) → (execOp a.eval o).run E.P w = .ok (.value (.pointer (some (ad.add (n.toNat * te.sz))))) w := by
            intro ad hA
            simp [execOp, ho, hax, hA, hai, Instr.indexAt, Instr.sureAddr, asIntOf, run_underlying (hT.arr rfl), hc.1, hc.2, (hE.ty e te hte).sizeOf]
          split at hr
          · rename_i id off
            simp [CM.run] at hr
            obtain ⟨rfl, rfl⟩ := hr
            cases hx with
            | ptr _ _ b base lim hp =>
              refine .val hR wf (run _ rfl) ?_
              rw [addr_add]
              have := VR.ptr (g := g) id (off + n.toNat * te.sz) b base lim hp
              rwa [← Nat.add_assoc] at this
          · rename_i cs off
            simp [CM.run] at hr
            obtain ⟨rfl, rfl⟩ := hr
            cases hx with
            | iptr _ _ b o' val h1 h2 =>
              refine .val hR wf (run _ rfl) ?_
              rw [addr_add]
              have := VR.iptr (g := g) cs (off + n.toNat * te.sz) b o' val h1 h2
              rwa [← Nat.add_assoc] at this
          · simp [CM.run] at hr
        · simp [CM.run] at hr
      · simp [CM.run] at hr
    · simp [CM.run] at hr
  · simp [CM.run] at hr

theorem p_index {t : Nat} {x i : Operand} (ho : o.op = .index t x i) (hr : (primC E o ev).run h = some (v, h')) : POut E g h w a o v h' := by
  simp only [primC, ho] at hr
  have hx := hev x
  have hi := hev i
  generalize hax : a.eval x = ax at hx
  generalize hai : a.eval i = ai at hi
  generalize hex : ev x = ex at hx hr
  split at hr
  · rename_i k n hei
    rw [hei] at hi
    cases hi
    split at hr
    · rename_i h0
      split at hr
      · rename_i s
        split at hr
        · rename_i ty hty
          split at hr
          · rename_i b hb
            simp [CM.run] at hr
            obtain ⟨rfl, rfl⟩ := hr
            cases hx
            refine .val hR wf (v' := .int .u8 b.toNat) ?_ (.int _ _)
            have hb' : (⟨s.toArray⟩ : ByteArray)[n.toNat]? = some b := by
              have hlt : n.toNat < s.length := (List.getElem?_eq_some_iff.1 hb).1
              have hlt' : n.toNat < (⟨s.toArray⟩ : ByteArray).size := by simpa [ByteArray.size] using hlt
              rw [getElem?_pos (⟨s.toArray⟩ : ByteArray) n.toNat hlt']
              congr 1
              have := (List.getElem?_eq_some_iff.1 hb).2
              rw [← this]
              rfl
            simp [execOp, ho, hax, hai, Instr.index, asIntOf, run_underlying ((hE.ty t _ hty).str rfl), h0, hb']
          · simp [CM.run] at hr
        · simp [CM.run] at hr
      · rename_i cs
        split at hr
        · rename_i len e sz bts zc fl hty
          split at hr
          · rename_i te hte
            split at hr
            · rename_i hc
              cases hld : ldC te.agg te.sz cs (n.toNat * te.sz) with
              | none => simp [hld, CM.ofO, CM.run] at hr
              | some u =>
                simp [hld, CM.ofO, CM.run] at hr
                obtain ⟨rfl, rfl⟩ := hr
                cases ax with
                | agg us =>
                  obtain ⟨v', p1, p2⟩ := part_sound (w := w) (hE.ty e te hte) (VRL.of_agg hx) hc.2 hld
                  refine .val hR wf (v' := v') ?_ p2
                  simp [execOp, ho, hax, hai, Instr.index, asIntOf, run_underlying ((hE.ty t _ hty).arr rfl), h0, hc.1, (hE.ty e te hte).sizeOf, p1]
                | _ => cases hx
            · simp [CM.run] at hr
          · simp [CM.run] at hr
        · simp [CM.run] at hr
      · simp [CM.run] at hr
    · simp [CM.run] at hr
  · simp [CM.run] at hr
end
end Go.Cv
