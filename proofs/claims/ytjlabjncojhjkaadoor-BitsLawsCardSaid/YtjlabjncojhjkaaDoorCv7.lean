/- What the machine's operations do to related values: conversions, slices made and cut, elements. -/
import Derived.Test.YtjlabjncojhjkaaDoorCv6
import Derived.Laws.BytesString
namespace Go.Cv
open Go

theorem byteCells_sound {g : Gh} : ∀ {cs : List CV} {vs : List Value} {bs : List UInt8}, VRL g cs vs → byteCells cs = some bs → ∃ ns : List Int, vs = ns.map (fun n => .int .u8 n) ∧ bs = ns.map fun n => UInt8.ofNat n.toNat
  | [], vs, bs, hv, h => by
    have := hv.1
    simp [byteCells] at h; subst h
    cases vs <;> simp at this
    exact ⟨[], rfl, rfl⟩
  | c :: cs, vs, bs, hv, h => by
    cases vs with
    | nil => have := hv.1; simp at this
    | cons v vs =>
      obtain ⟨h1, _, h3⟩ := hv.head
      unfold byteCells at h
      split at h
      · rename_i heq; cases heq
      · rename_i n r heq
        cases heq
        cases hb : byteCells cs with
        | none => simp [hb] at h
        | some bs' =>
          simp [hb] at h; subst h
          obtain ⟨ns, k1, k2⟩ := byteCells_sound h3 hb
          cases h1
          exact ⟨n :: ns, by simp [k1], by simp [k2]⟩
      · cases h
theorem foldl_push : ∀ (ns : List Int) (s : ByteArray), ns.foldl (fun r n => r.push (UInt8.ofNat n.toNat)) s = ⟨s.data ++ (ns.map fun n => UInt8.ofNat n.toNat).toArray⟩
  | [], s => by simp
  | n :: ns, s => by
    rw [List.foldl_cons, foldl_push ns]
    simp [ByteArray.push]
theorem bytesToString_run {P : Program} {w : World} (a : Addr) (c : Nat) (ns : List Int) (h : (loadCells a ns.length).run P w = .ok (ns.map (fun n => Value.int .u8 n)).toArray w) :
    (Conv.bytesToString (.slice (some a) ns.length c)).run P w = .ok (.string ⟨(ns.map fun n => UInt8.ofNat n.toNat).toArray⟩) w := by
  rw [run_bytesToString w a ns.length c ns h, foldl_push]
  simp [ByteArray.empty, ByteArray.emptyWithCapacity]
  rfl

/-- A row that is read: its cells, where they stand now. -/
theorem rowC_sound {g : Gh} {h : H} {w : World} (hR : R g h w) {x : CV} {v : Value} (hx : VR g x v) {cs : List CV} {h' : H} (hr : (rowC x).run h = some (cs, h')) :
    h' = h ∧ ∃ n, lenC x = some n ∧ ((v = .slice none 0 0 ∧ n = 0 ∧ cs = []) ∨
      ∃ A c vs, v = .slice A n c ∧ n ≤ c ∧ VRL g cs vs ∧ (vs ≠ [] → ∃ b o, A = some ⟨b, o, none⟩ ∧ ∀ (j : Nat) u, vs[j]? = some u → w.cell? ⟨b, o + j, none⟩ = some u)) := by
  unfold rowC at hr
  split at hr
  · simp [CM.run] at hr
    obtain ⟨rfl, rfl⟩ := hr
    cases hx
    exact ⟨rfl, 0, rfl, .inl ⟨rfl, rfl, rfl⟩⟩
  · rename_i sz xs
    simp [CM.run] at hr
    obtain ⟨rfl, rfl⟩ := hr
    refine ⟨rfl, xs.length, rfl, ?_⟩
    cases hx with
    | lst0 _ A c => exact .inr ⟨A, c, [], rfl, Nat.zero_le _, by simpa using VRL.nil g, fun h => absurd rfl h⟩
    | lst _ _ ad c val hs hc hz h1 h2 =>
      have main : CellsAt g w ad.block ad.off xs.flatten := by
        have gen : ∀ (ys : List (List CV)) (k : Nat), (∀ (i : Nat) (x : List CV), ys[i]? = some x → x.length = sz) →
            (∀ (i : Nat) (x : List CV) (j : Nat) (y : CV), ys[i]? = some x → x[j]? = some y → ∃ u, w.cell? ⟨ad.block, ad.off + (k + i) * sz + j, none⟩ = some u ∧ u.oneCell' = true ∧ VR g y u) → CellsAt g w ad.block (ad.off + k * sz) ys.flatten := by
          intro ys
          induction ys with
          | nil => intro k _ _ j c hj; simp at hj
          | cons y ys ih =>
            intro k hz' hc' j c hj
            rw [List.flatten_cons, List.getElem?_append] at hj
            have hy : y.length = sz := hz' 0 y rfl
            split at hj
            · obtain ⟨u, a1, a2, a3⟩ := hc' 0 y j c rfl hj
              exact ⟨u, by simpa using a1, a2, a3⟩
            · rename_i hge
              obtain ⟨u, a1, a2, a3⟩ := ih (k + 1) (fun i x hi => hz' (i + 1) x (by simpa using hi)) (fun i x j y hi hj => by
                have := hc' (i + 1) x j y (by simpa using hi) hj
                rwa [show k + (i + 1) = k + 1 + i from by omega] at this) (j - y.length) c hj
              refine ⟨u, ?_, a2, a3⟩
              rw [hy] at a1 hge
              rwa [show ad.off + (k + 1) * sz + (j - sz) = ad.off + k * sz + j from by rw [Nat.succ_mul]; omega] at a1
        have := gen xs 0 hz (fun i x j y hi hj => ⟨val i j, by have := hR.ic _ _ _ (h1 i x j y hi hj).1; simpa using this, (h1 i x j y hi hj).2, h2 i x j y hi hj⟩)
        simpa using this
      obtain ⟨vs, k1, k2⟩ := main.vals
      refine .inr ⟨some ad, c, vs, rfl, hc, k1, fun _ => ⟨ad.block, ad.off, ?_, k2⟩⟩
      cases ad; simp at hs; subst hs; rfl
  · rename_i id off len sz
    simp only [CM.run] at hr
    split at hr
    · rename_i ob hob
      have main : ∀ cs0 : List CV, (ob = .cells cs0 ∨ ob = .fro cs0) → off + len * sz ≤ cs0.length → cs = (cs0.drop off).take (len * sz) → h' = h → h' = h ∧ ∃ n, lenC (.ref id off len sz) = some n ∧ ((v = .slice none 0 0 ∧ n = 0 ∧ cs = []) ∨
      ∃ A c vs, v = .slice A n c ∧ n ≤ c ∧ VRL g cs vs ∧ (vs ≠ [] → ∃ b o, A = some ⟨b, o, none⟩ ∧ ∀ (j : Nat) u, vs[j]? = some u → w.cell? ⟨b, o + j, none⟩ = some u)) := by
        intro cs0 hc hle hcs hh
        refine ⟨hh, len, rfl, .inr ?_⟩
        cases hx with
        | ref _ _ _ _ ad c b base lim hp hcc hor =>
          obtain ⟨vs, k1, k2⟩ := (((CellsAt.of_obj hR hob hc hp).drop off).take (len * sz)).vals
          rw [← hcs] at k1
          refine ⟨some ad, c, vs, rfl, hcc, k1, fun hne => ?_⟩
          rcases hor with hz | ⟨hz, _⟩
          · exfalso
            have : len = 0 := by omega
            rw [this] at hcs
            simp at hcs
            rw [hcs] at k1
            have := k1.1
            cases vs <;> simp at this hne
          · exact ⟨b, base + off, by rw [hz], k2⟩
      split at hr
      · rename_i cs0
        split at hr
        · rename_i hle
          simp [CM.run] at hr
          exact main cs0 (.inl rfl) hle hr.1.symm hr.2.symm
        · simp [CM.run] at hr
      · rename_i cs0
        split at hr
        · rename_i hle
          simp [CM.run] at hr
          exact main cs0 (.inr rfl) hle hr.1.symm hr.2.symm
        · simp [CM.run] at hr
      · simp [CM.run] at hr
    · cases hr
  · simp [CM.run] at hr
theorem CM.run_bind {α β : Type} (x : CM α) (f : α → CM β) (h : H) : (x.bind f).run h = match x.run h with | some (a, h1) => (f a).run h1 | none => none := by
  induction x generalizing h with
  | pure a => rfl
  | fail => rfl
  | get i k ih =>
    simp only [CM.bind, CM.run]
    cases h.get i with
    | none => rfl
    | some o => exact ih o h
  | put i o k ih =>
    simp only [CM.bind, CM.run]
    cases h.get i with
    | none => rfl
    | some ob => cases ob <;> first | rfl | exact ih _
  | del i k ih =>
    simp only [CM.bind, CM.run]
    cases h.get i with
    | none => rfl
    | some ob => cases ob <;> first | rfl | exact ih _
  | new o k ih => simp only [CM.bind, CM.run]; exact ih _ _

section
variable {E : Env} (hE : E.OK) {g : Gh} {h : H} {w : World} {a : Act} {o : Oper} {ev : Operand → CV} (hev : ∀ x, VR g (ev x) (a.eval x)) (hR : R g h w) (wf : WFH h) {v : CV} {h' : H}
include hE hev hR wf

theorem p_convert {s d : Nat} {x : Operand} (ho : o.op = .convert s d x) (hr : (primC E o ev).run h = some (v, h')) : POut E g h w a o v h' := by
  simp only [primC, ho] at hr
  have hx := hev x
  generalize hax : a.eval x = ax at hx
  generalize hex : ev x = ex at hx hr
  split at hr
  · rename_i ts td hts htd
    have hs := hE.ty s ts hts
    have hd := hE.ty d td htd
    obtain ⟨us, hus⟩ : ∃ u, E.P.underlying s = some u := by
      cases hk : ts.kd with
      | int k => exact ⟨_, hs.int hk⟩
      | bool => exact ⟨_, hs.bool hk⟩
      | str => exact ⟨_, hs.str hk⟩
      | slice e => exact ⟨_, hs.slice hk⟩
      | ptr e => exact ⟨_, hs.ptr hk⟩
      | map k e => exact ⟨_, hs.map hk⟩
      | struct fs => obtain ⟨F, hF, _⟩ := hs.struct hk; exact ⟨_, hF⟩
      | arr n e => exact ⟨_, hs.arr hk⟩
      | other =>
        have := hs.kd; rw [hk] at this; simp only [kdChk] at this
        cases hu : E.P.underlying s with
        | none => simp [hu] at this
        | some u => exact ⟨u, rfl⟩
    have bytes : ∀ (e : Nat), ts.kd = .slice e → td.kd = .str → (∀ te, E.T e = some te → te.kd = .int .u8 → E.P.underlying e = some (.int .u8)) → ∀ ns : List Int, ∀ A c, ax = .slice A ns.length c → (∀ ad, A = some ad → (loadCells ad ns.length).run E.P w = .ok (ns.map (fun n => Value.int .u8 n)).toArray w) → (A = none → ns = []) → E.P.underlying e = some (.int .u8) →
        POut E g h w a o (.str (ns.map fun n => UInt8.ofNat n.toNat)) h := by
      intro e hk1 hk2 _ ns A c hA hl hn hue
      refine .val hR wf (v' := .string ⟨(ns.map fun n => UInt8.ofNat n.toNat).toArray⟩) ?_ (.str _)
      have hrun : (Conv.bytesToString ax).run E.P w = .ok (.string ⟨(ns.map fun n => UInt8.ofNat n.toNat).toArray⟩) w := by
        rw [hA]
        cases A with
        | none => rw [hn rfl]; simp [Conv.bytesToString]; rfl
        | some ad => exact bytesToString_run ad c ns (hl ad rfl)
      simp only [execOp, ho, Sem.run_bind, hax, convert, run_underlying (hs.slice hk1), run_underlying (hd.str hk2), Result.andThen_ok]
      rw [hA] at hrun ⊢
      simp only [Sem.run_bind, run_underlying hue, Result.andThen_ok, hrun, Sem.run_pure]
    split at hr
    · rename_i k j n hk
      simp [CM.run] at hr
      obtain ⟨rfl, rfl⟩ := hr
      cases hx
      refine .val hR wf (v' := .int k (k.wrap n)) ?_ (.int _ _)
      simp only [execOp, ho, Sem.run_bind, hax, convert, run_underlying hus, run_underlying (hd.int hk), Result.andThen_ok]
      cases us <;> simp [Conv.intToInt]
    · rename_i b hk
      simp [CM.run] at hr
      obtain ⟨rfl, rfl⟩ := hr
      cases hx
      refine .val hR wf (v' := .string ⟨b.toArray⟩) ?_ (.str _)
      simp only [execOp, ho, Sem.run_bind, hax, convert, run_underlying hus, run_underlying (hd.str hk), Result.andThen_ok]
      cases us <;> simp
    · rename_i hk
      split at hr
      · rename_i e hke
        split at hr
        · rename_i sz bts zc fl hte
          simp [CM.run] at hr
          obtain ⟨rfl, rfl⟩ := hr
          cases hx
          exact bytes e hke hk (fun _ _ _ => (hE.ty _ _ hte).int rfl) [] none 0 rfl (fun _ h => by cases h) (fun _ => rfl) ((hE.ty _ _ hte).int rfl)
        · simp [CM.run] at hr
      · simp [CM.run] at hr
    · rename_i sz xs hk
      split at hr
      · rename_i e hke
        split at hr
        · rename_i tsz bts zc fl hte
          split at hr
          · rename_i hsz
            cases hb : byteCells xs.flatten with
            | none => simp [hb, CM.ofO, CM.run] at hr
            | some bs =>
              simp [hb, CM.ofO, CM.run] at hr
              obtain ⟨rfl, rfl⟩ := hr
              have hrow : (rowC (.lst sz xs)).run h = some (xs.flatten, h) := rfl
              obtain ⟨_, n, hn, hor⟩ := rowC_sound hR hx hrow
              simp [lenC] at hn
              rcases hor with ⟨rfl, hn0, hcs⟩ | ⟨A, c, vs, hv, hnc, hvr, hat⟩
              · rw [hcs] at hb; simp [byteCells] at hb; subst hb
                exact bytes e hke hk (fun _ _ _ => (hE.ty _ _ hte).int rfl) [] none 0 rfl (fun _ h => by cases h) (fun _ => rfl) ((hE.ty _ _ hte).int rfl)
              · obtain ⟨ns, k1, rfl⟩ := byteCells_sound hvr hb
                have hlen : ns.length = n := by
                  have e1 := hvr.1
                  rw [k1] at e1; simp only [List.length_map] at e1
                  have : xs.flatten.length = xs.length * sz := by
                    cases hx with
                    | lst0 _ _ _ => simp
                    | lst _ _ _ _ _ _ _ hz _ _ =>
                      clear hrow hvr hb hat hn e1
                      have : ∀ ys : List (List CV), (∀ (i : Nat) (x : List CV), ys[i]? = some x → x.length = sz) → ys.flatten.length = ys.length * sz := by
                        intro ys
                        induction ys with
                        | nil => intro _; simp
                        | cons y ys ih =>
                          intro hq
                          rw [List.flatten_cons, List.length_append, hq 0 y rfl, ih (fun i x hi => hq (i + 1) x (by simpa using hi)), List.length_cons, Nat.succ_mul, Nat.add_comm]
                      exact this xs hz
                  rw [hsz, Nat.mul_one] at this
                  omega
                subst hlen
                refine bytes e hke hk (fun _ _ _ => (hE.ty _ _ hte).int rfl) ns A c hv (fun ad hA => ?_) (fun hA => ?_) ((hE.ty _ _ hte).int rfl)
                · by_cases hne : vs = []
                  · rw [hne] at k1
                    have : ns = [] := by simpa using k1.symm
                    subst this
                    simp [loadCells, loadCellsFrom]
                  · obtain ⟨b, o', hA', hcell⟩ := hat hne
                    rw [hA] at hA'; cases hA'
                    have := run_loadCells_at E.P w b o' vs hcell
                    rw [k1] at this
                    simpa using this
                · by_cases hne : vs = []
                  · rw [hne] at k1; simpa using k1.symm
                  · obtain ⟨b, o', hA', _⟩ := hat hne
                    rw [hA] at hA'; cases hA'
          · simp [CM.run] at hr
        · simp [CM.run] at hr
      · simp [CM.run] at hr
    · rename_i id off len sz hk
      split at hr
      · rename_i e hke
        split at hr
        · rename_i tsz bts zc fl hte
          split at hr
          · rename_i hsz
            rw [CM.run_bind] at hr
            cases hrow : (rowC (.ref id off len sz)).run h with
            | none => simp [hrow] at hr
            | some p =>
              obtain ⟨cs, h1⟩ := p
              simp only [hrow] at hr
              obtain ⟨rfl, n, hn, hor⟩ := rowC_sound hR hx hrow
              cases hb : byteCells cs with
              | none => simp [hb, CM.ofO, CM.run] at hr
              | some bs =>
                simp [hb, CM.ofO, CM.run] at hr
                obtain ⟨rfl, rfl⟩ := hr
                simp [lenC] at hn
                rcases hor with ⟨rfl, _, _⟩ | ⟨A, c, vs, hv, hnc, hvr, hat⟩
                · cases hx
                · obtain ⟨ns, k1, rfl⟩ := byteCells_sound hvr hb
                  have hlen : ns.length = n := by
                    have e1 := hvr.1
                    rw [k1] at e1; simp only [List.length_map] at e1
                    rw [← e1, ← hn]
                    simp only [rowC, CM.run] at hrow
                    split at hrow
                    · split at hrow
                      · split at hrow
                        · simp [CM.run] at hrow; rw [← hrow]; simp; subst hsz; omega
                        · simp [CM.run] at hrow
                      · split at hrow
                        · simp [CM.run] at hrow; rw [← hrow]; simp; subst hsz; omega
                        · simp [CM.run] at hrow
                      · simp [CM.run] at hrow
                    · cases hrow
                  subst hlen
                  refine bytes e hke hk (fun _ _ _ => (hE.ty _ _ hte).int rfl) ns A c hv (fun ad hA => ?_) (fun hA => ?_) ((hE.ty _ _ hte).int rfl)
                  · by_cases hne : vs = []
                    · rw [hne] at k1
                      have : ns = [] := by simpa using k1.symm
                      subst this
                      simp [loadCells, loadCellsFrom]
                    · obtain ⟨b, o', hA', hcell⟩ := hat hne
                      rw [hA] at hA'; cases hA'
                      have := run_loadCells_at E.P w b o' vs hcell
                      rw [k1] at this
                      simpa using this
                  · by_cases hne : vs = []
                    · rw [hne] at k1; simpa using k1.symm
                    · obtain ⟨b, o', hA', _⟩ := hat hne
                      rw [hA] at hA'; cases hA'
          · simp [CM.run] at hr
        · simp [CM.run] at hr
      · simp [CM.run] at hr
    · simp [CM.run] at hr
  · simp [CM.run] at hr
end
end Go.Cv
