/- What the machine's operations do to related values: loads, stores, addresses, indexes, slices. -/
import Derived.Test.YtjlabjncojhjkaaDoorCv4
namespace Go.Cv
open Go

theorem setRow_size (w : World) (b : Nat) (cs : Array Value) : (w.setRow b cs).heap.size = w.heap.size := by simp [World.setRow]
theorem run_storeCells_nf (P : Program) (b o : Nat) (e : TypeId) (fz : Nat × Nat) : ∀ (vs : List Value) (i : Nat) (cur : Array Value) (w : World), w.heap[b]? = some (.cells cur e fz) → NoFrz fz cur.size → o + i + vs.length ≤ cur.size → (∀ v ∈ vs, v.oneCell' = true) →
    (storeCells ⟨b, o, none⟩ vs i).run P w = .ok () (w.setRow b (cur.toList.take (o + i) ++ vs ++ cur.toList.drop (o + i + vs.length)).toArray)
  | [], i, cur, w, hg, _, _, _ => by
    simp only [storeCells, List.append_nil, List.length_nil, Nat.add_zero, List.take_append_drop, Array.toArray_toList]
    rw [setRow_self w b cur e fz hg]
    rfl
  | v :: rest, i, cur, w, hg, hf, hl, h1 => by
    have hi : o + i < cur.size := by simp at hl; omega
    have hcell : w.cell? ⟨b, o + i, none⟩ = some cur[o + i] := by simp [World.cell?, hg, hi]
    have hfro : w.frozen? ⟨b, o + i, none⟩ = false := by
      simp only [World.frozen?, hg]
      have := hf (o + i) hi
      simp only [Bool.and_eq_false_iff, decide_eq_false_iff_not]
      omega
    have hst : (store ((⟨b, o, none⟩ : Addr).add i) v).run P w = .ok () (w.setRow b (cur.setIfInBounds (o + i) v)) := by
      rw [addr_add, run_store P w _ v _ (h1 v (by simp)), hcell]
      simp [hfro, setCell_eq_setRow w b (o + i) cur e fz v hg]
    have ih := run_storeCells_nf P b o e fz rest (i + 1) (cur.setIfInBounds (o + i) v) (w.setRow b (cur.setIfInBounds (o + i) v)) (setRow_heap w b cur _ e _ hg) (by simpa using hf) (by simp at hl ⊢; omega) (fun x hx => h1 x (by simp [hx]))
    simp only [storeCells, Sem.run_bind, hst, Result.andThen_ok, ih, setRow_setRow]
    congr 2
    simp only [Array.toList_setIfInBounds, List.length_cons]
    have hk : o + i < cur.toList.length := by simpa using hi
    rw [show o + (i + 1) = o + i + 1 from by omega, List.take_add_one]
    simp only [List.getElem?_set_self hk, Option.toList_some]
    rw [List.take_set_of_le (Nat.le_refl _), List.drop_set_of_lt (by omega)]
    simp only [List.append_assoc, List.cons_append, List.nil_append]
    rw [show o + i + 1 + rest.length = o + i + (rest.length + 1) from by omega]
/-- A row of a block that may be written is written. -/
theorem CellsR.splice {g : Gh} {w : World} {b base lim : Nat} {cs : List CV} {off : Nat} {vc : List CV} {vs : List Value} (hv : VRL g vc vs) (hle : off + vc.length ≤ cs.length) (h : CellsR g w b base lim cs) :
    ∃ cur e fz, w.heap[b]? = some (.cells cur e fz) ∧ NoFrz fz cur.size ∧ base + off + vs.length ≤ cur.size ∧
      CellsR g (w.setRow b (cur.toList.take (base + off) ++ vs ++ cur.toList.drop (base + off + vs.length)).toArray) b base lim (splice cs off vc) := by
  obtain ⟨cur, e, fz, h1, h2, h3, h4, h5, h6⟩ := h
  have hl := hv.1
  refine ⟨cur, e, fz, h1, by rw [h2]; exact h3, by omega, _, e, fz, setRow_heap w b cur _ e fz h1, ?_, h3, ?_, ?_, h6⟩
  · simp; omega
  · unfold Cv.splice; simp; omega
  · unfold Cv.splice
    have e1 : (cs.take off ++ vc ++ cs.drop (off + vc.length)).length = cs.length := by simp; omega
    rw [e1]
    have hb : base + off ≤ cur.toList.length := by simp; omega
    have e2 : (((cur.toList.take (base + off) ++ vs ++ cur.toList.drop (base + off + vs.length)).toArray.toList.drop base).take cs.length) =
        ((cur.toList.drop base).take cs.length).take off ++ vs ++ ((cur.toList.drop base).take cs.length).drop (off + vs.length) := by
      apply List.ext_getElem?
      intro j
      simp only [List.getElem?_take, List.getElem?_drop, List.getElem?_append, List.length_append, List.length_take, List.length_drop, Array.length_toList]
      by_cases c1 : j < cs.length
      · by_cases c2 : j < off
        · rw [if_pos c1, if_pos (by omega), if_pos (by omega), if_pos (by omega), if_pos (by omega), if_pos (by omega), if_pos (by omega)]
          rw [if_pos (by omega)]
        · by_cases c3 : j < off + vs.length
          · rw [if_pos c1, if_pos (by omega), if_neg (by omega), if_pos (by omega), if_neg (by omega)]
            congr 1; omega
          · rw [if_pos c1, if_neg (by omega), if_neg (by omega), if_pos (by omega)]
            congr 1; omega
      · rw [if_neg c1]
        by_cases c4 : j < min off (min cs.length (cur.size - base)) + vs.length
        · omega
        · rw [if_neg c4, if_neg (by omega)]
    rw [e2, hl]
    exact ((h5.take off).append hv).append (by have := h5.drop (off + vs.length); exact this)

section
variable {E : Env} (hE : E.OK) {g : Gh} {h : H} {w : World} {a : Act} {o : Oper} {ev : Operand → CV} (hev : ∀ x, VR g (ev x) (a.eval x)) (hR : R g h w) (wf : WFH h) {v : CV} {h' : H}
include hE hev hR wf

theorem p_load {t : Nat} {x : Operand} (ho : o.op = .load t x) (hr : (primC E o ev).run h = some (v, h')) : POut E g h w a o v h' := by
  simp only [primC, ho] at hr
  have hx := hev x
  split at hr
  · rename_i ty hty
    have hT := hE.ty t ty hty
    have main : ∀ (b o off : Nat) (cs : List CV), CellsAt g w b o cs → a.eval x = .pointer (some ⟨b, o + off, none⟩) → ldC ty.agg ty.sz cs off = some v → POut E g h w a ‹Oper› v h := by
      intro b o' off cs hc hax hld
      obtain ⟨v', h1, h2⟩ := ld_sound hT hc hld
      refine .val hR wf (v' := v') ?_ h2
      simp [execOp, ho, hax, Instr.loadAt, Instr.sureAddr, h1]
    split at hr
    · rename_i cs off he
      rw [he] at hx
      generalize hax : a.eval x = ax at hx
      cases hx with
      | iptr _ _ b o' val h1 h2 =>
        cases hld : ldC ty.agg ty.sz cs off with
        | none => simp [hld, CM.ofO, CM.run] at hr
        | some u =>
          simp [hld, CM.ofO, CM.run] at hr
          obtain ⟨rfl, rfl⟩ := hr
          exact main b o' off cs (.of_iptr hR h1 h2) hax hld
    · rename_i id off he
      rw [he] at hx
      generalize hax : a.eval x = ax at hx
      cases hx with
      | ptr _ _ b base lim hp =>
        simp only [CM.run] at hr
        split at hr
        · rename_i ob hob
          split at hr
          · rename_i cs
            cases hld : ldC ty.agg ty.sz cs off with
            | none => simp [hld, CM.ofO, CM.run] at hr
            | some u =>
              simp [hld, CM.ofO, CM.run] at hr
              obtain ⟨rfl, rfl⟩ := hr
              exact main b base off cs (.of_obj hR hob (.inl rfl) hp) hax hld
          · rename_i cs
            cases hld : ldC ty.agg ty.sz cs off with
            | none => simp [hld, CM.ofO, CM.run] at hr
            | some u =>
              simp [hld, CM.ofO, CM.run] at hr
              obtain ⟨rfl, rfl⟩ := hr
              exact main b base off cs (.of_obj hR hob (.inr rfl) hp) hax hld
          · simp [CM.run] at hr
        · cases hr
    · simp [CM.run] at hr
  · simp [CM.run] at hr

theorem p_store {t : Nat} {x y : Operand} (ho : o.op = .store t x y) (hr : (primC E o ev).run h = some (v, h')) : POut E g h w a o v h' := by
  simp only [primC, ho] at hr
  have hx := hev x
  split at hr
  · rename_i ty hty
    have hT := hE.ty t ty hty
    split at hr
    · rename_i id off he
      rw [he] at hx
      generalize hax : a.eval x = ax at hx
      cases hx with
      | ptr _ _ b base lim hp =>
        simp only [CM.run] at hr
        split at hr
        · rename_i ob hob
          split at hr
          · rename_i cs
            split at hr
            · rename_i vc hvc
              split at hr
              · rename_i hle
                simp only [CM.run, hob] at hr
                simp only [Option.some.injEq, Prod.mk.injEq] at hr
                obtain ⟨rfl, rfl⟩ := hr
                have hvr := (hev y).cells hvc
                obtain ⟨b', base', lim', hp', hcr⟩ := hR.ob id _ hob
                rw [hp] at hp'; cases hp'
                obtain ⟨cur, e, fz, k1, k2, k3, k4⟩ := hcr.splice (off := off) hvr (by omega)
                have hst := run_storeCells_nf E.P b (base + off) e fz (a.eval y).cells.toList 0 cur w k1 k2 (by simpa using k3) hvr.2.1
                simp only [Nat.add_zero] at hst
                refine ⟨g, _, undef, .inr ⟨?_, rfl⟩, ?_, Step.put hR wf hob rfl hp _ rfl (w' := w.setRow b (cur.toList.take (base + off) ++ (a.eval y).cells.toList ++ cur.toList.drop (base + off + (a.eval y).cells.toList.length)).toArray) rfl rfl rfl ?_ ?_ ⟨b, base, lim, hp, k4⟩⟩
                · simp only [execOp, ho, Sem.run_bind, hax, Instr.storeAt, Instr.sureAddr, Sem.run_pure, Result.andThen_ok, storeVar, hT.sizeOf, Sem.run_ite]
                  rw [if_neg (by have := hvr.1; simp at this ⊢; omega)]
                  rw [hst]
                  simp
                · exact .tup [] #[] rfl (by simp)
                · rw [setRow_size]; exact Nat.le_refl _
                · intro k hk hne; exact setRow_other w b k _ hne
              · simp [CM.run] at hr
            · simp [CM.run] at hr
          · simp [CM.run] at hr
        · cases hr
    · simp [CM.run] at hr
  · simp [CM.run] at hr

omit hE in
theorem p_nilCheck {x : Operand} (ho : o.op = .nilCheck x) (hr : (primC E o ev).run h = some (v, h')) : POut E g h w a o v h' := by
  simp only [primC, ho] at hr
  have hx := hev x
  generalize hax : a.eval x = ax at hx
  split at hr
  · rename_i id off he
    rw [he] at hx
    simp [CM.run] at hr
    obtain ⟨rfl, rfl⟩ := hr
    cases hx with
    | ptr _ _ b base lim hp => exact .val hR wf (by simp [execOp, ho, hax]) (.ptr id off b base lim hp)
  · rename_i id off he
    rw [he] at hx
    simp [CM.run] at hr
    obtain ⟨rfl, rfl⟩ := hr
    cases hx with
    | iptr _ _ b o' val h1 h2 => exact .val hR wf (by simp [execOp, ho, hax]) (.iptr id off b o' val h1 h2)
  · rename_i f caps he
    rw [he] at hx
    simp [CM.run] at hr
    obtain ⟨rfl, rfl⟩ := hr
    cases hx with
    | fn _ _ vs hl h2 => exact .val hR wf (by simp [execOp, ho, hax]) (.fn f caps vs hl h2)
  · simp [CM.run] at hr

omit hE in
theorem p_makeFunc {f : Nat} {first caps : Array Operand} (ho : o.op = .makeFunc (.func f) first caps) (hr : (primC E o ev).run h = some (v, h')) : POut E g h w a o v h' := by
  simp only [primC, ho] at hr
  split at hr
  · rename_i hf
    simp [CM.run] at hr
    obtain ⟨rfl, rfl⟩ := hr
    have hf0 : first = #[] := by simpa using hf
    subst hf0
    refine .val hR wf (v' := .func (.func f) #[] (caps.map a.eval)) (by simp [execOp, ho, Instr.makeFunc]) (.fn _ _ _ (by simp) (fun i c u hc hu => ?_))
    simp only [List.getElem?_map, Array.getElem?_toList, Array.getElem?_map] at hc hu
    cases hi : caps[i]? with
    | none => simp [hi] at hc
    | some y => simp [hi] at hc hu; subst hc; subst hu; exact hev y
  · simp [CM.run] at hr

omit hE in
theorem p_extract {x : Operand} {i : Nat} (ho : o.op = .extract x i) (hr : (primC E o ev).run h = some (v, h')) : POut E g h w a o v h' := by
  simp only [primC, ho] at hr
  have hx := hev x
  generalize hax : a.eval x = ax at hx
  split at hr
  · rename_i vs he
    rw [he] at hx
    cases hx with
    | tup _ us hl h2 =>
      cases hi : vs[i]? with
      | none => simp [hi, CM.ofO, CM.run] at hr
      | some u =>
        simp [hi, CM.ofO, CM.run] at hr
        obtain ⟨rfl, rfl⟩ := hr
        have hlt : i < us.size := by rw [← hl]; exact (List.getElem?_eq_some_iff.1 hi).1
        refine .val hR wf (v' := us[i]) ?_ (h2 i _ _ hi (by simp [hlt]))
        simp [execOp, ho, hax, Instr.extract, hlt]
  · simp [CM.run] at hr

omit hE hev in
theorem p_makeMap {t : Nat} (ho : o.op = .makeMap t none) (hr : (primC E o ev).run h = some (v, h')) (hf : ∀ i, h.next ≤ i → i < h'.next → g.place i = none) : POut E g h w a o v h' := by
  simp [primC, ho, CM.run] at hr
  obtain ⟨rfl, rfl⟩ := hr
  have hf := hf h.next (Nat.le_refl _) (by rw [H.next_new]; omega)
  refine ⟨_, w.alloc (.map #[] 0), .map (some w.heap.size), .inl ?_, .map h.next w.heap.size 0 0 (Gh.at_same _ _ _), Step.new hR wf hf (.map []) rfl 0 0 rfl rfl rfl (ob := .map #[] 0) rfl ⟨w.heap.size, 0, 0, Gh.at_same _ _ _, #[], 0, ?_, rfl, by simp⟩⟩
  · simp [execOp, ho, Instr.makeMap, newObj, Sem.run, Result.andThen]
  · exact heap_alloc_new w _

theorem p_fieldAddr {s f : Nat} {x : Operand} (ho : o.op = .fieldAddr s x f) (hr : (primC E o ev).run h = some (v, h')) : POut E g h w a o v h' := by
  simp only [primC, ho] at hr
  have hx := hev x
  generalize hax : a.eval x = ax at hx
  split at hr
  · rename_i fs sz bts zc fl hty
    have hT := hE.ty s _ hty
    obtain ⟨F, hF, hFs⟩ := hT.struct rfl
    split at hr
    · rename_i off ft hfs
      split at hr
      · rename_i fty hfty
        have hft := hE.ty _ _ hfty
        split at hr
        · simp [CM.run] at hr
        · rename_i hnz
          rw [← hFs, List.getElem?_map] at hfs
          cases hfi : F.toList[f]? with
          | none => simp [hfi] at hfs
          | some fl =>
            simp [hfi] at hfs
            obtain ⟨rfl, rfl⟩ := hfs
            have run : ∀ ad : Addr, ax = .pointer (some ad) → (execOp a.eval o).run E.P w = .ok (.value (.pointer (some (ad.add fl.offset)))) w := by
              intro ad had
              have hfi' : F[f]? = some fl := by simpa using hfi
              simp [execOp, ho, hax, had, Instr.fieldAt, run_underlying hF, hfi', Instr.sureAddr, fieldPlace, hft.sizeOf, hnz]
            split at hr
            · rename_i id off he
              rw [he] at hx
              simp [CM.run] at hr
              obtain ⟨rfl, rfl⟩ := hr
              cases hx with
              | ptr _ _ b base lim hp =>
                refine .val hR wf (run _ rfl) ?_
                rw [addr_add]
                have := VR.ptr (g := g) id (off + fl.offset) b base lim hp
                rwa [← Nat.add_assoc] at this
            · rename_i cs off he
              rw [he] at hx
              simp [CM.run] at hr
              obtain ⟨rfl, rfl⟩ := hr
              cases hx with
              | iptr _ _ b o' val h1 h2 =>
                refine .val hR wf (run _ rfl) ?_
                rw [addr_add]
                have := VR.iptr (g := g) cs (off + fl.offset) b o' val h1 h2
                rwa [← Nat.add_assoc] at this
            · simp [CM.run] at hr
      · simp [CM.run] at hr
    · simp [CM.run] at hr
  · simp [CM.run] at hr

omit hE hev hR wf in
/-- A part of a value's cells. -/
theorem part_sound {P : Program} {t : Nat} {ty : Ty} (hT : TyOK P t ty) {cs : List CV} {us : Array Value} {off : Nat} (hvr : VRL g cs us.toList) (hle : off + ty.sz ≤ cs.length) {v : CV} (hv : ldC ty.agg ty.sz cs off = some v) :
    ∃ v', (part t us off).run P w = .ok v' w ∧ VR g v v' := by
  unfold ldC at hv
  simp only [part, Sem.run_bind, hT.isAgg, Result.andThen_ok, Sem.run_ite]
  split at hv
  · rename_i ha
    simp at hv; subst hv
    refine ⟨.agg (us.extract off (off + ty.sz)), by rw [if_pos ha]; simp [hT.sizeOf], ?_⟩
    have := ((hvr.drop off).take ty.sz).agg
    have e : (List.take ty.sz (List.drop off us.toList)).toArray = us.extract off (off + ty.sz) := by
      apply Array.ext'
      simp [List.extract_eq_take_drop]
    rwa [e] at this
  · rename_i ha
    obtain ⟨u, h1, _, h3⟩ := hvr.get hv
    rw [if_neg ha]
    refine ⟨u, ?_, h3⟩
    have : us[off]? = some u := by simpa using h1
    simp [this]

theorem p_field {s f : Nat} {x : Operand} (ho : o.op = .field s x f) (hr : (primC E o ev).run h = some (v, h')) : POut E g h w a o v h' := by
  simp only [primC, ho] at hr
  have hx := hev x
  generalize hax : a.eval x = ax at hx
  split at hr
  · rename_i fs sz bts zc fl hty
    have hT := hE.ty s _ hty
    obtain ⟨F, hF, hFs⟩ := hT.struct rfl
    split at hr
    · rename_i off ft hfs
      split at hr
      · rename_i fty hfty
        have hft := hE.ty _ _ hfty
        rw [← hFs, List.getElem?_map] at hfs
        cases hfi : F.toList[f]? with
        | none => simp [hfi] at hfs
        | some fl =>
          simp [hfi] at hfs
          obtain ⟨rfl, rfl⟩ := hfs
          have hfi' : F[f]? = some fl := by simpa using hfi
          split at hr
          · rename_i cs he
            rw [he] at hx
            cases ax with
            | agg us =>
              have hvr := VRL.of_agg hx
              split at hr
              · rename_i hle
                cases hld : ldC fty.agg fty.sz cs fl.offset with
                | none => simp [hld, CM.ofO, CM.run] at hr
                | some u =>
                  simp [hld, CM.ofO, CM.run] at hr
                  obtain ⟨rfl, rfl⟩ := hr
                  obtain ⟨v', h1, h2⟩ := part_sound (w := w) hft hvr hle hld
                  refine .val hR wf (v' := v') ?_ h2
                  simp [execOp, ho, hax, Instr.field, run_underlying hF, hfi', asAgg, h1]
              · simp [CM.ofO, CM.run] at hr
            | _ => cases hx
          · simp [CM.run] at hr
      · simp [CM.run] at hr
    · simp [CM.run] at hr
  · simp [CM.run] at hr
end
end Go.Cv
