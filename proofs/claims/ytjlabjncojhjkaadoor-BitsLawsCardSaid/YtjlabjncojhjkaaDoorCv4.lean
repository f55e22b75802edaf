/- What the machine's operations do to related values: moves, new variables, structs, loads, stores. -/
import Derived.Test.YtjlabjncojhjkaaDoorCv3
namespace Go.Cv
open Go

def POut (E : Env) (g : Gh) (h : H) (w : World) (a : Act) (o : Oper) (v : CV) (h' : H) : Prop :=
  ∃ g' w' v', ((execOp a.eval o).run E.P w = .ok (.value v') w' ∨ ((execOp a.eval o).run E.P w = .ok .skip w' ∧ v' = undef)) ∧ VR g' v v' ∧ Step g h w g' h' w'
theorem POut.val {E : Env} {g : Gh} {h : H} {w : World} {a : Act} {o : Oper} {v : CV} {v' : Value} (hR : R g h w) (wf : WFH h) (hr : (execOp a.eval o).run E.P w = .ok (.value v') w) (hv : VR g v v') : POut E g h w a o v h :=
  ⟨g, w, v', .inl hr, hv, .refl hR wf⟩

theorem Gh.le_at {g : Gh} {i : Nat} (h : g.place i = none) (p : Nat × Nat × Nat) : g.le (g.at_ i p) :=
  ⟨fun _ _ _ h => h, fun j q hq => by
    by_cases e : j = i
    · subst e; rw [h] at hq; cases hq
    · simp [Gh.at_, e, hq]⟩
theorem Gh.at_same (g : Gh) (i : Nat) (p : Nat × Nat × Nat) : (g.at_ i p).place i = some p := by simp [Gh.at_]
theorem noFrz0 (n : Nat) : NoFrz (0, 0) n := fun j _ h => by omega
/-- A new block of cells. -/
theorem Step.newCells {g : Gh} {h : H} {w : World} (hR : R g h w) (wf : WFH h) (hf : g.place h.next = none) {cs : List CV} {vs : Array Value} {e : TypeId} (hv : VRL g cs (vs.toList.take cs.length)) {w' : World}
    (wos : w'.os = w.os) (wtape : w'.tape = w.tape) (wout : w'.output = w.output) (wh : w'.heap = w.heap.push (.cells vs e)) :
    Step g h w (g.at_ h.next (w.heap.size, 0, vs.size)) (h.new (.cells cs)) w' := by
  refine Step.new hR wf hf (.cells cs) rfl 0 vs.size wos wtape wout wh ⟨w.heap.size, 0, vs.size, g.at_same _ _, vs, e, (0, 0), ?_, rfl, noFrz0 _, ?_, ?_, fun o => ?_⟩
  · rw [wh]; simp
  · have := hv.1; rw [List.length_take] at this; simp at this ⊢; omega
  · rw [List.drop_zero]; exact hv.mono (Gh.le_at hf _)
  · cases hi : (g.at_ h.next (w.heap.size, 0, vs.size)).icell w.heap.size o with
    | none => rfl
    | some v =>
      have := hR.ic _ _ _ (show g.icell w.heap.size o = some v from hi)
      simp [World.cell?] at this

/-! ### Structs and literals -/
theorem foldl_set (off : Nat) : ∀ (vs : List Value) (k : Nat) (cells : Array Value), off + k + vs.length ≤ cells.size →
    ((vs.zipIdx k).foldl (fun (cs : Array Value) (p : Value × Nat) => cs.setIfInBounds (off + p.2) p.1) cells).toList = cells.toList.take (off + k) ++ vs ++ cells.toList.drop (off + k + vs.length)
  | [], k, cells, _ => by simp
  | v :: vs, k, cells, h => by
    simp only [List.zipIdx_cons, List.foldl_cons]
    simp only [List.length_cons] at h
    rw [foldl_set off vs (k + 1) (cells.setIfInBounds (off + k) v) (by simp; omega)]
    simp only [Array.toList_setIfInBounds, List.length_cons]
    have hk : off + k < cells.toList.length := by simp; omega
    rw [show off + (k + 1) = off + k + 1 from by omega]
    rw [List.take_add_one]
    simp only [List.getElem?_set_self hk, Option.toList_some]
    rw [List.take_set_of_le (Nat.le_refl _), List.drop_set_of_lt (by omega)]
    simp only [List.append_assoc, List.cons_append, List.nil_append]
    rw [show off + k + 1 + vs.length = off + k + (vs.length + 1) from by omega]
theorem fill_sound {g : Gh} {place : Nat → Option (Nat × Nat)} : ∀ {ps : List (Nat × CV)} {qs : List (Nat × Value)} {cs cs' : List CV} {cells : Array Value},
    ps.map (·.1) = qs.map (·.1) → (∀ (i : Nat) p q, ps[i]? = some p → qs[i]? = some q → VR g p.2 q.2) → VRL g cs cells.toList → fillC place cs ps = some cs' →
    ∃ cells', Instr.fill place cells qs = some cells' ∧ VRL g cs' cells'.toList
  | [], [], cs, cs', cells, _, _, hc, hf => by
    simp [fillC] at hf; subst hf
    exact ⟨cells, by simp [Instr.fill], hc⟩
  | [], _ :: _, _, _, _, hm, _, _, _ => by simp at hm
  | _ :: _, [], _, _, _, hm, _, _, _ => by simp at hm
  | (i, v) :: ps, (j, u) :: qs, cs, cs', cells, hm, hv, hc, hf => by
    simp only [List.map_cons, List.cons.injEq] at hm
    obtain ⟨rfl, hm⟩ := hm
    have hvu : VR g v u := hv 0 _ _ rfl rfl
    simp only [fillC] at hf
    split at hf
    · rename_i off size hp
      split at hf
      · rename_i vc hvc
        split at hf
        · rename_i hle
          have hcells := hvu.cells hvc
          have hl : u.cells.size = size := by have := hcells.1; simp at this; omega
          have hl2 : off + u.cells.size ≤ cells.size := by have := hc.1; simp at this; omega
          have hset := foldl_set off u.cells.toList 0 cells (by simpa using hl2)
          refine Exists.imp (fun cells' hh => ⟨?_, hh.2⟩) (fill_sound (ps := ps) (qs := qs) (cs := splice cs off vc) (cs' := cs') (cells := u.cells.zipIdx.foldl (fun cs (p : Value × Nat) => cs.setIfInBounds (off + p.2) p.1) cells) hm (fun k p q hp' hq' => hv (k + 1) p q (by simpa using hp') (by simpa using hq')) ?_ hf)
          · simp only [Instr.fill, hp]
            rw [if_neg (by simp [hl]; omega)]
            exact hh.1
          · have : (u.cells.zipIdx.foldl (fun cs (p : Value × Nat) => cs.setIfInBounds (off + p.2) p.1) cells).toList = cells.toList.take off ++ u.cells.toList ++ cells.toList.drop (off + u.cells.toList.length) := by
              rw [← Array.foldl_toList, Array.toList_zipIdx]
              simpa using hset
            rw [this]
            have e1 : vc.length = u.cells.toList.length := hcells.1
            unfold splice
            rw [e1]
            exact (((hc.take off).append hcells).append (hc.drop _))
        · cases hf
      · cases hf
    · cases hf
theorem range_rep (z : Array Value) (hz : 0 < z.size) : ∀ n : Nat, ((List.range (n * z.size)).map fun i => z[i % z.size]!) = (List.replicate n z.toList).flatten
  | 0 => by simp
  | n + 1 => by
    rw [Nat.succ_mul, Nat.add_comm, List.range_add, List.map_append, List.replicate_succ, List.flatten_cons, ← range_rep z hz n, List.map_map]
    congr 1
    · apply List.ext_getElem?
      intro i
      simp only [List.getElem?_map]
      by_cases hi : i < z.size
      · simp [hi, Nat.mod_eq_of_lt hi]
      · simp [hi]
    · apply List.map_congr_left
      intro i _
      simp
theorem range_rep_arr (z : Array Value) (hz : 0 < z.size) (n : Nat) : ((Array.range (n * z.size)).map fun i => z[i % z.size]!).toList = (List.replicate n z.toList).flatten := by
  rw [Array.toList_map, Array.toList_range, range_rep z hz n]
theorem VRL.rep {g : Gh} {zc : List CV} {zs : List Value} (h : VRL g zc zs) : ∀ n : Nat, VRL g (List.replicate n zc).flatten (List.replicate n zs).flatten
  | 0 => by simpa using VRL.nil g
  | n + 1 => by rw [List.replicate_succ, List.flatten_cons, List.replicate_succ, List.flatten_cons]; exact h.append (VRL.rep h n)

section
variable {E : Env} (hE : E.OK) {g : Gh} {h : H} {w : World} {a : Act} {o : Oper} {ev : Operand → CV} (hev : ∀ x, VR g (ev x) (a.eval x)) (hR : R g h w) (wf : WFH h) {v : CV} {h' : H}
include hE hev hR wf

omit hE in
theorem p_move {x : Operand} (ho : o.op = .move x) (hr : (primC E o ev).run h = some (v, h')) : POut E g h w a o v h' := by
  simp [primC, ho, CM.run] at hr
  obtain ⟨rfl, rfl⟩ := hr
  exact .val hR wf (by simp [execOp, ho]) (hev x)
omit hE in
theorem p_assign {x : Operand} (ho : o.op = .assign x) (hr : (primC E o ev).run h = some (v, h')) : POut E g h w a o v h' := by
  simp [primC, ho, CM.run] at hr
  obtain ⟨rfl, rfl⟩ := hr
  exact .val hR wf (by simp [execOp, ho]) (hev x)
omit hE in
theorem p_pick {c x y : Operand} (ho : o.op = .pick c x y) (hr : (primC E o ev).run h = some (v, h')) : POut E g h w a o v h' := by
  simp only [primC, ho] at hr
  split at hr
  · rename_i p hp
    simp [CM.run] at hr
    obtain ⟨rfl, rfl⟩ := hr
    have hc := hev c
    rw [hp] at hc
    cases hcv : a.eval c with
    | bool q =>
      rw [hcv] at hc
      cases hc
      refine .val (v' := if p then a.eval x else a.eval y) hR wf (by simp [execOp, ho, hcv, asBool]) ?_
      cases p
      · exact hev y
      · exact hev x
    | _ => rw [hcv] at hc; cases hc
  · simp [CM.run] at hr
omit hev in
theorem p_alloc {t : Nat} (ho : o.op = .alloc t) (hr : (primC E o ev).run h = some (v, h')) (hf : ∀ i, h.next ≤ i → i < h'.next → g.place i = none) : POut E g h w a o v h' := by
  simp only [primC, ho] at hr
  split at hr
  · rename_i ty hty
    split at hr
    · rename_i zc hzc
      simp [CM.run] at hr
      obtain ⟨rfl, rfl⟩ := hr
      have hf := hf h.next (Nat.le_refl _) (by rw [H.next_new]; omega)
      obtain ⟨i, z, hi, hzz, hv, _⟩ := (hE.ty t ty hty).zeroes hzc g
      refine ⟨_, w.alloc (.cells z.cells t), .pointer (some ⟨w.heap.size, 0, none⟩), .inl ?_, .ptr h.next 0 w.heap.size 0 z.cells.size (Gh.at_same _ _ _), Step.newCells hR wf hf (e := t) (vs := z.cells) ?_ rfl rfl rfl rfl⟩
      · simp [execOp, ho, Instr.alloc, zeroValue, typeInfo, hi, hzz, newVar, newRow]
      · rw [List.take_of_length_le (by rw [hv.1]; exact Nat.le_refl _)]; exact hv
    · simp [CM.run] at hr
  · simp [CM.run] at hr
omit hE in
theorem p_box {t : Nat} {x : Operand} (ho : o.op = .box t x) (hr : (primC E o ev).run h = some (v, h')) (hf : ∀ i, h.next ≤ i → i < h'.next → g.place i = none) : POut E g h w a o v h' := by
  simp only [primC, ho] at hr
  split at hr
  · rename_i cs hcs
    simp [CM.run] at hr
    obtain ⟨rfl, rfl⟩ := hr
    have hf := hf h.next (Nat.le_refl _) (by rw [H.next_new]; omega)
    have hv := (hev x).cells hcs
    refine ⟨_, w.alloc (.cells (a.eval x).cells t), .pointer (some ⟨w.heap.size, 0, none⟩), .inl ?_, .ptr h.next 0 w.heap.size 0 (a.eval x).cells.size (Gh.at_same _ _ _), Step.newCells hR wf hf (e := t) (vs := (a.eval x).cells) ?_ rfl rfl rfl rfl⟩
    · simp [execOp, ho, Instr.box, newVar, newRow]
    · rw [List.take_of_length_le (by rw [hv.1]; exact Nat.le_refl _)]; exact hv
  · simp [CM.run] at hr

end

theorem places_some {P : Program} {T : Nat → Option Ty} (hT : ∀ t ty, T t = some ty → TyOK P t ty) : ∀ (fs : List Field), (∀ f ∈ fs, (T f.type).isSome = true) →
    fs.mapM (fun f => (P.info? f.type).map fun i => (f.offset, i.size)) = some (fs.map fun f => (f.offset, ((T f.type).map (·.sz)).getD 0)) := by
  intro fs
  induction fs with
  | nil => intro _; simp
  | cons f fs ih =>
    intro hs
    have h1 := hs f (by simp)
    cases hty : T f.type with
    | none => simp [hty] at h1
    | some ty =>
      obtain ⟨i, hi, hsz, _⟩ := (hT _ _ hty).info
      have h3 := ih (fun x hx => hs x (by simp [hx]))
      simp [List.mapM_cons, hi, hsz, hty, h3]
theorem parts_fst {ev : Operand → CV} {a : Act} (ps : List (Nat × Operand)) : (ps.map fun p => (p.1, ev p.2)).map (·.1) = (ps.map fun p => (p.1, a.eval p.2)).map (·.1) := by simp
theorem parts_rel {g : Gh} {ev : Operand → CV} {a : Act} (hev : ∀ x, VR g (ev x) (a.eval x)) (ps : List (Nat × Operand)) (i : Nat) (p : Nat × CV) (q : Nat × Value)
    (hp : (ps.map fun p => (p.1, ev p.2))[i]? = some p) (hq : (ps.map fun p => (p.1, a.eval p.2))[i]? = some q) : VR g p.2 q.2 := by
  rw [List.getElem?_map] at hp hq
  cases hi : ps[i]? with
  | none => simp [hi] at hp
  | some r => simp [hi] at hp hq; subst hp; subst hq; exact hev _

section
variable {E : Env} (hE : E.OK) {g : Gh} {h : H} {w : World} {a : Act} {o : Oper} {ev : Operand → CV} (hev : ∀ x, VR g (ev x) (a.eval x)) (hR : R g h w) (wf : WFH h) {v : CV} {h' : H}
include hE hev hR wf

theorem p_build {t : Nat} {parts : Array (Nat × Operand)} (ho : o.op = .build t parts) (hr : (primC E o ev).run h = some (v, h')) : POut E g h w a o v h' := by
  simp only [primC, ho] at hr
  have hparts : (parts.map fun (p : Nat × Operand) => (p.1, a.eval p.2)).toList = parts.toList.map fun p => (p.1, a.eval p.2) := by simp
  split at hr
  · rename_i fs sz bts zc fl hty
    have hT := hE.ty t _ hty
    split at hr
    · rename_i hall
      split at hr
      · rename_i cs hcs
        simp [CM.run] at hr
        obtain ⟨rfl, rfl⟩ := hr
        obtain ⟨i, z, hi, hzz, hv, _⟩ := hT.zeroes rfl g
        obtain ⟨F, hF, hFs⟩ := hT.struct rfl
        have hpl := places_some hE.ty F.toList (fun f hf => by
          have := List.all_eq_true.1 hall (f.offset, f.type) (by rw [← hFs]; exact List.mem_map_of_mem hf)
          exact this)
        obtain ⟨cells, hfill, hrel⟩ := fill_sound (g := g) (place := fun i => ((F.toList.map fun f => (f.offset, ((E.T f.type).map (·.sz)).getD 0)).toArray[i]?)) (parts_fst (a := a) parts.toList) (parts_rel hev parts.toList) hv (cs' := cs) (by
          rw [← hcs]
          congr 1
          funext k
          rw [← hFs]
          simp only [List.getElem?_map, List.getElem?_toArray]
          cases hk : F.toList[k]? with
          | none => simp
          | some f =>
            have := List.all_eq_true.1 hall (f.offset, f.type) (by rw [← hFs]; exact List.mem_map_of_mem (List.mem_of_getElem? hk))
            cases hf : E.T f.type with
            | none => simp [hf] at this
            | some fty => simp [hf])
        refine .val hR wf (v' := .agg cells) ?_ (by have := hrel.agg; simpa using this)
        have hb : E.P.built t (parts.map fun (p : Nat × Operand) => (p.1, a.eval p.2)).toList = some cells := by
          simp only [Program.built, hi, hF, hzz, hpl, hparts]
          exact hfill
        simp only [execOp, ho, Sem.run_bind]
        rw [run_build w t _ cells hb]
        simp
      · simp [CM.run] at hr
    · simp [CM.run] at hr
  · rename_i n e sz bts zc fl hty
    have hT := hE.ty t _ hty
    split at hr
    · rename_i te hte
      split at hr
      · rename_i cs hcs
        simp [CM.run] at hr
        obtain ⟨rfl, rfl⟩ := hr
        obtain ⟨i, z, hi, hzz, hv, _⟩ := hT.zeroes rfl g
        have hF := hT.arr rfl
        obtain ⟨ie, hie, hsz, _⟩ := (hE.ty _ _ hte).info
        obtain ⟨cells, hfill, hrel⟩ := fill_sound (g := g) (parts_fst (a := a) parts.toList) (parts_rel hev parts.toList) hv hcs
        refine .val hR wf (v' := .agg cells) ?_ (by have := hrel.agg; simpa using this)
        have hb : E.P.built t (parts.map fun (p : Nat × Operand) => (p.1, a.eval p.2)).toList = some cells := by
          simp only [Program.built, hi, hF, hzz, hie, hparts, hsz]
          exact hfill
        simp only [execOp, ho, Sem.run_bind]
        rw [run_build w t _ cells hb]
        simp
      · simp [CM.run] at hr
    · simp [CM.run] at hr
  · simp [CM.run] at hr

theorem p_buildSlice {t len : Nat} {parts : Array (Nat × Operand)} (ho : o.op = .buildSlice t len parts) (hr : (primC E o ev).run h = some (v, h')) (hf : ∀ i, h.next ≤ i → i < h'.next → g.place i = none) : POut E g h w a o v h' := by
  simp only [primC, ho] at hr
  split at hr
  · rename_i e sz bts zc0 fl hty
    have hT := hE.ty t _ hty
    split at hr
    · rename_i te hte
      split at hr
      · rename_i zc hzc
        split at hr
        · rename_i hle
          split at hr
          · rename_i cs hcs
            simp [CM.run] at hr
            obtain ⟨rfl, rfl⟩ := hr
            have hf := hf h.next (Nat.le_refl _) (by rw [H.next_new]; omega)
            obtain ⟨i, z, hi, hzz, hv, hzl, _⟩ := (hE.ty _ _ hte).zeroes hzc g
            have hzs : z.cells.size = te.sz := by have := hv.1; simp at this; omega
            have hfull := range_rep_arr z.cells (by omega) len
            rw [hzs] at hfull
            have hv0 : VRL g (List.replicate len zc).flatten ((Array.range (len * te.sz)).map fun i => z.cells[i % te.sz]!).toList := by rw [hfull]; exact hv.rep len
            obtain ⟨cells, hfill, hrel⟩ := fill_sound (g := g) (parts_fst (a := a) parts.toList) (parts_rel hev parts.toList) hv0 hcs
            have hcl : cells.size = len * te.sz := by
              have e1 := hrel.1
              have : ∀ {place} {ps : List (Nat × CV)} {cs cs' : List CV}, fillC place cs ps = some cs' → cs'.length = cs.length := by
                intro place ps
                induction ps with
                | nil => intro cs cs' hh; simp [fillC] at hh; rw [hh]
                | cons p ps ih =>
                  intro cs cs' hh
                  simp only [fillC] at hh
                  split at hh
                  · split at hh
                    · split at hh
                      · rename_i hle2
                        rw [ih hh]; unfold splice; simp; omega
                      · cases hh
                    · cases hh
                  · cases hh
              have e2 := this hcs
              have e3 := hv0.1
              simp at e1 e2 e3
              omega
            refine ⟨_, w.alloc (.cells cells e), .slice (some ⟨w.heap.size, 0, none⟩) len len, .inl ?_, .ref h.next 0 len te.sz ⟨w.heap.size, 0, none⟩ len w.heap.size 0 cells.size (Gh.at_same _ _ _) (Nat.le_refl _) (.inr ⟨rfl, by omega⟩),
              Step.newCells hR wf hf (e := e) (vs := cells) ?_ rfl rfl rfl rfl⟩
            · have hparts : (parts.map fun (p : Nat × Operand) => (p.1, a.eval p.2)).toList = parts.toList.map fun p => (p.1, a.eval p.2) := by simp
              have hnz : ¬ (16777216 < len * te.sz) := by omega
              simp only [execOp, ho, Instr.buildSlice, Sem.run_bind, run_underlying (hT.slice rfl), Result.andThen_ok, (hE.ty _ _ hte).sizeOf, Sem.run_ite]
              have e16 : (2 : Nat) ^ 24 = 16777216 := by decide
              rw [e16, if_neg (by omega)]
              simp only [Sem.run_pure, Result.andThen_ok]
              have hzero : (zeroValue e).run E.P w = .ok z w := by simp [zeroValue, typeInfo, hi, hzz]
              by_cases h0 : len * te.sz = 0
              · have hl0 : len = 0 := by
                  rcases Nat.mul_eq_zero.1 h0 with h | h
                  · exact h
                  · omega
                subst hl0
                have hr0 : Array.range 0 = #[] := rfl
                simp only [Nat.zero_mul, if_true, hr0, List.map_toArray, List.map_nil] at hfill ⊢
                rw [hparts]
                rw [hfill]
                simp [newRow]
              · rw [if_neg h0]
                simp only [hzero, Result.andThen_ok]
                rw [hparts, hzs, hfill]
                simp [newRow]
            · rw [List.take_of_length_le (by rw [hrel.1]; exact Nat.le_refl _)]; exact hrel
          · simp [CM.run] at hr
        · simp [CM.run] at hr
      · simp [CM.run] at hr
    · simp [CM.run] at hr
  · simp [CM.run] at hr
end
end Go.Cv
