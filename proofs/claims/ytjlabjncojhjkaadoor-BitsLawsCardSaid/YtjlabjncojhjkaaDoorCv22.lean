/- A list that grows by 'append', one at a time: one rule for nil and for a list that is there. -/
import Derived.Test.YtjlabjncojhjkaaDoorCv20
namespace Go.Cv
open Go
/-- A list of one-cell elements: nil, or all of an object from its first cell on. -/
def OutC (h : H) (v : CV) (cs : List CV) : Prop := (v = .nils ∧ cs = []) ∨ ∃ id, v = .ref id 0 cs.length 1 ∧ h.get id = some (.cells cs)
/-- What behind the append is there: the old list is gone, the new one lies in the new object. -/
structure App (h h' : H) (v : CV) (cs : List CV) : Prop where
  nx : h'.next = h.next + 1
  wf : WFH h'
  el : h'.get h.next = some (.cells cs)
  fr : ∀ i, i < h.next → (∀ id off len sz, v = .ref id off len sz → i ≠ id) → h'.get i = h.get i
  no : ∀ i, i < h.next → h.get i = none → h'.get i = none
theorem app_core {h : H} (wf : WFH h) {v x : CV} {cs : List CV} {te : Ty} (ho : OutC h v cs) (hz : te.sz = 1) (hb : (cs.length + 1) * te.bts ≤ 140737488355328) (hl : cs.length + 1 ≤ 140737488355328) {K : CV → H → Prop}
    (w : ∀ h', App h h' v (cs ++ [x]) → K (.ref h.next 0 (cs.length + 1) 1) h') :
    vM ((match v with
      | .nils => if [x].isEmpty then .pure .nils else if [x].length / te.sz * te.bts ≤ 140737488355328 ∧ [x].length / te.sz ≤ 140737488355328 then .new (.cells [x]) fun id => .pure (.ref id 0 ([x].length / te.sz) te.sz) else .fail
      | .ref id off len sz => .get id fun ob =>
        match ob with
        | .cells cs =>
          if off + len * sz ≤ cs.length ∧ (len + [x].length / te.sz) * te.bts ≤ 140737488355328 ∧ len + [x].length / te.sz ≤ 140737488355328 then
            .del id (.new (.cells ((cs.drop off).take (len * sz) ++ [x])) fun id' => .pure (.ref id' 0 (len + [x].length / te.sz) sz))
          else .fail
        | _ => .fail
      | _ => .fail) : CM CV) h K := by
  rcases ho with ⟨rfl, rfl⟩ | ⟨id, rfl, hg⟩
  · simp only [hz, List.isEmpty_cons, Bool.false_eq_true, if_false, List.length_singleton, Nat.div_one, Nat.one_mul]
    simp only [List.length_nil, Nat.zero_add, Nat.one_mul] at hb
    rw [if_pos ⟨hb, by omega⟩]
    refine w _ ⟨by simp, H.wf_new wf _, by simp, fun i hi _ => by simp [(far hi).1], fun i hi hn => by simp [(far hi).1, hn]⟩
  · have hi := H.lt_next wf hg
    simp only [hz, List.length_singleton, Nat.div_one]
    refine ⟨_, hg, ?_⟩
    simp only [Nat.mul_one, Nat.zero_add, List.drop_zero]
    rw [if_pos ⟨Nat.le_refl _, hb, hl⟩]
    refine ⟨⟨_, hg, rfl⟩, ?_⟩
    rw [List.take_of_length_le (Nat.le_refl _)]
    exact w _ ⟨by simp, H.wf_new (H.wf_del wf _) _, by simp, fun i hi hne => by simp [(far hi).1, hne id _ _ _ rfl], fun i hi hn => by simp [(far hi).1, hn]⟩
theorem app1 {E : Env} {d0 : Option Tmp} {ty0 : TypeId} {ps : String} {af : Array Edge} {gd : Option (Nat × Bool)} {args : Array Operand} {ts : Array TypeId} {tm : List CV} {h : H} {K : CV → H → Prop} {tg : Tag (E, (⟨d0, .call { callee := .builtin .append, args := args, argTypes := ts }, ty0, ps, af, gd⟩ : Oper), K)}
    (wf : WFH h) {v x : CV} {cs : List CV} {yid t u e : Nat} {tt tu te : Ty} (ho : OutC h v cs) (ha : args.toList.map (evC E tm) = [v, .ref yid 0 1 1]) (hy : h.get yid = some (.cells [x])) (hts : ts.toList = [t, u])
    (ht : E.T t = some tt) (hk : tt.kd = .slice e) (hu : E.T u = some tu) (hs : tu.kd.isSl = true) (he : E.T e = some te) (hz : te.sz = 1) (h0 : te.zero.isSome = true) (hb : (cs.length + 1) * te.bts ≤ 140737488355328) (hl : cs.length + 1 ≤ 140737488355328)
    (w : ∀ h', App h h' v (cs ++ [x]) → K (.ref h.next 0 (cs.length + 1) 1) h') : uOp E ⟨d0, .call { callee := .builtin .append, args := args, argTypes := ts }, ty0, ps, af, gd⟩ tm h K tg := by
  rw [u_append, ha, hts]
  obtain ⟨kd, sz, bts, zero, flat⟩ := tt
  simp only at hk
  subst hk
  simp only [ht, hu, he]
  have hsv : szC te.sz v = true := by
    rcases ho with ⟨rfl, _⟩ | ⟨id, rfl, _⟩ <;> simp [szC, hz]
  have hsy : szC te.sz (.ref yid 0 1 1) = true := by simp [szC, hz]
  rw [if_pos (by rw [hsv, hs, hsy, h0, hz]; rfl)]
  simp only [rowC, CM.bind]
  show vM _ h K
  refine ⟨_, hy, ?_⟩
  simp only [List.length_singleton, Nat.zero_add, Nat.mul_one, Nat.le_refl, if_true, List.drop_zero, List.take_succ_cons, List.take_zero, CM.bind]
  exact app_core wf ho hz hb hl w
theorem app_coreD {h : H} (wf : WFH h) {v x : CV} {cs : List CV} {te : Ty} {rd wr al : List Nat} (ho : OutC h v cs) (hz : te.sz = 1) (hb : (cs.length + 1) * te.bts ≤ 140737488355328) (hl : cs.length + 1 ≤ 140737488355328) {K : CV → H → List Nat → List Nat → List Nat → Prop}
    (w : ∀ h' rd wr al, App h h' v (cs ++ [x]) → K (.ref h.next 0 (cs.length + 1) 1) h' rd wr al) :
    vE ((match v with
      | .nils => if [x].isEmpty then .pure .nils else if [x].length / te.sz * te.bts ≤ 140737488355328 ∧ [x].length / te.sz ≤ 140737488355328 then .new (.cells [x]) fun id => .pure (.ref id 0 ([x].length / te.sz) te.sz) else .fail
      | .ref id off len sz => .get id fun ob =>
        match ob with
        | .cells cs =>
          if off + len * sz ≤ cs.length ∧ (len + [x].length / te.sz) * te.bts ≤ 140737488355328 ∧ len + [x].length / te.sz ≤ 140737488355328 then
            .del id (.new (.cells ((cs.drop off).take (len * sz) ++ [x])) fun id' => .pure (.ref id' 0 (len + [x].length / te.sz) sz))
          else .fail
        | _ => .fail
      | _ => .fail) : CM CV) h rd wr al K := by
  rcases ho with ⟨rfl, rfl⟩ | ⟨id, rfl, hg⟩
  · simp only [hz, List.isEmpty_cons, Bool.false_eq_true, if_false, List.length_singleton, Nat.div_one, Nat.one_mul]
    simp only [List.length_nil, Nat.zero_add, Nat.one_mul] at hb
    rw [if_pos ⟨hb, by omega⟩]
    refine w _ _ _ _ ⟨by simp, H.wf_new wf _, by simp, fun i hi _ => by simp [(far hi).1], fun i hi hn => by simp [(far hi).1, hn]⟩
  · have hi := H.lt_next wf hg
    simp only [hz, List.length_singleton, Nat.div_one]
    refine ⟨_, hg, ?_⟩
    simp only [Nat.mul_one, Nat.zero_add, List.drop_zero]
    rw [if_pos ⟨Nat.le_refl _, hb, hl⟩]
    refine ⟨⟨_, hg, rfl⟩, ?_⟩
    rw [List.take_of_length_le (Nat.le_refl _)]
    exact w _ _ _ _ ⟨by simp, H.wf_new (H.wf_del wf _) _, by simp, fun i hi hne => by simp [(far hi).1, hne id _ _ _ rfl], fun i hi hn => by simp [(far hi).1, hn]⟩
/-- The same in a drawn region. -/
theorem appD1 {E : Env} {d0 : Option Tmp} {ty0 : TypeId} {ps : String} {af : Array Edge} {gd : Option (Nat × Bool)} {args : Array Operand} {ts : Array TypeId} {tm : List CV} {h : H} {hid : List Nat} {K : CV → H → Tch → Prop} {tg : Tag (E, (⟨d0, .call { callee := .builtin .append, args := args, argTypes := ts }, ty0, ps, af, gd⟩ : Oper), hid, K)}
    (wf : WFH h) {v x : CV} {cs : List CV} {yid t u e : Nat} {tt tu te : Ty} (ho : OutC h v cs) (ha : args.toList.map (evC E tm) = [v, .ref yid 0 1 1]) (hy : h.get yid = some (.cells [x])) (hts : ts.toList = [t, u])
    (ht : E.T t = some tt) (hk : tt.kd = .slice e) (hu : E.T u = some tu) (hs : tu.kd.isSl = true) (he : E.T e = some te) (hz : te.sz = 1) (h0 : te.zero.isSome = true) (hb : (cs.length + 1) * te.bts ≤ 140737488355328) (hl : cs.length + 1 ≤ 140737488355328)
    (w : ∀ h' t, App h h' v (cs ++ [x]) → K (.ref h.next 0 (cs.length + 1) 1) h' t) : uOpD E ⟨d0, .call { callee := .builtin .append, args := args, argTypes := ts }, ty0, ps, af, gd⟩ hid tm h K tg := by
  rw [d_append, ha, hts]
  obtain ⟨kd, sz, bts, zero, flat⟩ := tt
  simp only at hk
  subst hk
  simp only [ht, hu, he]
  have hsv : szC te.sz v = true := by
    rcases ho with ⟨rfl, _⟩ | ⟨id, rfl, _⟩ <;> simp [szC, hz]
  have hsy : szC te.sz (.ref yid 0 1 1) = true := by simp [szC, hz]
  rw [if_pos (by rw [hsv, hs, hsy, h0, hz]; rfl)]
  simp only [rowC, CM.bind]
  show vE _ h [] [] [] _
  refine ⟨_, hy, ?_⟩
  simp only [List.length_singleton, Nat.zero_add, Nat.mul_one, Nat.le_refl, if_true, List.drop_zero, List.take_succ_cons, List.take_zero, CM.bind]
  exact app_coreD wf ho hz hb hl fun h' rd wr al A => w h' _ A
end Go.Cv
