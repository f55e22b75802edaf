/- From a call over the clean heap to the given rows: what a law's arguments are as clean values, and what a law that answers true and leaves all that was there gives. -/
import Derived.Test.YtjlabjncojhjkaaDoorCv20
import Derived.ReadAgain
import Derived.ChangeBears
import Derived.RowKit
import Derived.ChangeSame
namespace Go.Cv
open Go

/-- A value of a type, cell by cell. -/
inductive Fit (P : Program) : TypeId → List CV → Prop where
  | bool {t : TypeId} (b : Bool) (h : P.underlying t = some .bool) : Fit P t [.bool b]
  | int {t : TypeId} (k : IntKind) (n : Int) (h : P.underlying t = some (.int k)) (hw : (Lit.int k n).wf = true) : Fit P t [.int k n]
  | str {t : TypeId} (s : List UInt8) (h : P.underlying t = some .string) (hl : s.length ≤ maxLen) : Fit P t [.str s]
  | sl {t e : TypeId} (xs : List (List CV)) (h : P.underlying t = some (.slice e)) (hl : xs.length ≤ maxLen) (hx : ∀ x ∈ xs, Fit P e x) : Fit P t [.lst (P.cellsOf e) xs]
  | struct {t : TypeId} {fs : Array Field} (cs : List CV) (h : P.underlying t = some (.struct fs)) (hl : cs.length = P.cellsOf t) (hx : ∀ (i : Nat) (f : Field), fs[i]? = some f → Fit P f.type ((cs.drop f.offset).take (P.cellsOf f.type))) : Fit P t cs
  | arr {t e : TypeId} {n : Nat} (cs : List CV) (h : P.underlying t = some (.array n e)) (hl : cs.length = P.cellsOf t) (hx : ∀ i, i < n → Fit P e ((cs.drop (i * P.cellsOf e)).take (P.cellsOf e))) : Fit P t cs
/-- A type of plain data: no pointer, no map, no interface. -/
def plainB (P : Program) : Nat → TypeId → Bool
  | 0, _ => false
  | n + 1, t => match P.underlying t with
    | some .bool => true
    | some (.int _) => true
    | some .string => true
    | some (.slice e) => decide (0 < P.cellsOf e) && plainB P n e
    | some (.struct fs) => fs.toList.all fun f => plainB P n f.type
    | some (.array _ e) => plainB P n e
    | _ => false
def g0 (W : World) : Gh := { icell := fun b o => W.cell? ⟨b, o, none⟩, place := fun _ => none }
theorem R_g0 (W : World) : R (g0 W) ⟨0, .leaf⟩ W := ⟨fun b o v h => h, fun id o h => by simp [H.get, Tr.get] at h, fun i j oi oj p q h => by simp [H.get, Tr.get] at h⟩
theorem WFH_0 : WFH ⟨0, .leaf⟩ := fun _ _ => rfl
theorem Free_0 (W : World) (a b : Nat) : Free (g0 W) a b := fun _ _ _ => rfl
theorem choose_list {α : Type} {p : Nat → α → Prop} : ∀ {n : Nat}, (∀ i, i < n → ∃ x, p i x) → ∃ l : List α, l.length = n ∧ ∀ i x, l[i]? = some x → p i x
  | 0, _ => ⟨[], rfl, fun i x h => by simp at h⟩
  | n + 1, h => by
    obtain ⟨l, hl, hp⟩ := choose_list (n := n) (p := p) fun i hi => h i (by omega)
    obtain ⟨x, hx⟩ := h n (by omega)
    refine ⟨l ++ [x], by simp [hl], fun i y hy => ?_⟩
    by_cases hi : i < l.length
    · rw [List.getElem?_append_left hi] at hy; exact hp i y hy
    · rw [List.getElem?_append_right (by omega)] at hy
      have h0 : i - l.length = 0 := by
        rcases e : i - l.length with _ | m
        · rfl
        · rw [e] at hy; simp at hy
      rw [h0] at hy
      simp at hy; subst hy
      rw [show i = n by omega]; exact hx
theorem drop_take_flatten {α : Type} : ∀ (l : List (List α)) (j : Nat) (x : List α), l[j]? = some x → (l.flatten.drop ((l.take j).map List.length).sum).take x.length = x
  | [], j, x, h => by simp at h
  | y :: l, 0, x, h => by simp at h; subst h; simp
  | y :: l, j + 1, x, h => by
    simp only [List.getElem?_cons_succ] at h
    have := drop_take_flatten l j x h
    simp only [List.flatten_cons, List.take_succ_cons, List.map_cons, List.sum_cons]
    rw [List.drop_append, List.drop_of_length_le (by omega), List.nil_append]
    rwa [show y.length + ((l.take j).map List.length).sum - y.length = ((l.take j).map List.length).sum by omega]
theorem VRL.flatten {g : Gh} : ∀ {ds : List (List CV)} {cs : List (List Value)}, ds.length = cs.length → (∀ (i : Nat) d c, ds[i]? = some d → cs[i]? = some c → VRL g d c) → VRL g ds.flatten cs.flatten
  | [], [], _, _ => .nil g
  | d :: ds, c :: cs, hl, h => by
    simp only [List.flatten_cons]
    exact (h 0 d c rfl rfl).append (VRL.flatten (by simpa using hl) fun i x y p q => h (i + 1) x y (by simpa using p) (by simpa using q))
  | [], _ :: _, hl, _ => by simp at hl
  | _ :: _, [], hl, _ => by simp at hl
theorem VRL.pieces {g : Gh} : ∀ (sz : List Nat) (cs : List Value) (Q : Nat → List CV → Prop), cs.length = sz.sum → (∀ (i s : Nat), sz[i]? = some s → ∃ d, VRL g d ((cs.drop (sz.take i).sum).take s) ∧ Q i d) →
    ∃ ds, VRL g ds cs ∧ ∀ (i s : Nat), sz[i]? = some s → Q i ((ds.drop (sz.take i).sum).take s)
  | [], cs, Q, hl, _ => by
    have : cs = [] := List.length_eq_zero_iff.1 (by simpa using hl)
    subst this
    exact ⟨[], .nil g, fun i s h => by simp at h⟩
  | s0 :: sz, cs, Q, hl, h => by
    simp only [List.sum_cons] at hl
    obtain ⟨d0, v0, q0⟩ := h 0 s0 rfl
    simp only [List.take_zero, List.sum_nil, List.drop_zero] at v0
    obtain ⟨ds, v1, q1⟩ := VRL.pieces sz (cs.drop s0) (fun i => Q (i + 1)) (by rw [List.length_drop]; omega) fun i s hi => by
      obtain ⟨d, a, b⟩ := h (i + 1) s (by simpa using hi)
      simp only [List.take_succ_cons, List.sum_cons] at a
      exact ⟨d, by rw [List.drop_drop]; exact a, b⟩
    have l0 : d0.length = s0 := by rw [v0.1, List.length_take]; omega
    refine ⟨d0 ++ ds, by have := v0.append v1; rwa [List.take_append_drop] at this, fun i s hi => ?_⟩
    rcases i with _ | i
    · simp only [List.getElem?_cons_zero, Option.some.injEq] at hi
      subst hi
      simp only [List.take_zero, List.sum_nil, List.drop_zero]
      rw [List.take_left' l0]; exact q0
    · have := q1 i s (by simpa using hi)
      simp only [List.take_succ_cons, List.sum_cons]
      rw [List.drop_append, List.drop_of_length_le (by omega), List.nil_append, l0, Nat.add_sub_cancel_left]
      exact this
section
variable {Hd : Type} {enc : TypeId × Value → Hd} {P : Program} {W : World}
theorem trod_array' {n0 : Nat} {e : TypeId} {fuel : Nat} {t : TypeId} {cs : List Value} {x : DataW Hd × List MemPlace} (ht : P.underlying t = some (.array n0 e)) (h : DataW.trod enc P W 0 (fun _ => true) true fuel t cs = some x) :
    ∃ n, fuel = n + 1 ∧ cs.length = P.cellsOf t ∧ ∀ i, i < n0 → ∃ y, DataW.trod enc P W 0 (fun _ => true) true n e ((cs.drop (i * P.cellsOf e)).take (P.cellsOf e)) = some y := by
  cases fuel with
  | zero => simp [DataW.trod] at h
  | succ n =>
    unfold DataW.trod at h
    rw [ht] at h
    split at h <;> simp_all
    obtain ⟨hl, xs, hp, hd⟩ := h
    intro i hi
    have := mapM_some_get hp i i (by simp [hi])
    have hlen := mapM_some_length hp
    rw [List.length_range] at hlen
    exact ⟨_, _, this.trans (List.getElem?_eq_getElem (by omega))⟩
theorem trod_fit (K : Kids P (· < P.types.size)) : ∀ (n m : Nat) (t : TypeId) (cs : List Value) (x : DataW Hd × List MemPlace), t < P.types.size → plainB P m t = true → DataW.trod enc P W 0 (fun _ => true) true n t cs = some x →
    ∃ ds, VRL (g0 W) ds cs ∧ Fit P t ds
  | 0, m, t, cs, x, _, _, h => by simp [DataW.trod] at h
  | n + 1, 0, t, cs, x, _, hp, h => by simp [plainB] at hp
  | n + 1, m + 1, t, cs, x, hT, hp, h => by
    have ih := trod_fit K n m
    unfold plainB at hp
    split at hp
    · rename_i ht
      obtain ⟨b, rfl, rfl⟩ := DataW.trod_bool ht h
      exact ⟨[.bool b], .cons (.bool b) rfl (.nil _), .bool b ht⟩
    · rename_i k ht
      obtain ⟨b, rfl, rfl, hw⟩ := DataW.trod_int ht h
      exact ⟨[.int k b], .cons (.int k b) rfl (.nil _), .int k b ht hw⟩
    · rename_i ht
      obtain ⟨s, rfl, rfl, hw⟩ := DataW.trod_string ht h
      obtain ⟨⟨l⟩⟩ := s
      exact ⟨[.str l], .cons (.str l) rfl (.nil _), .str l ht (by simpa [ByteArray.size] using hw)⟩
    · rename_i e ht
      simp only [Bool.and_eq_true, decide_eq_true_eq] at hp
      rcases DataW.trod_slice ht h with ⟨rfl, rfl⟩ | ⟨a, len, cap, elems, rest, n', hn, rfl, rfl, hb, hl, hm, hlen, hel, hsp, hns⟩
      · exact ⟨[.lst (P.cellsOf e) []], .cons (.lst0 _ _ _) rfl (.nil _), .sl [] ht (Nat.zero_le _) (fun x hx => by simp at hx)⟩
      · obtain rfl : n = n' := by omega
        have each : ∀ i, i < len → ∃ c : List CV × List Value, W.cells? 0 (a.add (i * P.cellsOf e)) (P.cellsOf e) = some c.2 ∧ VRL (g0 W) c.1 c.2 ∧ Fit P e c.1 := by
          intro i hi
          have h1 := hel i hi
          rw [List.getElem?_eq_getElem (by omega), Option.bind_eq_some_iff] at h1
          obtain ⟨c, hc, h2⟩ := h1
          obtain ⟨d, h3, h4⟩ := ih e c _ (K.slice hT ht) hp.2 h2
          exact ⟨(d, c), hc, h3, h4⟩
        obtain ⟨l, hll, hl2⟩ := choose_list each
        have hfit : Fit P t [.lst (P.cellsOf e) (l.map (·.1))] := .sl _ ht (by simp; omega) fun x hx => by
          obtain ⟨c, hc, rfl⟩ := List.mem_map.1 hx
          obtain ⟨i, hi⟩ := List.getElem?_of_mem hc
          exact (hl2 i c hi).2.2
        refine ⟨_, ?_, hfit⟩
        refine .cons ?_ rfl (.nil _)
        rcases Nat.eq_zero_or_pos len with h0 | h0
        · subst h0
          have : l = [] := List.length_eq_zero_iff.1 hll
          subst this
          exact .lst0 _ _ _
        · have hs : a.spot = none := by
            obtain ⟨c, hc⟩ : ∃ c, l[0]? = some c := ⟨_, List.getElem?_eq_getElem (by omega)⟩
            obtain ⟨h1, h2, _⟩ := hl2 0 c hc
            obtain ⟨_, h3, h4⟩ := World.cells?_some h1
            have h5 := h4 0 hp.1
            have h6 : ∃ v, c.2[0]? = some v := ⟨_, List.getElem?_eq_getElem (by omega)⟩
            obtain ⟨v, h6⟩ := h6
            rw [h6] at h5
            simp only [Nat.zero_mul, Addr.add, if_true] at h5
            unfold World.cell? at h5
            split at h5
            · split at h5
              · cases h5
              · rename_i hsp2; simpa using hsp2
            · cases h5
          have hle : (l.map (·.1)).length = len := by simp [hll]
          rw [← hle]
          have pick : ∀ (i : Nat) (x : List CV) (j : Nat) (y : CV), (l.map (·.1))[i]? = some x → x[j]? = some y → ∃ v, (((l.map (·.2))[i]?.getD [])[j]?.getD default) = v ∧ W.cell? ⟨a.block, a.off + i * P.cellsOf e + j, none⟩ = some v ∧ v.oneCell' = true ∧ VR (g0 W) y v := by
            intro i x j y hx hy
            rw [List.getElem?_map, Option.map_eq_some_iff] at hx
            obtain ⟨c, hc, rfl⟩ := hx
            obtain ⟨h1, h2, _⟩ := hl2 i c hc
            obtain ⟨_, h3, h4⟩ := World.cells?_some h1
            have hj : j < P.cellsOf e := by
              have := (List.getElem?_eq_some_iff.1 hy).1
              rw [h2.1, h3] at this; exact this
            obtain ⟨v, hv, h5, h6⟩ := h2.get hy
            refine ⟨v, ?_, ?_, h5, h6⟩
            · rw [List.getElem?_map, hc]; simp [hv]
            · have h7 := h4 j hj
              rw [hv] at h7
              rw [← h7]
              congr 1
              unfold Addr.add
              obtain ⟨ab, ao, asp⟩ := a
              simp only at hs ⊢
              subst hs
              split <;> split <;> simp_all
          refine .lst (P.cellsOf e) _ a cap (fun i j => (((l.map (·.2))[i]?.getD [])[j]?.getD default)) hs (by simp [hll]; exact hl) (fun i x hx => ?_) (fun i x j y hx hy => ?_) (fun i x j y hx hy => ?_)
          · rw [List.getElem?_map, Option.map_eq_some_iff] at hx
            obtain ⟨c, hc, rfl⟩ := hx
            obtain ⟨h1, h2, _⟩ := hl2 i c hc
            obtain ⟨_, h3, h4⟩ := World.cells?_some h1
            rw [h2.1, h3]
          · obtain ⟨v, h1, h2, h3, h4⟩ := pick i x j y hx hy
            simp only [h1]
            exact ⟨h2, h3⟩
          · obtain ⟨v, h1, h2, h3, h4⟩ := pick i x j y hx hy
            simp only [h1]
            exact h4
    · rename_i fs ht
      obtain ⟨xs, n', hn, rfl, hcl, hxl, hf⟩ := DataW.trod_struct ht h
      obtain rfl : n = n' := by omega
      obtain ⟨k1, k2, k3⟩ := K.struct hT ht
      rw [List.all_eq_true] at hp
      obtain ⟨ds, v, q⟩ := VRL.pieces (g := g0 W) (fs.toList.map fun f => P.cellsOf f.type) cs (fun i d => ∀ f, fs[i]? = some f → Fit P f.type d) (hcl.trans k2) (by
        intro i s hi
        rw [List.getElem?_map, Option.map_eq_some_iff] at hi
        obtain ⟨f, hfi, rfl⟩ := hi
        have hfi' : fs[i]? = some f := by simpa using hfi
        have h1 := hf i f hfi'
        have hil : i < fs.size := (Array.getElem?_eq_some_iff.1 hfi').1
        rw [List.getElem?_eq_getElem (by omega)] at h1
        have hmem := List.mem_of_getElem? hfi
        obtain ⟨d, h3, h4⟩ := ih _ _ _ (k1 _ hmem) (hp _ hmem) h1
        refine ⟨d, ?_, fun f' hf' => by rw [hfi'] at hf'; cases hf'; exact h4⟩
        rw [k3 i f hfi, List.map_take] at h3
        exact h3)
      refine ⟨ds, v, .struct ds ht (v.1.trans hcl) fun i f hfi => ?_⟩
      have hfi' : fs.toList[i]? = some f := by simpa using hfi
      have := q i (P.cellsOf f.type) (by rw [List.getElem?_map, hfi']; rfl) f hfi
      rw [k3 i f hfi', List.map_take]
      exact this
    · rename_i n0 e ht
      obtain ⟨n', hn, hcl, hf⟩ := trod_array' ht h
      obtain rfl : n = n' := by omega
      obtain ⟨k1, k2⟩ := K.array hT ht
      have hsum : ∀ i, i ≤ n0 → ((List.replicate n0 (P.cellsOf e)).take i).sum = i * P.cellsOf e := by
        intro i hi
        rw [List.take_replicate, Nat.min_eq_left hi]; simp
      have hget : ∀ i s, (List.replicate n0 (P.cellsOf e))[i]? = some s → i < n0 ∧ s = P.cellsOf e := by
        intro i s hi
        rw [List.getElem?_replicate] at hi
        split at hi
        · rename_i h1; cases hi; exact ⟨h1, rfl⟩
        · cases hi
      obtain ⟨ds, v, q⟩ := VRL.pieces (g := g0 W) (List.replicate n0 (P.cellsOf e)) cs (fun i d => Fit P e d) (by rw [hcl, k2]; simp) (by
        intro i s hi
        obtain ⟨h1, rfl⟩ := hget i s hi
        obtain ⟨y, hy⟩ := hf i h1
        obtain ⟨d, h3, h4⟩ := ih _ _ _ k1 hp hy
        rw [hsum i (by omega)]
        exact ⟨d, h3, h4⟩)
      refine ⟨ds, v, .arr ds ht (v.1.trans hcl) fun i hi => ?_⟩
      have := q i (P.cellsOf e) (by rw [List.getElem?_replicate, if_pos hi])
      rw [hsum i (by omega)] at this
      exact this
    · cases hp
/-- A value of a type. -/
def FitV (P : Program) (t : TypeId) (c : CV) : Prop :=
  match P.underlying t with
  | some (.struct _) | some (.array _ _) => ∃ cs, c = .agg cs ∧ Fit P t cs
  | _ => Fit P t [c]
def FitAll (P : Program) : List TypeId → List CV → Prop
  | [], [] => True
  | t :: ts, c :: cs => FitV P t c ∧ FitAll P ts cs
  | _, _ => False
theorem VRL.one {g : Gh} {ds : List CV} {v : Value} (h : VRL g ds [v]) : ∃ c, ds = [c] ∧ VR g c v := by
  obtain ⟨h1, h2, h3⟩ := h
  match ds, h1 with
  | [c], _ => exact ⟨c, rfl, h3 0 c v rfl rfl⟩
theorem arg_fit (K : Kids P (· < P.types.size)) {m : Nat} {b0 : Nat} {t : TypeId} {v : Value} {d : DataW Hd} {ps : List MemPlace} (hT : t < P.types.size) (hp : plainB P m t = true) (hv : Value.okWide P W .any b0 t v)
    (h : DataW.Trod enc P W 0 (fun _ => true) true t v d ps) : ∃ c, VR (g0 W) c v ∧ FitV P t c := by
  obtain ⟨n, h⟩ := h
  obtain ⟨ds, h1, h2⟩ := trod_fit K n m t _ _ hT hp h
  unfold FitV
  cases m with
  | zero => simp [plainB] at hp
  | succ m =>
  unfold plainB at hp
  split at hp
  · rename_i ht
    obtain ⟨b, rfl⟩ := Go.WideShapes.okWide_bool ht hv
    obtain ⟨c, rfl, hc⟩ := VRL.one h1
    rw [ht]; exact ⟨c, hc, h2⟩
  · rename_i k ht
    obtain ⟨b, rfl⟩ := Go.WideShapes.okWide_int ht hv
    obtain ⟨c, rfl, hc⟩ := VRL.one h1
    rw [ht]; exact ⟨c, hc, h2⟩
  · rename_i ht
    obtain ⟨b, rfl⟩ := Go.WideShapes.okWide_string ht hv
    obtain ⟨c, rfl, hc⟩ := VRL.one h1
    rw [ht]; exact ⟨c, hc, h2⟩
  · rename_i e ht
    obtain ⟨a, len, cap, rfl⟩ := Go.WideShapes.okWide_slice ht hv
    obtain ⟨c, rfl, hc⟩ := VRL.one h1
    rw [ht]; exact ⟨c, hc, h2⟩
  · rename_i fs ht
    obtain ⟨cs, rfl, _⟩ := Go.WideShapes.okWide_struct ht hv
    rw [ht]
    have := VRL.agg h1
    simp only [Value.cells] at this
    exact ⟨.agg ds, by simpa using this, ds, rfl, h2⟩
  · rename_i n0 e ht
    have hv' := hv
    simp only [Value.okWide, ht] at hv'
    obtain ⟨cs, rfl, _⟩ := hv'
    rw [ht]
    have := VRL.agg h1
    simp only [Value.cells] at this
    exact ⟨.agg ds, by simpa using this, ds, rfl, h2⟩
  · cases hp
theorem args_fit (K : Kids P (· < P.types.size)) {m : Nat} {b0 : Nat} : ∀ {ts : List TypeId} {vs : List Value} {ds : List (DataW Hd)} {ps : List MemPlace}, (∀ t ∈ ts, t < P.types.size ∧ plainB P m t = true) →
    (∀ (j : Nat) t v, ts[j]? = some t → vs[j]? = some v → Value.okWide P W .any b0 t v) → DataW.TrodAll enc P W 0 (fun _ => true) true ts vs ds ps →
    ∃ cvs, FitAll P ts cvs ∧ cvs.length = vs.length ∧ ds.length = ts.length ∧ ∀ (i : Nat) c v, cvs[i]? = some c → vs[i]? = some v → VR (g0 W) c v
  | [], [], [], _, _, _, _ => ⟨[], trivial, rfl, rfl, fun i c v h => by simp at h⟩
  | t :: ts, v :: vs, d :: ds, _, hT, hv, ⟨p, q, h1, h2, _⟩ => by
    obtain ⟨c, hc, hf⟩ := arg_fit K (hT t (List.mem_cons_self ..)).1 (hT t (List.mem_cons_self ..)).2 (hv 0 t v rfl rfl) h1
    obtain ⟨cvs, h3, h4, h6, h5⟩ := args_fit K (fun t ht => hT t (List.mem_cons_of_mem _ ht)) (fun j t v a b => hv (j + 1) t v (by simpa using a) (by simpa using b)) h2
    refine ⟨c :: cvs, ⟨hf, h3⟩, by simp [h4], by simp [h6], fun i x y hx hy => ?_⟩
    rcases i with _ | i
    · simp at hx hy; subst hx; subst hy; exact hc
    · exact h5 i x y (by simpa using hx) (by simpa using hy)
  | [], _ :: _, _, _, _, _, h => by cases h
  | [], [], _ :: _, _, _, _, h => by cases h
  | _ :: _, [], _, _, _, _, h => by cases h
  | _ :: _, _ :: _, [], _, _, _, h => by cases h
theorem Keep.kept {w w' : World} (k : Keep (g0 w) ⟨0, .leaf⟩ w w') : ∀ i, i < w.heap.size → w'.heap[i]? = w.heap[i]? := fun i hi => k.blk i hi fun ⟨id, o, p, h, _⟩ => by simp [H.get, Tr.get] at h
theorem trodAll_carry {W' : World} : ∀ {ts : List TypeId} {vs : List Value} {ds : List (DataW Hd)} {ps : List MemPlace}, DataW.TrodAll enc P W 0 (fun _ => true) true ts vs ds ps → (∀ p ∈ ps, W.sameAt W' p) → DataW.TrodAll enc P W' 0 (fun _ => true) true ts vs ds ps
  | [], [], [], _, h, _ => h
  | _ :: _, _ :: _, _ :: _, _, ⟨p, q, ⟨n, h1⟩, h2, e⟩, hs => ⟨p, q, ⟨n, DataW.trod_carry n _ _ _ h1 fun x hx => hs x (by rw [e]; exact List.mem_append_left _ hx)⟩, trodAll_carry h2 (fun x hx => hs x (by rw [e]; exact List.mem_append_right _ hx)), e⟩
/-- A law's call, out of its run over the clean heap. -/
theorem law_calls {E : Env} (hE : E.OK) (hm : E.P.follows .mixedOrders = true) {f : FuncId} {fn : Func} {s : ChangeSpec} {m tb : Nat} {base : Nat} {args : Array Value} {ds gs : List (DataW Hd)} {before : List MemPlace}
    (K : Kids E.P (· < E.P.types.size)) (full : ∀ t e, t < E.P.types.size → E.P.underlying t = some (.slice e) → 0 < E.P.cellsOf e)
    (hts : fn.params.toList.all (fun t => decide (t < E.P.types.size) && plainB E.P m t) = true) (hrt : fn.resultTypes = #[tb]) (htb : E.P.underlying tb = some .bool) (hvars : s.vars = [])
    (hfn : ∀ ds : List (DataW Hd), ds.length = fn.params.toList.length → s.fn Hd ds = { results := [.lit (.bool true)], args := ds })
    (hval : ∀ (j : Nat) t v, fn.params[j]? = some t → args[j]? = some v → Value.okWide E.P W .any base t v)
    (hW : DataW.Whole enc E.P fn.params.toList s.vars false W args.toList ds gs before)
    (hG : GlobOK E (g0 W))
    (run : ∀ cvs, FitAll E.P fn.params.toList cvs → Runs E f cvs ⟨0, .leaf⟩ fun v _ => v = .bool true) :
    Calls E.P f args W fun e W' => ∃ v, e = .returned v ∧ s.post enc E.P fn false true false false W args v W' := by
  have hW' := hW
  obtain ⟨p, q, hA, hV, rfl, _, _⟩ := hW
  rw [hvars] at hV
  obtain ⟨rfl, rfl⟩ : gs = [] ∧ q = [] := by
    cases gs with
    | nil => exact ⟨rfl, hV⟩
    | cons => cases hV
  simp only [List.append_nil] at hW'
  have hts' : ∀ t ∈ fn.params.toList, t < E.P.types.size ∧ plainB E.P m t = true := fun t ht => by
    have := List.all_eq_true.1 hts t ht
    simpa using this
  obtain ⟨cvs, c1, c2, c4, c3⟩ := args_fit (b0 := base) K hts' (fun j t v a b => hval j t v (by simpa using a) (by simpa using b)) hA
  obtain ⟨n, v, h', hr, rfl⟩ := run cvs c1
  have ht : TmpR (g0 W) cvs args := ⟨by simpa using c2, fun i c v a b => c3 i c v a (by simpa using b)⟩
  refine ((runFn_sound hE hm n).run _ _ _ _ _ hr WFH_0 _ _ _ (R_g0 W) hG ht (Free_0 W _ _)).mono fun e W' ⟨g', v', he, hv, st⟩ => ?_
  subst he
  cases hv
  have kept := st.keep.kept
  have lt := DataW.TrodAll.lt hA
  have same : ∀ p' ∈ p, W.sameAt W' p' := by
    intro x hx
    have hb := lt x hx
    cases x with
    | cell b off =>
      have := kept b hb
      simp only [World.sameAt, World.cell?, this]
    | map b => exact kept b hb
  refine ⟨_, rfl, ds, [], p, [], p, [], hW', ?_, ?_, ?_, ?_, fun h => by cases h⟩
  · rw [List.append_nil, hfn ds c4, hrt]
    exact ⟨[], [], ⟨1, by simp [DataW.trod, Value.cells, htb]⟩, rfl, rfl⟩
  · rw [List.append_nil, hfn ds c4]
    refine DataW.TrodAll.respare K full (fun t ht => (hts' t ht).1) (trodAll_carry hA same) fun x hx => ?_
    simpa using lt x hx
  · rw [List.append_nil, hfn ds c4, hvars]
    rfl
  · refine ⟨st.keep.os, st.keep.output, fun i hi => ?_⟩
    rw [kept i hi]
    split <;> simp_all
end
end Go.Cv
