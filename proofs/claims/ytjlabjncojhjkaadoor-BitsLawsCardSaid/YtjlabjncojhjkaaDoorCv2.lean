/- How clean values and the clean heap stand to the machine's values and its memory. -/
import Derived.Test.YtjlabjncojhjkaaDoorCv1
import Derived.Laws.Append
namespace Go.Cv
open Go

/-- What is known beside: cells that are never written any more, and where each object of the clean heap lies: block, first cell, the block's cells. -/
structure Gh where
  icell : Nat → Nat → Option Value
  place : Nat → Option (Nat × Nat × Nat)
def Gh.le (g g' : Gh) : Prop := (∀ b o v, g.icell b o = some v → g'.icell b o = some v) ∧ (∀ i p, g.place i = some p → g'.place i = some p)
theorem Gh.le_refl (g : Gh) : g.le g := ⟨fun _ _ _ h => h, fun _ _ h => h⟩
theorem Gh.le_trans {a b c : Gh} (h : a.le b) (k : b.le c) : a.le c := ⟨fun _ _ _ x => k.1 _ _ _ (h.1 _ _ _ x), fun _ _ x => k.2 _ _ (h.2 _ _ x)⟩

inductive VR (g : Gh) : CV → Value → Prop where
  | undef (v : Value) : VR g .undef v
  | int (k : IntKind) (n : Int) : VR g (.int k n) (.int k n)
  | bool (b : Bool) : VR g (.bool b) (.bool b)
  | str (s : List UInt8) : VR g (.str s) (.string ⟨s.toArray⟩)
  | nils : VR g .nils (.slice none 0 0)
  | lst0 (sz : Nat) (A : Option Addr) (c : Nat) : VR g (.lst sz []) (.slice A 0 c)
  | lst (sz : Nat) (xs : List (List CV)) (a : Addr) (c : Nat) (val : Nat → Nat → Value) (hs : a.spot = none) (hc : xs.length ≤ c)
      (hz : ∀ (i : Nat) (x : List CV), xs[i]? = some x → x.length = sz)
      (h1 : ∀ (i : Nat) (x : List CV) (j : Nat) (y : CV), xs[i]? = some x → x[j]? = some y → g.icell a.block (a.off + i * sz + j) = some (val i j) ∧ (val i j).oneCell' = true)
      (h2 : ∀ (i : Nat) (x : List CV) (j : Nat) (y : CV), xs[i]? = some x → x[j]? = some y → VR g y (val i j)) : VR g (.lst sz xs) (.slice (some a) xs.length c)
  | ref (id off len sz : Nat) (a : Addr) (c b base lim : Nat) (hp : g.place id = some (b, base, lim)) (hc : len ≤ c)
      (h : c = 0 ∨ (a = ⟨b, base + off, none⟩ ∧ base + off + c * sz ≤ lim)) : VR g (.ref id off len sz) (.slice (some a) len c)
  | agg (cs : List CV) (vs : Array Value) (hl : cs.length = vs.size) (h1 : ∀ (i : Nat) v, vs[i]? = some v → v.oneCell' = true)
      (h2 : ∀ (i : Nat) c v, cs[i]? = some c → vs[i]? = some v → VR g c v) : VR g (.agg cs) (.agg vs)
  | tup (cs : List CV) (vs : Array Value) (hl : cs.length = vs.size) (h2 : ∀ (i : Nat) c v, cs[i]? = some c → vs[i]? = some v → VR g c v) : VR g (.tup cs) (.tuple vs)
  | ptr (id off b base lim : Nat) (hp : g.place id = some (b, base, lim)) : VR g (.ptr id off) (.pointer (some ⟨b, base + off, none⟩))
  | nilp : VR g .nilp (.pointer none)
  | iptr (cs : List CV) (off b o : Nat) (val : Nat → Value) (h1 : ∀ (j : Nat) (y : CV), cs[j]? = some y → g.icell b (o + j) = some (val j) ∧ (val j).oneCell' = true)
      (h2 : ∀ (j : Nat) (y : CV), cs[j]? = some y → VR g y (val j)) : VR g (.iptr cs off) (.pointer (some ⟨b, o + off, none⟩))
  | map (id b x y : Nat) (hp : g.place id = some (b, x, y)) : VR g (.map id) (.map (some b))
  | nilm : VR g .nilm (.map none)
  | fn (f : Nat) (caps : List CV) (vs : Array Value) (hl : caps.length = vs.size) (h2 : ∀ (i : Nat) c v, caps[i]? = some c → vs[i]? = some v → VR g c v) : VR g (.fn f caps) (.func (.func f) #[] vs)
  | nilf : VR g .nilf .nilFunc

theorem VR.mono {g g' : Gh} (hg : g.le g') {c : CV} {v : Value} (h : VR g c v) : VR g' c v := by
  induction h with
  | undef v => exact .undef v
  | int k n => exact .int k n
  | bool b => exact .bool b
  | str s => exact .str s
  | nils => exact .nils
  | lst0 sz A c => exact .lst0 sz A c
  | lst sz xs a c val hs hc hz h1 _ ih => exact .lst sz xs a c val hs hc hz (fun i x j y p q => ⟨hg.1 _ _ _ (h1 i x j y p q).1, (h1 i x j y p q).2⟩) ih
  | ref id off len sz a c b base lim hp hc h => exact .ref id off len sz a c b base lim (hg.2 _ _ hp) hc h
  | agg cs vs hl h1 _ ih => exact .agg cs vs hl h1 ih
  | tup cs vs hl _ ih => exact .tup cs vs hl ih
  | ptr id off b base lim hp => exact .ptr id off b base lim (hg.2 _ _ hp)
  | nilp => exact .nilp
  | iptr cs off b o val h1 _ ih => exact .iptr cs off b o val (fun j y p => ⟨hg.1 _ _ _ (h1 j y p).1, (h1 j y p).2⟩) ih
  | map id b x y hp => exact .map id b x y (hg.2 _ _ hp)
  | nilm => exact .nilm
  | fn f caps vs hl _ ih => exact .fn f caps vs hl ih
  | nilf => exact .nilf

/-- Related cells: a list of clean values against a list of the machine's, each of one cell. -/
def VRL (g : Gh) (cs : List CV) (vs : List Value) : Prop := cs.length = vs.length ∧ (∀ v ∈ vs, v.oneCell' = true) ∧ ∀ (i : Nat) c v, cs[i]? = some c → vs[i]? = some v → VR g c v
theorem VRL.mono {g g' : Gh} (hg : g.le g') {cs : List CV} {vs : List Value} (h : VRL g cs vs) : VRL g' cs vs := ⟨h.1, h.2.1, fun i c v p q => (h.2.2 i c v p q).mono hg⟩
theorem VRL.nil (g : Gh) : VRL g [] [] := ⟨rfl, by simp, by simp⟩
theorem VRL.cons {g : Gh} {c : CV} {v : Value} {cs : List CV} {vs : List Value} (h : VR g c v) (h1 : v.oneCell' = true) (ht : VRL g cs vs) : VRL g (c :: cs) (v :: vs) := by
  refine ⟨by simp [ht.1], fun u hu => ?_, fun i c' v' hc hv => ?_⟩
  · cases hu with
    | head => exact h1
    | tail _ hm => exact ht.2.1 u hm
  · cases i with
    | zero => simp at hc hv; subst hc; subst hv; exact h
    | succ i => simp at hc hv; exact ht.2.2 i c' v' hc hv
theorem VRL.head {g : Gh} {c : CV} {v : Value} {cs : List CV} {vs : List Value} (h : VRL g (c :: cs) (v :: vs)) : VR g c v ∧ v.oneCell' = true ∧ VRL g cs vs :=
  ⟨h.2.2 0 c v rfl rfl, h.2.1 v (by simp), by simpa using h.1, fun u hu => h.2.1 u (by simp [hu]), fun i c' v' p q => h.2.2 (i + 1) c' v' (by simpa using p) (by simpa using q)⟩
theorem VRL.append {g : Gh} {cs ds : List CV} {vs us : List Value} (h : VRL g cs vs) (k : VRL g ds us) : VRL g (cs ++ ds) (vs ++ us) := by
  refine ⟨by simp [h.1, k.1], fun u hu => ?_, fun i c v hc hv => ?_⟩
  · rcases List.mem_append.1 hu with hu | hu
    · exact h.2.1 u hu
    · exact k.2.1 u hu
  · by_cases hi : i < cs.length
    · rw [List.getElem?_append_left hi] at hc
      rw [List.getElem?_append_left (by rw [← h.1]; exact hi)] at hv
      exact h.2.2 i c v hc hv
    · rw [List.getElem?_append_right (by omega)] at hc
      rw [List.getElem?_append_right (by rw [← h.1]; omega), ← h.1] at hv
      exact k.2.2 _ c v hc hv
theorem VRL.take {g : Gh} {cs : List CV} {vs : List Value} (h : VRL g cs vs) (n : Nat) : VRL g (cs.take n) (vs.take n) :=
  ⟨by simp [h.1], fun u hu => h.2.1 u (List.mem_of_mem_take hu), fun i c v hc hv => by
    rw [List.getElem?_take] at hc hv
    by_cases hi : i < n
    · rw [if_pos hi] at hc hv; exact h.2.2 i c v hc hv
    · rw [if_neg hi] at hc; cases hc⟩
theorem VRL.drop {g : Gh} {cs : List CV} {vs : List Value} (h : VRL g cs vs) (n : Nat) : VRL g (cs.drop n) (vs.drop n) :=
  ⟨by simp [h.1], fun u hu => h.2.1 u (List.mem_of_mem_drop hu), fun i c v hc hv => by
    rw [List.getElem?_drop] at hc hv; exact h.2.2 _ c v hc hv⟩
theorem VRL.get {g : Gh} {cs : List CV} {vs : List Value} (h : VRL g cs vs) {i : Nat} {c : CV} (hc : cs[i]? = some c) : ∃ v, vs[i]? = some v ∧ v.oneCell' = true ∧ VR g c v := by
  have hi : i < vs.length := by rw [← h.1]; exact (List.getElem?_eq_some_iff.1 hc).1
  exact ⟨vs[i], by simp [hi], h.2.1 _ (List.getElem_mem hi), h.2.2 i c _ hc (by simp [hi])⟩
theorem VRL.of_agg {g : Gh} {cs : List CV} {vs : Array Value} (h : VR g (.agg cs) (.agg vs)) : VRL g cs vs.toList := by
  cases h with
  | agg _ _ hl h1 h2 =>
    refine ⟨by simpa using hl, fun u hu => ?_, fun i c v p q => h2 i c v p (by simpa using q)⟩
    obtain ⟨i, hi⟩ := List.getElem?_of_mem hu
    exact h1 i u (by simpa using hi)
theorem VRL.agg {g : Gh} {cs : List CV} {vs : List Value} (h : VRL g cs vs) : VR g (.agg cs) (.agg vs.toArray) :=
  .agg cs _ (by simpa using h.1) (fun i v p => h.2.1 v (List.mem_of_getElem? (by simpa using p))) (fun i c v p q => h.2.2 i c v p (by simpa using q))

/-- A value's cells stand to the machine's. -/
theorem VR.cells {g : Gh} {c : CV} {v : Value} (h : VR g c v) {cs : List CV} (hc : c.cells = some cs) : VRL g cs v.cells.toList := by
  cases h with
  | agg cs' vs hl h1 h2 =>
    simp only [CV.cells, Option.some.injEq] at hc
    subst hc
    exact VRL.of_agg (.agg cs' vs hl h1 h2)
  | undef => simp [CV.cells] at hc
  | tup => simp [CV.cells] at hc
  | int k n => simp only [CV.cells, Option.some.injEq] at hc; subst hc; exact .cons (.int k n) rfl (.nil g)
  | bool b => simp only [CV.cells, Option.some.injEq] at hc; subst hc; exact .cons (.bool b) rfl (.nil g)
  | str b => simp only [CV.cells, Option.some.injEq] at hc; subst hc; exact .cons (.str b) rfl (.nil g)
  | nils => simp only [CV.cells, Option.some.injEq] at hc; subst hc; exact .cons .nils rfl (.nil g)
  | lst0 sz A c => simp only [CV.cells, Option.some.injEq] at hc; subst hc; exact .cons (.lst0 sz A c) rfl (.nil g)
  | lst sz xs a c val hs hcc hz h1 h2 => simp only [CV.cells, Option.some.injEq] at hc; subst hc; exact .cons (.lst sz xs a c val hs hcc hz h1 h2) rfl (.nil g)
  | ref id off len sz a c b base lim hp hcc hh => simp only [CV.cells, Option.some.injEq] at hc; subst hc; exact .cons (.ref id off len sz a c b base lim hp hcc hh) rfl (.nil g)
  | ptr id off b base lim hp => simp only [CV.cells, Option.some.injEq] at hc; subst hc; exact .cons (.ptr id off b base lim hp) rfl (.nil g)
  | nilp => simp only [CV.cells, Option.some.injEq] at hc; subst hc; exact .cons .nilp rfl (.nil g)
  | iptr cs off b o val h1 h2 => simp only [CV.cells, Option.some.injEq] at hc; subst hc; exact .cons (.iptr cs off b o val h1 h2) rfl (.nil g)
  | map id b x y hp => simp only [CV.cells, Option.some.injEq] at hc; subst hc; exact .cons (.map id b x y hp) rfl (.nil g)
  | nilm => simp only [CV.cells, Option.some.injEq] at hc; subst hc; exact .cons .nilm rfl (.nil g)
  | fn f caps vs hl h2 => simp only [CV.cells, Option.some.injEq] at hc; subst hc; exact .cons (.fn f caps vs hl h2) rfl (.nil g)
  | nilf => simp only [CV.cells, Option.some.injEq] at hc; subst hc; exact .cons .nilf rfl (.nil g)

theorem VR.ofS (g : Gh) (v : Value) : VR g (ofS v) v := by
  unfold Cv.ofS
  split
  · exact .bool _
  · exact .int _ _
  · rename_i s
    obtain ⟨⟨l⟩⟩ := s
    exact .str l
  · exact .nilp
  · exact .nils
  · exact .nilm
  · exact .nilf
  · exact .undef _

/-! ### Memory -/
def NoFrz (fz : Nat × Nat) (n : Nat) : Prop := ∀ j, j < n → ¬(fz.1 ≤ j ∧ j < fz.2)
def CObj.mut : CObj → Bool
  | .fro _ => false
  | _ => true
def CellsR (g : Gh) (w : World) (b base lim : Nat) (cs : List CV) : Prop :=
  ∃ cur e fz, w.heap[b]? = some (.cells cur e fz) ∧ cur.size = lim ∧ NoFrz fz lim ∧ base + cs.length ≤ lim ∧ VRL g cs ((cur.toList.drop base).take cs.length) ∧ (∀ o, g.icell b o = none)
def MapR (g : Gh) (w : World) (b : Nat) (es : List (CV × CV)) : Prop :=
  ∃ ents clock, w.heap[b]? = some (.map ents clock) ∧ ents.size = es.length ∧ ∀ (i : Nat) k v me, es[i]? = some (k, v) → ents[i]? = some me → VR g k me.key ∧ VR g v me.val
def ObjR (g : Gh) (w : World) (id : Nat) : CObj → Prop
  | .cells cs => ∃ b base lim, g.place id = some (b, base, lim) ∧ CellsR g w b base lim cs
  | .fro cs => ∃ b base lim, g.place id = some (b, base, lim) ∧ b < w.heap.size ∧ ∀ (j : Nat) c, cs[j]? = some c → ∃ v, g.icell b (base + j) = some v ∧ v.oneCell' = true ∧ VR g c v
  | .map es => ∃ b x y, g.place id = some (b, x, y) ∧ MapR g w b es
  | .siter s pos => ∃ b x y, g.place id = some (b, x, y) ∧ w.heap[b]? = some (.stringIter ⟨s.toArray⟩ pos)
structure R (g : Gh) (h : H) (w : World) : Prop where
  ic : ∀ b o v, g.icell b o = some v → w.cell? ⟨b, o, none⟩ = some v
  ob : ∀ id o, h.get id = some o → ObjR g w id o
  ex : ∀ i j oi oj p q, h.get i = some oi → h.get j = some oj → g.place i = some p → g.place j = some q → i ≠ j → p.1 ≠ q.1
/-- Numbers from 'next' on name nothing. -/
def WFH (h : H) : Prop := ∀ i, h.next ≤ i → h.get i = none
/-- The numbers that come are free. -/
def Free (g : Gh) (a b : Nat) : Prop := ∀ i, a ≤ i → i < b → g.place i = none
/-- A block of one of the heap's objects that may be written. -/
def Owned (g : Gh) (h : H) (k : Nat) : Prop := ∃ id o p, h.get id = some o ∧ o.mut = true ∧ g.place id = some p ∧ p.1 = k
structure Keep (g : Gh) (h : H) (w w' : World) : Prop where
  os : w'.os = w.os
  tape : w'.tape = w.tape
  output : w'.output = w.output
  size : w.heap.size ≤ w'.heap.size
  blk : ∀ k, k < w.heap.size → ¬ Owned g h k → w'.heap[k]? = w.heap[k]?
/-- A block of one of the heap's objects. -/
def Has (g : Gh) (h : H) (k : Nat) : Prop := ∃ id o p, h.get id = some o ∧ g.place id = some p ∧ p.1 = k
theorem Owned.has {g : Gh} {h : H} {k : Nat} (ho : Owned g h k) : Has g h k := by obtain ⟨id, o, p, a, _, b, c⟩ := ho; exact ⟨id, o, p, a, b, c⟩
structure Step (g : Gh) (h : H) (w : World) (g' : Gh) (h' : H) (w' : World) : Prop where
  r : R g' h' w'
  le : g.le g'
  keep : Keep g h w w'
  own : ∀ k, Owned g' h' k → Owned g h k ∨ w.heap.size ≤ k
  icn : ∀ b o, g'.icell b o ≠ g.icell b o → Owned g h b ∨ w.heap.size ≤ b
  plc : ∀ i, g'.place i ≠ g.place i → h.next ≤ i ∧ i < h'.next
  nx : h.next ≤ h'.next
  wf : WFH h'
  has : ∀ k, Has g' h' k → Has g h k ∨ w.heap.size ≤ k
theorem Keep.refl (g : Gh) (h : H) (w : World) : Keep g h w w := ⟨rfl, rfl, rfl, Nat.le_refl _, fun _ _ _ => rfl⟩
theorem Step.refl {g : Gh} {h : H} {w : World} (hR : R g h w) (wf : WFH h) : Step g h w g h w :=
  ⟨hR, g.le_refl, .refl g h w, fun _ h => .inl h, fun _ _ h => absurd rfl h, fun _ h => absurd rfl h, Nat.le_refl _, wf, fun _ h => .inl h⟩
theorem Step.trans {g g1 g2 : Gh} {h h1 h2 : H} {w w1 w2 : World} (a : Step g h w g1 h1 w1) (b : Step g1 h1 w1 g2 h2 w2) : Step g h w g2 h2 w2 where
  r := b.r
  le := Gh.le_trans a.le b.le
  keep := {
    os := b.keep.os.trans a.keep.os
    tape := b.keep.tape.trans a.keep.tape
    output := b.keep.output.trans a.keep.output
    size := Nat.le_trans a.keep.size b.keep.size
    blk := fun k hk hn => by
      rw [b.keep.blk k (Nat.lt_of_lt_of_le hk a.keep.size) (fun ho => by
        rcases a.own k ho with h' | h'
        · exact hn h'
        · omega)]
      exact a.keep.blk k hk hn }
  own := fun k ho => by
    rcases b.own k ho with h' | h'
    · exact a.own k h'
    · exact .inr (Nat.le_trans a.keep.size h')
  icn := fun k o hne => by
    by_cases h1 : g1.icell k o = g.icell k o
    · rcases b.icn k o (by rw [h1]; exact hne) with h' | h'
      · exact a.own k h'
      · exact .inr (Nat.le_trans a.keep.size h')
    · exact a.icn k o h1
  plc := fun i hne => by
    by_cases h1 : g1.place i = g.place i
    · have := b.plc i (by rw [h1]; exact hne)
      exact ⟨Nat.le_trans a.nx this.1, this.2⟩
    · have := a.plc i h1
      exact ⟨this.1, Nat.lt_of_lt_of_le this.2 b.nx⟩
  nx := Nat.le_trans a.nx b.nx
  wf := b.wf
  has := fun k ho => by
    rcases b.has k ho with h' | h'
    · exact a.has k h'
    · exact .inr (Nat.le_trans a.keep.size h')
/-- A draw of the tape turns nothing. -/
theorem Step.world {g : Gh} {h : H} {w w' : World} (hR : R g h w) (wf : WFH h) (hh : w'.heap = w.heap) (ho : w'.os = w.os) (ht : w'.tape = w.tape) (hp : w'.output = w.output) : Step g h w g h w' := by
  have hc : ∀ a, w'.cell? a = w.cell? a := fun a => by simp [World.cell?, hh]
  refine ⟨⟨fun b o v hv => by rw [hc]; exact hR.ic b o v hv, fun id o hg => ?_, hR.ex⟩, g.le_refl, ⟨ho, ht, hp, by rw [hh]; exact Nat.le_refl _, fun k _ _ => by rw [hh]⟩, fun _ h => .inl h, fun _ _ h => absurd rfl h, fun _ h => absurd rfl h, Nat.le_refl _, wf, fun _ h => .inl h⟩
  have := hR.ob id o hg
  cases o with
  | cells cs => obtain ⟨b, base, lim, hp, h2⟩ := this; exact ⟨b, base, lim, hp, by unfold CellsR at *; rw [hh]; exact h2⟩
  | fro cs => obtain ⟨b, base, lim, hp, h2⟩ := this; exact ⟨b, base, lim, hp, by rw [hh]; exact h2⟩
  | map es => obtain ⟨b, x, y, hp, h2⟩ := this; exact ⟨b, x, y, hp, by unfold MapR at *; rw [hh]; exact h2⟩
  | siter s pos => obtain ⟨b, x, y, hp, h2⟩ := this; exact ⟨b, x, y, hp, by rw [hh]; exact h2⟩

theorem lt_of_get {w : World} {b : Nat} {o : Obj} (h : w.heap[b]? = some o) : b < w.heap.size := (Array.getElem?_eq_some_iff.1 h).1
theorem R.lt {g : Gh} {h : H} {w : World} (hR : R g h w) {id : Nat} {o : CObj} {p : Nat × Nat × Nat} (ho : h.get id = some o) (hp : g.place id = some p) : p.1 < w.heap.size := by
  have := hR.ob id o ho
  cases o with
  | cells cs => obtain ⟨b, base, lim, hp', cur, e, fz, hb, _⟩ := this; rw [hp] at hp'; cases hp'; exact lt_of_get hb
  | fro cs => obtain ⟨b, base, lim, hp', hb, _⟩ := this; rw [hp] at hp'; cases hp'; exact hb
  | map es => obtain ⟨b, base, lim, hp', cur, e, hb, _⟩ := this; rw [hp] at hp'; cases hp'; exact lt_of_get hb
  | siter s pos => obtain ⟨b, base, lim, hp', hb⟩ := this; rw [hp] at hp'; cases hp'; exact lt_of_get hb
theorem R.placed {g : Gh} {h : H} {w : World} (hR : R g h w) {id : Nat} {o : CObj} (ho : h.get id = some o) : ∃ p, g.place id = some p := by
  have := hR.ob id o ho
  cases o with
  | cells cs => obtain ⟨b, base, lim, hp', _⟩ := this; exact ⟨_, hp'⟩
  | fro cs => obtain ⟨b, base, lim, hp', _⟩ := this; exact ⟨_, hp'⟩
  | map es => obtain ⟨b, base, lim, hp', _⟩ := this; exact ⟨_, hp'⟩
  | siter s pos => obtain ⟨b, base, lim, hp', _⟩ := this; exact ⟨_, hp'⟩
/-- No cell of a block that may be written is one that is never written again. -/
theorem R.no_icell {g : Gh} {h : H} {w : World} (hR : R g h w) {k : Nat} (ho : Owned g h k) (o : Nat) : g.icell k o = none := by
  obtain ⟨id, ob, p, hg, hm, hp, rfl⟩ := ho
  have := hR.ob id ob hg
  cases hi : g.icell p.1 o with
  | none => rfl
  | some v =>
    have hc := hR.ic _ _ _ hi
    cases ob with
    | cells cs =>
      obtain ⟨b, base, lim, hp', cur, e, fz, hb, _, _, _, _, h6⟩ := this
      rw [hp] at hp'; cases hp'
      rw [h6 o] at hi; cases hi
    | fro cs => simp [CObj.mut] at hm
    | map es =>
      obtain ⟨b, x, y, hp', cur, e, hb, _⟩ := this
      rw [hp] at hp'; cases hp'
      simp [World.cell?, hb] at hc
    | siter s pos =>
      obtain ⟨b, x, y, hp', hb⟩ := this
      rw [hp] at hp'; cases hp'
      simp [World.cell?, hb] at hc
/-- An object whose block is as it was. -/
theorem ObjR.keep {g g' : Gh} {w w' : World} {id : Nat} {o : CObj} (h : ObjR g w id o) (hg : g.le g') (hi : ∀ p, g.place id = some p → o.mut = true → ∀ q, g'.icell p.1 q = g.icell p.1 q)
    (hs : w.heap.size ≤ w'.heap.size) (hb : ∀ p, g.place id = some p → o.mut = true → w'.heap[p.1]? = w.heap[p.1]?) : ObjR g' w' id o := by
  cases o with
  | cells cs =>
    obtain ⟨b, base, lim, hp, cur, e, fz, h1, h2, h3, h4, h5, h6⟩ := h
    exact ⟨b, base, lim, hg.2 _ _ hp, cur, e, fz, by rw [hb _ hp rfl]; exact h1, h2, h3, h4, h5.mono hg, fun o => by rw [hi _ hp rfl]; exact h6 o⟩
  | fro cs =>
    obtain ⟨b, base, lim, hp, h1, h2⟩ := h
    exact ⟨b, base, lim, hg.2 _ _ hp, by omega, fun j c hc => by obtain ⟨v, a1, a2, a3⟩ := h2 j c hc; exact ⟨v, hg.1 _ _ _ a1, a2, a3.mono hg⟩⟩
  | map es =>
    obtain ⟨b, x, y, hp, ents, clock, h1, h2, h3⟩ := h
    exact ⟨b, x, y, hg.2 _ _ hp, ents, clock, by rw [hb _ hp rfl]; exact h1, h2, fun i k v me p q => ⟨(h3 i k v me p q).1.mono hg, (h3 i k v me p q).2.mono hg⟩⟩
  | siter s pos =>
    obtain ⟨b, x, y, hp, h1⟩ := h
    exact ⟨b, x, y, hg.2 _ _ hp, by rw [hb _ hp rfl]; exact h1⟩

/-- ONE BLOCK IS WRITTEN OR MADE: b; behind it the object id1 lies there, and no other. -/
theorem Step.upd {g : Gh} {h : H} {w : World} (hR : R g h w) {g' : Gh} {h' : H} {w' : World} (b id1 : Nat) (o1 : CObj) (base lim : Nat)
    (hb : Owned g h b ∨ w.heap.size ≤ b)
    (wos : w'.os = w.os) (wtape : w'.tape = w.tape) (wout : w'.output = w.output) (wsize : w.heap.size ≤ w'.heap.size) (wblk : ∀ k, k < w.heap.size → k ≠ b → w'.heap[k]? = w.heap[k]?)
    (gi : g'.icell = g.icell) (gp : ∀ i, i ≠ id1 → g'.place i = g.place i) (gp1 : g'.place id1 = some (b, base, lim)) (gle : ∀ p, g.place id1 = some p → p = (b, base, lim))
    (hget : ∀ i o, i ≠ id1 → h'.get i = some o → h.get i = some o ∧ ∀ p, g.place i = some p → p.1 ≠ b)
    (h1 : h'.get id1 = some o1) (_ : o1.mut = true) (ho : ObjR g' w' id1 o1)
    (hnx : h.next ≤ h'.next) (hid : g.place id1 = none → h.next ≤ id1 ∧ id1 < h'.next) (wf : WFH h') : Step g h w g' h' w' := by
  have le : g.le g' := ⟨fun x o v hv => by rw [gi]; exact hv, fun i p hp => by
    by_cases hi : i = id1
    · subst hi; rw [gp1, gle p hp]
    · rw [gp i hi]; exact hp⟩
  have noic : ∀ o, g.icell b o = none := fun o => by
    rcases hb with hb | hb
    · exact hR.no_icell hb o
    · cases hi : g.icell b o with
      | none => rfl
      | some v =>
        have := hR.ic _ _ _ hi
        simp [World.cell?, Array.getElem?_eq_none hb] at this
  refine ⟨⟨fun x o v hv => ?_, fun i o hg => ?_, fun i j oi oj p q hi hj hpi hpj hij => ?_⟩, le, ⟨wos, wtape, wout, wsize, fun k hk hn => wblk k hk (fun e => ?_)⟩, fun k hk => ?_, fun x o hne => absurd (by rw [gi]) hne, fun i hne => ?_, hnx, wf, fun k hk => ?_⟩
  · rw [gi] at hv
    have hx : x ≠ b := fun e => by subst e; rw [noic o] at hv; cases hv
    have hc := hR.ic _ _ _ hv
    rw [World.cell?] at hc ⊢
    rw [wblk x (by
      cases hh : w.heap[x]? with
      | none => simp [hh] at hc
      | some ob => exact lt_of_get hh) hx]
    exact hc
  · by_cases hi : i = id1
    · subst hi; rw [h1] at hg; cases hg; exact ho
    · obtain ⟨h2, h3⟩ := hget i o hi hg
      exact (hR.ob i o h2).keep le (fun p _ _ q => by rw [gi]) wsize (fun p hp _ => wblk p.1 (hR.lt h2 hp) (h3 p hp))
  · by_cases e1 : i = id1
    · subst e1
      rw [gp1] at hpi; cases hpi
      obtain ⟨h2, h3⟩ := hget j oj (Ne.symm hij) hj
      rw [gp j (Ne.symm hij)] at hpj
      exact fun e => h3 q hpj e.symm
    · obtain ⟨h2, h3⟩ := hget i oi e1 hi
      rw [gp i e1] at hpi
      by_cases e2 : j = id1
      · subst e2
        rw [gp1] at hpj; cases hpj
        exact h3 p hpi
      · obtain ⟨h4, _⟩ := hget j oj e2 hj
        rw [gp j e2] at hpj
        exact hR.ex i j oi oj p q h2 h4 hpi hpj hij
  · subst e
    rcases hb with hb | hb
    · exact hn hb
    · omega
  · obtain ⟨i, o, p, hg, hmm, hp, rfl⟩ := hk
    by_cases hi : i = id1
    · subst hi; rw [gp1] at hp; cases hp; exact hb
    · obtain ⟨h2, _⟩ := hget i o hi hg
      rw [gp i hi] at hp
      exact .inl ⟨i, o, p, h2, hmm, hp, rfl⟩
  · by_cases hi : i = id1
    · subst hi
      cases hpl : g.place i with
      | none => exact hid hpl
      | some p => rw [hpl, gle p hpl, gp1] at hne; exact absurd rfl hne
    · exact absurd (gp i hi) hne
  · obtain ⟨i, o, p, hg, hp, rfl⟩ := hk
    by_cases hi : i = id1
    · subst hi; rw [gp1] at hp; cases hp; exact hb.imp Owned.has (fun q => q)
    · obtain ⟨h2, _⟩ := hget i o hi hg
      rw [gp i hi] at hp
      exact .inl ⟨i, o, p, h2, hp, rfl⟩

/-! ### A new object; an object that is written; an object that takes another one's block -/
def Gh.at_ (g : Gh) (id : Nat) (p : Nat × Nat × Nat) : Gh := { g with place := fun i => if i = id then some p else g.place i }
theorem H.wf_new {h : H} (wf : WFH h) (o : CObj) : WFH (h.new o) := fun i hi => by
  rw [H.next_new] at hi
  rw [H.get_new, if_neg (by omega)]
  exact wf i (by omega)
theorem H.wf_put {h : H} (wf : WFH h) {i : Nat} (hi : i < h.next) (o : CObj) : WFH (h.put i o) := fun j hj => by
  rw [H.next_put] at hj
  rw [H.get_put, if_neg (by omega)]
  exact wf j (by omega)
theorem H.wf_del {h : H} (wf : WFH h) (i : Nat) : WFH (h.del i) := fun j hj => by
  rw [H.next_del] at hj
  rw [H.get_del]
  split
  · rfl
  · exact wf j hj
theorem H.lt_next {h : H} (wf : WFH h) {i : Nat} {o : CObj} (hg : h.get i = some o) : i < h.next := by
  rcases Nat.lt_or_ge i h.next with hi | hi
  · exact hi
  · rw [wf i hi] at hg; cases hg

theorem Step.new {g : Gh} {h : H} {w : World} (hR : R g h w) (wf : WFH h) (hf : g.place h.next = none) (o : CObj) (hm : o.mut = true) (base lim : Nat) {w' : World} {ob : Obj}
    (wos : w'.os = w.os) (wtape : w'.tape = w.tape) (wout : w'.output = w.output) (wh : w'.heap = w.heap.push ob)
    (ho : ObjR (g.at_ h.next (w.heap.size, base, lim)) w' h.next o) : Step g h w (g.at_ h.next (w.heap.size, base, lim)) (h.new o) w' := by
  refine Step.upd hR w.heap.size h.next o base lim (.inr (Nat.le_refl _)) wos wtape wout (by rw [wh]; simp) (fun k hk _ => ?_) rfl (fun i hi => ?_) ?_ (fun p hp => ?_) (fun i oi hi hg => ?_) ?_ hm ho ?_ (fun _ => ⟨Nat.le_refl _, ?_⟩) (H.wf_new wf o)
  · rw [wh, Array.getElem?_push, if_neg (by omega)]
  · simp [Gh.at_, hi]
  · simp [Gh.at_]
  · rw [hf] at hp; cases hp
  · rw [H.get_new, if_neg hi] at hg
    exact ⟨hg, fun p hp => by have := hR.lt hg hp; omega⟩
  · rw [H.get_new, if_pos rfl]
  · rw [H.next_new]; omega
  · rw [H.next_new]; omega
theorem Step.put {g : Gh} {h : H} {w : World} (hR : R g h w) (wf : WFH h) {id : Nat} {o0 : CObj} (hg0 : h.get id = some o0) (hm0 : o0.mut = true) {b base lim : Nat} (hp0 : g.place id = some (b, base, lim)) (o : CObj) (hm : o.mut = true) {w' : World}
    (wos : w'.os = w.os) (wtape : w'.tape = w.tape) (wout : w'.output = w.output) (wsize : w.heap.size ≤ w'.heap.size) (wblk : ∀ k, k < w.heap.size → k ≠ b → w'.heap[k]? = w.heap[k]?)
    (ho : ObjR g w' id o) : Step g h w g (h.put id o) w' := by
  refine Step.upd hR b id o base lim (.inl ⟨id, o0, _, hg0, hm0, hp0, rfl⟩) wos wtape wout wsize wblk rfl (fun _ _ => rfl) hp0 (fun p hp => ?_) (fun i oi hi hg => ?_) ?_ hm ho (Nat.le_refl _) (fun hn => ?_) (H.wf_put wf (H.lt_next wf hg0) o)
  · rw [hp0] at hp; cases hp; rfl
  · rw [H.get_put, if_neg hi] at hg
    exact ⟨hg, fun p hp => hR.ex i id oi o0 p (b, base, lim) hg hg0 hp hp0 hi⟩
  · rw [H.get_put, if_pos rfl]
  · rw [hp0] at hn; cases hn
theorem Step.take {g : Gh} {h : H} {w : World} (hR : R g h w) (wf : WFH h) (hf : g.place h.next = none) {id : Nat} {o0 : CObj} (hg0 : h.get id = some o0) (hm0 : o0.mut = true) {b x y : Nat} (hp0 : g.place id = some (b, x, y)) (o : CObj) (hm : o.mut = true)
    (base lim : Nat) {w' : World} (wos : w'.os = w.os) (wtape : w'.tape = w.tape) (wout : w'.output = w.output) (wsize : w.heap.size ≤ w'.heap.size) (wblk : ∀ k, k < w.heap.size → k ≠ b → w'.heap[k]? = w.heap[k]?)
    (ho : ObjR (g.at_ h.next (b, base, lim)) w' h.next o) : Step g h w (g.at_ h.next (b, base, lim)) ((h.del id).new o) w' := by
  have hlt := H.lt_next wf hg0
  refine Step.upd hR b h.next o base lim (.inl ⟨id, o0, _, hg0, hm0, hp0, rfl⟩) wos wtape wout wsize wblk rfl (fun i hi => ?_) ?_ (fun p hp => ?_) (fun i oi hi hg => ?_) ?_ hm ho ?_ (fun _ => ⟨Nat.le_refl _, ?_⟩) (H.wf_new (H.wf_del wf id) o)
  · simp [Gh.at_, hi]
  · simp [Gh.at_]
  · rw [hf] at hp; cases hp
  · rw [H.get_new, H.next_del, if_neg hi, H.get_del] at hg
    split at hg
    · cases hg
    · rename_i hne
      exact ⟨hg, fun p hp => hR.ex i id oi o0 p (b, x, y) hg hg0 hp hp0 hne⟩
  · rw [H.get_new, H.next_del, if_pos rfl]
  · rw [H.next_new, H.next_del]; omega
  · rw [H.next_new, H.next_del]; omega
theorem Step.renew {g : Gh} {h : H} {w : World} (hR : R g h w) (wf : WFH h) (hf : g.place h.next = none) {id : Nat} {o0 : CObj} (_ : h.get id = some o0) (o : CObj) (hm : o.mut = true)
    (base lim : Nat) {w' : World} {ob : Obj} (wos : w'.os = w.os) (wtape : w'.tape = w.tape) (wout : w'.output = w.output) (wh : w'.heap = w.heap.push ob)
    (ho : ObjR (g.at_ h.next (w.heap.size, base, lim)) w' h.next o) : Step g h w (g.at_ h.next (w.heap.size, base, lim)) ((h.del id).new o) w' := by
  refine Step.upd hR w.heap.size h.next o base lim (.inr (Nat.le_refl _)) wos wtape wout (by rw [wh]; simp) (fun k hk _ => ?_) rfl (fun i hi => ?_) ?_ (fun p hp => ?_) (fun i oi hi hg => ?_) ?_ hm ho ?_ (fun _ => ⟨Nat.le_refl _, ?_⟩) (H.wf_new (H.wf_del wf id) o)
  · rw [wh, Array.getElem?_push, if_neg (by omega)]
  · simp [Gh.at_, hi]
  · simp [Gh.at_]
  · rw [hf] at hp; cases hp
  · rw [H.get_new, H.next_del, if_neg hi, H.get_del] at hg
    split at hg
    · cases hg
    · exact ⟨hg, fun p hp => by have := hR.lt hg hp; omega⟩
  · rw [H.get_new, H.next_del, if_pos rfl]
  · rw [H.next_new, H.next_del]; omega
  · rw [H.next_new, H.next_del]; omega
end Go.Cv
