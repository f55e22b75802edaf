/- What the machine's operations do to related values: the built-in functions; all operations together. -/
import Derived.Test.YtjlabjncojhjkaaDoorCv9
namespace Go.Cv
open Go

theorem flatten_len {sz : Nat} : ∀ {xs : List (List CV)}, (∀ (i : Nat) (x : List CV), xs[i]? = some x → x.length = sz) → xs.flatten.length = xs.length * sz
  | [], _ => by simp
  | x :: xs, h => by
    rw [List.flatten_cons, List.length_append, h 0 x rfl, flatten_len (fun i y hi => h (i + 1) y (by simpa using hi)), List.length_cons, Nat.succ_mul, Nat.add_comm]
theorem rowC_len {g : Gh} {h : H} {x : CV} {v : Value} (hx : VR g x v) {cs : List CV} {h' : H} (hr : (rowC x).run h = some (cs, h')) {sz n : Nat} (hs : szC sz x = true) (hn : lenC x = some n) : cs.length = n * sz := by
  cases hx with
  | nils => simp [rowC, CM.run] at hr; simp [lenC] at hn; subst hn; rw [hr.1]; simp
  | lst0 sz' A c => simp [rowC, CM.run] at hr; simp [lenC] at hn; subst hn; rw [hr.1]; simp
  | lst sz' xs a c val h1 h2 h3 h4 h5 =>
    simp [rowC, CM.run] at hr; simp [lenC] at hn; simp [szC] at hs; subst hn; subst hs
    rw [← hr.1, flatten_len h3]
  | ref id off len sz' a c b base lim h1 h2 h3 =>
    simp [lenC] at hn; simp [szC] at hs; subst hn; subst hs
    simp only [rowC, CM.run] at hr
    split at hr
    · split at hr
      · split at hr
        · simp [CM.run] at hr; rw [← hr.1]; simp; omega
        · simp [CM.run] at hr
      · split at hr
        · simp [CM.run] at hr; rw [← hr.1]; simp; omega
        · simp [CM.run] at hr
      · simp [CM.run] at hr
    · cases hr
  | _ => simp [szC] at hs

section
variable {P : Program} {w : World}
theorem append_grow {t u ty e f : TypeId} {i : TypeInfo} {z : Value} (ht : P.underlying t = some (.slice e)) (hu : P.underlying u = some (.slice f)) (hi : P.info? e = some i) (hz : i.zero = some z) {A B : Option Addr} {sLen sCap n c : Nat} {olds news : List Value}
    (ho : (Builtin.firstCells i.size sLen (.slice A sLen sCap)).run P w.drew = .ok olds.toArray w.drew) (hn : (Builtin.firstCells i.size n (.slice B n c)).run P w.drew = .ok news.toArray w.drew)
    (hg : sCap < sLen + n) (h63 : ((sLen + n : Nat) : Int) ≤ 9223372036854775807) (hfit : Builtin.nextslicecap (sLen + n) sCap * i.bytes ≤ 281474976710656) :
    (Builtin.append_ #[t, u] ty #[.slice A sLen sCap, .slice B n c]).run P w =
      .ok (.slice (some ⟨w.heap.size, 0, none⟩) (sLen + n) (grownCap w (sLen + n) sCap e)) (w.drew.alloc (.cells (olds.toArray ++ news.toArray ++ Builtin.zeroCells z.cells (grownCap w (sLen + n) sCap e - (sLen + n))) e)) := by
  have hn' : ¬ (sLen + n ≤ sCap) := by omega
  have h63' : ¬ (9223372036854775807 < ((sLen : Int) + (n : Int))) := by omega
  have h48' : ¬ (281474976710656 < Builtin.nextslicecap (sLen + n) sCap * i.bytes) := by omega
  simp only [Builtin.append_]
  simp [run_underlying ht, run_underlying hu, sizeOf, typeInfo, zeroValue, hi, hz, Builtin.lenOf, hn', h63', h48', Question.forced, ho, hn, newRow, grownCap]
  congr 2
  apply Array.ext'
  simp
theorem append_room {t u ty e f : TypeId} {i : TypeInfo} (ht : P.underlying t = some (.slice e)) (hu : P.underlying u = some (.slice f)) (hi : P.info? e = some i) {A B : Option Addr} {sLen sCap n c : Nat} {news : List Value} {w' : World}
    (hn : (Builtin.firstCells i.size n (.slice B n c)).run P w = .ok news.toArray w) (hroom : sLen + n ≤ sCap) (hst : ∀ a, A = some a → (storeCells (a.add (sLen * i.size)) news).run P w = .ok () w') (hnone : A = none → w' = w) :
    (Builtin.append_ #[t, u] ty #[.slice A sLen sCap, .slice B n c]).run P w = .ok (.slice A (sLen + n) sCap) w' := by
  simp only [Builtin.append_]
  cases A with
  | none => rw [hnone rfl]; simp [run_underlying ht, run_underlying hu, sizeOf, typeInfo, hi, Builtin.lenOf, hroom, hn]
  | some a => simp [run_underlying ht, run_underlying hu, sizeOf, typeInfo, hi, Builtin.lenOf, hroom, hn, hst a rfl]
theorem firstCells_of {size n c : Nat} {B : Option Addr} {news : List Value} (hl : news.length = n * size) (hB : news ≠ [] → ∃ b o, B = some ⟨b, o, none⟩ ∧ ∀ (j : Nat) u, news[j]? = some u → w.cell? ⟨b, o + j, none⟩ = some u) {m : Nat} (hm : m = n) :
    (Builtin.firstCells size m (.slice B n c)).run P w = .ok news.toArray w := by
  subst hm
  cases B with
  | none =>
    have : news = [] := by
      cases news with
      | nil => rfl
      | cons x xs => obtain ⟨b, o, hb, _⟩ := hB (by simp); cases hb
    subst this
    simp [Builtin.firstCells]
  | some a =>
    by_cases hne : news = []
    · subst hne
      have h0 : m * size = 0 := by simpa using hl.symm
      simp [Builtin.firstCells, h0, loadCells, loadCellsFrom]
    · obtain ⟨b, o, hb, hc⟩ := hB hne
      cases hb
      simp only [Builtin.firstCells]
      rw [← hl]
      exact run_loadCells_at P w b o news hc
end

/-- Cells written behind a part of an object's cells: what lies there then. -/
theorem CellsR.extend {g g' : Gh} {w : World} {b base lim off k : Nat} {cs vc : List CV} {vs : List Value} (h : CellsR g w b base lim cs) (hg : g.le g') (hic : g'.icell = g.icell) (hv : VRL g' vc vs) (hk : off + k ≤ cs.length) (hl : base + off + k + vs.length ≤ lim) :
    ∃ cur e fz, w.heap[b]? = some (.cells cur e fz) ∧ NoFrz fz cur.size ∧ base + off + k + vs.length ≤ cur.size ∧
      CellsR g' (w.setRow b (cur.toList.take (base + off + k) ++ vs ++ cur.toList.drop (base + off + k + vs.length)).toArray) b (base + off) lim ((cs.drop off).take k ++ vc) := by
  obtain ⟨cur, e, fz, h1, h2, h3, h4, h5, h6⟩ := h
  refine ⟨cur, e, fz, h1, by rw [h2]; exact h3, by omega, _, e, fz, setRow_heap w b cur _ e fz h1, ?_, h3, ?_, ?_, fun o => by rw [hic]; exact h6 o⟩
  · simp; omega
  · have := hv.1; simp; omega
  · have e0 : ((cs.drop off).take k ++ vc).length = k + vs.length := by have := hv.1; simp; omega
    rw [e0]
    have e1 : (((cur.toList.take (base + off + k) ++ vs ++ cur.toList.drop (base + off + k + vs.length)).toArray.toList.drop (base + off)).take (k + vs.length)) = ((((cur.toList.drop base).take cs.length).drop off).take k) ++ vs := by
      apply List.ext_getElem?
      intro j
      simp only [List.getElem?_take, List.getElem?_drop, List.getElem?_append, List.length_append, List.length_take, List.length_drop, Array.length_toList]
      by_cases c1 : j < k
      · rw [if_pos (by omega), if_pos (by omega), if_pos (by omega), if_pos (by omega), if_pos c1, if_pos (by omega), if_pos (by omega)]
        congr 1; omega
      · by_cases c2 : j < k + vs.length
        · rw [if_pos c2, if_pos (by omega), if_neg (by omega), if_neg (by omega)]
          congr 1; omega
        · rw [if_neg c2, if_neg (by omega)]
          rw [List.getElem?_eq_none (by omega)]
    rw [e1]
    exact (((h5.drop off).take k).mono hg).append hv

section
variable {E : Env} (hE : E.OK) {g : Gh} {h : H} {w : World} {a : Act} {o : Oper} {ev : Operand → CV} (hev : ∀ x, VR g (ev x) (a.eval x)) (hR : R g h w) (wf : WFH h) {v : CV} {h' : H}
include hE hev hR wf

omit hE hR wf in
theorem args1 {args : Array Operand} {x : CV} (h : args.toList.map ev = [x]) : ∃ y, args = #[y] ∧ VR g x (a.eval y) := by
  obtain ⟨l⟩ := args
  match l, h with
  | [y], h => simp at h; subst h; exact ⟨y, rfl, hev y⟩
omit hE hR wf in
theorem args2 {args : Array Operand} {x y : CV} (h : args.toList.map ev = [x, y]) : ∃ p q, args = #[p, q] ∧ VR g x (a.eval p) ∧ VR g y (a.eval q) := by
  obtain ⟨l⟩ := args
  match l, h with
  | [p, q], h => simp at h; obtain ⟨rfl, rfl⟩ := h; exact ⟨p, q, rfl, hev p, hev q⟩

theorem p_len {args : Array Operand} {ts : Array TypeId} (ho : o.op = .call { callee := .builtin .len, args := args, argTypes := ts }) (hr : (primC E o ev).run h = some (v, h')) : POut E g h w a o v h' := by
  simp only [primC, ho] at hr
  split at hr
  · rename_i x hx
    obtain ⟨y, rfl, hv⟩ := args1 (g := g) (a := a) hev hx
    generalize hay : a.eval y = ay at hv
    split at hr
    · split at hr
      · rename_i t ht
        split at hr
        · rename_i k e sz bts zc fl hty
          simp [CM.run] at hr
          obtain ⟨rfl, rfl⟩ := hr
          cases hv
          refine .val hR wf (v' := .int .i64 0) ?_ (.int _ _)
          simp [execOp, ho, resolve, invoke, builtin, Builtin.len_, ht, hay, run_underlying ((hE.ty t _ hty).map rfl), goInt]
        · simp [CM.run] at hr
      · simp [CM.run] at hr
    · rename_i id
      split at hr
      · rename_i t ht
        split at hr
        · rename_i k e sz bts zc fl hty
          simp only [CM.run] at hr
          split at hr
          · rename_i ob hob
            split at hr
            · rename_i es
              simp [CM.run] at hr
              obtain ⟨rfl, rfl⟩ := hr
              cases hv with
              | map _ b p q hp =>
                obtain ⟨b', x', y', hp', ents, clock, e1, e2, e3⟩ := hR.ob id _ hob
                rw [hp] at hp'; cases hp'
                refine .val hR wf (v' := .int .i64 es.length) ?_ (.int _ _)
                simp [execOp, ho, resolve, invoke, builtin, Builtin.len_, ht, hay, run_underlying ((hE.ty t _ hty).map rfl), goInt, getObj, Sem.run, e1, e2]
            · simp [CM.run] at hr
          · cases hr
        · simp [CM.run] at hr
      · simp [CM.run] at hr
    · rename_i s
      split at hr
      · rename_i t ht
        split at hr
        · rename_i sz bts zc fl hty
          simp [CM.run] at hr
          obtain ⟨rfl, rfl⟩ := hr
          cases hv
          refine .val hR wf (v' := .int .i64 s.length) ?_ (.int _ _)
          simp [execOp, ho, resolve, invoke, builtin, Builtin.len_, ht, hay, run_underlying ((hE.ty t _ hty).str rfl), goInt, show (⟨s.toArray⟩ : ByteArray).size = s.length from rfl]
        · simp [CM.run] at hr
      · simp [CM.run] at hr
    · rename_i hns1 hns2 hns
      split at hr
      · rename_i t ht
        split at hr
        · rename_i e sz bts zc fl hty
          split at hr
          · rename_i n hn
            simp [CM.run] at hr
            obtain ⟨rfl, rfl⟩ := hr
            have hA : ∃ A c, ay = .slice A n c := by
              cases hv with
              | nils => simp [lenC] at hn; subst hn; exact ⟨none, 0, rfl⟩
              | lst0 sz A c => simp [lenC] at hn; subst hn; exact ⟨A, c, rfl⟩
              | lst sz xs ad c val h1 h2 h3 h4 h5 => simp [lenC] at hn; subst hn; exact ⟨_, _, rfl⟩
              | ref id off len sz ad c b base lim h1 h2 h3 => simp [lenC] at hn; subst hn; exact ⟨_, _, rfl⟩
              | str s => exact absurd rfl (hns s)
              | _ => simp [lenC] at hn
            obtain ⟨A, c, rfl⟩ := hA
            refine .val hR wf (v' := .int .i64 n) ?_ (.int _ _)
            simp [execOp, ho, resolve, invoke, builtin, Builtin.len_, ht, hay, run_underlying ((hE.ty t _ hty).slice rfl), goInt]
          · simp [CM.run] at hr
        · simp [CM.run] at hr
      · simp [CM.run] at hr
  · simp [CM.run] at hr
theorem p_min {args : Array Operand} {ts : Array TypeId} (ho : o.op = .call { callee := .builtin .min, args := args, argTypes := ts }) (hr : (primC E o ev).run h = some (v, h')) : POut E g h w a o v h' := by
  have _ := hE
  simp only [primC, ho] at hr
  split at hr
  · rename_i j x k y hx
    obtain ⟨p, q, rfl, h1, h2⟩ := args2 (g := g) (a := a) hev hx
    generalize hp : a.eval p = ap at h1
    generalize hq : a.eval q = aq at h2
    cases h1; cases h2
    split at hr
    · simp [CM.run] at hr
      obtain ⟨rfl, rfl⟩ := hr
      refine .val hR wf (v' := .int j (if y < x then y else x)) ?_ (.int _ _)
      simp [execOp, ho, resolve, invoke, builtin, hp, hq, run_min_int2]
    · simp [CM.run] at hr
  · simp [CM.run] at hr
theorem p_max {args : Array Operand} {ts : Array TypeId} (ho : o.op = .call { callee := .builtin .max, args := args, argTypes := ts }) (hr : (primC E o ev).run h = some (v, h')) : POut E g h w a o v h' := by
  have _ := hE
  simp only [primC, ho] at hr
  split at hr
  · rename_i j x k y hx
    obtain ⟨p, q, rfl, h1, h2⟩ := args2 (g := g) (a := a) hev hx
    generalize hp : a.eval p = ap at h1
    generalize hq : a.eval q = aq at h2
    cases h1; cases h2
    split at hr
    · simp [CM.run] at hr
      obtain ⟨rfl, rfl⟩ := hr
      refine .val hR wf (v' := .int j (if y > x then y else x)) ?_ (.int _ _)
      simp [execOp, ho, resolve, invoke, builtin, hp, hq, run_max_int2]
    · simp [CM.run] at hr
  · simp [CM.run] at hr

/-- What a source of an append, or of a copy, is to the machine. -/
theorem src_sound {x : CV} {x' : Value} (hx : VR g x x') {cs : List CV} {h1 : H} (hr : (rowC x).run h = some (cs, h1)) {sz : Nat} (hs : szC sz x = true) (hz : 0 < sz) :
    h1 = h ∧ ∃ A n c vs, x' = .slice A n c ∧ n = cs.length / sz ∧ cs.length = n * sz ∧ VRL g cs vs ∧ (vs ≠ [] → ∃ b o, A = some ⟨b, o, none⟩ ∧ ∀ (j : Nat) u, vs[j]? = some u → w.cell? ⟨b, o + j, none⟩ = some u) := by
  have _ := hE
  have _ := hev
  obtain ⟨rfl, n, hn, hor⟩ := rowC_sound hR hx hr
  have hl := rowC_len hx hr hs hn
  refine ⟨rfl, ?_⟩
  rcases hor with ⟨rfl, rfl, rfl⟩ | ⟨A, c, vs, rfl, _, hv, hat⟩
  · exact ⟨none, 0, 0, [], rfl, by simp, by simp, .nil g, fun h => absurd rfl h⟩
  · exact ⟨A, n, c, vs, rfl, by rw [hl, Nat.mul_div_cancel _ hz], hl, hv, hat⟩

theorem p_append {args : Array Operand} {ts : Array TypeId} (ho : o.op = .call { callee := .builtin .append, args := args, argTypes := ts }) (hr : (primC E o ev).run h = some (v, h')) (hf : ∀ i, h.next ≤ i → i < h'.next → g.place i = none) : POut E g h w a o v h' := by
  simp only [primC, ho] at hr
  split at hr
  · rename_i bc yc t u hbc hts
    obtain ⟨p, q, rfl, hb, hy⟩ := args2 (g := g) (a := a) hev hbc
    generalize hp : a.eval p = ap at hb
    generalize hq : a.eval q = aq at hy
    have hts' : ts = #[t, u] := by cases ts; simp at hts; rw [hts]
    subst hts'
    split at hr
    · rename_i e sz bts zc0 fl tu hty htu
      have hT := hE.ty t _ hty
      split at hr
      · rename_i te hte
        split at hr
        · rename_i hc
          simp only [Bool.and_eq_true, decide_eq_true_eq] at hc
          obtain ⟨⟨⟨⟨c1, c2⟩, c2'⟩, c3⟩, c4⟩ := hc
          obtain ⟨f, hku⟩ : ∃ f, tu.kd = .slice f := by
            cases hk : tu.kd with
            | slice f => exact ⟨f, rfl⟩
            | _ => rw [hk] at c2; simp [TK.isSl] at c2
          obtain ⟨zc, hzc⟩ := Option.isSome_iff_exists.1 c3
          obtain ⟨i, z, hi, hzz, hzv, hzl, _⟩ := (hE.ty e te hte).zeroes hzc g
          obtain ⟨i', hi', hsz, hby⟩ := (hE.ty e te hte).info
          rw [hi] at hi'; cases hi'
          have hzs : z.cells.size = te.sz := by have := hzv.1; simp at this; omega
          rw [CM.run_bind] at hr
          cases hrow : (rowC yc).run h with
          | none => simp [hrow] at hr
          | some pr =>
            obtain ⟨news, h1⟩ := pr
            simp only [hrow] at hr
            obtain ⟨rfl, B, n, c, vs, rfl, hn1, hn2, hvs, hat⟩ := src_sound (w := w) hE hev hR wf hy hrow c2' c4
            have hvl : vs.length = n * i.size := by rw [← hvs.1, hn2, hsz]
            have hut := (hE.ty u tu htu).slice hku
            have hsrc : ∀ w1 : World, (∀ ad, w1.cell? ad = w.cell? ad) → (Builtin.firstCells i.size n (.slice B n c)).run E.P w1 = .ok vs.toArray w1 := fun w1 hw1 =>
              firstCells_of hvl (fun hne => by obtain ⟨b, o', e1, e2⟩ := hat hne; exact ⟨b, o', e1, fun j x hx => by rw [hw1]; exact e2 j x hx⟩) rfl
            have hexec : ∀ (V : Value) (w' : World), (Builtin.append_ #[t, u] o.type #[ap, .slice B n c]).run E.P w = .ok V w' → (execOp a.eval o).run E.P w = .ok (.value V) w' := by
              intro V w' hV
              simp [execOp, ho, resolve, invoke, builtin, hp, hq, hV]
            split at hr
            · -- a nil slice
              cases hb
              split at hr
              · rename_i hem
                simp [CM.run] at hr
                obtain ⟨rfl, rfl⟩ := hr
                have hne : news = [] := by simpa using hem
                subst hne
                have hn0 : n = 0 := by rw [hn1]; simp
                subst hn0
                have : vs = [] := by have := hvs.1; cases vs <;> simp at this; rfl
                subst this
                refine .val hR wf (hexec (.slice none 0 0) w ?_) .nils
                exact append_room (A := none) (hT.slice rfl) hut hi (hsrc w (fun _ => rfl)) (by omega) (fun a ha => by cases ha) (fun _ => rfl)
              · rename_i hne
                split at hr
                · rename_i hle
                  simp [CM.run] at hr
                  obtain ⟨rfl, rfl⟩ := hr
                  rw [← hn1] at hle ⊢
                  have hn0 : n ≠ 0 := by
                    intro h0; subst h0
                    rw [Nat.zero_mul] at hn2
                    have : news = [] := List.eq_nil_of_length_eq_zero hn2
                    subst this; simp at hne
                  have hgr := append_grow (P := E.P) (w := w) (ty := o.type) (A := none) (sLen := 0) (sCap := 0) (hT.slice rfl) hut hi hzz (firstCells_of (news := []) (by simp) (fun h => absurd rfl h) rfl) (hsrc w.drew (fun _ => rfl)) (by omega) (by omega) (growslice_fits (by omega) (by rw [hby]; simpa using hle.1))
                  have hcap := grownCap_ge w n 0 e
                  simp only [Nat.zero_add] at hgr
                  have hs : (([] : List Value).toArray ++ vs.toArray ++ Builtin.zeroCells z.cells (grownCap w n 0 e - n)).size = grownCap w n 0 e * te.sz := by
                    have : (([] : List Value).toArray ++ vs.toArray ++ Builtin.zeroCells z.cells (grownCap w n 0 e - n)).size = (n + (grownCap w n 0 e - n)) * te.sz := by
                      simp [size_zeroCells, hzs, hvl, hsz, Nat.add_mul]
                    rw [this]; congr 1; omega
                  refine ⟨_, _, _, .inl (hexec _ _ hgr), .ref h1.next 0 n te.sz ⟨w.heap.size, 0, none⟩ (grownCap w n 0 e) w.heap.size 0 (grownCap w n 0 e * te.sz) (Gh.at_same g _ _) hcap (.inr ⟨rfl, by omega⟩), ?_⟩
                  rw [← hs]
                  refine Step.newCells hR wf (hf _ (Nat.le_refl _) (by rw [H.next_new]; omega)) (e := e) ?_ rfl rfl rfl rfl
                  have : (([] : List Value).toArray ++ vs.toArray ++ Builtin.zeroCells z.cells (grownCap w n 0 e - n)).toList.take news.length = vs := by
                    simp [hvs.1]
                  rw [this]; exact hvs
                · simp [CM.run] at hr
            · rename_i id off len sz'
              have hsz' : sz' = te.sz := by simpa [szC] using c1
              subst hsz'
              simp only [CM.run] at hr
              split at hr
              · rename_i ob hob
                split at hr
                · rename_i cs
                  split at hr
                  · rename_i hle
                    obtain ⟨l1, l2, l3⟩ := hle
                    simp only [CM.run, hob, Option.some.injEq, Prod.mk.injEq] at hr
                    obtain ⟨rfl, rfl⟩ := hr
                    rw [← hn1] at l2 l3 ⊢
                    have hfn := hf h1.next (Nat.le_refl _) (by rw [H.next_new, H.next_del]; omega)
                    cases hb with
                    | ref _ _ _ _ ad sCap b base lim hpl hcl hor =>
                      obtain ⟨b', base', lim', hpl', hcr⟩ := hR.ob id _ hob
                      rw [hpl] at hpl'; cases hpl'
                      have hg' := Gh.le_at hfn (b, base + off, lim)
                      by_cases hroom : len + n ≤ sCap
                      · -- there is room
                        by_cases hc0 : sCap = 0
                        · -- an empty slice without room, and nothing to append
                          have hn0 : n = 0 := by omega
                          have hl0 : len = 0 := by omega
                          subst hn0; subst hl0; subst hc0
                          have hnil : vs = [] := by rw [Nat.zero_mul] at hvl; exact List.eq_nil_of_length_eq_zero hvl
                          have hnews : news = [] := by rw [Nat.zero_mul] at hn2; exact List.eq_nil_of_length_eq_zero hn2
                          subst hnil; subst hnews
                          refine ⟨_, w, _, .inl (hexec _ w (append_room (A := some ad) (hT.slice rfl) hut hi (hsrc w (fun _ => rfl)) hroom (fun a' ha => by simp [storeCells]) (fun h => by cases h))), .ref h1.next 0 (0 + 0) te.sz ad 0 b (base + off) lim (Gh.at_same g _ _) (by omega) (.inl rfl), ?_⟩
                          obtain ⟨cur, e', fz, k1, k2, k3, k4⟩ := hcr.extend (off := off) (k := 0) (vc := []) (vs := []) hg' rfl (.nil _) (by omega) (by obtain ⟨_, _, _, _, _, _, x1, _⟩ := hcr; simp; omega)
                          have hself : w.setRow b (cur.toList.take (base + off + 0) ++ [] ++ cur.toList.drop (base + off + 0 + ([] : List Value).length)).toArray = w := by
                            simp only [List.append_nil, List.length_nil, Nat.add_zero, List.take_append_drop, Array.toArray_toList]
                            exact setRow_self w b cur e' fz k1
                          rw [hself] at k4
                          simp only [Nat.zero_mul]
                          exact Step.take hR wf hfn hob rfl hpl _ rfl (base + off) lim rfl rfl rfl (Nat.le_refl _) (fun _ _ _ => rfl) ⟨b, base + off, lim, Gh.at_same g _ _, k4⟩
                        · rcases hor with h0 | ⟨rfl, hlim⟩
                          · exact absurd h0 hc0
                          have hmul : (len + n) * te.sz ≤ sCap * te.sz := Nat.mul_le_mul_right _ hroom
                          rw [Nat.add_mul] at hmul
                          obtain ⟨cur, e', fz, k1, k2, k3, k4⟩ := hcr.extend (off := off) (k := len * te.sz) hg' rfl (hvs.mono hg') l1 (by rw [hvl, hsz]; omega)
                          have hst := run_storeCells_nf E.P b (base + off + len * te.sz) e' fz vs 0 cur w k1 k2 (by simpa using k3) hvs.2.1
                          simp only [Nat.add_zero] at hst
                          refine ⟨_, _, _, .inl (hexec _ _ (append_room (A := some ⟨b, base + off, none⟩) (hT.slice rfl) hut hi (hsrc w (fun _ => rfl)) hroom (fun a' ha => by cases ha; rw [addr_add, hsz]; exact hst) (fun h => by cases h))),
                            .ref h1.next 0 (len + n) te.sz _ sCap b (base + off) lim (Gh.at_same g _ _) hroom (.inr ⟨rfl, by omega⟩), ?_⟩
                          exact Step.take hR wf hfn hob rfl hpl _ rfl (base + off) lim rfl rfl rfl (by rw [setRow_size]; exact Nat.le_refl _) (fun k _ hne => setRow_other w b k _ hne) ⟨b, base + off, lim, Gh.at_same g _ _, k4⟩
                      · -- a new row
                        obtain ⟨os, o1, o2⟩ := (((CellsAt.of_obj hR hob (.inl rfl) hpl).drop off).take (len * te.sz)).vals
                        have hol : os.length = len * i.size := by rw [← o1.1, hsz]; simp; omega
                        have hold : (Builtin.firstCells i.size len (.slice (some ad) len sCap)).run E.P w.drew = .ok os.toArray w.drew := by
                          refine firstCells_of hol (fun hne => ?_) rfl
                          rcases hor with h0 | ⟨rfl, _⟩
                          · exfalso
                            have : len = 0 := by omega
                            subst this
                            rw [Nat.zero_mul] at hol
                            exact hne (List.eq_nil_of_length_eq_zero hol)
                          · exact ⟨b, base + off, rfl, o2⟩
                        have hgr := append_grow (P := E.P) (w := w) (ty := o.type) (hT.slice rfl) hut hi hzz hold (hsrc w.drew (fun _ => rfl)) (by omega) (by omega) (growslice_fits (by omega) (by rw [hby]; exact l2))
                        have hcap := grownCap_ge w (len + n) sCap e
                        have hs : (os.toArray ++ vs.toArray ++ Builtin.zeroCells z.cells (grownCap w (len + n) sCap e - (len + n))).size = grownCap w (len + n) sCap e * te.sz := by
                          have e1 : (os.toArray ++ vs.toArray ++ Builtin.zeroCells z.cells (grownCap w (len + n) sCap e - (len + n))).size = len * te.sz + n * te.sz + (grownCap w (len + n) sCap e - (len + n)) * te.sz := by
                            simp [size_zeroCells, hzs, hvl, hol, hsz, Nat.add_assoc]
                          rw [e1, ← Nat.add_mul, ← Nat.add_mul]; congr 1; omega
                        have hg2 := Gh.le_at hfn (w.heap.size, 0, grownCap w (len + n) sCap e * te.sz)
                        refine ⟨_, _, _, .inl (hexec _ _ hgr), .ref h1.next 0 (len + n) te.sz _ _ w.heap.size 0 (grownCap w (len + n) sCap e * te.sz) (Gh.at_same g _ _) hcap (.inr ⟨rfl, by omega⟩), ?_⟩
                        refine Step.renew hR wf hfn hob _ rfl 0 (grownCap w (len + n) sCap e * te.sz) rfl rfl rfl rfl ⟨w.heap.size, 0, _, Gh.at_same g _ _, _, e, (0, 0), heap_alloc_new _ _, hs, noFrz0 _, ?_, ?_, fun q => ?_⟩
                        · have e1 := o1.1
                          have e2 := hvs.1
                          simp at e1 ⊢
                          have : (len + n) * te.sz ≤ grownCap w (len + n) sCap e * te.sz := Nat.mul_le_mul_right _ hcap
                          rw [Nat.add_mul] at this
                          omega
                        · rw [List.drop_zero]
                          have e3 : ((os.toArray ++ vs.toArray ++ Builtin.zeroCells z.cells (grownCap w (len + n) sCap e - (len + n))).toList.take (((cs.drop off).take (len * te.sz) ++ news).length)) = os ++ vs := by
                            have e4 : (os.toArray ++ vs.toArray ++ Builtin.zeroCells z.cells (grownCap w (len + n) sCap e - (len + n))).toList = (os ++ vs) ++ (Builtin.zeroCells z.cells (grownCap w (len + n) sCap e - (len + n))).toList := by simp
                            rw [e4, List.length_append, o1.1, hvs.1, ← List.length_append, List.take_left]
                          rw [e3]
                          exact ((o1.append hvs).mono hg2)
                        · cases hi' : (g.at_ h1.next (w.heap.size, 0, grownCap w (len + n) sCap e * te.sz)).icell w.heap.size q with
                          | none => rfl
                          | some x =>
                            have := hR.ic _ _ _ (show g.icell w.heap.size q = some x from hi')
                            simp [World.cell?] at this
                  · simp [CM.run] at hr
                · simp [CM.run] at hr
              · cases hr
            · simp [CM.run] at hr
        · simp [CM.run] at hr
      · simp [CM.run] at hr
    · simp [CM.run] at hr
  · simp [CM.run] at hr

theorem p_copy {args : Array Operand} {ts : Array TypeId} (ho : o.op = .call { callee := .builtin .copy, args := args, argTypes := ts }) (hr : (primC E o ev).run h = some (v, h')) : POut E g h w a o v h' := by
  simp only [primC, ho] at hr
  split at hr
  · rename_i bc yc t hbc hts
    obtain ⟨p, q, rfl, hb, hy⟩ := args2 (g := g) (a := a) hev hbc
    generalize hp : a.eval p = ap at hb
    generalize hq : a.eval q = aq at hy
    split at hr
    · rename_i e sz bts zc0 fl hty
      have hT := hE.ty t _ hty
      split at hr
      · rename_i te hte
        split at hr
        · rename_i hc
          simp only [Bool.and_eq_true] at hc
          obtain ⟨c1, c2⟩ := hc
          obtain ⟨i, hi, hsz, hby⟩ := (hE.ty e te hte).info
          rw [CM.run_bind] at hr
          cases hrow : (rowC yc).run h with
          | none => simp [hrow] at hr
          | some pr =>
            obtain ⟨news, h1⟩ := pr
            simp only [hrow] at hr
            split at hr
            · rename_i id off len sz'
              have hsz' : sz' = te.sz := by simpa [szC] using c1
              subst hsz'
              simp only [CM.run] at hr
              split at hr
              · rename_i ob hob
                split at hr
                · rename_i cs
                  split at hr
                  · rename_i hle
                    obtain ⟨l1, c4⟩ := hle
                    obtain ⟨rfl, B, n, c, vs, rfl, hn1, hn2, hvs, hat⟩ := src_sound (w := w) hE hev hR wf hy hrow c2 c4
                    simp only [CM.run, hob, Option.some.injEq, Prod.mk.injEq] at hr
                    obtain ⟨rfl, rfl⟩ := hr
                    rw [← hn1]
                    cases hb with
                    | ref _ _ _ _ ad sCap b base lim hpl hcl hor =>
                      obtain ⟨b', base', lim', hpl', hcr⟩ := hR.ob id _ hob
                      rw [hpl] at hpl'; cases hpl'
                      have hvl : vs.length = n * te.sz := by rw [← hvs.1, hn2]
                      have hv2 : VRL g (news.take (min n len * te.sz)) (vs.take (min n len * te.sz)) := hvs.take _
                      have hmn : min n len * te.sz ≤ n * te.sz := Nat.mul_le_mul_right _ (Nat.min_le_left _ _)
                      have hml : min n len * te.sz ≤ len * te.sz := Nat.mul_le_mul_right _ (Nat.min_le_right _ _)
                      have hvl2 : (vs.take (min n len * te.sz)).length = min n len * te.sz := by simp; omega
                      have hsrc : (Builtin.firstCells te.sz (min n len) (.slice B n c)).run E.P w = .ok (vs.take (min n len * te.sz)).toArray w := by
                        have := firstCells_of (P := E.P) (w := w) (size := te.sz) (n := min n len) (c := c) (B := B) (news := vs.take (min n len * te.sz)) hvl2 (fun hne => by
                          obtain ⟨b', o', e1, e2⟩ := hat (fun h0 => hne (by rw [h0]; simp))
                          refine ⟨b', o', e1, fun j x hx => ?_⟩
                          rw [List.getElem?_take] at hx
                          split at hx
                          · exact e2 j x hx
                          · cases hx) (m := min n len) rfl
                        cases B <;> simpa [Builtin.firstCells] using this
                      have hexec : ∀ (w' : World), (storeCells ad (vs.take (min n len * te.sz))).run E.P w = .ok () w' → (execOp a.eval o).run E.P w = .ok (.value (.int .i64 (min n len : Nat))) w' := by
                        intro w' hst
                        simp only [execOp, ho, resolve, invoke, builtin, Builtin.copy_, Sem.run_bind, Sem.run_pure, Result.andThen_ok, List.map_toArray, List.map_cons, List.map_nil, hp, hq]
                        simp [hts, run_underlying (hT.slice rfl), Builtin.lenOf, (hE.ty e te hte).sizeOf, show Nat.min n len = min n len from rfl, hsrc, hst, goInt]
                      by_cases hm0 : min n len = 0
                      · refine ⟨g, w, _, .inl (hexec w (by rw [hm0]; simp [storeCells])), .int _ _, ?_⟩
                        refine Step.put hR wf hob rfl hpl _ rfl rfl rfl rfl (Nat.le_refl _) (fun _ _ _ => rfl) ⟨b, base, lim, hpl, ?_⟩
                        have : splice cs off (news.take (min n len * te.sz)) = cs := by rw [hm0]; simp [splice]
                        rw [this]; exact hcr
                      · rcases hor with h0 | ⟨rfl, hlim⟩
                        · exfalso; omega
                        obtain ⟨cur, e', fz, k1, k2, k3, k4⟩ := hcr.splice (off := off) hv2 (by have := hv2.1; omega)
                        have hst := run_storeCells_nf E.P b (base + off) e' fz (vs.take (min n len * te.sz)) 0 cur w k1 k2 (by simpa using k3) hv2.2.1
                        simp only [Nat.add_zero] at hst
                        exact ⟨g, _, _, .inl (hexec _ hst), .int _ _, Step.put hR wf hob rfl hpl _ rfl rfl rfl rfl (by rw [setRow_size]; exact Nat.le_refl _) (fun k _ hne => setRow_other w b k _ hne) ⟨b, base, lim, hpl, k4⟩⟩
                  · simp [CM.run] at hr
                · simp [CM.run] at hr
              · cases hr
            · simp [CM.run] at hr
        · simp [CM.run] at hr
      · simp [CM.run] at hr
    · simp [CM.run] at hr
  · simp [CM.run] at hr

/-- ALL OPERATIONS THAT ARE NO CALLS OF FUNCTIONS. -/
theorem prim_sound (hr : (primC E o ev).run h = some (v, h')) (hf : ∀ i, h.next ≤ i → i < h'.next → g.place i = none) : POut E g h w a o v h' := by
  cases ho : o.op with
  | move x => exact p_move hev hR wf ho hr
  | assign x => exact p_assign hev hR wf ho hr
  | pick c x y => exact p_pick hev hR wf ho hr
  | alloc t => exact p_alloc hE hR wf ho hr hf
  | box t x => exact p_box hev hR wf ho hr hf
  | build t ps => exact p_build hE hev hR wf ho hr
  | buildSlice t n ps => exact p_buildSlice hE hev hR wf ho hr hf
  | load t x => exact p_load hE hev hR wf ho hr
  | store t x y => exact p_store hE hev hR wf ho hr
  | nilCheck x => exact p_nilCheck hev hR wf ho hr
  | binOp op t x y u => exact p_binOp hE hev hR wf ho hr
  | unOp op t x => exact p_unOp hev hR wf ho hr
  | convert s d x => exact p_convert hE hev hR wf ho hr
  | makeFunc f first caps =>
    cases f with
    | func f => exact p_makeFunc hev hR wf ho hr
    | _ => simp [primC, ho, CM.run] at hr
  | makeMap t r =>
    cases r with
    | none => exact p_makeMap hR wf ho hr hf
    | some r => simp [primC, ho, CM.run] at hr
  | makeSlice t l c => exact p_makeSlice hE hev hR wf ho hr hf
  | slice t x lo hi mx => exact p_slice hE hev hR wf ho hr
  | fieldAddr s x f => exact p_fieldAddr hE hev hR wf ho hr
  | field s x f => exact p_field hE hev hR wf ho hr
  | indexAddr t x i => exact p_indexAddr hE hev hR wf ho hr
  | index t x i => exact p_index hE hev hR wf ho hr
  | lookup t m k ok => exact p_lookup hE hev hR wf ho hr
  | mapUpdate t m k x => exact p_mapUpdate hE hev hR wf ho hr
  | insert t m k x => exact p_insert hE hev hR wf ho hr
  | extract x i => exact p_extract hev hR wf ho hr
  | call c =>
    obtain ⟨callee, args, ts⟩ := c
    cases callee with
    | builtin b =>
      cases b with
      | len => exact p_len hE hev hR wf ho hr
      | append => exact p_append hE hev hR wf ho hr hf
      | copy => exact p_copy hE hev hR wf ho hr
      | min => exact p_min hE hev hR wf ho hr
      | max => exact p_max hE hev hR wf ho hr
      | _ => simp [primC, ho, CM.run] at hr
    | _ => simp [primC, ho, CM.run] at hr
  | _ => simp [primC, ho, CM.run] at hr
end
end Go.Cv
