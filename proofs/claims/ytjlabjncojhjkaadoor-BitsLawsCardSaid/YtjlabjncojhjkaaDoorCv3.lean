/- The types' facts, asked of the program by a check; what the machine's operations do to related values: loads, stores, comparisons. -/
import Derived.Test.YtjlabjncojhjkaaDoorCv2
import Derived.Laws.AppendOwn
import Derived.Laws.StructEq
import Derived.Laws.Build
import Derived.Laws.Slices
import Derived.Laws.Entries
namespace Go.Cv
open Go

/-! ### Types -/
def scalarK (P : Program) (t : Nat) : TK → Bool
  | .int k => match P.underlying t with | some (.int j) => j == k | _ => false
  | .bool => match P.underlying t with | some .bool => true | _ => false
  | .str => match P.underlying t with | some .string => true | _ => false
  | _ => false
def kdChk (P : Program) (t : Nat) : TK → Bool
  | .int k => scalarK P t (.int k)
  | .bool => scalarK P t .bool
  | .str => scalarK P t .str
  | .slice e => match P.underlying t with | some (.slice e') => e' == e | _ => false
  | .ptr e => match P.underlying t with | some (.pointer e') => e' == e | _ => false
  | .map k e => match P.underlying t with | some (.map k' e') => k' == k && e' == e | _ => false
  | .struct fs => match P.underlying t with | some (.struct F) => F.toList.map (fun f => (f.offset, f.type)) == fs | _ => false
  | .arr n e => match P.underlying t with | some (.array n' e') => n' == n && e' == e | _ => false
  | .other => match P.underlying t with | some (.struct _) => false | some (.array _ _) => false | some _ => true | none => false
def one' (z : Value) : Bool := z.oneCell'
def zeroChk (P : Program) (t : Nat) (ty : Ty) : Bool :=
  match ty.zero with
  | none => true
  | some zc =>
    match P.info? t with
    | some i => match i.zero with
      | some z => CV.beqL (z.cells.toList.map ofS) zc && zc.length == ty.sz && z.cells.toList.all one' && (match z with | .agg _ => ty.agg | _ => !ty.agg && one' z)
      | none => false
    | none => false
def flatF (P : Program) : List Field → List TK → Nat → Bool
  | [], [], _ => true
  | f :: fs, k :: ks, i => f.name != "_" && f.offset == i && scalarK P f.type k && flatF P fs ks (i + 1)
  | _, _, _ => false
def flatChk (P : Program) (t : Nat) (ty : Ty) : Bool :=
  match ty.flat with
  | none => true
  | some ks =>
    match ty.kd with
    | .struct _ => match P.underlying t with
      | some (.struct F) => flatF P F.toList ks 0 && !P.stoodInHeld t && !P.eqGuardType P.depth t
      | _ => false
    | .int k => (match ks with | [.int j] => j == k | _ => false)
    | .bool => (match ks with | [.bool] => true | _ => false)
    | .str => (match ks with | [.str] => true | _ => false)
    | _ => false
def tyChk (P : Program) (t : Nat) (ty : Ty) : Bool :=
  (match P.info? t with | some i => i.size == ty.sz && i.bytes == ty.bts | none => false) && kdChk P t ty.kd && zeroChk P t ty && flatChk P t ty

structure TyOK (P : Program) (t : Nat) (ty : Ty) : Prop where
  info : ∃ i, P.info? t = some i ∧ i.size = ty.sz ∧ i.bytes = ty.bts
  kd : kdChk P t ty.kd = true
  zero : zeroChk P t ty = true
  flat : flatChk P t ty = true
theorem tyOK_of_chk {P : Program} {t : Nat} {ty : Ty} (h : tyChk P t ty = true) : TyOK P t ty := by
  simp only [tyChk, Bool.and_eq_true] at h
  obtain ⟨⟨⟨h1, h2⟩, h3⟩, h4⟩ := h
  refine ⟨?_, h2, h3, h4⟩
  cases hi : P.info? t with
  | none => simp [hi] at h1
  | some i => simp [hi] at h1; exact ⟨i, rfl, h1.1, h1.2⟩
structure Env.OK (E : Env) : Prop where
  ty : ∀ t ty, E.T t = some ty → TyOK E.P t ty
  fn : ∀ k, E.okf k = true → fnChk E.P k = true
/-- A table of types, checked whole. -/
def tabOf (l : List Ty) : Nat → Option Ty := fun t => l[t]?
def tabChk (P : Program) (l : List Ty) : Bool := l.zipIdx.all fun p => tyChk P p.2 p.1
theorem tab_ok {P : Program} {l : List Ty} (h : tabChk P l = true) : ∀ t ty, tabOf l t = some ty → TyOK P t ty := by
  intro t ty ht
  have := List.all_eq_true.1 h (ty, t) (by rw [List.mem_zipIdx_iff_getElem?]; exact ht)
  exact tyOK_of_chk this

section
variable {P : Program} {t : Nat} {ty : Ty} {w : World}
theorem TyOK.sizeOf (h : TyOK P t ty) : (sizeOf t).run P w = .ok ty.sz w := by
  obtain ⟨i, hi, hs, _⟩ := h.info
  simp [Go.sizeOf, typeInfo, hi, hs]
theorem TyOK.slice {e : Nat} (h : TyOK P t ty) (hk : ty.kd = .slice e) : P.underlying t = some (.slice e) := by
  have := h.kd; rw [hk] at this
  simp only [kdChk] at this
  split at this
  · rename_i e' he; rw [he]; simp at this; rw [this]
  · cases this
theorem TyOK.ptr {e : Nat} (h : TyOK P t ty) (hk : ty.kd = .ptr e) : P.underlying t = some (.pointer e) := by
  have := h.kd; rw [hk] at this
  simp only [kdChk] at this
  split at this
  · rename_i e' he; rw [he]; simp at this; rw [this]
  · cases this
theorem TyOK.map {k e : Nat} (h : TyOK P t ty) (hk : ty.kd = .map k e) : P.underlying t = some (.map k e) := by
  have := h.kd; rw [hk] at this
  simp only [kdChk] at this
  split at this
  · rename_i k' e' he; rw [he]; simp at this; rw [this.1, this.2]
  · cases this
theorem TyOK.arr {n e : Nat} (h : TyOK P t ty) (hk : ty.kd = .arr n e) : P.underlying t = some (.array n e) := by
  have := h.kd; rw [hk] at this
  simp only [kdChk] at this
  split at this
  · rename_i k' e' he; rw [he]; simp at this; rw [this.1, this.2]
  · cases this
theorem TyOK.struct {fs : List (Nat × Nat)} (h : TyOK P t ty) (hk : ty.kd = .struct fs) : ∃ F : Array Field, P.underlying t = some (.struct F) ∧ F.toList.map (fun f => (f.offset, f.type)) = fs := by
  have := h.kd; rw [hk] at this
  simp only [kdChk] at this
  split at this
  · rename_i F he; simp at this; exact ⟨F, he, this⟩
  · cases this
theorem scalarK_int {k : IntKind} (h : scalarK P t (.int k) = true) : P.underlying t = some (.int k) := by
  simp only [scalarK] at h
  split at h
  · rename_i j hj; rw [hj]; simp at h; rw [h]
  · cases h
theorem scalarK_bool (h : scalarK P t .bool = true) : P.underlying t = some .bool := by
  simp only [scalarK] at h
  split at h
  · assumption
  · cases h
theorem scalarK_str (h : scalarK P t .str = true) : P.underlying t = some .string := by
  simp only [scalarK] at h
  split at h
  · assumption
  · cases h
theorem TyOK.int {k : IntKind} (h : TyOK P t ty) (hk : ty.kd = .int k) : P.underlying t = some (.int k) := by have := h.kd; rw [hk] at this; exact scalarK_int this
theorem TyOK.bool (h : TyOK P t ty) (hk : ty.kd = .bool) : P.underlying t = some .bool := by have := h.kd; rw [hk] at this; exact scalarK_bool this
theorem TyOK.str (h : TyOK P t ty) (hk : ty.kd = .str) : P.underlying t = some .string := by have := h.kd; rw [hk] at this; exact scalarK_str this
theorem isAgg_of {d : TypeDesc} (hu : P.underlying t = some d) : (isAgg t).run P w = .ok (match d with | .struct _ => true | .array _ _ => true | _ => false) w := by
  simp only [isAgg, Sem.run_bind, run_underlying hu, Result.andThen_ok]
  cases d <;> rfl
theorem TyOK.isAgg (h : TyOK P t ty) : (isAgg t).run P w = .ok ty.agg w := by
  unfold Ty.agg
  cases hk : ty.kd with
  | int k => rw [isAgg_of (h.int hk)]
  | bool => rw [isAgg_of (h.bool hk)]
  | str => rw [isAgg_of (h.str hk)]
  | slice e => rw [isAgg_of (h.slice hk)]
  | ptr e => rw [isAgg_of (h.ptr hk)]
  | map k e => rw [isAgg_of (h.map hk)]
  | struct fs => obtain ⟨F, hF, _⟩ := h.struct hk; rw [isAgg_of hF]
  | arr n e => rw [isAgg_of (h.arr hk)]
  | other =>
    have := h.kd; rw [hk] at this; simp only [kdChk] at this
    split at this
    · cases this
    · cases this
    · rename_i d h1 h2 hd; rw [isAgg_of hd]; cases d <;> first | rfl | (exact (h1 _ rfl).elim) | (exact (h2 _ _ rfl).elim)
    · cases this
/-- A type's zero value, as the machine has it and as its cells. -/
theorem TyOK.zeroes (h : TyOK P t ty) {zc : List CV} (hz : ty.zero = some zc) (g : Gh) : ∃ i z, P.info? t = some i ∧ i.zero = some z ∧ VRL g zc z.cells.toList ∧ zc.length = ty.sz ∧ (ty.agg = true → ∃ a, z = .agg a) ∧ (ty.agg = false → z.oneCell' = true ∧ z.cells = #[z]) := by
  have := h.zero
  simp only [zeroChk, hz] at this
  split at this
  · rename_i i hi
    split at this
    · rename_i z hzz
      simp only [Bool.and_eq_true] at this
      obtain ⟨⟨⟨h1, h2⟩, h3⟩, h4⟩ := this
      refine ⟨i, z, hi, hzz, ?_, by simpa using h2, fun ha => ?_, fun ha => ?_⟩
      · rw [← CV.beqL_eq _ _ h1]
        refine ⟨by simp, fun v hv => by simpa [one'] using List.all_eq_true.1 h3 v hv, fun j c v hc hv => ?_⟩
        rw [List.getElem?_map, hv] at hc
        simp at hc; subst hc; exact VR.ofS g v
      · cases z <;> simp_all
      · cases z <;> simp_all [one', Value.cells, Value.oneCell']
    · cases this
  · cases this
theorem TyOK.zeroV (h : TyOK P t ty) {c : CV} (hz : ty.zeroV = some c) (g : Gh) : ∃ v, (zeroValue t).run P w = .ok v w ∧ VR g c v := by
  unfold Ty.zeroV at hz
  split at hz
  · rename_i zc hzc
    obtain ⟨i, z, hi, hzz, hv, hl, h1, h2⟩ := h.zeroes hzc g
    refine ⟨z, by simp [zeroValue, typeInfo, hi, hzz], ?_⟩
    split at hz
    · rename_i ha
      obtain ⟨a, rfl⟩ := h1 ha
      simp at hz; subst hz
      have := hv.agg
      simpa [Value.cells] using this
    · rename_i ha
      obtain ⟨_, hc⟩ := h2 (by simpa using ha)
      rw [hc] at hv
      obtain ⟨v, a1, _, a3⟩ := hv.get hz
      cases zc with
      | nil => simp at hz
      | cons x xs => simp at hz; subst hz; simp at a1; subst a1; exact a3
  · cases hz
end

/-! ### Cells in memory -/
theorem addr_add (b o j : Nat) : (⟨b, o, none⟩ : Addr).add j = ⟨b, o + j, none⟩ := by unfold Addr.add; split <;> simp_all
/-- The cells from an address on, as they stand now. -/
def CellsAt (g : Gh) (w : World) (b o : Nat) (cs : List CV) : Prop := ∀ (j : Nat) c, cs[j]? = some c → ∃ v, w.cell? ⟨b, o + j, none⟩ = some v ∧ v.oneCell' = true ∧ VR g c v
theorem CellsAt.drop {g : Gh} {w : World} {b o : Nat} {cs : List CV} (h : CellsAt g w b o cs) (n : Nat) : CellsAt g w b (o + n) (cs.drop n) := fun j c hc => by
  rw [List.getElem?_drop] at hc
  have := h _ c hc
  rwa [← Nat.add_assoc] at this
theorem CellsAt.take {g : Gh} {w : World} {b o : Nat} {cs : List CV} (h : CellsAt g w b o cs) (n : Nat) : CellsAt g w b o (cs.take n) := fun j c hc => by
  rw [List.getElem?_take] at hc
  split at hc
  · exact h j c hc
  · cases hc
theorem CellsAt.vals {g : Gh} {w : World} {b : Nat} : ∀ {cs : List CV} {o : Nat}, CellsAt g w b o cs → ∃ vs : List Value, VRL g cs vs ∧ ∀ (j : Nat) v, vs[j]? = some v → w.cell? ⟨b, o + j, none⟩ = some v
  | [], o, _ => ⟨[], .nil g, by simp⟩
  | c :: cs, o, h => by
    obtain ⟨v, h1, h2, h3⟩ := h 0 c rfl
    obtain ⟨vs, k1, k2⟩ := CellsAt.vals (cs := cs) (o := o + 1) (h.drop 1)
    refine ⟨v :: vs, .cons h3 h2 k1, fun j u hj => ?_⟩
    cases j with
    | zero => simp at hj; subst hj; exact h1
    | succ j => simp at hj; have := k2 j u hj; rwa [show o + 1 + j = o + (j + 1) from by omega] at this
theorem CellsAt.of_cells {g : Gh} {w : World} {b base lim : Nat} {cs : List CV} (h : CellsR g w b base lim cs) : CellsAt g w b base cs := fun j c hc => by
  obtain ⟨cur, e, fz, h1, h2, h3, h4, h5, h6⟩ := h
  obtain ⟨v, a1, a2, a3⟩ := h5.get hc
  refine ⟨v, ?_, a2, a3⟩
  rw [List.getElem?_take] at a1
  split at a1
  · rw [List.getElem?_drop] at a1
    simp [World.cell?, h1]
    simpa using a1
  · cases a1
theorem CellsAt.of_obj {g : Gh} {h : H} {w : World} (hR : R g h w) {id : Nat} {o : CObj} {cs : List CV} (ho : h.get id = some o) (hc : o = .cells cs ∨ o = .fro cs) {b base lim : Nat} (hp : g.place id = some (b, base, lim)) : CellsAt g w b base cs := by
  have := hR.ob id o ho
  rcases hc with rfl | rfl
  · obtain ⟨b', base', lim', hp', hh⟩ := this
    rw [hp] at hp'; cases hp'
    exact .of_cells hh
  · obtain ⟨b', base', lim', hp', _, hh⟩ := this
    rw [hp] at hp'; cases hp'
    intro j c hc
    obtain ⟨v, a1, a2, a3⟩ := hh j c hc
    exact ⟨v, hR.ic _ _ _ a1, a2, a3⟩
theorem CellsAt.of_iptr {g : Gh} {h : H} {w : World} (hR : R g h w) {cs : List CV} {b o : Nat} {val : Nat → Value} (h1 : ∀ (j : Nat) (y : CV), cs[j]? = some y → g.icell b (o + j) = some (val j) ∧ (val j).oneCell' = true)
    (h2 : ∀ (j : Nat) (y : CV), cs[j]? = some y → VR g y (val j)) : CellsAt g w b o cs := fun j c hc => ⟨val j, hR.ic _ _ _ (h1 j c hc).1, (h1 j c hc).2, h2 j c hc⟩

theorem run_loadCells_at (P : Program) (w : World) (b o : Nat) (vs : List Value) (h : ∀ (j : Nat) v, vs[j]? = some v → w.cell? ⟨b, o + j, none⟩ = some v) : (loadCells ⟨b, o, none⟩ vs.length).run P w = .ok vs.toArray w :=
  run_loadCells_list w _ vs fun j v hj => by rw [addr_add]; exact h j v hj
theorem ld_sound {P : Program} {t : Nat} {ty : Ty} (hT : TyOK P t ty) {g : Gh} {w : World} {b o off : Nat} {cs : List CV} (h : CellsAt g w b o cs) {v : CV} (hv : ldC ty.agg ty.sz cs off = some v) :
    ∃ v', (loadVar t ⟨b, o + off, none⟩).run P w = .ok v' w ∧ VR g v v' := by
  unfold ldC at hv
  simp only [loadVar, Sem.run_bind, hT.isAgg, Result.andThen_ok, Sem.run_ite]
  split at hv
  · rename_i ha
    split at hv
    · rename_i hle
      simp at hv; subst hv
      obtain ⟨vs, k1, k2⟩ := ((h.drop off).take ty.sz).vals
      have hl : vs.length = ty.sz := by rw [← k1.1]; simp; omega
      refine ⟨.agg vs.toArray, ?_, k1.agg⟩
      rw [if_pos ha]
      simp only [hT.sizeOf, Result.andThen_ok]
      rw [← hl, run_loadCells_at P w b (o + off) vs k2]
      simp
    · cases hv
  · rename_i ha
    obtain ⟨v', h1, _, h3⟩ := h off v hv
    refine ⟨v', ?_, h3⟩
    rw [if_neg ha]
    simp [load, Sem.run, h1]
end Go.Cv
