/- A value-level semantics of Go code: its values, its heap, its small programs on the heap. -/
import Derived.Orders
import Derived.Scope
namespace Go.Cv
open Go

/-- Clean values. 'lst': a slice that is never written again (its elements, each as its cells); 'ref': a slice into an object of the clean heap; 'iptr': the address of a cell of an element that is never written again. -/
inductive CV where
  | undef
  | int (k : IntKind) (n : Int)
  | bool (b : Bool)
  | str (s : List UInt8)
  | nils
  | lst (sz : Nat) (xs : List (List CV))
  | ref (id off len sz : Nat)
  | agg (cs : List CV)
  | tup (vs : List CV)
  | ptr (id off : Nat)
  | nilp
  | iptr (cs : List CV) (off : Nat)
  | map (id : Nat)
  | nilm
  | fn (f : Nat) (caps : List CV)
  | nilf
  deriving Inhabited

/-- The cells that a value takes in memory. -/
def CV.cells : CV → Option (List CV)
  | .undef => none
  | .tup _ => none
  | .agg cs => some cs
  | v => some [v]

/-- A value of one cell. -/
def CV.one : CV → Bool
  | .undef => false
  | .tup _ => false
  | .agg _ => false
  | _ => true

mutual
def CV.beq : CV → CV → Bool
  | .undef, .undef => true
  | .int j a, .int k b => j == k && a == b
  | .bool a, .bool b => a == b
  | .str a, .str b => a == b
  | .nils, .nils => true
  | .lst s xs, .lst t ys => s == t && CV.beqLL xs ys
  | .ref a b c d, .ref a' b' c' d' => a == a' && b == b' && c == c' && d == d'
  | .agg xs, .agg ys => CV.beqL xs ys
  | .tup xs, .tup ys => CV.beqL xs ys
  | .ptr a b, .ptr a' b' => a == a' && b == b'
  | .nilp, .nilp => true
  | .iptr xs a, .iptr ys b => a == b && CV.beqL xs ys
  | .map a, .map b => a == b
  | .nilm, .nilm => true
  | .fn f xs, .fn g ys => f == g && CV.beqL xs ys
  | .nilf, .nilf => true
  | _, _ => false
def CV.beqL : List CV → List CV → Bool
  | [], [] => true
  | x :: xs, y :: ys => CV.beq x y && CV.beqL xs ys
  | _, _ => false
def CV.beqLL : List (List CV) → List (List CV) → Bool
  | [], [] => true
  | x :: xs, y :: ys => CV.beqL x y && CV.beqLL xs ys
  | _, _ => false
end

mutual
theorem CV.beq_eq : ∀ a b : CV, CV.beq a b = true → a = b
  | .undef, b, h => by cases b <;> simp_all [CV.beq]
  | .int j x, b, h => by cases b <;> simp_all [CV.beq]
  | .bool x, b, h => by cases b <;> simp_all [CV.beq]
  | .str x, b, h => by cases b <;> simp_all [CV.beq]
  | .nils, b, h => by cases b <;> simp_all [CV.beq]
  | .lst s xs, b, h => by
    cases b <;> simp [CV.beq] at h
    rename_i t ys; rw [h.1, CV.beqLL_eq xs ys h.2]
  | .ref _ _ _ _, b, h => by cases b <;> simp_all [CV.beq]
  | .agg xs, b, h => by
    cases b <;> simp [CV.beq] at h
    rename_i ys; rw [CV.beqL_eq xs ys h]
  | .tup xs, b, h => by
    cases b <;> simp [CV.beq] at h
    rename_i ys; rw [CV.beqL_eq xs ys h]
  | .ptr _ _, b, h => by cases b <;> simp_all [CV.beq]
  | .nilp, b, h => by cases b <;> simp_all [CV.beq]
  | .iptr xs a, b, h => by
    cases b <;> simp [CV.beq] at h
    rename_i ys c; rw [h.1, CV.beqL_eq xs ys h.2]
  | .map _, b, h => by cases b <;> simp_all [CV.beq]
  | .nilm, b, h => by cases b <;> simp_all [CV.beq]
  | .fn f xs, b, h => by
    cases b <;> simp [CV.beq] at h
    rename_i g ys; rw [h.1, CV.beqL_eq xs ys h.2]
  | .nilf, b, h => by cases b <;> simp_all [CV.beq]
theorem CV.beqL_eq : ∀ a b : List CV, CV.beqL a b = true → a = b
  | [], b, h => by cases b <;> simp_all [CV.beqL]
  | x :: xs, b, h => by
    cases b <;> simp [CV.beqL] at h
    rename_i y ys; rw [CV.beq_eq x y h.1, CV.beqL_eq xs ys h.2]
theorem CV.beqLL_eq : ∀ a b : List (List CV), CV.beqLL a b = true → a = b
  | [], b, h => by cases b <;> simp_all [CV.beqLL]
  | x :: xs, b, h => by
    cases b <;> simp [CV.beqLL] at h
    rename_i y ys; rw [CV.beqL_eq x y h.1, CV.beqLL_eq xs ys h.2]
end

mutual
theorem CV.beq_refl : ∀ a : CV, CV.beq a a = true
  | .undef => by simp [CV.beq]
  | .int j x => by simp [CV.beq]
  | .bool x => by simp [CV.beq]
  | .str x => by simp [CV.beq]
  | .nils => by simp [CV.beq]
  | .lst s xs => by simp [CV.beq, CV.beqLL_refl xs]
  | .ref _ _ _ _ => by simp [CV.beq]
  | .agg xs => by simp [CV.beq, CV.beqL_refl xs]
  | .tup xs => by simp [CV.beq, CV.beqL_refl xs]
  | .ptr _ _ => by simp [CV.beq]
  | .nilp => by simp [CV.beq]
  | .iptr xs a => by simp [CV.beq, CV.beqL_refl xs]
  | .map _ => by simp [CV.beq]
  | .nilm => by simp [CV.beq]
  | .fn f xs => by simp [CV.beq, CV.beqL_refl xs]
  | .nilf => by simp [CV.beq]
theorem CV.beqL_refl : ∀ a : List CV, CV.beqL a a = true
  | [] => by simp [CV.beqL]
  | x :: xs => by simp [CV.beqL, CV.beq_refl x, CV.beqL_refl xs]
theorem CV.beqLL_refl : ∀ a : List (List CV), CV.beqLL a a = true
  | [] => by simp [CV.beqLL]
  | x :: xs => by simp [CV.beqLL, CV.beqL_refl x, CV.beqLL_refl xs]
end

/-- An object of the clean heap: cells that may be written; cells that are never written again; a map; a string that is gone through. -/
inductive CObj where
  | cells (cs : List CV)
  | fro (cs : List CV)
  | map (es : List (CV × CV))
  | siter (s : List UInt8) (pos : Nat)
  deriving Inhabited

def CObj.beq : CObj → CObj → Bool
  | .cells a, .cells b => CV.beqL a b
  | .fro a, .fro b => CV.beqL a b
  | .map a, .map b => CV.beqL (a.map (·.1)) (b.map (·.1)) && CV.beqL (a.map (·.2)) (b.map (·.2))
  | .siter s p, .siter t q => s == t && p == q
  | _, _ => false
theorem pairs_eq {α β : Type} : ∀ a b : List (α × β), a.map (·.1) = b.map (·.1) → a.map (·.2) = b.map (·.2) → a = b
  | [], [], _, _ => rfl
  | [], y :: ys, h, _ => by simp at h
  | x :: xs, [], h, _ => by simp at h
  | x :: xs, y :: ys, h, k => by
    simp only [List.map_cons, List.cons.injEq] at h k
    rw [pairs_eq xs ys h.2 k.2, show x = y from Prod.ext h.1 k.1]
theorem CObj.beq_eq {a b : CObj} (h : CObj.beq a b = true) : a = b := by
  cases a <;> cases b <;> simp [CObj.beq] at h
  · rw [CV.beqL_eq _ _ h]
  · rw [CV.beqL_eq _ _ h]
  · rw [pairs_eq _ _ (CV.beqL_eq _ _ h.1) (CV.beqL_eq _ _ h.2)]
  · rw [h.1, h.2]
theorem CObj.beq_refl (a : CObj) : CObj.beq a a = true := by cases a <;> simp [CObj.beq, CV.beqL_refl]
def beqO : Option CObj → Option CObj → Bool
  | some a, some b => CObj.beq a b
  | none, none => true
  | _, _ => false
theorem beqO_eq {a b : Option CObj} (h : beqO a b = true) : a = b := by
  cases a <;> cases b <;> simp [beqO] at h
  · rfl
  · rw [CObj.beq_eq h]
theorem beqO_refl (a : Option CObj) : beqO a a = true := by cases a <;> simp [beqO, CObj.beq_refl]

/-! ### A table by numbers, that the kernel can reckon with -/
inductive Tr (α : Type) where
  | leaf
  | node (v : Option α) (l r : Tr α)
  deriving Inhabited
def Tr.get {α : Type} : Tr α → Nat → Option α
  | .leaf, _ => none
  | .node v l r, n => if n = 0 then v else if n % 2 = 1 then l.get (n / 2) else r.get (n / 2 - 1)
def Tr.setF {α : Type} (x : Option α) : Nat → Tr α → Nat → Tr α
  | 0, t, _ => t
  | f + 1, t, n =>
    match t with
    | .leaf => if n = 0 then .node x .leaf .leaf else if n % 2 = 1 then .node none (Tr.setF x f .leaf (n / 2)) .leaf else .node none .leaf (Tr.setF x f .leaf (n / 2 - 1))
    | .node v l r => if n = 0 then .node x l r else if n % 2 = 1 then .node v (Tr.setF x f l (n / 2)) r else .node v l (Tr.setF x f r (n / 2 - 1))
def Tr.set {α : Type} (t : Tr α) (n : Nat) (x : Option α) : Tr α := Tr.setF x (n + 1) t n
theorem Tr.get_leaf {α : Type} (m : Nat) : (Tr.leaf : Tr α).get m = none := by simp [Tr.get]
theorem Tr.get_setF {α : Type} (x : Option α) : ∀ (f : Nat) (t : Tr α) (n m : Nat), n < f → (Tr.setF x f t n).get m = if m = n then x else t.get m := by
  intro f
  induction f with
  | zero => intro t n m h; omega
  | succ f ih =>
    intro t n m h
    cases t with
    | leaf =>
      simp only [Tr.setF, Tr.get_leaf]
      by_cases h0 : n = 0
      · rw [if_pos h0]; subst h0
        simp only [Tr.get]
        by_cases hm : m = 0
        · simp [hm]
        · simp [hm]
      · rw [if_neg h0]
        by_cases h1 : n % 2 = 1
        · rw [if_pos h1]; simp only [Tr.get, ih .leaf (n / 2) _ (by omega)]
          by_cases hm : m = n
          · subst hm; simp [h0, h1]
          · by_cases hm0 : m = 0
            · simp [hm0, Ne.symm (by omega : n ≠ 0)]
            · simp only [hm0, hm, if_false]; split
              · rw [if_neg (by omega)]
              · rfl
        · rw [if_neg h1]; simp only [Tr.get, ih .leaf (n / 2 - 1) _ (by omega)]
          by_cases hm : m = n
          · subst hm; simp [h0, h1]
          · by_cases hm0 : m = 0
            · simp [hm0, Ne.symm (by omega : n ≠ 0)]
            · simp only [hm0, hm, if_false]; split
              · rfl
              · rw [if_neg (by omega)]
    | node v l r =>
      simp only [Tr.setF]
      by_cases h0 : n = 0
      · rw [if_pos h0]; subst h0
        simp only [Tr.get]
        by_cases hm : m = 0 <;> simp [hm]
      · rw [if_neg h0]
        by_cases h1 : n % 2 = 1
        · rw [if_pos h1]; simp only [Tr.get, ih l (n / 2) _ (by omega)]
          by_cases hm : m = n
          · subst hm; simp [h0, h1]
          · by_cases hm0 : m = 0
            · simp [hm0, Ne.symm (by omega : n ≠ 0)]
            · simp only [hm0, hm, if_false]; split
              · rw [if_neg (by omega)]
              · rfl
        · rw [if_neg h1]; simp only [Tr.get, ih r (n / 2 - 1) _ (by omega)]
          by_cases hm : m = n
          · subst hm; simp [h0, h1]
          · by_cases hm0 : m = 0
            · simp [hm0, Ne.symm (by omega : n ≠ 0)]
            · simp only [hm0, hm, if_false]; split
              · rfl
              · rw [if_neg (by omega)]
theorem Tr.get_set {α : Type} (t : Tr α) (n m : Nat) (x : Option α) : (t.set n x).get m = if m = n then x else t.get m := Tr.get_setF x (n + 1) t n m (by omega)

/-! ### The clean heap -/
structure H where
  next : Nat
  tab : Tr CObj
  deriving Inhabited
def H.get (h : H) (i : Nat) : Option CObj := h.tab.get i
def H.put (h : H) (i : Nat) (o : CObj) : H := { h with tab := h.tab.set i (some o) }
def H.del (h : H) (i : Nat) : H := { h with tab := h.tab.set i none }
def H.new (h : H) (o : CObj) : H := { next := h.next + 1, tab := h.tab.set h.next (some o) }
def H.setO (h : H) (i : Nat) (o : Option CObj) : H := { h with tab := h.tab.set i o }
theorem H.get_put (h : H) (i : Nat) (o : CObj) (j : Nat) : (h.put i o).get j = if j = i then some o else h.get j := Tr.get_set _ _ _ _
theorem H.get_del (h : H) (i j : Nat) : (h.del i).get j = if j = i then none else h.get j := Tr.get_set _ _ _ _
theorem H.get_new (h : H) (o : CObj) (j : Nat) : (h.new o).get j = if j = h.next then some o else h.get j := Tr.get_set _ _ _ _
theorem H.get_setO (h : H) (i : Nat) (o : Option CObj) (j : Nat) : (h.setO i o).get j = if j = i then o else h.get j := Tr.get_set _ _ _ _
theorem H.next_put (h : H) (i : Nat) (o : CObj) : (h.put i o).next = h.next := rfl
theorem H.next_del (h : H) (i : Nat) : (h.del i).next = h.next := rfl
theorem H.next_new (h : H) (o : CObj) : (h.new o).next = h.next + 1 := rfl
theorem H.next_setO (h : H) (i : Nat) (o : Option CObj) : (h.setO i o).next = h.next := rfl

/-! ### Small programs on the clean heap -/
inductive CM (α : Type) where
  | pure (a : α)
  | fail
  | get (id : Nat) (k : CObj → CM α)
  | put (id : Nat) (o : CObj) (k : CM α)
  | del (id : Nat) (k : CM α)
  | new (o : CObj) (k : Nat → CM α)
namespace CM
def bind {α β : Type} : CM α → (α → CM β) → CM β
  | .pure a, f => f a
  | .fail, _ => .fail
  | .get i k, f => .get i fun o => (k o).bind f
  | .put i o k, f => .put i o (k.bind f)
  | .del i k, f => .del i (k.bind f)
  | .new o k, f => .new o fun i => (k i).bind f
/-- It runs; what it writes must be there, and be no cells that are never written again. -/
def run {α : Type} : CM α → H → Option (α × H)
  | .pure a, h => some (a, h)
  | .fail, _ => none
  | .get i k, h => match h.get i with | some o => (k o).run h | none => none
  | .put i o k, h => match h.get i with | some (.fro _) => none | some _ => k.run (h.put i o) | none => none
  | .del i k, h => match h.get i with | some (.fro _) => none | some _ => k.run (h.del i) | none => none
  | .new o k, h => (k h.next).run (h.new o)
/-- What it touches in the heap: reads; writes; makes. -/
structure Eff where
  rd : List Nat
  wr : List Nat
  al : List Nat
  deriving Inhabited
def eff {α : Type} : CM α → H → Eff
  | .pure _, _ => ⟨[], [], []⟩
  | .fail, _ => ⟨[], [], []⟩
  | .get i k, h => match h.get i with | some o => let e := (k o).eff h; ⟨i :: e.rd, e.wr, e.al⟩ | none => ⟨[], [], []⟩
  | .put i o k, h => let e := k.eff (h.put i o); ⟨e.rd, i :: e.wr, e.al⟩
  | .del i k, h => let e := k.eff (h.del i); ⟨e.rd, i :: e.wr, e.al⟩
  | .new o k, h => let e := (k h.next).eff (h.new o); ⟨e.rd, e.wr, h.next :: e.al⟩
end CM
def CM.ofO {α : Type} : Option α → CM α
  | some a => .pure a
  | none => .fail
end Go.Cv
