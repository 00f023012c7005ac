/-
  The abstract values and the abstract heap of the evaluator, and what it means that a value and a heap of the evaluator stand for those of a world.
-/
import Derived.Calls
import Derived.Orders
import Derived.Below
import Derived.Laws.Sem
import Derived.Laws.World
namespace Go.Proofs.YtjldbkicpbchkaaGreat.Ev
open Go Go.RowKit

/-! ### Values -/
inductive AV where
  | bool (b : Bool)
  | int (k : IntKind) (n : Int)
  | str (s : List UInt8)
  | nilp
  | ptr (b o : Nat)
  | nils
  | sl (b o len cap es : Nat) (ex : Bool)
  | nilm
  | map (b : Nat)
  | nilf
  | fn (f : Fn) (first captured : List AV)
  | nili
  | ifc (t : TypeId) (v : AV)
  | agg (cs : List AV)
  | tup (vs : List AV)
  deriving Inhabited

/-- The cells of a value. -/
def AV.cells : AV → List AV
  | .agg cs => cs
  | v => [v]

def AV.one : AV → Bool
  | .agg _ | .tup _ => false
  | _ => true

def AV.undef : AV := .tup []

/-! ### The heap -/
inductive AObj where
  | cells (cs : List AV) (ty : TypeId) (ro shut : Bool) (kin : List Nat)
  | map (es : List (AV × AV))
  | dead
  deriving Inhabited

inductive HT where
  | lf
  | nd (v : Option AObj) (l r : HT)
  deriving Inhabited

def HT.get : HT → Nat → Option AObj
  | .lf, _ => none
  | .nd v _ _, 0 => v
  | .nd _ l r, i + 1 => cond (Nat.beq (i % 2) 0) (l.get (i / 2)) (r.get (i / 2))

def HT.put : Nat → HT → Nat → AObj → HT
  | 0, t, _, _ => t
  | _ + 1, .lf, 0, v => .nd (some v) .lf .lf
  | _ + 1, .nd _ l r, 0, v => .nd (some v) l r
  | f + 1, .lf, i + 1, v => cond (Nat.beq (i % 2) 0) (.nd none (HT.put f .lf (i / 2) v) .lf) (.nd none .lf (HT.put f .lf (i / 2) v))
  | f + 1, .nd w l r, i + 1, v => cond (Nat.beq (i % 2) 0) (.nd w (HT.put f l (i / 2) v) r) (.nd w l (HT.put f r (i / 2) v))

theorem HT.get_put (v : AObj) : ∀ (f : Nat) (t : HT) (i j : Nat), i < f → (HT.put f t i v).get j = if i = j then some v else t.get j := by
  intro f
  induction f with
  | zero => intro t i j h; omega
  | succ f ih =>
    intro t i j h
    cases t with
    | lf =>
      cases i with
      | zero => cases j with
        | zero => simp [HT.put, HT.get]
        | succ j => simp [HT.put, HT.get]
      | succ i =>
        cases j with
        | zero => simp only [HT.put]; cases Nat.beq (i % 2) 0 <;> simp [HT.get]
        | succ j =>
          have ih' := fun t => ih t (i / 2) (j / 2) (by omega)
          simp only [HT.put]
          rcases Nat.mod_two_eq_zero_or_one i with hi | hi <;> rcases Nat.mod_two_eq_zero_or_one j with hj | hj <;>
            simp only [hi, hj, HT.get, ih', show Nat.beq 0 0 = true from rfl, show Nat.beq 1 0 = false from rfl, cond, Nat.add_right_cancel_iff]
          · have e : (i / 2 = j / 2) ↔ (i = j) := by omega
            simp only [e]
          · rw [if_neg (by omega)]
          · rw [if_neg (by omega)]
          · have e : (i / 2 = j / 2) ↔ (i = j) := by omega
            simp only [e]
    | nd w l r =>
      cases i with
      | zero => cases j with
        | zero => simp [HT.put, HT.get]
        | succ j => simp [HT.put, HT.get]
      | succ i =>
        cases j with
        | zero => simp only [HT.put]; cases Nat.beq (i % 2) 0 <;> simp [HT.get]
        | succ j =>
          have ih' := fun t => ih t (i / 2) (j / 2) (by omega)
          simp only [HT.put]
          rcases Nat.mod_two_eq_zero_or_one i with hi | hi <;> rcases Nat.mod_two_eq_zero_or_one j with hj | hj <;>
            simp only [hi, hj, HT.get, ih', show Nat.beq 0 0 = true from rfl, show Nat.beq 1 0 = false from rfl, cond, Nat.add_right_cancel_iff]
          · have e : (i / 2 = j / 2) ↔ (i = j) := by omega
            simp only [e]
          · rw [if_neg (by omega)]
          · rw [if_neg (by omega)]
          · have e : (i / 2 = j / 2) ↔ (i = j) := by omega
            simp only [e]

structure AHeap where
  n : Nat
  t : HT
  deriving Inhabited

def AHeap.get (h : AHeap) (b : Nat) : Option AObj := h.t.get b
def AHeap.set (h : AHeap) (b : Nat) (o : AObj) : AHeap := ⟨h.n, HT.put (b + 1) h.t b o⟩
def AHeap.push (h : AHeap) (o : AObj) : AHeap := ⟨h.n + 1, HT.put (h.n + 1) h.t h.n o⟩

@[simp] theorem AHeap.n_set (h : AHeap) (b : Nat) (o : AObj) : (h.set b o).n = h.n := rfl
@[simp] theorem AHeap.n_push (h : AHeap) (o : AObj) : (h.push o).n = h.n + 1 := rfl
theorem AHeap.get_set (h : AHeap) (b j : Nat) (o : AObj) : (h.set b o).get j = if b = j then some o else h.get j := HT.get_put o (b + 1) h.t b j (by omega)
theorem AHeap.get_push (h : AHeap) (j : Nat) (o : AObj) : (h.push o).get j = if h.n = j then some o else h.get j := HT.get_put o (h.n + 1) h.t h.n j (by omega)
@[simp] theorem AHeap.get_set_eq (h : AHeap) (b : Nat) (o : AObj) : (h.set b o).get b = some o := by simp [AHeap.get_set]
theorem AHeap.get_set_ne (h : AHeap) {b j : Nat} (o : AObj) (hne : b ≠ j) : (h.set b o).get j = h.get j := by simp [AHeap.get_set, hne]
@[simp] theorem AHeap.get_push_eq (h : AHeap) (o : AObj) : (h.push o).get h.n = some o := by simp [AHeap.get_push]
theorem AHeap.get_push_ne (h : AHeap) {j : Nat} (o : AObj) (hne : h.n ≠ j) : (h.push o).get j = h.get j := by simp [AHeap.get_push, hne]

/-! ### What a value of the evaluator stands for -/
structure Loc where
  c : Nat
  s : Nat
  n : Nat

abbrev Phi := Nat → Option Loc

mutual
def RV (φ : Phi) : AV → Value → Prop
  | .bool b, v => v = .bool b
  | .int k n, v => v = .int k n
  | .str s, v => ∃ ba : ByteArray, v = .string ba ∧ ba.data.toList = s
  | .nilp, v => v = .pointer none
  | .ptr b o, v => ∃ l, φ b = some l ∧ v = .pointer (some ⟨l.c, l.s + o, none⟩)
  | .nils, v => v = .slice none 0 0
  | .sl b o len cap es ex, v => ∃ l x cap', φ b = some l ∧ v = .slice (some ⟨l.c, x, none⟩) len cap' ∧ (x = l.s + o ∨ cap' = 0) ∧
      cap ≤ cap' ∧ (ex = true → cap' = cap) ∧ o + cap' * es ≤ l.n ∧ len ≤ cap
  | .nilm, v => v = .map none
  | .map b, v => ∃ l, φ b = some l ∧ v = .map (some l.c)
  | .nilf, v => v = .nilFunc
  | .fn f a c, v => ∃ xs ys : Array Value, v = .func f xs ys ∧ RVs φ a xs.toList ∧ RVs φ c ys.toList
  | .nili, v => v = .nilIface
  | .ifc t x, v => ∃ y, v = .iface t y ∧ RV φ x y
  | .agg cs, v => ∃ xs : Array Value, v = .agg xs ∧ RVs φ cs xs.toList
  | .tup vs, v => ∃ xs : Array Value, v = .tuple xs ∧ RVs φ vs xs.toList
def RVs (φ : Phi) : List AV → List Value → Prop
  | [], vs => vs = []
  | x :: xs, vs => ∃ y ys, vs = y :: ys ∧ RV φ x y ∧ RVs φ xs ys
end

def Phi.le (φ ψ : Phi) : Prop := ∀ b l, φ b = some l → ψ b = some l
theorem Phi.le_refl (φ : Phi) : φ.le φ := fun _ _ h => h
theorem Phi.le_trans {φ ψ χ : Phi} (h : φ.le ψ) (k : ψ.le χ) : φ.le χ := fun b l x => k b l (h b l x)

mutual
theorem RV.mono {φ ψ : Phi} (h : φ.le ψ) : ∀ (x : AV) (v : Value), RV φ x v → RV ψ x v
  | .bool _, _, k | .int _ _, _, k | .str _, _, k | .nilp, _, k | .nils, _, k | .nilm, _, k | .nilf, _, k | .nili, _, k => by simpa only [RV] using k
  | .ptr b o, v, k => by simp only [RV] at k ⊢; obtain ⟨l, h1, h2⟩ := k; exact ⟨l, h b l h1, h2⟩
  | .map b, v, k => by simp only [RV] at k ⊢; obtain ⟨l, h1, h2⟩ := k; exact ⟨l, h b l h1, h2⟩
  | .sl b o len cap es ex, v, k => by simp only [RV] at k ⊢; obtain ⟨l, x, c, h1, h2⟩ := k; exact ⟨l, x, c, h b l h1, h2⟩
  | .fn f a c, v, k => by simp only [RV] at k ⊢; obtain ⟨xs, ys, h1, h2, h3⟩ := k; exact ⟨xs, ys, h1, RVs.mono h _ _ h2, RVs.mono h _ _ h3⟩
  | .ifc t x, v, k => by simp only [RV] at k ⊢; obtain ⟨y, h1, h2⟩ := k; exact ⟨y, h1, RV.mono h _ _ h2⟩
  | .agg cs, v, k => by simp only [RV] at k ⊢; obtain ⟨xs, h1, h2⟩ := k; exact ⟨xs, h1, RVs.mono h _ _ h2⟩
  | .tup cs, v, k => by simp only [RV] at k ⊢; obtain ⟨xs, h1, h2⟩ := k; exact ⟨xs, h1, RVs.mono h _ _ h2⟩
theorem RVs.mono {φ ψ : Phi} (h : φ.le ψ) : ∀ (x : List AV) (v : List Value), RVs φ x v → RVs ψ x v
  | [], _, k => by simpa only [RVs] using k
  | x :: xs, v, k => by simp only [RVs] at k ⊢; obtain ⟨y, ys, h1, h2, h3⟩ := k; exact ⟨y, ys, h1, RV.mono h _ _ h2, RVs.mono h _ _ h3⟩
end

theorem RVs.length {φ : Phi} : ∀ {xs : List AV} {vs : List Value}, RVs φ xs vs → vs.length = xs.length
  | [], vs, h => by simp only [RVs] at h; simp [h]
  | x :: xs, vs, h => by simp only [RVs] at h; obtain ⟨y, ys, rfl, _, h3⟩ := h; simp [RVs.length h3]

theorem RVs.get {φ : Phi} : ∀ {xs : List AV} {vs : List Value}, RVs φ xs vs → ∀ {i : Nat} {x : AV}, xs[i]? = some x → ∃ v, vs[i]? = some v ∧ RV φ x v
  | [], vs, h, i, x, hx => by simp at hx
  | y :: ys, vs, h, i, x, hx => by
    simp only [RVs] at h
    obtain ⟨v, vs', rfl, h2, h3⟩ := h
    cases i with
    | zero => simp at hx; subst hx; exact ⟨v, by simp, h2⟩
    | succ i => simp at hx; obtain ⟨u, hu, hr⟩ := RVs.get h3 hx; exact ⟨u, by simpa using hu, hr⟩

theorem RVs.of_get {φ : Phi} : ∀ {xs : List AV} {vs : List Value}, vs.length = xs.length → (∀ (i : Nat) (x : AV), xs[i]? = some x → ∃ v, vs[i]? = some v ∧ RV φ x v) → RVs φ xs vs
  | [], vs, hl, _ => by simp only [RVs]; simpa using hl
  | x :: xs, vs, hl, h => by
    cases vs with
    | nil => simp at hl
    | cons v vs =>
      simp only [RVs]
      refine ⟨v, vs, rfl, ?_, RVs.of_get (by simpa using hl) fun i y hy => ?_⟩
      · obtain ⟨u, hu, hr⟩ := h 0 x (by simp); simp at hu; subst hu; exact hr
      · obtain ⟨u, hu, hr⟩ := h (i + 1) y (by simpa using hy); exact ⟨u, by simpa using hu, hr⟩

theorem RVs.append {φ : Phi} : ∀ {xs ys : List AV} {vs us : List Value}, RVs φ xs vs → RVs φ ys us → RVs φ (xs ++ ys) (vs ++ us)
  | [], ys, vs, us, h, k => by simp only [RVs] at h; subst h; simpa using k
  | x :: xs, ys, vs, us, h, k => by
    simp only [RVs] at h
    obtain ⟨v, vs', rfl, h2, h3⟩ := h
    simp only [List.cons_append, RVs]
    exact ⟨v, vs' ++ us, rfl, h2, RVs.append h3 k⟩

/-- The cells of a value stand for the cells of what it stands for. -/
theorem RV.cells {φ : Phi} {x : AV} {v : Value} (h : RV φ x v) : RVs φ x.cells v.cells.toList := by
  cases x with
  | agg cs => simp only [RV] at h; obtain ⟨xs, rfl, h2⟩ := h; exact h2
  | str s => simp only [RV] at h; obtain ⟨ba, rfl, h2⟩ := h; simp only [AV.cells, Value.cells, RVs]; exact ⟨_, [], rfl, by simp only [RV]; exact ⟨ba, rfl, h2⟩, rfl⟩
  | ptr b o => have h0 := h; simp only [RV] at h; obtain ⟨l, h1, rfl⟩ := h; simp only [AV.cells, Value.cells, RVs]; exact ⟨_, [], rfl, h0, rfl⟩
  | sl b o len cap es ex => have h0 := h; simp only [RV] at h; obtain ⟨l, y, c, h1, rfl, _⟩ := h; simp only [AV.cells, Value.cells, RVs]; exact ⟨_, [], rfl, h0, rfl⟩
  | map b => have h0 := h; simp only [RV] at h; obtain ⟨l, h1, rfl⟩ := h; simp only [AV.cells, Value.cells, RVs]; exact ⟨_, [], rfl, h0, rfl⟩
  | fn f a c => have h0 := h; simp only [RV] at h; obtain ⟨xs, ys, rfl, _⟩ := h; simp only [AV.cells, Value.cells, RVs]; exact ⟨_, [], rfl, h0, rfl⟩
  | ifc t y => have h0 := h; simp only [RV] at h; obtain ⟨z, rfl, _⟩ := h; simp only [AV.cells, Value.cells, RVs]; exact ⟨_, [], rfl, h0, rfl⟩
  | tup vs => have h0 := h; simp only [RV] at h; obtain ⟨xs, rfl, _⟩ := h; simp only [AV.cells, Value.cells, RVs]; exact ⟨_, [], rfl, h0, rfl⟩
  | _ => have h0 := h; simp only [RV] at h; subst h; simp only [AV.cells, Value.cells, RVs]; exact ⟨_, [], rfl, h0, rfl⟩

theorem RV.one {φ : Phi} {x : AV} {v : Value} (h : RV φ x v) (k : x.one = true) : v.oneCell' = true := by
  cases x <;> simp [AV.one] at k <;> simp only [RV] at h <;> (try (obtain ⟨_, rfl, _⟩ := h; rfl)) <;> (try (subst h; rfl)) <;>
    (try (obtain ⟨_, _, rfl⟩ := h; rfl)) <;> (try (obtain ⟨_, _, rfl, _⟩ := h; rfl)) <;> (try (obtain ⟨_, _, _, _, rfl, _⟩ := h; rfl))

/-! ### What a heap of the evaluator stands for -/
def OR (φ : Phi) (B : Nat) (w : World) : AObj → Loc → Prop
  | .cells cs ty ro sh _, l => ∃ (xs : Array Value) (lo hi : Nat), w.heap[l.c]? = some (.cells xs ty (lo, hi)) ∧ l.s + l.n ≤ xs.size ∧ cs.length ≤ l.n ∧
      (∀ (i : Nat) (c : AV), cs[i]? = some c → ∃ v, xs[l.s + i]? = some v ∧ RV φ c v) ∧
      (ro = false → B ≤ l.c ∧ ∀ i, i < cs.length → ¬ (lo ≤ l.s + i ∧ l.s + i < hi)) ∧
      (sh = false → B ≤ l.c ∧ ∀ i, cs.length ≤ i → i < l.n → ¬ (lo ≤ l.s + i ∧ l.s + i < hi))
  | .map es, l => B ≤ l.c ∧ ∃ (xs : Array MapEntry) (clock : Nat), w.heap[l.c]? = some (.map xs clock) ∧
      RVs φ (es.map (·.1)) (xs.toList.map (·.key)) ∧ RVs φ (es.map (·.2)) (xs.toList.map (·.val))
  | .dead, _ => True

def AObj.isCells : AObj → Bool
  | .cells .. => true
  | _ => false
def AObj.kin : AObj → List Nat
  | .cells _ _ _ _ kin => kin
  | _ => []
def AObj.known : AObj → Nat
  | .cells cs .. => cs.length
  | _ => 0
/-- What may still be written behind what is known. -/
def AObj.open_ : AObj → Bool
  | .cells _ _ _ sh _ => !sh
  | _ => false
/-- Nobody writes there any more. -/
def AObj.still : AObj → Bool
  | .cells _ _ ro sh _ => ro && sh
  | .dead => true
  | .map _ => false

/-- Two blocks that stand in one block of the world: what one may grow into is not the other's; what both know is written by neither, or one came of the other. -/
def Apart (b b' : Nat) (o o' : AObj) (l l' : Loc) : Prop :=
  o.isCells = true ∧ o'.isCells = true ∧
  (o.open_ = true → ∀ x, l.s + o.known ≤ x → x < l.s + l.n → ¬ (l'.s ≤ x ∧ x < l'.s + o'.known)) ∧
  (o.open_ = true → o'.open_ = true → ∀ x, l.s + o.known ≤ x → x < l.s + l.n → ¬ (l'.s + o'.known ≤ x ∧ x < l'.s + l'.n)) ∧
  ((∃ x, l.s ≤ x ∧ x < l.s + o.known ∧ l'.s ≤ x ∧ x < l'.s + o'.known) → (o.still = true ∧ o'.still = true) ∨ b ∈ o'.kin ∨ b' ∈ o.kin)

structure Rel (W : World) (φ : Phi) (h : AHeap) (w : World) : Prop where
  below : Below W.heap.size W w
  dom : ∀ b l, φ b = some l → b < h.n
  wf : ∀ b, h.n ≤ b → h.get b = none
  obj : ∀ b l o, φ b = some l → h.get b = some o → OR φ W.heap.size w o l
  kin : ∀ b o k, h.get b = some o → k ∈ o.kin → k < h.n ∧ ∀ o', h.get k = some o' → o'.still = true
  apart : ∀ b b' l l' o o', b ≠ b' → φ b = some l → φ b' = some l' → h.get b = some o → h.get b' = some o' → o ≠ .dead → o' ≠ .dead → l.c = l'.c →
    Apart b b' o o' l l'

end Go.Proofs.YtjldbkicpbchkaaGreat.Ev
