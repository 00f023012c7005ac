/-
  That the evaluator is right: operands, and operations that look at no memory.
-/
import Derived.Test.YtjldbkicpbchkaaGreatEvC
import Derived.Laws.Entries
import Derived.Lib.Small
namespace Go.Proofs.YtjldbkicpbchkaaGreat.Ev
open Go Go.RowKit

theorem allSome_get {α β : Type} {f : α → Option β} : ∀ {l : List α} {l' : List β}, allSome f l = some l' →
    l'.length = l.length ∧ ∀ (i : Nat) (y : β), l'[i]? = some y → ∃ x, l[i]? = some x ∧ f x = some y := by
  intro l
  induction l with
  | nil => intro l' h; simp [allSome] at h; subst h; simp
  | cons x xs ih =>
    intro l' h
    simp only [allSome] at h
    cases hx : f x with
    | none => simp [hx] at h
    | some y =>
      cases hs : allSome f xs with
      | none => simp [hx, hs] at h
      | some ys =>
        simp [hx, hs] at h
        subst h
        obtain ⟨h1, h2⟩ := ih hs
        refine ⟨by simp [h1], fun i z hz => ?_⟩
        cases i with
        | zero => simp at hz; subst hz; exact ⟨x, by simp, hx⟩
        | succ i => simp at hz; obtain ⟨u, hu, hf⟩ := h2 i z hz; exact ⟨u, by simpa using hu, hf⟩

theorem allSome_RVs {α : Type} {φ : Phi} {f : α → Option AV} {g : α → Value} : ∀ {l : List α} {l' : List AV}, allSome f l = some l' →
    (∀ x y, x ∈ l → f x = some y → RV φ y (g x)) → RVs φ l' (l.map g) := by
  intro l
  induction l with
  | nil => intro l' h _; simp [allSome] at h; subst h; simp [RVs]
  | cons x xs ih =>
    intro l' h hr
    simp only [allSome] at h
    cases hx : f x with
    | none => simp [hx] at h
    | some y =>
      cases hs : allSome f xs with
      | none => simp [hx, hs] at h
      | some ys =>
        simp [hx, hs] at h
        subst h
        simp only [List.map_cons, RVs]
        exact ⟨_, _, rfl, hr x y (by simp) hx, ih hs fun x y hm => hr x y (by simp [hm])⟩

theorem cVal_RV (φ : Phi) : ∀ (n : Nat) (v : Value) (x : AV), cVal n v = some x → RV φ x v := by
  intro n
  induction n with
  | zero => intro v x h; simp [cVal] at h
  | succ n ih =>
    intro v x h
    have hl : ∀ {cs : Array Value} {l : List AV}, allSome (cVal n) cs.toList = some l → RVs φ l cs.toList := fun {cs l} hs => by
      have := allSome_RVs (φ := φ) (g := fun v => v) hs fun x y _ hf => ih x y hf
      simpa using this
    cases v with
    | bool b => simp [cVal] at h; subst h; simp [RV]
    | int k i => simp [cVal] at h; subst h; simp [RV]
    | float k b => simp [cVal] at h
    | complex k a b => simp [cVal] at h
    | string s => simp [cVal] at h; subst h; simp [RV]
    | pointer a => cases a with
      | none => simp [cVal] at h; subst h; simp [RV]
      | some a => simp [cVal] at h
    | slice a l c =>
      unfold cVal at h
      split at h <;> simp_all
      subst h
      simp [RV]
    | map r => cases r with
      | none => simp [cVal] at h; subst h; simp [RV]
      | some a => simp [cVal] at h
    | chan r => simp [cVal] at h
    | func f a c =>
      simp only [cVal] at h
      cases ha : allSome (cVal n) a.toList with
      | none => simp [ha] at h
      | some la =>
        cases hc : allSome (cVal n) c.toList with
        | none => simp [ha, hc] at h
        | some lc => simp [ha, hc] at h; subst h; simp only [RV]; exact ⟨a, c, rfl, hl ha, hl hc⟩
    | nilFunc => simp [cVal] at h; subst h; simp [RV]
    | iface t y =>
      simp only [cVal] at h
      cases hy : cVal n y with
      | none => simp [hy] at h
      | some z => simp [hy] at h; subst h; simp only [RV]; exact ⟨y, rfl, ih _ _ hy⟩
    | nilIface => simp [cVal] at h; subst h; simp [RV]
    | agg cs =>
      simp only [cVal] at h
      cases ha : allSome (cVal n) cs.toList with
      | none => simp [ha] at h
      | some la => simp [ha] at h; subst h; simp only [RV]; exact ⟨cs, rfl, hl ha⟩
    | tuple cs =>
      simp only [cVal] at h
      cases ha : allSome (cVal n) cs.toList with
      | none => simp [ha] at h
      | some la => simp [ha] at h; subst h; simp only [RV]; exact ⟨cs, rfl, hl ha⟩

theorem RV_undef (φ : Phi) : RV φ .undef undef := by simp only [AV.undef, RV]; exact ⟨#[], rfl, by simp [RVs]⟩

/-- The evaluator's temporaries stand for the frame's. -/
def EnvR (φ : Phi) (e : Env) (a : Act) : Prop := e.length = a.tmps.size ∧ ∀ i, RV φ (e.getD i .undef) (a.tmps.getD i undef)

theorem EnvR.mono {φ ψ : Phi} {e : Env} {a : Act} (h : φ.le ψ) (k : EnvR φ e a) : EnvR ψ e a := ⟨k.1, fun i => (k.2 i).mono h⟩

theorem EnvR.put {φ : Phi} {e : Env} {a : Act} {v : AV} {v' : Value} (k : EnvR φ e a) (h : RV φ v v') (d : Option Nat) : EnvR φ (put e d v) (a.put d v') := by
  cases d with
  | none => exact k
  | some d =>
    refine ⟨by simp [Ev.put, Act.put, k.1], fun i => ?_⟩
    simp only [Ev.put, Act.put]
    by_cases hi : d = i
    · subst hi
      by_cases hl : d < e.length
      · have hl' : d < a.tmps.size := k.1 ▸ hl
        simpa [List.getD, hl, hl'] using h
      · have hl' : ¬ d < a.tmps.size := k.1 ▸ hl
        simp [List.getD, hl, hl']
        exact RV_undef φ
    · have := k.2 i
      simpa [List.getD, Array.getElem?_setIfInBounds_ne hi, List.getElem?_set_ne hi] using this

theorem cOpd_RV {φ : Phi} {e : Env} {a : Act} (k : EnvR φ e a) {x : Operand} {y : Opd} (h : cOpd x = some y) : RV φ (y.ev e) (a.eval x) := by
  cases x with
  | tmp t => simp [cOpd] at h; subst h; exact k.2 t
  | const v =>
    simp only [cOpd] at h
    cases hv : cVal 6 v with
    | none => simp [hv] at h
    | some z => simp [hv] at h; subst h; exact cVal_RV φ 6 v z hv
  | global g => simp [cOpd] at h
  | func f => simp [cOpd] at h; subst h; simp only [Opd.ev, Act.eval, RV]; exact ⟨#[], #[], rfl, by simp [RVs], by simp [RVs]⟩

theorem cOpds_RVs {φ : Phi} {e : Env} {a : Act} (k : EnvR φ e a) {xs : Array Operand} {ys : List Opd} (h : allSome cOpd xs.toList = some ys) :
    RVs φ (ys.map (·.ev e)) ((xs.map a.eval).toList) := by
  rw [Array.toList_map]
  generalize xs.toList = l at h
  induction l generalizing ys with
  | nil => simp [allSome] at h; subst h; simp [RVs]
  | cons x xs ih =>
    simp only [allSome] at h
    cases hx : cOpd x with
    | none => simp [hx] at h
    | some y =>
      cases hs : allSome cOpd xs with
      | none => simp [hx, hs] at h
      | some zs => simp [hx, hs] at h; subst h; simp only [List.map_cons, RVs]; exact ⟨_, _, rfl, cOpd_RV k hx, ih hs⟩

/-! ### Inversions: what a value of the evaluator of a known form stands for -/
theorem RV.bool {φ : Phi} {b : Bool} {v : Value} (h : RV φ (.bool b) v) : v = .bool b := by simpa only [RV] using h
theorem RV.int {φ : Phi} {k : IntKind} {n : Int} {v : Value} (h : RV φ (.int k n) v) : v = .int k n := by simpa only [RV] using h
theorem RV.str {φ : Phi} {s : List UInt8} {v : Value} (h : RV φ (.str s) v) : ∃ ba : ByteArray, v = .string ba ∧ ba.data.toList = s := by simpa only [RV] using h
theorem RV.mk_str (φ : Phi) (ba : ByteArray) : RV φ (.str ba.data.toList) (.string ba) := by simp only [RV]; exact ⟨ba, rfl, rfl⟩
theorem RV.mk_bool (φ : Phi) (b : Bool) : RV φ (.bool b) (.bool b) := by simp only [RV]
theorem RV.mk_int (φ : Phi) (k : IntKind) (n : Int) : RV φ (.int k n) (.int k n) := by simp only [RV]

theorem nat?_RV {φ : Phi} {x : AV} {v : Value} {n : Nat} (h : RV φ x v) (k : nat? x = some n) : ∃ kd, v = .int kd (n : Int) := by
  unfold nat? at k
  split at k
  · simp at k; subst k; exact ⟨_, h.int⟩
  · simp at k

end Go.Proofs.YtjldbkicpbchkaaGreat.Ev
