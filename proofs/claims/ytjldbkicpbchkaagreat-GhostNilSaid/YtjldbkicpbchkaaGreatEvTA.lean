/-
  Tables: what holds of every entry holds of what is looked up.
-/
import Derived.Test.YtjldbkicpbchkaaGreatEvFE
import Derived.Test.YtjldbkicpbchkaaGreatEvAF
namespace Go.Proofs.YtjldbkicpbchkaaGreat.Ev
open Go

def CT.All (p : Nat → IFn → Prop) : CT → (Nat → Nat) → Prop
  | .lf, _ => True
  | .nd v l r, ix => (match v with | some x => p (ix 0) x | none => True) ∧ CT.All p l (fun j => ix (2 * j + 1)) ∧ CT.All p r (fun j => ix (2 * j + 2))

theorem CT.All.get {p : Nat → IFn → Prop} : ∀ {t : CT} {ix : Nat → Nat}, t.All p ix → ∀ {f : Nat} {x : IFn}, t.get f = some x → p (ix f) x
  | .lf, _, _, f, x, h => by simp [CT.get] at h
  | .nd v l r, ix, ⟨h0, h1, h2⟩, 0, x, h => by
    simp only [CT.get] at h
    subst h
    exact h0
  | .nd v l r, ix, ⟨h0, h1, h2⟩, i + 1, x, h => by
    simp only [CT.get] at h
    cases hb : Nat.beq (i % 2) 0 with
    | true =>
      rw [hb] at h
      have hm := Nat.eq_of_beq_eq_true hb
      have := CT.All.get h1 h
      have e : 2 * (i / 2) + 1 = i + 1 := by omega
      rwa [e] at this
    | false =>
      rw [hb] at h
      have hm : i % 2 ≠ 0 := fun e => by rw [e] at hb; cases hb
      have := CT.All.get h2 h
      have e : 2 * (i / 2) + 2 = i + 1 := by omega
      rwa [e] at this

def FT.All (p : Nat → (CallF → List AV → AHeap → R) → Prop) : FT → (Nat → Nat) → Prop
  | .lf, _ => True
  | .nd v l r, ix => (match v with | some x => p (ix 0) x | none => True) ∧ FT.All p l (fun j => ix (2 * j + 1)) ∧ FT.All p r (fun j => ix (2 * j + 2))

theorem FT.All.get {p : Nat → (CallF → List AV → AHeap → R) → Prop} : ∀ {t : FT} {ix : Nat → Nat}, t.All p ix → ∀ {f : Nat} {x : CallF → List AV → AHeap → R}, t.get f = some x → p (ix f) x
  | .lf, _, _, f, x, h => by cases h
  | .nd v l r, ix, ⟨h0, h1, h2⟩, 0, x, h => by
    have h' : v = some x := h
    subst h'
    exact h0
  | .nd v l r, ix, ⟨h0, h1, h2⟩, i + 1, x, h => by
    have h' : cond (Nat.beq (i % 2) 0) (l.get (i / 2)) (r.get (i / 2)) = some x := h
    cases hb : Nat.beq (i % 2) 0 with
    | true =>
      rw [hb] at h'
      have hm := Nat.eq_of_beq_eq_true hb
      have := FT.All.get h1 h'
      have e : 2 * (i / 2) + 1 = i + 1 := by omega
      rwa [e] at this
    | false =>
      rw [hb] at h'
      have hm : i % 2 ≠ 0 := fun e => by rw [e] at hb; cases hb
      have := FT.All.get h2 h'
      have e : 2 * (i / 2) + 2 = i + 1 := by omega
      rwa [e] at this

/-- Of a table of fast forms that lies beside the table of forms. -/
theorem FT.ok_of {S : ASys} {t : FT} (h : t.All (fun f F => ∃ fuel vars fn, S.code f = some fn ∧ F = fcomp S fuel vars fn) id) : t.Ok S := fun _ _ hf _ => h.get hf

end Go.Proofs.YtjldbkicpbchkaaGreat.Ev
