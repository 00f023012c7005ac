/-
  Summaries out of closed runs; and what a law's call wants.
-/
import Derived.Test.YtjldbkicpbchkaaGreatEvSU
import Derived.Test.YtjldbkicpbchkaaGreatEvWP
namespace Go.Proofs.YtjldbkicpbchkaaGreat.Ev
open Go Go.RowKit

/-! ### Values that lead to no block -/
mutual
def AV.flat : AV → Bool
  | .ptr .. | .sl .. | .map .. => false
  | .fn _ a c => AV.flats a && AV.flats c
  | .ifc _ v => v.flat
  | .agg cs => AV.flats cs
  | .tup cs => AV.flats cs
  | _ => true
def AV.flats : List AV → Bool
  | [] => true
  | x :: xs => x.flat && AV.flats xs
end

mutual
theorem RV.flat {φ ψ : Phi} : ∀ (x : AV) (v : Value), x.flat = true → RV φ x v → RV ψ x v
  | .bool _, _, _, k | .int _ _, _, _, k | .str _, _, _, k | .nilp, _, _, k | .nils, _, _, k | .nilm, _, _, k | .nilf, _, _, k | .nili, _, _, k => by simpa only [RV] using k
  | .ptr b o, v, hx, k => by simp [AV.flat] at hx
  | .map b, v, hx, k => by simp [AV.flat] at hx
  | .sl b o len cap es ex, v, hx, k => by simp [AV.flat] at hx
  | .fn f a c, v, hx, k => by
    simp only [AV.flat, Bool.and_eq_true] at hx
    simp only [RV] at k ⊢; obtain ⟨xs, ys, h1, h2, h3⟩ := k; exact ⟨xs, ys, h1, RVs.flat _ _ hx.1 h2, RVs.flat _ _ hx.2 h3⟩
  | .ifc t x, v, hx, k => by simp only [AV.flat] at hx; simp only [RV] at k ⊢; obtain ⟨y, h1, h2⟩ := k; exact ⟨y, h1, RV.flat _ _ hx h2⟩
  | .agg cs, v, hx, k => by simp only [AV.flat] at hx; simp only [RV] at k ⊢; obtain ⟨xs, h1, h2⟩ := k; exact ⟨xs, h1, RVs.flat _ _ hx h2⟩
  | .tup cs, v, hx, k => by simp only [AV.flat] at hx; simp only [RV] at k ⊢; obtain ⟨xs, h1, h2⟩ := k; exact ⟨xs, h1, RVs.flat _ _ hx h2⟩
theorem RVs.flat {φ ψ : Phi} : ∀ (x : List AV) (v : List Value), AV.flats x = true → RVs φ x v → RVs ψ x v
  | [], _, _, k => by simpa only [RVs] using k
  | x :: xs, v, hx, k => by
    simp only [AV.flats, Bool.and_eq_true] at hx
    simp only [RVs] at k ⊢; obtain ⟨y, ys, h1, h2, h3⟩ := k; exact ⟨y, ys, h1, RV.flat _ _ hx.1 h2, RVs.flat _ _ hx.2 h3⟩
end

/-! ### Blocks renumbered -/
mutual
def AV.shift (k : Nat) : AV → AV
  | .ptr b o => .ptr (b + k) o
  | .sl b o len cap es ex => .sl (b + k) o len cap es ex
  | .map b => .map (b + k)
  | .fn f a c => .fn f (AV.shifts k a) (AV.shifts k c)
  | .ifc t v => .ifc t (v.shift k)
  | .agg cs => .agg (AV.shifts k cs)
  | .tup cs => .tup (AV.shifts k cs)
  | v => v
def AV.shifts (k : Nat) : List AV → List AV
  | [] => []
  | x :: xs => x.shift k :: AV.shifts k xs
end

mutual
theorem RV.shift {φ ψ : Phi} {k : Nat} (hψ : ∀ b l, φ b = some l → ψ (b + k) = some l) : ∀ (x : AV) (v : Value), RV φ x v → RV ψ (x.shift k) v
  | .bool _, _, h | .int _ _, _, h | .str _, _, h | .nilp, _, h | .nils, _, h | .nilm, _, h | .nilf, _, h | .nili, _, h => by simpa only [RV, AV.shift] using h
  | .ptr b o, v, h => by simp only [RV, AV.shift] at h ⊢; obtain ⟨l, h1, h2⟩ := h; exact ⟨l, hψ b l h1, h2⟩
  | .map b, v, h => by simp only [RV, AV.shift] at h ⊢; obtain ⟨l, h1, h2⟩ := h; exact ⟨l, hψ b l h1, h2⟩
  | .sl b o len cap es ex, v, h => by simp only [RV, AV.shift] at h ⊢; obtain ⟨l, x, c, h1, h2⟩ := h; exact ⟨l, x, c, hψ b l h1, h2⟩
  | .fn f a c, v, h => by simp only [RV, AV.shift] at h ⊢; obtain ⟨xs, ys, h1, h2, h3⟩ := h; exact ⟨xs, ys, h1, RVs.shift hψ _ _ h2, RVs.shift hψ _ _ h3⟩
  | .ifc t x, v, h => by simp only [RV, AV.shift] at h ⊢; obtain ⟨y, h1, h2⟩ := h; exact ⟨y, h1, RV.shift hψ _ _ h2⟩
  | .agg cs, v, h => by simp only [RV, AV.shift] at h ⊢; obtain ⟨xs, h1, h2⟩ := h; exact ⟨xs, h1, RVs.shift hψ _ _ h2⟩
  | .tup cs, v, h => by simp only [RV, AV.shift] at h ⊢; obtain ⟨xs, h1, h2⟩ := h; exact ⟨xs, h1, RVs.shift hψ _ _ h2⟩
theorem RVs.shift {φ ψ : Phi} {k : Nat} (hψ : ∀ b l, φ b = some l → ψ (b + k) = some l) : ∀ (x : List AV) (v : List Value), RVs φ x v → RVs ψ (AV.shifts k x) v
  | [], _, h => by simpa only [RVs, AV.shifts] using h
  | x :: xs, v, h => by simp only [RVs, AV.shifts] at h ⊢; obtain ⟨y, ys, h1, h2, h3⟩ := h; exact ⟨y, ys, h1, RV.shift hψ _ _ h2, RVs.shift hψ _ _ h3⟩
end

section
variable {P : Program} {S : ASys} {W : World} {φ : Phi} {h : AHeap} {w : World}

theorem Rel.start (w : World) : Rel w (fun _ => none) ⟨0, .lf⟩ w :=
  ⟨Below.refl _ w, fun _ _ h => (by cases h), fun _ _ => rfl, fun _ _ _ h => (by cases h), fun _ _ _ h => (by simp [AHeap.get, HT.get] at h), fun _ _ _ _ _ _ _ h => (by cases h)⟩

/-- A closed call that gives a value without blocks: the heap stays as it was. -/
theorem closed_ok (hm : P.follows .mixedOrders = true) (hS : SysOk P S) {f : Nat} {args : List AV} {v : AV} {h1 : AHeap} (hc : Cl S f args ⟨0, .lf⟩ (v, h1)) (ha : AV.flats args = true) (hv : v.flat = true)
    {args' : List Value} (har : RVs φ args args') (R : Rel W φ h w) : Goes P ((callFunc f args'.toArray).run P w) (Post W φ h v h) := by
  obtain ⟨n, hn⟩ := hc
  refine (callN_ok hm hS n w f args _ v h1 hn (fun _ => none) w args' (RVs.flat _ _ ha har) (Rel.start w)).mono fun v' w' hp => ?_
  obtain ⟨_, φ1, _, _, h3, h4⟩ := hp
  exact Post.pure R h4.below (RV.flat _ _ hv h3)

/-- A closed call: what it makes is not known, but how many blocks. -/
theorem opaque_ok (hm : P.follows .mixedOrders = true) (hS : SysOk P S) {f : Nat} {args : List AV} {v : AV} {h1 : AHeap} (hc : Cl S f args ⟨0, .lf⟩ (v, h1)) (ha : AV.flats args = true)
    {args' : List Value} (har : RVs φ args args') (R : Rel W φ h w) : Goes P ((callFunc f args'.toArray).run P w) (Post W φ h (v.shift h.n) ⟨h.n + h1.n, h.t⟩) := by
  obtain ⟨n, hn⟩ := hc
  refine (callN_ok hm hS n w f args _ v h1 hn (fun _ => none) w args' (RVs.flat _ _ ha har) (Rel.start w)).mono fun v' w' hp => ?_
  obtain ⟨_, φ1, _, _, h3, h4⟩ := hp
  have R' := R.grow h4.below
  have hle : φ.le fun b => if b < h.n then φ b else φ1 (b - h.n) := fun b l hb => by
    have := R.dom b l hb
    simp only [this, if_true, hb]
  refine ⟨Nat.le_add_right _ _, fun b => if b < h.n then φ b else φ1 (b - h.n), hle, ?_, ?_, ?_⟩
  · intro b l hb
    by_cases hlt : b < h.n
    · simp only [hlt, if_true] at hb; exact .inl hb
    · exact .inr (by omega)
  · refine RV.shift (fun b l hb => ?_) _ _ h3
    have : ¬ (b + h.n < h.n) := by omega
    simp only [this, if_false, Nat.add_sub_cancel]
    exact hb
  · have old : ∀ b o, h.get b = some o → b < h.n := fun b o hb => by
      by_cases hlt : b < h.n
      · exact hlt
      · rw [R.wf b (by omega)] at hb; cases hb
    refine ⟨R'.below, ?_, ?_, ?_, ?_, ?_⟩
    · intro b l hb
      show b < h.n + h1.n
      by_cases hlt : b < h.n
      · omega
      · simp only [hlt, if_false] at hb
        have := h4.dom _ _ hb
        omega
    · intro b hb
      exact R.wf b (by have : h.n + h1.n ≤ b := hb; omega)
    · intro b l o hb hg
      have hlt := old b o hg
      simp only [hlt, if_true] at hb
      exact (R'.obj b l o hb hg).mono hle fun _ => rfl
    · intro b o k hg hk
      obtain ⟨k1, k2⟩ := R'.kin b o k hg hk
      exact ⟨by show k < h.n + h1.n; omega, k2⟩
    · intro b b' l l' o o' hne hb hb' hg hg'
      have hlt := old b o hg
      have hlt' := old b' o' hg'
      simp only [hlt, if_true] at hb
      simp only [hlt', if_true] at hb'
      exact R'.apart b b' l l' o o' hne hb hb' hg hg'

/-- A call of a function with a text enters it. -/
theorem enters {f : Nat} {ifn : IFn} (hf : cFn P f = some ifn) (args : Array Value) : (callFunc f args).run P w = .ok (.enter f args) w := by
  unfold cFn at hf
  split at hf
  · rename_i fn hfn
    cases hname : (fn.name == "runtime.NumGoroutine") with
    | true => rw [hname] at hf; cases hf
    | false =>
      rw [hname] at hf
      simp only [cond_false] at hf
      split at hf
      · rename_i c rs hb hrs
        simp only [callFunc, Sem.run_bind, run_program, Result.andThen_ok, hfn, hname, hb]
        simp
      · cases hf
  · cases hf

/-- What a law's walk wants. -/
theorem law_ok (hm : P.follows .mixedOrders = true) (hS : SysOk P S) {f : Nat} {ifn : IFn} (hf : cFn P f = some ifn) {args : List AV} {args' : List Value} (R : Rel W φ h W) (ha : RVs φ args args')
    (k : Ca S f args h fun v _ => v = .bool true) : Calls P f args'.toArray W fun e w' => e = .returned (.bool true) ∧ Below W.heap.size W w' := by
  obtain ⟨v, h', ⟨n, hn⟩, rfl⟩ := k
  have := callN_ok hm hS n W f args h _ h' hn φ W args' ha R
  rw [enters hf] at this
  refine Calls.mono this fun e w' he => ?_
  obtain ⟨v, rfl, hp⟩ := he
  obtain ⟨_, φ1, _, _, h3, h4⟩ := hp
  simp only [RV] at h3
  exact ⟨by rw [h3], h4.below⟩
end

end Go.Proofs.YtjldbkicpbchkaaGreat.Ev
