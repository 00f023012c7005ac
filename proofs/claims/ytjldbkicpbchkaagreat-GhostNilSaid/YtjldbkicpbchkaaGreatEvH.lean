/-
  That the evaluator is right: literals, slices, bounds, the other operations that look at no memory.
-/
import Derived.Test.YtjldbkicpbchkaaGreatEvG
namespace Go.Proofs.YtjldbkicpbchkaaGreat.Ev
open Go Go.RowKit

/-! ### The parts of a literal -/
theorem RVs.set {φ : Phi} : ∀ {xs : List AV} {vs : List Value} (i : Nat) {x : AV} {v : Value}, RVs φ xs vs → RV φ x v → RVs φ (xs.set i x) (vs.set i v)
  | [], vs, i, x, v, h, _ => by simp only [RVs] at h; subst h; simp [RVs]
  | y :: ys, vs, i, x, v, h, hx => by
    obtain ⟨u, us, rfl, h1, h2⟩ := h.cons
    cases i with
    | zero => simp only [List.set_cons_zero, RVs]; exact ⟨_, _, rfl, hx, h2⟩
    | succ i => simp only [List.set_cons_succ, RVs]; exact ⟨_, _, rfl, h1, RVs.set i h2 hx⟩

theorem setAll_RVs {φ : Phi} : ∀ {vs : List AV} {us : List Value} {cs : List AV} {arr : Array Value} (off k : Nat), RVs φ vs us → RVs φ cs arr.toList →
    RVs φ (setAll cs (off + k) vs) (((us.zipIdx k).foldl (fun (cs : Array Value) (p : Value × Nat) => cs.setIfInBounds (off + p.2) p.1) arr).toList)
  | [], us, cs, arr, off, k, h, hc => by simp only [RVs] at h; subst h; simpa [setAll] using hc
  | v :: vs, us, cs, arr, off, k, h, hc => by
    obtain ⟨u, us', rfl, h1, h2⟩ := h.cons
    simp only [setAll, List.zipIdx_cons, List.foldl_cons]
    have := setAll_RVs (vs := vs) (us := us') (cs := cs.set (off + k) v) (arr := arr.setIfInBounds (off + k) u) off (k + 1) h2 (by
      rw [Array.toList_setIfInBounds]; exact hc.set (off + k) h1)
    simpa [Nat.add_assoc] using this

theorem fill_ok {φ : Phi} {e : Env} {a : Act} (ke : EnvR φ e a) {place place' : Nat → Option (Nat × Nat)} :
    ∀ {ps : List (Nat × Operand)} {qs : List (Nat × Nat × Opd)}, cParts place ps = some qs → (∀ i r, place i = some r → place' i = some r) →
    ∀ {cs : List AV} {arr : Array Value}, RVs φ cs arr.toList → ∀ {cs' : List AV}, fillEv e cs qs = some cs' →
      ∃ arr' : Array Value, Instr.fill place' arr (ps.map fun p => (p.1, a.eval p.2)) = some arr' ∧ RVs φ cs' arr'.toList := by
  intro ps
  induction ps with
  | nil =>
    intro qs hq _ cs arr hc cs' hf
    simp [cParts, allSome] at hq
    subst hq
    simp [fillEv] at hf
    subst hf
    exact ⟨arr, by simp [Instr.fill], hc⟩
  | cons p ps ih =>
    intro qs hq hpl cs arr hc cs' hf
    obtain ⟨i, x⟩ := p
    simp only [cParts, allSome] at hq
    cases hp : place i with
    | none => simp [hp] at hq
    | some r =>
      obtain ⟨off, size⟩ := r
      cases hx : cOpd x with
      | none => simp [hp, hx] at hq
      | some y =>
        simp only [hp, hx] at hq
        split at hq
        · rename_i z zs h1 h2
          simp at h1 hq
          subst h1; subst hq
          simp only [fillEv] at hf
          have hv := (cOpd_RV ke hx).cells
          cases hb : (Nat.beq (y.ev e).cells.length size && Nat.ble (off + (y.ev e).cells.length) cs.length) with
          | false => simp [hb] at hf
          | true =>
            simp only [hb, cond_true] at hf
            simp only [Bool.and_eq_true] at hb
            have e1 := Nat.eq_of_beq_eq_true hb.1
            have e2 := Nat.le_of_ble_eq_true hb.2
            have l1 := hv.length
            have l2 := hc.length
            obtain ⟨arr', h3, h4⟩ := ih (qs := zs) h2 hpl (setAll_RVs off 0 hv hc) hf
            refine ⟨arr', ?_, h4⟩
            simp only [List.map_cons, Instr.fill, hpl i _ hp]
            rw [if_neg]
            · rw [← h3]
              congr 1
              rw [← Array.toList_zipIdx, Array.foldl_toList]
            · simp at l1 l2 ⊢; omega
        · simp at hq


/-! ### Bounds of slice expressions -/
theorem run_sliceBound {P : Program} {φ : Phi} {e : Env} {a : Act} (ke : EnvR φ e a) {x : Operand} {y : Opd} (hx : cOpd x = some y) {n top : Nat} (hn : nat? (y.ev e) = some n) (hle : n ≤ top)
    (code : BoundsCode) (w : World) : (Instr.sliceBound (a.eval x) top code).run P w = .ok n w := by
  obtain ⟨k, hk⟩ := nat?_RV (cOpd_RV ke hx) hn
  rw [hk]
  simp [Instr.sliceBound, asIntOf, hle]

theorem cOpt_some {x : Option Operand} {y : Option Opd} (h : cOpt x = some y) : (x = none ∧ y = none) ∨ ∃ u v, x = some u ∧ y = some v ∧ cOpd u = some v := by
  unfold cOpt at h
  cases x with
  | none => simp at h; exact .inl ⟨rfl, h.symm⟩
  | some u =>
    simp only at h
    cases hu : cOpd u with
    | none => simp [hu] at h
    | some v => simp [hu] at h; exact .inr ⟨u, v, rfl, h.symm, hu⟩

theorem run_bounds {P : Program} {φ : Phi} {e : Env} {a : Act} (ke : EnvR φ e a) {lo hi mx : Option Operand} {lo' hi' mx' : Option Opd}
    (h1 : cOpt lo = some lo') (h2 : cOpt hi = some hi') (h3 : cOpt mx = some mx') {len cap : Nat} {l h m : Nat} (hb : bounds e len cap lo' hi' mx' = some (l, h, m)) (cap' : Nat) (hc : cap ≤ cap')
    (hlen : len ≤ cap) (isS : Bool) (w : World) :
    ∃ m', (Instr.sliceBounds isS len cap' (lo.map a.eval) (hi.map a.eval) (mx.map a.eval)).run P w = .ok (l, h, m') w ∧
      (mx = none → m' = cap' ∧ m = cap) ∧ (mx ≠ none → m' = m) ∧ l ≤ h ∧ h ≤ m ∧ m ≤ cap ∧ m ≤ m' ∧ m' ≤ cap' ∧ mx'.isSome = mx.isSome := by
  unfold bounds at hb
  split at hb
  · simp at hb
  · rename_i m0 hm0
    split at hb
    · simp at hb
    · rename_i h0 hh0
      split at hb
      · simp at hb
      · rename_i l0 hl0
        simp at hb
        obtain ⟨rfl, rfl, rfl⟩ := hb
        -- max
        have M : ∃ m', (match mx.map a.eval with | some v => Instr.sliceBound v cap' (if isS then .slice3Acap else .slice3Alen) | none => pure cap' : Sem Nat).run P w = .ok m' w ∧
            (mx = none → m' = cap' ∧ m0 = cap) ∧ (mx ≠ none → m' = m0) ∧ m0 ≤ cap ∧ m0 ≤ m' ∧ m' ≤ cap' ∧ mx'.isSome = mx.isSome := by
          rcases cOpt_some h3 with ⟨rfl, rfl⟩ | ⟨u, v, rfl, rfl, huv⟩
          · simp at hm0
            subst hm0
            exact ⟨cap', by simp, by simp, by simp, Nat.le_refl _, hc, Nat.le_refl _, rfl⟩
          · simp only at hm0
            cases hn : nat? (v.ev e) with
            | none => simp [hn] at hm0
            | some n =>
              cases hq : Nat.ble n cap with
              | false => simp [hn, hq] at hm0
              | true =>
                simp [hn, hq] at hm0
                subst hm0
                have := Nat.le_of_ble_eq_true hq
                exact ⟨n, by simpa using run_sliceBound ke huv hn (by omega) _ w, by simp, by simp, this, Nat.le_refl _, by omega, rfl⟩
        obtain ⟨m', hM, hmn, hms, hmc, hmm, hmc', hsome⟩ := M
        have H : (match hi.map a.eval, mx.map a.eval with
            | some v, some _ => Instr.sliceBound v m' .slice3B
            | some v, none => Instr.sliceBound v m' (if isS then .sliceAcap else .sliceAlen)
            | none, none => pure len
            | none, some _ => stuck "Slice: max without high" : Sem Nat).run P w = .ok h0 w ∧ h0 ≤ m0 := by
          rcases cOpt_some h2 with ⟨rfl, rfl⟩ | ⟨u, v, rfl, rfl, huv⟩
          · cases mx with
            | none =>
              simp at h3 hh0 ⊢
              rcases cOpt_some h3 with ⟨_, rfl⟩ | ⟨u, v, hh, _⟩
              · simp at hh0; subst hh0; exact ⟨rfl, by have := (hmn rfl).2; omega⟩
              · simp at hh
            | some z =>
              rcases cOpt_some h3 with ⟨hz, _⟩ | ⟨u, v, hh, hy, _⟩
              · simp at hz
              · subst hy; simp at hh0
          · simp only at hh0
            cases hn : nat? (v.ev e) with
            | none => simp [hn] at hh0
            | some n =>
              cases hq : Nat.ble n m0 with
              | false => simp [hn, hq] at hh0
              | true =>
                simp [hn, hq] at hh0
                subst hh0
                have := Nat.le_of_ble_eq_true hq
                cases mx with
                | none => exact ⟨by simpa using run_sliceBound ke huv hn (by omega) _ w, this⟩
                | some z => exact ⟨by simpa using run_sliceBound ke huv hn (by omega) _ w, this⟩
        obtain ⟨hH, hhm⟩ := H
        have L : (match lo.map a.eval with
            | some v => Instr.sliceBound v h0 (if (mx.map a.eval).isSome then .slice3C else .sliceB)
            | none => pure 0 : Sem Nat).run P w = .ok l0 w ∧ l0 ≤ h0 := by
          rcases cOpt_some h1 with ⟨rfl, rfl⟩ | ⟨u, v, rfl, rfl, huv⟩
          · simp at hl0; subst hl0; exact ⟨by simp, Nat.zero_le _⟩
          · simp only at hl0
            cases hn : nat? (v.ev e) with
            | none => simp [hn] at hl0
            | some n =>
              cases hq : Nat.ble n h0 with
              | false => simp [hn, hq] at hl0
              | true =>
                simp [hn, hq] at hl0
                subst hl0
                have := Nat.le_of_ble_eq_true hq
                exact ⟨by simpa using run_sliceBound ke huv hn (by omega) _ w, this⟩
        obtain ⟨hL, hlh⟩ := L
        refine ⟨m', ?_, hmn, hms, hlh, hhm, hmc, hmm, hmc', hsome⟩
        unfold Instr.sliceBounds
        clear hm0 hh0 hl0 hmn hms h1 h2 h3 hsome
        cases mx <;> cases hi <;> cases lo <;> simp only [Option.map_none, Option.map_some] at hM hH hL ⊢ <;>
          first
            | (simp only [run_stuck] at hH; cases hH; done)
            | (simp only [Sem.run_bind, hM, hH, hL, Result.andThen_ok, Sem.run_pure]
               try simp only [Sem.run_pure, Result.ok.injEq, and_true] at hM
               try simp only [Sem.run_pure, Result.ok.injEq, and_true] at hH
               try simp only [Sem.run_pure, Result.ok.injEq, and_true] at hL
               try subst hM
               try simp_all)

theorem mmEv_ok {P : Program} {φ : Phi} {mx : Bool} : ∀ {xs : List AV} {vs : List Value} {x v : AV} {x' : Value}, RV φ x x' → RVs φ xs vs → mmEv mx x xs = some v →
    ∃ v', (∀ w, (vs.foldlM (if mx then Builtin.max2 else Builtin.min2) x').run P w = .ok v' w) ∧ RV φ v v' := by
  intro xs
  induction xs with
  | nil =>
    intro vs x v x' hx hs h
    simp only [RVs] at hs
    subst hs
    simp [mmEv] at h
    subst h
    exact ⟨x', fun w => by simp, hx⟩
  | cons y ys ih =>
    intro vs x v x' hx hs h
    obtain ⟨u, us, rfl, hy, hs2⟩ := hs.cons
    unfold mmEv at h
    split at h
    · simp at *
    · rename_i k a j b r h1
      simp at h1
      obtain ⟨rfl, rfl⟩ := h1
      rw [hx.int, hy.int]
      obtain ⟨v', h2, h3⟩ := ih (x' := .int k (bif mx then (if b > a then b else a) else (if b < a then b else a))) (by simp only [RV]) hs2 h
      refine ⟨v', fun w => ?_, h3⟩
      simp only [List.foldlM_cons, Sem.run_bind]
      have : ((if mx then Builtin.max2 else Builtin.min2) (.int k a) (.int j b)).run P w = .ok (.int k (bif mx then (if b > a then b else a) else (if b < a then b else a))) w := by
        cases mx <;> simp [Builtin.max2, Builtin.min2]
      rw [this]
      simp only [Result.andThen_ok]
      exact h2 w
    · simp at h

end Go.Proofs.YtjldbkicpbchkaaGreat.Ev
