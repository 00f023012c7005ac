/-
  That the evaluator is right: a statement whose order is drawn, step by step.
-/
import Derived.Test.YtjldbkicpbchkaaGreatEvAB
namespace Go.Proofs.YtjldbkicpbchkaaGreat.Ev
open Go Go.RowKit

section
variable {P : Program} {S : ASys} {call : CallF} {ops : Array Oper} {n : Nat} {ord : Nat → Nat} {C : Nat → IOper} {Ah : Nat → Nat → Prop} {L : Nat → List Nat} {E : Nat → Env} {H : Nat → AHeap}
variable {W : World} {φ₀ φ : Phi} {dfs : List Deferred} {listed : Array Bool} {K : Nat} {ea : Env} {a : Act} {w : World}

theorem done_set (A : Plan P ops n ord C Ah L) (hs : listed.size = n) {q p : Nat} (hq : q < n) (hp : p < n) : Done (listed.setIfInBounds (ord q) true) ord p ↔ (Done listed ord p ∨ p = q) := by
  unfold Done
  by_cases h : p = q
  · subst h
    have : ord p < listed.size := by rw [hs]; exact A.lt p hp
    simp [this]
  · have hne : ord q ≠ ord p := fun e => h (A.inj p q hp hq e.symm)
    rw [getD_set_ne false hne]
    simp [h]

/-- One operation has been. -/
theorem Inv.settle (A : Plan P ops n ord C Ah L) (I : Inv P W φ₀ ops n ord C E H dfs listed K φ ea a w) {q : Nat} (hq : q < n) {o : Oper} (ho : ops[ord q]? = some o)
    (hr : ∀ e ∈ o.after, Region.binds .any e = true → listed.getD e.on false = true) (hlen : (E n).length = (E 0).length) {K' : Nat} {φ' : Phi} {v : AV} {v' : Value} {w' : World} (hle : K ≤ K') (hn : K' ≤ n) (hrv : RV φ' v v') (hφ : φ.le φ')
    (hval : ∀ d, (C q).d = some d → d < (E 0).length → v = (E n).getD d .undef) (hpast : ∀ p, K ≤ p → p < K' → p = q) (hlk : (C q).k.looks = true → q < K')
    (hpend : ∀ p, p < K' → p ≠ q → ¬ Done listed ord p → (C p).on (E p) = true → Pend C E H n φ' (H K') p) (hmono : ∀ p, K ≤ p → p < K' → (H p).n ≤ (H (p + 1)).n) (hrel : Rel W φ' (H K') w')
    (hnews : ∀ b l, φ' b = some l → φ b = some l ∨ (H 0).n ≤ b) :
    Inv P W φ₀ ops n ord C E H dfs (listed.setIfInBounds (ord q) true) K' φ' (put ea (C q).d v) (a.put (C q).d v') w' := by
  have hds := fun p (hp : p < n) => done_set A I.sz (q := q) (p := p) hq hp
  refine { le := hn, sz := by simp [I.sz], closed := fun x ox hx hox hD e he hb => ?_, env := (I.env.mono hφ).put hrv _, len := by rw [put_length]; exact I.len, set := fun x t hx hD hd => ?_, unset := fun t ht => ?_, past := fun p hp hh => ?_,
           ahead := fun p hp hpn hl hD => ?_, pend := fun p hp hD hon => ?_, mono := fun p hp => ?_, rel := hrel, ge := Phi.le_trans I.ge hφ, news := fun b l hb => ?_, dfs := by rw [put_defers]; exact I.dfs }
  · refine getD_set_true ?_
    rcases (hds x hx).1 hD with hD | rfl
    · exact I.closed x ox hx hox hD e he hb
    · rw [ho] at hox; cases hox; exact hr e he hb
  · by_cases hdq : (C q).d = some t
    · rw [hdq, put_getD_eq, I.len]
      split
      · rename_i hlt; exact hval t hdq hlt
      · rename_i hlt
        have : (E n).length ≤ t := by omega
        simp [List.getD, this]
    · rw [put_getD_ne _ _ hdq]
      rcases (hds x hx).1 hD with hD | rfl
      · exact I.set x t hx hD hd
      · exact absurd hd hdq
  · have hdq : (C q).d ≠ some t := ht q hq ((hds q hq).2 (.inr rfl))
    rw [put_getD_ne _ _ hdq]
    exact I.unset t fun x hx hD => ht x hx ((hds x hx).2 (.inl hD))
  · refine (hds p (by omega)).2 ?_
    by_cases hpk : p < K
    · exact .inl (I.past p hpk hh)
    · exact .inr (hpast p (by omega) hp)
  · rcases (hds p hpn).1 hD with hD | rfl
    · exact I.ahead p (by omega) hpn hl hD
    · have := hlk hl; omega
  · have hD' := fun h => hD ((hds p (by omega)).2 h)
    exact hpend p hp (fun e => hD' (.inr e)) (fun h => hD' (.inl h)) hon
  · by_cases hpk : p < K
    · exact I.mono p hpk
    · exact hmono p (by omega) hp
  · rcases hnews b l hb with hb | hb
    · exact I.news b l hb
    · exact .inr hb

theorem Pend.same {h : AHeap} {φ' : Phi} {p : Nat} (hp : Pend C E H n φ h p) (hφ : ∀ b, h.get b ≠ none → φ b = none → φ' b = none) : Pend C E H n φ' h p := by
  unfold Pend at *
  split
  · rename_i r hk; rw [hk] at hp; exact hp
  · rename_i m hk
    rw [hk] at hp
    obtain ⟨ob, mk, h1, h2, h3, h4⟩ := hp
    exact ⟨ob, mk, h1, h2, hφ _ (by rw [h2]; simp) h3, h4⟩
  · trivial

theorem post_none {h : AHeap} {w : World} {φ' : Phi} (R : Rel W φ h w) (hnew : ∀ b l, φ' b = some l → φ b = some l ∨ h.n ≤ b) : ∀ b, h.get b ≠ none → φ b = none → φ' b = none := by
  intro b hg hb
  have hlt : b < h.n := Nat.lt_of_not_le fun hle => hg (R.wf b hle)
  cases hh : φ' b with
  | none => rfl
  | some l =>
    rcases hnew b l hh with h1 | h1
    · rw [hb] at h1; cases h1
    · omega

/-- What was read stands behind a heavy one. -/
theorem Pend.again (A : Plan P ops n ord C Ah L) (T : Trace S call n C L E H) {k p : Nat} (hk : k < n) (hpk : p < k) {φ' : Phi} {h : AHeap} (hL : p ∈ L k) (hp : Pend C E H n φ h p) (hon : (C p).on (E p) = true) (hlk : (C p).k.looks = true) (hnh : (C p).k.heavy = false)
    (hφ : φ (H p).n = none → h.get (H p).n ≠ none → φ' (H p).n = none) : Pend C E H n φ' (H (k + 1)) p := by
  have hag := T.again k hk p hL
  have hagree : ∀ t ∈ (C p).uses, (E (k + 1)).getD t .undef = (E p).getD t .undef := by
    intro t ht
    refine T.keep (k + 1) (by omega) (by omega) fun x hx1 hx2 hd => ?_
    by_cases hxp : x = p
    · subst hxp
      exact absurd ht (A.noself x (by omega) t hd (by rw [hnh]) hlk)
    · rcases (A.war p x t (by omega) (by omega) hd ht).2 with h1 | h1
      · rw [hnh] at h1; cases h1
      · rw [hlk] at h1; cases h1
  unfold Ev.again at hag
  rw [IOper.on_congr hagree, hon] at hag
  simp only [cond_true] at hag
  unfold Pend at *
  split
  · rename_i r hkr
    rw [hkr] at hag hp
    cases hd : (C p).d with
    | none => rw [hd] at hag; simp at hag
    | some d =>
      rw [hd] at hag
      simp only at hag
      split at hag
      · rename_i u hu
        have hu' := AV.beq_eq _ _ hag
        have hro := ROp.run_congr (h := H (k + 1)) (o := r) (by have := opds_agree hagree; rw [hkr] at this; exact this)
        rw [hro] at hu
        refine ⟨u, hu, fun d' hd' hlt => ?_⟩
        cases hd'
        rw [hu']
        exact T.final A (by omega) hd (by omega) hk
      · simp at hag
  · rename_i m hkm
    rw [hkm] at hag hp
    obtain ⟨ob, mk, h1, h2, h3, h4⟩ := hp
    cases hd : (C p).d with
    | none => rw [hd] at hag; simp at hag
    | some d =>
      rw [hd] at hag
      simp only at hag
      have hro := NOp.run_congr (o := m) (by have := opds_agree hagree; rw [hkm] at this; exact this)
      rw [hro, h1] at hag
      refine ⟨ob, mk, h1, ?_, hφ h3 (by rw [h2]; simp), fun d' hd' => h4 d' (by rw [hd]; exact hd')⟩
      split at hag
      · rename_i cs ty ro sh kin mk' b hm hb
        simp at hm
        obtain ⟨rfl, rfl⟩ := hm
        split at hag
        · rename_i cs' ty' ro' sh' kin' hg
          simp only [Bool.and_eq_true, beq_iff_eq] at hag
          obtain ⟨⟨⟨⟨e1, e2⟩, e3⟩, e4⟩, e5⟩ := hag
          have e1' := AV.beqs_eq _ _ e1
          have e2' := Nat.eq_of_beq_eq_true e2
          subst e1' e2' e3 e4 e5
          have hdl : d < (E 0).length := by
            refine Nat.lt_of_not_le fun hle => ?_
            have : (E (k + 1)).length ≤ d := by rw [T.length (k + 1) hk]; exact hle
            simp [List.getD, this, AV.undef, AV.block?] at hb
          have hv := h4 d hd hdl
          rw [T.final A (by omega) hd (show p < k + 1 by omega) hk, ← hv, (NOp.kin_nil h1).2] at hb
          cases hb
          exact hg
        · simp at hag
      · simp at hag
  · trivial
end

end Go.Proofs.YtjldbkicpbchkaaGreat.Ev
