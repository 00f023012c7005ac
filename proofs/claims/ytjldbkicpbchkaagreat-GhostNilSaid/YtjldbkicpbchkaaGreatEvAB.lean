/-
  That the evaluator is right: a statement whose order is drawn. What is known of its order, and what holds after each step.
-/
import Derived.Test.YtjldbkicpbchkaaGreatEvAA
import Derived.Orders
namespace Go.Proofs.YtjldbkicpbchkaaGreat.Ev
open Go Go.RowKit

/-- What the checks say of the operations 'C', in the evaluator's order. -/
structure Plan (P : Program) (ops : Array Oper) (n : Nat) (ord : Nat → Nat) (C : Nat → IOper) (Ah : Nat → Nat → Prop) (L : Nat → List Nat) : Prop where
  size : n = ops.size
  lt : ∀ q, q < n → ord q < n
  onto : ∀ i, i < n → ∃ q, q < n ∧ ord q = i
  inj : ∀ p q, p < n → q < n → ord p = ord q → p = q
  oper : ∀ q, q < n → ∃ o, ops[ord q]? = some o ∧ cOper P ops o = some (C q) ∧ ∀ e ∈ o.after, Region.binds .any e = true → ∃ p, p < q ∧ ord p = e.on
  heavy : ∀ q p, q < p → p < n → (C q).k.heavy = true → (C p).k.looks = true → Ah q p
  war : ∀ q p d, q < p → p < n → (C p).d = some d → d ∈ (C q).uses → Ah q p ∧ ((C q).k.heavy = true ∨ (C q).k.looks = false)
  raw : ∀ q p d, q < p → p < n → (C q).d = some d → d ∈ (C p).uses → Ah q p
  waw : ∀ q p d, q < p → p < n → (C q).d = some d → (C p).d ≠ some d
  noself : ∀ q, q < n → ∀ d, (C q).d = some d → (C q).k.heavy = false → (C q).k.looks = true → d ∉ (C q).uses
  down : ∀ (D : Nat → Prop), (∀ q o, q < n → ops[ord q]? = some o → D q → ∀ e ∈ o.after, Region.binds .any e = true → ∀ p, p < n → ord p = e.on → D p) → ∀ q p, q < n → p < n → Ah q p → D p → D q
  late : ∀ q k, q < k → k < n → (C k).k.heavy = true → ¬ Ah q k → (C q).k.looks = true → q ∈ L k

structure Trace (S : ASys) (call : CallF) (n : Nat) (C : Nat → IOper) (L : Nat → List Nat) (E : Nat → Env) (H : Nat → AHeap) : Prop where
  step : ∀ q, q < n → (C q).step S call (E q) (H q) = some (E (q + 1), H (q + 1))
  again : ∀ k, k < n → ∀ q ∈ L k, again (C q) (E (k + 1)) (H (k + 1)) = true

theorem put_length (e : Env) (d : Option Nat) (v : AV) : (put e d v).length = e.length := by cases d <;> simp [put]

theorem put_getD_ne (e : Env) {d : Option Nat} (v : AV) {t : Nat} (h : d ≠ some t) : (put e d v).getD t .undef = e.getD t .undef := by
  cases d with
  | none => rfl
  | some d =>
    have : d ≠ t := fun e => h (by rw [e])
    simp [put, List.getD, List.getElem?_set_ne this]

theorem put_getD_eq (e : Env) (v : AV) (t : Nat) : (put e (some t) v).getD t .undef = if t < e.length then v else .undef := by
  by_cases h : t < e.length
  · simp [put, List.getD, h]
  · simp [put, List.getD, h]

theorem step_put {S : ASys} {call : CallF} {c : IOper} {e e' : Env} {h h' : AHeap} (hs : c.step S call e h = some (e', h')) :
    ∃ v, e' = put e c.d v ∧ ((c.on e = true ∧ c.k.run S call e h = some (v, h')) ∨ (c.on e = false ∧ v = .undef ∧ h' = h)) := by
  unfold IOper.step at hs
  cases ho : c.on e with
  | true =>
    rw [ho] at hs
    simp only [cond_true] at hs
    split at hs <;> simp at hs
    rename_i v h1 hv
    obtain ⟨rfl, rfl⟩ := hs
    exact ⟨v, rfl, .inl ⟨rfl, hv⟩⟩
  | false =>
    rw [ho] at hs
    simp at hs
    obtain ⟨rfl, rfl⟩ := hs
    exact ⟨_, rfl, .inr ⟨rfl, rfl, rfl⟩⟩

section
variable {P : Program} {S : ASys} {call : CallF} {ops : Array Oper} {n : Nat} {ord : Nat → Nat} {C : Nat → IOper} {Ah : Nat → Nat → Prop} {L : Nat → List Nat} {E : Nat → Env} {H : Nat → AHeap}

theorem Trace.length (T : Trace S call n C L E H) : ∀ q, q ≤ n → (E q).length = (E 0).length
  | 0, _ => rfl
  | q + 1, h => by
    obtain ⟨v, hv, _⟩ := step_put (T.step q (by omega))
    rw [hv, put_length]
    exact T.length q (by omega)

theorem Trace.keep (T : Trace S call n C L E H) {t : Nat} {k : Nat} : ∀ m, k ≤ m → m ≤ n → (∀ p, k ≤ p → p < m → (C p).d ≠ some t) → (E m).getD t .undef = (E k).getD t .undef
  | 0, h, _, _ => by rw [show k = 0 by omega]
  | m + 1, h, hm, hd => by
    by_cases hk : k = m + 1
    · rw [hk]
    · obtain ⟨v, hv, _⟩ := step_put (T.step m (by omega))
      rw [hv, put_getD_ne _ _ (hd m (by omega) (by omega))]
      exact T.keep m (by omega) (by omega) fun p h1 h2 => hd p h1 (by omega)

/-- What an operation leaves stands till the end. -/
theorem Trace.final (A : Plan P ops n ord C Ah L) (T : Trace S call n C L E H) {q t : Nat} (hq : q < n) (hd : (C q).d = some t) {m : Nat} (h1 : q < m) (h2 : m ≤ n) : (E m).getD t .undef = (E n).getD t .undef := by
  refine (T.keep n h2 (Nat.le_refl n) fun p p1 p2 => ?_).symm
  exact A.waw q p t (by omega) p2 hd

def Done (listed : Array Bool) (ord : Nat → Nat) (q : Nat) : Prop := listed.getD (ord q) false = true

/-- An operation that is still to come, ahead of which the evaluator is. -/
def Pend (C : Nat → IOper) (E : Nat → Env) (H : Nat → AHeap) (n : Nat) (φ : Phi) (h : AHeap) (q : Nat) : Prop :=
  match (C q).k with
  | .r r => ∃ v, r.run (E q) h = some v ∧ ∀ d, (C q).d = some d → d < (E 0).length → v = (E n).getD d .undef
  | .n m => ∃ ob mk, m.run (E q) = some (ob, mk) ∧ h.get (H q).n = some ob ∧ φ (H q).n = none ∧ ∀ d, (C q).d = some d → d < (E 0).length → mk (H q).n = (E n).getD d .undef
  | _ => True

structure Inv (P : Program) (W : World) (φ₀ : Phi) (ops : Array Oper) (n : Nat) (ord : Nat → Nat) (C : Nat → IOper) (E : Nat → Env) (H : Nat → AHeap) (dfs : List Deferred) (listed : Array Bool) (K : Nat) (φ : Phi) (ea : Env) (a : Act) (w : World) : Prop where
  le : K ≤ n
  sz : listed.size = n
  closed : ∀ q o, q < n → ops[ord q]? = some o → Done listed ord q → ∀ e ∈ o.after, Region.binds .any e = true → listed.getD e.on false = true
  env : EnvR φ ea a
  len : ea.length = (E 0).length
  set : ∀ q t, q < n → Done listed ord q → (C q).d = some t → ea.getD t .undef = (E n).getD t .undef
  unset : ∀ t, (∀ q, q < n → Done listed ord q → (C q).d ≠ some t) → ea.getD t .undef = (E 0).getD t .undef
  past : ∀ q, q < K → (C q).k.heavy = true → Done listed ord q
  ahead : ∀ q, K ≤ q → q < n → (C q).k.looks = true → ¬ Done listed ord q
  pend : ∀ q, q < K → ¬ Done listed ord q → (C q).on (E q) = true → Pend C E H n φ (H K) q
  mono : ∀ q, q < K → (H q).n ≤ (H (q + 1)).n
  rel : Rel W φ (H K) w
  ge : φ₀.le φ
  news : ∀ b l, φ b = some l → φ₀ b = some l ∨ (H 0).n ≤ b
  dfs : a.defers = dfs

theorem mono_n {m : Nat} (h : ∀ q, q < m → (H q).n ≤ (H (q + 1)).n) : ∀ j i, i ≤ j → j ≤ m → (H i).n ≤ (H j).n
  | 0, i, hi, _ => by rw [show i = 0 by omega]; exact Nat.le_refl _
  | j + 1, i, hi, hj => by
    by_cases hij : i = j + 1
    · rw [hij]; exact Nat.le_refl _
    · exact Nat.le_trans (mono_n h j i (by omega) (by omega)) (h j (by omega))

variable {W : World} {φ₀ φ : Phi} {dfs : List Deferred} {listed : Array Bool} {K : Nat} {ea : Env} {a : Act} {w : World}

/-- The evaluator goes over one light operation. -/
theorem Inv.advance (A : Plan P ops n ord C Ah L) (T : Trace S call n C L E H) (I : Inv P W φ₀ ops n ord C E H dfs listed K φ ea a w) (hK : K < n) (hl : (C K).k.heavy = false) :
    Inv P W φ₀ ops n ord C E H dfs listed (K + 1) φ ea a w := by
  obtain ⟨v, hv, hon⟩ := step_put (T.step K hK)
  have hlen := T.length K (by omega)
  have hval : ∀ d, (C K).d = some d → d < (E 0).length → v = (E n).getD d .undef := by
    intro d hd hlt
    rw [← T.final A hK hd (Nat.lt_succ_self K) hK, hv, hd, put_getD_eq, if_pos (by omega)]
  -- the heap
  have hheap : (H (K + 1) = H K ∧ ((C K).on (E K) = true → ∀ r, (C K).k = .r r → r.run (E K) (H K) = some v) ∧ ((C K).on (E K) = true → ∀ m, (C K).k ≠ .n m)) ∨
      (∃ m ob mk, (C K).k = .n m ∧ m.run (E K) = some (ob, mk) ∧ v = mk (H K).n ∧ H (K + 1) = (H K).push ob) := by
    rcases hon with ⟨h1, h2⟩ | ⟨h1, h2, h3⟩
    · cases hk : (C K).k with
      | p o => rw [hk] at h2; simp only [IOp.run] at h2; split at h2 <;> simp at h2; exact .inl ⟨h2.2.symm, by simp, by simp⟩
      | k o => rw [hk] at h2; simp only [IOp.run] at h2; split at h2 <;> simp at h2; exact .inl ⟨h2.2.symm, by simp, by simp⟩
      | r o =>
        rw [hk] at h2; simp only [IOp.run] at h2; split at h2 <;> simp at h2
        rename_i u hu
        refine .inl ⟨h2.2.symm, fun _ r hr => ?_, by simp⟩
        cases hr
        rw [hu, h2.1]
      | n o =>
        rw [hk] at h2; simp only [IOp.run] at h2; split at h2 <;> simp at h2
        rename_i ob mk hu
        exact .inr ⟨o, ob, mk, rfl, hu, h2.1.symm, h2.2.symm⟩
      | a o => rw [hk] at hl; simp [IOp.heavy] at hl
      | c o => rw [hk] at hl; simp [IOp.heavy] at hl
    · exact .inl ⟨h3, by simp [h1], by simp [h1]⟩
  refine { le := hK, sz := I.sz, closed := I.closed, env := I.env, len := I.len, set := I.set, unset := I.unset, past := fun q hq hh => ?_, ahead := fun q hq => I.ahead q (by omega), pend := ?_, mono := fun q hq => ?_, rel := ?_, ge := I.ge, news := I.news, dfs := I.dfs }
  · by_cases hqk : q = K
    · subst hqk; rw [hl] at hh; simp at hh
    · exact I.past q (by omega) hh
  · intro q hq hnd hqon
    rcases hheap with ⟨hH, hr, hn⟩ | ⟨m, ob, mk, hk, hrun, hvv, hH⟩
    · rw [hH]
      by_cases hqk : q = K
      · subst hqk
        unfold Pend
        split
        · rename_i r hk; exact ⟨v, hr hqon r hk, hval⟩
        · rename_i m hk; exact absurd hk (hn hqon m)
        · trivial
      · exact I.pend q (by omega) hnd hqon
    · rw [hH]
      by_cases hqk : q = K
      · subst hqk
        unfold Pend
        rw [hk]
        exact ⟨ob, mk, hrun, AHeap.get_push_eq _ _, I.rel.none_at, fun d hd hlt => by rw [← hvv]; exact hval d hd hlt⟩
      · have := I.pend q (by omega) hnd hqon
        unfold Pend at this ⊢
        split
        · rename_i r hk2
          rw [hk2] at this
          obtain ⟨u, h1, h2⟩ := this
          exact ⟨u, ROp.run_push I.rel.wf h1 ob, h2⟩
        · rename_i m2 hk2
          rw [hk2] at this
          obtain ⟨ob2, mk2, h1, h2, h3, h4⟩ := this
          exact ⟨ob2, mk2, h1, get_push_some I.rel.wf h2 ob, h3, h4⟩
        · trivial
  · by_cases hqk : q = K
    · subst hqk
      rcases hheap with ⟨hH, _⟩ | ⟨m, ob, mk, _, _, _, hH⟩
      · rw [hH]; exact Nat.le_refl _
      · rw [hH]; simp
    · exact I.mono q (by omega)
  · rcases hheap with ⟨hH, _⟩ | ⟨m, ob, mk, hk, hrun, _, hH⟩
    · rw [hH]; exact I.rel
    · rw [hH]; exact I.rel.ghost ob (by rw [(NOp.kin_nil hrun).1]; simp)

theorem Inv.advance_to (A : Plan P ops n ord C Ah L) (T : Trace S call n C L E H) {m : Nat} (hm : m ≤ n) : ∀ (d K : Nat), K + d = m → Inv P W φ₀ ops n ord C E H dfs listed K φ ea a w → (∀ p, K ≤ p → p < m → (C p).k.heavy = false) →
    Inv P W φ₀ ops n ord C E H dfs listed m φ ea a w
  | 0, K, hd, I, _ => by rw [show m = K by omega]; exact I
  | d + 1, K, hd, I, hl => Inv.advance_to A T hm d (K + 1) (by omega) (I.advance A T (by omega) (hl K (Nat.le_refl K) (by omega))) fun p p1 p2 => hl p (by omega) p2

/-- The operands of one that may come next stand as the evaluator had them. -/
theorem Inv.agree (A : Plan P ops n ord C Ah L) (T : Trace S call n C L E H) (I : Inv P W φ₀ ops n ord C E H dfs listed K φ ea a w) {q : Nat} (hq : q < n) {o : Oper} (ho : ops[ord q]? = some o) (hnd : ¬ Done listed ord q)
    (hr : ∀ e ∈ o.after, Region.binds .any e = true → listed.getD e.on false = true) : ∀ t ∈ (C q).uses, ea.getD t .undef = (E q).getD t .undef := by
  intro t ht
  have hdone : ∀ p, p < n → Ah p q → p ≠ q → Done listed ord p := by
    intro p hp hah hne
    have := A.down (fun x => Done listed ord x ∨ x = q) (fun x ox hx hox hD e he hb y hy hye => ?_) p q hp hq hah (.inr rfl)
    · exact this.resolve_right hne
    · rcases hD with hD | rfl
      · left; unfold Done; rw [hye]; exact I.closed x ox hx hox hD e he hb
      · rw [ho] at hox; cases hox
        left; unfold Done; rw [hye]; exact hr e he hb
  have hdown : ∀ p, p < n → Ah q p → Done listed ord p → False := fun p hp hah hD =>
    hnd (A.down (Done listed ord) (fun x ox hx hox hD e he hb y hy hye => by unfold Done; rw [hye]; exact I.closed x ox hx hox hD e he hb) q p hq hp hah hD)
  by_cases hex : ∃ p, p < n ∧ Done listed ord p ∧ (C p).d = some t
  · obtain ⟨p, hp, hD, hd⟩ := hex
    rw [I.set p t hp hD hd]
    have hne : p ≠ q := fun e => hnd (e ▸ hD)
    rcases Nat.lt_or_gt_of_ne hne with h | h
    · exact (T.final A hp hd h (by omega)).symm
    · exact (hdown p hp (A.war q p t h hp hd ht).1 hD).elim
  · rw [I.unset t fun p hp hD hd => hex ⟨p, hp, hD, hd⟩]
    refine (T.keep q (Nat.zero_le q) (by omega) fun p _ hpq hd => ?_).symm
    exact hex ⟨p, by omega, hdone p (by omega) (A.raw p q t hpq hq hd ht) (by omega), hd⟩

/-- All that is heavy ahead of one that looks, and may come next, has been. -/
theorem Inv.light (A : Plan P ops n ord C Ah L) (I : Inv P W φ₀ ops n ord C E H dfs listed K φ ea a w) {q : Nat} (hq : q < n) {o : Oper} (ho : ops[ord q]? = some o)
    (hr : ∀ e ∈ o.after, Region.binds .any e = true → listed.getD e.on false = true) (hlk : (C q).k.looks = true) : ∀ p, K ≤ p → p < q → (C p).k.heavy = false := by
  intro p hp hpq
  cases hh : (C p).k.heavy with
  | false => rfl
  | true =>
    have hah := A.heavy p q hpq hq hh hlk
    have hlp : (C p).k.looks = true := by cases hk : (C p).k <;> rw [hk] at hh <;> simp [IOp.heavy] at hh <;> rfl
    have := A.down (fun x => Done listed ord x ∨ x = q) (fun x ox hx hox hD e he hb y hy hye => ?_) p q (by omega) hq hah (.inr rfl)
    · exact absurd (this.resolve_right (by omega)) (I.ahead p hp (by omega) hlp)
    · rcases hD with hD | rfl
      · left; unfold Done; rw [hye]; exact I.closed x ox hx hox hD e he hb
      · rw [ho] at hox; cases hox
        left; unfold Done; rw [hye]; exact hr e he hb
end

end Go.Proofs.YtjldbkicpbchkaaGreat.Ev
