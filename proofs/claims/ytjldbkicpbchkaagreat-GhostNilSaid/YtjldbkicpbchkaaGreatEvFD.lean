/-
  The fast form is right: statements, texts, functions.
-/
import Derived.Test.YtjldbkicpbchkaaGreatEvFC
import Derived.Test.YtjldbkicpbchkaaGreatEvAB
namespace Go.Proofs.YtjldbkicpbchkaaGreat.Ev
open Go

/-! ### Calls, whatever the fuel -/
theorem Cl.unique {S : ASys} {f : Nat} {args : List AV} {h : AHeap} {x y : AV × AHeap} (hx : Cl S f args h x) (hy : Cl S f args h y) : x = y := by
  obtain ⟨n, hn⟩ := hx
  obtain ⟨m, hm⟩ := hy
  have h1 := callN_le (Nat.le_max_left n m) _ _ _ _ hn
  have h2 := callN_le (Nat.le_max_right n m) _ _ _ _ hm
  rw [h1] at h2
  cases h2
  rfl

open Classical in
noncomputable def callInf (S : ASys) : CallF := fun f args h => if hx : ∃ x, Cl S f args h x then some (Classical.choose hx) else none

theorem callInf_iff {S : ASys} {f : Nat} {args : List AV} {h : AHeap} {x : AV × AHeap} : callInf S f args h = some x ↔ Cl S f args h x := by
  unfold callInf
  constructor
  · intro k
    split at k
    · rename_i hx
      simp at k
      rw [← k]
      exact Classical.choose_spec hx
    · cases k
  · intro k
    have hx : ∃ x, Cl S f args h x := ⟨x, k⟩
    rw [dif_pos hx]
    rw [Cl.unique (Classical.choose_spec hx) k]

theorem step_inf {S : ASys} {o : IOper} {e e' : Env} {h h' : AHeap} (k : o.step S (callInf S) e h = some (e', h')) : ∃ n, o.step S (callN S n) e h = some (e', h') := by
  unfold IOper.step at *
  cases ho : o.on e with
  | false => rw [ho] at k; exact ⟨0, k⟩
  | true =>
    rw [ho] at k
    simp only [cond_true] at k ⊢
    split at k
    · rename_i v h1 hv
      have : ∃ n, o.k.run S (callN S n) e h = some (v, h1) := by
        cases hk : o.k with
        | c c =>
          rw [hk] at hv
          simp only [IOp.run] at hv ⊢
          cases c with
          | fn f args =>
            obtain ⟨n, hn⟩ := callInf_iff.1 (show callInf S f _ h = some (v, h1) from hv)
            exact ⟨n, hn⟩
          | val x args =>
            simp only [COp.run, valCall] at hv ⊢
            split at hv
            · obtain ⟨n, hn⟩ := callInf_iff.1 hv
              exact ⟨n, hn⟩
            · cases hv
          | inv x m args =>
            simp only [COp.run] at hv ⊢
            split at hv
            · split at hv
              · obtain ⟨n, hn⟩ := callInf_iff.1 hv
                exact ⟨n, hn⟩
              · cases hv
            · cases hv
        | _ => rw [hk] at hv; exact ⟨0, hv⟩
      obtain ⟨n, hn⟩ := this
      refine ⟨n, ?_⟩
      rw [hn]
      exact k
    · cases k

theorem runOps_inf {S : ASys} : ∀ {os : List IOper} {e e' : Env} {h h' : AHeap}, runOps S (callInf S) os e h = some (e', h') → ∃ n, runOps S (callN S n) os e h = some (e', h')
  | [], _, _, _, _, k => ⟨0, k⟩
  | o :: os, e, e', h, h', k => by
    simp only [runOps] at k
    split at k
    · rename_i e1 h1 hs
      obtain ⟨n, hn⟩ := step_inf hs
      obtain ⟨m, hm⟩ := runOps_inf k
      refine ⟨max n m, ?_⟩
      simp only [runOps]
      rw [IOper.step_le (callN_le (Nat.le_max_left n m)) hn]
      exact runOps_le (callN_le (Nat.le_max_right n m)) hm
    · cases k

theorem runD_inf {S : ASys} {all : List (IOper × List Nat)} : ∀ {os : List (IOper × List Nat)} {e e' : Env} {h h' : AHeap}, runD S (callInf S) all os e h = some (e', h') → ∃ n, runD S (callN S n) all os e h = some (e', h')
  | [], _, _, _, _, k => ⟨0, k⟩
  | (o, is) :: os, e, e', h, h', k => by
    simp only [runD] at k
    split at k
    · rename_i e1 h1 hs
      cases ha : againAll all e1 h1 is with
      | false => rw [ha] at k; cases k
      | true =>
        rw [ha] at k
        simp only [cond_true] at k
        obtain ⟨n, hn⟩ := step_inf hs
        obtain ⟨m, hm⟩ := runD_inf k
        refine ⟨max n m, ?_⟩
        simp only [runD]
        rw [IOper.step_le (callN_le (Nat.le_max_left n m)) hn]
        simp only [ha, cond_true]
        exact runD_le (callN_le (Nat.le_max_right n m)) hm
    · cases k

/-! ### The frame -/
theorem vpos_ok {vars : List Nat} {i j : Nat} (h : vpos vars i = some j) : vars[j]? = some i := by
  have key : ∀ (vars : List Nat) (k j : Nat), @List.rec Nat (fun _ => Nat → Option Nat) (fun _ => none) (fun j _ ih k => cond (Nat.beq j i) (some k) (ih (Nat.succ k))) vars k = some j → ∃ d, j = k + d ∧ vars[d]? = some i := by
    intro vars
    induction vars with
    | nil => intro k j h; cases h
    | cons x xs ih =>
      intro k j h
      have h' : cond (Nat.beq x i) (some k) (@List.rec Nat (fun _ => Nat → Option Nat) (fun _ => none) (fun j _ ih k => cond (Nat.beq j i) (some k) (ih (Nat.succ k))) xs (Nat.succ k)) = some j := h
      cases hb : Nat.beq x i with
      | true =>
        rw [hb] at h'
        simp at h'
        exact ⟨0, by omega, by simp [Nat.eq_of_beq_eq_true hb]⟩
      | false =>
        rw [hb] at h'
        obtain ⟨d, h1, h2⟩ := ih _ _ h'
        exact ⟨d + 1, by omega, by simpa using h2⟩
  obtain ⟨d, h1, h2⟩ := key vars 0 j h
  rw [h1, Nat.zero_add]
  exact h2

structure FR (vars : List Nat) (nt : Nat) (ρ : Ro) (E : List AV) (e : Env) : Prop where
  len : nt ≤ e.length
  elen : E.length = vars.length
  loc : ∀ i v, lookR ρ i = some v → e.getD i .undef = v
  var : ∀ i j, vpos vars i = some j → E.getD j .undef = e.getD i .undef

section
variable {r : AV × AHeap} {vars : List Nat} {nt : Nat} {ρ : Ro} {E : List AV} {e : Env} {S : ASys} {call : CallF} {h : AHeap}

theorem rdT_ok (F : FR vars nt ρ E e) {i : Nat} {k : AV → R} (hh : rdT vars ρ E i k = some r) : k (e.getD i .undef) = some r := by
  unfold rdT at hh
  cases hl : lookR ρ i with
  | some v => rw [hl] at hh; rw [F.loc i v hl]; exact hh
  | none =>
    rw [hl] at hh
    cases hv : vpos vars i with
    | none => rw [hv] at hh; cases hh
    | some j =>
      rw [hv] at hh
      obtain ⟨v, h1, h2⟩ := getK_ok (show getK E j k = some r from hh)
      rw [← F.var i j hv]
      have : E.getD j .undef = v := by simp [List.getD, h1]
      rw [this]
      exact h2

theorem rdK_ok (F : FR vars nt ρ E e) : RdOk (rdK vars ρ E) e := by
  intro x k r hh
  cases x with
  | t i => exact rdT_ok F hh
  | v x => exact hh

theorem FR.drop (F : FR vars nt ρ E e) : FR vars nt [] E e := ⟨F.len, F.elen, fun i v h => (by cases h), F.var⟩

theorem binding_ok (F : FR vars nt ρ E e) {d : Option Nat} {v : AV} {k : Ro → List AV → R} (hh : binding vars nt d ρ E v k = some r) : ∃ ρ' E', FR vars nt ρ' E' (put e d v) ∧ k ρ' E' = some r := by
  unfold binding at hh
  cases d with
  | none => exact ⟨ρ, E, F, hh⟩
  | some d =>
    simp only at hh
    cases hb : Nat.blt d nt with
    | false => rw [hb] at hh; cases hh
    | true =>
      rw [hb] at hh
      simp only [cond_true] at hh
      have hd : d < e.length := by
        have : d < nt := by simpa [Nat.blt_eq] using hb
        have := F.len
        omega
      have hget : ∀ t, (put e (some d) v).getD t .undef = if t = d then v else e.getD t .undef := by
        intro t
        split
        · rename_i e1; subst e1; rw [put_getD_eq, if_pos hd]
        · rename_i e1; exact put_getD_ne e v (fun h => e1 (by cases h; rfl))
      have hloc : ∀ i u, lookR ((d, v) :: ρ) i = some u → (put e (some d) v).getD i .undef = u := by
        intro i u hu
        have hu' : cond (Nat.beq d i) (some v) (lookR ρ i) = some u := hu
        rw [hget]
        cases hb : Nat.beq d i with
        | true =>
          rw [hb] at hu'
          have := Nat.eq_of_beq_eq_true hb
          simp at hu'
          rw [if_pos this.symm, hu']
        | false =>
          rw [hb] at hu'
          have hne : i ≠ d := fun e1 => by rw [e1] at hb; simp at hb
          rw [if_neg hne]
          exact F.loc i u hu'
      split at hh
      · rename_i hv
        refine ⟨_, _, ⟨by rw [put_length]; exact F.len, F.elen, hloc, fun i j hj => ?_⟩, hh⟩
        have hne : i ≠ d := fun e1 => by rw [e1, hv] at hj; cases hj
        rw [hget, if_neg hne]
        exact F.var i j hj
      · rename_i j hv
        rw [setK_eq] at hh
        refine ⟨_, _, ⟨by rw [put_length]; exact F.len, by simp [F.elen], hloc, fun i j' hj' => ?_⟩, hh⟩
        have hjl : j < E.length := by rw [F.elen]; exact (List.getElem?_eq_some_iff.1 (vpos_ok hv)).1
        rw [hget]
        by_cases hid : i = d
        · subst hid
          rw [hv] at hj'
          cases hj'
          rw [if_pos rfl]
          simp [List.getD, hjl]
        · rw [if_neg hid]
          have hjj : j ≠ j' := fun e1 => by
            subst e1
            have h1 := vpos_ok hv
            have h2 := vpos_ok hj'
            rw [h1] at h2
            cases h2
            exact hid rfl
          rw [← F.var i j' hj']
          simp [List.getD, List.getElem?_set_ne hjj]

theorem guarded_ok (F : FR vars nt ρ E e) {o : IOper} {yes no : Unit → R} (hh : guarded (rdK vars ρ E) o.g yes no = some r) : (o.on e = true ∧ yes () = some r) ∨ (o.on e = false ∧ no () = some r) := by
  unfold guarded at hh
  unfold IOper.on
  split at hh
  · rename_i hg; rw [hg]; exact .inl ⟨rfl, hh⟩
  · rename_i t want hg
    rw [hg]
    obtain ⟨b, hb, h2⟩ := boolE_ok (rdT_ok F hh)
    simp only [hb]
    rcases boolB_ok h2 with ⟨rfl, h3⟩ | ⟨rfl, h3⟩
    · rcases boolB_ok h3 with ⟨rfl, h4⟩ | ⟨rfl, h4⟩
      · exact .inl ⟨rfl, h4⟩
      · exact .inr ⟨rfl, h4⟩
    · rcases boolB_ok h3 with ⟨rfl, h4⟩ | ⟨rfl, h4⟩
      · exact .inr ⟨rfl, h4⟩
      · exact .inl ⟨rfl, h4⟩

theorem stepC_ok {call' : CallF} (hc : CallLe call call') (F : FR vars nt ρ E e) {o : IOper} {k : Ro → List AV → AHeap → R} (hh : stepC S call vars nt o ρ E h k = some r) :
    ∃ ρ' E' e' h', o.step S call' e h = some (e', h') ∧ FR vars nt ρ' E' e' ∧ k ρ' E' h' = some r := by
  unfold stepC at hh
  unfold IOper.step
  rcases guarded_ok F hh with ⟨h1, h2⟩ | ⟨h1, h2⟩
  · obtain ⟨v, h', h3, h4⟩ := oC_ok hc (rdK_ok F) h2
    obtain ⟨ρ', E', F', h5⟩ := binding_ok F h4
    exact ⟨ρ', E', _, h', by rw [h1]; simp only [cond_true, h3], F', h5⟩
  · obtain ⟨ρ', E', F', h5⟩ := binding_ok F h2
    exact ⟨ρ', E', _, h, by rw [h1]; rfl, F', h5⟩

theorem opsC_ok {call' : CallF} (hc : CallLe call call') {k : List AV → AHeap → R} : ∀ {os : List IOper} {ρ : Ro} {E : List AV} {e : Env} {h : AHeap}, FR vars nt ρ E e → opsC S call vars nt os ρ E h k = some r →
    ∃ E' e' h', runOps S call' os e h = some (e', h') ∧ FR vars nt [] E' e' ∧ k E' h' = some r
  | [], ρ, E, e, h, F, hh => ⟨E, e, h, rfl, F.drop, hh⟩
  | o :: os, ρ, E, e, h, F, hh => by
    obtain ⟨ρ', E', e', h', h1, F', h2⟩ := stepC_ok hc F (show stepC S call vars nt o ρ E h (fun ρ E h => opsC S call vars nt os ρ E h k) = some r from hh)
    obtain ⟨E2, e2, h2', h3, F2, h4⟩ := opsC_ok hc F' h2
    exact ⟨E2, e2, h2', by simp only [runOps, h1]; exact h3, F2, h4⟩
end

end Go.Proofs.YtjldbkicpbchkaaGreat.Ev
