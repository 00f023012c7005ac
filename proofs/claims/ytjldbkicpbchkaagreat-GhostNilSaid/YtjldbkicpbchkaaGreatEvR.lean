/-
  That the evaluator is right: every operation that looks at no memory.
-/
import Derived.Test.YtjldbkicpbchkaaGreatEvQ
namespace Go.Proofs.YtjldbkicpbchkaaGreat.Ev
open Go Go.RowKit

theorem ekOf_kind {P : Program} {op : BinOp} {t : TypeId} {x y : Operand} {k : EK} (h : ekOf P op t x y = k) (hn : k ≠ .no) :
    EKok P t k ∧ (∀ ks, k ≠ .cells ks) ∧ (k = .iface → isConstB x = true ∨ isConstB y = true) := by
  unfold ekOf at h
  split at h <;> (try (exact absurd h.symm hn))
  all_goals
    split at h <;> (try (exact absurd h.symm hn))
    · subst h; rename_i ht; exact ⟨ht, by simp, by simp⟩
    · rename_i el ht
      split at h
      · rename_i n hs; subst h; exact ⟨⟨_, _, ht, hs⟩, by simp, by simp⟩
      · exact absurd h.symm hn
    · subst h; rename_i ht; exact ⟨⟨_, ht⟩, by simp, by simp⟩
    · subst h; rename_i ht; exact ⟨⟨_, _, ht⟩, by simp, by simp⟩
    · subst h; rename_i ht; exact ⟨⟨_, _, _, ht⟩, by simp, by simp⟩
    · rename_i ht
      cases hb : (isConstB x || isConstB y) with
      | true => simp only [hb, cond_true] at h; subst h; exact ⟨⟨_, ht⟩, by simp, fun _ => by simpa using hb⟩
      | false => simp only [hb, cond_false] at h; exact absurd h.symm hn

theorem eqOp_no {p q : AV} {b : Bool} (h : eqOp .no p q = some b) : False := by cases p <;> simp [eqOp] at h

theorem binK_kind {P : Program} {op : BinOp} {t : TypeId} {x y : Operand} {k : EK} (h : binK P op t x y = k) (hn : k ≠ .no) :
    EKok P t k ∧ (∀ ms, P.underlying t = some (.interface ms) → ∀ ks, k ≠ .cells ks) ∧ (k = .iface → isConstB x = true ∨ isConstB y = true) := by
  unfold binK at h
  have plan : ∀ (ha : isAggB P t = true) (hi : ∀ ms, P.underlying t ≠ some (.interface ms)), (match planOf P 12 t with | some ks => EK.cells ks | none => .no) = k →
      EKok P t k ∧ (∀ ms, P.underlying t = some (.interface ms) → ∀ ks, k ≠ .cells ks) ∧ (k = .iface → isConstB x = true ∨ isConstB y = true) := by
    intro ha hi h
    cases hp : planOf P 12 t with
    | none => rw [hp] at h; exact absurd h.symm hn
    | some ks => rw [hp] at h; subst h; exact ⟨⟨ha, 12, Nat.le_refl _, hp⟩, fun ms hm => absurd hm (hi ms), by simp⟩
  split at h
  · rename_i ht; exact plan (by simp [isAggB, ht]) (by simp [ht]) h
  · rename_i ht; exact plan (by simp [isAggB, ht]) (by simp [ht]) h
  · rename_i ht; exact plan (by simp [isAggB, ht]) (by simp [ht]) h
  · rename_i ht; exact plan (by simp [isAggB, ht]) (by simp [ht]) h
  · obtain ⟨h1, h2, h3⟩ := ekOf_kind h hn; exact ⟨h1, fun _ _ => h2, h3⟩

theorem pOp_ok {P : Program} {φ : Phi} {e : Env} {a : Act} (ke : EnvR φ e a) {o : Oper} {io : POp} (hc : cOp P o.op = some (.p io)) {v : AV} (h : io.run e = some v) : POk P φ a o v := by
  obtain ⟨op, hop⟩ : ∃ op, o.op = op := ⟨_, rfl⟩
  rw [hop] at hc
  cases op with
  | move x =>
    simp only [cOp] at hc
    split at hc <;> (try simp at hc)
    rename_i y hx; subst hc
    simp [POp.run] at h; subst h
    exact ok_mov ke (.inl hop) hx
  | assign x =>
    simp only [cOp] at hc
    split at hc <;> (try simp at hc)
    rename_i y hx; subst hc
    simp [POp.run] at h; subst h
    exact ok_mov ke (.inr hop) hx
  | pick c x y =>
    simp only [cOp] at hc
    split at hc <;> (try simp at hc)
    rename_i c' x' y' h1 h2 h3; subst hc
    exact ok_pick ke hop h1 h2 h3 h
  | nilCheck x =>
    simp only [cOp] at hc
    split at hc <;> (try simp at hc)
  | binOp op t x y u =>
    simp only [cOp] at hc
    cases hg : (P.eqGuardType P.depth t && !(isIfaceB P t)) with
    | true => rw [hg] at hc; simp at hc
    | false =>
      rw [hg] at hc
      simp only [cond_false] at hc
      split at hc <;> (try simp at hc)
      rename_i x' y' h1 h2
      subst hc
      have hk0 : ∀ b p q, eqOp (binK P op t x y) p q = some b → binK P op t x y ≠ .no := fun b p q hb hn => by rw [hn] at hb; exact eqOp_no hb
      refine ok_bin ke hop h1 h2 (fun b p q hb => (binK_kind rfl (hk0 b p q hb)).1) ⟨?_, ?_, ?_⟩ h
      · cases hq : P.eqGuardType P.depth t with
        | false => exact .inl rfl
        | true =>
          rw [hq] at hg
          simp [isIfaceB] at hg
          split at hg
          · rename_i ms hms; exact .inr ⟨ms, hms⟩
          · simp at hg
      · intro ms hms ks hks
        exact (binK_kind hks (by simp)).2.1 ms hms ks rfl
      · intro hi
        exact (binK_kind hi (by simp)).2.2 rfl
  | unOp op t x =>
    simp only [cOp] at hc
    split at hc <;> (try simp at hc)
    rename_i y hx; subst hc
    exact ok_un ke hop hx h
  | convert s d x =>
    simp only [cOp] at hc
    split at hc <;> (try simp at hc)
    · rename_i y us k hx hs hd; subst hc; exact ok_toInt ke hop hx hs hd h
    · rename_i y hx hs hd; subst hc; exact ok_toStr ke hop hx hs hd h
    · split at hc <;> (try simp at hc)
    · split at hc <;> (try simp at hc)
  | makeInterface t x =>
    simp only [cOp] at hc
    split at hc <;> (try simp at hc)
    rename_i d y h1 h2 h3; subst hc
    simp [POp.run] at h; subst h
    exact ok_ifc ke hop h3 h2 (fun ms hm => h1 ms hm)
  | makeFunc f xs ys =>
    simp only [cOp] at hc
    split at hc <;> (try simp at hc)
    rename_i xs' ys' h1 h2; subst hc
    simp [POp.run] at h; subst h
    exact ok_fn ke hop h1 h2
  | build t ps =>
    simp only [cOp] at hc
    split at hc
    · rename_i z fs hz ht
      split at hc <;> (try simp at hc)
      rename_i places hp
      split at hc <;> (try simp at hc)
      rename_i qs hq
      subst hc
      exact ok_build_struct ke hop hz ht hp hq h
    · rename_i z n el hz ht
      split at hc <;> (try simp at hc)
      rename_i s hs
      split at hc <;> (try simp at hc)
      rename_i qs hq
      subst hc
      exact ok_build_arr ke hop hz ht hs hq h
    · simp at hc
  | fieldAddr t x i =>
    simp only [cOp] at hc
    split at hc <;> (try simp at hc)
    rename_i fs y ht hx
    split at hc <;> (try simp at hc)
    rename_i f hf
    split at hc <;> (try simp at hc)
    rename_i n hs
    subst hc
    exact ok_fieldA ke hop hx ht hf hs h
  | field t x i =>
    simp only [cOp] at hc
    split at hc <;> (try simp at hc)
    rename_i fs y ht hx
    split at hc <;> (try simp at hc)
    rename_i f hf
    split at hc <;> (try simp at hc)
    rename_i k s hk hs
    subst hc
    exact ok_field ke hop hx ht hf hs hk h
  | indexAddr t x i =>
    simp only [cOp] at hc
    split at hc <;> (try simp at hc)
    · rename_i n el x' i' ht hx hi
      split at hc <;> (try simp at hc)
      rename_i s hs
      subst hc
      exact ok_idxA_arr ke hop hx hi ht hs h
    · rename_i el x' i' ht hx hi
      split at hc <;> (try simp at hc)
      rename_i s hs
      subst hc
      exact ok_idxA_sl ke hop hx hi ht hs h
  | index t x i =>
    simp only [cOp] at hc
    split at hc <;> (try simp at hc)
    · rename_i n el x' i' ht hx hi
      split at hc <;> (try simp at hc)
      rename_i k s hk hs
      subst hc
      exact ok_idx ke hop hx hi ht hs hk h
    · rename_i x' i' ht hx hi
      subst hc
      exact ok_idxS ke hop hx hi ht h
  | extract x i =>
    simp only [cOp] at hc
    split at hc <;> (try simp at hc)
    rename_i y hx; subst hc
    exact ok_extract ke hop hx h
  | slice t x lo hi mx =>
    simp only [cOp] at hc
    split at hc <;> (try simp at hc)
    · split at hc <;> (try simp at hc)
    · rename_i el x' lo' hi' mx' ht hx h1 h2 h3
      split at hc <;> (try simp at hc)
      rename_i s hs
      subst hc
      exact ok_slV ke hop hx h1 h2 h3 ht hs h
    · rename_i x' lo' hi' ht hx h1 h2 h3
      subst hc
      have : mx = none := by
        rcases cOpt_some h3 with ⟨hm, _⟩ | ⟨u, w, _, hw, _⟩
        · exact hm
        · simp at hw
      subst this
      exact ok_slS ke hop hx h1 h2 ht h
  | call c =>
    obtain ⟨callee, args, ats⟩ := c
    cases callee with
    | value f => cases f <;> simp only [cOp] at hc <;> (split at hc <;> (try simp at hc))
    | invoke r m => simp only [cOp] at hc; split at hc <;> (try simp at hc)
    | builtin b =>
      simp only [cOp] at hc
      unfold cBuiltin at hc
      split at hc
      · rename_i x hargs
        have hargs' : args = #[x] := by cases args; simp at hargs; simp [hargs]
        subst hargs'
        split at hc <;> (try simp at hc)
        rename_i t hat
        split at hc <;> (try simp at hc)
        · rename_i x' ht hx; subst hc; exact ok_lenS ke hop hat hx ht h
        · rename_i el x' ht hx; subst hc; exact ok_len ke hop hat hx ht h
        · rename_i n el x' ht hx; subst hc; simp [POp.run] at h; subst h; exact ok_lenA hop hat ht
      · split at hc <;> (try simp at hc)
        cases hb : isIntB P _ <;> rw [hb] at hc <;> simp at hc
        split at hc <;> (try simp at hc)
        split at hc <;> (try simp at hc)
      · split at hc <;> (try simp at hc)
        split at hc <;> (try simp at hc)
        split at hc <;> (try simp at hc)
      · split at hc <;> (try simp at hc)
      · rename_i x xs hargs
        split at hc <;> (try simp at hc)
        rename_i x' xs' hx hs
        subst hc
        exact ok_mm ke (mx := false) hop hargs hx hs h
      · rename_i x xs hargs
        split at hc <;> (try simp at hc)
        rename_i x' xs' hx hs
        subst hc
        exact ok_mm ke (mx := true) hop hargs hx hs h
      · simp at hc
  | alloc t => simp only [cOp] at hc; split at hc <;> (try simp at hc)
  | box t x => simp only [cOp] at hc; split at hc <;> (try simp at hc)
  | buildSlice t n ps =>
    simp only [cOp] at hc
    split at hc <;> (try simp at hc)
    split at hc <;> (try simp at hc)
    rename_i s z _ _
    cases hb : (Nat.ble (n * s) 16777216 && Nat.beq z.length s) <;> rw [hb] at hc <;> simp at hc
    split at hc <;> (try simp at hc)
  | load t x => simp only [cOp] at hc; split at hc <;> (try simp at hc)
  | store t x y => simp only [cOp] at hc; split at hc <;> (try simp at hc)
  | makeMap t r => cases r <;> simp [cOp] at hc
  | makeSlice t l c =>
    simp only [cOp] at hc
    split at hc <;> (try simp at hc)
    split at hc <;> (try simp at hc)
    rename_i i z _ _
    cases hb : (Nat.beq z.length i.size) <;> rw [hb] at hc <;> simp at hc
  | lookup t m k ok => simp only [cOp] at hc; split at hc <;> (try simp at hc)
  | mapUpdate t m k x => simp only [cOp] at hc; split at hc <;> (try simp at hc)
  | _ => simp [cOp] at hc

end Go.Proofs.YtjldbkicpbchkaaGreat.Ev
