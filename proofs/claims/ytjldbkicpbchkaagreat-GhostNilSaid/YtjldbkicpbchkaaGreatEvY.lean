/-
  That the evaluator is right: every operation that writes.
-/
import Derived.Test.YtjldbkicpbchkaaGreatEvX
namespace Go.Proofs.YtjldbkicpbchkaaGreat.Ev
open Go Go.RowKit

theorem aOp_ok {P : Program} {W : World} {φ : Phi} {e : Env} {a : Act} {h : AHeap} {w : World} (ke : EnvR φ e a) (R : Rel W φ h w) {o : Oper} {io : AOp} (hc : cOp P o.op = some (.a io)) {v : AV} {h' : AHeap}
    (hv : io.run e h = some (v, h')) : AOk P W φ h w a o v h' := by
  obtain ⟨op, hop⟩ : ∃ op, o.op = op := ⟨_, rfl⟩
  rw [hop] at hc
  cases op with
  | store t x y =>
    simp only [cOp] at hc
    split at hc
    · rename_i n x' y' hn hx hy
      simp at hc
      subst hc
      exact store_ok ke R hop hn hx hy hv
    · simp at hc
  | load t x => simp only [cOp] at hc; split at hc <;> (try simp at hc)
  | alloc t => simp only [cOp] at hc; split at hc <;> (try simp at hc)
  | box t x => simp only [cOp] at hc; split at hc <;> (try simp at hc)
  | convert s d x =>
    simp only [cOp] at hc
    split at hc <;> (try simp at hc)
    · split at hc <;> (try simp at hc)
    · split at hc <;> (try simp at hc)
  | slice t x lo hi mx =>
    simp only [cOp] at hc
    split at hc <;> (try simp at hc)
    · split at hc <;> (try simp at hc)
    · split at hc <;> (try simp at hc)
  | call c =>
    obtain ⟨callee, args, ats⟩ := c
    cases callee with
    | value f => cases f <;> simp only [cOp] at hc <;> (split at hc <;> (try simp at hc))
    | invoke r m => simp only [cOp] at hc; split at hc <;> (try simp at hc)
    | builtin b =>
      simp only [cOp] at hc
      unfold cBuiltin at hc
      split at hc
      · split at hc <;> (try simp at hc)
        split at hc <;> (try simp at hc)
      · rename_i s x hargs
        have hargs' : args = #[s, x] := by cases args; simp at hargs; simp [hargs]
        subst hargs'
        split at hc
        · rename_i t u s' x' h0 h1 hs hx
          cases hb : isIntB P u with
          | true => rw [hb] at hc; simp at hc
          | false =>
            rw [hb] at hc
            simp only [cond_false] at hc
            split at hc
            · rename_i d el hu ht
              split at hc
              · rename_i q hq
                simp at hc
                subst hc
                exact app_ok ke R hop h0 h1 ht hu hb hq hs hx hv
              · simp at hc
            · simp at hc
        · simp at hc
      · rename_i s x hargs
        have hargs' : args = #[s, x] := by cases args; simp at hargs; simp [hargs]
        subst hargs'
        split at hc
        · rename_i t _ s' x' h0 h1 hs hx
          split at hc
          · rename_i el ht
            split at hc
            · rename_i i hi
              simp at hc
              subst hc
              exact copy_ok ke R hop h0 ht (by simp [size?, hi]) hs hx hv
            · simp at hc
          · simp at hc
        · simp at hc
      · rename_i m k hargs
        have hargs' : args = #[m, k] := by cases args; simp at hargs; simp [hargs]
        subst hargs'
        split at hc <;> (try simp at hc)
        rename_i z m' k' hz hm hk
        subst hc
        exact mdel_ok ke R hop hz hm hk hv
      · split at hc <;> (try simp at hc)
      · split at hc <;> (try simp at hc)
      · simp at hc
  | move x => simp only [cOp] at hc; split at hc <;> (try simp at hc)
  | assign x => simp only [cOp] at hc; split at hc <;> (try simp at hc)
  | pick c x y => simp only [cOp] at hc; split at hc <;> (try simp at hc)
  | nilCheck x => simp only [cOp] at hc; split at hc <;> (try simp at hc)
  | binOp op t x y u =>
    simp only [cOp] at hc
    cases hg : (P.eqGuardType P.depth t && !(isIfaceB P t)) <;> rw [hg] at hc <;> simp at hc
    split at hc <;> (try simp at hc)
  | unOp op t x => simp only [cOp] at hc; split at hc <;> (try simp at hc)
  | makeInterface t x => simp only [cOp] at hc; split at hc <;> (try simp at hc)
  | makeFunc f xs ys => simp only [cOp] at hc; split at hc <;> (try simp at hc)
  | build t ps =>
    simp only [cOp] at hc
    split at hc <;> (try simp at hc)
    · split at hc <;> (try simp at hc)
      split at hc <;> (try simp at hc)
    · split at hc <;> (try simp at hc)
      split at hc <;> (try simp at hc)
  | fieldAddr t x i =>
    simp only [cOp] at hc
    split at hc <;> (try simp at hc)
    split at hc <;> (try simp at hc)
    split at hc <;> (try simp at hc)
  | field t x i =>
    simp only [cOp] at hc
    split at hc <;> (try simp at hc)
    split at hc <;> (try simp at hc)
    split at hc <;> (try simp at hc)
  | indexAddr t x i =>
    simp only [cOp] at hc
    split at hc <;> (try simp at hc)
    · split at hc <;> (try simp at hc)
    · split at hc <;> (try simp at hc)
  | index t x i =>
    simp only [cOp] at hc
    split at hc <;> (try simp at hc)
    split at hc <;> (try simp at hc)
  | extract x i => simp only [cOp] at hc; split at hc <;> (try simp at hc)
  | buildSlice t n ps =>
    simp only [cOp] at hc
    split at hc <;> (try simp at hc)
    split at hc <;> (try simp at hc)
    rename_i s z _ _
    cases hb : (Nat.ble (n * s) 16777216 && Nat.beq z.length s) <;> rw [hb] at hc <;> simp at hc
    split at hc <;> (try simp at hc)
  | makeMap t r => cases r <;> simp [cOp] at hc
  | makeSlice t l c =>
    simp only [cOp] at hc
    split at hc <;> (try simp at hc)
    split at hc <;> (try simp at hc)
    rename_i i z _ _
    cases hb : (Nat.beq z.length i.size) <;> rw [hb] at hc <;> simp at hc
  | lookup t m k ok => simp only [cOp] at hc; split at hc <;> (try simp at hc)
  | mapUpdate t m k x =>
    simp only [cOp] at hc
    split at hc <;> (try simp at hc)
    rename_i z m' k' x' hz hm hk hx
    subst hc
    exact mset_ok ke R hop hz hm hk hx hv
  | _ => simp [cOp] at hc

end Go.Proofs.YtjldbkicpbchkaaGreat.Ev
