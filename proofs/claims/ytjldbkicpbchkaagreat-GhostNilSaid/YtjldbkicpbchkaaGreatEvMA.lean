/-
  More fuel changes nothing: what the evaluator says, whatever the fuel.
-/
import Derived.Test.YtjldbkicpbchkaaGreatEvB
namespace Go.Proofs.YtjldbkicpbchkaaGreat.Ev
open Go

variable {S : ASys}

def CallLe (c c' : CallF) : Prop := ∀ f args h r, c f args h = some r → c' f args h = some r

theorem valCall_le {c c' : CallF} (hc : CallLe c c') {x : AV} {args : List AV} {h : AHeap} {r : AV × AHeap} (k : valCall c x args h = some r) : valCall c' x args h = some r := by
  unfold valCall at *
  split at k
  · exact hc _ _ _ _ k
  · cases k

theorem COp.run_le {c c' : CallF} (hc : CallLe c c') {e : Env} {h : AHeap} {o : COp} {r : AV × AHeap} (k : o.run S c e h = some r) : o.run S c' e h = some r := by
  cases o with
  | fn f args => exact hc _ _ _ _ k
  | val x args => exact valCall_le hc k
  | inv x m args =>
    simp only [COp.run] at *
    split at k
    · split at k
      · exact hc _ _ _ _ k
      · cases k
    · cases k

theorem IOp.run_le {c c' : CallF} (hc : CallLe c c') {e : Env} {h : AHeap} {o : IOp} {r : AV × AHeap} (k : o.run S c e h = some r) : o.run S c' e h = some r := by
  cases o with
  | c o => exact COp.run_le hc k
  | _ => exact k

theorem IOper.step_le {c c' : CallF} (hc : CallLe c c') {e : Env} {h : AHeap} {o : IOper} {r : Env × AHeap} (k : o.step S c e h = some r) : o.step S c' e h = some r := by
  unfold IOper.step at *
  cases ho : o.on e with
  | false => rw [ho] at k; exact k
  | true =>
    rw [ho] at k
    simp only [cond_true] at k ⊢
    split at k
    · rename_i v h' hv
      rw [IOp.run_le hc hv]
      exact k
    · cases k

theorem runOps_le {c c' : CallF} (hc : CallLe c c') : ∀ {os : List IOper} {e : Env} {h : AHeap} {r : Env × AHeap}, runOps S c os e h = some r → runOps S c' os e h = some r
  | [], _, _, _, k => k
  | o :: os, e, h, r, k => by
    simp only [runOps] at *
    split at k
    · rename_i e' h' hs
      rw [IOper.step_le hc hs]
      exact runOps_le hc k
    · cases k

theorem runD_le {c c' : CallF} (hc : CallLe c c') {all : List (IOper × List Nat)} : ∀ {os : List (IOper × List Nat)} {e : Env} {h : AHeap} {r : Env × AHeap}, runD S c all os e h = some r → runD S c' all os e h = some r
  | [], _, _, _, k => k
  | (o, is) :: os, e, h, r, k => by
    simp only [runD] at *
    split at k
    · rename_i e' h' hs
      rw [IOper.step_le hc hs]
      cases ha : againAll all e' h' is with
      | false => rw [ha] at k; cases k
      | true =>
        rw [ha] at k
        simp only [ha, cond_true] at k ⊢
        exact runD_le hc k
    · cases k

theorem callBy_le {f f' : ICode → Env → AHeap → Option (AX × Env × AHeap)} (hf : ∀ c e h r, f c e h = some r → f' c e h = some r) : CallLe (callBy S f) (callBy S f') := by
  intro g args h r k
  unfold callBy at *
  split at k
  · rename_i s hs; exact k
  · rename_i hs
    split at k
    · cases k
    · rename_i fn hfn
      split at k
      · rename_i e h' hr; rw [hf _ _ _ _ hr]; exact k
      · rename_i e h' hr; rw [hf _ _ _ _ hr]; exact k
      · cases k

theorem run_succ : ∀ (n : Nat) (c : ICode) (e : Env) (h : AHeap) (r : AX × Env × AHeap), run S n c e h = some r → run S (n + 1) c e h = some r := by
  intro n
  induction n with
  | zero => intro c e h r k; simp [run] at k
  | succ n ih =>
    intro c e h r k
    have hcall := callBy_le (S := S) ih
    cases c with
    | skip => exact k
    | ret => exact k
    | exit id => exact k
    | bad => exact k
    | seq a b =>
      rw [run] at k ⊢
      split at k
      · rename_i e1 h1 hr; rw [ih _ _ _ _ hr]; exact ih _ _ _ _ k
      · rename_i hne
        rw [ih _ _ _ _ k]
        split
        · rename_i e1 h1 he; cases he; exact absurd k (hne _ _)
        · rfl
    | cond c a b =>
      rw [run] at k ⊢
      split at k
      · exact ih _ _ _ _ k
      · exact ih _ _ _ _ k
      · cases k
    | block id a =>
      rw [run] at k ⊢
      split at k
      · rename_i id' e1 h1 hr; rw [ih _ _ _ _ hr]; exact k
      · rename_i hne
        rw [ih _ _ _ _ k]
        split
        · rename_i id' e1 h1 he; cases he; exact absurd k (hne _ _ _)
        · rfl
    | loop a =>
      rw [run] at k ⊢
      split at k
      · rename_i e1 h1 hr; rw [ih _ _ _ _ hr]; exact ih _ _ _ _ k
      · rename_i hne
        rw [ih _ _ _ _ k]
        split
        · rename_i e1 h1 he; cases he; exact absurd k (hne _ _)
        · rfl
    | reg ops =>
      rw [run] at k ⊢
      split at k
      · rename_i e1 h1 hr; rw [runOps_le hcall hr]; exact k
      · cases k
    | dreg ops =>
      rw [run] at k ⊢
      split at k
      · rename_i e1 h1 hr; rw [runD_le hcall hr]; exact k
      · cases k

theorem run_le {n m : Nat} (hnm : n ≤ m) {c : ICode} {e : Env} {h : AHeap} {r : AX × Env × AHeap} (k : run S n c e h = some r) : run S m c e h = some r := by
  induction hnm with
  | refl => exact k
  | step _ ih => exact run_succ _ _ _ _ _ ih

theorem callN_le {n m : Nat} (hnm : n ≤ m) : CallLe (callN S n) (callN S m) := callBy_le fun _ _ _ _ k => run_le hnm k

/-- What a text does, whatever the fuel. -/
def Big (S : ASys) (c : ICode) (e : Env) (h : AHeap) (r : AX × Env × AHeap) : Prop := ∃ n, run S n c e h = some r
/-- What a call gives, whatever the fuel. -/
def Cl (S : ASys) (f : Nat) (args : List AV) (h : AHeap) (r : AV × AHeap) : Prop := ∃ n, callN S n f args h = some r

theorem Big.seq {a b : ICode} {e e1 : Env} {h h1 : AHeap} {r : AX × Env × AHeap} (ha : Big S a e h (.nx, e1, h1)) (hb : Big S b e1 h1 r) : Big S (.seq a b) e h r := by
  obtain ⟨n, hn⟩ := ha
  obtain ⟨m, hm⟩ := hb
  refine ⟨max n m + 1, ?_⟩
  rw [run, run_le (Nat.le_max_left n m) hn]
  exact run_le (Nat.le_max_right n m) hm

theorem Big.seq_out {a b : ICode} {e e1 : Env} {h h1 : AHeap} {x : AX} (ha : Big S a e h (x, e1, h1)) (hx : x ≠ .nx) : Big S (.seq a b) e h (x, e1, h1) := by
  obtain ⟨n, hn⟩ := ha
  refine ⟨n + 1, ?_⟩
  rw [run, hn]
  cases x <;> first | exact absurd rfl hx | rfl

theorem Big.loop {a : ICode} {e e1 : Env} {h h1 : AHeap} {r : AX × Env × AHeap} (ha : Big S a e h (.nx, e1, h1)) (hb : Big S (.loop a) e1 h1 r) : Big S (.loop a) e h r := by
  obtain ⟨n, hn⟩ := ha
  obtain ⟨m, hm⟩ := hb
  refine ⟨max n m + 1, ?_⟩
  rw [run, run_le (Nat.le_max_left n m) hn]
  exact run_le (Nat.le_max_right n m) hm

theorem Big.loop_out {a : ICode} {e e1 : Env} {h h1 : AHeap} {x : AX} (ha : Big S a e h (x, e1, h1)) (hx : x ≠ .nx) : Big S (.loop a) e h (x, e1, h1) := by
  obtain ⟨n, hn⟩ := ha
  refine ⟨n + 1, ?_⟩
  rw [run, hn]
  cases x <;> first | exact absurd rfl hx | rfl

theorem Big.block {a : ICode} {id : Nat} {e e1 : Env} {h h1 : AHeap} (ha : Big S a e h (.ex id, e1, h1)) : Big S (.block id a) e h (.nx, e1, h1) := by
  obtain ⟨n, hn⟩ := ha
  refine ⟨n + 1, ?_⟩
  rw [run, hn]
  simp

theorem Big.block_out {a : ICode} {id : Nat} {e e1 : Env} {h h1 : AHeap} {x : AX} (ha : Big S a e h (x, e1, h1)) (hx : x ≠ .ex id) : Big S (.block id a) e h (x, e1, h1) := by
  obtain ⟨n, hn⟩ := ha
  refine ⟨n + 1, ?_⟩
  rw [run, hn]
  cases x with
  | nx => rfl
  | rt => rfl
  | ex i =>
    have : Nat.beq i id = false := by
      cases hb : Nat.beq i id with
      | false => rfl
      | true => exact absurd (by rw [Nat.eq_of_beq_eq_true hb]) hx
    simp [this]

theorem Big.cond_true {a b : ICode} {c : Opd} {e : Env} {h : AHeap} {r : AX × Env × AHeap} (hc : c.ev e = .bool true) (ha : Big S a e h r) : Big S (.cond c a b) e h r := by
  obtain ⟨n, hn⟩ := ha
  exact ⟨n + 1, by rw [run, hc]; exact hn⟩

theorem Big.cond_false {a b : ICode} {c : Opd} {e : Env} {h : AHeap} {r : AX × Env × AHeap} (hc : c.ev e = .bool false) (hb : Big S b e h r) : Big S (.cond c a b) e h r := by
  obtain ⟨n, hn⟩ := hb
  exact ⟨n + 1, by rw [run, hc]; exact hn⟩

theorem Big.skip {e : Env} {h : AHeap} : Big S .skip e h (.nx, e, h) := ⟨1, rfl⟩
theorem Big.ret {e : Env} {h : AHeap} : Big S .ret e h (.rt, e, h) := ⟨1, rfl⟩
theorem Big.exit {id : Nat} {e : Env} {h : AHeap} : Big S (.exit id) e h (.ex id, e, h) := ⟨1, rfl⟩

theorem Big.reg {ops : List IOper} {n : Nat} {e e1 : Env} {h h1 : AHeap} (k : runOps S (callN S n) ops e h = some (e1, h1)) : Big S (.reg ops) e h (.nx, e1, h1) :=
  ⟨n + 1, by rw [run]; show (match runOps S (callN S n) ops e h with | some (e', h') => _ | none => _) = _; rw [k]⟩

theorem Big.dreg {ops : List (IOper × List Nat)} {n : Nat} {e e1 : Env} {h h1 : AHeap} (k : runD S (callN S n) ops ops e h = some (e1, h1)) : Big S (.dreg ops) e h (.nx, e1, h1) :=
  ⟨n + 1, by rw [run]; show (match runD S (callN S n) ops ops e h with | some (e', h') => _ | none => _) = _; rw [k]⟩

theorem Cl.code {f : Nat} {fn : IFn} (hs : S.sum f = none) (hf : S.code f = some fn) {args : List AV} {h h' : AHeap} {e' : Env} {x : AX} {v : AV} (hx : x = .nx ∨ x = .rt) (hb : Big S fn.body (args ++ List.replicate (fn.nt - args.length) .undef) h (x, e', h'))
    (hv : resVal e' h' fn.res = some v) : Cl S f args h (v, h') := by
  obtain ⟨n, hn⟩ := hb
  refine ⟨n, ?_⟩
  unfold callN callBy
  rw [hs]
  simp only [hf, hn]
  rcases hx with rfl | rfl <;> simp [hv]

theorem Cl.sum {f : Nat} {s : List AV → AHeap → Option (AV × AHeap)} (hs : S.sum f = some s) {args : List AV} {h : AHeap} {r : AV × AHeap} (k : s args h = some r) : Cl S f args h r :=
  ⟨0, by unfold callN callBy; rw [hs]; exact k⟩

end Go.Proofs.YtjldbkicpbchkaaGreat.Ev
