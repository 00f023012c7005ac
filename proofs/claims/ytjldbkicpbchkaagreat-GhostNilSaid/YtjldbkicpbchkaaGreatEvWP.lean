/-
  What a text, an operation, a call come to, told by what holds behind: rules for proofs over open values.
-/
import Derived.Test.YtjldbkicpbchkaaGreatEvMA
namespace Go.Proofs.YtjldbkicpbchkaaGreat.Ev
open Go

variable {S : ASys}

def Wt (S : ASys) (c : ICode) (e : Env) (h : AHeap) (Q : AX → Env → AHeap → Prop) : Prop := ∃ x e' h', Big S c e h (x, e', h') ∧ Q x e' h'
def Ca (S : ASys) (f : Nat) (args : List AV) (h : AHeap) (Q : AV → AHeap → Prop) : Prop := ∃ v h', Cl S f args h (v, h') ∧ Q v h'
def Os (S : ASys) (ops : List IOper) (e : Env) (h : AHeap) (Q : Env → AHeap → Prop) : Prop := ∃ n e' h', runOps S (callN S n) ops e h = some (e', h') ∧ Q e' h'
def Ds (S : ASys) (all ops : List (IOper × List Nat)) (e : Env) (h : AHeap) (Q : Env → AHeap → Prop) : Prop := ∃ n e' h', runD S (callN S n) all ops e h = some (e', h') ∧ Q e' h'
/-- What an operation comes to. -/
def Op1 (S : ASys) (o : IOp) (e : Env) (h : AHeap) (Q : AV → AHeap → Prop) : Prop := ∃ n v h', o.run S (callN S n) e h = some (v, h') ∧ Q v h'

theorem Wt.mono {c : ICode} {e : Env} {h : AHeap} {Q Q' : AX → Env → AHeap → Prop} (k : Wt S c e h Q) (hq : ∀ x e h, Q x e h → Q' x e h) : Wt S c e h Q' := by
  obtain ⟨x, e', h', h1, h2⟩ := k; exact ⟨x, e', h', h1, hq _ _ _ h2⟩
theorem Ca.mono {f : Nat} {args : List AV} {h : AHeap} {Q Q' : AV → AHeap → Prop} (k : Ca S f args h Q) (hq : ∀ v h, Q v h → Q' v h) : Ca S f args h Q' := by
  obtain ⟨v, h', h1, h2⟩ := k; exact ⟨v, h', h1, hq _ _ h2⟩
theorem Os.mono {ops : List IOper} {e : Env} {h : AHeap} {Q Q' : Env → AHeap → Prop} (k : Os S ops e h Q) (hq : ∀ e h, Q e h → Q' e h) : Os S ops e h Q' := by
  obtain ⟨n, e', h', h1, h2⟩ := k; exact ⟨n, e', h', h1, hq _ _ h2⟩

theorem Wt.seq {a b : ICode} {e : Env} {h : AHeap} {Q : AX → Env → AHeap → Prop} (k : Wt S a e h fun x e' h' => match x with | .nx => Wt S b e' h' Q | x => Q x e' h') : Wt S (.seq a b) e h Q := by
  obtain ⟨x, e1, h1, h2, h3⟩ := k
  cases x with
  | nx => obtain ⟨y, e2, h2', h4, h5⟩ := h3; exact ⟨y, e2, h2', h2.seq h4, h5⟩
  | rt => exact ⟨_, _, _, h2.seq_out (by simp), h3⟩
  | ex id => exact ⟨_, _, _, h2.seq_out (by simp), h3⟩
theorem Wt.skip {e : Env} {h : AHeap} {Q : AX → Env → AHeap → Prop} (k : Q .nx e h) : Wt S .skip e h Q := ⟨_, _, _, Big.skip, k⟩
theorem Wt.ret {e : Env} {h : AHeap} {Q : AX → Env → AHeap → Prop} (k : Q .rt e h) : Wt S .ret e h Q := ⟨_, _, _, Big.ret, k⟩
theorem Wt.exit {id : Nat} {e : Env} {h : AHeap} {Q : AX → Env → AHeap → Prop} (k : Q (.ex id) e h) : Wt S (.exit id) e h Q := ⟨_, _, _, Big.exit, k⟩
theorem Wt.block {id : Nat} {a : ICode} {e : Env} {h : AHeap} {Q : AX → Env → AHeap → Prop} (k : Wt S a e h fun x e' h' => match x with | .ex i => cond (Nat.beq i id) (Q .nx e' h') (Q (.ex i) e' h') | x => Q x e' h') : Wt S (.block id a) e h Q := by
  obtain ⟨x, e1, h1, h2, h3⟩ := k
  cases x with
  | nx => exact ⟨_, _, _, h2.block_out (by simp), h3⟩
  | rt => exact ⟨_, _, _, h2.block_out (by simp), h3⟩
  | ex i =>
    have h3 : cond (Nat.beq i id) (Q .nx e1 h1) (Q (.ex i) e1 h1) := h3
    cases hb : Nat.beq i id with
    | true => rw [hb] at h3; cases Nat.eq_of_beq_eq_true hb; exact ⟨_, _, _, h2.block, h3⟩
    | false =>
      rw [hb] at h3
      refine ⟨_, _, _, h2.block_out ?_, h3⟩
      intro hi; cases hi; simp at hb
theorem Wt.cond {a b : ICode} {c : Opd} {e : Env} {h : AHeap} {Q : AX → Env → AHeap → Prop} {t : Bool} (hc : c.ev e = .bool t) (ha : t = true → Wt S a e h Q) (hb : t = false → Wt S b e h Q) : Wt S (.cond c a b) e h Q := by
  cases t with
  | true => obtain ⟨x, e1, h1, h2, h3⟩ := ha rfl; exact ⟨x, e1, h1, Big.cond_true hc h2, h3⟩
  | false => obtain ⟨x, e1, h1, h2, h3⟩ := hb rfl; exact ⟨x, e1, h1, Big.cond_false hc h2, h3⟩
theorem Wt.reg {ops : List IOper} {e : Env} {h : AHeap} {Q : AX → Env → AHeap → Prop} (k : Os S ops e h fun e' h' => Q .nx e' h') : Wt S (.reg ops) e h Q := by
  obtain ⟨n, e', h', h1, h2⟩ := k; exact ⟨_, _, _, Big.reg h1, h2⟩
theorem Wt.dreg {ops : List (IOper × List Nat)} {e : Env} {h : AHeap} {Q : AX → Env → AHeap → Prop} (k : Ds S ops ops e h fun e' h' => Q .nx e' h') : Wt S (.dreg ops) e h Q := by
  obtain ⟨n, e', h', h1, h2⟩ := k; exact ⟨_, _, _, Big.dreg h1, h2⟩

/-- A loop, by what holds at its head: 'I n e h' with n rounds to go at most. -/
theorem Wt.loop {a : ICode} {Q : AX → Env → AHeap → Prop} (I : Nat → Env → AHeap → Prop)
    (step : ∀ n e h, I n e h → Wt S a e h fun x e' h' => match x with | .nx => ∃ m, m < n ∧ I m e' h' | x => Q x e' h') :
    ∀ (n : Nat) (e : Env) (h : AHeap), I n e h → Wt S (.loop a) e h Q := by
  intro n
  induction n using Nat.strongRecOn with
  | _ n ih =>
    intro e h hi
    obtain ⟨x, e1, h1, h2, h3⟩ := step n e h hi
    cases x with
    | nx => obtain ⟨m, hm, him⟩ := h3; obtain ⟨y, e2, h2', h4, h5⟩ := ih m hm e1 h1 him; exact ⟨y, e2, h2', h2.loop h4, h5⟩
    | rt => exact ⟨_, _, _, h2.loop_out (by simp), h3⟩
    | ex id => exact ⟨_, _, _, h2.loop_out (by simp), h3⟩
/-- One round of a loop. -/
theorem Wt.round {a : ICode} {e : Env} {h : AHeap} {Q : AX → Env → AHeap → Prop} (k : Wt S a e h fun x e' h' => match x with | .nx => Wt S (.loop a) e' h' Q | x => Q x e' h') : Wt S (.loop a) e h Q := by
  obtain ⟨x, e1, h1, h2, h3⟩ := k
  cases x with
  | nx => obtain ⟨y, e2, h2', h4, h5⟩ := h3; exact ⟨y, e2, h2', h2.loop h4, h5⟩
  | rt => exact ⟨_, _, _, h2.loop_out (by simp), h3⟩
  | ex id => exact ⟨_, _, _, h2.loop_out (by simp), h3⟩

/-! ### Operations -/
theorem Os.nil {e : Env} {h : AHeap} {Q : Env → AHeap → Prop} (k : Q e h) : Os S [] e h Q := ⟨0, _, _, rfl, k⟩
theorem Os.cons {o : IOper} {os : List IOper} {e : Env} {h : AHeap} {Q : Env → AHeap → Prop} (ho : o.on e = true) (k : Op1 S o.k e h fun v h' => Os S os (put e o.d v) h' Q) : Os S (o :: os) e h Q := by
  obtain ⟨n, v, h', h1, m, e2, h2, h3, h4⟩ := k
  refine ⟨max n m, e2, h2, ?_, h4⟩
  unfold runOps IOper.step
  rw [ho, IOp.run_le (callN_le (Nat.le_max_left n m)) h1]
  exact runOps_le (callN_le (Nat.le_max_right n m)) h3
theorem Os.off {o : IOper} {os : List IOper} {e : Env} {h : AHeap} {Q : Env → AHeap → Prop} (ho : o.on e = false) (k : Os S os (put e o.d .undef) h Q) : Os S (o :: os) e h Q := by
  obtain ⟨m, e2, h2, h3, h4⟩ := k
  refine ⟨m, e2, h2, ?_, h4⟩
  unfold runOps IOper.step
  rw [ho]
  exact h3
theorem Ds.nil {all : List (IOper × List Nat)} {e : Env} {h : AHeap} {Q : Env → AHeap → Prop} (k : Q e h) : Ds S all [] e h Q := ⟨0, _, _, rfl, k⟩
theorem Ds.cons {all : List (IOper × List Nat)} {o : IOper} {is : List Nat} {os : List (IOper × List Nat)} {e : Env} {h : AHeap} {Q : Env → AHeap → Prop} (ho : o.on e = true)
    (k : Op1 S o.k e h fun v h' => againAll all (put e o.d v) h' is = true ∧ Ds S all os (put e o.d v) h' Q) : Ds S all ((o, is) :: os) e h Q := by
  obtain ⟨n, v, h', h1, ha, m, e2, h2, h3, h4⟩ := k
  refine ⟨max n m, e2, h2, ?_, h4⟩
  unfold runD IOper.step
  rw [ho, IOp.run_le (callN_le (Nat.le_max_left n m)) h1]
  simp only [cond_true, ha]
  exact runD_le (callN_le (Nat.le_max_right n m)) h3
theorem Ds.off {all : List (IOper × List Nat)} {o : IOper} {is : List Nat} {os : List (IOper × List Nat)} {e : Env} {h : AHeap} {Q : Env → AHeap → Prop} (ho : o.on e = false)
    (k : againAll all (put e o.d .undef) h is = true ∧ Ds S all os (put e o.d .undef) h Q) : Ds S all ((o, is) :: os) e h Q := by
  obtain ⟨ha, m, e2, h2, h3, h4⟩ := k
  refine ⟨m, e2, h2, ?_, h4⟩
  unfold runD IOper.step
  rw [ho]
  simp only [cond_false, ha, cond_true]
  exact h3

theorem Op1.p {o : POp} {e : Env} {h : AHeap} {Q : AV → AHeap → Prop} {v : AV} (ho : o.run e = some v) (k : Q v h) : Op1 S (.p o) e h Q := ⟨0, v, h, by simp [IOp.run, ho], k⟩
theorem Op1.k {x : Opd} {e : Env} {h : AHeap} {Q : AV → AHeap → Prop} {v : AV} (ho : chkRun S (x.ev e) = some v) (k : Q v h) : Op1 S (.k x) e h Q := ⟨0, v, h, by simp [IOp.run, ho], k⟩
theorem Op1.r {o : ROp} {e : Env} {h : AHeap} {Q : AV → AHeap → Prop} {v : AV} (ho : o.run e h = some v) (k : Q v h) : Op1 S (.r o) e h Q := ⟨0, v, h, by simp [IOp.run, ho], k⟩
theorem Op1.n {o : NOp} {e : Env} {h : AHeap} {Q : AV → AHeap → Prop} {b : AObj} {mk : Nat → AV} (ho : o.run e = some (b, mk)) (k : Q (mk h.n) (h.push b)) : Op1 S (.n o) e h Q := ⟨0, _, _, by simp only [IOp.run, ho], k⟩
theorem Op1.a {o : AOp} {e : Env} {h h' : AHeap} {Q : AV → AHeap → Prop} {v : AV} (ho : o.run e h = some (v, h')) (k : Q v h') : Op1 S (.a o) e h Q := ⟨0, v, h', by simp [IOp.run, ho], k⟩
theorem Op1.fn {f : Nat} {args : List Opd} {e : Env} {h : AHeap} {Q : AV → AHeap → Prop} (k : Ca S f (args.map (·.ev e)) h Q) : Op1 S (.c (.fn f args)) e h Q := by
  obtain ⟨v, h', ⟨n, hn⟩, h2⟩ := k; exact ⟨n, v, h', hn, h2⟩
theorem Op1.val {x : Opd} {args : List Opd} {e : Env} {h : AHeap} {Q : AV → AHeap → Prop} {f : Nat} {first captured : List AV} (hx : x.ev e = .fn (.func f) first captured) (k : Ca S f (first ++ args.map (·.ev e) ++ captured) h Q) : Op1 S (.c (.val x args)) e h Q := by
  obtain ⟨v, h', ⟨n, hn⟩, h2⟩ := k; exact ⟨n, v, h', by simp only [IOp.run, COp.run, hx, valCall]; exact hn, h2⟩
theorem Op1.inv {x : Opd} {m : String} {args : List Opd} {e : Env} {h : AHeap} {Q : AV → AHeap → Prop} {t : TypeId} {y : AV} {f : Nat} (hx : x.ev e = .ifc t y) (hm : S.meth t m = some f) (k : Ca S f (y :: args.map (·.ev e)) h Q) : Op1 S (.c (.inv x m args)) e h Q := by
  obtain ⟨v, h', ⟨n, hn⟩, h2⟩ := k; exact ⟨n, v, h', by simp only [IOp.run, COp.run, hx, hm]; exact hn, h2⟩

/-! ### Calls -/
theorem Ca.code {f : Nat} {fn : IFn} (hs : S.sum f = none) (hf : S.code f = some fn) {args : List AV} {h : AHeap} {Q : AV → AHeap → Prop}
    (k : Wt S fn.body (args ++ List.replicate (fn.nt - args.length) .undef) h fun x e' h' => match x with | .ex _ => False | _ => ∃ v, resVal e' h' fn.res = some v ∧ Q v h') : Ca S f args h Q := by
  obtain ⟨x, e', h', h1, h2⟩ := k
  cases x with
  | nx => obtain ⟨v, h3, h4⟩ := h2; exact ⟨v, h', Cl.code hs hf (.inl rfl) h1 h3, h4⟩
  | rt => obtain ⟨v, h3, h4⟩ := h2; exact ⟨v, h', Cl.code hs hf (.inr rfl) h1 h3, h4⟩
  | ex id => exact h2.elim
theorem Ca.sum {f : Nat} {s : List AV → AHeap → Option (AV × AHeap)} (hs : S.sum f = some s) {args : List AV} {h h' : AHeap} {v : AV} {Q : AV → AHeap → Prop} (k : s args h = some (v, h')) (hq : Q v h') : Ca S f args h Q := ⟨v, h', Cl.sum hs k, hq⟩
theorem Ca.of {f : Nat} {args : List AV} {h h' : AHeap} {v : AV} {Q : AV → AHeap → Prop} (k : Cl S f args h (v, h')) (hq : Q v h') : Ca S f args h Q := ⟨v, h', k, hq⟩

/-! ### Heaps that grow -/
/-- All that was is as it was. -/
structure Ext (h h' : AHeap) : Prop where
  le : h.n ≤ h'.n
  get : ∀ b, b < h.n → h'.get b = h.get b
theorem Ext.refl (h : AHeap) : Ext h h := ⟨Nat.le_refl _, fun _ _ => rfl⟩
theorem Ext.trans {a b c : AHeap} (h : Ext a b) (k : Ext b c) : Ext a c := ⟨Nat.le_trans h.le k.le, fun x hx => (k.get x (Nat.lt_of_lt_of_le hx h.le)).trans (h.get x hx)⟩
theorem Ext.push {a b : AHeap} (h : Ext a b) (o : AObj) : Ext a (b.push o) := ⟨Nat.le_succ_of_le h.le, fun x hx => (AHeap.get_push_ne _ _ (by have := h.le; omega)).trans (h.get x hx)⟩
theorem Ext.set {a b : AHeap} (h : Ext a b) {i : Nat} (hi : a.n ≤ i) (o : AObj) : Ext a (b.set i o) := ⟨h.le, fun x hx => (AHeap.get_set_ne _ _ (by omega)).trans (h.get x hx)⟩

end Go.Proofs.YtjldbkicpbchkaaGreat.Ev
