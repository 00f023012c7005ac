/-
  The rules over open values as equivalences, to rewrite with.
-/
import Derived.Test.YtjldbkicpbchkaaGreatEvWP
namespace Go.Proofs.YtjldbkicpbchkaaGreat.Ev
open Go

variable {S : ASys}

theorem Os_nil {e : Env} {h : AHeap} {Q : Env → AHeap → Prop} : Os S [] e h Q ↔ Q e h :=
  ⟨fun ⟨_, e', h', h1, h2⟩ => by simp [runOps] at h1; obtain ⟨rfl, rfl⟩ := h1; exact h2, Os.nil⟩

theorem Os_cons {o : IOper} {os : List IOper} {e : Env} {h : AHeap} {Q : Env → AHeap → Prop} (ho : o.on e = true) : Os S (o :: os) e h Q ↔ Op1 S o.k e h fun v h' => Os S os (put e o.d v) h' Q := by
  refine ⟨fun ⟨n, e', h', h1, h2⟩ => ?_, Os.cons ho⟩
  simp only [runOps, IOper.step, ho, cond_true] at h1
  cases hv : o.k.run S (callN S n) e h with
  | none => rw [hv] at h1; cases h1
  | some r => rw [hv] at h1; exact ⟨n, r.1, r.2, hv, n, e', h', h1, h2⟩

theorem Os_off {o : IOper} {os : List IOper} {e : Env} {h : AHeap} {Q : Env → AHeap → Prop} (ho : o.on e = false) : Os S (o :: os) e h Q ↔ Os S os (put e o.d .undef) h Q := by
  refine ⟨fun ⟨n, e', h', h1, h2⟩ => ?_, Os.off ho⟩
  simp only [runOps, IOper.step, ho, cond_false] at h1
  exact ⟨n, e', h', h1, h2⟩

theorem Op1_p {o : POp} {e : Env} {h : AHeap} {Q : AV → AHeap → Prop} : Op1 S (.p o) e h Q ↔ ∃ v, o.run e = some v ∧ Q v h := by
  refine ⟨fun ⟨n, v, h', h1, h2⟩ => ?_, fun ⟨v, h1, h2⟩ => Op1.p h1 h2⟩
  simp only [IOp.run] at h1
  split at h1 <;> simp at h1
  obtain ⟨rfl, rfl⟩ := h1
  exact ⟨_, by assumption, h2⟩
theorem Op1_k {x : Opd} {e : Env} {h : AHeap} {Q : AV → AHeap → Prop} : Op1 S (.k x) e h Q ↔ ∃ v, chkRun S (x.ev e) = some v ∧ Q v h := by
  refine ⟨fun ⟨n, v, h', h1, h2⟩ => ?_, fun ⟨v, h1, h2⟩ => Op1.k h1 h2⟩
  simp only [IOp.run] at h1
  split at h1 <;> simp at h1
  obtain ⟨rfl, rfl⟩ := h1
  exact ⟨_, by assumption, h2⟩
theorem Op1_r {o : ROp} {e : Env} {h : AHeap} {Q : AV → AHeap → Prop} : Op1 S (.r o) e h Q ↔ ∃ v, o.run e h = some v ∧ Q v h := by
  refine ⟨fun ⟨n, v, h', h1, h2⟩ => ?_, fun ⟨v, h1, h2⟩ => Op1.r h1 h2⟩
  simp only [IOp.run] at h1
  split at h1 <;> simp at h1
  obtain ⟨rfl, rfl⟩ := h1
  exact ⟨_, by assumption, h2⟩
theorem Op1_n {o : NOp} {e : Env} {h : AHeap} {Q : AV → AHeap → Prop} : Op1 S (.n o) e h Q ↔ ∃ b, o.run e = some b ∧ Q (b.2 h.n) (h.push b.1) := by
  refine ⟨fun ⟨n, v, h', h1, h2⟩ => ?_, fun ⟨b, h1, h2⟩ => Op1.n (b := b.1) (mk := b.2) h1 h2⟩
  simp only [IOp.run] at h1
  split at h1 <;> simp at h1
  obtain ⟨rfl, rfl⟩ := h1
  exact ⟨_, by assumption, h2⟩
theorem Op1_a {o : AOp} {e : Env} {h : AHeap} {Q : AV → AHeap → Prop} : Op1 S (.a o) e h Q ↔ ∃ r, o.run e h = some r ∧ Q r.1 r.2 :=
  ⟨fun ⟨_, v, h', h1, h2⟩ => ⟨(v, h'), h1, h2⟩, fun ⟨r, h1, h2⟩ => Op1.a (v := r.1) (h' := r.2) h1 h2⟩
theorem Op1_fn {f : Nat} {args : List Opd} {e : Env} {h : AHeap} {Q : AV → AHeap → Prop} : Op1 S (.c (.fn f args)) e h Q ↔ Ca S f (args.map (·.ev e)) h Q :=
  ⟨fun ⟨n, v, h', h1, h2⟩ => ⟨v, h', ⟨n, h1⟩, h2⟩, Op1.fn⟩

/-! As simp takes them: an operation alone, by its kind and its guard. -/
theorem Os_p {d : Option Nat} {o : POp} {os : List IOper} {e : Env} {h : AHeap} {Q : Env → AHeap → Prop} : Os S (⟨d, none, .p o⟩ :: os) e h Q ↔ ∃ v, o.run e = some v ∧ Os S os (put e d v) h Q := by rw [Os_cons rfl]; exact Op1_p
theorem Os_k {d : Option Nat} {x : Opd} {os : List IOper} {e : Env} {h : AHeap} {Q : Env → AHeap → Prop} : Os S (⟨d, none, .k x⟩ :: os) e h Q ↔ ∃ v, chkRun S (x.ev e) = some v ∧ Os S os (put e d v) h Q := by rw [Os_cons rfl]; exact Op1_k
theorem Os_r {d : Option Nat} {o : ROp} {os : List IOper} {e : Env} {h : AHeap} {Q : Env → AHeap → Prop} : Os S (⟨d, none, .r o⟩ :: os) e h Q ↔ ∃ v, o.run e h = some v ∧ Os S os (put e d v) h Q := by rw [Os_cons rfl]; exact Op1_r
theorem Os_n {d : Option Nat} {o : NOp} {os : List IOper} {e : Env} {h : AHeap} {Q : Env → AHeap → Prop} : Os S (⟨d, none, .n o⟩ :: os) e h Q ↔ ∃ b, o.run e = some b ∧ Os S os (put e d (b.2 h.n)) (h.push b.1) Q := by rw [Os_cons rfl]; exact Op1_n
theorem Os_a {d : Option Nat} {o : AOp} {os : List IOper} {e : Env} {h : AHeap} {Q : Env → AHeap → Prop} : Os S (⟨d, none, .a o⟩ :: os) e h Q ↔ ∃ r, o.run e h = some r ∧ Os S os (put e d r.1) r.2 Q := by rw [Os_cons rfl]; exact Op1_a
theorem Os_fn {d : Option Nat} {f : Nat} {args : List Opd} {os : List IOper} {e : Env} {h : AHeap} {Q : Env → AHeap → Prop} : Os S (⟨d, none, .c (.fn f args)⟩ :: os) e h Q ↔ Ca S f (args.map (·.ev e)) h fun v h' => Os S os (put e d v) h' Q := by rw [Os_cons rfl]; exact Op1_fn
theorem Os_c {d : Option Nat} {o : COp} {os : List IOper} {e : Env} {h : AHeap} {Q : Env → AHeap → Prop} : Os S (⟨d, none, .c o⟩ :: os) e h Q ↔ Op1 S (.c o) e h fun v h' => Os S os (put e d v) h' Q := by rw [Os_cons rfl]
theorem Os_g {d : Option Nat} {t : Nat} {want : Bool} {k : IOp} {os : List IOper} {e : Env} {h : AHeap} {Q : Env → AHeap → Prop} {b : Bool} (hb : e.getD t .undef = .bool b) :
    Os S (⟨d, some (t, want), k⟩ :: os) e h Q ↔ bif b == want then Os S (⟨d, none, k⟩ :: os) e h Q else Os S os (put e d .undef) h Q := by
  have ho : IOper.on ⟨d, some (t, want), k⟩ e = (b == want) := by simp only [IOper.on, hb]
  cases hw : b == want with
  | true => rw [Os_cons (ho.trans hw), cond_true, Os_cons rfl]
  | false => rw [Os_off (ho.trans hw), cond_false]

theorem Wt_seq0 {a b : ICode} {e : Env} {h : AHeap} {Q : AX → Env → AHeap → Prop} : Wt S (.seq a b) e h Q ↔ Wt S a e h fun x e' h' => match x with | .nx => Wt S b e' h' Q | x => Q x e' h' := by
  refine ⟨fun ⟨x, e', h', ⟨n, h1⟩, h2⟩ => ?_, Wt.seq⟩
  cases n with
  | zero => cases h1
  | succ n =>
    rw [run] at h1
    split at h1
    · rename_i e1 h3 hr; exact ⟨.nx, e1, h3, ⟨n, hr⟩, x, e', h', ⟨n, h1⟩, h2⟩
    · rename_i hne
      refine ⟨x, e', h', ⟨n, h1⟩, ?_⟩
      cases x with
      | nx => exact absurd h1 (hne _ _)
      | rt => exact h2
      | ex id => exact h2
theorem Wt_skip {e : Env} {h : AHeap} {Q : AX → Env → AHeap → Prop} : Wt S .skip e h Q ↔ Q .nx e h := by
  refine ⟨fun ⟨x, e', h', ⟨n, h1⟩, h2⟩ => ?_, Wt.skip⟩
  cases n with
  | zero => cases h1
  | succ n => simp [run] at h1; obtain ⟨rfl, rfl, rfl⟩ := h1; exact h2
theorem Wt_ret {e : Env} {h : AHeap} {Q : AX → Env → AHeap → Prop} : Wt S .ret e h Q ↔ Q .rt e h := by
  refine ⟨fun ⟨x, e', h', ⟨n, h1⟩, h2⟩ => ?_, Wt.ret⟩
  cases n with
  | zero => cases h1
  | succ n => simp [run] at h1; obtain ⟨rfl, rfl, rfl⟩ := h1; exact h2
theorem Wt_exit {id : Nat} {e : Env} {h : AHeap} {Q : AX → Env → AHeap → Prop} : Wt S (.exit id) e h Q ↔ Q (.ex id) e h := by
  refine ⟨fun ⟨x, e', h', ⟨n, h1⟩, h2⟩ => ?_, Wt.exit⟩
  cases n with
  | zero => cases h1
  | succ n => simp [run] at h1; obtain ⟨rfl, rfl, rfl⟩ := h1; exact h2
theorem Wt_reg0 {ops : List IOper} {e : Env} {h : AHeap} {Q : AX → Env → AHeap → Prop} : Wt S (.reg ops) e h Q ↔ Os S ops e h fun e' h' => Q .nx e' h' := by
  refine ⟨fun ⟨x, e', h', ⟨n, h1⟩, h2⟩ => ?_, Wt.reg⟩
  cases n with
  | zero => cases h1
  | succ n =>
    rw [run] at h1
    split at h1 <;> simp at h1
    obtain ⟨rfl, rfl, rfl⟩ := h1
    exact ⟨n, _, _, by assumption, h2⟩
theorem Wt_cond {a b : ICode} {c : Opd} {e : Env} {h : AHeap} {Q : AX → Env → AHeap → Prop} {t : Bool} (hc : c.ev e = .bool t) : Wt S (.cond c a b) e h Q ↔ bif t then Wt S a e h Q else Wt S b e h Q := by
  refine ⟨fun ⟨x, e', h', ⟨n, h1⟩, h2⟩ => ?_, fun k => ?_⟩
  · cases n with
    | zero => cases h1
    | succ n =>
      rw [run, hc] at h1
      cases t with
      | true => exact ⟨_, _, _, ⟨n, h1⟩, h2⟩
      | false => exact ⟨_, _, _, ⟨n, h1⟩, h2⟩
  · cases t with
    | true => exact Wt.cond hc (fun _ => k) (fun h => by cases h)
    | false => exact Wt.cond hc (fun h => by cases h) (fun _ => k)


/-! What comes behind, as a stack. -/
def SeqK (S : ASys) (b : ICode) (Q : AX → Env → AHeap → Prop) : AX → Env → AHeap → Prop := fun x e h => match x with | .nx => Wt S b e h Q | x => Q x e h
def BlkK (id : Nat) (Q : AX → Env → AHeap → Prop) : AX → Env → AHeap → Prop := fun x e h => match x with | .ex i => bif Nat.beq i id then Q .nx e h else Q (.ex i) e h | x => Q x e h
def RegK (Q : AX → Env → AHeap → Prop) : Env → AHeap → Prop := fun e h => Q .nx e h
def FnK (rs : List IRes) (Q : AV → AHeap → Prop) : AX → Env → AHeap → Prop := fun x e h => match x with | .ex _ => False | _ => ∃ v, resVal e h rs = some v ∧ Q v h
def OpK (S : ASys) (os : List IOper) (d : Option Nat) (e : Env) (Q : Env → AHeap → Prop) : AV → AHeap → Prop := fun v h => Os S os (put e d v) h Q
def DpK (S : ASys) (all : List (IOper × List Nat)) (is : List Nat) (os : List (IOper × List Nat)) (d : Option Nat) (e : Env) (Q : Env → AHeap → Prop) : AV → AHeap → Prop := fun v h => againAll all (put e d v) h is = true ∧ Ds S all os (put e d v) h Q
/-- The head of a loop, behind a round. -/
def LoopK (S : ASys) (a : ICode) (Q : AX → Env → AHeap → Prop) : AX → Env → AHeap → Prop := fun x e h => match x with | .nx => Wt S (.loop a) e h Q | x => Q x e h

theorem Wt_seq {a b : ICode} {e : Env} {h : AHeap} {Q : AX → Env → AHeap → Prop} : Wt S (.seq a b) e h Q ↔ Wt S a e h (SeqK S b Q) := Wt_seq0
theorem Wt_reg {ops : List IOper} {e : Env} {h : AHeap} {Q : AX → Env → AHeap → Prop} : Wt S (.reg ops) e h Q ↔ Os S ops e h (RegK Q) := Wt_reg0
theorem Wt_dreg {ops : List (IOper × List Nat)} {e : Env} {h : AHeap} {Q : AX → Env → AHeap → Prop} : Wt S (.dreg ops) e h Q ↔ Ds S ops ops e h (RegK Q) := by
  refine ⟨fun ⟨x, e', h', ⟨n, h1⟩, h2⟩ => ?_, Wt.dreg⟩
  cases n with
  | zero => cases h1
  | succ n =>
    rw [run] at h1
    split at h1 <;> simp at h1
    obtain ⟨rfl, rfl, rfl⟩ := h1
    exact ⟨n, _, _, by assumption, h2⟩
theorem Wt_block {id : Nat} {a : ICode} {e : Env} {h : AHeap} {Q : AX → Env → AHeap → Prop} : Wt S (.block id a) e h Q ↔ Wt S a e h (BlkK id Q) := by
  refine ⟨fun ⟨x, e', h', ⟨n, h1⟩, h2⟩ => ?_, Wt.block⟩
  cases n with
  | zero => cases h1
  | succ n =>
    rw [run] at h1
    split at h1
    · rename_i i e1 h3 hr
      refine ⟨_, _, _, ⟨n, hr⟩, ?_⟩
      show bif Nat.beq i id then _ else _
      cases hb : Nat.beq i id with
      | true => rw [hb] at h1; simp at h1; obtain ⟨rfl, rfl, rfl⟩ := h1; exact h2
      | false => rw [hb] at h1; simp at h1; obtain ⟨rfl, rfl, rfl⟩ := h1; exact h2
    · rename_i hne
      refine ⟨x, e', h', ⟨n, h1⟩, ?_⟩
      cases x with
      | ex i => exact absurd h1 (hne _ _ _)
      | nx => exact h2
      | rt => exact h2
theorem Wt_round {a : ICode} {e : Env} {h : AHeap} {Q : AX → Env → AHeap → Prop} (k : Wt S a e h (LoopK S a Q)) : Wt S (.loop a) e h Q := Wt.round k

theorem SeqK_nx {b : ICode} {e : Env} {h : AHeap} {Q : AX → Env → AHeap → Prop} : SeqK S b Q .nx e h ↔ Wt S b e h Q := Iff.rfl
theorem SeqK_rt {b : ICode} {e : Env} {h : AHeap} {Q : AX → Env → AHeap → Prop} : SeqK S b Q .rt e h ↔ Q .rt e h := Iff.rfl
theorem SeqK_ex {b : ICode} {i : Nat} {e : Env} {h : AHeap} {Q : AX → Env → AHeap → Prop} : SeqK S b Q (.ex i) e h ↔ Q (.ex i) e h := Iff.rfl
theorem BlkK_nx {id : Nat} {e : Env} {h : AHeap} {Q : AX → Env → AHeap → Prop} : BlkK id Q .nx e h ↔ Q .nx e h := Iff.rfl
theorem BlkK_rt {id : Nat} {e : Env} {h : AHeap} {Q : AX → Env → AHeap → Prop} : BlkK id Q .rt e h ↔ Q .rt e h := Iff.rfl
theorem BlkK_ex {id i : Nat} {e : Env} {h : AHeap} {Q : AX → Env → AHeap → Prop} : BlkK id Q (.ex i) e h ↔ bif Nat.beq i id then Q .nx e h else Q (.ex i) e h := Iff.rfl
theorem RegK_eq {e : Env} {h : AHeap} {Q : AX → Env → AHeap → Prop} : RegK Q e h ↔ Q .nx e h := Iff.rfl
theorem LoopK_nx {a : ICode} {e : Env} {h : AHeap} {Q : AX → Env → AHeap → Prop} : LoopK S a Q .nx e h ↔ Wt S (.loop a) e h Q := Iff.rfl
theorem LoopK_rt {a : ICode} {e : Env} {h : AHeap} {Q : AX → Env → AHeap → Prop} : LoopK S a Q .rt e h ↔ Q .rt e h := Iff.rfl
theorem LoopK_ex {a : ICode} {i : Nat} {e : Env} {h : AHeap} {Q : AX → Env → AHeap → Prop} : LoopK S a Q (.ex i) e h ↔ Q (.ex i) e h := Iff.rfl
theorem FnK_nx {rs : List IRes} {e : Env} {h : AHeap} {Q : AV → AHeap → Prop} : FnK rs Q .nx e h ↔ ∃ v, resVal e h rs = some v ∧ Q v h := Iff.rfl
theorem FnK_rt {rs : List IRes} {e : Env} {h : AHeap} {Q : AV → AHeap → Prop} : FnK rs Q .rt e h ↔ ∃ v, resVal e h rs = some v ∧ Q v h := Iff.rfl
theorem OpK_eq {os : List IOper} {d : Option Nat} {e : Env} {h : AHeap} {Q : Env → AHeap → Prop} {v : AV} : OpK S os d e Q v h ↔ Os S os (put e d v) h Q := Iff.rfl
theorem Os_f {d : Option Nat} {f : Nat} {args : List Opd} {os : List IOper} {e : Env} {h : AHeap} {Q : Env → AHeap → Prop} : Os S (⟨d, none, .c (.fn f args)⟩ :: os) e h Q ↔ Ca S f (args.map (·.ev e)) h (OpK S os d e Q) := Os_fn
theorem Ca.enter {f : Nat} {fn : IFn} (hs : S.sum f = none) (hf : S.code f = some fn) {args : List AV} {h : AHeap} {Q : AV → AHeap → Prop}
    (k : Wt S fn.body (args ++ List.replicate (fn.nt - args.length) .undef) h (FnK fn.res Q)) : Ca S f args h Q := by
  refine Ca.code hs hf (k.mono fun x e h k => ?_)
  cases x <;> exact k

/-! A guard. -/
def OsG (S : ASys) (g : AV) (want : Bool) (d : Option Nat) (k : IOp) (os : List IOper) (e : Env) (h : AHeap) (Q : Env → AHeap → Prop) : Prop :=
  bif (match g with | .bool b => b == want | _ => false) then Os S (⟨d, none, k⟩ :: os) e h Q else Os S os (put e d .undef) h Q
theorem Os_guard {d : Option Nat} {t : Nat} {want : Bool} {k : IOp} {os : List IOper} {e : Env} {h : AHeap} {Q : Env → AHeap → Prop} :
    Os S (⟨d, some (t, want), k⟩ :: os) e h Q ↔ OsG S (e.getD t .undef) want d k os e h Q := by
  have ho : IOper.on ⟨d, some (t, want), k⟩ e = (match e.getD t .undef with | .bool b => b == want | _ => false) := rfl
  unfold OsG
  generalize hw : (match e.getD t .undef with | .bool b => b == want | _ => false) = w at ho
  cases w with
  | true => rw [Os_cons ho, cond_true, Os_cons rfl]
  | false => rw [Os_off ho, cond_false]
theorem OsG_bool {b want : Bool} {d : Option Nat} {k : IOp} {os : List IOper} {e : Env} {h : AHeap} {Q : Env → AHeap → Prop} :
    OsG S (.bool b) want d k os e h Q ↔ bif b == want then Os S (⟨d, none, k⟩ :: os) e h Q else Os S os (put e d .undef) h Q := Iff.rfl
theorem OsG_undef {want : Bool} {d : Option Nat} {k : IOp} {os : List IOper} {e : Env} {h : AHeap} {Q : Env → AHeap → Prop} :
    OsG S .undef want d k os e h Q ↔ Os S os (put e d .undef) h Q := Iff.rfl
/-- A branch. -/
def WtC (S : ASys) (c : AV) (a b : ICode) (e : Env) (h : AHeap) (Q : AX → Env → AHeap → Prop) : Prop := ∃ t, c = .bool t ∧ bif t then Wt S a e h Q else Wt S b e h Q
theorem Wt_cnd {a b : ICode} {c : Opd} {e : Env} {h : AHeap} {Q : AX → Env → AHeap → Prop} : Wt S (.cond c a b) e h Q ↔ WtC S (c.ev e) a b e h Q := by
  constructor
  · rintro ⟨x, e', h', ⟨n, h1⟩, h2⟩
    cases n with
    | zero => cases h1
    | succ n =>
      rw [run] at h1
      split at h1
      · rename_i hc; exact ⟨true, hc, x, e', h', ⟨n, h1⟩, h2⟩
      · rename_i hc; exact ⟨false, hc, x, e', h', ⟨n, h1⟩, h2⟩
      · cases h1
  · rintro ⟨t, hc, k⟩
    rw [Wt_cond hc]
    exact k
theorem WtC_bool {t : Bool} {a b : ICode} {e : Env} {h : AHeap} {Q : AX → Env → AHeap → Prop} : WtC S (.bool t) a b e h Q ↔ bif t then Wt S a e h Q else Wt S b e h Q := by
  constructor
  · rintro ⟨t', ht, k⟩; cases ht; exact k
  · exact fun k => ⟨t, rfl, k⟩
theorem cnd_split {b : Bool} {A B : Prop} (ha : b = true → A) (hb : b = false → B) : bif b then A else B := by cases b <;> simp_all

theorem OsG_tt {d : Option Nat} {k : IOp} {os : List IOper} {e : Env} {h : AHeap} {Q : Env → AHeap → Prop} : OsG S (.bool true) true d k os e h Q ↔ Os S (⟨d, none, k⟩ :: os) e h Q := Iff.rfl
theorem OsG_ff {d : Option Nat} {k : IOp} {os : List IOper} {e : Env} {h : AHeap} {Q : Env → AHeap → Prop} : OsG S (.bool false) false d k os e h Q ↔ Os S (⟨d, none, k⟩ :: os) e h Q := Iff.rfl
theorem OsG_tf {d : Option Nat} {k : IOp} {os : List IOper} {e : Env} {h : AHeap} {Q : Env → AHeap → Prop} : OsG S (.bool true) false d k os e h Q ↔ Os S os (put e d .undef) h Q := Iff.rfl
theorem OsG_ft {d : Option Nat} {k : IOp} {os : List IOper} {e : Env} {h : AHeap} {Q : Env → AHeap → Prop} : OsG S (.bool false) true d k os e h Q ↔ Os S os (put e d .undef) h Q := Iff.rfl
theorem OsG_cases {b want : Bool} {d : Option Nat} {k : IOp} {os : List IOper} {e : Env} {h : AHeap} {Q : Env → AHeap → Prop} (ht : b = true → OsG S (.bool true) want d k os e h Q) (hf : b = false → OsG S (.bool false) want d k os e h Q) : OsG S (.bool b) want d k os e h Q := by
  cases b with
  | true => exact ht rfl
  | false => exact hf rfl
theorem WtC_t {a b : ICode} {e : Env} {h : AHeap} {Q : AX → Env → AHeap → Prop} : WtC S (.bool true) a b e h Q ↔ Wt S a e h Q := WtC_bool
theorem WtC_f {a b : ICode} {e : Env} {h : AHeap} {Q : AX → Env → AHeap → Prop} : WtC S (.bool false) a b e h Q ↔ Wt S b e h Q := WtC_bool
theorem WtC_cases {t : Bool} {a b : ICode} {e : Env} {h : AHeap} {Q : AX → Env → AHeap → Prop} (ht : t = true → Wt S a e h Q) (hf : t = false → Wt S b e h Q) : WtC S (.bool t) a b e h Q := by
  cases t with
  | true => exact WtC_t.2 (ht rfl)
  | false => exact WtC_f.2 (hf rfl)

/-! A statement whose order is drawn. -/
theorem Ds_nil {all : List (IOper × List Nat)} {e : Env} {h : AHeap} {Q : Env → AHeap → Prop} : Ds S all [] e h Q ↔ Q e h :=
  ⟨fun ⟨_, e', h', h1, h2⟩ => by simp [runD] at h1; obtain ⟨rfl, rfl⟩ := h1; exact h2, Ds.nil⟩
theorem Ds_cons {all : List (IOper × List Nat)} {o : IOper} {is : List Nat} {os : List (IOper × List Nat)} {e : Env} {h : AHeap} {Q : Env → AHeap → Prop} (ho : o.on e = true) :
    Ds S all ((o, is) :: os) e h Q ↔ Op1 S o.k e h (DpK S all is os o.d e Q) := by
  refine ⟨fun ⟨n, e', h', h1, h2⟩ => ?_, fun k => Ds.cons ho k⟩
  simp only [runD, IOper.step, ho, cond_true] at h1
  cases hv : o.k.run S (callN S n) e h with
  | none => rw [hv] at h1; cases h1
  | some r =>
    rw [hv] at h1
    obtain ⟨v, h3⟩ := r
    simp only at h1
    cases ha : againAll all (put e o.d v) h3 is with
    | false => rw [ha] at h1; cases h1
    | true => rw [ha] at h1; exact ⟨n, v, h3, hv, ha, n, e', h', h1, h2⟩
theorem Ds_off {all : List (IOper × List Nat)} {o : IOper} {is : List Nat} {os : List (IOper × List Nat)} {e : Env} {h : AHeap} {Q : Env → AHeap → Prop} (ho : o.on e = false) :
    Ds S all ((o, is) :: os) e h Q ↔ againAll all (put e o.d .undef) h is = true ∧ Ds S all os (put e o.d .undef) h Q := by
  refine ⟨fun ⟨n, e', h', h1, h2⟩ => ?_, Ds.off ho⟩
  simp only [runD, IOper.step, ho, cond_false] at h1
  cases ha : againAll all (put e o.d .undef) h is with
  | false => rw [ha] at h1; cases h1
  | true => rw [ha] at h1; exact ⟨rfl, n, e', h', h1, h2⟩
theorem DpK_eq {all : List (IOper × List Nat)} {is : List Nat} {os : List (IOper × List Nat)} {d : Option Nat} {e : Env} {h : AHeap} {Q : Env → AHeap → Prop} {v : AV} :
    DpK S all is os d e Q v h ↔ againAll all (put e d v) h is = true ∧ Ds S all os (put e d v) h Q := Iff.rfl
theorem Ds_p {all : List (IOper × List Nat)} {is : List Nat} {os : List (IOper × List Nat)} {d : Option Nat} {o : POp} {e : Env} {h : AHeap} {Q : Env → AHeap → Prop} :
    Ds S all ((⟨d, none, .p o⟩, is) :: os) e h Q ↔ ∃ v, o.run e = some v ∧ DpK S all is os d e Q v h := by rw [Ds_cons rfl]; exact Op1_p
theorem Ds_k {all : List (IOper × List Nat)} {is : List Nat} {os : List (IOper × List Nat)} {d : Option Nat} {x : Opd} {e : Env} {h : AHeap} {Q : Env → AHeap → Prop} :
    Ds S all ((⟨d, none, .k x⟩, is) :: os) e h Q ↔ ∃ v, chkRun S (x.ev e) = some v ∧ DpK S all is os d e Q v h := by rw [Ds_cons rfl]; exact Op1_k
theorem Ds_r {all : List (IOper × List Nat)} {is : List Nat} {os : List (IOper × List Nat)} {d : Option Nat} {o : ROp} {e : Env} {h : AHeap} {Q : Env → AHeap → Prop} :
    Ds S all ((⟨d, none, .r o⟩, is) :: os) e h Q ↔ ∃ v, o.run e h = some v ∧ DpK S all is os d e Q v h := by rw [Ds_cons rfl]; exact Op1_r
theorem Ds_n {all : List (IOper × List Nat)} {is : List Nat} {os : List (IOper × List Nat)} {d : Option Nat} {o : NOp} {e : Env} {h : AHeap} {Q : Env → AHeap → Prop} :
    Ds S all ((⟨d, none, .n o⟩, is) :: os) e h Q ↔ ∃ b, o.run e = some b ∧ DpK S all is os d e Q (b.2 h.n) (h.push b.1) := by rw [Ds_cons rfl]; exact Op1_n
theorem Ds_a {all : List (IOper × List Nat)} {is : List Nat} {os : List (IOper × List Nat)} {d : Option Nat} {o : AOp} {e : Env} {h : AHeap} {Q : Env → AHeap → Prop} :
    Ds S all ((⟨d, none, .a o⟩, is) :: os) e h Q ↔ ∃ r, o.run e h = some r ∧ DpK S all is os d e Q r.1 r.2 := by rw [Ds_cons rfl]; exact Op1_a
theorem Ds_f {all : List (IOper × List Nat)} {is : List Nat} {os : List (IOper × List Nat)} {d : Option Nat} {f : Nat} {args : List Opd} {e : Env} {h : AHeap} {Q : Env → AHeap → Prop} :
    Ds S all ((⟨d, none, .c (.fn f args)⟩, is) :: os) e h Q ↔ Ca S f (args.map (·.ev e)) h (DpK S all is os d e Q) := by rw [Ds_cons rfl]; exact Op1_fn
theorem Ds_c {all : List (IOper × List Nat)} {is : List Nat} {os : List (IOper × List Nat)} {d : Option Nat} {o : COp} {e : Env} {h : AHeap} {Q : Env → AHeap → Prop} :
    Ds S all ((⟨d, none, .c o⟩, is) :: os) e h Q ↔ Op1 S (.c o) e h (DpK S all is os d e Q) := by rw [Ds_cons rfl]
def DsG (S : ASys) (g : AV) (want : Bool) (d : Option Nat) (k : IOp) (all : List (IOper × List Nat)) (is : List Nat) (os : List (IOper × List Nat)) (e : Env) (h : AHeap) (Q : Env → AHeap → Prop) : Prop :=
  bif (match g with | .bool b => b == want | _ => false) then Ds S all ((⟨d, none, k⟩, is) :: os) e h Q else againAll all (put e d .undef) h is = true ∧ Ds S all os (put e d .undef) h Q
theorem Ds_guard {all : List (IOper × List Nat)} {is : List Nat} {os : List (IOper × List Nat)} {d : Option Nat} {t : Nat} {want : Bool} {k : IOp} {e : Env} {h : AHeap} {Q : Env → AHeap → Prop} :
    Ds S all ((⟨d, some (t, want), k⟩, is) :: os) e h Q ↔ DsG S (e.getD t .undef) want d k all is os e h Q := by
  have ho : IOper.on ⟨d, some (t, want), k⟩ e = (match e.getD t .undef with | .bool b => b == want | _ => false) := rfl
  unfold DsG
  generalize hw : (match e.getD t .undef with | .bool b => b == want | _ => false) = w at ho
  cases w with
  | true => rw [Ds_cons ho, cond_true, Ds_cons rfl]
  | false => rw [Ds_off ho, cond_false]
theorem DsG_bool {b want : Bool} {d : Option Nat} {k : IOp} {all : List (IOper × List Nat)} {is : List Nat} {os : List (IOper × List Nat)} {e : Env} {h : AHeap} {Q : Env → AHeap → Prop} :
    DsG S (.bool b) want d k all is os e h Q ↔ bif b == want then Ds S all ((⟨d, none, k⟩, is) :: os) e h Q else againAll all (put e d .undef) h is = true ∧ Ds S all os (put e d .undef) h Q := Iff.rfl

theorem DsG_tt {d : Option Nat} {k : IOp} {all : List (IOper × List Nat)} {is : List Nat} {os : List (IOper × List Nat)} {e : Env} {h : AHeap} {Q : Env → AHeap → Prop} : DsG S (.bool true) true d k all is os e h Q ↔ Ds S all ((⟨d, none, k⟩, is) :: os) e h Q := Iff.rfl
theorem DsG_ff {d : Option Nat} {k : IOp} {all : List (IOper × List Nat)} {is : List Nat} {os : List (IOper × List Nat)} {e : Env} {h : AHeap} {Q : Env → AHeap → Prop} : DsG S (.bool false) false d k all is os e h Q ↔ Ds S all ((⟨d, none, k⟩, is) :: os) e h Q := Iff.rfl
theorem DsG_tf {d : Option Nat} {k : IOp} {all : List (IOper × List Nat)} {is : List Nat} {os : List (IOper × List Nat)} {e : Env} {h : AHeap} {Q : Env → AHeap → Prop} : DsG S (.bool true) false d k all is os e h Q ↔ againAll all (put e d .undef) h is = true ∧ Ds S all os (put e d .undef) h Q := Iff.rfl
theorem DsG_ft {d : Option Nat} {k : IOp} {all : List (IOper × List Nat)} {is : List Nat} {os : List (IOper × List Nat)} {e : Env} {h : AHeap} {Q : Env → AHeap → Prop} : DsG S (.bool false) true d k all is os e h Q ↔ againAll all (put e d .undef) h is = true ∧ Ds S all os (put e d .undef) h Q := Iff.rfl
theorem DsG_cases {b want : Bool} {d : Option Nat} {k : IOp} {all : List (IOper × List Nat)} {is : List Nat} {os : List (IOper × List Nat)} {e : Env} {h : AHeap} {Q : Env → AHeap → Prop} (ht : b = true → DsG S (.bool true) want d k all is os e h Q) (hf : b = false → DsG S (.bool false) want d k all is os e h Q) : DsG S (.bool b) want d k all is os e h Q := by
  cases b with
  | true => exact ht rfl
  | false => exact hf rfl

/-! The same value twice. -/
mutual
theorem AV.beq_refl : ∀ v : AV, AV.beq v v = true
  | .bool b => by simp [AV.beq]
  | .int k n => by simp [AV.beq]
  | .str s => by simp [AV.beq]
  | .nilp | .nils | .nilm | .nilf | .nili => rfl
  | .ptr b o => by simp [AV.beq]
  | .sl b o l c es ex => by simp [AV.beq]
  | .map b => by simp [AV.beq]
  | .fn f a c => by simp [AV.beq, AV.beqs_refl a, AV.beqs_refl c]
  | .ifc t v => by simp [AV.beq, AV.beq_refl v]
  | .agg a => by simp [AV.beq, AV.beqs_refl a]
  | .tup a => by simp [AV.beq, AV.beqs_refl a]
theorem AV.beqs_refl : ∀ v : List AV, AV.beqs v v = true
  | [] => rfl
  | x :: xs => by simp [AV.beqs, AV.beq_refl x, AV.beqs_refl xs]
end

/-! Values of operations. -/
theorem bin_add {ek : EK} {i : IntKind} {a b : Int} : binEv .add ek (.int i a) (.int i b) = some (.int i (i.wrap (a + b))) := by simp [binEv, intOp]
theorem bin_sub {ek : EK} {i : IntKind} {a b : Int} : binEv .sub ek (.int i a) (.int i b) = some (.int i (i.wrap (a - b))) := by simp [binEv, intOp]
theorem bin_mul {ek : EK} {i : IntKind} {a b : Int} : binEv .mul ek (.int i a) (.int i b) = some (.int i (i.wrap (a * b))) := by simp [binEv, intOp]
theorem bin_eql {ek : EK} {i : IntKind} {a b : Int} : binEv .eql ek (.int i a) (.int i b) = some (.bool (a == b)) := by simp [binEv, intOp]
theorem bin_neq {ek : EK} {i : IntKind} {a b : Int} : binEv .neq ek (.int i a) (.int i b) = some (.bool (a != b)) := by simp [binEv, intOp]
theorem bin_lss {ek : EK} {i : IntKind} {a b : Int} : binEv .lss ek (.int i a) (.int i b) = some (.bool (decide (a < b))) := by simp [binEv, intOp]
theorem bin_leq {ek : EK} {i : IntKind} {a b : Int} : binEv .leq ek (.int i a) (.int i b) = some (.bool (decide (a ≤ b))) := by simp [binEv, intOp]
theorem bin_gtr {ek : EK} {i : IntKind} {a b : Int} : binEv .gtr ek (.int i a) (.int i b) = some (.bool (decide (a > b))) := by simp [binEv, intOp]
theorem bin_geq {ek : EK} {i : IntKind} {a b : Int} : binEv .geq ek (.int i a) (.int i b) = some (.bool (decide (a ≥ b))) := by simp [binEv, intOp]
theorem bin_seql {ek : EK} {a b : List UInt8} : binEv .eql ek (.str a) (.str b) = some (.bool (a == b)) := rfl
theorem bin_sneq {ek : EK} {a b : List UInt8} : binEv .neq ek (.str a) (.str b) = some (.bool (!(a == b))) := rfl
/-- What a cell holds. -/
def ldO (o : Nat) : Option AObj → Option AV
  | some (.cells cs ..) => cs[o]?
  | _ => none
def ldV (h : AHeap) : AV → Option AV
  | .ptr b o => ldO o (h.get b)
  | _ => none
theorem load_eq {e : Env} {h : AHeap} {x : Opd} : (ROp.load none x).run e h = ldV h (x.ev e) := by
  simp only [ROp.run]
  cases x.ev e <;> try rfl
  rename_i b o
  simp only [AHeap.rd, ldV]
  cases h.get b with
  | none => rfl
  | some ob =>
    cases ob with
    | map es => rfl
    | dead => rfl
    | cells cs ty ro sh kin =>
      simp only [ldO]
      by_cases hlt : o < cs.length
      · have hd : (cs.drop o).take 1 = [cs[o]] := by rw [List.drop_eq_getElem_cons hlt]; rfl
        simp only [show Nat.ble (o + 1) cs.length = true from Nat.ble_eq_true_of_le hlt, cond_true, hd]
        simp [hlt]
      · have : Nat.ble (o + 1) cs.length = false := by
          cases hb : Nat.ble (o + 1) cs.length with
          | false => rfl
          | true => exact absurd (Nat.le_of_ble_eq_true hb) (by omega)
        rw [this]
        simp only [cond_false]
        rw [List.getElem?_eq_none (by omega)]
def ldsO (n o : Nat) : Option AObj → Option AV
  | some (.cells cs ..) => if o + n ≤ cs.length then some (.agg ((cs.drop o).take n)) else none
  | _ => none
def ldsV (n : Nat) (h : AHeap) : AV → Option AV
  | .ptr b o => ldsO n o (h.get b)
  | _ => none
theorem loads_eq {e : Env} {h : AHeap} {n : Nat} {x : Opd} : (ROp.load (some n) x).run e h = ldsV n h (x.ev e) := by
  simp only [ROp.run]
  cases x.ev e <;> try rfl
  rename_i b o
  simp only [AHeap.rd, ldsV]
  cases h.get b with
  | none => rfl
  | some ob =>
    cases ob with
    | map es => rfl
    | dead => rfl
    | cells cs ty ro sh kin =>
      simp only [ldsO]
      by_cases hlt : o + n ≤ cs.length
      · rw [show Nat.ble (o + n) cs.length = true from Nat.ble_eq_true_of_le hlt, if_pos hlt]; rfl
      · have : Nat.ble (o + n) cs.length = false := by
          cases hb : Nat.ble (o + n) cs.length with
          | false => rfl
          | true => exact absurd (Nat.le_of_ble_eq_true hb) hlt
        rw [this, if_neg hlt]; rfl
/-- One cell is written, that nobody else knows. -/
def stO (h : AHeap) (b o : Nat) (v : AV) : Option AObj → Option (AV × AHeap)
  | some (.cells cs ty false sh []) => if o < cs.length ∧ v.one = true then some (.undef, h.set b (.cells (cs.set o v) ty false sh [])) else none
  | _ => none
def stV (h : AHeap) (v : AV) : AV → Option (AV × AHeap)
  | .ptr b o => stO h b o v (h.get b)
  | _ => none
theorem store_one {e : Env} {h : AHeap} {a x : Opd} {r : AV × AHeap} (k : stV h (x.ev e) (a.ev e) = some r) : (AOp.store 1 a x).run e h = some r := by
  simp only [AOp.run]
  generalize a.ev e = p at k
  generalize x.ev e = v at k
  cases p <;> try cases k
  rename_i b o
  simp only [stV] at k
  unfold stO at k
  split at k
  · rename_i cs ty sh hg
    split at k
    · rename_i hc
      simp at k
      subst k
      have hv : v.cells = [v] := by cases v <;> first | rfl | (exact absurd hc.2 (by simp [AV.one]))
      simp [hv, AHeap.wr, hg, allOne, hc.2, kill, setAll, show Nat.ble (o + 1) cs.length = true from Nat.ble_eq_true_of_le hc.1, show Nat.beq 1 1 = true from rfl]
    · cases k
  · cases k
/-- Cells are written. -/
def stON (vs : List AV) (h : AHeap) (b o : Nat) : Option AObj → Option (AV × AHeap)
  | some (.cells cs ty false sh kin) => if o + vs.length ≤ cs.length ∧ allOne vs = true ∧ kin.contains b = false then some (.undef, (kill h kin).set b (.cells (setAll cs o vs) ty false sh [])) else none
  | _ => none
def stVN (n : Nat) (vs : List AV) (h : AHeap) : AV → Option (AV × AHeap)
  | .ptr b o => if vs.length = n then stON vs h b o (h.get b) else none
  | _ => none
theorem store_eq {e : Env} {h : AHeap} {n : Nat} {a x : Opd} : (AOp.store n a x).run e h = stVN n (x.ev e).cells h (a.ev e) := by
  simp only [AOp.run]
  cases a.ev e <;> try rfl
  rename_i b o
  simp only [stVN]
  generalize (x.ev e).cells = vs
  by_cases hn : vs.length = n
  · rw [if_pos hn, show Nat.beq vs.length n = true from by rw [hn]; exact Nat.beq_refl n]
    simp only [cond_true, AHeap.wr]
    generalize h.get b = ob
    cases ob with
    | none => rfl
    | some ob =>
      cases ob with
      | map es => rfl
      | dead => rfl
      | cells cs ty ro sh kin =>
        cases ro with
        | true => rfl
        | false =>
          simp only [stON]
          by_cases h1 : o + vs.length ≤ cs.length
          · rw [show Nat.ble (o + vs.length) cs.length = true from Nat.ble_eq_true_of_le h1]
            cases h2 : allOne vs <;> cases h3 : kin.contains b <;> simp [h1]
          · rw [if_neg (fun h => h1 h.1), show Nat.ble (o + vs.length) cs.length = false from by
              cases hb : Nat.ble (o + vs.length) cs.length with
              | false => rfl
              | true => exact absurd (Nat.le_of_ble_eq_true hb) h1]
            rfl
  · rw [if_neg hn]
    rw [show Nat.beq vs.length n = false from by
      cases hb : Nat.beq vs.length n with
      | false => rfl
      | true => exact absurd (Nat.eq_of_beq_eq_true hb) hn]
    rfl
theorem fill_eq {e : Env} {cs : List AV} {off size : Nat} {x : Opd} {ps : List (Nat × Nat × Opd)} :
    fillEv e cs ((off, size, x) :: ps) = if (x.ev e).cells.length = size ∧ off + (x.ev e).cells.length ≤ cs.length then fillEv e (setAll cs off (x.ev e).cells) ps else none := by
  simp only [fillEv]
  by_cases h1 : (x.ev e).cells.length = size ∧ off + (x.ev e).cells.length ≤ cs.length
  · rw [if_pos h1, show Nat.beq (x.ev e).cells.length size = true from by rw [h1.1]; exact Nat.beq_refl _, show Nat.ble (off + (x.ev e).cells.length) cs.length = true from Nat.ble_eq_true_of_le h1.2]
    rfl
  · rw [if_neg h1]
    cases ha : Nat.beq (x.ev e).cells.length size with
    | false => rfl
    | true =>
      cases hb : Nat.ble (off + (x.ev e).cells.length) cs.length with
      | false => rfl
      | true => exact absurd ⟨Nat.eq_of_beq_eq_true ha, Nat.le_of_ble_eq_true hb⟩ h1
theorem fill_nil {e : Env} {cs : List AV} : fillEv e cs [] = some cs := rfl
theorem lit_eq {e : Env} {ty : TypeId} {len es : Nat} {zero : List AV} {ps : List (Nat × Nat × Opd)} : (NOp.lit ty len es zero ps).run e = (fillEv e zero ps).map fun cs => (.cells cs ty false true [], fun b => .sl b 0 len len es true) := by
  simp only [NOp.run]
  cases fillEv e zero ps <;> rfl
theorem build_eq {e : Env} {zero : List AV} {ps : List (Nat × Nat × Opd)} : (POp.build zero ps).run e = (fillEv e zero ps).map AV.agg := by
  simp only [POp.run]
  cases fillEv e zero ps <;> rfl
theorem bin_p {op : BinOp} {ek : EK} {x y : Opd} {e : Env} : (POp.bin op ek x y).run e = binEv op ek (x.ev e) (y.ev e) := rfl
theorem bin_peq {b o : Nat} : binEv .eql .ptr (.ptr b o) .nilp = some (.bool false) := rfl
theorem bin_pneq {b o : Nat} : binEv .neq .ptr (.ptr b o) .nilp = some (.bool true) := rfl
theorem bin_peq0 : binEv .eql .ptr .nilp .nilp = some (.bool true) := rfl
theorem bin_pneq0 : binEv .neq .ptr .nilp .nilp = some (.bool false) := rfl
theorem bin_beq {a b : Bool} : binEv .eql .bool (.bool a) (.bool b) = some (.bool (a == b)) := rfl
theorem bin_bneq {a b : Bool} : binEv .neq .bool (.bool a) (.bool b) = some (.bool (!(a == b))) := rfl
theorem getD_nil {i : Nat} {v : AV} : List.getD [] i v = v := rfl
theorem kill_nil {h : AHeap} : kill h [] = h := rfl
theorem load_ptr {e : Env} {h : AHeap} {x : Opd} {b o : Nat} (hx : x.ev e = .ptr b o) {cs : List AV} {ty : TypeId} {ro sh : Bool} {kin : List Nat} (hg : h.get b = some (.cells cs ty ro sh kin)) {v : AV} (hv : cs[o]? = some v) :
    (ROp.load none x).run e h = some v := by
  have hlt : o < cs.length := (List.getElem?_eq_some_iff.1 hv).1
  have he : cs[o] = v := (List.getElem?_eq_some_iff.1 hv).2
  have hd : (cs.drop o).take 1 = [v] := by rw [List.drop_eq_getElem_cons hlt, he]; rfl
  simp only [ROp.run, hx, AHeap.rd, hg, show Nat.ble (o + 1) cs.length = true from Nat.ble_eq_true_of_le hlt, cond_true, hd]
theorem loads_ptr {e : Env} {h : AHeap} {x : Opd} {n b o : Nat} (hx : x.ev e = .ptr b o) {cs : List AV} {ty : TypeId} {ro sh : Bool} {kin : List Nat} (hg : h.get b = some (.cells cs ty ro sh kin)) (hv : o + n ≤ cs.length) :
    (ROp.load (some n) x).run e h = some (.agg ((cs.drop o).take n)) := by
  simp only [ROp.run, hx, AHeap.rd, hg, show Nat.ble (o + n) cs.length = true from Nat.ble_eq_true_of_le hv, cond_true]

theorem Os_v {d : Option Nat} {x : Opd} {args : List Opd} {os : List IOper} {e : Env} {h : AHeap} {Q : Env → AHeap → Prop} : Os S (⟨d, none, .c (.val x args)⟩ :: os) e h Q ↔ Op1 S (.c (.val x args)) e h (OpK S os d e Q) := Os_cons rfl
theorem Os_i {d : Option Nat} {x : Opd} {m : String} {args : List Opd} {os : List IOper} {e : Env} {h : AHeap} {Q : Env → AHeap → Prop} : Os S (⟨d, none, .c (.inv x m args)⟩ :: os) e h Q ↔ Op1 S (.c (.inv x m args)) e h (OpK S os d e Q) := Os_cons rfl
theorem again_nil {all : List (IOper × List Nat)} {e : Env} {h : AHeap} : againAll all e h [] = true := rfl

theorem one_bool {b : Bool} : AV.one (.bool b) = true := rfl
theorem one_int {k : IntKind} {n : Int} : AV.one (.int k n) = true := rfl
theorem one_str {s : List UInt8} : AV.one (.str s) = true := rfl
theorem one_nilp  : AV.one .nilp = true := rfl
theorem one_ptr {b o : Nat} : AV.one (.ptr b o) = true := rfl
theorem one_nils  : AV.one .nils = true := rfl
theorem one_sl {b o l c es : Nat} {x : Bool} : AV.one (.sl b o l c es x) = true := rfl
theorem one_nilm  : AV.one .nilm = true := rfl
theorem one_map {b : Nat} : AV.one (.map b) = true := rfl
theorem one_nilf  : AV.one .nilf = true := rfl
theorem one_fn {f : Fn} {a c : List AV} : AV.one (.fn f a c) = true := rfl
theorem one_nili  : AV.one .nili = true := rfl
theorem one_ifc {t : TypeId} {v : AV} : AV.one (.ifc t v) = true := rfl
theorem cells_one {v : AV} (h : v.one = true) : v.cells = [v] := by cases v <;> first | rfl | cases h
theorem cells_agg {cs : List AV} : (AV.agg cs).cells = cs := rfl

/-! Reading temporaries. -/
theorem ev_t {e : Env} {i : Nat} : (Opd.t i).ev e = e.getD i .undef := rfl
theorem ev_v {e : Env} {x : AV} : (Opd.v x).ev e = x := rfl
theorem put_some {e : Env} {i : Nat} {v : AV} : put e (some i) v = e.set i v := rfl
theorem put_none {e : Env} {v : AV} : put e none v = e := rfl
theorem ex_some {α : Type} {x : α} {P : α → Prop} : (∃ v, some x = some v ∧ P v) ↔ P x := by simp

end Go.Proofs.YtjldbkicpbchkaaGreat.Ev
