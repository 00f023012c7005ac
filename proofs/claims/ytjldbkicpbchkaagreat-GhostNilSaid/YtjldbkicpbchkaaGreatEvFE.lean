/-
  The fast form is right: statements whose order is drawn, texts, functions, calls.
-/
import Derived.Test.YtjldbkicpbchkaaGreatEvFD
namespace Go.Proofs.YtjldbkicpbchkaaGreat.Ev
open Go

section
variable {r : AV × AHeap} {vars : List Nat} {nt : Nat} {ρ : Ro} {E : List AV} {e : Env} {S : ASys} {call : CallF} {h : AHeap}

theorem fillEv_w (e2 : Env) (ps : List (Nat × Nat × Opd)) : ∀ cs, fillEv e2 cs (ps.map fun p => (p.1, p.2.1, .v (p.2.2.ev e))) = fillEv e cs ps := by
  induction ps with
  | nil => intro cs; rfl
  | cons p ps ih =>
    intro cs
    obtain ⟨a, b, x⟩ := p
    simp only [List.map_cons, fillEv, ev_v]
    cases (Nat.beq (x.ev e).cells.length b && Nat.ble (a + (x.ev e).cells.length) cs.length) with
    | false => rfl
    | true => exact ih _

theorem nRd_ok {rd : Rd} (H : RdOk rd e) {o : NOp} {k : NOp → R} (hh : againC.nRd rd o k = some r) : ∃ o', (∀ e2, NOp.run e2 o' = NOp.run e o) ∧ k o' = some r := by
  cases o with
  | new z ty => exact ⟨_, fun _ => rfl, hh⟩
  | box ty x => exact ⟨_, fun _ => rfl, H x _ r hh⟩
  | lit ty ln es z ps => exact ⟨_, fun e2 => by simp only [NOp.run, fillEv_w], rdPV_ok H hh⟩
  | mks ty es by' z l c => exact ⟨_, fun _ => rfl, H c _ r (H l _ r hh)⟩
  | s2b ty x => exact ⟨_, fun _ => rfl, H x _ r hh⟩
  | mkm => exact ⟨_, fun _ => rfl, hh⟩

theorem againC_ok (F : FR vars nt ρ E e) {o : IOper} {k : Unit → R} (hh : againC vars ρ E h o k = some r) : again o e h = true ∧ k () = some r := by
  unfold againC at hh
  rcases guarded_ok F hh with ⟨h1, h2⟩ | ⟨h1, h2⟩
  · unfold again
    rw [h1]
    simp only [cond_true]
    split at h2
    · rename_i ro d hk hd
      obtain ⟨v, h3, h4⟩ := rC_ok (rdK_ok F) h2
      have h5 := rdT_ok F h4
      rcases boolB_ok h5 with ⟨h6, h7⟩ | ⟨_, h7⟩
      · rw [hk, hd]
        simp only [h3]
        exact ⟨h6, h7⟩
      · cases h7
    · rename_i m d hk hd
      have h3 := rdT_ok F h2
      obtain ⟨m', h4, h5⟩ := nRd_ok (rdK_ok F) h3
      rcases boolB_ok h5 with ⟨h6, h7⟩ | ⟨_, h7⟩
      · rw [hk, hd]
        refine ⟨?_, h7⟩
        unfold again at h6
        simp only [IOper.on, cond_true, h4] at h6
        exact h6
      · cases h7
    · cases h2
  · unfold again
    rw [h1]
    exact ⟨rfl, h2⟩

theorem againsC_ok (F : FR vars nt ρ E e) {all : List (IOper × List Nat)} {k : Unit → R} : ∀ {is : List Nat}, againsC vars all is ρ E h k = some r → againAll all e h is = true ∧ k () = some r
  | [], hh => ⟨rfl, hh⟩
  | i :: is, hh => by
    have hh' : (match all[i]? with | some (o, _) => againC vars ρ E h o fun _ => againsC vars all is ρ E h k | none => none) = some r := hh
    simp only [againAll]
    split at hh'
    · rename_i o l ho
      obtain ⟨h1, h2⟩ := againC_ok F hh'
      obtain ⟨h3, h4⟩ := againsC_ok F h2
      rw [ho]
      simp only [h1, h3, Bool.and_self]
      exact ⟨trivial, h4⟩
    · cases hh'

theorem opsD_ok {call' : CallF} (hc : CallLe call call') {all : List (IOper × List Nat)} {k : List AV → AHeap → R} : ∀ {os : List (IOper × List Nat)} {ρ : Ro} {E : List AV} {e : Env} {h : AHeap}, FR vars nt ρ E e → opsD S call vars nt all os ρ E h k = some r →
    ∃ E' e' h', runD S call' all os e h = some (e', h') ∧ FR vars nt [] E' e' ∧ k E' h' = some r
  | [], ρ, E, e, h, F, hh => ⟨E, e, h, rfl, F.drop, hh⟩
  | (o, is) :: os, ρ, E, e, h, F, hh => by
    obtain ⟨ρ', E', e', h', h1, F', h2⟩ := stepC_ok hc F (show stepC S call vars nt o ρ E h (fun ρ E h => againsC vars all is ρ E h fun _ => opsD S call vars nt all os ρ E h k) = some r from hh)
    obtain ⟨h3, h4⟩ := againsC_ok F' h2
    obtain ⟨E2, e2, h2', h5, F2, h6⟩ := opsD_ok hc F' h4
    exact ⟨E2, e2, h2', by simp only [runD, h1, h3, cond_true]; exact h5, F2, h6⟩

def Out (kn kr : Kn) (kx : Nat → Kn) (x : AX) (E : List AV) (h : AHeap) : R :=
  match x with
  | .nx => kn E h
  | .rt => kr E h
  | .ex id => kx id E h

theorem codeC_ok (hc : CallLe call (callInf S)) {fuel : Nat} : ∀ (c : ICode) (kn kr : Kn) (kx : Nat → Kn) (E : List AV) (e : Env) (h : AHeap), FR vars nt [] E e → codeC S call vars nt fuel c kn kr kx E h = some r →
    ∃ x E' e' h', Big S c e h (x, e', h') ∧ FR vars nt [] E' e' ∧ Out kn kr kx x E' h' = some r := by
  intro c
  induction c with
  | skip => intro kn kr kx E e h F hh; exact ⟨.nx, E, e, h, Big.skip, F, hh⟩
  | ret => intro kn kr kx E e h F hh; exact ⟨.rt, E, e, h, Big.ret, F, hh⟩
  | exit id => intro kn kr kx E e h F hh; exact ⟨.ex id, E, e, h, Big.exit, F, hh⟩
  | bad => intro kn kr kx E e h F hh; cases hh
  | seq a b iha ihb =>
    intro kn kr kx E e h F hh
    obtain ⟨x, E1, e1, h1, g1, F1, g2⟩ := iha (codeC S call vars nt fuel b kn kr kx) kr kx E e h F hh
    cases x with
    | nx =>
      obtain ⟨y, E2, e2, h2, g3, F2, g4⟩ := ihb kn kr kx E1 e1 h1 F1 g2
      exact ⟨y, E2, e2, h2, g1.seq g3, F2, g4⟩
    | rt => exact ⟨.rt, E1, e1, h1, g1.seq_out (by simp), F1, g2⟩
    | ex id => exact ⟨.ex id, E1, e1, h1, g1.seq_out (by simp), F1, g2⟩
  | cond c a b iha ihb =>
    intro kn kr kx E e h F hh
    have h1 := rdK_ok F c _ r (show rdK vars [] E c (fun v => boolE v fun t => boolB t (fun _ => codeC S call vars nt fuel a kn kr kx E h) (fun _ => codeC S call vars nt fuel b kn kr kx E h)) = some r from hh)
    obtain ⟨t, ht, h2⟩ := boolE_ok h1
    rcases boolB_ok h2 with ⟨rfl, h3⟩ | ⟨rfl, h3⟩
    · obtain ⟨x, E1, e1, h1, g1, F1, g2⟩ := iha kn kr kx E e h F h3
      exact ⟨x, E1, e1, h1, Big.cond_true ht g1, F1, g2⟩
    · obtain ⟨x, E1, e1, h1, g1, F1, g2⟩ := ihb kn kr kx E e h F h3
      exact ⟨x, E1, e1, h1, Big.cond_false ht g1, F1, g2⟩
  | block id a iha =>
    intro kn kr kx E e h F hh
    obtain ⟨x, E1, e1, h1, g1, F1, g2⟩ := iha kn kr (fun i => cond (Nat.beq i id) kn (kx i)) E e h F hh
    cases x with
    | nx => exact ⟨.nx, E1, e1, h1, g1.block_out (by simp), F1, g2⟩
    | rt => exact ⟨.rt, E1, e1, h1, g1.block_out (by simp), F1, g2⟩
    | ex i =>
      have g2' : cond (Nat.beq i id) kn (kx i) E1 h1 = some r := g2
      cases hb : Nat.beq i id with
      | true =>
        rw [hb] at g2'
        have := Nat.eq_of_beq_eq_true hb
        subst this
        exact ⟨.nx, E1, e1, h1, g1.block, F1, g2'⟩
      | false =>
        rw [hb] at g2'
        have hne : i ≠ id := fun e1 => by rw [e1] at hb; simp at hb
        exact ⟨.ex i, E1, e1, h1, g1.block_out (by intro h; cases h; exact hne rfl), F1, g2'⟩
  | loop a iha =>
    intro kn kr kx E e h F hh
    have key : ∀ (n : Nat) (E : List AV) (e : Env) (h : AHeap), FR vars nt [] E e → (@Nat.rec (fun _ => Kn) (fun _ _ => none) (fun _ again => codeC S call vars nt fuel a again kr kx) n : Kn) E h = some r →
        ∃ x E' e' h', Big S (.loop a) e h (x, e', h') ∧ FR vars nt [] E' e' ∧ Out kn kr kx x E' h' = some r := by
      intro n
      induction n with
      | zero => intro E e h F hh; cases hh
      | succ n ih =>
        intro E e h F hh
        obtain ⟨x, E1, e1, h1, g1, F1, g2⟩ := iha (@Nat.rec (fun _ => Kn) (fun _ _ => none) (fun _ again => codeC S call vars nt fuel a again kr kx) n) kr kx E e h F hh
        cases x with
        | nx =>
          obtain ⟨y, E2, e2, h2, g3, F2, g4⟩ := ih E1 e1 h1 F1 g2
          exact ⟨y, E2, e2, h2, g1.loop g3, F2, g4⟩
        | rt => exact ⟨.rt, E1, e1, h1, g1.loop_out (by simp), F1, g2⟩
        | ex id => exact ⟨.ex id, E1, e1, h1, g1.loop_out (by simp), F1, g2⟩
    exact key fuel E e h F hh
  | reg ops =>
    intro kn kr kx E e h F hh
    obtain ⟨E1, e1, h1, g1, F1, g2⟩ := opsC_ok hc F (show opsC S call vars nt ops [] E h kn = some r from hh)
    obtain ⟨n, hn⟩ := runOps_inf g1
    exact ⟨.nx, E1, e1, h1, Big.reg hn, F1, g2⟩
  | dreg ops =>
    intro kn kr kx E e h F hh
    obtain ⟨E1, e1, h1, g1, F1, g2⟩ := opsD_ok hc F (show opsD S call vars nt ops ops [] E h kn = some r from hh)
    obtain ⟨n, hn⟩ := runD_inf g1
    exact ⟨.nx, E1, e1, h1, Big.dreg hn, F1, g2⟩

theorem resC_ok (F : FR vars nt [] E e) : ∀ {rs : List IRes} {k : List AV → R}, resC vars E h rs k = some r → ∃ vs, resEv e h rs = some vs ∧ k vs = some r
  | [], k, hh => ⟨[], rfl, hh⟩
  | .t i :: rs, k, hh => by
    have h1 := rdT_ok F (show rdT vars [] E i (fun v => resC vars E h rs fun vs => k (v :: vs)) = some r from hh)
    obtain ⟨vs, h2, h3⟩ := resC_ok F h1
    exact ⟨_, by simp only [resEv, h2], h3⟩
  | .cell a ag :: rs, k, hh => by
    have h1 := rdT_ok F (show rdT vars [] E a (fun x => rC (fun o k => @Opd.rec (fun _ => R) (fun _ => none) k o) h (.load ag (.v x)) fun v => resC vars E h rs fun vs => k (v :: vs)) = some r from hh)
    have H : RdOk (fun o k => @Opd.rec (fun _ => R) (fun _ => none) k o) ([] : Env) := by
      intro x k r hx
      cases x with
      | t i => cases hx
      | v x => exact hx
    obtain ⟨v, h2, h3⟩ := rC_ok H h1
    obtain ⟨vs, h4, h5⟩ := resC_ok F h3
    have h6 : (ROp.load ag (.t a)).run e h = some v := by
      rw [← h2]
      cases ag <;> rfl
    exact ⟨_, by simp only [resEv, h6, h4], h5⟩

theorem oneOr_eq {vs : List AV} {rs : List IRes} (hv : resEv e h rs = some vs) : resVal e h rs = some (oneOr vs) := by
  unfold resVal oneOr
  rw [hv]
  cases vs with
  | nil => rfl
  | cons v vs => cases vs <;> rfl

theorem initC_eq (args : List AV) : ∀ (vars : List Nat) (k : List AV → R), initC vars args k = k (vars.map fun i => args.getD i .undef)
  | [], k => rfl
  | i :: vars, k => by
    show argK args i (fun v => initC vars args fun E => k (v :: E)) = _
    rw [argK_eq, initC_eq args vars]
    rfl

theorem fcomp_ok (hc : CallLe call (callInf S)) {f : Nat} {fn : IFn} (hs : S.sum f = none) (hf : S.code f = some fn) {fuel : Nat} {args : List AV} (hh : fcomp S fuel vars fn call args h = some r) : Cl S f args h r := by
  unfold fcomp at hh
  rw [initC_eq] at hh
  have hget : ∀ i, (args ++ List.replicate (fn.nt - args.length) AV.undef).getD i .undef = args.getD i .undef := by
    intro i
    simp only [List.getD]
    by_cases hi : i < args.length
    · rw [List.getElem?_append_left hi]
    · rw [List.getElem?_append_right (by omega), List.getElem?_replicate, List.getElem?_eq_none (by omega)]
      split <;> rfl
  have F : FR vars fn.nt [] (vars.map fun i => args.getD i .undef) (args ++ List.replicate (fn.nt - args.length) .undef) := by
    refine ⟨by simp; omega, by simp, fun i v h => (by cases h), fun i j hj => ?_⟩
    have := vpos_ok hj
    rw [hget]
    simp [List.getD, this]
  obtain ⟨x, E', e', h', g1, F', g2⟩ := codeC_ok hc fn.body _ _ _ _ _ h F hh
  cases x with
  | nx =>
    obtain ⟨vs, h1, h2⟩ := resC_ok F' g2
    have h3 := oneOr_eq h1
    simp at h2
    rw [← h2]
    exact Cl.code hs hf (.inl rfl) g1 h3
  | rt =>
    obtain ⟨vs, h1, h2⟩ := resC_ok F' g2
    have h3 := oneOr_eq h1
    simp at h2
    rw [← h2]
    exact Cl.code hs hf (.inr rfl) g1 h3
  | ex id => cases g2

/-- What a table of fast forms must be. -/
def FT.Ok (S : ASys) (t : FT) : Prop := ∀ f F, t.get f = some F → S.sum f = none → ∃ fuel vars fn, S.code f = some fn ∧ F = fcomp S fuel vars fn

theorem fcall_le {t : FT} (ht : t.Ok S) : ∀ n, CallLe (fcall S t n) (callInf S)
  | 0 => fun f args h r k => by cases k
  | n + 1 => fun f args h r k => by
    have k' : @Option.rec _ (fun _ => R) (@Option.rec (CallF → List AV → AHeap → R) (fun _ => R) none (fun F => F (fcall S t n) args h) (t.get f)) (fun s => s args h) (S.sum f) = some r := k
    rw [callInf_iff]
    cases hs : S.sum f with
    | some s => rw [hs] at k'; exact Cl.sum hs k'
    | none =>
      rw [hs] at k'
      cases hf : t.get f with
      | none => rw [hf] at k'; cases k'
      | some F =>
        rw [hf] at k'
        obtain ⟨fuel, vars, fn, h1, rfl⟩ := ht f F hf hs
        exact fcomp_ok (fcall_le ht n) hs h1 k'

/-- What the fast form says is so. -/
theorem fcall_ok {t : FT} (ht : t.Ok S) {n f : Nat} {args : List AV} {h : AHeap} {x : AV × AHeap} (k : fcall S t n f args h = some x) : Cl S f args h x := callInf_iff.1 (fcall_le ht n f args h x k)
end

end Go.Proofs.YtjldbkicpbchkaaGreat.Ev
