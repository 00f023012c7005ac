/-
  That the evaluator is right: texts and calls.
-/
import Derived.Test.YtjldbkicpbchkaaGreatEvAE
namespace Go.Proofs.YtjldbkicpbchkaaGreat.Ev
open Go Go.RowKit

def AX.exit : AX → Exit
  | .nx => .normal
  | .rt => .ret
  | .ex id => .exit id

section
variable {P : Program} {S : ASys} {W : World} {φ : Phi} {e : Env} {a : Act} {h : AHeap} {w : World}

def resGet (tmps : Array Value) : ResultVar → Sem Value
  | .tmp t => pure (tmps.getD t undef)
  | .cell x t => do loadVar t (← asAddr (tmps.getD x undef))

theorem res_ok (ke : EnvR φ e a) (R : Rel W φ h w) : ∀ {rvs : List ResultVar} {rs : List IRes} {vs : List AV}, allSome (cRes P) rvs = some rs → resEv e h rs = some vs →
    ∃ us : List Value, (rvs.mapM (resGet a.tmps)).run P w = .ok us w ∧ RVs φ vs us
  | [], rs, vs, h1, h2 => by
    simp [allSome] at h1
    subst h1
    simp [resEv] at h2
    subst h2
    exact ⟨[], by simp, by simp [RVs]⟩
  | rv :: rvs, rs, vs, h1, h2 => by
    simp only [allSome] at h1
    split at h1 <;> simp at h1
    rename_i r rs' hr hrs
    subst h1
    cases rv with
    | tmp t =>
      simp [cRes] at hr
      subst hr
      simp only [resEv] at h2
      split at h2 <;> simp at h2
      rename_i vs' hvs
      subst h2
      obtain ⟨us, g1, g2⟩ := res_ok ke R hrs hvs
      refine ⟨a.tmps.getD t undef :: us, ?_, ?_⟩
      · rw [List.mapM_cons]
        simp only [resGet, Sem.run_bind, Sem.run_pure, Result.andThen_ok, g1]
      · simp only [RVs]
        exact ⟨_, _, rfl, ke.2 t, g2⟩
    | cell x t =>
      simp only [cRes] at hr
      split at hr <;> simp at hr
      rename_i k hk
      subst hr
      simp only [resEv] at h2
      split at h2 <;> simp at h2
      rename_i v vs' hv hvs
      subst h2
      obtain ⟨us, g1, g2⟩ := res_ok ke R hrs hvs
      obtain ⟨ad, v', f1, f2, f3⟩ := run_loadVar (P := P) R hk (x := .t x) (ke.2 x) hv
      refine ⟨v' :: us, ?_, ?_⟩
      · rw [List.mapM_cons]
        have f1' : a.tmps.getD x undef = .pointer (some ad) := f1
        simp only [resGet, Sem.run_bind, Sem.run_pure, f1', asAddr, Result.andThen_ok, f2, g1]
      · simp only [RVs]
        exact ⟨_, _, rfl, f3, g2⟩

theorem resVal_ok (ke : EnvR φ e a) (R : Rel W φ h w) {fn : Func} {rs : List IRes} (h1 : allSome (cRes P) fn.results.toList = some rs) {v : AV} (h2 : resVal e h rs = some v) : ∃ v', (results fn a.tmps).run P w = .ok v' w ∧ RV φ v v' := by
  unfold resVal at h2
  have key : ∀ vs, resEv e h rs = some vs → ∃ us : List Value, (results fn a.tmps).run P w = .ok (if h : us.toArray.size = 1 then us.toArray[0] else .tuple us.toArray) w ∧ RVs φ vs us := by
    intro vs hvs
    obtain ⟨us, g1, g2⟩ := res_ok (P := P) ke R h1 hvs
    refine ⟨us, ?_, g2⟩
    have he : results fn a.tmps = (do let vs ← fn.results.mapM (resGet a.tmps); pure (if h : vs.size = 1 then vs[0] else .tuple vs)) := by
      unfold results
      congr 1
    rw [he, Array.mapM_eq_mapM_toList]
    simp [g1]
  split at h2
  · rename_i u hu
    simp at h2
    subst h2
    obtain ⟨us, g1, g2⟩ := key _ hu
    obtain ⟨y, ys, rfl, g3, g4⟩ := g2.cons
    simp only [RVs] at g4
    subst g4
    exact ⟨y, by simpa using g1, g3⟩
  · rename_i vs hne hvs
    simp at h2
    subst h2
    obtain ⟨us, g1, g2⟩ := key _ hvs
    have hl := g2.length
    have hne1 : vs.length ≠ 1 := fun hl1 => by
      obtain ⟨x, rfl⟩ := List.length_eq_one_iff.1 hl1
      exact hne x rfl
    have hne2 : ¬ us.toArray.size = 1 := by simp; omega
    rw [dif_neg hne2] at g1
    exact ⟨_, g1, by simp only [RV]; exact ⟨_, rfl, g2⟩⟩
  · simp at h2

theorem Ends.trans {e2 : Env} {h1 h2 : AHeap} {d : List Deferred} {φ1 : Phi} (hn : h.n ≤ h1.n) (hle : φ.le φ1) (hnew : ∀ b l, φ1 b = some l → φ b = some l ∨ h.n ≤ b) {a2 : Act} {w2 : World}
    (k : Ends W φ1 h1 e2 h2 d a2 w2) : Ends W φ h e2 h2 d a2 w2 := by
  obtain ⟨n2, φ2, l2, nw2, ke2, R2, d2⟩ := k
  refine ⟨Nat.le_trans hn n2, φ2, Phi.le_trans hle l2, fun b l hb => ?_, ke2, R2, d2⟩
  rcases nw2 b l hb with h | h
  · exact hnew b l h
  · exact .inr (Nat.le_trans hn h)

def RunOk (P : Program) (S : ASys) (n : Nat) : Prop :=
  ∀ (c : Code) (e : Env) (h : AHeap) (x : AX) (e' : Env) (h' : AHeap), run S n (cCode P c) e h = some (x, e', h') → ∀ (W : World) (φ : Phi) (a : Act) (w : World), EnvR φ e a → Rel W φ h w →
    ∀ Z : Exit → Act → World → Prop, (∀ a' w', Ends W φ h e' h' a.defers a' w' → Z x.exit a' w') → c.wp P Z a w

def LoopOk (P : Program) (S : ASys) (n : Nat) : Prop :=
  ∀ (c : Code) (e : Env) (h : AHeap) (x : AX) (e' : Env) (h' : AHeap), run S n (.loop (cCode P c)) e h = some (x, e', h') → ∀ (W : World) (φ : Phi) (a : Act) (w : World), EnvR φ e a → Rel W φ h w →
    ∀ Z : Exit → Act → World → Prop, (∀ a' w', Ends W φ h e' h' a.defers a' w' → Z x.exit a' w') → Code.rounds P c Z n a w

theorem env_args {args : List AV} {args' : List Value} (ha : RVs φ args args') (nt : Nat) :
    EnvR φ (args ++ List.replicate (nt - args.length) .undef) { tmps := args'.toArray ++ Array.replicate (nt - args'.toArray.size) undef, defers := [] } := by
  have hl := ha.length
  refine ⟨by simp [hl], fun i => ?_⟩
  by_cases hi : i < args.length
  · obtain ⟨v, hv, hr⟩ := ha.get (i := i) (x := args[i]) (by simp [hi])
    have h1 : (args ++ List.replicate (nt - args.length) AV.undef).getD i .undef = args[i] := by simp only [List.getD]; rw [List.getElem?_append_left hi]; simp [hi]
    have h2 : (args'.toArray ++ Array.replicate (nt - args'.toArray.size) undef).getD i undef = v := by
      have hi' : i < args'.length := by omega
      have : args'[i] = v := by simpa [hi'] using hv
      simp [Array.getElem?_append, hi', this]
    show RV φ (List.getD _ i .undef) (Array.getD _ i undef)
    rw [h1, h2]
    exact hr
  · have h1 : (args ++ List.replicate (nt - args.length) AV.undef).getD i .undef = .undef := by
      simp only [List.getD]
      rw [List.getElem?_append_right (by omega), List.getElem?_replicate]
      split <;> rfl
    have h2 : (args'.toArray ++ Array.replicate (nt - args'.toArray.size) undef).getD i undef = undef := by
      have hge : args'.toArray.size ≤ i := by simp; omega
      simp only [Array.getD_eq_getD_getElem?]
      rw [Array.getElem?_append_right hge, Array.getElem?_replicate]
      split <;> rfl
    show RV φ (List.getD _ i .undef) (Array.getD _ i undef)
    rw [h1, h2]
    exact RV_undef φ

theorem callBy_ok (hS : SysOk P S) {n : Nat} (hr : RunOk P S n) : CallOk P (callBy S (run S n)) := by
  intro W f args h v h' hc φ w args' ha R
  unfold callBy at hc
  cases hs : S.sum f with
  | some s =>
    rw [hs] at hc
    exact hS.sum f s hs W f args h v h' (by simpa using hc) φ w args' ha R
  | none =>
    rw [hs] at hc
    simp only at hc
    cases hf : S.code f with
    | none => rw [hf] at hc; cases hc
    | some ifn =>
      rw [hf] at hc
      simp only at hc
      have hcf := hS.code f ifn hf
      unfold cFn at hcf
      split at hcf
      · rename_i fn hfn
        cases hname : (fn.name == "runtime.NumGoroutine") with
        | true => rw [hname] at hcf; cases hcf
        | false =>
          rw [hname] at hcf
          simp only [cond_false] at hcf
          split at hcf
          · rename_i c rs hb hrs
            simp at hcf
            subst hcf
            have hcall : (callFunc f args'.toArray).run P w = .ok (.enter f args'.toArray) w := by
              simp only [callFunc, Sem.run_bind, run_program, Result.andThen_ok, hfn, hname, hb]
              simp
            rw [hcall]
            show Calls P f args'.toArray w _
            refine calls_of_wp hfn hb ?_
            have ke := env_args (φ := φ) ha fn.ntmps
            have fin : ∀ {e1 : Env} {h1 : AHeap} {a1 : Act} {w1 : World} {u : AV}, resVal e1 h1 rs = some u → Ends W φ h e1 h1 [] a1 w1 → u = v → h1 = h' →
                a1.defers = [] ∧ ∃ v1, (results fn a1.tmps).run P w1 = .ok v1 w1 ∧ ∃ v2, Ending.returned v1 = .returned v2 ∧ Post W φ h v h' v2 w1 := by
              intro e1 h1 a1 w1 u hu hends hv hh
              subst hv hh
              obtain ⟨n2, φ2, l2, nw2, ke2, R2, d2⟩ := hends
              obtain ⟨v1, g1, g2⟩ := resVal_ok (P := P) ke2 R2 hrs hu
              exact ⟨d2, v1, g1, v1, rfl, n2, φ2, l2, nw2, g2, R2⟩
            split at hc
            · rename_i e1 h1 hrun
              split at hc <;> simp at hc
              rename_i u hu
              exact hr c _ h .nx e1 h1 hrun W φ _ w ke R _ fun a' w' hends => fin hu hends hc.1 hc.2
            · rename_i e1 h1 hrun
              split at hc <;> simp at hc
              rename_i u hu
              exact hr c _ h .rt e1 h1 hrun W φ _ w ke R _ fun a' w' hends => fin hu hends hc.1 hc.2
            · cases hc
          · cases hcf
      · cases hcf

theorem run_ok (hm : P.follows .mixedOrders = true) (hS : SysOk P S) : ∀ n, RunOk P S n ∧ LoopOk P S n := by
  intro n
  induction n with
  | zero => exact ⟨fun c e h x e' h' hr => by simp [run] at hr, fun c e h x e' h' hr => by simp [run] at hr⟩
  | succ n ih =>
    obtain ⟨ihr, ihl⟩ := ih
    have hloop : LoopOk P S (n + 1) := by
      intro c e h x e' h' hr W φ a w ke R Z hz
      simp only [run] at hr
      rw [rounds_succ]
      split at hr
      · rename_i e1 h1 hr1
        refine ihr c e h .nx e1 h1 hr1 W φ a w ke R _ fun a1 w1 hends => ?_
        obtain ⟨n1, φ1, l1, nw1, ke1, R1, d1⟩ := hends
        exact ihl c e1 h1 x e' h' hr W φ1 a1 w1 ke1 R1 Z fun a2 w2 hends2 => hz a2 w2 (Ends.trans n1 l1 nw1 (by rw [← d1]; exact hends2))
      · rename_i hne
        refine ihr c e h x e' h' hr W φ a w ke R _ fun a1 w1 hends => ?_
        have := hz a1 w1 hends
        cases x with
        | nx => exact absurd hr (hne e' h')
        | rt => exact this
        | ex id => exact this
    refine ⟨fun c => ?_, hloop⟩
    cases c with
    | skip =>
      intro e h x e' h' hr W φ a w ke R Z hz
      simp [cCode, run] at hr
      obtain ⟨rfl, rfl, rfl⟩ := hr
      exact wp_skip (hz a w ⟨Nat.le_refl _, φ, Phi.le_refl φ, fun b l hb => .inl hb, ke, R, rfl⟩)
    | ret =>
      intro e h x e' h' hr W φ a w ke R Z hz
      simp [cCode, run] at hr
      obtain ⟨rfl, rfl, rfl⟩ := hr
      exact wp_ret (hz a w ⟨Nat.le_refl _, φ, Phi.le_refl φ, fun b l hb => .inl hb, ke, R, rfl⟩)
    | exit id =>
      intro e h x e' h' hr W φ a w ke R Z hz
      simp [cCode, run] at hr
      obtain ⟨rfl, rfl, rfl⟩ := hr
      exact wp_exit (hz a w ⟨Nat.le_refl _, φ, Phi.le_refl φ, fun b l hb => .inl hb, ke, R, rfl⟩)
    | seq c1 c2 =>
      intro e h x e' h' hr W φ a w ke R Z hz
      simp only [cCode, run] at hr
      refine wp_seq ?_
      split at hr
      · rename_i e1 h1 hr1
        refine ihr c1 e h .nx e1 h1 hr1 W φ a w ke R _ fun a1 w1 hends => ?_
        obtain ⟨n1, φ1, l1, nw1, ke1, R1, d1⟩ := hends
        exact ihr c2 e1 h1 x e' h' hr W φ1 a1 w1 ke1 R1 Z fun a2 w2 hends2 => hz a2 w2 (Ends.trans n1 l1 nw1 (by rw [← d1]; exact hends2))
      · rename_i hne
        refine ihr c1 e h x e' h' hr W φ a w ke R _ fun a1 w1 hends => ?_
        have := hz a1 w1 hends
        cases x with
        | nx => exact absurd hr (hne e' h')
        | rt => exact this
        | ex id => exact this
    | cond c c1 c2 =>
      intro e h x e' h' hr W φ a w ke R Z hz
      simp only [cCode] at hr
      split at hr
      · rename_i c' hc
        simp only [run] at hr
        have hcv := cOpd_RV ke hc
        split at hr
        · rename_i hb
          rw [hb] at hcv
          exact wp_cond_true hcv.bool (ihr c1 e h x e' h' hr W φ a w ke R Z hz)
        · rename_i hb
          rw [hb] at hcv
          exact wp_cond_false hcv.bool (ihr c2 e h x e' h' hr W φ a w ke R Z hz)
        · cases hr
      · simp [run] at hr
    | block id c =>
      intro e h x e' h' hr W φ a w ke R Z hz
      simp only [cCode, run] at hr
      refine wp_block ?_
      split at hr
      · rename_i id' e1 h1 hr1
        refine ihr c e h (.ex id') e1 h1 hr1 W φ a w ke R _ fun a1 w1 hends => ?_
        cases hb : Nat.beq id' id with
        | true =>
          rw [hb] at hr
          simp at hr
          obtain ⟨rfl, rfl, rfl⟩ := hr
          have := Nat.eq_of_beq_eq_true hb
          simp only [AX.exit, Exit.inBlock, this, if_true]
          exact hz a1 w1 hends
        | false =>
          rw [hb] at hr
          simp at hr
          obtain ⟨rfl, rfl, rfl⟩ := hr
          have hne : id' ≠ id := fun h' => by rw [h'] at hb; simp at hb
          simp only [AX.exit, Exit.inBlock, hne, if_false]
          exact hz a1 w1 hends
      · rename_i hne
        refine ihr c e h x e' h' hr W φ a w ke R _ fun a1 w1 hends => ?_
        have := hz a1 w1 hends
        cases x with
        | nx => exact this
        | rt => exact this
        | ex id' => exact absurd hr (hne id' e' h')
    | loop c =>
      intro e h x e' h' hr W φ a w ke R Z hz
      simp only [cCode] at hr
      exact wp_loop_rounds (n + 1) (hloop c e h x e' h' hr W φ a w ke R Z hz)
    | region id ops draw =>
      intro e h x e' h' hr W φ a w ke R Z hz
      cases draw with
      | false =>
        simp only [cCode] at hr
        split at hr
        · rename_i cs hcs
          simp only [run] at hr
          split at hr <;> simp at hr
          rename_i e1 h1 hro
          obtain ⟨rfl, rfl, rfl⟩ := hr
          refine wp_region ?_
          rw [List.range_eq_range']
          exact reg_ok hS (callBy_ok hS ihr) hcs ops.size 0 φ e a h w e1 h1 (by simp) ke R (by simpa using hro) hz
        · simp [run] at hr
      | true =>
        simp only [cCode] at hr
        cases hd : cDraw P ops with
        | none => rw [hd] at hr; simp [run] at hr
        | some ic =>
          rw [hd] at hr
          have : ∃ r, ic = .dreg r := by
            unfold cDraw at hd
            split at hd
            · cases hd
            · simp only at hd
              rename_i cs _
              generalize (Nat.beq _ _ && _ && _ && _ && _) = bb at hd
              cases bb with
              | false => cases hd
              | true =>
                simp only [cond_true] at hd
                split at hd <;> simp at hd
                exact ⟨_, hd.symm⟩
          obtain ⟨r, rfl⟩ := this
          simp only [Option.getD_some, run] at hr
          split at hr <;> simp at hr
          rename_i e1 h1 hro
          obtain ⟨rfl, rfl, rfl⟩ := hr
          exact dreg_ok hm hS (callBy_ok hS ihr) ke R hd hro hz
    | rangeFunc f ps as body => intro e h x e' h' hr; simp [cCode, run] at hr
    | scope c => intro e h x e' h' hr; simp [cCode, run] at hr
    | label l => intro e h x e' h' hr; simp [cCode, run] at hr
    | goto l => intro e h x e' h' hr; simp [cCode, run] at hr
    | refuse why => intro e h x e' h' hr; simp [cCode, run] at hr

/-- What the evaluator says of a call is so. -/
theorem callN_ok (hm : P.follows .mixedOrders = true) (hS : SysOk P S) (n : Nat) : CallOk P (callN S n) := callBy_ok hS (run_ok hm hS n).1
end

end Go.Proofs.YtjldbkicpbchkaaGreat.Ev
