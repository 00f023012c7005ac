/-
  That the evaluator is right: a statement whose order is drawn, whole.
-/
import Derived.Test.YtjldbkicpbchkaaGreatEvAC
namespace Go.Proofs.YtjldbkicpbchkaaGreat.Ev
open Go Go.RowKit

section
variable {P : Program} {S : ASys} {call : CallF} {ops : Array Oper} {n : Nat} {ord : Nat → Nat} {C : Nat → IOper} {Ah : Nat → Nat → Prop} {L : Nat → List Nat} {E : Nat → Env} {H : Nat → AHeap}
variable {W : World} {φ₀ φ : Phi} {dfs : List Deferred} {listed : Array Bool} {K : Nat} {ea : Env} {a : Act} {w : World}

theorem heavy_looks {io : IOp} (h : io.heavy = true) : io.looks = true := by cases io <;> simp [IOp.heavy] at h <;> rfl

theorem Trace.grown (T : Trace S call n C L E H) {q : Nat} (hq : q < n) (hon : (C q).on (E q) = true) {m : NOp} (hk : (C q).k = .n m) : (H (q + 1)).n = (H q).n + 1 := by
  obtain ⟨v, _, h⟩ := step_put (T.step q hq)
  rcases h with ⟨_, h⟩ | ⟨h, _⟩
  · rw [hk] at h
    simp only [IOp.run] at h
    split at h <;> simp at h
    rw [← h.2]
    simp
  · rw [hon] at h; cases h

theorem Trace.value (A : Plan P ops n ord C Ah L) (T : Trace S call n C L E H) {q : Nat} (hq : q < n) {v : AV} (hv : E (q + 1) = put (E q) (C q).d v) : ∀ d, (C q).d = some d → d < (E 0).length → v = (E n).getD d .undef := by
  intro d hd hlt
  rw [← T.final A hq hd (Nat.lt_succ_self q) hq, hv, hd, put_getD_eq, if_pos (by rw [T.length q (by omega)]; exact hlt)]

theorem Inv.stepped (A : Plan P ops n ord C Ah L) (T : Trace S call n C L E H) (hS : SysOk P S) (hcall : CallOk P call) (I : Inv P W φ₀ ops n ord C E H dfs listed K φ ea a w) {q : Nat} (hq : q < n) {o : Oper} (ho : ops[ord q]? = some o)
    (hnd : ¬ Done listed ord q) (hr : ∀ e ∈ o.after, Region.binds .any e = true → listed.getD e.on false = true) {Z : Exit → Act → World → Prop} {next : Act → World → Prop}
    (hn : ∀ K' φ' ea' a' w', Inv P W φ₀ ops n ord C E H dfs (listed.setIfInBounds (ord q) true) K' φ' ea' a' w' → next a' w') : wpOp P ops Z (ord q) next a w := by
  -- as far as the evaluator must be
  obtain ⟨K, I, hKl, hKh⟩ : ∃ K, Inv P W φ₀ ops n ord C E H dfs listed K φ ea a w ∧ ((C q).k.looks = true → (C q).k.heavy = false → q < K) ∧ ((C q).k.heavy = true → K = q) := by
    cases hlk : (C q).k.looks with
    | false => exact ⟨K, I, by simp, fun h => by rw [heavy_looks h] at hlk; cases hlk⟩
    | true =>
      have hlight := I.light A hq ho hr hlk
      cases hh : (C q).k.heavy with
      | true =>
        have hKq : K ≤ q := Nat.le_of_not_lt fun hlt => hnd (I.past q hlt hh)
        exact ⟨q, I.advance_to A T (by omega) (q - K) K (by omega) hlight, by simp, fun _ => rfl⟩
      | false =>
        by_cases hqK : q < K
        · exact ⟨K, I, fun _ _ => hqK, by simp⟩
        · exact ⟨q + 1, I.advance_to A T hq (q + 1 - K) K (by omega) (fun p p1 p2 => if h : p = q then by rw [h]; exact hh else hlight p p1 (by omega)), fun _ _ => by omega, by simp⟩
  obtain ⟨v, hv, hon⟩ := step_put (T.step q hq)
  have hval := T.value A hq hv
  have hagree := I.agree A T hq ho hnd hr
  obtain ⟨o', ho', hoc, _⟩ := A.oper q hq
  rw [ho] at ho'
  cases ho'
  obtain ⟨hw, hd1, hk1⟩ := on_ok I.env hoc
  have hEn := T.length n (Nat.le_refl n)
  rw [IOper.on_congr hagree] at hw
  unfold wpOp
  simp only [ho]
  rw [← hw]
  have hno : ∀ p, K ≤ p → p < K → p = q := fun p h1 h2 => by omega
  rcases hon with ⟨hon, hrun⟩ | ⟨hoff, rfl, hH⟩
  case inr =>
    rw [hoff]
    simp only [Bool.false_eq_true, if_false]
    rw [← hd1]
    cases hh : (C q).k.heavy with
    | false =>
      refine hn K φ _ _ w (I.settle A hq ho hr hEn (Nat.le_refl K) I.le (RV_undef φ) (Phi.le_refl φ) hval hno (fun h => hKl h hh) (fun p h1 _ h3 h4 => I.pend p h1 h3 h4) (fun p h1 h2 => by omega) I.rel fun b l hb => .inl hb)
    | true =>
      obtain rfl := hKh hh
      refine hn (K + 1) φ _ _ w (I.settle A hq ho hr hEn (Nat.le_succ K) hq (RV_undef φ) (Phi.le_refl φ) hval (fun p h1 h2 => by omega) (fun _ => Nat.lt_succ_self K)
        (fun p h1 h2 h3 h4 => by rw [hH]; exact I.pend p (by omega) h3 h4) (fun p h1 h2 => by rw [show p = K by omega, hH]; exact Nat.le_refl _) (by rw [hH]; exact I.rel) fun b l hb => .inl hb)
  rw [hon]
  simp only [if_true]
  refine .inl ?_
  cases hh : (C q).k.heavy with
  | true =>
    obtain rfl := hKh hh
    rw [← IOper.run_congr hagree, hk1] at hrun
    refine (op_ok hS hcall I.env I.rel hrun).upon fun v' w1 hp => ?_
    obtain ⟨hn1, φ1, hle1, hnew1, hrv1, R1⟩ := hp
    rw [← hd1]
    refine hn (K + 1) φ1 _ _ w1 (I.settle A hq ho hr hEn (Nat.le_succ K) hq hrv1 hle1 hval (fun p h1 h2 => by omega) (fun _ => Nat.lt_succ_self K) (fun p h1 h2 h3 h4 => ?_) (fun p h1 h2 => by rw [show p = K by omega]; exact hn1) R1 fun b l hb => ?_)
    · have hpk : p < K := by omega
      have hpend := I.pend p hpk h3 h4
      have hnone := post_none I.rel hnew1
      cases hlp : (C p).k.looks with
      | false => unfold Pend; cases hkp : (C p).k <;> rw [hkp] at hlp <;> simp [IOp.looks] at hlp <;> trivial
      | true =>
        have hnh : (C p).k.heavy = false := by
          cases hhp : (C p).k.heavy with
          | false => rfl
          | true => exact absurd (I.past p hpk hhp) h3
        refine hpend.again A T hq hpk (A.late p K hpk hq hh (fun hah => h3 ?_) hlp) h4 hlp hnh fun h1 h2 => hnone _ h2 h1
        have := A.down (fun x => Done listed ord x ∨ x = K) (fun x ox hx hox hD e he hb y hy hye => ?_) p K (by omega) hq hah (.inr rfl)
        · exact this.resolve_right (by omega)
        · rcases hD with hD | rfl
          · left; unfold Done; rw [hye]; exact I.closed x ox hx hox hD e he hb
          · rw [ho] at hox; cases hox
            left; unfold Done; rw [hye]; exact hr e he hb
    · rcases hnew1 b l hb with h1 | h1
      · exact .inl h1
      · exact .inr (Nat.le_trans (mono_n I.mono K 0 (Nat.zero_le K) (Nat.le_refl K)) h1)
  | false =>
    -- one that changes nothing
    have still : ∀ (hsame : (C q).k.run S call ea (H K) = some (v, H K)), o.wp P a w next Z := by
      intro hsame
      rw [hk1] at hsame
      refine (op_ok hS hcall I.env I.rel hsame).upon fun v' w1 hp => ?_
      obtain ⟨hn1, φ1, hle1, hnew1, hrv1, R1⟩ := hp
      rw [← hd1]
      refine hn K φ1 _ _ w1 (I.settle A hq ho hr hEn (Nat.le_refl K) I.le hrv1 hle1 hval hno (fun h => hKl h hh) (fun p h1 _ h3 h4 => (I.pend p h1 h3 h4).same (post_none I.rel hnew1)) (fun p h1 h2 => by omega) R1 fun b l hb => ?_)
      rcases hnew1 b l hb with h1 | h1
      · exact .inl h1
      · exact .inr (Nat.le_trans (mono_n I.mono K 0 (Nat.zero_le K) (Nat.le_refl K)) h1)
    cases hk : (C q).k with
    | a x => rw [hk] at hh; simp [IOp.heavy] at hh
    | c x => rw [hk] at hh; simp [IOp.heavy] at hh
    | p x =>
      refine still ?_
      rw [IOper.run_congr hagree, hk]
      rw [hk] at hrun
      simp only [IOp.run] at hrun ⊢
      split at hrun <;> simp at hrun
      rename_i u hu
      simp only [hu, hrun.1]
    | k x =>
      refine still ?_
      rw [IOper.run_congr hagree, hk]
      rw [hk] at hrun
      simp only [IOp.run] at hrun ⊢
      split at hrun <;> simp at hrun
      rename_i u hu
      simp only [hu, hrun.1]
    | r x =>
      have hqK := hKl (by rw [hk]; rfl) hh
      have hp := I.pend q hqK hnd hon
      unfold Pend at hp
      rw [hk] at hp
      obtain ⟨u, h1, h2⟩ := hp
      -- the value, if it is kept at all, is the same
      have hu : ∀ d, (C q).d = some d → d < (E 0).length → u = (E n).getD d .undef := h2
      have hsame : (C q).k.run S call ea (H K) = some (u, H K) := by
        rw [IOper.run_congr hagree, hk]
        simp only [IOp.run, h1]
      rw [hk1] at hsame
      refine (op_ok hS hcall I.env I.rel hsame).upon fun v' w1 hp => ?_
      obtain ⟨hn1, φ1, hle1, hnew1, hrv1, R1⟩ := hp
      rw [← hd1]
      refine hn K φ1 _ _ w1 (I.settle A hq ho hr hEn (Nat.le_refl K) I.le hrv1 hle1 hu hno (fun _ => hqK) (fun p h1 _ h3 h4 => (I.pend p h1 h3 h4).same (post_none I.rel hnew1)) (fun p h1 h2 => by omega) R1 fun b l hb => ?_)
      rcases hnew1 b l hb with h1 | h1
      · exact .inl h1
      · exact .inr (Nat.le_trans (mono_n I.mono K 0 (Nat.zero_le K) (Nat.le_refl K)) h1)
    | n x =>
      have hqK := hKl (by rw [hk]; rfl) hh
      have hp := I.pend q hqK hnd hon
      unfold Pend at hp
      rw [hk] at hp
      obtain ⟨ob, mk, h1, h2, h3, h4⟩ := hp
      have hro := NOp.run_congr (o := x) (by have := opds_agree hagree; rw [hk] at this; exact this)
      rw [← hro] at h1
      have hc : cOp P o.op = some (.n x) := by
        rw [hk] at hk1
        cases hco : cOp P o.op with
        | none => rw [hco] at hk1; simp [IOp.none] at hk1
        | some io => rw [hco] at hk1; simp at hk1; rw [← hk1]
      obtain ⟨hkin, hd, v', w', l, g1, g2, g3, g4⟩ := nOp_ok (P := P) (w := w) I.env hc h1
      have hbn : (H q).n < (H K).n := Nat.lt_of_not_le fun hle => by rw [I.rel.wf _ hle] at h2; cases h2
      obtain ⟨hor, hrv⟩ := g4 (φ.bind (H q).n l) (H q).n W.heap.size (Phi.le_bind h3 l) (Phi.bind_self _ _ _) I.rel.below.size
      have R1 := I.rel.bind h3 h2 hbn hd g2 g3 hor
      have hg : Goes P ((execOp a.eval o).run P w) fun u1 u2 => u1 = v' ∧ u2 = w' := by rw [g1]; exact ⟨rfl, rfl⟩
      refine hg.upon fun u1 u2 hu => ?_
      obtain ⟨rfl, rfl⟩ := hu
      rw [← hd1]
      have hq1 := T.grown hq hon hk
      refine hn K _ _ _ _ (I.settle A hq ho hr hEn (Nat.le_refl K) I.le hrv (Phi.le_bind h3 l) h4 hno (fun _ => hqK) (fun p p1 p2 p3 p4 => ?_) (fun p h1 h2 => by omega) R1 fun b x hb => ?_)
      · have hpp := I.pend p p1 p3 p4
        unfold Pend at hpp ⊢
        split
        · rename_i r hkp; rw [hkp] at hpp; exact hpp
        · rename_i m hkp
          rw [hkp] at hpp
          obtain ⟨ob2, mk2, e1, e2, e3, e4⟩ := hpp
          refine ⟨ob2, mk2, e1, e2, ?_, e4⟩
          have hp1 := T.grown (by have := I.le; omega) p4 hkp
          have hne : (H p).n ≠ (H q).n := by
            rcases Nat.lt_or_gt_of_ne p2 with hlt | hlt
            · have := mono_n I.mono q (p + 1) hlt (by omega)
              omega
            · have := mono_n I.mono p (q + 1) hlt (by omega)
              omega
          simp [Phi.bind, hne, e3]
        · trivial
      · unfold Phi.bind at hb
        split at hb
        · rename_i e; subst e; exact .inr (mono_n I.mono q 0 (Nat.zero_le q) (by omega))
        · exact .inl hb

/-- All has been. -/
theorem Inv.ended (A : Plan P ops n ord C Ah L) (T : Trace S call n C L E H) (I : Inv P W φ₀ ops n ord C E H dfs listed K φ ea a w) (hall : ∀ q, q < n → Done listed ord q) :
    EnvR φ (E n) a ∧ Rel W φ (H n) w ∧ (H 0).n ≤ (H n).n := by
  have I' := I.advance_to A T (Nat.le_refl n) (n - K) K (by have := I.le; omega) fun p h1 h2 => by
    cases hh : (C p).k.heavy with
    | false => rfl
    | true => exact absurd (hall p h2) (I.ahead p h1 h2 (heavy_looks hh))
  refine ⟨⟨by rw [T.length n (Nat.le_refl n), ← I'.len]; exact I'.env.1, fun t => ?_⟩, I'.rel, mono_n I'.mono n 0 (Nat.zero_le n) (Nat.le_refl n)⟩
  have h1 := I'.env.2 t
  by_cases hex : ∃ q, q < n ∧ (C q).d = some t
  · obtain ⟨q, hq, hd⟩ := hex
    rw [← I'.set q t hq (hall q hq) hd]
    exact h1
  · rw [T.keep n (Nat.zero_le n) (Nat.le_refl n) fun p _ hp hd => hex ⟨p, hp, hd⟩, ← I'.unset t fun q hq _ hd => hex ⟨q, hq, hd⟩]
    exact h1

def left (listed : Array Bool) (n : Nat) : Nat := (List.range n).countP fun i => !(listed.getD i false)

theorem countP_lt {p p' : Nat → Bool} : ∀ {l : List Nat} {x : Nat}, x ∈ l → p x = true → p' x = false → (∀ y, p' y = true → p y = true) → l.countP p' < l.countP p
  | y :: l, x, hx, h1, h2, h3 => by
    have hle : ∀ l : List Nat, l.countP p' ≤ l.countP p := fun l => by
      induction l with
      | nil => simp
      | cons z l ih =>
        rw [List.countP_cons, List.countP_cons]
        cases hz : p' z with
        | false => simp; omega
        | true => simp [h3 z hz]; omega
    rw [List.countP_cons, List.countP_cons]
    rcases List.mem_cons.1 hx with rfl | hx
    · rw [h1, h2]; have := hle l; simp; omega
    · have ih := countP_lt hx h1 h2 h3
      cases hz : p' y with
      | false => simp; omega
      | true => simp [h3 y hz]; omega

theorem Inv.any (A : Plan P ops n ord C Ah L) (T : Trace S call n C L E H) (hS : SysOk P S) (hcall : CallOk P call) {Z : Exit → Act → World → Prop} (hz : ∀ a' w', Ends W φ₀ (H 0) (E n) (H n) dfs a' w' → Z .normal a' w') :
    ∀ (fuel : Nat) (listed : Array Bool) (K : Nat) (φ : Phi) (ea : Env) (a : Act) (w : World), left listed n ≤ fuel → Inv P W φ₀ ops n ord C E H dfs listed K φ ea a w → wpAny P .any ops Z fuel listed a w := by
  -- where nothing may come next, all has been
  have hnil : ∀ (listed : Array Bool), listed.size = n → Region.ready .any ops listed = [] → ∀ q, q < n → Done listed ord q := by
    intro listed hs hnil q
    induction q using Nat.strongRecOn with
    | _ q ih =>
      intro hq
      obtain ⟨o, ho, _, hedge⟩ := A.oper q hq
      apply Classical.byContradiction
      intro hnd
      have : ord q ∈ Region.ready .any ops listed := by
        rw [mem_ready]
        have hlt := A.lt q hq
        refine ⟨?_, o, ho, fun e he hb => ?_⟩
        · unfold Done at hnd
          have hlt' : ord q < listed.size := by omega
          simp [hlt'] at hnd ⊢
          exact hnd
        · obtain ⟨p, hp, hpe⟩ := hedge e he hb
          have := ih p hp (by omega)
          unfold Done at this
          rwa [hpe] at this
      rw [hnil] at this
      cases this
  have hend : ∀ {listed : Array Bool} {K : Nat} {φ : Phi} {ea : Env} {a : Act} {w : World}, Inv P W φ₀ ops n ord C E H dfs listed K φ ea a w → (∀ q, q < n → Done listed ord q) → Z .normal a w := by
    intro listed K φ ea a w I hall
    obtain ⟨h1, h2, h3⟩ := I.ended A T hall
    exact hz a w ⟨h3, φ, I.ge, I.news, h1, h2, I.dfs⟩
  intro fuel
  induction fuel with
  | zero =>
    intro listed K φ ea a w hf I
    have hall : ∀ q, q < n → Done listed ord q := by
      intro q hq
      have h0 : left listed n = 0 := by omega
      unfold left at h0
      rw [List.countP_eq_zero] at h0
      have := h0 (ord q) (List.mem_range.2 (A.lt q hq))
      simpa [Done] using this
    refine ⟨?_, hend I hall⟩
    refine List.eq_nil_iff_forall_not_mem.2 fun i hi => ?_
    rw [mem_ready] at hi
    obtain ⟨h1, o, ho, _⟩ := hi
    have hin : i < n := by rw [A.size]; exact (Array.getElem?_eq_some_iff.1 ho).1
    obtain ⟨q, hq, rfl⟩ := A.onto i hin
    have hd := hall q hq
    have hlt : ord q < listed.size := by rw [I.sz]; exact hin
    unfold Done at hd
    simp [hlt] at hd h1
    rw [hd] at h1
    cases h1
  | succ fuel ih =>
    intro listed K φ ea a w hf I
    refine ⟨fun hr => hend I (hnil listed I.sz hr), fun i hi => ?_⟩
    rw [mem_ready] at hi
    obtain ⟨h1, o, ho, hr⟩ := hi
    have hin : i < n := by rw [A.size]; exact (Array.getElem?_eq_some_iff.1 ho).1
    obtain ⟨q, hq, rfl⟩ := A.onto i hin
    have hlt : ord q < listed.size := by rw [I.sz]; exact hin
    have hnd : ¬ Done listed ord q := by
      unfold Done
      simp [hlt] at h1 ⊢
      exact h1
    refine I.stepped A T hS hcall hq ho hnd hr fun K' φ' ea' a' w' I' => ih _ K' φ' ea' a' w' ?_ I'
    have : left (listed.setIfInBounds (ord q) true) n < left listed n := by
      unfold left
      refine countP_lt (x := ord q) (List.mem_range.2 hin) (by simpa [Done] using hnd) (by simp [hlt]) fun y hy => ?_
      by_cases hyq : ord q = y
      · subst hyq; simp [hlt] at hy
      · rw [getD_set_ne false hyq] at hy; exact hy
    omega
end

end Go.Proofs.YtjldbkicpbchkaaGreat.Ev
