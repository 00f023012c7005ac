/-
  That the evaluator is right: the checks of a statement whose order is drawn give its plan.
-/
import Derived.Test.YtjldbkicpbchkaaGreatEvAD
import Derived.LoopN
namespace Go.Proofs.YtjldbkicpbchkaaGreat.Ev
open Go Go.RowKit

theorem orderOk_spec {ops : List Oper} : ∀ {l seen : List Nat}, orderOk ops seen l = true → ∀ (q x : Nat), l[q]? = some x →
    x ∉ seen ∧ (∀ q', q' < q → l[q']? ≠ some x) ∧ ∃ o, ops[x]? = some o ∧ ∀ e ∈ o.after, Region.binds .any e = true → e.on ∈ seen ∨ ∃ p, p < q ∧ l[p]? = some e.on
  | [], seen, _, q, x, hx => by simp at hx
  | j :: js, seen, h, q, x, hx => by
    simp only [orderOk, Bool.and_eq_true] at h
    obtain ⟨⟨h1, h2⟩, h3⟩ := h
    cases q with
    | zero =>
      simp at hx
      subst hx
      refine ⟨by simpa using h1, fun q' hq' => by omega, ?_⟩
      split at h2
      · rename_i o ho
        refine ⟨o, ho, fun e he hb => .inl ?_⟩
        rw [List.all_eq_true] at h2
        have := h2 e (by simpa using he)
        simpa [hb] using this
      · simp at h2
    | succ q =>
      simp at hx
      obtain ⟨g1, g2, o, ho, g3⟩ := orderOk_spec h3 q x hx
      refine ⟨fun hm => g1 (by simp [hm]), fun q' hq' => ?_, o, ho, fun e he hb => ?_⟩
      · cases q' with
        | zero => intro hc; simp at hc; subst hc; exact g1 (by simp)
        | succ q' => simpa using g2 q' (by omega)
      · rcases g3 e he hb with hm | ⟨p, hp, hpe⟩
        · simp at hm
          rcases hm with hm | hm
          · exact .inl hm
          · exact .inr ⟨0, by omega, by simp [hm]⟩
        · exact .inr ⟨p + 1, by omega, by simpa using hpe⟩

theorem pairsOk_spec {ms : List Nat} {cs : List IOper} : ∀ {l : List Nat}, pairsOk ms cs l = true → ∀ (q p i j : Nat), q < p → l[q]? = some i → l[p]? = some j →
    ∃ ci cj, cs[i]? = some ci ∧ cs[j]? = some cj ∧ pairOk ms ci cj i j = true ∧ (ci.d = none ∨ ci.d ≠ cj.d)
  | [], _, q, p, i, j, _, hi, _ => by simp at hi
  | x :: xs, h, q, p, i, j, hqp, hi, hj => by
    simp only [pairsOk, Bool.and_eq_true] at h
    obtain ⟨h1, h2⟩ := h
    cases p with
    | zero => omega
    | succ p =>
      simp at hj
      cases q with
      | zero =>
        simp at hi
        subst hi
        rw [List.all_eq_true] at h1
        have := h1 j (List.mem_of_getElem? hj)
        split at this
        · rename_i ci cj hci hcj
          simp only [Bool.and_eq_true, Bool.or_eq_true, beq_iff_eq, bne_iff_ne] at this
          exact ⟨ci, cj, hci, hcj, this.1, this.2⟩
        · simp at this
      | succ q => simp at hi; exact pairsOk_spec h2 q p i j (by omega) hi hj

theorem dress_spec {ms : List Nat} {cs : List IOper} : ∀ {l pre : List Nat} {r : List (IOper × List Nat)}, dress ms cs pre l = some r → r.length = l.length ∧
    ∀ (q j : Nat), l[q]? = some j → ∃ cj, cs[j]? = some cj ∧ r[q]? = some (cj, lates ms cs (pre ++ l.take q) j)
  | [], pre, r, h => by simp [dress] at h; subst h; simp
  | j :: js, pre, r, h => by
    simp only [dress] at h
    split at h <;> simp at h
    rename_i cj r' hcj hr
    subst h
    obtain ⟨g1, g2⟩ := dress_spec hr
    refine ⟨by simp [g1], fun q x hx => ?_⟩
    cases q with
    | zero => simp at hx; subst hx; exact ⟨cj, hcj, by simp⟩
    | succ q =>
      simp at hx
      obtain ⟨cx, hcx, hr⟩ := g2 q x hx
      exact ⟨cx, hcx, by simpa using hr⟩

theorem fold_testBit {acc : List Nat} : ∀ (l : List Edge) (s i : Nat), (l.foldl (fun s e => cond (Region.binds .any e) (s ||| 2 ^ e.on ||| acc.getD e.on 0) s) s).testBit i = true →
    s.testBit i = true ∨ ∃ e ∈ l, Region.binds .any e = true ∧ (e.on = i ∨ (acc.getD e.on 0).testBit i = true)
  | [], s, i, h => .inl h
  | e :: l, s, i, h => by
    rw [List.foldl_cons] at h
    rcases fold_testBit l _ i h with h1 | ⟨e', he', h1⟩
    · cases hb : Region.binds .any e with
      | false => rw [hb] at h1; exact .inl h1
      | true =>
        rw [hb] at h1
        simp only [cond_true, Nat.testBit_or, Bool.or_eq_true] at h1
        rcases h1 with (h1 | h1) | h1
        · exact .inl h1
        · exact .inr ⟨e, by simp, hb, .inl (by simpa [Nat.testBit_two_pow] using h1)⟩
        · exact .inr ⟨e, by simp, hb, .inr h1⟩
    · exact .inr ⟨e', by simp [he'], h1⟩

def MasksOk (ops : List Oper) (acc : List Nat) : Prop :=
  ∀ j, j < acc.length → ∀ i, (acc.getD j 0).testBit i = true → ∃ o, ops[j]? = some o ∧ ∃ e ∈ o.after, Region.binds .any e = true ∧ (e.on = i ∨ (e.on < j ∧ (acc.getD e.on 0).testBit i = true))

theorem masks_ok {ops : List Oper} : ∀ (os pre : List Oper) (acc : List Nat), ops = pre ++ os → acc.length = pre.length → MasksOk ops acc → MasksOk ops (masks acc os)
  | [], pre, acc, _, _, h => h
  | o :: os, pre, acc, hops, hl, h => by
    rw [masks]
    refine masks_ok os (pre ++ [o]) _ (by simp [hops]) (by simp [hl]) fun j hj i hi => ?_
    have hout : ∀ k, k < acc.length → ∀ m, (acc ++ [m]).getD k 0 = acc.getD k 0 := fun k hk m => by
      simp [List.getD, List.getElem?_append_left hk]
    by_cases hja : j < acc.length
    · rw [hout j hja] at hi
      obtain ⟨o', ho', e, he, hb, h1⟩ := h j hja i hi
      refine ⟨o', ho', e, he, hb, ?_⟩
      rcases h1 with h1 | ⟨h1, h2⟩
      · exact .inl h1
      · exact .inr ⟨h1, by rw [hout _ (by omega)]; exact h2⟩
    · simp at hj
      have hje : j = acc.length := by omega
      subst hje
      have hlast : ∀ m : Nat, (acc ++ [m]).getD acc.length 0 = m := fun m => by simp [List.getD]
      rw [hlast] at hi
      refine ⟨o, by rw [hops, hl]; simp, ?_⟩
      rcases fold_testBit _ _ _ hi with h1 | ⟨e, he, hb, h1⟩
      · simp at h1
      · refine ⟨e, by simpa using he, hb, ?_⟩
        rcases h1 with h1 | h1
        · exact .inl h1
        · have hlt : e.on < acc.length := Nat.lt_of_not_le fun hle => by
            have : acc.getD e.on 0 = 0 := by simp [List.getD, hle]
            rw [this] at h1
            simp at h1
          exact .inr ⟨hlt, by rw [hout _ hlt]; exact h1⟩

theorem ahead_down {ops : Array Oper} {D : Nat → Prop} (hD : ∀ j o, ops[j]? = some o → D j → ∀ e ∈ o.after, Region.binds .any e = true → D e.on) : ∀ (j i : Nat), ahead (masks [] ops.toList) i j = true → D j → D i := by
  have hm := masks_ok (ops := ops.toList) ops.toList [] [] (by simp) rfl (fun j hj => by simp at hj)
  intro j
  induction j using Nat.strongRecOn with
  | _ j ih =>
    intro i hi hj
    unfold ahead at hi
    have hjl : j < (masks [] ops.toList).length := Nat.lt_of_not_le fun hle => by
      have : (masks [] ops.toList).getD j 0 = 0 := by simp [List.getD, hle]
      rw [this] at hi
      simp at hi
    obtain ⟨o, ho, e, he, hb, h1⟩ := hm j hjl i hi
    have hde := hD j o (by simpa using ho) hj e he hb
    rcases h1 with h1 | ⟨h1, h2⟩
    · rw [← h1]; exact hde
    · exact ih e.on h1 i h2 hde

theorem plan_of {P : Program} {ops : Array Oper} {r : List (IOper × List Nat)} (h : cDraw P ops = some (.dreg r)) : ∃ ord Ah, r.length = ops.size ∧ Plan P ops ops.size ord (fun q => (r.getD q default).1) Ah (fun q => (r.getD q default).2) := by
  unfold cDraw at h
  split at h
  · cases h
  rename_i cs hcs
  simp only at h
  generalize hord : early (ops.toList.zip cs) ops.size [] = order at h
  generalize hmm : masks [] ops.toList = ms at h
  cases hb : (Nat.beq order.length ops.size && (List.range ops.size).all (order.contains ·) && orderOk ops.toList [] order && pairsOk ms cs order && cs.all selfOk) with
  | false => rw [hb] at h; cases h
  | true =>
    rw [hb] at h
    simp only [cond_true] at h
    split at h <;> simp at h
    rename_i r' hr
    subst h
    simp only [Bool.and_eq_true] at hb
    obtain ⟨⟨⟨⟨b1, b2⟩, b3⟩, b4⟩, b5⟩ := hb
    have hlen := Nat.eq_of_beq_eq_true b1
    have hget := allSome_get hcs
    have hcl := hget.1
    simp at hcl
    obtain ⟨hrl, hdr⟩ := dress_spec hr
    have hq : ∀ q, q < ops.size → ∃ x, order[q]? = some x ∧ order.getD q 0 = x := fun q hq' => by
      have : q < order.length := by omega
      exact ⟨order[q], by simp [this], by simp [List.getD, this]⟩
    have hC : ∀ q x, order[q]? = some x → ∃ c, cs[x]? = some c ∧ r'[q]? = some (c, lates ms cs (order.take q) x) ∧ r'.getD q default = (c, lates ms cs (order.take q) x) := fun q x hx => by
      obtain ⟨c, h1, h2⟩ := hdr q x hx
      exact ⟨c, h1, by simpa using h2, by simp only [List.getD, h2]; simp⟩
    have hinj : ∀ (p q x : Nat), order[p]? = some x → order[q]? = some x → p = q := by
      intro p q x hp hq'
      rcases Nat.lt_trichotomy p q with h | h | h
      · exact absurd hp ((orderOk_spec b3 q x hq').2.1 p h)
      · exact h
      · exact absurd hq' ((orderOk_spec b3 p x hp).2.1 q h)
    refine ⟨fun q => order.getD q 0, fun q p => ahead ms (order.getD q 0) (order.getD p 0) = true, by omega, ?_⟩
    have pair : ∀ q p, q < p → p < ops.size → ∃ x y cx cy, order[q]? = some x ∧ order[p]? = some y ∧ order.getD q 0 = x ∧ order.getD p 0 = y ∧ (r'.getD q default).1 = cx ∧ (r'.getD p default).1 = cy ∧ pairOk ms cx cy x y = true ∧ (cx.d = none ∨ cx.d ≠ cy.d) := by
      intro q p hqp hp
      obtain ⟨x, hx, hx'⟩ := hq q (by omega)
      obtain ⟨y, hy, hy'⟩ := hq p hp
      obtain ⟨cx, cy, h1, h2, h3, h4⟩ := pairsOk_spec b4 q p x y hqp hx hy
      obtain ⟨c1, g1, _, g2⟩ := hC q x hx
      obtain ⟨c2, g3, _, g4⟩ := hC p y hy
      rw [h1] at g1; cases g1
      rw [h2] at g3; cases g3
      exact ⟨x, y, cx, cy, hx, hy, hx', hy', by rw [g2], by rw [g4], h3, h4⟩
    refine { size := rfl, lt := fun q hq' => ?_, onto := fun i hi => ?_, inj := fun p q hp hq' he => ?_, oper := fun q hq' => ?_, heavy := fun q p hqp hp h1 h2 => ?_, war := fun q p d hqp hp h1 h2 => ?_, raw := fun q p d hqp hp h1 h2 => ?_,
             waw := fun q p d hqp hp h1 => ?_, noself := fun q hq' d h1 h2 h3 => ?_, down := fun D hD q p hq' hp hah hDp => ?_, late := fun q k hqk hk h1 h2 h3 => ?_ }
    · obtain ⟨x, hx, hx'⟩ := hq q hq'
      obtain ⟨_, _, o, ho, _⟩ := orderOk_spec b3 q x hx
      show order.getD q 0 < _
      rw [hx']
      simpa using (List.getElem?_eq_some_iff.1 ho).1
    · rw [List.all_eq_true] at b2
      have := b2 i (List.mem_range.2 hi)
      have hm : i ∈ order := by simpa using this
      obtain ⟨q, hq', he⟩ := List.mem_iff_getElem.1 hm
      exact ⟨q, by omega, by show order.getD q 0 = i; simp [List.getD, hq', he]⟩
    · obtain ⟨x, hx, hx'⟩ := hq p hp
      obtain ⟨y, hy, hy'⟩ := hq q hq'
      have he' : order.getD p 0 = order.getD q 0 := he
      rw [hx', hy'] at he'
      subst he'
      exact hinj p q x hx hy
    · obtain ⟨x, hx, hx'⟩ := hq q hq'
      obtain ⟨_, _, o, ho, he⟩ := orderOk_spec b3 q x hx
      obtain ⟨c, g1, _, g2⟩ := hC q x hx
      obtain ⟨o2, ho2, hoc⟩ := hget.2 x c g1
      rw [ho] at ho2; cases ho2
      refine ⟨o, by show ops[order.getD q 0]? = _; rw [hx']; simpa using ho, by rw [g2]; exact hoc, fun e he' hb => ?_⟩
      rcases he e he' hb with hm | ⟨p, hp, hpe⟩
      · simp at hm
      · exact ⟨p, hp, by show order.getD p 0 = _; simp [List.getD, hpe]⟩
    · obtain ⟨x, y, cx, cy, _, _, e1, e2, e3, e4, e5, _⟩ := pair q p hqp hp
      simp only [e1, e2, e3, e4] at h1 h2 ⊢
      simp only [pairOk, Bool.and_eq_true, Bool.or_eq_true, Bool.not_eq_true'] at e5
      rcases e5.1.1 with h | h
      · exact h
      · rw [h1, h2] at h; cases h
    · obtain ⟨x, y, cx, cy, _, _, e1, e2, e3, e4, e5, _⟩ := pair q p hqp hp
      simp only [e1, e2, e3, e4] at h1 h2 ⊢
      simp only [pairOk, Bool.and_eq_true] at e5
      have e6 := e5.1.2
      rw [h1] at e6
      simp [h2] at e6
      exact ⟨e6.1, e6.2⟩
    · obtain ⟨x, y, cx, cy, _, _, e1, e2, e3, e4, e5, _⟩ := pair q p hqp hp
      simp only [e1, e2, e3, e4] at h1 h2 ⊢
      simp only [pairOk, Bool.and_eq_true] at e5
      have e6 := e5.2
      rw [h1] at e6
      simp [h2] at e6
      exact e6.1
    · obtain ⟨x, y, cx, cy, _, _, e1, e2, e3, e4, e5, e6⟩ := pair q p hqp hp
      simp only [e3, e4] at h1 ⊢
      rcases e6 with h | h
      · rw [h] at h1; cases h1
      · rw [h1] at h; exact fun h' => h h'.symm
    · obtain ⟨x, hx, hx'⟩ := hq q hq'
      obtain ⟨c, g1, _, g2⟩ := hC q x hx
      simp only [g2] at h1 h2 h3 ⊢
      rw [List.all_eq_true] at b5
      have := b5 c (List.mem_of_getElem? g1)
      unfold selfOk at this
      rw [h1, h2, h3] at this
      simpa using this
    · have hah' : ahead (masks [] ops.toList) (order.getD q 0) (order.getD p 0) = true := by rw [hmm]; exact hah
      have key := ahead_down (ops := ops) (D := fun i => ∃ x, x < ops.size ∧ order.getD x 0 = i ∧ D x) (fun j o ho hj e he hb => ?_) _ _ hah' ⟨p, hp, rfl, hDp⟩
      · obtain ⟨x, hx, hxe, hDx⟩ := key
        obtain ⟨y, hy, hy'⟩ := hq x hx
        obtain ⟨z, hz, hz'⟩ := hq q hq'
        rw [hy', hz'] at hxe
        subst hxe
        rw [← hinj x q y hy hz]
        exact hDx
      · obtain ⟨x, hx, hxe, hDx⟩ := hj
        have ho' : ops[order.getD x 0]? = some o := by rw [hxe]; exact ho
        obtain ⟨y, hy, hy'⟩ := hq x hx
        obtain ⟨_, _, o2, ho2, hedge⟩ := orderOk_spec b3 x y hy
        have : o2 = o := by
          rw [hy'] at ho'
          have h3 : ops[y]? = some o2 := by simpa using ho2
          rw [ho'] at h3
          cases h3
          rfl
        subst this
        rcases hedge e he hb with hm | ⟨p', hp', hpe⟩
        · simp at hm
        · have hpp : order.getD p' 0 = e.on := by simp [List.getD, hpe]
          exact ⟨p', by omega, hpp, hD x o2 hx ho' hDx e he hb p' (by omega) hpp⟩
    · obtain ⟨x, hx, hx'⟩ := hq q (by omega)
      obtain ⟨y, hy, hy'⟩ := hq k hk
      obtain ⟨c1, f1, _, f2⟩ := hC q x hx
      obtain ⟨c2, g1, _, g2⟩ := hC k y hy
      simp only [f2, g2, hx', hy'] at h1 h2 h3 ⊢
      unfold lates
      rw [g1]
      simp only [h1, cond_true]
      have hkl : k ≤ order.length := by omega
      refine List.mem_filter.2 ⟨List.mem_range.2 (by simp; omega), ?_⟩
      rw [List.getElem?_take, if_pos hqk, hx]
      simp only [f1, h3, Bool.and_true]
      simpa using h2

theorem againAll_mem {all : List (IOper × List Nat)} {e : Env} {h : AHeap} : ∀ {is : List Nat}, againAll all e h is = true → ∀ q ∈ is, ∃ x, all[q]? = some x ∧ again x.1 e h = true
  | [], _, q, hq => by simp at hq
  | i :: is, hh, q, hq => by
    simp only [againAll, Bool.and_eq_true] at hh
    rcases List.mem_cons.1 hq with rfl | hq
    · have := hh.1
      split at this
      · rename_i o is' ho; exact ⟨_, ho, this⟩
      · simp at this
    · exact againAll_mem hh.2 q hq

theorem runD_trace {S : ASys} {call : CallF} {all : List (IOper × List Nat)} : ∀ {l : List (IOper × List Nat)} {e e' : Env} {h h' : AHeap}, runD S call all l e h = some (e', h') →
    ∃ (E : Nat → Env) (H : Nat → AHeap), E 0 = e ∧ H 0 = h ∧ E l.length = e' ∧ H l.length = h' ∧
      ∀ q x, l[q]? = some x → x.1.step S call (E q) (H q) = some (E (q + 1), H (q + 1)) ∧ againAll all (E (q + 1)) (H (q + 1)) x.2 = true
  | [], e, e', h, h', hr => by
    simp [runD] at hr
    exact ⟨fun _ => e, fun _ => h, rfl, rfl, hr.1, hr.2, fun q x hx => by simp at hx⟩
  | (o, is) :: l, e, e', h, h', hr => by
    simp only [runD] at hr
    split at hr
    · rename_i e1 h1 hs
      cases ha : againAll all e1 h1 is with
      | false => rw [ha] at hr; cases hr
      | true =>
        rw [ha] at hr
        obtain ⟨E, H, g1, g2, g3, g4, g5⟩ := runD_trace hr
        refine ⟨fun k => match k with | 0 => e | k + 1 => E k, fun k => match k with | 0 => h | k + 1 => H k, rfl, rfl, g3, g4, fun q x hx => ?_⟩
        cases q with
        | zero =>
          simp at hx
          subst hx
          simp only [Nat.zero_add, g1, g2]
          exact ⟨hs, ha⟩
        | succ q =>
          simp at hx
          exact g5 q x hx
    · cases hr

/-- A statement whose order is drawn. -/
theorem dreg_ok {P : Program} {S : ASys} {call : CallF} {W : World} {φ : Phi} {e : Env} {a : Act} {h : AHeap} {w : World} (hm : P.follows .mixedOrders = true) (hS : SysOk P S) (hcall : CallOk P call) (ke : EnvR φ e a) (R : Rel W φ h w) {ops : Array Oper}
    {r : List (IOper × List Nat)} (hr : cDraw P ops = some (.dreg r)) {e' : Env} {h' : AHeap} (hrun : runD S call r r e h = some (e', h')) {id : Nat} {Z : Exit → Act → World → Prop} (hz : ∀ a' w', Ends W φ h e' h' a.defers a' w' → Z .normal a' w') :
    (Code.region id ops true).wp P Z a w := by
  obtain ⟨ord, Ah, hrl, A⟩ := plan_of hr
  obtain ⟨E, H, g1, g2, g3, g4, g5⟩ := runD_trace hrun
  have hx : ∀ q, q < ops.size → r[q]? = some (r.getD q default) := fun q hq => by
    have : q < r.length := by omega
    simp [List.getD, this]
  have T : Trace S call ops.size (fun q => (r.getD q default).1) (fun q => (r.getD q default).2) E H := by
    refine ⟨fun q hq => (g5 q _ (hx q hq)).1, fun k hk q hq => ?_⟩
    obtain ⟨x, hx1, hx2⟩ := againAll_mem (g5 k _ (hx k hk)).2 q hq
    have : r.getD q default = x := by simp [List.getD, hx1]
    simp only [this]
    exact hx2
  refine wp_region_any hm ?_
  rw [World.drew_eq]
  rw [hrl] at g3 g4
  refine Inv.any (W := W) (φ₀ := φ) (dfs := a.defers) A T hS hcall (by rw [g2, g3, g4]; exact hz) ops.size _ 0 φ e a w.drew ?_ ?_
  · unfold left
    refine Nat.le_trans (List.countP_le_length) (by simp)
  · refine { le := Nat.zero_le _, sz := by simp, closed := fun q o _ _ hD => ?_, env := ke, len := by rw [g1], set := fun q t hq hD => ?_, unset := fun t _ => by rw [g1], past := fun q hq => by omega, ahead := fun q _ hq _ hD => ?_, pend := fun q hq => by omega, mono := fun q hq => by omega,
             rel := by rw [g2]; exact R.drew, ge := Phi.le_refl φ, news := fun b l hb => .inl hb, dfs := rfl }
    all_goals
      exfalso
      unfold Done at hD
      simp [Array.getD] at hD

end Go.Proofs.YtjldbkicpbchkaaGreat.Ev
