/-
  That the evaluator is right: a block that is grown in place.
-/
import Derived.Test.YtjldbkicpbchkaaGreatEvV
namespace Go.Proofs.YtjldbkicpbchkaaGreat.Ev
open Go Go.RowKit

theorem Rel.drew {W : World} {φ : Phi} {h : AHeap} {w : World} (R : Rel W φ h w) : Rel W φ h w.drew :=
  ⟨R.below.drew, R.dom, R.wf, fun b l o hb ho => (R.obj b l o hb ho).mono (Phi.le_refl φ) fun _ => rfl, R.kin, R.apart⟩

/-- What lies behind what is known of a block is written: the longer block is a new one, and nobody writes to the old one any more. -/
theorem Rel.extend {W : World} {φ : Phi} {h : AHeap} {w w' : World} (R : Rel W φ h w) {b : Nat} {cs : List AV} {ty : TypeId} {kin : List Nat} (hg : h.get b = some (.cells cs ty false false kin)) {l : Loc} (hl : φ b = some l)
    {new : List AV} {us : List Value} (hr : RVs φ new us) {o : Nat} (ho : o ≤ cs.length) (hfit : cs.length + new.length ≤ l.n) (hN : Wrote w w' l.c (l.s + cs.length) us) :
    Rel W (φ.bind h.n ⟨l.c, l.s + o, l.n - o⟩) ((h.set b (.cells cs ty true true kin)).push (.cells (cs.drop o ++ new) ty false false (b :: kin))) w' := by
  have hul := hr.length
  have hbn : b < h.n := R.dom b l hl
  have hφn : φ h.n = none := by
    cases hh : φ h.n with
    | none => rfl
    | some x => exact absurd (R.dom _ _ hh) (Nat.lt_irrefl _)
  have hle := Phi.le_bind hφn ⟨l.c, l.s + o, l.n - o⟩
  obtain ⟨xs, lo, hi, hh, hsz, hcl, hcell, hro, hsh⟩ := R.obj b l _ hl hg
  obtain ⟨hB, hfr⟩ := hro rfl
  obtain ⟨_, hfs⟩ := hsh rfl
  obtain ⟨xs', hh', hsz', hout, hin⟩ := hN.row _ _ _ hh
  have hget : ∀ j o', ((h.set b (.cells cs ty true true kin)).push (.cells (cs.drop o ++ new) ty false false (b :: kin))).get j = some o' →
      (j = h.n ∧ o' = .cells (cs.drop o ++ new) ty false false (b :: kin)) ∨ (j ≠ h.n ∧ j = b ∧ o' = .cells cs ty true true kin) ∨ (j ≠ h.n ∧ j ≠ b ∧ h.get j = some o') := by
    intro j o' hj
    rw [AHeap.get_push] at hj
    split at hj
    · rename_i e; simp at hj; exact .inl ⟨by simpa using e.symm, hj.symm⟩
    · rename_i e
      have e' : j ≠ h.n := fun h' => e (by simpa using h'.symm)
      rw [AHeap.get_set] at hj
      split at hj
      · rename_i e2; simp at hj; exact .inr (.inl ⟨e', e2.symm, hj.symm⟩)
      · rename_i e2; exact .inr (.inr ⟨e', Ne.symm e2, hj⟩)
  have hphi : ∀ j x, φ.bind h.n ⟨l.c, l.s + o, l.n - o⟩ j = some x → (j = h.n ∧ x = ⟨l.c, l.s + o, l.n - o⟩) ∨ (j ≠ h.n ∧ φ j = some x) := by
    intro j x hj
    unfold Phi.bind at hj
    split at hj
    · rename_i e; simp at hj; exact .inl ⟨e, hj.symm⟩
    · rename_i e; exact .inr ⟨e, hj⟩
  have hnostill : ∀ k ok, h.get k = some ok → b ∉ ok.kin := by
    intro k ok hk hbin
    have := (R.kin k ok b hk hbin).2 _ hg
    simp [AObj.still] at this
  have hmeet : ∀ k x ok, k ≠ b → φ k = some x → h.get k = some ok → ok ≠ .dead → x.c = l.c → ok.isCells = true ∧
      (∀ y, l.s + cs.length ≤ y → y < l.s + l.n → ¬ (x.s ≤ y ∧ y < x.s + ok.known)) ∧
      (ok.open_ = true → ∀ y, l.s + cs.length ≤ y → y < l.s + l.n → ¬ (x.s + ok.known ≤ y ∧ y < x.s + x.n)) ∧
      (∀ y, l.s ≤ y → y < l.s + cs.length → x.s ≤ y → y < x.s + ok.known → k ∈ kin) ∧
      (ok.open_ = true → ∀ y, x.s + ok.known ≤ y → y < x.s + x.n → ¬ (l.s ≤ y ∧ y < l.s + cs.length)) := by
    intro k x ok hk hx hgk hd hc
    obtain ⟨_, h2, h3, h4, h5⟩ := R.apart b k l x _ ok (Ne.symm hk) hl hx hg hgk (by simp) hd hc.symm
    obtain ⟨_, _, g3, _, _⟩ := R.apart k b x l ok _ hk hx hl hgk hg hd (by simp) hc
    refine ⟨h2, h3 rfl, h4 rfl, fun y y1 y2 y3 y4 => ?_, g3⟩
    rcases h5 ⟨y, y1, y2, y3, y4⟩ with ⟨hs, _⟩ | hs | hs
    · simp [AObj.still] at hs
    · exact absurd hs (hnostill k ok hgk)
    · exact hs
  refine ⟨R.below.trans (hN.below hB), fun k x hk => ?_, fun k hk => by
    simp at hk
    rw [AHeap.get_push_ne _ _ (by simp; omega), AHeap.get_set_ne _ _ (by omega)]
    exact R.wf k (by omega), fun k x ok hx hk => ?_, fun k ok j hk hj => ?_, fun k k' x x' ok ok' hne hx hx' hk hk' hd hd' hc => ?_⟩
  · rcases hphi k x hk with ⟨rfl, _⟩ | ⟨_, h2⟩
    · exact Nat.lt_succ_self _
    · exact Nat.lt_succ_of_lt (R.dom k x h2)
  · rcases hget k ok hk with ⟨rfl, rfl⟩ | ⟨hkn, rfl, rfl⟩ | ⟨hkn, hkb, hgk⟩
    · rw [Phi.bind_self] at hx
      cases hx
      refine ⟨xs', lo, hi, hh', by show l.s + o + (l.n - o) ≤ _; omega, by simp; omega, fun i c hc => ?_, fun _ => ⟨hB, fun i hi' => ?_⟩, fun _ => ⟨hB, fun i hi1 hi2 => ?_⟩⟩
      · by_cases hi' : i < cs.length - o
        · rw [List.getElem?_append_left (by simpa using hi'), List.getElem?_drop] at hc
          obtain ⟨v, hv, hrv⟩ := hcell _ _ hc
          refine ⟨v, ?_, hrv.mono hle⟩
          show xs'[l.s + o + i]? = _
          rw [Nat.add_assoc, hout _ (by omega)]
          exact hv
        · rw [List.getElem?_append_right (by simpa using hi')] at hc
          obtain ⟨v, hv, hrv⟩ := hr.get hc
          refine ⟨v, ?_, hrv.mono hle⟩
          have hlt : i - (cs.drop o).length < us.length := (List.getElem?_eq_some_iff.1 hv).1
          have := hin (by omega) _ hlt
          rw [hv] at this
          simp at this
          show xs'[l.s + o + i]? = _
          rw [← this]
          congr 1
          omega
      · show ¬ (lo ≤ l.s + o + i ∧ l.s + o + i < hi)
        simp at hi'
        by_cases h' : o + i < cs.length
        · have := hfr (o + i) h'; rwa [← Nat.add_assoc] at this
        · have := hfs (o + i) (by omega) (by omega); rwa [← Nat.add_assoc] at this
      · show ¬ (lo ≤ l.s + o + i ∧ l.s + o + i < hi)
        have hi2' : i < l.n - o := hi2
        simp at hi1
        have := hfs (o + i) (by omega) (by omega); rwa [← Nat.add_assoc] at this
    · rcases hphi k x hx with ⟨e, _⟩ | ⟨_, hx⟩
      · exact absurd e hkn
      · rw [hl] at hx
        cases hx
        refine ⟨xs', lo, hi, hh', by omega, hcl, fun i c hc => ?_, by simp, by simp⟩
        obtain ⟨v, hv, hrv⟩ := hcell i c hc
        have : i < cs.length := (List.getElem?_eq_some_iff.1 hc).1
        exact ⟨v, by rw [hout _ (by omega)]; exact hv, hrv.mono hle⟩
    · rcases hphi k x hx with ⟨e, _⟩ | ⟨_, hx⟩
      · exact absurd e hkn
      · by_cases hd : ok = .dead
        · subst hd; trivial
        · have hor := R.obj k x ok hx hgk
          by_cases hc : x.c = l.c
          · obtain ⟨hcells, p1, _, _, _⟩ := hmeet k x ok hkb hx hgk hd hc
            cases ok with
            | dead => trivial
            | map es => simp [AObj.isCells] at hcells
            | cells cs2 ty2 ro2 sh2 kin2 =>
              obtain ⟨ys, lo2, hi2, hh2, e1, e2, e3, e4, e5⟩ := hor
              rw [hc, hh] at hh2
              cases hh2
              refine ⟨xs', lo, hi, by rw [hc]; exact hh', by omega, e2, fun i c hi => ?_, e4, e5⟩
              obtain ⟨v, hv, hrv⟩ := e3 i c hi
              refine ⟨v, ?_, hrv.mono hle⟩
              rw [hout _ ?_]
              · exact hv
              · have hi' : i < cs2.length := (List.getElem?_eq_some_iff.1 hi).1
                have hno := p1 (x.s + i)
                simp only [AObj.known] at hno
                by_cases hlt : x.s + i < l.s + cs.length
                · exact .inl hlt
                · refine .inr (Nat.le_of_not_lt fun hlt' => ?_)
                  exact hno (by omega) (by omega) ⟨by omega, by omega⟩
          · exact hor.mono hle fun _ => hN.other _ hc
  · have hstill : ∀ j, (j = b ∨ (j < h.n ∧ ∀ o', h.get j = some o' → o'.still = true)) → j < h.n + 1 ∧ ∀ o', ((h.set b (.cells cs ty true true kin)).push (.cells (cs.drop o ++ new) ty false false (b :: kin))).get j = some o' → o'.still = true := by
      intro j hj
      have hjn : j < h.n := by rcases hj with rfl | ⟨h1, _⟩; exact hbn; exact h1
      refine ⟨by omega, fun o' ho' => ?_⟩
      rcases hget j o' ho' with ⟨rfl, _⟩ | ⟨_, rfl, rfl⟩ | ⟨_, h2, h3⟩
      · omega
      · rfl
      · rcases hj with rfl | ⟨_, h4⟩
        · exact absurd rfl h2
        · exact h4 o' h3
    rcases hget k ok hk with ⟨rfl, rfl⟩ | ⟨hkn, rfl, rfl⟩ | ⟨hkn, hkb, hgk⟩
    · simp only [AObj.kin, List.mem_cons] at hj
      rcases hj with rfl | hj
      · exact hstill _ (.inl rfl)
      · exact hstill _ (.inr (R.kin b _ j hg hj))
    · exact hstill _ (.inr (R.kin k _ j hg hj))
    · exact hstill _ (.inr (R.kin k ok j hgk hj))
  · have hknown : (AObj.cells (cs.drop o ++ new) ty false false (b :: kin)).known = cs.length - o + new.length := by simp [AObj.known]
    rcases hget k ok hk with ⟨rfl, rfl⟩ | ⟨hkn, rfl, rfl⟩ | ⟨hkn, hkb, hgk⟩
    · rw [Phi.bind_self] at hx
      cases hx
      rcases hphi k' x' hx' with ⟨e, _⟩ | ⟨hkn', hx'⟩
      · exact absurd e.symm hne
      rcases hget k' ok' hk' with ⟨e, _⟩ | ⟨_, rfl, rfl⟩ | ⟨_, hkb', hgk'⟩
      · exact absurd e hkn'
      · rw [hl] at hx'
        cases hx'
        refine ⟨rfl, rfl, fun _ y y1 y2 ⟨y3, y4⟩ => ?_, by simp [AObj.open_], fun _ => .inr (.inr (by simp [AObj.kin]))⟩
        rw [hknown] at y1
        simp only [AObj.known] at y4
        have y1' : l.s + o + (cs.length - o + new.length) ≤ y := y1
        omega
      · have hc' : x'.c = l.c := hc.symm
        obtain ⟨p0, p1, p2, p3, p4⟩ := hmeet k' x' ok' hkb' hx' hgk' hd' hc'
        refine ⟨rfl, p0, fun _ y y1 y2 y3 => ?_, fun _ ho' y y1 y2 y3 => ?_, ?_⟩
        · rw [hknown] at y1
          have y1' : l.s + o + (cs.length - o + new.length) ≤ y := y1
          have y2' : y < l.s + o + (l.n - o) := y2
          exact p1 y (by omega) (by omega) y3
        · rw [hknown] at y1
          have y1' : l.s + o + (cs.length - o + new.length) ≤ y := y1
          have y2' : y < l.s + o + (l.n - o) := y2
          exact p2 ho' y (by omega) (by omega) y3
        · rintro ⟨y, y1, y2, y3, y4⟩
          rw [hknown] at y2
          have y1' : l.s + o ≤ y := y1
          have y2' : y < l.s + o + (cs.length - o + new.length) := y2
          by_cases hy : y < l.s + cs.length
          · exact .inr (.inr (by simp only [AObj.kin, List.mem_cons]; exact .inr (p3 y (by omega) hy y3 y4)))
          · exact absurd ⟨y3, y4⟩ (p1 y (by omega) (by omega))
    · rcases hphi k x hx with ⟨e, _⟩ | ⟨_, hx⟩
      · exact absurd e hkn
      rw [hl] at hx
      cases hx
      rcases hget k' ok' hk' with ⟨rfl, rfl⟩ | ⟨_, e, _⟩ | ⟨hkn', hkb', hgk'⟩
      · exact ⟨rfl, rfl, by simp [AObj.open_], by simp [AObj.open_], fun _ => .inr (.inl (by simp [AObj.kin]))⟩
      · exact absurd e.symm hne
      · rcases hphi k' x' hx' with ⟨e, _⟩ | ⟨_, hx'⟩
        · exact absurd e hkn'
        obtain ⟨p0, p1, p2, p3, p4⟩ := hmeet k' x' ok' hkb' hx' hgk' hd' hc.symm
        exact ⟨rfl, p0, by simp [AObj.open_], by simp [AObj.open_], fun ⟨y, y1, y2, y3, y4⟩ => .inr (.inr (p3 y y1 y2 y3 y4))⟩
    · rcases hphi k x hx with ⟨e, _⟩ | ⟨_, hx⟩
      · exact absurd e hkn
      rcases hget k' ok' hk' with ⟨rfl, rfl⟩ | ⟨hkn', rfl, rfl⟩ | ⟨hkn', hkb', hgk'⟩
      · rw [Phi.bind_self] at hx'
        cases hx'
        have hc' : x.c = l.c := hc
        obtain ⟨p0, p1, p2, p3, p4⟩ := hmeet k x ok hkb hx hgk hd hc'
        refine ⟨p0, rfl, fun ho' y y1 y2 ⟨y3, y4⟩ => ?_, fun ho' _ y y1 y2 ⟨y3, y4⟩ => ?_, ?_⟩
        · rw [hknown] at y4
          have y3' : l.s + o ≤ y := y3
          have y4' : y < l.s + o + (cs.length - o + new.length) := y4
          by_cases hy : y < l.s + cs.length
          · exact p4 ho' y y1 y2 ⟨by omega, hy⟩
          · exact p2 ho' y (by omega) (by omega) ⟨y1, y2⟩
        · rw [hknown] at y3
          have y3' : l.s + o + (cs.length - o + new.length) ≤ y := y3
          have y4' : y < l.s + o + (l.n - o) := y4
          exact p2 ho' y (by omega) (by omega) ⟨y1, y2⟩
        · rintro ⟨y, y1, y2, y3, y4⟩
          rw [hknown] at y4
          have y3' : l.s + o ≤ y := y3
          have y4' : y < l.s + o + (cs.length - o + new.length) := y4
          by_cases hy : y < l.s + cs.length
          · exact .inr (.inl (by simp only [AObj.kin, List.mem_cons]; exact .inr (p3 y (by omega) hy y1 y2)))
          · exact absurd ⟨y1, y2⟩ (p1 y (by omega) (by omega))
      · rcases hphi k' x' hx' with ⟨e, _⟩ | ⟨_, hx'⟩
        · exact absurd e hkn'
        rw [hl] at hx'
        cases hx'
        obtain ⟨p0, p1, p2, p3, p4⟩ := hmeet k x ok hkb hx hgk hd hc
        exact ⟨p0, rfl, fun ho' y y1 y2 y3 => p4 ho' y y1 y2 y3, by simp [AObj.open_], fun ⟨y, y1, y2, y3, y4⟩ => .inr (.inl (p3 y y3 y4 y1 y2))⟩
      · rcases hphi k' x' hx' with ⟨e, _⟩ | ⟨_, hx'⟩
        · exact absurd e hkn'
        exact R.apart k k' x x' ok ok' hne hx hx' hgk hgk' hd hd' hc

end Go.Proofs.YtjldbkicpbchkaaGreat.Ev
