/-
  That the evaluator is right: cells that are written.
-/
import Derived.Test.YtjldbkicpbchkaaGreatEvU
import Derived.Laws.IdiomCopy
namespace Go.Proofs.YtjldbkicpbchkaaGreat.Ev
open Go Go.RowKit

/-- A stretch of one row of the world was written, and nothing else. -/
structure Wrote (w w' : World) (c o : Nat) (vs : List Value) : Prop where
  os : w'.os = w.os
  tape : w'.tape = w.tape
  output : w'.output = w.output
  size : w'.heap.size = w.heap.size
  other : ∀ k, k ≠ c → w'.heap[k]? = w.heap[k]?
  row : ∀ xs t fz, w.heap[c]? = some (.cells xs t fz) → ∃ xs' : Array Value, w'.heap[c]? = some (.cells xs' t fz) ∧ xs'.size = xs.size ∧
    (∀ i, i < o ∨ o + vs.length ≤ i → xs'[i]? = xs[i]?) ∧ (o + vs.length ≤ xs.size → ∀ i, i < vs.length → xs'[o + i]? = vs[i]?)

theorem Wrote.below {w w' : World} {c o : Nat} {vs : List Value} (h : Wrote w w' c o vs) {B : Nat} (hB : B ≤ c) : Below B w w' :=
  ⟨h.os, h.tape, h.output, by rw [h.size]; exact Nat.le_refl _, fun k hk => h.other k (by omega)⟩

theorem wrote_setCells (c : Nat) : ∀ (vs : List Value) (o : Nat) (w : World), Wrote w (w.setCells c o vs) c o vs
  | [], o, w => ⟨rfl, rfl, rfl, rfl, fun _ _ => rfl, fun xs t fz h => ⟨xs, h, rfl, fun _ _ => rfl, fun _ i hi => by simp at hi⟩⟩
  | v :: r, o, w => by
    have ih := wrote_setCells c r (o + 1) (w.setCell ⟨c, o, none⟩ v)
    refine ⟨ih.os, ih.tape, ih.output, ?_, fun k hk => ?_, fun xs t fz h => ?_⟩
    · rw [World.setCells, ih.size]; simp [World.setCell]
    · rw [World.setCells, ih.other k hk]; exact Below.heap_setCell w _ v k hk
    · have h1 : (w.setCell ⟨c, o, none⟩ v).heap[c]? = some (.cells (xs.setIfInBounds o v) t fz) := by
        simp only [World.setCell, Array.getElem?_modify, if_pos, h, Option.map_some, Option.isSome_none, Bool.false_eq_true, if_false]
      obtain ⟨xs', h2, h3, h4, h5⟩ := ih.row _ _ _ h1
      refine ⟨xs', h2, by simpa using h3, fun i hi => ?_, fun hle i hi => ?_⟩
      · simp at hi
        rw [h4 i (by omega), Array.getElem?_setIfInBounds_ne (by omega)]
      · simp at hi hle
        cases i with
        | zero => rw [Nat.add_zero, h4 o (by omega)]; simp [show o < xs.size from by omega]
        | succ i => rw [show o + (i + 1) = o + 1 + i from by omega, h5 (by simp; omega) i (by omega)]; simp

theorem allOne_mem {φ : Phi} : ∀ {vs : List AV} {us : List Value}, allOne vs = true → RVs φ vs us → ∀ u ∈ us, u.oneCell' = true
  | [], us, _, hr, u, hu => by simp only [RVs] at hr; subst hr; simp at hu
  | v :: vs, us, h, hr, u, hu => by
    obtain ⟨y, ys, rfl, h1, h2⟩ := hr.cons
    simp only [allOne, Bool.and_eq_true] at h
    rcases List.mem_cons.1 hu with rfl | hu
    · exact h1.one h.1
    · exact allOne_mem h.2 h2 u hu

theorem run_storeVar {P : Program} (w : World) (t : TypeId) (c x : Nat) (v : Value) (hs : size? P t = some v.cells.size) (hc : ∀ j, j < v.cells.size → (w.cell? ⟨c, x + j, none⟩).isSome = true)
    (hf : ∀ j, j < v.cells.size → w.frozen? ⟨c, x + j, none⟩ = false) (h1 : ∀ u ∈ v.cells.toList, u.oneCell' = true) : (storeVar t ⟨c, x, none⟩ v).run P w = .ok () (w.setCells c x v.cells.toList) := by
  have := run_storeCells_cells (P := P) c x v.cells.toList 0 w (by simpa using hc) (by simpa using hf) h1
  simp only [Nat.add_zero] at this
  simp [storeVar, run_sizeOf hs, this]

theorem kill_n : ∀ (ks : List Nat) (h : AHeap), (kill h ks).n = h.n
  | [], _ => rfl
  | k :: ks, h => by rw [kill, kill_n ks]; rfl

theorem kill_get : ∀ (ks : List Nat) (h : AHeap) (j : Nat), (kill h ks).get j = if j ∈ ks then some .dead else h.get j
  | [], h, j => by simp [kill]
  | k :: ks, h, j => by
    rw [kill, kill_get ks, AHeap.get_set]
    by_cases hj : j ∈ ks
    · simp [hj]
    · by_cases hk : k = j
      · simp [hj, hk]
      · simp [hj, hk, Ne.symm hk]

theorem setAll_get : ∀ (vs cs : List AV) (o i : Nat), o + vs.length ≤ cs.length → (setAll cs o vs)[i]? = if o ≤ i ∧ i < o + vs.length then vs[i - o]? else cs[i]?
  | [], cs, o, i, _ => by simp only [setAll]; rw [if_neg (by simp)]
  | v :: vs, cs, o, i, h => by
    simp at h
    rw [setAll, setAll_get vs _ _ _ (by simp; omega)]
    by_cases h1 : o + 1 ≤ i ∧ i < o + 1 + vs.length
    · rw [if_pos h1, if_pos (by simp; omega), show i - o = (i - (o + 1)) + 1 from by omega]
      simp
    · rw [if_neg h1]
      by_cases h2 : i = o
      · subst h2
        rw [if_pos (by simp), List.getElem?_set_self (by omega)]
        simp
      · rw [if_neg (by simp; omega), List.getElem?_set_ne (by omega)]

theorem wr_parts {h h' : AHeap} {b o : Nat} {vs : List AV} (hw : h.wr b o vs = some h') : ∃ cs ty sh kin, h.get b = some (.cells cs ty false sh kin) ∧ o + vs.length ≤ cs.length ∧ allOne vs = true ∧ b ∉ kin ∧
    h' = (kill h kin).set b (.cells (setAll cs o vs) ty false sh []) := by
  unfold AHeap.wr at hw
  split at hw
  · rename_i cs ty sh kin hg
    cases hb : (Nat.ble (o + vs.length) cs.length && allOne vs && !(kin.contains b)) with
    | false => rw [hb] at hw; simp at hw
    | true =>
      rw [hb] at hw
      simp at hw
      simp only [Bool.and_eq_true] at hb
      exact ⟨cs, ty, sh, kin, hg, Nat.le_of_ble_eq_true hb.1.1, hb.1.2, by simpa using hb.2, hw.symm⟩
  · simp at hw

/-- What is written must be there, and not frozen. -/
theorem Rel.free {W : World} {φ : Phi} {h h' : AHeap} {w : World} (R : Rel W φ h w) {b o : Nat} {vs : List AV} (hw : h.wr b o vs = some h') {l : Loc} (hl : φ b = some l) :
    o + vs.length ≤ l.n ∧ ∀ j, j < vs.length → (w.cell? ⟨l.c, l.s + o + j, none⟩).isSome = true ∧ w.frozen? ⟨l.c, l.s + o + j, none⟩ = false := by
  obtain ⟨cs, ty, sh, kin, hg, hle, _⟩ := wr_parts hw
  obtain ⟨xs, lo, hi, hh, hsz, hcl, hcell, hro, _⟩ := R.obj b l _ hl hg
  obtain ⟨_, hfr⟩ := hro rfl
  refine ⟨by omega, fun j hj => ⟨?_, ?_⟩⟩
  · simp only [World.cell?, hh]
    simp; omega
  · have := hfr (o + j) (by omega)
    simp only [World.frozen?, hh, ← Nat.add_assoc] at this ⊢
    simpa using this

theorem Rel.wrote {W : World} {φ : Phi} {h h' : AHeap} {w w' : World} (R : Rel W φ h w) {b o : Nat} {vs : List AV} (hw : h.wr b o vs = some h') {l : Loc} (hl : φ b = some l) {us : List Value}
    (hr : RVs φ vs us) (hN : Wrote w w' l.c (l.s + o) us) : Rel W φ h' w' := by
  obtain ⟨cs, ty, sh, kin, hg, hle, hone, hbk, rfl⟩ := wr_parts hw
  have hul := hr.length
  have hob := R.obj b l _ hl hg
  obtain ⟨xs, lo, hi, hh, hsz, hcl, hcell, hro, hsh⟩ := hob
  obtain ⟨hB, hfr⟩ := hro rfl
  obtain ⟨xs', hh', hsz', hout, hin⟩ := hN.row _ _ _ hh
  have hget : ∀ j o', ((kill h kin).set b (.cells (setAll cs o vs) ty false sh [])).get j = some o' →
      (j = b ∧ o' = .cells (setAll cs o vs) ty false sh []) ∨ (j ≠ b ∧ j ∈ kin ∧ o' = .dead) ∨ (j ≠ b ∧ j ∉ kin ∧ h.get j = some o') := by
    intro j o' hj
    rw [AHeap.get_set] at hj
    split at hj
    · rename_i e; subst e; simp at hj; exact .inl ⟨rfl, hj.symm⟩
    · rename_i e
      rw [kill_get] at hj
      split at hj
      · rename_i hm; simp at hj; exact .inr (.inl ⟨Ne.symm e, hm, hj.symm⟩)
      · rename_i hm; exact .inr (.inr ⟨Ne.symm e, hm, hj⟩)
  have hnostill : ∀ k ok, h.get k = some ok → b ∉ ok.kin := by
    intro k ok hk hbin
    have := (R.kin k ok b hk hbin).2 _ hg
    simp [AObj.still] at this
  -- where 'b' and another block meet
  have hmeet : ∀ k x ok, k ≠ b → k ∉ kin → φ k = some x → h.get k = some ok → ok ≠ .dead → x.c = l.c → ok.isCells = true ∧ ∀ y, l.s ≤ y → y < l.s + cs.length → ¬ (x.s ≤ y ∧ y < x.s + ok.known) := by
    intro k x ok hk hkk hx hgk hd hc
    obtain ⟨_, h2, _, _, h5⟩ := R.apart b k l x _ ok (Ne.symm hk) hl hx hg hgk (by simp) hd hc.symm
    refine ⟨h2, fun y y1 y2 ⟨y3, y4⟩ => ?_⟩
    rcases h5 ⟨y, y1, y2, y3, y4⟩ with ⟨hs, _⟩ | hs | hs
    · simp [AObj.still] at hs
    · exact hnostill k ok hgk hs
    · exact hkk hs
  refine ⟨R.below.trans (hN.below hB), fun k x hk => ?_, fun k hk => ?_, fun k x ok hx hk => ?_, fun k ok j hk hj => ?_, fun k k' x x' ok ok' hne hx hx' hk hk' hd hd' hc => ?_⟩
  · have := R.dom k x hk
    simpa [kill_n] using this
  · simp [kill_n] at hk
    have hbn := R.dom b l hl
    rw [AHeap.get_set_ne _ _ (by omega), kill_get, if_neg]
    · exact R.wf k hk
    · intro hm
      have := (R.kin b _ k hg hm).1
      omega
  · rcases hget k ok hk with ⟨rfl, rfl⟩ | ⟨_, _, rfl⟩ | ⟨h1, h2, h3⟩
    · rw [hl] at hx
      cases hx
      refine ⟨xs', lo, hi, hh', by omega, by simpa [setAll_length] using hcl, fun i c hc => ?_, fun _ => ⟨hB, fun i hi' => hfr i (by simpa [setAll_length] using hi')⟩, fun hs => ?_⟩
      · rw [setAll_get _ _ _ _ hle] at hc
        split at hc
        · rename_i hb
          obtain ⟨v, hv, hrv⟩ := hr.get hc
          refine ⟨v, ?_, hrv⟩
          have := hin (by omega) (i - o) (by omega)
          rw [show l.s + o + (i - o) = l.s + i from by omega] at this
          rw [this, hv]
        · rename_i hb
          obtain ⟨v, hv, hrv⟩ := hcell i c hc
          exact ⟨v, by rw [hout _ (by omega)]; exact hv, hrv⟩
      · obtain ⟨_, h2⟩ := hsh hs
        exact ⟨hB, fun i hi' => h2 i (by simpa [setAll_length] using hi')⟩
    · trivial
    · by_cases hd : ok = .dead
      · subst hd; trivial
      · have hor := R.obj k x ok hx h3
        by_cases hc : x.c = l.c
        · obtain ⟨hcells, hno⟩ := hmeet k x ok h1 h2 hx h3 hd hc
          cases ok with
          | dead => trivial
          | map es => simp [AObj.isCells] at hcells
          | cells cs2 ty2 ro2 sh2 kin2 =>
            obtain ⟨ys, lo2, hi2, hh2, e1, e2, e3, e4, e5⟩ := hor
            rw [hc, hh] at hh2
            cases hh2
            refine ⟨xs', lo, hi, by rw [hc]; exact hh', by omega, e2, fun i c hi => ?_, e4, e5⟩
            obtain ⟨v, hv, hrv⟩ := e3 i c hi
            refine ⟨v, ?_, hrv⟩
            rw [hout _ ?_]
            · exact hv
            · have hi' : i < cs2.length := (List.getElem?_eq_some_iff.1 hi).1
              have hno' := hno (x.s + i)
              simp only [AObj.known] at hno'
              by_cases hlt : x.s + i < l.s + o
              · exact .inl hlt
              · refine .inr (Nat.le_of_not_lt fun hlt' => ?_)
                exact hno' (by omega) (by omega) ⟨by omega, by omega⟩
        · exact hor.mono (Phi.le_refl φ) fun _ => hN.other _ hc
  · rcases hget k ok hk with ⟨rfl, rfl⟩ | ⟨_, _, rfl⟩ | ⟨h1, h2, h3⟩
    · simp [AObj.kin] at hj
    · simp [AObj.kin] at hj
    · obtain ⟨e1, e2⟩ := R.kin k ok j h3 hj
      refine ⟨by simpa [kill_n] using e1, fun o' ho => ?_⟩
      rcases hget j o' ho with ⟨rfl, rfl⟩ | ⟨_, _, rfl⟩ | ⟨h4, h5, h6⟩
      · exact absurd hj (hnostill k ok h3)
      · rfl
      · exact e2 o' h6
  · rcases hget k ok hk with ⟨rfl, rfl⟩ | ⟨_, _, rfl⟩ | ⟨h1, h2, h3⟩
    · rcases hget k' ok' hk' with ⟨rfl, rfl⟩ | ⟨_, _, rfl⟩ | ⟨h4, h5, h6⟩
      · exact absurd rfl hne
      · exact absurd rfl hd'
      · rw [hl] at hx
        cases hx
        obtain ⟨hcells, hno⟩ := hmeet k' x' ok' h4 h5 hx' h6 hd' hc.symm
        obtain ⟨_, _, a3, a4, _⟩ := R.apart k k' l x' _ ok' hne hl hx' hg h6 (by simp) hd' hc
        refine ⟨rfl, hcells, ?_, ?_, ?_⟩
        · simpa [AObj.open_, AObj.known, setAll_length] using a3
        · simpa [AObj.open_, AObj.known, setAll_length] using a4
        · rintro ⟨y, y1, y2, y3, y4⟩
          exact absurd ⟨y3, y4⟩ (hno y y1 (by simpa [AObj.known, setAll_length] using y2))
    · exact absurd rfl hd
    · rcases hget k' ok' hk' with ⟨rfl, rfl⟩ | ⟨_, _, rfl⟩ | ⟨h4, h5, h6⟩
      · rw [hl] at hx'
        cases hx'
        obtain ⟨hcells, hno⟩ := hmeet k x ok h1 h2 hx h3 hd hc
        obtain ⟨_, _, a3, a4, _⟩ := R.apart k k' x l ok _ hne hx hl h3 hg hd (by simp) hc
        refine ⟨hcells, rfl, ?_, ?_, ?_⟩
        · simpa [AObj.open_, AObj.known, setAll_length] using a3
        · simpa [AObj.open_, AObj.known, setAll_length] using a4
        · rintro ⟨y, y1, y2, y3, y4⟩
          exact absurd ⟨y1, y2⟩ (hno y y3 (by simpa [AObj.known, setAll_length] using y4))
      · exact absurd rfl hd'
      · exact R.apart k k' x x' ok ok' hne hx hx' h3 h6 hd hd' hc

/-- Nobody writes to the block any more. -/
theorem Rel.sealed {W : World} {φ : Phi} {h : AHeap} {w : World} (R : Rel W φ h w) {b : Nat} {cs : List AV} {ty : TypeId} {ro sh : Bool} {kin : List Nat} (hg : h.get b = some (.cells cs ty ro sh kin)) :
    Rel W φ (h.set b (.cells cs ty true true kin)) w := by
  have hget : ∀ j o', (h.set b (.cells cs ty true true kin)).get j = some o' → ∃ o1, h.get j = some o1 ∧ o1.isCells = o'.isCells ∧ o1.known = o'.known ∧ o1.kin = o'.kin ∧ (o'.open_ = true → o1.open_ = true) ∧
      (o1.still = true → o'.still = true) ∧ (o' ≠ .dead → o1 ≠ .dead) := by
    intro j o' hj
    rw [AHeap.get_set] at hj
    split at hj
    · rename_i e; subst e; simp at hj; subst hj; exact ⟨_, hg, rfl, rfl, rfl, by simp [AObj.open_], by simp [AObj.still], by simp⟩
    · exact ⟨o', hj, rfl, rfl, rfl, id, id, id⟩
  refine ⟨R.below, R.dom, fun k hk => by
    have hbn : b < h.n := Nat.lt_of_not_le fun h' => by rw [R.wf b h'] at hg; cases hg
    simp at hk
    rw [AHeap.get_set_ne _ _ (by omega)]
    exact R.wf k hk, fun k x ok hx hk => ?_, fun k ok j hk hj => ?_, fun k k' x x' ok ok' hne hx hx' hk hk' hd hd' hc => ?_⟩
  · rw [AHeap.get_set] at hk
    split at hk
    · rename_i e; subst e; simp at hk; subst hk
      obtain ⟨xs, lo, hi, a1, a2, a3, a4, _, _⟩ := R.obj _ x _ hx hg
      exact ⟨xs, lo, hi, a1, a2, a3, a4, by simp, by simp⟩
    · exact R.obj k x ok hx hk
  · obtain ⟨o1, h1, _, _, h4, _⟩ := hget k ok hk
    obtain ⟨e1, e2⟩ := R.kin k o1 j h1 (by rw [h4]; exact hj)
    refine ⟨e1, fun o' ho => ?_⟩
    obtain ⟨o2, g1, _, _, _, _, g6, _⟩ := hget j o' ho
    exact g6 (e2 o2 g1)
  · obtain ⟨o1, a1, a2, a3, a4, a5, a6, a7⟩ := hget k ok hk
    obtain ⟨o2, b1, b2, b3, b4, b5, b6, b7⟩ := hget k' ok' hk'
    obtain ⟨c1, c2, c3, c4, c5⟩ := R.apart k k' x x' o1 o2 hne hx hx' a1 b1 (a7 hd) (b7 hd') hc
    refine ⟨by rw [← a2]; exact c1, by rw [← b2]; exact c2, fun ho => ?_, fun ho ho' => ?_, fun hy => ?_⟩
    · have := c3 (a5 ho); rwa [a3, b3] at this
    · have := c4 (a5 ho) (b5 ho'); rwa [a3, b3] at this
    · rw [← a3, ← b3] at hy
      rcases c5 hy with ⟨d1, d2⟩ | d | d
      · exact .inl ⟨a6 d1, b6 d2⟩
      · exact .inr (.inl (by rw [← b4]; exact d))
      · exact .inr (.inr (by rw [← a4]; exact d))

end Go.Proofs.YtjldbkicpbchkaaGreat.Ev
