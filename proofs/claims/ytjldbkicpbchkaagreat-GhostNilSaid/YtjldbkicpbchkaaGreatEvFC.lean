/-
  The fast form is right: operations.
-/
import Derived.Test.YtjldbkicpbchkaaGreatEvFB
namespace Go.Proofs.YtjldbkicpbchkaaGreat.Ev
open Go

def RdOk (rd : Rd) (e : Env) : Prop := ∀ (x : Opd) (k : AV → R) (r : AV × AHeap), rd x k = some r → k (x.ev e) = some r

section
variable {r : AV × AHeap} {e : Env} {rd : Rd}

theorem ev_v (e : Env) (x : AV) : Opd.ev e (.v x) = x := rfl

theorem rdL_ok (H : RdOk rd e) : ∀ {xs : List Opd} {k : List AV → R}, rdL rd xs k = some r → k (xs.map (·.ev e)) = some r
  | [], k, h => h
  | x :: xs, k, h => by
    have h1 := H x _ r (show rd x (fun v => rdL rd xs fun vs => k (v :: vs)) = some r from h)
    exact rdL_ok H (xs := xs) (k := fun vs => k (x.ev e :: vs)) h1
theorem rdLV_ok (H : RdOk rd e) : ∀ {xs : List Opd} {k : List Opd → R}, rdLV rd xs k = some r → k (xs.map fun x => .v (x.ev e)) = some r
  | [], k, h => h
  | x :: xs, k, h => by
    have h1 := H x _ r (show rd x (fun v => rdLV rd xs fun vs => k (.v v :: vs)) = some r from h)
    exact rdLV_ok H (xs := xs) (k := fun vs => k (.v (x.ev e) :: vs)) h1
theorem rdPV_ok (H : RdOk rd e) : ∀ {xs : List (Nat × Nat × Opd)} {k : List (Nat × Nat × Opd) → R}, rdPV rd xs k = some r → k (xs.map fun p => (p.1, p.2.1, .v (p.2.2.ev e))) = some r
  | [], k, h => h
  | p :: xs, k, h => by
    have h1 := H p.2.2 _ r (show rd p.2.2 (fun v => rdPV rd xs fun vs => k ((p.1, p.2.1, .v v) :: vs)) = some r from h)
    exact rdPV_ok H (xs := xs) (k := fun vs => k ((p.1, p.2.1, .v (p.2.2.ev e)) :: vs)) h1
theorem rdO_ok (H : RdOk rd e) {x : Option Opd} {k : Option Opd → R} (h : rdO rd x k = some r) : k (x.map fun x => .v (x.ev e)) = some r := by
  cases x with
  | none => exact h
  | some x => exact H x _ r h

theorem fillEv_v (ps : List (Nat × Nat × Opd)) : ∀ cs, fillEv [] cs (ps.map fun p => (p.1, p.2.1, .v (p.2.2.ev e))) = fillEv e cs ps := by
  induction ps with
  | nil => intro cs; rfl
  | cons p ps ih =>
    intro cs
    obtain ⟨a, b, x⟩ := p
    simp only [List.map_cons, fillEv, ev_v]
    cases (Nat.beq (x.ev e).cells.length b && Nat.ble (a + (x.ev e).cells.length) cs.length) with
    | false => rfl
    | true => exact ih _
theorem bounds_v (ln cap : Nat) (lo hi mx : Option Opd) : bounds [] ln cap (lo.map fun x => .v (x.ev e)) (hi.map fun x => .v (x.ev e)) (mx.map fun x => .v (x.ev e)) = bounds e ln cap lo hi mx := by
  unfold bounds
  cases lo <;> cases hi <;> cases mx <;> rfl
theorem map_v (xs : List Opd) : (xs.map fun x => Opd.v (x.ev e)).map (·.ev []) = xs.map (·.ev e) := by
  simp [List.map_map, Function.comp_def, ev_v]

theorem pG_ok {o : POp} {k : AV → R} (h : pG o k = some r) : ∃ v, o.run [] = some v ∧ k v = some r := by
  obtain ⟨v, h1, h2⟩ := genK_ok h
  rw [outK_eq] at h2
  exact ⟨v, h1, h2⟩
theorem rG_ok {o : ROp} {h : AHeap} {k : AV → R} (hh : rG o h k = some r) : ∃ v, o.run [] h = some v ∧ k v = some r := by
  obtain ⟨v, h1, h2⟩ := genK_ok hh
  rw [outK_eq] at h2
  exact ⟨v, h1, h2⟩
theorem aG_ok {o : AOp} {h : AHeap} {k : AV → AHeap → R} (hh : aG o h k = some r) : ∃ v h', o.run [] h = some (v, h') ∧ k v h' = some r := by
  obtain ⟨v, h', h1, h2⟩ := genHK_ok hh
  rw [hforce_eq, outK_eq] at h2
  exact ⟨v, h', h1, h2⟩

theorem kindN_inj {i j : IntKind} (h : Nat.beq (kindN i) (kindN j) = true) : i = j := by
  cases i <;> cases j <;> first | rfl | cases h

theorem intsK_ok {op : BinOp} {ek : EK} {x y : AV} {k : AV → R} {f : IntKind → Int → Int → R} (h : intsK op ek x y k f = some r) : (∃ v, binEv op ek x y = some v ∧ k v = some r) ∨ ∃ i a b, x = .int i a ∧ y = .int i b ∧ f i a b = some r := by
  cases x with
  | int i a =>
    obtain ⟨j, b, rfl, h2⟩ := intE_ok (show intE y (fun j b => boolB (Nat.beq (kindN i) (kindN j)) (fun _ => f i a b) (fun _ => none)) = some r from h)
    rcases boolB_ok h2 with ⟨h3, h4⟩ | ⟨_, h4⟩
    · rw [kindN_inj h3] at h4 ⊢; exact .inr ⟨_, _, _, rfl, rfl, h4⟩
    · cases h4
  | _ => exact .inl (genK_ok h)

theorem binEv_int {op : BinOp} {ek : EK} {i : IntKind} {a b : Int} (h1 : op ≠ .shl) (h2 : op ≠ .shr) : binEv op ek (.int i a) (.int i b) = intOp op i a b := by
  cases op <;> first | exact absurd rfl h1 | exact absurd rfl h2 | simp [binEv]

theorem binF_ok {op : BinOp} {ek : EK} {x y : AV} {k : AV → R} (h : binF op ek x y k = some r) : ∃ v, binEv op ek x y = some v ∧ k v = some r := by
  have oth : binO op ek x y k = some r → ∃ v, binEv op ek x y = some v ∧ k v = some r := by
    intro h
    obtain ⟨v, h1, h2⟩ := genK_ok h
    rw [outK_eq] at h2
    exact ⟨v, h1, h2⟩
  cases op with
  | add =>
    rcases intsK_ok h with h | ⟨i, a, b, rfl, rfl, h2⟩
    · exact h
    · rw [wrapK_eq] at h2; rw [binEv_int (by simp) (by simp)]; exact ⟨_, rfl, h2⟩
  | sub =>
    rcases intsK_ok h with h | ⟨i, a, b, rfl, rfl, h2⟩
    · exact h
    · rw [wrapK_eq] at h2; rw [binEv_int (by simp) (by simp)]; exact ⟨_, rfl, h2⟩
  | mul =>
    rcases intsK_ok h with h | ⟨i, a, b, rfl, rfl, h2⟩
    · exact h
    · rw [wrapK_eq] at h2; rw [binEv_int (by simp) (by simp)]; exact ⟨_, rfl, h2⟩
  | lss =>
    rcases intsK_ok h with h | ⟨i, a, b, rfl, rfl, h2⟩
    · exact h
    · rw [intLt_eq, boolK_eq] at h2; rw [binEv_int (by simp) (by simp)]; exact ⟨_, rfl, h2⟩
  | gtr =>
    rcases intsK_ok h with h | ⟨i, a, b, rfl, rfl, h2⟩
    · exact h
    · rw [intLt_eq, boolK_eq] at h2; rw [binEv_int (by simp) (by simp)]; exact ⟨_, rfl, h2⟩
  | leq =>
    rcases intsK_ok h with h | ⟨i, a, b, rfl, rfl, h2⟩
    · exact h
    · rw [intLt_eq, boolK_eq] at h2
      rw [binEv_int (by simp) (by simp)]
      refine ⟨_, rfl, ?_⟩
      rw [← h2]
      congr 2
      rw [Bool.eq_iff_iff]; simp
  | geq =>
    rcases intsK_ok h with h | ⟨i, a, b, rfl, rfl, h2⟩
    · exact h
    · rw [intLt_eq, boolK_eq] at h2
      rw [binEv_int (by simp) (by simp)]
      refine ⟨_, rfl, ?_⟩
      rw [← h2]
      congr 2
      rw [Bool.eq_iff_iff]; simp
  | eql =>
    rcases intsK_ok h with h | ⟨i, a, b, rfl, rfl, h2⟩
    · exact h
    · rw [intEq_eq, boolK_eq] at h2; rw [binEv_int (by simp) (by simp)]; exact ⟨_, rfl, h2⟩
  | neq =>
    rcases intsK_ok h with h | ⟨i, a, b, rfl, rfl, h2⟩
    · exact h
    · rw [intEq_eq, boolK_eq] at h2; rw [binEv_int (by simp) (by simp)]; exact ⟨_, rfl, h2⟩
  | _ => exact oth h

theorem idxNatK_ok {i : AV} {k : Nat → R} (h : idxNatK i k = some r) : ∃ n, nat? i = some n ∧ k n = some r := by
  obtain ⟨kd, n, rfl, h2⟩ := intE_ok h
  rw [intC_eq] at h2
  cases n with
  | ofNat m => exact ⟨m, rfl, h2⟩
  | negSucc m => cases h2

theorem pC_ok (H : RdOk rd e) {o : POp} {k : AV → R} (h : pC rd o k = some r) : ∃ v, o.run e = some v ∧ k v = some r := by
  cases o with
  | mov x => exact ⟨_, rfl, H x _ r h⟩
  | chk x =>
    obtain ⟨v, h1, h2⟩ := pG_ok (H x _ r h)
    exact ⟨v, h1, h2⟩
  | pick c a b =>
    have h1 := H b _ r (H a _ r (H c _ r h))
    obtain ⟨t, hc, h2⟩ := boolE_ok h1
    simp only [POp.run, hc]
    rcases boolB_ok h2 with ⟨rfl, h3⟩ | ⟨rfl, h3⟩
    · exact ⟨_, rfl, h3⟩
    · exact ⟨_, rfl, h3⟩
  | bin op ek x y => exact binF_ok (H y _ r (H x _ r h))
  | un op x =>
    cases op with
    | not =>
      obtain ⟨b, hb, h2⟩ := boolE_ok (H x _ r h)
      rw [boolK_eq] at h2
      simp only [POp.run, hb]
      exact ⟨_, rfl, h2⟩
    | _ => exact pG_ok (H x _ r h)
  | toInt i x => exact pG_ok (H x _ r h)
  | toStr x => exact pG_ok (H x _ r h)
  | ifc t x => exact ⟨_, rfl, H x _ r h⟩
  | fn f a c => exact ⟨_, rfl, rdL_ok H (rdL_ok H h)⟩
  | build z ps =>
    obtain ⟨v, h1, h2⟩ := pG_ok (rdPV_ok H h)
    simp only [POp.run, fillEv_v] at h1 ⊢
    exact ⟨v, h1, h2⟩
  | fieldA off x =>
    obtain ⟨b, o, hx, h2⟩ := ptrE_ok (H x _ r h)
    rw [natK_eq] at h2
    simp only [POp.run, hx]
    exact ⟨_, rfl, h2⟩
  | field ag off size x => exact pG_ok (H x _ r h)
  | idxA n es x i =>
    cases n with
    | some n => exact pG_ok (H i _ r (H x _ r h))
    | none =>
      obtain ⟨b, o, ln, c, es', ex, hx, h2⟩ := slE_ok (H i _ r (H x _ r h))
      obtain ⟨j, hj, h3⟩ := idxNatK_ok h2
      rcases boolB_ok h3 with ⟨h4, h5⟩ | ⟨_, h5⟩
      · rcases boolB_ok h5 with ⟨h6, h7⟩ | ⟨_, h7⟩
        · rw [natK_eq] at h7
          simp only [POp.run, hx, hj, h4, h6, Bool.and_self, cond_true]
          exact ⟨_, rfl, h7⟩
        · cases h7
      · cases h5
  | idxS x i => exact pG_ok (H i _ r (H x _ r h))
  | idx ln ag es x i => exact pG_ok (H i _ r (H x _ r h))
  | extract x i =>
    obtain ⟨vs, hx, h2⟩ := tupE_ok (H x _ r h)
    obtain ⟨v, h3, h4⟩ := getK_ok h2
    simp only [POp.run, hx]
    exact ⟨v, h3, h4⟩
  | slV es x lo hi mx =>
    have g1 := H x _ r h
    have g2 := rdO_ok H g1
    have g3 := rdO_ok H g2
    have g4 := rdO_ok H g3
    obtain ⟨v, h1, h2⟩ := pG_ok g4
    have : (POp.slV es (.v (x.ev e)) (lo.map fun x => .v (x.ev e)) (hi.map fun x => .v (x.ev e)) (mx.map fun x => .v (x.ev e))).run [] = (POp.slV es x lo hi mx).run e := by
      simp only [POp.run, bounds_v, ev_v, Option.isSome_map]
    rw [this] at h1
    exact ⟨v, h1, h2⟩
  | slS x lo hi =>
    have g1 := H x _ r h
    have g2 := rdO_ok H g1
    have g3 := rdO_ok H g2
    obtain ⟨v, h1, h2⟩ := pG_ok g3
    have : (POp.slS (.v (x.ev e)) (lo.map fun x => .v (x.ev e)) (hi.map fun x => .v (x.ev e))).run [] = (POp.slS x lo hi).run e := by
      have := fun ln cap => bounds_v (e := e) ln cap lo hi none
      simp only [Option.map_none] at this
      simp only [POp.run, this, ev_v]
    rw [this] at h1
    exact ⟨v, h1, h2⟩
  | lenS x => exact pG_ok (H x _ r h)
  | len x => exact pG_ok (H x _ r h)
  | lenA n => exact ⟨_, rfl, h⟩
  | mm mx x xs =>
    obtain ⟨v, h1, h2⟩ := pG_ok (rdLV_ok H (H x _ r h))
    have : (POp.mm mx (.v (x.ev e)) (xs.map fun x => .v (x.ev e))).run [] = (POp.mm mx x xs).run e := by
      simp only [POp.run, map_v, ev_v]
    rw [this] at h1
    exact ⟨v, h1, h2⟩

theorem rC_ok (H : RdOk rd e) {h : AHeap} {o : ROp} {k : AV → R} (hh : rC rd h o k = some r) : ∃ v, o.run e h = some v ∧ k v = some r := by
  cases o with
  | load n x =>
    cases n with
    | none =>
      obtain ⟨b, o, hx, h2⟩ := ptrE_ok (H x _ r hh)
      obtain ⟨ob, h3, h4⟩ := hget_ok h2
      obtain ⟨cs, ty, ro, sh, kin, rfl, h5⟩ := cellsE_ok h4
      obtain ⟨v, h6, h7⟩ := getK_ok h5
      refine ⟨v, ?_, h7⟩
      have hlt : o < cs.length := (List.getElem?_eq_some_iff.1 h6).1
      have hv := (List.getElem?_eq_some_iff.1 h6).2
      have h8 : Nat.ble (o + 1) cs.length = true := Nat.ble_eq_true_of_le hlt
      have h9 : (cs.drop o).take 1 = [v] := by
        rw [List.drop_eq_getElem_cons hlt, hv]
        simp
      simp only [ROp.run, hx, AHeap.rd, h3, h8, cond_true, h9]
    | some n =>
      obtain ⟨b, o, hx, h2⟩ := ptrE_ok (H x _ r hh)
      obtain ⟨ob, h3, h4⟩ := hget_ok h2
      obtain ⟨cs, ty, ro, sh, kin, rfl, h5⟩ := cellsE_ok h4
      rcases boolB_ok h5 with ⟨h6, h7⟩ | ⟨_, h7⟩
      · rw [dropK_eq, takeK_eq] at h7
        refine ⟨_, ?_, h7⟩
        have h6' : Nat.ble (o + n) cs.length = true := h6
        simp only [ROp.run, hx, AHeap.rd, h3, h6', cond_true]
      · cases h7
  | b2s x => exact rG_ok (H x _ r hh)
  | slP n es x lo hi mx =>
    have g1 := H x _ r hh
    have g2 := rdO_ok H g1
    have g3 := rdO_ok H g2
    have g4 := rdO_ok H g3
    obtain ⟨v, h1, h2⟩ := rG_ok g4
    have : (ROp.slP n es (.v (x.ev e)) (lo.map fun x => .v (x.ev e)) (hi.map fun x => .v (x.ev e)) (mx.map fun x => .v (x.ev e))).run [] h = (ROp.slP n es x lo hi mx).run e h := by
      simp only [ROp.run, bounds_v, ev_v]
    rw [this] at h1
    exact ⟨v, h1, h2⟩
  | look z ok m x => exact rG_ok (H x _ r (H m _ r hh))
  | lenM m => exact rG_ok (H m _ r hh)

theorem nC_ok (H : RdOk rd e) {h : AHeap} {o : NOp} {k : AV → AHeap → R} (hh : nC rd h o k = some r) : ∃ ob mk, o.run e = some (ob, mk) ∧ k (mk h.n) (h.push ob) = some r := by
  cases o with
  | new z ty =>
    have h1 : hpush h (.cells z ty false true []) (fun n h => k (.ptr n 0) h) = some r := hh
    rw [hpush_eq] at h1
    exact ⟨_, _, rfl, h1⟩
  | box ty x => exact genN_ok (H x _ r hh)
  | lit ty ln es z ps =>
    obtain ⟨ob, mk, h1, h2⟩ := genN_ok (rdPV_ok H hh)
    simp only [NOp.run, fillEv_v] at h1 ⊢
    exact ⟨ob, mk, h1, h2⟩
  | mks ty es by' z l c => exact genN_ok (H c _ r (H l _ r hh))
  | s2b ty x => exact genN_ok (H x _ r hh)
  | mkm =>
    have h1 : hpush h (.map []) (fun n h => k (.map n) h) = some r := hh
    rw [hpush_eq] at h1
    exact ⟨_, _, rfl, h1⟩

theorem storeG_ok {n : Nat} {a x : AV} {h : AHeap} {k : AV → AHeap → R} (hh : storeG n a x h k = some r) : ∃ v h', AOp.run [] h (.store n (.v a) (.v x)) = some (v, h') ∧ k v h' = some r := by
  obtain ⟨v, h', h1, h2⟩ := genHK_ok hh
  rw [hforce_eq] at h2
  exact ⟨v, h', h1, h2⟩

theorem oneB_ok {x : AV} (h : oneB x = true) : x.cells = [x] ∧ x.one = true := by
  cases x <;> first | exact ⟨rfl, rfl⟩ | cases (show false = true from h)

theorem storeK_ok {n : Nat} {a x : AV} {h : AHeap} {k : AV → AHeap → R} (hh : storeK n a x h k = some r) : ∃ v h', AOp.run [] h (.store n (.v a) (.v x)) = some (v, h') ∧ k v h' = some r := by
  rcases boolB_ok hh with ⟨h1, h2⟩ | ⟨_, h2⟩
  · rw [Bool.and_eq_true] at h1
    obtain ⟨hn, hx⟩ := h1
    have hn' := Nat.eq_of_beq_eq_true hn
    subst hn'
    obtain ⟨hc, hone⟩ := oneB_ok hx
    obtain ⟨b, o, rfl, h3⟩ := ptrE_ok h2
    obtain ⟨ob, h4, h5⟩ := hget_ok h3
    obtain ⟨cs, ty, ro, sh, kin, rfl, h6⟩ := cellsE_ok h5
    rcases boolB_ok h6 with ⟨_, h7⟩ | ⟨rfl, h7⟩
    · cases h7
    · cases kin with
      | cons y ys => exact storeG_ok h7
      | nil =>
        obtain ⟨h8, h9⟩ := putK_ok (show putK cs o x (fun cs => hset h b (.cells cs ty false sh []) fun h => k .undef h) = some r from h7)
        rw [hset_eq] at h9
        refine ⟨_, _, ?_, h9⟩
        have hb : Nat.ble (o + 1) cs.length = true := Nat.ble_eq_true_of_le h8
        simp only [AOp.run, ev_v, hc, List.length_cons, List.length_nil, AHeap.wr, h4, hb, allOne, hone, Nat.zero_add, Nat.beq, cond_true, Bool.and_self, List.contains_nil, Bool.not_false, kill, setAll]
  · exact storeG_ok h2

theorem aC_ok (H : RdOk rd e) {h : AHeap} {o : AOp} {k : AV → AHeap → R} (hh : aC rd h o k = some r) : ∃ v h', o.run e h = some (v, h') ∧ k v h' = some r := by
  cases o with
  | store n a x => exact storeK_ok (H x _ r (H a _ r hh))
  | app ty es by' s x => exact aG_ok (H x _ r (H s _ r hh))
  | copy es s x => exact aG_ok (H x _ r (H s _ r hh))
  | mset m n x => exact aG_ok (H x _ r (H n _ r (H m _ r hh)))
  | mdel m n => exact aG_ok (H n _ r (H m _ r hh))

theorem cC_ok {S : ASys} {call call' : CallF} (hc : CallLe call call') (H : RdOk rd e) {h : AHeap} {o : COp} {k : AV → AHeap → R} (hh : cC S call rd h o k = some r) : ∃ v h', o.run S call' e h = some (v, h') ∧ k v h' = some r := by
  cases o with
  | fn f xs =>
    obtain ⟨v, h', h1, h2⟩ := genHK_ok (rdL_ok H hh)
    exact ⟨v, h', hc _ _ _ _ h1, h2⟩
  | val x xs =>
    obtain ⟨v, h', h1, h2⟩ := genHK_ok (rdL_ok H (H x _ r hh))
    exact ⟨v, h', valCall_le hc h1, h2⟩
  | inv x m xs =>
    obtain ⟨v, h', h1, h2⟩ := genHK_ok (rdLV_ok H (H x _ r hh))
    have h3 := COp.run_le hc h1
    have : COp.run S call' [] h (.inv (.v (x.ev e)) m (xs.map fun x => .v (x.ev e))) = COp.run S call' e h (.inv x m xs) := by
      simp only [COp.run, map_v, ev_v]
    rw [this] at h3
    exact ⟨v, h', h3, h2⟩

theorem oC_ok {S : ASys} {call call' : CallF} (hc : CallLe call call') (H : RdOk rd e) {h : AHeap} {o : IOp} {k : AV → AHeap → R} (hh : oC S call rd h o k = some r) : ∃ v h', o.run S call' e h = some (v, h') ∧ k v h' = some r := by
  cases o with
  | p o => obtain ⟨v, h1, h2⟩ := pC_ok H hh; exact ⟨v, h, by simp only [IOp.run, h1], h2⟩
  | k x => obtain ⟨v, h1, h2⟩ := genK_ok (H x _ r hh); exact ⟨v, h, by simp only [IOp.run, h1], h2⟩
  | r o => obtain ⟨v, h1, h2⟩ := rC_ok H hh; exact ⟨v, h, by simp only [IOp.run, h1], h2⟩
  | n o => obtain ⟨ob, mk, h1, h2⟩ := nC_ok H hh; exact ⟨_, _, by simp only [IOp.run, h1], h2⟩
  | a o => exact aC_ok H hh
  | c o => exact cC_ok hc H hh
end

end Go.Proofs.YtjldbkicpbchkaaGreat.Ev
