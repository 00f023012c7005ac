/-
  That the evaluator is right: each operation that writes.
-/
import Derived.Test.YtjldbkicpbchkaaGreatEvW
import Derived.Laws.Append
import Derived.Laws.AppendOwn
namespace Go.Proofs.YtjldbkicpbchkaaGreat.Ev
open Go Go.RowKit

theorem lenOf_ok {P : Program} {φ : Phi} {x : AV} {v : Value} {m : Nat} (hx : RV φ x v) (h : lenOf x = some m) (w : World) : (Builtin.lenOf v).run P w = .ok m w := by
  unfold lenOf at h
  split at h <;> simp at h
  · subst h; rw [hx.nils]; rfl
  · subst h
    obtain ⟨l, z, cap', _, rfl, _⟩ := hx.sl
    rfl
  · subst h
    obtain ⟨ba, rfl, rfl⟩ := hx.str
    simp [Builtin.lenOf]

theorem src_ok {P : Program} {W : World} {φ : Phi} {h : AHeap} {w : World} (R : Rel W φ h w) {es n m : Nat} {x : AV} {v : Value} (hx : RV φ x v) (hl : lenOf x = some m) (hn : n ≤ m) {new : List AV} (hs : h.src es n x = some new) :
    ∃ us : List Value, RVs φ new us ∧ us.length = n * es ∧ ∀ w' : World, w'.heap = w.heap → (Builtin.firstCells es n v).run P w' = .ok us.toArray w' := by
  unfold AHeap.src at hs
  split at hs
  · simp [lenOf] at hl
    simp at hs
    subst hl hs
    obtain rfl : n = 0 := by omega
    rw [hx.nils]
    exact ⟨[], by simp [RVs], by simp, fun w' _ => by simp [Builtin.firstCells]⟩
  · rename_i b o len cap es' ex
    simp [lenOf] at hl
    subst hl
    cases hb : Nat.beq es es' with
    | false => simp [hb] at hs
    | true =>
      simp only [hb, cond_true] at hs
      obtain ⟨l, z, cap', hφ, rfl, hz, _, _, _, _⟩ := hx.sl
      by_cases h0 : n = 0
      · subst h0
        obtain ⟨cs, ty, ro, sh, kin, _, _, rfl, _⟩ := rd_parts hs
        exact ⟨[], by simp [RVs], by simp, fun w' _ => by simp [Builtin.firstCells, loadCells, loadCellsFrom]⟩
      · obtain rfl : z = l.s + o := by rcases hz with hz | hz; exact hz; omega
        obtain ⟨us, h1, h2, _, h3⟩ := R.rd hs hφ
        refine ⟨us, h1, by rw [h1.length, h2], fun w' hw' => ?_⟩
        refine run_firstCells_some w' es n _ _ _ us (by rw [h1.length, h2]) fun j u hu => ?_
        have := h3 j u hu
        rw [addr_add]
        simp only [World.cell?, hw'] at this ⊢
        exact this
  · rename_i s
    cases hb : Nat.beq es 1 with
    | false => simp [hb] at hs
    | true =>
      simp [hb] at hs
      have hb' := Nat.eq_of_beq_eq_true hb
      subst hb'
      obtain ⟨ba, rfl, rfl⟩ := hx.str
      simp [lenOf] at hl
      subst hl
      refine ⟨((ba.data.toList.take n).map fun c => .int .u8 c.toNat), ?_, by simp; omega, fun w' _ => ?_⟩
      · subst hs
        refine RVs.of_get (by simp) fun i y hy => ?_
        rw [← List.map_take, List.getElem?_map] at hy
        rw [List.getElem?_map]
        cases hc : (ba.data.toList.take n)[i]? with
        | none => rw [hc] at hy; simp at hy
        | some c => rw [hc] at hy; simp at hy; subst hy; exact ⟨_, rfl, by simp only [RV]⟩
      · simp only [Builtin.firstCells, Sem.run_pure, Result.ok.injEq, and_true]
        apply Array.ext'
        simp [ByteArray.data_extract, List.map_take]
  · simp at hs

/-- What is to be shown of an operation that writes. -/
def AOk (P : Program) (W : World) (φ : Phi) (h : AHeap) (w : World) (a : Act) (o : Oper) (v : AV) (h' : AHeap) : Prop :=
  ∃ nx v' φ' w', (execOp a.eval o).run P w = .ok nx w' ∧ (nx = .value v' ∨ (nx = .skip ∧ v' = undef)) ∧ φ.le φ' ∧ (∀ b l, φ' b = some l → φ b = some l ∨ h.n ≤ b) ∧ RV φ' v v' ∧ Rel W φ' h' w'

theorem Rel.none_at {W : World} {φ : Phi} {h : AHeap} {w : World} (R : Rel W φ h w) : φ h.n = none := by
  cases hh : φ h.n with
  | none => rfl
  | some x => exact absurd (R.dom _ _ hh) (Nat.lt_irrefl _)

theorem bind_new {φ : Phi} {n : Nat} {l : Loc} : ∀ b x, φ.bind n l b = some x → φ b = some x ∨ n ≤ b := by
  intro b x hb
  unfold Phi.bind at hb
  split at hb
  · rename_i e; right; omega
  · left; exact hb

section
variable {P : Program} {W : World} {φ : Phi} {e : Env} {a : Act} {h : AHeap} {w : World}

theorem store_ok (ke : EnvR φ e a) (R : Rel W φ h w) {o : Oper} {t : TypeId} {x y : Operand} (ho : o.op = .store t x y) {n : Nat} (hn : size? P t = some n) {x' y' : Opd} (hx : cOpd x = some x') (hy : cOpd y = some y') {v : AV} {h' : AHeap}
    (hv : (AOp.store n x' y').run e h = some (v, h')) : AOk P W φ h w a o v h' := by
  obtain ⟨dst, op, type, pos, after, guard⟩ := o
  subst ho
  simp only [AOp.run] at hv
  split at hv <;> (try simp at hv)
  rename_i b off hb
  cases hq : Nat.beq (y'.ev e).cells.length n with
  | false => simp [hq] at hv
  | true =>
    simp only [hq, cond_true] at hv
    split at hv <;> (try simp at hv)
    rename_i h1 hw
    obtain ⟨rfl, rfl⟩ := hv
    have hp := cOpd_RV ke hx
    rw [hb] at hp
    obtain ⟨l, hl, hx'⟩ := hp.ptr
    have hc := (cOpd_RV ke hy).cells
    have hcl := hc.length
    have hqn := Nat.eq_of_beq_eq_true hq
    simp at hcl
    obtain ⟨hfit, hfree⟩ := R.free hw hl
    obtain ⟨_, _, _, _, _, _, hone, _⟩ := wr_parts hw
    have hrun := run_storeVar (P := P) w t l.c (l.s + off) (a.eval y) (by rw [hn]; congr 1; omega) (fun j hj => (hfree j (by omega)).1) (fun j hj => (hfree j (by omega)).2) (allOne_mem hone hc)
    refine ⟨.skip, undef, φ, _, ?_, .inr ⟨rfl, rfl⟩, Phi.le_refl φ, fun b l hb => .inl hb, RV_undef φ, R.wrote hw hl hc (wrote_setCells _ _ _ _)⟩
    simp only [execOp, Instr.storeAt, hx', Instr.sureAddr, Sem.run_bind, Sem.run_pure, Result.andThen_ok, hrun]

theorem run_copy_gen (w : World) {ats : Array TypeId} {dT ty elem : TypeId} {dst src : Value} {base : Option Addr} {dLen dCap m es : Nat} {us : List Value} {w' : World} (h0 : ats[0]? = some dT) (hd : dst = .slice base dLen dCap)
    (hu : P.underlying dT = some (.slice elem)) (hs : size? P elem = some es) (hl : (Builtin.lenOf src).run P w = .ok m w) (hf : (Builtin.firstCells es (Nat.min m dLen) src).run P w = .ok us.toArray w)
    (hst : ∀ ad, base = some ad → (storeCells ad us).run P w = .ok () w') (hno : base = none → w' = w) : (Builtin.copy_ ats ty #[dst, src]).run P w = .ok (goInt (Nat.min m dLen)) w' := by
  subst hd
  cases base with
  | none => have := hno rfl; subst this; simp [Builtin.copy_, h0, run_underlying hu, hl, run_sizeOf hs, hf]
  | some ad => have := hst ad rfl; simp [Builtin.copy_, h0, run_underlying hu, hl, run_sizeOf hs, hf, this]

theorem copy_ok (ke : EnvR φ e a) (R : Rel W φ h w) {o : Oper} {s x : Operand} {t el : TypeId} {ats : Array TypeId} (ho : o.op = .call { callee := .builtin .copy, args := #[s, x], argTypes := ats }) (h0 : ats[0]? = some t)
    (ht : P.underlying t = some (.slice el)) {es : Nat} (hes : size? P el = some es) {s' x' : Opd} (hs : cOpd s = some s') (hx : cOpd x = some x') {v : AV} {h' : AHeap}
    (hv : (AOp.copy es s' x').run e h = some (v, h')) : AOk P W φ h w a o v h' := by
  obtain ⟨dst, op, type, pos, after, guard⟩ := o
  subst ho
  simp only [AOp.run] at hv
  split at hv <;> (try simp at hv)
  rename_i m k hm hk
  split at hv <;> (try simp at hv)
  rename_i cs hcs
  have hvx := cOpd_RV ke hx
  have hvs := cOpd_RV ke hs
  obtain ⟨us, hus, hul, hrun⟩ := src_ok (P := P) R hvx hk (Nat.min_le_left k m) hcs
  have hrun := hrun w rfl
  have hlen := lenOf_ok (P := P) hvx hk w
  have fin : ∀ {base : Option Addr} {dCap : Nat} {w' : World}, a.eval s = .slice base m dCap → (∀ ad, base = some ad → (storeCells ad us).run P w = .ok () w') → (base = none → w' = w) →
      (execOp a.eval { dst, op := .call { callee := .builtin .copy, args := #[s, x], argTypes := ats }, type, pos, after, guard : Oper}).run P w = .ok (.value (goInt (Nat.min k m))) w' := by
    intro base dCap w' h1 h2 h3
    have := run_copy_gen (P := P) (ty := type) w h0 h1 ht hes hlen hrun h2 h3
    simp [execOp, resolve, invoke, builtin, this]
  split at hv
  · rename_i hb
    rw [hb] at hvs hm
    simp [lenOf] at hm hv
    obtain ⟨rfl, rfl⟩ := hv
    subst hm
    refine ⟨_, _, φ, w, fin hvs.nils (by simp) (by simp), .inl rfl, Phi.le_refl φ, fun b l hb => .inl hb, ?_, R⟩
    simp [RV, goInt]
  · rename_i b off len cap es' ex hb
    rw [hb] at hvs hm
    simp [lenOf] at hm
    subst hm
    obtain ⟨l, z, cap', hl, hx', hz, hcap, _, _, hlc⟩ := hvs.sl
    cases hq : Nat.beq (min k len) 0 with
    | true =>
      have hq' := Nat.eq_of_beq_eq_true hq
      simp [hq] at hv
      obtain ⟨rfl, rfl⟩ := hv
      have hus0 : us = [] := List.eq_nil_of_length_eq_zero (by rw [hul, hq']; simp)
      subst hus0
      refine ⟨_, _, φ, w, fin hx' (fun ad _ => by simp [storeCells]) (fun _ => rfl), .inl rfl, Phi.le_refl φ, fun b l hb => .inl hb, ?_, R⟩
      have : Nat.min k len = 0 := hq'
      simp [RV, goInt, this]
    | false =>
      simp only [hq, cond_false] at hv
      have hq' : min k len ≠ 0 := fun h' => by rw [h'] at hq; simp at hq
      cases hq2 : Nat.beq es es' with
      | false => simp [hq2] at hv
      | true =>
        simp [hq2] at hv
        split at hv <;> (try simp at hv)
        rename_i h1 hw
        obtain ⟨rfl, rfl⟩ := hv
        obtain rfl : z = l.s + off := by rcases hz with hz | hz; exact hz; omega
        obtain ⟨hfit, hfree⟩ := R.free hw hl
        obtain ⟨_, _, _, _, _, _, hone, _⟩ := wr_parts hw
        have hcl := hus.length
        have hst := run_storeCells_cells (P := P) l.c (l.s + off) us 0 w (fun j hj => by simpa using (hfree j (by omega)).1) (fun j hj => by simpa using (hfree j (by omega)).2) (allOne_mem hone hus)
        simp only [Nat.add_zero] at hst
        refine ⟨_, _, φ, _, fin hx' (fun ad hd => by cases hd; exact hst) (by simp), .inl rfl, Phi.le_refl φ, fun b l hb => .inl hb, ?_, R.wrote hw hl hus (wrote_setCells _ _ _ _)⟩
        simp only [RV, goInt]
        try congr 1
  · simp at hv

/-- The ways of an append. -/
theorem run_app_room (w : World) {ats : Array TypeId} {t u ty elem : TypeId} {d : TypeDesc} {i : TypeInfo} {s x : Value} {base : Option Addr} {sLen sCap n : Nat} {us : List Value} {w' : World} (h0 : ats[0]? = some t) (h1 : ats[1]? = some u)
    (ht : P.underlying t = some (.slice elem)) (hu : P.underlying u = some d) (hni : ∀ k, d ≠ .int k) (hi : P.info? elem = some i) (hs : s = .slice base sLen sCap) (hl : (Builtin.lenOf x).run P w = .ok n w)
    (hf : (Builtin.firstCells i.size n x).run P w = .ok us.toArray w) (hroom : sLen + n ≤ sCap)
    (hst : ∀ ad, base = some ad → (storeCells (ad.add (sLen * i.size)) us).run P w = .ok () w') (hno : base = none → w' = w) :
    (Builtin.append_ ats ty #[s, x]).run P w = .ok (.slice base (sLen + n) sCap) w' := by
  subst hs
  have hm : (match d with | .int _ => true | _ => false) = false := by
    cases d <;> first | rfl | exact absurd rfl (hni _)
  cases base with
  | none => have := hno rfl; subst this; simp [Builtin.append_, h0, h1, run_underlying ht, run_underlying hu, hm, sizeOf, typeInfo, hi, hl, hroom, hf]
  | some ad => have := hst ad rfl; simp [Builtin.append_, h0, h1, run_underlying ht, run_underlying hu, hm, sizeOf, typeInfo, hi, hl, hroom, hf, this]

theorem run_app_grow (w : World) {ats : Array TypeId} {t u ty elem : TypeId} {d : TypeDesc} {i : TypeInfo} {z s x : Value} {base : Option Addr} {sLen sCap n : Nat} {os us : List Value} (h0 : ats[0]? = some t) (h1 : ats[1]? = some u)
    (ht : P.underlying t = some (.slice elem)) (hu : P.underlying u = some d) (hni : ∀ k, d ≠ .int k) (hi : P.info? elem = some i) (hz : ∀ w, (zeroValue elem).run P w = .ok z w) (hs : s = .slice base sLen sCap) (hl : (Builtin.lenOf x).run P w = .ok n w)
    (hf : ∀ w' : World, w'.heap = w.heap → (Builtin.firstCells i.size n x).run P w' = .ok us.toArray w') (ho : ∀ w' : World, w'.heap = w.heap → (Builtin.firstCells i.size sLen s).run P w' = .ok os.toArray w')
    (hg : sCap < sLen + n) (hb1 : (sLen + n) * i.bytes ≤ 35184372088832) (hb2 : sLen + n ≤ 35184372088832) :
    (Builtin.append_ ats ty #[s, x]).run P w = .ok (.slice (some ⟨w.heap.size, 0, none⟩) (sLen + n) (grownCap w (sLen + n) sCap elem))
      (w.drew.alloc (.cells (os.toArray ++ us.toArray ++ Builtin.zeroCells z.cells (grownCap w (sLen + n) sCap elem - (sLen + n))) elem)) := by
  subst hs
  have hm : (match d with | .int _ => true | _ => false) = false := by
    cases d <;> first | rfl | exact absurd rfl (hni _)
  have hn : ¬ (sLen + n ≤ sCap) := by omega
  have h63' : ¬ (9223372036854775807 < ((sLen : Int) + (n : Int))) := by omega
  have hfit := growslice_fits hg (bytes := i.bytes) (by omega)
  have h48' : ¬ (281474976710656 < Builtin.nextslicecap (sLen + n) sCap * i.bytes) := by omega
  have hf' := hf w.drew rfl
  have ho' := ho w.drew rfl
  simp [Builtin.append_, h0, h1, run_underlying ht, run_underlying hu, hm, sizeOf, typeInfo, hi, hz, hl, hn, h63', h48', Question.forced, hf', ho', newRow, grownCap]
  congr 2
  apply Array.ext'
  simp

theorem app_new (R : Rel W φ h w) {cs : List AV} {el : TypeId} {kin : List Nat} (hk : ∀ k ∈ kin, k < h.n ∧ ∀ o', h.get k = some o' → o'.still = true) {us rest : List Value} (hr : RVs φ cs us) {xs : Array Value} (hx : xs.toList = us ++ rest) :
    Rel W (φ.bind h.n ⟨w.heap.size, 0, xs.size⟩) (h.push (.cells cs el false false kin)) (w.drew.alloc (.cells xs el)) := by
  have hφ := R.none_at
  have hlen := hr.length
  have hxs : xs.size = us.length + rest.length := by have := congrArg List.length hx; simpa using this
  refine (R.ghost (.cells cs el false false kin) hk).bind hφ (AHeap.get_push_eq _ _) (Nat.lt_succ_self _) (by simp) ?_ (l := ⟨w.heap.size, 0, xs.size⟩) rfl ?_
  · exact ⟨((Below.refl _ w).drew).alloc (Nat.le_refl _) _, by simp⟩
  · refine ⟨xs, 0, 0, ?_, by simp, by show cs.length ≤ xs.size; omega, fun i c hc => ?_, fun _ => ⟨R.below.size, fun i _ => by simp⟩, fun _ => ⟨R.below.size, fun i _ _ => by simp⟩⟩
    · exact heap_alloc_new w.drew _
    · obtain ⟨v, hv, hrv⟩ := hr.get hc
      refine ⟨v, ?_, hrv.mono (Phi.le_bind hφ _)⟩
      show xs[0 + i]? = _
      rw [Nat.zero_add, ← Array.getElem?_toList, hx, List.getElem?_append_left (List.getElem?_eq_some_iff.1 hv).1]
      exact hv

theorem appInfo_ok {el : TypeId} {q : Nat × Nat} (h : appInfo P el = some q) : ∃ i zs, P.info? el = some i ∧ zero? P el = some zs ∧ zs.length = i.size ∧ q = (i.size, i.bytes) := by
  unfold appInfo at h
  split at h
  · rename_i i zs hi hz
    cases hb : Nat.beq zs.length i.size with
    | false => rw [hb] at h; simp at h
    | true => rw [hb] at h; simp at h; exact ⟨i, zs, hi, hz, Nat.eq_of_beq_eq_true hb, h.symm⟩
  · simp at h

theorem app_ok (ke : EnvR φ e a) (R : Rel W φ h w) {o : Oper} {s x : Operand} {t u el : TypeId} {d : TypeDesc} {ats : Array TypeId} (ho : o.op = .call { callee := .builtin .append, args := #[s, x], argTypes := ats }) (h0 : ats[0]? = some t) (h1 : ats[1]? = some u)
    (ht : P.underlying t = some (.slice el)) (hu : P.underlying u = some d) (hni : isIntB P u = false) {q : Nat × Nat} (hq : appInfo P el = some q) {s' x' : Opd} (hs : cOpd s = some s') (hx : cOpd x = some x') {v : AV} {h' : AHeap}
    (hv : (AOp.app el q.1 q.2 s' x').run e h = some (v, h')) : AOk P W φ h w a o v h' := by
  obtain ⟨dst, op, type, pos, after, guard⟩ := o
  subst ho
  obtain ⟨i, zs, hi, hz, hzl, rfl⟩ := appInfo_ok hq
  obtain ⟨z, hz1, hz2⟩ := zero?_RVs (φ := φ) hz
  have hzs : z.cells.size = i.size := by have := hz2.length; simp at this; omega
  have hni' : ∀ k, d ≠ .int k := by intro k hk; subst hk; simp [isIntB, hu] at hni
  simp only [AOp.run] at hv
  split at hv
  · cases hv
  rename_i n hn
  split at hv
  · cases hv
  rename_i new hnew
  have hvx := cOpd_RV ke hx
  have hvs := cOpd_RV ke hs
  obtain ⟨us, hus, hul, hrun⟩ := src_ok (P := P) R hvx hn (Nat.le_refl n) hnew
  have hlen := lenOf_ok (P := P) hvx hn w
  have hnl := hus.length
  -- a new row
  have grow : ∀ {base : Option Addr} {sLen sCap : Nat} {os : List Value} {olds : List AV} {hh : AHeap} {kin : List Nat}, Rel W φ hh w → hh.n = h.n → (∀ k ∈ kin, k < hh.n ∧ ∀ o', hh.get k = some o' → o'.still = true) →
      a.eval s = .slice base sLen sCap → RVs φ olds os → os.length = sLen * i.size → (∀ w' : World, w'.heap = w.heap → (Builtin.firstCells i.size sLen (a.eval s)).run P w' = .ok os.toArray w') →
      sCap < sLen + n → (sLen + n) * i.bytes ≤ 35184372088832 → sLen + n ≤ 35184372088832 →
      AOk P W φ h w a { dst, op := .call { callee := .builtin .append, args := #[s, x], argTypes := ats }, type, pos, after, guard : Oper} (.sl h.n 0 (sLen + n) (sLen + n) i.size false) (hh.push (.cells (olds ++ new) el false false kin)) := by
    intro base sLen sCap os olds hh kin RR hhn hk hsv hos hol hrd hg b1 b2
    have hr := run_app_grow (P := P) (ty := type) w h0 h1 ht hu hni' hi hz1 hsv hlen hrun hrd hg b1 b2
    have hge := grownCap_ge w (sLen + n) sCap el
    have hr2 : (execOp a.eval { dst, op := .call { callee := .builtin .append, args := #[s, x], argTypes := ats }, type, pos, after, guard : Oper}).run P w = .ok (.value (.slice (some ⟨w.heap.size, 0, none⟩) (sLen + n) (grownCap w (sLen + n) sCap el)))
        (w.drew.alloc (.cells (os.toArray ++ us.toArray ++ Builtin.zeroCells z.cells (grownCap w (sLen + n) sCap el - (sLen + n))) el)) := by
      simp [execOp, resolve, invoke, builtin, hr]
    refine ⟨_, _, _, _, hr2, .inl rfl, Phi.le_bind RR.none_at _, fun b l hb => ?_, ?_, app_new RR hk (hos.append hus) (rest := (Builtin.zeroCells z.cells (grownCap w (sLen + n) sCap el - (sLen + n))).toList) (by simp)⟩
    · rw [← hhn]; exact bind_new b l hb
    · simp only [RV]
      refine ⟨_, _, grownCap w (sLen + n) sCap el, by rw [hhn]; exact Phi.bind_self _ _ _, rfl, .inl rfl, hge, by simp, ?_, Nat.le_refl _⟩
      show 0 + grownCap w (sLen + n) sCap el * i.size ≤ Array.size _
      simp only [Array.size_append, List.size_toArray, size_zeroCells, hzs, hol, hul, ← Nat.add_mul, Nat.zero_add]
      refine Nat.mul_le_mul_right _ ?_
      omega
  have room : ∀ {base : Option Addr} {sLen sCap : Nat} {w' : World}, a.eval s = .slice base sLen sCap → sLen + n ≤ sCap → (∀ ad, base = some ad → (storeCells (ad.add (sLen * i.size)) us).run P w = .ok () w') → (base = none → w' = w) →
      (execOp a.eval { dst, op := .call { callee := .builtin .append, args := #[s, x], argTypes := ats }, type, pos, after, guard : Oper}).run P w = .ok (.value (.slice base (sLen + n) sCap)) w' := by
    intro base sLen sCap w' hsv hroom hst hno
    have hr := run_app_room (P := P) (ty := type) w h0 h1 ht hu hni' hi hsv hlen (hrun w rfl) hroom hst hno
    simp [execOp, resolve, invoke, builtin, hr]
  have wrote : ∀ {l : Loc} {off : Nat}, (∀ j, j < us.length → (w.cell? ⟨l.c, off + j, none⟩).isSome = true ∧ w.frozen? ⟨l.c, off + j, none⟩ = false) → allOne new = true → (storeCells ⟨l.c, off, none⟩ us).run P w = .ok () (w.setCells l.c off us) := by
    intro l off hfree hone
    have hst := run_storeCells_cells (P := P) l.c off us 0 w (fun j hj => by simpa using (hfree j hj).1) (fun j hj => by simpa using (hfree j hj).2) (allOne_mem hone hus)
    simpa only [Nat.add_zero] using hst
  split at hv
  · rename_i hb
    rw [hb] at hvs
    cases hn0 : Nat.beq n 0 with
    | true =>
      have hn0' := Nat.eq_of_beq_eq_true hn0
      simp [hn0] at hv
      obtain ⟨rfl, rfl⟩ := hv
      refine ⟨_, _, φ, w, room hvs.nils (by omega) (by simp) (fun _ => rfl), .inl rfl, Phi.le_refl φ, fun b l hb => .inl hb, ?_, R⟩
      simp [RV, hn0']
    | false =>
      have hn0' : n ≠ 0 := fun h' => by rw [h'] at hn0; simp at hn0
      simp only [hn0, cond_false] at hv
      cases hq1 : (Nat.ble (n * i.bytes) 35184372088832 && Nat.ble n 35184372088832) with
      | false => simp [hq1] at hv
      | true =>
        simp [hq1] at hv
        obtain ⟨rfl, rfl⟩ := hv
        simp only [Bool.and_eq_true] at hq1
        have b1 := Nat.le_of_ble_eq_true hq1.1
        have b2 := Nat.le_of_ble_eq_true hq1.2
        have := grow (olds := []) (os := []) (kin := []) (hh := h) R rfl (by simp) hvs.nils (by simp [RVs]) (by simp) (fun w' _ => by rw [hvs.nils]; simp [Builtin.firstCells]) (by omega) (by simpa using b1) (by simpa using b2)
        simpa using this
  · rename_i b off len cap es' ex hb
    rw [hb] at hvs
    obtain ⟨l, zz, cap', hl, hx', hzz, hcap, hex, hfit, hlc⟩ := hvs.sl
    cases hq2 : Nat.beq i.size es' with
    | false => simp [hq2] at hv
    | true =>
      have hes := Nat.eq_of_beq_eq_true hq2
      subst hes
      simp only [hq2, Bool.not_true, cond_false] at hv
      cases hn0 : Nat.beq n 0 with
      | true =>
        have hn0' := Nat.eq_of_beq_eq_true hn0
        simp [hn0] at hv
        obtain ⟨rfl, rfl⟩ := hv
        have hus0 : us = [] := List.eq_nil_of_length_eq_zero (by rw [hul, hn0']; simp)
        refine ⟨_, _, φ, w, room hx' (by omega) (fun ad _ => by rw [hus0]; simp [storeCells]) (fun _ => rfl), .inl rfl, Phi.le_refl φ, fun b l hb => .inl hb, ?_, R⟩
        rw [hn0', Nat.add_zero, ← hx', ← hb]
        exact cOpd_RV ke hs
      | false =>
        have hn0' : n ≠ 0 := fun h' => by rw [h'] at hn0; simp at hn0
        simp only [hn0, cond_false] at hv
        cases hroom : Nat.ble (len + n) cap with
        | true =>
          have hroom' := Nat.le_of_ble_eq_true hroom
          simp only [hroom, cond_true] at hv
          split at hv <;> (try simp at hv)
          rename_i h1 hw
          obtain ⟨rfl, rfl⟩ := hv
          obtain rfl : zz = l.s + off := by rcases hzz with hz | hz; exact hz; omega
          obtain ⟨hfit2, hfree⟩ := R.free hw hl
          obtain ⟨_, _, _, _, _, _, hone, _⟩ := wr_parts hw
          refine ⟨_, _, φ, _, room hx' (by omega) (fun ad hd => ?_) (by simp), .inl rfl, Phi.le_refl φ, fun b l hb => .inl hb, ?_, R.wrote hw hl hus (wrote_setCells _ _ _ _)⟩
          · cases hd
            rw [addr_add, Nat.add_assoc]
            exact wrote (fun j hj => hfree j (by omega)) hone
          · simp only [RV]
            exact ⟨l, _, cap', hl, rfl, .inl rfl, hcap, hex, hfit, hroom'⟩
        | false =>
          have hroom' : ¬ (len + n ≤ cap) := fun h' => by rw [Nat.ble_eq_true_of_le h'] at hroom; simp at hroom
          simp only [hroom, cond_false] at hv
          cases hq1 : (Nat.ble ((len + n) * i.bytes) 35184372088832 && Nat.ble (len + n) 35184372088832) with
          | false => rw [hq1] at hv; simp only [Bool.not_false, cond_true] at hv; cases hv
          | true =>
            simp only [hq1, Bool.not_true, cond_false] at hv
            simp only [Bool.and_eq_true] at hq1
            have b1 := Nat.le_of_ble_eq_true hq1.1
            have b2 := Nat.le_of_ble_eq_true hq1.2
            split at hv
            · rename_i cs ty' ro sh kin hg
              cases hq3 : Nat.ble (off + len * i.size) cs.length with
              | false => simp [hq3] at hv
              | true =>
                have hq3' := Nat.le_of_ble_eq_true hq3
                simp only [hq3, Bool.not_true, cond_false] at hv
                -- what the slice holds
                have hold : h.src i.size len (.sl b off len cap i.size ex) = some ((cs.drop off).take (len * i.size)) := by
                  simp only [AHeap.src, hq2, cond_true, AHeap.rd, hg, hq3]
                obtain ⟨os, hos, hol, hrd⟩ := src_ok (P := P) (m := len) R hvs (by simp [lenOf]) (Nat.le_refl _) hold
                cases hex2 : ex with
                | true =>
                  simp only [hex2, cond_true] at hv
                  simp at hv
                  obtain ⟨rfl, rfl⟩ := hv
                  have hcc := hex hex2
                  have := grow (kin := []) (hh := h) R rfl (by simp) hx' hos hol hrd (by omega) b1 b2
                  simpa using this
                | false =>
                  simp only [hex2, cond_false] at hv
                  cases hq4 : (!ro && !sh && Nat.beq (off + len * i.size) cs.length && Nat.beq el ty' && allOne new) with
                  | false => rw [hq4] at hv; simp at hv
                  | true =>
                    rw [hq4] at hv
                    simp at hv
                    obtain ⟨rfl, rfl⟩ := hv
                    simp only [Bool.and_eq_true, Bool.not_eq_true'] at hq4
                    obtain ⟨⟨⟨⟨rfl, rfl⟩, he⟩, hty⟩, hone⟩ := hq4
                    have he' := Nat.eq_of_beq_eq_true he
                    have hty' : el = ty' := Nat.eq_of_beq_eq_true hty
                    subst hty'
                    have htake : (cs.drop off).take (len * i.size) = cs.drop off := List.take_of_length_le (by simp; omega)
                    rw [htake] at hos
                    by_cases hin : len + n ≤ cap'
                    · -- in place
                      obtain rfl : zz = l.s + off := by rcases hzz with hz | hz; exact hz; omega
                      obtain ⟨xs, lo, hi', hh, hsz, hcl, _, _, hsh⟩ := R.obj b l _ hl hg
                      obtain ⟨_, hfr⟩ := hsh rfl
                      have hgrow : off + (len * i.size + n * i.size) ≤ l.n := by
                        have : (len + n) * i.size ≤ cap' * i.size := Nat.mul_le_mul_right _ hin
                        rw [Nat.add_mul] at this
                        omega
                      have haddr : l.s + off + len * i.size = l.s + cs.length := by omega
                      refine ⟨_, _, _, _, room hx' hin (fun ad hd => ?_) (by simp), .inl rfl, Phi.le_bind R.none_at _, bind_new, ?_, R.extend hg hl hus (o := off) (by omega) (by omega) (wrote_setCells _ _ _ _)⟩
                      · cases hd
                        rw [addr_add, haddr]
                        refine wrote (fun j hj => ⟨?_, ?_⟩) hone
                        · simp only [World.cell?, hh]
                          simp; omega
                        · have := hfr (cs.length + j) (by omega) (by omega)
                          simp only [World.frozen?, hh, ← Nat.add_assoc] at this ⊢
                          simpa using this
                      · simp only [RV]
                        refine ⟨_, _, cap', Phi.bind_self _ _ _, rfl, .inl rfl, hin, by simp, ?_, Nat.le_refl _⟩
                        show 0 + cap' * i.size ≤ l.n - off
                        omega
                    · -- elsewhere
                      have hbs : ∀ o', (h.set b (.cells cs el true true kin)).get b = some o' → o'.still = true := fun o' ho' => by
                        rw [AHeap.get_set_eq] at ho'; simp at ho'; subst ho'; rfl
                      have RR := R.sealed hg
                      refine grow (hh := h.set b (.cells cs el true true kin)) RR rfl (fun k hk => ?_) hx' hos hol hrd (by omega) b1 b2
                      simp only [List.mem_cons] at hk
                      rcases hk with rfl | hk
                      · exact ⟨R.dom _ l hl, hbs⟩
                      · exact RR.kin b (.cells cs el true true kin) k (AHeap.get_set_eq _ _ _) hk
            · simp at hv
  · simp at hv

/-! ### Maps -/
theorem Rel.mapSet (R : Rel W φ h w) {b : Nat} {es es' : List (AV × AV)} (hg : h.get b = some (.map es)) {l : Loc} (hl : φ b = some l) {xs' : Array MapEntry} {clock' : Nat} (h1 : RVs φ (es'.map (·.1)) (xs'.toList.map (·.key)))
    (h2 : RVs φ (es'.map (·.2)) (xs'.toList.map (·.val))) {w' : World} (hw : w' = { w with heap := w.heap.setIfInBounds l.c (.map xs' clock') }) : Rel W φ (h.set b (.map es')) w' := by
  subst hw
  have hob := R.obj b l _ hl hg
  obtain ⟨hB, xs, clock, hh, _⟩ := hob
  have hlt : l.c < w.heap.size := (Array.getElem?_eq_some_iff.1 hh).1
  have hother : ∀ k, k ≠ l.c → (w.heap.setIfInBounds l.c (.map xs' clock'))[k]? = w.heap[k]? := fun k hk => Array.getElem?_setIfInBounds_ne (Ne.symm hk)
  have hbn := R.dom b l hl
  have hget : ∀ j o', (h.set b (.map es')).get j = some o' → (j = b ∧ o' = .map es') ∨ (j ≠ b ∧ h.get j = some o') := by
    intro j o' hj
    rw [AHeap.get_set] at hj
    split at hj
    · rename_i e; simp at hj; exact .inl ⟨e.symm, hj.symm⟩
    · rename_i e; exact .inr ⟨Ne.symm e, hj⟩
  refine ⟨R.below.trans ⟨rfl, rfl, rfl, by simp, fun k hk => hother k (by omega)⟩, R.dom, fun k hk => ?_, fun k x ok hx hk => ?_, fun k ok j hk hj => ?_, fun k k' x x' ok ok' hne hx hx' hk hk' hd hd' hc => ?_⟩
  · simp at hk
    rw [AHeap.get_set_ne _ _ (by omega)]
    exact R.wf k hk
  · rcases hget k ok hk with ⟨rfl, rfl⟩ | ⟨hne, hk⟩
    · rw [hl] at hx
      cases hx
      exact ⟨hB, xs', clock', by simp [hlt], h1, h2⟩
    · by_cases hd : ok = .dead
      · subst hd; trivial
      · refine (R.obj k x ok hx hk).mono (Phi.le_refl φ) fun _ => hother _ fun hc => ?_
        have := (R.apart b k l x _ ok (Ne.symm hne) hl hx hg hk (by simp) hd hc.symm).1
        simp [AObj.isCells] at this
  · rcases hget k ok hk with ⟨rfl, rfl⟩ | ⟨hne, hk⟩
    · simp [AObj.kin] at hj
    · obtain ⟨e1, e2⟩ := R.kin k ok j hk hj
      refine ⟨e1, fun o' ho => ?_⟩
      rcases hget j o' ho with ⟨rfl, rfl⟩ | ⟨_, ho⟩
      · have := e2 _ hg; simp [AObj.still] at this
      · exact e2 o' ho
  · rcases hget k ok hk with ⟨rfl, rfl⟩ | ⟨hkb, hkk⟩
    · rcases hget k' ok' hk' with ⟨rfl, rfl⟩ | ⟨_, hk''⟩
      · exact absurd rfl hne
      · rw [hl] at hx; cases hx
        have := (R.apart k k' l x' _ ok' hne hl hx' hg hk'' (by simp) hd' hc).1
        simp [AObj.isCells] at this
    · rcases hget k' ok' hk' with ⟨rfl, rfl⟩ | ⟨_, hk''⟩
      · rw [hl] at hx'; cases hx'
        have := (R.apart k k' x l ok _ hne hx hl hkk hg hd (by simp) hc).2.1
        simp [AObj.isCells] at this
      · exact R.apart k k' x x' ok ok' hne hx hx' hkk hk'' hd hd' hc

theorem setA_find {kd : IntKind} {n : Int} {x : AV} : ∀ {es es' : List (AV × AV)}, setA kd n x es = some es' → ∃ r, findA kd n es = some r
  | [], _, _ => ⟨none, rfl⟩
  | (k, v) :: es, es', h => by
    unfold setA at h
    split at h
    · simp at *
    · rename_i j b v' r he
      simp at he
      obtain ⟨⟨rfl, rfl⟩, rfl⟩ := he
      unfold findA
      cases hd : decide (kd = j) with
      | false => rw [hd] at h; cases h
      | true =>
        rw [hd] at h
        simp only [cond_true] at h ⊢
        cases hn : (n == b) with
        | true => exact ⟨_, rfl⟩
        | false =>
          rw [hn] at h
          simp only [cond_false] at h ⊢
          split at h <;> simp at h
          rename_i r' hr
          exact setA_find hr
    · cases h

theorem delA_find {kd : IntKind} {n : Int} : ∀ {es es' : List (AV × AV)}, delA kd n es = some es' → ∃ r, findA kd n es = some r
  | [], _, _ => ⟨none, rfl⟩
  | (k, v) :: es, es', h => by
    unfold delA at h
    split at h
    · simp at *
    · rename_i j b v' r he
      simp at he
      obtain ⟨⟨rfl, rfl⟩, rfl⟩ := he
      unfold findA
      cases hd : decide (kd = j) with
      | false => rw [hd] at h; cases h
      | true =>
        rw [hd] at h
        simp only [cond_true] at h ⊢
        cases hn : (n == b) with
        | true => exact ⟨_, rfl⟩
        | false =>
          rw [hn] at h
          simp only [cond_false] at h ⊢
          split at h <;> simp at h
          rename_i r' hr
          exact delA_find hr
    · cases h

theorem run_setObj_map {r : Nat} {es : Array MapEntry} {clock : Nat} (hh : w.heap[r]? = some (.map es clock)) (o : Obj) : (setObj r o).run P w = .ok () { w with heap := w.heap.setIfInBounds r o } := by
  simp [setObj, Sem.run, hh]

theorem mset_ok (ke : EnvR φ e a) (R : Rel W φ h w) {o : Oper} {t : TypeId} {m k x : Operand} (ho : o.op = .mapUpdate t m k x) {z : AV} (hz : mapElem P t = some z) {m' k' x' : Opd} (hm : cOpd m = some m') (hk : cOpd k = some k') (hx : cOpd x = some x') {v : AV} {h' : AHeap}
    (hv : (AOp.mset m' k' x').run e h = some (v, h')) : AOk P W φ h w a o v h' := by
  obtain ⟨dst, op, type, pos, after, guard⟩ := o
  subst ho
  obtain ⟨kt, et, q, z', ht, hq, _, _⟩ := mapElem_ok (φ := φ) hz
  simp only [AOp.run] at hv
  split at hv <;> (try simp at hv)
  rename_i b kd n hb hn
  split at hv <;> (try simp at hv)
  rename_i es hg
  split at hv <;> simp at hv
  rename_i es' hes
  obtain ⟨rfl, rfl⟩ := hv
  have pm := cOpd_RV ke hm
  have pk := cOpd_RV ke hk
  have px := cOpd_RV ke hx
  rw [hb] at pm
  rw [hn] at pk
  obtain ⟨l, hl, pm'⟩ := pm.map
  have pk' := pk.int
  obtain ⟨_, xs, clock, hh, h1, h2⟩ := R.obj b l _ hl hg
  obtain ⟨r, hr⟩ := setA_find hes
  have hkey : RV φ (.int kd n) (.int kd n) := by simp only [RV]
  rcases find_ok (q := q) 0 hr h1 h2 with ⟨rfl, g2, g3, _⟩ | ⟨y, j, u, en, rfl, g2, g3, g4, g5, g6, _, g8⟩
  · rw [g3] at hes
    cases hes
    have hf := run_findKey (P := P) hq g2 w
    refine ⟨.skip, undef, φ, _, ?_, .inr ⟨rfl, rfl⟩, Phi.le_refl φ, fun b l hb => .inl hb, RV_undef φ, R.mapSet hg hl (xs' := xs.push { key := a.eval k, val := a.eval x, born := clock }) (clock' := clock + 1) ?_ ?_ rfl⟩
    · rw [pk']
      simp [execOp, Instr.mapUpdate, run_underlying ht, pm', pk', run_getObj_map hh, run_checkKey hq, hf, run_setObj_map hh]
    · simp only [List.map_append, Array.toList_push, List.map_cons, List.map_nil]
      exact h1.append (by simp only [RVs]; exact ⟨_, _, rfl, pk, rfl⟩)
    · simp only [List.map_append, Array.toList_push, List.map_cons, List.map_nil]
      exact h2.append (by simp only [RVs]; exact ⟨_, _, rfl, px, rfl⟩)
  · rw [g6] at hes
    cases hes
    have hf := run_findKey (P := P) hq g2 w
    have hlen := h1.length
    simp at hlen
    have g4' : xs[j]? = some en := by simpa using g4
    have hst : (Instr.keyThatStays (((xs[j]?).map (·.key)).getD (.int kd n)) (.int kd n)).run P w = .ok (.int kd n) w := by
      rw [g4']
      simp only [Option.map_some, Option.getD_some, g5, Instr.keyThatStays]
      have : Instr.sameBits 10000 (.int kd n) (.int kd n) = true := by
        show Instr.sameBits (9999 + 1) (.int kd n) (.int kd n) = true
        simp [Instr.sameBits]
      simp [this]
    refine ⟨.skip, undef, φ, _, ?_, .inr ⟨rfl, rfl⟩, Phi.le_refl φ, fun b l hb => .inl hb, RV_undef φ, R.mapSet hg hl (xs' := xs.modify j fun e => { e with key := .int kd n, val := a.eval x }) (clock' := clock) ?_ ?_ rfl⟩
    · simp only [Nat.zero_add] at hf
      simp [execOp, Instr.mapUpdate, run_underlying ht, pm', pk', run_getObj_map hh, run_checkKey hq, hf, hst, run_setObj_map hh]
    · have hm1 : (xs.modify j fun e => { e with key := .int kd n, val := a.eval x }).toList.map (·.key) = (xs.toList.map (·.key)).set j (.int kd n) := by
        apply List.ext_getElem?
        intro i
        simp only [List.getElem?_map, Array.getElem?_toList, Array.getElem?_modify, List.getElem?_set]
        by_cases hij : j = i
        · subst hij
          simp [g4']
          exact (Array.getElem?_eq_some_iff.1 g4').1
        · simp [hij]
      rw [hm1, List.map_set]
      exact h1.set j hkey
    · have hm1 : (xs.modify j fun e => { e with key := .int kd n, val := a.eval x }).toList.map (·.val) = (xs.toList.map (·.val)).set j (a.eval x) := by
        apply List.ext_getElem?
        intro i
        simp only [List.getElem?_map, Array.getElem?_toList, Array.getElem?_modify, List.getElem?_set]
        by_cases hij : j = i
        · subst hij
          simp [g4']
          exact (Array.getElem?_eq_some_iff.1 g4').1
        · simp [hij]
      rw [hm1, List.map_set]
      exact h2.set j px

theorem map_eraseIdx {α β : Type} (f : α → β) : ∀ (l : List α) (i : Nat), (l.eraseIdx i).map f = (l.map f).eraseIdx i
  | [], i => by simp
  | x :: l, 0 => by simp
  | x :: l, i + 1 => by simp [map_eraseIdx f l i]

theorem RVs.eraseIdx : ∀ {xs : List AV} {vs : List Value} (i : Nat), RVs φ xs vs → RVs φ (xs.eraseIdx i) (vs.eraseIdx i)
  | [], vs, i, h => by simp only [RVs] at h; subst h; simp [RVs]
  | x :: xs, vs, i, h => by
    obtain ⟨y, ys, rfl, h1, h2⟩ := h.cons
    cases i with
    | zero => simpa using h2
    | succ i =>
      simp only [List.eraseIdx_cons_succ, RVs]
      exact ⟨_, _, rfl, h1, RVs.eraseIdx i h2⟩

theorem mdel_ok (ke : EnvR φ e a) (R : Rel W φ h w) {o : Oper} {m k : Operand} {ats : Array TypeId} (ho : o.op = .call { callee := .builtin .delete, args := #[m, k], argTypes := ats }) {z : AV} (hz : delElem P ats = some z) {m' k' : Opd} (hm : cOpd m = some m') (hk : cOpd k = some k') {v : AV}
    {h' : AHeap} (hv : (AOp.mdel m' k').run e h = some (v, h')) : AOk P W φ h w a o v h' := by
  obtain ⟨dst, op, type, pos, after, guard⟩ := o
  subst ho
  unfold delElem at hz
  split at hz
  case h_2 => cases hz
  rename_i t hat
  obtain ⟨kt, et, q, z', ht, hq, _, _⟩ := mapElem_ok (φ := φ) hz
  have pm := cOpd_RV ke hm
  have pk := cOpd_RV ke hk
  have htup : RV φ (.tup []) (.tuple #[]) := by simp only [RV]; exact ⟨_, rfl, by simp [RVs]⟩
  simp only [AOp.run] at hv
  split at hv
  · rename_i kd n hb hn
    rw [hb] at pm
    rw [hn] at pk
    simp at hv
    obtain ⟨rfl, rfl⟩ := hv
    refine ⟨_, .tuple #[], φ, w, ?_, .inl rfl, Phi.le_refl φ, fun b l hb => .inl hb, htup, R⟩
    simp [execOp, resolve, invoke, builtin, Builtin.delete_, hat, run_underlying ht, pm.nilm, pk.int, run_checkKey hq]
  · rename_i b kd n hb hn
    rw [hb] at pm
    rw [hn] at pk
    obtain ⟨l, hl, pm'⟩ := pm.map
    have pk' := pk.int
    split at hv <;> (try simp at hv)
    rename_i es hg
    split at hv <;> simp at hv
    rename_i es' hes
    obtain ⟨rfl, rfl⟩ := hv
    obtain ⟨_, xs, clock, hh, h1, h2⟩ := R.obj b l _ hl hg
    obtain ⟨r, hr⟩ := delA_find hes
    rcases find_ok (q := q) 0 hr h1 h2 with ⟨rfl, g2, _, g3⟩ | ⟨y, j, u, en, rfl, g2, g3, g4, g5, _, g6, g8⟩
    · rw [g3] at hes
      cases hes
      have hf := run_findKey (P := P) hq g2 w
      refine ⟨_, .tuple #[], φ, _, ?_, .inl rfl, Phi.le_refl φ, fun b l hb => .inl hb, htup, R.mapSet hg hl h1 h2 (clock' := clock) rfl⟩
      simp [execOp, resolve, invoke, builtin, Builtin.delete_, hat, run_underlying ht, pm', pk', run_getObj_map hh, run_checkKey hq, hf, run_setObj_map hh]
    · rw [g6] at hes
      cases hes
      have hf := run_findKey (P := P) hq g2 w
      simp only [Nat.zero_add] at hf
      refine ⟨_, .tuple #[], φ, _, ?_, .inl rfl, Phi.le_refl φ, fun b l hb => .inl hb, htup, R.mapSet hg hl (xs' := xs.eraseIdxIfInBounds j) (clock' := clock) ?_ ?_ rfl⟩
      · simp [execOp, resolve, invoke, builtin, Builtin.delete_, hat, run_underlying ht, pm', pk', run_getObj_map hh, run_checkKey hq, hf, run_setObj_map hh]
      · have := h1.eraseIdx j
        have hjx : j < xs.size := by have := (List.getElem?_eq_some_iff.1 g4).1; simpa using this
        simpa [Array.eraseIdxIfInBounds, hjx, map_eraseIdx] using this
      · have := h2.eraseIdx j
        have hjx : j < xs.size := by have := (List.getElem?_eq_some_iff.1 g4).1; simpa using this
        simpa [Array.eraseIdxIfInBounds, hjx, map_eraseIdx] using this
  · simp at hv
end

end Go.Proofs.YtjldbkicpbchkaaGreat.Ev
