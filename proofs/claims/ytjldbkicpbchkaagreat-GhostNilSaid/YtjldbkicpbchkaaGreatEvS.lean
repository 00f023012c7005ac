/-
  That the evaluator is right: operations that read memory, and those that make it.
-/
import Derived.Test.YtjldbkicpbchkaaGreatEvR
import Derived.Laws.Cells
import Derived.Laws.BytesString
import Derived.Lib.ConvBytes
namespace Go.Proofs.YtjldbkicpbchkaaGreat.Ev
open Go Go.RowKit

theorem addr_add (c x j : Nat) : (⟨c, x, none⟩ : Addr).add j = ⟨c, x + j, none⟩ := by
  unfold Addr.add; split <;> simp_all

theorem rd_parts {h : AHeap} {b o n : Nat} {cells : List AV} (hr : h.rd b o n = some cells) :
    ∃ cs ty ro sh kin, h.get b = some (.cells cs ty ro sh kin) ∧ o + n ≤ cs.length ∧ cells = (cs.drop o).take n ∧ cells.length = n := by
  unfold AHeap.rd at hr
  split at hr
  · rename_i cs ty ro sh kin hg
    cases hb : Nat.ble (o + n) cs.length with
    | false => simp [hb] at hr
    | true =>
      simp [hb] at hr
      have := Nat.le_of_ble_eq_true hb
      exact ⟨cs, ty, ro, sh, kin, hg, this, hr.symm, by rw [← hr]; simp; omega⟩
  · simp at hr

theorem Rel.rd {W : World} {φ : Phi} {h : AHeap} {w : World} (R : Rel W φ h w) {b o n : Nat} {cells : List AV} (hr : h.rd b o n = some cells) {l : Loc} (hl : φ b = some l) :
    ∃ vs : List Value, RVs φ cells vs ∧ cells.length = n ∧ o + n ≤ l.n ∧ (∀ j v, vs[j]? = some v → w.cell? ⟨l.c, l.s + o + j, none⟩ = some v) := by
  obtain ⟨cs, ty, ro, sh, kin, hg, hle, rfl, hlen⟩ := rd_parts hr
  obtain ⟨xs, lo, hi, hh, hsz, hcl, hcell, _, _⟩ := R.obj b l _ hl hg
  refine ⟨(xs.toList.drop (l.s + o)).take n, RVs.of_get (by simp; omega) fun i x hx => ?_, hlen, by omega, fun j v hv => ?_⟩
  · have hi' : i < n := by
      have := (List.getElem?_eq_some_iff.1 hx).1
      simp at this; omega
    rw [List.getElem?_take, if_pos hi', List.getElem?_drop] at hx
    obtain ⟨v, hv, hr⟩ := hcell _ _ hx
    refine ⟨v, ?_, hr⟩
    rw [List.getElem?_take, if_pos hi', List.getElem?_drop]
    rw [show l.s + o + i = l.s + (o + i) from by omega]
    simpa using hv
  · have hj : j < n := by
      have := (List.getElem?_eq_some_iff.1 hv).1
      simp at this; omega
    rw [List.getElem?_take, if_pos hj, List.getElem?_drop] at hv
    simp only [World.cell?, hh]
    simpa using hv

theorem run_load_cells {P : Program} {W : World} {φ : Phi} {h : AHeap} {w : World} (R : Rel W φ h w) {b o n : Nat} {cells : List AV} (hr : h.rd b o n = some cells) {l : Loc} (hl : φ b = some l) :
    ∃ vs : List Value, RVs φ cells vs ∧ (loadCells ⟨l.c, l.s + o, none⟩ n).run P w = .ok vs.toArray w := by
  obtain ⟨vs, h1, h2, _, h3⟩ := R.rd hr hl
  refine ⟨vs, h1, ?_⟩
  have := run_loadCells_list (P := P) w ⟨l.c, l.s + o, none⟩ vs (fun j v hv => by rw [addr_add]; exact h3 j v hv)
  rwa [h1.length, h2] at this

/-- A variable is read. -/
theorem run_loadVar {P : Program} {W : World} {φ : Phi} {h : AHeap} {w : World} (R : Rel W φ h w) {t : TypeId} {k : Option Nat} (hk : loadKind P t = some k) {e : Env} {x : Opd} {v : AV} {p : Value}
    (hp : RV φ (x.ev e) p) (hv : (ROp.load k x).run e h = some v) : ∃ a v', p = .pointer (some a) ∧ (loadVar t a).run P w = .ok v' w ∧ RV φ v v' := by
  unfold loadKind at hk
  cases hu : P.underlying t with
  | none => simp [hu] at hk
  | some d =>
    simp only [hu] at hk
    cases ha : isAggB P t with
    | true =>
      simp only [ha, cond_true] at hk
      cases hs : size? P t with
      | none => simp [hs] at hk
      | some n =>
        simp only [hs, Option.some.injEq] at hk
        subst hk
        simp only [ROp.run] at hv
        split at hv
        · rename_i b o hb
          rw [hb] at hp
          obtain ⟨l, hl, rfl⟩ := hp.ptr
          split at hv <;> simp at hv
          rename_i vs hr
          subst hv
          obtain ⟨us, h1, h2⟩ := run_load_cells (P := P) R hr hl
          have hagg : (isAgg t).run P w = .ok true w := by
            simp only [isAgg, Sem.run_bind, run_underlying hu, Result.andThen_ok]
            unfold isAggB at ha
            rw [hu] at ha
            cases d <;> simp at ha <;> rfl
          refine ⟨_, .agg us.toArray, rfl, ?_, by simp only [RV]; exact ⟨_, rfl, h1⟩⟩
          simp only [loadVar, Sem.run_bind, hagg, Result.andThen_ok, if_true, run_sizeOf hs, h2, Sem.run_pure]
        · simp at hv
    | false =>
      simp only [ha, cond_false, Option.some.injEq] at hk
      subst hk
      simp only [ROp.run] at hv
      split at hv
      · rename_i b o hb
        rw [hb] at hp
        obtain ⟨l, hl, rfl⟩ := hp.ptr
        split at hv <;> simp at hv
        rename_i u hr
        subst hv
        obtain ⟨us, h1, h2, _, h3⟩ := R.rd hr hl
        obtain ⟨u', us', rfl, hru, _⟩ := h1.cons
        have hc := h3 0 u' (by simp)
        have hagg : (isAgg t).run P w = .ok false w := by
          simp only [isAgg, Sem.run_bind, run_underlying hu, Result.andThen_ok]
          unfold isAggB at ha
          rw [hu] at ha
          cases d <;> simp at ha <;> rfl
        refine ⟨_, u', rfl, ?_, hru⟩
        simp only [Nat.add_zero] at hc
        simp only [loadVar, Sem.run_bind, hagg, Result.andThen_ok, Bool.false_eq_true, if_false, run_load, hc]
      · simp at hv

theorem bytesOf_ok : ∀ {vs : List AV} {s : List UInt8} {us : List Value} {φ : Phi}, bytesOf vs = some s → RVs φ vs us →
    ∃ ns : List Int, us = ns.map (Value.int .u8) ∧ s = ns.map fun n => UInt8.ofNat n.toNat := by
  intro vs
  induction vs with
  | nil => intro s us φ h hr; simp [bytesOf] at h; subst h; simp only [RVs] at hr; subst hr; exact ⟨[], rfl, rfl⟩
  | cons v vs ih =>
    intro s us φ h hr
    obtain ⟨u, us', rfl, h1, h2⟩ := hr.cons
    unfold bytesOf at h
    split at h
    · simp at *
    · rename_i n r he
      simp at he
      obtain ⟨rfl, rfl⟩ := he
      split at h <;> simp at h
      rename_i s' hs'
      obtain ⟨ns, e1, e2⟩ := ih hs' h2
      refine ⟨n :: ns, ?_, ?_⟩
      · rw [h1.int, e1]; rfl
      · rw [← h, e2]; rfl
    · simp at h

theorem foldl_push (ns : List Int) : ∀ (r : ByteArray), (ns.foldl (fun r n => r.push (UInt8.ofNat n.toNat)) r).data.toList = r.data.toList ++ ns.map fun n => UInt8.ofNat n.toNat := by
  induction ns with
  | nil => intro r; simp
  | cons n ns ih => intro r; simp only [List.foldl_cons, ih, List.map_cons]; simp [ByteArray.push]

/-! ### Maps whose keys are whole numbers -/
theorem find_ok {φ : Phi} {q kd : IntKind} {n : Int} : ∀ {es : List (AV × AV)} {xs : List MapEntry} {r : Option AV} (i : Nat), findA kd n es = some r → RVs φ (es.map (·.1)) (xs.map (·.key)) → RVs φ (es.map (·.2)) (xs.map (·.val)) →
    (r = none ∧ Instr.findNow (.int q) (.int kd n) xs i = some none ∧ (∀ x, setA kd n x es = some (es ++ [(.int kd n, x)])) ∧ delA kd n es = some es) ∨
    (∃ v j u en, r = some v ∧ Instr.findNow (.int q) (.int kd n) xs i = some (some (i + j, u)) ∧ RV φ v u ∧ xs[j]? = some en ∧ en.key = .int kd n ∧ (∀ x, setA kd n x es = some (es.set j (.int kd n, x))) ∧ delA kd n es = some (es.eraseIdx j) ∧ j < es.length)
  | [], xs, r, i, h, hk, _ => by
    simp [RVs] at hk
    subst hk
    simp [findA] at h
    subst h
    exact .inl ⟨rfl, rfl, fun x => rfl, rfl⟩
  | (k, v) :: es, xs, r, i, h, hk, hv => by
    cases xs with
    | nil => simp [RVs] at hk
    | cons en xs =>
      simp only [List.map_cons] at hk hv
      obtain ⟨y, ys, e1, hk1, hk2⟩ := hk.cons
      obtain ⟨z, zs, e2, hv1, hv2⟩ := hv.cons
      cases e1
      cases e2
      unfold findA at h
      split at h
      · simp at *
      · rename_i j b v' r' he
        simp at he
        obtain ⟨⟨rfl, rfl⟩, rfl⟩ := he
        have hek := hk1.int
        cases hd : decide (kd = j) with
        | false => simp [hd] at h
        | true =>
          have hkj : kd = j := by simpa using hd
          subst hkj
          simp only [hd, cond_true] at h
          cases hn : (n == b) with
          | true =>
            have hnb : n = b := by simpa using hn
            subst hnb
            simp [hn] at h
            subst h
            refine .inr ⟨v, 0, en.val, en, rfl, ?_, hv1, rfl, hek, fun x => by simp [setA], by simp [delA], by simp⟩
            simp [Instr.findNow, Instr.sameNow, hek]
          | false =>
            simp only [hn, cond_false] at h
            rcases find_ok (q := q) (i + 1) h hk2 hv2 with ⟨g1, g2, g3, g4⟩ | ⟨v', j', u, en', g1, g2, g3, g4, g5, g6, g7, g8⟩
            · refine .inl ⟨g1, ?_, fun x => by simp [setA, hn, g3], by simp [delA, hn, g4]⟩
              simp [Instr.findNow, Instr.sameNow, hek, hn, g2]
            · refine .inr ⟨v', j' + 1, u, en', g1, ?_, g3, by simpa using g4, g5, fun x => by simp [setA, hn, g6], by simp [delA, hn, g7], by simp; omega⟩
              simp [Instr.findNow, Instr.sameNow, hek, hn, g2]
              omega
      · simp at h

theorem mapElem_ok {P : Program} {φ : Phi} {t : TypeId} {z : AV} (h : mapElem P t = some z) : ∃ kt et q z', P.underlying t = some (.map kt et) ∧ P.underlying kt = some (.int q) ∧ (∀ w, (zeroValue et).run P w = .ok z' w) ∧ RV φ z z' := by
  unfold mapElem at h
  split at h
  · rename_i kt et ht
    cases hb : isIntB P kt with
    | false => rw [hb] at h; cases h
    | true =>
      rw [hb] at h
      simp only [cond_true] at h
      unfold isIntB at hb
      split at hb
      · rename_i q hq
        unfold whole? at h
        split at h
        · rename_i i hi
          split at h
          · rename_i v hv
            exact ⟨kt, et, q, v, ht, hq, fun w => by simp [zeroValue, typeInfo, hi, hv], cVal_RV φ 5 v z h⟩
          · cases h
        · cases h
      · cases hb
  · cases h

theorem run_checkKey_succ {P : Program} {kt : TypeId} {q : IntKind} (hq : P.underlying kt = some (.int q)) (b : Bool) (v : Value) (w : World) (n : Nat) : (Instr.checkKey b (n + 1) kt v).run P w = .ok () w := by
  simp only [Instr.checkKey, Sem.run_bind, run_underlying hq, Result.andThen_ok, Sem.run_pure]

theorem run_checkKey {P : Program} {kt : TypeId} {q : IntKind} (hq : P.underlying kt = some (.int q)) (b : Bool) (v : Value) (w : World) : (Instr.checkKey b 10000 kt v).run P w = .ok () w := run_checkKey_succ hq b v w 9999

theorem run_findKey {P : Program} {kt : TypeId} {q : IntKind} (hq : P.underlying kt = some (.int q)) {k : Value} {es : List MapEntry} {r : Option (Nat × Value)} (h : Instr.findNow (.int q) k es 0 = some r) (w : World) : (Instr.findKey kt k es).run P w = .ok r w := by
  simp only [Instr.findKey, Sem.run_bind, run_underlying hq, Result.andThen_ok, h, Sem.run_pure]

theorem run_getObj_map {P : Program} {w : World} {r : Nat} {es : Array MapEntry} {clock : Nat} (h : w.heap[r]? = some (.map es clock)) : (getObj r).run P w = .ok (.map es clock) w := by
  simp [getObj, Sem.run, h]

theorem look_ok {P : Program} {W : World} {φ : Phi} {h : AHeap} {w : World} (R : Rel W φ h w) {t : TypeId} {z : AV} (hz : mapElem P t = some z) {e : Env} {m k : Opd} {ok : Bool} {v : AV} {m' k' : Value} (hm : RV φ (m.ev e) m') (hk : RV φ (k.ev e) k')
    (hv : (ROp.look z ok m k).run e h = some v) : ∃ v', (Instr.lookup t m' k' ok).run P w = .ok v' w ∧ RV φ v v' := by
  obtain ⟨kt, et, q, z', ht, hq, hz1, hz2⟩ := mapElem_ok (φ := φ) hz
  have fin : ∀ (r : Option AV) (u : Value) (b : Bool), (match r with | some x => RV φ x u ∧ b = true | none => u = z' ∧ b = false) → RV φ (looked z ok r) (if ok then .tuple #[u, .bool b] else u) := by
    intro r u b hr
    cases r with
    | none =>
      obtain ⟨rfl, rfl⟩ := hr
      cases ok with
      | false => exact hz2
      | true => simp only [looked, cond_true, RV]; exact ⟨_, rfl, by simp only [RVs]; exact ⟨_, _, rfl, hz2, _, _, rfl, by simp only [RV], rfl⟩⟩
    | some x =>
      obtain ⟨hx, rfl⟩ := hr
      cases ok with
      | false => exact hx
      | true => simp only [looked, cond_true, RV]; exact ⟨_, rfl, by simp only [RVs]; exact ⟨_, _, rfl, hx, _, _, rfl, by simp only [RV], rfl⟩⟩
  simp only [ROp.run] at hv
  split at hv
  · rename_i kd n hb hn
    rw [hb] at hm
    rw [hn] at hk
    simp at hv
    subst hv
    refine ⟨_, ?_, fin none z' false ⟨rfl, rfl⟩⟩
    have hf : (Instr.findKey kt k' []).run P w = .ok none w := run_findKey hq rfl w
    simp [Instr.lookup, run_underlying ht, hm.nilm, run_checkKey hq, hf, hz1]
  · rename_i b kd n hb hn
    rw [hb] at hm
    rw [hn] at hk
    obtain ⟨l, hl, hm'⟩ := hm.map
    have hk' := hk.int
    split at hv
    · rename_i es hg
      split at hv <;> simp at hv
      rename_i r hr
      subst hv
      obtain ⟨_, xs, clock, hh, h1, h2⟩ := R.obj b l _ hl hg
      rcases find_ok (q := q) 0 hr h1 h2 with ⟨rfl, g2, _⟩ | ⟨x, j, u, en, rfl, g2, g3, _⟩
      · refine ⟨_, ?_, fin none z' false ⟨rfl, rfl⟩⟩
        rw [hk', hm']
        have hf := run_findKey (P := P) hq g2 w
        simp [Instr.lookup, run_underlying ht, run_getObj_map hh, run_checkKey hq, hf, hz1]
      · refine ⟨_, ?_, fin (some x) u true ⟨g3, rfl⟩⟩
        rw [hk', hm']
        have hf := run_findKey (P := P) hq g2 w
        simp [Instr.lookup, run_underlying ht, run_getObj_map hh, run_checkKey hq, hf]
    · simp at hv
  · simp at hv

/-- What is to be shown of an operation that reads. -/
def ROk (P : Program) (φ : Phi) (a : Act) (w : World) (o : Oper) (v : AV) : Prop := ∃ v', (execOp a.eval o).run P w = .ok (.value v') w ∧ RV φ v v'

theorem rOp_ok {P : Program} {W : World} {φ : Phi} {e : Env} {a : Act} {h : AHeap} {w : World} (ke : EnvR φ e a) (R : Rel W φ h w) {o : Oper} {io : ROp} (hc : cOp P o.op = some (.r io)) {v : AV}
    (hv : io.run e h = some v) : ROk P φ a w o v := by
  obtain ⟨op, hop⟩ : ∃ op, o.op = op := ⟨_, rfl⟩
  rw [hop] at hc
  cases op with
  | load t x =>
    simp only [cOp] at hc
    split at hc <;> (try simp at hc)
    rename_i k x' hk hx
    subst hc
    obtain ⟨ad, v', hp, hrun, hr⟩ := run_loadVar (P := P) R hk (cOpd_RV ke hx) hv
    refine ⟨v', ?_, hr⟩
    obtain ⟨dst, op, type, pos, after, guard⟩ := o
    subst hop
    simp only [execOp, Instr.loadAt, hp, Instr.sureAddr, Sem.run_bind, Sem.run_pure, Result.andThen_ok, hrun]
  | convert s d x =>
    simp only [cOp] at hc
    split at hc <;> (try simp at hc)
    · split at hc <;> (try simp at hc)
    · rename_i x' el hx hs hd
      split at hc <;> (try simp at hc)
      rename_i hel
      subst hc
      obtain ⟨dst, op, type, pos, after, guard⟩ := o
      subst hop
      have hp := cOpd_RV ke hx
      simp only [ROp.run] at hv
      split at hv
      · rename_i hb
        rw [hb] at hp
        simp at hv
        subst hv
        refine ⟨.string .empty, ?_, by simp only [RV]; exact ⟨_, rfl, rfl⟩⟩
        simp only [execOp, hp.nils, convert, Sem.run_bind, run_underlying hs, run_underlying hd, Result.andThen_ok, run_underlying hel]
        simp [Conv.bytesToString]
      · rename_i b of len cap es ex hb
        rw [hb] at hp
        obtain ⟨l, z, cap', hl, hx', hz, _, _, _, hlc⟩ := hp.sl
        cases hes : Nat.beq es 1 with
        | false => simp [hes] at hv
        | true =>
          simp only [hes, cond_true] at hv
          split at hv <;> (try simp at hv)
          rename_i vs hr
          split at hv <;> (try simp at hv)
          rename_i s' hs'
          subst hv
          by_cases hlen : len = 0
          · subst hlen
            obtain ⟨_, _, _, _, _, _, _, hvs, hl0⟩ := rd_parts hr
            have hvs0 : vs = [] := List.eq_nil_of_length_eq_zero hl0
            rw [hvs0] at hs'
            simp [bytesOf] at hs'
            subst hs'
            refine ⟨.string .empty, ?_, by simp only [RV]; exact ⟨_, rfl, rfl⟩⟩
            simp only [execOp, hx', convert, Sem.run_bind, run_underlying hs, run_underlying hd, Result.andThen_ok, run_underlying hel]
            rw [run_bytesToString w _ 0 _ [] (by simp [loadCells, loadCellsFrom])]
            rfl
          · obtain rfl : z = l.s + of := by rcases hz with hz | hz; exact hz; omega
            obtain ⟨us, h1, h2⟩ := run_load_cells (P := P) R hr hl
            obtain ⟨ns, e1, e2⟩ := bytesOf_ok hs' h1
            refine ⟨.string (ns.foldl (fun r n => r.push (UInt8.ofNat n.toNat)) ByteArray.empty), ?_, by simp only [RV]; exact ⟨_, rfl, by rw [foldl_push, e2]; rfl⟩⟩
            simp only [execOp, hx', convert, Sem.run_bind, run_underlying hs, run_underlying hd, Result.andThen_ok, run_underlying hel]
            rw [run_bytesToString w _ len _ ns (by rw [h2, e1])]
            rfl
      · simp at hv
  | slice t x lo hi mx =>
    simp only [cOp] at hc
    split at hc <;> (try simp at hc)
    · rename_i n el x' lo' hi' mx' ht hx h1 h2 h3
      split at hc <;> (try simp at hc)
      rename_i s hs
      subst hc
      obtain ⟨dst, op, type, pos, after, guard⟩ := o
      subst hop
      have hp := cOpd_RV ke hx
      simp only [ROp.run] at hv
      split at hv
      · rename_i b off lo0 hi0 m0 hb hbd
        rw [hb] at hp
        obtain ⟨l, hl, hx'⟩ := hp.ptr
        split at hv
        · rename_i cs ty ro sh kin hg
          cases hfit : Nat.ble (off + n * s) cs.length with
          | false => simp [hfit] at hv
          | true =>
            simp [hfit] at hv
            subst hv
            have hfit' := Nat.le_of_ble_eq_true hfit
            obtain ⟨xs, lo_, hi_, hh, hsz, hcl, _⟩ := R.obj b l _ hl hg
            obtain ⟨m', hrun, hmn, hms, hlh, hhm, hmc, hmm, hmc', _⟩ := run_bounds (P := P) ke h1 h2 h3 hbd n (Nat.le_refl _) (Nat.le_refl _) false w
            have hm' : m' = m0 := by
              by_cases hmx : mx = none
              · have := hmn hmx; omega
              · exact hms hmx
            subst hm'
            refine ⟨.slice (some (if m' = lo0 then ⟨l.c, l.s + off, none⟩ else Addr.add ⟨l.c, l.s + off, none⟩ (lo0 * s))) (hi0 - lo0) (m' - lo0), ?_, ?_⟩
            · simp only [execOp, Instr.sliceAt, hx', Sem.run_bind, run_underlying ht, Result.andThen_ok, Instr.sureAddr, Sem.run_pure, hrun, run_sizeOf hs]
            · simp only [RV]
              by_cases hml : m' = lo0
              · rw [if_pos hml]
                refine ⟨l, l.s + off, m' - lo0, hl, rfl, .inr (by omega), Nat.le_refl _, fun _ => rfl, ?_, by omega⟩
                have e0 : (m' - lo0) * s = 0 := by rw [hml]; simp
                have h5 : lo0 * s ≤ n * s := Nat.mul_le_mul_right s (by omega)
                omega
              · rw [if_neg hml, addr_add]
                refine ⟨l, _, m' - lo0, hl, rfl, .inl (by omega), Nat.le_refl _, fun _ => rfl, ?_, by omega⟩
                have h5 : lo0 * s + (m' - lo0) * s = m' * s := by rw [← Nat.add_mul]; congr 1; omega
                have h6 : m' * s ≤ n * s := Nat.mul_le_mul_right s (by omega)
                omega
        · simp at hv
      · simp at hv
    · split at hc <;> (try simp at hc)
  | call c =>
    obtain ⟨callee, args, ats⟩ := c
    cases callee with
    | value f => cases f <;> simp only [cOp] at hc <;> (split at hc <;> (try simp at hc))
    | invoke r m => simp only [cOp] at hc; split at hc <;> (try simp at hc)
    | builtin b =>
      simp only [cOp] at hc
      unfold cBuiltin at hc
      split at hc
      · rename_i x hargs
        have hargs' : args = #[x] := by cases args; simp at hargs; simp [hargs]
        subst hargs'
        split at hc <;> (try simp at hc)
        rename_i t hat
        split at hc <;> (try simp at hc)
        rename_i kt et x' ht hx
        subst hc
        obtain ⟨dst, op, type, pos, after, guard⟩ := o
        subst hop
        have hp := cOpd_RV ke hx
        simp only [ROp.run] at hv
        split at hv
        · rename_i hb
          rw [hb] at hp
          simp at hv
          subst hv
          exact ⟨.int .i64 0, by simp [execOp, resolve, invoke, builtin, Builtin.len_, hat, hp.nilm, run_underlying ht, goInt], by simp only [RV]⟩
        · rename_i b hb
          rw [hb] at hp
          obtain ⟨l, hl, hx'⟩ := hp.map
          split at hv <;> simp at hv
          rename_i es hg
          subst hv
          obtain ⟨_, xs, clock, hh, h1, h2⟩ := R.obj b l _ hl hg
          have hle := h1.length
          simp at hle
          exact ⟨.int .i64 es.length, by simp [execOp, resolve, invoke, builtin, Builtin.len_, hat, hx', run_underlying ht, run_getObj_map hh, goInt, hle], by simp only [RV]⟩
        · simp at hv
      · split at hc <;> (try simp at hc)
        cases hb : isIntB P _ <;> rw [hb] at hc <;> simp at hc
        split at hc <;> (try simp at hc)
        split at hc <;> (try simp at hc)
      · split at hc <;> (try simp at hc)
        split at hc <;> (try simp at hc)
        split at hc <;> (try simp at hc)
      · split at hc <;> (try simp at hc)
      · split at hc <;> (try simp at hc)
      · split at hc <;> (try simp at hc)
      · simp at hc
  | move x => simp only [cOp] at hc; split at hc <;> (try simp at hc)
  | assign x => simp only [cOp] at hc; split at hc <;> (try simp at hc)
  | pick c x y => simp only [cOp] at hc; split at hc <;> (try simp at hc)
  | nilCheck x => simp only [cOp] at hc; split at hc <;> (try simp at hc)
  | binOp op t x y u =>
    simp only [cOp] at hc
    cases hg : (P.eqGuardType P.depth t && !(isIfaceB P t)) <;> rw [hg] at hc <;> simp at hc
    split at hc <;> (try simp at hc)
  | unOp op t x => simp only [cOp] at hc; split at hc <;> (try simp at hc)
  | makeInterface t x => simp only [cOp] at hc; split at hc <;> (try simp at hc)
  | makeFunc f xs ys => simp only [cOp] at hc; split at hc <;> (try simp at hc)
  | build t ps =>
    simp only [cOp] at hc
    split at hc <;> (try simp at hc)
    · split at hc <;> (try simp at hc)
      split at hc <;> (try simp at hc)
    · split at hc <;> (try simp at hc)
      split at hc <;> (try simp at hc)
  | fieldAddr t x i =>
    simp only [cOp] at hc
    split at hc <;> (try simp at hc)
    split at hc <;> (try simp at hc)
    split at hc <;> (try simp at hc)
  | field t x i =>
    simp only [cOp] at hc
    split at hc <;> (try simp at hc)
    split at hc <;> (try simp at hc)
    split at hc <;> (try simp at hc)
  | indexAddr t x i =>
    simp only [cOp] at hc
    split at hc <;> (try simp at hc)
    · split at hc <;> (try simp at hc)
    · split at hc <;> (try simp at hc)
  | index t x i =>
    simp only [cOp] at hc
    split at hc <;> (try simp at hc)
    split at hc <;> (try simp at hc)
  | extract x i => simp only [cOp] at hc; split at hc <;> (try simp at hc)
  | alloc t => simp only [cOp] at hc; split at hc <;> (try simp at hc)
  | box t x => simp only [cOp] at hc; split at hc <;> (try simp at hc)
  | buildSlice t n ps =>
    simp only [cOp] at hc
    split at hc <;> (try simp at hc)
    split at hc <;> (try simp at hc)
    rename_i s z _ _
    cases hb : (Nat.ble (n * s) 16777216 && Nat.beq z.length s) <;> rw [hb] at hc <;> simp at hc
    split at hc <;> (try simp at hc)
  | store t x y => simp only [cOp] at hc; split at hc <;> (try simp at hc)
  | makeMap t r => cases r <;> simp [cOp] at hc
  | makeSlice t l c =>
    simp only [cOp] at hc
    split at hc <;> (try simp at hc)
    split at hc <;> (try simp at hc)
    rename_i i z _ _
    cases hb : (Nat.beq z.length i.size) <;> rw [hb] at hc <;> simp at hc
  | lookup t m k ok =>
    simp only [cOp] at hc
    split at hc <;> (try simp at hc)
    rename_i z m' k' hz hm hk
    subst hc
    obtain ⟨v', h1, h2⟩ := look_ok (P := P) R hz (cOpd_RV ke hm) (cOpd_RV ke hk) hv
    obtain ⟨dst, op, type, pos, after, guard⟩ := o
    subst hop
    exact ⟨v', by simp only [execOp, Sem.run_bind, h1, Result.andThen_ok, Sem.run_pure], h2⟩
  | mapUpdate t m k x => simp only [cOp] at hc; split at hc <;> (try simp at hc)
  | _ => simp [cOp] at hc

end Go.Proofs.YtjldbkicpbchkaaGreat.Ev
