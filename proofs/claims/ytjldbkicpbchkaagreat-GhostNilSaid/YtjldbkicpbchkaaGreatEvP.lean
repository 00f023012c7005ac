/-
  That the evaluator is right: each operation that looks at no memory.
-/
import Derived.Test.YtjldbkicpbchkaaGreatEvH
namespace Go.Proofs.YtjldbkicpbchkaaGreat.Ev
open Go Go.RowKit

/-- What is to be shown of an operation that looks at no memory. -/
def POk (P : Program) (φ : Phi) (a : Act) (o : Oper) (v : AV) : Prop := ∃ v', (∀ w, (execOp a.eval o).run P w = .ok (.value v') w) ∧ RV φ v v'

theorem POk.of {P : Program} {φ : Phi} {a : Act} {o : Oper} {v : AV} {s : Sem Value} {v' : Value} (he : execOp a.eval o = (do pure (.value (← s)))) (hs : ∀ w, s.run P w = .ok v' w) (hr : RV φ v v') : POk P φ a o v :=
  ⟨v', fun w => by rw [he]; simp [hs w], hr⟩

section
variable {P : Program} {φ : Phi} {e : Env} {a : Act}

theorem ok_mov (ke : EnvR φ e a) {o : Oper} {x : Operand} (ho : o.op = .move x ∨ o.op = .assign x) {y : Opd} (hx : cOpd x = some y) : POk P φ a o (y.ev e) := by
  obtain ⟨dst, op, type, pos, after, guard⟩ := o
  rcases ho with rfl | rfl <;> exact ⟨a.eval x, fun w => by simp [execOp], cOpd_RV ke hx⟩

theorem ok_pick (ke : EnvR φ e a) {o : Oper} {c x y : Operand} (ho : o.op = .pick c x y) {c' x' y' : Opd} (hc : cOpd c = some c') (hx : cOpd x = some x') (hy : cOpd y = some y') {v : AV}
    (h : (POp.pick c' x' y').run e = some v) : POk P φ a o v := by
  obtain ⟨dst, op, type, pos, after, guard⟩ := o
  subst ho
  have hcv := cOpd_RV ke hc
  simp only [POp.run] at h
  split at h <;> simp at h
  · rename_i hb; rw [hb] at hcv; subst h
    exact ⟨a.eval x, fun w => by simp [execOp, hcv.bool, asBool], cOpd_RV ke hx⟩
  · rename_i hb; rw [hb] at hcv; subst h
    exact ⟨a.eval y, fun w => by simp [execOp, hcv.bool, asBool], cOpd_RV ke hy⟩

theorem ok_chk (ke : EnvR φ e a) {o : Oper} {x : Operand} (ho : o.op = .nilCheck x) {y : Opd} (hx : cOpd x = some y) {v : AV} (h : (POp.chk y).run e = some v) : POk P φ a o v := by
  obtain ⟨dst, op, type, pos, after, guard⟩ := o
  subst ho
  have hv := cOpd_RV ke hx
  simp only [POp.run] at h
  split at h <;> simp at h
  rename_i u h1 h2 h3 h4
  subst h
  refine ⟨a.eval x, fun w => ?_, hv⟩
  simp only [execOp]
  generalize a.eval x = x' at hv ⊢
  cases hu : y.ev e with
  | nilp => exact absurd hu h1
  | nili => exact absurd hu h2
  | nilf => exact absurd hu h3
  | fn f b c =>
    rw [hu] at hv
    obtain ⟨xs, ys, hx', _⟩ := hv.fn
    cases f <;> first | (exact absurd hu (h4 _ _ _)) | (simp [hx'])
  | bool b => rw [hu] at hv; simp [hv.bool]
  | int b => rw [hu] at hv; simp [hv.int]
  | str b => rw [hu] at hv; obtain ⟨_, hx', _⟩ := hv.str; simp [hx']
  | ptr b => rw [hu] at hv; obtain ⟨_, _, hx'⟩ := hv.ptr; simp [hx']
  | nils => rw [hu] at hv; simp [hv.nils]
  | sl b => rw [hu] at hv; obtain ⟨_, _, _, _, hx', _⟩ := hv.sl; simp [hx']
  | nilm => rw [hu] at hv; simp [hv.nilm]
  | map b => rw [hu] at hv; obtain ⟨_, _, hx'⟩ := hv.map; simp [hx']
  | ifc b => rw [hu] at hv; obtain ⟨_, hx', _⟩ := hv.ifc; simp [hx']
  | agg b => rw [hu] at hv; obtain ⟨_, hx', _⟩ := hv.agg; simp [hx']
  | tup b => rw [hu] at hv; obtain ⟨_, hx', _⟩ := hv.tup; simp [hx']

theorem ok_bin (ke : EnvR φ e a) {o : Oper} {op : BinOp} {t u : TypeId} {x y : Operand} (ho : o.op = .binOp op t x y u) {k : EK} {x' y' : Opd} (hx : cOpd x = some x') (hy : cOpd y = some y')
    (hk : ∀ b p q, eqOp k p q = some b → EKok P t k) (hg : GuardOk P op t k x y) {v : AV} (h : (POp.bin op k x' y').run e = some v) : POk P φ a o v := by
  obtain ⟨dst, op, type, pos, after, guard⟩ := o
  subst ho
  simp only [POp.run] at h
  obtain ⟨r', h1, h2⟩ := binEv_ok hk (cOpd_RV ke hx) (cOpd_RV ke hy) h
  have h3 := eqGuard_ok hg (cOpd_RV ke hx) (cOpd_RV ke hy) h
  exact ⟨r', fun w => by simp [execOp, h3 w, h1 w], h2⟩

theorem ok_un (ke : EnvR φ e a) {o : Oper} {op : UnOp} {t : TypeId} {x : Operand} (ho : o.op = .unOp op t x) {x' : Opd} (hx : cOpd x = some x') {v : AV} (h : (POp.un op x').run e = some v) : POk P φ a o v := by
  obtain ⟨dst, op, type, pos, after, guard⟩ := o
  subst ho
  simp only [POp.run] at h
  obtain ⟨r', h1, h2⟩ := unEv_ok (P := P) (cOpd_RV ke hx) h
  exact POk.of rfl h1 h2

theorem ok_toInt (ke : EnvR φ e a) {o : Oper} {s d : TypeId} {x : Operand} (ho : o.op = .convert s d x) {x' : Opd} (hx : cOpd x = some x') {us : TypeDesc} {k : IntKind} (hs : P.underlying s = some us) (hd : P.underlying d = some (.int k))
    {v : AV} (h : (POp.toInt k x').run e = some v) : POk P φ a o v := by
  obtain ⟨dst, op, type, pos, after, guard⟩ := o
  subst ho
  simp only [POp.run] at h
  have hv := cOpd_RV ke hx
  split at h <;> simp at h
  rename_i j n hn
  rw [hn] at hv
  subst h
  refine ⟨.int k (k.wrap n), fun w => ?_, by simp only [RV]⟩
  simp only [execOp, hv.int, convert, Sem.run_bind, run_underlying hs, run_underlying hd, Result.andThen_ok]
  simp [Conv.intToInt]

theorem ok_toStr (ke : EnvR φ e a) {o : Oper} {s d : TypeId} {x : Operand} (ho : o.op = .convert s d x) {x' : Opd} (hx : cOpd x = some x') (hs : P.underlying s = some .string) (hd : P.underlying d = some .string)
    {v : AV} (h : (POp.toStr x').run e = some v) : POk P φ a o v := by
  obtain ⟨dst, op, type, pos, after, guard⟩ := o
  subst ho
  simp only [POp.run] at h
  have hv := cOpd_RV ke hx
  split at h <;> simp at h
  rename_i str hn
  rw [hn] at hv
  subst h
  obtain ⟨ba, hx', hb⟩ := hv.str
  refine ⟨.string ba, fun w => ?_, by simp only [RV]; exact ⟨ba, rfl, hb⟩⟩
  simp only [execOp, hx', convert, Sem.run_bind, run_underlying hs, run_underlying hd, Result.andThen_ok]
  simp

theorem ok_ifc (ke : EnvR φ e a) {o : Oper} {t : TypeId} {x : Operand} (ho : o.op = .makeInterface t x) {x' : Opd} (hx : cOpd x = some x') {d : TypeDesc} (ht : P.underlying t = some d) (hd : ∀ ms, d ≠ .interface ms) :
    POk P φ a o (.ifc t (x'.ev e)) := by
  obtain ⟨dst, op, type, pos, after, guard⟩ := o
  subst ho
  refine ⟨.iface t (a.eval x), fun w => ?_, by simp only [RV]; exact ⟨_, rfl, cOpd_RV ke hx⟩⟩
  simp only [execOp, Instr.makeInterface, Sem.run_bind, run_underlying ht, Result.andThen_ok]
  cases d <;> first | (exact absurd rfl (hd _)) | simp

theorem ok_fn (ke : EnvR φ e a) {o : Oper} {f : Fn} {xs ys : Array Operand} (ho : o.op = .makeFunc f xs ys) {xs' ys' : List Opd} (hx : allSome cOpd xs.toList = some xs') (hy : allSome cOpd ys.toList = some ys') :
    POk P φ a o (.fn f (xs'.map (·.ev e)) (ys'.map (·.ev e))) := by
  obtain ⟨dst, op, type, pos, after, guard⟩ := o
  subst ho
  exact ⟨.func f (xs.map a.eval) (ys.map a.eval), fun w => by simp [execOp, Instr.makeFunc], by simp only [RV]; exact ⟨_, _, rfl, cOpds_RVs ke hx, cOpds_RVs ke hy⟩⟩

theorem ok_fieldA (ke : EnvR φ e a) {o : Oper} {t : TypeId} {x : Operand} {i : Nat} (ho : o.op = .fieldAddr t x i) {x' : Opd} (hx : cOpd x = some x') {fs : Array Field} {f : Field} {n : Nat} (ht : P.underlying t = some (.struct fs)) (hf : fs[i]? = some f)
    (hs : size? P f.type = some (n + 1)) {v : AV} (h : (POp.fieldA f.offset x').run e = some v) : POk P φ a o v := by
  obtain ⟨dst, op, type, pos, after, guard⟩ := o
  subst ho
  simp only [POp.run] at h
  have hv := cOpd_RV ke hx
  split at h <;> simp at h
  rename_i b off hb
  rw [hb] at hv
  subst h
  obtain ⟨l, hl, hx'⟩ := hv.ptr
  refine ⟨.pointer (some ⟨l.c, l.s + (off + f.offset), none⟩), fun w => ?_, by simp only [RV]; exact ⟨l, hl, rfl⟩⟩
  simp only [execOp, Instr.fieldAt, hx', Sem.run_bind, run_underlying ht, Result.andThen_ok, hf, Instr.sureAddr, Sem.run_pure, fieldPlace, run_sizeOf hs]
  rw [if_neg (by omega)]
  simp only [Sem.run_pure, Result.andThen_ok, Addr.add]
  split
  · rename_i h0; simp [h0]
  · simp [Nat.add_assoc]

theorem ok_field (ke : EnvR φ e a) {o : Oper} {t : TypeId} {x : Operand} {i : Nat} (ho : o.op = .field t x i) {x' : Opd} (hx : cOpd x = some x') {fs : Array Field} {f : Field} {n : Nat} {k : Option Nat} (ht : P.underlying t = some (.struct fs)) (hf : fs[i]? = some f)
    (hs : size? P f.type = some n) (hk : loadKind P f.type = some k) {v : AV} (h : (POp.field k.isSome f.offset n x').run e = some v) : POk P φ a o v := by
  obtain ⟨dst, op, type, pos, after, guard⟩ := o
  subst ho
  simp only [POp.run] at h
  have hv := cOpd_RV ke hx
  split at h
  · rename_i cs hcs
    rw [hcs] at hv
    obtain ⟨xs, hx', hr⟩ := hv.agg
    cases k with
    | none =>
      simp at h
      obtain ⟨u, hu, hru⟩ := hr.get h
      refine ⟨u, fun w => ?_, hru⟩
      simp only [execOp, Instr.field, hx', Sem.run_bind, run_underlying ht, Result.andThen_ok, hf, asAgg, Sem.run_pure, run_part hk]
      rw [show xs[f.offset]? = some u from by simpa using hu]
      simp
    | some m =>
      have hm : m = n := by
        unfold loadKind at hk
        split at hk
        · simp at hk
        · cases hg : isAggB P f.type <;> simp [hg] at hk
          rw [hs] at hk; simpa using hk.symm
      subst hm
      simp at h
      subst h
      refine ⟨.agg (xs.extract f.offset (f.offset + m)), fun w => ?_, ?_⟩
      · simp only [execOp, Instr.field, hx', Sem.run_bind, run_underlying ht, Result.andThen_ok, hf, asAgg, Sem.run_pure, run_part hk]
      · simp only [RV]
        refine ⟨_, rfl, ?_⟩
        rw [Array.toList_extract]
        simp only [List.extract]
        rw [show f.offset + m - f.offset = m from by omega]
        exact (hr.drop f.offset).take m
  · simp at h

theorem ok_extract (ke : EnvR φ e a) {o : Oper} {x : Operand} {i : Nat} (ho : o.op = .extract x i) {x' : Opd} (hx : cOpd x = some x') {v : AV} (h : (POp.extract x' i).run e = some v) : POk P φ a o v := by
  obtain ⟨dst, op, type, pos, after, guard⟩ := o
  subst ho
  simp only [POp.run] at h
  have hv := cOpd_RV ke hx
  split at h
  · rename_i vs hvs
    rw [hvs] at hv
    obtain ⟨xs, hx', hr⟩ := hv.tup
    obtain ⟨u, hu, hru⟩ := hr.get h
    refine ⟨u, fun w => ?_, hru⟩
    simp only [execOp, Instr.extract, hx']
    rw [show xs[i]? = some u from by simpa using hu]
    simp
  · simp at h

theorem ok_idxA_arr (ke : EnvR φ e a) {o : Oper} {t el : TypeId} {x i : Operand} (ho : o.op = .indexAddr t x i) {x' i' : Opd} (hx : cOpd x = some x') (hi : cOpd i = some i') {n s : Nat} (ht : P.underlying t = some (.array n el))
    (hs : size? P el = some s) {v : AV} (h : (POp.idxA (some n) s x' i').run e = some v) : POk P φ a o v := by
  obtain ⟨dst, op, type, pos, after, guard⟩ := o
  subst ho
  simp only [POp.run] at h
  have hv := cOpd_RV ke hx
  split at h
  · rename_i b off j hb hj
    rw [hb] at hv
    obtain ⟨l, hl, hx'⟩ := hv.ptr
    obtain ⟨kd, hi'⟩ := nat?_RV (cOpd_RV ke hi) hj
    cases hlt : Nat.blt j n with
    | false => simp [hlt] at h
    | true =>
      simp [hlt] at h
      subst h
      have hlt' : j < n := by simpa [Nat.blt_eq] using hlt
      refine ⟨.pointer (some ⟨l.c, l.s + (off + j * s), none⟩), fun w => ?_, by simp only [RV]; exact ⟨l, hl, rfl⟩⟩
      simp only [execOp, Instr.indexAt, hx', hi', asIntOf, Sem.run_bind, Sem.run_pure, run_underlying ht, Result.andThen_ok, Instr.sureAddr]
      rw [if_pos (by omega)]
      simp only [Sem.run_bind, run_sizeOf hs, Result.andThen_ok, Sem.run_pure, Addr.add, Int.toNat_natCast]
      split
      · rename_i h0; simp [h0]
      · simp [Nat.add_assoc]
  · simp at h

theorem ok_idxA_sl (ke : EnvR φ e a) {o : Oper} {t el : TypeId} {x i : Operand} (ho : o.op = .indexAddr t x i) {x' i' : Opd} (hx : cOpd x = some x') (hi : cOpd i = some i') {s : Nat} (ht : P.underlying t = some (.slice el))
    (hs : size? P el = some s) {v : AV} (h : (POp.idxA none s x' i').run e = some v) : POk P φ a o v := by
  obtain ⟨dst, op, type, pos, after, guard⟩ := o
  subst ho
  simp only [POp.run] at h
  have hv := cOpd_RV ke hx
  split at h
  · rename_i b off ln cap es' ex j hb hj
    rw [hb] at hv
    obtain ⟨l, z, cap', hl, hx', hz, hc, _, _, hlc⟩ := hv.sl
    obtain ⟨kd, hi'⟩ := nat?_RV (cOpd_RV ke hi) hj
    cases hlt : (Nat.blt j ln && Nat.beq s es') with
    | false => simp [hlt] at h
    | true =>
      simp [hlt] at h
      subst h
      simp only [Bool.and_eq_true] at hlt
      have hlt' : j < ln := by simpa [Nat.blt_eq] using hlt.1
      obtain rfl : z = l.s + off := by rcases hz with hz | hz; exact hz; omega
      refine ⟨.pointer (some ⟨l.c, l.s + (off + j * s), none⟩), fun w => ?_, by simp only [RV]; exact ⟨l, hl, rfl⟩⟩
      simp only [execOp, Instr.indexAt, hx', hi', asIntOf, Sem.run_bind, Sem.run_pure, run_underlying ht, Result.andThen_ok]
      rw [if_pos (by omega)]
      simp only [Sem.run_bind, run_sizeOf hs, Result.andThen_ok, Sem.run_pure, Addr.add, Int.toNat_natCast]
      split
      · rename_i h0; simp [h0]
      · simp [Nat.add_assoc]
  · simp at h
end
end Go.Proofs.YtjldbkicpbchkaaGreat.Ev
