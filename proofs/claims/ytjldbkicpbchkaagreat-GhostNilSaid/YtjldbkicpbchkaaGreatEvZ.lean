/-
  That the evaluator is right: calls, and statements whose order is not drawn.
-/
import Derived.Test.YtjldbkicpbchkaaGreatEvY
import Derived.Control
namespace Go.Proofs.YtjldbkicpbchkaaGreat.Ev
open Go Go.RowKit

/-- An operation comes out with a value. -/
def Goes (P : Program) (r : Result Next) (Q : Value → World → Prop) : Prop :=
  match r with
  | .ok (.value v) w => Q v w
  | .ok .skip w => Q undef w
  | .ok (.enter f args) w => Calls P f args w fun e w' => ∃ v, e = .returned v ∧ Q v w'
  | .ok (.row row args) w => Rows P row args w Q
  | _ => False

theorem Goes.mono {P : Program} {r : Result Next} {Q Q' : Value → World → Prop} (h : Goes P r Q) (hq : ∀ v w, Q v w → Q' v w) : Goes P r Q' := by
  unfold Goes at *
  split
  · exact hq _ _ h
  · exact hq _ _ h
  · exact Calls.mono h fun e w he => by obtain ⟨v, h1, h2⟩ := he; exact ⟨v, h1, hq _ _ h2⟩
  · exact Rows.mono h hq
  · rename_i h1 h2 h3 h4
    split at h
    · exact absurd rfl (h1 _ _)
    · exact absurd rfl (h2 _)
    · exact absurd rfl (h3 _ _ _)
    · exact absurd rfl (h4 _ _ _)
    · exact h

theorem Goes.upon {P : Program} {o : Oper} {a : Act} {r : Result Next} {Q : Value → World → Prop} {next : Act → World → Prop} {Z : Exit → Act → World → Prop} (h : Goes P r Q) (hn : ∀ v w, Q v w → next (a.put o.dst v) w) : o.upon P a next Z r := by
  unfold Goes at h
  split at h
  · exact hn _ _ h
  · exact hn _ _ h
  · refine Calls.mono h fun e w he => ?_
    obtain ⟨v, rfl, h2⟩ := he
    exact hn _ _ h2
  · exact Rows.mono h fun v w h2 => hn _ _ h2
  · exact h.elim

/-- Where an operation, or a call, leads. -/
def Post (W : World) (φ : Phi) (h : AHeap) (v : AV) (h' : AHeap) : Value → World → Prop := fun v' w' =>
  h.n ≤ h'.n ∧ ∃ φ', φ.le φ' ∧ (∀ b l, φ' b = some l → φ b = some l ∨ h.n ≤ b) ∧ RV φ' v v' ∧ Rel W φ' h' w'

def CallOk (P : Program) (call : CallF) : Prop :=
  ∀ (W : World) (f : Nat) (args : List AV) (h : AHeap) (v : AV) (h' : AHeap), call f args h = some (v, h') → ∀ (φ : Phi) (w : World) (args' : List Value), RVs φ args args' → Rel W φ h w →
    Goes P ((callFunc f args'.toArray).run P w) (Post W φ h v h')

structure SysOk (P : Program) (S : ASys) : Prop where
  code : ∀ f fn, S.code f = some fn → cFn P f = some fn
  meth : ∀ t m f, S.meth t m = some f → methOk P t m f = true
  sum : ∀ f s, S.sum f = some s → CallOk P fun g args h => if g = f then s args h else none

theorem tail_one {α : Type} (x : α) (xs : Array α) : (#[x] ++ xs).extract 1 (#[x] ++ xs).size = xs := by
  apply Array.ext
  · simp
  · intro i h1 h2
    simp [Array.getElem_append]

theorem run_method {P : Program} {t : TypeId} {name : String} {f : Nat} (h : methOk P t name f = true) (v : Value) (w : World) :
    (method (P.types.size + Made.depth) t v name).run P w = .ok (f, v) w := by
  unfold methOk at h
  have hpos : 0 < Made.depth := by decide
  obtain ⟨n, hd⟩ : ∃ n, P.types.size + Made.depth = n + 1 := ⟨P.types.size + Made.depth - 1, by omega⟩
  split at h
  · rename_i i hi
    split at h
    · rename_i m hm
      simp only [Bool.and_eq_true] at h
      obtain ⟨hp, h⟩ := h
      split at h
      · rename_i g p hf
        simp only [Bool.and_eq_true] at h
        obtain ⟨hfg, h⟩ := h
        have hfg' := Nat.eq_of_beq_eq_true hfg
        subst hfg'
        have hpl : m.path.toList = [] := by simpa using hp
        rw [hd]
        cases hu : P.underlying t with
        | none => simp [hu] at h
        | some d =>
          have hrecv : ∀ wr, (receiverAt t (.val v) p wr).run P w = .ok v w := by
            intro wr
            rw [hu] at h
            cases d <;> cases p <;> simp at h <;> simp [receiverAt, run_underlying hu, Place.get]
          simp only [method, Sem.run_bind, run_typeInfo hi, Result.andThen_ok, hm, hpl, follow, Sem.run_pure, hf, hrecv]
      · simp at h
    · simp at h
  · simp at h

theorem run_nilAhead {P : Program} {t : TypeId} {name : String} {f : Nat} (h : methOk P t name f = true) (v : Value) (w : World) :
    (nilAhead (P.types.size + Made.depth) t v name).run P w = .ok (some false) w := by
  unfold methOk at h
  have hpos : 0 < Made.depth := by decide
  obtain ⟨n, hd⟩ : ∃ n, P.types.size + Made.depth = n + 1 := ⟨P.types.size + Made.depth - 1, by omega⟩
  split at h
  · rename_i i hi
    split at h
    · rename_i m hm
      simp only [Bool.and_eq_true] at h
      obtain ⟨hp, h⟩ := h
      split at h
      · rename_i g p hf
        simp only [Bool.and_eq_true] at h
        obtain ⟨_, h⟩ := h
        have hpl : m.path.toList = [] := by simpa using hp
        rw [hd]
        cases hu : P.underlying t with
        | none => simp [hu] at h
        | some d =>
          rw [hu] at h
          cases p with
          | true => simp only [nilAhead, Sem.run_bind, run_typeInfo hi, Result.andThen_ok, hm, hpl, followBlind, Sem.run_pure, hf]
          | false =>
            simp only [nilAhead, Sem.run_bind, run_typeInfo hi, Result.andThen_ok, hm, hpl, followBlind, Sem.run_pure, hf, run_underlying hu]
            cases d <;> simp at h <;> simp
      · simp at h
    · simp at h
  · simp at h

section
variable {P : Program} {S : ASys} {W : World} {φ : Phi} {e : Env} {a : Act} {h : AHeap} {w : World}

theorem kOp_ok (hS : SysOk P S) (ke : EnvR φ e a) {o : Oper} {x : Opd} (hc : cOp P o.op = some (.k x)) {v : AV} (h : chkRun S (x.ev e) = some v) : POk P φ a o v := by
  obtain ⟨dst, op, type, pos, after, guard⟩ := o
  simp only at hc
  cases op with
  | nilCheck y =>
    simp only [cOp] at hc
    split at hc <;> simp at hc
    rename_i x' hx
    subst hc
    have hv := cOpd_RV ke hx
    cases hu : x'.ev e with
    | nilp => rw [hu] at h; simp [chkRun] at h
    | nili => rw [hu] at h; simp [chkRun] at h
    | nilf => rw [hu] at h; simp [chkRun] at h
    | fn f b c =>
      rw [hu] at hv h
      have hv0 := hv
      obtain ⟨xs, ys, hx', hb, _⟩ := hv.fn
      cases f with
      | method m =>
        simp only [chkRun] at h
        split at h
        · rename_i t u r
          split at h <;> simp at h
          rename_i g hg
          subst h
          obtain ⟨y, ys', hxs, hy, _⟩ := hb.cons
          obtain ⟨u', rfl, _⟩ := hy.ifc
          have h0 : (xs[0]? : Option Value) = some (.iface t u') := by
            rw [← Array.getElem?_toList, hxs]
            rfl
          refine ⟨a.eval y, fun w => ?_, by rw [hx'] at hv0 ⊢; exact hv0⟩
          have hn := run_nilAhead (hS.meth t m g hg) u' w
          simp [execOp, hx', h0, hn]
        · simp at h
      | _ => simp [chkRun] at h; subst h; exact ⟨a.eval y, fun w => by simp [execOp, hx'], by rw [hx'] at hv0 ⊢; exact hv0⟩
    | bool b => rw [hu] at hv h; simp [chkRun] at h; subst h; exact ⟨a.eval y, fun w => by simp [execOp, hv.bool], hv⟩
    | int b => rw [hu] at hv h; simp [chkRun] at h; subst h; exact ⟨a.eval y, fun w => by simp [execOp, hv.int], hv⟩
    | str b => rw [hu] at hv h; simp [chkRun] at h; subst h; exact ⟨a.eval y, fun w => by obtain ⟨_, hx', _⟩ := hv.str; simp [execOp, hx'], hv⟩
    | ptr b => rw [hu] at hv h; simp [chkRun] at h; subst h; exact ⟨a.eval y, fun w => by obtain ⟨_, _, hx'⟩ := hv.ptr; simp [execOp, hx'], hv⟩
    | nils => rw [hu] at hv h; simp [chkRun] at h; subst h; exact ⟨a.eval y, fun w => by simp [execOp, hv.nils], hv⟩
    | sl b => rw [hu] at hv h; simp [chkRun] at h; subst h; exact ⟨a.eval y, fun w => by obtain ⟨_, _, _, _, hx', _⟩ := hv.sl; simp [execOp, hx'], hv⟩
    | nilm => rw [hu] at hv h; simp [chkRun] at h; subst h; exact ⟨a.eval y, fun w => by simp [execOp, hv.nilm], hv⟩
    | map b => rw [hu] at hv h; simp [chkRun] at h; subst h; exact ⟨a.eval y, fun w => by obtain ⟨_, _, hx'⟩ := hv.map; simp [execOp, hx'], hv⟩
    | ifc b => rw [hu] at hv h; simp [chkRun] at h; subst h; exact ⟨a.eval y, fun w => by obtain ⟨_, hx', _⟩ := hv.ifc; simp [execOp, hx'], hv⟩
    | agg b => rw [hu] at hv h; simp [chkRun] at h; subst h; exact ⟨a.eval y, fun w => by obtain ⟨_, hx', _⟩ := hv.agg; simp [execOp, hx'], hv⟩
    | tup b => rw [hu] at hv h; simp [chkRun] at h; subst h; exact ⟨a.eval y, fun w => by obtain ⟨_, hx', _⟩ := hv.tup; simp [execOp, hx'], hv⟩
  | call c =>
    obtain ⟨callee, args, ats⟩ := c
    cases callee with
    | value f => cases f <;> simp only [cOp] at hc <;> (split at hc <;> (try simp at hc))
    | invoke r m => simp only [cOp] at hc; split at hc <;> (try simp at hc)
    | builtin b =>
      simp only [cOp] at hc
      unfold cBuiltin at hc
      split at hc
      · split at hc <;> (try simp at hc)
        split at hc <;> (try simp at hc)
      · split at hc <;> (try simp at hc)
        cases hb : isIntB P _ <;> rw [hb] at hc <;> simp at hc
        split at hc <;> (try simp at hc)
        split at hc <;> (try simp at hc)
      · split at hc <;> (try simp at hc)
        split at hc <;> (try simp at hc)
        split at hc <;> (try simp at hc)
      · split at hc <;> (try simp at hc)
      · split at hc <;> (try simp at hc)
      · split at hc <;> (try simp at hc)
      · simp at hc
  | load t x => simp only [cOp] at hc; split at hc <;> (try simp at hc)
  | convert s d x =>
    simp only [cOp] at hc
    split at hc <;> (try simp at hc)
    · split at hc <;> (try simp at hc)
    · split at hc <;> (try simp at hc)
  | slice t x lo hi mx =>
    simp only [cOp] at hc
    split at hc <;> (try simp at hc)
    · split at hc <;> (try simp at hc)
    · split at hc <;> (try simp at hc)
  | move x => simp only [cOp] at hc; split at hc <;> (try simp at hc)
  | assign x => simp only [cOp] at hc; split at hc <;> (try simp at hc)
  | pick c x y => simp only [cOp] at hc; split at hc <;> (try simp at hc)
  | binOp op t x y u =>
    simp only [cOp] at hc
    cases hg : (P.eqGuardType P.depth t && !(isIfaceB P t)) <;> rw [hg] at hc <;> simp at hc
    split at hc <;> (try simp at hc)
  | unOp op t x => simp only [cOp] at hc; split at hc <;> (try simp at hc)
  | makeInterface t x => simp only [cOp] at hc; split at hc <;> (try simp at hc)
  | makeFunc f xs ys => simp only [cOp] at hc; split at hc <;> (try simp at hc)
  | build t ps =>
    simp only [cOp] at hc
    split at hc <;> (try simp at hc)
    · split at hc <;> (try simp at hc)
      split at hc <;> (try simp at hc)
    · split at hc <;> (try simp at hc)
      split at hc <;> (try simp at hc)
  | fieldAddr t x i =>
    simp only [cOp] at hc
    split at hc <;> (try simp at hc)
    split at hc <;> (try simp at hc)
    split at hc <;> (try simp at hc)
  | field t x i =>
    simp only [cOp] at hc
    split at hc <;> (try simp at hc)
    split at hc <;> (try simp at hc)
    split at hc <;> (try simp at hc)
  | indexAddr t x i =>
    simp only [cOp] at hc
    split at hc <;> (try simp at hc)
    · split at hc <;> (try simp at hc)
    · split at hc <;> (try simp at hc)
  | index t x i =>
    simp only [cOp] at hc
    split at hc <;> (try simp at hc)
    split at hc <;> (try simp at hc)
  | extract x i => simp only [cOp] at hc; split at hc <;> (try simp at hc)
  | alloc t => simp only [cOp] at hc; split at hc <;> (try simp at hc)
  | box t x => simp only [cOp] at hc; split at hc <;> (try simp at hc)
  | buildSlice t n ps =>
    simp only [cOp] at hc
    split at hc <;> (try simp at hc)
    split at hc <;> (try simp at hc)
    rename_i s z _ _
    cases hb : (Nat.ble (n * s) 16777216 && Nat.beq z.length s) <;> rw [hb] at hc <;> simp at hc
    split at hc <;> (try simp at hc)
  | store t x y => simp only [cOp] at hc; split at hc <;> (try simp at hc)
  | makeMap t r => cases r <;> simp [cOp] at hc
  | makeSlice t l c =>
    simp only [cOp] at hc
    split at hc <;> (try simp at hc)
    split at hc <;> (try simp at hc)
    rename_i i z _ _
    cases hb : (Nat.beq z.length i.size) <;> rw [hb] at hc <;> simp at hc
  | lookup t m k ok => simp only [cOp] at hc; split at hc <;> (try simp at hc)
  | mapUpdate t m k x => simp only [cOp] at hc; split at hc <;> (try simp at hc)
  | _ => simp [cOp] at hc

theorem valCall_ok {call : CallF} (hcall : CallOk P call) (R : Rel W φ h w) {x v : AV} {args : List AV} {x' : Value} {args' : Array Value} (hx : RV φ x x') (ha : RVs φ args args'.toList) {h' : AHeap} (hv : valCall call x args h = some (v, h')) :
    Goes P ((do let d ← Deferred.ofValue x' args'; invoke d.target d.args : Sem Next).run P w) (Post W φ h v h') := by
  unfold valCall at hv
  split at hv
  · rename_i f first captured
    obtain ⟨xs, ys, rfl, h1, h2⟩ := hx.fn
    have := hcall W f _ h v h' hv φ w (xs.toList ++ args'.toList ++ ys.toList) ((h1.append ha).append h2) R
    simp only [Deferred.ofValue, Sem.run_bind, Sem.run_pure, Result.andThen_ok, invoke]
    have e1 : xs ++ args' ++ ys = (xs.toList ++ args'.toList ++ ys.toList).toArray := by apply Array.ext'; simp
    rw [e1]
    exact this
  · simp at hv

theorem cOp_ok {call : CallF} (hS : SysOk P S) (hcall : CallOk P call) (ke : EnvR φ e a) (R : Rel W φ h w) {o : Oper} {io : COp} (hc : cOp P o.op = some (.c io)) {v : AV} {h' : AHeap}
    (hv : io.run S call e h = some (v, h')) : Goes P ((execOp a.eval o).run P w) (Post W φ h v h') := by
  obtain ⟨dst, op, type, pos, after, guard⟩ := o
  simp only at hc
  cases op with
  | call c =>
    obtain ⟨callee, args, ats⟩ := c
    cases callee with
    | value x =>
      have hgen : ∀ {y : Opd} {as : List Opd}, cOpd x = some y → allSome cOpd args.toList = some as → io = .val y as →
          Goes P ((execOp a.eval { dst, op := .call { callee := .value x, args, argTypes := ats }, type, pos, after, guard : Oper}).run P w) (Post W φ h v h') := by
        intro y as hy has hio
        subst hio
        simp only [COp.run] at hv
        have := valCall_ok hcall R (cOpd_RV ke hy) (cOpds_RVs ke has) hv
        simp only [execOp, resolve]
        exact this
      cases x with
      | func f =>
        simp only [cOp] at hc
        split at hc <;> simp at hc
        rename_i as has
        subst hc
        simp only [COp.run] at hv
        have := hcall W f _ h v h' hv φ w _ (cOpds_RVs ke has) R
        simp only [execOp, resolve, Deferred.ofValue, Act.eval, Sem.run_bind, Sem.run_pure, Result.andThen_ok, invoke]
        have e1 : (#[] ++ args.map a.eval ++ #[] : Array Value) = (args.map a.eval).toList.toArray := by apply Array.ext'; simp
        rw [e1]
        exact this
      | tmp t =>
        simp only [cOp] at hc
        split at hc <;> simp at hc
        rename_i y as hy has
        exact hgen hy has hc.symm
      | const u =>
        simp only [cOp] at hc
        split at hc <;> simp at hc
        rename_i y as hy has
        exact hgen hy has hc.symm
      | global g =>
        simp only [cOp] at hc
        split at hc <;> simp at hc
        rename_i y as hy has
        exact hgen hy has hc.symm
    | invoke r m =>
      simp only [cOp] at hc
      split at hc <;> simp at hc
      rename_i y as hy has
      subst hc
      simp only [COp.run] at hv
      split at hv <;> (try simp at hv)
      rename_i t u hu
      split at hv <;> (try simp at hv)
      rename_i f hf
      have hr := cOpd_RV ke hy
      rw [hu] at hr
      obtain ⟨u', hu', hru⟩ := hr.ifc
      have hargs : RVs φ (u :: as.map (·.ev e)) (u' :: (args.map a.eval).toList) := by simp only [RVs]; exact ⟨_, _, rfl, hru, cOpds_RVs ke has⟩
      have := hcall W f _ h v h' hv φ w _ hargs R
      have hm := run_method (hS.meth t m f hf) u' w
      simp only [execOp, resolve, Sem.run_bind, Sem.run_pure, Result.andThen_ok, invoke, hu']
      have e0 : ((#[Value.iface t u'] ++ args.map a.eval)[0]? : Option Value) = some (.iface t u') := by
        rw [Array.getElem?_append_left (by simp)]
        rfl
      have e1 := tail_one (Value.iface t u') (args.map a.eval)
      rw [e0]
      simp only [e1, callMethod, Sem.run_bind, run_program, Result.andThen_ok, hm]
      have e2 : (#[u'] ++ args.map a.eval : Array Value) = (u' :: (args.map a.eval).toList).toArray := by apply Array.ext'; simp
      rw [e2]
      exact this
    | builtin b =>
      simp only [cOp] at hc
      unfold cBuiltin at hc
      split at hc
      · split at hc <;> (try simp at hc)
        split at hc <;> (try simp at hc)
      · split at hc <;> (try simp at hc)
        cases hb : isIntB P _ <;> rw [hb] at hc <;> simp at hc
        split at hc <;> (try simp at hc)
        split at hc <;> (try simp at hc)
      · split at hc <;> (try simp at hc)
        split at hc <;> (try simp at hc)
        split at hc <;> (try simp at hc)
      · split at hc <;> (try simp at hc)
      · split at hc <;> (try simp at hc)
      · split at hc <;> (try simp at hc)
      · simp at hc
  | load t x => simp only [cOp] at hc; split at hc <;> (try simp at hc)
  | convert s d x =>
    simp only [cOp] at hc
    split at hc <;> (try simp at hc)
    · split at hc <;> (try simp at hc)
    · split at hc <;> (try simp at hc)
  | slice t x lo hi mx =>
    simp only [cOp] at hc
    split at hc <;> (try simp at hc)
    · split at hc <;> (try simp at hc)
    · split at hc <;> (try simp at hc)
  | move x => simp only [cOp] at hc; split at hc <;> (try simp at hc)
  | assign x => simp only [cOp] at hc; split at hc <;> (try simp at hc)
  | pick c x y => simp only [cOp] at hc; split at hc <;> (try simp at hc)
  | nilCheck x => simp only [cOp] at hc; split at hc <;> (try simp at hc)
  | binOp op t x y u =>
    simp only [cOp] at hc
    cases hg : (P.eqGuardType P.depth t && !(isIfaceB P t)) <;> rw [hg] at hc <;> simp at hc
    split at hc <;> (try simp at hc)
  | unOp op t x => simp only [cOp] at hc; split at hc <;> (try simp at hc)
  | makeInterface t x => simp only [cOp] at hc; split at hc <;> (try simp at hc)
  | makeFunc f xs ys => simp only [cOp] at hc; split at hc <;> (try simp at hc)
  | build t ps =>
    simp only [cOp] at hc
    split at hc <;> (try simp at hc)
    · split at hc <;> (try simp at hc)
      split at hc <;> (try simp at hc)
    · split at hc <;> (try simp at hc)
      split at hc <;> (try simp at hc)
  | fieldAddr t x i =>
    simp only [cOp] at hc
    split at hc <;> (try simp at hc)
    split at hc <;> (try simp at hc)
    split at hc <;> (try simp at hc)
  | field t x i =>
    simp only [cOp] at hc
    split at hc <;> (try simp at hc)
    split at hc <;> (try simp at hc)
    split at hc <;> (try simp at hc)
  | indexAddr t x i =>
    simp only [cOp] at hc
    split at hc <;> (try simp at hc)
    · split at hc <;> (try simp at hc)
    · split at hc <;> (try simp at hc)
  | index t x i =>
    simp only [cOp] at hc
    split at hc <;> (try simp at hc)
    split at hc <;> (try simp at hc)
  | extract x i => simp only [cOp] at hc; split at hc <;> (try simp at hc)
  | alloc t => simp only [cOp] at hc; split at hc <;> (try simp at hc)
  | box t x => simp only [cOp] at hc; split at hc <;> (try simp at hc)
  | buildSlice t n ps =>
    simp only [cOp] at hc
    split at hc <;> (try simp at hc)
    split at hc <;> (try simp at hc)
    rename_i s z _ _
    cases hb : (Nat.ble (n * s) 16777216 && Nat.beq z.length s) <;> rw [hb] at hc <;> simp at hc
    split at hc <;> (try simp at hc)
  | store t x y => simp only [cOp] at hc; split at hc <;> (try simp at hc)
  | makeMap t r => cases r <;> simp [cOp] at hc
  | makeSlice t l c =>
    simp only [cOp] at hc
    split at hc <;> (try simp at hc)
    split at hc <;> (try simp at hc)
    rename_i i z _ _
    cases hb : (Nat.beq z.length i.size) <;> rw [hb] at hc <;> simp at hc
  | lookup t m k ok => simp only [cOp] at hc; split at hc <;> (try simp at hc)
  | mapUpdate t m k x => simp only [cOp] at hc; split at hc <;> (try simp at hc)
  | _ => simp [cOp] at hc

theorem wr_n {h h' : AHeap} {b o : Nat} {vs : List AV} (hw : h.wr b o vs = some h') : h'.n = h.n := by
  obtain ⟨cs, ty, sh, kin, _, _, _, _, rfl⟩ := wr_parts hw
  simp [kill_n]

theorem aOp_mono {io : AOp} {v : AV} {h' : AHeap} (hv : io.run e h = some (v, h')) : h.n ≤ h'.n := by
  cases io with
  | mset m k x =>
    simp only [AOp.run] at hv
    split at hv <;> (try simp at hv)
    split at hv <;> (try simp at hv)
    split at hv <;> simp at hv
    rw [← hv.2]
    exact Nat.le_refl _
  | mdel m k =>
    simp only [AOp.run] at hv
    split at hv
    · simp at hv; rw [← hv.2]; exact Nat.le_refl _
    · split at hv <;> (try simp at hv)
      split at hv <;> simp at hv
      rw [← hv.2]
      exact Nat.le_refl _
    · simp at hv
  | store n x y =>
    simp only [AOp.run] at hv
    split at hv <;> (try simp at hv)
    cases hq : Nat.beq (y.ev e).cells.length n with
    | false => simp [hq] at hv
    | true =>
      simp only [hq, cond_true] at hv
      split at hv <;> simp at hv
      rename_i h1 hw
      rw [← hv.2, wr_n hw]
      exact Nat.le_refl _
  | copy es s x =>
    simp only [AOp.run] at hv
    split at hv
    case h_2 => cases hv
    rename_i m k hm hk
    split at hv
    · cases hv
    rename_i cs hcs
    split at hv
    · simp at hv; rw [← hv.2]; exact Nat.le_refl _
    · rename_i b o len cap es' ex _
      cases hq : Nat.beq (min k m) 0 with
      | true => simp [hq] at hv; rw [← hv.2]; exact Nat.le_refl _
      | false =>
        simp only [hq, cond_false] at hv
        cases hq2 : Nat.beq es es' with
        | false => simp [hq2] at hv
        | true =>
          simp only [hq2, Bool.not_true, cond_false] at hv
          split at hv <;> simp at hv
          rename_i h1 hw
          rw [← hv.2, wr_n hw]
          exact Nat.le_refl _
    · simp at hv
  | app ty es bytes s x =>
    simp only [AOp.run] at hv
    split at hv
    · cases hv
    rename_i n hn
    split at hv
    · cases hv
    rename_i new hnew
    split at hv
    · cases h1 : Nat.beq n 0 with
      | true => rw [h1] at hv; simp at hv; rw [← hv.2]; exact Nat.le_refl _
      | false =>
        rw [h1] at hv
        simp only [cond_false] at hv
        cases h2 : (Nat.ble (n * bytes) 35184372088832 && Nat.ble n 35184372088832) with
        | false => rw [h2] at hv; simp at hv
        | true => rw [h2] at hv; simp at hv; rw [← hv.2]; simp
    · rename_i b o len cap es' ex _
      cases h0 : Nat.beq es es' with
      | false => rw [h0] at hv; simp at hv
      | true =>
        rw [h0] at hv
        simp only [Bool.not_true, cond_false] at hv
        cases h1 : Nat.beq n 0 with
        | true => rw [h1] at hv; simp at hv; rw [← hv.2]; exact Nat.le_refl _
        | false =>
          rw [h1] at hv
          simp only [cond_false] at hv
          cases h2 : Nat.ble (len + n) cap with
          | true =>
            rw [h2] at hv
            simp only [cond_true] at hv
            split at hv <;> simp at hv
            rename_i h1 hw
            rw [← hv.2, wr_n hw]
            exact Nat.le_refl _
          | false =>
            rw [h2] at hv
            simp only [cond_false] at hv
            cases h3 : (!(Nat.ble ((len + n) * bytes) 35184372088832 && Nat.ble (len + n) 35184372088832)) with
            | true => rw [h3] at hv; simp at hv
            | false =>
              rw [h3] at hv
              simp only [cond_false] at hv
              split at hv
              · rename_i cs ty' ro sh kin _
                cases h4 : (!(Nat.ble (o + len * es) cs.length)) with
                | true => rw [h4] at hv; simp at hv
                | false =>
                  rw [h4] at hv
                  simp only [cond_false] at hv
                  cases ex with
                  | true => simp at hv; rw [← hv.2]; simp
                  | false =>
                    simp only [cond_false] at hv
                    cases h5 : (!ro && !sh && Nat.beq (o + len * es) cs.length && Nat.beq ty ty' && allOne new) with
                    | false => rw [h5] at hv; simp at hv
                    | true => rw [h5] at hv; simp at hv; rw [← hv.2]; simp
              · simp at hv
    · simp at hv

/-- Every operation of the evaluator. -/
theorem op_ok {call : CallF} (hS : SysOk P S) (hcall : CallOk P call) (ke : EnvR φ e a) (R : Rel W φ h w) {o : Oper} {v : AV} {h' : AHeap}
    (hv : ((cOp P o.op).getD IOp.none).run S call e h = some (v, h')) : Goes P ((execOp a.eval o).run P w) (Post W φ h v h') := by
  cases hc : cOp P o.op with
  | none => rw [hc] at hv; simp [IOp.none, IOp.run, POp.run, Opd.ev] at hv
  | some io =>
    rw [hc] at hv
    simp only [Option.getD_some] at hv
    cases io with
    | p io =>
      simp only [IOp.run] at hv
      split at hv <;> simp at hv
      rename_i u hu
      obtain ⟨rfl, rfl⟩ := hv
      obtain ⟨v', h1, h2⟩ := pOp_ok (P := P) ke hc hu
      rw [h1 w]
      exact ⟨Nat.le_refl _, φ, Phi.le_refl φ, fun b l hb => .inl hb, h2, R⟩
    | k io =>
      simp only [IOp.run] at hv
      split at hv <;> simp at hv
      rename_i u hu
      obtain ⟨rfl, rfl⟩ := hv
      obtain ⟨v', h1, h2⟩ := kOp_ok (P := P) hS ke hc hu
      rw [h1 w]
      exact ⟨Nat.le_refl _, φ, Phi.le_refl φ, fun b l hb => .inl hb, h2, R⟩
    | r io =>
      simp only [IOp.run] at hv
      split at hv <;> simp at hv
      rename_i u hu
      obtain ⟨rfl, rfl⟩ := hv
      obtain ⟨v', h1, h2⟩ := rOp_ok ke R hc hu
      rw [h1]
      exact ⟨Nat.le_refl _, φ, Phi.le_refl φ, fun b l hb => .inl hb, h2, R⟩
    | n io =>
      simp only [IOp.run] at hv
      split at hv <;> simp at hv
      rename_i ob mk hu
      obtain ⟨rfl, rfl⟩ := hv
      obtain ⟨hk, hd, v', w', l, h1, h2, h3, h4⟩ := nOp_ok (P := P) (w := w) ke hc hu
      rw [h1]
      obtain ⟨hor, hrv⟩ := h4 (φ.bind h.n l) h.n W.heap.size (Phi.le_bind R.none_at l) (Phi.bind_self _ _ _) R.below.size
      exact ⟨Nat.le_succ _, _, Phi.le_bind R.none_at l, bind_new, hrv, (R.ghost ob (by rw [hk]; simp)).bind R.none_at (AHeap.get_push_eq _ _) (Nat.lt_succ_self _) hd h2 h3 hor⟩
    | a io =>
      simp only [IOp.run] at hv
      obtain ⟨nx, v', φ', w', h1, h2, h3, h4, h5, h6⟩ := aOp_ok ke R hc hv
      rw [h1]
      rcases h2 with rfl | ⟨rfl, rfl⟩
      · exact ⟨aOp_mono hv, φ', h3, h4, h5, h6⟩
      · exact ⟨aOp_mono hv, φ', h3, h4, h5, h6⟩
    | c io => exact cOp_ok hS hcall ke R hc hv

theorem RV.bool_inv {x : AV} {b : Bool} (h : RV φ x (.bool b)) : x = .bool b := by
  cases x <;> simp only [RV] at h <;> first
    | (injection h with h; rw [h])
    | (exact absurd h (by simp))
    | (obtain ⟨_, h, _⟩ := h; exact absurd h (by simp))
    | (obtain ⟨_, _, h⟩ := h; exact absurd h (by simp))
    | (obtain ⟨_, _, h, _⟩ := h; exact absurd h (by simp))
    | (obtain ⟨_, _, _, _, h, _⟩ := h; exact absurd h (by simp))

/-- An operation is wanted there where it is here. -/
theorem on_ok (ke : EnvR φ e a) {ops : Array Oper} {o : Oper} {c : IOper} (hc : cOper P ops o = some c) : c.on e = Region.wanted o (yielded ops a.tmps) ∧ c.d = o.dst ∧ c.k = (cOp P o.op).getD IOp.none := by
  unfold cOper at hc
  split at hc
  · rename_i hg
    simp at hc
    subst hc
    simp [IOper.on, Region.wanted, hg]
  · rename_i j want hg
    split at hc
    · rename_i oj hj
      split at hc
      · rename_i t ht
        simp at hc
        subst hc
        refine ⟨?_, rfl, rfl⟩
        have hr := ke.2 t
        have hgd : a.tmps.getD t undef = (a.tmps[t]?).getD undef := by simp
        rw [hgd] at hr
        simp only [IOper.on, Region.wanted, hg, yielded, hj, Option.bind_some, ht]
        generalize e.getD t .undef = x at hr
        cases hv : a.tmps[t]? with
        | none =>
          rw [hv] at hr
          have hx : ∀ b, x ≠ .bool b := by
            rintro b rfl
            have := hr.bool
            simp [undef] at this
          cases x <;> first | rfl | exact absurd rfl (hx _)
        | some u =>
          rw [hv] at hr
          simp only [Option.getD_some] at hr
          by_cases hb : ∃ b, u = .bool b
          · obtain ⟨b, rfl⟩ := hb
            have hrb := hr.bool_inv
            subst hrb
            simp
          · have hx : ∀ b, x ≠ .bool b := by
              rintro b rfl
              exact hb ⟨b, hr.bool⟩
            clear hr hv ke
            cases u <;> first | exact absurd ⟨_, rfl⟩ hb | (cases x <;> first | rfl | exact absurd rfl (hx _))
      · simp at hc
    · simp at hc

/-- Where a statement leads. -/
def Ends (W : World) (φ : Phi) (h : AHeap) (e' : Env) (h' : AHeap) (d : List Deferred) : Act → World → Prop := fun a' w' =>
  h.n ≤ h'.n ∧ ∃ φ', φ.le φ' ∧ (∀ b l, φ' b = some l → φ b = some l ∨ h.n ≤ b) ∧ EnvR φ' e' a' ∧ Rel W φ' h' w' ∧ a'.defers = d

theorem put_defers (a : Act) (d : Option Tmp) (v : Value) : (a.put d v).defers = a.defers := by cases d <;> rfl

theorem reg_ok {call : CallF} (hS : SysOk P S) (hcall : CallOk P call) {ops : Array Oper} {cs : List IOper} (hcs : allSome (cOper P ops) ops.toList = some cs) {Z : Exit → Act → World → Prop} :
    ∀ (m k : Nat) (φ : Phi) (e : Env) (a : Act) (h : AHeap) (w : World) (e' : Env) (h' : AHeap), k + m = ops.size → EnvR φ e a → Rel W φ h w → runOps S call (cs.drop k) e h = some (e', h') →
      (∀ a' w', Ends W φ h e' h' a.defers a' w' → Z .normal a' w') → wpOps P ops Z (List.range' k m) a w := by
  have hget := allSome_get hcs
  intro m
  induction m with
  | zero =>
    intro k φ e a h w e' h' hk ke R hrun hz
    have hd : cs.drop k = [] := by
      have hl := hget.1
      apply List.drop_eq_nil_of_le
      simp at hl
      omega
    rw [hd] at hrun
    simp [runOps] at hrun
    obtain ⟨rfl, rfl⟩ := hrun
    exact hz a w ⟨Nat.le_refl _, φ, Phi.le_refl φ, fun b l hb => .inl hb, ke, R, rfl⟩
  | succ m ih =>
    intro k φ e a h w e' h' hk ke R hrun hz
    have hlt : k < ops.size := by omega
    have hl := hget.1
    simp at hl
    have hltc : k < cs.length := by omega
    have hd : cs.drop k = cs[k] :: cs.drop (k + 1) := (List.drop_eq_getElem_cons hltc)
    rw [hd] at hrun
    simp only [runOps] at hrun
    obtain ⟨o, ho, hoc⟩ := hget.2 k cs[k] (by simp [hltc])
    have ho' : ops[k]? = some o := by simpa using ho
    obtain ⟨hon, hd1, hk1⟩ := on_ok ke hoc
    rw [show List.range' k (m + 1) = k :: List.range' (k + 1) m from by simp [List.range'_succ], wpOps_cons]
    unfold wpOp
    simp only [ho']
    unfold IOper.step at hrun
    rw [hon] at hrun
    cases hw : Region.wanted o (yielded ops a.tmps) with
    | true =>
      rw [hw] at hrun
      simp only [cond_true] at hrun
      simp only [if_true]
      refine .inl ?_
      split at hrun
      · rename_i e1 h1 hstep
        split at hstep <;> simp at hstep
        rename_i v h1' hv
        obtain ⟨rfl, rfl⟩ := hstep
        rw [hk1] at hv
        refine (op_ok hS hcall ke R hv).upon fun v' w1 hp => ?_
        obtain ⟨hn1, φ1, hle1, hnew1, hrv1, R1⟩ := hp
        rw [hd1] at hrun
        refine ih (k + 1) φ1 _ _ _ w1 e' h' (by omega) ((ke.mono hle1).put hrv1 o.dst) R1 hrun fun a' w' hends => ?_
        obtain ⟨hn2, φ2, hle2, hnew2, ke2, R2, hdef⟩ := hends
        refine hz a' w' ⟨Nat.le_trans hn1 hn2, φ2, Phi.le_trans hle1 hle2, fun b l hb => ?_, ke2, R2, by rw [hdef, put_defers]⟩
        rcases hnew2 b l hb with hb | hb
        · exact hnew1 b l hb
        · exact .inr (Nat.le_trans hn1 hb)
      · simp at hrun
    | false =>
      rw [hw] at hrun
      simp only [cond_false] at hrun
      simp only [Bool.false_eq_true, if_false]
      rw [hd1] at hrun
      refine ih (k + 1) φ _ _ h w e' h' (by omega) (ke.put (RV_undef φ) o.dst) R hrun fun a' w' hends => ?_
      obtain ⟨hn2, φ2, hle2, hnew2, ke2, R2, hdef⟩ := hends
      exact hz a' w' ⟨hn2, φ2, hle2, hnew2, ke2, R2, by rw [hdef, put_defers]⟩
end

end Go.Proofs.YtjldbkicpbchkaaGreat.Ev
