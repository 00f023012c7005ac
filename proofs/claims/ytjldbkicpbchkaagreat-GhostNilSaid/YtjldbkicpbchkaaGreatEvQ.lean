/-
  That the evaluator is right: indices, slices and lengths; then every operation that looks at no memory.
-/
import Derived.Test.YtjldbkicpbchkaaGreatEvP
namespace Go.Proofs.YtjldbkicpbchkaaGreat.Ev
open Go Go.RowKit

section
variable {P : Program} {φ : Phi} {e : Env} {a : Act}

theorem ok_idxS (ke : EnvR φ e a) {o : Oper} {t : TypeId} {x i : Operand} (ho : o.op = .index t x i) {x' i' : Opd} (hx : cOpd x = some x') (hi : cOpd i = some i') (ht : P.underlying t = some .string)
    {v : AV} (h : (POp.idxS x' i').run e = some v) : POk P φ a o v := by
  obtain ⟨dst, op, type, pos, after, guard⟩ := o
  subst ho
  simp only [POp.run] at h
  have hv := cOpd_RV ke hx
  split at h
  · rename_i s j hs hj
    rw [hs] at hv
    obtain ⟨ba, hx', rfl⟩ := hv.str
    obtain ⟨kd, hi'⟩ := nat?_RV (cOpd_RV ke hi) hj
    cases hc : ba.data.toList[j]? with
    | none => simp [hc] at h
    | some c =>
      simp [hc] at h
      subst h
      have hb : ba[j]? = some c := by
        have hlt : j < ba.size := by
          have := (List.getElem?_eq_some_iff.1 hc).1
          simpa using this
        rw [getElem?_pos ba j hlt]
        have := (List.getElem?_eq_some_iff.1 hc).2
        simp only [Array.getElem_toList] at this
        exact congrArg some this
      refine ⟨.int .u8 c.toNat, fun w => ?_, by simp only [RV]⟩
      simp only [execOp, Instr.index, hx', hi', asIntOf, Sem.run_bind, Sem.run_pure, run_underlying ht, Result.andThen_ok]
      simp [hb]
  · simp at h

theorem ok_idx (ke : EnvR φ e a) {o : Oper} {t el : TypeId} {x i : Operand} (ho : o.op = .index t x i) {x' i' : Opd} (hx : cOpd x = some x') (hi : cOpd i = some i') {n s : Nat} {k : Option Nat} (ht : P.underlying t = some (.array n el))
    (hs : size? P el = some s) (hk : loadKind P el = some k) {v : AV} (h : (POp.idx n k.isSome s x' i').run e = some v) : POk P φ a o v := by
  obtain ⟨dst, op, type, pos, after, guard⟩ := o
  subst ho
  simp only [POp.run] at h
  have hv := cOpd_RV ke hx
  split at h
  · rename_i cs j hcs hj
    rw [hcs] at hv
    obtain ⟨xs, hx', hr⟩ := hv.agg
    obtain ⟨kd, hi'⟩ := nat?_RV (cOpd_RV ke hi) hj
    cases hlt : Nat.blt j n with
    | false => simp [hlt] at h
    | true =>
      have hlt' : j < n := by simpa [Nat.blt_eq] using hlt
      have hrun : ∀ w, (execOp a.eval { dst := dst, op := .index t x i, type := type, pos := pos, after := after, guard := guard }).run P w =
          ((part el xs (j * s)).run P w).andThen fun v w => .ok (.value v) w := by
        intro w
        simp only [execOp, Instr.index, hx', hi', asIntOf, Sem.run_bind, Sem.run_pure, run_underlying ht, Result.andThen_ok]
        rw [if_pos (by omega)]
        simp only [Sem.run_bind, run_sizeOf hs, Result.andThen_ok, Int.toNat_natCast]
      cases k with
      | none =>
        simp [hlt] at h
        obtain ⟨u, hu, hru⟩ := hr.get h
        refine ⟨u, fun w => ?_, hru⟩
        rw [hrun, run_part hk]
        rw [show xs[j * s]? = some u from by simpa using hu]
        simp
      | some m =>
        have hm : m = s := by
          unfold loadKind at hk
          split at hk
          · simp at hk
          · cases hg : isAggB P el <;> simp [hg] at hk
            rw [hs] at hk; simpa using hk.symm
        subst hm
        simp [hlt] at h
        subst h
        refine ⟨.agg (xs.extract (j * m) (j * m + m)), fun w => ?_, ?_⟩
        · rw [hrun, run_part hk]; simp
        · simp only [RV]
          refine ⟨_, rfl, ?_⟩
          rw [Array.toList_extract]
          simp only [List.extract]
          rw [show j * m + m - j * m = m from by omega]
          exact (hr.drop (j * m)).take m
  · simp at h

theorem ok_slV (ke : EnvR φ e a) {o : Oper} {t el : TypeId} {x : Operand} {lo hi mx : Option Operand} (ho : o.op = .slice t x lo hi mx) {x' : Opd} {lo' hi' mx' : Option Opd} (hx : cOpd x = some x')
    (h1 : cOpt lo = some lo') (h2 : cOpt hi = some hi') (h3 : cOpt mx = some mx') {s : Nat} (ht : P.underlying t = some (.slice el)) (hs : size? P el = some s)
    {v : AV} (h : (POp.slV s x' lo' hi' mx').run e = some v) : POk P φ a o v := by
  obtain ⟨dst, op, type, pos, after, guard⟩ := o
  subst ho
  simp only [POp.run] at h
  have hv := cOpd_RV ke hx
  split at h
  · rename_i hb
    rw [hb] at hv
    have hx' := hv.nils
    split at h <;> simp at h
    rename_i r hbd
    subst h
    obtain ⟨l0, h0, m0⟩ := r
    refine ⟨.slice none 0 0, fun w => ?_, by simp only [RV]⟩
    obtain ⟨m', hrun, hmn, hms, hlh, hhm, hmc, hmm, hmc', _⟩ := run_bounds (P := P) ke h1 h2 h3 hbd 0 (Nat.le_refl _) (Nat.le_refl _) true w
    obtain rfl : l0 = 0 := by omega
    obtain rfl : h0 = 0 := by omega
    obtain rfl : m' = 0 := by omega
    simp only [execOp, Instr.sliceAt, Instr.slice, hx', Sem.run_bind, run_underlying ht, Result.andThen_ok, hrun, run_sizeOf hs]
    simp
  · rename_i b off ln cap es' ex hb
    rw [hb] at hv
    obtain ⟨l, z, cap', hl, hx', hz, hc, hex, hfit, hlc⟩ := hv.sl
    split at h
    · rename_i lo0 hi0 m0 hbd
      cases hes : Nat.beq s es' with
      | false => simp [hes] at h
      | true =>
        simp [hes] at h
        obtain rfl := Nat.eq_of_beq_eq_true hes
        subst h
        obtain ⟨m', hrun0, hmn, hms, hlh, hhm, hmc, hmm, hmc', hsome⟩ := run_bounds (P := P) ke h1 h2 h3 hbd cap' hc hlc true default
        refine ⟨.slice (if m' = lo0 then some ⟨l.c, z, none⟩ else (some ⟨l.c, z, none⟩ : Option Addr).map (·.add (lo0 * s))) (hi0 - lo0) (m' - lo0), fun w => ?_, ?_⟩
        · obtain ⟨m'', hrun, hmn2, hms2, _⟩ := run_bounds (P := P) ke h1 h2 h3 hbd cap' hc hlc true w
          have hm'' : m'' = m' := by
            by_cases hmx : mx = none
            · have := (hmn hmx).1; have := (hmn2 hmx).1; omega
            · have := hms hmx; have := hms2 hmx; omega
          subst hm''
          simp only [execOp, Instr.sliceAt, Instr.slice, hx', Sem.run_bind, run_underlying ht, Result.andThen_ok, hrun, run_sizeOf hs, Sem.run_pure]
        · simp only [RV]
          have hexm : (ex || mx'.isSome) = true → m' = m0 := by
            intro hh
            by_cases hmx : mx = none
            · rw [hsome, hmx] at hh
              simp at hh
              have := hex hh; have := hmn hmx; omega
            · exact hms hmx
          by_cases hml : m' = lo0
          · rw [if_pos hml]
            refine ⟨l, z, m' - lo0, hl, rfl, .inr (by omega), by omega, fun hh => by rw [hexm hh], ?_, by omega⟩
            have e0 : (m' - lo0) * s = 0 := by rw [hml]; simp
            have h5 : lo0 * s ≤ cap' * s := Nat.mul_le_mul_right s (by omega)
            omega
          · rw [if_neg hml]
            have hzz : z = l.s + off := by rcases hz with hz | hz; exact hz; omega
            subst hzz
            have e1 : Addr.add ⟨l.c, l.s + off, none⟩ (lo0 * s) = ⟨l.c, l.s + (off + lo0 * s), none⟩ := by
              unfold Addr.add
              split
              · rename_i h0; simp [h0]
              · simp [Nat.add_assoc]
            simp only [Option.map_some, e1]
            refine ⟨l, _, m' - lo0, hl, rfl, .inl rfl, by omega, fun hh => by rw [hexm hh], ?_, by omega⟩
            have h5 : lo0 * s + (m' - lo0) * s = m' * s := by rw [← Nat.add_mul]; congr 1; omega
            have h6 : m' * s ≤ cap' * s := Nat.mul_le_mul_right s hmc'
            omega
    · simp at h
  · simp at h

theorem ok_slS (ke : EnvR φ e a) {o : Oper} {t : TypeId} {x : Operand} {lo hi : Option Operand} (ho : o.op = .slice t x lo hi none) {x' : Opd} {lo' hi' : Option Opd} (hx : cOpd x = some x')
    (h1 : cOpt lo = some lo') (h2 : cOpt hi = some hi') (ht : P.underlying t = some .string)
    {v : AV} (h : (POp.slS x' lo' hi').run e = some v) : POk P φ a o v := by
  obtain ⟨dst, op, type, pos, after, guard⟩ := o
  subst ho
  simp only [POp.run] at h
  have hv := cOpd_RV ke hx
  split at h
  · rename_i s hs
    rw [hs] at hv
    obtain ⟨ba, hx', rfl⟩ := hv.str
    split at h <;> simp at h
    rename_i l0 h0 m0 hbd
    subst h
    have hsz : ba.data.toList.length = ba.size := by simp
    rw [hsz] at hbd
    refine ⟨.string (ba.extract l0 h0), fun w => ?_, ?_⟩
    · obtain ⟨m', hrun, _⟩ := run_bounds (P := P) ke h1 h2 (show cOpt none = some none from rfl) hbd ba.size (Nat.le_refl _) (Nat.le_refl _) false w
      simp only [Option.map_none] at hrun
      simp only [execOp, Instr.sliceAt, Instr.slice, hx', Sem.run_bind, run_underlying ht, Result.andThen_ok, Option.map_none, Option.isSome_none, Bool.false_eq_true, if_false, hrun, Sem.run_pure]
    · simp only [RV]
      refine ⟨_, rfl, ?_⟩
      rw [ByteArray.data_extract, Array.toList_extract]
      simp [List.drop_take]
  · simp at h

theorem ok_lenS (ke : EnvR φ e a) {o : Oper} {x : Operand} {ats : Array TypeId} (ho : o.op = .call { callee := .builtin .len, args := #[x], argTypes := ats }) {t : TypeId} (hat : ats[0]? = some t) {x' : Opd} (hx : cOpd x = some x')
    (ht : P.underlying t = some .string) {v : AV} (h : (POp.lenS x').run e = some v) : POk P φ a o v := by
  obtain ⟨dst, op, type, pos, after, guard⟩ := o
  subst ho
  simp only [POp.run] at h
  have hv := cOpd_RV ke hx
  split at h <;> simp at h
  rename_i s hs
  rw [hs] at hv
  obtain ⟨ba, hx', rfl⟩ := hv.str
  subst h
  refine ⟨.int .i64 ba.size, fun w => ?_, by simp [RV]⟩
  simp [execOp, resolve, invoke, builtin, Builtin.len_, hat, hx', run_underlying ht, goInt]

theorem ok_len (ke : EnvR φ e a) {o : Oper} {x : Operand} {ats : Array TypeId} (ho : o.op = .call { callee := .builtin .len, args := #[x], argTypes := ats }) {t el : TypeId} (hat : ats[0]? = some t) {x' : Opd} (hx : cOpd x = some x')
    (ht : P.underlying t = some (.slice el)) {v : AV} (h : (POp.len x').run e = some v) : POk P φ a o v := by
  obtain ⟨dst, op, type, pos, after, guard⟩ := o
  subst ho
  simp only [POp.run] at h
  have hv := cOpd_RV ke hx
  split at h <;> simp at h
  · rename_i hs
    rw [hs] at hv
    subst h
    refine ⟨.int .i64 0, fun w => ?_, by simp [RV]⟩
    simp [execOp, resolve, invoke, builtin, Builtin.len_, hat, hv.nils, run_underlying ht, goInt]
  · rename_i b p n c es ex hs
    rw [hs] at hv
    obtain ⟨l, z, cap', hl, hx', _⟩ := hv.sl
    subst h
    refine ⟨.int .i64 n, fun w => ?_, by simp [RV]⟩
    simp [execOp, resolve, invoke, builtin, Builtin.len_, hat, hx', run_underlying ht, goInt]

theorem ok_lenA {o : Oper} {x : Operand} {ats : Array TypeId} (ho : o.op = .call { callee := .builtin .len, args := #[x], argTypes := ats }) {t el : TypeId} {n : Nat} (hat : ats[0]? = some t)
    (ht : P.underlying t = some (.array n el)) : POk P φ a o (.int .i64 n) := by
  obtain ⟨dst, op, type, pos, after, guard⟩ := o
  subst ho
  refine ⟨.int .i64 n, fun w => ?_, by simp [RV]⟩
  simp [execOp, resolve, invoke, builtin, Builtin.len_, hat, run_underlying ht, goInt]

theorem ok_mm (ke : EnvR φ e a) {o : Oper} {mx : Bool} {args : Array Operand} {ats : Array TypeId} (ho : o.op = .call { callee := .builtin (if mx then .max else .min), args := args, argTypes := ats }) {x : Operand} {xs : List Operand}
    (ha : args.toList = x :: xs) {x' : Opd} {xs' : List Opd} (hx : cOpd x = some x') (hs : allSome cOpd xs = some xs') {v : AV} (h : (POp.mm mx x' xs').run e = some v) : POk P φ a o v := by
  obtain ⟨dst, op, type, pos, after, guard⟩ := o
  subst ho
  simp only [POp.run] at h
  have hr : RVs φ (xs'.map (·.ev e)) (xs.map a.eval) := by
    have := cOpds_RVs (xs := xs.toArray) ke (by simpa using hs)
    simpa using this
  obtain ⟨v', h1, h2⟩ := mmEv_ok (P := P) (cOpd_RV ke hx) hr h
  have hl : (args.map a.eval).toList = a.eval x :: xs.map a.eval := by rw [Array.toList_map, ha]; rfl
  cases mx with
  | true =>
    refine ⟨v', fun w => ?_, h2⟩
    simp only [if_true] at h1 ⊢
    simp only [execOp, resolve, invoke, builtin, Sem.run_bind, Sem.run_pure, Result.andThen_ok, Builtin.max_, hl, h1]
  | false =>
    refine ⟨v', fun w => ?_, h2⟩
    simp only [Bool.false_eq_true, if_false] at h1 ⊢
    simp only [execOp, resolve, invoke, builtin, Sem.run_bind, Sem.run_pure, Result.andThen_ok, Builtin.min_, hl, h1]

theorem zero?_RVs {t : TypeId} {zs : List AV} (h : zero? P t = some zs) : ∃ (v : Value), (∀ w, (zeroValue t).run P w = .ok v w) ∧ RVs φ zs v.cells.toList := by
  unfold zero? at h
  cases hi : P.info? t with
  | none => simp [hi] at h
  | some i =>
    cases hz : i.zero with
    | none => simp [hi, hz] at h
    | some v =>
      simp [hi, hz] at h
      refine ⟨v, fun w => by simp [zeroValue, run_typeInfo hi, hz], ?_⟩
      have := allSome_RVs (φ := φ) (g := fun v => v) h fun x y _ hf => cVal_RV φ 4 x y hf
      simpa using this

theorem ok_build_struct (ke : EnvR φ e a) {o : Oper} {t : TypeId} {ps : Array (Nat × Operand)} (ho : o.op = .build t ps) {zs : List AV} (hz : zero? P t = some zs) {fs : Array Field} (ht : P.underlying t = some (.struct fs))
    {places : List (Nat × Nat)} (hp : allSome (fun (f : Field) => match size? P f.type with | some s => some (f.offset, s) | none => none) fs.toList = some places)
    {qs : List (Nat × Nat × Opd)} (hq : cParts (fun i => places[i]?) ps.toList = some qs) {v : AV} (h : (POp.build zs qs).run e = some v) : POk P φ a o v := by
  obtain ⟨dst, op, type, pos, after, guard⟩ := o
  subst ho
  simp only [POp.run] at h
  split at h <;> simp at h
  rename_i cs hf
  subst h
  obtain ⟨z, hz1, hz2⟩ := zero?_RVs (φ := φ) hz
  have hplaces : ∀ w, (fs.mapM fun f => (do pure (f.offset, ← sizeOf f.type) : Sem (Nat × Nat))).run P w = .ok places.toArray w := by
    intro w
    rw [Array.mapM_eq_mapM_toList]
    have key : ∀ (l : List Field) (pl : List (Nat × Nat)), allSome (fun (f : Field) => match size? P f.type with | some s => some (f.offset, s) | none => none) l = some pl →
        (l.mapM fun f => (do pure (f.offset, ← sizeOf f.type) : Sem (Nat × Nat))).run P w = .ok pl w := by
      intro l
      induction l with
      | nil => intro pl h; simp [allSome] at h; subst h; simp
      | cons f l ih =>
        intro pl h
        simp only [allSome] at h
        cases hs : size? P f.type with
        | none => simp [hs] at h
        | some s =>
          simp only [hs] at h
          split at h
          · rename_i y ys h1 h2
            simp at h h1
            subst h; subst h1
            rw [List.mapM_cons]
            simp only [Sem.run_bind, run_sizeOf hs, Result.andThen_ok, Sem.run_pure, ih _ h2]
          · simp at h
    simp only [Sem.run_map, key _ _ hp, Result.andThen_ok]
  obtain ⟨arr', h1, h2⟩ := fill_ok ke (place' := fun i => places.toArray[i]?) hq (fun i r hr => by simpa using hr) hz2 hf
  refine ⟨.agg arr', fun w => ?_, by simp only [RV]; exact ⟨_, rfl, h2⟩⟩
  simp only [execOp, Instr.build, Sem.run_bind, hz1, Result.andThen_ok, Sem.run_pure, run_underlying ht, hplaces]
  have e1 : (ps.map fun (i, x) => (i, a.eval x)).toList = ps.toList.map fun p => (p.1, a.eval p.2) := by simp
  rw [e1]
  rw [h1]
  simp

theorem ok_build_arr (ke : EnvR φ e a) {o : Oper} {t el : TypeId} {ps : Array (Nat × Operand)} (ho : o.op = .build t ps) {zs : List AV} (hz : zero? P t = some zs) {n s : Nat} (ht : P.underlying t = some (.array n el)) (hs : size? P el = some s)
    {qs : List (Nat × Nat × Opd)} (hq : cParts (fun i => some (i * s, s)) ps.toList = some qs) {v : AV} (h : (POp.build zs qs).run e = some v) : POk P φ a o v := by
  obtain ⟨dst, op, type, pos, after, guard⟩ := o
  subst ho
  simp only [POp.run] at h
  split at h <;> simp at h
  rename_i cs hf
  subst h
  obtain ⟨z, hz1, hz2⟩ := zero?_RVs (φ := φ) hz
  obtain ⟨arr', h1, h2⟩ := fill_ok ke (place' := fun i => some (i * s, s)) hq (fun i r hr => hr) hz2 hf
  refine ⟨.agg arr', fun w => ?_, by simp only [RV]; exact ⟨_, rfl, h2⟩⟩
  simp only [execOp, Instr.build, Sem.run_bind, hz1, Result.andThen_ok, Sem.run_pure, run_underlying ht, run_sizeOf hs]
  have e1 : (ps.map fun (i, x) => (i, a.eval x)).toList = ps.toList.map fun p => (p.1, a.eval p.2) := by simp
  rw [e1]
  rw [h1]
  simp

end
end Go.Proofs.YtjldbkicpbchkaaGreat.Ev
