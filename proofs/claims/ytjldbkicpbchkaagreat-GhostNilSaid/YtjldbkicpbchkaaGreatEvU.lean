/-
  That the evaluator is right: each operation that makes memory.
-/
import Derived.Test.YtjldbkicpbchkaaGreatEvT
import Derived.IntWalk
namespace Go.Proofs.YtjldbkicpbchkaaGreat.Ev
open Go Go.RowKit

theorem setAll_length : ∀ (vs cs : List AV) (o : Nat), (setAll cs o vs).length = cs.length
  | [], _, _ => rfl
  | v :: vs, cs, o => by simp [setAll, setAll_length vs]

theorem fillEv_length (e : Env) : ∀ (ps : List (Nat × Nat × Opd)) (cs cs' : List AV), fillEv e cs ps = some cs' → cs'.length = cs.length
  | [], cs, cs', h => by simp [fillEv] at h; simp [h]
  | (off, size, x) :: ps, cs, cs', h => by
    simp only [fillEv] at h
    cases hb : (Nat.beq (x.ev e).cells.length size && Nat.ble (off + (x.ev e).cells.length) cs.length) with
    | false => simp [hb] at h
    | true => simp only [hb, cond_true] at h; rw [fillEv_length e ps _ _ h, setAll_length]

section
variable {P : Program} {φ : Phi} {e : Env} {a : Act} {w : World}

theorem nOp_ok (ke : EnvR φ e a) {o : Oper} {io : NOp} (hc : cOp P o.op = some (.n io)) {ob : AObj} {mk : Nat → AV} (h : io.run e = some (ob, mk)) : NOk P φ a w o ob mk := by
  obtain ⟨op, hop⟩ : ∃ op, o.op = op := ⟨_, rfl⟩
  rw [hop] at hc
  cases op with
  | alloc t =>
    simp only [cOp] at hc
    split at hc <;> (try simp at hc)
    rename_i zs hz
    subst hc
    simp [NOp.run] at h
    obtain ⟨rfl, rfl⟩ := h
    obtain ⟨z, hz1, hz2⟩ := zero?_RVs (φ := φ) hz
    obtain ⟨dst, op, type, pos, after, guard⟩ := o
    subst hop
    refine nok_row (v' := .pointer (some ⟨w.heap.size, 0, none⟩)) hz2 ?_ fun ψ b hle hb => ?_
    · simp [execOp, Instr.alloc, hz1, newVar, newRow]
    · simp only [RV]; exact ⟨_, hb, rfl⟩
  | box t x =>
    simp only [cOp] at hc
    split at hc <;> (try simp at hc)
    rename_i y hx
    subst hc
    simp [NOp.run] at h
    obtain ⟨rfl, rfl⟩ := h
    obtain ⟨dst, op, type, pos, after, guard⟩ := o
    subst hop
    refine nok_row (v' := .pointer (some ⟨w.heap.size, 0, none⟩)) (cOpd_RV ke hx).cells ?_ fun ψ b hle hb => ?_
    · simp [execOp, Instr.box, newVar, newRow]
    · simp only [RV]; exact ⟨_, hb, rfl⟩
  | buildSlice t n ps =>
    simp only [cOp] at hc
    split at hc <;> (try simp at hc)
    rename_i el ht
    split at hc <;> (try simp at hc)
    rename_i s zs hs hz
    cases hb : (Nat.ble (n * s) 16777216 && Nat.beq zs.length s) with
    | false => rw [hb] at hc; simp at hc
    | true =>
      rw [hb] at hc
      simp only [cond_true] at hc
      split at hc <;> (try simp at hc)
      rename_i qs hq
      subst hc
      simp only [NOp.run] at h
      split at h <;> (try simp at h)
      rename_i cs hf
      obtain ⟨rfl, rfl⟩ := h
      simp only [Bool.and_eq_true] at hb
      have hb1 := Nat.le_of_ble_eq_true hb.1
      have hb2 := Nat.eq_of_beq_eq_true hb.2
      obtain ⟨z, hz1, hz2⟩ := zero?_RVs (φ := φ) hz
      have hzl := hz2.length
      simp at hzl
      -- the zero cells, as the model lays them
      have hinit : RVs φ (repCells zs n) ((Array.range (n * s)).map ((if n * s = 0 then #[] else z.cells)[· % (if n * s = 0 then #[] else z.cells).size]!)).toList := by
        by_cases h0 : n * s = 0
        · have hl0 : (repCells zs n) = [] := List.eq_nil_of_length_eq_zero (by rw [repCells_length, hb2, h0])
          rw [hl0, h0]
          simp [RVs]
        · simp only [h0, if_false]
          have := RVs_rep hz2 n
          rw [show n * s = n * z.cells.size from by rw [hzl, hb2]]
          exact this
      obtain ⟨arr', h1, h2⟩ := fill_ok ke (place' := fun i => some (i * s, s)) hq (fun i r hr => hr) hinit hf
      have hlen := fillEv_length e _ _ _ hf
      have hl2 := h2.length
      simp [repCells_length, hb2] at hlen hl2
      obtain ⟨dst, op, type, pos, after, guard⟩ := o
      subst hop
      refine nok_row (v' := .slice (some ⟨w.heap.size, 0, none⟩) n n) h2 ?_ fun ψ b hle hbb => ?_
      · simp only [execOp, Instr.buildSlice, Sem.run_bind, run_underlying ht, Result.andThen_ok, run_sizeOf hs]
        rw [if_neg (by omega)]
        have e1 : (ps.map fun (i, x) => (i, a.eval x)).toList = ps.toList.map fun p => (p.1, a.eval p.2) := by simp
        by_cases h0 : n * s = 0
        · simp only [h0, if_true] at h1
          simp only [h0, if_true, Sem.run_bind, Sem.run_pure, Result.andThen_ok]
          rw [e1, h1]
          simp [newRow]
        · simp only [h0, if_false] at h1
          simp only [h0, if_false, Sem.run_bind, hz1, Sem.run_pure, Result.andThen_ok]
          rw [e1, h1]
          simp [newRow]
      · simp only [RV]
        exact ⟨_, _, n, hbb, rfl, .inl rfl, Nat.le_refl _, fun _ => rfl, by show 0 + n * s ≤ arr'.size; omega, Nat.le_refl _⟩
  | convert s d x =>
    simp only [cOp] at hc
    split at hc <;> (try simp at hc)
    · rename_i x' el hx hs hd
      split at hc <;> (try simp at hc)
      rename_i hel
      subst hc
      simp only [NOp.run] at h
      split at h <;> (try simp at h)
      rename_i str hstr
      obtain ⟨rfl, rfl⟩ := h
      have hp := cOpd_RV ke hx
      rw [hstr] at hp
      obtain ⟨ba, hx', rfl⟩ := hp.str
      obtain ⟨dst, op, type, pos, after, guard⟩ := o
      subst hop
      have hge := grownCap_ge w ba.size 0 el
      have hsz : (Lib.bytesCells w el ba).size = grownCap w ba.size 0 el := by simp [Lib.bytesCells]; omega
      refine ⟨rfl, by simp, .slice (some ⟨w.heap.size, 0, none⟩) ba.size (grownCap w ba.size 0 el), Lib.bytesWorld w el ba, ⟨w.heap.size, 0, grownCap w ba.size 0 el⟩, ?_, ?_, rfl, fun ψ b B hle hb hB => ⟨?_, ?_⟩⟩
      · simp only [execOp, hx', Sem.run_bind, Lib.run_convert_string_bytes w s d el ba hs hd hel, Result.andThen_ok, Sem.run_pure]
      · exact ⟨⟨rfl, rfl, rfl, by rw [Lib.bytesWorld_size]; omega, fun k hk => Lib.bytesWorld_at_old w el ba k hk⟩, Lib.bytesWorld_size w el ba⟩
      · refine ⟨Lib.bytesCells w el ba, _, _, Lib.bytesWorld_at_new w el ba, by simp [hsz], by simpa using hge, fun i c hc => ?_, fun _ => ⟨hB, fun i hi => ?_⟩, fun _ => ⟨hB, fun i _ hi => ?_⟩⟩
        · rw [List.getElem?_map] at hc
          cases hc2 : ba.data.toList[i]? with
          | none => simp [hc2] at hc
          | some u =>
            simp [hc2] at hc
            subst hc
            have hi : i < ba.size := by
              have := (List.getElem?_eq_some_iff.1 hc2).1
              simpa using this
            refine ⟨.int .u8 u.toNat, ?_, by simp only [RV]⟩
            have hu : ba.data[i]? = some u := by simpa using hc2
            show (Lib.bytesCells w el ba)[0 + i]? = _
            rw [Nat.zero_add]
            unfold Lib.bytesCells
            rw [Array.getElem?_append_left (by simpa using hi)]
            simp [hu]
        · show ¬ ((Lib.bytesCells w el ba).size ≤ 0 + i ∧ 0 + i < (Lib.bytesCells w el ba).size + 1)
          simp at hi
          rw [hsz]; omega
        · show ¬ ((Lib.bytesCells w el ba).size ≤ 0 + i ∧ 0 + i < (Lib.bytesCells w el ba).size + 1)
          have hi' : i < grownCap w ba.size 0 el := hi
          rw [hsz]; omega
      · simp only [RV]
        refine ⟨_, _, grownCap w ba.size 0 el, hb, by simp, .inl rfl, by simpa using hge, by simp, ?_, Nat.le_refl _⟩
        show 0 + grownCap w ba.size 0 el * 1 ≤ grownCap w ba.size 0 el
        omega
    · split at hc <;> (try simp at hc)
  | makeMap t r =>
    cases r with
    | some x => simp [cOp] at hc
    | none =>
      simp [cOp] at hc
      subst hc
      simp [NOp.run] at h
      obtain ⟨rfl, rfl⟩ := h
      obtain ⟨dst, op, type, pos, after, guard⟩ := o
      subst hop
      refine ⟨rfl, by simp, .map (some w.heap.size), w.alloc (.map #[] 0), ⟨w.heap.size, 0, 0⟩, ?_, OneNew.alloc w _, rfl, fun ψ b B hle hb hB => ⟨⟨hB, #[], 0, ?_, by simp [RVs], by simp [RVs]⟩, by simp only [RV]; exact ⟨_, hb, rfl⟩⟩⟩
      · simp [execOp, Instr.makeMap]
      · show (w.heap.push _)[w.heap.size]? = _
        simp
  | makeSlice t l c =>
    simp only [cOp] at hc
    split at hc <;> (try simp at hc)
    rename_i el l' c' ht hl hcc
    split at hc <;> (try simp at hc)
    rename_i i zs hi hz
    cases hb : (Nat.beq zs.length i.size) with
    | false => rw [hb] at hc; simp at hc
    | true =>
      rw [hb] at hc
      simp at hc
      subst hc
      have hb2 := Nat.eq_of_beq_eq_true hb
      simp only [NOp.run] at h
      split at h
      · rename_i ln cp hln hcp
        cases hq : (Nat.ble ln cp && Nat.ble (cp * i.bytes) 140737488355328 && Nat.ble cp 140737488355328) with
        | false => simp [hq] at h
        | true =>
          simp [hq] at h
          obtain ⟨rfl, rfl⟩ := h
          simp only [Bool.and_eq_true] at hq
          have q1 := Nat.le_of_ble_eq_true hq.1.1
          have q2 := Nat.le_of_ble_eq_true hq.1.2
          have q3 := Nat.le_of_ble_eq_true hq.2
          obtain ⟨z, hz1, hz2⟩ := zero?_RVs (φ := φ) hz
          have hzl := hz2.length
          simp at hzl
          obtain ⟨kl, el'⟩ := nat?_RV (cOpd_RV ke hl) hln
          obtain ⟨kc, ec'⟩ := nat?_RV (cOpd_RV ke hcc) hcp
          have hwr : ∀ n : Nat, n ≤ 140737488355328 → IntKind.i64.wrap (n : Int) = n := by
            intro n hn
            exact IntWalk.i64_in _ (by omega)
          have hinit : RVs φ (repCells zs cp) ((Array.range (cp * i.size)).map ((if cp * i.size = 0 then #[] else z.cells)[· % (if cp * i.size = 0 then #[] else z.cells).size]!)).toList := by
            by_cases h0 : cp * i.size = 0
            · have hl0 : (repCells zs cp) = [] := List.eq_nil_of_length_eq_zero (by rw [repCells_length, hb2, h0])
              rw [hl0, h0]
              simp [RVs]
            · simp only [h0, if_false]
              have := RVs_rep hz2 cp
              rw [show cp * i.size = cp * z.cells.size from by rw [hzl, hb2]]
              exact this
          obtain ⟨dst, op, type, pos, after, guard⟩ := o
          subst hop
          have hbl : ¬ ((i.bytes : Int) * (cp : Int) > 2 ^ 48) := by
            have : (i.bytes : Int) * (cp : Int) = ((cp * i.bytes : Nat) : Int) := by rw [Nat.mul_comm]; simp
            rw [this]; omega
          refine nok_row (v' := .slice (some ⟨w.heap.size, 0, none⟩) ln cp) hinit ?_ fun ψ b hle hbb => ?_
          · simp only [execOp, Instr.makeSlice, Sem.run_bind, run_underlying ht, Result.andThen_ok, el', ec', asInt, asIntOf, Sem.run_pure, run_typeInfo hi, hwr ln (by omega), hwr cp q3]
            rw [if_neg]
            · simp only [Sem.run_bind, Sem.run_pure, Result.andThen_ok, run_askRoom, Int.toNat_natCast, run_sizeOf (show size? P el = some i.size by simp [size?, hi])]
              by_cases h0 : cp * i.size = 0
              · simp [h0, newRow]
              · simp [h0, hz1, newRow]
            · simp only [Bool.or_eq_true, decide_eq_true_eq, not_or]
              exact ⟨⟨⟨by omega, hbl⟩, by omega⟩, by omega⟩
          · simp only [RV]
            refine ⟨_, _, cp, hbb, rfl, .inl rfl, Nat.le_refl _, fun _ => rfl, ?_, q1⟩
            show 0 + cp * i.size ≤ _
            simp
      · simp at h
  | call c =>
    obtain ⟨callee, args, ats⟩ := c
    cases callee with
    | value f => cases f <;> simp only [cOp] at hc <;> (split at hc <;> (try simp at hc))
    | invoke r m => simp only [cOp] at hc; split at hc <;> (try simp at hc)
    | builtin b =>
      simp only [cOp] at hc
      unfold cBuiltin at hc
      split at hc
      · split at hc <;> (try simp at hc)
        split at hc <;> (try simp at hc)
      · split at hc <;> (try simp at hc)
        cases hb : isIntB P _ <;> rw [hb] at hc <;> simp at hc
        split at hc <;> (try simp at hc)
        split at hc <;> (try simp at hc)
      · split at hc <;> (try simp at hc)
        split at hc <;> (try simp at hc)
        split at hc <;> (try simp at hc)
      · split at hc <;> (try simp at hc)
      · split at hc <;> (try simp at hc)
      · split at hc <;> (try simp at hc)
      · simp at hc
  | slice t x lo hi mx =>
    simp only [cOp] at hc
    split at hc <;> (try simp at hc)
    · split at hc <;> (try simp at hc)
    · split at hc <;> (try simp at hc)
  | load t x => simp only [cOp] at hc; split at hc <;> (try simp at hc)
  | move x => simp only [cOp] at hc; split at hc <;> (try simp at hc)
  | assign x => simp only [cOp] at hc; split at hc <;> (try simp at hc)
  | pick c x y => simp only [cOp] at hc; split at hc <;> (try simp at hc)
  | nilCheck x => simp only [cOp] at hc; split at hc <;> (try simp at hc)
  | binOp op t x y u =>
    simp only [cOp] at hc
    cases hg : (P.eqGuardType P.depth t && !(isIfaceB P t)) <;> rw [hg] at hc <;> simp at hc
    split at hc <;> (try simp at hc)
  | unOp op t x => simp only [cOp] at hc; split at hc <;> (try simp at hc)
  | makeInterface t x => simp only [cOp] at hc; split at hc <;> (try simp at hc)
  | makeFunc f xs ys => simp only [cOp] at hc; split at hc <;> (try simp at hc)
  | build t ps =>
    simp only [cOp] at hc
    split at hc <;> (try simp at hc)
    · split at hc <;> (try simp at hc)
      split at hc <;> (try simp at hc)
    · split at hc <;> (try simp at hc)
      split at hc <;> (try simp at hc)
  | fieldAddr t x i =>
    simp only [cOp] at hc
    split at hc <;> (try simp at hc)
    split at hc <;> (try simp at hc)
    split at hc <;> (try simp at hc)
  | field t x i =>
    simp only [cOp] at hc
    split at hc <;> (try simp at hc)
    split at hc <;> (try simp at hc)
    split at hc <;> (try simp at hc)
  | indexAddr t x i =>
    simp only [cOp] at hc
    split at hc <;> (try simp at hc)
    · split at hc <;> (try simp at hc)
    · split at hc <;> (try simp at hc)
  | index t x i =>
    simp only [cOp] at hc
    split at hc <;> (try simp at hc)
    split at hc <;> (try simp at hc)
  | extract x i => simp only [cOp] at hc; split at hc <;> (try simp at hc)
  | store t x y => simp only [cOp] at hc; split at hc <;> (try simp at hc)
  | lookup t m k ok => simp only [cOp] at hc; split at hc <;> (try simp at hc)
  | mapUpdate t m k x => simp only [cOp] at hc; split at hc <;> (try simp at hc)
  | _ => simp [cOp] at hc
end

end Go.Proofs.YtjldbkicpbchkaaGreat.Ev
