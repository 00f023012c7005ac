/-
  That the evaluator is right: two operands (arithmetic, comparisons), one operand.
-/
import Derived.Test.YtjldbkicpbchkaaGreatEvD
import Derived.Laws.Strings
namespace Go.Proofs.YtjldbkicpbchkaaGreat.Ev
open Go Go.RowKit

theorem run_intOp {P : Program} {op : BinOp} {k : IntKind} {a b : Int} {t : TypeId} {v : AV} (φ : Phi) (hs : op ≠ .shl) (hr : op ≠ .shr) (h : intOp op k a b = some v) :
    ∃ v', (∀ w, (binOp op t (.int k a) (.int k b)).run P w = .ok v' w) ∧ RV φ v v' := by
  cases op <;> simp [intOp] at h hs hr <;> (try subst h) <;> simp [binOp, Op.intArith, Op.intDiv, Op.intBits, Op.intCmp, RV]
  · cases hb : (b == 0) <;> simp [hb] at h
    subst h
    have : b ≠ 0 := by simpa using hb
    simp [RV, this]
  · cases hb : (b == 0) <;> simp [hb] at h
    subst h
    have : b ≠ 0 := by simpa using hb
    simp [RV, this]

theorem run_shiftOp {P : Program} {op : BinOp} {k j : IntKind} {a b : Int} {t : TypeId} {v : AV} (φ : Phi) (ho : op = .shl ∨ op = .shr) (h : shiftOp op k a b = some v) :
    ∃ v', (∀ w, (binOp op t (.int k a) (.int j b)).run P w = .ok v' w) ∧ RV φ v v' := by
  cases hb : decide (b < 0) with
  | true => simp [shiftOp, hb] at h
  | false =>
    have hb' : ¬ b < 0 := by simpa using hb
    rcases ho with rfl | rfl <;> simp [shiftOp, hb] at h <;> subst h <;> simp [binOp, Op.shift, hb', RV]

theorem toList_data (b : ByteArray) : b.toList = b.data.toList := ByteArray.toList_eq b

theorem run_strOp {P : Program} {op : BinOp} {a b : List UInt8} {t : TypeId} {v : AV} {x y : Value} {φ : Phi} (hx : RV φ (.str a) x) (hy : RV φ (.str b) y)
    (h : strOp op a b = some v) : ∃ v', (∀ w, (binOp op t x y).run P w = .ok v' w) ∧ RV φ v v' := by
  obtain ⟨p, rfl, rfl⟩ := hx.str
  obtain ⟨q, rfl, rfl⟩ := hy.str
  cases op <;> simp [strOp] at h <;> (try subst h) <;> simp [binOp, Op.stringOp, RV, toList_data]
  cases hb : (p.size + q.size).ble 4611686018427387904 with
  | false => simp [hb] at h
  | true =>
    simp [hb] at h
    subst h
    have hb' := Nat.le_of_ble_eq_true hb
    refine ⟨.string (p ++ q), fun w => ?_, ?_⟩
    · rw [if_neg (by omega)]
    · simp only [RV]; exact ⟨p ++ q, rfl, by simp⟩

/-- What the translation has seen of the type of two values that are held against each other. -/
def EKok (P : Program) (t : TypeId) : EK → Prop
  | .no => False
  | .bool => P.underlying t = some .bool
  | .ptr => ∃ e n, P.underlying t = some (.pointer e) ∧ size? P e = some (n + 1)
  | .slice => ∃ e, P.underlying t = some (.slice e)
  | .map => ∃ k e, P.underlying t = some (.map k e)
  | .func => ∃ a b c, P.underlying t = some (.func a b c)
  | .iface => ∃ ms, P.underlying t = some (.interface ms)
  | .cells ks => isAggB P t = true ∧ ∃ d, d ≤ 12 ∧ planOf P d t = some ks

theorem size?_eq {P : Program} {t : TypeId} {n : Nat} (h : size? P t = some n) : ∃ i, P.info? t = some i ∧ i.size = n := by
  unfold size? at h
  cases hi : P.info? t with
  | none => simp [hi] at h
  | some i => simp [hi] at h; exact ⟨i, rfl, h⟩

theorem run_sizeOf {P : Program} {t : TypeId} {n : Nat} (h : size? P t = some n) (w : World) : (sizeOf t).run P w = .ok n w := by
  obtain ⟨i, hi, rfl⟩ := size?_eq h
  simp [sizeOf, typeInfo, hi]

theorem run_typeInfo {P : Program} {t : TypeId} {i : TypeInfo} (h : P.info? t = some i) (w : World) : (typeInfo t).run P w = .ok i w := by
  simp [typeInfo, h]

/-- A read of a part of a struct's or an array's cells. -/
theorem run_part {P : Program} {t : TypeId} {k : Option Nat} (hk : loadKind P t = some k) (cs : Array Value) (off : Nat) (w : World) :
    (part t cs off).run P w = match k with
      | some n => .ok (.agg (cs.extract off (off + n))) w
      | none => match cs[off]? with
        | some v => .ok v w
        | none => .halt (.stuck "part: no such cell") w := by
  unfold loadKind at hk
  cases hu : P.underlying t with
  | none => simp [hu] at hk
  | some d =>
    simp only [hu] at hk
    cases ha : isAggB P t with
    | true =>
      simp only [ha, cond_true] at hk
      cases hs : size? P t with
      | none => simp [hs] at hk
      | some n =>
        simp only [hs, Option.some.injEq] at hk
        subst hk
        have : (isAgg t).run P w = .ok true w := by
          simp only [isAgg, Sem.run_bind, run_underlying hu, Result.andThen_ok]
          unfold isAggB at ha
          rw [hu] at ha
          cases d <;> simp at ha <;> rfl
        simp [part, this, run_sizeOf hs]
    | false =>
      simp only [ha, cond_false, Option.some.injEq] at hk
      subst hk
      have : (isAgg t).run P w = .ok false w := by
        simp only [isAgg, Sem.run_bind, run_underlying hu, Result.andThen_ok]
        unfold isAggB at ha
        rw [hu] at ha
        cases d <;> simp at ha <;> rfl
      simp only [part, Sem.run_bind, this, Result.andThen_ok, Bool.false_eq_true, if_false]
      cases cs[off]? <;> simp

theorem unEv_ok {P : Program} {op : UnOp} {x v : AV} {x' : Value} {φ : Phi} (hx : RV φ x x') (h : unEv op x = some v) :
    ∃ v', (∀ w, (Op.unary op x').run P w = .ok v' w) ∧ RV φ v v' := by
  unfold unEv at h
  split at h
  · simp at h; subst h; rw [hx.int]; simp [Op.unary, Op.intArith, RV]
  · rw [hx.int]
    simp [intOp] at h
    subst h
    simp [Op.unary, Op.intBits, RV]
  · simp at h; subst h; rw [hx.bool]; simp [Op.unary, RV]
  · simp at h

end Go.Proofs.YtjldbkicpbchkaaGreat.Ev
