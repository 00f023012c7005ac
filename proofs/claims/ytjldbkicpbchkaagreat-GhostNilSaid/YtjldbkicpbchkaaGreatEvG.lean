/-
  That the evaluator is right: two operands, any of them.
-/
import Derived.Test.YtjldbkicpbchkaaGreatEvF
namespace Go.Proofs.YtjldbkicpbchkaaGreat.Ev
open Go Go.RowKit

theorem eqOp_ok {P : Program} {φ : Phi} {t : TypeId} {k : EK} (hk : EKok P t k) {x y : AV} {x' y' : Value} (hx : RV φ x x') (hy : RV φ y y') {b : Bool}
    (h : eqOp k x y = some b) : ∀ w, (Op.equal t x' y').run P w = .ok b w := by
  intro w
  obtain ⟨D, hD, hDe⟩ : ∃ D, 12 ≤ D ∧ Op.maxDepth = D + 1 := ⟨9999, by omega, rfl⟩
  rw [Op.equal, hDe]
  clear hDe
  unfold eqOp at h
  split at h
  all_goals try (simp only [EKok] at hk)
  · simp at h; rw [hx.bool, hy.bool]; simp [Op.equalIn, run_underlying hk, h]
  · simp at h; obtain ⟨e, n, hu, hs⟩ := hk; rw [hx.nilp, hy.nilp]; simp [Op.equalIn, run_underlying hu, ← h]
  · simp at h; obtain ⟨e, n, hu, hs⟩ := hk; rw [hx.nilp]; obtain ⟨l, hl, rfl⟩ := hy.ptr; simp [Op.equalIn, run_underlying hu, ← h]
  · simp at h; obtain ⟨e, n, hu, hs⟩ := hk; rw [hy.nilp]; obtain ⟨l, hl, rfl⟩ := hx.ptr; simp [Op.equalIn, run_underlying hu, ← h]
  · rename_i b1 o1 b2 o2
    obtain ⟨e, n, hu, hs⟩ := hk
    cases hb : Nat.beq b1 b2 with
    | false => simp [hb] at h
    | true =>
      simp [hb] at h
      obtain rfl := Nat.eq_of_beq_eq_true hb
      obtain ⟨l, hl, rfl⟩ := hx.ptr
      obtain ⟨l', hl', rfl⟩ := hy.ptr
      rw [hl] at hl'
      simp at hl'
      subst hl'
      simp [Op.equalIn, run_underlying hu, run_sizeOf hs, sameAddr]
      rw [← h]
      cases hq : Nat.beq o1 o2 with
      | true => simp [Nat.eq_of_beq_eq_true hq]
      | false =>
        have : o1 ≠ o2 := Nat.ne_of_beq_eq_false hq
        simp [this]
  · simp at h; obtain ⟨e, hu⟩ := hk; rw [hx.nils, hy.nils]; simp [Op.equalIn, run_underlying hu, ← h]
  · simp at h; obtain ⟨e, hu⟩ := hk; rw [hx.nils]; obtain ⟨l, z, c, hl, rfl, _⟩ := hy.sl; simp [Op.equalIn, run_underlying hu, ← h]
  · simp at h; obtain ⟨e, hu⟩ := hk; rw [hy.nils]; obtain ⟨l, z, c, hl, rfl, _⟩ := hx.sl; simp [Op.equalIn, run_underlying hu, ← h]
  · simp at h; obtain ⟨e, f, hu⟩ := hk; rw [hx.nilm, hy.nilm]; simp [Op.equalIn, run_underlying hu, ← h]
  · simp at h; obtain ⟨e, f, hu⟩ := hk; rw [hx.nilm]; obtain ⟨l, hl, rfl⟩ := hy.map; simp [Op.equalIn, run_underlying hu, ← h]
  · simp at h; obtain ⟨e, f, hu⟩ := hk; rw [hy.nilm]; obtain ⟨l, hl, rfl⟩ := hx.map; simp [Op.equalIn, run_underlying hu, ← h]
  · simp at h; obtain ⟨e, f, g, hu⟩ := hk; rw [hx.nilf, hy.nilf]; simp [Op.equalIn, run_underlying hu, ← h]
  · simp at h; obtain ⟨e, f, g, hu⟩ := hk; rw [hx.nilf]; obtain ⟨xs, ys, rfl, _⟩ := hy.fn; simp [Op.equalIn, run_underlying hu, ← h]
  · simp at h; obtain ⟨e, f, g, hu⟩ := hk; rw [hy.nilf]; obtain ⟨xs, ys, rfl, _⟩ := hx.fn; simp [Op.equalIn, run_underlying hu, ← h]
  · simp at h; obtain ⟨ms, hu⟩ := hk; rw [hx.nili, hy.nili]; simp [Op.equalIn, run_underlying hu, ← h]
  · simp at h; obtain ⟨ms, hu⟩ := hk; rw [hx.nili]; obtain ⟨z, rfl, _⟩ := hy.ifc; simp [Op.equalIn, run_underlying hu, ← h]
  · simp at h; obtain ⟨ms, hu⟩ := hk; rw [hy.nili]; obtain ⟨z, rfl, _⟩ := hx.ifc; simp [Op.equalIn, run_underlying hu, ← h]
  · obtain ⟨ha, d, hd, hp⟩ := hk
    obtain ⟨ax, rfl, hx2⟩ := hx.agg
    obtain ⟨ay, rfl, hy2⟩ := hy.agg
    exact (plan_ok d (D + 1) t _ (by omega) hp (.agg ax) (.agg ay) _ _ b (by simp only [CellsAre, ha, if_true]; exact ⟨ax, rfl, hx2⟩) (by simp only [CellsAre, ha, if_true]; exact ⟨ay, rfl, hy2⟩) h).1 w
  · simp at h

/-- No two values that may be both nil interfaces, or structs with interfaces in them. -/
def GuardOk (P : Program) (op : BinOp) (t : TypeId) (k : EK) (x y : Operand) : Prop :=
  (P.eqGuardType P.depth t = false ∨ ∃ ms, P.underlying t = some (.interface ms)) ∧ (∀ ms, P.underlying t = some (.interface ms) → ∀ ks, k ≠ .cells ks) ∧
  (k = .iface → isConstB x = true ∨ isConstB y = true)

theorem eqGuard_ok {P : Program} {φ : Phi} {op : BinOp} {t : TypeId} {k : EK} {x y : Operand} (hg : GuardOk P op t k x y) {u v : AV} {u' v' : Value} (hu : RV φ u u') (hv : RV φ v v') {r : AV}
    (h : binEv op k u v = some r) : ∀ w, (eqGuard op t x y u' v').run P w = .ok () w := by
  intro w
  by_cases ho : op = .eql ∨ op = .neq
  · have hnn : ∀ b, eqOp k u v = some b → (u = .nili → v = .nili → isConstB x = true ∨ isConstB y = true) := by
      intro b hb h1 h2
      subst h1; subst h2
      cases k <;> simp [eqOp] at hb
      exact hg.2.2 rfl
    have hagg : ∀ b xs ys, eqOp k u v = some b → u = .agg xs → v = .agg ys → ∃ ks, k = .cells ks := by
      intro b xs ys hb h1 h2
      subst h1; subst h2
      cases k <;> simp [eqOp] at hb
      exact ⟨_, rfl⟩
    have heq : (∀ s, u ≠ .str s) → (∀ a b, u ≠ .int a b) → ∃ b, eqOp k u v = some b := by
      intro h1 h2
      unfold binEv at h
      split at h
      · exact absurd rfl (h2 _ _)
      · exact absurd rfl (h1 _)
      · rcases ho with rfl | rfl <;> simp at h <;> (cases hq : eqOp k u v with | none => simp [hq] at h | some b => exact ⟨b, rfl⟩)
    cases u with
    | nili =>
      rw [hu.nili]
      obtain ⟨b, hb⟩ := heq (by simp) (by simp)
      cases v with
      | nili =>
        rw [hv.nili]
        rcases hnn b hb rfl rfl with hc | hc
        · cases x <;> simp [isConstB] at hc; rcases ho with rfl | rfl <;> simp [eqGuard]
        · cases y <;> simp [isConstB] at hc; rcases ho with rfl | rfl <;> cases x <;> simp [eqGuard]
      | ifc d z => obtain ⟨z', rfl, _⟩ := hv.ifc; rcases ho with rfl | rfl <;> simp [eqGuard]
      | _ => cases k <;> simp [eqOp] at hb
    | agg xs =>
      obtain ⟨b, hb⟩ := heq (by simp) (by simp)
      cases v with
      | agg ys =>
        obtain ⟨ks, hks⟩ := hagg b xs ys hb rfl rfl
        obtain ⟨ax, rfl, _⟩ := hu.agg
        obtain ⟨ay, rfl, _⟩ := hv.agg
        rcases hg.1 with hg1 | ⟨ms, hms⟩
        · rcases ho with rfl | rfl <;> simp [eqGuard, hg1]
        · exact absurd hks (hg.2.1 ms hms ks)
      | _ => cases k <;> simp [eqOp] at hb
    | bool b => rw [hu.bool]; rcases ho with rfl | rfl <;> simp [eqGuard]
    | int a b => rw [hu.int]; rcases ho with rfl | rfl <;> simp [eqGuard]
    | str s => obtain ⟨ba, rfl, _⟩ := hu.str; rcases ho with rfl | rfl <;> simp [eqGuard]
    | nilp => rw [hu.nilp]; rcases ho with rfl | rfl <;> simp [eqGuard]
    | ptr b o => obtain ⟨l, _, rfl⟩ := hu.ptr; rcases ho with rfl | rfl <;> simp [eqGuard]
    | nils => rw [hu.nils]; rcases ho with rfl | rfl <;> simp [eqGuard]
    | sl b o a c d e => obtain ⟨l, z, q, _, rfl, _⟩ := hu.sl; rcases ho with rfl | rfl <;> simp [eqGuard]
    | nilm => rw [hu.nilm]; rcases ho with rfl | rfl <;> simp [eqGuard]
    | map b => obtain ⟨l, _, rfl⟩ := hu.map; rcases ho with rfl | rfl <;> simp [eqGuard]
    | nilf => rw [hu.nilf]; rcases ho with rfl | rfl <;> simp [eqGuard]
    | fn f a c => obtain ⟨xs, ys, rfl, _⟩ := hu.fn; rcases ho with rfl | rfl <;> simp [eqGuard]
    | ifc d z => obtain ⟨z', rfl, _⟩ := hu.ifc; rcases ho with rfl | rfl <;> simp [eqGuard]
    | tup vs => obtain ⟨xs, rfl, _⟩ := hu.tup; rcases ho with rfl | rfl <;> simp [eqGuard]
  · cases op <;> simp at ho <;> rfl

theorem binEv_ok {P : Program} {φ : Phi} {op : BinOp} {t : TypeId} {k : EK} (hk : ∀ b u v, eqOp k u v = some b → EKok P t k) {u v : AV} {u' v' : Value} (hu : RV φ u u') (hv : RV φ v v') {r : AV}
    (h : binEv op k u v = some r) : ∃ r', (∀ w, (binOp op t u' v').run P w = .ok r' w) ∧ RV φ r r' := by
  have h0 := h
  unfold binEv at h
  split at h
  · rename_i i a j b
    rw [hu.int, hv.int]
    split at h
    · exact run_shiftOp φ (.inl rfl) h
    · exact run_shiftOp φ (.inr rfl) h
    · rename_i h1 h2
      cases hij : decide (i = j) with
      | false => simp [hij] at h
      | true =>
        simp only [hij, cond_true] at h
        have : i = j := by simpa using hij
        subst this
        exact run_intOp φ (fun e => h1 e) (fun e => h2 e) h
  · exact run_strOp hu hv h
  · rename_i h1 h2
    have key : ∀ b, eqOp k u v = some b → (binOp .eql t u' v' = (do pure (.bool (← Op.equal t u' v')))) ∧ (binOp .neq t u' v' = (do pure (.bool (!(← Op.equal t u' v'))))) := by
      intro b hb
      cases u <;> cases v <;> (try (cases k <;> simp [eqOp] at hb; done)) <;>
        (first
          | (exact absurd rfl (h1 _ _ _ _ rfl))
          | (exact absurd rfl (h2 _ _ rfl))
          | skip)
      all_goals first
        | (rw [hu.bool, hv.bool]; exact ⟨rfl, rfl⟩)
        | (rw [hu.nilp, hv.nilp]; exact ⟨rfl, rfl⟩)
        | (rw [hu.nilp]; obtain ⟨l, _, rfl⟩ := hv.ptr; exact ⟨rfl, rfl⟩)
        | (rw [hv.nilp]; obtain ⟨l, _, rfl⟩ := hu.ptr; exact ⟨rfl, rfl⟩)
        | (obtain ⟨l, _, rfl⟩ := hu.ptr; obtain ⟨l', _, rfl⟩ := hv.ptr; exact ⟨rfl, rfl⟩)
        | (rw [hu.nils, hv.nils]; exact ⟨rfl, rfl⟩)
        | (rw [hu.nils]; obtain ⟨l, _, _, _, rfl, _⟩ := hv.sl; exact ⟨rfl, rfl⟩)
        | (rw [hv.nils]; obtain ⟨l, _, _, _, rfl, _⟩ := hu.sl; exact ⟨rfl, rfl⟩)
        | (rw [hu.nilm, hv.nilm]; exact ⟨rfl, rfl⟩)
        | (rw [hu.nilm]; obtain ⟨l, _, rfl⟩ := hv.map; exact ⟨rfl, rfl⟩)
        | (rw [hv.nilm]; obtain ⟨l, _, rfl⟩ := hu.map; exact ⟨rfl, rfl⟩)
        | (rw [hu.nilf, hv.nilf]; exact ⟨rfl, rfl⟩)
        | (rw [hu.nilf]; obtain ⟨_, _, rfl, _⟩ := hv.fn; exact ⟨rfl, rfl⟩)
        | (rw [hv.nilf]; obtain ⟨_, _, rfl, _⟩ := hu.fn; exact ⟨rfl, rfl⟩)
        | (rw [hu.nili, hv.nili]; exact ⟨rfl, rfl⟩)
        | (rw [hu.nili]; obtain ⟨_, rfl, _⟩ := hv.ifc; exact ⟨rfl, rfl⟩)
        | (rw [hv.nili]; obtain ⟨_, rfl, _⟩ := hu.ifc; exact ⟨rfl, rfl⟩)
        | (obtain ⟨_, rfl, _⟩ := hu.agg; obtain ⟨_, rfl, _⟩ := hv.agg; exact ⟨rfl, rfl⟩)
    split at h
    · cases hb : eqOp k u v with
      | none => simp [hb] at h
      | some b =>
        simp [hb] at h
        subst h
        have he := eqOp_ok (hk b u v hb) hu hv hb
        exact ⟨.bool b, fun w => by rw [(key b hb).1]; simp [he w], by simp [RV]⟩
    · cases hb : eqOp k u v with
      | none => simp [hb] at h
      | some b =>
        simp [hb] at h
        subst h
        have he := eqOp_ok (hk b u v hb) hu hv hb
        exact ⟨.bool (!b), fun w => by rw [(key b hb).2]; simp [he w], by simp [RV]⟩
    · simp at h

end Go.Proofs.YtjldbkicpbchkaaGreat.Ev
