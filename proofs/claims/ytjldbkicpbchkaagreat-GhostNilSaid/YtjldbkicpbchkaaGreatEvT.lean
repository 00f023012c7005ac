/-
  That the evaluator is right: new memory.
-/
import Derived.Test.YtjldbkicpbchkaaGreatEvS
namespace Go.Proofs.YtjldbkicpbchkaaGreat.Ev
open Go Go.RowKit

def Phi.bind (φ : Phi) (b : Nat) (l : Loc) : Phi := fun k => if k = b then some l else φ k

theorem Phi.le_bind {φ : Phi} {b : Nat} (h : φ b = none) (l : Loc) : φ.le (φ.bind b l) := fun k x hk => by
  unfold Phi.bind
  split
  · rename_i e; subst e; rw [h] at hk; cases hk
  · exact hk

@[simp] theorem Phi.bind_self (φ : Phi) (b : Nat) (l : Loc) : φ.bind b l b = some l := by simp [Phi.bind]

theorem OR.lt {φ : Phi} {B : Nat} {w : World} {o : AObj} {l : Loc} (h : OR φ B w o l) (hd : o ≠ .dead) : l.c < w.heap.size := by
  cases o with
  | dead => exact absurd rfl hd
  | cells cs ty ro sh kin => obtain ⟨xs, lo, hi, hh, _⟩ := h; exact (Array.getElem?_eq_some_iff.1 hh).1
  | map es => obtain ⟨_, xs, c, hh, _⟩ := h; exact (Array.getElem?_eq_some_iff.1 hh).1

theorem OR.mono {φ ψ : Phi} {B : Nat} {w w' : World} {o : AObj} {l : Loc} (h : OR φ B w o l) (hφ : φ.le ψ) (hw : o ≠ .dead → w'.heap[l.c]? = w.heap[l.c]?) : OR ψ B w' o l := by
  cases o with
  | dead => trivial
  | cells cs ty ro sh kin =>
    obtain ⟨xs, lo, hi, hh, h1, h2, h3, h4, h5⟩ := h
    exact ⟨xs, lo, hi, by rw [hw (by simp)]; exact hh, h1, h2, fun i c hc => let ⟨v, hv, hr⟩ := h3 i c hc; ⟨v, hv, hr.mono hφ⟩, h4, h5⟩
  | map es =>
    obtain ⟨h0, xs, c, hh, h1, h2⟩ := h
    exact ⟨h0, xs, c, by rw [hw (by simp)]; exact hh, h1.mono hφ, h2.mono hφ⟩

/-- A block that nobody leads to yet. -/
theorem Rel.ghost {W : World} {φ : Phi} {h : AHeap} {w : World} (R : Rel W φ h w) (o : AObj) (hk : ∀ k ∈ o.kin, k < h.n ∧ ∀ o', h.get k = some o' → o'.still = true) : Rel W φ (h.push o) w := by
  have hn : ∀ b l, φ b = some l → b ≠ h.n := fun b l hb => Nat.ne_of_lt (R.dom b l hb)
  refine ⟨R.below, fun b l hb => Nat.lt_succ_of_lt (R.dom b l hb), fun b hb => ?_, fun b l o' hb ho => ?_, ?_, ?_⟩
  · simp at hb
    rw [AHeap.get_push_ne h o (by omega)]
    exact R.wf b (by omega)
  · rw [AHeap.get_push_ne h o (hn b l hb).symm] at ho
    exact R.obj b l o' hb ho
  · intro b o1 k h1 hkin
    rw [AHeap.get_push] at h1
    split at h1
    · simp at h1
      subst h1
      obtain ⟨hlt, hst⟩ := hk k hkin
      refine ⟨Nat.lt_succ_of_lt hlt, fun o2 h2 => ?_⟩
      rw [AHeap.get_push_ne h o (by omega)] at h2
      exact hst o2 h2
    · obtain ⟨hlt, hst⟩ := R.kin b o1 k h1 hkin
      refine ⟨Nat.lt_succ_of_lt hlt, fun o2 h2 => ?_⟩
      rw [AHeap.get_push_ne h o (by omega)] at h2
      exact hst o2 h2
  · intro b b' l l' o1 o2 hne hb hb' h1 h2
    rw [AHeap.get_push_ne h o (hn b l hb).symm] at h1
    rw [AHeap.get_push_ne h o (hn b' l' hb').symm] at h2
    exact R.apart b b' l l' o1 o2 hne hb hb' h1 h2

/-- The world has one block more, and nothing else has turned. -/
structure OneNew (w w' : World) : Prop where
  below : Below w.heap.size w w'
  size : w'.heap.size = w.heap.size + 1

theorem OneNew.alloc (w : World) (o : Obj) : OneNew w (w.alloc o) := ⟨(Below.refl _ w).alloc (Nat.le_refl _) o, by simp⟩

/-- The new block is led to. -/
theorem Rel.bind {W : World} {φ : Phi} {h : AHeap} {w w' : World} (R : Rel W φ h w) {b : Nat} {o : AObj} (hb : φ b = none) (ho : h.get b = some o) (hbn : b < h.n) (hd : o ≠ .dead) (hN : OneNew w w')
    {l : Loc} (hlc : l.c = w.heap.size) (hor : OR (φ.bind b l) W.heap.size w' o l) : Rel W (φ.bind b l) h w' := by
  have hB : W.heap.size ≤ w.heap.size := R.below.size
  have hle := Phi.le_bind hb l
  have hold : ∀ k x, k ≠ b → φ.bind b l k = some x → φ k = some x := fun k x hk hx => by simpa [Phi.bind, hk] using hx
  have hlt : ∀ k x o', φ k = some x → h.get k = some o' → o' ≠ .dead → x.c < w.heap.size := fun k x o' hk hg hd => (R.obj k x o' hk hg).lt hd
  refine ⟨R.below.trans (hN.below.mono hB), fun k x hx => ?_, R.wf, fun k x o' hx hg => ?_, R.kin, ?_⟩
  · by_cases hk : k = b
    · subst hk; exact hbn
    · exact R.dom k x (hold k x hk hx)
  · by_cases hk : k = b
    · subst hk
      simp at hx
      subst hx
      rw [ho] at hg
      simp at hg
      subst hg
      exact hor
    · have hx' := hold k x hk hx
      refine (R.obj k x o' hx' hg).mono hle fun hd' => ?_
      exact hN.below.block _ (hlt k x o' hx' hg hd')
  · intro k k' x x' o1 o2 hne hx hx' h1 h2 d1 d2 hc
    by_cases hk : k = b
    · subst hk
      have hx2 := hold k' x' (Ne.symm hne) hx'
      have := hlt k' x' o2 hx2 h2 d2
      simp at hx
      subst hx
      omega
    · by_cases hk' : k' = b
      · subst hk'
        have hx2 := hold k x hk hx
        have := hlt k x o1 hx2 h1 d1
        simp at hx'
        subst hx'
        omega
      · exact R.apart k k' x x' o1 o2 hne (hold k x hk hx) (hold k' x' hk' hx') h1 h2 d1 d2 hc

/-- What is to be shown of an operation that makes memory: the new block holds what is said, under whatever name it gets. -/
def NOk (P : Program) (φ : Phi) (a : Act) (w : World) (o : Oper) (ob : AObj) (mk : Nat → AV) : Prop :=
  ob.kin = [] ∧ ob ≠ .dead ∧ ∃ v' w' l, (execOp a.eval o).run P w = .ok (.value v') w' ∧ OneNew w w' ∧ l.c = w.heap.size ∧
    ∀ (ψ : Phi) (b B : Nat), φ.le ψ → ψ b = some l → B ≤ w.heap.size → OR ψ B w' ob l ∧ RV ψ (mk b) v'

/-- A row of cells that was just laid. -/
theorem OR_new {ψ : Phi} {B : Nat} {w : World} {cs : List AV} {xs : Array Value} {ty : TypeId} (hB : B ≤ w.heap.size) (hr : RVs ψ cs xs.toList) (sh : Bool) :
    OR ψ B (w.alloc (.cells xs ty)) (.cells cs ty false sh []) ⟨w.heap.size, 0, xs.size⟩ := by
  have hl := hr.length
  simp at hl
  refine ⟨xs, 0, 0, ?_, by simp, by simp [hl], fun i c hc => ?_, fun _ => ⟨hB, fun i _ => by simp⟩, fun _ => ⟨hB, fun i _ _ => by simp⟩⟩
  · show (w.heap.push _)[w.heap.size]? = _
    simp
  · obtain ⟨v, hv, hrv⟩ := hr.get hc
    exact ⟨v, by simpa using hv, hrv⟩

section
variable {P : Program} {φ : Phi} {e : Env} {a : Act} {w : World}

theorem nok_row {o : Oper} {cs : List AV} {xs : Array Value} {ty : TypeId} {v' : Value} {mk : Nat → AV} (hr : RVs φ cs xs.toList) (hrun : (execOp a.eval o).run P w = .ok (.value v') (w.alloc (.cells xs ty)))
    (hmk : ∀ (ψ : Phi) (b : Nat), φ.le ψ → ψ b = some ⟨w.heap.size, 0, xs.size⟩ → RV ψ (mk b) v') : NOk P φ a w o (.cells cs ty false true []) mk :=
  ⟨rfl, by simp, v', _, ⟨w.heap.size, 0, xs.size⟩, hrun, OneNew.alloc w _, rfl, fun ψ b B hle hb hB => ⟨OR_new hB (hr.mono hle) true, hmk ψ b hle hb⟩⟩

theorem repCells_length (zs : List AV) : ∀ n, (repCells zs n).length = n * zs.length
  | 0 => by simp [repCells]
  | n + 1 => by simp [repCells, repCells_length zs n, Nat.add_mul, Nat.add_comm]

/-- A zero value again and again, as the model lays it. -/
theorem RVs_rep {zs : List AV} {z : Array Value} (hz : RVs φ zs z.toList) (n : Nat) : RVs φ (repCells zs n) ((Array.range (n * z.size)).map (z[· % z.size]!)).toList := by
  have hl := hz.length
  simp at hl
  refine RVs.of_get (by simp [repCells_length, hl]) fun i x hx => ?_
  have hi : i < n * z.size := by
    have := (List.getElem?_eq_some_iff.1 hx).1
    rwa [repCells_length, ← hl] at this
  have hs : 0 < z.size := Nat.pos_of_ne_zero fun h0 => by rw [h0] at hi; simp at hi
  have key : ∀ (n i : Nat) (x : AV), (repCells zs n)[i]? = some x → zs[i % zs.length]? = some x := by
    intro n
    induction n with
    | zero => intro i x h; simp [repCells] at h
    | succ n ih =>
      intro i x h
      simp only [repCells] at h
      by_cases hlt : i < zs.length
      · rw [List.getElem?_append_left hlt] at h
        rwa [Nat.mod_eq_of_lt hlt]
      · rw [List.getElem?_append_right (by omega)] at h
        have := ih (i - zs.length) x h
        rwa [Nat.mod_eq_sub_mod (by omega)]
  obtain ⟨v, hv, hr⟩ := hz.get (key n i x hx)
  refine ⟨v, ?_, hr⟩
  rw [← hl] at hv
  have hm : i % z.size < z.size := Nat.mod_lt _ hs
  simp [hi, hm]
  simpa [hm] using hv
end

end Go.Proofs.YtjldbkicpbchkaaGreat.Ev
