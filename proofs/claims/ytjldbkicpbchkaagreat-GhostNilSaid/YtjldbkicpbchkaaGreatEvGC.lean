/-
  GhostNil: OF NOTHING NOTHING MAY BE. The statement, for every setup, version and event.
-/
import Derived.Test.YtjldbkicpbchkaaGreatEvGB
import Derived.Test.YtjldbkicpbchkaaGreatRows
import Derived.WalkKit
import Derived.ProofKit
import Derived.OpenShut
import Derived.ShutString
import Derived.ChangeOld
import Derived.Below
namespace Go.Proofs.YtjldbkicpbchkaaGreat.Ev
open Go Go.RowKit Go.ChangeShapes Go.WideShapes Go.ChangeAt
set_option maxRecDepth 100000

/-- A cell of a plain kind. -/
def plainCell (P : Program) (t : TypeId) : Bool :=
  match P.underlying t with
  | some .bool | some (.int _) | some .string | some (.slice _) => true
  | _ => false

/-- Values of plain kinds can be taken into the evaluator; of slices nothing is known but where they lie. -/
theorem open_cells {P : Program} {W : World} {base : Nat} : ∀ (ts : List TypeId) (vs : List Value), ts.all (plainCell P) = true → vs.length = ts.length →
    (∀ (i : Nat) (v : Value) (u : TypeId), vs[i]? = some v → ts[i]? = some u → Cell.okWide P W .any base u v) → ∀ (n : Nat) (φ : Phi), (∀ b l, φ b = some l → b < n) →
    ∃ (m : Nat) (ψ : Phi) (xs : List AV), φ.le ψ ∧ (∀ b l, ψ b = some l → b < m) ∧ RVs ψ xs vs ∧ allOne xs = true ∧ xs.length = ts.length
  | [], vs, _, hl, _, n, φ, hφ => ⟨n, φ, [], Phi.le_refl φ, hφ, by simp only [RVs]; exact List.length_eq_zero_iff.1 (by simpa using hl), rfl, rfl⟩
  | t :: ts, [], _, hl, _, _, _, _ => by simp at hl
  | t :: ts, v :: vs, ht, hl, hv, n, φ, hφ => by
    simp only [List.all_cons, Bool.and_eq_true] at ht
    have h0 := hv 0 v t rfl rfl
    have hr : ∀ (i : Nat) (v : Value) (u : TypeId), vs[i]? = some v → ts[i]? = some u → Cell.okWide P W .any base u v := fun i v u h1 h2 => hv (i + 1) v u h1 h2
    have hone : ∃ (m : Nat) (ψ : Phi) (x : AV), φ.le ψ ∧ (∀ b l, ψ b = some l → b < m) ∧ RV ψ x v ∧ x.one = true := by
      have h1 := ht.1
      unfold plainCell at h1
      unfold Cell.okWide at h0
      split at h1 <;> try cases h1
      · rename_i hu
        rw [hu] at h0
        cases v <;> simp [Cell.ok, hu] at h0
        rename_i b
        exact ⟨n, φ, .bool b, Phi.le_refl φ, hφ, by simp only [RV], rfl⟩
      · rename_i k hu
        rw [hu] at h0
        cases v <;> simp [Cell.ok, hu] at h0
        rename_i k' z
        exact ⟨n, φ, .int k' z, Phi.le_refl φ, hφ, by simp only [RV], rfl⟩
      · rename_i hu
        rw [hu] at h0
        cases v <;> simp [Cell.ok, hu] at h0
        exact ⟨n, φ, .str _, Phi.le_refl φ, hφ, by simp only [RV]; exact ⟨_, rfl, rfl⟩, rfl⟩
      · rename_i e hu
        rw [hu] at h0
        cases v <;> simp only [Cell.ok, hu] at h0 <;> try exact h0.elim
        rename_i a len cap
        cases a with
        | none =>
          cases len <;> cases cap <;> try exact h0.elim
          exact ⟨n, φ, .nils, Phi.le_refl φ, hφ, by simp only [RV], rfl⟩
        | some a =>
          have h0' : len ≤ cap ∧ (cap : Int) ≤ IntKind.i64.max ∧ W.has P .any base a e cap := by
            cases len <;> cases cap <;> exact h0
          obtain ⟨h2, _, _, h3, _⟩ := h0'
          have ha : a = ⟨a.block, a.off, none⟩ := by cases a; simp at h3; simp [h3]
          refine ⟨n + 1, fun b => if b = n then some ⟨a.block, a.off, cap⟩ else φ b, .sl n 0 len cap 1 true, ?_, ?_, ?_, rfl⟩
          · intro b l hb
            have := hφ b l hb
            have hne : b ≠ n := by omega
            simp only [hne, if_false]
            exact hb
          · intro b l hb
            by_cases hbn : b = n
            · omega
            · simp only [hbn, if_false] at hb
              have := hφ b l hb
              omega
          · simp only [RV]
            refine ⟨⟨a.block, a.off, cap⟩, a.off, cap, by simp, by rw [← ha], .inl (by simp), Nat.le_refl _, fun _ => rfl, by simp, h2⟩
    obtain ⟨m, ψ, x, k1, k2, k3, k4⟩ := hone
    obtain ⟨m', ψ', xs, j1, j2, j3, j4, j5⟩ := open_cells ts vs ht.2 (by simpa using hl) hr m ψ k2
    refine ⟨m', ψ', x :: xs, Phi.le_trans k1 j1, j2, ?_, ?_, ?_⟩
    · simp only [RVs]; exact ⟨v, vs, rfl, k3.mono j1, j3⟩
    · simp only [allOne, k4, j4, Bool.and_true]
    · simp [j5]

/-- Nothing is known of any block. -/
theorem Rel.blind (W : World) (n : Nat) (φ : Phi) (h : ∀ b l, φ b = some l → b < n) : Rel W φ ⟨n, .lf⟩ W :=
  ⟨Below.refl _ W, h, fun _ _ => rfl, fun _ _ _ _ h => (by simp [AHeap.get, HT.get] at h), fun _ _ _ h => (by simp [AHeap.get, HT.get] at h), fun _ _ _ _ _ _ _ _ _ h => (by simp [AHeap.get, HT.get] at h)⟩

/-- A struct that came in: its cells. -/
theorem open_struct {P : Program} {W : World} {base : Nat} {t : TypeId} {ts : List TypeId} {fs : Array Field} {v : Value} (ht : P.underlying t = some (.struct fs)) (hts : P.cellTypes P.depth t = some ts) (hc : P.cellsOf t = ts.length)
    (hv : Value.okWide P W .any base t v) : ∃ vs : List Value, v = .agg vs.toArray ∧ vs.length = ts.length ∧ ∀ (i : Nat) (v : Value) (u : TypeId), vs[i]? = some v → ts[i]? = some u → Cell.okWide P W .any base u v := by
  simp only [Value.okWide, ht] at hv
  obtain ⟨cs, rfl, h2, ts', h3, _, h5⟩ := hv
  rw [hts] at h3
  cases h3
  refine ⟨cs.toList, by simp, by simpa [hc] using h2, fun i v u h6 h7 => ?_⟩
  obtain ⟨u', h8, h9⟩ := h5 i v (by simpa using h6)
  have hi : i < ts.length := (List.getElem?_eq_some_iff.1 h7).1
  rw [Nat.mod_eq_of_lt hi, h7] at h8
  cases h8
  exact h9

theorem own : ownKnob Tryz.prog.godebug = none := by kernel_rfl
theorem laidOut : laidOutB Tryz.prog = true := by kernel_rfl

theorem walk (v0 v1 v2 : Value) (W : World) {base : Nat} (h0 : Value.okWide Tryz.prog W .any base 23 v0) (h1 : Value.okWide Tryz.prog W .any base 3 v1) (h2 : Value.okWide Tryz.prog W .any base 31 v2) :
    Calls Tryz.prog 3 #[v0, v1, v2] W fun e w' => e = .returned (.bool true) ∧ Below W.heap.size W w' := by
  obtain ⟨s0, rfl, l0, o0⟩ := open_struct Tryz.underlying23 (ts := [3, 3, 3]) (by kernel_rfl) (by kernel_rfl) h0
  obtain ⟨v, rfl⟩ := okWide_int Tryz.underlying3 h1
  obtain ⟨s2, rfl, l2, o2⟩ := open_struct Tryz.underlying31 (ts := [3, 3, 3, 4, 24, 24, 9, 27, 24, 24]) (by kernel_rfl) (by kernel_rfl) h2
  match s0, l0 with
  | [a, b, c], _ =>
    obtain ⟨p, rfl⟩ := okWide_int (v := a) Tryz.underlying3 (by have := o0 0 a 3 rfl rfl; simpa only [Value.okWide, Tryz.underlying3] using this)
    obtain ⟨w, rfl⟩ := okWide_int (v := b) Tryz.underlying3 (by have := o0 1 b 3 rfl rfl; simpa only [Value.okWide, Tryz.underlying3] using this)
    obtain ⟨l, rfl⟩ := okWide_int (v := c) Tryz.underlying3 (by have := o0 2 c 3 rfl rfl; simpa only [Value.okWide, Tryz.underlying3] using this)
    obtain ⟨m, ψ, xs, k1, k2, k3, k4, k5⟩ := open_cells [3, 3, 3, 4, 24, 24, 9, 27, 24, 24] s2 (by kernel_rfl) l2 o2 0 (fun _ => none) (fun _ _ h => by cases h)
    refine law_ok mixed sysB_ok cf3 (args' := [.agg #[.int .i64 p, .int .i64 w, .int .i64 l], .int .i64 v, .agg s2.toArray]) (Rel.blind W m ψ k2) ?_ (law_ca _ p w l v xs k5 k4)
    simp only [RVs]
    refine ⟨_, _, rfl, ?_, _, _, rfl, ?_, _, _, rfl, ?_, rfl⟩
    · simp only [RV]; exact ⟨_, rfl, by simp [RVs, RV]⟩
    · simp only [RV]
    · simp only [RV]; exact ⟨_, rfl, by simpa using k3⟩

theorem lifted (os : _root_.Go.Os) (started : os.Started) (H : Type) (enc : TypeId × Value → H) :
    ReturnsInHanded {} Tryz.checked os 3 .any (Rows.ghostNilSpec.pre6 enc Tryz.prog Tryz.f3 Rows.ghostNilRow.domain false) (Rows.ghostNilSpec.post enc Tryz.prog Tryz.f3 false true false false) := by
  refine returnsInHanded_of_change (C := Tryz.checked) own started (by kernel_rfl) Tryz.func3
    (ChangeSpec.witness6 (enc := enc) (C := Tryz.checked) false ⟨#[], #[.agg #[.int .i64 0, .int .i64 0, .int .i64 0], .int .i64 0, .agg #[.int .i64 0, .int .i64 0, .int .i64 0, .bool false, .slice none 0 0, .slice none 0 0, .string ⟨#[]⟩, .int .i64 0, .slice none 0 0, .slice none 0 0]], []⟩ 8 (by kernel_rfl) (by kernel_rfl) (by kernel_rfl) (by kernel_rfl)) ?_
  intro W base args ds gs before hval0 hW hcnd _
  have hval : ∀ (j : Nat) t v, Tryz.f3.params[j]? = some t → args[j]? = some v → Value.okWide Tryz.prog W .any base t v := hval0
  have hW' := hW
  obtain ⟨p, q, hA0, hV, rfl, hfz, hnd⟩ := hW
  have hA : DataW.TrodAll enc Tryz.prog W 0 (fun _ => true) true Tryz.f3.params.toList args.toList ds p := hA0
  rw [Tryz.params3] at hA hval
  obtain ⟨v0, vs0, d0, ds0, p0, q0, hargs, rfl, rfl, h0, r0⟩ := trodAll_cons hA
  obtain ⟨v1, vs1, d1, ds1, p1, q1, rfl, rfl, rfl, h1, r1⟩ := trodAll_cons r0
  obtain ⟨v2, vs2, d2, ds2, p2, q2, rfl, rfl, rfl, h2, r2⟩ := trodAll_cons r1
  obtain ⟨rfl, rfl, rfl⟩ := trodAll_nil r2
  obtain rfl : args = #[v0, v1, v2] := by cases args; simp_all
  obtain ⟨rfl, rfl⟩ := trodVars_none hV
  have lt0 : ∀ x ∈ p0, x.block < W.heap.size := by obtain ⟨m, hm⟩ := h0; exact DataW.trod_lt m _ _ _ hm
  have lt1 : ∀ x ∈ p1, x.block < W.heap.size := by obtain ⟨m, hm⟩ := h1; exact DataW.trod_lt m _ _ _ hm
  have lt2 : ∀ x ∈ p2, x.block < W.heap.size := by obtain ⟨m, hm⟩ := h2; exact DataW.trod_lt m _ _ _ hm
  have w0 := hval 0 23 v0 rfl rfl
  have w1 := hval 1 3 v1 rfl rfl
  have w2 := hval 2 31 v2 rfl rfl
  clear hA0 hval0
  refine (walk v0 v1 v2 W w0 w1 w2).mono fun e W' ⟨he, bel⟩ => ?_
  subst he
  exact ⟨_, rfl, _, _, _, [], _, [], hW', trodAll_mk1 (shut_bool Tryz.underlying4 _), (trodAll_cons_mk (Below.trod laidOut (by kernel_rfl) (of_decide_eq_true (by kernel_rfl)) h0 bel lt0) (trodAll_cons_mk (Below.trod laidOut (by kernel_rfl) (of_decide_eq_true (by kernel_rfl)) h1 bel lt1) (trodAll_cons_mk (Below.trod laidOut (by kernel_rfl) (of_decide_eq_true (by kernel_rfl)) h2 bel lt2) trodAll_mk0))), rfl, bel.frame _, fun h => by cases h⟩

theorem over : Rows.ghostNilRow.holds Tryz.pinned (OpenSpec.ofChange Rows.ghostNilSpec) :=
  OpenClaim.holds_of_wide 3 Tryz.f3 rfl rfl rfl rfl rfl rfl rfl ⟨rfl, rfl, rfl, rfl, rfl⟩ rfl rfl rfl rfl rfl (by kernel_rfl) Tryz.func3 (by kernel_rfl)
    (of_decide_eq_true (by kernel_rfl)) (by unfold Func.isWrapper; first | (rw [if_pos (by decide +kernel)]; kernel_rfl) | (rw [if_neg (by decide +kernel)]; exact ⟨rfl, rfl⟩))
    (fun os started H enc _ => lifted os started H enc)
end Go.Proofs.YtjldbkicpbchkaaGreat.Ev

namespace Go.Proofs.YtjldbkicpbchkaaGreat
/-- THE STATEMENT. -/
theorem ghostNil_holds : Rows.GhostNilSaid := Ev.over
#print axioms ghostNil_holds
end Go.Proofs.YtjldbkicpbchkaaGreat
